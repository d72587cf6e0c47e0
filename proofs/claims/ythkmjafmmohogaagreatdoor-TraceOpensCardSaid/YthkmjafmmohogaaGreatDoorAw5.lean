/- Runs at constants: schema.needs. -/
import Derived.Test.YthkmjafmmohogaaGreatDoorAw4
import Derived.Laws.EntriesVeiled
namespace Go.Proofs.YthkmjafmmohogaaGreatDoor
open Go Go.RowKit
set_option linter.unusedVariables false
set_option maxHeartbeats 1000000
set_option maxRecDepth 100000

/-- A schema of one message. -/
def schV (bm cm : Nat) (ms : Value) : Array Value := #[.slice (some ⟨bm, 0, none⟩) 1 cm, .slice none 0 0, ms]
def fdVal (num : Int) (nm : ByteArray) (kind : Int) (rep : Bool) (typ : Int) : Array Value := #[.int .i64 num, .string nm, .int .i64 kind, .bool rep, .int .i64 typ]
/-- The message's cells: its name; no field, or one number. -/
def MsgAt (bm : Nat) (nm : ByteArray) (w : World) : Prop := ∃ fa fc, cellsAt bm 0 [.string nm, .slice fa 0 fc] w
def MsgAt1 (bm : Nat) (nm : ByteArray) (num : Int) (fn : ByteArray) (kind : Int) (w : World) : Prop := ∃ bf fc, cellsAt bm 0 [.string nm, .slice (some ⟨bf, 0, none⟩) 1 fc] w ∧ cellsAt bf 0 (fdVal num fn kind false 0).toList w
theorem cells_below {b off : Nat} {cs : List Value} {w w1 : World} (h : cellsAt b off cs w) (hb : Below w.heap.size w w1) : cellsAt b off cs w1 := h.stab (S := fun _ => False) (fun _ x => x) w1 (Ext.of_below hb)
theorem MsgAt.below {bm : Nat} {nm : ByteArray} {w w1 : World} (h : MsgAt bm nm w) (hb : Below w.heap.size w w1) : MsgAt bm nm w1 := by
  obtain ⟨fa, fc, h⟩ := h
  exact ⟨fa, fc, cells_below h hb⟩
theorem MsgAt1.below {bm : Nat} {nm : ByteArray} {num : Int} {fn : ByteArray} {kind : Int} {w w1 : World} (h : MsgAt1 bm nm num fn kind w) (hb : Below w.heap.size w w1) : MsgAt1 bm nm num fn kind w1 := by
  obtain ⟨bf, fc, h1, h2⟩ := h
  exact ⟨bf, fc, cells_below h1 hb, cells_below h2 hb⟩

theorem needs1_c (bm cm : Nat) (nm : ByteArray) (ms : Value) (bs bt bv br : Nat) (w : World) (h : MsgAt bm nm w) (hs : w.cell? ⟨bs, 0, none⟩ = some (.slice (some ⟨bm, 0, none⟩) 1 cm)) :
    Calls Tryz.prog 120 #[.int .i64 0, .pointer (some ⟨bs, 0, none⟩), .pointer (some ⟨bt, 0, none⟩), .pointer (some ⟨bv, 0, none⟩), .pointer (some ⟨br, 0, none⟩)] w (Says (.bool false) w) := by
  obtain ⟨fa, fc, h⟩ := h
  have q1 : w.cell? ⟨bm, 1, none⟩ = some (.slice fa 0 fc) := h 1 _ rfl
  clear h
  go_enter Tryz.func120, Tryz.ntmps120
  go_wp2
  refine wp_loop_rounds 1 ?_
  rw [rounds_succ]
  go_wp2_with fail
  go_ret
  exact ⟨rfl, Below.refl _ _⟩
theorem needs1_one (bm cm : Nat) (nm : ByteArray) (num : Int) (fn : ByteArray) (kind : Int) (hk : kind ≠ 10) (ms : Value) (bs bt bv br : Nat) (w : World) (h : MsgAt1 bm nm num fn kind w) (hs : w.cell? ⟨bs, 0, none⟩ = some (.slice (some ⟨bm, 0, none⟩) 1 cm)) :
    Calls Tryz.prog 120 #[.int .i64 0, .pointer (some ⟨bs, 0, none⟩), .pointer (some ⟨bt, 0, none⟩), .pointer (some ⟨bv, 0, none⟩), .pointer (some ⟨br, 0, none⟩)] w (Says (.bool false) w) := by
  obtain ⟨bf, fc, h, h2⟩ := h
  have q1 : w.cell? ⟨bm, 1, none⟩ = some (.slice (some ⟨bf, 0, none⟩) 1 fc) := h 1 _ rfl
  have p0 : w.cell? ⟨bf, 0, none⟩ = some (.int .i64 num) := h2 0 _ rfl
  have p1 : w.cell? ⟨bf, 1, none⟩ = some (.string fn) := h2 1 _ rfl
  have p2 : w.cell? ⟨bf, 2, none⟩ = some (.int .i64 kind) := h2 2 _ rfl
  have p3 : w.cell? ⟨bf, 3, none⟩ = some (.bool false) := h2 3 _ rfl
  have p4 : w.cell? ⟨bf, 4, none⟩ = some (.int .i64 0) := h2 4 _ rfl
  have hk' : (kind == 10) = false := by simp; omega
  clear h h2
  go_enter Tryz.func120, Tryz.ntmps120
  go_wp2
  refine wp_loop_rounds 2 ?_
  rw [rounds_succ]
  go_wp2_with fail
  rw [rounds_succ]
  go_wp2_with fail
  go_ret
  exact ⟨rfl, balloc _ _⟩

theorem info_bool : (Tryz.prog.info? 4).map (fun i => (i.zero, i.size, i.bytes)) = some (some (.bool false), 1, 1) := by kernel_rfl
theorem make_bool (w : World) : (Instr.makeSlice 237 (.int .i64 1) (.int .i64 1)).run Tryz.prog w = .ok (.slice (some ⟨w.heap.size, 0, none⟩) 1 1) (w.alloc (.cells #[.bool false] 4)) := by
  obtain ⟨i, hi, hz, hs, hb⟩ := info_parts info_bool
  have := run_make (P := Tryz.prog) (w := w) 237 4 i _ Tryz.underlying237 hi hz .i64 .i64 1 1 (by decide) (by decide) (by rw [hb]; decide) (by decide)
  rw [hs, show madeCells (Value.bool false).cells (Int.toNat 1 * 1) = #[.bool false] from by kernel_rfl] at this
  exact this
theorem needs_any (bm cm : Nat) (ms : Value) (w : World) (hms : ∃ a n c, ms = .slice a n c)
    (HC : ∀ (bs bt bv br : Nat) (w' : World), Below w.heap.size w w' → w'.cell? ⟨bs, 0, none⟩ = some (.slice (some ⟨bm, 0, none⟩) 1 cm) → Calls Tryz.prog 120 #[.int .i64 0, .pointer (some ⟨bs, 0, none⟩), .pointer (some ⟨bt, 0, none⟩), .pointer (some ⟨bv, 0, none⟩), .pointer (some ⟨br, 0, none⟩)] w' (Says (.bool false) w')) :
    Calls Tryz.prog 68 #[.agg (schV bm cm ms), .int .i64 0] w (Says (.bool false) w) := by
  obtain ⟨ma, mn, mc, rfl⟩ := hms
  have HH := Lib.hid HC
  clear HC
  have hmf : ∀ (fn : Fn) (first cap : Array Value) (w : World), (Instr.makeFunc fn first cap).run Tryz.prog w = .ok (.func fn first cap) w := fun _ _ _ _ => rfl
  have hmk := make_bool
  unfold schV
  obtain ⟨W4, hW4⟩ : ∃ W4, W4 = ((((w.alloc (.cells #[.slice (some ⟨bm, 0, none⟩) 1 cm, .slice none 0 0, .slice ma mn mc] 33)).alloc (.cells #[.int .i64 0] 3)).alloc (.cells #[.bool false] 4)).alloc (.cells #[.slice (some ⟨w.heap.size + 1 + 1, 0, none⟩) 1 1] 237)) := ⟨_, rfl⟩
  have hz4 : W4.heap.size = w.heap.size + 1 + 1 + 1 + 1 := by rw [hW4]; simp
  have hb4 : Below w.heap.size w W4 := by
    rw [hW4]
    exact (((balloc w _).alloc (by simp) _).alloc (by simp; omega) _).alloc (by simp; omega) _
  have hblk : W4.heap[w.heap.size]? = some (.cells #[.slice (some ⟨bm, 0, none⟩) 1 cm, .slice none 0 0, .slice ma mn mc] 33) := by
    rw [hW4]
    exact blk_alloc_old (blk_alloc_old (blk_alloc_old (blk_alloc w _) _) _) _
  have hblk1 : W4.heap[w.heap.size + 1]? = some (.cells #[.int .i64 0] 3) := by
    rw [hW4]
    exact blk_alloc_old (blk_alloc_old (blk_alloc' (by simp) _) _) _
  have hn5 := blk_alloc' (w := W4) (g := w.heap.size + 1 + 1 + 1 + 1) hz4.symm (.cells #[.nilFunc] 178)
  have hc5 := blk_cell hn5 0
  have hf5 := blk_frozen hn5 0
  obtain ⟨fv, hfv⟩ : ∃ fv, fv = Value.func (.func 120) #[] #[.pointer (some ⟨w.heap.size, 0, none⟩), .pointer (some ⟨w.heap.size + 1, 0, none⟩), .pointer (some ⟨w.heap.size + 1 + 1 + 1, 0, none⟩), .pointer (some ⟨w.heap.size + 1 + 1 + 1 + 1, 0, none⟩)] := ⟨_, rfl⟩
  obtain ⟨W5, hW5⟩ : ∃ W5, W5 = W4.alloc (.cells #[fv] 178) := ⟨_, rfl⟩
  have hb5 : Below w.heap.size w W5 := by rw [hW5]; exact hb4.alloc (by omega) _
  have k5 : W5.cell? ⟨w.heap.size + 1 + 1 + 1 + 1, 0, none⟩ = some fv := by rw [hW5]; exact blk_cell (blk_alloc' (w := W4) (g := w.heap.size + 1 + 1 + 1 + 1) hz4.symm _) 0
  have k0 : W5.cell? ⟨w.heap.size, 0, none⟩ = some (.slice (some ⟨bm, 0, none⟩) 1 cm) := by rw [hW5]; exact blk_cell (blk_alloc_old hblk _) 0
  have k1 : W5.cell? ⟨w.heap.size + 1, 0, none⟩ = some (.int .i64 0) := by rw [hW5]; exact blk_cell (blk_alloc_old hblk1 _) 0
  rw [hfv] at hW5 k5
  rw [hW5] at k5 k1
  have HK := Lib.hid k0
  have HB := Lib.hid hb5
  rw [hW5] at HK HB
  rw [hW4] at hc5 hf5 k5 k1 HK HB
  simp only [List.getElem?_toArray, List.getElem?_cons_zero] at hc5
  clear hz4 hb4 hblk hblk1 hn5 hb5 k0 hW4 hfv hW5
  go_enter Tryz.func68, Tryz.ntmps68
  go_wp2_with (go_at_call 120; refine Halt.out ?_)
  refine Halt.mk ?_
  refine (HH.out _ _ _ _ _ HB.out HK.out).mono ?_
  rintro e w1 ⟨rfl, hb1⟩
  go_wp2_with fail
  go_ret
  exact ⟨rfl, bto HB.out hb1 (Nat.le_refl _)⟩
end Go.Proofs.YthkmjafmmohogaaGreatDoor
