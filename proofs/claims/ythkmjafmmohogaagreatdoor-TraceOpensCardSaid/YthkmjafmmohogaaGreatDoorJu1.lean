/- Runs at constants: trace.Judge: a call is issued. -/
import Derived.Test.YthkmjafmmohogaaGreatDoorAw10
import Derived.Test.YthkmjafmmohogaaGreatDoorTr5
namespace Go.Proofs.YthkmjafmmohogaaGreatDoor
open Go Go.RowKit
open Go.Maps (Keyed)
set_option linter.unusedVariables false
set_option maxHeartbeats 1000000
set_option maxRecDepth 100000

theorem int_law : Keyed Tryz.prog 3 := Go.Maps.int_keyed Tryz.underlying3
theorem int_good1 : GoodKey Tryz.prog 3 (.int .i64 1) := ⟨_, Go.Maps.keyOf_int_mk Tryz.underlying3 (by decide)⟩
theorem key_good1 : GoodKey Tryz.prog 100 (.agg #[.int .i64 1, .int .u64 1]) := key_good (c := 1) (t := 1) (by omega) (by omega)
theorem zero_u64 (w : World) : (zeroValue 36).run Tryz.prog w = .ok (.int .u64 0) w := by kernel_rfl
theorem zero_call (w : World) : (zeroValue 256).run Tryz.prog w = .ok (.pointer none) w := by kernel_rfl

section
variable {P : Program} {k : TypeId} {b : Nat} {f : Value → Option Value} {ops : Array Oper} {o : Oper} {a : Act} {w : World} {K : Act → World → Prop} {Q : Exit → Act → World → Prop} {E : Prop}
theorem step_put (hg : o.guard = none) (m y v : Operand) (t : TypeId) (hop : o.op = Op.mapUpdate t m y v)
    {e : TypeId} (L : Keyed P k) (ht : P.underlying t = some (.map k e)) (hm : a.eval m = .map (some b)) (h : MapAt P k b f w) {x u : Value} (hx : a.eval y = x) (hv : a.eval v = u) (hkey : GoodKey P k x)
    (hK : ∀ w', MapAt P k b (upd f x u) w' → w.grownBy w' (some b) → K (a.put o.dst undef) w') : if Region.wanted o (yielded ops a.tmps) = true then Oper.wp P o a w K Q else E := by
  rw [if_pos (by simp [Region.wanted, hg])]
  obtain ⟨w', hrun, r1, r2⟩ := h.put L ht hkey u
  unfold Oper.wp
  simp [execOp, hop, hm, hx, hv, hrun, Result.andThen]
  exact hK w' r1 r2
theorem step_none (hd : o.dst = none) (h : if Region.wanted o (yielded ops a.tmps) = true then Oper.wp P o a w K Q else E) : if Region.wanted o (yielded ops a.tmps) = true then Oper.wp P o a w K Q else E := h
end

def jdg (bm cm : Nat) (ms : Value) (bc bl : Nat) : Array Value := #[.slice (some ⟨bm, 0, none⟩) 1 cm, .slice none 0 0, ms, .slice none 0 0, .map (some bc), .map (some bl)]
def ev1 : Array Value := #[.int .i64 1, .int .i64 1, .int .u64 1, .int .i64 1, .int .i64 0, .slice none 0 0]
def ev2 : Array Value := #[.int .i64 2, .int .i64 1, .int .u64 1, .int .i64 1, .int .i64 13, .slice none 0 0]
/-- A call's block. -/
def callB (p : Option Addr) : Array Value := #[.int .i64 1, .int .i64 1, .int .u64 1, .int .i64 1, .int .i64 0, .slice none 0 0, .pointer p, .pointer none]
/-- The judge, ahead of all events. -/
def J0 (bm cm : Nat) (ms : Value) (bj bc bl : Nat) (w : World) : Prop :=
  Sch1 bm cm ms w ∧ w.heap[bj]? = some (.cells (jdg bm cm ms bc bl) 185) ∧ MapAt Tryz.prog 100 bc (fun _ => none) w ∧ MapAt Tryz.prog 3 bl (fun _ => none) w ∧ bc ≠ bl
/-- The judge, behind the call. -/
def J1 (bm cm : Nat) (ms : Value) (bj bc bl bk : Nat) (p : Option Addr) (w : World) : Prop :=
  Sch1 bm cm ms w ∧ w.heap[bj]? = some (.cells (jdg bm cm ms bc bl) 185) ∧ (∃ f, MapAt Tryz.prog 100 bc f w ∧ f (.agg #[.int .i64 1, .int .u64 1]) = some (.pointer (some ⟨bk, 0, none⟩))) ∧ w.heap[bk]? = some (.cells (callB p) 259)

theorem MapAt.nocell {w : World} {k : Nat} {kt : TypeId} {f : Value → Option Value} {P : Program} (hm : MapAt P kt k f w) (i : Nat) : w.cell? ⟨k, i, none⟩ = none := by
  obtain ⟨es, clock, hb, _⟩ := hm
  simp [World.cell?, hb]
theorem cells_ext {b off : Nat} {cs : List Value} {w w1 : World} {S : Nat → Prop} (h : cellsAt b off cs w) (he : Ext S w w1) (hS : ∀ k, S k → ∀ i, w.cell? ⟨k, i, none⟩ = none) : cellsAt b off cs w1 := by
  refine h.stab (S := S) (fun hn hb => ?_) w1 he
  cases cs with
  | nil => exact hn rfl
  | cons u cs => have := h 0 u rfl; rw [hS b hb] at this; simp at this
theorem Sch1.ext {bm cm : Nat} {ms : Value} {w w1 : World} {S : Nat → Prop} (h : Sch1 bm cm ms w) (he : Ext S w w1) (hS : ∀ k, S k → ∀ i, w.cell? ⟨k, i, none⟩ = none) : Sch1 bm cm ms w1 := by
  obtain ⟨gm, mc, fa, fc, rfl, h1, h2⟩ := h
  exact ⟨gm, mc, fa, fc, rfl, cells_ext h1 he hS, cells_ext h2 he hS⟩
theorem ne_map {w : World} {b k : Nat} {kt : TypeId} {f : Value → Option Value} {cs : Array Value} {t : TypeId} {P : Program} (h : w.heap[b]? = some (.cells cs t)) (hm : MapAt P kt k f w) : b ≠ k := by
  rintro rfl
  obtain ⟨es, clock, hb, _⟩ := hm
  rw [h] at hb
  simp at hb
def IssPost (bm cm : Nat) (ms : Value) (bj bc bl B : Nat) (w : World) (e : Ending) (w' : World) : Prop := e = .returned (.bool true) ∧ (∃ bk, w.heap.size ≤ bk ∧ J1 bm cm ms bj bc bl bk none w') ∧ Below B w w' ∧ Ext (fun k => k = bc ∨ k = bl) w w'
theorem issued_c (bm cm : Nat) (ms : Value) (bj bc bl B : Nat) (w : World) (h : J0 bm cm ms bj bc bl w) (hB : B ≤ w.heap.size) (hc : B ≤ bc) (hl : B ≤ bl) :
    Calls Tryz.prog 137 #[.pointer (some ⟨bj, 0, none⟩), .agg ev1] w (IssPost bm cm ms bj bc bl B w) := by
  obtain ⟨hS, hj, hmc, hml, hne⟩ := h
  have HS := Lib.hid hS
  have HJ := Lib.hid hj
  have HMC := Lib.hid hmc
  have HML := Lib.hid hml
  have HA := Lib.hid (balloc w (.cells ev1 95))
  have hjl : bj ≠ bl := ne_map hj hml
  have hjc : bj ≠ bc := ne_map hj hmc
  have hcl := hmc.lt
  have hll := hml.lt
  have hjlt := blk_lt hj
  obtain ⟨W, hW⟩ : ∃ W, W = w.alloc (.cells #[.int .i64 1, .int .i64 1, .int .u64 1, .int .i64 1, .int .i64 0, .slice none 0 0] 95) := ⟨_, rfl⟩
  have hj1 : W.heap[bj]? = some (.cells (jdg bm cm ms bc bl) 185) := by rw [hW]; exact blk_alloc_old hj _
  have j4 : W.cell? ⟨bj, 4, none⟩ = some (.map (some bc)) := blk_cell hj1 4
  have j5 : W.cell? ⟨bj, 5, none⟩ = some (.map (some bl)) := blk_cell hj1 5
  have hml1 : MapAt Tryz.prog 3 bl (fun _ => none) W := by rw [hW]; exact hml.below (balloc _ _)
  have lk := (hml1.look int_law Tryz.underlying183 int_good1 (zero_u64 W)).1
  have lk2 : (Instr.lookup 183 (.map (some bl)) (.int .i64 1) false).run Tryz.prog W.drew = .ok (.int .u64 0) W.drew := ((hml1.below (bdrewN _ _ 1)).look (w := W.drew) int_law Tryz.underlying183 int_good1 (zero_u64 _)).1
  simp only [Option.getD_none] at lk
  rw [hW] at j4 j5 lk lk2
  clear hS hj hmc hml hj1 hml1 hW
  have wr0 : IntKind.u64.wrap 0 = 0 := by decide
  unfold ev1
  go_enter Tryz.func137, Tryz.ntmps137
  go_wp2_with fail
  go_region
  all_goals
    obtain ⟨w1, hr1, hm1, hg1⟩ := (HML.out.below ((balloc w (.cells #[.int .i64 1, .int .i64 1, .int .u64 1, .int .i64 1, .int .i64 0, .slice none 0 0] 95)).drew.drew)).put int_law Tryz.underlying183 int_good1 (.int .u64 1)
    have hbx : w1.heap[w.heap.size]? = some (.cells ev1 95) := (hg1.block _ (by simp) (by simp; omega)).trans (blk_alloc w _)
    have hj1 : w1.heap[bj]? = some (.cells (jdg bm cm ms bc bl) 185) := (hg1.block _ (by simp; omega) (by simp; omega)).trans (blk_alloc_old HJ.out _)
    have j4 : w1.cell? ⟨bj, 4, none⟩ = some (.map (some bc)) := blk_cell hj1 4
    have x0 : w1.cell? ⟨w.heap.size, 0, none⟩ = some (.int .i64 1) := blk_cell hbx 0
    have x1 : w1.cell? ⟨w.heap.size, 1, none⟩ = some (.int .i64 1) := blk_cell hbx 1
    have x2 : w1.cell? ⟨w.heap.size, 2, none⟩ = some (.int .u64 1) := blk_cell hbx 2
    have x3 : w1.cell? ⟨w.heap.size, 3, none⟩ = some (.int .i64 1) := blk_cell hbx 3
    have x4 : w1.cell? ⟨w.heap.size, 4, none⟩ = some (.int .i64 0) := blk_cell hbx 4
    have x5 : w1.cell? ⟨w.heap.size, 5, none⟩ = some (.slice none 0 0) := blk_cell hbx 5
    have hmc1 : MapAt Tryz.prog 100 bc (fun _ => none) w1 := HMC.out.step ((hg1.block _ (by simp; omega) (by simp; omega)).trans ((balloc w _).block bc hcl))
    have hext1 : Ext (fun k => k = bc ∨ k = bl) w w1 := ((Ext.of_below (balloc w _)).trans (Ext.drewN _ _ 2)).trans (Ext.grown hg1 (fun k hk => by cases hk; exact .inr rfl))
    have hb1 : Below B w w1 := (((balloc w _).drew.drew).mono hB).grown hg1 (by simp; omega) (fun k hk => by cases hk; exact hl)
    have hj2 := blk_alloc_old (w := w1) hj1 (.cells #[.int .i64 1, .int .i64 1, .int .u64 1, .int .i64 1, .int .i64 0, .slice none 0 0, .pointer none, .pointer none] 259)
    have hob : ∀ (o : Obj) (i : Nat), (w1.alloc o).cell? ⟨w.heap.size, i, none⟩ = w1.cell? ⟨w.heap.size, i, none⟩ := fun o i => (balloc w1 o).cell (p := ⟨w.heap.size, i, none⟩) (blk_lt hbx)
    have hoj : ∀ (o : Obj) (i : Nat), (w1.alloc o).cell? ⟨bj, i, none⟩ = w1.cell? ⟨bj, i, none⟩ := fun o i => (balloc w1 o).cell (p := ⟨bj, i, none⟩) (blk_lt hj1)
    obtain ⟨w2, hr2, hm2, hg2⟩ := (hmc1.below ((balloc w1 (.cells #[.int .i64 1, .int .i64 1, .int .u64 1, .int .i64 1, .int .i64 0, .slice none 0 0, .pointer none, .pointer none] 259)).drew)).put key_law Tryz.underlying182 key_good1 (.pointer (some ⟨w1.heap.size, 0, none⟩))
    have HP : Hid (IssPost bm cm ms bj bc bl B w (.returned (.bool true)) w2) := by
      have hsz := hg1.size
      have hsz2 := hg2.size
      simp at hsz hsz2
      have he2 : Ext (fun k => k = bc ∨ k = bl) w w2 := hext1.trans (((Ext.of_below (balloc w1 _)).trans (Ext.drewN _ _ 1)).trans (Ext.grown hg2 (fun k hk => by cases hk; exact .inl rfl)))
      refine ⟨rfl, ⟨w1.heap.size, by omega, ?_, ?_, ⟨_, hm2, upd_same _ _ _⟩, ?_⟩, ?_, he2⟩
      · exact HS.out.ext he2 (fun k hk i => by
          rcases hk with rfl | rfl
          · exact HMC.out.nocell i
          · exact HML.out.nocell i)
      · exact (hg2.block _ (by simp; omega) (by simp; omega)).trans hj2
      · exact (hg2.block _ (by simp) (by simp; omega)).trans (blk_alloc w1 _)
      · exact (hb1.trans ((balloc w1 _).drew.mono (by omega))).grown hg2 (by simp; omega) (fun k hk => by cases hk; exact hc)
    clear hext1 hb1 hj2 hm2 hg2 hmc1 hm1 hg1 hbx hj1
    go_wp2_with fail
    go_region
  all_goals
    go_wp2_with fail
    go_region
  all_goals
    go_wp2_with fail
    go_ret
    exact HP.out
end Go.Proofs.YthkmjafmmohogaaGreatDoor
