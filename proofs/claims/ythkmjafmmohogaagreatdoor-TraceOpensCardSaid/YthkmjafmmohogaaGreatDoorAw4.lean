/- Runs at constants: schema.unlike, schema.needs. -/
import Derived.Test.YthkmjafmmohogaaGreatDoorAw3
import Derived.DeepKeys4
namespace Go.Proofs.YthkmjafmmohogaaGreatDoor
open Go Go.RowKit
open Go.Maps (Keyed)
set_option linter.unusedVariables false
set_option maxHeartbeats 1000000
set_option maxRecDepth 100000

theorem str_law : Keyed Tryz.prog 9 := Go.Maps.string_keyed Tryz.underlying9
theorem str_good (s : ByteArray) (h : s.size ≤ 1000) : GoodKey Tryz.prog 9 (.string s) := ⟨_, WideMaps.keyOf_string_mk (s := s) Tryz.underlying9 (by unfold maxLen; omega)⟩
theorem zero_bool' (w : World) : (zeroValue 4).run Tryz.prog w = .ok (.bool false) w := by kernel_rfl

theorem unlikestr_c (s : ByteArray) (hsz : s.size ≤ 1000) (g c : Nat) (w : World) (hs : w.cell? ⟨g, 0, none⟩ = some (.string s)) :
    Calls Tryz.prog 57 #[.slice (some ⟨g, 0, none⟩) 1 c, .func (.func 58) #[] #[]] w (Says (.bool true) w) := by
  have hmm := @run_makeMap Tryz.prog
  have HM := Lib.hid (MapAt.new Tryz.prog 9 w)
  have HG := Lib.hid (str_good s hsz)
  have hgl : g < w.heap.size := World.block_lt_of_cell? w ⟨g, 0, none⟩ hs
  have hob : ∀ (o : Obj) (i : Nat), (w.alloc o).cell? ⟨g, i, none⟩ = w.cell? ⟨g, i, none⟩ := fun o i => (balloc w o).cell (p := ⟨g, i, none⟩) hgl
  go_enter Tryz.func57, Tryz.ntmps57
  go_wp2
  refine wp_loop_rounds 2 ?_
  rw [rounds_succ]
  go_wp2_with (first | (at_lookup; refine Halt.out ?_) | go_in)
  refine Halt.mk ?_
  refine wpList_look rfl _ _ _ rfl str_law Tryz.underlying225 (zero_bool' _) rfl HM.out (x := .string s) rfl HG.out ?_
  simp only [Option.getD_none]
  go_wp2_with (first | (at_mapUpdate; refine Halt.out ?_) | go_in)
  refine Halt.mk ?_
  refine wpList_put rfl _ _ _ _ rfl str_law Tryz.underlying225 rfl HM.out (x := .string s) (u := .bool true) rfl rfl HG.out ?_
  intro w1 hm1 hg1
  have HB := Lib.hid (show Below w.heap.size w w1 from (balloc w _).grown hg1 (by simp) (fun j hj => by cases hj; exact Nat.le_refl _))
  clear hm1 hg1
  go_wp2_with fail
  rw [rounds_succ]
  go_wp2_with fail
  go_ret
  exact ⟨rfl, HB.out⟩

theorem unlikefd_nil (a : Option Addr) (c : Nat) (w : World) : Calls Tryz.prog 111 #[.slice a 0 c, .func (.func 112) #[] #[]] w (Says (.bool true) w) := by
  have hmm := @run_makeMap Tryz.prog
  go_enter Tryz.func111, Tryz.ntmps111
  go_wp2
  refine wp_loop_rounds 1 ?_
  rw [rounds_succ]
  go_wp2_with fail
  go_ret
  exact ⟨rfl, balloc _ _⟩
theorem unlikemd_nil (a : Option Addr) (c : Nat) (w : World) : Calls Tryz.prog 66 #[.slice a 0 c, .func (.func 67) #[] #[]] w (Says (.bool true) w) := by
  have hmm := @run_makeMap Tryz.prog
  go_enter Tryz.func66, Tryz.ntmps66
  go_wp2
  refine wp_loop_rounds 1 ?_
  rw [rounds_succ]
  go_wp2_with fail
  go_ret
  exact ⟨rfl, balloc _ _⟩

def mdVal (id : Int) (a b : ByteArray) (i o : Int) : Array Value := #[.int .i64 id, .string a, .string b, .int .i64 i, .int .i64 o]
theorem run_loadVar_arr {P : Program} {w : World} {ty e : TypeId} {m n g : Nat} {cs : Array Value} {t : TypeId} {fr : Nat × Nat} (hu : P.underlying ty = some (.array m e)) (hs : ∀ w, (sizeOf ty).run P w = .ok n w)
    (hb : w.heap[g]? = some (.cells cs t fr)) (hn : cs.size = n) : (loadVar ty ⟨g, 0, none⟩).run P w = .ok (.agg cs) w := by
  have hl := run_loadCells_list (P := P) w ⟨g, 0, none⟩ cs.toList (fun j v hj => by
    have := blk_cell hb j
    unfold Addr.add
    split
    · rename_i h0; rw [h0] at this hj; rw [this]; simpa using hj
    · simp only [Nat.zero_add]; rw [this]; simpa using hj)
  rw [Array.length_toList, hn] at hl
  simp only [loadVar, isAgg, Sem.run_bind, run_underlying hu, Result.andThen, Sem.run_pure, if_true, hs]
  simp [hl, Result.andThen]
theorem formed5_c (id : Int) (a b : ByteArray) (i o : Int) (w : World) : Calls Tryz.prog 67 #[.agg (mdVal id a b i o)] w (Says (.agg #[.string a, .string b]) w) := by
  unfold mdVal
  go_enter Tryz.func67, Tryz.ntmps67
  go_wp2
  refine bodyPost_ret (results_cell1 Tryz.results67 _ rfl (run_loadVar_arr Tryz.underlying158 (n := 2) (fun _ => by kernel_rfl) (blk_alloc' (by simp) _) rfl)) rfl ⟨rfl, (balloc _ _).trans ((balloc _ _).mono (by simp))⟩

theorem arr_law : Keyed Tryz.prog 158 := Keyed.of_law (deep_law (m := 2) (by omega) (by kernel_rfl) (by kernel_rfl) (by rw [Tryz.underlying158]))
theorem arr_good (a b : ByteArray) (h1 : a.size ≤ 1000) (h2 : b.size ≤ 1000) : GoodKey Tryz.prog 158 (.agg #[.string a, .string b]) := by
  have k1 : Tryz.prog.keyType 158 = true := by kernel_rfl
  have c1 : Tryz.prog.cellsOf 158 = 2 := by kernel_rfl
  have c2 : Tryz.prog.cellsOf 9 = 1 := by kernel_rfl
  have b1 : a.size ≤ maxLen := by unfold maxLen; omega
  have b2 : b.size ≤ maxLen := by unfold maxLen; omega
  have hr : List.range 2 = [0, 1] := rfl
  have hm : ∀ m, Tryz.prog.keyLits (m + 2) 158 [.string a, .string b] = some [.string a.data.toList, .string b.data.toList] := by
    intro m
    simp [Program.keyLits, Tryz.underlying158, Tryz.underlying9, c1, c2, b1, b2, hr]
  have hs : Tryz.prog.types.size = Tryz.prog.types.size - 1 + 1 := by have : 0 < Tryz.prog.types.size := of_decide_eq_true (by kernel_rfl); omega
  unfold GoodKey keyOf
  rw [Tryz.underlying158]
  rw [hs]
  simp only [k1, Value.formed, Value.cells, hm]
  simp [Tryz.underlying158, c1]

theorem unlikemd_c (id : Int) (a b : ByteArray) (i o : Int) (h1 : a.size ≤ 1000) (h2 : b.size ≤ 1000) (g c : Nat) (w : World) (hc : cellsAt g 0 (mdVal id a b i o).toList w) :
    Calls Tryz.prog 66 #[.slice (some ⟨g, 0, none⟩) 1 c, .func (.func 67) #[] #[]] w (Says (.bool true) w) := by
  have hmm := @run_makeMap Tryz.prog
  have HM := Lib.hid (MapAt.new Tryz.prog 158 w)
  have HG := Lib.hid (arr_good a b h1 h2)
  have HF := Lib.hid (formed5_c id a b i o)
  have q0 : w.cell? ⟨g, 0, none⟩ = some (.int .i64 id) := hc 0 _ rfl
  have q1 : w.cell? ⟨g, 1, none⟩ = some (.string a) := hc 1 _ rfl
  have q2 : w.cell? ⟨g, 2, none⟩ = some (.string b) := hc 2 _ rfl
  have q3 : w.cell? ⟨g, 3, none⟩ = some (.int .i64 i) := hc 3 _ rfl
  have q4 : w.cell? ⟨g, 4, none⟩ = some (.int .i64 o) := hc 4 _ rfl
  have hgl : g < w.heap.size := World.block_lt_of_cell? w ⟨g, 0, none⟩ q0
  have hob : ∀ (o : Obj) (i : Nat), (w.alloc o).cell? ⟨g, i, none⟩ = w.cell? ⟨g, i, none⟩ := fun o i => (balloc w o).cell (p := ⟨g, i, none⟩) hgl
  clear hc
  go_enter Tryz.func66, Tryz.ntmps66
  go_wp2
  refine wp_loop_rounds 2 ?_
  rw [rounds_succ]
  go_wp2_with (go_at_call 67; refine Halt.out ?_)
  refine Halt.mk ?_
  refine (HF.out _).mono ?_
  rintro e w1 ⟨rfl, hb1⟩
  have hb2 := (balloc w (.map #[] 0)).trans ((balloc (w.alloc (.map #[] 0)) (.cells #[.int .i64 id, .string a, .string b, .int .i64 i, .int .i64 o] 93)).mono (by simp))
  have hblk : w1.heap[w.heap.size + 1]? = some (.cells (mdVal id a b i o) 93) := blk_below (blk_alloc' (by simp) _) hb1 (by simp)
  have HM1 := Lib.hid ((HM.out.below (balloc _ _)).below hb1)
  have HB1 := Lib.hid (bto hb2 hb1 (Nat.le_refl _))
  have p0 : w1.cell? ⟨w.heap.size + 1, 0, none⟩ = some (.int .i64 id) := blk_cell hblk 0
  have p1 : w1.cell? ⟨w.heap.size + 1, 1, none⟩ = some (.string a) := blk_cell hblk 1
  have p2 : w1.cell? ⟨w.heap.size + 1, 2, none⟩ = some (.string b) := blk_cell hblk 2
  have p3 : w1.cell? ⟨w.heap.size + 1, 3, none⟩ = some (.int .i64 i) := blk_cell hblk 3
  have p4 : w1.cell? ⟨w.heap.size + 1, 4, none⟩ = some (.int .i64 o) := blk_cell hblk 4
  clear hb1 hb2 hblk
  go_wp2_with (first | (at_lookup; refine Halt.out ?_) | go_in)
  refine Halt.mk ?_
  refine wpList_look rfl _ _ _ rfl arr_law Tryz.underlying236 (zero_bool' _) rfl HM1.out (x := .agg #[.string a, .string b]) rfl HG.out ?_
  simp only [Option.getD_none]
  go_wp2_with (go_at_call 67; refine Halt.out ?_)
  refine Halt.mk ?_
  refine (HF.out _).mono ?_
  rintro e w2 ⟨rfl, hb2⟩
  have HM2 := Lib.hid (HM1.out.below hb2)
  have HB2 := Lib.hid (bto HB1.out hb2 (Nat.le_refl _))
  clear hb2
  go_wp2_with (first | (at_mapUpdate; refine Halt.out ?_) | go_in)
  refine Halt.mk ?_
  refine wpList_put rfl _ _ _ _ rfl arr_law Tryz.underlying236 rfl HM2.out (x := .agg #[.string a, .string b]) (u := .bool true) rfl rfl HG.out ?_
  intro w3 hm3 hg3
  have HB := Lib.hid (show Below w.heap.size w w3 from HB2.out.grown hg3 (by have := HB2.out.size; omega) (fun j hj => by cases hj; exact Nat.le_refl _))
  clear hm3 hg3
  go_wp2_with fail
  rw [rounds_succ]
  go_wp2_with fail
  go_ret
  exact ⟨rfl, HB.out⟩
end Go.Proofs.YthkmjafmmohogaaGreatDoor
