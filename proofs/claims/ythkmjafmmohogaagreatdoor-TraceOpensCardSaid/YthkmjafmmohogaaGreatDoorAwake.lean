/- courierlaw21's awake. -/
import Derived.Test.YthkmjafmmohogaaGreatDoorJu5
import Derived.Test.YthkmjafmmohogaaGreatDoorTr6
namespace Go.Proofs.YthkmjafmmohogaaGreatDoor
open Go Go.RowKit
set_option linter.unusedVariables false
set_option maxHeartbeats 1000000
set_option maxRecDepth 100000

theorem cells_blk {w : World} {g : Nat} {cs : Array Value} {t : TypeId} {fr : Nat × Nat} (h : w.heap[g]? = some (.cells cs t fr)) {off : Nat} {l : List Value} (hl : ∀ j u, l[j]? = some u → cs[off + j]? = some u) : cellsAt g off l w := by
  intro j u hj
  exact (blk_cell h (off + j)).trans (hl j u hj)
def msgB : Array Value := #[.string ⟨#[65]⟩, .slice none 0 0]
def mtdB : Array Value := #[.int .i64 1, .string ⟨#[83]⟩, .string ⟨#[109]⟩, .int .i64 0, .int .i64 0]
def list3 : Array Value := #[.int .i64 1, .int .i64 1, .int .u64 1, .int .i64 1, .int .i64 0, .slice none 0 0, .int .i64 2, .int .i64 1, .int .u64 1, .int .i64 1, .int .i64 13, .slice none 0 0, .int .i64 2, .int .i64 1, .int .u64 1, .int .i64 1, .int .i64 13, .slice none 0 0]
def list2 : Array Value := #[.int .i64 1, .int .i64 1, .int .u64 1, .int .i64 1, .int .i64 0, .slice none 0 0, .int .i64 2, .int .i64 1, .int .u64 1, .int .i64 1, .int .i64 13, .slice none 0 0]
theorem sch_of {w : World} {bm gm : Nat} (h1 : w.heap[bm]? = some (.cells msgB 28)) (h2 : w.heap[gm]? = some (.cells mtdB 93)) : Sch1 bm 1 (.slice (some ⟨gm, 0, none⟩) 1 1) w :=
  ⟨gm, 1, none, 0, rfl, cells_blk h1 (fun j u hj => by simpa [msgB, one] using hj), cells_blk h2 (fun j u hj => by simpa [mtdB, mdVal, one] using hj)⟩
theorem evs3_of {w : World} {b : Nat} (h : w.heap[b]? = some (.cells list3 95)) : ∀ k, k < 3 → evCells b k (evsJ k) w := by
  intro k hk
  refine cells_blk h (fun j u hj => ?_)
  have hj6 : j < 6 := by
    rcases Nat.lt_or_ge j 6 with h | h
    · exact h
    · rw [List.getElem?_eq_none (by unfold evsJ; split <;> simpa [ev1, ev2] using h)] at hj; simp at hj
  rcases (by omega : k = 0 ∨ k = 1 ∨ k = 2) with rfl | rfl | rfl <;> rcases (by omega : j = 0 ∨ j = 1 ∨ j = 2 ∨ j = 3 ∨ j = 4 ∨ j = 5) with rfl | rfl | rfl | rfl | rfl | rfl <;> simpa [evsJ, ev1, ev2, list3] using hj
theorem evs2_of {w : World} {b : Nat} (h : w.heap[b]? = some (.cells list2 95)) : ∀ k, k < 2 → evCells b k (evsJ k) w := by
  intro k hk
  refine cells_blk h (fun j u hj => ?_)
  have hj6 : j < 6 := by
    rcases Nat.lt_or_ge j 6 with h | h
    · exact h
    · rw [List.getElem?_eq_none (by unfold evsJ; split <;> simpa [ev1, ev2] using h)] at hj; simp at hj
  rcases (by omega : k = 0 ∨ k = 1) with rfl | rfl <;> rcases (by omega : j = 0 ∨ j = 1 ∨ j = 2 ∨ j = 3 ∨ j = 4 ∨ j = 5) with rfl | rfl | rfl | rfl | rfl | rfl <;> simpa [evsJ, ev1, ev2, list2] using hj

theorem awake_c (w : World) : Calls Tryz.prog 11 #[] w (True1 w) := by
  obtain ⟨W, hW⟩ : ∃ W, W = ((((((w.alloc (.cells #[.string ⟨#[65]⟩, .slice none 0 0] 28)).alloc (.cells #[.int .i64 1, .string ⟨#[83]⟩, .string ⟨#[109]⟩, .int .i64 0, .int .i64 0] 93)).alloc (.cells #[.slice (some ⟨w.heap.size, 0, none⟩) 1 1, .slice none 0 0, .slice (some ⟨w.heap.size + 1, 0, none⟩) 1 1] 33)).alloc (.cells #[.int .i64 1, .int .i64 1, .int .u64 1, .int .i64 1, .int .i64 0, .slice none 0 0] 95)).alloc (.cells #[.int .i64 2, .int .i64 1, .int .u64 1, .int .i64 1, .int .i64 13, .slice none 0 0] 95)).alloc (.cells #[.int .i64 1, .int .i64 1, .int .u64 1, .int .i64 1, .int .i64 0, .slice none 0 0, .int .i64 2, .int .i64 1, .int .u64 1, .int .i64 1, .int .i64 13, .slice none 0 0, .int .i64 2, .int .i64 1, .int .u64 1, .int .i64 1, .int .i64 13, .slice none 0 0] 95)) := ⟨_, rfl⟩
  have hb6 : Below w.heap.size w W := by
    rw [hW]
    exact (((((balloc w _).alloc (by simp) _).alloc (by simp; omega) _).alloc (by simp; omega) _).alloc (by simp; omega) _).alloc (by simp; omega) _
  have hm : W.heap[w.heap.size]? = some (.cells #[.string ⟨#[65]⟩, .slice none 0 0] 28) := by
    rw [hW]
    exact blk_alloc_old (blk_alloc_old (blk_alloc_old (blk_alloc_old (blk_alloc_old (blk_alloc' (by simp) _) _) _) _) _) _
  have hg : W.heap[w.heap.size + 1]? = some (.cells #[.int .i64 1, .string ⟨#[83]⟩, .string ⟨#[109]⟩, .int .i64 0, .int .i64 0] 93) := by
    rw [hW]
    exact blk_alloc_old (blk_alloc_old (blk_alloc_old (blk_alloc_old (blk_alloc' (by simp) _) _) _) _) _
  have hs : W.heap[w.heap.size + 1 + 1]? = some (.cells #[.slice (some ⟨w.heap.size, 0, none⟩) 1 1, .slice none 0 0, .slice (some ⟨w.heap.size + 1, 0, none⟩) 1 1] 33) := by
    rw [hW]
    exact blk_alloc_old (blk_alloc_old (blk_alloc_old (blk_alloc' (by simp) _) _) _) _
  have he : W.heap[w.heap.size + 1 + 1 + 1]? = some (.cells #[.int .i64 1, .int .i64 1, .int .u64 1, .int .i64 1, .int .i64 0, .slice none 0 0] 95) := by
    rw [hW]
    exact blk_alloc_old (blk_alloc_old (blk_alloc' (by simp) _) _) _
  have hx : W.heap[w.heap.size + 1 + 1 + 1 + 1]? = some (.cells #[.int .i64 2, .int .i64 1, .int .u64 1, .int .i64 1, .int .i64 13, .slice none 0 0] 95) := by
    rw [hW]
    exact blk_alloc_old (blk_alloc' (by simp) _) _
  have hl : W.heap[w.heap.size + 1 + 1 + 1 + 1 + 1]? = some (.cells #[.int .i64 1, .int .i64 1, .int .u64 1, .int .i64 1, .int .i64 0, .slice none 0 0, .int .i64 2, .int .i64 1, .int .u64 1, .int .i64 1, .int .i64 13, .slice none 0 0, .int .i64 2, .int .i64 1, .int .u64 1, .int .i64 1, .int .i64 13, .slice none 0 0] 95) := by
    rw [hW]
    exact blk_alloc' (by simp) _
  have HJ := Lib.hid (judge_c w.heap.size 1 _ (w.heap.size + 1 + 1 + 1 + 1 + 1) 3 3 2 (.inr ⟨rfl, rfl⟩) W (sch_of hm hg) (evs3_of hl))
  have HM := Lib.hid hm
  have HG := Lib.hid hg
  have HSc := Lib.hid hs
  have HE := Lib.hid he
  have HX := Lib.hid hx
  have HB6 := Lib.hid hb6
  have HW := Lib.hid hW
  unfold schV at HJ
  rw [hW] at HJ
  clear hm hg hs he hx hl hb6 hW
  go_enter Tryz.func11, Tryz.ntmps11
  go_wp2_with (go_at_call 36; refine Halt.out ?_)
  refine Halt.mk ?_
  refine HJ.out.mono ?_
  rintro e w1 ⟨rfl, hb1⟩
  have hW := HW.out
  rw [← hW] at hb1
  have hs := blk_below HSc.out hb1 (blk_lt HSc.out)
  have he := blk_below HE.out hb1 (blk_lt HE.out)
  have hx := blk_below HX.out hb1 (blk_lt HX.out)
  have hm := blk_below HM.out hb1 (blk_lt HM.out)
  have hg := blk_below HG.out hb1 (blk_lt HG.out)
  have hs0 : w1.cell? ⟨w.heap.size + 1 + 1, 0, none⟩ = some (.slice (some ⟨w.heap.size, 0, none⟩) 1 1) := blk_cell hs 0
  have hs1 : w1.cell? ⟨w.heap.size + 1 + 1, 1, none⟩ = some (.slice none 0 0) := blk_cell hs 1
  have hs2 : w1.cell? ⟨w.heap.size + 1 + 1, 2, none⟩ = some (.slice (some ⟨w.heap.size + 1, 0, none⟩) 1 1) := blk_cell hs 2
  have he0 : w1.cell? ⟨w.heap.size + 1 + 1 + 1, 0, none⟩ = some (.int .i64 1) := blk_cell he 0
  have he1 : w1.cell? ⟨w.heap.size + 1 + 1 + 1, 1, none⟩ = some (.int .i64 1) := blk_cell he 1
  have he2 : w1.cell? ⟨w.heap.size + 1 + 1 + 1, 2, none⟩ = some (.int .u64 1) := blk_cell he 2
  have he3 : w1.cell? ⟨w.heap.size + 1 + 1 + 1, 3, none⟩ = some (.int .i64 1) := blk_cell he 3
  have he4 : w1.cell? ⟨w.heap.size + 1 + 1 + 1, 4, none⟩ = some (.int .i64 0) := blk_cell he 4
  have he5 : w1.cell? ⟨w.heap.size + 1 + 1 + 1, 5, none⟩ = some (.slice none 0 0) := blk_cell he 5
  have hx0 : w1.cell? ⟨w.heap.size + 1 + 1 + 1 + 1, 0, none⟩ = some (.int .i64 2) := blk_cell hx 0
  have hx1 : w1.cell? ⟨w.heap.size + 1 + 1 + 1 + 1, 1, none⟩ = some (.int .i64 1) := blk_cell hx 1
  have hx2 : w1.cell? ⟨w.heap.size + 1 + 1 + 1 + 1, 2, none⟩ = some (.int .u64 1) := blk_cell hx 2
  have hx3 : w1.cell? ⟨w.heap.size + 1 + 1 + 1 + 1, 3, none⟩ = some (.int .i64 1) := blk_cell hx 3
  have hx4 : w1.cell? ⟨w.heap.size + 1 + 1 + 1 + 1, 4, none⟩ = some (.int .i64 13) := blk_cell hx 4
  have hx5 : w1.cell? ⟨w.heap.size + 1 + 1 + 1 + 1, 5, none⟩ = some (.slice none 0 0) := blk_cell hx 5
  have hb6 := bto HB6.out hb1 (Nat.le_refl _)
  have HB7 := Lib.hid (bto hb6 (balloc w1 (.cells #[.int .i64 1, .int .i64 1, .int .u64 1, .int .i64 1, .int .i64 0, .slice none 0 0, .int .i64 2, .int .i64 1, .int .u64 1, .int .i64 1, .int .i64 13, .slice none 0 0] 95)) (Nat.le_refl _))
  have HJ2 := Lib.hid (judge_c w.heap.size 1 _ w1.heap.size 2 2 (-1) (.inl ⟨rfl, rfl⟩) (w1.alloc (.cells #[.int .i64 1, .int .i64 1, .int .u64 1, .int .i64 1, .int .i64 0, .slice none 0 0, .int .i64 2, .int .i64 1, .int .u64 1, .int .i64 1, .int .i64 13, .slice none 0 0] 95)) (sch_of (blk_alloc_old hm _) (blk_alloc_old hg _)) (evs2_of (blk_alloc w1 _)))
  unfold schV at HJ2
  clear hs he hx hm hg hb1 hb6 hW
  go_wp2_with (go_at_call 36; refine Halt.out ?_)
  refine Halt.mk ?_
  refine HJ2.out.mono ?_
  rintro e w2 ⟨rfl, hb2⟩
  have HB8 := Lib.hid (bto HB7.out hb2 (Nat.le_refl _))
  clear hb2
  go_wp2_with fail
  go_ret
  exact ⟨rfl, HB8.out⟩

/-- courierlaw21.TraceOpens says true, whatever it is given. -/
theorem opens_c (va vb : Value) (la lb : List Ev) (w : World) (ha : Evs va la w) (hb : Evs vb lb w) : Calls Tryz.prog 4 #[va, vb] w (True1 w) :=
  law_c va vb la lb w ha hb (fun w' _ => awake_c w')
end Go.Proofs.YthkmjafmmohogaaGreatDoor
