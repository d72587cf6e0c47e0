/- Results that lie in a variable of the call's own. -/
import Derived.Test.YthkmjafmmohogaaGreatDoorCore
import Derived.Laws.ResultCell
namespace Go.Proofs.YthkmjafmmohogaaGreatDoor
open Go Go.RowKit
set_option linter.unusedVariables false
set_option linter.unusedSimpArgs false

theorem blk_set {w : World} {g : Nat} {cs : Array Value} {t : TypeId} {fr : Nat × Nat} (h : w.heap[g]? = some (.cells cs t fr)) (i : Nat) (u : Value) : (w.setCell ⟨g, i, none⟩ u).heap[g]? = some (.cells (cs.setIfInBounds i u) t fr) := by
  simp [World.setCell, Array.getElem?_modify, h]
theorem blk_set_ne {w : World} {g k : Nat} {o : Obj} (h : w.heap[g]? = some o) (i : Nat) (u : Value) (hne : g ≠ k) : (w.setCell ⟨k, i, none⟩ u).heap[g]? = some o := by
  rw [Below.heap_setCell _ _ _ _ hne]; exact h
theorem blk_alloc_old {w : World} {g : Nat} {o : Obj} (h : w.heap[g]? = some o) (x : Obj) : (w.alloc x).heap[g]? = some o := by
  rw [Below.heap_alloc _ _ _ (blk_lt h)]; exact h
theorem blk_drew {w : World} {g : Nat} {o : Obj} (h : w.heap[g]? = some o) : w.drew.heap[g]? = some o := h

theorem run_loadVar_blk {P : Program} {w : World} {ty : TypeId} {fs : Array Field} {n g : Nat} {cs : Array Value} {t : TypeId} {fr : Nat × Nat} (hu : P.underlying ty = some (.struct fs)) (hs : ∀ w, (sizeOf ty).run P w = .ok n w)
    (hb : w.heap[g]? = some (.cells cs t fr)) (hn : cs.size = n) : (loadVar ty ⟨g, 0, none⟩).run P w = .ok (.agg cs) w := by
  have hl := run_loadCells_list (P := P) w ⟨g, 0, none⟩ cs.toList (fun j v hj => by
    have := blk_cell hb j
    unfold Addr.add
    split
    · rename_i h0; rw [h0] at this hj; rw [this]; simpa using hj
    · simp only [Nat.zero_add]; rw [this]; simpa using hj)
  rw [Array.length_toList, hn] at hl
  simp only [loadVar, isAgg, Sem.run_bind, run_underlying hu, Result.andThen, Sem.run_pure, if_true, hs]
  simp [hl, Result.andThen]

theorem results_cell2 {P : Program} {w : World} {fn : Func} {p u : Tmp} {ty : TypeId} (h : fn.results = #[.cell p ty, .tmp u]) (tmps : Array Value) {g : Nat} {v : Value} (hp : tmps.getD p undef = .pointer (some ⟨g, 0, none⟩))
    (hl : (loadVar ty ⟨g, 0, none⟩).run P w = .ok v w) : (results fn tmps).run P w = .ok (.tuple #[v, tmps.getD u undef]) w := by
  rw [results_cell_tmp h, hp]
  simp [asAddr, Result.andThen, hl]
theorem results_cell1 {P : Program} {w : World} {fn : Func} {p : Tmp} {ty : TypeId} (h : fn.results = #[.cell p ty]) (tmps : Array Value) {g : Nat} {v : Value} (hp : tmps.getD p undef = .pointer (some ⟨g, 0, none⟩))
    (hl : (loadVar ty ⟨g, 0, none⟩).run P w = .ok v w) : (results fn tmps).run P w = .ok v w := by
  simp only [results, h]
  rw [Array.getD_eq_getD_getElem?] at hp
  simp [Sem.run_bind, Result.andThen, hp, asAddr, hl]
theorem results_cell3 {P : Program} {w : World} {fn : Func} {p u u2 : Tmp} {ty : TypeId} (h : fn.results = #[.cell p ty, .tmp u, .tmp u2]) (tmps : Array Value) {g : Nat} {v : Value} (hp : tmps.getD p undef = .pointer (some ⟨g, 0, none⟩))
    (hl : (loadVar ty ⟨g, 0, none⟩).run P w = .ok v w) : (results fn tmps).run P w = .ok (.tuple #[v, tmps.getD u undef, tmps.getD u2 undef]) w := by
  simp only [results, h]
  rw [Array.getD_eq_getD_getElem?] at hp
  simp [Sem.run_bind, Result.andThen, hp, asAddr, hl]
end Go.Proofs.YthkmjafmmohogaaGreatDoor
