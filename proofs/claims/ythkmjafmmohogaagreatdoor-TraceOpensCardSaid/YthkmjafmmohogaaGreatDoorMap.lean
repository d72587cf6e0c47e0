/- Maps of the call's own: what each key reads as. No program in sight. -/
import Derived.Test.YthkmjafmmohogaaGreatDoorCore
import Derived.Maps.Own
import Derived.Maps.OwnOps
namespace Go.Proofs.YthkmjafmmohogaaGreatDoor
open Go Go.RowKit
open Go.Maps (Keyed)
open Go.ChangeMaps Go.MapKept
set_option linter.unusedVariables false

/-- A value that may stand as a key of type k. -/
def GoodKey (P : Program) (k : TypeId) (x : Value) : Prop := ∃ l, keyOf P k x = some l

/-- Block b is a map that reads as f. -/
def MapAt (P : Program) (k : TypeId) (b : Nat) (f : Value → Option Value) (w : World) : Prop :=
  ∃ es clock, w.heap[b]? = some (.map es clock) ∧ (∀ e ∈ es.toList, GoodKey P k e.key) ∧ es.toList.Pairwise (fun a c => a.key ≠ c.key) ∧
    ∀ x, GoodKey P k x → (∃ e ∈ es.toList, e.key = x ∧ f x = some e.val) ∨ ((∀ e ∈ es.toList, e.key ≠ x) ∧ f x = none)

open Classical in
/-- A map with one more. -/
noncomputable def upd (f : Value → Option Value) (x v : Value) : Value → Option Value := fun y => if y = x then some v else f y
theorem upd_same (f : Value → Option Value) (x v : Value) : upd f x v x = some v := by simp [upd]
theorem upd_other (f : Value → Option Value) {x y : Value} (v : Value) (h : y ≠ x) : upd f x v y = f y := by simp [upd, h]

variable {P : Program} {k : TypeId} {b : Nat} {f : Value → Option Value} {w : World}

theorem MapAt.lt (h : MapAt P k b f w) : b < w.heap.size := by
  obtain ⟨es, clock, hb, _⟩ := h
  exact (Array.getElem?_eq_some_iff.1 hb).1
theorem MapAt.new (P : Program) (k : TypeId) (w : World) : MapAt P k w.heap.size (fun _ => none) (w.alloc (.map #[] 0)) :=
  ⟨#[], 0, heap_alloc_new w _, by simp, by simp, fun x _ => .inr ⟨by simp, rfl⟩⟩
theorem MapAt.step {w' : World} (h : MapAt P k b f w) (hb : w'.heap[b]? = w.heap[b]?) : MapAt P k b f w' := by
  obtain ⟨es, clock, h1, r⟩ := h
  exact ⟨es, clock, hb.trans h1, r⟩
theorem MapAt.below {w' : World} (h : MapAt P k b f w) (hb : Below w.heap.size w w') : MapAt P k b f w' := h.step (hb.block b h.lt)

theorem pairwise_key {α β : Type} (g : α → β) : ∀ (l : List α), l.Pairwise (fun a c => g a ≠ g c) → ∀ x ∈ l, ∀ y ∈ l, g x = g y → x = y
  | [], _, x, hx, _, _, _ => by simp at hx
  | a :: l, h, x, hx, y, hy, e => by
    rw [List.pairwise_cons] at h
    rcases List.mem_cons.1 hx with hx1 | hx1
    · rcases List.mem_cons.1 hy with hy1 | hy1
      · rw [hx1, hy1]
      · exact absurd (hx1 ▸ e) (h.1 y hy1)
    · rcases List.mem_cons.1 hy with hy1 | hy1
      · exact absurd (hy1 ▸ e).symm (h.1 x hx1)
      · exact pairwise_key g l h.2 x hx1 y hy1 e

theorem MapAt.look {t e : TypeId} (h : MapAt P k b f w) (K : Keyed P k) (ht : P.underlying t = some (.map k e)) {x : Value} (hx : GoodKey P k x) {z : Value} (hz : (zeroValue e).run P w = .ok z w) :
    (Instr.lookup t (.map (some b)) x false).run P w = .ok ((f x).getD z) w ∧ (Instr.lookup t (.map (some b)) x true).run P w = .ok (.tuple #[(f x).getD z, .bool (f x).isSome]) w := by
  obtain ⟨es, clock, hb, hg, hp, hf⟩ := h
  obtain ⟨l, hl⟩ := hx
  have hc := fun em => K.check w em hl
  rcases K.find w hl es.toList hg with ⟨h1, h2⟩ | ⟨j, e0, h1, h2, h3⟩
  · have hn : f x = none := by
      rcases hf x ⟨l, hl⟩ with ⟨e1, he1, hk1, _⟩ | ⟨_, h⟩
      · exact absurd hk1 (h2 e1 he1)
      · exact h
    constructor <;> simp [Instr.lookup, run_underlying ht, MapKept.run_getObj_map hb, hc, h1, hz, hn, Result.andThen]
  · have hm : e0 ∈ es.toList := List.mem_of_getElem? h2
    have hn : f x = some e0.val := by
      rcases hf x ⟨l, hl⟩ with ⟨e1, he1, hk1, hv⟩ | ⟨h, _⟩
      · have := pairwise_key (·.key) es.toList hp e0 hm e1 he1 (by rw [h3, hk1])
        rw [this, hv]
      · exact absurd h3 (h e0 hm)
    constructor <;> simp [Instr.lookup, run_underlying ht, MapKept.run_getObj_map hb, hc, h1, hn, Result.andThen]

theorem MapAt.put {t e : TypeId} (h : MapAt P k b f w) (K : Keyed P k) (ht : P.underlying t = some (.map k e)) {x : Value} (hx : GoodKey P k x) (v : Value) :
    ∃ w', (Instr.mapUpdate t (.map (some b)) x v).run P w = .ok () w' ∧ MapAt P k b (upd f x v) w' ∧ w.grownBy w' (some b) := by
  obtain ⟨es, clock, hb, hg, hp, hf⟩ := h
  obtain ⟨l, hl⟩ := hx
  have hc := fun em => K.check w em hl
  rcases K.find w hl es.toList hg with ⟨h1, h2⟩ | ⟨j, e0, h1, h2, h3⟩
  · refine ⟨setBlock w b (.map (es.push ⟨x, v, clock⟩) (clock + 1)), ?_, ⟨es.push ⟨x, v, clock⟩, clock + 1, heap_setBlock_same hb _, ?_, ?_, ?_⟩, ⟨rfl, rfl, rfl, by simp [setBlock], fun i _ hi => heap_setBlock_other hb _ (fun e => hi (by rw [e]))⟩⟩
    · simp [Instr.mapUpdate, run_underlying ht, MapKept.run_getObj_map hb, hc, h1, MapKept.run_setObj_map _ hb, Result.andThen, setBlock]
    · intro e1 he1
      rw [Array.toList_push, List.mem_append, List.mem_singleton] at he1
      rcases he1 with he1 | rfl
      · exact hg e1 he1
      · exact ⟨l, hl⟩
    · rw [Array.toList_push, List.pairwise_append]
      refine ⟨hp, by simp, fun a ha c hc => ?_⟩
      rw [List.mem_singleton] at hc
      subst hc
      exact h2 a ha
    · intro y hy
      by_cases hyx : y = x
      · subst hyx
        exact .inl ⟨⟨y, v, clock⟩, by simp, rfl, upd_same _ _ _⟩
      · rw [upd_other _ _ hyx]
        rcases hf y hy with ⟨e1, he1, hk1, hv⟩ | ⟨h, hn⟩
        · exact .inl ⟨e1, by rw [Array.toList_push]; exact List.mem_append_left _ he1, hk1, hv⟩
        · refine .inr ⟨fun e1 he1 => ?_, hn⟩
          rw [Array.toList_push, List.mem_append, List.mem_singleton] at he1
          rcases he1 with he1 | rfl
          · exact h e1 he1
          · exact fun e => hyx e.symm
  · have hm : e0 ∈ es.toList := List.mem_of_getElem? h2
    have hj : es[j]? = some e0 := by simpa using h2
    have hst := K.stays w hl
    have hjl : j < es.size := (Array.getElem?_eq_some_iff.1 hj).1
    have hmod : (es.modify j fun e => { e with key := x, val := v }).toList = es.toList.set j { e0 with key := x, val := v } := by
      apply List.ext_getElem?
      intro i
      rw [Array.getElem?_toList, Array.getElem?_modify, List.getElem?_set]
      by_cases hij : j = i
      · subst hij
        have : es[j] = e0 := (Array.getElem?_eq_some_iff.1 hj).2
        simp [hj, hjl, this]
      · simp [hij]
    have hmem : ∀ e1, e1 ∈ es.toList.set j { e0 with key := x, val := v } → e1 = { e0 with key := x, val := v } ∨ (e1 ∈ es.toList ∧ e1 ≠ e0 ) := by
      intro e1 he1
      obtain ⟨i, hi⟩ := List.getElem?_of_mem he1
      rw [List.getElem?_set] at hi
      split at hi
      · split at hi
        · left; simpa using hi.symm
        · exact absurd hi (by simp)
      · rename_i hij
        right
        refine ⟨List.mem_of_getElem? hi, ?_⟩
        rintro rfl
        have := (List.pairwise_iff_getElem.1 hp)
        have hi' : i < es.toList.length := (List.getElem?_eq_some_iff.1 hi).1
        have hjl' : j < es.toList.length := by simpa using hjl
        have q1 : es.toList[i] = e1 := (List.getElem?_eq_some_iff.1 hi).2
        have q2 : es.toList[j] = e1 := (List.getElem?_eq_some_iff.1 h2).2
        rcases Nat.lt_or_ge i j with h | h
        · exact this i j hi' hjl' h (by rw [q1, q2])
        · exact this j i hjl' hi' (by omega) (by rw [q1, q2])
    refine ⟨setBlock w b (.map (es.modify j fun e => { e with key := x, val := v }) clock), ?_, ⟨_, clock, heap_setBlock_same hb _, ?_, ?_, ?_⟩, ⟨rfl, rfl, rfl, by simp [setBlock], fun i _ hi => heap_setBlock_other hb _ (fun e => hi (by rw [e]))⟩⟩
    · simp [Instr.mapUpdate, run_underlying ht, MapKept.run_getObj_map hb, hc, h1, hj, h3, hst, MapKept.run_setObj_map _ hb, Result.andThen, setBlock]
    · rw [hmod]
      intro e1 he1
      rcases hmem e1 he1 with rfl | ⟨h, _⟩
      · exact ⟨l, hl⟩
      · exact hg e1 h
    · rw [hmod, List.pairwise_iff_getElem]
      have := (List.pairwise_iff_getElem.1 hp)
      intro i i' hi hi' hlt
      have hkey : ∀ (i : Nat) (hi : i < (es.toList.set j { e0 with key := x, val := v }).length), (es.toList.set j { e0 with key := x, val := v })[i].key = (es.toList[i]'(by simpa using hi)).key := by
        intro i hi
        rw [List.getElem_set]
        split
        · rename_i h; subst h
          show x = _
          have : es.toList[j]'(by simpa using hi) = e0 := (List.getElem?_eq_some_iff.1 h2).2
          rw [this, h3]
        · rfl
      rw [hkey i hi, hkey i' hi']
      exact this i i' (by simpa using hi) (by simpa using hi') hlt
    · rw [hmod]
      intro y hy
      by_cases hyx : y = x
      · subst hyx
        refine .inl ⟨{ e0 with key := y, val := v }, ?_, rfl, upd_same _ _ _⟩
        exact List.mem_of_getElem? (i := j) (by rw [List.getElem?_set]; simp [hjl])
      · rw [upd_other _ _ hyx]
        rcases hf y hy with ⟨e1, he1, hk1, hv⟩ | ⟨h, hn⟩
        · refine .inl ⟨e1, ?_, hk1, hv⟩
          obtain ⟨i, hi⟩ := List.getElem?_of_mem he1
          refine List.mem_of_getElem? (i := i) ?_
          rw [List.getElem?_set, if_neg, hi]
          rintro rfl
          rw [h2] at hi
          injection hi with hi
          rw [← hi, h3] at hk1
          exact hyx hk1.symm
        · refine .inr ⟨fun e1 he1 => ?_, hn⟩
          rcases hmem e1 he1 with rfl | ⟨h', _⟩
          · exact fun e => hyx e.symm
          · exact h e1 h'

/-- An operation under a guard that holds. -/
theorem wpList_wanted {ops : Array Oper} {rest : List Oper} {o : Oper} {a : Act} {Q : Exit → Act → World → Prop} (hw : Region.wanted o (yielded ops a.tmps) = true)
    (h : ∀ K : Act → World → Prop, (∀ a w, wpList P ops Q rest a w → K a w) → o.wp P a w K Q) : wpList P ops Q (o :: rest) a w :=
  wpList_step fun K hK => by rw [if_pos hw]; exact h K hK
/-- 'm[k] = v' at the operation. -/
theorem wpList_put {ops : Array Oper} {rest : List Oper} {o : Oper} {a : Act} {Q : Exit → Act → World → Prop} (hg : o.guard = none) (m y v : Operand) (t : TypeId) (hop : o.op = Op.mapUpdate t m y v)
    {e : TypeId} (K : Keyed P k) (ht : P.underlying t = some (.map k e)) (hm : a.eval m = .map (some b)) (h : MapAt P k b f w) {x u : Value} (hx : a.eval y = x) (hv : a.eval v = u) (hkey : GoodKey P k x)
    (hK : ∀ w', MapAt P k b (upd f x u) w' → w.grownBy w' (some b) → wpList P ops Q rest (a.put o.dst undef) w') : wpList P ops Q (o :: rest) a w := by
  refine wpList_plain hg fun K' hK' => ?_
  obtain ⟨w', hrun, r1, r2⟩ := h.put K ht hkey u
  unfold Oper.wp
  simp [execOp, hop, hm, hx, hv, hrun, Result.andThen]
  exact hK' _ _ (hK w' r1 r2)
/-- 'm[k]' at the operation. -/
theorem wpList_look {ops : Array Oper} {rest : List Oper} {o : Oper} {a : Act} {Q : Exit → Act → World → Prop} (hg : Region.wanted o (yielded ops a.tmps) = true) (m y : Operand) (t : TypeId) (hop : o.op = Op.lookup t m y false)
    {e : TypeId} (K : Keyed P k) (ht : P.underlying t = some (.map k e)) {z : Value} (hz : (zeroValue e).run P w = .ok z w) (hm : a.eval m = .map (some b)) (h : MapAt P k b f w) {x : Value} (hx : a.eval y = x) (hkey : GoodKey P k x)
    (hK : wpList P ops Q rest (a.put o.dst ((f x).getD z)) w) : wpList P ops Q (o :: rest) a w := by
  refine wpList_wanted hg fun K' hK' => ?_
  have hrun := (h.look K ht hkey hz).1
  unfold Oper.wp
  simp [execOp, hop, hm, hx, hrun, Result.andThen]
  exact hK' _ _ hK
end Go.Proofs.YthkmjafmmohogaaGreatDoor
