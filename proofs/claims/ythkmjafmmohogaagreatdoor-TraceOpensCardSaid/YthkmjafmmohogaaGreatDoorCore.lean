/- Words of this seat's proofs: worlds that keep what lies outside a set of blocks; readings that stand in all such worlds; rows of elements. No program in sight. -/
import Derived.WalkKit
import Derived.OwnWalk
import Derived.Below
import Derived.Lib.Hide
import Derived.Deep.Draws
import Derived.Deep.RegionLaw
namespace Go.Proofs.YthkmjafmmohogaaGreatDoor
open Go Go.RowKit
set_option linter.unusedVariables false

/-- A goal at which the walk stands still. -/
structure Halt (p : Prop) : Prop where
  out : p

/-- Every block of w outside S is in w' as it was. -/
structure Ext (S : Nat → Prop) (w w' : World) : Prop where
  size : w.heap.size ≤ w'.heap.size
  block : ∀ k, k < w.heap.size → ¬ S k → w'.heap[k]? = w.heap[k]?

theorem Ext.refl (S : Nat → Prop) (w : World) : Ext S w w := ⟨Nat.le_refl _, fun _ _ _ => rfl⟩
theorem Ext.trans {S : Nat → Prop} {a b c : World} (h : Ext S a b) (k : Ext S b c) : Ext S a c :=
  ⟨Nat.le_trans h.size k.size, fun i hi hs => (k.block i (Nat.lt_of_lt_of_le hi h.size) hs).trans (h.block i hi hs)⟩
theorem Ext.of_below {S : Nat → Prop} {w w' : World} (h : Below w.heap.size w w') : Ext S w w' := ⟨h.size, fun k hk _ => h.block k hk⟩
theorem Ext.mono {S S' : Nat → Prop} {w w' : World} (h : Ext S w w') (hs : ∀ k, k < w.heap.size → S k → S' k) : Ext S' w w' :=
  ⟨h.size, fun k hk hn => h.block k hk (fun x => hn (hs k hk x))⟩
theorem Ext.grown {S : Nat → Prop} {w w' : World} {row : Option Nat} (h : w.grownBy w' row) (hr : ∀ k, row = some k → S k) : Ext S w w' :=
  ⟨h.size, fun k hk hn => h.block k hk (fun e => hn (hr k e.symm))⟩
theorem Ext.setCell {S : Nat → Prop} (w : World) (p : Addr) (u : Value) (hp : S p.block) : Ext S w (w.setCell p u) :=
  ⟨by simp, fun k _ hn => Below.heap_setCell _ _ _ _ (fun e => hn (e ▸ hp))⟩
theorem Ext.alloc (S : Nat → Prop) (w : World) (o : Obj) : Ext S w (w.alloc o) := ⟨by simp, fun k hk _ => Below.heap_alloc _ _ _ hk⟩
theorem Ext.drewN (S : Nat → Prop) (w : World) (n : Nat) : Ext S w (w.drewN n) := ⟨Nat.le_refl _, fun _ _ _ => rfl⟩

theorem balloc (w : World) (o : Obj) : Below w.heap.size w (w.alloc o) := (Below.refl _ _).alloc (Nat.le_refl _) o
theorem bdrewN (B : Nat) (w : World) (n : Nat) : Below B w (w.drewN n) := ⟨rfl, rfl, rfl, Nat.le_refl _, fun _ _ => rfl⟩
theorem bto {B : Nat} {a b c : World} (h : Below B a b) (k : Below b.heap.size b c) (hB : B ≤ a.heap.size) : Below B a c := h.trans (k.mono (Nat.le_trans hB h.size))

theorem ret_bool {a b : Bool} (h : a = b) : Ending.returned (.bool a) = Ending.returned (.bool b) := by rw [h]
theorem ret_i64 {a b : Int} (h : a = b) : Ending.returned (.int .i64 a) = Ending.returned (.int .i64 b) := by rw [h]

theorem blk_cell {w : World} {g : Nat} {cs : Array Value} {t : TypeId} {fr : Nat × Nat} (h : w.heap[g]? = some (.cells cs t fr)) (i : Nat) : w.cell? ⟨g, i, none⟩ = cs[i]? := by simp [World.cell?, h]
theorem blk_frozen {w : World} {g : Nat} {cs : Array Value} {t : TypeId} (h : w.heap[g]? = some (.cells cs t (0, 0))) (i : Nat) : w.frozen? ⟨g, i, none⟩ = false := by simp [World.frozen?, h]
theorem blk_alloc (w : World) (o : Obj) : (w.alloc o).heap[w.heap.size]? = some o := heap_alloc_new w o
theorem blk_alloc' {w : World} {g : Nat} (hg : g = w.heap.size) (o : Obj) : (w.alloc o).heap[g]? = some o := by subst hg; exact heap_alloc_new w o
theorem blk_below {B : Nat} {w w1 : World} {g : Nat} {o : Obj} (h : w.heap[g]? = some o) (hb : Below B w w1) (hg : g < B) : w1.heap[g]? = some o := (hb.block g hg).trans h
theorem blk_lt {w : World} {g : Nat} {o : Obj} (h : w.heap[g]? = some o) : g < w.heap.size := (Array.getElem?_eq_some_iff.1 h).1
theorem blk_ext {S : Nat → Prop} {w w1 : World} {g : Nat} {o : Obj} (h : w.heap[g]? = some o) (he : Ext S w w1) (hg : ¬ S g) : w1.heap[g]? = some o := (he.block g (blk_lt h) hg).trans h

section steps
variable {P : Program} {ops : Array Oper} {Q : Exit → Act → World → Prop} {K : Act → World → Prop} {o : Oper} {a : Act} {w : World} {E : Prop}
/-- In a region that draws its order: the operation that writes slot N has come up. -/
theorem step_at (N : Nat) (hd : o.dst = some N) (h : if Region.wanted o (yielded ops a.tmps) = true then Oper.wp P o a w K Q else E) : if Region.wanted o (yielded ops a.tmps) = true then Oper.wp P o a w K Q else E := h
theorem step_run (hg : o.guard = none) {v : Value} {w1 : World} (hr : (execOp a.eval o).run P w = .ok (.value v) w1) (h : K (a.put o.dst v) w1) : if Region.wanted o (yielded ops a.tmps) = true then Oper.wp P o a w K Q else E := by
  rw [if_pos (by simp [Region.wanted, hg])]
  unfold Oper.wp
  rw [hr]
  exact h
theorem run_enters {f : FuncId} {fn : Func} (hf : P.funcs[f]? = some fn) (hn : (fn.name == "runtime.NumGoroutine") = false) (hb : fn.body.isSome = true) (args : Array Value) (w : World) : (callFunc f args).run P w = .ok (.enter f args) w := by
  have h1 : fn.name ≠ "runtime.NumGoroutine" := by simpa using hn
  obtain ⟨c, hc⟩ := Option.isSome_iff_exists.1 hb
  simp [callFunc, hf, h1, hc]
/-- A call of a function by its name, by a contract. -/
theorem step_call (hg : o.guard = none) {f : FuncId} {fn : Func} (hf : P.funcs[f]? = some fn) (hn : (fn.name == "runtime.NumGoroutine") = false) (hb : fn.body.isSome = true) {as : Array Operand} {ts : Array TypeId} (hop : o.op = .call { callee := .value (.func f), args := as, argTypes := ts })
    (args : Array Value) (ha : as.map a.eval = args) {R : Ending → World → Prop} (hc : Calls P f args w R) (h : ∀ e w', R e w' → ∃ v, e = .returned v ∧ K (a.put o.dst v) w') : if Region.wanted o (yielded ops a.tmps) = true then Oper.wp P o a w K Q else E := by
  rw [if_pos (by simp [Region.wanted, hg])]
  have hr : (execOp a.eval o).run P w = .ok (.enter f args) w := by
    unfold execOp
    simp [hop, ha, resolve, Deferred.ofValue, invoke, Act.eval, run_enters hf hn hb]
  unfold Oper.wp
  rw [hr, Oper.upon_enter]
  refine hc.mono fun e w' hR => ?_
  obtain ⟨v, rfl, hk⟩ := h e w' hR
  exact hk
end steps

/-- What stood in W reads as it did: two rules for the walk. -/
theorem oldcells {W w1 : World} (hb : Below W.heap.size W w1) : (∀ b o, b < W.heap.size → w1.cell? ⟨b, o, none⟩ = W.cell? ⟨b, o, none⟩) ∧ (∀ b o, b < W.heap.size → w1.frozen? ⟨b, o, none⟩ = W.frozen? ⟨b, o, none⟩) :=
  ⟨fun b o h => hb.cell (p := ⟨b, o, none⟩) h, fun b o h => hb.frozen (p := ⟨b, o, none⟩) h⟩

/-- P holds in every world that keeps w outside S. -/
def Stab (S : Nat → Prop) (w : World) (P : World → Prop) : Prop := ∀ w', Ext S w w' → P w'
theorem Stab.here {S : Nat → Prop} {w : World} {P : World → Prop} (h : Stab S w P) : P w := h w (Ext.refl S w)
theorem Stab.step {S S1 : Nat → Prop} {w w1 : World} {P : World → Prop} (h : Stab S w P) (he : Ext S w w1) (hs : ∀ k, k < w.heap.size → S1 k → S k) : Stab S1 w1 P :=
  fun w' h' => h w' ⟨Nat.le_trans he.size h'.size, fun k hk hn => (h'.block k (Nat.lt_of_lt_of_le hk he.size) (fun x => hn (hs k hk x))).trans (he.block k hk hn)⟩
theorem Stab.below {S : Nat → Prop} {w w1 : World} {P : World → Prop} (h : Stab S w P) (hb : Below w.heap.size w w1) : Stab S w1 P := h.step (Ext.of_below hb) (fun _ _ x => x)
theorem Stab.mono {S S1 : Nat → Prop} {w : World} {P : World → Prop} (h : Stab S w P) (hs : ∀ k, k < w.heap.size → S1 k → S k) : Stab S1 w P := h.step (Ext.refl S w) hs
theorem Stab.imp {S : Nat → Prop} {w : World} {P Q : World → Prop} (h : Stab S w P) (hq : ∀ w', P w' → Q w') : Stab S w Q := fun w' h' => hq w' (h w' h')
theorem Stab.and {S : Nat → Prop} {w : World} {P Q : World → Prop} (h : Stab S w P) (k : Stab S w Q) : Stab S w (fun w => P w ∧ Q w) := fun w' h' => ⟨h w' h', k w' h'⟩
theorem Stab.const {S : Nat → Prop} {w : World} {P : Prop} (h : P) : Stab S w (fun _ => P) := fun _ _ => h

/-- Cells in a row. -/
def cellsAt (b off : Nat) (cs : List Value) (w : World) : Prop := ∀ j u, cs[j]? = some u → w.cell? ⟨b, off + j, none⟩ = some u
theorem cellsAt.nil (b off : Nat) (w : World) : cellsAt b off [] w := fun j u h => by simp at h
theorem cellsAt.lt {b off : Nat} {cs : List Value} {w : World} (h : cellsAt b off cs w) (hc : cs ≠ []) : b < w.heap.size := by
  cases cs with
  | nil => exact absurd rfl hc
  | cons u cs => exact World.block_lt_of_cell? w ⟨b, off + 0, none⟩ (h 0 u rfl)
theorem cellsAt.stab {S : Nat → Prop} {b off : Nat} {cs : List Value} {w : World} (h : cellsAt b off cs w) (hb : cs ≠ [] → ¬ S b) : Stab S w (cellsAt b off cs) := by
  intro w' he j u hj
  have hc : cs ≠ [] := by rintro rfl; simp at hj
  have hl := h.lt hc
  exact (World.cell?_of_block (a := ⟨b, off + j, none⟩) (he.block b hl (hb hc))).trans (h j u hj)

/-- A slice whose elements (sz cells each) read as xs. -/
def Row {α : Type} (sz : Nat) (R : α → List Value → World → Prop) (v : Value) (xs : List α) (w : World) : Prop :=
  ∃ a c, v = .slice a xs.length c ∧ xs.length ≤ c ∧ c ≤ maxLen ∧
    (xs ≠ [] → ∃ b off, a = some ⟨b, off, none⟩ ∧ ∀ (i : Nat) (x : α), xs[i]? = some x → ∃ cs, cs.length = sz ∧ cellsAt b (off + i * sz) cs w ∧ R x cs w)

/-- A row of the call's own (elements of sz cells, type e, made from block base on) that reads as xs: its block lies in S, its elements' readings stand outside S. -/
def Owns {α : Type} (e sz base : Nat) (R : α → List Value → World → Prop) (S : Nat → Prop) (v : Value) (xs : List α) (w : World) : Prop :=
  (∀ k, v.ownBlock = some k → S k) ∧ ∃ css : List (List Value), w.ownsRow base e sz v xs.length css.flatten ∧ css.length = xs.length ∧ (∀ cs ∈ css, cs.length = sz) ∧
    ∀ (i : Nat) (x : α) (cs : List Value), xs[i]? = some x → css[i]? = some cs → Stab S w (R x cs)

section
variable {α : Type} {e sz base : Nat} {R : α → List Value → World → Prop} {S S1 : Nat → Prop} {v : Value} {xs : List α} {w w1 : World}

theorem Owns.nil (e sz base : Nat) (R : α → List Value → World → Prop) (S : Nat → Prop) (w : World) : Owns e sz base R S (.slice none 0 0) ([] : List α) w :=
  ⟨fun k h => by simp [Value.ownBlock] at h, [], World.ownsRow_nil w base e sz, rfl, fun _ h => by simp at h, fun i x cs h => by simp at h⟩

theorem flatten_get {sz : Nat} : ∀ (css : List (List Value)) (_ : ∀ cs ∈ css, cs.length = sz) (i : Nat) (cs : List Value) (j : Nat) (u : Value), css[i]? = some cs → cs[j]? = some u → css.flatten[i * sz + j]? = some u := by
  intro css
  induction css with
  | nil => intro _ i cs j u h; simp at h
  | cons c css ih =>
    intro hl i cs j u hi hj
    have hc : c.length = sz := hl c (by simp)
    rw [List.flatten_cons]
    cases i with
    | zero =>
      have : c = cs := by simpa using hi
      subst this
      rw [Nat.zero_mul, Nat.zero_add, List.getElem?_append_left]
      · exact hj
      · rcases Nat.lt_or_ge j c.length with h | h
        · exact h
        · rw [List.getElem?_eq_none h] at hj; exact absurd hj (by simp)
    | succ i =>
      have h1 : css[i]? = some cs := by simpa using hi
      have := ih (fun cs h => hl cs (by simp [h])) i cs j u h1 hj
      rw [List.getElem?_append_right (by rw [hc, Nat.succ_mul]; omega)]
      rw [hc]
      have e1 : (i + 1) * sz + j - sz = i * sz + j := by rw [Nat.succ_mul]; omega
      rw [e1]; exact this

theorem Owns.cells (h : Owns e sz base R S v xs w) {g : Nat} (hg : v.ownBlock = some g) : ∃ css : List (List Value), css.length = xs.length ∧ (∀ cs ∈ css, cs.length = sz) ∧ (∀ (i : Nat) (x : α) (cs : List Value), xs[i]? = some x → css[i]? = some cs → Stab S w (R x cs)) ∧
    ∀ (i : Nat) (cs : List Value), css[i]? = some cs → cellsAt g (i * sz) cs w := by
  obtain ⟨_, css, ho, hl, hz, hr⟩ := h
  refine ⟨css, hl, hz, hr, fun i cs hi j u hj => ?_⟩
  have := ho.cells hg (i * sz + j) u (flatten_get css hz i cs j u hi hj)
  unfold Addr.add at this
  split at this
  · rename_i h0; rw [h0]; exact this
  · simpa using this

theorem Owns.shape (h : Owns e sz base R S v xs w) : (v = .slice none 0 0 ∧ xs = []) ∨ ∃ g cap, v = .slice (some ⟨g, 0, none⟩) xs.length cap ∧ base ≤ g ∧ xs.length ≤ cap ∧ cap ≤ maxLen ∧ g < w.heap.size := by
  obtain ⟨_, css, ⟨_, ho⟩, _⟩ := h
  rcases ho with ⟨h1, h2⟩ | ⟨g, cap, cur, h1, h2, h3, h4, h5, _⟩
  · exact .inl ⟨h1, List.eq_nil_of_length_eq_zero h2⟩
  · refine .inr ⟨g, cap, h1, h2, h4, h5, ?_⟩
    rcases Nat.lt_or_ge g w.heap.size with h | h
    · exact h
    · rw [Array.getElem?_eq_none h] at h3; exact absurd h3 (by simp)

/-- What the call owns reads as a slice, in every world that keeps what lies outside S0. -/
theorem Owns.row (h : Owns e sz base R S v xs w) {S0 : Nat → Prop} (hs : ∀ k, k < w.heap.size → S0 k → S k) (hb : ∀ k, v.ownBlock = some k → ¬ S0 k) : Stab S0 w (Row sz R v xs) := by
  intro w' he
  rcases h.shape with ⟨rfl, rfl⟩ | ⟨g, cap, rfl, _, hcap, hmax, hlt⟩
  · exact ⟨none, 0, rfl, Nat.le_refl _, Nat.zero_le _, fun h => absurd rfl h⟩
  · refine ⟨_, cap, rfl, hcap, hmax, fun _ => ⟨g, 0, rfl, fun i x hi => ?_⟩⟩
    obtain ⟨css, hl, hz, hr, hc⟩ := h.cells (g := g) rfl
    have hil : i < xs.length := by
      rcases Nat.lt_or_ge i xs.length with h | h
      · exact h
      · rw [List.getElem?_eq_none h] at hi; exact absurd hi (by simp)
    have hci : css[i]? = some css[i] := List.getElem?_eq_getElem (by omega)
    refine ⟨css[i], hz _ (List.getElem_mem _), ?_, hr i x _ hi hci w' (he.mono hs)⟩
    rw [Nat.zero_add]
    exact (hc i _ hci).stab (fun _ => hb g rfl) w' he

theorem Owns.step (h : Owns e sz base R S v xs w) (he : Ext S w w1) (hb : ∀ k, v.ownBlock = some k → w1.heap[k]? = w.heap[k]?) (hs : ∀ k, k < w.heap.size → S1 k → S k) (hs1 : ∀ k, v.ownBlock = some k → S1 k) : Owns e sz base R S1 v xs w1 := by
  obtain ⟨h0, css, ⟨h1, ho⟩, hl, hz, hr⟩ := h
  refine ⟨hs1, css, ⟨h1, ?_⟩, hl, hz, fun i x cs hi hc => (hr i x cs hi hc).step he hs⟩
  rcases ho with ho | ⟨g, cap, cur, rfl, hg, hh, r⟩
  · exact .inl ho
  · exact .inr ⟨g, cap, cur, rfl, hg, (hb g rfl).trans hh, r⟩

theorem Owns.lt (h : Owns e sz base R S v xs w) : ∀ k, v.ownBlock = some k → base ≤ k ∧ k < w.heap.size := by
  obtain ⟨_, css, ho, _⟩ := h
  exact ho.lt

theorem Owns.below (h : Owns e sz base R S v xs w) (hb : Below w.heap.size w w1) : Owns e sz base R S v xs w1 :=
  h.step (Ext.of_below hb) (fun k hk => hb.block k (h.lt k hk).2) (fun _ _ x => x) h.1

/-- The kit's law of append on a row of the call's own, and where the row then lies. -/
theorem run_append_own2 {P : Program} {w : World} (base : Nat) (t ty e : TypeId) (i : TypeInfo) (z : Value) (size bytes : Nat) (ht : P.underlying t = some (.slice e)) (hi : P.info? e = some i) (hz : i.zero = some z)
    (hsize : i.size = size) (hby : i.bytes = bytes) (hzs : z.cells.size = size) (hsz : 0 < size) (v : Value) (n : Nat) (xs : List Value) (hown : w.ownsRow base e size v n xs)
    (a : Addr) (m c : Nat) (news : List Value) (hl : news.length = m * size) (hnews : ∀ j u, news[j]? = some u → w.cell? (a.add j) = some u) (h1 : ∀ u ∈ news, u.oneCell' = true)
    (h63 : n + m ≤ maxLen) (hbytes : (n + m) * bytes ≤ 140737488355328) (hbase : base ≤ w.heap.size) :
    ∃ v' w', (Builtin.append_ #[t, t] ty #[v, .slice (some a) m c]).run P w = .ok v' w' ∧ w'.ownsRow base e size v' (n + m) (xs ++ news) ∧ w.grownBy w' v.ownBlock ∧
      ∀ k, v'.ownBlock = some k → v.ownBlock = some k ∨ k = w.heap.size := by
  obtain ⟨v1, w1, hrun, ho1, hg1, _⟩ := run_append_own (P := P) w base t ty e i z size bytes ht hi hz hsize hby hzs hsz v n xs hown a m c news hl hnews h1 h63 hbytes hbase
  refine ⟨v1, w1, hrun, ho1, hg1, ?_⟩
  subst hsize
  subst hby
  have ho := hown
  have hb := hbytes
  have h63' := h63
  unfold maxLen at h63'
  intro k hk
  rcases ho.2 with ⟨rfl, hn0⟩ | ⟨g, cap, cur, rfl, hbg, hgc, hnc, hcm, hcs, htake⟩
  · subst hn0
    by_cases hm : m = 0
    · subst hm
      have hr2 : (Builtin.append_ #[t, t] ty #[.slice none 0 0, .slice (some a) 0 c]).run P w = .ok (.slice none 0 0) w := by
        simp [Builtin.append_, run_underlying ht, sizeOf, typeInfo, hi, Builtin.lenOf, Builtin.firstCells, loadCells, loadCellsFrom]
      rw [hr2] at hrun
      injection hrun with e1 e2
      rw [← e1] at hk
      simp [Value.ownBlock] at hk
    · rw [Nat.add_mul] at hb
      have hr2 := run_append_nil (P := P) w t ty e i z ht hi hz a m c news hl hnews (by omega) (by omega) (by omega)
      rw [hr2] at hrun
      injection hrun with e1 e2
      rw [← e1] at hk
      right
      simpa [Value.ownBlock] using hk.symm
  · by_cases hroom : n + m ≤ cap
    · have hfit : n * i.size + news.length ≤ cur.size := by rw [hl, hcs, ← Nat.add_mul]; exact Nat.mul_le_mul_right _ hroom
      have hr2 := run_append_room (P := P) w t ty e i ht hi g n cap cur hgc a m c news hl hnews h1 hroom hfit
      rw [hr2] at hrun
      injection hrun with e1 e2
      rw [← e1] at hk
      exact .inl hk
    · have holds : ∀ j u, xs[j]? = some u → w.cell? ((⟨g, 0, none⟩ : Addr).add j) = some u := ho.cells (g := g) rfl
      have hr2 := run_append_grow (P := P) w t ty e i z ht hi hz ⟨g, 0, none⟩ n cap xs ho.1 holds a m c news hl hnews (by omega) (by omega) (growslice_fits (by omega) hbytes)
      rw [hr2] at hrun
      injection hrun with e1 e2
      rw [← e1] at hk
      right
      simpa [Value.ownBlock] using hk.symm

theorem World.grownBy.trans2 {w w1 w2 : World} {v v1 : Value} (h1 : w.grownBy w1 v.ownBlock) (h2 : w1.grownBy w2 v1.ownBlock) (hv : ∀ k, v1.ownBlock = some k → v.ownBlock = some k ∨ w.heap.size ≤ k) : w.grownBy w2 v.ownBlock :=
  ⟨h2.os.trans h1.os, h2.tape.trans h1.tape, h2.output.trans h1.output, Nat.le_trans h1.size h2.size, fun k hk hne => (h2.block k (Nat.lt_of_lt_of_le hk h1.size) (fun e => by
    rcases hv k e.symm with h | h
    · exact hne h.symm
    · omega)).trans (h1.block k hk hne)⟩
theorem grown_of_below {w w1 : World} (h : Below w.heap.size w w1) (row : Option Nat) : w.grownBy w1 row := ⟨h.os, h.tape, h.output, h.size, fun k hk _ => h.block k hk⟩

/-- What is written behind a row of the call's own: cells of m elements at an address; the row's new block, if there is one, is w.heap.size. -/
theorem Owns.append {P : Program} {t ty : TypeId} {i : TypeInfo} {z : Value} {bytes : Nat} (ht : P.underlying t = some (.slice e)) (hi : P.info? e = some i) (hz : i.zero = some z)
    (hsize : i.size = sz) (hby : i.bytes = bytes) (hzs : z.cells.size = sz) (hsz : 0 < sz) (h : Owns e sz base R S v xs w)
    {a : Addr} {c : Nat} {ys : List α} {css' : List (List Value)} (hl : css'.length = ys.length) (hcl : ∀ cs ∈ css', cs.length = sz) (hc1 : ∀ cs ∈ css', ∀ u ∈ cs, u.oneCell' = true)
    (hnews : ∀ j u, css'.flatten[j]? = some u → w.cell? (a.add j) = some u) (hR : ∀ (i : Nat) (y : α) (cs : List Value), ys[i]? = some y → css'[i]? = some cs → Stab S w (R y cs))
    (h63 : xs.length + ys.length ≤ maxLen) (hbytes : (xs.length + ys.length) * bytes ≤ 140737488355328) (hbase : base ≤ w.heap.size) :
    ∃ v1 w1, (Builtin.append_ #[t, t] ty #[v, .slice (some a) ys.length c]).run P w = .ok v1 w1 ∧ w.grownBy w1 v.ownBlock ∧ Owns e sz base R (fun k => S k ∨ k = w.heap.size) v1 (xs ++ ys) w1 := by
  subst hsize
  subst hby
  have hfl : ∀ (l : List (List Value)), (∀ cs ∈ l, cs.length = i.size) → l.flatten.length = l.length * i.size := by
    intro l
    induction l with
    | nil => intro _; simp
    | cons c l ih => intro h; rw [List.flatten_cons, List.length_append, ih (fun cs hc => h cs (by simp [hc])), h c (by simp), List.length_cons, Nat.succ_mul]; omega
  have hl' : css'.flatten.length = ys.length * i.size := by rw [hfl _ hcl, hl]
  have h1' : ∀ u ∈ css'.flatten, u.oneCell' = true := by
    intro u hu
    obtain ⟨cs, hcs, hu⟩ := List.mem_flatten.1 hu
    exact hc1 cs hcs u hu
  obtain ⟨h0, css, ho, hcl0, hz0, hr0⟩ := h
  obtain ⟨v1, w1, hrun, ho1, hg1, hb1⟩ := run_append_own2 (P := P) (w := w) base t ty e i z i.size i.bytes ht hi hz rfl rfl hzs hsz v xs.length css.flatten ho a ys.length c css'.flatten hl' hnews h1' h63 hbytes hbase
  refine ⟨v1, w1, hrun, hg1, ?_, css ++ css', ?_, by simp [hcl0, hl], ?_, ?_⟩
  · intro k hk
    rcases hb1 k hk with h | h
    · exact .inl (h0 k h)
    · exact .inr h
  · rw [List.length_append, List.flatten_append]; exact ho1
  · intro cs hc
    rcases List.mem_append.1 hc with hc | hc
    · exact hz0 cs hc
    · exact hcl cs hc
  · intro j y cs hj hc
    have he : Ext S w w1 := Ext.grown hg1 h0
    have hS : ∀ k, k < w.heap.size → (S k ∨ k = w.heap.size) → S k := by
      intro k hk h
      rcases h with h | h
      · exact h
      · omega
    rcases Nat.lt_or_ge j xs.length with hlt | hge
    · rw [List.getElem?_append_left hlt] at hj
      rw [List.getElem?_append_left (by omega)] at hc
      exact (hr0 j y cs hj hc).step he hS
    · rw [List.getElem?_append_right hge] at hj
      rw [List.getElem?_append_right (by omega)] at hc
      rw [hcl0] at hc
      exact (hR _ y cs hj hc).step he hS
end

end Go.Proofs.YthkmjafmmohogaaGreatDoor
