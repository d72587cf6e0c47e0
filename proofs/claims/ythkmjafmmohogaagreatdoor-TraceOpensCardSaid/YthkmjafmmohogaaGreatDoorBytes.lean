/- Slices of bytes: readings, rows of the call's own, cuts, appends. -/
import Derived.Test.YthkmjafmmohogaaGreatDoorProg
import Derived.Test.YthkmjafmmohogaaGreatDoorCore
import Derived.Outline
import Derived.Deep.QuietTactic
import Derived.BigQuiet
import Derived.WalkLawsBesides
import Derived.WalkSpells
import Derived.KernelRfl
import Derived.Laws.AppendOwnNone
namespace Go.Proofs.YthkmjafmmohogaaGreatDoor
open Go Go.RowKit
set_option linter.unusedVariables false
set_option maxHeartbeats 1000000

/-- The operation that writes slot N stands next. -/
theorem at_dst {P : Program} {ops : Array Oper} {Q : Exit → Act → World → Prop} {o : Oper} {rest : List Oper} {a : Act} {w : World} (N : Nat) (hd : o.dst = some N) (h : wpList P ops Q (o :: rest) a w) : wpList P ops Q (o :: rest) a w := h

def bcell (c : UInt8) : Value := .int .u8 (c.toNat : Int)
def bcells (l : List UInt8) : List Value := l.map bcell
theorem bcells_length (l : List UInt8) : (bcells l).length = l.length := by simp [bcells]
theorem bcells_append (l m : List UInt8) : bcells (l ++ m) = bcells l ++ bcells m := by simp [bcells]
theorem bcells_get {l : List UInt8} {k : Nat} (h : k < l.length) : (bcells l)[k]? = some (bcell l[k]) := by simp [bcells, h]
theorem bcells_one (l : List UInt8) : ∀ u ∈ bcells l, u.oneCell' = true := by
  intro u hu
  obtain ⟨c, _, rfl⟩ := List.mem_map.1 hu
  rfl
theorem bcells_drop (l : List UInt8) (k : Nat) : bcells (l.drop k) = (bcells l).drop k := by simp [bcells]

/-- A slice of bytes that reads as l. -/
def Bytes (v : Value) (l : List UInt8) (w : World) : Prop :=
  (v = .slice none 0 0 ∧ l = []) ∨ ∃ a c, v = .slice (some a) l.length c ∧ l.length ≤ c ∧ c ≤ maxLen ∧ (l ≠ [] → ∃ b off, a = ⟨b, off, none⟩ ∧ cellsAt b off (bcells l) w)
theorem Bytes.form {v : Value} {l : List UInt8} {w : World} (h : Bytes v l w) : ∃ a c, v = .slice a l.length c ∧ l.length ≤ c ∧ c ≤ maxLen ∧ (l ≠ [] → ∃ b off, a = some ⟨b, off, none⟩ ∧ cellsAt b off (bcells l) w) := by
  rcases h with ⟨rfl, rfl⟩ | ⟨a, c, rfl, h1, h2, h3⟩
  · exact ⟨none, 0, rfl, Nat.le_refl _, Nat.zero_le _, fun h => absurd rfl h⟩
  · exact ⟨some a, c, rfl, h1, h2, fun h => by obtain ⟨b, off, rfl, h⟩ := h3 h; exact ⟨b, off, rfl, h⟩⟩
theorem Bytes.of_form {a : Option Addr} {c : Nat} {l : List UInt8} {w : World} (ha : a = none → c = 0) (h1 : l.length ≤ c) (h2 : c ≤ maxLen) (h3 : l ≠ [] → ∃ b off, a = some ⟨b, off, none⟩ ∧ cellsAt b off (bcells l) w) : Bytes (.slice a l.length c) l w := by
  cases a with
  | none =>
    have := ha rfl
    have hl : l = [] := List.eq_nil_of_length_eq_zero (by omega)
    subst hl
    subst this
    exact .inl ⟨rfl, rfl⟩
  | some a => exact .inr ⟨a, c, rfl, h1, h2, fun h => by obtain ⟨b, off, e, h⟩ := h3 h; exact ⟨b, off, by simpa using e, h⟩⟩

/-- A row of bytes of the call's own. -/
def Fresh (base : Nat) (v : Value) (l : List UInt8) (w : World) : Prop := w.ownsRow base 5 1 v l.length (bcells l)
theorem Fresh.nil (base : Nat) (w : World) : Fresh base (.slice none 0 0) [] w := World.ownsRow_nil w base _ _
theorem Fresh.mono {base base' : Nat} {v : Value} {l : List UInt8} {w : World} (h : Fresh base v l w) (hb : base' ≤ base) : Fresh base' v l w := by
  obtain ⟨h1, h2⟩ := h
  refine ⟨h1, ?_⟩
  rcases h2 with h2 | ⟨g, cap, cur, rfl, hg, r⟩
  · exact .inl h2
  · exact .inr ⟨g, cap, cur, rfl, Nat.le_trans hb hg, r⟩
theorem Fresh.step {base : Nat} {v : Value} {l : List UInt8} {w w1 : World} (h : Fresh base v l w) (hk : ∀ k, v.ownBlock = some k → w1.heap[k]? = w.heap[k]?) : Fresh base v l w1 := by
  obtain ⟨h1, h2⟩ := h
  refine ⟨h1, ?_⟩
  rcases h2 with h2 | ⟨g, cap, cur, rfl, hg, hh, r⟩
  · exact .inl h2
  · exact .inr ⟨g, cap, cur, rfl, hg, (hk g rfl).trans hh, r⟩
theorem Fresh.below {base : Nat} {v : Value} {l : List UInt8} {w w1 : World} (h : Fresh base v l w) (hb : Below w.heap.size w w1) : Fresh base v l w1 :=
  h.step (fun k hk => hb.block k (World.ownsRow.lt h k hk).2)
theorem Fresh.stab {base : Nat} {v : Value} {l : List UInt8} {w : World} (h : Fresh base v l w) {S : Nat → Prop} (hS : ∀ k, v.ownBlock = some k → ¬ S k) : Stab S w (Bytes v l) := by
  intro w' he
  rcases h.2 with ⟨rfl, hn⟩ | ⟨g, cap, cur, rfl, hg, hh, h1, h2, h3⟩
  · exact .inl ⟨rfl, List.eq_nil_of_length_eq_zero hn⟩
  · refine .inr ⟨_, cap, rfl, h1, h2, fun _ => ⟨g, 0, rfl, ?_⟩⟩
    have hc : cellsAt g 0 (bcells l) w := by
      intro j u hj
      have := World.ownsRow.cells h (g := g) rfl j u hj
      unfold Addr.add at this
      split at this
      · rename_i h0; rw [h0]; exact this
      · exact this
    exact hc.stab (fun _ => hS g rfl) w' he
theorem Fresh.bytes {base : Nat} {v : Value} {l : List UInt8} {w : World} (h : Fresh base v l w) : Bytes v l w := (h.stab (S := fun _ => False) (fun _ _ x => x)).here
theorem Fresh.lt {base : Nat} {v : Value} {l : List UInt8} {w : World} (h : Fresh base v l w) : ∀ k, v.ownBlock = some k → base ≤ k ∧ k < w.heap.size := World.ownsRow.lt h
theorem Fresh.set {base : Nat} {v : Value} {l : List UInt8} {w : World} (h : Fresh base v l w) {p : Addr} (hp : p.block < base) (u : Value) : Fresh base v l (w.setCell p u) :=
  h.step (fun k hk => Below.heap_setCell _ _ _ _ (by have := (h.lt k hk).1; omega))
/-- What the call made reads outside every set of elder blocks. -/
theorem Fresh.stab_elder {w0 w : World} {v : Value} {l : List UInt8} (h : Fresh w0.heap.size v l w) (S : Nat → Prop) : Stab (fun k => S k ∧ k < w0.heap.size) w (Bytes v l) :=
  h.stab (fun k hk hs => by have := (h.lt k hk).1; omega)

theorem Bytes.below {v : Value} {l : List UInt8} {w w1 : World} (h : Bytes v l w) (hb : Below w.heap.size w w1) : Bytes v l w1 := by
  rcases h with ⟨rfl, rfl⟩ | ⟨a, c, rfl, h1, h2, h3⟩
  · exact .inl ⟨rfl, rfl⟩
  · refine .inr ⟨a, c, rfl, h1, h2, fun h => ?_⟩
    obtain ⟨b, off, rfl, hc⟩ := h3 h
    exact ⟨b, off, rfl, (hc.stab (S := fun _ => False) (fun _ x => x)) w1 (Ext.of_below hb)⟩

/-- New bytes out of a literal. -/
theorem Fresh.lit (w : World) (base : Nat) (hb : base ≤ w.heap.size) (l : List UInt8) (cs : Array Value) (n : Nat) (hn : n = l.length) (hl : l.length ≤ maxLen) (hc : cs.toList = bcells l) :
    Fresh base (.slice (some ⟨w.heap.size, 0, none⟩) n n) l (w.alloc (.cells cs 5)) := by
  subst hn
  refine ⟨by rw [bcells_length]; omega, .inr ⟨w.heap.size, l.length, cs, rfl, hb, heap_alloc_new w _, Nat.le_refl _, hl, ?_, ?_⟩⟩
  · rw [← Array.length_toList, hc, bcells_length]; omega
  · rw [hc, List.take_of_length_le (by rw [bcells_length]; omega)]

theorem Bytes.one (w : World) (X : Int) (c : UInt8) (h : X = (c.toNat : Int)) : Bytes (.slice (some ⟨w.heap.size, 0, none⟩) 1 1) [c] (w.alloc (.cells #[.int .u8 X] 5)) := by
  subst h
  exact (Fresh.lit w 0 (Nat.zero_le _) [c] #[bcell c] 1 rfl (by simp [maxLen]) rfl).bytes

theorem info_u8 : (Tryz.prog.info? 5).map (fun i => (i.zero, i.size, i.bytes)) = some (some (.int .u8 0), 1, 1) := by kernel_rfl

/-- append(v, x...) at bytes, v of the call's own. -/
theorem run_app_bytes {ty : TypeId} {base : Nat} {v x : Value} {l m : List UInt8} {w : World} (hv : Fresh base v l w) (hx : Bytes x m w) (hlen : l.length + m.length ≤ 140737488355328) (hbase : base ≤ w.heap.size) :
    ∃ v1 w1, (Builtin.append_ #[34, 34] ty #[v, x]).run Tryz.prog w = .ok v1 w1 ∧ Fresh base v1 (l ++ m) w1 ∧ w.grownBy w1 v.ownBlock ∧ ∀ k, v1.ownBlock = some k → v.ownBlock = some k ∨ k = w.heap.size := by
  obtain ⟨i, hi, hz, hs, hb⟩ := info_parts info_u8
  rcases hx with ⟨rfl, rfl⟩ | ⟨a, c, rfl, h1, h2, h3⟩
  · refine ⟨v, w, run_append_owned_none w base _ ty _ i 1 Tryz.underlying34 hi v l.length (bcells l) hv, by rw [List.append_nil]; exact hv, ⟨rfl, rfl, rfl, Nat.le_refl _, fun _ _ _ => rfl⟩, fun k hk => .inl hk⟩
  · have hnews : ∀ j u, (bcells m)[j]? = some u → w.cell? (a.add j) = some u := by
      intro j u hj
      have hm : m ≠ [] := by rintro rfl; simp [bcells] at hj
      obtain ⟨b, off, rfl, hc⟩ := h3 hm
      have := hc j u hj
      unfold Addr.add
      split
      · rename_i h0; rw [h0] at this; exact this
      · exact this
    obtain ⟨v1, w1, hr, ho, hg, hk⟩ := run_append_own2 (P := Tryz.prog) (w := w) base 34 ty 5 i (.int .u8 0) 1 1 Tryz.underlying34 hi hz hs hb rfl (by decide) v l.length (bcells l) hv a m.length c (bcells m) (by rw [bcells_length]; omega) hnews (bcells_one m) (by unfold maxLen; omega) (by omega) hbase
    refine ⟨v1, w1, hr, ?_, hg, hk⟩
    unfold Fresh
    rw [List.length_append, bcells_append]
    exact ho

theorem wpList_app_bytes {ops : Array Oper} {rest : List Oper} {o : Oper} {a : Act} {w : World} {Q : Exit → Act → World → Prop} (hgd : o.guard = none) {s x : Operand} (ho : o.op = .call { callee := .builtin .append, args := #[s, x], argTypes := #[34, 34] })
    {base : Nat} {l m : List UInt8} (hv : Fresh base (a.eval s) l w) (hx : Bytes (a.eval x) m w) (hlen : l.length + m.length ≤ 140737488355328) (hbase : base ≤ w.heap.size)
    (h : ∀ v1 w1, Fresh base v1 (l ++ m) w1 → Below base w w1 → w.grownBy w1 (a.eval s).ownBlock ∧ (∀ k, v1.ownBlock = some k → (a.eval s).ownBlock = some k ∨ k = w.heap.size) → wpList Tryz.prog ops Q rest (a.put o.dst v1) w1) : wpList Tryz.prog ops Q (o :: rest) a w := by
  refine wpList_plain hgd fun K hK => ?_
  obtain ⟨v1, w1, hr, ho1, hg, hk⟩ := run_app_bytes (ty := o.type) hv hx hlen hbase
  have hb : Below base w w1 := (Below.refl base w).grown hg hbase (fun k hk => (hv.lt k hk).1)
  unfold Oper.wp execOp
  simp only [ho, resolve, invoke, builtin, Sem.run_bind, Sem.run_pure, Result.andThen_ok, List.map_toArray, List.map_cons, List.map_nil, hr]
  exact hK _ _ (h v1 w1 ho1 hb ⟨hg, hk⟩)

theorem step_app_bytes {ops : Array Oper} {o : Oper} {a : Act} {w : World} {K : Act → World → Prop} {Q : Exit → Act → World → Prop} {E : Prop} (hgd : o.guard = none) {s x : Operand} (ho : o.op = .call { callee := .builtin .append, args := #[s, x], argTypes := #[34, 34] })
    {base : Nat} {l m : List UInt8} (hv : Fresh base (a.eval s) l w) (hx : Bytes (a.eval x) m w) (hlen : l.length + m.length ≤ 140737488355328) (hbase : base ≤ w.heap.size)
    (h : ∀ v1 w1, Fresh base v1 (l ++ m) w1 → Below base w w1 → w.grownBy w1 (a.eval s).ownBlock ∧ (∀ k, v1.ownBlock = some k → (a.eval s).ownBlock = some k ∨ k = w.heap.size) → K (a.put o.dst v1) w1) : if Region.wanted o (yielded ops a.tmps) = true then Oper.wp Tryz.prog o a w K Q else E := by
  obtain ⟨v1, w1, hr, ho1, hg, hk⟩ := run_app_bytes (ty := o.type) hv hx hlen hbase
  refine step_run hgd (v := v1) (w1 := w1) ?_ (h v1 w1 ho1 ((Below.refl base w).grown hg hbase (fun k hk => (hv.lt k hk).1)) ⟨hg, hk⟩)
  unfold execOp
  simp only [ho, resolve, invoke, builtin, Sem.run_bind, Sem.run_pure, Result.andThen_ok, List.map_toArray, List.map_cons, List.map_nil, hr]

theorem cellsAt.drop {b off : Nat} {cs : List Value} {w : World} (h : cellsAt b off cs w) (k : Nat) : cellsAt b (off + k) (cs.drop k) w := by
  intro j u hj
  have := h (k + j) u (by rw [List.getElem?_drop] at hj; exact hj)
  rw [show off + k + j = off + (k + j) from by omega]; exact this
theorem cellsAt.take {b off : Nat} {cs : List Value} {w : World} (h : cellsAt b off cs w) (k : Nat) : cellsAt b off (cs.take k) w := by
  intro j u hj
  refine h j u ?_
  rw [List.getElem?_take] at hj
  split at hj
  · exact hj
  · exact absurd hj (by simp)

/-- v[lo:hi] at bytes: the value, under one name. -/
theorem Bytes.cut {v : Value} {l : List UInt8} {w : World} (h : Bytes v l w) (lo hi : Nat) (h1 : lo ≤ hi) (h2 : hi ≤ l.length) :
    ∃ a c, Bytes (.slice a ((l.take hi).drop lo).length c) ((l.take hi).drop lo) w ∧
      (∀ S w', Stab S w' (Bytes v l) → Stab S w' (Bytes (.slice a ((l.take hi).drop lo).length c) ((l.take hi).drop lo))) ∧
      (∀ (x y : Int), x = (lo : Int) → y = (hi : Int) → ∀ w0, (Instr.slice 34 v (some (.int .i64 x)) (some (.int .i64 y)) none).run Tryz.prog w0 = .ok (.slice a ((l.take hi).drop lo).length c) w0) ∧
      (∀ (x : Int), lo = 0 → x = (hi : Int) → ∀ w0, (Instr.slice 34 v none (some (.int .i64 x)) none).run Tryz.prog w0 = .ok (.slice a ((l.take hi).drop lo).length c) w0) ∧
      (∀ (x : Int), hi = l.length → x = (lo : Int) → ∀ w0, (Instr.slice 34 v (some (.int .i64 x)) none none).run Tryz.prog w0 = .ok (.slice a ((l.take hi).drop lo).length c) w0) := by
  have hlen : ((l.take hi).drop lo).length = hi - lo := by simp; omega
  obtain ⟨a, c, hv, hc1, hc2, hb⟩ := h.form
  have hnil : a = none → c = 0 := by
    intro ha
    rcases h with ⟨e, rfl⟩ | ⟨a', c', e, _⟩
    · rw [hv] at e; simp at e; exact e.2
    · rw [hv, ha] at e; simp at e
  have he : Tryz.prog.elem 34 = 5 := by kernel_rfl
  have hu : Tryz.prog.underlying 34 = some (.slice (Tryz.prog.elem 34)) := by rw [he]; exact Tryz.underlying34
  obtain ⟨i, hi', hz, hs, hby⟩ := info_parts info_u8
  have hsz : ∀ w0, (sizeOf (Tryz.prog.elem 34)).run Tryz.prog w0 = .ok 1 w0 := by intro w0; rw [he]; simp [sizeOf, typeInfo, hi', hs]
  have hread : ∀ w', Bytes v l w' → Bytes (.slice (if c = lo then a else a.map (·.add (lo * 1))) ((l.take hi).drop lo).length (c - lo)) ((l.take hi).drop lo) w' := by
    intro w' h'
    obtain ⟨a', c', hv', hc1', hc2', hb'⟩ := h'.form
    rw [hv] at hv'
    simp only [Value.slice.injEq, true_and] at hv'
    obtain ⟨rfl, rfl⟩ := hv'
    refine Bytes.of_form ?_ (by rw [hlen]; omega) (by omega) ?_
    · intro ha
      have : a = none := by
        split at ha
        · exact ha
        · cases a with
          | none => rfl
          | some x => simp at ha
      have := hnil this; omega
    · intro hne
      have hl : l ≠ [] := by rintro rfl; simp at hne
      obtain ⟨b, off, ha, hcell⟩ := hb' hl
      have hlt : lo < c := by
        have : 0 < ((l.take hi).drop lo).length := List.length_pos_iff.2 hne
        omega
      refine ⟨b, off + lo, ?_, ?_⟩
      · rw [if_neg (by omega), ha]
        simp only [Option.map_some, Nat.mul_one]
        unfold Addr.add
        split
        · rename_i h0; rw [h0]; rfl
        · rfl
      · rw [show bcells ((l.take hi).drop lo) = ((bcells l).take hi).drop lo from by simp [bcells]]
        exact (hcell.take hi).drop lo
  refine ⟨_, _, hread w h, fun S w' hst w'' he => hread w'' (hst w'' he), ?_, ?_, ?_⟩
  · rintro x y rfl rfl w0
    rw [hv, run_slice_lh w0 34 a l.length c hu .i64 .i64 _ _ (by omega) (by omega) (by omega), hsz]
    simp only [Result.andThen, sliced, Int.toNat_natCast, hlen]
  · rintro x rfl rfl w0
    rw [hv, run_slice_h w0 34 a l.length c hu .i64 _ (by omega) (by omega), hsz]
    simp only [Result.andThen, sliced, Int.toNat_natCast, hlen]
  · rintro x rfl rfl w0
    rw [hv, run_slice_l w0 34 a l.length c hu .i64 _ (by omega) (by omega), hsz]
    simp only [Result.andThen, sliced, Int.toNat_natCast, hlen]
end Go.Proofs.YthkmjafmmohogaaGreatDoor
