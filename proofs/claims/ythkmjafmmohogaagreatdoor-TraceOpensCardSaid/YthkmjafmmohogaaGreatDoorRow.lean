/- Rows of the call's own: append at the operation. No program in sight. -/
import Derived.Test.YthkmjafmmohogaaGreatDoorCore
namespace Go.Proofs.YthkmjafmmohogaaGreatDoor
open Go Go.RowKit
set_option linter.unusedVariables false

section
variable {α : Type} {P : Program} {e sz base : Nat} {R : α → List Value → World → Prop} {S : Nat → Prop} {xs : List α}
/-- append(out, x) at the operation, one element in a block of its own. -/
theorem wpList_app_one {ops : Array Oper} {rest : List Oper} {o : Oper} {a : Act} {w : World} {Q : Exit → Act → World → Prop} (hgd : o.guard = none) {s x : Operand} {t : TypeId}
    (ho : o.op = .call { callee := .builtin .append, args := #[s, x], argTypes := #[t, t] }) {i : TypeInfo} {z : Value} {bytes : Nat} (ht : P.underlying t = some (.slice e)) (hi : P.info? e = some i) (hz : i.zero = some z)
    (hsize : i.size = sz) (hby : i.bytes = bytes) (hzs : z.cells.size = sz) (hsz : 0 < sz) (hv : Owns e sz base R S (a.eval s) xs w) {g c : Nat} {y : α} {cs : Array Value} {el : TypeId} {fr : Nat × Nat}
    (hx : a.eval x = .slice (some ⟨g, 0, none⟩) 1 c) (hb : w.heap[g]? = some (.cells cs el fr)) (hcs : cs.size = sz) (hone : ∀ u ∈ cs.toList, u.oneCell' = true) (hR : Stab S w (R y cs.toList))
    (h63 : xs.length + 1 ≤ maxLen) (hbytes : (xs.length + 1) * bytes ≤ 140737488355328) (hbase : base ≤ w.heap.size)
    (h : ∀ v1 w1, w.grownBy w1 (a.eval s).ownBlock → Owns e sz base R (fun k => S k ∨ k = w.heap.size) v1 (xs ++ [y]) w1 → wpList P ops Q rest (a.put o.dst v1) w1) : wpList P ops Q (o :: rest) a w := by
  refine wpList_plain hgd fun K hK => ?_
  obtain ⟨v1, w1, hr, hg, ho1⟩ := hv.append (P := P) (t := t) (ty := o.type) ht hi hz hsize hby hzs hsz (a := ⟨g, 0, none⟩) (c := c) (ys := [y]) (css' := [cs.toList]) rfl (by simp [hcs]) (by simpa using hone)
    (by
      intro j u hj
      simp only [List.flatten_cons, List.flatten_nil, List.append_nil, Array.getElem?_toList] at hj
      have := blk_cell hb j
      unfold Addr.add
      split
      · rename_i h0; rw [h0] at this hj; rw [this]; exact hj
      · simp only [Nat.zero_add]; rw [this]; exact hj)
    (by
      intro i' y' cs' hy hc
      cases i' with
      | zero => simp at hy hc; subst hy; subst hc; exact hR
      | succ i' => simp at hy)
    (by simpa using h63) (by simpa using hbytes) hbase
  unfold Oper.wp execOp
  simp only [List.length_singleton] at hr
  simp only [ho, resolve, invoke, builtin, Sem.run_bind, Sem.run_pure, Result.andThen_ok, List.map_toArray, List.map_cons, List.map_nil, hx, hr]
  exact hK _ _ (h v1 w1 hg ho1)
end
end Go.Proofs.YthkmjafmmohogaaGreatDoor
