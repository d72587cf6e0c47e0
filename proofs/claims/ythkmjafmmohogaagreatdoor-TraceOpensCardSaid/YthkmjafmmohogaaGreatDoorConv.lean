/- Texts and bytes, at the operation. -/
import Derived.Test.YthkmjafmmohogaaGreatDoorBytes
import Derived.Test.YthkmjafmmohogaaGreatDoorMap
import Derived.Lib.ConvBytes
import Derived.Laws.AppendOwn
namespace Go.Proofs.YthkmjafmmohogaaGreatDoor
open Go Go.RowKit
set_option linter.unusedVariables false

/-- []byte(s). -/
theorem wpList_tobytes {ops : Array Oper} {rest : List Oper} {o : Oper} {a : Act} {w : World} {Q : Exit → Act → World → Prop} (hgd : Region.wanted o (yielded ops a.tmps) = true) {x : Operand} (ho : o.op = .convert 9 34 x)
    {s : ByteArray} (hx : a.eval x = .string s) (hs : s.size ≤ 140737488355328)
    (h : ∀ v w1, Bytes v s.data.toList w1 → Below w.heap.size w w1 → (∀ k, v.ownBlock = some k → w.heap.size ≤ k) → wpList Tryz.prog ops Q rest (a.put o.dst v) w1) : wpList Tryz.prog ops Q (o :: rest) a w := by
  refine wpList_wanted hgd fun K hK => ?_
  have hrun := Lib.run_convert_string_bytes (P := Tryz.prog) w 9 34 5 s Tryz.underlying9 Tryz.underlying34 Tryz.underlying5
  have hge := grownCap_ge w s.size 0 5
  have hle := grownCap_le_maxLen w s.size 0 5 (by unfold maxLen; omega)
  have hbel : Below w.heap.size w (Lib.bytesWorld w 5 s) := ⟨rfl, rfl, rfl, by rw [Lib.bytesWorld_size]; omega, fun k hk => Lib.bytesWorld_at_old w _ s k hk⟩
  have hlen : s.data.toList.length = s.size := by rw [Array.length_toList]; rfl
  have hB : Bytes (.slice (some ⟨w.heap.size, 0, none⟩) s.size (grownCap w s.size 0 5)) s.data.toList (Lib.bytesWorld w 5 s) := by
    have : Bytes (.slice (some ⟨w.heap.size, 0, none⟩) s.data.toList.length (grownCap w s.size 0 5)) s.data.toList (Lib.bytesWorld w 5 s) :=
      .inr ⟨_, _, rfl, by rw [hlen]; exact hge, hle, fun _ => ⟨w.heap.size, 0, rfl, fun j u hj => by
        have hjl : j < s.data.toList.length := by
          rcases Nat.lt_or_ge j s.data.toList.length with h | h
          · exact h
          · rw [List.getElem?_eq_none (by rw [bcells_length]; exact h)] at hj; simp at hj
        rw [bcells_get hjl] at hj
        rw [Nat.zero_add, Lib.bytesWorld_cell w 5 s j (by rw [← hlen]; exact hjl)]
        rw [← hj]
        simp only [List.getD_eq_getElem?_getD, List.getElem?_eq_getElem hjl, Option.getD_some]
        rfl⟩⟩
    rw [hlen] at this
    exact this
  unfold Oper.wp
  simp only [execOp, ho, hx, Sem.run_bind, hrun, Result.andThen]
  exact hK _ _ (h _ _ hB hbel (fun k hk => by simp [Value.ownBlock] at hk; omega))
end Go.Proofs.YthkmjafmmohogaaGreatDoor
