/- Contracts of package varint, and of slices.Clone at bytes. -/
import Derived.Test.YthkmjafmmohogaaGreatDoorVarint
namespace Go.Proofs.YthkmjafmmohogaaGreatDoor
open Go Go.RowKit
set_option linter.unusedVariables false
set_option maxHeartbeats 1000000

theorem take64_short (v : Value) (l : List UInt8) (w : World) (h : Bytes v l w) (hl : l.length < 8) :
    Calls Tryz.prog 171 #[v] w fun e w' => e = .returned (.tuple #[.int .u64 0, .int .i64 5]) ∧ w' = w := by
  obtain ⟨a, c, rfl, hc, hm, hb⟩ := h.form
  unfold maxLen at hm
  go_enter Tryz.func171, Tryz.ntmps171
  go_wp2
  go_ret2
  exact ⟨rfl, rfl⟩
theorem take64_l (v : Value) (l : List UInt8) (w : World) (h : Bytes v l w) (hl : 8 ≤ l.length) :
    Calls Tryz.prog 171 #[v] w fun e w' => e = .returned (.tuple #[.int .u64 (leN (l.take 8)), .int .i64 0]) ∧ ∃ n, w' = w.drewN n := by
  obtain ⟨a4, c4, hB, hcut, hcut2, hcut3, hrun_⟩ := h.cut 4 l.length (by omega) (Nat.le_refl _)
  rw [List.take_length] at hB hrun_
  have hrun := hrun_ 4 rfl rfl
  have hd : 4 ≤ (l.drop 4).length := by simp; omega
  have e1 := leN_lt (l.take 4)
  have e2 := leN_lt ((l.drop 4).take 4)
  have e3 : leN (l.take 8) = leN (l.take 4) + leN ((l.drop 4).take 4) * 4294967296 := by
    have : l.take 8 = l.take 4 ++ (l.drop 4).take 4 := by rw [← List.take_add]
    rw [this, leN_append, List.length_take, show min 4 l.length = 4 from by omega, Nat.mul_comm]
  rw [List.length_take, show min 4 l.length = 4 from by omega] at e1
  rw [List.length_take, show min 4 (l.drop 4).length = 4 from by omega] at e2
  simp only [Nat.reduceMul, Nat.reducePow] at e1 e2
  have HE := Lib.hid e3
  clear e3
  obtain ⟨a, c, rfl, hc, hm, hb⟩ := h.form
  unfold maxLen at hm
  have h32 := take32_l _ l w h (by omega)
  have h32' := fun n => take32_l _ (l.drop 4) (w.drewN n) hB hd
  clear hrun_ hcut hcut2 hcut3
  generalize l.drop 4 = d at *
  generalize leN (l.take 4) = x at *
  generalize leN (d.take 4) = y at *
  have hor := bits_or_high .u64 64 (by decide) wraps_u64 x y 32 e1 (by omega)
  simp only [Nat.reducePow, Int.natCast_add, Int.natCast_mul, Int.cast_ofNat_Int] at hor
  have H32 := Lib.hid h32
  have H32' := Lib.hid h32'
  clear h32 h32' hb
  go_enter Tryz.func171, Tryz.ntmps171
  go_wp2_with fail
  refine H32.out.mono ?_
  rintro e w' ⟨rfl, n, rfl⟩
  go_wp2_with fail
  refine (H32'.out n).mono ?_
  rintro e w' ⟨rfl, m, rfl⟩
  go_wp2_with fail
  go_ret2
  exact ⟨by rw [HE.out]; simp only [Int.natCast_add, Int.natCast_mul, Int.cast_ofNat_Int]; rfl, n + m, rfl⟩

/-- It hands back new bytes; nothing that was there has turned. -/
def RetFresh (w : World) (l : List UInt8) (e : Ending) (w' : World) : Prop := ∃ v', e = .returned v' ∧ Fresh w.heap.size v' l w' ∧ Below w.heap.size w w'

theorem clone_c (v : Value) (l : List UInt8) (w : World) (h : Bytes v l w) (hl : l.length ≤ 140737488355328) :
    Calls Tryz.prog 38 #[v] w (RetFresh w l) := by
  have hnil := fun (a : Option Addr) (n c : Nat) (w : World) => Lib.run_eql_slice_nil (P := Tryz.prog) w 34 5 a n c 0 0 Tryz.underlying34
  rcases h with ⟨rfl, rfl⟩ | ⟨a, c, rfl, h1, h2, h3⟩
  · go_enter Tryz.func38, Tryz.ntmps38
    go_wp2
    go_ret
    exact ⟨_, rfl, Fresh.nil _ _, Below.refl _ _⟩
  · have hB : Bytes (.slice (some a) l.length c) l w := .inr ⟨a, c, rfl, h1, h2, h3⟩
    go_enter Tryz.func38, Tryz.ntmps38
    go_wp2_with (refine at_dst 7 rfl ?_; refine wpList_app_bytes rfl rfl (base := w.heap.size) (l := []) (m := l) (Fresh.lit w _ (Nat.le_refl _) [] #[] 0 rfl (Nat.zero_le _) rfl) (hB.below (balloc _ _)) ?c1 ?c2 ?_; (case c1 => simpa using hl); (case c2 => simp); intro v1 w1 hf hbel hgr)
    go_ret
    exact ⟨_, rfl, hf, (balloc _ _).trans hbel⟩
end Go.Proofs.YthkmjafmmohogaaGreatDoor
