/- Plain functions: varints and fields on the wire, as lists of bytes. No program in sight. -/
import Derived.Below
namespace Go.Proofs.YthkmjafmmohogaaGreatDoor
set_option linter.unusedVariables false

/-- varint.Take: the number, how many bytes, the error. -/
def vtakeGo : Nat → Nat → List UInt8 → Nat × Nat × Int
  | _, _, [] => (0, 0, 5)
  | i, n, c :: b =>
    if i = 9 ∧ 1 < c.toNat then (0, 0, 2)
    else if c.toNat < 128 then (n + c.toNat % 128 * 2 ^ (7 * i), i + 1, 0)
    else vtakeGo (i + 1) (n + c.toNat % 128 * 2 ^ (7 * i)) b
def vtake (l : List UInt8) : Nat × Nat × Int := vtakeGo 0 0 l

/-- Bytes as a number, the lowest first; a number's lowest bytes. -/
def leN : List UInt8 → Nat
  | [] => 0
  | c :: r => c.toNat + 256 * leN r
def low : Nat → Nat → List UInt8
  | 0, _ => []
  | k + 1, n => UInt8.ofNat n :: low k (n / 256)
/-- varint.Append's bytes. -/
def varint (n : Nat) : List UInt8 := if n < 128 then [UInt8.ofNat n] else UInt8.ofNat (n % 128 + 128) :: varint (n / 128)
termination_by n
decreasing_by omega
theorem varint_small (n : Nat) (h : n < 128) : varint n = [UInt8.ofNat n] := by rw [varint, if_pos h]
theorem varint_great (n : Nat) (h : ¬ n < 128) : varint n = UInt8.ofNat (n % 128 + 128) :: varint (n / 128) := by rw [varint, if_neg h]
theorem varint_len : ∀ k n, n < 128 * 2 ^ (7 * k) → 1 ≤ (varint n).length ∧ (varint n).length ≤ k + 1
  | 0, n, h => by rw [varint_small n (by simpa using h)]; simp
  | k + 1, n, h => by
    by_cases h1 : n < 128
    · rw [varint_small n h1]; simp
    · have := varint_len k (n / 128) (by rw [show 7 * (k + 1) = 7 * k + 7 from by omega, Nat.pow_add] at h; omega)
      rw [varint_great n h1, List.length_cons]
      omega
theorem varint_len10 (n : Nat) (h : n < 18446744073709551616) : 1 ≤ (varint n).length ∧ (varint n).length ≤ 10 := varint_len 9 n (by
  have : (2 : Nat) ^ (7 * 9) = 9223372036854775808 := by decide
  omega)
/-- Zigzag. -/
def zig (n : Int) : Nat := (if n < 0 then -2 * n - 1 else 2 * n).toNat
def zag (n : Nat) : Int := if n % 2 = 1 then -((n / 2 : Nat) : Int) - 1 else ((n / 2 : Nat) : Int)

theorem vtakeGo_nil (l : List UInt8) (i n : Nat) (h : l.length ≤ i) : vtakeGo i n (l.drop i) = (0, 0, 5) := by
  rw [List.drop_of_length_le h]; rfl
theorem vtakeGo_at (l : List UInt8) (i n : Nat) (h : i < l.length) : vtakeGo i n (l.drop i) =
    if i = 9 ∧ 1 < l[i].toNat then (0, 0, 2)
    else if l[i].toNat < 128 then (n + l[i].toNat % 128 * 2 ^ (7 * i), i + 1, 0)
    else vtakeGo (i + 1) (n + l[i].toNat % 128 * 2 ^ (7 * i)) (l.drop (i + 1)) := by
  rw [List.drop_eq_getElem_cons h, vtakeGo]

/-- How far a varint goes. -/
theorem vtakeGo_le : ∀ (l : List UInt8) (i n : Nat), i ≤ 9 → n < 2 ^ (7 * i) → (vtakeGo i n l).1 < 18446744073709551616 ∧ (vtakeGo i n l).2.1 ≤ i + l.length ∧ (vtakeGo i n l).2.1 ≤ 10 ∧
    ((vtakeGo i n l).2.2 = 0 → i < (vtakeGo i n l).2.1) ∧ ((vtakeGo i n l).2.2 = 0 ∨ (vtakeGo i n l).2.2 = 2 ∨ (vtakeGo i n l).2.2 = 5) := by
  intro l
  induction l with
  | nil => intro i n h hn; simp [vtakeGo]
  | cons c l ih =>
    intro i n h hn
    have hc := c.toNat_lt
    have h63 : i ≤ 8 → 2 ^ (7 * i) * 128 ≤ 9223372036854775808 := by
      intro h8
      have : 2 ^ (7 * i) ≤ 2 ^ 56 := Nat.pow_le_pow_right (by decide) (by omega)
      have e : (2 : Nat) ^ 56 = 72057594037927936 := by decide
      omega
    rw [vtakeGo]
    split
    · simp
    · rename_i hb
      have hx : c.toNat % 128 * 2 ^ (7 * i) + 2 ^ (7 * i) ≤ 128 * 2 ^ (7 * i) := by
        have : c.toNat % 128 + 1 ≤ 128 := by omega
        have := Nat.mul_le_mul_right (2 ^ (7 * i)) this
        rw [Nat.add_mul] at this
        omega
      split
      · refine ⟨?_, by simp, by simp; omega, by simp, by simp⟩
        show n + c.toNat % 128 * 2 ^ (7 * i) < _
        by_cases h9 : i = 9
        · subst h9
          have h1 : c.toNat ≤ 1 := by
            rcases Nat.lt_or_ge 1 c.toNat with h | h
            · exact absurd ⟨rfl, h⟩ hb
            · exact h
          have e : (2 : Nat) ^ (7 * 9) = 9223372036854775808 := by decide
          rw [e] at hn ⊢
          omega
        · have := h63 (by omega)
          omega
      · rename_i hc2
        by_cases h9 : i = 9
        · subst h9
          exact absurd ⟨rfl, by omega⟩ hb
        · have hn' : n + c.toNat % 128 * 2 ^ (7 * i) < 2 ^ (7 * (i + 1)) := by
            have e : 2 ^ (7 * (i + 1)) = 2 ^ (7 * i) * 128 := by rw [show 7 * (i + 1) = 7 * i + 7 from by omega, Nat.pow_add]
            rw [e]; omega
          have := ih (i + 1) _ (by omega) hn'
          refine ⟨this.1, ?_, this.2.2.1, fun e => by have := this.2.2.2.1 e; omega, this.2.2.2.2⟩
          have := this.2.1
          simp only [List.length_cons]
          omega
theorem leN_lt : ∀ l : List UInt8, leN l < 2 ^ (8 * l.length)
  | [] => by simp [leN]
  | c :: r => by
    have h1 := leN_lt r
    have h2 := c.toNat_lt
    rw [leN, List.length_cons, show 8 * (r.length + 1) = 8 * r.length + 8 from by omega, Nat.pow_add]
    omega
theorem leN_append : ∀ l m : List UInt8, leN (l ++ m) = leN l + 2 ^ (8 * l.length) * leN m
  | [], m => by simp [leN]
  | c :: r, m => by
    rw [List.cons_append, leN, leN, leN_append r m, List.length_cons, show 8 * (r.length + 1) = 8 * r.length + 8 from by omega, Nat.pow_add, Nat.mul_add, ← Nat.mul_assoc, Nat.add_assoc, Nat.mul_comm 256 (2 ^ _)]
theorem low_length : ∀ k n, (low k n).length = k
  | 0, _ => rfl
  | k + 1, n => by rw [low, List.length_cons, low_length]
end Go.Proofs.YthkmjafmmohogaaGreatDoor
