/- Contracts of package varint. -/
import Derived.Test.YthkmjafmmohogaaGreatDoorProg
import Derived.Test.YthkmjafmmohogaaGreatDoorBytes
import Derived.Test.YthkmjafmmohogaaGreatDoorSpec1
import Derived.Test.YthkmjafmmohogaaGreatDoorBits
import Derived.Outline
import Derived.Deep.QuietTactic
import Derived.BigQuiet
import Derived.WalkLawsBesides
import Derived.WalkSpells
namespace Go.Proofs.YthkmjafmmohogaaGreatDoor
open Go Go.RowKit
set_option linter.unusedVariables false
set_option maxHeartbeats 1000000

def res3 (r : Nat × Nat × Int) : Value := .tuple #[.int .u64 r.1, .int .i64 r.2.1, .int .i64 r.2.2]
theorem take_c (v : Value) (l : List UInt8) (w : World) (h : Bytes v l w) :
    Calls Tryz.prog 170 #[v] w fun e w' => e = .returned (res3 (vtake l)) ∧ w' = w := by
  obtain ⟨a, c, rfl, hc, hm, hb⟩ := h.form
  unfold maxLen at hm
  go_enter Tryz.func170, Tryz.ntmps170
  go_wp2
  have HT : Hid (vtake l = vtakeGo 0 0 (l.drop 0)) := rfl
  go_loop [5, 10] (fun n i => ∃ (k m : Nat), k ≤ l.length ∧ i = .int .i64 k ∧ n = .int .u64 m ∧ k ≤ 9 ∧ m < 2 ^ (7 * k) ∧ Hid (vtake l = vtakeGo k m (l.drop k))) (fun _ i => l.length - (intOf i).toNat)
  case atStart => exact ⟨0, 0, Nat.zero_le _, rfl, rfl, by omega, by decide, HT⟩
  case round =>
    obtain ⟨k, m, hk, rfl, rfl, hk10, hm2, HT⟩ := hrel
    by_cases hlt : k < l.length
    · obtain ⟨b, off, rfl, hcell⟩ := hb (by intro e; rw [e] at hlt; simp at hlt)
      have hce : w.cell? ⟨b, off + k, none⟩ = some (.int .u8 (l[k].toNat : Int)) := hcell k _ (bcells_get hlt)
      clear hcell
      have hcb : l[k].toNat < 256 := l[k].toNat_lt
      have hst := vtakeGo_at l k m hlt
      rw [← HT.out] at hst
      generalize l[k].toNat = x at *
      have H1 : Hid (k = 9 ∧ 1 < x → vtake l = (0, 0, 2)) := fun h => by rw [hst, if_pos h]
      have H2 : Hid (¬ (k = 9 ∧ 1 < x) → x < 128 → vtake l = (m + x % 128 * 2 ^ (7 * k), k + 1, 0)) := fun h h' => by rw [hst, if_neg h, if_pos h']
      have H3 : Hid (¬ (k = 9 ∧ 1 < x) → ¬ x < 128 → vtake l = vtakeGo (k + 1) (m + x % 128 * 2 ^ (7 * k)) (l.drop (k + 1))) := fun h h' => by rw [hst, if_neg h, if_neg h']
      clear hst HT
      have e1 := u8_and127 x hcb
      have e2 := u8_and128 x hcb
      have h79 : k ≤ 8 → 2 ^ (7 * k) ≤ 72057594037927936 := fun h => by
        have : 2 ^ (7 * k) ≤ 2 ^ 56 := Nat.pow_le_pow_right (by decide) (by omega)
        exact this
      have hsum : ¬ (k = 9 ∧ 1 < x) → m + x % 128 * 2 ^ (7 * k) < 2 ^ (7 * k) * 128 ∧ m + x % 128 * 2 ^ (7 * k) < 18446744073709551616 := by
        intro hn
        have h1 : x % 128 * 2 ^ (7 * k) + 2 ^ (7 * k) ≤ 128 * 2 ^ (7 * k) := by
          have h2 := Nat.mul_le_mul_right (2 ^ (7 * k)) (by omega : x % 128 + 1 ≤ 128)
          rw [Nat.add_mul] at h2; omega
        refine ⟨by omega, ?_⟩
        by_cases h9 : k = 9
        · subst h9
          have e : (2 : Nat) ^ (7 * 9) = 9223372036854775808 := by decide
          rw [e] at hm2 ⊢
          have : ¬ 1 < x := fun h => hn ⟨rfl, h⟩
          omega
        · have := h79 (by omega); omega
      by_cases hbad : k = 9 ∧ 1 < x
      · obtain ⟨h9, hx1⟩ := hbad
        have HV := Lib.hid (H1.out ⟨h9, hx1⟩)
        subst h9
        clear H1 H2 H3 hsum h79
        go_wp2
        go_ret3
        exact ⟨by rw [HV.out]; rfl, rfl⟩
      · have hs2 := hsum hbad
        obtain ⟨hs2, hs3⟩ := hs2
        have hk9 : k ≤ 9 := by omega
        have HS := Lib.hid hs2
        clear hs2
        have hor : bits .or .u64 (m : Int) (IntKind.u64.wrap ((x : Int) % 128 * 2 ^ (7 * k))) = ((m + x % 128 * 2 ^ (7 * k) : Nat) : Int) := by
          have h := u64_or_shift m (x % 128) (7 * k) hm2 hs3
          have e : ((x : Int) % 128 * 2 ^ (7 * k)) = ((x % 128 * 2 ^ (7 * k) : Nat) : Int) := by simp
          rw [e, IntKind.wrap_u64, show (((x % 128 * 2 ^ (7 * k) : Nat) : Int) % 18446744073709551616) = ((x % 128 * 2 ^ (7 * k) : Nat) : Int) from by omega]
          exact h
        have H2 := Lib.hid (H2.out hbad)
        have H3 := Lib.hid (H3.out hbad)
        have hkx : k = 9 → ¬ 1 < x := fun h h' => hbad ⟨h, h'⟩
        clear h79 hsum H1 hbad
        generalize m + x % 128 * 2 ^ (7 * k) = N at *
        clear hm2
        by_cases hx : x < 128
        · have HV := Lib.hid (H2.out hx)
          clear H2 H3
          have e3 : ((x : Int) / 128 * 128 == 0) = true := by simp; omega
          by_cases h9 : k = 9
          · have hk9' : ((k : Int) == 9) = true := by simp; omega
            have hx1 := hkx h9
            clear hkx h9
            go_wp2
            go_ret3
            exact ⟨by rw [HV.out]; rfl, rfl⟩
          · have h9' : ((k : Int) == 9) = false := by simp; omega
            clear hkx
            go_wp2
            go_ret3
            exact ⟨by rw [HV.out]; rfl, rfl⟩
        · have HV := Lib.hid (H3.out hx)
          clear H2 H3
          have e3 : ((x : Int) / 128 * 128 == 0) = false := by simp; omega
          by_cases h9 : k = 9
          · exact absurd (by omega) (hkx h9)
          · have h9' : ((k : Int) == 9) = false := by simp; omega
            clear hkx
            go_wp2
            go_round
            case rel => exact ⟨k + 1, N, by omega, by go_num, rfl, by omega, by rw [show 7 * (k + 1) = 7 * k + 7 from by omega, Nat.pow_add]; exact HS.out, HV⟩
            case measure => simp [intOf]; omega
    · have hv := vtakeGo_nil l k m (by omega)
      rw [← HT.out] at hv
      have HV := Lib.hid hv
      clear hv HT
      go_wp2
      go_ret3
      exact ⟨by rw [HV.out]; rfl, rfl⟩

theorem take32_short (v : Value) (l : List UInt8) (w : World) (h : Bytes v l w) (hl : l.length < 4) :
    Calls Tryz.prog 172 #[v] w fun e w' => e = .returned (.tuple #[.int .u32 0, .int .i64 5]) ∧ w' = w := by
  obtain ⟨a, c, rfl, hc, hm, hb⟩ := h.form
  unfold maxLen at hm
  go_enter Tryz.func172, Tryz.ntmps172
  go_wp2
  go_ret2
  exact ⟨rfl, rfl⟩
theorem take32_c (v : Value) (x0 x1 x2 x3 : UInt8) (l : List UInt8) (w : World) (h : Bytes v (x0 :: x1 :: x2 :: x3 :: l) w) :
    Calls Tryz.prog 172 #[v] w fun e w' => e = .returned (.tuple #[.int .u32 (leN [x0, x1, x2, x3]), .int .i64 0]) ∧ ∃ n, w' = w.drewN n := by
  obtain ⟨a, c, rfl, hc, hm, hb⟩ := h.form
  unfold maxLen at hm
  obtain ⟨b, off, rfl, hcell⟩ := hb (by simp)
  have h0 : w.cell? ⟨b, off, none⟩ = some (.int .u8 (x0.toNat : Int)) := hcell 0 _ rfl
  have h1 : w.cell? ⟨b, off + 1, none⟩ = some (.int .u8 (x1.toNat : Int)) := hcell 1 _ rfl
  have h2 : w.cell? ⟨b, off + 2, none⟩ = some (.int .u8 (x2.toNat : Int)) := hcell 2 _ rfl
  have h3 : w.cell? ⟨b, off + 3, none⟩ = some (.int .u8 (x3.toNat : Int)) := hcell 3 _ rfl
  have b0 := x0.toNat_lt
  have b1 := x1.toNat_lt
  have b2 := x2.toNat_lt
  have b3 := x3.toNat_lt
  have hle : leN [x0, x1, x2, x3] = x0.toNat + x1.toNat * 256 + x2.toNat * 65536 + x3.toNat * 16777216 := by simp only [leN]; omega
  have HL := Lib.hid hle
  simp only [List.length_cons] at hc ⊢
  clear hle hb hcell
  generalize l.length = n at *
  generalize x0.toNat = y0 at *
  generalize x1.toNat = y1 at *
  generalize x2.toNat = y2 at *
  generalize x3.toNat = y3 at *
  obtain ⟨e1, e2, e3⟩ := or32_4 y0 y1 y2 y3 b0 b1 b2 b3
  go_enter Tryz.func172, Tryz.ntmps172
  go_wp2
  go_quiet (fail)
  go_wp2
  go_ret2
  exact ⟨by rw [HL.out]; simp only [Int.natCast_add, Int.natCast_mul, Int.cast_ofNat_Int]; rfl, _, rfl⟩
theorem take32_l (v : Value) (l : List UInt8) (w : World) (h : Bytes v l w) (hl : 4 ≤ l.length) :
    Calls Tryz.prog 172 #[v] w fun e w' => e = .returned (.tuple #[.int .u32 (leN (l.take 4)), .int .i64 0]) ∧ ∃ n, w' = w.drewN n := by
  match l, hl with
  | x0 :: x1 :: x2 :: x3 :: l, _ => exact take32_c v x0 x1 x2 x3 l w h
end Go.Proofs.YthkmjafmmohogaaGreatDoor
