/- Contracts on events: bytes.Equal, trace.Same. -/
import Derived.Test.YthkmjafmmohogaaGreatDoorTr3
namespace Go.Proofs.YthkmjafmmohogaaGreatDoor
open Go Go.RowKit
set_option linter.unusedVariables false
set_option maxHeartbeats 1000000
set_option maxRecDepth 100000

theorem bequal_c (v u : Value) (l m : List UInt8) (w : World) (hv : Bytes v l w) (hu : Bytes u m w) :
    Calls Tryz.prog 42 #[v, u] w fun e w' => e = .returned (.bool (l == m)) ∧ w' = w := by
  have e1 := run_conv hv
  have e2 := run_conv hu
  have hs : (l == m) = ((str l).toList == (str m).toList) := by rw [str_list, str_list]
  generalize str l = x1 at *
  generalize str m = x2 at *
  have HS := Lib.hid hs
  clear hs hv hu
  go_enter Tryz.func42, Tryz.ntmps42
  go_wp2
  go_ret
  exact ⟨by rw [HS.out]; rfl, rfl⟩

theorem same1_c (a b : Ev) (va vb : Value) (w : World) (ha : Bytes va a.bytes w) (hb : Bytes vb b.bytes w) :
    Calls Tryz.prog 41 #[.agg (evVal a va), .agg (evVal b vb)] w fun e w' => e = .returned (.bool (sameEv a b)) ∧ Below w.heap.size w w' := by
  obtain ⟨k1, c1, t1, m1, s1, l1⟩ := a
  obtain ⟨k2, c2, t2, m2, s2, l2⟩ := b
  unfold evVal
  simp only at *
  by_cases h : k1 = k2 ∧ c1 = c2 ∧ t1 = t2 ∧ m1 = m2 ∧ s1 = s2
  · obtain ⟨rfl, rfl, rfl, rfl, rfl⟩ := h
    have hb2 := below_two w #[.int .i64 k1, .int .i64 c1, .int .u64 t1, .int .i64 m1, .int .i64 s1, va] #[.int .i64 k1, .int .i64 c1, .int .u64 t1, .int .i64 m1, .int .i64 s1, vb]
    have HC := Lib.hid (bequal_c _ _ _ _ _ (ha.below hb2) (hb.below hb2))
    have HB := Lib.hid hb2
    unfold Two at HC
    have hs : sameEv ⟨k1, c1, t1, m1, s1, l1⟩ ⟨k1, c1, t1, m1, s1, l2⟩ = (l1 == l2) := by simp [sameEv]
    generalize (l1 == l2) = x1 at *
    have HS := Lib.hid hs
    clear hs ha hb hb2
    go_enter Tryz.func41, Tryz.ntmps41
    go_wp2_with (go_at_call 42; with_reducible refine HC.out.mono ?_; rintro e w1 ⟨rfl, rfl⟩)
    all_goals
      go_ret
      exact ⟨by rw [HS.out]; rfl, HB.out⟩
  · have hs : sameEv ⟨k1, c1, t1, m1, s1, l1⟩ ⟨k2, c2, t2, m2, s2, l2⟩ = false := by
      cases hh : sameEv ⟨k1, c1, t1, m1, s1, l1⟩ ⟨k2, c2, t2, m2, s2, l2⟩ with
      | false => rfl
      | true =>
        simp [sameEv] at hh
        exact absurd ⟨hh.1.1.1.1.1, hh.1.1.1.1.2, hh.1.1.1.2, hh.1.1.2, hh.1.2⟩ h
    rw [hs]
    clear hs
    go_enter Tryz.func41, Tryz.ntmps41
    go_wp2_with fail
    all_goals first
      | (exfalso; omega)
      | (go_ret; exact ⟨rfl, below_two w _ _⟩)

theorem equalFunc_c (l m : List Ev) (vl vm : Value) (w : World) (hl : Evs vl l w) (hm : Evs vm m w) :
    Calls Tryz.prog 40 #[vl, vm, .func (.func 41) #[] #[]] w fun e w' => e = .returned (.bool (sameEvs l m)) ∧ Below w.heap.size w w' := by
  obtain ⟨a, c, rfl, hc, hx⟩ := hl.form
  obtain ⟨a', c', rfl, hc', hx'⟩ := hm.form
  unfold maxLen at hx hx'
  have HL := Lib.hid hl
  have HM := Lib.hid hm
  clear hl hm
  by_cases hlen : l.length = m.length
  · obtain ⟨n, hn⟩ : ∃ n, n = m.length := ⟨_, rfl⟩
    rw [hlen, ← hn] at hc HL ⊢
    rw [← hn] at hc' HM
    have HE := Lib.hid (hlen.trans hn.symm)
    have HN := Lib.hid hn
    clear hlen hn
    go_enter Tryz.func40, Tryz.ntmps40
    go_wp2
    have HT : Hid (sameEvs l m = sameEvs (l.drop 0) (m.drop 0)) := rfl
    go_loopw [17] (fun i wr => ∃ (k : Nat), k ≤ n ∧ i = .int .i64 k ∧ Hid (sameEvs l m = sameEvs (l.drop k) (m.drop k)) ∧ Hid (Below w.heap.size w wr)) (fun i _ => n - (intOf i).toNat)
    case atStart => exact ⟨0, Nat.zero_le _, rfl, HT, Below.refl _ _⟩
    case round =>
      obtain ⟨k, hk, rfl, HT, HB⟩ := hrel
      by_cases hlt : k < n
      · have k1 : k < l.length := by rw [HE.out]; exact hlt
        have k2 : k < m.length := by rw [← HN.out]; exact hlt
        obtain ⟨b, off, vb, rfl, hvb, htk, q0, q1, q2, q3, q4, q5⟩ := HL.out.at2 HB.out k1
        obtain ⟨b', off', vb', rfl, hvb', htk', p0, p1, p2, p3, p4, p5⟩ := HM.out.at2 HB.out k2
        have hlb : b' < wr.heap.size := World.block_lt_of_cell? wr ⟨b', _, none⟩ p0
        have hob : ∀ (o : Obj) (i : Nat), (wr.alloc o).cell? ⟨b', i, none⟩ = wr.cell? ⟨b', i, none⟩ := fun o i => (balloc wr o).cell (p := ⟨b', i, none⟩) hlb
        obtain ⟨av, cv, rfl, _, _, _⟩ := hvb.form
        obtain ⟨av', cv', rfl, _, _, _⟩ := hvb'.form
        have hst := sameEvs_drop l m k k1 k2
        rw [← HT.out] at hst
        have HS := Lib.hid hst
        have hb2 := below_two wr (evVal l[k] (.slice av l[k].bytes.length cv)) (evVal m[k] (.slice av' m[k].bytes.length cv'))
        have HC := Lib.hid (fun (w1 : World) (h : Below wr.heap.size wr w1) => same1_c l[k] m[k] _ _ w1 ((hvb.below HB.out).below h) ((hvb'.below HB.out).below h))
        have HB2 := Lib.hid (bto HB.out hb2 (Nat.le_refl _))
        have HB3 := Lib.hid hb2
        unfold Two at HB2 HB3
        clear hst hvb hvb' HT hb2
        generalize l[k] = x at *
        generalize m[k] = y at *
        unfold evVal at HC HB2 HB3
        go_wp2_with (go_at_call 41; refine Halt.out ?_)
        refine Halt.mk ?_
        refine (HC.out _ HB3.out).mono ?_
        rintro e w1 ⟨rfl, hb1⟩
        have HB4 := Lib.hid (bto HB2.out hb1 (Nat.le_refl _))
        clear hb1
        cases hxy : sameEv x y with
        | true =>
          rw [hxy] at HS
          go_wp2_with fail
          go_roundw
          case rel => exact ⟨k + 1, by omega, by go_num, by rw [HS.out]; rfl, HB4.out⟩
          case measure => simp [intOf]; omega
        | false =>
          rw [hxy] at HS
          go_wp2_with fail
          go_ret
          exact ⟨by rw [HS.out]; rfl, HB4.out⟩
      · have k1 : k = n := by omega
        have hv : sameEvs l m = true := by
          rw [HT.out, List.drop_of_length_le (by rw [HE.out]; omega), List.drop_of_length_le (by rw [← HN.out]; omega)]; rfl
        have HV := Lib.hid hv
        clear hv HT
        go_wp2_with fail
        go_ret
        exact ⟨by rw [HV.out]; rfl, HB.out⟩
  · have HV := Lib.hid (sameEvs_len l m hlen)
    go_enter Tryz.func40, Tryz.ntmps40
    go_wp2_with fail
    go_ret
    exact ⟨by rw [HV.out]; rfl, Below.refl _ _⟩

theorem trsame_c (l m : List Ev) (vl vm : Value) (w : World) (hl : Evs vl l w) (hm : Evs vm m w) :
    Calls Tryz.prog 16 #[vl, vm] w fun e w' => e = .returned (.bool (sameEvs l m)) ∧ Below w.heap.size w w' := by
  have HC := Lib.hid (equalFunc_c l m vl vm w hl hm)
  clear hl hm
  go_enter Tryz.func16, Tryz.ntmps16
  go_wp2_with (go_at_call 40; refine HC.out.mono ?_; rintro e w1 ⟨rfl, hb1⟩)
  go_ret
  exact ⟨rfl, hb1⟩
end Go.Proofs.YthkmjafmmohogaaGreatDoor
