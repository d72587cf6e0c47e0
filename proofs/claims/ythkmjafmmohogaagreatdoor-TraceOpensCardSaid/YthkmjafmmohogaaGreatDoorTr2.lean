/- Contracts on events: courierref19.SameEvents; courierlaw21.Few. -/
import Derived.Test.YthkmjafmmohogaaGreatDoorTr1
namespace Go.Proofs.YthkmjafmmohogaaGreatDoor
open Go Go.RowKit
set_option linter.unusedVariables false
set_option maxHeartbeats 1000000
set_option maxRecDepth 100000

theorem sameEvents_c (l m : List Ev) (vl vm : Value) (w : World) (hl : Evs vl l w) (hm : Evs vm m w) :
    Calls Tryz.prog 13 #[vl, vm] w fun e w' => e = .returned (.bool (sameEvs l m)) ∧ Below w.heap.size w w' := by
  obtain ⟨a, c, rfl, hc, hx⟩ := hl.form
  obtain ⟨a', c', rfl, hc', hx'⟩ := hm.form
  unfold maxLen at hx hx'
  have HL := Lib.hid hl
  have HM := Lib.hid hm
  clear hl hm
  by_cases hlen : l.length = m.length
  · obtain ⟨n, hn⟩ : ∃ n, n = m.length := ⟨_, rfl⟩
    rw [hlen, ← hn] at hc HL ⊢
    rw [← hn] at hc' HM
    have HE := Lib.hid (hlen.trans hn.symm)
    have HN := Lib.hid hn
    clear hlen hn
    go_enter Tryz.func13, Tryz.ntmps13
    go_wp2
    have HT : Hid (sameEvs l m = sameEvs (l.drop 0) (m.drop 0)) := rfl
    go_loopw [13] (fun i wr => ∃ (k : Nat), k ≤ n ∧ i = .int .i64 k ∧ Hid (sameEvs l m = sameEvs (l.drop k) (m.drop k)) ∧ Hid (Below w.heap.size w wr)) (fun i _ => n - (intOf i).toNat)
    case atStart => exact ⟨0, Nat.zero_le _, rfl, HT, Below.refl _ _⟩
    case round =>
      obtain ⟨k, hk, rfl, HT, HB⟩ := hrel
      by_cases hlt : k < n
      · have k1 : k < l.length := by rw [HE.out]; exact hlt
        have k2 : k < m.length := by rw [← HN.out]; exact hlt
        obtain ⟨b, off, vb, rfl, hvb, htk, q0, q1, q2, q3, q4, q5⟩ := (HL.out.below HB.out).at k1
        obtain ⟨b', off', vb', rfl, hvb', htk', p0, p1, p2, p3, p4, p5⟩ := (HM.out.below HB.out).at k2
        have hst := sameEvs_drop l m k k1 k2
        rw [← HT.out] at hst
        have HS := Lib.hid hst
        have HC := Lib.hid (sameEvent_c l[k] m[k] vb vb' wr.drew (hvb.below (bdrewN _ _ 1)) (hvb'.below (bdrewN _ _ 1)))
        clear hst hvb hvb' HT
        generalize l[k] = x at *
        generalize m[k] = y at *
        cases hxy : sameEv x y with
        | true =>
          rw [hxy] at HC HS
          go_wp2_with fail
          go_region_law (first
            | (refine step_at 24 rfl ?_; refine step_call rfl Tryz.func37 (by kernel_rfl) (by kernel_rfl) rfl #[.agg (evVal x vb), .agg (evVal y vb')] (by simp only [List.map_toArray, List.map_cons, List.map_nil]; rfl) HC.out ?_; rintro e w1 ⟨rfl, hb1⟩; refine ⟨_, rfl, ?_⟩))
          all_goals
            go_wp2_with fail
            go_roundw
            case rel => exact ⟨k + 1, by omega, by go_num, by rw [HS.out]; rfl, bto (b := wr.drew) HB.out.drew hb1 (Nat.le_refl _)⟩
            case measure => simp [intOf]; omega
        | false =>
          rw [hxy] at HC HS
          go_wp2_with fail
          go_region_law (first
            | (refine step_at 24 rfl ?_; refine step_call rfl Tryz.func37 (by kernel_rfl) (by kernel_rfl) rfl #[.agg (evVal x vb), .agg (evVal y vb')] (by simp only [List.map_toArray, List.map_cons, List.map_nil]; rfl) HC.out ?_; rintro e w1 ⟨rfl, hb1⟩; refine ⟨_, rfl, ?_⟩))
          all_goals
            go_wp2_with fail
            go_ret
            exact ⟨by rw [HS.out]; rfl, bto (b := wr.drew) HB.out.drew hb1 (Nat.le_refl _)⟩
      · have k1 : k = n := by omega
        have hv : sameEvs l m = true := by
          rw [HT.out, List.drop_of_length_le (by rw [HE.out]; omega), List.drop_of_length_le (by rw [← HN.out]; omega)]; rfl
        have HV := Lib.hid hv
        clear hv HT
        go_wp2_with fail
        go_ret
        exact ⟨by rw [HV.out]; rfl, HB.out⟩
  · have HV := Lib.hid (sameEvs_len l m hlen)
    go_enter Tryz.func13, Tryz.ntmps13
    go_wp2_with fail
    go_ret
    exact ⟨by rw [HV.out]; rfl, Below.refl _ _⟩

def tot (l : List Ev) : Nat := (l.map (·.bytes.length)).sum
theorem tot_succ (l : List Ev) (k : Nat) (h : k < l.length) : tot (l.take (k + 1)) = tot (l.take k) + l[k].bytes.length := by
  rw [List.take_succ_eq_append_getElem h, tot, List.map_append, List.sum_append, tot]; simp
def FewPost (l : List Ev) (w : World) (e : Ending) (w' : World) : Prop := ∃ r, e = .returned (.bool r) ∧ (r = true → l.length ≤ 80 ∧ tot l ≤ 20000) ∧ w' = w
theorem few_c (v : Value) (l : List Ev) (w : World) (h : Evs v l w) :
    Calls Tryz.prog 12 #[v] w (FewPost l w) := by
  obtain ⟨a, c, rfl, hc, hm⟩ := h.form
  unfold maxLen at hm
  have HH := Lib.hid h
  clear h
  go_enter Tryz.func12, Tryz.ntmps12
  go_wp2
  go_loop [3, 7] (fun n i => ∃ (k N : Nat), k ≤ l.length ∧ k ≤ 80 ∧ i = .int .i64 k ∧ n = .int .i64 N ∧ N ≤ 20000 ∧ Hid (N = tot (l.take k))) (fun _ i => l.length - (intOf i).toNat)
  case atStart => exact ⟨0, 0, Nat.zero_le _, by omega, rfl, rfl, by omega, rfl⟩
  case round =>
    obtain ⟨k, N, hk, hk80, rfl, rfl, hN, HT⟩ := hrel
    by_cases hlt : k < l.length
    · obtain ⟨b, off, vb, rfl, hvb, ⟨htk, hbl, _⟩, q0, q1, q2, q3, q4, q5⟩ := HH.out.at hlt
      obtain ⟨a', c', rfl, _, _, _⟩ := hvb.form
      have hst := tot_succ l k hlt
      rw [← HT.out] at hst
      have HS := Lib.hid hst
      clear hst hvb HT
      generalize l[k].bytes.length = y at *
      by_cases hbad : k < 80 ∧ N + y ≤ 20000
      · obtain ⟨h80, hsum⟩ := hbad
        go_wp2
        go_round
        case rel => exact ⟨k + 1, N + y, by omega, by omega, by go_num, by go_num, by omega, HS.out.symm⟩
        case measure => simp [intOf]; omega
      · by_cases h80 : k < 80
        · have hsum : 20000 < N + y := by omega
          go_wp2
          all_goals first
            | (exfalso; omega)
            | (go_ret; exact ⟨_, rfl, by simp, rfl⟩)
        · go_wp2
          all_goals first
            | (exfalso; omega)
            | (go_ret; exact ⟨_, rfl, by simp, rfl⟩)
    · have k1 : k = l.length := by omega
      have hv : tot l ≤ 20000 := by
        have := HT.out
        rw [List.take_of_length_le (by omega)] at this
        omega
      have HV := Lib.hid hv
      clear hv HT
      go_wp2
      go_ret
      exact ⟨_, rfl, fun _ => ⟨by omega, HV.out⟩, rfl⟩
end Go.Proofs.YthkmjafmmohogaaGreatDoor
