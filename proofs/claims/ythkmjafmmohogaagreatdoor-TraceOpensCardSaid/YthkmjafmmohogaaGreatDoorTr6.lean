/- courierlaw21.TraceOpens, by the contracts of what it calls. -/
import Derived.Test.YthkmjafmmohogaaGreatDoorTr5
namespace Go.Proofs.YthkmjafmmohogaaGreatDoor
open Go Go.RowKit
set_option linter.unusedVariables false
set_option maxHeartbeats 1000000
set_option maxRecDepth 100000

/-- It says true, and turns nothing that was there. -/
def True1 (w : World) (e : Ending) (w' : World) : Prop := e = .returned (.bool true) ∧ Below w.heap.size w w'

theorem law_c (va vb : Value) (la lb : List Ev) (w : World) (ha : Evs va la w) (hb : Evs vb lb w)
    (hA : ∀ w', Below w.heap.size w w' → Calls Tryz.prog 11 #[] w' (True1 w')) : Calls Tryz.prog 4 #[va, vb] w (True1 w) := by
  have HA := Lib.hid hA
  have HF1 := Lib.hid (fun (w' : World) (h : Below w.heap.size w w') => few_c va la w' (ha.below h))
  have HF2 := Lib.hid (fun (w' : World) (h : Below w.heap.size w w') => few_c vb lb w' (hb.below h))
  have HO := Lib.hid (fun (h : la.length ≤ 1000000) (w' : World) (hh : Below w.heap.size w w') => tropen_c va la w' (ha.below hh) h)
  have HP := Lib.hid (fun (h : la.length ≤ 1000000) (w' : World) (hh : Below w.heap.size w w') => refopen_c va la w' (ha.below hh) h)
  have HS := Lib.hid (fun (u v : Value) (l m : List Ev) (w' : World) (h1 : Evs u l w') (h2 : Evs v m w') => sameEvents_c l m u v w' h1 h2)
  have HT := Lib.hid (fun (w' : World) (h : Below w.heap.size w w') => trsame_c la lb va vb w' (ha.below h) (hb.below h))
  have HT2 := Lib.hid (fun (w' : World) (h : Below w.heap.size w w') => trsame_c la la va va w' (ha.below h) (ha.below h))
  have HEA := Lib.hid (fun (w' : World) (h : Below w.heap.size w w') => ha.below h)
  have HEB := Lib.hid (fun (w' : World) (h : Below w.heap.size w w') => hb.below h)
  clear hA ha hb
  go_enter Tryz.func4, Tryz.ntmps4
  go_wp2_with (go_at_call 11; refine Halt.out ?_)
  refine Halt.mk ?_
  refine (HA.out _ (Below.refl _ _)).mono ?_
  rintro e w1 ⟨rfl, hb1⟩
  have HB1 := Lib.hid hb1
  clear hb1
  go_wp2_with (go_at_call 12; refine Halt.out ?_)
  refine Halt.mk ?_
  refine (HF1.out _ HB1.out).mono ?_
  rintro e w2 ⟨r1, rfl, hr1, rfl⟩
  have HA1 := Lib.hid (HA.out _ HB1.out)
  cases r1 with
  | false =>
    clear hr1
    go_wp2_with (go_at_call 11; refine Halt.out ?_)
    refine Halt.mk ?_
    refine HA1.out.mono ?_
    rintro e w3 ⟨rfl, hb3⟩
    go_wp2_with fail
    go_ret
    exact ⟨rfl, bto HB1.out hb3 (Nat.le_refl _)⟩
  | true =>
    have hlen := (hr1 rfl).1
    have HL := Lib.hid (show la.length ≤ 1000000 by omega)
    clear hr1 hlen
    go_wp2_with (go_at_call 12; refine Halt.out ?_)
    refine Halt.mk ?_
    refine (HF2.out _ HB1.out).mono ?_
    rintro e w3 ⟨r2, rfl, hr2, rfl⟩
    clear hr2
    cases r2 with
    | false =>
      go_wp2_with (go_at_call 11; refine Halt.out ?_)
      refine Halt.mk ?_
      refine HA1.out.mono ?_
      rintro e w3 ⟨rfl, hb3⟩
      go_wp2_with fail
      go_ret
      exact ⟨rfl, bto HB1.out hb3 (Nat.le_refl _)⟩
    | true =>
      go_wp2_with (go_at_call 14; refine Halt.out ?_)
      refine Halt.mk ?_
      refine (HO.out HL.out _ HB1.out).mono ?_
      rintro e w2 ⟨v2, rfl, hv2, hb2⟩
      have HB2 := Lib.hid (bto HB1.out hb2 (Nat.le_refl _))
      have HV2 := Lib.hid hv2
      clear hb2 hv2
      go_wp2_with (go_at_call 15; refine Halt.out ?_)
      refine Halt.mk ?_
      refine (HP.out HL.out _ HB2.out).mono ?_
      rintro e w3 ⟨v3, rfl, hv3, hb3⟩
      have HV3 := Lib.hid hv3
      have HV2 := Lib.hid (HV2.out.below hb3)
      have HB3 := Lib.hid (bto HB2.out hb3 (Nat.le_refl _))
      clear hb3 hv3
      go_wp2_with (go_at_call 13; refine Halt.out ?_)
      refine Halt.mk ?_
      refine (HS.out _ _ _ _ _ HV2.out HV3.out).mono ?_
      rintro e w4 ⟨rfl, hb4⟩
      rw [sameEvs_refl]
      have HB4 := Lib.hid (bto HB3.out hb4 (Nat.le_refl _))
      clear hb4
      go_wp2_with (go_at_call 16; refine Halt.out ?_)
      refine Halt.mk ?_
      refine (HT.out _ HB4.out).mono ?_
      rintro e w5 ⟨rfl, hb5⟩
      have HB5 := Lib.hid (bto HB4.out hb5 (Nat.le_refl _))
      clear hb5
      go_wp2_with (go_at_call 13; refine Halt.out ?_)
      refine Halt.mk ?_
      refine (HS.out _ _ _ _ _ (HEA.out _ HB5.out) (HEB.out _ HB5.out)).mono ?_
      rintro e w6 ⟨rfl, hb6⟩
      have HB6 := Lib.hid (bto HB5.out hb6 (Nat.le_refl _))
      clear hb6
      generalize sameEvs la lb = z
      cases z
      all_goals
        go_wp2_with (go_at_call 16; refine Halt.out ?_)
        refine Halt.mk ?_
        refine (HT2.out _ HB6.out).mono ?_
        rintro e w7 ⟨rfl, hb7⟩
        rw [sameEvs_refl]
        have HB7 := Lib.hid (bto HB6.out hb7 (Nat.le_refl _))
        clear hb7
        go_wp2_with fail
        go_ret
        exact ⟨rfl, HB7.out⟩
end Go.Proofs.YthkmjafmmohogaaGreatDoor
