/- trace.Open. -/
import Derived.Test.YthkmjafmmohogaaGreatDoorTr4
import Derived.Test.YthkmjafmmohogaaGreatDoorMap
import Derived.DeepKeys4
import Derived.Test.YthkmjafmmohogaaGreatDoorVarint2
namespace Go.Proofs.YthkmjafmmohogaaGreatDoor
open Go Go.RowKit
open Go.Maps (Keyed)
set_option linter.unusedVariables false
set_option maxHeartbeats 1000000
set_option maxRecDepth 100000

theorem key_law : Keyed Tryz.prog 100 := Keyed.of_law (deep_law (m := 2) (by omega) (by kernel_rfl) (by kernel_rfl) (by rw [Tryz.underlying100]))
def keyV (c : Int) (t : Nat) : Value := .agg #[.int .i64 c, .int .u64 t]
theorem key_good {c : Int} {t : Nat} (h1 : -9223372036854775808 ≤ c ∧ c < 9223372036854775808) (h2 : t < 18446744073709551616) : GoodKey Tryz.prog 100 (keyV c t) := by
  have e1 : (Lit.int .i64 c).wf = true := WalkArith.wf_i64 (by omega)
  have e2 : (Lit.int .u64 (t : Int)).wf = true := WalkArith.wf_u64 (by omega)
  have k1 : Tryz.prog.keyType 100 = true := by kernel_rfl
  have c1 : Tryz.prog.cellsOf 100 = 2 := by kernel_rfl
  have c2 : Tryz.prog.cellsOf 3 = 1 := by kernel_rfl
  have c3 : Tryz.prog.cellsOf 36 = 1 := by kernel_rfl
  have hm : ∀ m, Tryz.prog.keyLits (m + 2) 100 [.int .i64 c, .int .u64 t] = some [.int .i64 c, .int .u64 t] := by
    intro m
    simp [Program.keyLits, Tryz.underlying100, Tryz.underlying3, Tryz.underlying36, c1, c2, c3, e1, e2]
  have hs : Tryz.prog.types.size = Tryz.prog.types.size - 1 + 1 := by have : 0 < Tryz.prog.types.size := of_decide_eq_true (by kernel_rfl); omega
  unfold GoodKey keyOf keyV
  rw [Tryz.underlying100]
  rw [hs]
  simp only [k1, Value.formed, Value.cells, hm]
  simp [Tryz.underlying100, c1]

theorem keyV_inj {c c' : Int} {t t' : Nat} : keyV c t = keyV c' t' ↔ c = c' ∧ t = t' := by
  simp only [keyV, Value.agg.injEq]
  constructor
  · intro h
    have := congrArg Array.toList h
    simp at this
    omega
  · rintro ⟨rfl, rfl⟩; rfl
def MapHas (f : Value → Option Value) (p : Int → Nat → Bool) : Prop := ∀ c t, f (keyV c t) = if p c t then some (.bool true) else none
theorem MapHas.put {f : Value → Option Value} {p : Int → Nat → Bool} (h : MapHas f p) (c : Int) (t : Nat) : MapHas (upd f (keyV c t) (.bool true)) (fun c' t' => p c' t' || (c == c' && t == t')) := by
  intro c' t'
  by_cases he : c' = c ∧ t' = t
  · obtain ⟨rfl, rfl⟩ := he
    rw [upd_same]; simp
  · have : keyV c' t' ≠ keyV c t := fun e => he (keyV_inj.1 e)
    rw [upd_other _ _ this, h c' t']
    have h2 : (c == c' && t == t') = false := by
      cases hh : (c == c' && t == t') with
      | false => rfl
      | true => simp at hh; exact absurd ⟨hh.1.symm, hh.2.symm⟩ he
    simp [h2]
theorem MapHas.get {f : Value → Option Value} {p : Int → Nat → Bool} (h : MapHas f p) (c : Int) (t : Nat) : (f (keyV c t)).getD (.bool false) = .bool (p c t) := by
  rw [h c t]; split <;> simp_all
theorem zero_bool (w : World) : (zeroValue 4).run Tryz.prog w = .ok (.bool false) w := by kernel_rfl

theorem Owns.ne_map {α : Type} {e sz base : Nat} {R : α → List Value → World → Prop} {S : Nat → Prop} {v : Value} {xs : List α} {w : World} {P : Program} {k b : Nat} {f : Value → Option Value} (h : Owns e sz base R S v xs w) (hm : MapAt P k b f w) : v.ownBlock ≠ some b := by
  intro hv
  obtain ⟨_, css, ⟨_, ho⟩, _⟩ := h
  obtain ⟨es, clock, hb, _⟩ := hm
  rcases ho with ⟨rfl, _⟩ | ⟨g, cap, cur, rfl, h2, h3, _⟩
  · simp [Value.ownBlock] at hv
  · simp [Value.ownBlock] at hv
    subst hv
    rw [h3] at hb
    simp at hb

theorem tropen_c (v : Value) (l : List Ev) (w : World) (h : Evs v l w) (hlen : l.length ≤ 1000000) :
    Calls Tryz.prog 14 #[v] w (RetEvs w (openN l l.length)) := by
  obtain ⟨a, c, rfl, hc, hm⟩ := h.form
  unfold maxLen at hm
  have HH := Lib.hid h
  clear h
  have hmm := @run_makeMap Tryz.prog
  have HB0 := Lib.hid ((balloc w (.map #[] 0)).trans ((balloc (w.alloc (.map #[] 0)) (.map #[] 0)).mono (by simp)))
  have HM1 := Lib.hid ((MapAt.new Tryz.prog 100 w).below (balloc _ (.map #[] 0)))
  have HM2 := Lib.hid (MapAt.new Tryz.prog 100 (w.alloc (.map #[] 0)))
  simp only [World.size_alloc] at HM2
  go_enter Tryz.func14, Tryz.ntmps14
  go_wp2
  go_loopw [15] (fun i wr => ∃ (k : Nat) (f : Value → Option Value), k ≤ l.length ∧ i = .int .i64 k ∧ Hid (Below w.heap.size w wr) ∧ Hid (MapAt Tryz.prog 100 w.heap.size f wr) ∧ Hid (MapHas f (hasKey 3 (l.take k))) ∧ Hid (MapAt Tryz.prog 100 (w.heap.size + 1) (fun _ => none) wr)) (fun i _ => l.length - (intOf i).toNat)
  case atStart => exact ⟨0, _, Nat.zero_le _, rfl, HB0.out, HM1.out, fun c t => by simp [hasKey], HM2.out⟩
  case round =>
    obtain ⟨k, f, hk, rfl, HB, HF, HP, HS⟩ := hrel
    by_cases hlt : k < l.length
    · obtain ⟨b, off, vb, rfl, hvb, htk, q0, q1, q2, q3, q4, q5⟩ := HH.out.at2 HB.out hlt
      obtain ⟨av, cv, rfl, _, _, _⟩ := hvb.form
      have hsucc := hasKey_succ 3 l k hlt
      have HG := Lib.hid (key_good htk.2.2 htk.1)
      have HBX := Lib.hid (fun (w1 : World) (hb : Below wr.heap.size wr w1) => bto HB.out hb (Nat.le_refl _))
      clear hvb htk
      generalize hzz : l[k] = x at *
      clear hzz
      obtain ⟨xk, xc, xt, xm, xs, xl⟩ := x
      dsimp only at *
      by_cases hk1 : xk = 3
      · subst hk1
        have HP2 := Lib.hid (show MapHas (upd f (keyV xc xt) (.bool true)) (hasKey 3 (l.take (k + 1))) from by
          intro c' t'
          have := HP.out.put xc xt c' t'
          rw [hsucc c' t']
          simp only [isKey, BEq.rfl, Bool.true_and]
          exact this)
        clear hsucc
        go_wp2_with (at_mapUpdate; refine Halt.out ?_)
        refine Halt.mk ?_
        have hb2 := balloc wr (.cells #[.int .i64 3, .int .i64 xc, .int .u64 xt, .int .i64 xm, .int .i64 xs, .slice av xl.length cv] 95)
        refine wpList_put rfl _ _ _ _ rfl key_law Tryz.underlying98 rfl (HF.out.below hb2) (x := keyV xc xt) (u := .bool true) rfl rfl HG.out ?_
        intro w1 hm1 hg1
        have hb3 : Below w.heap.size w w1 := (HBX.out _ hb2).grown hg1 (by have := HB.out.size; simp; omega) (fun j hj => by cases hj; exact Nat.le_refl _)
        have hs1 : MapAt Tryz.prog 100 (w.heap.size + 1) (fun _ => none) w1 := (HS.out.below hb2).step (hg1.block _ (HS.out.below hb2).lt (by simp))
        have HB3 := Lib.hid hb3
        have HM3 := Lib.hid hm1
        have HS3 := Lib.hid hs1
        clear hg1 hb3 hs1 hm1 hb2
        go_wp2_with fail
        go_roundw
        case rel => exact ⟨k + 1, _, by omega, by go_num, HB3.out, HM3.out, HP2.out, HS3.out⟩
        case measure => simp [intOf]; omega
      · have HP2 := Lib.hid (show MapHas f (hasKey 3 (l.take (k + 1))) from by
          intro c' t'
          rw [hsucc c' t', show isKey 3 c' t' ⟨xk, xc, xt, xm, xs, xl⟩ = false from by simp [isKey, hk1], Bool.or_false]
          exact HP.out c' t')
        clear hsucc
        go_wp2_with fail
        go_roundw
        case rel => exact ⟨k + 1, f, by omega, by go_num, HBX.out _ (balloc _ _), HF.out.below (balloc _ _), HP2.out, HS.out.below (balloc _ _)⟩
        case measure => simp [intOf]; omega
    · have k1 : k = l.length := by omega
      subst k1
      have HD : Hid (MapHas f (hasKey 3 l)) := by
        have := HP.out
        rw [List.take_of_length_le (Nat.le_refl _)] at this
        exact this
      clear HP
      have HO0 : Hid (Owns 95 6 w.heap.size REv (fun b => b = w.heap.size + 1) (.slice none 0 0) (openN l 0) wr) := Owns.nil _ _ _ _ _ _
      have HSB : Hid (∀ b, b = w.heap.size + 1 → w.heap.size ≤ b ∧ b < wr.heap.size) := fun b hb => ⟨by omega, by have := HS.out.lt; omega⟩
      go_wp2_with fail
      go_loopw [7, 31] (fun out i wr => ∃ (k : Nat) (f2 : Value → Option Value) (S : Nat → Prop), k ≤ l.length ∧ i = .int .i64 k ∧ Hid (Below w.heap.size w wr) ∧ Hid (MapAt Tryz.prog 100 w.heap.size f wr) ∧ Hid (MapAt Tryz.prog 100 (w.heap.size + 1) f2 wr) ∧ Hid (MapHas f2 (hasAny (openN l k))) ∧
        Hid (∀ b, S b → w.heap.size ≤ b ∧ b < wr.heap.size) ∧ Hid (S (w.heap.size + 1)) ∧ Hid (Owns 95 6 w.heap.size REv S out (openN l k) wr)) (fun _ i _ => l.length - (intOf i).toNat)
      case atStart => exact ⟨0, _, _, Nat.zero_le _, rfl, HB.out, HF.out, HS.out, fun c t => by simp [hasAny, openN], HSB.out, rfl, HO0.out⟩
      case round =>
        obtain ⟨k, f2, S, hk, rfl, HB, HF, HM, HQ, HSB, HS2, HO⟩ := hrel
        by_cases hlt : k < l.length
        · obtain ⟨b, off, vb, rfl, hvb, htk, q0, q1, q2, q3, q4, q5⟩ := HH.out.at2 HB.out hlt
          obtain ⟨av, cv, rfl, _, _, _⟩ := hvb.form
          have HG := Lib.hid (key_good htk.2.2 htk.1)
          have HBX := Lib.hid (fun (w1 : World) (hb : Below wr.heap.size wr w1) => bto HB.out hb (Nat.le_refl _))
          have HY := Lib.hid (openN_yes l k hlt)
          have HN := Lib.hid (openN_no l k)
          have HOK := Lib.hid (isOpen_kind l k hlt)
          have HOD := Lib.hid (isOpen_done l k hlt)
          have HOM := Lib.hid (isOpen_maps l k hlt)
          have HV := Lib.hid hvb
          have HTK := Lib.hid htk
          have HLN := Lib.hid (openN_len l k)
          clear hvb htk
          generalize hzz : l[k] = x at *
          clear hzz
          obtain ⟨xk, xc, xt, xm, xs, xl⟩ := x
          dsimp only at *
          by_cases hk1 : xk = 1
          · subst hk1
            have hb2 := (balloc wr (.cells #[.int .i64 1, .int .i64 xc, .int .u64 xt, .int .i64 xm, .int .i64 xs, .slice av xl.length cv] 95)).trans ((balloc (wr.alloc (.cells #[.int .i64 1, .int .i64 xc, .int .u64 xt, .int .i64 xm, .int .i64 xs, .slice av xl.length cv] 95)) (.cells #[.int .i64 xc, .int .u64 xt] 100)).mono (by simp))
            have HB2 := Lib.hid hb2
            clear hb2
            go_wp2_with (at_lookup; refine Halt.out ?_)
            refine Halt.mk ?_
            refine wpList_look rfl _ _ _ rfl key_law Tryz.underlying98 (zero_bool _) rfl (HF.out.below HB2.out) (x := keyV xc xt) rfl HG.out ?_
            rw [HD.out.get xc xt]
            cases hd : hasKey 3 l xc xt with
            | true =>
              have HO2 := Lib.hid (HN.out (HOD.out hd))
              have HO3 := Lib.hid (HO.out.below HB2.out)
              clear HOD HOM HOK HY HN HO
              go_wp2_with fail
              go_roundw
              case rel => exact ⟨k + 1, f2, S, by omega, by go_num, HBX.out _ HB2.out, HF.out.below HB2.out, HM.out.below HB2.out, by rw [HO2.out]; exact HQ.out, fun b hb => ⟨(HSB.out b hb).1, by have := (HSB.out b hb).2; simp; omega⟩, HS2.out, by rw [HO2.out]; exact HO3.out⟩
              case measure => simp [intOf]; omega
            | false =>
              have HOM := Lib.hid (HOM.out (by first | trivial | rfl) hd)
              clear HOD HOK
              go_wp2_with (at_lookup; refine Halt.out ?_)
              refine Halt.mk ?_
              refine wpList_look rfl _ _ _ rfl key_law Tryz.underlying98 (zero_bool _) rfl (HM.out.below HB2.out) (x := keyV xc xt) rfl HG.out ?_
              rw [HQ.out.get xc xt]
              cases hs : hasAny (openN l k) xc xt with
              | true =>
                have HO2 := Lib.hid (HN.out (by rw [HOM.out, hs]; rfl))
                have HO3 := Lib.hid (HO.out.below HB2.out)
                clear HOM HY HN HO
                go_wp2_with fail
                go_roundw
                case rel => exact ⟨k + 1, f2, S, by omega, by go_num, HBX.out _ HB2.out, HF.out.below HB2.out, HM.out.below HB2.out, by rw [HO2.out]; exact HQ.out, fun b hb => ⟨(HSB.out b hb).1, by have := (HSB.out b hb).2; simp; omega⟩, HS2.out, by rw [HO2.out]; exact HO3.out⟩
                case measure => simp [intOf]; omega
              | false =>
                have HO2 := Lib.hid (HY.out (by rw [HOM.out, hs]; rfl))
                clear HOM HY HN
                have HQ2 := Lib.hid (show MapHas (upd f2 (keyV xc xt) (.bool true)) (hasAny (openN l (k + 1))) from by
                  intro c' t'
                  have := HQ.out.put xc xt c' t'
                  rw [HO2.out, hasAny, List.any_append]
                  simp only [List.any_cons, List.any_nil, Bool.or_false]
                  exact this)
                go_wp2_with (at_mapUpdate; refine Halt.out ?_)
                refine Halt.mk ?_
                refine wpList_put rfl _ _ _ _ rfl key_law Tryz.underlying98 rfl (HM.out.below HB2.out) (x := keyV xc xt) (u := .bool true) rfl rfl HG.out ?_
                intro w1 hm1 hg1
                have hlt1 : w.heap.size + 1 < wr.heap.size := HM.out.lt
                have hb9 : w1.heap[wr.heap.size]? = some (.cells #[.int .i64 1, .int .i64 xc, .int .u64 xt, .int .i64 xm, .int .i64 xs, .slice av xl.length cv] 95) :=
                  (hg1.block _ (by simp; omega) (by simp; omega)).trans (blk_alloc_old (blk_alloc _ _) _)
                have hext : Ext S wr w1 := (Ext.of_below HB2.out).trans (Ext.grown hg1 (fun j hj => by cases hj; exact HS2.out))
                have hsz1 : wr.heap.size < w1.heap.size := blk_lt hb9
                have HE1 := Lib.hid hext
                have HM1 := Lib.hid hm1
                have HG1 := Lib.hid hg1
                have HB1 := Lib.hid (show Below w.heap.size w w1 from (HBX.out _ HB2.out).grown hg1 (by have := HB.out.size; simp; omega) (fun j hj => by cases hj; omega))
                have HF1 := Lib.hid (show MapAt Tryz.prog 100 w.heap.size f w1 from (HF.out.below HB2.out).step (hg1.block _ (HF.out.below HB2.out).lt (by simp)))
                have HC := Lib.hid (clone_c (.slice av xl.length cv) xl w1 (HV.out.below HB1.out) HTK.out.2.1)
                have b5 : w1.cell? ⟨wr.heap.size, 5, none⟩ = some (.slice av xl.length cv) := blk_cell hb9 5
                have H9 := Lib.hid hb9
                clear hg1 hext hm1 hb9
                go_wp2_with (go_at_call 38; refine Halt.out ?_)
                refine Halt.mk ?_
                refine HC.out.mono ?_
                rintro e w2 ⟨v2, rfl, hf2, hbl2⟩
                obtain ⟨av2, cv2, rfl, _, _, _⟩ := hf2.bytes.form
                have hb9 := blk_below H9.out hbl2 hsz1
                have b0 : w2.cell? ⟨wr.heap.size, 0, none⟩ = some (.int .i64 1) := blk_cell hb9 0
                have b1 : w2.cell? ⟨wr.heap.size, 1, none⟩ = some (.int .i64 xc) := blk_cell hb9 1
                have b2 : w2.cell? ⟨wr.heap.size, 2, none⟩ = some (.int .u64 xt) := blk_cell hb9 2
                have b3 : w2.cell? ⟨wr.heap.size, 3, none⟩ = some (.int .i64 xm) := blk_cell hb9 3
                have b4 : w2.cell? ⟨wr.heap.size, 4, none⟩ = some (.int .i64 xs) := blk_cell hb9 4
                have b5' : w2.cell? ⟨wr.heap.size, 5, none⟩ = some (.slice av xl.length cv) := blk_cell hb9 5
                have z5 : w2.frozen? ⟨wr.heap.size, 5, none⟩ = false := blk_frozen hb9 5
                have H92 := Lib.hid hb9
                have HF2 := Lib.hid hf2
                have HBL := Lib.hid hbl2
                clear hf2 hbl2 hb9
                go_wp2_with (refine at_dst 64 rfl ?_; refine Halt.out ?_)
                refine Halt.mk ?_
                have hne : wr.heap.size < w2.heap.size := Nat.lt_of_lt_of_le hsz1 HBL.out.size
                obtain ⟨W3, hW3⟩ : ∃ W3, W3 = w2.setCell ⟨wr.heap.size, 5, none⟩ (.slice av2 xl.length cv2) := ⟨_, rfl⟩
                have hz3 : W3.heap.size = w2.heap.size := by rw [hW3]; simp
                have hk3 : ∀ j, j ≠ wr.heap.size → W3.heap[j]? = w2.heap[j]? := fun j hj => by rw [hW3]; exact Below.heap_setCell _ _ _ _ hj
                have hb23 : Below w.heap.size w W3 := by
                  rw [hW3]
                  exact (bto HB1.out HBL.out (Nat.le_refl _)).setCell (by have := HB.out.size; simpa using this) _
                rw [← hW3]
                obtain ⟨o, ho⟩ : ∃ o, o = Obj.cells #[.int .i64 1, .int .i64 xc, .int .u64 xt, .int .i64 xm, .int .i64 xs, .slice av2 xl.length cv2] 95 := ⟨_, rfl⟩
                have hW : ∀ j, j < w2.heap.size → j ≠ wr.heap.size → (W3.alloc o).heap[j]? = w2.heap[j]? := fun j hj hn => (Below.heap_alloc _ _ _ (by omega)).trans (hk3 j hn)
                have hsz1' := HBL.out.size
                have hO4 : Owns 95 6 w.heap.size REv S u7 (openN l k) (W3.alloc o) := by
                  refine HO.out.step (S1 := S) ⟨by simp; omega, fun j hj hs => ?_⟩ (fun j hj => ?_) (fun _ _ x => x) HO.out.1
                  · exact (hW j (by omega) (by omega)).trans ((HBL.out.block j (by omega)).trans (HE1.out.block j hj hs))
                  · have hjl := (HO.out.lt j hj).2
                    have hjm : j ≠ w.heap.size + 1 := fun e => HO.out.ne_map HM.out (by rw [hj, e])
                    exact (hW j (by omega) (by omega)).trans ((HBL.out.block j (by omega)).trans ((HG1.out.block j (by simp; omega) (fun e => hjm (by simpa using e))).trans (HB2.out.block j hjl)))
                have hF4 : Fresh w1.heap.size (.slice av2 xl.length cv2) xl (W3.alloc o) := HF2.out.step (fun j hj => hW j (HF2.out.lt j hj).2 (by have := (HF2.out.lt j hj).1; omega))
                have hR4 : Stab S (W3.alloc o) (REv ⟨1, xc, xt, xm, xs, xl⟩ (evVal ⟨1, xc, xt, xm, xs, xl⟩ (.slice av2 xl.length cv2)).toList) :=
                  (hF4.stab (S := S) (fun j hj hs => by have := (hF4.lt j hj).1; have := (HSB.out j hs).2; omega)).imp (fun w' h' => ⟨_, rfl, h', HTK.out⟩)
                have hM4 : MapAt Tryz.prog 100 w.heap.size f (W3.alloc o) := (HF1.out.below HBL.out).step (hW _ (HF1.out.below HBL.out).lt (by omega))
                have hN4 : MapAt Tryz.prog 100 (w.heap.size + 1) (upd f2 (keyV xc xt) (.bool true)) (W3.alloc o) := (HM1.out.below HBL.out).step (hW _ (HM1.out.below HBL.out).lt (by omega))
                have hB4 : Below w.heap.size w (W3.alloc o) := hb23.alloc (by omega) o
                have hblk : (W3.alloc o).heap[w2.heap.size]? = some (.cells (evVal ⟨1, xc, xt, xm, xs, xl⟩ (.slice av2 xl.length cv2)) 95) := by rw [← hz3, blk_alloc, ho]; rfl
                rw [← ho]
                refine wpList_app_ev rfl rfl (l := openN l k) (y := ⟨1, xc, xt, xm, xs, xl⟩) (av := av2) (n := xl.length) (cv := cv2) hO4 rfl (by first | exact hblk | (rw [hz3]; exact hblk)) hR4 (by have := HLN.out; omega) (by have := hB4.size; omega) ?_
                intro v5 w5 hg5 ho5
                have hn1 : u7.ownBlock ≠ some w.heap.size := hO4.ne_map hM4
                have hn2 : u7.ownBlock ≠ some (w.heap.size + 1) := hO4.ne_map hN4
                have HB5 := Lib.hid (hB4.grown hg5 (by have := hB4.size; omega) (fun j hj => (hO4.lt j hj).1))
                have HF5 := Lib.hid (hM4.step (hg5.block _ hM4.lt (fun e => hn1 e.symm)))
                have HM5 := Lib.hid (hN4.step (hg5.block _ hN4.lt (fun e => hn2 e.symm)))
                have HO5 : Hid (Owns 95 6 w.heap.size REv (fun b => S b ∨ v5.ownBlock = some b) v5 (openN l (k + 1)) w5) := by
                  rw [Hid, HO2.out]
                  refine ho5.step (Ext.refl _ _) (fun _ _ => rfl) (fun j _ h => ?_) (fun j hj => .inr hj)
                  rcases h with h | h
                  · exact .inl h
                  · exact ho5.1 j h
                have HS5 : Hid (∀ b, (S b ∨ v5.ownBlock = some b) → w.heap.size ≤ b ∧ b < w5.heap.size) := by
                  intro b hb
                  rcases hb with hb | hb
                  · have := HSB.out b hb
                    have h1 := hg5.size
                    simp at h1
                    exact ⟨this.1, by omega⟩
                  · exact ho5.lt b hb
                clear hg5 ho5 hO4 hF4 hR4 hM4 hN4 hB4 hblk hW hk3 hb23
                go_wp2_with fail
                go_roundw
                case rel => exact ⟨k + 1, _, _, by omega, by go_num, HB5.out, HF5.out, HM5.out, HQ2.out, HS5.out, .inl HS2.out, HO5.out⟩
                case measure => simp [intOf]; omega
          · have HO2 := Lib.hid (HN.out (HOK.out hk1))
            have HO3 := Lib.hid (fun (w1 : World) (hb : Below wr.heap.size wr w1) => HO.out.below hb)
            go_wp2_with fail
            go_roundw
            case rel => exact ⟨k + 1, f2, S, by omega, by go_num, HBX.out _ ((balloc _ _).trans ((balloc _ _).mono (by simp))), HF.out.below ((balloc _ _).trans ((balloc _ _).mono (by simp))), HM.out.below ((balloc _ _).trans ((balloc _ _).mono (by simp))), by rw [HO2.out]; exact HQ.out, fun b hb => ⟨(HSB.out b hb).1, by have := (HSB.out b hb).2; simp; omega⟩, HS2.out, by rw [HO2.out]; exact HO3.out _ ((balloc _ _).trans ((balloc _ _).mono (by simp)))⟩
            case measure => simp [intOf]; omega
        · have k1 : k = l.length := by omega
          subst k1
          have HE := Lib.hid (show Evs _ (openN l l.length) wr from (Owns.row HO.out (S0 := fun _ => False) (fun _ _ x => x.elim) (fun _ _ x => x)).here)
          go_wp2_with fail
          go_ret
          exact ⟨_, rfl, HE.out, HB.out⟩
end Go.Proofs.YthkmjafmmohogaaGreatDoor
