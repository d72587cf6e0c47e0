/- Contracts on events: courierref19.Open. -/
import Derived.Test.YthkmjafmmohogaaGreatDoorTr2
import Derived.Test.YthkmjafmmohogaaGreatDoorRow
namespace Go.Proofs.YthkmjafmmohogaaGreatDoor
open Go Go.RowKit
set_option linter.unusedVariables false
set_option maxHeartbeats 1000000
set_option maxRecDepth 100000

theorem info_ev : (Tryz.prog.info? 95).map (fun i => (i.zero, i.size, i.bytes)) = some (some (.agg #[.int .i64 0, .int .i64 0, .int .u64 0, .int .i64 0, .int .i64 0, .slice none 0 0]), 6, 64) := by kernel_rfl
theorem bytes_stab {v : Value} {l : List UInt8} {w : World} {S : Nat → Prop} (h : Bytes v l w) (hs : ∀ k, k < w.heap.size → S k → False) : Stab S w (Bytes v l) := by
  intro w' he
  rcases h with ⟨rfl, rfl⟩ | ⟨a, c, rfl, h1, h2, h3⟩
  · exact .inl ⟨rfl, rfl⟩
  · refine .inr ⟨a, c, rfl, h1, h2, fun h => ?_⟩
    obtain ⟨b, off, rfl, hc⟩ := h3 h
    refine ⟨b, off, rfl, hc.stab (fun hn => ?_) w' he⟩
    exact fun hb => hs b (hc.lt hn) hb
/-- An event's reading stands while elder blocks stand. -/
theorem ev_stab {e : Ev} {vb : Value} {w w1 : World} (hv : Bytes vb e.bytes w) (ht : EvOk e) (hb : Below w.heap.size w w1) {S : Nat → Prop} (hS : ∀ k, S k → w.heap.size ≤ k) : Stab S w1 (REv e (evVal e vb).toList) := by
  have h := (bytes_stab (S := S) hv (fun k hk hs => by have := hS k hs; omega)).step (Ext.of_below (S := S) hb) (S1 := S) (fun _ _ x => x)
  exact h.imp (fun w' h' => ⟨vb, rfl, h', ht⟩)

def EvNew (w0 : World) (v : Value) (l : List Ev) (w : World) : Prop := Owns 95 6 w0.heap.size REv (fun k => w0.heap.size ≤ k) v l w
theorem EvNew.below {w0 w w1 : World} {v : Value} {l : List Ev} (h : EvNew w0 v l w) (hb : Below w.heap.size w w1) : EvNew w0 v l w1 := Owns.below h hb
theorem EvNew.evs {w0 w : World} {v : Value} {l : List Ev} (h : EvNew w0 v l w) : Evs v l w :=
  (Owns.row h (S0 := fun _ => False) (fun _ _ x => x.elim) (fun _ _ x => x)).here
def RetEvs (w : World) (l : List Ev) (e : Ending) (w' : World) : Prop := ∃ v', e = .returned v' ∧ Evs v' l w' ∧ Below w.heap.size w w'

theorem ev_cells : (Value.agg #[.int .i64 0, .int .i64 0, .int .u64 0, .int .i64 0, .int .i64 0, .slice none 0 0]).cells.size = 6 := by kernel_rfl
theorem wpList_app_ev {ops : Array Oper} {rest : List Oper} {o : Oper} {a : Act} {w : World} {Q : Exit → Act → World → Prop} (hgd : o.guard = none) {s x : Operand}
    (ho : o.op = .call { callee := .builtin .append, args := #[s, x], argTypes := #[48, 48] }) {base : Nat} {S : Nat → Prop} {l : List Ev} (hv : Owns 95 6 base REv S (a.eval s) l w)
    {g c : Nat} {y : Ev} {av : Option Addr} {n cv : Nat} (hx : a.eval x = .slice (some ⟨g, 0, none⟩) 1 c) (hb : w.heap[g]? = some (.cells (evVal y (.slice av n cv)) 95)) (hR : Stab S w (REv y (evVal y (.slice av n cv)).toList))
    (hl : l.length ≤ 1000000) (hbase : base ≤ w.heap.size)
    (h : ∀ v1 w1, w.grownBy w1 (a.eval s).ownBlock → Owns 95 6 base REv (fun k => S k ∨ k = w.heap.size) v1 (l ++ [y]) w1 → wpList Tryz.prog ops Q rest (a.put o.dst v1) w1) : wpList Tryz.prog ops Q (o :: rest) a w := by
  obtain ⟨inf, hi, hz, hs, hby⟩ := info_parts info_ev
  exact wpList_app_one hgd ho Tryz.underlying48 hi hz hs hby ev_cells (by decide) hv hx hb rfl (by
    intro u hu
    simp only [evVal, List.mem_cons, List.not_mem_nil, or_false] at hu
    rcases hu with rfl | rfl | rfl | rfl | rfl | rfl <;> rfl) hR (by unfold maxLen; omega) (by omega) hbase h

theorem refopen_c (v : Value) (l : List Ev) (w : World) (h : Evs v l w) (hlen : l.length ≤ 1000000) :
    Calls Tryz.prog 15 #[v] w (RetEvs w (openN l l.length)) := by
  obtain ⟨a, c, rfl, hc, hm⟩ := h.form
  unfold maxLen at hm
  have HH := Lib.hid h
  clear h
  go_enter Tryz.func15, Tryz.ntmps15
  go_wp2
  go_loopw [3, 8] (fun out i wr => ∃ (k : Nat), k ≤ l.length ∧ i = .int .i64 k ∧ Hid (Below w.heap.size w wr) ∧ Hid (EvNew w out (openN l k) wr)) (fun _ i _ => l.length - (intOf i).toNat)
  case atStart => exact ⟨0, Nat.zero_le _, rfl, Below.refl _ _, Owns.nil _ _ _ _ _ _⟩
  case round =>
    obtain ⟨k, hk, rfl, HB, HO⟩ := hrel
    by_cases hlt : k < l.length
    · obtain ⟨b, off, vb, rfl, hvb, htk, q0, q1, q2, q3, q4, q5⟩ := HH.out.at2 HB.out hlt
      have HC1 := Lib.hid (fun (w' : World) (hb : Below wr.heap.size wr w') => of_c _ l 1 l[k].client l[k].token w' ((HH.out.below HB.out).below hb))
      have HC3 := Lib.hid (fun (w' : World) (hb : Below wr.heap.size wr w') => of_c _ l 3 l[k].client l[k].token w' ((HH.out.below HB.out).below hb))
      have HV := Lib.hid hvb
      have HTK := Lib.hid htk
      have ho := isOpen_at l k hlt
      have HY := Lib.hid (openN_yes l k hlt)
      have HN := Lib.hid (openN_no l k)
      obtain ⟨av, cv, rfl, _, _, _⟩ := hvb.form
      clear hvb htk
      generalize hzz : l[k] = x at *
      clear hzz
      obtain ⟨xk, xc, xt, xm, xs, xl⟩ := x
      dsimp only at *
      have HBX := Lib.hid (fun (w1 : World) (hb : Below wr.heap.size wr w1) => bto HB.out hb (Nat.le_refl _))
      by_cases hk1 : xk = 1
      · subst hk1
        by_cases h2 : ofL l 1 xc xt = (k : Int)
        · by_cases h3 : ofL l 3 xc xt < 0
          · have HO2 := Lib.hid (HY.out (by rw [ho, h2]; simp [h3]))
            clear ho HY HN
            have HLN := Lib.hid (openN_len l k)
            generalize ofL l 1 xc xt = z1 at *
            generalize ofL l 3 xc xt = z3 at *
            subst h2
            go_wp2_with (first
              | (go_at_call 39; (first | with_reducible refine (HC1.out _ (balloc _ _)).mono ?_ | with_reducible refine (HC3.out _ (balloc _ _)).mono ?_); rintro e w1 ⟨rfl, rfl⟩)
              | (refine at_dst 40 rfl ?_; refine Halt.out ?_))
            refine Halt.mk ?_
            have hb2 := (balloc wr (.cells #[.int .i64 1, .int .i64 xc, .int .u64 xt, .int .i64 xm, .int .i64 xs, .slice av xl.length cv] 95)).trans ((balloc (wr.alloc (.cells #[.int .i64 1, .int .i64 xc, .int .u64 xt, .int .i64 xm, .int .i64 xs, .slice av xl.length cv] 95)) (.cells #[.int .i64 1, .int .i64 xc, .int .u64 xt, .int .i64 xm, .int .i64 xs, .slice av xl.length cv] 95)).mono (by simp))
            have hw1 := HB.out.size
            refine wpList_app_ev rfl rfl (base := w.heap.size) (S := fun k => w.heap.size ≤ k) (l := openN l k) (y := ⟨1, xc, xt, xm, xs, xl⟩) (av := av) (n := xl.length) (cv := cv) (HO.out.below hb2) rfl (blk_alloc' (by simp) _) (ev_stab (e := ⟨1, xc, xt, xm, xs, xl⟩) (vb := .slice av xl.length cv) HV.out HTK.out (HBX.out _ hb2) (fun _ x => x)) (by have := HLN.out; omega) (by have := hb2.size; omega) ?_
            intro v2 w2 hg2 ho2
            have hb3 : Below w.heap.size w w2 := (HBX.out _ hb2).grown hg2 (by have := hb2.size; omega) (fun j hj => ((HO.out.below hb2).lt j hj).1)
            have HO3 : Hid (EvNew w v2 (openN l (k + 1)) w2) := by
              rw [Hid, HO2.out]
              exact ho2.step (Ext.refl _ _) (fun _ _ => rfl) (fun j _ h => .inl h) (fun j hj => by
                rcases ho2.1 j hj with h | h
                · exact h
                · have := hb2.size; simp at h ⊢; omega)
            clear hg2 ho2 hb2
            go_wp2
            go_roundw
            case rel => exact ⟨k + 1, by omega, by go_num, hb3, HO3.out⟩
            case measure => simp [intOf]; omega
          · have HO2 := Lib.hid (HN.out (by rw [ho, h2]; simp [h3]))
            clear ho HY HN
            generalize ofL l 1 xc xt = z1 at *
            generalize ofL l 3 xc xt = z3 at *
            subst h2
            go_wp2_with (go_at_call 39; (first | with_reducible refine (HC1.out _ (balloc _ _)).mono ?_ | with_reducible refine (HC3.out _ (balloc _ _)).mono ?_); rintro e w1 ⟨rfl, rfl⟩)
            go_roundw
            case rel => exact ⟨k + 1, by omega, by go_num, HBX.out _ (balloc _ _), by rw [HO2.out]; exact HO.out.below (balloc _ _)⟩
            case measure => simp [intOf]; omega
        · have HO2 := Lib.hid (HN.out (by rw [ho]; simp [h2]))
          clear ho HY HN
          generalize ofL l 1 xc xt = z1 at *
          go_wp2_with (go_at_call 39; (first | with_reducible refine (HC1.out _ (balloc _ _)).mono ?_ | with_reducible refine (HC3.out _ (balloc _ _)).mono ?_); rintro e w1 ⟨rfl, rfl⟩)
          go_roundw
          case rel => exact ⟨k + 1, by omega, by go_num, HBX.out _ (balloc _ _), by rw [HO2.out]; exact HO.out.below (balloc _ _)⟩
          case measure => simp [intOf]; omega
      · have HO2 := Lib.hid (HN.out (by rw [ho]; simp [hk1]))
        clear ho HY HN
        go_wp2
        go_roundw
        case rel => exact ⟨k + 1, by omega, by go_num, HBX.out _ (balloc _ _), by rw [HO2.out]; exact HO.out.below (balloc _ _)⟩
        case measure => simp [intOf]; omega
    · have k1 : k = l.length := by omega
      subst k1
      go_wp2
      go_ret
      exact ⟨_, rfl, HO.out.evs, HB.out⟩
end Go.Proofs.YthkmjafmmohogaaGreatDoor
