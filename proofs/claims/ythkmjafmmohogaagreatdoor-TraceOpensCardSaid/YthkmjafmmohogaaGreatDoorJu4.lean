/- Runs at constants: trace.Judge. -/
import Derived.Test.YthkmjafmmohogaaGreatDoorJu3
namespace Go.Proofs.YthkmjafmmohogaaGreatDoor
open Go Go.RowKit
open Go.Maps (Keyed)
set_option linter.unusedVariables false
set_option maxHeartbeats 1000000
set_option maxRecDepth 100000

def evCells (b k : Nat) (ev : Array Value) (w : World) : Prop := cellsAt b (k * 6) ev.toList w
def IdxPost (n : Nat) (bs : Nat → Bool) (I : Nat → World → Prop) (e : Ending) (w' : World) : Prop :=
  (∃ k, k < n ∧ bs k = true ∧ (∀ j, j < k → bs j = false) ∧ e = .returned (.int .i64 k) ∧ I (k + 1) w') ∨ ((∀ j, j < n → bs j = false) ∧ e = .returned (.int .i64 (-1)) ∧ I n w')
theorem idxev_c (f : Nat) (fv : Array Value) (g c n : Nat) (hn : n ≤ 1000) (evs : Nat → Array Value) (hev : ∀ k, k < n → ∃ a b t m s x y z, evs k = #[.int .i64 a, .int .i64 b, .int .u64 t, .int .i64 m, .int .i64 s, .slice x y z]) (bs : Nat → Bool) (I : Nat → World → Prop)
    {fn : Func} (hf : Tryz.prog.funcs[f]? = some fn) (hnm : (fn.name == "runtime.NumGoroutine") = false) (hb : fn.body.isSome = true)
    (Hcell : ∀ k w, k < n → I k w → evCells g k (evs k) w) (Hstep : ∀ k w, k < n → I k w → Calls Tryz.prog f (#[.agg (evs k)] ++ fv) w (fun e w' => e = .returned (.bool (bs k)) ∧ I (k + 1) w')) (w : World) (h0 : I 0 w) :
    Calls Tryz.prog 82 #[.slice (some ⟨g, 0, none⟩) n c, .func (.func f) #[] fv] w (IdxPost n bs I) := by
  have hen : ∀ args w, (callFunc f args).run Tryz.prog w = .ok (.enter f args) w := fun args w => run_enters hf hnm hb args w
  have HC := Lib.hid Hcell
  have HS := Lib.hid Hstep
  have HV := Lib.hid hev
  have H0 := Lib.hid h0
  clear Hcell Hstep h0 hf hnm hb hev
  go_enter Tryz.func82, Tryz.ntmps82
  go_wp2
  go_loopw [8] (fun i wr => ∃ (k : Nat), k ≤ n ∧ i = .int .i64 k ∧ Hid (I k wr) ∧ Hid (∀ j, j < k → bs j = false)) (fun i _ => n - (intOf i).toNat)
  case atStart => exact ⟨0, Nat.zero_le _, rfl, H0, fun j hj => by omega⟩
  case round =>
    obtain ⟨k, hk, rfl, HI, HJ⟩ := hrel
    by_cases hlt : k < n
    · have hc := HC.out k wr hlt HI.out
      have HT := Lib.hid (HS.out k wr hlt HI.out)
      obtain ⟨a, b, t, m, s, x, y, z, he⟩ := HV.out k hlt
      rw [he] at hc HT
      have q0 : wr.cell? ⟨g, k * 6, none⟩ = some (.int .i64 a) := hc 0 _ rfl
      have q1 : wr.cell? ⟨g, k * 6 + 1, none⟩ = some (.int .i64 b) := hc 1 _ rfl
      have q2 : wr.cell? ⟨g, k * 6 + 2, none⟩ = some (.int .u64 t) := hc 2 _ rfl
      have q3 : wr.cell? ⟨g, k * 6 + 3, none⟩ = some (.int .i64 m) := hc 3 _ rfl
      have q4 : wr.cell? ⟨g, k * 6 + 4, none⟩ = some (.int .i64 s) := hc 4 _ rfl
      have q5 : wr.cell? ⟨g, k * 6 + 5, none⟩ = some (.slice x y z) := hc 5 _ rfl
      clear hc
      go_wp2_with fail
      refine HT.out.mono ?_
      rintro e w1 ⟨rfl, hi⟩
      have HI1 := Lib.hid hi
      clear hi
      cases hb : bs k with
      | true =>
        have HB := Lib.hid hb
        clear hb
        go_wp2_with fail
        go_ret
        exact .inl ⟨k, hlt, HB.out, HJ.out, rfl, HI1.out⟩
      | false =>
        have HB := Lib.hid hb
        clear hb
        go_wp2_with fail
        go_roundw
        case rel => exact ⟨k + 1, by omega, by go_num, HI1.out, fun j hj => by
          rcases Nat.lt_or_ge j k with h | h
          · exact HJ.out j h
          · have : j = k := by omega
            subst this
            exact HB.out⟩
        case measure => simp [intOf]; omega
    · have k1 : k = n := by omega
      subst k1
      go_wp2_with fail
      go_ret
      exact .inr ⟨HJ.out, rfl, HI.out⟩
end Go.Proofs.YthkmjafmmohogaaGreatDoor
