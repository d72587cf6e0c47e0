/- Runs at constants: trace.Judge: what may be. -/
import Derived.Test.YthkmjafmmohogaaGreatDoorJu2
namespace Go.Proofs.YthkmjafmmohogaaGreatDoor
open Go Go.RowKit
open Go.Maps (Keyed)
set_option linter.unusedVariables false
set_option maxHeartbeats 1000000
set_option maxRecDepth 100000

theorem J0.below {bm cm : Nat} {ms : Value} {bj bc bl : Nat} {w w1 : World} (h : J0 bm cm ms bj bc bl w) (hb : Below w.heap.size w w1) : J0 bm cm ms bj bc bl w1 := by
  obtain ⟨hS, hj, hmc, hml, hne⟩ := h
  exact ⟨hS.below hb, blk_below hj hb (blk_lt hj), hmc.below hb, hml.below hb, hne⟩
theorem J1.below {bm cm : Nat} {ms : Value} {bj bc bl bk : Nat} {p : Option Addr} {w w1 : World} (h : J1 bm cm ms bj bc bl bk p w) (hb : Below w.heap.size w w1) : J1 bm cm ms bj bc bl bk p w1 := by
  obtain ⟨hS, hj, ⟨f, hmc, hf⟩, hk⟩ := h
  exact ⟨hS.below hb, blk_below hj hb (blk_lt hj), ⟨f, hmc.below hb, hf⟩, blk_below hk hb (blk_lt hk)⟩

theorem may1_c (bm cm : Nat) (ms : Value) (bj bc bl B : Nat) (w : World) (h : J0 bm cm ms bj bc bl w) (hB : B ≤ w.heap.size) (hc : B ≤ bc) (hl : B ≤ bl) :
    Calls Tryz.prog 84 #[.pointer (some ⟨bj, 0, none⟩), .agg ev1] w (IssPost bm cm ms bj bc bl B w) := by
  have HC := Lib.hid (fun (w' : World) (hb : Below w.heap.size w w') => issued_c bm cm ms bj bc bl B w' (h.below hb) (Nat.le_trans hB hb.size) hc hl)
  clear h
  unfold ev1 at *
  go_enter Tryz.func84, Tryz.ntmps84
  go_wp2_with (go_at_call 137; refine Halt.out ?_)
  refine Halt.mk ?_
  refine (HC.out _ (balloc _ _)).mono ?_
  rintro e w1 ⟨rfl, ⟨bk, hbk, hJ⟩, hb1, he1⟩
  have HP : Hid (IssPost bm cm ms bj bc bl B w (.returned (.bool true)) w1) := ⟨rfl, ⟨bk, by simp at hbk; omega, hJ⟩, ((balloc w _).mono hB).trans hb1, (Ext.of_below (balloc w _)).trans he1⟩
  clear hJ hb1 he1 hbk
  go_wp2_with fail
  go_ret
  exact HP.out

theorem may2_any (bm cm : Nat) (ms : Value) (bj bc bl bk : Nat) (p : Option Addr) (w : World) (h : J1 bm cm ms bj bc bl bk p w) (R : Ending → World → Prop) (b : Bool)
    (HE : ∀ w', Below w.heap.size w w' → Calls Tryz.prog 138 #[.pointer (some ⟨bj, 0, none⟩), .pointer (some ⟨bk, 0, none⟩), .agg ev2] w' (fun e w2 => e = .returned (.bool b) ∧ R e w2)) :
    Calls Tryz.prog 84 #[.pointer (some ⟨bj, 0, none⟩), .agg ev2] w R := by
  obtain ⟨hS, hj, ⟨f, hmc, hf⟩, hk⟩ := h
  have HH := Lib.hid HE
  have hjl := blk_lt hj
  have hkl := blk_lt hk
  have j4 : w.cell? ⟨bj, 4, none⟩ = some (.map (some bc)) := blk_cell hj 4
  have k3 : w.cell? ⟨bk, 3, none⟩ = some (.int .i64 1) := blk_cell hk 3
  have hob : ∀ (o : Obj) (i : Nat), (w.alloc o).cell? ⟨bk, i, none⟩ = w.cell? ⟨bk, i, none⟩ := fun o i => (balloc w o).cell (p := ⟨bk, i, none⟩) hkl
  have hoj : ∀ (o : Obj) (i : Nat), (w.alloc o).cell? ⟨bj, i, none⟩ = w.cell? ⟨bj, i, none⟩ := fun o i => (balloc w o).cell (p := ⟨bj, i, none⟩) hjl
  have hA := (balloc w (.cells #[.int .i64 2, .int .i64 1, .int .u64 1, .int .i64 1, .int .i64 13, .slice none 0 0] 95)).drew
  have lk := ((hmc.below hA).look key_law Tryz.underlying182 key_good1 (zero_call _)).1
  rw [hf] at lk
  simp only [Option.getD_some] at lk
  have HA2 := Lib.hid (hA.drew)
  clear hS hj hmc hk hA HE hf
  unfold ev2 at *
  go_enter Tryz.func84, Tryz.ntmps84
  go_wp2_with fail
  go_region
  all_goals
    go_wp2_with fail
    go_region
  all_goals
    go_wp2_with (go_at_call 138; refine Halt.out ?_)
    refine Halt.mk ?_
    refine (HH.out _ HA2.out).mono ?_
    rintro e w1 ⟨rfl, hr⟩
    have HP := Lib.hid hr
    clear hr
    go_wp2_with fail
    exact HP.out

/-- Judge's function on an event: it says no, if the event may be. -/
theorem judge1_c (bj bp : Nat) (ev : Array Value) (hev : ∃ k c t m s a n cc, ev = #[.int .i64 k, .int .i64 c, .int .u64 t, .int .i64 m, .int .i64 s, .slice a n cc]) (w : World) (hp : w.cell? ⟨bp, 0, none⟩ = some (.pointer (some ⟨bj, 0, none⟩))) (b : Bool) (R : World → Prop)
    (HM : ∀ w', Below w.heap.size w w' → Calls Tryz.prog 84 #[.pointer (some ⟨bj, 0, none⟩), .agg ev] w' (fun e w2 => e = .returned (.bool b) ∧ R w2)) :
    Calls Tryz.prog 83 #[.agg ev, .pointer (some ⟨bp, 0, none⟩)] w (fun e w2 => e = .returned (.bool (!b)) ∧ R w2) := by
  obtain ⟨ek, ec, et, em, es, ea, en, ecc, rfl⟩ := hev
  have HH := Lib.hid HM
  have hbl : bp < w.heap.size := World.block_lt_of_cell? w ⟨bp, 0, none⟩ hp
  have hob : ∀ (o : Obj) (i : Nat), (w.alloc o).cell? ⟨bp, i, none⟩ = w.cell? ⟨bp, i, none⟩ := fun o i => (balloc w o).cell (p := ⟨bp, i, none⟩) hbl
  clear HM
  go_enter Tryz.func83, Tryz.ntmps83
  go_wp2_with (go_at_call 84; refine Halt.out ?_)
  refine Halt.mk ?_
  refine (HH.out _ (balloc _ _)).mono ?_
  rintro e w1 ⟨rfl, hr⟩
  have HP := Lib.hid hr
  clear hr
  go_wp2_with fail
  go_ret
  exact ⟨rfl, HP.out⟩
end Go.Proofs.YthkmjafmmohogaaGreatDoor
