/- Runs at constants: no bytes, decoded as the one message. -/
import Derived.Test.YthkmjafmmohogaaGreatDoorAw7
namespace Go.Proofs.YthkmjafmmohogaaGreatDoor
open Go Go.RowKit
set_option linter.unusedVariables false
set_option maxHeartbeats 1000000
set_option maxRecDepth 100000

/-- The schema of one message "A" and one method "S.m". -/
def Sch1 (bm cm : Nat) (ms : Value) (w : World) : Prop :=
  ∃ gm mc fa fc, ms = .slice (some ⟨gm, 0, none⟩) 1 mc ∧ cellsAt bm 0 [.string (one 65), .slice fa 0 fc] w ∧ cellsAt gm 0 (mdVal 1 (one 83) (one 109) 0 0).toList w
theorem Sch1.below {bm cm : Nat} {ms : Value} {w w1 : World} (h : Sch1 bm cm ms w) (hb : Below w.heap.size w w1) : Sch1 bm cm ms w1 := by
  obtain ⟨gm, mc, fa, fc, rfl, h1, h2⟩ := h
  exact ⟨gm, mc, fa, fc, rfl, cells_below h1 hb, cells_below h2 hb⟩
theorem Sch1.formed {bm cm : Nat} {ms : Value} {w : World} (h : Sch1 bm cm ms w) : Calls Tryz.prog 31 #[.agg (schV bm cm ms)] w (Says (.bool true) w) := by
  obtain ⟨gm, mc, fa, fc, rfl, h1, h2⟩ := h
  refine formed_any bm cm 65 (.inl (by decide)) fa 0 fc _ w (.inr ⟨gm, mc, 83, 109, rfl, .inl (by decide), .inr (by decide), h2⟩) h1 (fun w' _ => msg0_c bm cm _ ⟨_, _, _, rfl⟩ _ fa fc w') (fun w' hb => ?_)
  exact needs_any bm cm _ w' ⟨_, _, _, rfl⟩ (fun bs bt bv br w2 hb2 hs => needs1_c bm cm (one 65) (.slice (some ⟨gm, 0, none⟩) 1 mc) bs bt bv br w2 ⟨fa, fc, cells_below (cells_below h1 hb) hb2⟩ hs)
theorem Sch1.cells {bm cm : Nat} {ms : Value} {w : World} (h : Sch1 bm cm ms w) : ∃ fa fc, w.cell? ⟨bm, 0, none⟩ = some (.string (one 65)) ∧ w.cell? ⟨bm, 1, none⟩ = some (.slice fa 0 fc) := by
  obtain ⟨gm, mc, fa, fc, rfl, h1, h2⟩ := h
  exact ⟨fa, fc, h1 0 _ rfl, h1 1 _ rfl⟩
theorem Sch1.ms {bm cm : Nat} {ms : Value} {w : World} (h : Sch1 bm cm ms w) : ∃ gm mc, ms = .slice (some ⟨gm, 0, none⟩) 1 mc ∧ w.cell? ⟨gm, 3, none⟩ = some (.int .i64 0) := by
  obtain ⟨gm, mc, fa, fc, rfl, h1, h2⟩ := h
  exact ⟨gm, mc, rfl, h2 3 _ rfl⟩

/-- The message without fields. -/
def msgV : Value := .agg #[.int .i64 0, .slice none 0 0, .string ⟨#[]⟩]
theorem splitnil_c (a : Option Addr) (c : Nat) (w : World) : Calls Tryz.prog 69 #[.slice a 0 c] w (Says (.tuple #[.slice none 0 0, .slice none 0 0, .int .i64 0]) w) := by
  go_enter Tryz.func69, Tryz.ntmps69
  go_wp2_with fail
  refine wp_loop_rounds 1 ?_
  rw [rounds_succ]
  go_wp2_with fail
  go_ret3
  exact ⟨rfl, Below.refl _ _⟩

theorem decmsg_c (bm cm : Nat) (ms : Value) (a : Option Addr) (c : Nat) (w : World) (h : Sch1 bm cm ms w) :
    Calls Tryz.prog 32 #[.agg (schV bm cm ms), .int .i64 0, .slice a 0 c, .int .i64 1] w (Says (.tuple #[.iface 90 msgV, .int .i64 0]) w) := by
  have hmm := @run_makeMap Tryz.prog
  obtain ⟨gm, mc, rfl, _⟩ := h.ms
  have HS := Lib.hid h
  clear h
  have HSP := Lib.hid (splitnil_c a c)
  unfold schV
  go_enter Tryz.func32, Tryz.ntmps32
  go_wp2_with (go_at_call 69; refine Halt.out ?_)
  refine Halt.mk ?_
  refine (HSP.out _).mono ?_
  rintro e w1 ⟨rfl, hb1⟩
  have hbx := blk_below (blk_alloc w (.cells #[.slice (some ⟨bm, 0, none⟩) 1 cm, .slice none 0 0, .slice (some ⟨gm, 0, none⟩) 1 mc] 33)) hb1 (by simp)
  have HB1 := Lib.hid (bto (balloc w (.cells #[.slice (some ⟨bm, 0, none⟩) 1 cm, .slice none 0 0, .slice (some ⟨gm, 0, none⟩) 1 mc] 33)) hb1 (Nat.le_refl _))
  have k0 : w1.cell? ⟨w.heap.size, 0, none⟩ = some (.slice (some ⟨bm, 0, none⟩) 1 cm) := blk_cell hbx 0
  obtain ⟨fa, fc, k3, k4⟩ := (HS.out.below HB1.out).cells
  clear hb1 hbx
  go_wp2_with fail
  refine wp_loop_rounds 1 ?_
  rw [rounds_succ]
  go_wp2_with fail
  refine wp_loop_rounds 1 ?_
  rw [rounds_succ]
  go_wp2_with fail
  go_ret2
  refine ⟨rfl, bto HB1.out (((balloc w1 _).alloc (by simp) _).alloc (by simp; omega) _) (Nat.le_refl _)⟩

theorem decode_c (bm cm : Nat) (ms : Value) (a : Option Addr) (c : Nat) (w : World) (h : Sch1 bm cm ms w) :
    Calls Tryz.prog 9 #[.agg (schV bm cm ms), .int .i64 0, .slice a 0 c] w (Says (.tuple #[.iface 90 msgV, .int .i64 0]) w) := by
  have HF := Lib.hid (fun (w' : World) (hb : Below w.heap.size w w') => (h.below hb).formed)
  have HD := Lib.hid (fun (w' : World) (hb : Below w.heap.size w w') => decmsg_c bm cm ms a c w' (h.below hb))
  obtain ⟨gm, mc, rfl, _⟩ := h.ms
  clear h
  unfold schV at *
  go_enter Tryz.func9, Tryz.ntmps9
  go_wp2_with (go_at_call 31; refine Halt.out ?_)
  refine Halt.mk ?_
  refine (HF.out _ (balloc _ _)).mono ?_
  rintro e w1 ⟨rfl, hb1⟩
  have hbx := blk_below (blk_alloc w (.cells #[.slice (some ⟨bm, 0, none⟩) 1 cm, .slice none 0 0, .slice (some ⟨gm, 0, none⟩) 1 mc] 33)) hb1 (by simp)
  have HB1 := Lib.hid (bto (balloc w (.cells #[.slice (some ⟨bm, 0, none⟩) 1 cm, .slice none 0 0, .slice (some ⟨gm, 0, none⟩) 1 mc] 33)) hb1 (Nat.le_refl _))
  have k0 : w1.cell? ⟨w.heap.size, 0, none⟩ = some (.slice (some ⟨bm, 0, none⟩) 1 cm) := blk_cell hbx 0
  have k1 : w1.cell? ⟨w.heap.size, 1, none⟩ = some (.slice none 0 0) := blk_cell hbx 1
  have k2 : w1.cell? ⟨w.heap.size, 2, none⟩ = some (.slice (some ⟨gm, 0, none⟩) 1 mc) := blk_cell hbx 2
  clear hb1 hbx
  go_wp2_with (go_at_call 32; refine Halt.out ?_)
  refine Halt.mk ?_
  refine (HD.out _ HB1.out).mono ?_
  rintro e w2 ⟨rfl, hb2⟩
  go_wp2_with fail
  go_ret2
  exact ⟨rfl, bto HB1.out hb2 (Nat.le_refl _)⟩
end Go.Proofs.YthkmjafmmohogaaGreatDoor
