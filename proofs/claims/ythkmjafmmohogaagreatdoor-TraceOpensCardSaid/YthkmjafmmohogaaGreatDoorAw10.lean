/- Runs at constants: table.again, Argument, Do. -/
import Derived.Test.YthkmjafmmohogaaGreatDoorAw9
namespace Go.Proofs.YthkmjafmmohogaaGreatDoor
open Go Go.RowKit
set_option linter.unusedVariables false
set_option maxHeartbeats 1000000
set_option maxRecDepth 100000

def SBox (bm cm gm mc : Nat) : Array Value := #[.slice (some ⟨bm, 0, none⟩) 1 cm, .slice none 0 0, .slice (some ⟨gm, 0, none⟩) 1 mc]
theorem again_c (bm cm : Nat) (ms : Value) (a : Option Addr) (c : Nat) (w : World) (h : Sch1 bm cm ms w) :
    Calls Tryz.prog 212 #[.agg (schV bm cm ms), .int .i64 0, .slice a 0 c] w (Says (.tuple #[.slice none 0 0, .bool true]) w) := by
  have HF := Lib.hid (fun (w' : World) (hb : Below w.heap.size w w') => decode_c bm cm ms a c w' (h.below hb))
  have HD := Lib.hid (fun (w' : World) (hb : Below w.heap.size w w') => encode_c bm cm ms w' (h.below hb))
  obtain ⟨gm, mc, rfl, _⟩ := h.ms
  clear h
  unfold schV msgV at *
  go_enter Tryz.func212, Tryz.ntmps212
  go_wp2_with (go_at_call 9; refine Halt.out ?_)
  refine Halt.mk ?_
  refine (HF.out _ (balloc _ _)).mono ?_
  rintro e w1 ⟨rfl, hb1⟩
  have hbx := blk_below (blk_alloc w (.cells (SBox bm cm gm mc) 33)) hb1 (by simp)
  have HB1 := Lib.hid (bto (balloc w (.cells (SBox bm cm gm mc) 33)) hb1 (Nat.le_refl _))
  have k0 : w1.cell? ⟨w.heap.size, 0, none⟩ = some (.slice (some ⟨bm, 0, none⟩) 1 cm) := blk_cell hbx 0
  have k1 : w1.cell? ⟨w.heap.size, 1, none⟩ = some (.slice none 0 0) := blk_cell hbx 1
  have k2 : w1.cell? ⟨w.heap.size, 2, none⟩ = some (.slice (some ⟨gm, 0, none⟩) 1 mc) := blk_cell hbx 2
  clear hb1 hbx
  go_wp2_with (go_at_call 10; refine Halt.out ?_)
  refine Halt.mk ?_
  refine (HD.out _ HB1.out).mono ?_
  rintro e w2 ⟨rfl, hb2⟩
  go_wp2_with fail
  go_ret2
  exact ⟨rfl, bto HB1.out hb2 (Nat.le_refl _)⟩

theorem argument_c (bm cm : Nat) (ms : Value) (a : Option Addr) (c : Nat) (w : World) (h : Sch1 bm cm ms w) :
    Calls Tryz.prog 178 #[.agg (schV bm cm ms), .int .i64 1, .slice a 0 c] w (Says (.tuple #[.slice none 0 0, .int .i64 0]) w) := by
  have HF := Lib.hid (fun (w' : World) (hb : Below w.heap.size w w') => (h.below hb).formed)
  have HD := Lib.hid (fun (w' : World) (hb : Below w.heap.size w w') => again_c bm cm ms a c w' (h.below hb))
  have HG := Lib.hid (fun (w' : World) (hb : Below w.heap.size w w') => (h.below hb).ms)
  obtain ⟨gm, mc, rfl, _⟩ := h.ms
  clear h
  unfold schV at *
  go_enter Tryz.func178, Tryz.ntmps178
  go_wp2_with (go_at_call 31; refine Halt.out ?_)
  refine Halt.mk ?_
  refine (HF.out _ (balloc _ _)).mono ?_
  rintro e w1 ⟨rfl, hb1⟩
  have hbx := blk_below (blk_alloc w (.cells (SBox bm cm gm mc) 33)) hb1 (by simp)
  have HB1 := Lib.hid (bto (balloc w (.cells (SBox bm cm gm mc) 33)) hb1 (Nat.le_refl _))
  have k0 : w1.cell? ⟨w.heap.size, 0, none⟩ = some (.slice (some ⟨bm, 0, none⟩) 1 cm) := blk_cell hbx 0
  have k1 : w1.cell? ⟨w.heap.size, 1, none⟩ = some (.slice none 0 0) := blk_cell hbx 1
  have k2 : w1.cell? ⟨w.heap.size, 2, none⟩ = some (.slice (some ⟨gm, 0, none⟩) 1 mc) := blk_cell hbx 2
  have g3 : w1.cell? ⟨gm, 3, none⟩ = some (.int .i64 0) := by
    obtain ⟨gm', mc', e, h⟩ := HG.out _ HB1.out
    simp only [Value.slice.injEq, Option.some.injEq, Addr.mk.injEq, and_true, true_and] at e
    rw [e.1]
    exact h
  clear hb1 hbx
  have HD1 := Lib.hid (HD.out w1.drew HB1.out.drew)
  have hwr : IntKind.i64.wrap 0 = 0 := by decide
  go_wp2_with fail
  go_region_law (first
    | (refine step_at 34 rfl ?_; refine step_call rfl Tryz.func212 (by kernel_rfl) (by kernel_rfl) rfl #[.agg #[.slice (some ⟨bm, 0, none⟩) 1 cm, .slice none 0 0, .slice (some ⟨gm, 0, none⟩) 1 mc], .int .i64 0, .slice a 0 c] (by simp only [List.map_toArray, List.map_cons, List.map_nil]; rfl) HD1.out ?_; rintro e w2 ⟨rfl, hb2⟩; refine ⟨_, rfl, ?_⟩))
  all_goals
    go_wp2_with fail
    go_ret2
    exact ⟨rfl, bto (b := w1.drew) HB1.out.drew hb2 (Nat.le_refl _)⟩

theorem do_c (bm cm : Nat) (ms : Value) (ra : Option Addr) (rc : Nat) (a : Option Addr) (c : Nat) (w : World) (h : Sch1 bm cm ms w) :
    Calls Tryz.prog 179 #[.agg (schV bm cm ms), .slice ra 0 rc, .int .i64 1, .slice a 0 c] w (Says (.tuple #[.int .i64 13, .slice none 0 0]) w) := by
  have HF := Lib.hid (fun (w' : World) (hb : Below w.heap.size w w') => argument_c bm cm ms a c w' (h.below hb))
  obtain ⟨gm, mc, rfl, _⟩ := h.ms
  clear h
  unfold schV at *
  go_enter Tryz.func179, Tryz.ntmps179
  go_wp2_with (go_at_call 178; refine Halt.out ?_)
  refine Halt.mk ?_
  refine (HF.out _ (balloc _ _)).mono ?_
  rintro e w1 ⟨rfl, hb1⟩
  have HB1 := Lib.hid (bto (balloc w (.cells (SBox bm cm gm mc) 33)) hb1 (Nat.le_refl _))
  clear hb1
  go_wp2_with fail
  refine wp_loop_rounds 1 ?_
  rw [rounds_succ]
  go_wp2_with fail
  go_ret2
  exact ⟨rfl, HB1.out⟩
end Go.Proofs.YthkmjafmmohogaaGreatDoor
