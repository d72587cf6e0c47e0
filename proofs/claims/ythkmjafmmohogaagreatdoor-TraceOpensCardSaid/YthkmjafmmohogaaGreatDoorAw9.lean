/- Runs at constants: the message without fields fits, is normal, is encoded as no bytes. -/
import Derived.Test.YthkmjafmmohogaaGreatDoorAw8
import Derived.Test.YthkmjafmmohogaaGreatDoorConv
namespace Go.Proofs.YthkmjafmmohogaaGreatDoor
open Go Go.RowKit
set_option linter.unusedVariables false
set_option maxHeartbeats 1000000
set_option maxRecDepth 100000

theorem confld_c (a : Option Addr) (c : Nat) (f : Value) (w : World) : Calls Tryz.prog 175 #[.slice a 0 c, f] w (Says (.bool false) w) := by
  go_enter Tryz.func175, Tryz.ntmps175
  go_wp2
  refine wp_loop_rounds 1 ?_
  rw [rounds_succ]
  go_wp2
  go_ret
  exact ⟨rfl, Below.refl _ _⟩
theorem assert_msg (w : World) : (Instr.typeAssert (.iface 90 (.agg #[.int .i64 0, .slice none 0 0, .string ⟨#[]⟩])) 41 90 true).run Tryz.prog w = .ok (.tuple #[.agg #[.int .i64 0, .slice none 0 0, .string ⟨#[]⟩], .bool true]) w := by kernel_rfl
theorem assert_msg1 (w : World) : (Instr.typeAssert (.iface 90 (.agg #[.int .i64 0, .slice none 0 0, .string ⟨#[]⟩])) 41 90 false).run Tryz.prog w = .ok (.agg #[.int .i64 0, .slice none 0 0, .string ⟨#[]⟩]) w := by kernel_rfl
theorem fits1_c (bm cm : Nat) (ms : Value) (w : World) (h : Sch1 bm cm ms w) :
    Calls Tryz.prog 128 #[.agg (schV bm cm ms), .int .i64 0, .iface 90 msgV, .int .i64 1] w (Says (.bool true) w) := by
  obtain ⟨gm, mc, rfl, _⟩ := h.ms
  have HS := Lib.hid h
  clear h
  have HSP := Lib.hid splitnil_c
  have HCF := Lib.hid confld_c
  have hmf : ∀ (fn : Fn) (first cap : Array Value) (w : World), (Instr.makeFunc fn first cap).run Tryz.prog w = .ok (.func fn first cap) w := fun _ _ _ _ => rfl
  obtain ⟨fa, fc, k3, k4⟩ := HS.out.cells
  have hbl : bm < w.heap.size := World.block_lt_of_cell? w ⟨bm, 0, none⟩ k3
  have hb1 := balloc w (.cells #[.slice (some ⟨bm, 0, none⟩) 1 cm, .slice none 0 0, .slice (some ⟨gm, 0, none⟩) 1 mc] 33)
  have hb2 := hb1.alloc (by simp) (.cells #[.int .i64 0, .slice none 0 0, .string ⟨#[]⟩] 90)
  have HB2 := Lib.hid hb2
  have m3 := (hb2.cell (p := ⟨bm, 0, none⟩) hbl).trans k3
  have m4 := (hb2.cell (p := ⟨bm, 1, none⟩) hbl).trans k4
  clear hb1 hb2 k3 k4
  unfold schV msgV
  have hta := assert_msg
  go_enter Tryz.func128, Tryz.ntmps128
  go_wp2_with (refine at_dst 47 rfl ?_; refine Halt.out ?_)
  refine Halt.mk ?_
  refine wpList_tobytes rfl rfl (s := ⟨#[]⟩) rfl (by decide) ?_
  intro v w1 hv hb1 _
  obtain ⟨a, c, rfl, _, _, _⟩ := hv.form
  have hx1 : w1.heap[w.heap.size + 1]? = some (.cells #[.int .i64 0, .slice none 0 0, .string ⟨#[]⟩] 90) := blk_below (blk_alloc_old (blk_alloc' (by simp) _) _) hb1 (by simp)
  have hv' : (⟨#[]⟩ : ByteArray).data.toList.length = 0 := rfl
  rw [hv']
  have HB3 := Lib.hid (bto (HB2.out.alloc (by simp; omega) _) hb1 (Nat.le_refl _))
  clear hv hb1 hv'
  go_wp2_with (go_at_call 69; refine Halt.out ?_)
  refine Halt.mk ?_
  refine (HSP.out _ _ _).mono ?_
  rintro e w2 ⟨rfl, hb2⟩
  have HB4 := Lib.hid (bto HB3.out hb2 (Nat.le_refl _))
  have hx2 := blk_below hx1 hb2 (blk_lt hx1)
  clear hb2
  go_wp2_with (go_at_call 175; refine Halt.out ?_)
  refine Halt.mk ?_
  refine (HCF.out _ _ _ _).mono ?_
  rintro e w3 ⟨rfl, hb3⟩
  have HB5 := Lib.hid (bto HB4.out hb3 (Nat.le_refl _))
  have hx3 := blk_below hx2 hb3 (blk_lt hx2)
  have q1 : w3.cell? ⟨w.heap.size + 1, 1, none⟩ = some (.slice none 0 0) := blk_cell hx3 1
  clear hb3 hx1 hx2 hx3
  go_wp2_with fail
  refine wp_loop_rounds 1 ?_
  rw [rounds_succ]
  go_wp2_with fail
  go_ret
  exact ⟨rfl, HB5.out⟩

theorem bigfits_c (bm cm : Nat) (ms : Value) (w : World) (h : Sch1 bm cm ms w) :
    Calls Tryz.prog 74 #[.agg (schV bm cm ms), .int .i64 0, .iface 90 msgV] w (Says (.bool true) w) := by
  have HF := Lib.hid (fun (w' : World) (hb : Below w.heap.size w w') => (h.below hb).formed)
  have HD := Lib.hid (fun (w' : World) (hb : Below w.heap.size w w') => fits1_c bm cm ms w' (h.below hb))
  obtain ⟨gm, mc, rfl, _⟩ := h.ms
  clear h
  unfold schV msgV at *
  go_enter Tryz.func74, Tryz.ntmps74
  go_wp2_with (go_at_call 31; refine Halt.out ?_)
  refine Halt.mk ?_
  refine (HF.out _ (balloc _ _)).mono ?_
  rintro e w1 ⟨rfl, hb1⟩
  have hbx := blk_below (blk_alloc w (.cells #[.slice (some ⟨bm, 0, none⟩) 1 cm, .slice none 0 0, .slice (some ⟨gm, 0, none⟩) 1 mc] 33)) hb1 (by simp)
  have HB1 := Lib.hid (bto (balloc w (.cells #[.slice (some ⟨bm, 0, none⟩) 1 cm, .slice none 0 0, .slice (some ⟨gm, 0, none⟩) 1 mc] 33)) hb1 (Nat.le_refl _))
  have k0 : w1.cell? ⟨w.heap.size, 0, none⟩ = some (.slice (some ⟨bm, 0, none⟩) 1 cm) := blk_cell hbx 0
  have k1 : w1.cell? ⟨w.heap.size, 1, none⟩ = some (.slice none 0 0) := blk_cell hbx 1
  have k2 : w1.cell? ⟨w.heap.size, 2, none⟩ = some (.slice (some ⟨gm, 0, none⟩) 1 mc) := blk_cell hbx 2
  clear hb1 hbx
  go_wp2_with (go_at_call 128; refine Halt.out ?_)
  refine Halt.mk ?_
  refine (HD.out _ HB1.out).mono ?_
  rintro e w2 ⟨rfl, hb2⟩
  go_wp2_with fail
  go_ret
  exact ⟨rfl, bto HB1.out hb2 (Nat.le_refl _)⟩

theorem size_msg (w : World) : (sizeOf 90).run Tryz.prog w = .ok 3 w := by kernel_rfl
theorem normal1_c (bm cm : Nat) (ms : Value) (w : World) (hms : ∃ a n c, ms = .slice a n c) :
    Calls Tryz.prog 75 #[.agg (schV bm cm ms), msgV] w (Says msgV w) := by
  obtain ⟨ma, mn, mc, rfl⟩ := hms
  unfold schV msgV
  go_enter Tryz.func75, Tryz.ntmps75
  go_wp2_with fail
  refine wp_loop_rounds 1 ?_
  rw [rounds_succ]
  go_wp2_with fail
  refine bodyPost_ret (results_cell1 Tryz.results75 _ rfl (run_loadVar_blk Tryz.underlying90 size_msg (blk_alloc_old (blk_alloc' (by simp) _) _) rfl)) rfl ⟨rfl, ?_⟩
  exact (((balloc w _).alloc (by simp) _).alloc (by simp; omega) _).alloc (by simp; omega) _

theorem normal_c (bm cm : Nat) (ms : Value) (w : World) (h : Sch1 bm cm ms w) :
    Calls Tryz.prog 33 #[.agg (schV bm cm ms), .int .i64 0, .iface 90 msgV] w (Says (.tuple #[.iface 90 msgV, .int .i64 0]) w) := by
  have HF := Lib.hid (fun (w' : World) (hb : Below w.heap.size w w') => bigfits_c bm cm ms w' (h.below hb))
  have HD := Lib.hid (fun (w' : World) (hb : Below w.heap.size w w') => normal1_c bm cm ms w' (by obtain ⟨gm, mc, e, _⟩ := h.ms; exact ⟨_, _, _, e⟩))
  obtain ⟨gm, mc, rfl, _⟩ := h.ms
  clear h
  have hta := assert_msg1
  unfold schV msgV at *
  go_enter Tryz.func33, Tryz.ntmps33
  go_wp2_with (go_at_call 74; refine Halt.out ?_)
  refine Halt.mk ?_
  refine (HF.out _ (balloc _ _)).mono ?_
  rintro e w1 ⟨rfl, hb1⟩
  have hbx := blk_below (blk_alloc w (.cells #[.slice (some ⟨bm, 0, none⟩) 1 cm, .slice none 0 0, .slice (some ⟨gm, 0, none⟩) 1 mc] 33)) hb1 (by simp)
  have HB1 := Lib.hid (bto (balloc w (.cells #[.slice (some ⟨bm, 0, none⟩) 1 cm, .slice none 0 0, .slice (some ⟨gm, 0, none⟩) 1 mc] 33)) hb1 (Nat.le_refl _))
  have k0 : w1.cell? ⟨w.heap.size, 0, none⟩ = some (.slice (some ⟨bm, 0, none⟩) 1 cm) := blk_cell hbx 0
  have k1 : w1.cell? ⟨w.heap.size, 1, none⟩ = some (.slice none 0 0) := blk_cell hbx 1
  have k2 : w1.cell? ⟨w.heap.size, 2, none⟩ = some (.slice (some ⟨gm, 0, none⟩) 1 mc) := blk_cell hbx 2
  clear hb1 hbx
  have HD1 := Lib.hid (HD.out w1.drew HB1.out.drew)
  go_wp2_with fail
  go_region_law (first
    | (refine step_at 16 rfl ?_; refine step_call rfl Tryz.func75 (by kernel_rfl) (by kernel_rfl) rfl #[.agg #[.slice (some ⟨bm, 0, none⟩) 1 cm, .slice none 0 0, .slice (some ⟨gm, 0, none⟩) 1 mc], .agg #[.int .i64 0, .slice none 0 0, .string ⟨#[]⟩]] (by simp only [List.map_toArray, List.map_cons, List.map_nil]; rfl) HD1.out ?_; rintro e w2 ⟨rfl, hb2⟩; refine ⟨_, rfl, ?_⟩))
  all_goals
    go_wp2_with fail
    go_ret2
    exact ⟨rfl, bto (b := w1.drew) HB1.out.drew hb2 (Nat.le_refl _)⟩

theorem must_c (w : World) : Calls Tryz.prog 35 #[.iface 90 msgV] w (Says msgV w) := by
  have hta := assert_msg1
  unfold msgV
  go_enter Tryz.func35, Tryz.ntmps35
  go_wp2_with fail
  refine bodyPost_ret (results_cell1 Tryz.results35 _ rfl (run_loadVar_blk Tryz.underlying90 size_msg (blk_alloc' (by simp) _) rfl)) rfl ⟨rfl, balloc _ _⟩
theorem encmsg_c (bm cm : Nat) (ms : Value) (w : World) (hms : ∃ a n c, ms = .slice a n c) :
    Calls Tryz.prog 34 #[.agg (schV bm cm ms), msgV] w (Says (.slice none 0 0) w) := by
  obtain ⟨ma, mn, mc, rfl⟩ := hms
  have hmf : ∀ (fn : Fn) (first cap : Array Value) (w : World), (Instr.makeFunc fn first cap).run Tryz.prog w = .ok (.func fn first cap) w := fun _ _ _ _ => rfl
  unfold schV msgV
  go_enter Tryz.func34, Tryz.ntmps34
  go_wp2_with fail
  refine wp_loop_rounds 1 ?_
  rw [rounds_succ]
  go_wp2_with fail
  go_ret
  exact ⟨rfl, ((balloc w _).alloc (by simp) _).alloc (by simp; omega) _⟩

theorem encode_c (bm cm : Nat) (ms : Value) (w : World) (h : Sch1 bm cm ms w) :
    Calls Tryz.prog 10 #[.agg (schV bm cm ms), .int .i64 0, .iface 90 msgV] w (Says (.tuple #[.slice none 0 0, .int .i64 0]) w) := by
  have HF := Lib.hid (fun (w' : World) (hb : Below w.heap.size w w') => normal_c bm cm ms w' (h.below hb))
  have HM := Lib.hid must_c
  obtain ⟨gm, mc, rfl, _⟩ := h.ms
  have HD := Lib.hid (fun (w' : World) => encmsg_c bm cm (.slice (some ⟨gm, 0, none⟩) 1 mc) w' ⟨_, _, _, rfl⟩)
  clear h
  unfold schV msgV at *
  go_enter Tryz.func10, Tryz.ntmps10
  go_wp2_with (go_at_call 33; refine Halt.out ?_)
  refine Halt.mk ?_
  refine (HF.out _ (balloc _ _)).mono ?_
  rintro e w1 ⟨rfl, hb1⟩
  have hbx := blk_below (blk_alloc w (.cells #[.slice (some ⟨bm, 0, none⟩) 1 cm, .slice none 0 0, .slice (some ⟨gm, 0, none⟩) 1 mc] 33)) hb1 (by simp)
  have HB1 := Lib.hid (bto (balloc w (.cells #[.slice (some ⟨bm, 0, none⟩) 1 cm, .slice none 0 0, .slice (some ⟨gm, 0, none⟩) 1 mc] 33)) hb1 (Nat.le_refl _))
  have k0 : w1.cell? ⟨w.heap.size, 0, none⟩ = some (.slice (some ⟨bm, 0, none⟩) 1 cm) := blk_cell hbx 0
  have k1 : w1.cell? ⟨w.heap.size, 1, none⟩ = some (.slice none 0 0) := blk_cell hbx 1
  have k2 : w1.cell? ⟨w.heap.size, 2, none⟩ = some (.slice (some ⟨gm, 0, none⟩) 1 mc) := blk_cell hbx 2
  have HX := Lib.hid (show w1.drew.heap[w.heap.size]? = _ from hbx)
  have HBD := Lib.hid HB1.out.drew
  clear hb1 hbx
  go_wp2_with fail
  go_region_law (first
    | (refine step_at 22 rfl ?_; refine step_call rfl Tryz.func35 (by kernel_rfl) (by kernel_rfl) rfl #[.iface 90 (.agg #[.int .i64 0, .slice none 0 0, .string ⟨#[]⟩])] (by simp only [List.map_toArray, List.map_cons, List.map_nil]; rfl) (HM.out _) ?_; rintro e w2 ⟨rfl, hb2⟩; have hbx2 := blk_below HX.out hb2 (blk_lt HX.out); have j0 : w2.cell? ⟨w.heap.size, 0, none⟩ = some (.slice (some ⟨bm, 0, none⟩) 1 cm) := blk_cell hbx2 0; have j1 : w2.cell? ⟨w.heap.size, 1, none⟩ = some (.slice none 0 0) := blk_cell hbx2 1; have j2 : w2.cell? ⟨w.heap.size, 2, none⟩ = some (.slice (some ⟨gm, 0, none⟩) 1 mc) := blk_cell hbx2 2; have hb2x : Below w.heap.size w w2 := bto HBD.out hb2 (Nat.le_refl _); refine ⟨_, rfl, ?_⟩)
    | (refine step_at 23 rfl ?_; refine step_call rfl Tryz.func34 (by kernel_rfl) (by kernel_rfl) rfl #[.agg #[.slice (some ⟨bm, 0, none⟩) 1 cm, .slice none 0 0, .slice (some ⟨gm, 0, none⟩) 1 mc], .agg #[.int .i64 0, .slice none 0 0, .string ⟨#[]⟩]] (by simp only [List.map_toArray, List.map_cons, List.map_nil]; rfl) (HD.out _) ?_; rintro e w3 ⟨rfl, hb3⟩; refine ⟨_, rfl, ?_⟩))
  all_goals
    go_wp2_with fail
    go_ret2
    exact ⟨rfl, bto hb2x hb3 (Nat.le_refl _)⟩
end Go.Proofs.YthkmjafmmohogaaGreatDoor
