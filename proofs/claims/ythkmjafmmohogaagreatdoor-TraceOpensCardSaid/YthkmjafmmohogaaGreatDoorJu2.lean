/- Runs at constants: trace.Judge: a call is executed. -/
import Derived.Test.YthkmjafmmohogaaGreatDoorJu1
namespace Go.Proofs.YthkmjafmmohogaaGreatDoor
open Go Go.RowKit
open Go.Maps (Keyed)
set_option linter.unusedVariables false
set_option maxHeartbeats 1000000
set_option maxRecDepth 100000

theorem Sch1.cellsSome {bm cm : Nat} {ms : Value} {w : World} (h : Sch1 bm cm ms w) : ∃ gm mc, ms = .slice (some ⟨gm, 0, none⟩) 1 mc ∧ Sch1 bm cm (.slice (some ⟨gm, 0, none⟩) 1 mc) w := by
  obtain ⟨gm, mc, fa, fc, rfl, h1, h2⟩ := h
  exact ⟨gm, mc, rfl, gm, mc, fa, fc, rfl, h1, h2⟩
/-- All ways of a region that come to one goal: proved once. -/
theorem share {R : World → Prop} {T : Prop} {G : World → Prop} (f : (∀ w1, R w1 → G w1) → T) (g : ∀ w1, R w1 → G w1) : T := f g
def ExePost (bm cm : Nat) (ms : Value) (bj bc bl bk B : Nat) (w : World) (e : Ending) (w' : World) : Prop := e = .returned (.bool true) ∧ (∃ p, J1 bm cm ms bj bc bl bk (some p) w') ∧ Below B w w' ∧ Ext (fun k => k = bk) w w'
theorem executed_no (bm cm : Nat) (ms : Value) (bj bc bl bk : Nat) (p : Addr) (w : World) (h : J1 bm cm ms bj bc bl bk (some p) w) :
    Calls Tryz.prog 138 #[.pointer (some ⟨bj, 0, none⟩), .pointer (some ⟨bk, 0, none⟩), .agg ev2] w (Says (.bool false) w) := by
  obtain ⟨hS, hj, hmc, hk⟩ := h
  have hkl := blk_lt hk
  have k6 : w.cell? ⟨bk, 6, none⟩ = some (.pointer (some p)) := blk_cell hk 6
  have hob : ∀ (o : Obj) (i : Nat), (w.alloc o).cell? ⟨bk, i, none⟩ = w.cell? ⟨bk, i, none⟩ := fun o i => (balloc w o).cell (p := ⟨bk, i, none⟩) hkl
  clear hS hj hmc hk
  unfold ev2
  go_enter Tryz.func138, Tryz.ntmps138
  go_wp2_with fail
  all_goals
    go_ret
    exact ⟨rfl, balloc _ _⟩

theorem executed_c (bm cm : Nat) (ms : Value) (bj bc bl bk B : Nat) (w : World) (h : J1 bm cm ms bj bc bl bk none w) (hB : B ≤ w.heap.size) (hkB : B ≤ bk) (hjk : bj ≠ bk) (hnk : bm ≠ bk ∧ (∀ gm mc, ms = .slice (some ⟨gm, 0, none⟩) 1 mc → gm ≠ bk)) :
    Calls Tryz.prog 138 #[.pointer (some ⟨bj, 0, none⟩), .pointer (some ⟨bk, 0, none⟩), .agg ev2] w (ExePost bm cm ms bj bc bl bk B w) := by
  obtain ⟨hS, hj, hmc, hk⟩ := h
  obtain ⟨gm, mc, rfl, hS'⟩ := hS.cellsSome
  have HS := Lib.hid hS'
  have HJ := Lib.hid hj
  have HK := Lib.hid hk
  have HMC := Lib.hid hmc
  have HAR := Lib.hid (fun (w' : World) (hb : Below w.heap.size w w') => argument_c bm cm _ none 0 w' (hS'.below hb))
  have HDO := Lib.hid (fun (w' : World) (hb : Below w.heap.size w w') => do_c bm cm _ none 0 none 0 w' (hS'.below hb))
  have hkl := blk_lt hk
  have hjl := blk_lt hj
  have k0 : w.cell? ⟨bk, 5, none⟩ = some (.slice none 0 0) := blk_cell hk 5
  have k6 : w.cell? ⟨bk, 6, none⟩ = some (.pointer none) := blk_cell hk 6
  have k7 : w.cell? ⟨bk, 7, none⟩ = some (.pointer none) := blk_cell hk 7
  have j0 : w.cell? ⟨bj, 0, none⟩ = some (.slice (some ⟨bm, 0, none⟩) 1 cm) := blk_cell hj 0
  have j1 : w.cell? ⟨bj, 1, none⟩ = some (.slice none 0 0) := blk_cell hj 1
  have j2 : w.cell? ⟨bj, 2, none⟩ = some (.slice (some ⟨gm, 0, none⟩) 1 mc) := blk_cell hj 2
  have hob : ∀ (o : Obj) (i : Nat), (w.alloc o).cell? ⟨bk, i, none⟩ = w.cell? ⟨bk, i, none⟩ := fun o i => (balloc w o).cell (p := ⟨bk, i, none⟩) hkl
  have hoj : ∀ (o : Obj) (i : Nat), (w.alloc o).cell? ⟨bj, i, none⟩ = w.cell? ⟨bj, i, none⟩ := fun o i => (balloc w o).cell (p := ⟨bj, i, none⟩) hjl
  have HA := Lib.hid (balloc w (.cells #[.int .i64 2, .int .i64 1, .int .u64 1, .int .i64 1, .int .i64 13, .slice none 0 0] 95)).drew
  have HX := Lib.hid (show (w.alloc (.cells #[.int .i64 2, .int .i64 1, .int .u64 1, .int .i64 1, .int .i64 13, .slice none 0 0] 95)).drew.heap[w.heap.size]? = some (.cells ev2 95) from blk_alloc w _)
  unfold schV at HAR HDO
  clear hS hj hmc hk hS'
  unfold ev2
  go_enter Tryz.func138, Tryz.ntmps138
  go_wp2_with fail
  refine share (R := fun w1 => Below (w.alloc (.cells #[.int .i64 2, .int .i64 1, .int .u64 1, .int .i64 1, .int .i64 13, .slice none 0 0] 95)).drew.heap.size (w.alloc (.cells #[.int .i64 2, .int .i64 1, .int .u64 1, .int .i64 1, .int .i64 13, .slice none 0 0] 95)).drew w1) (G := _) (fun fin => by
      go_region_law (first
        | (refine step_at 55 rfl ?_; refine step_call rfl Tryz.func178 (by kernel_rfl) (by kernel_rfl) rfl #[.agg #[.slice (some ⟨bm, 0, none⟩) 1 cm, .slice none 0 0, .slice (some ⟨gm, 0, none⟩) 1 mc], .int .i64 1, .slice none 0 0] (by simp only [List.map_toArray, List.map_cons, List.map_nil]; rfl) (HAR.out _ HA.out) ?_; rintro e w1 ⟨rfl, hb1⟩; refine ⟨_, rfl, ?_⟩))
      all_goals exact fin w1 hb1) (fun w1 hb1 => ?_)
  have hx1 := blk_below HX.out hb1 (by simp)
  have HB1 := Lib.hid (bto HA.out hb1 (Nat.le_refl _))
  have hj1 := blk_below HJ.out HB1.out (blk_lt HJ.out)
  have hk1 := blk_below HK.out HB1.out (blk_lt HK.out)
  have k0' : w1.cell? ⟨bk, 5, none⟩ = some (.slice none 0 0) := blk_cell hk1 5
  have j0' : w1.cell? ⟨bj, 0, none⟩ = some (.slice (some ⟨bm, 0, none⟩) 1 cm) := blk_cell hj1 0
  have j1' : w1.cell? ⟨bj, 1, none⟩ = some (.slice none 0 0) := blk_cell hj1 1
  have j2' : w1.cell? ⟨bj, 2, none⟩ = some (.slice (some ⟨gm, 0, none⟩) 1 mc) := blk_cell hj1 2
  have j3' : w1.cell? ⟨bj, 3, none⟩ = some (.slice none 0 0) := blk_cell hj1 3
  have x3 : w1.cell? ⟨w.heap.size, 3, none⟩ = some (.int .i64 1) := blk_cell hx1 3
  have HX1 := Lib.hid (show w1.drew.heap[w.heap.size]? = _ from hx1)
  have HK1 := Lib.hid (show w1.drew.heap[bk]? = _ from hk1)
  have HJ1 := Lib.hid (show w1.drew.heap[bj]? = _ from hj1)
  have HBD := Lib.hid HB1.out.drew
  clear hb1 hx1 hj1 hk1 hob hoj k0 k6 k7 j0 j1 j2
  go_wp2_with fail
  refine share (R := fun w2 => Below w1.drew.heap.size w1.drew w2) (G := _) (fun fin => by
      go_region_law (first
        | (refine step_at 76 rfl ?_; refine step_call rfl Tryz.func179 (by kernel_rfl) (by kernel_rfl) rfl #[.agg #[.slice (some ⟨bm, 0, none⟩) 1 cm, .slice none 0 0, .slice (some ⟨gm, 0, none⟩) 1 mc], .slice none 0 0, .int .i64 1, .slice none 0 0] (by simp only [List.map_toArray, List.map_cons, List.map_nil]; rfl) (HDO.out _ HBD.out) ?_; rintro e w2 ⟨rfl, hb2⟩; refine ⟨_, rfl, ?_⟩))
      all_goals exact fin w2 hb2) (fun w2 hb2 => ?_)
  have hx2 := blk_below HX1.out hb2 (blk_lt HX1.out)
  have hk2 := blk_below HK1.out hb2 (blk_lt HK1.out)
  have hj2 := blk_below HJ1.out hb2 (blk_lt HJ1.out)
  have HB2 := Lib.hid (bto HBD.out hb2 (Nat.le_refl _))
  clear hb2
  have hne : w.heap.size ≠ bk := by omega
  have k6' : w2.cell? ⟨bk, 6, none⟩ = some (.pointer none) := blk_cell hk2 6
  have z6 : w2.frozen? ⟨bk, 6, none⟩ = false := blk_frozen hk2 6
  have hx3 := blk_set_ne hx2 6 (.pointer (some ⟨w.heap.size, 0, none⟩)) hne
  have x4 : (w2.setCell ⟨bk, 6, none⟩ (.pointer (some ⟨w.heap.size, 0, none⟩))).cell? ⟨w.heap.size, 4, none⟩ = some (.int .i64 13) := blk_cell hx3 4
  have x5 : (w2.setCell ⟨bk, 6, none⟩ (.pointer (some ⟨w.heap.size, 0, none⟩))).cell? ⟨w.heap.size, 5, none⟩ = some (.slice none 0 0) := blk_cell hx3 5
  have HEQ := Lib.hid (bequal_c (.slice none 0 0) (.slice none 0 0) [] [] (w2.setCell ⟨bk, 6, none⟩ (.pointer (some ⟨w.heap.size, 0, none⟩))) (.inl ⟨rfl, rfl⟩) (.inl ⟨rfl, rfl⟩))
  have hk3 := blk_set hk2 6 (.pointer (some ⟨w.heap.size, 0, none⟩))
  have hj3 := blk_set_ne hj2 6 (.pointer (some ⟨w.heap.size, 0, none⟩)) hjk
  have he3 : Ext (fun k => k = bk) w (w2.setCell ⟨bk, 6, none⟩ (.pointer (some ⟨w.heap.size, 0, none⟩))) := (Ext.of_below HB2.out).trans (Ext.setCell _ _ _ rfl)
  have HP : Hid (ExePost bm cm (.slice (some ⟨gm, 0, none⟩) 1 mc) bj bc bl bk B w (.returned (.bool true)) (w2.setCell ⟨bk, 6, none⟩ (.pointer (some ⟨w.heap.size, 0, none⟩)))) := by
    obtain ⟨f, hf, hfk⟩ := HMC.out
    have hfc : bk ≠ bc := ne_map HK.out hf
    refine ⟨rfl, ⟨⟨w.heap.size, 0, none⟩, ?_, hj3, ⟨f, ?_, hfk⟩, hk3⟩, (HB2.out.mono hB).setCell hkB _, he3⟩
    · obtain ⟨gm', mc', fa, fc, e, h1, h2⟩ := HS.out.below HB2.out
      simp only [Value.slice.injEq, Option.some.injEq, Addr.mk.injEq, and_true, true_and] at e
      obtain ⟨rfl, rfl⟩ := e
      have hg := hnk.2 gm mc rfl
      exact ⟨gm, mc, fa, fc, rfl, h1.stab (S := fun k => k = bk) (fun _ => hnk.1) _ (Ext.setCell _ _ _ rfl), h2.stab (S := fun k => k = bk) (fun _ => hg) _ (Ext.setCell _ _ _ rfl)⟩
    · exact (hf.below HB2.out).step (Below.heap_setCell _ _ _ _ (fun e => hfc e.symm))
  clear hx2 hk2 hj2 hx3 hk3 hj3 he3 x3 k0' j0' j1' j2' j3'
  go_wp2_with (go_at_call 42; refine Halt.out ?_)
  refine Halt.mk ?_
  refine HEQ.out.mono ?_
  rintro e w4 ⟨rfl, rfl⟩
  go_wp2_with fail
  go_ret
  exact HP.out
end Go.Proofs.YthkmjafmmohogaaGreatDoor
