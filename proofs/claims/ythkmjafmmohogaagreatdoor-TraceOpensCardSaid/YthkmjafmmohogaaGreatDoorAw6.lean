/- Runs at constants: schema.message and the functions that look for it. -/
import Derived.Test.YthkmjafmmohogaaGreatDoorAw5
namespace Go.Proofs.YthkmjafmmohogaaGreatDoor
open Go Go.RowKit
set_option linter.unusedVariables false
set_option maxHeartbeats 1000000
set_option maxRecDepth 100000

theorem msg0_c (bm cm : Nat) (ms : Value) (hms : ∃ a n c, ms = .slice a n c) (nm : ByteArray) (fa : Option Addr) (fc : Nat) (w : World) :
    Calls Tryz.prog 61 #[.agg (schV bm cm ms), .agg #[.string nm, .slice fa 0 fc]] w (Says (.bool true) w) := by
  obtain ⟨ma, mn, mc, rfl⟩ := hms
  have HU := Lib.hid (unlikefd_nil fa fc)
  unfold schV
  go_enter Tryz.func61, Tryz.ntmps61
  go_wp2_with fail
  refine wp_loop_rounds 1 ?_
  rw [rounds_succ]
  go_wp2_with (go_at_call 111; refine Halt.out ?_)
  refine Halt.mk ?_
  refine (HU.out _).mono ?_
  rintro e w1 ⟨rfl, hb1⟩
  go_wp2_with fail
  go_ret
  exact ⟨rfl, bto ((balloc _ _).trans ((balloc _ _).mono (by simp))) hb1 (Nat.le_refl _)⟩

/-- Formed's function on a message: no fault. -/
theorem formed3_c (bm cm : Nat) (ms : Value) (hms : ∃ a n c, ms = .slice a n c) (nm : ByteArray) (fa : Option Addr) (fc : Nat) (bs : Nat) (fl : Nat) (w : World)
    (h0 : w.cell? ⟨bs, 0, none⟩ = some (.slice (some ⟨bm, 0, none⟩) 1 cm)) (h1 : w.cell? ⟨bs, 1, none⟩ = some (.slice none 0 0)) (h2 : w.cell? ⟨bs, 2, none⟩ = some ms)
    (HM : ∀ w', Below w.heap.size w w' → Calls Tryz.prog 61 #[.agg (schV bm cm ms), .agg #[.string nm, .slice fa fl fc]] w' (Says (.bool true) w')) :
    Calls Tryz.prog 60 #[.agg #[.string nm, .slice fa fl fc], .pointer (some ⟨bs, 0, none⟩)] w (Says (.bool false) w) := by
  obtain ⟨ma, mn, mc, rfl⟩ := hms
  have HH := Lib.hid HM
  have hbs : bs < w.heap.size := World.block_lt_of_cell? w ⟨bs, 0, none⟩ h0
  have hob : ∀ (o : Obj) (i : Nat), (w.alloc o).cell? ⟨bs, i, none⟩ = w.cell? ⟨bs, i, none⟩ := fun o i => (balloc w o).cell (p := ⟨bs, i, none⟩) hbs
  clear HM
  unfold schV at HH
  go_enter Tryz.func60, Tryz.ntmps60
  go_wp2_with (go_at_call 61; refine Halt.out ?_)
  refine Halt.mk ?_
  refine (HH.out _ (balloc _ _)).mono ?_
  rintro e w1 ⟨rfl, hb1⟩
  go_wp2_with fail
  go_ret
  exact ⟨rfl, bto (balloc _ _) hb1 (Nat.le_refl _)⟩
theorem idxmsg_c (fv : Array Value) (f : Nat) (g c : Nat) (nm : ByteArray) (fa : Option Addr) (fl fc : Nat) (w : World) (h0 : w.cell? ⟨g, 0, none⟩ = some (.string nm)) (h1 : w.cell? ⟨g, 1, none⟩ = some (.slice fa fl fc))
    {fn : Func} (hf : Tryz.prog.funcs[f]? = some fn) (hn : (fn.name == "runtime.NumGoroutine") = false) (hb : fn.body.isSome = true)
    (H : Calls Tryz.prog f (#[.agg #[.string nm, .slice fa fl fc]] ++ fv) w (Says (.bool false) w)) :
    Calls Tryz.prog 109 #[.slice (some ⟨g, 0, none⟩) 1 c, .func (.func f) #[] fv] w (Says (.int .i64 (-1)) w) := by
  have hen : ∀ args w, (callFunc f args).run Tryz.prog w = .ok (.enter f args) w := fun args w => run_enters hf hn hb args w
  have HH := Lib.hid H
  clear H hf hn hb
  go_enter Tryz.func109, Tryz.ntmps109
  go_wp2
  refine wp_loop_rounds 2 ?_
  rw [rounds_succ]
  go_wp2_with fail
  refine HH.out.mono ?_
  rintro e w1 ⟨rfl, hb1⟩
  go_wp2_with fail
  rw [rounds_succ]
  go_wp2_with fail
  go_ret
  exact ⟨rfl, hb1⟩
theorem conmsg_c (fv : Array Value) (f : Nat) (g c : Nat) (nm : ByteArray) (fa : Option Addr) (fl fc : Nat) (w : World) (h0 : w.cell? ⟨g, 0, none⟩ = some (.string nm)) (h1 : w.cell? ⟨g, 1, none⟩ = some (.slice fa fl fc))
    {fn : Func} (hf : Tryz.prog.funcs[f]? = some fn) (hn : (fn.name == "runtime.NumGoroutine") = false) (hb : fn.body.isSome = true)
    (H : Calls Tryz.prog f (#[.agg #[.string nm, .slice fa fl fc]] ++ fv) w (Says (.bool false) w)) :
    Calls Tryz.prog 59 #[.slice (some ⟨g, 0, none⟩) 1 c, .func (.func f) #[] fv] w (Says (.bool false) w) := by
  have HH := Lib.hid (idxmsg_c fv f g c nm fa fl fc w h0 h1 hf hn hb H)
  clear H hf hn hb
  go_enter Tryz.func59, Tryz.ntmps59
  go_wp2_with (go_at_call 109; refine HH.out.mono ?_; rintro e w1 ⟨rfl, hb1⟩)
  go_ret
  exact ⟨rfl, hb1⟩
theorem conenum_c (a : Option Addr) (c : Nat) (f : Value) (w : World) : Calls Tryz.prog 62 #[.slice a 0 c, f] w (Says (.bool false) w) := by
  go_enter Tryz.func62, Tryz.ntmps62
  go_wp2
  refine wp_loop_rounds 1 ?_
  rw [rounds_succ]
  go_wp2
  go_ret
  exact ⟨rfl, Below.refl _ _⟩
end Go.Proofs.YthkmjafmmohogaaGreatDoor
