/- Runs at constants: names of one letter. -/
import Derived.Test.YthkmjafmmohogaaGreatDoorBytes
import Derived.Test.YthkmjafmmohogaaGreatDoorMap
import Derived.Test.YthkmjafmmohogaaGreatDoorRes
import Derived.Lib.Hide
import Derived.Laws.RangeString
namespace Go.Proofs.YthkmjafmmohogaaGreatDoor
open Go Go.RowKit
set_option linter.unusedVariables false
set_option maxHeartbeats 1000000
set_option maxRecDepth 100000

def Says (v : Value) (w : World) (e : Ending) (w' : World) : Prop := e = .returned v ∧ Below w.heap.size w w'
/-- A letter of ASCII. -/
def Lett (n : Nat) : Prop := 65 ≤ n ∧ n ≤ 90 ∨ 97 ≤ n ∧ n ≤ 122

theorem letter_c (n : Nat) (h : Lett n) (w : World) : Calls Tryz.prog 167 #[.int .i32 n] w fun e w' => e = .returned (.bool true) ∧ w' = w := by
  rcases h with ⟨h1, h2⟩ | ⟨h1, h2⟩
  · have h3 : n < 97 := by omega
    go_enter Tryz.func167, Tryz.ntmps167
    go_wp2
    all_goals first
      | (exfalso; omega)
      | (go_ret; first | exact ⟨rfl, rfl⟩ | exact ⟨ret_bool (by simp; omega), rfl⟩)
  · go_enter Tryz.func167, Tryz.ntmps167
    go_wp2
    all_goals first
      | (exfalso; omega)
      | (go_ret; first | exact ⟨rfl, rfl⟩ | exact ⟨ret_bool (by simp; omega), rfl⟩)
theorem inside_c (n : Nat) (h : Lett n) (w : World) : Calls Tryz.prog 166 #[.int .i32 n] w fun e w' => e = .returned (.bool true) ∧ w' = w := by
  have HC := Lib.hid (letter_c n h w)
  go_enter Tryz.func166, Tryz.ntmps166
  go_wp2_with (go_at_call 167; refine HC.out.mono ?_; rintro e w1 ⟨rfl, rfl⟩)
  go_ret
  exact ⟨rfl, rfl⟩

def one (c : UInt8) : ByteArray := ⟨#[c]⟩
theorem one_size (c : UInt8) : (one c).size = 1 := rfl
theorem name_c (c : UInt8) (h : Lett c.toNat) (w : World) : Calls Tryz.prog 118 #[.string (one c)] w (Says (.bool true) w) := by
  have hz : 0 < (one c).size := by rw [one_size]; decide
  have hz1 : ¬ 1 < (one c).size := by rw [one_size]; decide
  have e3 : ((one c)[0]'hz).toNat = c.toNat := rfl
  have ha : ((one c)[0]'hz).toNat < 128 := by
    rw [e3]
    rcases h with h | h <;> omega
  have e1 := fun ty => run_next_ascii (P := Tryz.prog) w (one c) 0 ty hz ha
  have e2 := fun ty => run_next_end (P := Tryz.prog) w (one c) 1 ty hz1
  have HC1 := Lib.hid (inside_c c.toNat h)
  have HC2 := Lib.hid (letter_c c.toNat h)
  simp only [e3] at e1
  clear ha e3
  generalize c.toNat = n at *
  generalize one c = s at *
  go_enter Tryz.func118, Tryz.ntmps118
  go_wp2_with fail
  refine wp_loop_rounds 2 ?_
  rw [rounds_succ]
  go_wp2_with (first
    | (go_at_call 166; refine (HC1.out _).mono ?_; rintro e w1 ⟨rfl, rfl⟩)
    | (go_at_call 167; refine (HC2.out _).mono ?_; rintro e w1 ⟨rfl, rfl⟩))
  rw [rounds_succ]
  go_wp2_with fail
  go_ret
  exact ⟨rfl, balloc _ _⟩
end Go.Proofs.YthkmjafmmohogaaGreatDoor
