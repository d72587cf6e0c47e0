/- Runs at constants: strings.Split at one letter; paths. -/
import Derived.Test.YthkmjafmmohogaaGreatDoorAw2
import Derived.Lib.Bytealg
import Derived.Laws.Externs
import Derived.Laws.MakeOwn
namespace Go.Proofs.YthkmjafmmohogaaGreatDoor
open Go Go.RowKit
set_option linter.unusedVariables false
set_option maxHeartbeats 1000000
set_option maxRecDepth 100000

def RetOne (s : ByteArray) (w : World) (e : Ending) (w' : World) : Prop := ∃ g c, e = .returned (.slice (some ⟨g, 0, none⟩) 1 c) ∧ w'.cell? ⟨g, 0, none⟩ = some (.string s) ∧ Below w.heap.size w w'
theorem lett_not46 (c : UInt8) (h : Lett c.toNat) : Lib.countByte (one c).data.toList (46 : UInt8) = 0 := by
  have hc : c ≠ 46 := by
    rintro rfl
    rcases h with h | h <;> exact absurd h.1 (by decide)
  show List.count 46 [c] = 0
  simp [List.count_cons, hc]
theorem count_c (c : UInt8) (h : Lett c.toNat) (w : World) : Calls Tryz.prog 206 #[.string (one c), .string ⟨#[46]⟩] w fun e w' => e = .returned (.int .i64 0) ∧ w' = w := by
  go_enter Tryz.func206, Tryz.ntmps206
  go_wp2
  rw [run_callFunc_extern Tryz.func241 (by kernel_rfl) (by kernel_rfl) (by kernel_rfl) (e := Extern.BytealgCount.count) (by kernel_rfl), Lib.run_countString]
  have e0 : Lib.countByte (one c).data.toList ((((⟨#[46]⟩ : ByteArray)[0].toNat : Nat) : Int)).toNat.toUInt8 = 0 := lett_not46 c h
  rw [e0]
  simp only [Result.andThen]
  rw [Oper.upon_value]
  go_wp2
  go_ret
  exact ⟨rfl, rfl⟩
theorem info_str : (Tryz.prog.info? 9).map (fun i => (i.zero, i.size, i.bytes)) = some (some (.string ⟨#[]⟩), 1, 16) := by kernel_rfl
theorem split_c (c : UInt8) (h : Lett c.toNat) (w : World) : Calls Tryz.prog 107 #[.string (one c), .string ⟨#[46]⟩] w (RetOne (one c) w) := by
  have HC := Lib.hid (count_c c h)
  have hz : (one c).size = 1 := rfl
  have hmk : ∀ w, (Instr.makeSlice 54 (.int .i64 1) (.int .i64 1)).run Tryz.prog w = .ok (.slice (some ⟨w.heap.size, 0, none⟩) 1 1) (w.alloc (.cells #[.string ⟨#[]⟩] 9)) := by
    intro w
    obtain ⟨i, hi, hz, hs, hb⟩ := info_parts info_str
    have := run_make (P := Tryz.prog) (w := w) 54 9 i _ Tryz.underlying54 hi hz .i64 .i64 1 1 (by decide) (by decide) (by rw [hb]; decide) (by decide)
    rw [hs, show madeCells (Value.string ⟨#[]⟩).cells (Int.toNat 1 * 1) = #[.string ⟨#[]⟩] from by kernel_rfl] at this
    exact this
  generalize one c = s at *
  go_enter Tryz.func107, Tryz.ntmps107
  go_wp2_with (first | (go_at_call 206; refine (HC.out _).mono ?_; rintro e w1 ⟨rfl, rfl⟩) | go_in)
  refine wp_loop_rounds 1 ?_
  rw [rounds_succ]
  go_wp2_with fail
  go_ret
  refine ⟨w1.heap.size, 1, rfl, ?_, ?_⟩
  · exact blk_cell (blk_alloc w1 _) 0
  · exact balloc _ _

def RetPath (s : ByteArray) (w : World) (e : Ending) (w' : World) : Prop := ∃ g c, e = .returned (.tuple #[.slice (some ⟨g, 0, none⟩) 1 c, .bool true]) ∧ Below w.heap.size w w'
theorem path1_c (c : UInt8) (h : Lett c.toNat) (w : World) : Calls Tryz.prog 108 #[.string (one c)] w (Says (.bool false) w) := by
  have HC := Lib.hid (plain_c c h)
  go_enter Tryz.func108, Tryz.ntmps108
  go_wp2_with (go_at_call 65; refine (HC.out _).mono ?_; rintro e w1 ⟨rfl, hb1⟩)
  go_ret
  exact ⟨rfl, hb1⟩

/-- slices.IndexFunc at one string of which the predicate says no. -/
theorem idxstr_c (f : Nat) (fv : Array Value) (g c : Nat) (s : ByteArray) (w : World) (hs : w.cell? ⟨g, 0, none⟩ = some (.string s)) {fn : Func} (hf : Tryz.prog.funcs[f]? = some fn) (hn : (fn.name == "runtime.NumGoroutine") = false) (hb : fn.body.isSome = true)
    (H : Calls Tryz.prog f (#[.string s] ++ fv) w (Says (.bool false) w)) :
    Calls Tryz.prog 106 #[.slice (some ⟨g, 0, none⟩) 1 c, .func (.func f) #[] fv] w (Says (.int .i64 (-1)) w) := by
  have hen : ∀ args w, (callFunc f args).run Tryz.prog w = .ok (.enter f args) w := fun args w => run_enters hf hn hb args w
  have HH := Lib.hid H
  clear H hf hn hb
  go_enter Tryz.func106, Tryz.ntmps106
  go_wp2
  refine wp_loop_rounds 2 ?_
  rw [rounds_succ]
  go_wp2_with fail
  refine HH.out.mono ?_
  rintro e w1 ⟨rfl, hb1⟩
  go_wp2_with fail
  rw [rounds_succ]
  go_wp2_with fail
  go_ret
  exact ⟨rfl, hb1⟩
theorem constr_c (f : Nat) (fv : Array Value) (g c : Nat) (s : ByteArray) (w : World) (hs : w.cell? ⟨g, 0, none⟩ = some (.string s)) {fn : Func} (hf : Tryz.prog.funcs[f]? = some fn) (hn : (fn.name == "runtime.NumGoroutine") = false) (hb : fn.body.isSome = true)
    (H : Calls Tryz.prog f (#[.string s] ++ fv) w (Says (.bool false) w)) :
    Calls Tryz.prog 54 #[.slice (some ⟨g, 0, none⟩) 1 c, .func (.func f) #[] fv] w (Says (.bool false) w) := by
  have HH := Lib.hid (idxstr_c f fv g c s w hs hf hn hb H)
  clear H hf hn hb
  go_enter Tryz.func54, Tryz.ntmps54
  go_wp2_with (go_at_call 106; refine HH.out.mono ?_; rintro e w1 ⟨rfl, hb1⟩)
  go_ret
  exact ⟨rfl, hb1⟩
theorem path_c (c : UInt8) (h : Lett c.toNat) (w : World) : Calls Tryz.prog 56 #[.string (one c)] w (RetPath (one c) w) := by
  have HS := Lib.hid (split_c c h w)
  have HC := Lib.hid (fun (g k : Nat) (w' : World) (hs : w'.cell? ⟨g, 0, none⟩ = some (.string (one c))) => constr_c 108 #[] g k (one c) w' hs Tryz.func108 (by kernel_rfl) (by kernel_rfl) (path1_c c h w'))
  go_enter Tryz.func56, Tryz.ntmps56
  go_wp2_with (go_at_call 107; refine Halt.out ?_)
  refine Halt.mk ?_
  refine HS.out.mono ?_
  rintro e w1 ⟨g, k, rfl, hg, hb1⟩
  go_wp2_with (go_at_call 54; refine Halt.out ?_)
  refine Halt.mk ?_
  refine (HC.out g k w1 hg).mono ?_
  rintro e w2 ⟨rfl, hb2⟩
  go_wp2_with fail
  go_ret2
  exact ⟨g, k, rfl, bto hb1 hb2 (Nat.le_refl _)⟩
theorem formed1_c (c : UInt8) (h : Lett c.toNat) (w : World) : Calls Tryz.prog 55 #[.string (one c)] w (Says (.bool false) w) := by
  have HS := Lib.hid (path_c c h w)
  go_enter Tryz.func55, Tryz.ntmps55
  go_wp2_with (go_at_call 56; refine Halt.out ?_)
  refine Halt.mk ?_
  refine HS.out.mono ?_
  rintro e w1 ⟨g, k, rfl, hb1⟩
  go_wp2_with fail
  go_ret
  exact ⟨rfl, hb1⟩
end Go.Proofs.YthkmjafmmohogaaGreatDoor
