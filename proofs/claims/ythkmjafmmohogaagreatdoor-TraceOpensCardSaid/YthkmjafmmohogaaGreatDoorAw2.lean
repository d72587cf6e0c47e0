/- Runs at constants: words that are reserved; plain names. -/
import Derived.Test.YthkmjafmmohogaaGreatDoorAw1
namespace Go.Proofs.YthkmjafmmohogaaGreatDoor
open Go Go.RowKit
set_option linter.unusedVariables false
set_option maxHeartbeats 1000000
set_option maxRecDepth 100000

theorem index_no (b c : Nat) (zs : List ByteArray) (s : ByteArray) (w : World) (hl : zs.length ≤ 1000) (hc : cellsAt b 0 (zs.map Value.string) w) (hn : ∀ z ∈ zs, (s.toList == z.toList) = false) :
    Calls Tryz.prog 209 #[.slice (some ⟨b, 0, none⟩) zs.length c, .string s] w fun e w' => e = .returned (.int .i64 (-1)) ∧ w' = w := by
  have HC := Lib.hid hc
  have HN := Lib.hid hn
  clear hc hn
  go_enter Tryz.func209, Tryz.ntmps209
  go_wp2
  go_loop [8] (fun i => ∃ (k : Nat), k ≤ zs.length ∧ i = .int .i64 k) (fun i => zs.length - (intOf i).toNat)
  case atStart => exact ⟨0, Nat.zero_le _, rfl⟩
  case round =>
    obtain ⟨k, hk, rfl⟩ := hrel
    by_cases hlt : k < zs.length
    · have hce : w.cell? ⟨b, k, none⟩ = some (.string zs[k]) := by
        have := HC.out k (.string zs[k]) (by simp [hlt])
        simpa using this
      have hne := HN.out zs[k] (List.getElem_mem _)
      generalize zs[k] = z at *
      go_wp2
      go_round
      case rel => exact ⟨k + 1, by omega, by go_num⟩
      case measure => simp [intOf]; omega
    · go_wp2
      go_ret
      exact ⟨rfl, rfl⟩
theorem contains_no (b c : Nat) (zs : List ByteArray) (s : ByteArray) (w : World) (hl : zs.length ≤ 1000) (hc : cellsAt b 0 (zs.map Value.string) w) (hn : ∀ z ∈ zs, (s.toList == z.toList) = false) :
    Calls Tryz.prog 168 #[.slice (some ⟨b, 0, none⟩) zs.length c, .string s] w fun e w' => e = .returned (.bool false) ∧ w' = w := by
  have HC := Lib.hid (index_no b c zs s w hl hc hn)
  clear hc hn
  go_enter Tryz.func168, Tryz.ntmps168
  go_wp2_with (go_at_call 209; refine HC.out.mono ?_; rintro e w1 ⟨rfl, rfl⟩)
  go_ret
  exact ⟨rfl, rfl⟩

theorem one_list (c : UInt8) : (one c).toList = [c] := by rw [ByteArray.toList_eq]; rfl
theorem cells_new (w : World) (cs : List Value) (t : TypeId) (g : Nat) (hg : g = w.heap.size) : cellsAt g 0 cs (w.alloc (.cells cs.toArray t)) := by
  subst hg
  intro j u hj
  have := blk_cell (blk_alloc w (.cells cs.toArray t)) j
  simp only [Nat.zero_add]
  rw [this]
  simpa using hj
def words1 : List ByteArray := [⟨#[109, 101, 115, 115, 97, 103, 101]⟩, ⟨#[101, 110, 117, 109]⟩, ⟨#[115, 101, 114, 118, 105, 99, 101]⟩, ⟨#[114, 112, 99]⟩, ⟨#[114, 101, 116, 117, 114, 110, 115]⟩, ⟨#[114, 101, 112, 101, 97, 116, 101, 100]⟩]
def words2 : List ByteArray := [⟨#[]⟩, ⟨#[105, 110, 116, 54, 52]⟩, ⟨#[117, 105, 110, 116, 54, 52]⟩, ⟨#[115, 105, 110, 116, 54, 52]⟩, ⟨#[98, 111, 111, 108]⟩, ⟨#[115, 116, 114, 105, 110, 103]⟩, ⟨#[98, 121, 116, 101, 115]⟩, ⟨#[102, 105, 120, 101, 100, 51, 50]⟩, ⟨#[102, 105, 120, 101, 100, 54, 52]⟩]
theorem not_one (c : UInt8) (z : ByteArray) (h : z.size ≠ 1) : ((one c).toList == z.toList) = false := by
  rw [one_list, ByteArray.toList_eq]
  cases hh : ([c] == z.data.toList) with
  | false => rfl
  | true =>
    have := congrArg List.length (eq_of_beq hh)
    simp at this
    exact absurd this.symm h
theorem words1_no (c : UInt8) : ∀ z ∈ words1, ((one c).toList == z.toList) = false := by
  intro z hz
  refine not_one c z ?_
  simp only [words1, List.mem_cons, List.not_mem_nil, or_false] at hz
  rcases hz with rfl | rfl | rfl | rfl | rfl | rfl <;> decide
theorem words2_no (c : UInt8) : ∀ z ∈ words2, ((one c).toList == z.toList) = false := by
  intro z hz
  refine not_one c z ?_
  simp only [words2, List.mem_cons, List.not_mem_nil, or_false] at hz
  rcases hz with rfl | rfl | rfl | rfl | rfl | rfl | rfl | rfl | rfl <;> decide

theorem reserved_c (c : UInt8) (w : World) : Calls Tryz.prog 119 #[.string (one c)] w (Says (.bool false) w) := by
  have h0a : (one c).toList.isEmpty = false := by rw [one_list]; rfl
  have h0b : ((one c).toList == []) = false := by rw [one_list]; rfl
  have h0c : ¬ (one c).toList = [] := by rw [one_list]; simp
  have HC1 := Lib.hid (fun (w' : World) (c' g : Nat) (hg : g = w'.heap.size) => contains_no g c' words1 (one c) (w'.alloc (.cells (words1.map Value.string).toArray 9)) (by decide) (cells_new _ _ _ g hg) (words1_no c))
  have HC2 := Lib.hid (fun (w' : World) (c' g : Nat) (hg : g = w'.heap.size) => contains_no g c' words2 (one c) (w'.alloc (.cells (words2.map Value.string).toArray 9)) (by decide) (cells_new _ _ _ g hg) (words2_no c))
  simp only [words1, List.map_cons, List.map_nil, List.length_cons, List.length_nil, Nat.reduceAdd] at HC1
  simp only [words2, List.map_cons, List.map_nil, List.length_cons, List.length_nil, Nat.reduceAdd] at HC2
  generalize one c = s at *
  go_enter Tryz.func119, Tryz.ntmps119
  go_wp2_with (first | (go_at_call 168; refine Halt.out ?_) | go_in)
  refine Halt.mk ?_
  refine (HC1.out _ _ _ (by simp)).mono ?_
  rintro e w1 ⟨rfl, rfl⟩
  go_wp2_with (first | (go_at_call 168; refine Halt.out ?_) | go_in)
  refine Halt.mk ?_
  refine (HC2.out _ _ _ (by simp)).mono ?_
  rintro e w1 ⟨rfl, rfl⟩
  go_wp2_with fail
  go_ret
  exact ⟨rfl, (balloc _ _).trans ((balloc _ _).mono (by simp))⟩

/-- A name of one letter is plain. -/
theorem plain_c (c : UInt8) (h : Lett c.toNat) (w : World) : Calls Tryz.prog 65 #[.string (one c)] w (Says (.bool true) w) := by
  have HC1 := Lib.hid (name_c c h)
  have HC2 := Lib.hid (reserved_c c)
  go_enter Tryz.func65, Tryz.ntmps65
  go_wp2_with (go_at_call 118; refine (HC1.out _).mono ?_; rintro e w1 ⟨rfl, hb1⟩)
  go_wp2_with (go_at_call 119; refine (HC2.out _).mono ?_; rintro e w2 ⟨rfl, hb2⟩)
  go_ret
  exact ⟨rfl, bto hb1 hb2 (Nat.le_refl _)⟩
end Go.Proofs.YthkmjafmmohogaaGreatDoor
