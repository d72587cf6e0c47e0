/- Runs at constants: trace.Judge at the two traces of courierlaw21's awake. -/
import Derived.Test.YthkmjafmmohogaaGreatDoorJu4
namespace Go.Proofs.YthkmjafmmohogaaGreatDoor
open Go Go.RowKit
open Go.Maps (Keyed)
set_option linter.unusedVariables false
set_option maxHeartbeats 1000000
set_option maxRecDepth 100000

def evsJ (k : Nat) : Array Value := if k = 0 then ev1 else ev2
def bsJ (k : Nat) : Bool := decide (2 ≤ k)
/-- The judge's state ahead of event k. -/
def IJ (bm cm : Nat) (ms : Value) (bj bp bc bl : Nat) (w0 : World) (k : Nat) (w : World) : Prop :=
  Below w0.heap.size w0 w ∧ w.cell? ⟨bp, 0, none⟩ = some (.pointer (some ⟨bj, 0, none⟩)) ∧
    (if k = 0 then J0 bm cm ms bj bc bl w else if k = 1 then ∃ bk, bp < bk ∧ J1 bm cm ms bj bc bl bk none w else ∃ bk q, bp < bk ∧ J1 bm cm ms bj bc bl bk (some q) w)
theorem cell_ext {S : Nat → Prop} {w w1 : World} (he : Ext S w w1) {b i : Nat} {u : Value} (h : w.cell? ⟨b, i, none⟩ = some u) (hs : ¬ S b) : w1.cell? ⟨b, i, none⟩ = some u :=
  (World.cell?_of_block (a := ⟨b, i, none⟩) (he.block b (World.block_lt_of_cell? w ⟨b, i, none⟩ h) hs)).trans h

theorem judge_step (bm cm : Nat) (ms : Value) (bj bp bc bl : Nat) (w0 : World) (hB : w0.heap.size ≤ bj ∧ w0.heap.size ≤ bc ∧ w0.heap.size ≤ bl ∧ bc < bp ∧ bl < bp ∧ bj < bp) (hbm : bm < w0.heap.size ∧ ∀ gm mc, ms = .slice (some ⟨gm, 0, none⟩) 1 mc → gm < w0.heap.size) (k : Nat) (hk : k < 3) (w : World) (h : IJ bm cm ms bj bp bc bl w0 k w) :
    Calls Tryz.prog 83 (#[.agg (evsJ k)] ++ #[.pointer (some ⟨bp, 0, none⟩)]) w (fun e w' => e = .returned (.bool (bsJ k)) ∧ IJ bm cm ms bj bp bc bl w0 (k + 1) w') := by
  obtain ⟨h1, h2, h3⟩ := h
  obtain ⟨hBj, hBc, hBl, hcp, hlp, hjp⟩ := hB
  have hpl : bp < w.heap.size := World.block_lt_of_cell? w ⟨bp, 0, none⟩ h2
  have hsz := h1.size
  match k, hk, h3 with
  | 0, _, h3 =>
    have h3 : J0 bm cm ms bj bc bl w := by simpa using h3
    refine judge1_c bj bp (evsJ 0) ⟨_, _, _, _, _, _, _, _, rfl⟩ w h2 true _ (fun w' hb' => ?_)
    refine (may1_c bm cm ms bj bc bl w0.heap.size w' (h3.below hb') (by have := hb'.size; omega) hBc hBl).mono ?_
    rintro e w2 ⟨rfl, ⟨bk, hbk, hJ⟩, hb2, he2⟩
    refine ⟨rfl, (h1.trans (hb'.mono h1.size)).trans hb2, ?_, ?_⟩
    · exact cell_ext he2 ((hb'.cell (p := ⟨bp, 0, none⟩) hpl).trans h2) (by omega)
    · simp only [Nat.zero_add, if_neg (by decide : ¬ 1 = 0), if_true]
      exact ⟨bk, by have := hb'.size; omega, hJ⟩
  | 1, _, h3 =>
    have h3 : ∃ bk, bp < bk ∧ J1 bm cm ms bj bc bl bk none w := by simpa using h3
    obtain ⟨bk, hbk, hJ⟩ := h3
    refine judge1_c bj bp (evsJ 1) ⟨_, _, _, _, _, _, _, _, rfl⟩ w h2 true _ (fun w' hb' => ?_)
    refine may2_any bm cm ms bj bc bl bk none w' (hJ.below hb') _ true (fun w2 hb2 => ?_)
    have hb12 := bto hb' hb2 (Nat.le_refl _)
    have hsz2 := hb12.size
    refine (executed_c bm cm ms bj bc bl bk w0.heap.size w2 (hJ.below hb12) (by omega) (by omega) (by omega) ⟨by have := hbm.1; omega, fun gm mc e => by have := hbm.2 gm mc e; omega⟩).mono ?_
    rintro e w3 ⟨rfl, ⟨p, hJ3⟩, hb3, he3⟩
    refine ⟨rfl, rfl, (h1.trans (hb12.mono h1.size)).trans hb3, ?_, ?_⟩
    · exact cell_ext he3 ((hb12.cell (p := ⟨bp, 0, none⟩) hpl).trans h2) (by omega)
    · rw [if_neg (by decide), if_neg (by decide)]
      exact ⟨bk, p, hbk, hJ3⟩
  | 2, _, h3 =>
    have h3 : ∃ bk q, bp < bk ∧ J1 bm cm ms bj bc bl bk (some q) w := by simpa using h3
    obtain ⟨bk, q, hbk, hJ⟩ := h3
    refine judge1_c bj bp (evsJ 2) ⟨_, _, _, _, _, _, _, _, rfl⟩ w h2 false _ (fun w' hb' => ?_)
    refine may2_any bm cm ms bj bc bl bk (some q) w' (hJ.below hb') _ false (fun w2 hb2 => ?_)
    have hb12 := bto hb' hb2 (Nat.le_refl _)
    refine (executed_no bm cm ms bj bc bl bk q w2 (hJ.below hb12)).mono ?_
    rintro e w3 ⟨rfl, hb3⟩
    have hb13 := bto hb12 hb3 (Nat.le_refl _)
    refine ⟨rfl, rfl, h1.trans (hb13.mono h1.size), ?_, ?_⟩
    · exact (hb13.cell (p := ⟨bp, 0, none⟩) hpl).trans h2
    · rw [if_neg (by decide), if_neg (by decide)]
      exact ⟨bk, q, hbk, hJ.below hb13⟩

theorem judge_c (bm cm : Nat) (ms : Value) (bL cL n : Nat) (r : Int) (hn : n = 2 ∧ r = -1 ∨ n = 3 ∧ r = 2) (w : World) (h : Sch1 bm cm ms w) (hL : ∀ k, k < n → evCells bL k (evsJ k) w) :
    Calls Tryz.prog 36 #[.agg (schV bm cm ms), .slice none 0 0, .slice (some ⟨bL, 0, none⟩) n cL] w (Says (.int .i64 r) w) := by
  obtain ⟨gm, mc, rfl, hS⟩ := h.cellsSome
  have hmm := @run_makeMap Tryz.prog
  have hmf : ∀ (fn : Fn) (first cap : Array Value) (w : World), (Instr.makeFunc fn first cap).run Tryz.prog w = .ok (.func fn first cap) w := fun _ _ _ _ => rfl
  have hbm : bm < w.heap.size ∧ ∀ gm' mc', Value.slice (some ⟨gm, 0, none⟩) 1 mc = .slice (some ⟨gm', 0, none⟩) 1 mc' → gm' < w.heap.size := by
    obtain ⟨fa, fc, k0, _⟩ := hS.cells
    refine ⟨World.block_lt_of_cell? w ⟨bm, 0, none⟩ k0, fun gm' mc' e => ?_⟩
    obtain ⟨g2, m2, e2, h3⟩ := hS.ms
    have hg2 : g2 < w.heap.size := World.block_lt_of_cell? w ⟨g2, 3, none⟩ h3
    simp only [Value.slice.injEq, Option.some.injEq, Addr.mk.injEq, and_true, true_and] at e e2
    omega
  have HF := Lib.hid (fun (w' : World) (h0 : IJ bm cm (.slice (some ⟨gm, 0, none⟩) 1 mc) (w.heap.size + 1 + 1 + 1) (w.heap.size + 1 + 1 + 1 + 1) (w.heap.size + 1) (w.heap.size + 1 + 1) w 0 w') =>
    idxev_c 83 #[.pointer (some ⟨w.heap.size + 1 + 1 + 1 + 1, 0, none⟩)] bL cL n (by omega) evsJ (fun k _ => by unfold evsJ; split <;> exact ⟨_, _, _, _, _, _, _, _, rfl⟩) bsJ (IJ bm cm (.slice (some ⟨gm, 0, none⟩) 1 mc) (w.heap.size + 1 + 1 + 1) (w.heap.size + 1 + 1 + 1 + 1) (w.heap.size + 1) (w.heap.size + 1 + 1) w) Tryz.func83 (by kernel_rfl) (by kernel_rfl)
      (fun k w2 hk hI => cells_below (hL k hk) hI.1) (fun k w2 hk hI => judge_step _ _ _ _ _ _ _ w (by omega) hbm k (by omega) w2 hI) w' h0)
  obtain ⟨W4, hW4⟩ : ∃ W4, W4 = (((w.alloc (.cells #[.slice (some ⟨bm, 0, none⟩) 1 cm, .slice none 0 0, .slice (some ⟨gm, 0, none⟩) 1 mc] 33)).alloc (.map #[] 0)).alloc (.map #[] 0)).alloc (.cells #[.slice (some ⟨bm, 0, none⟩) 1 cm, .slice none 0 0, .slice (some ⟨gm, 0, none⟩) 1 mc, .slice none 0 0, .map (some (w.heap.size + 1)), .map (some (w.heap.size + 1 + 1))] 185) := ⟨_, rfl⟩
  have hz4 : W4.heap.size = w.heap.size + 1 + 1 + 1 + 1 := by rw [hW4]; simp
  have hb4 : Below w.heap.size w W4 := by
    rw [hW4]
    exact (((balloc w _).alloc (by simp) _).alloc (by simp; omega) _).alloc (by simp; omega) _
  have hj4 : W4.heap[w.heap.size + 1 + 1 + 1]? = some (.cells (jdg bm cm (.slice (some ⟨gm, 0, none⟩) 1 mc) (w.heap.size + 1) (w.heap.size + 1 + 1)) 185) := by rw [hW4]; exact blk_alloc' (by simp) _
  have hc4 : MapAt Tryz.prog 100 (w.heap.size + 1) (fun _ => none) W4 := by
    rw [hW4]
    have h0 := MapAt.new Tryz.prog 100 (w.alloc (.cells #[.slice (some ⟨bm, 0, none⟩) 1 cm, .slice none 0 0, .slice (some ⟨gm, 0, none⟩) 1 mc] 33))
    simp only [World.size_alloc] at h0
    exact (h0.below (balloc _ _)).below (balloc _ _)
  have hl4 : MapAt Tryz.prog 3 (w.heap.size + 1 + 1) (fun _ => none) W4 := by
    rw [hW4]
    have h0 := MapAt.new Tryz.prog 3 ((w.alloc (.cells #[.slice (some ⟨bm, 0, none⟩) 1 cm, .slice none 0 0, .slice (some ⟨gm, 0, none⟩) 1 mc] 33)).alloc (.map #[] 0))
    simp only [World.size_alloc] at h0
    exact h0.below (balloc _ _)
  have hI : IJ bm cm (.slice (some ⟨gm, 0, none⟩) 1 mc) (w.heap.size + 1 + 1 + 1) (w.heap.size + 1 + 1 + 1 + 1) (w.heap.size + 1) (w.heap.size + 1 + 1) w 0 (W4.alloc (.cells #[.pointer (some ⟨w.heap.size + 1 + 1 + 1, 0, none⟩)] 181)) := by
    refine ⟨hb4.alloc (by omega) _, blk_cell (blk_alloc' hz4.symm _) 0, ?_⟩
    rw [if_pos rfl]
    exact J0.below ⟨hS.below hb4, hj4, hc4, hl4, by omega⟩ (balloc _ _)
  rw [hW4] at hI
  have HI := Lib.hid hI
  have HN := Lib.hid hn
  clear hW4 hz4 hb4 hj4 hc4 hl4 hI h hS hbm hL hn
  unfold schV
  go_enter Tryz.func36, Tryz.ntmps36
  go_wp2_with (go_at_call 82; refine Halt.out ?_)
  refine Halt.mk ?_
  refine (HF.out _ HI.out).mono ?_
  intro e w1 hpost
  rcases hpost with ⟨k, hk, hb, hj, rfl, hIk⟩ | ⟨hj, rfl, hIk⟩
  · have hk2 : k = 2 := by
      have h2 : 2 ≤ k := by simpa [bsJ] using hb
      have := HN.out
      omega
    subst hk2
    have hr : r = 2 := by have := HN.out; omega
    subst hr
    have HB := Lib.hid hIk.1
    clear hIk hj hb HN
    go_wp2_with fail
    go_ret
    exact ⟨rfl, HB.out⟩
  · have hr : r = -1 := by
      rcases HN.out with h | h
      · exact h.2
      · have := hj 2 (by omega)
        simp [bsJ] at this
    subst hr
    have HB := Lib.hid hIk.1
    clear hIk hj HN
    go_wp2_with fail
    go_ret
    exact ⟨rfl, HB.out⟩
end Go.Proofs.YthkmjafmmohogaaGreatDoor
