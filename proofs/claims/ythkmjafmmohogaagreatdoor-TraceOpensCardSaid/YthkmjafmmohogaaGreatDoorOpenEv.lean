/- Arguments opened: slices of bytes, of events. -/
import Derived.Test.YthkmjafmmohogaaGreatDoorTr1
import Derived.Deep.Slices
import Derived.ChangeSlices
import Derived.SizedLaws
import Derived.WalkKit
namespace Go.Proofs.YthkmjafmmohogaaGreatDoor
open Go Go.RowKit Go.ChangeShapes Go.WideShapes Go.Deep
set_option linter.unusedVariables false
set_option maxHeartbeats 1000000
set_option maxRecDepth 100000

section
variable {H : Type} {enc : TypeId × Value → H} {W : World}
theorem addr_spot {a : Addr} {v : Value} (h : W.cell? a = some v) : a = ⟨a.block, a.off, none⟩ := by
  obtain ⟨b, off, sp⟩ := a
  cases sp with
  | none => rfl
  | some s =>
    exfalso
    unfold World.cell? at h
    split at h
    · simp at h
    · simp at h
theorem add_plain (b off n : Nat) : (⟨b, off, none⟩ : Addr).add n = ⟨b, off + n, none⟩ := by
  unfold Addr.add
  split
  · rename_i h; rw [h, Nat.add_zero]
  · rfl
theorem ofNat_toNat8 (n : Int) (h : 0 ≤ n ∧ n ≤ 255) : ((UInt8.ofNat n.toNat).toNat : Int) = n := by
  rw [UInt8.toNat_ofNat']; omega
theorem bytes_of_trod {fuel : Nat} {cs : List Value} {x : DataW H × List MemPlace} (h : DataW.trod enc Tryz.prog W 0 (fun _ => true) true fuel 34 cs = some x) {B : Nat} (hz : ∀ n ∈ DataW.weights Tryz.prog 34 x.1, n ≤ B) :
    ∃ v l, cs = [v] ∧ Bytes v l W ∧ l.length ≤ B := by
  have hc : Tryz.prog.cellsOf 5 = 1 := by kernel_rfl
  have hbo : Tryz.prog.bytesOf 5 = 1 := by kernel_rfl
  rcases open_ints Tryz.underlying34 Tryz.underlying5 hc h with ⟨rfl, rfl⟩ | ⟨a, len, cap, zs, rfl, hb, hl, hm, hzl, rfl, hcell, hwf⟩
  · exact ⟨_, [], rfl, .inl ⟨rfl, rfl⟩, Nat.zero_le _⟩
  · simp only [if_true] at hzl
    have hlen : ((zs.take len).map (fun n => UInt8.ofNat n.toNat)).length = len := by simp; omega
    refine ⟨_, (zs.take len).map (fun n => UInt8.ofNat n.toNat), rfl, ?_, ?_⟩
    · have hB : Bytes (.slice (some a) ((zs.take len).map (fun n => UInt8.ofNat n.toNat)).length cap) ((zs.take len).map (fun n => UInt8.ofNat n.toNat)) W := by
        refine .inr ⟨a, cap, rfl, by rw [hlen]; exact hl, hm, fun hne => ?_⟩
        have hpos : 0 < len := by
          rcases Nat.eq_zero_or_pos len with h | h
          · rw [h] at hne; simp at hne
          · exact h
        have h0 := hcell 0 (by omega)
        have ha := addr_spot (a := a) (by simpa [Addr.add] using h0)
        refine ⟨a.block, a.off, ha, fun j u hj => ?_⟩
        have hjl : j < len := by
          rcases Nat.lt_or_ge j len with h | h
          · exact h
          · rw [List.getElem?_eq_none (by rw [bcells_length, hlen]; exact h)] at hj; simp at hj
        have hcj := hcell j (by omega)
        rw [ha, add_plain] at hcj
        rw [hcj]
        rw [bcells_get (by rw [hlen]; exact hjl)] at hj
        rw [← hj]
        have hw := hwf (zs.getD j 0) (by rw [List.getD_eq_getElem?_getD, List.getElem?_eq_getElem (by omega)]; simp)
        have hw2 : 0 ≤ zs.getD j 0 ∧ zs.getD j 0 ≤ 255 := by simpa [Lit.wf, IntKind.min, IntKind.max, IntKind.signed, IntKind.bits] using hw
        simp only [bcell, List.getElem_map, List.getElem_take]
        have e : zs.getD j 0 = zs[j]'(by omega) := by rw [List.getD_eq_getElem?_getD, List.getElem?_eq_getElem (by omega)]; rfl
        rw [e] at hw2 ⊢
        rw [ofNat_toNat8 _ hw2]
      rw [hlen] at hB
      exact hB
    · rw [hlen]
      have := hz ((lits .u8 (zs.take len)).length * 1 + (lits .u8 (zs.drop len)).length * 1) (by
        simp only [DataW.weights, Tryz.underlying34, hbo]
        rw [← Nat.add_mul]
        exact List.mem_cons_self)
      simp [lits] at this
      omega

theorem weights_all {P : Program} {e : TypeId} : ∀ {l : List (DataW H)} {d : DataW H}, d ∈ l → ∀ n ∈ DataW.weights P e d, n ∈ DataW.weightsAll P e l
  | [], d, h, _, _ => by simp at h
  | x :: l, d, h, n, hn => by
    simp only [DataW.weightsAll, List.mem_append]
    rcases List.mem_cons.1 h with rfl | h
    · exact .inl hn
    · exact .inr (weights_all h n hn)

theorem ev_of_trod {fuel : Nat} {cs : List Value} {x : DataW H × List MemPlace} (h : DataW.trod enc Tryz.prog W 0 (fun _ => true) true fuel 95 cs = some x) (hz : ∀ n ∈ DataW.weights Tryz.prog 95 x.1, n ≤ 140737488355328) :
    ∃ e : Ev, cs.length = 6 ∧ REv e cs W := by
  have cI : Tryz.prog.cellsOf 3 = 1 := by kernel_rfl
  have cU : Tryz.prog.cellsOf 36 = 1 := by kernel_rfl
  have cB : Tryz.prog.cellsOf 34 = 1 := by kernel_rfl
  have cE : Tryz.prog.cellsOf 95 = 6 := by kernel_rfl
  obtain ⟨xs, n, _, rfl, hlen, hxs, hel⟩ := DataW.trod_struct Tryz.underlying95 h
  rw [cE] at hlen
  have h0 : DataW.trod enc Tryz.prog W 0 (fun _ => true) true n 3 ((cs.drop 0).take (Tryz.prog.cellsOf 3)) = xs[0]? := hel 0 _ rfl
  have h1 : DataW.trod enc Tryz.prog W 0 (fun _ => true) true n 3 ((cs.drop 1).take (Tryz.prog.cellsOf 3)) = xs[1]? := hel 1 _ rfl
  have h2 : DataW.trod enc Tryz.prog W 0 (fun _ => true) true n 36 ((cs.drop 2).take (Tryz.prog.cellsOf 36)) = xs[2]? := hel 2 _ rfl
  have h3 : DataW.trod enc Tryz.prog W 0 (fun _ => true) true n 3 ((cs.drop 3).take (Tryz.prog.cellsOf 3)) = xs[3]? := hel 3 _ rfl
  have h4 : DataW.trod enc Tryz.prog W 0 (fun _ => true) true n 3 ((cs.drop 4).take (Tryz.prog.cellsOf 3)) = xs[4]? := hel 4 _ rfl
  have h5 : DataW.trod enc Tryz.prog W 0 (fun _ => true) true n 34 ((cs.drop 5).take (Tryz.prog.cellsOf 34)) = xs[5]? := hel 5 _ rfl
  rw [cI] at h0 h1 h3 h4
  rw [cU] at h2
  rw [cB] at h5
  match cs, hlen, xs, hxs with
  | [c0, c1, c2, c3, c4, c5], _, [x0, x1, x2, x3, x4, x5], _ =>
    simp at h0 h1 h2 h3 h4 h5
    obtain ⟨k, e0, rfl, _⟩ := DataW.trod_int Tryz.underlying3 h0
    obtain ⟨c, e1, rfl, w1⟩ := DataW.trod_int Tryz.underlying3 h1
    obtain ⟨t, e2, rfl, w2⟩ := DataW.trod_int Tryz.underlying36 h2
    obtain ⟨m, e3, rfl, _⟩ := DataW.trod_int Tryz.underlying3 h3
    obtain ⟨s, e4, rfl, _⟩ := DataW.trod_int Tryz.underlying3 h4
    obtain ⟨vb, l, e5, hB, hl⟩ := bytes_of_trod h5 (B := 140737488355328) (fun n hn => hz n (by
      simp only [DataW.weights, Tryz.underlying95]
      exact DataW.weights_mem_each (j := 5) (t := 34) (d := x5.1) rfl rfl n hn))
    have w1' : -9223372036854775808 ≤ c ∧ c ≤ 9223372036854775807 := by simpa [Lit.wf, IntKind.min, IntKind.max, IntKind.signed, IntKind.bits] using w1
    have w2' : 0 ≤ t ∧ t ≤ 18446744073709551615 := by simpa [Lit.wf, IntKind.min, IntKind.max, IntKind.signed, IntKind.bits] using w2
    obtain ⟨tn, rfl⟩ := Int.eq_ofNat_of_zero_le w2'.1
    simp only [List.cons.injEq, and_true] at e0 e1 e2 e3 e4 e5
    subst e0 e1 e2 e3 e4 e5
    exact ⟨⟨k, c, tn, m, s, l⟩, rfl, _, rfl, hB, by show tn < _; omega, hl, w1'.1, by show c < _; omega⟩

theorem evs_of_trod {fuel : Nat} {v : Value} {x : DataW H × List MemPlace} (h : DataW.trod enc Tryz.prog W 0 (fun _ => true) true fuel 48 [v] = some x) (hz : ∀ n ∈ DataW.weights Tryz.prog 48 x.1, n ≤ 140737488355328) :
    ∃ l, Evs v l W := by
  have cE : Tryz.prog.cellsOf 95 = 6 := by kernel_rfl
  rcases open_slice Tryz.underlying48 h with ⟨e, _⟩ | ⟨a, len, cap, m, n, D, Pl, e, _, hl, hm, hmm, rfl, hel⟩
  · simp only [List.cons.injEq, and_true] at e
    subst e
    exact ⟨[], none, 0, rfl, Nat.le_refl _, Nat.zero_le _, fun h => absurd rfl h⟩
  · simp only [List.cons.injEq, and_true] at e
    subst e
    simp only [if_true] at hmm
    subst hmm
    have hw : ∀ i, i < len → ∀ n ∈ DataW.weights Tryz.prog 95 (D i), n ≤ 140737488355328 := by
      intro i hi n hn
      refine hz n ?_
      simp only [DataW.weights, Tryz.underlying48]
      exact List.mem_cons_of_mem _ (List.mem_append_left _ (weights_all (List.mem_map.2 ⟨i, List.mem_range.2 hi, rfl⟩) n hn))
    have each : ∀ i, ∃ e : Ev, i < len → ∃ cs, cs.length = 6 ∧ REv e cs W ∧ W.cells? 0 (a.add (i * 6)) 6 = some cs := by
      intro i
      by_cases hi : i < len
      · obtain ⟨cs, h1, h2⟩ := hel i (by omega)
        rw [cE] at h1
        obtain ⟨e, h3, h4⟩ := ev_of_trod h2 (hw i hi)
        exact ⟨e, fun _ => ⟨cs, h3, h4, h1⟩⟩
      · exact ⟨Ev.none, fun h => absurd h hi⟩
    obtain ⟨g, hg⟩ := Classical.axiomOfChoice each
    have hlen : ((List.range len).map g).length = len := by simp
    refine ⟨(List.range len).map g, some a, m, by rw [hlen], by rw [hlen]; exact hl, hm, fun hne => ?_⟩
    have hpos : 0 < len := by
      rcases Nat.eq_zero_or_pos len with h | h
      · rw [h] at hne; simp at hne
      · exact h
    have ha : a = ⟨a.block, a.off, none⟩ := by
      obtain ⟨cs, h1, _, h3⟩ := hg 0 hpos
      obtain ⟨_, _, h4⟩ := World.cells?_some h3
      have h5 := h4 0 (by omega)
      rw [List.getElem?_eq_getElem (by omega)] at h5
      exact addr_spot (by simpa [Addr.add] using h5)
    refine ⟨a.block, a.off, by rw [← ha], fun i e he => ?_⟩
    have hi : i < len := by
      rcases Nat.lt_or_ge i len with h | h
      · exact h
      · rw [List.getElem?_eq_none (by rw [hlen]; exact h)] at he; simp at he
    have hgi : g i = e := by simpa [hi] using he
    obtain ⟨cs, h1, h2, h3⟩ := hg i hi
    rw [hgi] at h2
    refine ⟨cs, h1, fun j u hj => ?_, h2⟩
    obtain ⟨_, _, h4⟩ := World.cells?_some h3
    have hj6 : j < 6 := by
      rcases Nat.lt_or_ge j 6 with h | h
      · exact h
      · rw [List.getElem?_eq_none (by omega)] at hj; simp at hj
    have h5 := h4 j hj6
    rw [ha, add_plain, add_plain] at h5
    exact h5.trans hj
end
end Go.Proofs.YthkmjafmmohogaaGreatDoor
