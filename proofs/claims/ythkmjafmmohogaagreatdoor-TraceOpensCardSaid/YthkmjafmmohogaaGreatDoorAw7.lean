/- Runs at constants: schema.Formed, of a schema of one message and at most one method. -/
import Derived.Test.YthkmjafmmohogaaGreatDoorAw6
import Derived.Test.YthkmjafmmohogaaGreatDoorRow
namespace Go.Proofs.YthkmjafmmohogaaGreatDoor
open Go Go.RowKit
set_option linter.unusedVariables false
set_option maxHeartbeats 1000000
set_option maxRecDepth 100000

def RStr (s : ByteArray) (cs : List Value) (w : World) : Prop := cs = [.string s]
theorem wpList_app_str {ops : Array Oper} {rest : List Oper} {o : Oper} {a : Act} {w : World} {Q : Exit → Act → World → Prop} (hgd : o.guard = none) {s x : Operand}
    (ho : o.op = .call { callee := .builtin .append, args := #[s, x], argTypes := #[54, 54] }) {base : Nat} {S : Nat → Prop} {l : List ByteArray} (hv : Owns 9 1 base RStr S (a.eval s) l w)
    {g c : Nat} {y : ByteArray} (hx : a.eval x = .slice (some ⟨g, 0, none⟩) 1 c) (hb : w.heap[g]? = some (.cells #[.string y] 9)) (hl : l.length ≤ 1000000) (hbase : base ≤ w.heap.size)
    (h : ∀ v1 w1, w.grownBy w1 (a.eval s).ownBlock → Owns 9 1 base RStr (fun k => S k ∨ k = w.heap.size) v1 (l ++ [y]) w1 → wpList Tryz.prog ops Q rest (a.put o.dst v1) w1) : wpList Tryz.prog ops Q (o :: rest) a w := by
  obtain ⟨inf, hi, hz, hs, hby⟩ := info_parts info_str
  exact wpList_app_one hgd ho Tryz.underlying54 hi hz hs hby (by kernel_rfl) (by decide) hv hx hb rfl (by
    intro u hu
    simp only [List.mem_cons, List.not_mem_nil, or_false] at hu
    rcases hu with rfl
    rfl) (fun _ _ => rfl) (by unfold maxLen; omega) (by omega) hbase h

theorem str_single {base : Nat} {S : Nat → Prop} {v : Value} {s : ByteArray} {w : World} (h : Owns 9 1 base RStr S v [s] w) : ∃ g cap, v = .slice (some ⟨g, 0, none⟩) 1 cap ∧ w.cell? ⟨g, 0, none⟩ = some (.string s) := by
  rcases h.shape with ⟨_, h⟩ | ⟨g, cap, rfl, _, _, _, _⟩
  · simp at h
  · refine ⟨g, cap, rfl, ?_⟩
    obtain ⟨css, hl, _, hr, hc⟩ := h.cells (g := g) rfl
    have hlen : 0 < css.length := by simp at hl; omega
    have h0 : css[0]? = some (css[0]'hlen) := List.getElem?_eq_getElem hlen
    have h1 : css[0]'hlen = [.string s] := (hr 0 s _ rfl h0).here
    rw [h1] at h0
    have := hc 0 _ h0 0 _ rfl
    simpa using this

/-- What the calls find: the schema's box, the message. -/
def SchAt (bs bm cm : Nat) (nm : ByteArray) (fa : Option Addr) (fl fc : Nat) (ms : Value) (w : World) : Prop :=
  w.cell? ⟨bs, 0, none⟩ = some (.slice (some ⟨bm, 0, none⟩) 1 cm) ∧ w.cell? ⟨bs, 1, none⟩ = some (.slice none 0 0) ∧ w.cell? ⟨bs, 2, none⟩ = some ms ∧ w.cell? ⟨bm, 0, none⟩ = some (.string nm) ∧ w.cell? ⟨bm, 1, none⟩ = some (.slice fa fl fc)
theorem SchAt.below {bs bm cm : Nat} {nm : ByteArray} {fa : Option Addr} {fl fc : Nat} {ms : Value} {w w1 : World} (h : SchAt bs bm cm nm fa fl fc ms w) (hb : Below w.heap.size w w1) : SchAt bs bm cm nm fa fl fc ms w1 := by
  obtain ⟨h0, h1, h2, h3, h4⟩ := h
  have l1 := World.block_lt_of_cell? w ⟨bs, 0, none⟩ h0
  have l2 := World.block_lt_of_cell? w ⟨bm, 0, none⟩ h3
  exact ⟨(hb.cell (p := ⟨bs, 0, none⟩) l1).trans h0, (hb.cell (p := ⟨bs, 1, none⟩) l1).trans h1, (hb.cell (p := ⟨bs, 2, none⟩) l1).trans h2, (hb.cell (p := ⟨bm, 0, none⟩) l2).trans h3, (hb.cell (p := ⟨bm, 1, none⟩) l2).trans h4⟩
theorem SchAt.lt {bs bm cm : Nat} {nm : ByteArray} {fa : Option Addr} {fl fc : Nat} {ms : Value} {w : World} (h : SchAt bs bm cm nm fa fl fc ms w) : bs < w.heap.size ∧ bm < w.heap.size :=
  ⟨World.block_lt_of_cell? w ⟨bs, 0, none⟩ h.1, World.block_lt_of_cell? w ⟨bm, 0, none⟩ h.2.2.2.1⟩
/-- .. and the rules for the walk. -/
theorem SchAt.old {bs bm cm : Nat} {nm : ByteArray} {fa : Option Addr} {fl fc : Nat} {ms : Value} {w : World} (h : SchAt bs bm cm nm fa fl fc ms w) : (∀ (o : Obj) (i : Nat), (w.alloc o).cell? ⟨bs, i, none⟩ = w.cell? ⟨bs, i, none⟩) ∧ (∀ (o : Obj) (i : Nat), (w.alloc o).cell? ⟨bm, i, none⟩ = w.cell? ⟨bm, i, none⟩) :=
  ⟨fun o i => (balloc w o).cell (p := ⟨bs, i, none⟩) h.lt.1, fun o i => (balloc w o).cell (p := ⟨bm, i, none⟩) h.lt.2⟩

theorem formed_any (bm cm : Nat) (c : UInt8) (hc : Lett c.toNat) (fa : Option Addr) (fl fc : Nat) (ms : Value) (w : World)
    (hms : (∃ a c, ms = .slice a 0 c) ∨ ∃ gm mc c1 c2, ms = .slice (some ⟨gm, 0, none⟩) 1 mc ∧ Lett c1.toNat ∧ Lett c2.toNat ∧ cellsAt gm 0 (mdVal 1 (one c1) (one c2) 0 0).toList w)
    (hm : cellsAt bm 0 [.string (one c), .slice fa fl fc] w)
    (HM : ∀ w', Below w.heap.size w w' → Calls Tryz.prog 61 #[.agg (schV bm cm ms), .agg #[.string (one c), .slice fa fl fc]] w' (Says (.bool true) w'))
    (HN : ∀ w', Below w.heap.size w w' → Calls Tryz.prog 68 #[.agg (schV bm cm ms), .int .i64 0] w' (Says (.bool false) w')) :
    Calls Tryz.prog 31 #[.agg (schV bm cm ms)] w (Says (.bool true) w) := by
  obtain ⟨ma, mn, mc, rfl, hmn⟩ : ∃ ma mn mc, ms = .slice ma mn mc ∧ (mn = 0 ∨ mn = 1 ∧ ∃ gm c1 c2, ma = some ⟨gm, 0, none⟩ ∧ Lett c1.toNat ∧ Lett c2.toNat ∧ cellsAt gm 0 (mdVal 1 (one c1) (one c2) 0 0).toList w) := by
    rcases hms with ⟨a, c, rfl⟩ | ⟨gm, mc, c1, c2, rfl, h1, h2, h3⟩
    · exact ⟨a, 0, c, rfl, .inl rfl⟩
    · exact ⟨_, 1, mc, rfl, .inr ⟨rfl, gm, c1, c2, rfl, h1, h2, h3⟩⟩
  have hmn1 : mn ≤ 1 := by rcases hmn with h | ⟨h, _⟩ <;> omega
  have HMN := Lib.hid hmn
  clear hmn
  have HM := Lib.hid HM
  have HN := Lib.hid HN
  have m0 : w.cell? ⟨bm, 0, none⟩ = some (.string (one c)) := hm 0 _ rfl
  have m1 : w.cell? ⟨bm, 1, none⟩ = some (.slice fa fl fc) := hm 1 _ rfl
  have HB0 := Lib.hid (balloc w (.cells #[.slice (some ⟨bm, 0, none⟩) 1 cm, .slice none 0 0, .slice ma mn mc] 33))
  have hbl : bm < w.heap.size := World.block_lt_of_cell? w ⟨bm, 0, none⟩ m0
  have hS : SchAt w.heap.size bm cm (one c) fa fl fc (.slice ma mn mc) (w.alloc (.cells #[.slice (some ⟨bm, 0, none⟩) 1 cm, .slice none 0 0, .slice ma mn mc] 33)) :=
    ⟨blk_cell (blk_alloc _ _) 0, blk_cell (blk_alloc _ _) 1, blk_cell (blk_alloc _ _) 2, (HB0.out.cell (p := ⟨bm, 0, none⟩) hbl).trans m0, (HB0.out.cell (p := ⟨bm, 1, none⟩) hbl).trans m1⟩
  obtain ⟨k0, k1, k2, k3, k4⟩ := hS
  have HS := Lib.hid (show SchAt w.heap.size bm cm (one c) fa fl fc (.slice ma mn mc) (w.alloc (.cells #[.slice (some ⟨bm, 0, none⟩) 1 cm, .slice none 0 0, .slice ma mn mc] 33)) from ⟨k0, k1, k2, k3, k4⟩)
  obtain ⟨o1, o2⟩ := HS.out.old
  have HF1 := Lib.hid (formed1_c c hc)
  have HP := Lib.hid (plain_c c hc)
  have hz : (one c).size ≤ 1000 := by rw [one_size]; decide
  have HZ := Lib.hid hz
  generalize one c = s at *
  clear hm hz m0 m1
  unfold schV at *
  go_enter Tryz.func31, Tryz.ntmps31
  go_wp2_with fail
  refine wp_loop_rounds 2 ?_
  rw [rounds_succ]
  go_wp2_with (refine at_dst 38 rfl ?_; refine Halt.out ?_)
  refine Halt.mk ?_
  have hb1 : Below (w.heap.size + 1) (w.alloc (.cells #[.slice (some ⟨bm, 0, none⟩) 1 cm, .slice none 0 0, .slice ma mn mc] 33)) (((w.alloc (.cells #[.slice (some ⟨bm, 0, none⟩) 1 cm, .slice none 0 0, .slice ma mn mc] 33)).alloc (.cells #[.string s, .slice fa fl fc] 28)).alloc (.cells #[.string s] 9)) := by
    have := (balloc (w.alloc (.cells #[.slice (some ⟨bm, 0, none⟩) 1 cm, .slice none 0 0, .slice ma mn mc] 33)) (.cells #[.string s, .slice fa fl fc] 28)).trans ((balloc _ (.cells #[.string s] 9)).mono (by simp))
    simpa using this
  refine wpList_app_str rfl rfl (base := w.heap.size + 1) (S := fun k => w.heap.size + 1 ≤ k) (Owns.nil _ _ _ _ _ _) rfl (blk_alloc' (by simp) _) (by simp) (by simp) ?_
  intro v1 w1 hg1 ho1
  have hb2 := hb1.grown hg1 (by simp) (fun j hj => absurd (show (none : Option Nat) = some j from hj) (by simp))
  have HS1 := Lib.hid (HS.out.below (by simpa using hb2))
  have HB1 := Lib.hid (bto HB0.out (by simpa using hb2) (Nat.le_refl _))
  obtain ⟨g, cap, rfl, hgc⟩ := str_single ho1
  clear hg1 ho1 hb1 hb2 k0 k1 k2 k3 k4 o1 o2
  obtain ⟨k0, k1, k2, k3, k4⟩ := HS1.out
  go_wp2_with fail
  rw [rounds_succ]
  go_wp2_with fail
  refine wp_loop_rounds 1 ?_
  rw [rounds_succ]
  go_wp2_with (go_at_call 54; refine Halt.out ?_)
  refine Halt.mk ?_
  refine (constr_c 55 #[] g cap s w1 hgc Tryz.func55 (by kernel_rfl) (by kernel_rfl) (HF1.out w1)).mono ?_
  rintro e w2 ⟨rfl, hb2⟩
  have HS2 := Lib.hid (HS1.out.below hb2)
  have HB2 := Lib.hid (bto HB1.out hb2 (Nat.le_refl _))
  have hgc2 := (hb2.cell (p := ⟨g, 0, none⟩) (World.block_lt_of_cell? w1 ⟨g, 0, none⟩ hgc)).trans hgc
  clear k0 k1 k2 k3 k4 hb2 hgc
  go_wp2_with (go_at_call 57; refine Halt.out ?_)
  refine Halt.mk ?_
  refine (unlikestr_c s HZ.out g cap w2 hgc2).mono ?_
  rintro e w3 ⟨rfl, hb3⟩
  have HS3 := Lib.hid (HS2.out.below hb3)
  have HB3 := Lib.hid (bto HB2.out hb3 (Nat.le_refl _))
  clear hb3 hgc2
  obtain ⟨k0, k1, k2, k3, k4⟩ := HS3.out
  have hmf : ∀ (fn : Fn) (first cap : Array Value) (w : World), (Instr.makeFunc fn first cap).run Tryz.prog w = .ok (.func fn first cap) w := fun _ _ _ _ => rfl
  go_wp2_with (go_at_call 59; refine Halt.out ?_)
  refine Halt.mk ?_
  refine (conmsg_c #[.pointer (some ⟨w.heap.size, 0, none⟩)] 60 bm cm s fa fl fc w3 k3 k4 Tryz.func60 (by kernel_rfl) (by kernel_rfl) (formed3_c bm cm (.slice ma mn mc) ⟨_, _, _, rfl⟩ s fa fc w.heap.size fl w3 k0 k1 k2 (fun w' hb' => HM.out w' (bto HB3.out hb' (Nat.le_refl _))))).mono ?_
  rintro e w4 ⟨rfl, hb4⟩
  have HS4 := Lib.hid (HS3.out.below hb4)
  have HB4 := Lib.hid (bto HB3.out hb4 (Nat.le_refl _))
  clear hb4 k0 k1 k2 k3 k4
  obtain ⟨k0, k1, k2, k3, k4⟩ := HS4.out
  go_wp2_with (go_at_call 62; refine Halt.out ?_)
  refine Halt.mk ?_
  refine (conenum_c _ _ _ w4).mono ?_
  rintro e w5 ⟨rfl, hb5⟩
  have HS5 := Lib.hid (HS4.out.below hb5)
  have HB5 := Lib.hid (bto HB4.out hb5 (Nat.le_refl _))
  clear hb5 k0 k1 k2 k3 k4
  obtain ⟨k0, k1, k2, k3, k4⟩ := HS5.out
  go_wp2_with fail
  rcases HMN.out with rfl | ⟨rfl, gm, c1, c2, rfl, hc1, hc2, hmd⟩
  · refine wp_loop_rounds 1 ?_
    rw [rounds_succ]
    go_wp2_with (go_at_call 66; refine Halt.out ?_)
    refine Halt.mk ?_
    refine (unlikemd_nil _ _ w5).mono ?_
    rintro e w6 ⟨rfl, hb6⟩
    have HS6 := Lib.hid (HS5.out.below hb6)
    have HB6 := Lib.hid (bto HB5.out hb6 (Nat.le_refl _))
    clear hb6 k0 k1 k2 k3 k4
    obtain ⟨k0, k1, k2, k3, k4⟩ := HS6.out
    go_wp2_with fail
    refine wp_loop_rounds 2 ?_
    rw [rounds_succ]
    go_wp2_with (go_at_call 68; refine Halt.out ?_)
    refine Halt.mk ?_
    refine (HN.out w6 HB6.out).mono ?_
    rintro e w7 ⟨rfl, hb7⟩
    have HB7 := Lib.hid (bto HB6.out hb7 (Nat.le_refl _))
    clear hb7 k0 k1 k2 k3 k4
    go_wp2_with fail
    rw [rounds_succ]
    go_wp2_with fail
    go_ret
    exact ⟨rfl, HB7.out⟩
  · have hmd5 := cells_below hmd HB5.out
    have n0 : w5.cell? ⟨gm, 0, none⟩ = some (.int .i64 1) := hmd5 0 _ rfl
    have n1 : w5.cell? ⟨gm, 1, none⟩ = some (.string (one c1)) := hmd5 1 _ rfl
    have n2 : w5.cell? ⟨gm, 2, none⟩ = some (.string (one c2)) := hmd5 2 _ rfl
    have n3 : w5.cell? ⟨gm, 3, none⟩ = some (.int .i64 0) := hmd5 3 _ rfl
    have n4 : w5.cell? ⟨gm, 4, none⟩ = some (.int .i64 0) := hmd5 4 _ rfl
    have HP1 := Lib.hid (plain_c c1 hc1)
    have HP2 := Lib.hid (plain_c c2 hc2)
    have HMD := Lib.hid hmd
    have z1 := one_size c1
    have z2 := one_size c2
    have HU := Lib.hid (fun g c (w' : World) (h : cellsAt g 0 (mdVal 1 (one c1) (one c2) 0 0).toList w') => unlikemd_c 1 (one c1) (one c2) 0 0 (by omega) (by omega) g c w' h)
    clear z1 z2 hmd hmd5
    generalize one c1 = s1 at *
    generalize one c2 = s2 at *
    refine wp_loop_rounds 2 ?_
    rw [rounds_succ]
    go_wp2_with (go_at_call 65; refine Halt.out ?_)
    refine Halt.mk ?_
    refine (HP1.out _).mono ?_
    rintro e w6 ⟨rfl, hb6⟩
    have hbx := blk_below (blk_alloc w5 (.cells #[.int .i64 1, .string s1, .string s2, .int .i64 0, .int .i64 0] 93)) hb6 (by simp)
    have HS6 := Lib.hid ((HS5.out.below (balloc _ _)).below hb6)
    have HB6 := Lib.hid (bto (bto HB5.out (balloc _ _) (Nat.le_refl _)) hb6 (Nat.le_refl _))
    have HX := Lib.hid hbx
    have x2 : w6.cell? ⟨w5.heap.size, 2, none⟩ = some (.string s2) := blk_cell hbx 2
    clear hb6 k0 k1 k2 k3 k4 hbx n0 n1 n2 n3 n4
    go_wp2_with (go_at_call 65; refine Halt.out ?_)
    refine Halt.mk ?_
    refine (HP2.out _).mono ?_
    rintro e w7 ⟨rfl, hb7⟩
    have hbx := blk_below HX.out hb7 (blk_lt HX.out)
    have HS7 := Lib.hid (HS6.out.below hb7)
    have HB7 := Lib.hid (bto HB6.out hb7 (Nat.le_refl _))
    have x3 : w7.cell? ⟨w5.heap.size, 3, none⟩ = some (.int .i64 0) := blk_cell hbx 3
    have x4 : w7.cell? ⟨w5.heap.size, 4, none⟩ = some (.int .i64 0) := blk_cell hbx 4
    clear hb7 hbx x2
    obtain ⟨k0, k1, k2, k3, k4⟩ := HS7.out
    go_wp2_with fail
    rw [rounds_succ]
    go_wp2_with (go_at_call 66; refine Halt.out ?_)
    refine Halt.mk ?_
    refine (HU.out _ _ w7 (cells_below HMD.out HB7.out)).mono ?_
    rintro e w8 ⟨rfl, hb8⟩
    have HS8 := Lib.hid (HS7.out.below hb8)
    have HB8 := Lib.hid (bto HB7.out hb8 (Nat.le_refl _))
    clear hb8 k0 k1 k2 k3 k4 x3 x4
    obtain ⟨k0, k1, k2, k3, k4⟩ := HS8.out
    go_wp2_with fail
    refine wp_loop_rounds 2 ?_
    rw [rounds_succ]
    go_wp2_with (go_at_call 68; refine Halt.out ?_)
    refine Halt.mk ?_
    refine (HN.out w8 HB8.out).mono ?_
    rintro e w9 ⟨rfl, hb9⟩
    have HB9 := Lib.hid (bto HB8.out hb9 (Nat.le_refl _))
    clear hb9 k0 k1 k2 k3 k4
    go_wp2_with fail
    rw [rounds_succ]
    go_wp2_with fail
    go_ret
    exact ⟨rfl, HB9.out⟩
end Go.Proofs.YthkmjafmmohogaaGreatDoor
