/- Contracts on events: courierref19.SameEvent, of, SameEvents; courierlaw21.Few. -/
import Derived.Test.YthkmjafmmohogaaGreatDoorBytes
import Derived.Test.YthkmjafmmohogaaGreatDoorTrSpec
import Derived.Test.YthkmjafmmohogaaGreatDoorRes
import Derived.Deep.RegionWith
import Derived.Deep.RegionHeld3
import Derived.Laws.BytesArg
import Derived.Lib.Hide
import Derived.MapKept
namespace Go.Proofs.YthkmjafmmohogaaGreatDoor
open Go Go.RowKit
set_option linter.unusedVariables false
set_option maxHeartbeats 1000000
set_option maxRecDepth 100000

def str (l : List UInt8) : ByteArray := ⟨l.toArray⟩
theorem str_inj {l m : List UInt8} : str l = str m ↔ l = m := by
  constructor
  · intro h
    have := congrArg (fun b : ByteArray => b.data.toList) h
    simpa [str] using this
  · rintro rfl; rfl
theorem str_eq (l m : List UInt8) : (str l == str m) = (l == m) := by
  rw [Bool.eq_iff_iff, MapKept.bytes_beq, str_inj]; simp
theorem str_list (l : List UInt8) : (str l).toList = l := by rw [ByteArray.toList_eq]; simp [str]
theorem str_deq (l m : List UInt8) : decide (str l = str m) = (l == m) := by
  by_cases h : l = m
  · subst h; simp
  · have h' : str l ≠ str m := fun e => h (str_inj.1 e)
    simp [h, h']
theorem strOfNums_bytes (l : List UInt8) : strOfNums (l.map fun c => (c.toNat : Int)) = str l := by
  have e : (fun n : Int => UInt8.ofNat n.toNat) ∘ (fun c : UInt8 => (c.toNat : Int)) = id := by funext c; simp
  simp [strOfNums, str, e]

/-- string(b). -/
theorem run_conv {v : Value} {l : List UInt8} {w : World} (h : Bytes v l w) : (convert 34 9 v).run Tryz.prog w = .ok (.string (str l)) w := by
  obtain ⟨a, c, rfl, h1, h2, h3⟩ := h.form
  by_cases hl : l = []
  · subst hl
    cases a with
    | none => exact run_convert_bytes_nil w 34 5 Tryz.underlying34 Tryz.underlying5 _ _ _ Tryz.underlying9
    | some a =>
      rw [run_convert_bytes_string w _ _ _ _ _ _ Tryz.underlying34 Tryz.underlying5 Tryz.underlying9]
      simp [Conv.bytesToString, loadCells, loadCellsFrom, str, ByteArray.empty, ByteArray.emptyWithCapacity]
      rfl
  · obtain ⟨b, off, rfl, hc⟩ := h3 hl
    have := run_convert_bytes_arg (P := Tryz.prog) w 34 5 Tryz.underlying34 Tryz.underlying5 b off l.length c (l.map fun c => (c.toNat : Int)) (by simp) (fun i hi => by
      have := hc i _ (bcells_get hi)
      rw [this]
      simp [List.getD, hi, bcell]) _ Tryz.underlying9
    rw [strOfNums_bytes] at this
    exact this

def evVal (e : Ev) (vb : Value) : Array Value := #[.int .i64 e.kind, .int .i64 e.client, .int .u64 e.token, .int .i64 e.method, .int .i64 e.status, vb]
def Two (w : World) (a b : Array Value) : World := (w.alloc (.cells a 95)).alloc (.cells b 95)
theorem below_two (w : World) (a b : Array Value) : Below w.heap.size w (Two w a b) := (balloc _ _).trans ((balloc _ _).mono (by simp))
theorem sameEvent_c (a b : Ev) (va vb : Value) (w : World) (ha : Bytes va a.bytes w) (hb : Bytes vb b.bytes w) :
    Calls Tryz.prog 37 #[.agg (evVal a va), .agg (evVal b vb)] w fun e w' => e = .returned (.bool (sameEv a b)) ∧ Below w.heap.size w w' := by
  obtain ⟨k1, c1, t1, m1, s1, l1⟩ := a
  obtain ⟨k2, c2, t2, m2, s2, l2⟩ := b
  unfold evVal
  simp only at *
  by_cases h : k1 = k2 ∧ c1 = c2 ∧ t1 = t2 ∧ m1 = m2 ∧ s1 = s2
  · obtain ⟨rfl, rfl, rfl, rfl, rfl⟩ := h
    have hb2 := below_two w #[.int .i64 k1, .int .i64 c1, .int .u64 t1, .int .i64 m1, .int .i64 s1, va] #[.int .i64 k1, .int .i64 c1, .int .u64 t1, .int .i64 m1, .int .i64 s1, vb]
    have e1 := run_conv (ha.below hb2)
    have e2 := run_conv (hb.below hb2)
    have HB := Lib.hid hb2
    unfold Two at e1 e2
    have hs : sameEv ⟨k1, c1, t1, m1, s1, l1⟩ ⟨k1, c1, t1, m1, s1, l2⟩ = ((str l1).toList == (str l2).toList) := by rw [str_list, str_list]; simp [sameEv]
    generalize str l1 = x1 at *
    generalize str l2 = x2 at *
    have HS := Lib.hid hs
    clear hs ha hb hb2
    go_enter Tryz.func37, Tryz.ntmps37
    go_wp2
    all_goals
      go_ret
      exact ⟨by rw [HS.out]; rfl, HB.out⟩
  · have hs : sameEv ⟨k1, c1, t1, m1, s1, l1⟩ ⟨k2, c2, t2, m2, s2, l2⟩ = false := by
      cases hh : sameEv ⟨k1, c1, t1, m1, s1, l1⟩ ⟨k2, c2, t2, m2, s2, l2⟩ with
      | false => rfl
      | true =>
        simp [sameEv] at hh
        exact absurd ⟨hh.1.1.1.1.1, hh.1.1.1.1.2, hh.1.1.1.2, hh.1.1.2, hh.1.2⟩ h
    rw [hs]
    clear hs
    go_enter Tryz.func37, Tryz.ntmps37
    go_wp2
    all_goals first
      | (exfalso; omega)
      | (go_ret; exact ⟨rfl, below_two w _ _⟩)

/-- What Go's types say of an event. -/
def EvOk (e : Ev) : Prop := e.token < 18446744073709551616 ∧ e.bytes.length ≤ 140737488355328 ∧ -9223372036854775808 ≤ e.client ∧ e.client < 9223372036854775808
def REv (e : Ev) (cs : List Value) (w : World) : Prop := ∃ vb, cs = (evVal e vb).toList ∧ Bytes vb e.bytes w ∧ EvOk e
theorem REv.below {e : Ev} {cs : List Value} {w w1 : World} (h : REv e cs w) (hb : Below w.heap.size w w1) : REv e cs w1 := by
  obtain ⟨vb, rfl, hv, ht⟩ := h
  exact ⟨vb, rfl, hv.below hb, ht⟩
/-- A slice of events. -/
def Evs (v : Value) (l : List Ev) (w : World) : Prop := Row 6 REv v l w
theorem Evs.below {v : Value} {l : List Ev} {w w1 : World} (h : Evs v l w) (hb : Below w.heap.size w w1) : Evs v l w1 := by
  obtain ⟨a, c, rfl, h1, h2, h3⟩ := h
  refine ⟨a, c, rfl, h1, h2, fun hn => ?_⟩
  obtain ⟨b, off, rfl, h4⟩ := h3 hn
  refine ⟨b, off, rfl, fun i x hi => ?_⟩
  obtain ⟨cs, h5, h6, h7⟩ := h4 i x hi
  exact ⟨cs, h5, h6.stab (S := fun _ => False) (fun _ x => x) w1 (Ext.of_below hb), h7.below hb⟩
/-- An event of a slice: its six cells. -/
theorem Evs.at {a : Option Addr} {n c : Nat} {l : List Ev} {w : World} (h : Evs (.slice a n c) l w) {k : Nat} (hk : k < l.length) : ∃ b off vb, a = some ⟨b, off, none⟩ ∧ Bytes vb l[k].bytes w ∧ EvOk l[k] ∧
    w.cell? ⟨b, off + k * 6, none⟩ = some (.int .i64 l[k].kind) ∧ w.cell? ⟨b, off + k * 6 + 1, none⟩ = some (.int .i64 l[k].client) ∧ w.cell? ⟨b, off + k * 6 + 2, none⟩ = some (.int .u64 l[k].token) ∧
    w.cell? ⟨b, off + k * 6 + 3, none⟩ = some (.int .i64 l[k].method) ∧ w.cell? ⟨b, off + k * 6 + 4, none⟩ = some (.int .i64 l[k].status) ∧ w.cell? ⟨b, off + k * 6 + 5, none⟩ = some vb := by
  obtain ⟨a', c', he, h1, h2, h3⟩ := h
  simp only [Value.slice.injEq] at he
  obtain ⟨rfl, rfl, rfl⟩ := he
  obtain ⟨b, off, rfl, h4⟩ := h3 (by rintro rfl; simp at hk)
  obtain ⟨cs, h5, h6, vb, rfl, h7, h8⟩ := h4 k l[k] (List.getElem?_eq_getElem hk)
  exact ⟨b, off, vb, rfl, h7, h8, h6 0 _ rfl, h6 1 _ rfl, h6 2 _ rfl, h6 3 _ rfl, h6 4 _ rfl, h6 5 _ rfl⟩
theorem Evs.at2 {a : Option Addr} {n c : Nat} {l : List Ev} {w0 w : World} (h : Evs (.slice a n c) l w0) (hb : Below w0.heap.size w0 w) {k : Nat} (hk : k < l.length) : ∃ b off vb, a = some ⟨b, off, none⟩ ∧ Bytes vb l[k].bytes w0 ∧ EvOk l[k] ∧
    w.cell? ⟨b, off + k * 6, none⟩ = some (.int .i64 l[k].kind) ∧ w.cell? ⟨b, off + k * 6 + 1, none⟩ = some (.int .i64 l[k].client) ∧ w.cell? ⟨b, off + k * 6 + 2, none⟩ = some (.int .u64 l[k].token) ∧
    w.cell? ⟨b, off + k * 6 + 3, none⟩ = some (.int .i64 l[k].method) ∧ w.cell? ⟨b, off + k * 6 + 4, none⟩ = some (.int .i64 l[k].status) ∧ w.cell? ⟨b, off + k * 6 + 5, none⟩ = some vb := by
  obtain ⟨b, off, vb, rfl, h1, h2, q0, q1, q2, q3, q4, q5⟩ := h.at hk
  have hl : b < w0.heap.size := World.block_lt_of_cell? w0 ⟨b, _, none⟩ q0
  have hc := fun o => hb.cell (p := ⟨b, o, none⟩) hl
  exact ⟨b, off, vb, rfl, h1, h2, (hc _).trans q0, (hc _).trans q1, (hc _).trans q2, (hc _).trans q3, (hc _).trans q4, (hc _).trans q5⟩
theorem Evs.form {v : Value} {l : List Ev} {w : World} (h : Evs v l w) : ∃ a c, v = .slice a l.length c ∧ l.length ≤ c ∧ c ≤ maxLen := by
  obtain ⟨a, c, rfl, h1, h2, _⟩ := h
  exact ⟨a, c, rfl, h1, h2⟩

theorem of_c (v : Value) (l : List Ev) (kind client : Int) (token : Nat) (w : World) (h : Evs v l w) :
    Calls Tryz.prog 39 #[v, .int .i64 kind, .int .i64 client, .int .u64 token] w fun e w' => e = .returned (.int .i64 (ofL l kind client token)) ∧ w' = w := by
  obtain ⟨a, c, rfl, hc, hm⟩ := h.form
  unfold maxLen at hm
  have HH := Lib.hid h
  clear h
  go_enter Tryz.func39, Tryz.ntmps39
  go_wp2
  have HT : Hid (ofL l kind client token = ofGo kind client token 0 (l.drop 0)) := rfl
  go_loop [12] (fun i => ∃ (k : Nat), k ≤ l.length ∧ i = .int .i64 k ∧ Hid (ofL l kind client token = ofGo kind client token k (l.drop k))) (fun i => l.length - (intOf i).toNat)
  case atStart => exact ⟨0, Nat.zero_le _, rfl, HT⟩
  case round =>
    obtain ⟨k, hk, rfl, HT⟩ := hrel
    by_cases hlt : k < l.length
    · obtain ⟨b, off, vb, rfl, hvb, htk, q0, q1, q2, q3, q4, q5⟩ := HH.out.at hlt
      have hst := ofGo_at kind client token l k hlt
      rw [← HT.out] at hst
      by_cases hm : l[k].kind = kind ∧ l[k].client = client ∧ l[k].token = token
      · have hk1 : isKey kind client token l[k] = true := by simp [isKey, hm]
        rw [if_pos hk1] at hst
        have HS := Lib.hid hst
        obtain ⟨m1, m2, m3⟩ := hm
        rw [m1] at q0
        rw [m2] at q1
        rw [m3] at q2
        clear hst hvb HT m1 m2 m3 hk1
        go_wp2
        go_ret
        exact ⟨by rw [HS.out]; rfl, rfl⟩
      · have hk1 : isKey kind client token l[k] = false := by
          cases hh : isKey kind client token l[k] with
          | false => rfl
          | true => simp [isKey] at hh; exact absurd ⟨hh.1.1, hh.1.2, hh.2⟩ hm
        rw [hk1, if_neg (by simp)] at hst
        have HS := Lib.hid hst
        clear hst hvb HT hk1
        generalize l[k].kind = y1 at *
        generalize l[k].client = y2 at *
        generalize l[k].token = y3 at *
        go_wp2
        all_goals first
          | (exfalso; omega)
          | (go_round
             case rel => exact ⟨k + 1, by omega, by go_num, HS.out⟩
             case measure => simp [intOf]; omega)
    · have hv := ofGo_end kind client token l k (by omega)
      rw [← HT.out] at hv
      have HV := Lib.hid hv
      clear hv HT
      go_wp2
      go_ret
      exact ⟨by rw [HV.out]; rfl, rfl⟩
end Go.Proofs.YthkmjafmmohogaaGreatDoor
