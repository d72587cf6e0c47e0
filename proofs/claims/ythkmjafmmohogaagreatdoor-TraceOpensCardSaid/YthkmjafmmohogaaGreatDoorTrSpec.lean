/- Plain functions: traces. No program in sight. -/
import Derived.Below
namespace Go.Proofs.YthkmjafmmohogaaGreatDoor
set_option linter.unusedVariables false

/-- api.Event. -/
structure Ev where
  kind : Int
  client : Int
  token : Nat
  method : Int
  status : Int
  bytes : List UInt8
def Ev.none : Ev := ⟨0, 0, 0, 0, 0, []⟩
def sameEv (a b : Ev) : Bool := a.kind == b.kind && a.client == b.client && a.token == b.token && a.method == b.method && a.status == b.status && a.bytes == b.bytes
theorem sameEv_refl (a : Ev) : sameEv a a = true := by simp [sameEv]
def sameEvs : List Ev → List Ev → Bool
  | [], [] => true
  | a :: l, b :: m => sameEv a b && sameEvs l m
  | _, _ => false
theorem sameEvs_refl : ∀ l : List Ev, sameEvs l l = true
  | [] => rfl
  | a :: l => by simp [sameEvs, sameEv_refl, sameEvs_refl l]
theorem sameEvs_len : ∀ l m : List Ev, l.length ≠ m.length → sameEvs l m = false
  | [], [], h => absurd rfl h
  | [], _ :: _, _ => rfl
  | _ :: _, [], _ => rfl
  | a :: l, b :: m, h => by
    rw [sameEvs, sameEvs_len l m (by simpa using h)]; simp
theorem sameEvs_drop (l m : List Ev) (k : Nat) (h : k < l.length) (h' : k < m.length) : sameEvs (l.drop k) (m.drop k) = (sameEv l[k] m[k] && sameEvs (l.drop (k + 1)) (m.drop (k + 1))) := by
  rw [List.drop_eq_getElem_cons h, List.drop_eq_getElem_cons h', sameEvs]

def isKey (kind client : Int) (token : Nat) (e : Ev) : Bool := e.kind == kind && e.client == client && e.token == token
/-- The first event of a kind, of a client and token; -1: none. -/
def ofGo (kind client : Int) (token : Nat) : Nat → List Ev → Int
  | _, [] => -1
  | i, e :: r => if isKey kind client token e then (i : Int) else ofGo kind client token (i + 1) r
def ofL (l : List Ev) (kind client : Int) (token : Nat) : Int := ofGo kind client token 0 l
theorem ofGo_end (kind client : Int) (token : Nat) (l : List Ev) (i : Nat) (h : l.length ≤ i) : ofGo kind client token i (l.drop i) = -1 := by
  rw [List.drop_of_length_le h]; rfl
theorem ofGo_at (kind client : Int) (token : Nat) (l : List Ev) (i : Nat) (h : i < l.length) : ofGo kind client token i (l.drop i) = if isKey kind client token l[i] then (i : Int) else ofGo kind client token (i + 1) (l.drop (i + 1)) := by
  rw [List.drop_eq_getElem_cons h, ofGo]
theorem ofGo_spec (kind client : Int) (token : Nat) : ∀ (l : List Ev) (i : Nat), (ofGo kind client token i l = -1 ∧ ∀ (j : Nat) (h : j < l.length), isKey kind client token l[j] = false) ∨
    ∃ (k : Nat) (h : k < l.length), ofGo kind client token i l = ((i + k : Nat) : Int) ∧ isKey kind client token l[k] = true ∧ ∀ (j : Nat) (h' : j < l.length), j < k → isKey kind client token l[j] = false
  | [], i => .inl ⟨rfl, fun j h => absurd h (by simp)⟩
  | e :: r, i => by
    rw [ofGo]
    cases he : isKey kind client token e with
    | true => exact .inr ⟨0, by simp, by simp, by simpa using he, fun j h' h => absurd h (by omega)⟩
    | false =>
      rw [if_neg (by simp)]
      rcases ofGo_spec kind client token r (i + 1) with ⟨h1, h2⟩ | ⟨k, hk, h1, h2, h3⟩
      · refine .inl ⟨h1, fun j hj => ?_⟩
        cases j with
        | zero => simpa using he
        | succ j => simpa using h2 j (by simpa using hj)
      · refine .inr ⟨k + 1, by simpa using hk, by rw [h1]; omega, by simpa using h2, fun j hj hlt => ?_⟩
        cases j with
        | zero => simpa using he
        | succ j => simpa using h3 j (by simpa using hj) (by omega)
theorem ofL_spec (l : List Ev) (kind client : Int) (token : Nat) : (ofL l kind client token = -1 ∧ ∀ (j : Nat) (h : j < l.length), isKey kind client token l[j] = false) ∨
    ∃ (k : Nat) (h : k < l.length), ofL l kind client token = (k : Int) ∧ isKey kind client token l[k] = true ∧ ∀ (j : Nat) (h' : j < l.length), j < k → isKey kind client token l[j] = false := by
  have := ofGo_spec kind client token l 0
  simpa [ofL] using this

/-- Is event k of a trace one of its open calls? -/
def isOpen (l : List Ev) (k : Nat) : Bool :=
  match l[k]? with
  | some e => e.kind == 1 && (ofL l 1 e.client e.token == (k : Int)) && decide (ofL l 3 e.client e.token < 0)
  | none => false
theorem isOpen_at (l : List Ev) (k : Nat) (h : k < l.length) : isOpen l k = (l[k].kind == 1 && (ofL l 1 l[k].client l[k].token == (k : Int)) && decide (ofL l 3 l[k].client l[k].token < 0)) := by
  simp [isOpen, h]
/-- The open calls among the first k events. -/
def openN (l : List Ev) : Nat → List Ev
  | 0 => []
  | k + 1 => openN l k ++ (if isOpen l k then [l.getD k Ev.none] else [])
theorem openN_yes (l : List Ev) (k : Nat) (h : k < l.length) (ho : isOpen l k = true) : openN l (k + 1) = openN l k ++ [l[k]] := by
  rw [openN, if_pos ho]; simp [List.getD_eq_getElem?_getD, h]
theorem openN_no (l : List Ev) (k : Nat) (ho : isOpen l k = false) : openN l (k + 1) = openN l k := by
  rw [openN, if_neg (by simp [ho])]; simp
theorem openN_len (l : List Ev) : ∀ k, (openN l k).length ≤ k
  | 0 => by simp [openN]
  | k + 1 => by
    have := openN_len l k
    rw [openN, List.length_append]
    split <;> simp <;> omega
theorem openN_mem (l : List Ev) : ∀ (k : Nat) (e : Ev), e ∈ openN l k → ∃ (j : Nat) (h : j < l.length), j < k ∧ isOpen l j = true ∧ l[j] = e
  | 0, e, h => by simp [openN] at h
  | k + 1, e, h => by
    rw [openN, List.mem_append] at h
    rcases h with h | h
    · obtain ⟨j, hj, h1, h2⟩ := openN_mem l k e h
      exact ⟨j, hj, by omega, h2⟩
    · split at h
      · rename_i ho
        have hk : k < l.length := by
          rcases Nat.lt_or_ge k l.length with h | h
          · exact h
          · rw [isOpen, List.getElem?_eq_none h] at ho; simp at ho
        refine ⟨k, hk, by omega, ho, ?_⟩
        rw [List.mem_singleton] at h
        rw [h]; simp [List.getD_eq_getElem?_getD, hk]
      · simp at h
theorem mem_openN (l : List Ev) : ∀ (k j : Nat) (h : j < l.length), j < k → isOpen l j = true → l[j] ∈ openN l k
  | 0, j, h, hlt, _ => by omega
  | k + 1, j, h, hlt, ho => by
    rw [openN, List.mem_append]
    rcases Nat.lt_or_ge j k with hj | hj
    · exact .inl (mem_openN l k j h hj ho)
    · have : j = k := by omega
      subst this
      right
      rw [if_pos ho]
      simp [List.getD_eq_getElem?_getD, h]

/-- What the maps of trace.Open hold: a key is there. -/
def hasKey (kind : Int) (l : List Ev) (client : Int) (token : Nat) : Bool := l.any (isKey kind client token)
def hasAny (l : List Ev) (client : Int) (token : Nat) : Bool := l.any (fun e => e.client == client && e.token == token)
theorem hasKey_succ (kind : Int) (l : List Ev) (k : Nat) (h : k < l.length) (c : Int) (t : Nat) : hasKey kind (l.take (k + 1)) c t = (hasKey kind (l.take k) c t || isKey kind c t l[k]) := by
  rw [List.take_succ_eq_append_getElem h, hasKey, List.any_append, hasKey]; simp
theorem hasKey_of (l : List Ev) (c : Int) (t : Nat) (kind : Int) : hasKey kind l c t = !decide (ofL l kind c t < 0) := by
  rcases ofL_spec l kind c t with ⟨h1, h2⟩ | ⟨k, hk, h1, h2, _⟩
  · rw [h1]
    have : hasKey kind l c t = false := by
      rw [hasKey, List.any_eq_false]
      intro e he
      obtain ⟨j, hj, rfl⟩ := List.mem_iff_getElem.1 he
      simp [h2 j hj]
    rw [this]; decide
  · rw [h1]
    have : hasKey kind l c t = true := by
      rw [hasKey, List.any_eq_true]
      exact ⟨l[k], List.getElem_mem _, h2⟩
    rw [this]
    simp
/-- trace.Open's own test. -/
theorem isOpen_maps (l : List Ev) (k : Nat) (h : k < l.length) (hk : l[k].kind = 1) (hd : hasKey 3 l l[k].client l[k].token = false) :
    isOpen l k = !hasAny (openN l k) l[k].client l[k].token := by
  rw [isOpen_at l k h, hk]
  have hd' : decide (ofL l 3 l[k].client l[k].token < 0) = true := by
    rw [hasKey_of] at hd; simpa using hd
  rw [hd']
  simp only [BEq.rfl, Bool.true_and, Bool.and_true]
  rcases ofL_spec l 1 l[k].client l[k].token with ⟨h1, h2⟩ | ⟨j, hj, h1, h2, h3⟩
  · have := h2 k h
    simp [isKey, hk] at this
  · rw [h1]
    rcases Nat.lt_trichotomy j k with hlt | rfl | hgt
    · have hkey : l[j].client = l[k].client ∧ l[j].token = l[k].token ∧ l[j].kind = 1 := by
        simp [isKey] at h2; exact ⟨h2.1.2, h2.2, h2.1.1⟩
      have hoj : isOpen l j = true := by
        rw [isOpen_at l j hj, hkey.1, hkey.2.1, hkey.2.2, h1, hd']
        simp
      have hany : hasAny (openN l k) l[k].client l[k].token = true := by
        rw [hasAny, List.any_eq_true]
        exact ⟨l[j], mem_openN l k j hj hlt hoj, by simp [hkey.1, hkey.2.1]⟩
      rw [hany]
      simp
      omega
    · have hany : hasAny (openN l j) l[j].client l[j].token = false := by
        rw [hasAny, List.any_eq_false]
        intro e he
        obtain ⟨i, hi, hij, ho, rfl⟩ := openN_mem l j e he
        have hki : l[i].kind = 1 := by
          rw [isOpen_at l i hi] at ho; simp at ho; exact ho.1.1
        have := h3 i hi hij
        simp [isKey, hki] at this
        simpa using this
      rw [hany]; simp
    · have := h3 k h hgt
      simp [isKey, hk] at this
theorem isOpen_kind (l : List Ev) (k : Nat) (h : k < l.length) (hk : l[k].kind ≠ 1) : isOpen l k = false := by
  rw [isOpen_at l k h]; simp [hk]
theorem isOpen_done (l : List Ev) (k : Nat) (h : k < l.length) (hd : hasKey 3 l l[k].client l[k].token = true) : isOpen l k = false := by
  rw [hasKey_of] at hd
  rw [isOpen_at l k h]
  simp at hd
  simp; intro _ _; omega
end Go.Proofs.YthkmjafmmohogaaGreatDoor
