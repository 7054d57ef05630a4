/- The plain law of following: what a member has of its leader's log, and what a message adds. -/
import Derived.Test.YtjbnmamgfpnccaaGreatF5
namespace Go.Proofs.YtjbnmamgfpnccaaGreat
open Go Go.RowKit

/-- The leader's entries. -/
def Lead (E : List Ent) : Prop := E.length ≤ 20 ∧ ∀ (j : Nat) (e : Ent), E[j]? = some e → e.i = (j : Int) + 1 ∧ e.t = 3 ∧ e.k = 1 ∧ e.d.length ≤ 2048
/-- A log holds the first p of some entries. -/
structure Holds (L : LogC) (E : List Ent) (p : Nat) : Prop where
  i : L.i = 0
  t : L.t = 0
  es : L.es.map EntC.ab = E.take p
  p : p ≤ E.length
def termOf (x : Nat) : Int := if x = 0 then 0 else 3

theorem Holds.len {L : LogC} {E : List Ent} {p : Nat} (h : Holds L E p) : L.es.length = p := by
  have := congrArg List.length h.es
  simp at this
  have := h.p
  omega
theorem Holds.get {L : LogC} {E : List Ent} {p k : Nat} {e : EntC} (h : Holds L E p) (he : L.es[k]? = some e) : k < p ∧ E[k]? = some e.ab := by
  have h1 : (L.es.map EntC.ab)[k]? = some e.ab := by simp [he]
  rw [h.es, List.getElem?_take] at h1
  split at h1
  · exact ⟨by assumption, h1⟩
  · cases h1
theorem Holds.last {L : LogC} {E : List Ent} {p : Nat} (h : Holds L E p) (hE : Lead E) : L.last.1 = p ∧ L.last.2 = termOf p := by
  rcases nil_or_snoc L.es with h0 | ⟨r, e, h0⟩
  · have hp : p = 0 := by have := h.len; rw [h0] at this; simpa using this.symm
    have : L.last = (L.i, L.t) := by simp [LogC.last, h0]
    rw [this, h.i, h.t, hp]; exact ⟨rfl, rfl⟩
  · have hl := h.len
    rw [h0] at hl
    simp at hl
    have hge : L.es[r.length]? = some e := by rw [h0]; simp
    obtain ⟨h1, h2⟩ := h.get hge
    obtain ⟨e1, e2, _⟩ := hE.2 _ _ h2
    have e1 : e.i = (r.length : Int) + 1 := e1
    have e2 : e.t = 3 := e2
    have : L.last = (e.i, e.t) := by simp [LogC.last, h0]
    rw [this, e1, e2]
    refine ⟨by dsimp only; omega, ?_⟩
    unfold termOf
    rw [if_neg (by omega)]
theorem Holds.termAt {L : LogC} {E : List Ent} {p x : Nat} (h : Holds L E p) (hE : Lead E) : L.termAt (x : Int) = if x ≤ p then some (termOf x) else none := by
  unfold LogC.termAt
  rw [h.i, h.t, if_neg (by omega)]
  by_cases hx : x = 0
  · subst hx; simp [termOf]
  · rw [if_neg (by omega)]
    have : ((x : Int) - 0 - 1).toNat = x - 1 := by omega
    rw [this]
    by_cases hp : x ≤ p
    · rw [if_pos hp]
      have hlt : x - 1 < L.es.length := by rw [h.len]; omega
      have hge : L.es[x - 1]? = some (L.es[x - 1]) := by simp
      obtain ⟨_, h2⟩ := h.get hge
      obtain ⟨_, e2, _⟩ := hE.2 _ _ h2
      have e2 : (L.es[x - 1]).t = 3 := e2
      rw [hge, Option.map_some, e2]
      unfold termOf
      rw [if_neg hx]
    · rw [if_neg hp, List.getElem?_eq_none (by rw [h.len]; omega)]
      rfl
theorem Holds.has {L : LogC} {E : List Ent} {p x : Nat} (h : Holds L E p) (hE : Lead E) : L.has (x : Int) (termOf x) = decide (x ≤ p) := by
  unfold LogC.has
  rw [h.termAt hE]
  by_cases hp : x ≤ p
  · simp [hp]
  · simp [hp]

/-- What a message carries. -/
def carried (E : List Ent) (x n : Nat) : List Ent := (E.drop x).take n
theorem carried_get {E : List Ent} {x n k : Nat} {es : List EntC} {e : EntC} (h : es.map EntC.ab = carried E x n) (he : es[k]? = some e) : k < n ∧ E[x + k]? = some e.ab := by
  have h1 : (es.map EntC.ab)[k]? = some e.ab := by simp [he]
  rw [h, carried, List.getElem?_take] at h1
  split at h1
  · rw [List.getElem?_drop] at h1
    exact ⟨by assumption, h1⟩
  · cases h1
theorem carried_len {E : List Ent} {x n : Nat} {es : List EntC} (h : es.map EntC.ab = carried E x n) : es.length = min n (E.length - x) := by
  have := congrArg List.length h
  simpa [carried] using this

theorem unhad {L : LogC} {E : List Ent} {p x n k : Nat} {es : List EntC} {e : EntC} (h : Holds L E p) (hE : Lead E) (hs : es.map EntC.ab = carried E x n) (he : es[k]? = some e) : (!L.has e.i e.t) = decide (p < x + k + 1) := by
  obtain ⟨_, h2⟩ := carried_get hs he
  obtain ⟨e1, e2, _⟩ := hE.2 _ _ h2
  have e1 : e.i = ((x + k + 1 : Nat) : Int) := by rw [show e.i = e.ab.i from rfl, e1]; omega
  have e2 : e.t = termOf (x + k + 1) := e2
  rw [e1, e2, h.has hE]
  by_cases hp : x + k + 1 ≤ p
  · simp [hp]
  · simp [hp]; omega
theorem lacks_eq {L : LogC} {E : List Ent} {p x n : Nat} {es : List EntC} (h : Holds L E p) (hE : Lead E) (hs : es.map EntC.ab = carried E x n) (hx : x ≤ p) :
    (es.length ≤ p - x ∧ lacks L es = -1) ∨ (p - x < es.length ∧ lacks L es = ((p - x : Nat) : Int)) := by
  rcases Nat.lt_or_ge (p - x) es.length with h1 | h1
  · right
    refine ⟨h1, ?_⟩
    have hge : es[p - x]? = some es[p - x] := by simp
    refine firstAt_some hge (by rw [unhad h hE hs hge]; simp; omega) (fun j e' hj hje => ?_)
    rw [unhad h hE hs hje]; simp; omega
  · left
    refine ⟨h1, firstAt_none (fun j e' hje => ?_)⟩
    have := (List.getElem?_eq_some_iff.1 hje).1
    rw [unhad h hE hs hje]; simp; omega
theorem follows {L : LogC} {E : List Ent} {p x n : Nat} {es : List EntC} (h : Holds L E p) (hE : Lead E) (hs : es.map EntC.ab = carried E x n) (hd : ∀ e ∈ es, e.dn = e.d.length) (hx : x ≤ p) : Follow L (es.drop (p - x)) := by
  obtain ⟨l1, l2⟩ := h.last hE
  have key : ∀ (j : Nat) (e : EntC), (es.drop (p - x))[j]? = some e → E[p + j]? = some e.ab := fun j e he => by
    rw [List.getElem?_drop] at he
    obtain ⟨_, h2⟩ := carried_get hs he
    rw [show x + (p - x + j) = p + j by omega] at h2
    exact h2
  refine ⟨fun e he => ?_, fun j e he => ?_, fun j e he => ?_⟩
  · obtain ⟨j, hj⟩ := List.mem_iff_getElem?.1 he
    have h2 := key j e hj
    obtain ⟨e1, e2, e3, e4⟩ := hE.2 _ _ h2
    have e1 : e.i = ((p + j : Nat) : Int) + 1 := e1
    have e2 : e.t = 3 := e2
    have e3 : e.k = 1 := e3
    have e4 : e.d.length ≤ 2048 := e4
    have hlt : p + j < E.length := (List.getElem?_eq_some_iff.1 h2).1
    have h20 := hE.1
    exact ⟨by omega, by omega, by omega, by omega, by omega, by omega, by rw [hd e (List.mem_of_mem_drop he)]; exact e4⟩
  · obtain ⟨e1, _⟩ := hE.2 _ _ (key j e he)
    have e1 : e.i = ((p + j : Nat) : Int) + 1 := e1
    omega
  · obtain ⟨_, e2, _⟩ := hE.2 _ _ (key j e he)
    have e2 : e.t = 3 := e2
    rw [e2, l2]
    cases j with
    | zero => show termOf p ≤ 3; unfold termOf; split <;> omega
    | succ j =>
      show (match (es.drop (p - x))[j]? with | some e => e.t | none => 0) ≤ 3
      cases hq : (es.drop (p - x))[j]? with
      | none => simp
      | some e' =>
        obtain ⟨_, e2', _⟩ := hE.2 _ _ (key j e' hq)
        have e2' : e'.t = 3 := e2'
        simp [e2']
theorem holds_more {L : LogC} {E : List Ent} {p x n : Nat} {es ns : List EntC} {ev : Value} (h : Holds L E p) (hs : es.map EntC.ab = carried E x n) (hx : x ≤ p) (hp : p - x < es.length) (hns : ns.map EntC.ab = (es.drop (p - x)).map EntC.ab) :
    Holds { L with ev := ev, es := L.es ++ ns } E (x + es.length) := by
  have hl := carried_len hs
  refine ⟨h.i, h.t, ?_, by omega⟩
  rw [List.map_append, h.es, hns, List.map_drop, hs, carried, List.drop_take, List.drop_drop, show x + (p - x) = p by omega]
  rw [show x + es.length = p + (min n (E.length - x) - (p - x)) by omega]
  rw [List.take_add]
  congr 1
  rcases Nat.le_total n (E.length - x) with h1 | h1
  · rw [Nat.min_eq_left h1]
  · rw [Nat.min_eq_right h1, List.take_of_length_le (by simp; omega), List.take_of_length_le (by simp; omega)]
theorem esOk {E : List Ent} {x n : Nat} {m : MsgC} (hE : Lead E) (hs : m.es.es.map EntC.ab = carried E x n) (hn : m.es.n = m.es.es.length) (hd : ∀ e ∈ m.es.es, e.dn = e.d.length) (h8 : n ≤ 8) (hi : m.index = (x : Int)) (ht : m.term = 3) (hlt : m.logTerm ≤ 3) : EsOk m := by
  have hl := carried_len hs
  refine ⟨hn, by omega, fun j e he => ?_⟩
  obtain ⟨_, h2⟩ := carried_get hs he
  obtain ⟨e1, e2, e3, e4⟩ := hE.2 _ _ h2
  have e1 : e.i = ((x + j : Nat) : Int) + 1 := e1
  have e2 : e.t = 3 := e2
  have e3 : e.k = 1 := e3
  have e4 : e.d.length ≤ 2048 := e4
  have hlt2 : x + j < E.length := (List.getElem?_eq_some_iff.1 h2).1
  have h20 := hE.1
  have htp : tprev m.logTerm m.es.es j ≤ 3 := by
    cases j with
    | zero => exact hlt
    | succ j =>
      show (match m.es.es[j]? with | some e => e.t | none => 0) ≤ 3
      cases hq : m.es.es[j]? with
      | none => simp
      | some e' =>
        obtain ⟨_, h3⟩ := carried_get hs hq
        obtain ⟨_, e2', _⟩ := hE.2 _ _ h3
        have e2' : e'.t = 3 := e2'
        simp [e2']
  exact ⟨by omega, by omega, by omega, by omega, by omega, by omega, by rw [hd e (List.mem_of_getElem? he)]; exact e4⟩
end Go.Proofs.YtjbnmamgfpnccaaGreat
