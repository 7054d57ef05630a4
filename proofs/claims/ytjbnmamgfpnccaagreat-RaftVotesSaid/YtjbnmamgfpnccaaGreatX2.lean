/- The plain law of votes: in a term one is told yes. -/
import Derived.Test.YtjbnmamgfpnccaaGreatW8
namespace Go.Proofs.YtjbnmamgfpnccaaGreat
open Go Go.RowKit

/-- The member of the statement. -/
def voter (lb : Nat) (a : Option Addr) (cc : Nat) (T V : Int) : CoreC := { newCore 1 0 0 lb 0 a cc with term := T, vote := V }
def askOf (f t i l : Int) : MsgC := ⟨3, f, 1, t, i, l, 0, false, .nil, 0, .nil, false, .nil, .nil⟩
/-- What has been told agrees with what the member knows. -/
structure VInv (T V : Int) (Y : List Int) : Prop where
  len : Y.length = 10
  t0 : 0 ≤ T
  t8 : T ≤ 8
  new : ∀ t : Nat, T < (t : Int) → t < 10 → Y[t]? = some 0
  old : ∃ y, Y[T.toNat]? = some y ∧ (y = 0 ∨ y = V)
theorem VInv.start : VInv 0 0 (List.replicate 10 0) := ⟨rfl, by omega, by omega, by intro t _ h; rw [List.getElem?_replicate, if_pos h], ⟨0, rfl, .inl rfl⟩⟩

theorem voter_come (lb : Nat) (a : Option Addr) (cc : Nat) (T V t : Int) : (voter lb a cc T V).come t = if T < t then voter lb a cc t 0 else voter lb a cc T V := rfl
theorem voter_voted (lb : Nat) (a : Option Addr) (cc : Nat) (T V : Int) (L : LogC) (m : MsgC) : (voter lb a cc T V).voted L m = voter lb a cc T (if granted (voter lb a cc T V) L m then m.frm else V) := by
  unfold CoreC.voted
  split <;> rfl

/-- One ask: what is told, and what holds then. -/
theorem votes_round (lb : Nat) (a : Option Addr) (cc : Nat) (T V : Int) (Y : List Int) (L : LogC) (f t i l : Int) (h : VInv T V Y) (ht : 1 ≤ t) (ht8 : t ≤ 8) (hge : T ≤ t) (oa : Option Addr) (on oc : Nat) :
    ∃ (V1 : Int) (ok : Bool), ((((voter lb a cc T V).come t).voted L (askOf f t i l)).withOut oa on oc [(sayMsg f (granted ((voter lb a cc T V).come t) L (askOf f t i l))).sent (((voter lb a cc T V).come t).voted L (askOf f t i l))]) =
        (voter lb a cc t V1).withOut oa on oc [⟨4, 1, f, t, 0, 0, 0, ok, .nil, 0, .nil, false, .nil, .nil⟩] ∧
      (ok = false ∧ VInv t V1 Y ∨ ok = true ∧ (Y[t.toNat]? = some 0 ∨ Y[t.toNat]? = some f) ∧ VInv t V1 (Y.set t.toNat f)) := by
  obtain ⟨V0, hc, hV0⟩ : ∃ V0, (voter lb a cc T V).come t = voter lb a cc t V0 ∧ VInv t V0 Y := by
    rw [voter_come]
    by_cases hlt : T < t
    · rw [if_pos hlt]
      exact ⟨0, rfl, h.len, by omega, ht8, fun k hk hk9 => h.new k (by omega) hk9, ⟨0, h.new _ (by omega) (by omega), .inl rfl⟩⟩
    · rw [if_neg hlt]
      obtain rfl : T = t := by omega
      exact ⟨V, rfl, h⟩
  rw [hc, voter_voted]
  refine ⟨_, granted (voter lb a cc t V0) L (askOf f t i l), rfl, ?_⟩
  cases hg : granted (voter lb a cc t V0) L (askOf f t i l) with
  | false => exact .inl ⟨rfl, hV0⟩
  | true =>
    refine .inr ⟨rfl, ?_, ?_⟩
    · obtain ⟨y, hy, hyv⟩ := hV0.old
      unfold granted at hg
      simp only [Bool.and_eq_true, Bool.or_eq_true, beq_iff_eq] at hg
      rcases hg.1 with h0 | h0
      · have h0 : V0 = 0 := h0
        rw [hy]; rcases hyv with rfl | rfl
        · exact .inl rfl
        · exact .inl (by rw [h0])
      · have h0 : V0 = f := h0
        rw [hy]; rcases hyv with rfl | rfl
        · exact .inl rfl
        · exact .inr (by rw [h0])
    · refine ⟨by simp [hV0.len], hV0.t0, ht8, fun k hk hk9 => ?_, ⟨f, ?_, .inr rfl⟩⟩
      · rw [List.getElem?_set_ne (by omega)]
        exact hV0.new k hk hk9
      · rw [List.getElem?_set_self (by rw [hV0.len]; omega)]
end Go.Proofs.YtjbnmamgfpnccaaGreat
