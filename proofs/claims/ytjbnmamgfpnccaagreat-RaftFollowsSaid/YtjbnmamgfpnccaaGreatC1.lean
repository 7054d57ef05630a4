/- Configurations: who votes, how many are enough. -/
import Derived.Test.YtjbnmamgfpnccaaGreatR
namespace Go.Proofs.YtjbnmamgfpnccaaGreat
open Go Go.RowKit

theorem ret_bool {a b : Bool} (h : a = b) : Ending.returned (.bool a) = .returned (.bool b) := by rw [h]
theorem ret_int {k : IntKind} {a b : Int} (h : a = b) : Ending.returned (.int k a) = .returned (.int k b) := by rw [h]
theorem contains_any (Q : Nat → Prop) (a : Option Addr) (n c : Nat) (xs : List Int) (x : Int) (w : World) (h : RInts w Q a n c xs) (hsm : n ≤ 9223372036854775807) :
    Calls Tryz.prog 82 #[.slice a n c, .int .i64 x] w fun e w' => e = .returned (.bool (hasI xs x)) ∧ w = w' := by
  rcases h.cells with ⟨rfl, rfl⟩ | ⟨b, off, rfl, hb, _, hn, hc⟩
  · exact (Tryz.slices_Contains_int_empty a c x w).mono fun e w' h => ⟨h.1, h.2.symm⟩
  · refine (Tryz.slices_Contains_int b off n c xs x w (by omega) hsm hc).mono fun e w' h => ⟨?_, h.2.symm⟩
    rw [h.1, List.take_of_length_le (by omega)]; rfl

theorem voter_any (Q : Nat → Prop) (va la : Option Addr) (vn vc ln lc : Nat) (vs : List Int) (x : Int) (w : World) (h : RInts w Q va vn vc vs) (hsm : vn ≤ 9223372036854775807) :
    Calls Tryz.prog 48 #[.agg #[.slice va vn vc, .slice la ln lc], .int .i64 x] w fun e w' => e = .returned (.bool (hasI vs x)) ∧ Below w.heap.size w w' := by
  have H := Lib.hid (h.below (w' := w.alloc (.cells #[.slice va vn vc, .slice la ln lc] 26)) ((Below.refl _ w).alloc (Nat.le_refl _) _))
  clear h
  go_enter Tryz.func48, Tryz.ntmps48
  go_wp2_with (go_at_call 82; refine (contains_any Q _ _ _ vs _ _ H.out hsm).mono ?_; rintro e w1 ⟨rfl, rfl⟩)
  go_ret
  exact ⟨rfl, ((Below.refl _ w).alloc (Nat.le_refl _) _)⟩


theorem filter_take (p : Int → Bool) (vs : List Int) (k : Nat) (h : k < vs.length) : (vs.take (k + 1)).filter p = (vs.take k).filter p ++ (if p vs[k] then [vs[k]] else []) := by
  rw [List.take_succ_eq_append_getElem h, List.filter_append]
  by_cases hx : p vs[k] = true <;> simp [hx]
theorem filter_take_le (p : Int → Bool) (vs : List Int) (k : Nat) : ((vs.take k).filter p).length ≤ k := Nat.le_trans (List.length_filter_le _ _) (List.length_take_le _ _)

set_option maxHeartbeats 400000 in
theorem quorum_any (Q : Nat → Prop) (va la wa : Option Addr) (vn vc ln lc wn wc : Nat) (vs ws : List Int) (w : World) (h : RInts w Q va vn vc vs) (hw : RInts w Q wa wn wc ws) (hsm : vn ≤ 1000000) (hsw : wn ≤ 9223372036854775807) :
    Calls Tryz.prog 119 #[.agg #[.slice va vn vc, .slice la ln lc], .slice wa wn wc] w fun e w' => e = .returned (.bool (quorum vs ws)) ∧ Below w.heap.size w w' := by
  have HB : Below w.heap.size w (w.alloc (.cells #[.slice va vn vc, .slice la ln lc] 26)) := ((Below.refl _ w).alloc (Nat.le_refl _) _)
  have Hw := Lib.hid (hw.below HB)
  obtain rfl := h.1
  clear hw
  go_enter Tryz.func119, Tryz.ntmps119
  go_wp2
  go_loop [5, 7, 11] (fun n v i => ∃ k : Nat, k ≤ vs.length ∧ i = .int .i64 k ∧ n = .int .i64 (((vs.take k).filter fun v => hasI ws v).length : Int)) (fun _ _ i => vs.length - (intOf i).toNat)
  case atStart => exact ⟨0, Nat.zero_le _, rfl, by simp⟩
  case round =>
    obtain ⟨k, hk, rfl, rfl⟩ := hrel
    have hle := filter_take_le (fun v => hasI ws v) vs k
    by_cases hlt : k < vs.length
    · rcases h.cells with ⟨h0, rfl⟩ | ⟨b, off, rfl, hb, _, _, hc⟩
      · simp at hlt
      have hck := hc k hlt
      have hgd : vs.getD k 0 = vs[k] := by simp [hlt]
      rw [hgd] at hck
      have hstep := Lib.hid (filter_take (fun v => hasI ws v) vs k hlt)
      clear hc hgd
      have hcall := Lib.hid (contains_any Q _ _ _ ws vs[k] _ Hw.out hsw)
      generalize hL : ((vs.take k).filter fun v => hasI ws v) = F at *
      clear hL
      cases hx : hasI ws vs[k] with
      | true =>
        have hx' := Lib.hid hx
        rw [hx] at hcall
        clear hx h
        go_wp2_with (go_at_call 82; refine hcall.out.mono ?_; rintro e w1 ⟨rfl, rfl⟩)
        go_round
        case rel => exact ⟨k + 1, by omega, by go_num, by rw [hstep.out, hx'.out]; simp⟩
        case measure => simp [intOf]; omega
      | false =>
        have hx' := Lib.hid hx
        rw [hx] at hcall
        clear hx h
        go_wp2_with (go_at_call 82; refine hcall.out.mono ?_; rintro e w1 ⟨rfl, rfl⟩)
        go_round
        case rel => exact ⟨k + 1, by omega, by go_num, by rw [hstep.out, hx'.out]; simp⟩
        case measure => simp [intOf]; omega
    · have hfull : vs.take k = vs := List.take_of_length_le (by omega)
      rw [hfull] at hle ⊢
      have hq : quorum vs ws = decide (vs.length / 2 < ((vs.filter fun v => hasI ws v).length)) := rfl
      have hq' := Lib.hid hq
      clear hq hfull h
      generalize ((vs.filter fun v => hasI ws v)).length = m at *
      go_wp2
      go_ret
      refine ⟨?_, HB⟩
      rw [hq'.out]
      exact ret_bool (decide_eq_decide.2 (by omega))
end Go.Proofs.YtjbnmamgfpnccaaGreat
