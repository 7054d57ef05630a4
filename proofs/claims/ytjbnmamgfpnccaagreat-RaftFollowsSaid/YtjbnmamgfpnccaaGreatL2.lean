/- Copies: slices.Clone at ints and at bytes; a configuration's copy; a new log. -/
import Derived.Test.YtjbnmamgfpnccaaGreatL1
import Derived.Test.YtjbnmamgfpnccaaGreatShelfP
import Derived.Deep.RegionHeld3
import Derived.Sort.AtCall
import Derived.Deep.AppendSrc
import Derived.Test.YtjbnmamgfpnccaaGreatA
namespace Go.Proofs.YtjbnmamgfpnccaaGreat
open Go Go.RowKit

theorem cloneInts (Q : Nat → Prop) (a : Option Addr) (n c : Nat) (xs : List Int) (w : World) (h : RInts w Q a n c xs) (hsm : n * 8 ≤ 140737488355328) :
    Calls Tryz.prog 66 #[.slice a n c] w fun e w' => ∃ a' c', e = .returned (.slice a' n c') ∧ RInts w' (fun b => w.heap.size ≤ b) a' n c' xs ∧ w'.ownsRow w.heap.size 3 1 (.slice a' n c') n (xs.map (Value.int .i64)) ∧ Below w.heap.size w w' := by
  cases a with
  | none =>
    refine (Tryz.slices_Clone_int_nil n c w).mono ?_
    rintro e w' ⟨rfl, rfl⟩
    have h0 : n = 0 := by have := h.2.1; have := h.2.2.2.2.1 rfl; omega
    obtain rfl : xs = [] := List.eq_nil_of_length_eq_zero (by have := h.1; omega)
    subst h0
    exact ⟨none, 0, rfl, ⟨rfl, RSl.nil _ _ _⟩, World.ownsRow_nil _ _ _ _, Below.refl _ _⟩
  | some p =>
    rcases h.cells with ⟨rfl, rfl⟩ | ⟨b, off, hp, hb, _, hn, hc⟩
    · refine (Tryz.slices_Clone_int_zero p c w).mono ?_
      rintro e w' ⟨v', rfl, ho, _, hbe⟩
      obtain ⟨a', c', rfl, hr⟩ := RSl.ofOwns ho
      exact ⟨a', c', rfl, ⟨rfl, hr⟩, ho, hbe⟩
    · cases hp
      refine (Tryz.slices_Clone_int b off n c xs w (by omega) hsm hc).mono ?_
      rintro e w' ⟨v', rfl, ho, _, hbe⟩
      rw [List.take_of_length_le (by omega)] at ho
      obtain ⟨a', c', rfl, hr⟩ := RSl.ofOwns ho
      exact ⟨a', c', rfl, ⟨hn, hr⟩, ho, hbe⟩

theorem Tryz.info5 : (Tryz.prog.info? 5).map (fun i => (i.zero, i.size, i.bytes)) = some (some (.int .u8 0), 1, 1) := by kernel_rfl
theorem Tryz.und31 : Tryz.prog.underlying 31 = some (.slice 5) := by kernel_rfl

theorem cloneBytes (Q : Nat → Prop) (a : Option Addr) (n c : Nat) (xs : List Int) (w : World) (h : RBytes w Q a n c xs) (hsm : n ≤ 140737488355328) :
    Calls Tryz.prog 40 #[.slice a n c] w fun e w' => ∃ a' c', e = .returned (.slice a' n c') ∧ RBytes w' (fun b => w.heap.size ≤ b) a' n c' xs ∧ Below w.heap.size w w' := by
  obtain ⟨i0, hi, hz0, hz1, hz2⟩ := info_parts Tryz.info5
  cases a with
  | none =>
    have h0 : n = 0 := by have := h.2.1; have := h.2.2.2.2.1 rfl; omega
    obtain rfl : xs = [] := List.eq_nil_of_length_eq_zero (by have := h.1; omega)
    subst h0
    have hnil := fun (wx : World) (a : Option Addr) (n c n' c' : Nat) => Lib.run_eql_slice_nil (P := Tryz.prog) wx 31 5 a n c n' c' Tryz.und31
    go_enter Tryz.func40, Tryz.ntmps40
    go_wp2
    go_ret
    exact ⟨none, 0, rfl, ⟨rfl, RSl.nil _ _ _⟩, Below.refl _ _⟩
  | some p =>
    have hnil := fun (wx : World) (a : Option Addr) (n c n' c' : Nat) => Lib.run_eql_slice_nil (P := Tryz.prog) wx 31 5 a n c n' c' Tryz.und31
    have c0 := Lib.hid (World.ownsRow_lit (base := w.heap.size) (e := 5) (size := 1) w #[] 0 (Nat.le_refl _) (by simp) rfl)
    have h' := h.2.below (w' := w.alloc (.cells #[] 5)) ((Below.refl _ w).alloc (Nat.le_refl _) _)
    have c1 := Lib.hid h'.len
    have c2 := Lib.hid h'.news
    have c3 : Hid (∀ u ∈ xs.map (Value.int .u8), u.oneCell' = true) := Lib.hid (by simp [Value.oneCell'])
    clear h'
    go_enter Tryz.func40, Tryz.ntmps40
    go_wp2_with (at_builtin; refine wpList_append_own _ rfl (.tmp 5) (.tmp 6) 31 rfl w.heap.size 5 i0 (.int .u8 0) 1 1 Tryz.und31 hi hz0 hz1 hz2 rfl (by decide) (.slice (some ⟨w.heap.size, 0, none⟩) 0 0) 0 [] rfl c0.out p n c (xs.map (Value.int .u8)) rfl c1.out c2.out c3.out (by unfold maxLen; omega) (by omega) (by simp) ?_; intro v' w1 hown' hgrow _)
    go_ret
    obtain ⟨a', c', rfl, hr⟩ := RSl.ofOwns hown'
    rw [Nat.zero_add, List.nil_append] at hr
    refine ⟨a', c', by simp, ⟨h.1, hr⟩, ?_⟩
    exact ((Below.refl _ w).alloc (Nat.le_refl _) _).grown hgrow (by simp) (by rintro k hk; simp [Value.ownBlock] at hk; omega)

set_option maxHeartbeats 400000 in
theorem cloneConf (Q : Nat → Prop) (va la : Option Addr) (vn vc ln lc : Nat) (vs ls : List Int) (w : World) (hv : RInts w Q va vn vc vs) (hl : RInts w Q la ln lc ls) (h1 : vn * 8 ≤ 140737488355328) (h2 : ln * 8 ≤ 140737488355328) :
    Calls Tryz.prog 34 #[.agg #[.slice va vn vc, .slice la ln lc]] w fun e w' => ∃ va' vc' la' lc', e = .returned (.agg #[.slice va' vn vc', .slice la' ln lc']) ∧
      RInts w' (fun b => w.heap.size ≤ b) va' vn vc' vs ∧ RInts w' (fun b => w.heap.size ≤ b) la' ln lc' ls ∧ Below w.heap.size w w' := by
  go_enter Tryz.func34, Tryz.ntmps34
  go_wp2_with fail
  have hB : Below w.heap.size w (((w.alloc (.cells #[.slice va vn vc, .slice la ln lc] 26)).alloc (.cells #[.slice none 0 0, .slice none 0 0] 26)).drew) := ((((Below.refl _ w).alloc (Nat.le_refl _) _).alloc (by simp) _).drew)
  have Hv := Lib.hid (hv.below hB)
  have Hl := Lib.hid (hl.below hB)
  clear hv hl
  go_region_held3 (fun w' => (∀ i, w'.cell? ⟨w.heap.size, i, none⟩ = #[Value.slice va vn vc, .slice la ln lc][i]?))
    (first | (intro i; simp; done) | (exact keepCells hb1 (by simp only [size_drew, size_alloc]; omega) (by intro i; simp)) | (exact keepCells hb2 (by omega) (by assumption)) | (exact keepSet (by simp) (keepSet (by simp) (by assumption))))
    ((first | (go_at_call_has 66 vn; refine (cloneInts Q _ _ _ _ _ Hv.out h1).mono ?_; rintro e w1 ⟨va', vc', rfl, hr1, _, hb1⟩; have hz1 := hb1.size; simp only [size_drew, size_alloc] at hz1)
            | (go_at_call_has 66 ln; refine (cloneInts Q _ _ _ _ _ (Hl.out.below hb1) h2).mono ?_; rintro e w2 ⟨la', lc', rfl, hr2, _, hb2⟩; have k2 := keepCells hb2 (by omega) (keepCells hb1 (b := w.heap.size + 1) (by simp only [size_drew, size_alloc]; omega) (cs := #[.slice none 0 0, .slice none 0 0]) (by intro i; simp)); have f2 := keepFree hb2 (by omega) (keepFree hb1 (b := w.heap.size + 1) (by simp only [size_drew, size_alloc]; omega) (by intro i; simp)))))
  go_wp2
  have hC : Chg [w.heap.size + 1] w2 ((w2.setCell ⟨w.heap.size + 1, 0, none⟩ (.slice va' vn vc')).setCell ⟨w.heap.size + 1, 1, none⟩ (.slice la' ln lc')) := ((Chg.refl _ w2).setCell (by simp) _).setCell (by simp) _
  have hz2 := hb2.size
  refine bodyPost_ret (v := .agg #[.slice va' vn vc', .slice la' ln lc']) (by simp [results, Tryz.results34, go_sem, k2]) rfl ⟨va', vc', la', lc', rfl, ?_, ?_, ?_⟩
  · exact ((hr1.below hb2).chg hC (by simp; omega)).mono (by simp; omega)
  · exact (hr2.chg hC (by simp; omega)).mono (by simp; omega)
  · exact (hB.trans ((hb1.mono (by simp only [size_drew, size_alloc]; omega)).trans (hb2.mono (by omega)))).trans ((((Below.refl w.heap.size w2).setCell (by simp) _).setCell (by simp) _))
end Go.Proofs.YtjbnmamgfpnccaaGreat
