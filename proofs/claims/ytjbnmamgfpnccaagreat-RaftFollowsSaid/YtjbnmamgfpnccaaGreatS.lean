/- Sorting, striking twins, deleting: over a row of the call's own. All but one of a configuration. -/
import Derived.Test.YtjbnmamgfpnccaaGreatC1
import Derived.Lib.SliceRun
namespace Go.Proofs.YtjbnmamgfpnccaaGreat
open Go Go.RowKit

abbrev HoldsI (w : World) (blk : Nat) (xs : List Int) : Prop := Sort.Holds (Value.int .i64) w blk 0 xs.toArray

theorem chg_putRow (w : World) (n blk : Nat) (d : Array Int) (os : Array Obj) : Chg [blk] w (Sort.grow (Sort.putRow (Value.int .i64) (Sort.ahead w n) blk 0 d) os) := by
  refine ⟨rfl, rfl, rfl, by simp [Sort.ahead], fun k hk hn => ?_⟩
  rw [Sort.heap_grow_old _ _ (by simpa [Sort.ahead] using hk)]
  show ((Sort.ahead w n).heap.modify blk _)[k]? = _
  rw [Array.getElem?_modify, if_neg (by simpa [eq_comm] using hn)]; rfl
theorem chg_putRow' (w : World) (n blk : Nat) (d : Array Int) : Chg [blk] w (Sort.putRow (Value.int .i64) (Sort.ahead w n) blk 0 d) := by
  have h := chg_putRow w n blk d #[]
  rwa [Sort.grow_empty] at h
theorem holds_after {w : World} {n blk : Nat} {xs ys : List Int} {os : Array Obj} (h : HoldsI w blk xs) (hb : blk < w.heap.size) (hl : ys.length = xs.length) :
    HoldsI (Sort.grow (Sort.putRow (Value.int .i64) (Sort.ahead w n) blk 0 ys.toArray) os) blk ys :=
  Sort.holds_grow _ _ _ _ _ _ (by simpa [Sort.ahead] using hb) (Sort.holds_putRow _ _ _ _ xs.toArray _ h (by simpa using hl))
theorem holds_after' {w : World} {n blk : Nat} {xs ys : List Int} (h : HoldsI w blk xs) (hl : ys.length = xs.length) :
    HoldsI (Sort.putRow (Value.int .i64) (Sort.ahead w n) blk 0 ys.toArray) blk ys :=
  Sort.holds_putRow _ _ _ _ xs.toArray _ h (by simpa using hl)
theorem holds_take {w : World} {blk : Nat} {xs ys : List Int} (h : HoldsI w blk (xs ++ ys)) : HoldsI w blk xs := fun j hj => by
  have := h j (by simp at hj ⊢; omega)
  simp at hj this ⊢
  rwa [List.getElem?_append_left hj] at this
theorem holds_own {w : World} {base n c g : Nat} {xs : List Int} (h : w.ownsRow base 3 1 (.slice (some ⟨g, 0, none⟩) n c) n (xs.map (Value.int .i64))) : HoldsI w g xs := fun j hj => by
  have hj' : j < xs.length := by simpa using hj
  have hn : xs.length = n := by have := h.1; simpa using this
  refine ⟨?_, ?_⟩
  · rw [Nat.zero_add, h.cellAt j (by omega)]; simp [hj']
  · rw [Nat.zero_add]; exact h.frozenAt j
theorem ints_holds {w : World} {blk c : Nat} {xs : List Int} {Q : Nat → Prop} (h : HoldsI w blk xs) (hb : blk < w.heap.size) (hQ : Q blk) (hc : xs.length ≤ c) (hm : c ≤ maxLen) : RInts w Q (some ⟨blk, 0, none⟩) xs.length c xs :=
  ⟨rfl, hc, hm, by simp, by simp, .inr ⟨blk, 0, rfl, hb, hQ, fun j u hu => by
    have hj : j < xs.length := by simpa using (List.getElem?_eq_some_iff.1 hu).1
    rw [(h j (by simpa using hj)).1]
    rw [← hu]; simp [hj]⟩⟩
theorem holds_chg {w w' : World} {blk : Nat} {xs : List Int} {M : List Nat} (h : HoldsI w blk xs) (hc : Chg M w w') (hb : blk < w.heap.size) (hn : blk ∉ M) : HoldsI w' blk xs := fun j hj =>
  ⟨(hc.cell (p := ⟨blk, 0 + j, none⟩) hb hn).trans (h j hj).1, (World.frozen?_of_block (a := ⟨blk, 0 + j, none⟩) (hc.block blk hb hn)).trans (h j hj).2⟩

def sorted (xs : List Int) : List Int := xs.mergeSort fun x y => decide (x ≤ y)
theorem sorted_length (xs : List Int) : (sorted xs).length = xs.length := List.length_mergeSort _

theorem sortI (blk n c : Nat) (xs : List Int) (w : World) (hn : xs.length = n) (h : HoldsI w blk xs) (hb : blk < w.heap.size) (hs : xs.length < 4611686018427387904) :
    Calls Tryz.prog 114 #[.slice (some ⟨blk, 0, none⟩) n c] w fun e w' => e = .returned (.tuple #[]) ∧ HoldsI w' blk (sorted xs) ∧ Chg [blk] w w' := by
  subst hn
  refine (Tryz.slices_Sort_int blk 0 c xs w h hb hs).mono ?_
  rintro e w' ⟨rfl, n, os, rfl⟩
  exact ⟨rfl, holds_after h hb (sorted_length xs), chg_putRow _ _ _ _ _⟩
theorem sort64 (blk n c : Nat) (xs : List Int) (w : World) (hn : xs.length = n) (h : HoldsI w blk xs) (hb : blk < w.heap.size) (hs : xs.length < 4611686018427387904) :
    Calls Tryz.prog 120 #[.slice (some ⟨blk, 0, none⟩) n c] w fun e w' => e = .returned (.tuple #[]) ∧ HoldsI w' blk (sorted xs) ∧ Chg [blk] w w' := by
  subst hn
  have hcon := AnyM.slices_Sort_int Tryz.laySort64 blk 0 c xs w h hb hs
  refine Calls.mono hcon ?_
  rintro e w' ⟨rfl, n, os, rfl⟩
  exact ⟨rfl, holds_after h hb (sorted_length xs), chg_putRow _ _ _ _ _⟩
theorem compactI (blk n c : Nat) (xs : List Int) (w : World) (hn : xs.length = n) (h : HoldsI w blk xs) (hs : xs.length ≤ 9223372036854775807) (hc : xs.length ≤ c) :
    Calls Tryz.prog 116 #[.slice (some ⟨blk, 0, none⟩) n c] w fun e w' => e = .returned (.slice (some ⟨blk, 0, none⟩) (Lib.compact xs).length c) ∧ HoldsI w' blk (Lib.compact xs) ∧ Chg [blk] w w' := by
  subst hn
  refine (Tryz.slices_Compact_int blk 0 c xs w h hs hc).mono ?_
  rintro e w' ⟨rfl, q, rfl⟩
  have hl := Lib.compact_length_le xs
  exact ⟨rfl, holds_take (holds_after' h (by simp; omega)), chg_putRow' _ _ _ _⟩

/-- 'func(m int) bool { return m == n }', as conf.Others and conf.drop have it. -/
theorem isN (m n : Int) (B : Nat) (W : World) (hc : W.cell? ⟨B, 0, none⟩ = some (.int .i64 n)) : FnGives Tryz.prog 117 #[.pointer (some ⟨B, 0, none⟩)] #[.int .i64 m] (.bool (m == n)) W := by
  show Calls Tryz.prog 117 #[.int .i64 m, .pointer (some ⟨B, 0, none⟩)] W _
  go_enter Tryz.func117, Tryz.ntmps117
  go_wp2
  go_ret
  exact ⟨rfl, 0, rfl⟩
theorem isN' (m n : Int) (B : Nat) (W : World) (hc : W.cell? ⟨B, 0, none⟩ = some (.int .i64 n)) : FnGives Tryz.prog 124 #[.pointer (some ⟨B, 0, none⟩)] #[.int .i64 m] (.bool (m == n)) W := by
  show Calls Tryz.prog 124 #[.int .i64 m, .pointer (some ⟨B, 0, none⟩)] W _
  go_enter Tryz.func124, Tryz.ntmps124
  go_wp2
  go_ret
  exact ⟨rfl, 0, rfl⟩
theorem Tryz.zero3 : ∀ w : World, (zeroValue 3).run Tryz.prog w = .ok (.int .i64 0) w := fun w => by kernel_rfl

theorem deleteI (g : Nat) (hg : g = 117 ∨ g = 124) (n : Int) (B blk len c : Nat) (xs : List Int) (w : World) (hn : xs.length = len) (hB : B < w.heap.size) (hne : B ≠ blk) (hcell : w.cell? ⟨B, 0, none⟩ = some (.int .i64 n))
    (h : HoldsI w blk xs) (hs : xs.length ≤ 9223372036854775807) (hc : xs.length ≤ c) :
    Calls Tryz.prog 115 #[.slice (some ⟨blk, 0, none⟩) len c, .func (.func g) #[] #[.pointer (some ⟨B, 0, none⟩)]] w fun e w' =>
      e = .returned (.slice (some ⟨blk, 0, none⟩) (xs.filter fun m => !(m == n)).length c) ∧ HoldsI w' blk (xs.filter fun m => !(m == n)) ∧ Chg [blk] w w' := by
  subst hn
  have eg : ∀ args w, (callFunc g args).run Tryz.prog w = .ok (.enter g args) w := by
    rcases hg with rfl | rfl
    · exact enters_of Tryz.func117 (by kernel_rfl) rfl
    · exact enters_of Tryz.func124 (by kernel_rfl) rfl
  have gv : ∀ (m : Int) (W : World), W.cell? ⟨B, 0, none⟩ = some (.int .i64 n) → FnGives Tryz.prog g #[.pointer (some ⟨B, 0, none⟩)] #[.int .i64 m] (.bool (m == n)) W := by
    rcases hg with rfl | rfl
    · exact fun m W hc => isN m n B W hc
    · exact fun m W hc => isN' m n B W hc
  have hp : PredAt Tryz.prog g #[.pointer (some ⟨B, 0, none⟩)] (Value.int .i64) (fun m => m == n) w := fun W m hb => gv m W ((hb.cell (p := ⟨B, 0, none⟩) hB).trans hcell)
  have hpo : PredOver Tryz.prog g #[.pointer (some ⟨B, 0, none⟩)] (Value.int .i64) (fun m => m == n) blk 0 xs.toArray.size w := fun k os dk m _ => gv m _ (by
    unfold sortWorld
    rw [Sort.cell?_grow _ _ _ (by rw [Sort.size_putRow]; exact hB), Sort.cell?_putRow_other _ _ blk 0 _ _ (Or.inl hne)]
    exact hcell)
  have hcon := AnyE.slices_DeleteFunc Tryz.layDF (Value.int .i64) (fun _ => rfl) (fun m => m == n) g #[.pointer (some ⟨B, 0, none⟩)] eg 0 Tryz.zero3 blk 0 c xs.toArray w hp hpo h (by simpa using hs) (by simpa using hc)
  refine Calls.mono hcon ?_
  rintro e w' ⟨rfl, q, rfl⟩
  have hl := List.length_filter_le (fun m => !(m == n)) xs
  exact ⟨by simp, holds_take (holds_after' h (by simp at hl ⊢; omega)), chg_putRow' _ _ _ _⟩

/-- All but one, in rising order, each once. -/
def others (vs ls : List Int) (n : Int) : List Int := (Lib.compact (sorted (vs ++ ls))).filter fun m => !(m == n)

theorem Tryz.info3 : (Tryz.prog.info? 3).map (fun i => (i.zero, i.size, i.bytes)) = some (some (.int .i64 0), 1, 8) := by kernel_rfl
theorem Tryz.und24 : Tryz.prog.underlying 24 = some (.slice 3) := by kernel_rfl

set_option maxRecDepth 100000 in
set_option maxHeartbeats 800000 in
theorem others_any (Q : Nat → Prop) (va la : Option Addr) (vn vc ln lc : Nat) (vs ls : List Int) (n : Int) (w : World) (hv : RInts w Q va vn vc vs) (hl : RInts w Q la ln lc ls) (h0 : 0 < vn) (h1 : vn ≤ 1000) (h2 : ln ≤ 1000) :
    Calls Tryz.prog 80 #[.agg #[.slice va vn vc, .slice la ln lc], .int .i64 n] w fun e w' => ∃ a c, e = .returned (.slice a (others vs ls n).length c) ∧ RInts w' (fun b => w.heap.size ≤ b) a (others vs ls n).length c (others vs ls n) ∧ Below w.heap.size w w' := by
  obtain ⟨i0, hi, hz0, hz1, hz2⟩ := info_parts Tryz.info3
  have hB : Below w.heap.size w (((w.alloc (.cells #[.slice va vn vc, .slice la ln lc] 26)).alloc (.cells #[.int .i64 n] 3)).drew) := ((((Below.refl _ w).alloc (Nat.le_refl _) _).alloc (by simp) _).drew)
  obtain rfl := hv.1
  obtain rfl := hl.1
  have Hv := Lib.hid (hv.below hB)
  have Hl := Lib.hid (hl.below hB)
  have c3 : Hid (∀ u ∈ ls.map (Value.int .i64), u.oneCell' = true) := Lib.hid (by simp [Value.oneCell'])
  clear hv hl
  go_enter Tryz.func80, Tryz.ntmps80
  go_wp2_with fail
  go_region_held3 (fun w' => (∀ i, w'.cell? ⟨w.heap.size, i, none⟩ = #[Value.slice va vs.length vc, .slice la ls.length lc][i]?))
    (first | (intro i; simp; done) | (exact keepCells hb1 (by simp only [size_drew, size_alloc]; omega) (by intro i; simp)) | (exact fun i => (hgrow.cell_far ⟨w.heap.size, i, none⟩ (by show w.heap.size < _; omega) hnv.out).trans (keepCells hb1 (b := w.heap.size) (by simp only [size_drew, size_alloc]; omega) (cs := #[Value.slice va vs.length vc, .slice la ls.length lc]) (by intro i; simp) i)))
    ((first | (go_at_call_has 66 vc; refine (cloneInts Q _ _ _ _ _ Hv.out (by omega)).mono ?_; rintro e w1 ⟨va', vc', rfl, hr1, ho1, hb1⟩; have hs1 := hb1.size; simp only [size_drew, size_alloc] at hs1; have hnv := Lib.hid (own_ne (k := w.heap.size) ho1 (by simp only [size_drew, size_alloc]; omega)))
            | (refine step_append_sl _ (by rfl) (.tmp 8) (.tmp 10) 24 (by rfl) _ 3 i0 (.int .i64 0) 1 8 Tryz.und24 hi hz0 hz1 hz2 rfl (by omega) _ _ _ (by rfl) ho1 Q la ls.length lc (ls.map (Value.int .i64)) (by rfl) ((Hl.out.below hb1).2) c3.out (by unfold maxLen; omega) (by omega) hb1.size _ rfl ?_; intro a2 c2 w2 hown2 hgrow hat)))
  obtain ⟨g, cc, hv2, hgb, hglt⟩ := hown2.form (by omega)
  have hcap := RSl.ofOwns hown2
  obtain ⟨_, _, hq, hcap⟩ := hcap
  cases hq
  cases hv2
  simp only [size_drew, size_alloc] at hgb
  rw [← List.map_append] at hown2
  have hH2 := Lib.hid (holds_own hown2)
  have hcl := hcap.1
  have hcm := hcap.2.1
  have hl2 : Hid ((vs ++ ls).length = vs.length + ls.length) := Lib.hid (by simp)
  have hs2 := hgrow.size
  have hb2 : Below w.heap.size w w2 := (hB.trans (hb1.mono (by simp only [size_drew, size_alloc]; omega))).grown hgrow (by omega) (by intro k hk; have := (ho1.lt k hk).1; simp only [size_drew, size_alloc] at this; omega)
  have hcB : w2.cell? ⟨w.heap.size + 1, 0, none⟩ = some (.int .i64 n) := by
    rw [hgrow.cell_far ⟨w.heap.size + 1, 0, none⟩ (by show w.heap.size + 1 < _; omega) (own_ne (k := w.heap.size + 1) ho1 (by simp only [size_drew, size_alloc]; omega))]
    rw [hb1.cell (p := ⟨w.heap.size + 1, 0, none⟩) (by simp only [size_drew, size_alloc]; omega)]
    simp
  clear hown2 hnv hgrow hat hr1 ho1 hcap
  go_wp2_with fail
  refine (sortI g _ c2 (vs ++ ls) _ hl2.out hH2.out hglt (by rw [hl2.out]; omega)).mono ?_
  rintro e w3 ⟨rfl, hH3, hC3⟩
  have hl3 : Hid ((sorted (vs ++ ls)).length = vs.length + ls.length) := Lib.hid ((sorted_length _).trans hl2.out)
  have hHH := Lib.hid hH3
  have hc3 := (hC3.cell (p := ⟨w.heap.size + 1, 0, none⟩) (by show w.heap.size + 1 < _; omega) (by simp; omega)).trans hcB
  have hg3 := hC3.lt hglt
  have hz3 := hC3.size
  clear hH3 hcB
  go_wp2_with fail
  refine (compactI g _ c2 _ _ hl3.out hHH.out (by rw [hl3.out]; omega) (by rw [hl3.out]; omega)).mono ?_
  rintro e w4 ⟨rfl, hH4, hC4⟩
  have hH5 := Lib.hid hH4
  have hc4 := (hC4.cell (p := ⟨w.heap.size + 1, 0, none⟩) (by show w.heap.size + 1 < _; omega) (by simp; omega)).trans hc3
  have hle : (Lib.compact (sorted (vs ++ ls))).length ≤ vs.length + ls.length := by rw [← hl3.out]; exact Lib.compact_length_le _
  have hg4 := hC4.lt hg3
  have hz4 := hC4.size
  clear hH4 hc3
  have hfin : Hid (others vs ls n = (Lib.compact (sorted (vs ++ ls))).filter fun m => !(m == n)) := Lib.hid rfl
  generalize Lib.compact (sorted (vs ++ ls)) = xs at *
  go_wp2_with fail
  refine (deleteI 117 (.inl rfl) n (w.heap.size + 1) g _ c2 xs _ rfl (by omega) (by omega) hc4 hH5.out (by omega) (by omega)).mono ?_
  rintro e w5 ⟨rfl, hH6, hC5⟩
  have hH7 := Lib.hid hH6
  have hle2 := List.length_filter_le (fun m => !(m == n)) xs
  have hle3 : Hid ((xs.filter fun m => !(m == n)).length ≤ c2) := Lib.hid (by omega)
  have hg5 := hC5.lt hg4
  clear hH6 hle2
  rw [← hfin.out] at hH7 hle3 ⊢
  go_wp2
  go_ret
  refine ⟨some ⟨g, 0, none⟩, c2, rfl, ints_holds hH7.out hg5 (by omega) hle3.out hcm, ?_⟩
  have k1 := (Chg.ofBelow (M := [g]) (w := w) (w' := w2) hb2).trans hC3
  exact ((k1.trans hC4).trans hC5).newBelow (by simp; omega)
end Go.Proofs.YtjbnmamgfpnccaaGreat
