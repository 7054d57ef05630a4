/- RaftFollows: whatever datas, order and commit come in, the law answers true, and all read as they did. No condition. -/
import Derived.Test.YtjbnmamgfpnccaaGreatRows
import Derived.Test.YtjbnmamgfpnccaaGreatV1
import Derived.Test.YtjbnmamgfpnccaaGreatF8
namespace Go.Proofs.YtjbnmamgfpnccaaGreat
open Go.ChangeShapes Go.WideShapes Go.ChangeAt Go.RowKit

theorem Tryz.ownKnob3 : ownKnob Tryz.prog.godebug = none := by kernel_rfl
theorem Tryz.laidOut3 : laidOutB Tryz.prog = true := by kernel_rfl
theorem Tryz.cells5 : Tryz.prog.cellsOf 5 = 1 := by kernel_rfl

section
variable {H : Type} {enc : TypeId × Value → H} {w : World} {base : Nat} {held : Bool}
/-- A slice of numbers that comes in. -/
theorem open_nums {k : IntKind} {t e : TypeId} {fuel : Nat} {a : Option Addr} {len cap : Nat} {x : DataW H × List MemPlace} (ht : Tryz.prog.underlying t = some (.slice e)) (he : Tryz.prog.underlying e = some (.int k)) (hc : Tryz.prog.cellsOf e = 1)
    (h : DataW.trod enc Tryz.prog w base (fun _ => true) held fuel t [.slice a len cap] = some x) : ∃ xs : List Int, len = xs.length ∧ RSl w (fun _ => True) 1 a len cap (xs.map (Value.int k)) := by
  rcases open_ints ht he hc h with ⟨h1, _⟩ | ⟨a', len', cap', zs, hcs, _, hl, hm, hz, _, hcell, _⟩
  · simp only [List.cons.injEq, Value.slice.injEq, and_true] at h1
    obtain ⟨rfl, rfl, rfl⟩ := h1
    exact ⟨[], rfl, RSl.nil _ _ _⟩
  · simp only [List.cons.injEq, Value.slice.injEq, and_true] at hcs
    obtain ⟨rfl, rfl, rfl⟩ := hcs
    have hz : zs.length = cap := hz
    have hlen : (zs.take len).length = len := by rw [List.length_take]; omega
    refine ⟨zs.take len, hlen.symm, hl, hm, by rw [List.length_map, hlen, Nat.mul_one], by simp, ?_⟩
    rcases Nat.eq_zero_or_pos len with h0 | hp
    · exact .inl h0
    · right
      have hc0 := hcell 0 (by omega)
      obtain ⟨ab, ao, asp⟩ := a'
      have hsp : asp = none := by
        have := World.cell?_spot hc0
        simpa [Addr.add] using this
      subst hsp
      refine ⟨ab, ao, rfl, ?_, trivial, ?_⟩
      · have := World.block_lt_of_cell? w _ hc0
        simpa [addr_add] using this
      · intro j u hu
        rw [List.getElem?_map] at hu
        cases hj : (zs.take len)[j]? with
        | none => simp [hj] at hu
        | some z =>
          simp only [hj, Option.map_some, Option.some.injEq] at hu
          subst hu
          rw [List.getElem?_take] at hj
          split at hj
          · have hlt := (List.getElem?_eq_some_iff.1 hj).1
            have := hcell j hlt
            rw [addr_add] at this
            rw [this, List.getD, hj]; rfl
          · cases hj

/-- A slice of slices of bytes that comes in. -/
theorem open_datas {fuel : Nat} {a : Option Addr} {len cap : Nat} {x : DataW H × List MemPlace} (h : DataW.trod enc Tryz.prog w base (fun _ => true) held fuel 41 [.slice a len cap] = some x) :
    ∃ ds : List SI, len = ds.length ∧ RSl w (fun _ => True) 1 a len cap (ds.map SI.cell) ∧ ∀ s ∈ ds, RBytes w (fun _ => True) s.a s.n s.c s.xs := by
  rcases Deep.open_slice Tryz.underlying41 h with ⟨h1, _⟩ | ⟨a', len', cap', m, n, D, Pl, hcs, _, hl, hm, hmm, _, hall⟩
  · simp only [List.cons.injEq, Value.slice.injEq, and_true] at h1
    obtain ⟨rfl, rfl, rfl⟩ := h1
    exact ⟨[], rfl, RSl.nil _ _ _, by simp⟩
  · simp only [List.cons.injEq, Value.slice.injEq, and_true] at hcs
    obtain ⟨rfl, rfl, rfl⟩ := hcs
    have hmc : m = cap := hmm
    subst hmc
    rw [Tryz.cells31] at hall
    have hone : ∀ i, i < len → ∃ s : SI, w.cell? (a'.add i) = some s.cell ∧ RBytes w (fun _ => True) s.a s.n s.c s.xs := by
      intro i hi
      obtain ⟨cs', hc, ht⟩ := hall i (by omega)
      obtain ⟨sa, sn, sc, rfl⟩ := slice_cell Tryz.underlying31 ht
      obtain ⟨xs, hxn, hxs⟩ := open_nums Tryz.underlying31 Tryz.underlying5 Tryz.cells5 ht
      obtain ⟨_, _, hcell⟩ := World.cells?_some hc
      have := hcell 0 (by omega)
      rw [Deep.add_add, Nat.mul_one, Nat.add_zero] at this
      exact ⟨⟨sa, sn, sc, xs⟩, this, hxn, hxs⟩
    have key : ∀ k, k ≤ len → ∃ ds : List SI, ds.length = k ∧ ∀ i s, ds[i]? = some s → w.cell? (a'.add i) = some s.cell ∧ RBytes w (fun _ => True) s.a s.n s.c s.xs := by
      intro k
      induction k with
      | zero => exact fun _ => ⟨[], rfl, by simp⟩
      | succ k ih =>
        intro hk
        obtain ⟨ds, h1, h2⟩ := ih (by omega)
        obtain ⟨s, hs⟩ := hone k (by omega)
        refine ⟨ds ++ [s], by simp [h1], fun i s' hs' => ?_⟩
        rcases Nat.lt_or_ge i ds.length with hi | hi
        · rw [List.getElem?_append_left hi] at hs'
          exact h2 i s' hs'
        · rw [List.getElem?_append_right hi] at hs'
          have : i = ds.length := by
            have := (List.getElem?_eq_some_iff.1 hs').1
            simp at this; omega
          subst this
          simp at hs'
          subst hs'
          rw [h1]; exact hs
    obtain ⟨ds, hlen, hd⟩ := key len (Nat.le_refl _)
    refine ⟨ds, hlen.symm, ⟨hl, hm, by simp [hlen], by simp, ?_⟩, fun s hs => ?_⟩
    · rcases Nat.eq_zero_or_pos len with h0 | hp
      · exact .inl h0
      · right
        obtain ⟨s0, hs0⟩ : ∃ s, ds[0]? = some s := ⟨ds[0]'(by omega), by simp⟩
        have hc0 := (hd 0 s0 hs0).1
        obtain ⟨ab, ao, asp⟩ := a'
        have hsp : asp = none := by
          have := World.cell?_spot hc0
          simpa [Addr.add] using this
        subst hsp
        refine ⟨ab, ao, rfl, ?_, trivial, ?_⟩
        · have := World.block_lt_of_cell? w _ hc0
          simpa [addr_add] using this
        · intro j u hu
          rw [List.getElem?_map] at hu
          cases hj : ds[j]? with
          | none => simp [hj] at hu
          | some s =>
            simp only [hj, Option.map_some, Option.some.injEq] at hu
            subst hu
            have := (hd j s hj).1
            rw [addr_add] at this
            exact this
    · obtain ⟨j, hj⟩ := List.mem_iff_getElem?.1 hs
      exact (hd j s hj).2
end

set_option maxRecDepth 100000 in
theorem follows_lifted (os : Os) (started : os.Started) (H : Type) (enc : TypeId × Value → H) :
    ReturnsInHanded {} Tryz.checked os 4 .any (Rows.raftFollowsSpec.pre6 enc Tryz.prog Tryz.f4 Rows.raftFollowsRow.domain false) (Rows.raftFollowsSpec.post enc Tryz.prog Tryz.f4 false true false false) := by
  refine returnsInHanded_of_change (C := Tryz.checked) Tryz.ownKnob3 started (by kernel_rfl) Tryz.func4
    (ChangeSpec.witness6 (enc := enc) (C := Tryz.checked) false ⟨#[], #[.slice none 0 0, .slice none 0 0, .int .i64 0], []⟩ 8 (by kernel_rfl) (by kernel_rfl) (by kernel_rfl) (by kernel_rfl)) ?_
  intro W base args ds gs before hval0 hW _ _
  have hval : ∀ (j : Nat) t v, Tryz.f4.params[j]? = some t → args[j]? = some v → Value.okWide Tryz.prog W .any base t v := hval0
  have hW' := hW
  obtain ⟨p, q, hA0, hV, rfl, hfz, hnd⟩ := hW
  have hA : DataW.TrodAll enc Tryz.prog W 0 (fun _ => true) true Tryz.f4.params.toList args.toList ds p := hA0
  have hAk := hA
  rw [Tryz.params4] at hA hval
  obtain ⟨v0, v1, v2, d0, d1, d2, p0, p1, p2, rfl, rfl, rfl, h0, h1, h2⟩ := trodAll_three hA
  obtain ⟨rfl, rfl⟩ := trodVars_none hV
  obtain ⟨a0, len0, cap0, rfl⟩ := okWide_slice Tryz.underlying41 (hval 0 41 v0 rfl rfl)
  obtain ⟨a1, len1, cap1, rfl⟩ := okWide_slice Tryz.underlying24 (hval 1 24 v1 rfl rfl)
  obtain ⟨cm, rfl, rfl, rfl, wn⟩ := open_int Tryz.underlying2 (hval 2 2 v2 rfl rfl) h2
  have h0k := h0
  have h1k := h1
  obtain ⟨fuel0, hf0⟩ := h0
  obtain ⟨fuel1, hf1⟩ := h1
  obtain ⟨dl, hdl, hdr, hdb⟩ := open_datas hf0
  obtain ⟨xs, hxn, hxs⟩ := open_nums Tryz.underlying24 Tryz.underlying3 Tryz.cells3 hf1
  clear hA0 hval0
  have hlt : ∀ x ∈ p0 ++ p1 ++ [], x.block < W.heap.size := fun x hx => by simpa using hW'.lt x (by simpa using hx)
  refine (follows_any W a0 len0 cap0 dl hdl hdr hdb a1 len1 cap1 xs ⟨hxn, hxs⟩ cm).mono fun e W' ⟨he, hb⟩ => ?_
  subst he
  refine ⟨_, rfl, _, _, _, [], p0 ++ (p1 ++ []), [], hW', ?_, ?_, rfl, hb.frame _, fun h => by cases h⟩
  · exact trodAll_mk1 (shut_bool Tryz.underlying4 true)
  · exact trodAll_mk3 (t := 41) (t' := 24) (t'' := 2) (Below.trod Tryz.laidOut3 (by kernel_rfl) (of_decide_eq_true (by kernel_rfl)) h0k hb (fun x hx => hlt x (by simp [hx]))) (Below.trod Tryz.laidOut3 (by kernel_rfl) (of_decide_eq_true (by kernel_rfl)) h1k hb (fun x hx => hlt x (by simp [hx]))) (shut_int Tryz.underlying2 wn)

theorem follows_over : Rows.raftFollowsRow.holds Tryz.pinned (OpenSpec.ofChange Rows.raftFollowsSpec) :=
  OpenClaim.holds_of_wide 4 Tryz.f4 rfl rfl rfl rfl rfl rfl rfl ⟨rfl, rfl, rfl, rfl, rfl⟩ rfl rfl rfl rfl rfl (by kernel_rfl) Tryz.func4 (by kernel_rfl)
    (of_decide_eq_true (by kernel_rfl)) (by unfold Func.isWrapper; first | (rw [if_pos (by decide +kernel)]; kernel_rfl) | (rw [if_neg (by decide +kernel)]; exact ⟨rfl, rfl⟩))
    (fun os started H enc _ => follows_lifted os started H enc)

theorem raftFollows_proved : Rows.RaftFollowsSaid := follows_over
#print axioms raftFollows_proved
end Go.Proofs.YtjbnmamgfpnccaaGreat
