/- CutFrom; a log in memory behind a cut and behind an append. -/
import Derived.Test.YtjbnmamgfpnccaaGreatF2
namespace Go.Proofs.YtjbnmamgfpnccaaGreat
open Go Go.RowKit Go.Sort

theorem entCells_take (es : List EntC) (n : Nat) : entCells (es.take n) = (entCells es).take (n * 4) := by
  induction es generalizing n with
  | nil => simp [entCells]
  | cons e es ih =>
    cases n with
    | zero => simp [entCells]
    | succ n =>
      have hl : e.cells.length = 4 := rfl
      show e.cells ++ entCells (es.take n) = (e.cells ++ entCells es).take ((n + 1) * 4)
      rw [ih n, List.take_append, hl, show (n + 1) * 4 - 4 = n * 4 by omega, List.take_of_length_le (l := e.cells) (by rw [hl]; omega)]
theorem entCells_drop (es : List EntC) (n : Nat) : entCells (es.drop n) = (entCells es).drop (n * 4) := by
  induction es generalizing n with
  | nil => simp [entCells]
  | cons e es ih =>
    cases n with
    | zero => simp [entCells]
    | succ n =>
      have hl : e.cells.length = 4 := rfl
      show entCells (es.drop n) = (e.cells ++ entCells es).drop ((n + 1) * 4)
      rw [ih n, List.drop_append, hl, show (n + 1) * 4 - 4 = n * 4 by omega, (List.drop_eq_nil_of_le (by rw [hl]; omega) : e.cells.drop ((n + 1) * 4) = []), List.nil_append]

set_option maxRecDepth 100000 in
set_option maxHeartbeats 2000000 in
theorem cutFrom_any (lb : Nat) (L : LogC) (idx : Int) (w : World) (h : RLog w lb L) (h0 : 0 ≤ L.i) (hi : L.i < idx) (h1 : idx ≤ 1099511627777) :
    Calls Tryz.prog 132 #[.pointer (some ⟨lb, 0, none⟩), .int .i64 idx] w fun e w' => e = .returned (.int .i64 0) ∧
      ∃ ev, RLog w' lb { L with ev := ev, es := L.es.take (idx - L.i - 1).toNat } ∧ Chg [lb] w w' ∧ own ev = own L.ev := by
  have hd : decide (idx ≤ L.i) = false := by simp; omega
  have hw1 : IntKind.i64.wrap (idx - L.i) = idx - L.i := IntWalk.i64_in _ (by omega)
  have hw2 : IntKind.i64.wrap (idx - L.i - 1) = idx - L.i - 1 := IntWalk.i64_in _ (by omega)
  have hc := cellsOf h.blk
  have hf := freeOf h.blk
  have hlt := ltOf h.blk
  have hfew := h.few
  have H := Lib.hid h
  rcases h.own.2 with ⟨hv, hz⟩ | ⟨g, cap, cur, hv, _, hh, hnn, hm, hs, ht⟩
  · have hes : L.es = [] := List.eq_nil_of_length_eq_zero hz
    have hm0 : min (idx - L.i - 1) 0 = 0 := by omega
    have fin : ∀ w', w' = w.drew.setCell ⟨lb, 4, none⟩ (.slice none 0 0) → ∃ ev, RLog w' lb { L with ev := ev, es := L.es.take (idx - L.i - 1).toNat } ∧ Chg [lb] w w' ∧ own ev = own L.ev := by
      rintro w' rfl
      refine ⟨.slice none 0 0, ⟨?_, ?_, by simp [Value.ownBlock], by simp [hes]⟩, ((Chg.refl [lb] w).drew).setCell (by simp) _, by rw [hv]⟩
      · rw [heap_set (show w.drew.heap[lb]? = _ from H.out.blk)]; rfl
      · simp only [hes, List.take_nil]
        exact World.ownsRow_nil _ _ _ _
    have Fin := Lib.hid fin
    unfold LogC.cells at hc
    rw [hv] at hc
    clear h fin
    go_enter Tryz.func132, Tryz.ntmps132
    go_wp2_with fail
    refine wp_region_still_tail 19 (by kernel_rfl) (by kernel_rfl) ?_
    simp only [List.take_succ_cons, List.take_zero, List.drop_succ_cons, List.drop_zero]
    repeat still_step
    refine wpStill_nil ?_
    change wpList _ _ _ _ _ w.drew
    go_wp2_with fail
    go_ret
    exact ⟨rfl, Fin.out _ rfl⟩
  · obtain ⟨n, hn⟩ : ∃ n, min (idx - L.i - 1).toNat L.es.length = n := ⟨_, rfl⟩
    have hmin : min (idx - L.i - 1) (L.es.length : Int) = n := by omega
    have hncap : n ≤ cap := by omega
    have fin : ∀ w', w' = w.drew.setCell ⟨lb, 4, none⟩ (.slice (some ⟨g, 0, none⟩) n cap) → ∃ ev, RLog w' lb { L with ev := ev, es := L.es.take (idx - L.i - 1).toNat } ∧ Chg [lb] w w' ∧ own ev = own L.ev := by
      rintro w' rfl
      have hlen : (L.es.take (idx - L.i - 1).toNat).length = n := by rw [List.length_take]; exact hn
      have hgl : g ≠ lb := fun e => H.out.ne (by rw [hv, ← e]; rfl)
      refine ⟨.slice (some ⟨g, 0, none⟩) n cap, ⟨?_, ?_, by rw [show (Value.slice (some ⟨g, 0, none⟩) n cap).ownBlock = some g from rfl]; simpa using hgl, by rw [hlen]; omega⟩, ((Chg.refl [lb] w).drew).setCell (by simp) _, by rw [hv]; rfl⟩
      · rw [heap_set (show w.drew.heap[lb]? = _ from H.out.blk)]; rfl
      · show (w.drew.setCell _ _).ownsRow 0 48 4 (.slice (some ⟨g, 0, none⟩) n cap) (L.es.take (idx - L.i - 1).toNat).length (entCells (L.es.take (idx - L.i - 1).toNat))
        rw [hlen]
        refine ⟨by rw [entCells_length, hlen], .inr ⟨g, cap, cur, rfl, Nat.zero_le _, ?_, hncap, hm, hs, ?_⟩⟩
        · rw [heap_set_ne (by simpa using hgl.symm)]; exact hh
        · rw [entCells_take, ← ht, List.take_take]
          congr 1
          omega
    have Fin := Lib.hid fin
    unfold LogC.cells at hc
    rw [hv] at hc
    clear h fin hh hs ht
    go_enter Tryz.func132, Tryz.ntmps132
    go_wp2_with fail
    refine wp_region_still_tail 19 (by kernel_rfl) (by kernel_rfl) ?_
    simp only [List.take_succ_cons, List.take_zero, List.drop_succ_cons, List.drop_zero]
    repeat still_step
    refine wpStill_nil ?_
    change wpList _ _ _ _ _ w.drew
    go_wp2_with fail
    go_ret
    exact ⟨rfl, Fin.out _ rfl⟩

section
variable {w w' : World} {F : List Nat} {lb : Nat} {L : LogC}
/-- A log whose slice is another look at the same block. -/
theorem RLogF.again {ev : Value} (h : RLogF w F lb L) (hr : RLog w' lb { L with ev := ev }) (hc : Chg [lb] w w') (ho : own ev = own L.ev) : RLogF w' F lb { L with ev := ev } := by
  have hM : ∀ x ∈ [lb], x ∈ F := fun x hx => h.mem x (by simp at hx; simp [hx])
  exact ⟨hr, h.wf, RInts.chg h.v hc fun _ _ hQ hx => hQ (hM _ hx), RInts.chg h.l hc fun _ _ hQ hx => hQ (hM _ hx), fun e he => (h.d e he).chg hc fun _ _ hQ hx => hQ (hM _ hx), by rw [ho]; exact h.mem⟩
theorem wf_append {ev : Value} {es ns : List EntC} (h : L.ab.Wf) (hf : Follow L es) (hab : ns.map EntC.ab = es.map EntC.ab) (hm : L.last.1 + es.length ≤ maxNum) (hfew : L.es.length + es.length < 1000000) : ({ L with ev := ev, es := L.es ++ ns } : LogC).ab.Wf := by
  have he : ({ L with ev := ev, es := L.es ++ ns } : LogC).ab = { L.ab with es := L.ab.es ++ es.map EntC.ab } := by simp [LogC.ab, hab]
  have hlast := h.last
  have hl : L.last = L.ab.last := L.last_ab
  have hlen : L.ab.es.length = L.es.length := by simp [LogC.ab]
  rw [he]
  rw [hl] at hm
  refine ⟨h.i0, h.i1, ?_, ?_, ?_⟩
  · intro j e hj
    dsimp only at hj ⊢
    rcases Nat.lt_or_ge j L.ab.es.length with h1 | h1
    · rw [List.getElem?_append_left h1] at hj
      exact h.next j e hj
    · rw [List.getElem?_append_right h1, List.getElem?_map] at hj
      cases h2 : es[j - L.ab.es.length]? with
      | none => simp [h2] at hj
      | some e0 =>
        simp only [h2, Option.map_some, Option.some.injEq] at hj
        subst hj
        have := hf.next _ e0 h2
        rw [hl] at this
        show e0.i = _
        omega
  · simp only [List.length_append, List.length_map]
    omega
  · simp only [List.length_append, List.length_map]
    omega
end
end Go.Proofs.YtjbnmamgfpnccaaGreat
