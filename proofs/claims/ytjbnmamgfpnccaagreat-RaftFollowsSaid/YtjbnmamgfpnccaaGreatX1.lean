/- The plain law of the example: who is asked, how many are enough, what is agreed. -/
import Derived.Test.YtjbnmamgfpnccaaGreatK12
namespace Go.Proofs.YtjbnmamgfpnccaaGreat
open Go Go.RowKit

theorem q11 : quorum [1] [1] = true := by decide
theorem q31 : quorum [1, 2, 3] [1] = false := by decide
theorem q32 : quorum [1, 2, 3] [1, 2] = true := by decide
theorem q33 : quorum [1, 2, 3] [1, 3] = true := by decide
theorem sorted123 : sorted [1, 2, 3] = [1, 2, 3] := List.mergeSort_of_pairwise (by decide)
theorem sorted100 : sorted [1, 0, 0] = [0, 0, 1] := by
  simp [sorted, List.mergeSort, List.MergeSort.Internal.splitInTwo]
theorem asked3 : asked [1, 2, 3] [] 1 = [2, 3] := by
  have h : others [1, 2, 3] [] 1 = [2, 3] := by
    unfold others
    rw [List.append_nil, sorted123]; decide
  unfold asked
  rw [h]; decide
theorem mid1 : middle [1] = 1 := by simp [middle, sorted]
theorem mid3 : middle [1, 0, 0] = 0 := by unfold middle; rw [sorted100]; decide

theorem led_fields {c c' : CoreC} {L' : LogC} {t : Int} (h : Led c c' L') (hn : c.n = 1) (hc : c.commit = 0) (ht : c.term = t) (hl : L'.last.1 = 1) :
    c'.role = 3 ∧ c'.lead = 1 ∧ c'.term = t ∧ ((L'.vs = [1] → L'.has 1 t = true → c'.commit = 1) ∧ (L'.vs = [1, 2, 3] → c'.commit = 0)) := by
  obtain ⟨mb, c3, ⟨qs, rfl, hqs, _⟩, ⟨ps, oa, on, oc, ms, rfl, _, _⟩⟩ := h
  obtain ⟨d, hd⟩ := touched_eq (c.leading mb) L'.last.1
  have hmid : midOf ((c.leading mb).touched L'.last.1) L' = middle (L'.vs.map fun m => if m = 1 then 1 else 0) := by
    unfold midOf
    congr 1
    apply List.map_congr_left
    intro m _
    unfold matchOf
    rw [hd, hl]
    simp only [CoreC.leading, hn]
    split
    · rfl
    · simp [matOf]
  rw [hmid, hd]
  simp only [CoreC.leading, List.nil_append]
  refine ⟨?_, ?_, ?_, ?_, ?_⟩
  · unfold CoreC.reckoned; split <;> rfl
  · unfold CoreC.reckoned; split <;> exact hn
  · unfold CoreC.reckoned; split <;> exact ht
  · intro hv hh
    rw [hv]
    have : middle ([1].map fun m : Int => if m = 1 then (1 : Int) else 0) = 1 := mid1
    rw [this]
    unfold CoreC.reckoned rises
    simp only [hc, ht, hh]
    rfl
  · intro hv
    rw [hv]
    have : middle ([1, 2, 3].map fun m : Int => if m = 1 then (1 : Int) else 0) = 0 := mid3
    rw [this]
    unfold CoreC.reckoned rises
    simp only [hc]
    rfl
end Go.Proofs.YtjbnmamgfpnccaaGreat
