/- The configuration of three voters. -/
import Derived.Test.YtjbnmamgfpnccaaGreatW3
namespace Go.Proofs.YtjbnmamgfpnccaaGreat
open Go Go.RowKit

set_option maxRecDepth 100000 in
set_option maxHeartbeats 1000000 in
theorem three_any (w : World) : Calls Tryz.prog 12 #[] w fun e w' => ∃ a, e = .returned (.agg #[.slice a 3 3, .slice none 0 0]) ∧
      RInts w' (fun x => w.heap.size ≤ x) a 3 3 [1, 2, 3] ∧ Below w.heap.size w w' := by
  go_enter Tryz.func12, Tryz.ntmps12
  go_wp2_with fail
  obtain ⟨W, hW⟩ : ∃ W, W = (w.alloc (.cells #[.slice (some ⟨w.heap.size + 1, 0, none⟩) 3 3, .slice none 0 0] 26)).alloc (.cells #[.int .i64 1, .int .i64 2, .int .i64 3] 3) := ⟨_, rfl⟩
  rw [← hW]
  have hB : Below w.heap.size w W := by rw [hW]; exact ((Below.refl _ w).alloc (Nat.le_refl _) _).alloc (by simp) _
  have g1 : W.heap[w.heap.size]? = some (.cells #[.slice (some ⟨w.heap.size + 1, 0, none⟩) 3 3, .slice none 0 0] 26 (0, 0)) := by rw [hW, heap_alloc_ne (by simp), heap_alloc, if_pos rfl]
  have g2 : W.heap[w.heap.size + 1]? = some (.cells #[.int .i64 1, .int .i64 2, .int .i64 3] 3 (0, 0)) := by rw [hW, heap_alloc, if_pos (by simp)]
  have c1 := cellsOf g1
  have f1 := freeOf g1
  have hl1 := ltOf g1
  refine bodyPost_ret (v := .agg #[.slice (some ⟨w.heap.size + 1, 0, none⟩) 3 3, .slice none 0 0]) (by simp [results, Tryz.results12, go_sem, c1, f1, hl1]) rfl ⟨_, rfl, ⟨rfl, RSl.ofBlk g2 (by omega) (by omega) (by unfold maxLen; omega) rfl ?_⟩, hB⟩
  intro j u hu
  simpa using hu
end Go.Proofs.YtjbnmamgfpnccaaGreat
