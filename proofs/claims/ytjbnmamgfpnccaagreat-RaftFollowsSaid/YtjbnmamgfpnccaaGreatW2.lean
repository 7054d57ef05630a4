/- raft.clone and raft.New at no snapshot. -/
import Derived.Test.YtjbnmamgfpnccaaGreatW1
import Derived.StillTailTactics
namespace Go.Proofs.YtjbnmamgfpnccaaGreat
open Go Go.RowKit

theorem cloneNoInts (w : World) : Calls Tryz.prog 66 #[.slice none 0 0] w fun e w' => e = .returned (.slice none 0 0) ∧ w' = w := by
  refine (Tryz.slices_Clone_int_nil 0 0 w).mono ?_
  rintro e w' ⟨rfl, rfl⟩
  exact ⟨rfl, rfl⟩

set_option maxRecDepth 100000 in
set_option maxHeartbeats 1000000 in
theorem noSnap_any (w : World) : Calls Tryz.prog 33 #[.agg #[.int .i64 0, .int .i64 0, .slice none 0 0, .slice none 0 0, .slice none 0 0]] w fun e w' => ∃ a c, e = .returned (.agg #[.int .i64 0, .int .i64 0, .slice none 0 0, .slice none 0 0, .slice a 0 c]) ∧
    RBytes w' (fun b => w.heap.size ≤ b) a 0 c [] ∧ Below w.heap.size w w' := by
  have hB0 : Below w.heap.size w ((w.alloc (.cells #[.int .i64 0, .int .i64 0, .slice none 0 0, .slice none 0 0, .slice none 0 0] 33)).alloc (.cells #[.int .i64 0, .int .i64 0, .slice none 0 0, .slice none 0 0, .slice none 0 0] 33)) := ((Below.refl _ w).alloc (Nat.le_refl _) _).alloc (by simp) _
  have HC := Lib.hid (cloneBytes (fun _ => True) none 0 0 [] _ (⟨rfl, RSl.nil ((w.alloc (.cells #[.int .i64 0, .int .i64 0, .slice none 0 0, .slice none 0 0, .slice none 0 0] 33)).alloc (.cells #[.int .i64 0, .int .i64 0, .slice none 0 0, .slice none 0 0, .slice none 0 0] 33)) _ _⟩ : RBytes _ _ none 0 0 []) (by omega))
  go_enter Tryz.func33, Tryz.ntmps33
  go_wp2_with fail
  refine HC.out.mono ?_
  rintro e w1 ⟨a, cc, rfl, hr1, hb1⟩
  have hz1 := hb1.size
  simp only [size_alloc] at hz1
  have g1 : w1.heap[w.heap.size]? = some (.cells #[.int .i64 0, .int .i64 0, .slice none 0 0, .slice none 0 0, .slice none 0 0] 33 (0, 0)) := by
    rw [hb1.block _ (by simp only [size_alloc]; omega), heap_alloc_ne (by simp), heap_alloc, if_pos rfl]
  have g2 : w1.heap[w.heap.size + 1]? = some (.cells #[.int .i64 0, .int .i64 0, .slice none 0 0, .slice none 0 0, .slice none 0 0] 33 (0, 0)) := by
    rw [hb1.block _ (by simp), heap_alloc, if_pos (by simp)]
  have c1 := cellsOf g1
  have f1 := freeOf g1
  have hl1 := ltOf g1
  have G1 := Lib.hid g1
  have G2 := Lib.hid g2
  have Hr1 := Lib.hid hr1
  have HB1 := Lib.hid (hB0.trans (hb1.mono (by simp only [size_alloc]; omega)))
  clear g1 g2 hr1 hb1 HC hB0
  go_wp2_with fail
  obtain ⟨W, hW⟩ : ∃ W, W = w1.setCell ⟨w.heap.size, 4, none⟩ (.slice a 0 cc) := ⟨_, rfl⟩
  rw [← hW]
  have hC : Chg [w.heap.size] w1 W := by rw [hW]; exact (Chg.refl _ _).setCell (by simp) _
  have g3 : W.heap[w.heap.size]? = some (.cells #[.int .i64 0, .int .i64 0, .slice none 0 0, .slice none 0 0, .slice a 0 cc] 33 (0, 0)) := by rw [hW, heap_set G1.out]; rfl
  have g4 := hC.get G2.out (by simp)
  have c3 := cellsOf g3
  have f3 := freeOf g3
  have hl3 := ltOf g3
  have c4 := cellsOf g4
  have f4 := freeOf g4
  have hl4 := ltOf g4
  have HC3 := Lib.hid hC
  clear c1 f1 hl1 hW hC g3 g4
  refine wp_region_still_tail 10 (by kernel_rfl) (by kernel_rfl) ?_
  simp only [List.take_succ_cons, List.take_zero, List.drop_succ_cons, List.drop_zero]
  still_step
  still_step
  still_step
  still_call (cloneNoInts _)
  still_step
  still_step
  still_step
  still_call (cloneNoInts _)
  still_step
  still_step
  refine wpStill_nil ?_
  change wpList _ _ _ _ _ W.drew
  go_wp2
  have hCf : Chg [w.heap.size, w.heap.size + 1] W (((((((W.setCell ⟨w.heap.size, 2, none⟩ (.slice none 0 0)).setCell ⟨w.heap.size, 3, none⟩ (.slice none 0 0)).setCell ⟨w.heap.size + 1, 0, none⟩ (.int .i64 0)).setCell ⟨w.heap.size + 1, 1, none⟩ (.int .i64 0)).setCell ⟨w.heap.size + 1, 2, none⟩ (.slice none 0 0)).setCell ⟨w.heap.size + 1, 3, none⟩ (.slice none 0 0)).setCell ⟨w.heap.size + 1, 4, none⟩ (.slice a 0 cc)).drew :=
    ((((((((Chg.refl _ W).setCell (by simp) _).setCell (by simp) _).setCell (by simp) _).setCell (by simp) _).setCell (by simp) _).setCell (by simp) _).setCell (by simp) _).drew
  have hAll := (HC3.out.mono (M' := [w.heap.size, w.heap.size + 1]) (by simp)).trans hCf
  refine bodyPost_ret (v := .agg #[.int .i64 0, .int .i64 0, .slice none 0 0, .slice none 0 0, .slice a 0 cc]) (by simp [results, Tryz.results33, go_sem, c4, f4, hl4]) rfl ⟨a, cc, rfl, ?_, ?_⟩
  · exact (Hr1.out.chg hAll (fun x hx hq hm => by simp only [size_alloc] at hq; simp at hm; omega)).mono (fun x hx hq => by simp only [size_alloc] at hq; omega)
  · exact ((Chg.ofBelow (M := []) HB1.out).trans' hAll (fun x hx => by simp at hx; omega)).below
end Go.Proofs.YtjbnmamgfpnccaaGreat
