/- rlog.New, raft.New at nothing. -/
import Derived.Test.YtjbnmamgfpnccaaGreatK13
namespace Go.Proofs.YtjbnmamgfpnccaaGreat
open Go Go.RowKit

set_option maxRecDepth 100000 in
set_option maxHeartbeats 1000000 in
/-- A new log. -/
theorem logNew_any (Q : Nat → Prop) (va la : Option Addr) (vn vc ln lc : Nat) (vs ls : List Int) (w : World) (hv : RInts w Q va vn vc vs) (hl : RInts w Q la ln lc ls) (h1 : vn ≤ 1000) (h2 : ln ≤ 1000) :
    Calls Tryz.prog 8 #[.int .i64 0, .int .i64 0, .agg #[.slice va vn vc, .slice la ln lc]] w fun e w' => ∃ lb va' vc' la' lc', e = .returned (.pointer (some ⟨lb, 0, none⟩)) ∧ w.heap.size ≤ lb ∧
      w'.heap[lb]? = some (.cells #[.int .i64 0, .int .i64 0, .slice va' vn vc', .slice la' ln lc', .slice none 0 0] 84 (0, 0)) ∧
      RInts w' (fun x => w.heap.size ≤ x ∧ x ≠ lb) va' vn vc' vs ∧ RInts w' (fun x => w.heap.size ≤ x ∧ x ≠ lb) la' ln lc' ls ∧ Below w.heap.size w w' := by
  have hB0 : Below w.heap.size w (w.alloc (.cells #[.slice va vn vc, .slice la ln lc] 26)) := (Below.refl _ w).alloc (Nat.le_refl _) _
  have HC := Lib.hid (cloneConf Q va la vn vc ln lc vs ls _ (hv.below hB0) (hl.below hB0) (by omega) (by omega))
  clear hv hl
  go_enter Tryz.func8, Tryz.ntmps8
  go_wp2_with fail
  refine HC.out.mono ?_
  rintro e w1 ⟨va', vc', la', lc', rfl, hr1, hr2, hb1⟩
  have hz1 := hb1.size
  rw [size_alloc] at hz1 hr1 hr2
  have Hr1 := Lib.hid hr1
  have Hr2 := Lib.hid hr2
  have HB := Lib.hid (hB0.trans (hb1.mono (by rw [size_alloc]; omega)))
  clear hr1 hr2 hb1 HC hB0
  go_wp2_with fail
  go_ret
  have hba := (Below.refl w1.heap.size w1).alloc (Nat.le_refl _) (.cells #[.int .i64 (min 0 1099511627776), .int .i64 (min 0 1099511627776), .slice va' vn vc', .slice la' ln lc', .slice none 0 0] 84)
  refine ⟨w1.heap.size, va', vc', la', lc', rfl, by omega, by rw [heap_alloc, if_pos rfl]; rfl, (Hr1.out.mono (fun x hx hq => ⟨by have : w.heap.size + 1 ≤ x := hq; omega, by omega⟩)).below hba, (Hr2.out.mono (fun x hx hq => ⟨by have : w.heap.size + 1 ≤ x := hq; omega, by omega⟩)).below hba, HB.out.trans (hba.mono (by omega))⟩
end Go.Proofs.YtjbnmamgfpnccaaGreat
