/- refuse at an Ask, on, Step at an Ask. -/
import Derived.Test.YtjbnmamgfpnccaaGreatK14
import Derived.Test.YtjbnmamgfpnccaaGreatN3
namespace Go.Proofs.YtjbnmamgfpnccaaGreat
open Go Go.RowKit Go.Sort

theorem on_any (k : Int) (w : World) (h2 : 2 ≤ k) (h4 : k ≤ 5) : Calls Tryz.prog 38 #[.int .i64 k] w fun e w' => e = .returned (.func (.func (if k = 2 then 68 else if k = 3 then 69 else if k = 4 then 70 else 71)) #[] #[]) ∧ w' = w := by
  have hk : k = 2 ∨ k = 3 ∨ k = 4 ∨ k = 5 := by omega
  rcases hk with rfl | rfl | rfl | rfl
  all_goals
    clear h2 h4
    go_enter Tryz.func38, Tryz.ntmps38
    go_wp2
    go_ret
    exact ⟨rfl, rfl⟩

set_option maxRecDepth 100000 in
set_option maxHeartbeats 1000000 in
theorem refuse3_any (F : List Nat) (b : Nat) (c : CoreC) (L : LogC) (m : MsgC) (w : World) (h : RCore w F b c L) (hk : m.kind = 3) (hfew : c.outs.length < 1000000) :
    Calls Tryz.prog 37 #[.pointer (some ⟨b, 0, none⟩), .agg m.cells.toArray] w fun e w' => e = .returned (.tuple #[]) ∧
      ∃ F' oa on oc, RCore w' F' b (c.withOut oa on oc [(sayMsg m.frm false).sent c]) L ∧ Upd F F' w w' := by
  obtain ⟨kind, frm, to, term, idx, lt, cm, ok, es, off, data, last, v, l⟩ := m
  dsimp only at hk
  subst hk
  unfold MsgC.cells
  dsimp only
  have hB0 : Below w.heap.size w (w.alloc (.cells #[.int .i64 3, .int .i64 frm, .int .i64 to, .int .i64 term, .int .i64 idx, .int .i64 lt, .int .i64 cm, .bool ok, .slice es.a es.n es.c, .int .i64 off, .slice data.a data.n data.c, .bool last, .slice v.a v.n v.c, .slice l.a l.n l.c] 36)) := (Below.refl _ w).alloc (Nat.le_refl _) _
  have HS := Lib.hid (send_any F b c L (sayMsg frm false) _ (h.below hB0) (RMsg.say _ _ _ _) hfew)
  have HU := Lib.hid (Upd.below (F := F) hB0)
  clear h hB0
  go_enter Tryz.func37, Tryz.ntmps37
  go_wp2_with fail
  refine HS.out.mono ?_
  rintro e w5 ⟨rfl, F5, oa, on, oc, hR5, hU5⟩
  have HR5 := Lib.hid hR5
  have HU5 := Lib.hid (HU.out.trans hU5)
  clear hR5 hU5 HS
  go_wp2
  go_end0
  exact ⟨rfl, F5, oa, on, oc, HR5.out, HU5.out⟩
end Go.Proofs.YtjbnmamgfpnccaaGreat
