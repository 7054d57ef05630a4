/- preSay. -/
import Derived.Test.YtjbnmamgfpnccaaGreatW5
import Derived.StillTailTactics
namespace Go.Proofs.YtjbnmamgfpnccaaGreat
open Go Go.RowKit Go.Sort

theorem Fit.yess {c : CoreC} {L : LogC} (h : Fit c L) (yes : SI) : Fit { c with yes := yes } L := ⟨h.k, h.v0, h.v1, h.l1, h.d, h.few, h.t0, h.tl, h.full, h.many⟩

set_option maxRecDepth 100000 in
set_option maxHeartbeats 1000000 in
/-- A yes that is enough: it stands. -/
theorem preSay_any (F : List Nat) (b : Nat) (c : CoreC) (L : LogC) (m : MsgC) (w : World) (h : RCore w F b c L) (hF : ∀ x ∈ F, x < w.heap.size) (hfit : Fit c L) (ht1 : c.term < 1099511627776)
    (hok : m.ok = true) (hrole : c.role = 1) (hterm : m.term = c.term + 1) (hvt : L.vs.contains m.frm = true) (hfew : c.yes.xs.length < 1000000) (hq : quorum L.vs (c.yes.xs ++ [m.frm]) = true) :
    Calls Tryz.prog 68 #[.pointer (some ⟨b, 0, none⟩), .agg m.cells.toArray] w fun e w' => e = .returned (.tuple #[]) ∧
      ∃ F1 w1 yes, yes.xs = c.yes.xs ++ [m.frm] ∧ RCore w1 F1 b { c with yes := yes } L ∧ Upd F F1 w w1 ∧ Stood w1 w' F1 b { c with yes := yes } L := by
  obtain ⟨W, hW⟩ : ∃ W, W = w.alloc (.cells m.cells.toArray 36) := ⟨_, rfl⟩
  have hB0 : Below w.heap.size w W := by rw [hW]; exact (Below.refl _ w).alloc (Nat.le_refl _) _
  have hbox : W.heap[w.heap.size]? = some (.cells m.cells.toArray 36 (0, 0)) := by rw [hW, heap_alloc, if_pos rfl]
  have hR := h.below hB0
  have HC := Lib.hid (count_any F b c L m W.drew (hR.below (Below.refl _ _).drew) hok hvt hfit.k hfit.v1 hfit.l1 hfew)
  rw [hq] at HC
  have ht0 := hfit.t0
  have Hfit := Lib.hid hfit
  have HF := Lib.hid hF
  obtain ⟨kind, frm, to, term, idx, lt, cm, ok, es, off, data, last, v, l⟩ := m
  unfold MsgC.cells at *
  dsimp only at *
  subst hok hterm
  have kc := cellsOf hR.blk
  have k1 : W.cell? ⟨b, 1, none⟩ = some (.int .i64 c.term) := by rw [kc]; rfl
  have k5 : W.cell? ⟨b, 5, none⟩ = some (.int .i64 1) := by rw [kc, ← hrole]; rfl
  have hltb := ltOf hR.blk
  have hltx := ltOf hbox
  have bx := cellsOf hbox
  have hU0 := Lib.hid (Upd.below (F := F) hB0)
  have hwr : IntKind.i64.wrap (c.term + 1) = c.term + 1 := IntWalk.i64_in _ (by omega)
  clear hR kc hbox h hB0 hq hfit hF hrole
  go_enter Tryz.func68, Tryz.ntmps68
  go_wp2_with fail
  rw [← hW]
  clear hW
  refine wp_region_still_tail 22 (by kernel_rfl) (by kernel_rfl) ?_
  simp only [List.take_succ_cons, List.take_zero, List.drop_succ_cons, List.drop_zero]
  repeat still_step
  refine wpStill_nil ?_
  change wpList _ _ _ _ _ W.drew
  go_wp2_with fail
  refine HC.out.mono ?_
  rintro e w1 ⟨rfl, F1, yes, hyx, hR1, hU1⟩
  have HR1 := Lib.hid hR1
  have HU1 := Lib.hid ((hU0.trans (Upd.below (Below.refl _ _).drew)).trans hU1)
  have HS := Lib.hid (stand_any F1 b _ L w1 hR1 (((hU0.trans (Upd.below (Below.refl _ _).drew)).trans hU1).lt HF.out) (Hfit.out.yess yes) ht1)
  have Hyx := Lib.hid hyx
  clear hR1 hU1 hyx HC hU0 k1 k5 bx
  go_wp2_with fail
  refine HS.out.mono ?_
  rintro e w2 ⟨rfl, hS⟩
  have HS2 := Lib.hid hS
  clear hS HS
  go_wp2
  go_end0
  exact ⟨rfl, F1, w1, yes, Hyx.out, HR1.out, HU1.out, HS2.out⟩

set_option maxRecDepth 100000 in
set_option maxHeartbeats 1000000 in
/-- A vote that is enough: it leads. -/
theorem say_any (F : List Nat) (b : Nat) (c : CoreC) (L : LogC) (m : MsgC) (w : World) (h : RCore w F b c L) (hF : ∀ x ∈ F, x < w.heap.size) (hfit : Fit c L) (ht1 : c.term ≤ 1099511627776)
    (hok : m.ok = true) (hrole : c.role = 2) (hvt : L.vs.contains m.frm = true) (hfew : c.yes.xs.length < 1000000) (hq : quorum L.vs (c.yes.xs ++ [m.frm]) = true) :
    Calls Tryz.prog 70 #[.pointer (some ⟨b, 0, none⟩), .agg m.cells.toArray] w fun e w' => e = .returned (.tuple #[]) ∧
      ∃ yes F' ev e' c', yes.xs = c.yes.xs ++ [m.frm] ∧ RCore w' F' b c' { L with ev := ev, es := L.es ++ [e'] } ∧ e'.ab = ⟨L.last.1 + 1, c.term, 0, []⟩ ∧
      Led { c with yes := yes } c' { L with ev := ev, es := L.es ++ [e'] } ∧ Upd F F' w w' := by
  obtain ⟨W, hW⟩ : ∃ W, W = w.alloc (.cells m.cells.toArray 36) := ⟨_, rfl⟩
  have hB0 : Below w.heap.size w W := by rw [hW]; exact (Below.refl _ w).alloc (Nat.le_refl _) _
  have hbox : W.heap[w.heap.size]? = some (.cells m.cells.toArray 36 (0, 0)) := by rw [hW, heap_alloc, if_pos rfl]
  have hR := h.below hB0
  have HC := Lib.hid (count_any F b c L m W hR hok hvt hfit.k hfit.v1 hfit.l1 hfew)
  rw [hq] at HC
  have ht0 := hfit.t0
  have Hfit := Lib.hid hfit
  have HF := Lib.hid hF
  obtain ⟨kind, frm, to, term, idx, lt, cm, ok, es, off, data, last, v, l⟩ := m
  unfold MsgC.cells at *
  dsimp only at *
  subst hok
  have k5 : w.cell? ⟨b, 5, none⟩ = some (.int .i64 2) := by rw [cellsOf h.blk, ← hrole]; rfl
  have hltb := ltOf h.blk
  have hU0 := Lib.hid (Upd.below (F := F) hB0)
  clear hR hbox h hB0 hq hfit hF hrole
  go_enter Tryz.func70, Tryz.ntmps70
  go_wp2_with fail
  rw [← hW]
  clear hW
  refine HC.out.mono ?_
  rintro e w1 ⟨rfl, F1, yes, hyx, hR1, hU1⟩
  have HU1 := Lib.hid (hU0.trans hU1)
  have HS := Lib.hid (leads_any F1 b _ L w1 hR1 ((hU0.trans hU1).lt HF.out) Hfit.out.k Hfit.out.v0 Hfit.out.v1 Hfit.out.l1 Hfit.out.d (show ({ c with yes := yes } : CoreC).outs.length ≤ 900000 from Hfit.out.few)
    (show 0 ≤ c.term from ht0) ht1 Hfit.out.tl Hfit.out.full Hfit.out.many)
  have Hyx := Lib.hid hyx
  clear hR1 hU1 hyx HC hU0 k5
  go_wp2_with fail
  refine HS.out.mono ?_
  rintro e w2 ⟨rfl, F2, ev, e', c', hR2, hab, hLd, hU2⟩
  have HR2 := Lib.hid hR2
  have HU2 := Lib.hid (HU1.out.trans hU2)
  have Hab := Lib.hid hab
  have HLd := Lib.hid hLd
  clear hR2 hU2 HS hab hLd
  go_wp2
  go_end0
  exact ⟨rfl, yes, F2, ev, e', c', Hyx.out, HR2.out, Hab.out, HLd.out, HU2.out⟩
end Go.Proofs.YtjbnmamgfpnccaaGreat
