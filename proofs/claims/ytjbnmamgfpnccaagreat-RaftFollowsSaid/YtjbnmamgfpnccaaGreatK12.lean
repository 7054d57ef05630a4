/- stand, askAhead. -/
import Derived.Test.YtjbnmamgfpnccaaGreatK11
namespace Go.Proofs.YtjbnmamgfpnccaaGreat
open Go Go.RowKit

/-- The member is fit to lead: what its log and its numbers keep. -/
structure Fit (c : CoreC) (L : LogC) : Prop where
  k : ∀ e ∈ L.es, e.k ≠ 2
  v0 : 0 < L.vn
  v1 : L.vn ≤ 1000
  l1 : L.ln ≤ 1000
  d : ∀ e ∈ L.es, e.dn ≤ 2048
  few : c.outs.length ≤ 900000
  t0 : 0 ≤ c.term
  tl : L.last.2 ≤ c.term
  full : L.last.1 < 1099511627776
  many : L.es.length + 1 < 1000000

def CoreC.stood (c : CoreC) : CoreC := { c with term := c.term + 1, vote := c.n }
/-- What a member is when it has begun to ask for votes: it leads at once, or has asked. -/
def Stood (w w' : World) (F : List Nat) (b : Nat) (c : CoreC) (L : LogC) : Prop :=
  (quorum L.vs [c.n] = true ∧ ∃ F' ev e' c' yes, yes.xs = [c.n] ∧ RCore w' F' b c' { L with ev := ev, es := L.es ++ [e'] } ∧ e'.ab = ⟨L.last.1 + 1, c.term + 1, 0, []⟩ ∧ Led (c.stood.begun 2 yes) c' { L with ev := ev, es := L.es ++ [e'] } ∧ Upd F F' w w') ∨
  (quorum L.vs [c.n] = false ∧ ∃ F' yes oa on oc, yes.xs = [c.n] ∧ RCore w' F' b ((c.stood.begun 2 yes).withOut oa on oc ((asked L.vs L.ls c.n).map fun m => (askMsg 3 m (c.term + 1) L.last.1 L.last.2).sent (c.stood.begun 2 yes))) L ∧ Upd F F' w w')

set_option maxRecDepth 100000 in
set_option maxHeartbeats 2000000 in
theorem stand_any (F : List Nat) (b : Nat) (c : CoreC) (L : LogC) (w : World) (h : RCore w F b c L) (hF : ∀ x ∈ F, x < w.heap.size) (hfit : Fit c L) (ht1 : c.term < 1099511627776) :
    Calls Tryz.prog 84 #[.pointer (some ⟨b, 0, none⟩)] w fun e w' => e = .returned (.tuple #[]) ∧ Stood w w' F b c L := by
  have hc := cellsOf h.blk
  have hf := freeOf h.blk
  have hlt := ltOf h.blk
  unfold CoreC.cells at hc
  have H := Lib.hid h
  have ht0 := hfit.t0
  have Hfit := Lib.hid hfit
  have hwr : IntKind.i64.wrap (c.term + 1) = c.term + 1 := IntWalk.i64_in _ (by omega)
  clear h hfit
  go_enter Tryz.func84, Tryz.ntmps84
  go_wp2_with fail
  obtain ⟨W, hW⟩ : ∃ W, W = ((w.setCell ⟨b, 1, none⟩ (.int .i64 (c.term + 1))).setCell ⟨b, 2, none⟩ (.int .i64 c.n)) := ⟨_, rfl⟩
  rw [← hW]
  have hC : Chg [b] w W := by rw [hW]; exact ((Chg.refl _ w).setCell (by simp) _).setCell (by simp) _
  have hR : RCore W F b c.stood L := H.out.nums hC c.n (c.term + 1) c.n c.commit c.role c.lead c.quiet c.dirty c.whole (by rw [hW, heap_set (heap_set H.out.blk)]; rfl)
  have HU := Lib.hid (Upd.of hC (F := F) (by simpa using H.out.bF))
  have HR := Lib.hid hR
  have HB := Lib.hid (begin_any F b c.stood L 2 W hR Hfit.out.k Hfit.out.v1 Hfit.out.l1)
  have hcn : c.stood.n = c.n := rfl
  rw [hcn] at HB
  clear hW hC hR hc hf hwr hcn
  refine HB.out.mono ?_
  rintro e w1 ⟨rfl, F1, yes, hyx, hR1, hU1⟩
  have HR1 := Lib.hid hR1
  have HU1 := Lib.hid (HU.out.trans hU1)
  have HF1 := Lib.hid ((HU.out.trans hU1).lt hF)
  have Hyx := Lib.hid hyx
  clear hR1 hU1 hyx HB
  cases hq : quorum L.vs [c.n] with
  | true =>
    have Hq := Lib.hid hq
    clear hq
    have HL := Lib.hid (leads_any F1 b _ L w1 HR1.out HF1.out Hfit.out.k Hfit.out.v0 Hfit.out.v1 Hfit.out.l1 Hfit.out.d (show (c.stood.begun 2 yes).outs.length ≤ 900000 from Hfit.out.few)
      (show 0 ≤ c.term + 1 by omega) (show c.term + 1 ≤ 1099511627776 by omega) (show L.last.2 ≤ c.term + 1 by have := Hfit.out.tl; omega) Hfit.out.full Hfit.out.many)
    go_wp2_with fail
    refine HL.out.mono ?_
    rintro e w2 ⟨rfl, F2, ev, e', c', hR2, hab, hLd, hU2⟩
    have HR2 := Lib.hid hR2
    have Hab := Lib.hid hab
    have HLd := Lib.hid hLd
    have HU2 := Lib.hid (HU1.out.trans hU2)
    clear hR2 hab hLd hU2 HL
    go_wp2_with fail
    refine bodyPost_ret (v := .tuple #[]) (by simp [results, Tryz.f84]) rfl ?_
    exact ⟨rfl, .inl ⟨Hq.out, F2, ev, e', c', yes, Hyx.out, HR2.out, Hab.out, HLd.out, HU2.out⟩⟩
  | false =>
    have Hq := Lib.hid hq
    clear hq
    have k1 : w1.cell? ⟨b, 1, none⟩ = some (.int .i64 (c.term + 1)) := by rw [cellsOf HR1.out.blk]; rfl
    have HP := Lib.hid (poll_any F1 b _ L 3 (c.term + 1) w1 HR1.out HF1.out Hfit.out.k Hfit.out.v0 Hfit.out.v1 Hfit.out.l1 (show (c.stood.begun 2 yes).outs.length ≤ 900000 from Hfit.out.few))
    go_wp2_with fail
    refine HP.out.mono ?_
    rintro e w2 ⟨rfl, F2, oa, on, oc, hR2, hU2⟩
    have HR2 := Lib.hid hR2
    have HU2 := Lib.hid (HU1.out.trans hU2)
    clear hR2 hU2 HP
    go_wp2_with fail
    go_end0
    exact ⟨rfl, .inr ⟨Hq.out, F2, yes, oa, on, oc, Hyx.out, HR2.out, HU2.out⟩⟩

def Ahead (w w' : World) (F : List Nat) (b : Nat) (c : CoreC) (L : LogC) : Prop :=
  (quorum L.vs [c.n] = true ∧ ∃ w1 F1 yes, yes.xs = [c.n] ∧ RCore w1 F1 b (c.begun 1 yes) L ∧ Upd F F1 w w1 ∧ Stood w1 w' F1 b (c.begun 1 yes) L) ∨
  (quorum L.vs [c.n] = false ∧ ∃ F' yes oa on oc, yes.xs = [c.n] ∧ RCore w' F' b ((c.begun 1 yes).withOut oa on oc ((asked L.vs L.ls c.n).map fun m => (askMsg 1 m (c.term + 1) L.last.1 L.last.2).sent (c.begun 1 yes))) L ∧ Upd F F' w w')

theorem Fit.begun {c : CoreC} {L : LogC} (h : Fit c L) (r : Int) (yes : SI) : Fit (c.begun r yes) L := ⟨h.k, h.v0, h.v1, h.l1, h.d, h.few, h.t0, h.tl, h.full, h.many⟩

set_option maxRecDepth 100000 in
set_option maxHeartbeats 2000000 in
theorem askAhead_any (F : List Nat) (b : Nat) (c : CoreC) (L : LogC) (w : World) (h : RCore w F b c L) (hF : ∀ x ∈ F, x < w.heap.size) (hfit : Fit c L) (ht1 : c.term < 1099511627776) :
    Calls Tryz.prog 50 #[.pointer (some ⟨b, 0, none⟩)] w fun e w' => e = .returned (.tuple #[]) ∧ Ahead w w' F b c L := by
  have HB := Lib.hid (begin_any F b c L 1 w h hfit.k hfit.v1 hfit.l1)
  have ht0 := hfit.t0
  have Hfit := Lib.hid hfit
  have hwr : IntKind.i64.wrap (c.term + 1) = c.term + 1 := IntWalk.i64_in _ (by omega)
  clear h hfit
  go_enter Tryz.func50, Tryz.ntmps50
  go_wp2_with fail
  refine HB.out.mono ?_
  rintro e w1 ⟨rfl, F1, yes, hyx, hR1, hU1⟩
  have HR1 := Lib.hid hR1
  have HU1 := Lib.hid hU1
  have HF1 := Lib.hid (hU1.lt hF)
  have Hyx := Lib.hid hyx
  clear hR1 hU1 hyx HB
  cases hq : quorum L.vs [c.n] with
  | true =>
    have Hq := Lib.hid hq
    clear hq
    have HL := Lib.hid (stand_any F1 b _ L w1 HR1.out HF1.out (Hfit.out.begun 1 yes) ht1)
    go_wp2_with fail
    refine HL.out.mono ?_
    rintro e w2 ⟨rfl, hS⟩
    have HS := Lib.hid hS
    clear hS HL
    go_wp2_with fail
    refine bodyPost_ret (v := .tuple #[]) (by simp [results, Tryz.f50]) rfl ?_
    exact ⟨rfl, .inl ⟨Hq.out, w1, F1, yes, Hyx.out, HR1.out, HU1.out, HS.out⟩⟩
  | false =>
    have Hq := Lib.hid hq
    clear hq
    have k1 : w1.cell? ⟨b, 1, none⟩ = some (.int .i64 c.term) := by rw [cellsOf HR1.out.blk]; rfl
    have HP := Lib.hid (poll_any F1 b _ L 1 (c.term + 1) w1 HR1.out HF1.out Hfit.out.k Hfit.out.v0 Hfit.out.v1 Hfit.out.l1 (show (c.begun 1 yes).outs.length ≤ 900000 from Hfit.out.few))
    go_wp2_with fail
    refine HP.out.mono ?_
    rintro e w2 ⟨rfl, F2, oa, on, oc, hR2, hU2⟩
    have HR2 := Lib.hid hR2
    have HU2 := Lib.hid (HU1.out.trans hU2)
    clear hR2 hU2 HP
    go_wp2_with fail
    go_end0
    exact ⟨rfl, .inr ⟨Hq.out, F2, yes, oa, on, oc, Hyx.out, HR2.out, HU2.out⟩⟩
end Go.Proofs.YtjbnmamgfpnccaaGreat
