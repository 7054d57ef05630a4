/- Tick of one who does not lead; Out; what is read of a member. -/
import Derived.Test.YtjbnmamgfpnccaaGreatK12
namespace Go.Proofs.YtjbnmamgfpnccaaGreat
open Go Go.RowKit

section
variable {F : List Nat} {b : Nat} {c : CoreC} {L : LogC} {w : World}
theorem role_any (h : RCore w F b c L) : Calls Tryz.prog 11 #[.pointer (some ⟨b, 0, none⟩)] w fun e w' => e = .returned (.int .i64 c.role) ∧ w' = w := by
  have k : w.cell? ⟨b, 5, none⟩ = some (.int .i64 c.role) := by rw [cellsOf h.blk]; rfl
  clear h
  go_enter Tryz.func11, Tryz.ntmps11
  go_wp2
  go_ret
  exact ⟨rfl, rfl⟩
theorem termOf_any (h : RCore w F b c L) : Calls Tryz.prog 21 #[.pointer (some ⟨b, 0, none⟩)] w fun e w' => e = .returned (.int .i64 c.term) ∧ w' = w := by
  have k : w.cell? ⟨b, 1, none⟩ = some (.int .i64 c.term) := by rw [cellsOf h.blk]; rfl
  clear h
  go_enter Tryz.func21, Tryz.ntmps21
  go_wp2
  go_ret
  exact ⟨rfl, rfl⟩
theorem commit_any (h : RCore w F b c L) : Calls Tryz.prog 19 #[.pointer (some ⟨b, 0, none⟩)] w fun e w' => e = .returned (.int .i64 c.commit) ∧ w' = w := by
  have k : w.cell? ⟨b, 4, none⟩ = some (.int .i64 c.commit) := by rw [cellsOf h.blk]; rfl
  clear h
  go_enter Tryz.func19, Tryz.ntmps19
  go_wp2
  go_ret
  exact ⟨rfl, rfl⟩
theorem lead_any (h : RCore w F b c L) : Calls Tryz.prog 20 #[.pointer (some ⟨b, 0, none⟩)] w fun e w' => e = .returned (.int .i64 c.lead) ∧ w' = w := by
  have k : w.cell? ⟨b, 6, none⟩ = some (.int .i64 c.lead) := by rw [cellsOf h.blk]; rfl
  clear h
  go_enter Tryz.func20, Tryz.ntmps20
  go_wp2
  go_ret
  exact ⟨rfl, rfl⟩
theorem log_any (h : RCore w F b c L) : Calls Tryz.prog 16 #[.pointer (some ⟨b, 0, none⟩)] w fun e w' => e = .returned (.pointer (some ⟨c.lb, 0, none⟩)) ∧ w' = w := by
  have k : w.cell? ⟨b, 3, none⟩ = some (.pointer (some ⟨c.lb, 0, none⟩)) := by rw [cellsOf h.blk]; rfl
  clear h
  go_enter Tryz.func16, Tryz.ntmps16
  go_wp2
  go_ret
  exact ⟨rfl, rfl⟩
theorem patience_any (h : RCore w F b c L) (h0 : 0 ≤ c.n) (h1 : c.n ≤ 1000000) : Calls Tryz.prog 47 #[.pointer (some ⟨b, 0, none⟩)] w fun e w' => e = .returned (.int .i64 (10 + 2 * c.n)) ∧ w' = w := by
  have k : w.cell? ⟨b, 0, none⟩ = some (.int .i64 c.n) := by rw [cellsOf h.blk]; rfl
  clear h
  go_enter Tryz.func47, Tryz.ntmps47
  go_wp2
  go_ret
  exact ⟨rfl, rfl⟩
theorem RCore.narrow (h : RCore w F b c L) {F' : List Nat} (h1 : ∀ x ∈ F', x ∈ F) (h2 : ∀ x ∈ b :: foot c L, x ∈ F') : RCore w F' b c L := by
  have q : ∀ x, x < w.heap.size → x ∉ F → x ∉ F' := fun x _ hx hy => hx (h1 x hy)
  have hr := h.rest
  exact ⟨h.blk, ⟨⟨hr.log.log, hr.log.wf, hr.log.v.mono q, hr.log.l.mono q, fun e he => (hr.log.d e he).mono q, fun x hx => h2 x (List.mem_cons_of_mem _ (by simp [foot] at hx ⊢; grind))⟩, hr.yes, ⟨hr.snap.v.mono q, hr.snap.l.mono q, hr.snap.d.mono q⟩, hr.cv.mono q, hr.cl.mono q, hr.cd, hr.map, hr.peers, hr.nod, hr.out,
    fun m hm => ⟨⟨(hr.outs m hm).es.n, (hr.outs m hm).es.sl.mono q, fun e he => ((hr.outs m hm).es.d e he).mono q⟩, (hr.outs m hm).data.mono q, (hr.outs m hm).v.mono q, (hr.outs m hm).l.mono q⟩, fun x hx => h2 x (List.mem_cons_of_mem _ hx), hr.apart⟩, h2 b (by simp), h.b0⟩
def CoreC.cleared (c : CoreC) : CoreC := { c with oa := none, on := 0, oc := 0, outs := [] }
/-- What has been sent is taken away. -/
theorem out_any (h : RCore w F b c L) : Calls Tryz.prog 10 #[.pointer (some ⟨b, 0, none⟩)] w fun e w' => e = .returned (.slice c.oa c.on c.oc) ∧ RCore w' F b c.cleared L ∧ Chg [b] w w' := by
  have k : w.cell? ⟨b, 20, none⟩ = some (.slice c.oa c.on c.oc) := by rw [cellsOf h.blk]; rfl
  have hf := freeOf h.blk
  have hlt := ltOf h.blk
  have H := Lib.hid h
  clear h
  go_enter Tryz.func10, Tryz.ntmps10
  go_wp2
  go_ret
  have hC : Chg [b] w (w.setCell ⟨b, 20, none⟩ (.slice none 0 0)) := (Chg.refl _ w).setCell (by simp) _
  exact ⟨rfl, H.out.setOut (hC.mono (by simp)) (Ext.refl _ _) (by rw [heap_set H.out.blk]; rfl) (by simpa [msgCells] using World.ownsRow_nil _ 0 36 14) rfl (by simp) (by simp [own, Value.ownBlock]), hC⟩
end

set_option maxRecDepth 100000 in
set_option maxHeartbeats 2000000 in
theorem tick_any (F : List Nat) (b : Nat) (c : CoreC) (L : LogC) (w : World) (h : RCore w F b c L) (hF : ∀ x ∈ F, x < w.heap.size) (hfit : Fit c L) (ht1 : c.term < 1099511627776)
    (hrole : c.role ≠ 3) (hn0 : 0 ≤ c.n) (hn1 : c.n ≤ 1000000) (hq0 : 0 ≤ c.quiet) (hq1 : c.quiet ≤ 1000000000) (hv : hasI L.vs c.n = true) :
    Calls Tryz.prog 26 #[.pointer (some ⟨b, 0, none⟩)] w fun e w' => e = .returned (.tuple #[]) ∧
      ((c.quiet + 1 < 10 + 2 * c.n ∧ RCore w' F b { c with quiet := c.quiet + 1 } L ∧ Upd F F w w') ∨
       (10 + 2 * c.n ≤ c.quiet + 1 ∧ ∃ w1, RCore w1 F b { c with quiet := c.quiet + 1 } L ∧ Upd F F w w1 ∧ Ahead w1 w' F b { c with quiet := c.quiet + 1 } L)) := by
  have hc := cellsOf h.blk
  have hf := freeOf h.blk
  have hlt := ltOf h.blk
  unfold CoreC.cells at hc
  have hwr : IntKind.i64.wrap (c.quiet + 1) = c.quiet + 1 := IntWalk.i64_in _ (by omega)
  have hr3 : (c.role == 3) = false := by simp [hrole]
  have H := Lib.hid h
  have Hfit := Lib.hid hfit
  have HF := Lib.hid hF
  have Hv := Lib.hid hv
  clear h hfit hF hrole hv
  go_enter Tryz.func26, Tryz.ntmps26
  go_wp2_with fail
  obtain ⟨W, hW⟩ : ∃ W, W = w.setCell ⟨b, 7, none⟩ (.int .i64 (c.quiet + 1)) := ⟨_, rfl⟩
  rw [← hW]
  have hC : Chg [b] w W := by rw [hW]; exact (Chg.refl _ w).setCell (by simp) _
  have hR : RCore W F b { c with quiet := c.quiet + 1 } L := H.out.nums hC c.n c.term c.vote c.commit c.role c.lead (c.quiet + 1) c.dirty c.whole (by rw [hW, heap_set H.out.blk]; rfl)
  have HU := Lib.hid (Upd.of hC (F := F) (by simpa using H.out.bF))
  have HR := Lib.hid hR
  have HFW := Lib.hid (HU.out.lt HF.out)
  have k7 : W.cell? ⟨b, 7, none⟩ = some (.int .i64 (c.quiet + 1)) := by rw [cellsOf hR.blk]; rfl
  have k0 : W.cell? ⟨b, 0, none⟩ = some (.int .i64 c.n) := by rw [cellsOf hR.blk]; rfl
  have k1 : W.cell? ⟨b, 1, none⟩ = some (.int .i64 c.term) := by rw [cellsOf hR.blk]; rfl
  have hltW := ltOf hR.blk
  have HP := Lib.hid (patience_any (hR.below ((Below.refl _ _).drew)) hn0 hn1)
  clear hW hC hR hc hf hr3 hwr hlt H
  go_region_held3 (fun W' => W'.cell? ⟨b, 7, none⟩ = some (.int .i64 (c.quiet + 1)))
    (first | (exact k7))
    ((go_at_call 47; refine HP.out.mono ?_; rintro e w1 ⟨rfl, rfl⟩))
  by_cases hq : c.quiet + 1 < 10 + 2 * c.n
  · have hd : decide (c.quiet + 1 < 10 + 2 * c.n) = true := by simp [hq]
    go_wp2_with fail
    go_end0
    exact ⟨rfl, .inl ⟨hq, HR.out.below (Below.refl _ _).drew, HU.out.trans (Upd.below (Below.refl _ _).drew)⟩⟩
  · have hd : decide (c.quiet + 1 < 10 + 2 * c.n) = false := by simp [hq]
    go_wp2_with fail
    have hbd : Below W.heap.size W W.drew := (Below.refl _ _).drew
    have hbd2 : Below W.heap.size W W.drew.drew := hbd.drew
    have HC := Lib.hid (cconf_any F b _ L W.drew.drew (HR.out.below hbd2) Hfit.out.k Hfit.out.v1 Hfit.out.l1)
    have ht1' : decide (c.term < 1099511627776) = true := by simp [ht1]
    have j0 : W.drew.cell? ⟨b, 0, none⟩ = some (.int .i64 c.n) := k0
    have j1 : W.drew.cell? ⟨b, 1, none⟩ = some (.int .i64 c.term) := k1
    go_region_held3 (fun W' => W'.cell? ⟨b, 0, none⟩ = some (.int .i64 c.n) ∧ W'.cell? ⟨b, 1, none⟩ = some (.int .i64 c.term))
      (first | (exact ⟨j0, j1⟩) | (exact ⟨(hb1.cell (p := ⟨b, 0, none⟩) hltW).trans k0, (hb1.cell (p := ⟨b, 1, none⟩) hltW).trans k1⟩) | (exact ⟨(hb2.cell (p := ⟨b, 0, none⟩) (by show b < _; omega)).trans ((hb1.cell (p := ⟨b, 0, none⟩) hltW).trans k0), (hb2.cell (p := ⟨b, 1, none⟩) (by show b < _; omega)).trans ((hb1.cell (p := ⟨b, 1, none⟩) hltW).trans k1)⟩))
      ((first | (go_at_call 49; refine HC.out.mono ?_; rintro e w1 ⟨va', vc', la', lc', rfl, hr1, hr2, hb1⟩; have hs1 := hb1.size; simp only [size_drew] at hs1) | (go_at_call 48; refine (voter_any _ _ _ _ _ _ _ L.vs c.n _ hr1 (by have := Hfit.out.v1; omega)).mono ?_; rw [Hv.out]; rintro e w2 ⟨rfl, hb2⟩)))
    have hbb : Below W.heap.size W w2 := (hbd2.trans hb1).trans (hb2.mono hs1)
    have HR2 := Lib.hid (HR.out.below hbb)
    have HU2 := Lib.hid (HU.out.trans (Upd.below hbb))
    have hf' : Hid (Fit { c with quiet := c.quiet + 1 } L) := Lib.hid ⟨Hfit.out.k, Hfit.out.v0, Hfit.out.v1, Hfit.out.l1, Hfit.out.d, Hfit.out.few, Hfit.out.t0, Hfit.out.tl, Hfit.out.full, Hfit.out.many⟩
    have HA := Lib.hid (askAhead_any F b _ L w2 HR2.out (HU2.out.lt HF.out) hf'.out ht1)
    clear hbb hb1 hb2 hr1 hr2 hbd hbd2 HC HR k0 k1 k7 j0 j1
    go_wp2_with fail
    refine HA.out.mono ?_
    rintro e w3 ⟨rfl, hA3⟩
    have HA3 := Lib.hid hA3
    clear hA3 HA
    go_wp2_with fail
    go_end0
    exact ⟨rfl, .inr ⟨by omega, w2, HR2.out, HU2.out, HA3.out⟩⟩
end Go.Proofs.YtjbnmamgfpnccaaGreat
