/- ask. -/
import Derived.Test.YtjbnmamgfpnccaaGreatK13
import Derived.Test.YtjbnmamgfpnccaaGreatT
namespace Go.Proofs.YtjbnmamgfpnccaaGreat
open Go Go.RowKit Go.Sort

def granted (c : CoreC) (L : LogC) (m : MsgC) : Bool := (c.vote == 0 || c.vote == m.frm) && L.newer m.index m.logTerm
def CoreC.voted (c : CoreC) (L : LogC) (m : MsgC) : CoreC := if granted c L m then { c with vote := m.frm, quiet := 0 } else c
def sayMsg (to : Int) (ok : Bool) : MsgC := ⟨4, 0, to, 0, 0, 0, 0, ok, .nil, 0, .nil, false, .nil, .nil⟩
theorem RMsg.say (w : World) (F : List Nat) (to : Int) (ok : Bool) : RMsg w F (sayMsg to ok) :=
  ⟨⟨rfl, RSl.nil _ _ _, by simp [sayMsg, SE.nil]⟩, ⟨rfl, RSl.nil _ _ _⟩, ⟨rfl, RSl.nil _ _ _⟩, ⟨rfl, RSl.nil _ _ _⟩⟩

set_option maxRecDepth 100000 in
set_option maxHeartbeats 2000000 in
theorem ask_any (F : List Nat) (b : Nat) (c : CoreC) (L : LogC) (m : MsgC) (w : World) (h : RCore w F b c L) (hfew : c.outs.length < 1000000) :
    Calls Tryz.prog 69 #[.pointer (some ⟨b, 0, none⟩), .agg m.cells.toArray] w fun e w' => e = .returned (.tuple #[]) ∧
      ∃ F' oa on oc, RCore w' F' b ((c.voted L m).withOut oa on oc [(sayMsg m.frm (granted c L m)).sent (c.voted L m)]) L ∧ Upd F F' w w' := by
  obtain ⟨kind, frm, to, term, idx, lt, cm, ok, es, off, data, last, v, l⟩ := m
  unfold MsgC.cells
  dsimp only
  obtain ⟨W, hW⟩ : ∃ W, W = w.alloc (.cells #[.int .i64 kind, .int .i64 frm, .int .i64 to, .int .i64 term, .int .i64 idx, .int .i64 lt, .int .i64 cm, .bool ok, .slice es.a es.n es.c, .int .i64 off, .slice data.a data.n data.c, .bool last, .slice v.a v.n v.c, .slice l.a l.n l.c] 36) := ⟨_, rfl⟩
  have hB0 : Below w.heap.size w W := by rw [hW]; exact (Below.refl _ w).alloc (Nat.le_refl _) _
  have hbox : W.heap[w.heap.size]? = some (.cells #[.int .i64 kind, .int .i64 frm, .int .i64 to, .int .i64 term, .int .i64 idx, .int .i64 lt, .int .i64 cm, .bool ok, .slice es.a es.n es.c, .int .i64 off, .slice data.a data.n data.c, .bool last, .slice v.a v.n v.c, .slice l.a l.n l.c] 36 (0, 0)) := by rw [hW, heap_alloc, if_pos rfl]
  have hsz : W.heap.size = w.heap.size + 1 := by rw [hW, size_alloc]
  have hR := h.below hB0
  have kc := cellsOf hR.blk
  have k2 : W.cell? ⟨b, 2, none⟩ = some (.int .i64 c.vote) := by rw [kc]; rfl
  have k3 : W.cell? ⟨b, 3, none⟩ = some (.pointer (some ⟨c.lb, 0, none⟩)) := by rw [kc]; rfl
  have b1 : W.cell? ⟨w.heap.size, 1, none⟩ = some (.int .i64 frm) := by rw [cellsOf hbox]; rfl
  have b4 : W.cell? ⟨w.heap.size, 4, none⟩ = some (.int .i64 idx) := by rw [cellsOf hbox]; rfl
  have b5 : W.cell? ⟨w.heap.size, 5, none⟩ = some (.int .i64 lt) := by rw [cellsOf hbox]; rfl
  have hltb := ltOf hR.blk
  have hltx := ltOf hbox
  have r2 := cell_regrown k2
  have r3 := cell_regrown k3
  have r1 := cell_regrown b1
  have r4 := cell_regrown b4
  have r5 := cell_regrown b5
  have HN := Lib.hid (fun (d : Nat) (os : Array Obj) => Calls.regrown_of (newer_any c.lb L idx lt (grow (redrawn W d) os) (hR.below (below_regrown W d os)).rest.log.log))
  have HG : Hid (granted c L ⟨kind, frm, to, term, idx, lt, cm, ok, es, off, data, last, v, l⟩ = ((c.vote == 0 || c.vote == frm) && L.newer idx lt)) := Lib.hid rfl
  have HR := Lib.hid hR
  have HU := Lib.hid (Upd.below (F := F) hB0)
  have hneb : b ≠ w.heap.size := by have := ltOf h.blk; omega
  have Hb1 := Lib.hid b1
  clear hR kc hbox h hB0 k2 k3 b1 b4 b5
  generalize hnw : L.newer idx lt = nw at *
  clear hnw
  have key : (granted c L ⟨kind, frm, to, term, idx, lt, cm, ok, es, off, data, last, v, l⟩ = true ∧ nw = true ∧ ((c.vote == 0) = true ∨ ((c.vote == 0) = false ∧ (c.vote == frm) = true))) ∨
      (granted c L ⟨kind, frm, to, term, idx, lt, cm, ok, es, off, data, last, v, l⟩ = false ∧ (((c.vote == 0) = true ∧ nw = false) ∨ ((c.vote == 0) = false ∧ (c.vote == frm) = true ∧ nw = false) ∨ ((c.vote == 0) = false ∧ (c.vote == frm) = false))) := by
    rw [HG.out]
    cases nw <;> cases (c.vote == 0) <;> cases (c.vote == frm) <;> simp
  rcases key with ⟨HGt, rfl, hv0 | ⟨hv0, hv1⟩⟩ | ⟨HGf, ⟨hv0, rfl⟩ | ⟨hv0, hv1, rfl⟩ | ⟨hv0, hv1⟩⟩
  · go_enter Tryz.func69, Tryz.ntmps69
    go_wp2_with fail
    rw [← hW]
    clear hW
    refine wp_region_quiet_below (by kernel_rfl) (by kernel_rfl) ?_
    repeat (go_big_quiet_step (exact HN.out _ _))
    refine wpQuiet_nil ?_
    intro wf hwf
    obtain ⟨p, hp⟩ := hwf
    have hbf : Below W.heap.size W wf := by rw [hp]; exact below_regrown W p.d p.os
    have b1 : wf.cell? ⟨w.heap.size, 1, none⟩ = some (.int .i64 frm) := (hbf.cell (p := ⟨w.heap.size, 1, none⟩) hltx).trans Hb1.out
    have hltf : w.heap.size < wf.heap.size := Nat.lt_of_lt_of_le hltx hbf.size
    have hR := HR.out.below hbf
    have hU := Lib.hid (HU.out.trans (Upd.below hbf))
    have HRf := Lib.hid hR
    have hf := freeOf hR.blk
    have hc := cellsOf hR.blk
    unfold CoreC.cells at hc
    have hltbf := ltOf hR.blk
    clear hp hbf r1 r2 r3 r4 r5 HN hR
    obtain ⟨W3, hW3⟩ : ∃ W3, W3 = ((wf.setCell ⟨b, 2, none⟩ (.int .i64 frm)).setCell ⟨b, 7, none⟩ (.int .i64 0)) := ⟨_, rfl⟩
    have hC : Chg [b] wf W3 := by rw [hW3]; exact ((Chg.refl _ wf).setCell (by simp) _).setCell (by simp) _
    have hR3 : RCore W3 F b (c.voted L ⟨kind, frm, to, term, idx, lt, cm, ok, es, off, data, last, v, l⟩) L := by
      unfold CoreC.voted
      rw [HGt, if_pos rfl]
      exact HRf.out.nums hC c.n c.term frm c.commit c.role c.lead 0 c.dirty c.whole (by rw [hW3, heap_set (heap_set HRf.out.blk)]; rfl)
    have hc1 : W3.cell? ⟨w.heap.size, 1, none⟩ = some (.int .i64 frm) := (hC.cell (p := ⟨w.heap.size, 1, none⟩) hltf (by simp; exact fun e => hneb e.symm)).trans b1
    have HS := Lib.hid (send_any F b _ L (sayMsg frm true) W3 hR3 (RMsg.say _ _ _ _) (by unfold CoreC.voted; split <;> exact hfew))
    have HU3 := Lib.hid (hU.out.trans (Upd.of hC (by simpa using HRf.out.bF)))
    have HW3 := Lib.hid hW3
    rw [hW3] at hc1
    clear hR3 hC hW3
    go_wp2_with fail
    rw [← HW3.out]
    refine HS.out.mono ?_
    rintro e w5 ⟨rfl, F5, oa, on, oc, hR5, hU5⟩
    have HR5 := Lib.hid hR5
    have HU5 := Lib.hid (HU3.out.trans hU5)
    clear hR5 hU5 HS
    go_wp2
    go_end0
    exact ⟨rfl, F5, oa, on, oc, by rw [HGt]; exact HR5.out, HU5.out⟩
  · go_enter Tryz.func69, Tryz.ntmps69
    go_wp2_with fail
    rw [← hW]
    clear hW
    refine wp_region_quiet_below (by kernel_rfl) (by kernel_rfl) ?_
    repeat (go_big_quiet_step (exact HN.out _ _))
    refine wpQuiet_nil ?_
    intro wf hwf
    obtain ⟨p, hp⟩ := hwf
    have hbf : Below W.heap.size W wf := by rw [hp]; exact below_regrown W p.d p.os
    have b1 : wf.cell? ⟨w.heap.size, 1, none⟩ = some (.int .i64 frm) := (hbf.cell (p := ⟨w.heap.size, 1, none⟩) hltx).trans Hb1.out
    have hltf : w.heap.size < wf.heap.size := Nat.lt_of_lt_of_le hltx hbf.size
    have hR := HR.out.below hbf
    have hU := Lib.hid (HU.out.trans (Upd.below hbf))
    have HRf := Lib.hid hR
    have hf := freeOf hR.blk
    have hc := cellsOf hR.blk
    unfold CoreC.cells at hc
    have hltbf := ltOf hR.blk
    clear hp hbf r1 r2 r3 r4 r5 HN hR
    obtain ⟨W3, hW3⟩ : ∃ W3, W3 = ((wf.setCell ⟨b, 2, none⟩ (.int .i64 frm)).setCell ⟨b, 7, none⟩ (.int .i64 0)) := ⟨_, rfl⟩
    have hC : Chg [b] wf W3 := by rw [hW3]; exact ((Chg.refl _ wf).setCell (by simp) _).setCell (by simp) _
    have hR3 : RCore W3 F b (c.voted L ⟨kind, frm, to, term, idx, lt, cm, ok, es, off, data, last, v, l⟩) L := by
      unfold CoreC.voted
      rw [HGt, if_pos rfl]
      exact HRf.out.nums hC c.n c.term frm c.commit c.role c.lead 0 c.dirty c.whole (by rw [hW3, heap_set (heap_set HRf.out.blk)]; rfl)
    have hc1 : W3.cell? ⟨w.heap.size, 1, none⟩ = some (.int .i64 frm) := (hC.cell (p := ⟨w.heap.size, 1, none⟩) hltf (by simp; exact fun e => hneb e.symm)).trans b1
    have HS := Lib.hid (send_any F b _ L (sayMsg frm true) W3 hR3 (RMsg.say _ _ _ _) (by unfold CoreC.voted; split <;> exact hfew))
    have HU3 := Lib.hid (hU.out.trans (Upd.of hC (by simpa using HRf.out.bF)))
    have HW3 := Lib.hid hW3
    rw [hW3] at hc1
    clear hR3 hC hW3
    go_wp2_with fail
    rw [← HW3.out]
    refine HS.out.mono ?_
    rintro e w5 ⟨rfl, F5, oa, on, oc, hR5, hU5⟩
    have HR5 := Lib.hid hR5
    have HU5 := Lib.hid (HU3.out.trans hU5)
    clear hR5 hU5 HS
    go_wp2
    go_end0
    exact ⟨rfl, F5, oa, on, oc, by rw [HGt]; exact HR5.out, HU5.out⟩
  · go_enter Tryz.func69, Tryz.ntmps69
    go_wp2_with fail
    rw [← hW]
    clear hW
    refine wp_region_quiet_below (by kernel_rfl) (by kernel_rfl) ?_
    repeat (go_big_quiet_step (exact HN.out _ _))
    refine wpQuiet_nil ?_
    intro wf hwf
    obtain ⟨p, hp⟩ := hwf
    have hbf : Below W.heap.size W wf := by rw [hp]; exact below_regrown W p.d p.os
    have b1 : wf.cell? ⟨w.heap.size, 1, none⟩ = some (.int .i64 frm) := (hbf.cell (p := ⟨w.heap.size, 1, none⟩) hltx).trans Hb1.out
    have hltf : w.heap.size < wf.heap.size := Nat.lt_of_lt_of_le hltx hbf.size
    have hR := HR.out.below hbf
    have hU := Lib.hid (HU.out.trans (Upd.below hbf))
    have HRf := Lib.hid hR
    have hf := freeOf hR.blk
    have hc := cellsOf hR.blk
    unfold CoreC.cells at hc
    have hltbf := ltOf hR.blk
    clear hp hbf r1 r2 r3 r4 r5 HN hR
    have hR3 : RCore wf F b (c.voted L ⟨kind, frm, to, term, idx, lt, cm, ok, es, off, data, last, v, l⟩) L := by
      unfold CoreC.voted
      rw [HGf, if_neg (by simp)]
      exact HRf.out
    have HS := Lib.hid (send_any F b _ L (sayMsg frm false) wf hR3 (RMsg.say _ _ _ _) (by unfold CoreC.voted; split <;> exact hfew))
    clear hR3
    go_wp2_with fail
    refine HS.out.mono ?_
    rintro e w5 ⟨rfl, F5, oa, on, oc, hR5, hU5⟩
    have HR5 := Lib.hid hR5
    have HU5 := Lib.hid (hU.out.trans hU5)
    clear hR5 hU5 HS
    go_wp2
    go_end0
    exact ⟨rfl, F5, oa, on, oc, by rw [HGf]; exact HR5.out, HU5.out⟩
  · go_enter Tryz.func69, Tryz.ntmps69
    go_wp2_with fail
    rw [← hW]
    clear hW
    refine wp_region_quiet_below (by kernel_rfl) (by kernel_rfl) ?_
    repeat (go_big_quiet_step (exact HN.out _ _))
    refine wpQuiet_nil ?_
    intro wf hwf
    obtain ⟨p, hp⟩ := hwf
    have hbf : Below W.heap.size W wf := by rw [hp]; exact below_regrown W p.d p.os
    have b1 : wf.cell? ⟨w.heap.size, 1, none⟩ = some (.int .i64 frm) := (hbf.cell (p := ⟨w.heap.size, 1, none⟩) hltx).trans Hb1.out
    have hltf : w.heap.size < wf.heap.size := Nat.lt_of_lt_of_le hltx hbf.size
    have hR := HR.out.below hbf
    have hU := Lib.hid (HU.out.trans (Upd.below hbf))
    have HRf := Lib.hid hR
    have hf := freeOf hR.blk
    have hc := cellsOf hR.blk
    unfold CoreC.cells at hc
    have hltbf := ltOf hR.blk
    clear hp hbf r1 r2 r3 r4 r5 HN hR
    have hR3 : RCore wf F b (c.voted L ⟨kind, frm, to, term, idx, lt, cm, ok, es, off, data, last, v, l⟩) L := by
      unfold CoreC.voted
      rw [HGf, if_neg (by simp)]
      exact HRf.out
    have HS := Lib.hid (send_any F b _ L (sayMsg frm false) wf hR3 (RMsg.say _ _ _ _) (by unfold CoreC.voted; split <;> exact hfew))
    clear hR3
    go_wp2_with fail
    refine HS.out.mono ?_
    rintro e w5 ⟨rfl, F5, oa, on, oc, hR5, hU5⟩
    have HR5 := Lib.hid hR5
    have HU5 := Lib.hid (hU.out.trans hU5)
    clear hR5 hU5 HS
    go_wp2
    go_end0
    exact ⟨rfl, F5, oa, on, oc, by rw [HGf]; exact HR5.out, HU5.out⟩
  · go_enter Tryz.func69, Tryz.ntmps69
    go_wp2_with fail
    rw [← hW]
    clear hW
    refine wp_region_quiet_below (by kernel_rfl) (by kernel_rfl) ?_
    repeat (go_big_quiet_step (exact HN.out _ _))
    refine wpQuiet_nil ?_
    intro wf hwf
    obtain ⟨p, hp⟩ := hwf
    have hbf : Below W.heap.size W wf := by rw [hp]; exact below_regrown W p.d p.os
    have b1 : wf.cell? ⟨w.heap.size, 1, none⟩ = some (.int .i64 frm) := (hbf.cell (p := ⟨w.heap.size, 1, none⟩) hltx).trans Hb1.out
    have hltf : w.heap.size < wf.heap.size := Nat.lt_of_lt_of_le hltx hbf.size
    have hR := HR.out.below hbf
    have hU := Lib.hid (HU.out.trans (Upd.below hbf))
    have HRf := Lib.hid hR
    have hf := freeOf hR.blk
    have hc := cellsOf hR.blk
    unfold CoreC.cells at hc
    have hltbf := ltOf hR.blk
    clear hp hbf r1 r2 r3 r4 r5 HN hR
    have hR3 : RCore wf F b (c.voted L ⟨kind, frm, to, term, idx, lt, cm, ok, es, off, data, last, v, l⟩) L := by
      unfold CoreC.voted
      rw [HGf, if_neg (by simp)]
      exact HRf.out
    have HS := Lib.hid (send_any F b _ L (sayMsg frm false) wf hR3 (RMsg.say _ _ _ _) (by unfold CoreC.voted; split <;> exact hfew))
    clear hR3
    go_wp2_with fail
    refine HS.out.mono ?_
    rintro e w5 ⟨rfl, F5, oa, on, oc, hR5, hU5⟩
    have HR5 := Lib.hid hR5
    have HU5 := Lib.hid (hU.out.trans hU5)
    clear hR5 hU5 HS
    go_wp2
    go_end0
    exact ⟨rfl, F5, oa, on, oc, by rw [HGf]; exact HR5.out, HU5.out⟩
end Go.Proofs.YtjbnmamgfpnccaaGreat
