/- append, at a follower: a gap; nothing new; entries that come. -/
import Derived.Test.YtjbnmamgfpnccaaGreatF4
namespace Go.Proofs.YtjbnmamgfpnccaaGreat
open Go Go.RowKit Go.Sort

def gotMsg (to idx : Int) (ok : Bool) : MsgC := ⟨6, 0, to, 0, idx, 0, 0, ok, .nil, 0, .nil, false, .nil, .nil⟩
theorem RMsg.got (w : World) (F : List Nat) (to idx : Int) (ok : Bool) : RMsg w F (gotMsg to idx ok) :=
  ⟨⟨rfl, RSl.nil _ _ _, by simp [gotMsg, SE.nil]⟩, ⟨rfl, RSl.nil _ _ _⟩, ⟨rfl, RSl.nil _ _ _⟩, ⟨rfl, RSl.nil _ _ _⟩⟩
theorem _root_.Go.RowKit.Below.lt' {n : Nat} {w w' : World} (h : Below n w w') {b : Nat} (hb : b < w.heap.size) : b < w'.heap.size := Nat.lt_of_lt_of_le hb h.size
theorem RE.upd' {F F' : List Nat} {w w' : World} {s : SE} (h : RE w F s) (u : Upd F F' w w') : RE w' F' s := h.upd u

set_option maxRecDepth 100000 in
set_option maxHeartbeats 4000000 in
theorem appendGap_any (F : List Nat) (b : Nat) (c : CoreC) (L : LogC) (m : MsgC) (w : World) (h : RCore w F b c L) (hF : ∀ x ∈ F, x < w.heap.size) (hm : RE w F m.es) (hrole : c.role ≠ 3) (hL0 : 0 ≤ L.i) (hi : L.i ≤ m.index) (hi1 : m.index ≤ 1099511627776) (hen : m.es.n ≤ 1000000) (hfew : c.outs.length < 1000000)
    (hhas : L.has m.index m.logTerm = false) :
    Calls Tryz.prog 71 #[.pointer (some ⟨b, 0, none⟩), .agg m.cells.toArray] w fun e w' => e = .returned (.tuple #[]) ∧
      ∃ F' oa on oc, RCore w' F' b ((c.heard m.frm).withOut oa on oc [(gotMsg m.frm (max (min (m.index - 1) L.last.1) 0) false).sent (c.heard m.frm)]) L ∧ Upd F F' w w' := by
  obtain ⟨W, hW⟩ : ∃ W, W = w.alloc (.cells m.cells.toArray 36) := ⟨_, rfl⟩
  have hB0 : Below w.heap.size w W := by rw [hW]; exact (Below.refl _ w).alloc (Nat.le_refl _) _
  have hbox : W.heap[w.heap.size]? = some (.cells m.cells.toArray 36 (0, 0)) := by rw [hW, heap_alloc, if_pos rfl]
  have hR := h.below hB0
  have HH := Lib.hid (heard_any F b c L m W hR hrole)
  have HM := Lib.hid (hm.below hB0)
  have hneb : w.heap.size ≠ b := by have := ltOf h.blk; omega
  have HFlt := Lib.hid hF
  have HB0 := Lib.hid hB0
  have Hwf := Lib.hid (LogC.wf_ab h.rest.log.wf)
  have Hhas := Lib.hid hhas
  obtain ⟨kind, frm, to, term, idx, lt, cm, ok, es, off, data, last, v, l⟩ := m
  unfold MsgC.cells at hW hbox HH ⊢
  dsimp only at *
  have hw1 : IntKind.i64.wrap (idx + (es.n : Int)) = idx + (es.n : Int) := IntWalk.i64_in _ (by omega)
  have hge : decide (idx ≥ L.i) = true := by simp [hi]
  have hge2 : decide (L.i ≤ idx) = true := by simp [hi]
  have hltx := ltOf hbox
  have HBox := Lib.hid hbox
  clear h hR hB0 hF hm hrole hbox hhas
  go_enter Tryz.func71, Tryz.ntmps71
  go_wp2_with fail
  rw [show w.alloc (.cells #[.int .i64 kind, .int .i64 frm, .int .i64 to, .int .i64 term, .int .i64 idx, .int .i64 lt, .int .i64 cm, .bool ok, .slice es.a es.n es.c, .int .i64 off, .slice data.a data.n data.c, .bool last, .slice v.a v.n v.c, .slice l.a l.n l.c] 36) = W from hW.symm]
  clear hW
  refine HH.out.mono ?_
  rintro e w1 ⟨rfl, hR1, hU1, hC1⟩
  have hbox1 := hC1.get HBox.out (by simpa using hneb)
  have HR1 := Lib.hid hR1
  have HM1 := Lib.hid (HM.out.chg hC1 (by simpa using hR1.bF))
  have HU1 := Lib.hid ((Upd.below HB0.out).trans hU1)
  have HBox1 := Lib.hid hbox1
  have kx := cellsOf hbox1
  have hltx1 := ltOf hbox1
  have k3 : w1.cell? ⟨b, 3, none⟩ = some (.pointer (some ⟨c.lb, 0, none⟩)) := by rw [cellsOf hR1.blk]; rfl
  have hltb := ltOf hR1.blk
  have HBa := Lib.hid (base_any c.lb L w1 hR1.rest.log.log.blk)
  clear hbox1 hR1 hU1 hC1 HH HM HBox HB0
  go_wp2_with fail
  refine HBa.out.mono ?_
  rintro e w2 ⟨rfl, hb2⟩
  have hz2 := hb2.size
  have HR2 := Lib.hid (HR1.out.below hb2)
  have HM2 := Lib.hid (HM1.out.below hb2)
  have HU2 := Lib.hid (HU1.out.trans (Upd.below hb2))
  have hbox2 := (hb2.block _ hltx1).trans HBox1.out
  have HBox2 := Lib.hid hbox2
  clear hb2 HBa HR1 HM1 HU1 HBox1 kx k3
  have kx2 := cellsOf hbox2
  have hltx2 := ltOf hbox2
  have rb : ∀ (d : Nat) (os : Array Obj) (i : Nat), (grow (redrawn w2 d) os).cell? ⟨w.heap.size, i, none⟩ = #[Value.int .i64 kind, .int .i64 frm, .int .i64 to, .int .i64 term, .int .i64 idx, .int .i64 lt, .int .i64 cm, .bool ok, .slice es.a es.n es.c, .int .i64 off, .slice data.a data.n data.c, .bool last, .slice v.a v.n v.c, .slice l.a l.n l.c][i]? :=
    fun d os i => ((below_regrown w2 d os).cell (p := ⟨w.heap.size, i, none⟩) hltx2).trans (cellsOf HBox2.out i)
  have r3 := cell_regrown (show w2.cell? ⟨b, 3, none⟩ = some (.pointer (some ⟨c.lb, 0, none⟩)) by rw [cellsOf HR2.out.blk]; rfl)
  have HHas := Lib.hid (fun (d : Nat) (os : Array Obj) => Calls.regrown_of (has_any c.lb L idx lt (grow (redrawn w2 d) os) (HR2.out.below (below_regrown w2 d os)).rest.log.log Hwf.out))
  rw [Hhas.out] at HHas
  clear hbox2
  go_wp2_with fail
  refine wp_region_quiet_below (by kernel_rfl) (by kernel_rfl) ?_
  repeat (go_big_quiet_step (exact HHas.out _ _))
  refine wpQuiet_nil ?_
  intro wf hwf
  obtain ⟨p, hp⟩ := hwf
  have hbf : Below w2.heap.size w2 wf := by rw [hp]; exact below_regrown w2 p.d p.os
  have HRf := Lib.hid (HR2.out.below hbf)
  have HMf := Lib.hid (HM2.out.below hbf)
  have HUf := Lib.hid (HU2.out.trans (Upd.below hbf))
  have hboxf := (hbf.block _ hltx2).trans HBox2.out
  have HBoxf := Lib.hid hboxf
  clear hp hbf HHas rb r3 HR2 HM2 HU2 HBox2 kx2
  have kxf := cellsOf hboxf
  have hltxf := ltOf hboxf
  have hltbf := ltOf HRf.out.blk
  clear hboxf
  have hbd : Below wf.heap.size wf wf.drew := (Below.refl _ _).drew
  have HL := Lib.hid (clast_any F b _ L wf.drew (HRf.out.below hbd))
  have j1 : wf.cell? ⟨w.heap.size, 1, none⟩ = some (.int .i64 frm) := by rw [kxf]; rfl
  have j4 : wf.cell? ⟨w.heap.size, 4, none⟩ = some (.int .i64 idx) := by rw [kxf]; rfl
  have hw2 : IntKind.i64.wrap (idx - 1) = idx - 1 := IntWalk.i64_in _ (by omega)
  have HS := Lib.hid (fun (w3 : World) (hb3 : Below wf.drew.heap.size wf.drew w3) => send_any F b _ L (gotMsg frm (max (min (idx - 1) L.last.1) 0) false) w3 ((HRf.out.below hbd).below hb3) (RMsg.got _ _ _ _ _) (show (c.heard frm).outs.length < 1000000 from hfew))
  have hxF : w.heap.size ∉ F := fun hx => by have := HFlt.out _ hx; omega
  clear kxf
  go_wp2_with fail
  go_region_held3 (fun W => W.cell? ⟨w.heap.size, 1, none⟩ = some (.int .i64 frm) ∧ W.cell? ⟨w.heap.size, 4, none⟩ = some (.int .i64 idx))
    (first | (exact ⟨j1, j4⟩) | (exact ⟨(hb3.cell (p := ⟨w.heap.size, 1, none⟩) hltxf).trans j1, (hb3.cell (p := ⟨w.heap.size, 4, none⟩) hltxf).trans j4⟩) | (exact ⟨(hU4.chg.cell (p := ⟨w.heap.size, 1, none⟩) (hb3.lt' hltxf) hxF).trans ((hb3.cell (p := ⟨w.heap.size, 1, none⟩) hltxf).trans j1), (hU4.chg.cell (p := ⟨w.heap.size, 4, none⟩) (hb3.lt' hltxf) hxF).trans ((hb3.cell (p := ⟨w.heap.size, 4, none⟩) hltxf).trans j4)⟩))
    ((first | (go_at_call 86; refine HL.out.mono ?_; rintro e w3 ⟨rfl, hb3⟩) | (go_at_call 36; refine (HS.out w3 hb3).mono ?_; rintro e w4 ⟨rfl, F4, oa, on, oc, hR4, hU4⟩)))
  have hUall := (HUf.out.trans (Upd.below hbd)).trans ((Upd.below hb3).trans hU4)
  clear HL HS
  go_wp2_with fail
  refine bodyPost_ret (v := .tuple #[]) (by simp [results, Tryz.f71]) rfl ?_
  exact ⟨rfl, F4, oa, on, oc, hR4, hUall⟩

set_option maxRecDepth 100000 in
set_option maxHeartbeats 4000000 in
theorem appendNone_any (F : List Nat) (b : Nat) (c : CoreC) (L : LogC) (m : MsgC) (w : World) (h : RCore w F b c L) (hF : ∀ x ∈ F, x < w.heap.size) (hm : RE w F m.es) (hrole : c.role ≠ 3) (hL0 : 0 ≤ L.i) (hi : L.i ≤ m.index) (hi1 : m.index ≤ 1099511627776) (hen : m.es.n ≤ 1000000) (hfew : c.outs.length < 1000000)
    (hhas : L.has m.index m.logTerm = true) (hno : lacks L m.es.es = -1) (hk : ∀ e ∈ m.es.es, e.k ≠ 2) :
    Calls Tryz.prog 71 #[.pointer (some ⟨b, 0, none⟩), .agg m.cells.toArray] w fun e w' => e = .returned (.tuple #[]) ∧
      ∃ F' oa on oc, RCore w' F' b (({ c.heard m.frm with commit := max c.commit (min m.commit (m.index + (m.es.n : Int))) } : CoreC).withOut oa on oc [(gotMsg m.frm (m.index + (m.es.n : Int)) true).sent { c.heard m.frm with commit := max c.commit (min m.commit (m.index + (m.es.n : Int))) }]) L ∧ Upd F F' w w' := by
  obtain ⟨W, hW⟩ : ∃ W, W = w.alloc (.cells m.cells.toArray 36) := ⟨_, rfl⟩
  have hB0 : Below w.heap.size w W := by rw [hW]; exact (Below.refl _ w).alloc (Nat.le_refl _) _
  have hbox : W.heap[w.heap.size]? = some (.cells m.cells.toArray 36 (0, 0)) := by rw [hW, heap_alloc, if_pos rfl]
  have hR := h.below hB0
  have HH := Lib.hid (heard_any F b c L m W hR hrole)
  have HM := Lib.hid (hm.below hB0)
  have hneb : w.heap.size ≠ b := by have := ltOf h.blk; omega
  have HFlt := Lib.hid hF
  have HB0 := Lib.hid hB0
  have Hwf := Lib.hid (LogC.wf_ab h.rest.log.wf)
  have Hhas := Lib.hid hhas
  have Hno := Lib.hid hno
  have Hk := Lib.hid hk
  obtain ⟨kind, frm, to, term, idx, lt, cm, ok, es, off, data, last, v, l⟩ := m
  unfold MsgC.cells at hW hbox HH ⊢
  dsimp only at *
  have hw1 : IntKind.i64.wrap (idx + (es.n : Int)) = idx + (es.n : Int) := IntWalk.i64_in _ (by omega)
  have hge : decide (idx ≥ L.i) = true := by simp [hi]
  have hge2 : decide (L.i ≤ idx) = true := by simp [hi]
  have hltx := ltOf hbox
  have HBox := Lib.hid hbox
  clear h hR hB0 hF hm hrole hbox hhas hno hk
  go_enter Tryz.func71, Tryz.ntmps71
  go_wp2_with fail
  rw [show w.alloc (.cells #[.int .i64 kind, .int .i64 frm, .int .i64 to, .int .i64 term, .int .i64 idx, .int .i64 lt, .int .i64 cm, .bool ok, .slice es.a es.n es.c, .int .i64 off, .slice data.a data.n data.c, .bool last, .slice v.a v.n v.c, .slice l.a l.n l.c] 36) = W from hW.symm]
  clear hW
  refine HH.out.mono ?_
  rintro e w1 ⟨rfl, hR1, hU1, hC1⟩
  have hbox1 := hC1.get HBox.out (by simpa using hneb)
  have HR1 := Lib.hid hR1
  have HM1 := Lib.hid (HM.out.chg hC1 (by simpa using hR1.bF))
  have HU1 := Lib.hid ((Upd.below HB0.out).trans hU1)
  have HBox1 := Lib.hid hbox1
  have kx := cellsOf hbox1
  have hltx1 := ltOf hbox1
  have k3 : w1.cell? ⟨b, 3, none⟩ = some (.pointer (some ⟨c.lb, 0, none⟩)) := by rw [cellsOf hR1.blk]; rfl
  have hltb := ltOf hR1.blk
  have HBa := Lib.hid (base_any c.lb L w1 hR1.rest.log.log.blk)
  clear hbox1 hR1 hU1 hC1 HH HM HBox HB0
  go_wp2_with fail
  refine HBa.out.mono ?_
  rintro e w2 ⟨rfl, hb2⟩
  have hz2 := hb2.size
  have HR2 := Lib.hid (HR1.out.below hb2)
  have HM2 := Lib.hid (HM1.out.below hb2)
  have HU2 := Lib.hid (HU1.out.trans (Upd.below hb2))
  have hbox2 := (hb2.block _ hltx1).trans HBox1.out
  have HBox2 := Lib.hid hbox2
  clear hb2 HBa HR1 HM1 HU1 HBox1 kx k3
  have kx2 := cellsOf hbox2
  have hltx2 := ltOf hbox2
  have rb : ∀ (d : Nat) (os : Array Obj) (i : Nat), (grow (redrawn w2 d) os).cell? ⟨w.heap.size, i, none⟩ = #[Value.int .i64 kind, .int .i64 frm, .int .i64 to, .int .i64 term, .int .i64 idx, .int .i64 lt, .int .i64 cm, .bool ok, .slice es.a es.n es.c, .int .i64 off, .slice data.a data.n data.c, .bool last, .slice v.a v.n v.c, .slice l.a l.n l.c][i]? :=
    fun d os i => ((below_regrown w2 d os).cell (p := ⟨w.heap.size, i, none⟩) hltx2).trans (cellsOf HBox2.out i)
  have r3 := cell_regrown (show w2.cell? ⟨b, 3, none⟩ = some (.pointer (some ⟨c.lb, 0, none⟩)) by rw [cellsOf HR2.out.blk]; rfl)
  have HHas := Lib.hid (fun (d : Nat) (os : Array Obj) => Calls.regrown_of (has_any c.lb L idx lt (grow (redrawn w2 d) os) (HR2.out.below (below_regrown w2 d os)).rest.log.log Hwf.out))
  rw [Hhas.out] at HHas
  clear hbox2
  go_wp2_with fail
  refine wp_region_quiet_below (by kernel_rfl) (by kernel_rfl) ?_
  repeat (go_big_quiet_step (exact HHas.out _ _))
  refine wpQuiet_nil ?_
  intro wf hwf
  obtain ⟨p, hp⟩ := hwf
  have hbf : Below w2.heap.size w2 wf := by rw [hp]; exact below_regrown w2 p.d p.os
  have HRf := Lib.hid (HR2.out.below hbf)
  have HMf := Lib.hid (HM2.out.below hbf)
  have HUf := Lib.hid (HU2.out.trans (Upd.below hbf))
  have hboxf := (hbf.block _ hltx2).trans HBox2.out
  have HBoxf := Lib.hid hboxf
  clear hp hbf HHas rb r3 HR2 HM2 HU2 HBox2 kx2
  have kxf := cellsOf hboxf
  have hltxf := ltOf hboxf
  have hltbf := ltOf HRf.out.blk
  clear hboxf
  have HTk := Lib.hid (takeNone_any F b _ L es wf HRf.out HMf.out Hk.out Hno.out)
  have hmn : min (es.n : Int) (max (L.i - idx) 0) = 0 := by omega
  have hmap : Option.map (fun x : Addr => x.add 0) es.a = es.a := by cases es.a <;> simp [Addr.add]
  go_wp2_with fail
  refine HTk.out.mono ?_
  rintro e w3 ⟨rfl, hb3⟩
  have hz3 := hb3.size
  have hR3 := HRf.out.below hb3
  have hbox3 := (hb3.block _ hltxf).trans HBoxf.out
  have HR3 := Lib.hid hR3
  have HU3 := Lib.hid (HUf.out.trans (Upd.below hb3))
  have k4 : w3.cell? ⟨b, 4, none⟩ = some (.int .i64 c.commit) := by rw [cellsOf hR3.blk]; rfl
  have f4 := freeOf hR3.blk 4
  have hltb3 := ltOf hR3.blk
  have hltx3 := ltOf hbox3
  have x1 : w3.cell? ⟨w.heap.size, 1, none⟩ = some (.int .i64 frm) := by rw [cellsOf hbox3]; rfl
  have x6 : w3.cell? ⟨w.heap.size, 6, none⟩ = some (.int .i64 cm) := by rw [cellsOf hbox3]; rfl
  obtain ⟨W4, hW4⟩ : ∃ W4, W4 = (w3.setCell ⟨b, 4, none⟩ (.int .i64 (max c.commit (min cm (idx + (es.n : Int)))))).drew := ⟨_, rfl⟩
  have hC4 : Chg [b] w3 W4 := by rw [hW4]; exact ((Chg.refl _ w3).setCell (by simp) _).drew
  have hR4 : RCore W4 F b { c.heard frm with commit := max c.commit (min cm (idx + (es.n : Int))) } L := hR3.nums hC4 c.n c.term c.vote (max c.commit (min cm (idx + (es.n : Int)))) 0 frm 0 c.dirty c.whole (by rw [hW4, heap_drew, heap_set hR3.blk]; rfl)
  have x1' := (hC4.cell (p := ⟨w.heap.size, 1, none⟩) hltx3 (by simpa using hneb)).trans x1
  have HS := Lib.hid (send_any F b _ L (gotMsg frm (idx + (es.n : Int)) true) W4 hR4 (RMsg.got _ _ _ _ _) hfew)
  have HU4 := Lib.hid (HU3.out.trans (Upd.of hC4 (by simpa using HR3.out.bF)))
  have HW4 := Lib.hid hW4
  have hltx4 := hC4.lt hltx3
  rw [hW4] at x1' hltx4
  clear hb3 hR3 hbox3 hC4 hR4 hW4 HTk kxf hmn hmap
  go_wp2_with fail
  refine wp_region_still_tail 10 (by kernel_rfl) (by kernel_rfl) ?_
  simp only [List.take_succ_cons, List.take_zero, List.drop_succ_cons, List.drop_zero]
  repeat still_step
  refine wpStill_nil ?_
  change wpList _ _ _ _ _ w3.drew
  go_wp2_with fail
  rw [← HW4.out]
  refine HS.out.mono ?_
  rintro e w5 ⟨rfl, F5, oa, on, oc, hR5, hU5⟩
  go_wp2_with fail
  go_end0
  exact ⟨rfl, F5, oa, on, oc, hR5, HU4.out.trans hU5⟩

set_option maxRecDepth 100000 in
set_option maxHeartbeats 4000000 in
theorem appendSome_any (F : List Nat) (b : Nat) (c : CoreC) (L : LogC) (m : MsgC) (j : Nat) (w : World) (h : RCore w F b c L) (hF : ∀ x ∈ F, x < w.heap.size) (hm : RE w F m.es) (hrole : c.role ≠ 3) (hL0 : 0 ≤ L.i) (hi : L.i ≤ m.index) (hi1 : m.index ≤ 1099511627776) (hen : m.es.n ≤ 1000000) (hfew : c.outs.length < 1000000)
    (hhas : L.has m.index m.logTerm = true) (hj : lacks L m.es.es = j) (hjl : j < m.es.es.length) (hfo : Follow L (m.es.es.drop j)) (hcm : c.commit ≤ L.last.1) (hl1 : L.last.1 + (m.es.es.drop j).length ≤ 1099511627776) (hmany : L.es.length + (m.es.es.drop j).length < 1000000) (hk : ∀ e ∈ m.es.es, e.k ≠ 2) :
    Calls Tryz.prog 71 #[.pointer (some ⟨b, 0, none⟩), .agg m.cells.toArray] w fun e w' => e = .returned (.tuple #[]) ∧
      ∃ F' ev ns d oa on oc, ns.map EntC.ab = (m.es.es.drop j).map EntC.ab ∧ RCore w' F' b (({ c.heard m.frm with dirty := d, commit := max c.commit (min m.commit (m.index + (m.es.n : Int))) } : CoreC).withOut oa on oc [(gotMsg m.frm (m.index + (m.es.n : Int)) true).sent { c.heard m.frm with dirty := d, commit := max c.commit (min m.commit (m.index + (m.es.n : Int))) }]) { L with ev := ev, es := L.es ++ ns } ∧ Upd F F' w w' := by
  obtain ⟨W, hW⟩ : ∃ W, W = w.alloc (.cells m.cells.toArray 36) := ⟨_, rfl⟩
  have hB0 : Below w.heap.size w W := by rw [hW]; exact (Below.refl _ w).alloc (Nat.le_refl _) _
  have hbox : W.heap[w.heap.size]? = some (.cells m.cells.toArray 36 (0, 0)) := by rw [hW, heap_alloc, if_pos rfl]
  have hR := h.below hB0
  have HH := Lib.hid (heard_any F b c L m W hR hrole)
  have HM := Lib.hid (hm.below hB0)
  have hneb : w.heap.size ≠ b := by have := ltOf h.blk; omega
  have HFlt := Lib.hid hF
  have HB0 := Lib.hid hB0
  have Hwf := Lib.hid (LogC.wf_ab h.rest.log.wf)
  have Hhas := Lib.hid hhas
  have Hj := Lib.hid hj
  have Hfo := Lib.hid hfo
  have Hjl := Lib.hid hjl
  have Hcm := Lib.hid hcm
  have Hl1 := Lib.hid hl1
  have Hmany := Lib.hid hmany
  have Hk := Lib.hid hk
  obtain ⟨kind, frm, to, term, idx, lt, cm, ok, es, off, data, last, v, l⟩ := m
  unfold MsgC.cells at hW hbox HH ⊢
  dsimp only at *
  have hw1 : IntKind.i64.wrap (idx + (es.n : Int)) = idx + (es.n : Int) := IntWalk.i64_in _ (by omega)
  have hge : decide (idx ≥ L.i) = true := by simp [hi]
  have hge2 : decide (L.i ≤ idx) = true := by simp [hi]
  have hltx := ltOf hbox
  have HBox := Lib.hid hbox
  clear h hR hB0 hF hm hrole hbox hhas hj hk hfo hjl hcm hl1 hmany
  go_enter Tryz.func71, Tryz.ntmps71
  go_wp2_with fail
  rw [show w.alloc (.cells #[.int .i64 kind, .int .i64 frm, .int .i64 to, .int .i64 term, .int .i64 idx, .int .i64 lt, .int .i64 cm, .bool ok, .slice es.a es.n es.c, .int .i64 off, .slice data.a data.n data.c, .bool last, .slice v.a v.n v.c, .slice l.a l.n l.c] 36) = W from hW.symm]
  clear hW
  refine HH.out.mono ?_
  rintro e w1 ⟨rfl, hR1, hU1, hC1⟩
  have hbox1 := hC1.get HBox.out (by simpa using hneb)
  have HR1 := Lib.hid hR1
  have HM1 := Lib.hid (HM.out.chg hC1 (by simpa using hR1.bF))
  have HU1 := Lib.hid ((Upd.below HB0.out).trans hU1)
  have HBox1 := Lib.hid hbox1
  have kx := cellsOf hbox1
  have hltx1 := ltOf hbox1
  have k3 : w1.cell? ⟨b, 3, none⟩ = some (.pointer (some ⟨c.lb, 0, none⟩)) := by rw [cellsOf hR1.blk]; rfl
  have hltb := ltOf hR1.blk
  have HBa := Lib.hid (base_any c.lb L w1 hR1.rest.log.log.blk)
  clear hbox1 hR1 hU1 hC1 HH HM HBox HB0
  go_wp2_with fail
  refine HBa.out.mono ?_
  rintro e w2 ⟨rfl, hb2⟩
  have hz2 := hb2.size
  have HR2 := Lib.hid (HR1.out.below hb2)
  have HM2 := Lib.hid (HM1.out.below hb2)
  have HU2 := Lib.hid (HU1.out.trans (Upd.below hb2))
  have hbox2 := (hb2.block _ hltx1).trans HBox1.out
  have HBox2 := Lib.hid hbox2
  clear hb2 HBa HR1 HM1 HU1 HBox1 kx k3
  have kx2 := cellsOf hbox2
  have hltx2 := ltOf hbox2
  have rb : ∀ (d : Nat) (os : Array Obj) (i : Nat), (grow (redrawn w2 d) os).cell? ⟨w.heap.size, i, none⟩ = #[Value.int .i64 kind, .int .i64 frm, .int .i64 to, .int .i64 term, .int .i64 idx, .int .i64 lt, .int .i64 cm, .bool ok, .slice es.a es.n es.c, .int .i64 off, .slice data.a data.n data.c, .bool last, .slice v.a v.n v.c, .slice l.a l.n l.c][i]? :=
    fun d os i => ((below_regrown w2 d os).cell (p := ⟨w.heap.size, i, none⟩) hltx2).trans (cellsOf HBox2.out i)
  have r3 := cell_regrown (show w2.cell? ⟨b, 3, none⟩ = some (.pointer (some ⟨c.lb, 0, none⟩)) by rw [cellsOf HR2.out.blk]; rfl)
  have HHas := Lib.hid (fun (d : Nat) (os : Array Obj) => Calls.regrown_of (has_any c.lb L idx lt (grow (redrawn w2 d) os) (HR2.out.below (below_regrown w2 d os)).rest.log.log Hwf.out))
  rw [Hhas.out] at HHas
  clear hbox2
  go_wp2_with fail
  refine wp_region_quiet_below (by kernel_rfl) (by kernel_rfl) ?_
  repeat (go_big_quiet_step (exact HHas.out _ _))
  refine wpQuiet_nil ?_
  intro wf hwf
  obtain ⟨p, hp⟩ := hwf
  have hbf : Below w2.heap.size w2 wf := by rw [hp]; exact below_regrown w2 p.d p.os
  have HRf := Lib.hid (HR2.out.below hbf)
  have HMf := Lib.hid (HM2.out.below hbf)
  have HUf := Lib.hid (HU2.out.trans (Upd.below hbf))
  have hboxf := (hbf.block _ hltx2).trans HBox2.out
  have HBoxf := Lib.hid hboxf
  clear hp hbf HHas rb r3 HR2 HM2 HU2 HBox2 kx2
  have kxf := cellsOf hboxf
  have hltxf := ltOf hboxf
  have hltbf := ltOf HRf.out.blk
  clear hboxf
  have HTk := Lib.hid (takeSome_any F b _ L es j wf HRf.out (HUf.out.lt HFlt.out) HMf.out Hk.out Hj.out Hjl.out Hfo.out Hcm.out hL0 Hl1.out Hmany.out)
  have hmn : min (es.n : Int) (max (L.i - idx) 0) = 0 := by omega
  have hmap : Option.map (fun x : Addr => x.add 0) es.a = es.a := by cases es.a <;> simp [Addr.add]
  go_wp2_with fail
  refine HTk.out.mono ?_
  rintro e w3 ⟨rfl, F3, ev, ns, hR3, hab, hU3⟩
  obtain ⟨d, hd⟩ := touched_eq (c.heard frm) (L.last.1 + 1)
  rw [hd] at hR3
  have hxF : w.heap.size ∉ F := fun hx => by have := HFlt.out _ hx; omega
  have hbox3 := hU3.chg.get HBoxf.out hxF
  have HR3 := Lib.hid hR3
  have Hab := Lib.hid hab
  have HU3 := Lib.hid (HUf.out.trans hU3)
  have k4 : w3.cell? ⟨b, 4, none⟩ = some (.int .i64 c.commit) := by rw [cellsOf hR3.blk]; rfl
  have f4 := freeOf hR3.blk 4
  have hltb3 := ltOf hR3.blk
  have hltx3 := ltOf hbox3
  have x1 : w3.cell? ⟨w.heap.size, 1, none⟩ = some (.int .i64 frm) := by rw [cellsOf hbox3]; rfl
  have x6 : w3.cell? ⟨w.heap.size, 6, none⟩ = some (.int .i64 cm) := by rw [cellsOf hbox3]; rfl
  obtain ⟨W4, hW4⟩ : ∃ W4, W4 = (w3.setCell ⟨b, 4, none⟩ (.int .i64 (max c.commit (min cm (idx + (es.n : Int)))))).drew := ⟨_, rfl⟩
  have hC4 : Chg [b] w3 W4 := by rw [hW4]; exact ((Chg.refl _ w3).setCell (by simp) _).drew
  have hR4 : RCore W4 F3 b { c.heard frm with dirty := d, commit := max c.commit (min cm (idx + (es.n : Int))) } { L with ev := ev, es := L.es ++ ns } := hR3.nums hC4 c.n c.term c.vote (max c.commit (min cm (idx + (es.n : Int)))) 0 frm 0 d c.whole (by rw [hW4, heap_drew, heap_set hR3.blk]; rfl)
  have x1' := (hC4.cell (p := ⟨w.heap.size, 1, none⟩) hltx3 (by simpa using hneb)).trans x1
  have HS := Lib.hid (send_any F3 b _ _ (gotMsg frm (idx + (es.n : Int)) true) W4 hR4 (RMsg.got _ _ _ _ _) hfew)
  have HU4 := Lib.hid (HU3.out.trans (Upd.of hC4 (by simpa using HR3.out.bF)))
  have HW4 := Lib.hid hW4
  have hltx4 := hC4.lt hltx3
  rw [hW4] at x1' hltx4
  clear hab hU3 hd hR3 hbox3 hC4 hR4 hW4 HTk kxf hmn hmap
  go_wp2_with fail
  refine wp_region_still_tail 10 (by kernel_rfl) (by kernel_rfl) ?_
  simp only [List.take_succ_cons, List.take_zero, List.drop_succ_cons, List.drop_zero]
  repeat still_step
  refine wpStill_nil ?_
  change wpList _ _ _ _ _ w3.drew
  go_wp2_with fail
  rw [← HW4.out]
  refine HS.out.mono ?_
  rintro e w5 ⟨rfl, F5, oa, on, oc, hR5, hU5⟩
  go_wp2_with fail
  go_end0
  exact ⟨rfl, F5, ev, ns, d, oa, on, oc, Hab.out, hR5, HU4.out.trans hU5⟩

end Go.Proofs.YtjbnmamgfpnccaaGreat
