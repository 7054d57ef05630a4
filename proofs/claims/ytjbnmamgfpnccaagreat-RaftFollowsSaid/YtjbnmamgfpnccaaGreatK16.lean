/- Step at an Ask. -/
import Derived.Test.YtjbnmamgfpnccaaGreatK15
namespace Go.Proofs.YtjbnmamgfpnccaaGreat
open Go Go.RowKit Go.Sort

theorem neqNil (f : Nat) (w : World) : (binOp BinOp.neq 87 (.func (.func f) #[] #[]) .nilFunc).run Tryz.prog w = .ok (.bool true) w := by kernel_rfl
def CoreC.come (c : CoreC) (t : Int) : CoreC := if c.term < t then c.followed t else c

set_option maxRecDepth 100000 in
set_option maxHeartbeats 4000000 in
theorem stepAsk_any (F : List Nat) (b : Nat) (c : CoreC) (L : LogC) (m : MsgC) (w : World) (h : RCore w F b c L) (hm : RE w F m.es) (hok : MsgOk m) (hk : m.kind = 3) (hto : m.to = c.n) (hfew : c.outs.length < 1000000) :
    Calls Tryz.prog 9 #[.pointer (some ⟨b, 0, none⟩), .agg m.cells.toArray] w fun e w' => e = .returned (.tuple #[]) ∧
      ∃ F' oa on oc, Upd F F' w w' ∧ ((m.term < c.term ∧ RCore w' F' b (c.withOut oa on oc [(sayMsg m.frm false).sent c]) L) ∨
        (c.term ≤ m.term ∧ RCore w' F' b (((c.come m.term).voted L m).withOut oa on oc [(sayMsg m.frm (granted (c.come m.term) L m)).sent ((c.come m.term).voted L m)]) L)) := by
  have HM := Lib.hid (fun W (hb : Below w.heap.size w W) => rightMsg_any F m W (hm.chg (Chg.ofBelow (M := []) hb) (by simp)) hok)
  have HRf := Lib.hid (fun F' W (h : RCore W F' b c L) => refuse3_any F' b c L m W h hk hfew)
  have HAs := Lib.hid (fun F' W (c' : CoreC) (h : RCore W F' b c' L) (hf : c'.outs.length < 1000000) => ask_any F' b c' L m W h hf)
  obtain ⟨kind, frm, to, term, idx, lt, cm, ok, es, off, data, last, v, l⟩ := m
  dsimp only at hk hto
  subst hk
  subst hto
  unfold MsgC.cells at HM HRf HAs ⊢
  dsimp only at HM HRf HAs ⊢
  obtain ⟨W, hW⟩ : ∃ W, W = w.alloc (.cells #[.int .i64 3, .int .i64 frm, .int .i64 c.n, .int .i64 term, .int .i64 idx, .int .i64 lt, .int .i64 cm, .bool ok, .slice es.a es.n es.c, .int .i64 off, .slice data.a data.n data.c, .bool last, .slice v.a v.n v.c, .slice l.a l.n l.c] 36) := ⟨_, rfl⟩
  have hB0 : Below w.heap.size w W := by rw [hW]; exact (Below.refl _ w).alloc (Nat.le_refl _) _
  have hbox : W.heap[w.heap.size]? = some (.cells #[.int .i64 3, .int .i64 frm, .int .i64 c.n, .int .i64 term, .int .i64 idx, .int .i64 lt, .int .i64 cm, .bool ok, .slice es.a es.n es.c, .int .i64 off, .slice data.a data.n data.c, .bool last, .slice v.a v.n v.c, .slice l.a l.n l.c] 36 (0, 0)) := by rw [hW, heap_alloc, if_pos rfl]
  have hR := h.below hB0
  have hltb := ltOf hR.blk
  have hltx := ltOf hbox
  have k0 : W.cell? ⟨b, 0, none⟩ = some (.int .i64 c.n) := by rw [cellsOf hR.blk]; rfl
  have r0 := cell_regrown k0
  have rb : ∀ (d : Nat) (os : Array Obj) (i : Nat), (grow (redrawn W d) os).cell? ⟨w.heap.size, i, none⟩ = #[Value.int .i64 3, .int .i64 frm, .int .i64 c.n, .int .i64 term, .int .i64 idx, .int .i64 lt, .int .i64 cm, .bool ok, .slice es.a es.n es.c, .int .i64 off, .slice data.a data.n data.c, .bool last, .slice v.a v.n v.c, .slice l.a l.n l.c][i]? :=
    fun d os i => ((below_regrown W d os).cell (p := ⟨w.heap.size, i, none⟩) hltx).trans (cellsOf hbox i)
  have HcM := Lib.hid (fun (d : Nat) (os : Array Obj) => Calls.regrown_of (HM.out (grow (redrawn W d) os) (hB0.trans ((below_regrown W d os).mono hB0.size))))
  have HR := Lib.hid hR
  have HBox := Lib.hid hbox
  have HB0 := Lib.hid hB0
  have hneb : b ≠ w.heap.size := by have := ltOf h.blk; omega
  clear hR hbox hB0 h hm hok HM k0
  go_enter Tryz.func9, Tryz.ntmps9
  go_wp2_with fail
  rw [← hW]
  clear hW
  refine wp_region_quiet_below (by kernel_rfl) (by kernel_rfl) ?_
  repeat (go_big_quiet_step (exact HcM.out _ _))
  refine wpQuiet_nil ?_
  intro wf hwf
  obtain ⟨p, hp⟩ := hwf
  have hbf : Below W.heap.size W wf := by rw [hp]; exact below_regrown W p.d p.os
  have hxf := (hbf.block _ hltx).trans HBox.out
  have kx := cellsOf hxf
  have hltf := ltOf hxf
  have hRf := HR.out.below hbf
  have hltbf := ltOf hRf.blk
  have kc := cellsOf hRf.blk
  have k1 : wf.cell? ⟨b, 1, none⟩ = some (.int .i64 c.term) := by rw [kc]; rfl
  have HR1 := Lib.hid hRf
  have HX1 := Lib.hid hxf
  have HU1 := Lib.hid (Upd.below (F := F) (HB0.out.trans (hbf.mono HB0.out.size)))
  clear hp hbf r0 rb HcM hRf kc hxf
  by_cases h1 : c.term < term
  · have d1 : decide (c.term < term) = true := by simp [h1]
    go_wp2_with fail
    go_quiet (fail)
    go_wp2_with fail
    have hbd : Below wf.heap.size wf (wf.drewN nq) := (Chg.drewN (Chg.refl [] wf) _).below
    have HFo := Lib.hid (follow_any F b c L term _ (HR1.out.below hbd))
    refine HFo.out.mono ?_
    rintro e w2 ⟨rfl, hR2, hC2⟩
    have hx2 := hC2.get (hbd.block _ hltf |>.trans HX1.out) (by simp; exact fun e => hneb e.symm)
    have kx2 := cellsOf hx2
    have hlt2 := ltOf hx2
    have hltb2 := ltOf hR2.blk
    have k12 : w2.cell? ⟨b, 1, none⟩ = some (.int .i64 term) := by rw [cellsOf hR2.blk]; rfl
    have HR2 := Lib.hid hR2
    have HU2 := Lib.hid (HU1.out.trans ((Upd.below hbd).trans (Upd.of hC2 (by simpa using HR2.out.bF))))
    have hcome : Hid (c.come term = c.followed term) := Lib.hid (by unfold CoreC.come; rw [if_pos h1])
    clear hR2 hC2 hx2 HFo hbd kx k1 hltf hltbf
    go_wp2_with fail
    go_quiet (fail)
    go_wp2_with fail
    go_quiet (fail)
    have HA := Lib.hid (fun n => HAs.out F (w2.drewN n) (c.followed term) (HR2.out.below (Chg.drewN (Chg.refl [] w2) n).below) hfew)
    have HU3 := Lib.hid (fun n => HU2.out.trans (Upd.below (Chg.drewN (Chg.refl [] w2) n).below))
    go_wp2_with fail
    refine (on_any 3 _ (by omega) (by omega)).mono ?_
    rintro e w9 ⟨rfl, rfl⟩
    have hnn := neqNil 69
    go_wp2_with fail
    refine (HA.out _).mono ?_
    rintro e w5 ⟨rfl, F5, oa, on, oc, hR5, hU5⟩
    have HR5 := Lib.hid hR5
    have HU5 := Lib.hid ((HU3.out _).trans hU5)
    clear hR5 hU5 HA
    go_wp2
    go_end0
    exact ⟨rfl, F5, oa, on, oc, HU5.out, .inr ⟨by omega, by rw [hcome.out]; exact HR5.out⟩⟩
  · have d1 : decide (c.term < term) = false := by simp [h1]
    by_cases h2 : term < c.term
    · have d2 : decide (term < c.term) = true := by simp [h2]
      go_wp2_with fail
      go_quiet (fail)
      go_wp2_with fail
      go_quiet (fail)
      go_wp2_with fail
      go_quiet (fail)
      have HU3 := Lib.hid (fun n => HU1.out.trans (Upd.below (Chg.drewN (Chg.refl [] wf) n).below))
      have HA := Lib.hid (fun n => HRf.out F (wf.drewN n) (HR1.out.below (Chg.drewN (Chg.refl [] wf) n).below))
      go_wp2_with fail
      refine (HA.out _).mono ?_
      rintro e w5 ⟨rfl, F5, oa, on, oc, hR5, hU5⟩
      have HR5 := Lib.hid hR5
      have HU5 := Lib.hid ((HU3.out _).trans hU5)
      clear hR5 hU5 HA
      go_wp2
      refine bodyPost_ret (v := .tuple #[]) (by simp [results, Tryz.f9]) rfl ?_
      exact ⟨rfl, F5, oa, on, oc, HU5.out, .inl ⟨h2, HR5.out⟩⟩
    · have d2 : decide (term < c.term) = false := by simp [h2]
      go_wp2_with fail
      go_quiet (fail)
      go_wp2_with fail
      go_quiet (fail)
      go_wp2_with fail
      go_quiet (fail)
      have HU3 := Lib.hid (fun n => HU1.out.trans (Upd.below (Chg.drewN (Chg.refl [] wf) n).below))
      have HA := Lib.hid (fun n => HAs.out F (wf.drewN n) c (HR1.out.below (Chg.drewN (Chg.refl [] wf) n).below) hfew)
      have hcome : Hid (c.come term = c) := Lib.hid (by unfold CoreC.come; rw [if_neg (by omega)])
      go_wp2_with fail
      refine (on_any 3 _ (by omega) (by omega)).mono ?_
      rintro e w9 ⟨rfl, rfl⟩
      have hnn := neqNil 69
      go_wp2_with fail
      refine (HA.out _).mono ?_
      rintro e w5 ⟨rfl, F5, oa, on, oc, hR5, hU5⟩
      have HR5 := Lib.hid hR5
      have HU5 := Lib.hid ((HU3.out _).trans hU5)
      clear hR5 hU5 HA
      go_wp2
      go_end0
      exact ⟨rfl, F5, oa, on, oc, HU5.out, .inr ⟨by omega, by rw [hcome.out]; exact HR5.out⟩⟩
end Go.Proofs.YtjbnmamgfpnccaaGreat
