/- Step that goes through: the kinds 2, 4 and 5. -/
import Derived.Test.YtjbnmamgfpnccaaGreatW6
namespace Go.Proofs.YtjbnmamgfpnccaaGreat
open Go Go.RowKit Go.Sort

set_option maxRecDepth 100000 in
set_option maxHeartbeats 4000000 in
theorem stepPreSay_any (F : List Nat) (b : Nat) (c : CoreC) (L : LogC) (m : MsgC) (w : World) (h : RCore w F b c L) (hm : RE w F m.es) (hok : MsgOk m) (hk : m.kind = 2) (hto : m.to = c.n) (hyes : m.ok = true) (hterm : c.term < m.term)
    (Q : World → Prop) (HQ : ∀ w1, RCore w1 F b (c) L → Upd F F w w1 → Calls Tryz.prog 68 #[.pointer (some ⟨b, 0, none⟩), .agg m.cells.toArray] w1 fun e w' => e = .returned (.tuple #[]) ∧ Q w') :
    Calls Tryz.prog 9 #[.pointer (some ⟨b, 0, none⟩), .agg m.cells.toArray] w fun e w' => e = .returned (.tuple #[]) ∧ Q w' := by
  have HM := Lib.hid (fun W (hb : Below w.heap.size w W) => rightMsg_any F m W (hm.chg (Chg.ofBelow (M := []) hb) (by simp)) hok)
  have HAs := Lib.hid HQ
  clear HQ
  obtain ⟨kind, frm, to, term, idx, lt, cm, ok, es, off, data, last, v, l⟩ := m
  dsimp only at hk hto hterm
  have d2 : decide (term < c.term) = false := by simp; omega
  skip
  skip
  dsimp only at hyes
  subst hk
  subst hto
  subst hyes
  unfold MsgC.cells at HM HAs ⊢
  dsimp only at HM HAs ⊢
  obtain ⟨W, hW⟩ : ∃ W, W = w.alloc (.cells #[Value.int .i64 2, .int .i64 frm, .int .i64 c.n, .int .i64 term, .int .i64 idx, .int .i64 lt, .int .i64 cm, .bool true, .slice es.a es.n es.c, .int .i64 off, .slice data.a data.n data.c, .bool last, .slice v.a v.n v.c, .slice l.a l.n l.c] 36) := ⟨_, rfl⟩
  have hB0 : Below w.heap.size w W := by rw [hW]; exact (Below.refl _ w).alloc (Nat.le_refl _) _
  have hbox : W.heap[w.heap.size]? = some (.cells #[Value.int .i64 2, .int .i64 frm, .int .i64 c.n, .int .i64 term, .int .i64 idx, .int .i64 lt, .int .i64 cm, .bool true, .slice es.a es.n es.c, .int .i64 off, .slice data.a data.n data.c, .bool last, .slice v.a v.n v.c, .slice l.a l.n l.c] 36 (0, 0)) := by rw [hW, heap_alloc, if_pos rfl]
  have hR := h.below hB0
  have hltb := ltOf hR.blk
  have hltx := ltOf hbox
  have k0 : W.cell? ⟨b, 0, none⟩ = some (.int .i64 c.n) := by rw [cellsOf hR.blk]; rfl
  have r0 := cell_regrown k0
  have rb : ∀ (d : Nat) (os : Array Obj) (i : Nat), (grow (redrawn W d) os).cell? ⟨w.heap.size, i, none⟩ = #[Value.int .i64 2, .int .i64 frm, .int .i64 c.n, .int .i64 term, .int .i64 idx, .int .i64 lt, .int .i64 cm, .bool true, .slice es.a es.n es.c, .int .i64 off, .slice data.a data.n data.c, .bool last, .slice v.a v.n v.c, .slice l.a l.n l.c][i]? :=
    fun d os i => ((below_regrown W d os).cell (p := ⟨w.heap.size, i, none⟩) hltx).trans (cellsOf hbox i)
  have HcM := Lib.hid (fun (d : Nat) (os : Array Obj) => Calls.regrown_of (HM.out (grow (redrawn W d) os) (hB0.trans ((below_regrown W d os).mono hB0.size))))
  have HR := Lib.hid hR
  have HBox := Lib.hid hbox
  have HB0 := Lib.hid hB0
  have hneb : b ≠ w.heap.size := by have := ltOf h.blk; omega
  clear hR hbox hB0 h hm hok HM k0
  go_enter Tryz.func9, Tryz.ntmps9
  go_wp2_with fail
  rw [← hW]
  clear hW
  refine wp_region_quiet_below (by kernel_rfl) (by kernel_rfl) ?_
  repeat (go_big_quiet_step (exact HcM.out _ _))
  refine wpQuiet_nil ?_
  intro wf hwf
  obtain ⟨p, hp⟩ := hwf
  have hbf : Below W.heap.size W wf := by rw [hp]; exact below_regrown W p.d p.os
  have hxf := (hbf.block _ hltx).trans HBox.out
  have kx := cellsOf hxf
  have hltf := ltOf hxf
  have hRf := HR.out.below hbf
  have hltbf := ltOf hRf.blk
  have kc := cellsOf hRf.blk
  have k1 : wf.cell? ⟨b, 1, none⟩ = some (.int .i64 c.term) := by rw [kc]; rfl
  have HR1 := Lib.hid hRf
  have HX1 := Lib.hid hxf
  have HU1 := Lib.hid (Upd.below (F := F) (HB0.out.trans (hbf.mono HB0.out.size)))
  clear hp hbf r0 rb HcM hRf kc hxf
  have d1 : decide (c.term < term) = true := by simp [hterm]
  go_wp2_with fail
  go_quiet (fail)
  go_wp2_with fail
  go_quiet (fail)
  go_wp2_with fail
  go_quiet (fail)
  have HA := Lib.hid (fun n => HAs.out (wf.drewN n) (HR1.out.below (Chg.drewN (Chg.refl [] wf) n).below) (HU1.out.trans (Upd.below (Chg.drewN (Chg.refl [] wf) n).below)))
  go_wp2_with fail
  refine (on_any 2 _ (by omega) (by omega)).mono ?_
  rintro e w9 ⟨rfl, rfl⟩
  have hnn := neqNil 68
  go_wp2_with fail
  refine (HA.out _).mono ?_
  rintro e w5 ⟨rfl, hq5⟩
  have HQ5 := Lib.hid hq5
  clear hq5 HA
  go_wp2
  go_end0
  exact ⟨rfl, HQ5.out⟩

set_option maxRecDepth 100000 in
set_option maxHeartbeats 4000000 in
theorem stepSay_any (F : List Nat) (b : Nat) (c : CoreC) (L : LogC) (m : MsgC) (w : World) (h : RCore w F b c L) (hm : RE w F m.es) (hok : MsgOk m) (hk : m.kind = 4) (hto : m.to = c.n) (hterm : m.term = c.term)
    (Q : World → Prop) (HQ : ∀ w1, RCore w1 F b (c) L → Upd F F w w1 → Calls Tryz.prog 70 #[.pointer (some ⟨b, 0, none⟩), .agg m.cells.toArray] w1 fun e w' => e = .returned (.tuple #[]) ∧ Q w') :
    Calls Tryz.prog 9 #[.pointer (some ⟨b, 0, none⟩), .agg m.cells.toArray] w fun e w' => e = .returned (.tuple #[]) ∧ Q w' := by
  have HM := Lib.hid (fun W (hb : Below w.heap.size w W) => rightMsg_any F m W (hm.chg (Chg.ofBelow (M := []) hb) (by simp)) hok)
  have HAs := Lib.hid HQ
  clear HQ
  obtain ⟨kind, frm, to, term, idx, lt, cm, ok, es, off, data, last, v, l⟩ := m
  dsimp only at hk hto hterm
  have d2 : decide (term < c.term) = false := by simp; omega
  have d1 : decide (c.term < term) = false := by simp; omega
  clear hterm
  skip
  subst hk
  subst hto
  skip
  unfold MsgC.cells at HM HAs ⊢
  dsimp only at HM HAs ⊢
  obtain ⟨W, hW⟩ : ∃ W, W = w.alloc (.cells #[Value.int .i64 4, .int .i64 frm, .int .i64 c.n, .int .i64 term, .int .i64 idx, .int .i64 lt, .int .i64 cm, .bool ok, .slice es.a es.n es.c, .int .i64 off, .slice data.a data.n data.c, .bool last, .slice v.a v.n v.c, .slice l.a l.n l.c] 36) := ⟨_, rfl⟩
  have hB0 : Below w.heap.size w W := by rw [hW]; exact (Below.refl _ w).alloc (Nat.le_refl _) _
  have hbox : W.heap[w.heap.size]? = some (.cells #[Value.int .i64 4, .int .i64 frm, .int .i64 c.n, .int .i64 term, .int .i64 idx, .int .i64 lt, .int .i64 cm, .bool ok, .slice es.a es.n es.c, .int .i64 off, .slice data.a data.n data.c, .bool last, .slice v.a v.n v.c, .slice l.a l.n l.c] 36 (0, 0)) := by rw [hW, heap_alloc, if_pos rfl]
  have hR := h.below hB0
  have hltb := ltOf hR.blk
  have hltx := ltOf hbox
  have k0 : W.cell? ⟨b, 0, none⟩ = some (.int .i64 c.n) := by rw [cellsOf hR.blk]; rfl
  have r0 := cell_regrown k0
  have rb : ∀ (d : Nat) (os : Array Obj) (i : Nat), (grow (redrawn W d) os).cell? ⟨w.heap.size, i, none⟩ = #[Value.int .i64 4, .int .i64 frm, .int .i64 c.n, .int .i64 term, .int .i64 idx, .int .i64 lt, .int .i64 cm, .bool ok, .slice es.a es.n es.c, .int .i64 off, .slice data.a data.n data.c, .bool last, .slice v.a v.n v.c, .slice l.a l.n l.c][i]? :=
    fun d os i => ((below_regrown W d os).cell (p := ⟨w.heap.size, i, none⟩) hltx).trans (cellsOf hbox i)
  have HcM := Lib.hid (fun (d : Nat) (os : Array Obj) => Calls.regrown_of (HM.out (grow (redrawn W d) os) (hB0.trans ((below_regrown W d os).mono hB0.size))))
  have HR := Lib.hid hR
  have HBox := Lib.hid hbox
  have HB0 := Lib.hid hB0
  have hneb : b ≠ w.heap.size := by have := ltOf h.blk; omega
  clear hR hbox hB0 h hm hok HM k0
  go_enter Tryz.func9, Tryz.ntmps9
  go_wp2_with fail
  rw [← hW]
  clear hW
  refine wp_region_quiet_below (by kernel_rfl) (by kernel_rfl) ?_
  repeat (go_big_quiet_step (exact HcM.out _ _))
  refine wpQuiet_nil ?_
  intro wf hwf
  obtain ⟨p, hp⟩ := hwf
  have hbf : Below W.heap.size W wf := by rw [hp]; exact below_regrown W p.d p.os
  have hxf := (hbf.block _ hltx).trans HBox.out
  have kx := cellsOf hxf
  have hltf := ltOf hxf
  have hRf := HR.out.below hbf
  have hltbf := ltOf hRf.blk
  have kc := cellsOf hRf.blk
  have k1 : wf.cell? ⟨b, 1, none⟩ = some (.int .i64 c.term) := by rw [kc]; rfl
  have HR1 := Lib.hid hRf
  have HX1 := Lib.hid hxf
  have HU1 := Lib.hid (Upd.below (F := F) (HB0.out.trans (hbf.mono HB0.out.size)))
  clear hp hbf r0 rb HcM hRf kc hxf
  skip
  go_wp2_with fail
  go_quiet (fail)
  go_wp2_with fail
  go_quiet (fail)
  go_wp2_with fail
  go_quiet (fail)
  have HA := Lib.hid (fun n => HAs.out (wf.drewN n) (HR1.out.below (Chg.drewN (Chg.refl [] wf) n).below) (HU1.out.trans (Upd.below (Chg.drewN (Chg.refl [] wf) n).below)))
  go_wp2_with fail
  refine (on_any 4 _ (by omega) (by omega)).mono ?_
  rintro e w9 ⟨rfl, rfl⟩
  have hnn := neqNil 70
  go_wp2_with fail
  refine (HA.out _).mono ?_
  rintro e w5 ⟨rfl, hq5⟩
  have HQ5 := Lib.hid hq5
  clear hq5 HA
  go_wp2
  go_end0
  exact ⟨rfl, HQ5.out⟩

set_option maxRecDepth 100000 in
set_option maxHeartbeats 4000000 in
theorem stepSame_any (F : List Nat) (b : Nat) (c : CoreC) (L : LogC) (m : MsgC) (w : World) (h : RCore w F b c L) (hm : RE w F m.es) (hok : MsgOk m) (hk : m.kind = 5) (hto : m.to = c.n) (hterm : m.term = c.term)
    (Q : World → Prop) (HQ : ∀ w1, RCore w1 F b (c) L → Upd F F w w1 → Calls Tryz.prog 71 #[.pointer (some ⟨b, 0, none⟩), .agg m.cells.toArray] w1 fun e w' => e = .returned (.tuple #[]) ∧ Q w') :
    Calls Tryz.prog 9 #[.pointer (some ⟨b, 0, none⟩), .agg m.cells.toArray] w fun e w' => e = .returned (.tuple #[]) ∧ Q w' := by
  have HM := Lib.hid (fun W (hb : Below w.heap.size w W) => rightMsg_any F m W (hm.chg (Chg.ofBelow (M := []) hb) (by simp)) hok)
  have HAs := Lib.hid HQ
  clear HQ
  obtain ⟨kind, frm, to, term, idx, lt, cm, ok, es, off, data, last, v, l⟩ := m
  dsimp only at hk hto hterm
  have d2 : decide (term < c.term) = false := by simp; omega
  have d1 : decide (c.term < term) = false := by simp; omega
  clear hterm
  skip
  subst hk
  subst hto
  skip
  unfold MsgC.cells at HM HAs ⊢
  dsimp only at HM HAs ⊢
  obtain ⟨W, hW⟩ : ∃ W, W = w.alloc (.cells #[Value.int .i64 5, .int .i64 frm, .int .i64 c.n, .int .i64 term, .int .i64 idx, .int .i64 lt, .int .i64 cm, .bool ok, .slice es.a es.n es.c, .int .i64 off, .slice data.a data.n data.c, .bool last, .slice v.a v.n v.c, .slice l.a l.n l.c] 36) := ⟨_, rfl⟩
  have hB0 : Below w.heap.size w W := by rw [hW]; exact (Below.refl _ w).alloc (Nat.le_refl _) _
  have hbox : W.heap[w.heap.size]? = some (.cells #[Value.int .i64 5, .int .i64 frm, .int .i64 c.n, .int .i64 term, .int .i64 idx, .int .i64 lt, .int .i64 cm, .bool ok, .slice es.a es.n es.c, .int .i64 off, .slice data.a data.n data.c, .bool last, .slice v.a v.n v.c, .slice l.a l.n l.c] 36 (0, 0)) := by rw [hW, heap_alloc, if_pos rfl]
  have hR := h.below hB0
  have hltb := ltOf hR.blk
  have hltx := ltOf hbox
  have k0 : W.cell? ⟨b, 0, none⟩ = some (.int .i64 c.n) := by rw [cellsOf hR.blk]; rfl
  have r0 := cell_regrown k0
  have rb : ∀ (d : Nat) (os : Array Obj) (i : Nat), (grow (redrawn W d) os).cell? ⟨w.heap.size, i, none⟩ = #[Value.int .i64 5, .int .i64 frm, .int .i64 c.n, .int .i64 term, .int .i64 idx, .int .i64 lt, .int .i64 cm, .bool ok, .slice es.a es.n es.c, .int .i64 off, .slice data.a data.n data.c, .bool last, .slice v.a v.n v.c, .slice l.a l.n l.c][i]? :=
    fun d os i => ((below_regrown W d os).cell (p := ⟨w.heap.size, i, none⟩) hltx).trans (cellsOf hbox i)
  have HcM := Lib.hid (fun (d : Nat) (os : Array Obj) => Calls.regrown_of (HM.out (grow (redrawn W d) os) (hB0.trans ((below_regrown W d os).mono hB0.size))))
  have HR := Lib.hid hR
  have HBox := Lib.hid hbox
  have HB0 := Lib.hid hB0
  have hneb : b ≠ w.heap.size := by have := ltOf h.blk; omega
  clear hR hbox hB0 h hm hok HM k0
  go_enter Tryz.func9, Tryz.ntmps9
  go_wp2_with fail
  rw [← hW]
  clear hW
  refine wp_region_quiet_below (by kernel_rfl) (by kernel_rfl) ?_
  repeat (go_big_quiet_step (exact HcM.out _ _))
  refine wpQuiet_nil ?_
  intro wf hwf
  obtain ⟨p, hp⟩ := hwf
  have hbf : Below W.heap.size W wf := by rw [hp]; exact below_regrown W p.d p.os
  have hxf := (hbf.block _ hltx).trans HBox.out
  have kx := cellsOf hxf
  have hltf := ltOf hxf
  have hRf := HR.out.below hbf
  have hltbf := ltOf hRf.blk
  have kc := cellsOf hRf.blk
  have k1 : wf.cell? ⟨b, 1, none⟩ = some (.int .i64 c.term) := by rw [kc]; rfl
  have HR1 := Lib.hid hRf
  have HX1 := Lib.hid hxf
  have HU1 := Lib.hid (Upd.below (F := F) (HB0.out.trans (hbf.mono HB0.out.size)))
  clear hp hbf r0 rb HcM hRf kc hxf
  skip
  go_wp2_with fail
  go_quiet (fail)
  go_wp2_with fail
  go_quiet (fail)
  go_wp2_with fail
  go_quiet (fail)
  have HA := Lib.hid (fun n => HAs.out (wf.drewN n) (HR1.out.below (Chg.drewN (Chg.refl [] wf) n).below) (HU1.out.trans (Upd.below (Chg.drewN (Chg.refl [] wf) n).below)))
  go_wp2_with fail
  refine (on_any 5 _ (by omega) (by omega)).mono ?_
  rintro e w9 ⟨rfl, rfl⟩
  have hnn := neqNil 71
  go_wp2_with fail
  refine (HA.out _).mono ?_
  rintro e w5 ⟨rfl, hq5⟩
  have HQ5 := Lib.hid hq5
  clear hq5 HA
  go_wp2
  go_end0
  exact ⟨rfl, HQ5.out⟩

set_option maxRecDepth 100000 in
set_option maxHeartbeats 4000000 in
theorem stepNew_any (F : List Nat) (b : Nat) (c : CoreC) (L : LogC) (m : MsgC) (w : World) (h : RCore w F b c L) (hm : RE w F m.es) (hok : MsgOk m) (hk : m.kind = 5) (hto : m.to = c.n) (hterm : c.term < m.term)
    (Q : World → Prop) (HQ : ∀ w1, RCore w1 F b (c.followed m.term) L → Upd F F w w1 → Calls Tryz.prog 71 #[.pointer (some ⟨b, 0, none⟩), .agg m.cells.toArray] w1 fun e w' => e = .returned (.tuple #[]) ∧ Q w') :
    Calls Tryz.prog 9 #[.pointer (some ⟨b, 0, none⟩), .agg m.cells.toArray] w fun e w' => e = .returned (.tuple #[]) ∧ Q w' := by
  have HM := Lib.hid (fun W (hb : Below w.heap.size w W) => rightMsg_any F m W (hm.chg (Chg.ofBelow (M := []) hb) (by simp)) hok)
  have HAs := Lib.hid HQ
  clear HQ
  obtain ⟨kind, frm, to, term, idx, lt, cm, ok, es, off, data, last, v, l⟩ := m
  dsimp only at hk hto hterm
  skip
  skip
  skip
  skip
  subst hk
  subst hto
  skip
  unfold MsgC.cells at HM HAs ⊢
  dsimp only at HM HAs ⊢
  obtain ⟨W, hW⟩ : ∃ W, W = w.alloc (.cells #[Value.int .i64 5, .int .i64 frm, .int .i64 c.n, .int .i64 term, .int .i64 idx, .int .i64 lt, .int .i64 cm, .bool ok, .slice es.a es.n es.c, .int .i64 off, .slice data.a data.n data.c, .bool last, .slice v.a v.n v.c, .slice l.a l.n l.c] 36) := ⟨_, rfl⟩
  have hB0 : Below w.heap.size w W := by rw [hW]; exact (Below.refl _ w).alloc (Nat.le_refl _) _
  have hbox : W.heap[w.heap.size]? = some (.cells #[Value.int .i64 5, .int .i64 frm, .int .i64 c.n, .int .i64 term, .int .i64 idx, .int .i64 lt, .int .i64 cm, .bool ok, .slice es.a es.n es.c, .int .i64 off, .slice data.a data.n data.c, .bool last, .slice v.a v.n v.c, .slice l.a l.n l.c] 36 (0, 0)) := by rw [hW, heap_alloc, if_pos rfl]
  have hR := h.below hB0
  have hltb := ltOf hR.blk
  have hltx := ltOf hbox
  have k0 : W.cell? ⟨b, 0, none⟩ = some (.int .i64 c.n) := by rw [cellsOf hR.blk]; rfl
  have r0 := cell_regrown k0
  have rb : ∀ (d : Nat) (os : Array Obj) (i : Nat), (grow (redrawn W d) os).cell? ⟨w.heap.size, i, none⟩ = #[Value.int .i64 5, .int .i64 frm, .int .i64 c.n, .int .i64 term, .int .i64 idx, .int .i64 lt, .int .i64 cm, .bool ok, .slice es.a es.n es.c, .int .i64 off, .slice data.a data.n data.c, .bool last, .slice v.a v.n v.c, .slice l.a l.n l.c][i]? :=
    fun d os i => ((below_regrown W d os).cell (p := ⟨w.heap.size, i, none⟩) hltx).trans (cellsOf hbox i)
  have HcM := Lib.hid (fun (d : Nat) (os : Array Obj) => Calls.regrown_of (HM.out (grow (redrawn W d) os) (hB0.trans ((below_regrown W d os).mono hB0.size))))
  have HR := Lib.hid hR
  have HBox := Lib.hid hbox
  have HB0 := Lib.hid hB0
  have hneb : b ≠ w.heap.size := by have := ltOf h.blk; omega
  clear hR hbox hB0 h hm hok HM k0
  go_enter Tryz.func9, Tryz.ntmps9
  go_wp2_with fail
  rw [← hW]
  clear hW
  refine wp_region_quiet_below (by kernel_rfl) (by kernel_rfl) ?_
  repeat (go_big_quiet_step (exact HcM.out _ _))
  refine wpQuiet_nil ?_
  intro wf hwf
  obtain ⟨p, hp⟩ := hwf
  have hbf : Below W.heap.size W wf := by rw [hp]; exact below_regrown W p.d p.os
  have hxf := (hbf.block _ hltx).trans HBox.out
  have kx := cellsOf hxf
  have hltf := ltOf hxf
  have hRf := HR.out.below hbf
  have hltbf := ltOf hRf.blk
  have kc := cellsOf hRf.blk
  have k1 : wf.cell? ⟨b, 1, none⟩ = some (.int .i64 c.term) := by rw [kc]; rfl
  have HR1 := Lib.hid hRf
  have HX1 := Lib.hid hxf
  have HU1 := Lib.hid (Upd.below (F := F) (HB0.out.trans (hbf.mono HB0.out.size)))
  clear hp hbf r0 rb HcM hRf kc hxf
  have d1 : decide (c.term < term) = true := by simp [hterm]
  go_wp2_with fail
  go_quiet (fail)
  go_wp2_with fail
  have hbd : Below wf.heap.size wf (wf.drewN nq) := (Chg.drewN (Chg.refl [] wf) _).below
  have HFo := Lib.hid (follow_any F b c L term _ (HR1.out.below hbd))
  refine HFo.out.mono ?_
  rintro e w2 ⟨rfl, hR2, hC2⟩
  have hx2 := hC2.get (hbd.block _ hltf |>.trans HX1.out) (by simp; exact fun e => hneb e.symm)
  have kx2 := cellsOf hx2
  have hlt2 := ltOf hx2
  have hltb2 := ltOf hR2.blk
  have k12 : w2.cell? ⟨b, 1, none⟩ = some (.int .i64 term) := by rw [cellsOf hR2.blk]; rfl
  have HR2 := Lib.hid hR2
  have HU2 := Lib.hid (HU1.out.trans ((Upd.below hbd).trans (Upd.of hC2 (by simpa using HR2.out.bF))))
  clear hR2 hC2 hx2 HFo hbd kx k1 hltf hltbf
  go_wp2_with fail
  go_quiet (fail)
  go_wp2_with fail
  go_quiet (fail)
  have HA := Lib.hid (fun n => HAs.out (w2.drewN n) (HR2.out.below (Chg.drewN (Chg.refl [] w2) n).below) (HU2.out.trans (Upd.below (Chg.drewN (Chg.refl [] w2) n).below)))
  go_wp2_with fail
  refine (on_any 5 _ (by omega) (by omega)).mono ?_
  rintro e w9 ⟨rfl, rfl⟩
  have hnn := neqNil 71
  go_wp2_with fail
  refine (HA.out _).mono ?_
  rintro e w5 ⟨rfl, hq5⟩
  have HQ5 := Lib.hid hq5
  clear hq5 HA
  go_wp2
  go_end0
  exact ⟨rfl, HQ5.out⟩

end Go.Proofs.YtjbnmamgfpnccaaGreat
