/- take. -/
import Derived.Test.YtjbnmamgfpnccaaGreatF3
namespace Go.Proofs.YtjbnmamgfpnccaaGreat
open Go Go.RowKit Go.Sort

theorem RE.below {w w' : World} {F : List Nat} {s : SE} (h : RE w F s) (hb : Below w.heap.size w w') : RE w' F s := h.chg (M := []) (Chg.ofBelow hb) (by simp)
theorem LogC.Wf.termLast {L : LogC} (h : L.Wf) : L.termAt L.last.1 = some L.last.2 := by
  have hl := h.last
  unfold LogC.termAt
  rcases nil_or_snoc L.es with h0 | ⟨r, e, h0⟩
  · have : L.last = (L.i, L.t) := by simp [LogC.last, h0]
    rw [this]; simp
  · have h1 : L.last = (e.i, e.t) := by simp [LogC.last, h0]
    rw [if_neg (by omega), if_neg (by rw [hl, h0]; simp; omega)]
    have : (L.last.1 - L.i - 1).toNat = r.length := by rw [hl, h0]; simp; omega
    rw [this, h0, h1]
    simp
/-- What a member lacks of some entries. -/
def lacks (L : LogC) (es : List EntC) : Int := firstAt (fun e => !L.has e.i e.t) es

set_option maxRecDepth 100000 in
set_option maxHeartbeats 4000000 in
/-- Nothing new among the entries. -/
theorem takeNone_any (F : List Nat) (b : Nat) (c : CoreC) (L : LogC) (s : SE) (w : World) (h : RCore w F b c L) (hs : RE w F s) (hk : ∀ e ∈ s.es, e.k ≠ 2) (hno : lacks L s.es = -1) :
    Calls Tryz.prog 103 #[.pointer (some ⟨b, 0, none⟩), .slice s.a s.n s.c] w fun e w' => e = .returned (.bool true) ∧ Below w.heap.size w w' := by
  obtain ⟨W, hW⟩ : ∃ W, W = w.alloc (.cells #[.pointer (some ⟨b, 0, none⟩)] 27) := ⟨_, rfl⟩
  have hB0 : Below w.heap.size w W := by rw [hW]; exact (Below.refl _ w).alloc (Nat.le_refl _) _
  have hbox : W.heap[w.heap.size]? = some (.cells #[.pointer (some ⟨b, 0, none⟩)] 27 (0, 0)) := by rw [hW, heap_alloc, if_pos rfl]
  have kb : W.cell? ⟨w.heap.size, 0, none⟩ = some (.pointer (some ⟨b, 0, none⟩)) := by rw [cellsOf hbox]; rfl
  have HF := Lib.hid (findUnhad_any F b c L w.heap.size _ s.a s.n s.c s.es W (h.below hB0) kb hs.n (hs.below hB0).sl)
  have HN := Lib.hid (fun (w1 : World) (hb1 : Below W.heap.size W w1) (d : Nat) (os : Array Obj) => Calls.regrown_of (noBad_any _ s.a s.n s.c s.es (grow (redrawn w1 d) os) hs.n (((hs.below hB0).below hb1).below (below_regrown w1 d os)).sl hk))
  rw [show firstAt (fun e => !L.has e.i e.t) s.es = -1 from hno] at HF
  have HB0 := Lib.hid hB0
  clear h hs hk hno hB0 hbox kb
  go_enter Tryz.func103, Tryz.ntmps103
  go_wp2_with fail
  rw [← hW]
  clear hW
  refine HF.out.mono ?_
  rintro e w1 ⟨rfl, hb1⟩
  have HN1 := Lib.hid (HN.out w1 hb1)
  have HB1 := Lib.hid (HB0.out.trans (hb1.mono HB0.out.size))
  clear hb1 HF HN HB0
  go_wp2_with fail
  refine wp_region_quiet_below (by kernel_rfl) (by kernel_rfl) ?_
  repeat (go_big_quiet_step (exact HN1.out _ _))
  refine wpQuiet_nil ?_
  intro wf hwf
  obtain ⟨p, hp⟩ := hwf
  have hbf : Below w1.heap.size w1 wf := by rw [hp]; exact below_regrown w1 p.d p.os
  have HBf := Lib.hid (HB1.out.trans (hbf.mono HB1.out.size))
  clear hp hbf HN1 HB1
  go_wp2_with fail
  go_ret
  exact ⟨rfl, HBf.out⟩

theorem RE.drop {w : World} {Q : Nat → Prop} {a : Option Addr} {n c : Nat} {es : List EntC} {b off : Nat} (hn : n = es.length) (h : RSl w Q 4 a n c (entCells es)) (ha : a = some ⟨b, off, none⟩) (j : Nat) (hj : j < n) :
    RSl w Q 4 (some ⟨b, off + j * 4, none⟩) (es.drop j).length (c - j) (entCells (es.drop j)) := by
  subst ha
  obtain ⟨h1, h2, h3, _, h5⟩ := h
  have hl : (es.drop j).length = n - j := by rw [List.length_drop, hn]
  refine ⟨by omega, by omega, by rw [entCells_length], by simp, ?_⟩
  rcases h5 with h5 | ⟨b', off', e, hb, hq, hc⟩
  · omega
  · cases e
    refine .inr ⟨b, off + j * 4, rfl, hb, hq, fun i u hu => ?_⟩
    rw [entCells_drop, List.getElem?_drop] at hu
    have := hc _ u hu
    rw [show off + j * 4 + i = off + (j * 4 + i) by omega]
    exact this

set_option maxRecDepth 100000 in
set_option maxHeartbeats 6000000 in
/-- The entries from a place on are new: they come behind the log. -/
theorem takeSome_any (F : List Nat) (b : Nat) (c : CoreC) (L : LogC) (s : SE) (j : Nat) (w : World) (h : RCore w F b c L) (hF : ∀ x ∈ F, x < w.heap.size) (hs : RE w F s) (hk : ∀ e ∈ s.es, e.k ≠ 2) (hj : lacks L s.es = j) (hjl : j < s.es.length)
    (hfo : Follow L (s.es.drop j)) (hcm : c.commit ≤ L.last.1) (hl0 : 0 ≤ L.i) (hl1 : L.last.1 + (s.es.drop j).length ≤ 1099511627776) (hfew : L.es.length + (s.es.drop j).length < 1000000) :
    Calls Tryz.prog 103 #[.pointer (some ⟨b, 0, none⟩), .slice s.a s.n s.c] w fun e w' => e = .returned (.bool true) ∧
      ∃ F' ev ns, RCore w' F' b (c.touched (L.last.1 + 1)) { L with ev := ev, es := L.es ++ ns } ∧ ns.map EntC.ab = (s.es.drop j).map EntC.ab ∧ Upd F F' w w' := by
  obtain ⟨sa, sn, sc, es⟩ := s
  dsimp only at *
  have hwf := LogC.wf_ab h.rest.log.wf
  have hlast := hwf.last
  obtain ⟨bx, off, rfl, hbx, hbxF, hcx⟩ : ∃ bx off, sa = some ⟨bx, off, none⟩ ∧ bx < w.heap.size ∧ bx ∉ F ∧ ∀ j u, (entCells es)[j]? = some u → w.cell? ⟨bx, off + j, none⟩ = some u := by
    rcases hs.sl.2.2.2.2 with h0 | ⟨bx, off, h1, h2, hQ, h5⟩
    · exact absurd (show sn = 0 from h0) (by have : sn = es.length := hs.n; omega)
    · exact ⟨bx, off, h1, h2, hQ, h5⟩
  have hsn : sn = es.length := hs.n
  subst hsn
  have hsc : es.length ≤ sc := hs.sl.1
  obtain ⟨e, he⟩ : ∃ e, es[j]? = some e := ⟨es[j], by simp [hjl]⟩
  have hed : (es.drop j)[0]? = some e := by rw [List.getElem?_drop]; simpa using he
  have hei : e.i = L.last.1 + 1 := by have := hfo.next 0 e hed; omega
  have het : L.last.2 ≤ e.t := by have := hfo.up 0 e hed; simpa [tprev] using this
  have hdl : 1 ≤ (es.drop j).length := by rw [List.length_drop]; omega
  have hla0 : 0 ≤ L.last.1 := by omega
  have hget := entCells_get es j e he
  obtain ⟨W, hW⟩ : ∃ W, W = w.alloc (.cells #[.pointer (some ⟨b, 0, none⟩)] 27) := ⟨_, rfl⟩
  have hB0 : Below w.heap.size w W := by rw [hW]; exact (Below.refl _ w).alloc (Nat.le_refl _) _
  have hbox : W.heap[w.heap.size]? = some (.cells #[.pointer (some ⟨b, 0, none⟩)] 27 (0, 0)) := by rw [hW, heap_alloc, if_pos rfl]
  have kb : W.cell? ⟨w.heap.size, 0, none⟩ = some (.pointer (some ⟨b, 0, none⟩)) := by rw [cellsOf hbox]; rfl
  have hneb : b ≠ w.heap.size := by have := ltOf h.blk; omega
  have HF := Lib.hid (findUnhad_any F b c L w.heap.size _ _ es.length sc es W (h.below hB0) kb hs.n (hs.below hB0).sl)
  rw [show firstAt (fun e => !L.has e.i e.t) es = (j : Int) from hj] at HF
  have HR0 := Lib.hid (h.below hB0)
  have HS0 := Lib.hid (hs.below hB0)
  have HB0 := Lib.hid hB0
  have HBox := Lib.hid hbox
  have HFlt := Lib.hid hF
  have Hk := Lib.hid hk
  have HbxF := Lib.hid hbxF
  have Hfo := Lib.hid hfo
  have Hcx := Lib.hid hcx
  have Hget := Lib.hid hget
  have Hwf := Lib.hid hwf
  have He := Lib.hid he
  clear h hs hk hj hbxF hB0 hbox kb hF hfo hcx hget hwf hlast he hed
  go_enter Tryz.func103, Tryz.ntmps103
  go_wp2_with fail
  rw [← hW]
  clear hW
  refine HF.out.mono ?_
  rintro ev1 w1 ⟨rfl, hb1⟩
  have hz0 := HB0.out.size
  have HR1 := Lib.hid (HR0.out.below hb1)
  have HS1 := Lib.hid (HS0.out.below hb1)
  have HB1 := Lib.hid (HB0.out.trans (hb1.mono HB0.out.size))
  have HBx1 := Lib.hid ((hb1.block _ (ltOf HBox.out)).trans HBox.out)
  clear hb1 HF HR0 HS0 HB0 HBox
  have hr1 := HR1.out
  have e0 := (HB1.out.cell (p := ⟨bx, off + j * 4, none⟩) hbx).trans (Hcx.out _ _ Hget.out.1)
  have e1 := (HB1.out.cell (p := ⟨bx, off + (j * 4 + 1), none⟩) hbx).trans (Hcx.out _ _ Hget.out.2.1)
  rw [← Nat.add_assoc] at e1
  rw [hei] at e0
  have kbx : w1.cell? ⟨w.heap.size, 0, none⟩ = some (.pointer (some ⟨b, 0, none⟩)) := by rw [cellsOf HBx1.out]; rfl
  have r0 := cell_regrown kbx
  have r1 := cell_regrown (show w1.cell? ⟨b, 4, none⟩ = some (.int .i64 c.commit) by rw [cellsOf hr1.blk]; rfl)
  have r2 := cell_regrown e0
  have HN1 := Lib.hid (fun (d : Nat) (os : Array Obj) => Calls.regrown_of (noBad_any _ _ es.length sc es (grow (redrawn w1 d) os) rfl (HS1.out.below (below_regrown w1 d os)).sl Hk.out))
  have d1 : decide (L.last.1 + 1 ≤ c.commit) = false := by simp; omega
  have hjs : (j : Int) < es.length := by omega
  have hsnl : (es.length : Int) ≤ 9223372036854775807 := by have := HS1.out.sl.2.1; unfold maxLen at this; dsimp only at this; omega
  clear hr1 e0 e1 kbx
  go_wp2_with fail
  refine wp_region_quiet_below (by kernel_rfl) (by kernel_rfl) ?_
  repeat (go_big_quiet_step (exact HN1.out _ _))
  refine wpQuiet_nil ?_
  intro wf hwf
  obtain ⟨p, hp⟩ := hwf
  have hbf : Below w1.heap.size w1 wf := by rw [hp]; exact below_regrown w1 p.d p.os
  have hzf := hbf.size
  have hz1 := HB1.out.size
  have HRf := Lib.hid (HR1.out.below hbf)
  have HSf := Lib.hid (HS1.out.below hbf)
  have HBf := Lib.hid (HB1.out.trans (hbf.mono HB1.out.size))
  have HBxf := Lib.hid ((hbf.block _ (ltOf HBx1.out)).trans HBx1.out)
  clear hp hbf HN1 HR1 HS1 HB1 HBx1 r0 r1 r2
  have hrf := HRf.out
  have q0 := cell_regrown (show wf.cell? ⟨w.heap.size, 0, none⟩ = some (.pointer (some ⟨b, 0, none⟩)) by rw [cellsOf HBxf.out]; rfl)
  have q1 := cell_regrown (show wf.cell? ⟨b, 3, none⟩ = some (.pointer (some ⟨c.lb, 0, none⟩)) by rw [cellsOf hrf.blk]; rfl)
  have g0 := (HBf.out.cell (p := ⟨bx, off + j * 4, none⟩) hbx).trans (Hcx.out _ _ Hget.out.1)
  rw [hei] at g0
  have q2 := cell_regrown g0
  have hw1 : IntKind.i64.wrap (L.last.1 + 1 - 1) = L.last.1 := by rw [show L.last.1 + 1 - 1 = L.last.1 by omega]; exact IntWalk.i64_in _ (by omega)
  have HT := Lib.hid (fun (d : Nat) (os : Array Obj) => Calls.regrown_of (term_any c.lb L L.last.1 (grow (redrawn wf d) os) (HRf.out.below (below_regrown wf d os)).rest.log.log Hwf.out))
  rw [Hwf.out.termLast] at HT
  have hj0 : decide ((j : Int) ≥ 0) = true := by simp
  clear hrf g0
  go_wp2_with fail
  refine wp_region_quiet_below (by kernel_rfl) (by kernel_rfl) ?_
  repeat (go_big_quiet_step (exact HT.out _ _))
  refine wpQuiet_nil ?_
  intro wg hwg
  obtain ⟨p, hp⟩ := hwg
  have hbg : Below wf.heap.size wf wg := by rw [hp]; exact below_regrown wf p.d p.os
  have hzg := hbg.size
  have HRg := Lib.hid (HRf.out.below hbg)
  have HSg := Lib.hid (HSf.out.below hbg)
  have HBg := Lib.hid (HBf.out.trans (hbg.mono HBf.out.size))
  have HBxg := Lib.hid ((hbg.block _ (ltOf HBxf.out)).trans HBxf.out)
  clear hp hbg HT HRf HSf HBf HBxf q0 q1 q2
  have hrg := HRg.out
  have g0 := (HBg.out.cell (p := ⟨bx, off + j * 4, none⟩) hbx).trans (Hcx.out _ _ Hget.out.1)
  have g1 := (HBg.out.cell (p := ⟨bx, off + (j * 4 + 1), none⟩) hbx).trans (Hcx.out _ _ Hget.out.2.1)
  rw [← Nat.add_assoc] at g1
  rw [hei] at g0
  have kbx : wg.cell? ⟨w.heap.size, 0, none⟩ = some (.pointer (some ⟨b, 0, none⟩)) := by rw [cellsOf HBxg.out]; rfl
  have k3 : wg.cell? ⟨b, 3, none⟩ = some (.pointer (some ⟨c.lb, 0, none⟩)) := by rw [cellsOf hrg.blk]; rfl
  have d2 : decide (e.t < L.last.2) = false := by simp; omega
  have hltb := ltOf hrg.blk
  have hltx := ltOf HBxg.out
  have hltbx : bx < wg.heap.size := Nat.lt_of_lt_of_le hbx HBg.out.size
  have HCut := Lib.hid (cutFrom_any c.lb L (L.last.1 + 1) wg.drew (HRg.out.below (Below.refl _ _).drew).rest.log.log hl0 (by have := Hwf.out.last; omega) (by omega))
  clear hrg
  go_wp2_with fail
  refine wp_region_still_tail 9 (by kernel_rfl) (by kernel_rfl) ?_
  simp only [List.take_succ_cons, List.take_zero, List.drop_succ_cons, List.drop_zero]
  repeat still_step
  refine wpStill_nil ?_
  change wpList _ _ _ _ _ wg.drew
  go_wp2_with fail
  refine HCut.out.mono ?_
  rintro e3 w3 ⟨rfl, ev3, hl3, hc3, ho3⟩
  have htk : L.es.take (L.last.1 + 1 - L.i - 1).toNat = L.es := List.take_of_length_le (by have := Hwf.out.last; omega)
  rw [htk] at hl3
  have hlbF : c.lb ∈ F := HRg.out.rest.log.mem _ (by simp)
  have hc3g : Chg [c.lb] wg w3 := (Chg.refl [c.lb] wg).drew.trans hc3
  have hlog3 := ((HRg.out.rest.log).again (w' := w3) hl3 hc3g ho3)
  have hR3 : RCore w3 F b c { L with ev := ev3 } := HRg.out.setLog (hc3g.mono (by simp)) (Ext.refl _ _) hlog3 (fun x hx => .inl (by rw [← ho3]; exact hx))
  have hS3 := HSg.out.chg hc3g (by simpa using hlbF)
  have hne1 : w.heap.size ≠ c.lb := by have := HFlt.out _ hlbF; omega
  have hbx3 := hc3g.get HBxg.out (by simpa using hne1)
  have hneb2 : bx ∉ [c.lb] → True := fun _ => trivial
  have HR3 := Lib.hid hR3
  have HS3 := Lib.hid hS3
  have HU3 := Lib.hid (show Upd F F w w3 from (Upd.below HBg.out).trans (Upd.of hc3g (by simpa using hlbF)))
  have HBx3 := Lib.hid hbx3
  have Hl3 := Lib.hid hl3
  have hz3 := hc3g.size
  have hc0 : RSl w3 (fun x => x ∉ F) 4 (some ⟨bx, off + j * 4, none⟩) (es.drop j).length (sc - j) (entCells (es.drop j)) := RE.drop rfl hS3.sl rfl j hjl
  have HA := Lib.hid (append_any (fun x => x ∉ F) c.lb { L with ev := ev3 } (some ⟨bx, off + j * 4, none⟩) (sc - j) (es.drop j) w3.drew (hl3.below (Below.refl _ _).drew) ⟨Hfo.out.ok, Hfo.out.next, Hfo.out.up⟩ (show L.es.length + _ < _ from hfew) (hc0.below (Below.refl _ _).drew)
    (fun e he => (hS3.d e (List.mem_of_mem_drop he)).below (Below.refl _ _).drew) (fun x _ hq hx => hq (hlog3.mem x hx)) (show 0 ≤ L.last.1 from hla0) (show L.last.1 ≤ 1099511627776 by omega))
  rw [List.length_drop] at HA
  clear k3 kbx
  have k3 : w3.cell? ⟨b, 3, none⟩ = some (.pointer (some ⟨c.lb, 0, none⟩)) := by rw [cellsOf hR3.blk]; rfl
  have kbx : w3.cell? ⟨w.heap.size, 0, none⟩ = some (.pointer (some ⟨b, 0, none⟩)) := by rw [cellsOf hbx3]; rfl
  have hltb3 := ltOf hR3.blk
  have hltx3 := ltOf hbx3
  clear hl3 hc3 ho3 htk hc3g hlog3 hR3 hS3 hbx3 hc0 HCut HRg HSg HBg HBxg g0 g1
  have hjle : j ≤ es.length := by omega
  have hscj : ¬ sc = j := by omega
  go_wp2_with fail
  refine wp_region_still_tail 7 (by kernel_rfl) (by kernel_rfl) ?_
  simp only [List.take_succ_cons, List.take_zero, List.drop_succ_cons, List.drop_zero]
  repeat still_step
  refine wpStill_nil ?_
  change wpList _ _ _ _ _ w3.drew
  go_wp2_with fail
  refine HA.out.mono ?_
  rintro e4 w4 ⟨rfl, ev, ns, hl4, hab, hne4, hc4, hg4⟩
  have hc34 : Chg (c.lb :: own ev3) w3 w4 := (Chg.refl _ w3).drew.trans hc4
  have hwf4 : ({ L with ev := ev, es := L.es ++ ns } : LogC).ab.Wf := wf_append HR3.out.rest.log.wf ⟨Hfo.out.ok, Hfo.out.next, Hfo.out.up⟩ hab (show L.last.1 + _ ≤ maxNum by unfold maxNum; omega) (show L.es.length + _ < _ from hfew)
  have hF3 : ∀ x ∈ F, x < w3.heap.size := HU3.out.lt HFlt.out
  obtain ⟨hlog4, hU34⟩ := RLogF.appended HR3.out.rest.log (ev := ev) (ns := ns) hl4 (fun e he => (hne4 e he).mono (fun _ _ hq => hq)) hc34 hg4 hwf4 hF3
  have hR4 : RCore w4 (own ev ++ F) b c { L with ev := ev, es := L.es ++ ns } := HR3.out.setLog hc34 hU34.ext hlog4 hg4
  have hbx4 := hc34.get HBx3.out (fun hx => by have := HR3.out.rest.log.mem _ hx; have := HFlt.out _ this; omega)
  have hU4 := HU3.out.trans hU34
  have g0 := (hU4.chg.cell (p := ⟨bx, off + j * 4, none⟩) hbx HbxF.out).trans (Hcx.out _ _ Hget.out.1)
  rw [hei] at g0
  have kbx : w4.cell? ⟨w.heap.size, 0, none⟩ = some (.pointer (some ⟨b, 0, none⟩)) := by rw [cellsOf hbx4]; rfl
  have hltx4 := ltOf hbx4
  have hltbx4 : bx < w4.heap.size := hU4.chg.lt hbx
  have HTo := Lib.hid (touch_any (own ev ++ F) b c { L with ev := ev, es := L.es ++ ns } (L.last.1 + 1) w4.drew (hR4.below (Below.refl _ _).drew))
  have HU4 := Lib.hid (hU4.trans (Upd.below (Below.refl _ _).drew))
  have Hab := Lib.hid hab
  have HbF := Lib.hid (show b ∈ own ev ++ F from hR4.bF)
  clear hl4 hab hne4 hc4 hg4 hc34 hwf4 hF3 hlog4 hU34 hR4 hbx4 hU4 HA
  go_wp2_with fail
  refine wp_region_still_tail 6 (by kernel_rfl) (by kernel_rfl) ?_
  simp only [List.take_succ_cons, List.take_zero, List.drop_succ_cons, List.drop_zero]
  repeat still_step
  refine wpStill_nil ?_
  change wpList _ _ _ _ _ w4.drew
  go_wp2_with fail
  refine HTo.out.mono ?_
  rintro e5 w5 ⟨rfl, hR5, hC5⟩
  go_wp2_with fail
  go_ret
  exact ⟨rfl, _, ev, ns, hR5, Hab.out, HU4.out.trans (Upd.of hC5 (by simpa using HbF.out))⟩
end Go.Proofs.YtjbnmamgfpnccaaGreat
