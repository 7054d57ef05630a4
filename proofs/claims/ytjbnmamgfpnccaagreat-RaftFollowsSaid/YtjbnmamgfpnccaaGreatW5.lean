/- count. -/
import Derived.Test.YtjbnmamgfpnccaaGreatW4
import Derived.Test.YtjbnmamgfpnccaaGreatK16
namespace Go.Proofs.YtjbnmamgfpnccaaGreat
open Go Go.RowKit Go.Sort

theorem yes_fin {F : List Nat} {b : Nat} {c : CoreC} {L : LogC} {w w1 w2 : World} {frm : Int} {a' : Option Addr} {c' H : Nat} (h : RCore w F b c L) (hb : Below w.heap.size w w1) (hH : w1.heap.size = H)
    (hown : w2.ownsRow 0 3 1 (.slice a' (c.yes.n + 1) c') (c.yes.n + 1) (c.yes.xs.map (Value.int .i64) ++ [.int .i64 frm])) (hgrow : w1.grownBy w2 (Value.slice c.yes.a c.yes.n c.yes.c).ownBlock)
    (hat : (Value.slice a' (c.yes.n + 1) c').ownBlock = (Value.slice c.yes.a c.yes.n c.yes.c).ownBlock ∨ (Value.slice a' (c.yes.n + 1) c').ownBlock = some H) :
    ∃ F', RCore (w2.setCell ⟨b, 8, none⟩ (.slice a' (c.yes.n + 1) c')) F' b { c with yes := ⟨a', c.yes.n + 1, c', c.yes.xs ++ [frm]⟩ } L ∧ Upd F F' w (w2.setCell ⟨b, 8, none⟩ (.slice a' (c.yes.n + 1) c')) ∧ Chg (b :: ownS c.yes) w (w2.setCell ⟨b, 8, none⟩ (.slice a' (c.yes.n + 1) c')) := by
  have hz := hb.size
  have hnb : (Value.slice c.yes.a c.yes.n c.yes.c).ownBlock ≠ some b := fun e => h.b0 (by simp [foot, ownS, mem_own, e])
  have hC : Chg (b :: ownS c.yes) w (w2.setCell ⟨b, 8, none⟩ (.slice a' (c.yes.n + 1) c')) :=
    ((Chg.ofBelow hb).grown hgrow (fun k hk => .inl (by simp [ownS, mem_own, hk]))).setCell (by simp) _
  have hE : Ext w F (own (.slice a' (c.yes.n + 1) c') ++ F) := Ext.add (fun g hg => by
    rw [mem_own] at hg
    rcases hat with h1 | h1
    · exact .inl (h.rest.mem g (by rw [foot_yess]; simp only [List.mem_append, ownS, mem_own]; exact .inl (.inr (by rw [← h1]; exact hg))))
    · rw [h1] at hg; cases hg; exact .inr (by omega))
  have ho : (w2.setCell ⟨b, 8, none⟩ (.slice a' (c.yes.n + 1) c')).ownsRow 0 3 1 (.slice a' (c.yes.n + 1) c') (c.yes.n + 1) ((c.yes.xs ++ [frm]).map (Value.int .i64)) := by
    rw [List.map_append]
    refine (Chg.refl [b] w2).setCell (by simp) _ |>.owns hown ?_
    intro k hk hx
    simp at hx; subst hx
    rcases hat with h1 | h1
    · rw [h1] at hk; exact hnb hk
    · rw [h1] at hk; cases hk; have := ltOf h.blk; omega
  have hlen := h.rest.yes.1
  obtain ⟨r1, r2⟩ := RCore.setYes (yes := ⟨a', c.yes.n + 1, c', c.yes.xs ++ [frm]⟩) h hC hE ho (by simp; omega) (by
    intro x hx
    have hx' : x ∈ own (.slice a' (c.yes.n + 1) c') := hx
    refine ⟨by simp [hx'], ?_⟩
    rw [mem_own] at hx'
    rcases hat with h1 | h1
    · exact .inl (by simp only [ownS, mem_own]; rw [← h1]; exact hx')
    · rw [h1] at hx'; cases hx'; exact .inr (by omega))
  refine ⟨own (.slice a' (c.yes.n + 1) c') ++ F, ⟨?_, r1, hE.sub b h.bF, r2⟩, ⟨hE, hC.mono ?_, ?_⟩, hC⟩
  · have h2 : w2.heap[b]? = some (.cells c.cells 81 (0, 0)) := by
      rw [hgrow.block b (by have := ltOf h.blk; omega) (fun e => hnb e.symm), hb.block b (ltOf h.blk)]; exact h.blk
    rw [heap_set h2]; rfl
  · intro x hx
    simp only [List.mem_cons] at hx
    rcases hx with rfl | hx
    · exact h.bF
    · exact h.rest.mem x (by rw [foot_yess]; simp only [List.mem_append]; exact .inl (.inr hx))
  · intro hF x hx
    simp only [List.mem_append] at hx
    rcases hx with hx | hx
    · exact own_lt ho x hx
    · exact hC.lt (hF x hx)

set_option maxRecDepth 100000 in
set_option maxHeartbeats 1000000 in
/-- A yes that counts. -/
theorem count_any (F : List Nat) (b : Nat) (c : CoreC) (L : LogC) (m : MsgC) (w : World) (h : RCore w F b c L) (hok : m.ok = true) (hvt : L.vs.contains m.frm = true) (hk : ∀ e ∈ L.es, e.k ≠ 2) (h1 : L.vn ≤ 1000) (h2 : L.ln ≤ 1000) (hfew : c.yes.xs.length < 1000000) :
    Calls Tryz.prog 100 #[.pointer (some ⟨b, 0, none⟩), .agg m.cells.toArray] w fun e w' => e = .returned (.bool (quorum L.vs (c.yes.xs ++ [m.frm]))) ∧
      ∃ F' yes, yes.xs = c.yes.xs ++ [m.frm] ∧ RCore w' F' b { c with yes := yes } L ∧ Upd F F' w w' := by
  obtain ⟨kind, frm, to, term, idx, lt, cm, ok, es, off, data, last, v, l⟩ := m
  unfold MsgC.cells
  dsimp only at *
  subst hok
  obtain ⟨W, hW⟩ : ∃ W, W = w.alloc (.cells #[.int .i64 kind, .int .i64 frm, .int .i64 to, .int .i64 term, .int .i64 idx, .int .i64 lt, .int .i64 cm, .bool true, .slice es.a es.n es.c, .int .i64 off, .slice data.a data.n data.c, .bool last, .slice v.a v.n v.c, .slice l.a l.n l.c] 36) := ⟨_, rfl⟩
  have hB0 : Below w.heap.size w W := by rw [hW]; exact (Below.refl _ w).alloc (Nat.le_refl _) _
  have hbox : W.heap[w.heap.size]? = some (.cells #[.int .i64 kind, .int .i64 frm, .int .i64 to, .int .i64 term, .int .i64 idx, .int .i64 lt, .int .i64 cm, .bool true, .slice es.a es.n es.c, .int .i64 off, .slice data.a data.n data.c, .bool last, .slice v.a v.n v.c, .slice l.a l.n l.c] 36 (0, 0)) := by rw [hW, heap_alloc, if_pos rfl]
  have hR := h.below hB0
  have HR := Lib.hid hR
  have HBx := Lib.hid hbox
  have HB0 := Lib.hid hB0
  have HC := Lib.hid (cconf_any F b c L W hR hk h1 h2)
  clear hB0 hbox h hR
  go_enter Tryz.func100, Tryz.ntmps100
  go_wp2_with fail
  rw [← hW]
  refine HC.out.mono ?_
  rintro e w1 ⟨va', vc', la', lc', rfl, hr1, hr2, hb1⟩
  have hz1 := hb1.size
  have hszW : w.heap.size < W.heap.size := ltOf HBx.out
  have hlx : w.heap.size < w1.heap.size := by omega
  have kx := cellsOf ((hb1.block _ hszW).trans HBx.out)
  have HR1 := Lib.hid (HR.out.below hb1)
  have HltW := Lib.hid (show ∀ k ∈ b :: ownS c.yes, k < W.heap.size from fun k hk => by
    simp only [List.mem_cons] at hk
    rcases hk with rfl | hk
    · exact ltOf HR.out.blk
    · exact HR.out.rest.lt k (by simp [foot, hk]))
  have HB1 := Lib.hid (HB0.out.trans (hb1.mono (by omega)))
  have Hr1 := Lib.hid hr1
  have Hr2 := Lib.hid hr2
  clear HC hW HR HB0 HBx hr1 hr2 hb1
  go_wp2_with fail
  have hB2 : Below w1.heap.size w1 (w1.alloc (.cells #[.slice va' L.vn vc', .slice la' L.ln lc'] 26)) := (Below.refl _ w1).alloc (Nat.le_refl _) _
  refine (voter_any _ _ _ _ _ _ _ L.vs frm _ (Hr1.out.below hB2) (by omega)).mono ?_
  rintro e w2 ⟨rfl, hb2⟩
  have hvt' : hasI L.vs frm = true := hvt
  rw [hvt']
  have hz2 := hb2.size
  rw [size_alloc] at hz2
  have hB12 : Below w1.heap.size w1 w2 := hB2.trans (hb2.mono (by rw [size_alloc]; omega))
  have kx1 : w2.cell? ⟨w.heap.size, 1, none⟩ = some (.int .i64 frm) := (hB12.cell (p := ⟨w.heap.size, 1, none⟩) hlx).trans (by rw [kx]; rfl)
  have kv : w2.heap[w1.heap.size]? = some (.cells #[.slice va' L.vn vc', .slice la' L.ln lc'] 26 (0, 0)) := by rw [hb2.block _ (by rw [size_alloc]; omega), heap_alloc, if_pos rfl]
  have hR2 := HR1.out.below hB12
  have HR2 := Lib.hid hR2
  have HU2 := Lib.hid (Upd.below (F := F) (HB1.out.trans (hB12.mono (by omega))))
  have Hr12 := Lib.hid (Hr1.out.below hB12)
  have Kv := Lib.hid kv
  have k8 : w2.cell? ⟨b, 8, none⟩ = some (.slice c.yes.a c.yes.n c.yes.c) := by rw [cellsOf hR2.blk]; rfl
  have f8 := freeOf hR2.blk 8
  have hltb := ltOf hR2.blk
  have hlx2 : w.heap.size < w2.heap.size := by omega
  have hlv2 : w1.heap.size < w2.heap.size := by omega
  have hltb1 : b < w2.heap.size + 1 := by omega
  have hyl : c.yes.n < 1000000 := by have := hR2.rest.yes.1; omega
  have Hneb := Lib.hid (show (Value.slice c.yes.a c.yes.n c.yes.c).ownBlock ≠ some b from fun e => hR2.b0 (by simp [foot, ownS, mem_own, e]))
  have Ho := Lib.hid (hR2.rest.yes.2.alloc (.cells #[.int .i64 frm] 3))
  have Hbox := Lib.hid (show RSl (w2.alloc (.cells #[.int .i64 frm] 3)) (fun _ => True) 1 (some ⟨w2.heap.size, 0, none⟩) 1 1 [.int .i64 frm] from
    RSl.ofBlk (cur := #[.int .i64 frm]) (e := 3) (fz := (0, 0)) (by rw [heap_alloc, if_pos rfl]) trivial (Nat.le_refl _) (by unfold maxLen; omega) rfl (fun j u hu => by simpa using hu))
  have Hnv := Lib.hid (show ∀ k, (Value.slice c.yes.a c.yes.n c.yes.c).ownBlock = some k → k ∈ foot c L from fun k hk => by simp [foot, ownS, mem_own, hk])
  obtain ⟨i0, hi, hz0, hz1', hz2'⟩ := info_parts Tryz.info3
  clear hR2 kv hb2 hB12 hB2 Hr1 Hr2 HB1 HR1 kx
  go_wp2_with fail
  go_region_law ((refine step_append_sl _ (by rfl) (.tmp 22) (.tmp 25) 24 (by rfl) 0 3 i0 _ 1 8 Tryz.und24 hi hz0 hz1' hz2' rfl (by omega) (.slice c.yes.a c.yes.n c.yes.c) c.yes.n (c.yes.xs.map (Value.int .i64)) (by rfl) Ho.out (fun _ => True) (some ⟨w2.heap.size, 0, none⟩) 1 1 _ (by rfl) Hbox.out (by simp [Value.oneCell']) (by unfold maxLen; omega) (by omega) (by omega) _ rfl ?_; intro a2 c2 w3 hown3 hgrow hat; have k20 : w3.cell? ⟨b, 8, none⟩ = some (.slice c.yes.a c.yes.n c.yes.c) := (hgrow.cell_far _ (by simp; omega) (Ne.symm Hneb.out)).trans (by simp [k8, hltb, hltb1, World.cell?_alloc_past]); have fk20 : w3.frozen? ⟨b, 8, none⟩ = false := (hgrow.frozen_far _ (by simp; omega) (Ne.symm Hneb.out)).trans (by simp [f8, hltb, hltb1, World.frozen?_alloc_past])))
  all_goals
    obtain ⟨F', hR4, hU4, hC4⟩ := yes_fin HR2.out (((Below.refl _ w2).alloc (Nat.le_refl _) (.cells #[.int .i64 frm] 3)).drew) rfl hown3 hgrow hat
    have kv3 := hC4.get Kv.out (fun hm => by have := HltW.out _ hm; omega)
    have hr4 := Hr12.out.chg hC4 (fun x _ hq hm => by have h1 : W.heap.size ≤ x := hq; have := HltW.out _ hm; omega)
    have HR4 := Lib.hid hR4
    have HU4 := Lib.hid (HU2.out.trans hU4)
    clear hR4 hU4 hown3 hgrow hat k20 fk20 hC4
    obtain ⟨W4, hW4⟩ : ∃ W4, W4 = w3.setCell ⟨b, 8, none⟩ (.slice a2 (c.yes.n + 1) c2) := ⟨_, rfl⟩
    rw [← hW4] at HR4 HU4 kv3 hr4 ⊢
    clear hW4
    have kvc := cellsOf kv3
    have kvf := freeOf kv3
    have kvl := ltOf kv3
    have k8 : W4.cell? ⟨b, 8, none⟩ = some (.slice a2 (c.yes.n + 1) c2) := by rw [cellsOf HR4.out.blk]; rfl
    have q0 := cell_regrown (show W4.cell? ⟨w1.heap.size, 0, none⟩ = some (.slice va' L.vn vc') by rw [kvc]; rfl)
    have q1 := cell_regrown (show W4.cell? ⟨w1.heap.size, 1, none⟩ = some (.slice la' L.ln lc') by rw [kvc]; rfl)
    have q8 := cell_regrown k8
    have hys : RInts W4 (fun x => True) a2 (c.yes.n + 1) c2 (c.yes.xs ++ [frm]) := by
      obtain ⟨hn, ho⟩ := HR4.out.rest.yes
      obtain ⟨a, k, e, hr⟩ := RSl.ofOwns ho
      cases e
      exact ⟨hn, hr.mono (fun _ _ _ => trivial)⟩
    have HQ := Lib.hid (fun (d : Nat) (os : Array Obj) => Calls.regrown_of (quorum_any (fun _ => True) va' la' a2 L.vn vc' L.ln lc' (c.yes.n + 1) c2 L.vs (c.yes.xs ++ [frm]) (grow (redrawn W4 d) os) ((hr4.mono (fun _ _ _ => trivial)).below (below_regrown W4 d os)) (hys.below (below_regrown W4 d os)) (by omega) (by omega)))
    clear kv3 hr4 kvc kvf kvl k8 hys
    go_wp2_with fail
    refine wp_region_quiet_below (by kernel_rfl) (by kernel_rfl) ?_
    repeat (go_big_quiet_step (exact HQ.out _ _))
    refine wpQuiet_nil ?_
    intro wf hwf
    obtain ⟨p, hp⟩ := hwf
    have hbf : Below W4.heap.size W4 wf := by rw [hp]; exact below_regrown W4 p.d p.os
    go_wp2_with fail
    go_ret
    exact ⟨rfl, F', _, rfl, HR4.out.below hbf, HU4.out.trans (Upd.below hbf)⟩
end Go.Proofs.YtjbnmamgfpnccaaGreat
