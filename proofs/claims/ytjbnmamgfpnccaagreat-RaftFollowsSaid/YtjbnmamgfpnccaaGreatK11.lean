/- leads. -/
import Derived.Test.YtjbnmamgfpnccaaGreatK10
import Derived.Test.YtjbnmamgfpnccaaGreatK6
namespace Go.Proofs.YtjbnmamgfpnccaaGreat
open Go Go.RowKit

section
variable {w w' : World} {F F' : List Nat} {b : Nat} {c : CoreC} {L : LogC}
def CoreC.leading (c : CoreC) (mb : Nat) : CoreC := { c with role := 3, lead := c.n, quiet := 0, mb := some mb, ps := [] }
theorem foot_map (c : CoreC) (L : LogC) : foot c L = (c.lb :: own L.ev ++ ownS c.yes ++ own (.slice c.oa c.on c.oc) ++ ownS c.coming.d) ++ (c.mb.toList ++ c.ps.map (·.pb)) := by simp [foot]
/-- A new map of peers. -/
theorem RCore.newMap {mb : Nat} (h : RCore w F b c L) (hc : Chg [b] w w') (hnew : w.heap.size ≤ mb) (hm : RMap w' mb []) (hb : w'.heap[b]? = some (.cells (c.leading mb).cells 81 (0, 0))) :
    RCore w' (mb :: F) b (c.leading mb) L := by
  have hE : Ext w F (mb :: F) := Ext.cons (.inr hnew)
  have hr := h.rest
  have hM : ∀ x ∈ [b], x ∈ mb :: F := by simp [h.bF]
  have hlt := hr.lt
  have hblt := ltOf h.blk
  have hap := hr.apart
  have hb0 := h.b0
  have hlt : ∀ x ∈ foot c L, x < w.heap.size := hr.lt
  rw [foot_map] at hap hb0 hlt
  have hD : ∀ x, x ∈ c.lb :: own L.ev ++ ownS c.yes ++ own (.slice c.oa c.on c.oc) ++ ownS c.coming.d → x ∉ [b] := by
    intro x hx hy
    simp only [List.mem_singleton] at hy
    subst hy
    exact hb0 (List.mem_append.2 (.inl hx))
  refine ⟨hb, ⟨(hr.log.ext hE).chg hc hM (fun x hx hy => hD x (by simp only [List.mem_append]; exact .inl (.inl (.inl hy))) hx), ⟨hr.yes.1, hc.owns hr.yes.2 (fun k hk => hD k (by simp only [List.mem_append]; exact .inl (.inl (.inr (mem_own.2 hk)))))⟩, (hr.snap.ext hE).chg hc hM, RI.chg (RI.ext hr.cv hE) hc hM, RI.chg (RI.ext hr.cl hE) hc hM,
    ⟨hr.cd.1, hc.owns hr.cd.2 (fun k hk => hD k (by simp only [List.mem_append]; exact .inr (mem_own.2 hk)))⟩, hm, by simp [CoreC.leading], by simp [CoreC.leading], ⟨hr.out.1, hc.owns hr.out.2 (fun k hk => hD k (by simp only [List.mem_append]; exact .inl (.inr (mem_own.2 hk))))⟩, fun m hm => ((hr.outs m hm).ext hE).chg hc hM, ?_, ?_⟩, by simp [h.bF], ?_⟩
  · intro x hx
    rw [foot_map] at hx
    rcases List.mem_append.1 hx with hx | hx
    · exact List.mem_cons_of_mem _ (hr.mem x (by rw [foot_map]; exact List.mem_append.2 (.inl hx)))
    · simp [CoreC.leading] at hx; simp [hx]
  · rw [foot_map, List.nodup_append]
    refine ⟨(List.nodup_append.1 hap).1, by simp [CoreC.leading], ?_⟩
    intro x hx y hy
    simp [CoreC.leading] at hy; subst hy
    have := hlt x (List.mem_append.2 (.inl hx)); omega
  · rw [foot_map]
    intro hx
    rcases List.mem_append.1 hx with hx | hx
    · exact hb0 (List.mem_append.2 (.inl hx))
    · simp [CoreC.leading] at hx; omega
end

theorem touched_eq (c : CoreC) (i : Int) : ∃ d, c.touched i = { c with dirty := d } := by
  unfold CoreC.touched
  split
  · exact ⟨i, rfl⟩
  · exact ⟨c.dirty, rfl⟩
theorem reckoned_eq (c : CoreC) (L : LogC) (to : Int) : ∃ d, c.reckoned L to = { c with commit := d } := by
  unfold CoreC.reckoned
  split
  · exact ⟨to, rfl⟩
  · exact ⟨c.commit, rfl⟩

/-- What a member is when it has begun to lead. -/
def Led (c c' : CoreC) (L' : LogC) : Prop := ∃ mb c3, PsExt ((c.leading mb).touched L'.last.1) c3 L' ∧ Told (c3.reckoned L' (midOf ((c.leading mb).touched L'.last.1) L')) c' L' 2000

set_option maxRecDepth 100000 in
set_option maxHeartbeats 2000000 in
theorem leads_any (F : List Nat) (b : Nat) (c : CoreC) (L : LogC) (w : World) (h : RCore w F b c L) (hF : ∀ x ∈ F, x < w.heap.size)
    (hk : ∀ e ∈ L.es, e.k ≠ 2) (h0 : 0 < L.vn) (h1 : L.vn ≤ 1000) (h2 : L.ln ≤ 1000) (hd : ∀ e ∈ L.es, e.dn ≤ 2048) (hfew : c.outs.length ≤ 900000)
    (ht0 : 0 ≤ c.term) (ht1 : c.term ≤ 1099511627776) (htl : L.last.2 ≤ c.term) (hfull : L.last.1 < 1099511627776) (hmany : L.es.length + 1 < 1000000) :
    Calls Tryz.prog 101 #[.pointer (some ⟨b, 0, none⟩)] w fun e w' => e = .returned (.tuple #[]) ∧ ∃ F' ev e' c', RCore w' F' b c' { L with ev := ev, es := L.es ++ [e'] } ∧ e'.ab = ⟨L.last.1 + 1, c.term, 0, []⟩ ∧
      Led c c' { L with ev := ev, es := L.es ++ [e'] } ∧ Upd F F' w w' := by
  have hc := cellsOf h.blk
  have hf := freeOf h.blk
  have hlt := ltOf h.blk
  have hlt1 : b < w.heap.size + 1 := by omega
  unfold CoreC.cells at hc
  have H := Lib.hid h
  clear h
  have hmm := @run_makeMap Tryz.prog
  go_enter Tryz.func101, Tryz.ntmps101
  go_wp2_with fail
  obtain ⟨W, hW⟩ : ∃ W, W = (((((w.setCell ⟨b, 5, none⟩ (.int .i64 3)).setCell ⟨b, 6, none⟩ (.int .i64 c.n)).setCell ⟨b, 7, none⟩ (.int .i64 0)).setCell ⟨b, 19, none⟩ (.map (some w.heap.size))).alloc (.map #[] 0)) := ⟨_, rfl⟩
  rw [← hW]
  have hC : Chg [b] w W := by rw [hW]; exact (((((Chg.refl _ w).setCell (by simp) _).setCell (by simp) _).setCell (by simp) _).setCell (by simp) _).alloc _
  have hsz : W.heap.size = w.heap.size + 1 := by rw [hW]; simp
  have hR : RCore W (w.heap.size :: F) b (c.leading w.heap.size) L := by
    refine H.out.newMap hC (Nat.le_refl _) ⟨#[], 0, ?_, by simp⟩ ?_
    · rw [hW, heap_alloc, if_pos (by simp)]
    · rw [hW, heap_alloc_ne (by simp only [size_setCell]; exact hlt), heap_set (heap_set (heap_set (heap_set H.out.blk)))]; rfl
  have hFW : ∀ x ∈ w.heap.size :: F, x < W.heap.size := by
    intro x hx
    simp only [List.mem_cons] at hx
    rcases hx with rfl | hx
    · omega
    · have := hF x hx; omega
  have HU := Lib.hid (show Upd F (w.heap.size :: F) w W from ⟨Ext.cons (.inr (Nat.le_refl _)), hC.mono (by simpa using H.out.bF), fun _ => hFW⟩)
  have HA := Lib.hid (add_any (w.heap.size :: F) b (c.leading w.heap.size) L 0 none 0 0 [] W hR hFW ⟨rfl, RSl.nil _ _ _⟩ (by omega) (by omega) (by omega) ht0 ht1 htl hfull hmany)
  have HFW := Lib.hid hFW
  have Hk := Lib.hid hk
  have Hd := Lib.hid hd
  clear hW hC hR hFW hc hf hk hd hmm
  generalize w.heap.size = mb at *
  refine HA.out.mono ?_
  rintro e w2 ⟨rfl, F2, ev, e', hR2, hab, hU2⟩
  have hlast : (⟨L.i, L.t, L.va, L.vn, L.vc, L.la, L.ln, L.lc, ev, L.es ++ [e'], L.vs, L.ls⟩ : LogC).last.1 = L.last.1 + 1 := by
    simp only [EntC.ab, Ent.mk.injEq] at hab
    simp [LogC.last, hab.1]
  have hek : e'.k = 0 := by simp only [EntC.ab, Ent.mk.injEq] at hab; exact hab.2.2.1
  have hed : e'.dn = 0 := by
    have h1 := (hR2.rest.log.d e' (by simp)).1
    simp only [EntC.ab, Ent.mk.injEq] at hab
    rw [hab.2.2.2] at h1
    simpa using h1
  have hli : L.i < L.last.1 + 1 := by
    have hwf := LogC.wf_ab H.out.rest.log.wf
    have := hwf.last; omega
  have Hab := Lib.hid hab
  rw [← hlast] at hR2
  have Hlast := Lib.hid hlast
  have HR2 := Lib.hid hR2
  have HU2 := Lib.hid (HU.out.trans hU2)
  have HF2 := Lib.hid (hU2.lt HFW.out)
  clear hlast hR2 hU2 hab HA HU
  have Hk' : Hid (∀ e ∈ L.es ++ [e'], e.k ≠ 2) := Lib.hid (by
    intro e he
    simp only [List.mem_append, List.mem_singleton] at he
    rcases he with he | rfl
    · exact Hk.out e he
    · omega)
  have Hd' : Hid (∀ e ∈ L.es ++ [e'], e.dn ≤ 2048) := Lib.hid (by
    intro e he
    simp only [List.mem_append, List.mem_singleton] at he
    rcases he with he | rfl
    · exact Hd.out e he
    · omega)
  obtain ⟨d, htd⟩ := touched_eq (c.leading mb) (⟨L.i, L.t, L.va, L.vn, L.vc, L.la, L.ln, L.lc, ev, L.es ++ [e'], L.vs, L.ls⟩ : LogC).last.1
  have HRk := Lib.hid (reckon_any F2 b _ ⟨L.i, L.t, L.va, L.vn, L.vc, L.la, L.ln, L.lc, ev, L.es ++ [e'], L.vs, L.ls⟩ mb w2 HR2.out HF2.out (by rw [htd]; rfl) Hk'.out h0 h1 h2)
  have Htd := Lib.hid htd
  clear htd hek hed
  go_wp2_with fail
  refine HRk.out.mono ?_
  rintro e w3 ⟨rfl, F3, c3, hR3, hE3, hU3⟩
  obtain ⟨d3, hd3⟩ := reckoned_eq c3 ⟨L.i, L.t, L.va, L.vn, L.vc, L.la, L.ln, L.lc, ev, L.es ++ [e'], L.vs, L.ls⟩ (midOf ((c.leading mb).touched (⟨L.i, L.t, L.va, L.vn, L.vc, L.la, L.ln, L.lc, ev, L.es ++ [e'], L.vs, L.ls⟩ : LogC).last.1) ⟨L.i, L.t, L.va, L.vn, L.vc, L.la, L.ln, L.lc, ev, L.es ++ [e'], L.vs, L.ls⟩)
  have hE3' := hE3
  obtain ⟨qs, e3, f3, _⟩ := hE3'
  have hS := sendAll_any F3 b _ ⟨L.i, L.t, L.va, L.vn, L.vc, L.la, L.ln, L.lc, ev, L.es ++ [e'], L.vs, L.ls⟩ mb w3 hR3 (hU3.lt HF2.out) (by rw [hd3, e3, Htd.out]; rfl) Hk'.out h0 h1 h2
    (by
      rw [hd3, e3, Htd.out]
      intro p hp
      simp [CoreC.leading] at hp
      have h9 := (f3 p hp).1
      have h8 := Hlast.out
      exact ⟨by dsimp only; omega, by omega⟩)
    (by have h8 := Hlast.out; dsimp only; omega) Hd'.out (by rw [hd3, e3, Htd.out]; simpa [CoreC.leading] using hfew)
  have HS := Lib.hid hS
  have HE3 := Lib.hid hE3
  have HU3 := Lib.hid (HU2.out.trans hU3)
  clear hS hE3 hU3 hR3 hd3 e3 f3 HRk
  go_wp2_with fail
  refine HS.out.mono ?_
  rintro e w4 ⟨rfl, F4, c4, hR4, hT4, hU4⟩
  have HR4 := Lib.hid hR4
  have HT4 := Lib.hid hT4
  have HU4 := Lib.hid (HU3.out.trans hU4)
  clear hR4 hT4 hU4 HS
  go_wp2_with fail
  go_end0
  exact ⟨rfl, F4, ev, e', c4, HR4.out, Hab.out, ⟨mb, c3, HE3.out, HT4.out⟩, HU4.out⟩
end Go.Proofs.YtjbnmamgfpnccaaGreat
