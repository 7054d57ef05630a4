/- A member's yeses: begin, count. Its messages: Out. -/
import Derived.Test.YtjbnmamgfpnccaaGreatK2
namespace Go.Proofs.YtjbnmamgfpnccaaGreat
open Go Go.RowKit

section
variable {w w' : World} {F F' : List Nat} {b : Nat} {c : CoreC} {L : LogC}
theorem foot_yess (c : CoreC) (L : LogC) : foot c L = (c.lb :: own L.ev) ++ ownS c.yes ++ (own (.slice c.oa c.on c.oc) ++ ownS c.coming.d ++ c.mb.toList ++ c.ps.map (·.pb)) := by simp [foot]
theorem own_nodup (v : Value) : (own v).Nodup := by unfold own; cases v.ownBlock <;> simp

/-- Another row of yeses. -/
theorem RCore.setYes {yes : SI} (h : RCore w F b c L) (hc : Chg (b :: ownS c.yes) w w') (he : Ext w F F')
    (ho : w'.ownsRow 0 3 1 (.slice yes.a yes.n yes.c) yes.n (yes.xs.map (Value.int .i64))) (hn : yes.n = yes.xs.length) (hg : ∀ x ∈ ownS yes, x ∈ F' ∧ (x ∈ ownS c.yes ∨ w.heap.size ≤ x)) :
    RRest w' F' { c with yes := yes } L ∧ b ∉ foot { c with yes := yes } L := by
  have hap := h.rest.apart
  rw [foot_yess] at hap
  have hM : ∀ x ∈ b :: ownS c.yes, x ∈ F := by
    intro x hx; simp only [List.mem_cons] at hx
    rcases hx with rfl | hx
    · exact h.bF
    · exact h.rest.mem x (by simp [foot, hx])
  have hlt := h.rest.lt
  have hb0 := h.b0
  have hD : ∀ x, x ∈ c.lb :: own L.ev ∨ x ∈ own (.slice c.oa c.on c.oc) ++ ownS c.coming.d ++ c.mb.toList ++ c.ps.map (·.pb) → x ∉ b :: ownS c.yes := by
    intro x hx hy
    simp only [List.nodup_append] at hap
    have hxf : x ∈ foot c L := by rw [foot_yess]; simp only [List.mem_append] at hx ⊢; grind
    simp only [List.mem_cons] at hy
    rcases hy with rfl | hy
    · exact hb0 hxf
    · simp only [List.mem_append] at hx hap; grind
  have hr := h.rest
  have hchg : ∀ x ∈ ownS yes, x ∉ c.lb :: own L.ev ∧ x ∉ own (.slice c.oa c.on c.oc) ++ ownS c.coming.d ++ c.mb.toList ++ c.ps.map (·.pb) := by
    intro x hx
    rcases (hg x hx).2 with h1 | h1
    · exact ⟨fun hy => hD x (.inl hy) (by simp [h1]), fun hy => hD x (.inr hy) (by simp [h1])⟩
    · exact ⟨fun hy => by have := hlt x (by rw [foot_yess]; simp only [List.mem_append] at hy ⊢; grind); omega, fun hy => by have := hlt x (by rw [foot_yess]; simp only [List.mem_append] at hy ⊢; grind); omega⟩
  have hM' : ∀ x ∈ b :: ownS c.yes, x ∈ F' := fun x hx => he.sub x (hM x hx)
  refine ⟨⟨(hr.log.ext he).chg hc hM' (fun x hx hy => hD x (.inl hy) hx), ⟨hn, ho⟩,
    (hr.snap.ext he).chg hc hM', RI.chg (RI.ext hr.cv he) hc hM', RI.chg (RI.ext hr.cl he) hc hM', ⟨hr.cd.1, hc.owns hr.cd.2 (fun k hk => hD k (.inr (by simp only [List.mem_append, ownS, mem_own]; exact .inl (.inl (.inr hk)))))⟩, ?_, ?_, hr.nod,
    ⟨hr.out.1, hc.owns hr.out.2 (fun k hk => hD k (.inr (by simp only [List.mem_append, mem_own]; exact .inl (.inl (.inl hk)))))⟩, fun m hm => ((hr.outs m hm).ext he).chg hc hM', ?_, ?_⟩, ?_⟩
  · have hmp := hr.map
    revert hmp
    show (match c.mb with | none => c.ps = [] | some mb => RMap w mb (c.ps.map fun p => (p.m, p.pb))) → (match c.mb with | none => c.ps = [] | some mb => RMap w' mb (c.ps.map fun p => (p.m, p.pb)))
    cases e : c.mb with
    | none => exact id
    | some mb => exact fun hm => hm.chg hc (hD mb (.inr (by simp [e])))
  · intro p hp
    exact hc.get (hr.peers p hp) (hD _ (.inr (by simp only [List.mem_append, List.mem_map]; exact .inr ⟨p, hp, rfl⟩)))
  · intro x hx
    rw [foot_yess] at hx
    simp only [List.mem_append] at hx
    have := hr.mem x
    rw [foot_yess] at this
    simp only [List.mem_append] at this
    rcases hx with (hx | hx) | hx
    · exact he.sub x (this (.inl (.inl hx)))
    · exact (hg x hx).1
    · exact he.sub x (this (.inr hx))
  · rw [foot_yess]
    exact nodup_mid hap (own_nodup _) (fun x hx => (hchg x hx).1) (fun x hx => (hchg x hx).2)
  · intro hx
    rw [foot_yess] at hx
    simp only [List.mem_append] at hx
    rw [foot_yess] at hb0
    simp only [List.mem_append] at hb0
    rcases hx with (hx | hx) | hx
    · exact hb0 (.inl (.inl hx))
    · rcases (hg b hx).2 with h1 | h1
      · exact hb0 (.inl (.inr h1))
      · have := ltOf h.blk; omega
    · exact hb0 (.inr hx)
/-- Turning a member's numbers. -/
theorem RCore.nums (h : RCore w F b c L) (hc : Chg [b] w w') (n t v cm r l q d : Int) (wh : Bool) (hb : w'.heap[b]? = some (.cells ({ c with n := n, term := t, vote := v, commit := cm, role := r, lead := l, quiet := q, dirty := d, whole := wh } : CoreC).cells 81 (0, 0))) :
    RCore w' F b { c with n := n, term := t, vote := v, commit := cm, role := r, lead := l, quiet := q, dirty := d, whole := wh } L :=
  h.upd hc hb (h.rest.same n t v cm r l q d wh) h.b0
end

def CoreC.begun (c : CoreC) (role : Int) (yes : SI) : CoreC := { c with role := role, lead := 0, quiet := 0, yes := yes }
set_option maxRecDepth 100000 in
set_option maxHeartbeats 1000000 in
theorem begin_any (F : List Nat) (b : Nat) (c : CoreC) (L : LogC) (role : Int) (w : World) (h : RCore w F b c L) (hk : ∀ e ∈ L.es, e.k ≠ 2) (h1 : L.vn ≤ 1000) (h2 : L.ln ≤ 1000) :
    Calls Tryz.prog 83 #[.pointer (some ⟨b, 0, none⟩), .int .i64 role] w fun e w' => e = .returned (.bool (quorum L.vs [c.n])) ∧ ∃ F' yes, yes.xs = [c.n] ∧ RCore w' F' b (c.begun role yes) L ∧ Upd F F' w w' := by
  have hc := cellsOf h.blk
  have hf := freeOf h.blk
  have hlt := ltOf h.blk
  have hlt1 : b < w.heap.size + 1 := by omega
  unfold CoreC.cells at hc
  have hz : Hid (quorum L.vs [c.n] = quorum L.vs [c.n]) := Lib.hid rfl
  have H := Lib.hid h
  clear h
  have HC : ∃ w', w' = (((((w.setCell ⟨b, 5, none⟩ (.int .i64 role)).setCell ⟨b, 6, none⟩ (.int .i64 0)).setCell ⟨b, 7, none⟩ (.int .i64 0)).setCell ⟨b, 8, none⟩ (.slice (some ⟨w.heap.size, 0, none⟩) 1 1)).alloc (.cells #[.int .i64 c.n] 3)) := ⟨_, rfl⟩
  obtain ⟨w', hw'⟩ := HC
  have hC : Chg [b] w w' := by rw [hw']; exact (((((Chg.refl _ w).setCell (by simp) _).setCell (by simp) _).setCell (by simp) _).setCell (by simp) _).alloc _
  have hE : Ext w F (w.heap.size :: F) := Ext.cons (.inr (Nat.le_refl _))
  have hown : w'.ownsRow 0 3 1 (.slice (some ⟨w.heap.size, 0, none⟩) 1 1) 1 [.int .i64 c.n] := by
    have h0 := World.ownsRow_lit (base := 0) (e := 3) (size := 1) ((((w.setCell ⟨b, 5, none⟩ (.int .i64 role)).setCell ⟨b, 6, none⟩ (.int .i64 0)).setCell ⟨b, 7, none⟩ (.int .i64 0)).setCell ⟨b, 8, none⟩ (.slice (some ⟨w.heap.size, 0, none⟩) 1 1)) #[.int .i64 c.n] 1 (Nat.zero_le _) (by unfold maxLen; omega) rfl
    rw [hw']
    simp only [size_setCell] at h0
    exact h0
  have hR : RCore w' (w.heap.size :: F) b (c.begun role ⟨some ⟨w.heap.size, 0, none⟩, 1, 1, [c.n]⟩) L := by
    obtain ⟨r1, r2⟩ := RCore.setYes (yes := ⟨some ⟨w.heap.size, 0, none⟩, 1, 1, [c.n]⟩) H.out (hC.mono (by simp)) hE hown rfl (by intro x hx; simp [ownS, own, Value.ownBlock] at hx; subst hx; exact ⟨by simp, .inr (Nat.le_refl _)⟩)
    refine ⟨?_, r1.same c.n c.term c.vote c.commit role 0 0 c.dirty c.whole, hE.sub b H.out.bF, r2⟩
    rw [hw', heap_alloc_ne (by simp only [size_setCell]; exact hlt), heap_set (heap_set (heap_set (heap_set H.out.blk)))]; rfl
  have HR := Lib.hid hR
  have HU := Lib.hid (show Upd F (w.heap.size :: F) w w' from ⟨hE, hC.mono (by simpa using H.out.bF), fun hx y hy => by simp at hy; rcases hy with rfl | hy; exact own_lt hown _ (by simp [own, Value.ownBlock]); exact hC.lt (hx y hy)⟩)
  have HY := Lib.hid (show RInts w' (fun _ => True) (some ⟨w.heap.size, 0, none⟩) 1 1 [c.n] from ⟨rfl, by obtain ⟨a, k, e, hr⟩ := RSl.ofOwns hown; cases e; exact hr.mono (fun _ _ _ => trivial)⟩)
  have hcw := cellsOf hR.blk
  have hltw := ltOf hR.blk
  unfold CoreC.cells CoreC.begun at hcw
  have HW := Lib.hid hw'
  clear hR hE hC hown hw'
  go_enter Tryz.func83, Tryz.ntmps83
  go_wp2_with fail
  rw [← HW.out]
  have hdB : Below w'.heap.size w' w'.drew := (Below.refl _ _).drew
  have k8 : w'.cell? ⟨b, 8, none⟩ = some (.slice (some ⟨w.heap.size, 0, none⟩) 1 1) := by rw [cellsOf HR.out.blk]; rfl
  go_region_held3 (fun W => W.cell? ⟨b, 8, none⟩ = some (.slice (some ⟨w.heap.size, 0, none⟩) 1 1))
    (first | (exact k8) | (exact (hb1.cell (p := ⟨b, 8, none⟩) hltw).trans k8) | (exact (hb2.cell (p := ⟨b, 8, none⟩) (by show b < _; omega)).trans ((hb1.cell (p := ⟨b, 8, none⟩) hltw).trans k8)))
    ((first | (go_at_call 49; refine (cconf_any _ b _ L _ (HR.out.below hdB) hk h1 h2).mono ?_; rintro e w1 ⟨va', vc', la', lc', rfl, hr1, hr2, hb1⟩; have hs1 := hb1.size; simp only [size_drew] at hs1) | (go_at_call 119; refine (quorum_any (fun _ => True) _ _ _ _ _ _ _ _ _ L.vs [c.n] _ (hr1.mono (fun _ _ _ => trivial)) (HY.out.below (hdB.trans hb1)) (by omega) (by omega)).mono ?_; rintro e w2 ⟨rfl, hb2⟩)))
  go_wp2
  go_ret
  have hbb : Below w'.heap.size w' w2 := (hdB.trans hb1).trans (hb2.mono hb1.size)
  exact ⟨rfl, _, _, rfl, HR.out.below hbb, HU.out.trans (Upd.below hbb)⟩
end Go.Proofs.YtjbnmamgfpnccaaGreat
