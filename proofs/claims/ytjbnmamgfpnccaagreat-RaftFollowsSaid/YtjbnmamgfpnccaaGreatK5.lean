/- A member's log turns: setLog, add. -/
import Derived.Test.YtjbnmamgfpnccaaGreatK3
import Derived.Test.YtjbnmamgfpnccaaGreatN1
namespace Go.Proofs.YtjbnmamgfpnccaaGreat
open Go Go.RowKit

section
variable {w w' : World} {F F' : List Nat} {b : Nat} {c : CoreC} {L L' : LogC}
theorem foot_log (c : CoreC) (L : LogC) : foot c L = [c.lb] ++ own L.ev ++ (ownS c.yes ++ own (.slice c.oa c.on c.oc) ++ ownS c.coming.d ++ c.mb.toList ++ c.ps.map (·.pb)) := by simp [foot]

/-- Another state of its log. -/
theorem RCore.setLog (h : RCore w F b c L) (hc : Chg (c.lb :: own L.ev) w w') (he : Ext w F F') (hl : RLogF w' F' c.lb L') (hg : ∀ x ∈ own L'.ev, x ∈ own L.ev ∨ w.heap.size ≤ x) : RCore w' F' b c L' := by
  have hap := h.rest.apart
  rw [foot_log] at hap
  have hM : ∀ x ∈ c.lb :: own L.ev, x ∈ F := h.rest.log.mem
  have hlt := h.rest.lt
  have hb0 := h.b0
  have hD : ∀ x, x ∈ ownS c.yes ++ own (.slice c.oa c.on c.oc) ++ ownS c.coming.d ++ c.mb.toList ++ c.ps.map (·.pb) → x ∉ c.lb :: own L.ev := by
    intro x hx hy
    simp only [List.nodup_append, List.mem_append, List.mem_singleton] at hap
    simp only [List.mem_cons] at hy
    simp only [List.mem_append] at hx
    rcases hy with rfl | hy <;> grind
  have hr := h.rest
  have hM' : ∀ x ∈ c.lb :: own L.ev, x ∈ F' := fun x hx => he.sub x (hM x hx)
  have hchg : ∀ x ∈ own L'.ev, x ∉ [c.lb] ∧ x ∉ ownS c.yes ++ own (.slice c.oa c.on c.oc) ++ ownS c.coming.d ++ c.mb.toList ++ c.ps.map (·.pb) := by
    intro x hx
    refine ⟨fun hy => ?_, fun hy => ?_⟩
    · simp only [List.mem_singleton] at hy; subst hy; exact hl.log.ne (mem_own.1 hx)
    · rcases hg x hx with h1 | h1
      · exact hD x hy (by simp [h1])
      · have := hlt x (by rw [foot_log]; exact List.mem_append_right _ hy); omega
  have hbn : b ∉ c.lb :: own L.ev := fun hx => hb0 (by rw [foot_log]; simp only [List.mem_append, List.mem_singleton]; simp only [List.mem_cons] at hx; grind)
  refine ⟨hc.get h.blk hbn, ⟨hl, ⟨hr.yes.1, hc.owns hr.yes.2 (fun k hk => hD k (by simp only [List.mem_append, ownS, mem_own]; exact .inl (.inl (.inl (.inl hk)))))⟩,
    (hr.snap.ext he).chg hc hM', RI.chg (RI.ext hr.cv he) hc hM', RI.chg (RI.ext hr.cl he) hc hM', ⟨hr.cd.1, hc.owns hr.cd.2 (fun k hk => hD k (by simp only [List.mem_append, ownS, mem_own]; exact .inl (.inl (.inr hk))))⟩, ?_, ?_, hr.nod,
    ⟨hr.out.1, hc.owns hr.out.2 (fun k hk => hD k (by simp only [List.mem_append, mem_own]; exact .inl (.inl (.inl (.inr hk)))))⟩, fun m hm => ((hr.outs m hm).ext he).chg hc hM', ?_, ?_⟩, he.sub b h.bF, ?_⟩
  · have hmp := hr.map
    revert hmp
    cases e : c.mb with
    | none => exact id
    | some mb => exact fun hm => hm.chg hc (hD mb (by simp [e]))
  · intro p hp
    exact hc.get (hr.peers p hp) (hD _ (by simp only [List.mem_append, List.mem_map]; exact .inr ⟨p, hp, rfl⟩))
  · intro x hx
    rw [foot_log] at hx
    simp only [List.mem_append, List.mem_singleton] at hx
    have := hr.mem x
    rw [foot_log] at this
    simp only [List.mem_append, List.mem_singleton] at this
    rcases hx with (hx | hx) | hx
    · exact hl.mem x (by simp [hx])
    · exact hl.mem x (by simp [hx])
    · exact he.sub x (this (.inr hx))
  · rw [foot_log]
    exact nodup_mid hap (own_nodup _) (fun x hx => (hchg x hx).1) (fun x hx => (hchg x hx).2)
  · intro hx
    rw [foot_log] at hx
    simp only [List.mem_append, List.mem_singleton] at hx
    rw [foot_log] at hb0
    simp only [List.mem_append, List.mem_singleton] at hb0
    rcases hx with (hx | hx) | hx
    · exact hb0 (.inl (.inl hx))
    · rcases hg b hx with h1 | h1
      · exact hb0 (.inl (.inr h1))
      · have := ltOf h.blk; omega
    · exact hb0 (.inr hx)

/-- A log behind an append. -/
theorem RLogF.appended {lb : Nat} {ev : Value} {ns : List EntC} (h : RLogF w F lb L) (hr : RLog w' lb { L with ev := ev, es := L.es ++ ns }) (hn : NewEnts w w' ev lb ns) (hc : Chg (lb :: own L.ev) w w') (hg : ∀ x ∈ own ev, x ∈ own L.ev ∨ w.heap.size ≤ x)
    (hw : ({ L with ev := ev, es := L.es ++ ns } : LogC).ab.Wf) (hF : ∀ x ∈ F, x < w.heap.size) : RLogF w' (own ev ++ F) lb { L with ev := ev, es := L.es ++ ns } ∧ Upd F (own ev ++ F) w w' := by
  have hE : Ext w F (own ev ++ F) := Ext.add (fun g hg' => by
    rcases hg g hg' with h1 | h1
    · exact .inl (h.mem g (by simp [h1]))
    · exact .inr h1)
  have hM' : ∀ x ∈ lb :: own L.ev, x ∈ own ev ++ F := fun x hx => hE.sub x (h.mem x hx)
  have hx := h.ext hE
  refine ⟨⟨hr, hw, RInts.chg hx.v hc fun _ _ hQ hy => hQ (hM' _ hy), RInts.chg hx.l hc fun _ _ hQ hy => hQ (hM' _ hy), ?_, ?_⟩, hE, hc.mono h.mem, ?_⟩
  · intro e he
    simp only [List.mem_append] at he
    rcases he with he | he
    · exact (hx.d e he).chg hc fun _ _ hQ hy => hQ (hM' _ hy)
    · refine (hn e he).mono (fun y _ hq hy => ?_)
      simp only [List.mem_append] at hy
      rcases hy with hy | hy
      · exact hq.2.1 hy
      · have := hF y hy; omega
  · intro x hx
    simp only [List.mem_cons] at hx
    rcases hx with rfl | hx
    · exact hE.sub _ (h.mem _ (by simp))
    · exact List.mem_append_left _ hx
  · intro hF' x hx
    simp only [List.mem_append] at hx
    rcases hx with hx | hx
    · exact own_lt hr.own x hx
    · exact hc.lt (hF' x hx)
end
end Go.Proofs.YtjbnmamgfpnccaaGreat
