/- The map of peers: look-up and store. -/
import Derived.Test.YtjbnmamgfpnccaaGreatK6
namespace Go.Proofs.YtjbnmamgfpnccaaGreat
open Go Go.RowKit

def findP : List (Int × Nat) → Int → Option Nat
  | [], _ => none
  | p :: ps, k => if p.1 = k then some p.2 else findP ps k
def ptrOf : Option Nat → Value
  | some b => .pointer (some ⟨b, 0, none⟩)
  | none => .pointer none

theorem findNow_peers : ∀ (es : List MapEntry) (ps : List (Int × Nat)) (k : Int) (i : Nat), es.map (fun e => (e.key, e.val)) = ps.map (fun p => (Value.int .i64 p.1, Value.pointer (some ⟨p.2, 0, none⟩))) →
    ∃ r, Instr.findNow (.int .i64) (.int .i64 k) es i = some r ∧ (match findP ps k with | some b => ∃ j, r = some (j, .pointer (some ⟨b, 0, none⟩)) | none => r = none) := by
  intro es
  induction es with
  | nil =>
    intro ps k i h
    cases ps with
    | nil => exact ⟨none, rfl, rfl⟩
    | cons p ps => simp at h
  | cons e es ih =>
    intro ps k i h
    cases ps with
    | nil => simp at h
    | cons p ps =>
      simp only [List.map_cons, List.cons.injEq, Prod.mk.injEq] at h
      obtain ⟨⟨h1, h2⟩, h3⟩ := h
      obtain ⟨r, hr, hm⟩ := ih ps k (i + 1) h3
      by_cases hk : p.1 = k
      · refine ⟨some (i, e.val), by simp [Instr.findNow, Instr.sameNow, h1, hk], ?_⟩
        simp [findP, hk, h2]
      · have hk' : ¬ k = p.1 := fun e => hk e.symm
        refine ⟨r, by simp only [Instr.findNow, h1, Instr.sameNow, if_true]; rw [show (k == p.1) = false by simp [hk']]; exact hr, ?_⟩
        simpa [findP, hk] using hm

theorem Tryz.und79 : Tryz.prog.underlying 79 = some (.map 3 107) := by kernel_rfl
theorem Tryz.und3 : Tryz.prog.underlying 3 = some (.int .i64) := by kernel_rfl
theorem Tryz.zero107 : ∀ w : World, (zeroValue 107).run Tryz.prog w = .ok (.pointer none) w := fun w => by kernel_rfl

theorem run_key3 (em : Bool) (k : Int) (w : World) : (Instr.checkKey em 10000 3 (.int .i64 k)).run Tryz.prog w = .ok () w := MapKept.run_checkKey (n := 9999) Tryz.und3 (by simp [MapKept.IsKey]) em

theorem run_lookup_peer {w : World} {mb : Nat} {ps : List (Int × Nat)} (h : RMap w mb ps) (k : Int) :
    (Instr.lookup 79 (.map (some mb)) (.int .i64 k) false).run Tryz.prog w = .ok (ptrOf (findP ps k)) w := by
  obtain ⟨es, clock, h1, h2⟩ := h
  obtain ⟨r, hr, hm⟩ := findNow_peers es.toList ps k 0 h2
  unfold Instr.lookup
  simp only [Sem.run_bind, run_underlying Tryz.und79, Result.andThen_ok]
  simp only [getObj, Sem.run, h1, Result.andThen_ok, run_key3, Sem.run_bind, run_underlying Tryz.und3, Instr.findKey]
  cases hf : findP ps k with
  | none =>
    rw [hf] at hm
    subst hm
    simp [hr, Sem.run_bind, Tryz.zero107, ptrOf, pure, Sem.run, Result.andThen]
  | some b =>
    rw [hf] at hm
    obtain ⟨j, rfl⟩ := hm
    simp [hr, ptrOf, pure, Sem.run, Result.andThen]
theorem run_lookup_nilpeer (w : World) (k : Int) : (Instr.lookup 79 (.map none) (.int .i64 k) false).run Tryz.prog w = .ok (.pointer none) w := by
  unfold Instr.lookup
  simp [Sem.run_bind, run_underlying Tryz.und79, run_key3, run_underlying Tryz.und3, Instr.findKey, Instr.findNow, Tryz.zero107]

theorem run_update_peer {w : World} {mb : Nat} {ps : List (Int × Nat)} (h : RMap w mb ps) (k : Int) (pb : Nat) (hn : findP ps k = none) :
    ∃ w', (Instr.mapUpdate 79 (.map (some mb)) (.int .i64 k) (.pointer (some ⟨pb, 0, none⟩))).run Tryz.prog w = .ok () w' ∧ RMap w' mb (ps ++ [(k, pb)]) ∧ Chg [mb] w w' := by
  obtain ⟨es, clock, h1, h2⟩ := h
  obtain ⟨r, hr, hm⟩ := findNow_peers es.toList ps k 0 h2
  rw [hn] at hm
  subst hm
  have hlt := ltOf h1
  refine ⟨{ w with heap := w.heap.setIfInBounds mb (.map (es.push { key := .int .i64 k, val := .pointer (some ⟨pb, 0, none⟩), born := clock }) (clock + 1)) }, ?_, ⟨es.push { key := .int .i64 k, val := .pointer (some ⟨pb, 0, none⟩), born := clock }, clock + 1, ?_, ?_⟩, ?_⟩
  · unfold Instr.mapUpdate
    simp only [Sem.run_bind, run_underlying Tryz.und79, Result.andThen_ok]
    simp only [getObj, setObj, Sem.run, h1, Result.andThen_ok, run_key3, Sem.run_bind, run_underlying Tryz.und3, Instr.findKey]
    simp [hr, Sem.run_bind, pure, Sem.run, Result.andThen, h1]
  · exact Array.getElem?_setIfInBounds_self_of_lt hlt
  · simp [h2]
  · refine ⟨rfl, rfl, rfl, by simp, fun k _ hk => ?_⟩
    simp at hk
    exact Array.getElem?_setIfInBounds_ne (fun e => hk e.symm)

theorem findP_some {ps : List PeerC} {m : Int} {pb : Nat} (h : findP (ps.map fun p => (p.m, p.pb)) m = some pb) : ∃ p ∈ ps, p.m = m ∧ p.pb = pb := by
  induction ps with
  | nil => simp [findP] at h
  | cons p ps ih =>
    simp only [List.map_cons, findP] at h
    by_cases hm : p.m = m
    · rw [if_pos hm] at h; exact ⟨p, by simp, hm, Option.some.inj h⟩
    · rw [if_neg hm] at h; obtain ⟨q, h1, h2⟩ := ih h; exact ⟨q, by simp [h1], h2⟩
theorem findP_none {ps : List PeerC} {m : Int} (h : findP (ps.map fun p => (p.m, p.pb)) m = none) : ∀ p ∈ ps, p.m ≠ m := by
  induction ps with
  | nil => simp
  | cons p ps ih =>
    simp only [List.map_cons, findP] at h
    by_cases hm : p.m = m
    · rw [if_pos hm] at h; cases h
    · rw [if_neg hm] at h
      intro q hq; simp at hq
      rcases hq with rfl | hq
      · exact hm
      · exact ih h q hq

section
variable {w w' : World} {F F' : List Nat} {b : Nat} {c : CoreC} {L : LogC}
/-- One peer more. -/
theorem RCore.addPeer {mb : Nat} {p : PeerC} (h : RCore w F b c L) (hmb : c.mb = some mb) (hc : Chg [mb] w w') (hm : RMap w' mb ((c.ps.map fun q => (q.m, q.pb)) ++ [(p.m, p.pb)])) (hp : w'.heap[p.pb]? = some (.cells #[.int .i64 p.next, .int .i64 p.mat, .int .i64 p.off] 106 (0, 0)))
    (hnew : w.heap.size ≤ p.pb) (hne : ∀ q ∈ c.ps, q.m ≠ p.m) : RCore w' (p.pb :: F) b { c with ps := c.ps ++ [p] } L ∧ Upd F (p.pb :: F) w w' := by
  have hE : Ext w F (p.pb :: F) := Ext.cons (.inr hnew)
  have hr := h.rest
  have hfe : foot { c with ps := c.ps ++ [p] } L = foot c L ++ [p.pb] := by simp [foot]
  have hmF : mb ∈ F := hr.mem mb (by simp [foot, hmb])
  have hM : ∀ x ∈ [mb], x ∈ p.pb :: F := by simp [hmF]
  have hlt := hr.lt
  have hap := hr.apart
  have hmbx : ∀ x, x ∈ c.lb :: own L.ev ∨ x ∈ ownS c.yes ∨ x ∈ own (.slice c.oa c.on c.oc) ∨ x ∈ ownS c.coming.d ∨ x ∈ c.ps.map (·.pb) → x ∉ [mb] := by
    intro x hx hy
    simp only [List.mem_singleton] at hy
    subst hy
    simp only [foot, hmb, Option.toList_some, List.nodup_append, List.mem_append, List.mem_singleton] at hap
    grind
  refine ⟨⟨hc.get h.blk (by intro hx; simp at hx; exact h.b0 (by simp [foot, hmb, hx])), ⟨(hr.log.ext hE).chg hc hM (fun x hx hy => hmbx x (.inl hy) hx), ⟨hr.yes.1, hc.owns hr.yes.2 (fun k hk => hmbx k (.inr (.inl (by simp [ownS, mem_own, hk]))))⟩, (hr.snap.ext hE).chg hc hM, RI.chg (RI.ext hr.cv hE) hc hM, RI.chg (RI.ext hr.cl hE) hc hM,
    ⟨hr.cd.1, hc.owns hr.cd.2 (fun k hk => hmbx k (.inr (.inr (.inr (.inl (by simp [ownS, mem_own, hk]))))))⟩, ?_, ?_, ?_, ⟨hr.out.1, hc.owns hr.out.2 (fun k hk => hmbx k (.inr (.inr (.inl (by simp [mem_own, hk])))))⟩, fun m hm => ((hr.outs m hm).ext hE).chg hc hM, ?_, ?_⟩, by simp [h.bF], ?_⟩, hE, hc.mono (by simp [hmF]), ?_⟩
  · show (match c.mb with | none => c.ps ++ [p] = [] | some mb => RMap w' mb ((c.ps ++ [p]).map fun q => (q.m, q.pb)))
    rw [hmb]; simpa using hm
  · intro q hq
    simp only [List.mem_append, List.mem_singleton] at hq
    rcases hq with hq | rfl
    · exact hc.get (hr.peers q hq) (hmbx _ (.inr (.inr (.inr (.inr (List.mem_map.2 ⟨q, hq, rfl⟩))))))
    · exact hp
  · have := hr.nod
    simp only [List.map_append, List.map_cons, List.map_nil, List.nodup_append, List.mem_map] at this ⊢
    refine ⟨this, by simp, ?_⟩
    rintro a ⟨q, hq, rfl⟩ b' hb'
    simp at hb'; subst hb'; exact hne q hq
  · intro x hx
    rw [hfe] at hx
    simp at hx
    rcases hx with hx | rfl
    · simp [hr.mem x hx]
    · simp
  · rw [hfe, List.nodup_append]
    refine ⟨hap, by simp, ?_⟩
    intro x hx y hy
    simp at hy; subst hy
    have := hlt x hx; omega
  · rw [hfe]
    simp only [List.mem_append, List.mem_singleton]
    have := ltOf h.blk
    rintro (hx | hx)
    · exact h.b0 hx
    · omega
  · intro hF' x hx
    simp at hx
    rcases hx with rfl | hx
    · exact ltOf hp
    · exact hc.lt (hF' x hx)
end

theorem findP_snoc {ps : List (Int × Nat)} {m : Int} (h : findP ps m = none) (pb : Nat) : findP (ps ++ [(m, pb)]) m = some pb := by
  induction ps with
  | nil => simp [findP]
  | cons p ps ih =>
    simp only [findP] at h
    by_cases hm : p.1 = m
    · rw [if_pos hm] at h; cases h
    · rw [if_neg hm] at h
      simp only [List.cons_append, findP, if_neg hm]; exact ih h
theorem addPeer' {w w1 w' : World} {F : List Nat} {b mb : Nat} {c : CoreC} {L : LogC} {p : PeerC} (h : RCore w F b c L) (hmb : c.mb = some mb) (hb : Below w.heap.size w w1) (hc : Chg [mb] w1 w') (hm : RMap w' mb ((c.ps.map fun q => (q.m, q.pb)) ++ [(p.m, p.pb)])) (hp : w'.heap[p.pb]? = some (.cells #[.int .i64 p.next, .int .i64 p.mat, .int .i64 p.off] 106 (0, 0)))
    (hnew : w.heap.size ≤ p.pb) (hne : ∀ q ∈ c.ps, q.m ≠ p.m) : RCore w' (p.pb :: F) b { c with ps := c.ps ++ [p] } L ∧ Upd F (p.pb :: F) w w' :=
  h.addPeer hmb ((Chg.ofBelow hb).trans hc) hm hp hnew hne

set_option maxRecDepth 100000 in
set_option maxHeartbeats 1000000 in
theorem peer_any (F : List Nat) (b : Nat) (c : CoreC) (L : LogC) (m : Int) (mb : Nat) (w : World) (h : RCore w F b c L) (hmb : c.mb = some mb) :
    Calls Tryz.prog 58 #[.pointer (some ⟨b, 0, none⟩), .int .i64 m] w fun e w' => ∃ p : PeerC, e = .returned (.pointer (some ⟨p.pb, 0, none⟩)) ∧ p.m = m ∧ ∃ F' c', RCore w' F' b c' L ∧ p ∈ c'.ps ∧ Upd F F' w w' ∧
      (c' = c ∨ (c' = { c with ps := c.ps ++ [p] } ∧ p.next = L.last.1 ∧ p.mat = 0 ∧ p.off = 0 ∧ ∀ q ∈ c.ps, q.m ≠ m)) ∧ (∀ x ∈ foot c' L, x ∈ foot c L ∨ w.heap.size ≤ x) ∧ Chg (b :: foot c L) w w' := by
  have hmap := h.rest.map
  rw [hmb] at hmap
  have hlk := run_lookup_peer hmap m
  have hc := cellsOf h.blk
  have hlt := ltOf h.blk
  have k19 : w.cell? ⟨b, 19, none⟩ = some (.map (some mb)) := by rw [hc]; unfold CoreC.cells; rw [hmb]; rfl
  have H := Lib.hid h
  have Hmb := Lib.hid hmb
  have Hmap := Lib.hid hmap
  cases hf : findP (c.ps.map fun p => (p.m, p.pb)) m with
  | some pb =>
    rw [hf] at hlk
    obtain ⟨p, hp, hpm, hpb⟩ := findP_some hf
    have Hpm := Lib.hid hpm
    have Hpb := Lib.hid hpb
    unfold ptrOf at hlk
    clear hc h hmb hmap hf hpm hpb
    go_enter Tryz.func58, Tryz.ntmps58
    go_wp2
    go_ret
    exact ⟨p, by rw [Hpb.out]; rfl, Hpm.out, F, c, H.out, hp, Upd.refl _ _, .inl rfl, fun x hx => .inl hx, Chg.refl _ _⟩
  | none =>
    rw [hf] at hlk
    have Hf := Lib.hid hf
    have HL := Lib.hid (clast_any F b c L w.drew (h.below ((Below.refl _ _).drew)))
    generalize hli : L.last.1 = li at HL ⊢
    unfold ptrOf at hlk
    clear hc h hmb hmap hf hli
    go_enter Tryz.func58, Tryz.ntmps58
    go_wp2_with fail
    have hbmb : Hid (b ≠ mb) := Lib.hid (fun e => H.out.b0 (by simp [foot, Hmb.out, e]))
    go_region_held3 (fun w' => w'.cell? ⟨b, 19, none⟩ = some (.map (some mb)))
      (first | (exact k19) | (exact (hb1.cell (p := ⟨b, 19, none⟩) hlt).trans k19) | (exact (hbA.cell (p := ⟨b, 19, none⟩) hlt1).trans ((hb1.cell (p := ⟨b, 19, none⟩) hlt).trans k19)) | (exact (hc2.cell (p := ⟨b, 19, none⟩) hltA (by simp; exact hbmb.out)).trans ((hbA.cell (p := ⟨b, 19, none⟩) hlt1).trans ((hb1.cell (p := ⟨b, 19, none⟩) hlt).trans k19))))
      ((go_at_call 86; refine HL.out.mono ?_; rintro e w1 ⟨rfl, hb1'⟩; have hb1 : Below w.heap.size w w1 := ((Below.refl w.heap.size w).drew).trans hb1'; have hlt1 : b < w1.heap.size := Nat.lt_of_lt_of_le hlt hb1.size; have hbA : Below w1.heap.size w1 (w1.alloc (.cells #[.int .i64 li, .int .i64 0, .int .i64 0] 106)) := (Below.refl _ _).alloc (Nat.le_refl _) _; have hltA : b < (w1.alloc (.cells #[.int .i64 li, .int .i64 0, .int .i64 0] 106)).heap.size := Nat.lt_of_lt_of_le hlt1 hbA.size; obtain ⟨w2, hrun, hm2, hc2⟩ := run_update_peer ((Hmap.out.chg (Chg.ofBelow (M := []) hb1) (by simp)).chg (Chg.ofBelow (M := []) hbA) (by simp)) m w1.heap.size Hf.out; have HM2 := Lib.hid hm2; clear hm2))
    have hb0 : Below w.heap.size w (w1.alloc (.cells #[.int .i64 li, .int .i64 0, .int .i64 0] 106)) := hb1.trans (hbA.mono hb1.size)
    have hRA := H.out.below hb0
    have hcN : Chg [mb] (w1.alloc (.cells #[.int .i64 li, .int .i64 0, .int .i64 0] 106)) w2 := hc2
    have hnew : w.heap.size ≤ w1.heap.size := hb1.size
    have hpk : w2.heap[w1.heap.size]? = some (.cells #[.int .i64 li, .int .i64 0, .int .i64 0] 106 (0, 0)) := by
      rw [hc2.block _ (by simp) (by
        have hmlt : mb < w.heap.size := by have := Hmap.out; obtain ⟨_, _, h1, _⟩ := this; exact ltOf h1
        simp; omega)]
      exact heap_alloc_new w1 _
    obtain ⟨hR2, hU2⟩ := addPeer' (p := ⟨m, w1.heap.size, li, 0, 0⟩) H.out Hmb.out hb0 hc2 HM2.out hpk hnew (findP_none Hf.out)
    have HR2 := Lib.hid hR2
    have HU2 := Lib.hid hU2
    have HC2 : Hid (Chg (b :: foot c L) w w2) := Lib.hid (((Chg.ofBelow hb0).trans hc2).mono (by intro x hx; simp at hx; subst hx; simp [foot, Hmb.out]))
    have hlk2 := run_lookup_peer HM2.out m
    have hfind : findP ((c.ps.map fun p => (p.m, p.pb)) ++ [(m, w1.heap.size)]) m = some w1.heap.size := findP_snoc Hf.out _
    rw [hfind] at hlk2
    unfold ptrOf at hlk2
    have k19' : w2.cell? ⟨b, 19, none⟩ = some (.map (some mb)) := (hc2.cell (p := ⟨b, 19, none⟩) hltA (by simp; exact hbmb.out)).trans ((hbA.cell (p := ⟨b, 19, none⟩) hlt1).trans ((hb1.cell (p := ⟨b, 19, none⟩) hlt).trans k19))
    clear hR2 hU2 hpk hcN hRA hb0 hrun hlk HL k19 hfind
    go_wp2
    go_ret
    exact ⟨⟨m, w1.heap.size, li, 0, 0⟩, rfl, rfl, _, _, HR2.out, by simp, HU2.out, .inr ⟨rfl, rfl, rfl, rfl, findP_none Hf.out⟩, fun x hx => by simp [foot] at hx ⊢; grind, HC2.out⟩
end Go.Proofs.YtjbnmamgfpnccaaGreat
