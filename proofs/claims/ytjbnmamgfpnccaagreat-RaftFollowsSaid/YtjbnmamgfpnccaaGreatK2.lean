/- What a member sends: send, Out. -/
import Derived.Test.YtjbnmamgfpnccaaGreatK1
import Derived.Deep.RegionLaw
namespace Go.Proofs.YtjbnmamgfpnccaaGreat
open Go Go.RowKit

/-- More blocks that may be written: of F, or new. -/
structure Ext (w : World) (F F' : List Nat) : Prop where
  sub : ∀ x ∈ F, x ∈ F'
  new : ∀ x ∈ F', x ∈ F ∨ w.heap.size ≤ x
theorem Ext.refl (w : World) (F : List Nat) : Ext w F F := ⟨fun _ h => h, fun _ h => .inl h⟩
theorem Ext.trans {w w' : World} {F F' F'' : List Nat} (h : Ext w F F') (k : Ext w' F' F'') (hs : w.heap.size ≤ w'.heap.size) : Ext w F F'' :=
  ⟨fun x hx => k.sub x (h.sub x hx), fun x hx => by rcases k.new x hx with h1 | h1; exact h.new x h1; exact .inr (by omega)⟩
theorem Ext.cons {w : World} {F : List Nat} {g : Nat} (h : g ∈ F ∨ w.heap.size ≤ g) : Ext w F (g :: F) := ⟨fun x hx => by simp [hx], fun x hx => by simp at hx; rcases hx with rfl | hx; exact h; exact .inl hx⟩
theorem Ext.add {w : World} {F G : List Nat} (h : ∀ g ∈ G, g ∈ F ∨ w.heap.size ≤ g) : Ext w F (G ++ F) := ⟨fun x hx => by simp [hx], fun x hx => by simp at hx; rcases hx with hx | hx; exact h x hx; exact .inl hx⟩

section
variable {w w' : World} {F F' : List Nat} {b : Nat} {c : CoreC} {L : LogC}
theorem Ext.q (he : Ext w F F') : ∀ x, x < w.heap.size → x ∉ F → x ∉ F' := fun x hx hn hf => by rcases he.new x hf with h | h; exact hn h; omega
theorem RI.ext {s : SI} (h : RI w F s) (he : Ext w F F') : RI w F' s := RInts.mono h he.q
theorem RB.ext {s : SI} (h : RB w F s) (he : Ext w F F') : RB w F' s := RBytes.mono h he.q
theorem RE.ext {s : SE} (h : RE w F s) (he : Ext w F F') : RE w F' s := ⟨h.n, h.sl.mono he.q, fun e hm => (h.d e hm).mono he.q⟩
theorem RSnap.ext {s : SnapC} (h : RSnap w F s) (he : Ext w F F') : RSnap w F' s := ⟨RI.ext h.v he, RI.ext h.l he, RB.ext h.d he⟩
theorem RMsg.ext {m : MsgC} (h : RMsg w F m) (he : Ext w F F') : RMsg w F' m := ⟨h.es.ext he, RB.ext h.data he, RI.ext h.v he, RI.ext h.l he⟩
theorem RLogF.ext {lb : Nat} (h : RLogF w F lb L) (he : Ext w F F') : RLogF w F' lb L := ⟨h.log, h.wf, RInts.mono h.v he.q, RInts.mono h.l he.q, fun e hm => (h.d e hm).mono he.q, fun x hx => he.sub x (h.mem x hx)⟩
theorem RRest.ext (h : RRest w F c L) (he : Ext w F F') : RRest w F' c L :=
  ⟨h.log.ext he, h.yes, h.snap.ext he, RI.ext h.cv he, RI.ext h.cl he, h.cd, h.map, h.peers, h.nod, h.out, fun m hm => (h.outs m hm).ext he, fun x hx => he.sub x (h.mem x hx), h.apart⟩
theorem RCore.ext (h : RCore w F b c L) (he : Ext w F F') : RCore w F' b c L := ⟨h.blk, h.rest.ext he, he.sub b h.bF, h.b0⟩

theorem own_lt {base : Nat} {e : TypeId} {size : Nat} {v : Value} {n : Nat} {xs : List Value} (h : w.ownsRow base e size v n xs) : ∀ x ∈ own v, x < w.heap.size := fun x hx => (h.lt x (mem_own.1 hx)).2
theorem RRest.lt (h : RRest w F c L) : ∀ x ∈ foot c L, x < w.heap.size := by
  intro x hx
  simp only [foot, List.mem_append, List.mem_cons, List.mem_map, Option.mem_toList] at hx
  rcases hx with ((((hx | hx) | hx) | hx) | hx) | hx
  · rcases hx with rfl | hx
    · exact ltOf h.log.log.blk
    · exact own_lt h.log.log.own x hx
  · exact own_lt h.yes.2 x hx
  · exact own_lt h.out.2 x hx
  · exact own_lt h.cd.2 x hx
  · have := h.map
    rw [hx] at this
    obtain ⟨es, clock, h1, _⟩ := this
    exact ltOf h1
  · obtain ⟨p, hp, rfl⟩ := hx
    exact ltOf (h.peers p hp)

theorem nodup_mid {A B B' C : List Nat} (h : (A ++ B ++ C).Nodup) (hB : B'.Nodup) (hA : ∀ x ∈ B', x ∉ A) (hC : ∀ x ∈ B', x ∉ C) : (A ++ B' ++ C).Nodup := by
  simp only [List.nodup_append, List.mem_append] at h ⊢
  grind

theorem foot_out (c : CoreC) (L : LogC) : foot c L = (c.lb :: own L.ev ++ ownS c.yes) ++ own (.slice c.oa c.on c.oc) ++ (ownS c.coming.d ++ c.mb.toList ++ c.ps.map (·.pb)) := by simp [foot]

/-- Another row of messages. -/
theorem RCore.setOut {oa : Option Addr} {on oc : Nat} {outs : List MsgC} (h : RCore w F b c L) (hc : Chg (b :: own (.slice c.oa c.on c.oc)) w w') (he : Ext w F F') (hb : w'.heap[b]? = some (.cells ({ c with oa := oa, on := on, oc := oc, outs := outs } : CoreC).cells 81 (0, 0)))
    (ho : w'.ownsRow 0 36 14 (.slice oa on oc) on (msgCells outs)) (hn : on = outs.length) (hm : ∀ m ∈ outs, RMsg w' F' m) (hg : ∀ x ∈ own (.slice oa on oc), x ∈ F' ∧ (x ∈ own (.slice c.oa c.on c.oc) ∨ w.heap.size ≤ x)) :
    RCore w' F' b { c with oa := oa, on := on, oc := oc, outs := outs } L := by
  have hap := h.rest.apart
  rw [foot_out] at hap
  have hM : ∀ x ∈ b :: own (.slice c.oa c.on c.oc), x ∈ F := by
    intro x hx; simp only [List.mem_cons] at hx
    rcases hx with rfl | hx
    · exact h.bF
    · exact h.rest.mem x (by simp [foot, hx])
  have hlt := h.rest.lt
  have hb0 := h.b0
  have hD : ∀ x, x ∈ c.lb :: own L.ev ++ ownS c.yes ∨ x ∈ ownS c.coming.d ++ c.mb.toList ++ c.ps.map (·.pb) → x ∉ b :: own (.slice c.oa c.on c.oc) := by
    intro x hx hy
    simp only [List.nodup_append] at hap
    have hxf : x ∈ foot c L := by rw [foot_out]; simp only [List.mem_append] at hx ⊢; grind
    simp only [List.mem_cons] at hy
    rcases hy with rfl | hy
    · exact hb0 hxf
    · simp only [List.mem_append] at hx hap; grind
  have hr := h.rest
  have hchg : ∀ x ∈ own (.slice oa on oc), x ∉ c.lb :: own L.ev ++ ownS c.yes ∧ x ∉ ownS c.coming.d ++ c.mb.toList ++ c.ps.map (·.pb) := by
    intro x hx
    rcases (hg x hx).2 with h1 | h1
    · exact ⟨fun hy => hD x (.inl hy) (by simp [h1]), fun hy => hD x (.inr hy) (by simp [h1])⟩
    · exact ⟨fun hy => by have := hlt x (by rw [foot_out]; simp only [List.mem_append] at hy ⊢; grind); omega, fun hy => by have := hlt x (by rw [foot_out]; simp only [List.mem_append] at hy ⊢; grind); omega⟩
  have hnod : (own (.slice oa on oc)).Nodup := by unfold own; cases (Value.slice oa on oc).ownBlock <;> simp
  have hM' : ∀ x ∈ b :: own (.slice c.oa c.on c.oc), x ∈ F' := fun x hx => he.sub x (hM x hx)
  refine ⟨hb, ⟨(hr.log.ext he).chg hc hM' (fun x hx hy => hD x (.inl (by simp only [List.mem_append]; exact .inl hy)) hx), ⟨hr.yes.1, hc.owns hr.yes.2 (fun k hk => hD k (.inl (by simp only [List.mem_append, ownS, mem_own]; exact .inr hk)))⟩,
    (hr.snap.ext he).chg hc hM', RI.chg (RI.ext hr.cv he) hc hM', RI.chg (RI.ext hr.cl he) hc hM', ⟨hr.cd.1, hc.owns hr.cd.2 (fun k hk => hD k (.inr (by simp only [List.mem_append, ownS, mem_own]; exact .inl (.inl hk))))⟩, ?_, ?_, hr.nod, ⟨hn, ho⟩, hm, ?_, ?_⟩, he.sub b h.bF, ?_⟩
  · have hmp := hr.map
    revert hmp
    show (match c.mb with | none => c.ps = [] | some mb => RMap w mb (c.ps.map fun p => (p.m, p.pb))) → (match c.mb with | none => c.ps = [] | some mb => RMap w' mb (c.ps.map fun p => (p.m, p.pb)))
    cases e : c.mb with
    | none => exact id
    | some mb => exact fun hm => hm.chg hc (hD mb (.inr (by simp [e])))
  · intro p hp
    exact hc.get (hr.peers p hp) (hD _ (.inr (by simp only [List.mem_append, List.mem_map]; exact .inr ⟨p, hp, rfl⟩)))
  · intro x hx
    rw [foot_out] at hx
    simp only [List.mem_append] at hx
    have := hr.mem x
    rw [foot_out] at this
    simp only [List.mem_append] at this
    rcases hx with (hx | hx) | hx
    · exact he.sub x (this (.inl (.inl hx)))
    · exact (hg x hx).1
    · exact he.sub x (this (.inr hx))
  · rw [foot_out]
    exact nodup_mid hap hnod (fun x hx => (hchg x hx).1) (fun x hx => (hchg x hx).2)
  · intro hx
    rw [foot_out] at hx
    simp only [List.mem_append] at hx
    rw [foot_out] at hb0
    simp only [List.mem_append] at hb0
    rcases hx with (hx | hx) | hx
    · exact hb0 (.inl (.inl hx))
    · rcases (hg b hx).2 with h1 | h1
      · exact hb0 (.inl (.inr h1))
      · have := ltOf h.blk; omega
    · exact hb0 (.inr hx)
end

/-- A step: what may be written, before and behind; what has been written lay in F. -/
structure Upd (F F' : List Nat) (w w' : World) : Prop where
  ext : Ext w F F'
  chg : Chg F w w'
  lt : (∀ x ∈ F, x < w.heap.size) → ∀ x ∈ F', x < w'.heap.size
theorem Upd.refl (F : List Nat) (w : World) : Upd F F w w := ⟨Ext.refl _ _, Chg.refl _ _, id⟩
theorem Upd.trans {F F' F'' : List Nat} {w w' w'' : World} (h : Upd F F' w w') (k : Upd F' F'' w' w'') : Upd F F'' w w'' :=
  ⟨h.ext.trans k.ext h.chg.size, h.chg.trans' k.chg h.ext.new, fun hx => k.lt (h.lt hx)⟩
theorem Upd.of {F M : List Nat} {w w' : World} (h : Chg M w w') (hM : ∀ x ∈ M, x ∈ F) : Upd F F w w' := ⟨Ext.refl _ _, h.mono hM, fun hx y hy => h.lt (hx y hy)⟩
theorem Upd.below {F : List Nat} {w w' : World} (h : Below w.heap.size w w') : Upd F F w w' := ⟨Ext.refl _ _, Chg.ofBelow h, fun hx y hy => Nat.lt_of_lt_of_le (hx y hy) h.size⟩
theorem RI.upd {F F' : List Nat} {w w' : World} {s : SI} (h : RI w F s) (u : Upd F F' w w') : RI w' F' s := RI.chg (RI.ext h u.ext) u.chg (fun x hx => u.ext.sub x hx)
theorem RB.upd {F F' : List Nat} {w w' : World} {s : SI} (h : RB w F s) (u : Upd F F' w w') : RB w' F' s := RB.chg (RB.ext h u.ext) u.chg (fun x hx => u.ext.sub x hx)
theorem RE.upd {F F' : List Nat} {w w' : World} {s : SE} (h : RE w F s) (u : Upd F F' w w') : RE w' F' s := (h.ext u.ext).chg u.chg (fun x hx => u.ext.sub x hx)
theorem RMsg.upd {F F' : List Nat} {w w' : World} {m : MsgC} (h : RMsg w F m) (u : Upd F F' w w') : RMsg w' F' m := (h.ext u.ext).chg u.chg (fun x hx => u.ext.sub x hx)

def MsgC.sent (m : MsgC) (c : CoreC) : MsgC := { m with frm := c.n, term := if m.term = 0 then c.term else m.term }
theorem Tryz.info36 : (Tryz.prog.info? 36).map (fun i => (i.zero, i.size, i.bytes)) = some (some (.agg #[.int .i64 0, .int .i64 0, .int .i64 0, .int .i64 0, .int .i64 0, .int .i64 0, .int .i64 0, .bool false, .slice none 0 0, .int .i64 0, .slice none 0 0, .bool false, .slice none 0 0, .slice none 0 0]), 14, 176) := by kernel_rfl
theorem Tryz.und22 : Tryz.prog.underlying 22 = some (.slice 36) := by kernel_rfl
def MsgC.arr (m : MsgC) : Array Value := #[.int .i64 m.kind, .int .i64 m.frm, .int .i64 m.to, .int .i64 m.term, .int .i64 m.index, .int .i64 m.logTerm, .int .i64 m.commit, .bool m.ok,
  .slice m.es.a m.es.n m.es.c, .int .i64 m.off, .slice m.data.a m.data.n m.data.c, .bool m.last, .slice m.v.a m.v.n m.v.c, .slice m.l.a m.l.n m.l.c]

/-- What send owes behind its walk. -/
theorem send_fin {F : List Nat} {b : Nat} {c : CoreC} {L : LogC} {w w1 w2 : World} {m : MsgC} {a' : Option Addr} {c' H : Nat} (h : RCore w F b c L) (hm : RMsg w F m) (hb : Below w.heap.size w w1) (hH : w1.heap.size = H)
    (hown : w2.ownsRow 0 36 14 (.slice a' (c.on + 1) c') (c.on + 1) (msgCells c.outs ++ m.cells)) (hgrow : w1.grownBy w2 (Value.slice c.oa c.on c.oc).ownBlock)
    (hat : (Value.slice a' (c.on + 1) c').ownBlock = (Value.slice c.oa c.on c.oc).ownBlock ∨ (Value.slice a' (c.on + 1) c').ownBlock = some H) :
    ∃ F' oa on oc, RCore (w2.setCell ⟨b, 20, none⟩ (.slice a' (c.on + 1) c')) F' b { c with oa := oa, on := on, oc := oc, outs := c.outs ++ [m] } L ∧ Upd F F' w (w2.setCell ⟨b, 20, none⟩ (.slice a' (c.on + 1) c')) := by
  have hz := hb.size
  have hnb : (Value.slice c.oa c.on c.oc).ownBlock ≠ some b := fun e => h.b0 (by simp [foot, mem_own, e])
  have hC : Chg (b :: own (.slice c.oa c.on c.oc)) w (w2.setCell ⟨b, 20, none⟩ (.slice a' (c.on + 1) c')) :=
    ((Chg.ofBelow hb).grown hgrow (fun k hk => .inl (by simp [mem_own, hk]))).setCell (by simp) _
  have hE : Ext w F (own (.slice a' (c.on + 1) c') ++ F) := Ext.add (fun g hg => by
    rw [mem_own] at hg
    rcases hat with h1 | h1
    · exact .inl (h.rest.mem g (by rw [foot_out]; simp only [List.mem_append, mem_own]; exact .inl (.inr (by rw [← h1]; exact hg))))
    · rw [h1] at hg; cases hg; exact .inr (by omega))
  refine ⟨own (.slice a' (c.on + 1) c') ++ F, a', c.on + 1, c', h.setOut hC hE ?_ ?_ ?_ ?_ ?_, hE, hC.mono ?_, ?_⟩
  · have h2 : w2.heap[b]? = some (.cells c.cells 81 (0, 0)) := by
      rw [hgrow.block b (by have := ltOf h.blk; omega) (fun e => hnb e.symm), hb.block b (ltOf h.blk)]; exact h.blk
    rw [heap_set h2]; rfl
  · have : msgCells (c.outs ++ [m]) = msgCells c.outs ++ m.cells := by simp [msgCells]
    rw [this]
    refine (Chg.refl [b] w2).setCell (by simp) _ |>.owns hown ?_
    intro k hk hx
    simp at hx; subst hx
    rcases hat with h1 | h1
    · rw [h1] at hk; exact hnb hk
    · rw [h1] at hk; cases hk; have := ltOf h.blk; omega
  · have := h.rest.out.1; simp; omega
  · intro x hx
    have hx' : RMsg w F x := by
      simp at hx
      rcases hx with hx | rfl
      · exact h.rest.outs x hx
      · exact hm
    refine (hx'.ext hE).chg hC (fun y hy => ?_)
    simp only [List.mem_cons] at hy
    rcases hy with rfl | hy
    · exact hE.sub _ h.bF
    · exact hE.sub _ (h.rest.mem y (by rw [foot_out]; simp only [List.mem_append]; exact .inl (.inr hy)))
  · intro x hx
    refine ⟨by simp [hx], ?_⟩
    rw [mem_own] at hx ⊢
    rcases hat with h1 | h1
    · exact .inl (by rw [← h1]; exact hx)
    · rw [h1] at hx; cases hx; exact .inr (by omega)
  · intro x hx
    simp only [List.mem_cons] at hx
    rcases hx with rfl | hx
    · exact h.bF
    · exact h.rest.mem x (by rw [foot_out]; simp only [List.mem_append]; exact .inl (.inr hx))
  · intro hF x hx
    simp only [List.mem_append] at hx
    rcases hx with hx | hx
    · have := own_lt hown x hx; simpa [size_setCell] using this
    · exact hC.lt (hF x hx)

theorem alloc2_new (w : World) (o1 o2 : Obj) : ((w.alloc o1).alloc o2).heap[w.heap.size + 1]? = some o2 := by rw [heap_alloc, size_alloc, if_pos rfl]
theorem own_neL {w : World} {base : Nat} {e : TypeId} {size : Nat} {v : Value} {n : Nat} {xs : List Value} {k : Nat} (h : w.ownsRow base e size v n xs) (hk : w.heap.size ≤ k) : some k ≠ v.ownBlock := fun he => by have := (h.lt k he.symm).2; omega

set_option maxRecDepth 100000 in
set_option maxHeartbeats 1000000 in
theorem send_any (F : List Nat) (b : Nat) (c : CoreC) (L : LogC) (m : MsgC) (w : World) (h : RCore w F b c L) (hm : RMsg w F m) (hfew : c.outs.length < 1000000) :
    Calls Tryz.prog 36 #[.pointer (some ⟨b, 0, none⟩), .agg #[.int .i64 m.kind, .int .i64 m.frm, .int .i64 m.to, .int .i64 m.term, .int .i64 m.index, .int .i64 m.logTerm, .int .i64 m.commit, .bool m.ok,
      .slice m.es.a m.es.n m.es.c, .int .i64 m.off, .slice m.data.a m.data.n m.data.c, .bool m.last, .slice m.v.a m.v.n m.v.c, .slice m.l.a m.l.n m.l.c]] w fun e w' =>
      e = .returned (.tuple #[]) ∧ ∃ F' oa on oc, RCore w' F' b { c with oa := oa, on := on, oc := oc, outs := c.outs ++ [m.sent c] } L ∧ Upd F F' w w' := by
  obtain ⟨i0, hi, hz0, hz1, hz2⟩ := info_parts Tryz.info36
  obtain ⟨t', ht', hs'⟩ : ∃ t', m.sent c = { m with frm := c.n, term := t' } ∧ t' = if m.term = 0 then c.term else m.term := ⟨_, rfl, rfl⟩
  have hcase : (m.term == 0) = true ∧ t' = c.term ∨ (m.term == 0) = false ∧ t' = m.term := by
    by_cases h0 : m.term = 0
    · exact .inl ⟨by simp [h0], by rw [hs', if_pos h0]⟩
    · exact .inr ⟨by simp [h0], by rw [hs', if_neg h0]⟩
  have Hs := Lib.hid ht'
  rw [ht']
  clear ht' hs'
  have hc := cellsOf h.blk
  have hf := freeOf h.blk
  have hlt := ltOf h.blk
  have hon := h.rest.out.1
  have hon1 : c.on < 1000000 := by omega
  have hown := Lib.hid h.rest.out.2
  have hneb : (Value.slice c.oa c.on c.oc).ownBlock ≠ some b := fun e => h.b0 (by simp [foot, mem_own, e])
  have Hneb := Lib.hid hneb
  unfold CoreC.cells at hc
  have H := Lib.hid h
  have Hm := Lib.hid (show RMsg w F { m with frm := c.n, term := t' } from ⟨hm.es, hm.data, hm.v, hm.l⟩)
  clear h hm hon hneb
  have hcell : ∀ u ∈ ({ m with frm := c.n, term := t' } : MsgC).arr.toList, u.oneCell' = true := by simp [MsgC.arr, Value.oneCell']
  have Hcell := Lib.hid hcell
  clear hcell
  rcases hcase with ⟨hq, rfl⟩ | ⟨hq, rfl⟩
  · have c20 : w.cell? ⟨b, 20, none⟩ = some (.slice c.oa c.on c.oc) := by rw [hc]; rfl
    have f20 := hf 20
    have hlt1 : b < w.heap.size + 1 := by omega
    have hbox : RSl ((w.alloc (.cells ({ m with frm := c.n, term := c.term } : MsgC).arr 36)).alloc (.cells ({ m with frm := c.n, term := c.term } : MsgC).arr 36)) (fun _ => True) 14 (some ⟨w.heap.size + 1, 0, none⟩) 1 1 ({ m with frm := c.n, term := c.term } : MsgC).arr.toList :=
      RSl.ofBlk (alloc2_new w _ _) trivial (Nat.le_refl _) (by unfold maxLen; omega) rfl (fun j u hu => by simpa using hu)
    have Hbox := Lib.hid hbox
    have Ho := Lib.hid ((hown.out.alloc (.cells ({ m with frm := c.n, term := c.term } : MsgC).arr 36)).alloc (.cells ({ m with frm := c.n, term := c.term } : MsgC).arr 36))
    clear hbox
    unfold MsgC.arr at Hbox Ho Hcell
    go_enter Tryz.func36, Tryz.ntmps36
    go_wp2
    go_region_law ((refine step_append_sl _ (by rfl) (.tmp 21) (.tmp 23) 22 (by rfl) 0 36 i0 _ 14 176 Tryz.und22 hi hz0 hz1 hz2 rfl (by omega) (.slice c.oa c.on c.oc) c.on (msgCells c.outs) (by rfl) Ho.out (fun _ => True) (some ⟨w.heap.size + 1, 0, none⟩) 1 1 _ (by rfl) Hbox.out Hcell.out (by unfold maxLen; omega) (by omega) (by omega) _ rfl ?_; intro a2 c2 w2 hown2 hgrow hat; have k20 : w2.cell? ⟨b, 20, none⟩ = some (.slice c.oa c.on c.oc) := (hgrow.cell_far _ (by simp; omega) (Ne.symm Hneb.out)).trans (by simp [c20, hlt, hlt1, World.cell?_alloc_past]); have fk20 : w2.frozen? ⟨b, 20, none⟩ = false := (hgrow.frozen_far _ (by simp; omega) (Ne.symm Hneb.out)).trans (by simp [f20, hlt, hlt1, World.frozen?_alloc_past])))
    all_goals
      go_end0
      obtain ⟨F', oa, on, oc, hR, hU⟩ := send_fin H.out Hm.out ((((Below.refl _ w).alloc (Nat.le_refl _) _).alloc (by simp) _).drew) rfl hown2 hgrow hat
      exact ⟨rfl, F', oa, on, oc, hR, hU⟩
  · have c20 : w.cell? ⟨b, 20, none⟩ = some (.slice c.oa c.on c.oc) := by rw [hc]; rfl
    have f20 := hf 20
    have hlt1 : b < w.heap.size + 1 := by omega
    have hbox : RSl ((w.alloc (.cells ({ m with frm := c.n, term := m.term } : MsgC).arr 36)).alloc (.cells ({ m with frm := c.n, term := m.term } : MsgC).arr 36)) (fun _ => True) 14 (some ⟨w.heap.size + 1, 0, none⟩) 1 1 ({ m with frm := c.n, term := m.term } : MsgC).arr.toList :=
      RSl.ofBlk (alloc2_new w _ _) trivial (Nat.le_refl _) (by unfold maxLen; omega) rfl (fun j u hu => by simpa using hu)
    have Hbox := Lib.hid hbox
    have Ho := Lib.hid ((hown.out.alloc (.cells ({ m with frm := c.n, term := m.term } : MsgC).arr 36)).alloc (.cells ({ m with frm := c.n, term := m.term } : MsgC).arr 36))
    clear hbox
    unfold MsgC.arr at Hbox Ho Hcell
    go_enter Tryz.func36, Tryz.ntmps36
    go_wp2
    go_region_law ((refine step_append_sl _ (by rfl) (.tmp 21) (.tmp 23) 22 (by rfl) 0 36 i0 _ 14 176 Tryz.und22 hi hz0 hz1 hz2 rfl (by omega) (.slice c.oa c.on c.oc) c.on (msgCells c.outs) (by rfl) Ho.out (fun _ => True) (some ⟨w.heap.size + 1, 0, none⟩) 1 1 _ (by rfl) Hbox.out Hcell.out (by unfold maxLen; omega) (by omega) (by omega) _ rfl ?_; intro a2 c2 w2 hown2 hgrow hat; have k20 : w2.cell? ⟨b, 20, none⟩ = some (.slice c.oa c.on c.oc) := (hgrow.cell_far _ (by simp; omega) (Ne.symm Hneb.out)).trans (by simp [c20, hlt, hlt1, World.cell?_alloc_past]); have fk20 : w2.frozen? ⟨b, 20, none⟩ = false := (hgrow.frozen_far _ (by simp; omega) (Ne.symm Hneb.out)).trans (by simp [f20, hlt, hlt1, World.frozen?_alloc_past])))
    all_goals
      go_end0
      obtain ⟨F', oa, on, oc, hR, hU⟩ := send_fin H.out Hm.out ((((Below.refl _ w).alloc (Nat.le_refl _) _).alloc (by simp) _).drew) rfl hown2 hgrow hat
      exact ⟨rfl, F', oa, on, oc, hR, hU⟩

end Go.Proofs.YtjbnmamgfpnccaaGreat
