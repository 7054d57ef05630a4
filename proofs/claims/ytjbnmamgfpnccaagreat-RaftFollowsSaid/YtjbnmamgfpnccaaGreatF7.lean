/- RaftFollows: the leader's log grows; the member is sent to. -/
import Derived.Test.YtjbnmamgfpnccaaGreatF6
import Derived.Test.YtjbnmamgfpnccaaGreatW11
namespace Go.Proofs.YtjbnmamgfpnccaaGreat
open Go Go.RowKit Go.Sort

def follower (lb : Nat) (a : Option Addr) (cc : Nat) : CoreC := newCore 2 0 0 lb 0 a cc
/-- The leader's log and the member, while the log grows. -/
structure Grows (w0 w : World) (G : List Nat) (lbl : Nat) (M : LogC) (bc lbc : Nat) (a : Option Addr) (cc : Nat) (Lc : LogC) (E : List Ent) : Prop where
  log : RLogF w G lbl M
  core : RCore w G bc (follower lbc a cc) Lc
  ow : Own w0 w G
  holds : Holds M E E.length
  lead : Lead E
  bn : bc ∉ lbl :: own M.ev
  ln : lbc ∉ lbl :: own M.ev

theorem foot_follower (lb : Nat) (a : Option Addr) (cc : Nat) (va la : Option Addr) (vn vc ln lc : Nat) (vs ls : List Int) : foot (follower lb a cc) (newLog va vn vc la ln lc vs ls) = [lb] := rfl

theorem Lead.snoc {E : List Ent} (h : Lead E) (h20 : E.length < 20) (d : List Int) (hd : d.length ≤ 2048) : Lead (E ++ [⟨(E.length : Int) + 1, 3, 1, d⟩]) := by
  refine ⟨by simp; omega, fun j e he => ?_⟩
  rcases Nat.lt_or_ge j E.length with h1 | h1
  · rw [List.getElem?_append_left h1] at he
    exact h.2 j e he
  · rw [List.getElem?_append_right h1] at he
    have hj : j = E.length := by have := (List.getElem?_eq_some_iff.1 he).1; simp at this; omega
    subst hj
    simp at he
    subst he
    exact ⟨rfl, rfl, rfl, hd⟩

/-- An entry comes behind the leader's log. -/
theorem grow_any (w0 w : World) (G : List Nat) (lbl : Nat) (M : LogC) (bc lbc : Nat) (a : Option Addr) (cc : Nat) (va la : Option Addr) (vn vc ln lc : Nat) (vs ls : List Int) (E : List Ent) (h : Grows w0 w G lbl M bc lbc a cc (newLog va vn vc la ln lc vs ls) E) (h20 : E.length < 20) (xb : Nat) (s : SI) (hs : RBytes w0 (fun _ => True) s.a s.n s.c s.xs) (hn : s.n ≤ 2048)
    (hxb : w.heap[xb]? = some (.cells #[.int .i64 ((E.length : Int) + 1), .int .i64 3, .int .i64 1, .slice s.a s.n s.c] 48 (0, 0))) (hx : xb ∉ lbl :: own M.ev) :
    Calls Tryz.prog 14 #[.pointer (some ⟨lbl, 0, none⟩), .slice (some ⟨xb, 0, none⟩) 1 1] w fun e w' => e = .returned (.int .i64 0) ∧
      ∃ G' M', Grows w0 w' G' lbl M' bc lbc a cc (newLog va vn vc la ln lc vs ls) (E ++ [⟨(E.length : Int) + 1, 3, 1, s.xs⟩]) ∧ (∀ x ∈ G, x ∈ G') := by
  obtain ⟨l1, l2⟩ := h.holds.last h.lead
  have hE20 := h.lead.1
  have hsn : s.n = s.xs.length := hs.1
  have ht : termOf E.length ≤ 3 := by unfold termOf; split <;> omega
  have hQ : ∀ x, x ∈ lbl :: own M.ev → w0.heap.size ≤ x := fun x hx => h.ow.ge x (h.log.mem x hx)
  have hfo : Follow M [⟨(E.length : Int) + 1, 3, 1, s.a, s.n, s.c, s.xs⟩] := by
    refine ⟨?_, ?_, ?_⟩
    · intro e he
      simp at he; subst he
      exact ⟨by dsimp only; omega, by dsimp only; omega, show (0 : Int) ≤ 3 by decide, show (3 : Int) ≤ 1099511627776 by decide, show (0 : Int) ≤ 1 by decide, show (1 : Int) ≤ 1 by decide, hn⟩
    · intro j e he
      cases j with
      | zero => simp at he; subst he; dsimp only; omega
      | succ j => simp at he
    · intro j e he
      cases j with
      | zero => simp at he; subst he; show M.last.2 ≤ 3; rw [l2]; exact ht
      | succ j => simp at he
  have hw0 : ∀ {y : Nat}, y < w0.heap.size → y ∉ lbl :: own M.ev := fun hy hm => by have := hQ _ hm; omega
  have hsl : RSl w (fun x => x ∉ lbl :: own M.ev) 4 (some ⟨xb, 0, none⟩) 1 1 (entCells [⟨(E.length : Int) + 1, 3, 1, s.a, s.n, s.c, s.xs⟩]) :=
    RSl.ofBlk hxb hx (Nat.le_refl _) (by unfold maxLen; omega) rfl (fun j u hu => by simpa [entCells, EntC.cells] using hu)
  have hd : RBytes w (fun x => x ∉ lbl :: own M.ev) s.a s.n s.c s.xs := (RBytes.mono (Q' := fun x => x ∉ lbl :: own M.ev) hs (fun x hx _ => hw0 hx)).below h.ow.below
  refine (append_any (fun x => x ∉ lbl :: own M.ev) lbl M (some ⟨xb, 0, none⟩) 1 [⟨(E.length : Int) + 1, 3, 1, s.a, s.n, s.c, s.xs⟩] w h.log.log hfo (by rw [h.holds.len]; simp; omega) hsl (by intro e he; simp at he; subst he; exact hd) (fun x _ hq => hq) (by omega) (by omega)).mono ?_
  rintro e w' ⟨rfl, ev, ns, hl, hab, hne, hc, hg⟩
  have hab' : ns.map EntC.ab = [⟨(E.length : Int) + 1, 3, 1, s.xs⟩] := hab
  have hwf : ({ M with ev := ev, es := M.es ++ ns } : LogC).ab.Wf := wf_append h.log.wf hfo hab (by rw [l1]; unfold maxNum; simp; omega) (by rw [h.holds.len]; simp; omega)
  obtain ⟨hlog, hU⟩ := RLogF.appended h.log hl hne hc hg hwf h.ow.lt
  have hdis : ∀ x ∈ lbl :: own M.ev, x ∉ bc :: foot (follower lbc a cc) (newLog va vn vc la ln lc vs ls) := by
    intro x hx hy
    rw [foot_follower] at hy
    simp only [List.mem_cons, List.not_mem_nil, or_false] at hy
    rcases hy with rfl | rfl
    · exact h.bn hx
    · exact h.ln hx
  have hcore := (h.core.ext hU.ext).chg hc (fun x hx => hU.ext.sub x (h.log.mem x hx)) hdis
  have hnew : ∀ y, y < w.heap.size → y ∉ lbl :: own M.ev → y ∉ lbl :: own ev := by
    intro y hy hn hm
    rcases List.mem_cons.1 hm with h1 | h1
    · exact hn (by rw [h1]; simp)
    · rcases hg y h1 with h2 | h2
      · exact hn (List.mem_cons_of_mem _ h2)
      · omega
  refine ⟨rfl, _, _, ⟨hlog, hcore, h.ow.upd hU, ⟨h.holds.i, h.holds.t, ?_, Nat.le_refl _⟩, h.lead.snoc h20 s.xs (by omega), hnew bc (ltOf h.core.blk) h.bn, hnew lbc (ltOf h.core.rest.log.log.blk) h.ln⟩, fun x hx => hU.ext.sub x hx⟩
  rw [List.take_length, List.map_append, h.holds.es, List.take_length, hab']

/-- The member, while it is sent to. -/
structure Fedd (w0 w : World) (F G : List Nat) (lbl : Nat) (M : LogC) (bc : Nat) (c : CoreC) (L : LogC) (C : Int) (E : List Ent) (p k : Nat) : Prop where
  log : RLogF w G lbl M
  core : RCore w F bc c L
  sub : ∀ x ∈ F, x ∈ G
  ow : Own w0 w G
  holds : Holds M E E.length
  lead : Lead E
  apart : ∀ x ∈ F, x ∉ lbl :: own M.ev
  fol : Fol C E p k c L

theorem fed_any (w0 w : World) (F G : List Nat) (lbl : Nat) (M : LogC) (bc : Nat) (c : CoreC) (L : LogC) (cm : Int) (E : List Ent) (p k x n : Nat) (h : Fedd w0 w F G lbl M bc c L (bits .and .i64 cm 31) E p k) (hk : k < 1000) (h1 : 1 ≤ n) (h8 : n ≤ 8) (hx : x ≤ 1000) :
    Calls Tryz.prog 15 #[.pointer (some ⟨bc, 0, none⟩), .pointer (some ⟨lbl, 0, none⟩), .int .i64 (x : Int), .int .i64 (n : Int), .int .i64 cm] w fun e w' => e = .returned (.tuple #[]) ∧
      ∃ F' G' c' L' p', Fedd w0 w' F' G' lbl M bc c' L' (bits .and .i64 cm 31) E p' (k + 1) ∧ p ≤ p' ∧ ((c.term = 3 ∧ c.lead = 1) ∨ x ≤ E.length → c'.term = 3 ∧ c'.lead = 1) ∧
        (x ≤ p → x + min n (E.length - x) ≤ p' ∧ min (bits .and .i64 cm 31) ((x + min n (E.length - x) : Nat) : Int) ≤ c'.commit) := by
  have hFlt : ∀ y ∈ F, y < w.heap.size := fun y hy => h.ow.lt y (h.sub y hy)
  have hd : ∀ e ∈ M.es, RBytes w (fun b => b ∉ G) e.da e.dn e.dc e.d ∧ e.dn ≤ 2048 := fun e he => ⟨h.log.d e he, by
    obtain ⟨j, hj⟩ := List.mem_iff_getElem?.1 he
    obtain ⟨_, h2⟩ := h.holds.get hj
    obtain ⟨_, _, _, e4⟩ := h.lead.2 _ _ h2
    have e4 : e.d.length ≤ 2048 := e4
    rw [(h.log.d e he).1]; exact e4⟩
  refine (send15_any F bc c L lbl M _ cm E p k x n w h.core hFlt h.lead h.fol hk h.log.log h.holds h.log.wf hd h1 h8 hx).mono ?_
  rintro e w' ⟨rfl, ⟨hlt, hb⟩ | ⟨hle, F', c', L', p', hR, hU, hf, t3, l1, hp, hmore⟩⟩
  · have hp := h.fol.holds.p
    refine ⟨rfl, F, G, c, L, p, ⟨h.log.chg (M := []) (Chg.ofBelow hb) (by simp) (by simp), h.core.below hb, h.sub, h.ow.chg (M := []) (Chg.ofBelow hb) (by simp), h.holds, h.lead, h.apart, ⟨h.fol.n, h.fol.role, h.fol.term, h.fol.holds, h.fol.c0, h.fol.cC, h.fol.cp, Nat.le_succ_of_le h.fol.few⟩⟩, Nat.le_refl _, fun ht => ?_, fun hxp => by omega⟩
    rcases ht with ht | ht
    · exact ht
    · omega
  · have hE : Ext w G (F' ++ G) := Ext.add (fun y hy => by
      rcases hU.ext.new y hy with h1 | h1
      · exact .inl (h.sub y h1)
      · exact .inr h1)
    have hlog := (h.log.ext hE).chg hU.chg (fun y hy => by simp [h.sub y hy]) h.apart
    have hO : Own w0 w' (F' ++ G) := by
      have hall := (h.ow.narrow h.sub).upd hU
      have hG := h.ow.chg hU.chg h.sub
      exact ⟨fun y hy => by rcases List.mem_append.1 hy with h1 | h1; exact hall.lt y h1; exact hG.lt y h1, fun y hy => by rcases List.mem_append.1 hy with h1 | h1; exact hall.ge y h1; exact hG.ge y h1, hall.below⟩
    have hap : ∀ y ∈ F', y ∉ lbl :: own M.ev := by
      intro y hy hm
      rcases hU.ext.new y hy with h1 | h1
      · exact h.apart y h1 hm
      · have := h.ow.lt y (h.log.mem y hm); omega
    exact ⟨rfl, F', F' ++ G, c', L', p', ⟨hlog, hR, fun y hy => by simp [hy], hO, h.holds, h.lead, hap, hf⟩, hp, fun _ => ⟨t3, l1⟩, hmore⟩
end Go.Proofs.YtjbnmamgfpnccaaGreat
