/- A member in memory. -/
import Derived.Test.YtjbnmamgfpnccaaGreatL2
namespace Go.Proofs.YtjbnmamgfpnccaaGreat
open Go Go.RowKit

/-- A slice, and what it reads as. -/
structure SI where
  a : Option Addr
  n : Nat
  c : Nat
  xs : List Int
def SI.nil : SI := ⟨none, 0, 0, []⟩
/-- A slice, and the blocks that lie outside of F. -/
abbrev RI (w : World) (F : List Nat) (s : SI) : Prop := RInts w (fun b => b ∉ F) s.a s.n s.c s.xs
abbrev RB (w : World) (F : List Nat) (s : SI) : Prop := RBytes w (fun b => b ∉ F) s.a s.n s.c s.xs
structure SE where
  a : Option Addr
  n : Nat
  c : Nat
  es : List EntC
def SE.nil : SE := ⟨none, 0, 0, []⟩
structure RE (w : World) (F : List Nat) (s : SE) : Prop where
  n : s.n = s.es.length
  sl : RSl w (fun b => b ∉ F) 4 s.a s.n s.c (entCells s.es)
  d : ∀ e ∈ s.es, RBytes w (fun b => b ∉ F) e.da e.dn e.dc e.d
structure SnapC where
  i : Int
  t : Int
  v : SI
  l : SI
  d : SI
def SnapC.nil : SnapC := ⟨0, 0, .nil, .nil, .nil⟩
structure RSnap (w : World) (F : List Nat) (s : SnapC) : Prop where
  v : RI w F s.v
  l : RI w F s.l
  d : RB w F s.d
structure MsgC where
  kind : Int
  frm : Int
  to : Int
  term : Int
  index : Int
  logTerm : Int
  commit : Int
  ok : Bool
  es : SE
  off : Int
  data : SI
  last : Bool
  v : SI
  l : SI
def MsgC.cells (m : MsgC) : List Value := [.int .i64 m.kind, .int .i64 m.frm, .int .i64 m.to, .int .i64 m.term, .int .i64 m.index, .int .i64 m.logTerm, .int .i64 m.commit, .bool m.ok,
  .slice m.es.a m.es.n m.es.c, .int .i64 m.off, .slice m.data.a m.data.n m.data.c, .bool m.last, .slice m.v.a m.v.n m.v.c, .slice m.l.a m.l.n m.l.c]
def msgCells (ms : List MsgC) : List Value := ms.flatMap MsgC.cells
structure RMsg (w : World) (F : List Nat) (m : MsgC) : Prop where
  es : RE w F m.es
  data : RB w F m.data
  v : RI w F m.v
  l : RI w F m.l
structure PeerC where
  m : Int
  pb : Nat
  next : Int
  mat : Int
  off : Int
structure CoreC where
  n : Int
  term : Int
  vote : Int
  lb : Nat
  commit : Int
  role : Int
  lead : Int
  quiet : Int
  yes : SI
  snap : SnapC
  coming : SnapC
  mb : Option Nat
  oa : Option Addr
  on : Nat
  oc : Nat
  outs : List MsgC
  dirty : Int
  whole : Bool
  ps : List PeerC
def CoreC.cells (c : CoreC) : Array Value := #[.int .i64 c.n, .int .i64 c.term, .int .i64 c.vote, .pointer (some ⟨c.lb, 0, none⟩), .int .i64 c.commit, .int .i64 c.role, .int .i64 c.lead, .int .i64 c.quiet,
  .slice c.yes.a c.yes.n c.yes.c, .int .i64 c.snap.i, .int .i64 c.snap.t, .slice c.snap.v.a c.snap.v.n c.snap.v.c, .slice c.snap.l.a c.snap.l.n c.snap.l.c, .slice c.snap.d.a c.snap.d.n c.snap.d.c,
  .int .i64 c.coming.i, .int .i64 c.coming.t, .slice c.coming.v.a c.coming.v.n c.coming.v.c, .slice c.coming.l.a c.coming.l.n c.coming.l.c, .slice c.coming.d.a c.coming.d.n c.coming.d.c,
  .map c.mb, .slice c.oa c.on c.oc, .int .i64 c.dirty, .bool c.whole]

def own (v : Value) : List Nat := v.ownBlock.toList
def ownS (s : SI) : List Nat := own (.slice s.a s.n s.c)
/-- A map from ints to pointers. -/
def RMap (w : World) (mb : Nat) (ps : List (Int × Nat)) : Prop :=
  ∃ es clock, w.heap[mb]? = some (.map es clock) ∧ es.toList.map (fun e => (e.key, e.val)) = ps.map (fun p => (Value.int .i64 p.1, Value.pointer (some ⟨p.2, 0, none⟩)))
theorem RMap.chg {w w' : World} {mb : Nat} {ps : List (Int × Nat)} {M : List Nat} (h : RMap w mb ps) (hc : Chg M w w') (hn : mb ∉ M) : RMap w' mb ps := by
  obtain ⟨es, clock, h1, h2⟩ := h
  exact ⟨es, clock, hc.get h1 hn, h2⟩

/-- A log in memory, whole: what it owns is in F, what it reads beside lies outside. -/
structure RLogF (w : World) (F : List Nat) (lb : Nat) (L : LogC) : Prop where
  log : RLog w lb L
  wf : L.ab.Wf
  v : RInts w (fun b => b ∉ F) L.va L.vn L.vc L.vs
  l : RInts w (fun b => b ∉ F) L.la L.ln L.lc L.ls
  d : ∀ e ∈ L.es, RBytes w (fun b => b ∉ F) e.da e.dn e.dc e.d
  mem : ∀ x ∈ lb :: own L.ev, x ∈ F

/-- The blocks that a member owns, beside its own one. -/
def foot (c : CoreC) (L : LogC) : List Nat := c.lb :: own L.ev ++ ownS c.yes ++ own (.slice c.oa c.on c.oc) ++ ownS c.coming.d ++ c.mb.toList ++ c.ps.map (·.pb)
/-- A member in memory, but for its own block. -/
structure RRest (w : World) (F : List Nat) (c : CoreC) (L : LogC) : Prop where
  log : RLogF w F c.lb L
  yes : c.yes.n = c.yes.xs.length ∧ w.ownsRow 0 3 1 (.slice c.yes.a c.yes.n c.yes.c) c.yes.n (c.yes.xs.map (Value.int .i64))
  snap : RSnap w F c.snap
  cv : RI w F c.coming.v
  cl : RI w F c.coming.l
  cd : c.coming.d.n = c.coming.d.xs.length ∧ w.ownsRow 0 5 1 (.slice c.coming.d.a c.coming.d.n c.coming.d.c) c.coming.d.n (c.coming.d.xs.map (Value.int .u8))
  map : match c.mb with | none => c.ps = [] | some mb => RMap w mb (c.ps.map fun p => (p.m, p.pb))
  peers : ∀ p ∈ c.ps, w.heap[p.pb]? = some (.cells #[.int .i64 p.next, .int .i64 p.mat, .int .i64 p.off] 106 (0, 0))
  nod : (c.ps.map (·.m)).Nodup
  out : c.on = c.outs.length ∧ w.ownsRow 0 36 14 (.slice c.oa c.on c.oc) c.on (msgCells c.outs)
  outs : ∀ m ∈ c.outs, RMsg w F m
  mem : ∀ x ∈ foot c L, x ∈ F
  apart : (foot c L).Nodup
structure RCore (w : World) (F : List Nat) (b : Nat) (c : CoreC) (L : LogC) : Prop where
  blk : w.heap[b]? = some (.cells c.cells 81 (0, 0))
  rest : RRest w F c L
  bF : b ∈ F
  b0 : b ∉ foot c L

section
variable {w w' : World} {F M : List Nat}
theorem RI.chg {s : SI} (h : RI w F s) (hc : Chg M w w') (hM : ∀ x ∈ M, x ∈ F) : RI w' F s := RInts.chg h hc fun _ _ hQ hx => hQ (hM _ hx)
theorem RB.chg {s : SI} (h : RB w F s) (hc : Chg M w w') (hM : ∀ x ∈ M, x ∈ F) : RB w' F s := RBytes.chg h hc fun _ _ hQ hx => hQ (hM _ hx)
theorem RE.chg {s : SE} (h : RE w F s) (hc : Chg M w w') (hM : ∀ x ∈ M, x ∈ F) : RE w' F s :=
  ⟨h.n, h.sl.chg hc fun _ _ hQ hx => hQ (hM _ hx), fun e he => (h.d e he).chg hc fun _ _ hQ hx => hQ (hM _ hx)⟩
theorem RSnap.chg {s : SnapC} (h : RSnap w F s) (hc : Chg M w w') (hM : ∀ x ∈ M, x ∈ F) : RSnap w' F s := ⟨RI.chg h.v hc hM, RI.chg h.l hc hM, RB.chg h.d hc hM⟩
theorem RMsg.chg {m : MsgC} (h : RMsg w F m) (hc : Chg M w w') (hM : ∀ x ∈ M, x ∈ F) : RMsg w' F m := ⟨h.es.chg hc hM, RB.chg h.data hc hM, RI.chg h.v hc hM, RI.chg h.l hc hM⟩
theorem mem_own {v : Value} {k : Nat} : k ∈ own v ↔ v.ownBlock = some k := by simp [own, Option.mem_toList]
theorem RLogF.chg {lb : Nat} {L : LogC} (h : RLogF w F lb L) (hc : Chg M w w') (hM : ∀ x ∈ M, x ∈ F) (hn : ∀ x ∈ M, x ∉ lb :: own L.ev) : RLogF w' F lb L :=
  ⟨h.log.chg hc (fun hx => hn _ hx (by simp)) (fun k hk hx => hn _ hx (by simp [mem_own, hk])), h.wf, RInts.chg h.v hc fun _ _ hQ hx => hQ (hM _ hx), RInts.chg h.l hc fun _ _ hQ hx => hQ (hM _ hx),
   fun e he => (h.d e he).chg hc fun _ _ hQ hx => hQ (hM _ hx), h.mem⟩
theorem RRest.chg {c : CoreC} {L : LogC} (h : RRest w F c L) (hc : Chg M w w') (hM : ∀ x ∈ M, x ∈ F) (hn : ∀ x ∈ M, x ∉ foot c L) : RRest w' F c L := by
  have hf : ∀ x, x ∈ foot c L → x ∉ M := fun x hx hm => hn x hm hx
  refine ⟨h.log.chg hc hM ?_, ⟨h.yes.1, hc.owns h.yes.2 ?_⟩, h.snap.chg hc hM, RI.chg h.cv hc hM, RI.chg h.cl hc hM, ⟨h.cd.1, hc.owns h.cd.2 ?_⟩, ?_, ?_, h.nod, ⟨h.out.1, hc.owns h.out.2 ?_⟩, fun m hm => (h.outs m hm).chg hc hM, h.mem, h.apart⟩
  · intro x hx hy; exact hn x hx (by simp [foot] at hy ⊢; grind)
  · intro k hk; exact hf k (by simp [foot, ownS, mem_own, hk])
  · intro k hk; exact hf k (by simp [foot, ownS, mem_own, hk])
  · have hm := h.map
    revert hm
    cases e : c.mb with
    | none => exact id
    | some mb => exact fun hm => hm.chg hc (hf mb (by simp [foot, e]))
  · intro p hp; exact hc.get (h.peers p hp) (hf _ (by simp [foot]; grind))
  · intro k hk; exact hf k (by simp [foot, mem_own, hk])
theorem RCore.upd {b : Nat} {c c' : CoreC} {L : LogC} (h : RCore w F b c L) (hc : Chg [b] w w') (hb : w'.heap[b]? = some (.cells c'.cells 81 (0, 0))) (hr : RRest w F c' L) (hn : b ∉ foot c' L) : RCore w' F b c' L :=
  ⟨hb, hr.chg hc (by simpa using h.bF) (by simpa using hn), h.bF, hn⟩
theorem RCore.chg {b : Nat} {c : CoreC} {L : LogC} (h : RCore w F b c L) (hc : Chg M w w') (hM : ∀ x ∈ M, x ∈ F) (hn : ∀ x ∈ M, x ∉ b :: foot c L) : RCore w' F b c L :=
  ⟨hc.get h.blk (fun hx => hn _ hx (by simp)), h.rest.chg hc hM (fun x hx hy => hn x hx (by simp [hy])), h.bF, h.b0⟩
theorem RCore.below {b : Nat} {c : CoreC} {L : LogC} (h : RCore w F b c L) (hc : Below w.heap.size w w') : RCore w' F b c L := h.chg (M := []) (Chg.ofBelow hc) (by simp) (by simp)
end
end Go.Proofs.YtjbnmamgfpnccaaGreat
