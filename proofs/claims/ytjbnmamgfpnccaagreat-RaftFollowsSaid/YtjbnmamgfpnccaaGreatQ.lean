/- The configuration of a log without changes: a range over slices.Backward. -/
import Derived.Test.YtjbnmamgfpnccaaGreatR
import Derived.RangeFuncNested
import Derived.RangeFuncBound
import Derived.RangeFuncCalls
import Derived.RangeFuncLeaves
import Derived.Shelf.Abstract
import Derived.Shelf.RegionOpen
import Derived.OwnWalkIn
import Derived.TacticsInMore
import Derived.LoopNIn
import Derived.LoopIn
import Derived.Deep.RegionHeld3
namespace Go.Proofs.YtjbnmamgfpnccaaGreat
open Go Go.RowKit Go.Shelf
attribute [local go_sem] Oper.semAt_some

/-- An entry, as it comes: none that changes the configuration. -/
abbrev Plain := { x : Int × EntC // x.2.k ≠ 2 }
def EntC.arr (e : EntC) : Value := .agg #[.int .i64 e.i, .int .i64 e.t, .int .i64 e.k, .slice e.da e.dn e.dc]
def plainVals (x : Plain) : Array Value := #[.int .i64 x.1.1, .agg #[.int .i64 x.1.2.i, .int .i64 x.1.2.t, .int .i64 x.1.2.k, .slice x.1.2.da x.1.2.dn x.1.2.dc]]

set_option maxRecDepth 100000 in
set_option maxHeartbeats 2000000 in
theorem back1_in (F : Fence) (n : Nat) (h7 : F.fn 140) (hro : F.round = none) (hn : 1 ≤ n) (l Bs n₀ b cap : Nat) (es : List EntC) (hfew : es.length < 1000000) (hk : ∀ e ∈ es, e.k ≠ 2) (hb : b < n₀) (hB : Bs < n₀) (J Jx : List Plain → World → Prop)
    (hY : ∀ pre x W, J pre W → pre.length < es.length → YieldAt F (n - 1) Tryz.prog l (plainVals x) W fun e W' =>
      (e = .returned (.bool true) ∧ J (pre ++ [x]) W' ∧ Below n₀ W W') ∨ (e = .returned (.bool false) ∧ Jx (pre ++ [x]) W'))
    (W : World) (hBs : W.cell? ⟨Bs, 0, none⟩ = some (.slice (some ⟨b, 0, none⟩) es.length cap)) (hc : ∀ j, j < es.length * 4 → W.cell? ⟨b, j, none⟩ = (entCells es)[j]?) (h0 : J [] W) :
    CallsIn F n Tryz.prog 140 #[.func (.yield l) #[] #[], .pointer (some ⟨Bs, 0, none⟩)] W fun e W' => (∃ v, e = .returned v) ∧
      ((∃ ys, True ∧ J ys W') ∨ (∃ pre, True ∧ Jx pre W')) := by
  refine callsIn_of_wp Tryz.func140 rfl h7 ?_ hro
  simp only [Tryz.ntmps140, List.size_toArray, List.length_cons, List.length_nil, Nat.reduceAdd, Nat.reduceSub, Array.replicate_succ, Array.replicate_zero, List.push_toArray, List.append_toArray, List.nil_append, List.cons_append]
  generalize hm : es.length = m at *
  gi_wp2
  gi_loopw [3] (fun i wr => ∃ (k : Nat) (pre : List Plain), k ≤ m ∧ pre.length + k = m ∧ i = .int .i64 ((k : Int) - 1) ∧ J pre wr ∧ Below n₀ W wr)
    (fun i _ => (intOf i + 1).toNat)
  case atStart => exact ⟨m, [], Nat.le_refl _, by simp, rfl, h0, Below.refl _ _⟩
  case round =>
    obtain ⟨k, pre, hk1, hp, rfl, hJs, hnx⟩ := hrel
    have hHp := Lib.hid hp
    have hcB := (hnx.cell (p := ⟨Bs, 0, none⟩) hB).trans hBs
    cases k with
    | zero =>
      clear hp hc hBs
      gi_wp2
      go_end0
      exact ⟨⟨_, rfl⟩, .inl ⟨_, trivial, hJs⟩⟩
    | succ k =>
      obtain ⟨e, he⟩ : ∃ e, es[k]? = some e := ⟨es[k]'(by omega), by simp⟩
      have hget := entCells_get es k e he
      have e0 := (hnx.cell (p := ⟨b, k * 4, none⟩) hb).trans ((hc (k * 4) (by omega)).trans hget.1)
      have e1 := (hnx.cell (p := ⟨b, k * 4 + 1, none⟩) hb).trans ((hc (k * 4 + 1) (by omega)).trans hget.2.1)
      have e2 := (hnx.cell (p := ⟨b, k * 4 + 2, none⟩) hb).trans ((hc (k * 4 + 2) (by omega)).trans hget.2.2.1)
      have e3 := (hnx.cell (p := ⟨b, k * 4 + 3, none⟩) hb).trans ((hc (k * 4 + 3) (by omega)).trans hget.2.2.2)
      have hx : e.k ≠ 2 := hk e (List.mem_of_getElem? he)
      obtain ⟨fn, tmps, assign, body, hy, hR⟩ := hY pre ⟨((k : Int), e), hx⟩ wr hJs (by omega)
      dsimp only [plainVals] at hy
      have hkm : k < m := by omega
      have hcast : ((k + 1 : Nat) : Int) - 1 = (k : Int) := by omega
      rw [hcast]
      clear hp hcast hc hBs hget he hm
      gi_wp2
      refine hR.mono ?_
      rintro ev W3 (⟨rfl, hJ3, hk3⟩ | ⟨rfl, hJx3⟩)
      · gi_wp2
        go_roundw
        case rel => exact ⟨k, _, by omega, by have := hHp.out; simp; omega, rfl, hJ3, hnx.trans hk3⟩
        case measure => simp [intOf]
      · gi_wp2
        refine bodyPost_ret (results_none rfl _ _ _) rfl ?_
        exact ⟨⟨_, rfl⟩, .inr ⟨_, trivial, hJx3⟩⟩

set_option maxRecDepth 100000 in
set_option maxHeartbeats 1000000 in
theorem back1_nil_in (F : Fence) (n : Nat) (h7 : F.fn 140) (hro : F.round = none) (l Bs : Nat) (a : Option Addr) (c : Nat) (J : List Plain → World → Prop) (W : World) (hBs : W.cell? ⟨Bs, 0, none⟩ = some (.slice a 0 c)) (h0 : J [] W) :
    CallsIn F n Tryz.prog 140 #[.func (.yield l) #[] #[], .pointer (some ⟨Bs, 0, none⟩)] W fun e W' => (∃ v, e = .returned v) ∧ J [] W' := by
  refine callsIn_of_wp Tryz.func140 rfl h7 ?_ hro
  simp only [Tryz.ntmps140, List.size_toArray, List.length_cons, List.length_nil, Nat.reduceAdd, Nat.reduceSub, Array.replicate_succ, Array.replicate_zero, List.push_toArray, List.append_toArray, List.nil_append, List.cons_append]
  gi_wp2
  gi_loopw [3] (fun i wr => i = .int .i64 (-1) ∧ J [] wr) (fun _ _ => 0)
  case atStart => exact ⟨rfl, h0⟩
  case round =>
    obtain ⟨rfl, hJs⟩ := hrel
    gi_wp2
    go_end0
    exact ⟨⟨_, rfl⟩, hJs⟩

set_option maxHeartbeats 1000000 in
theorem back_in (F : Fence) (n : Nat) (h5 : F.fn 121) (hro : F.round = none) (a : Option Addr) (len cap : Nat) (w : World) :
    CallsIn F n Tryz.prog 121 #[.slice a len cap] w fun e w' => e = .returned (.func (.func 140) #[] #[.pointer (some ⟨w.heap.size, 0, none⟩)]) ∧ w.alloc (.cells #[.slice a len cap] 34) = w' := by
  refine callsIn_of_wp Tryz.func121 rfl h5 ?_ hro
  simp only [Tryz.ntmps121, List.size_toArray, List.length_cons, List.length_nil, Nat.reduceAdd, Nat.reduceSub, Array.replicate_succ, Array.replicate_zero, List.push_toArray, List.append_toArray, List.nil_append, List.cons_append]
  gi_wp2
  go_ret
  exact ⟨rfl, rfl⟩

/-- slices.Backward over a log's entries, none of which changes the configuration. -/
theorem back_stops (F : Fence) (n : Nat) (h7 : F.fn 140) (hro : F.round = none) (hn : 1 ≤ n) (Bs n₀ lb : Nat) (L : LogC) (hk : ∀ e ∈ L.es, e.k ≠ 2) (w0 w : World) (hR : RLog w0 lb L) (hw : Below w0.heap.size w0 w) (hn0 : n₀ = w.heap.size) (hBs : Bs < w.heap.size)
    (hc : w.cell? ⟨Bs, 0, none⟩ = some L.ev) :
    SeqStopsK F n Tryz.prog 140 #[.pointer (some ⟨Bs, 0, none⟩)] plainVals (Below n₀) (fun _ => True) (fun _ => True) L.es.length w := fun l J Jx W hW _ _ hY h0 => by
  have hc' := (hW.cell (p := ⟨Bs, 0, none⟩) hBs).trans hc
  subst hn0
  rcases (hR.below hw).shape with ⟨hev, hes⟩ | ⟨g, c, hev, hg, _, hcell⟩
  · rw [hev] at hc'
    refine (back1_nil_in F n h7 hro l Bs none 0 J W hc' h0).mono fun e W' ⟨he, hj⟩ => ⟨he, .inl ⟨_, trivial, hj⟩⟩
  · rw [hev] at hc'
    exact back1_in F n h7 hro hn l Bs w.heap.size g c L.es hR.few hk hg hBs J Jx hY W hc' (fun j hj => (hW.cell (p := ⟨g, j, none⟩) hg).trans (hcell j hj)) h0

theorem box_own {β : Type} (B : Nat) (cs : Array Value) (t : TypeId) : Own (fun (_ : β) W => W.heap[B]? = some (.cells cs t (0, 0))) := fun s X Y row hs hg hrow => by
  show Y.heap[B]? = _
  rw [hg.block B (ltOf hs) (fun e => by obtain ⟨o, ho, hc⟩ := hrow B e.symm; rw [show X.heap[B]? = _ from hs] at ho; cases ho; cases hc)]; exact hs

def entArr (e : EntC) : Array Value := #[.int .i64 e.i, .int .i64 e.t, .int .i64 e.k, .slice e.da e.dn e.dc]
/-- The frame of confAt behind the assignment of a round. -/
def confAct (lb hs : Nat) (x : Int) (ea : Option Addr) (en ec : Nat) (y : Plain) (Bx : Nat) : Act :=
  { tmps := #[.pointer (some ⟨lb, 0, none⟩), .int .i64 x, undef, .pointer (some ⟨hs, 0, none⟩), .pointer (some ⟨hs + 1, 0, none⟩), .pointer (some ⟨hs + 1 + 1, 0, none⟩), undef, .pointer (some ⟨Bx, 0, none⟩), undef, undef,
      .pointer (some ⟨lb, 0, none⟩), .pointer (some ⟨lb, 0, none⟩), .pointer (some ⟨lb, 4, none⟩), .slice ea en ec, .func (.func 140) #[] #[.pointer (some ⟨hs + 1 + 1 + 1, 0, none⟩)], .int .i64 y.1.1, .agg #[.int .i64 y.1.2.i, .int .i64 y.1.2.t, .int .i64 y.1.2.k, .slice y.1.2.da y.1.2.dn y.1.2.dc],
      undef, undef, undef, undef, undef, undef, undef, undef, undef, undef, undef, undef, undef, undef, undef, undef, undef, undef, undef, undef, undef, undef, undef, undef, undef, undef, undef], defers := [] }

set_option maxRecDepth 100000 in
set_option maxHeartbeats 2000000 in
theorem confAt_in (n : Nat) (hn : 3 ≤ n) (Q : Nat → Prop) (lb : Nat) (L : LogC) (x : Int) (w : World) (h : RLog w lb L) (hk : ∀ e ∈ L.es, e.k ≠ 2) (hv : RInts w Q L.va L.vn L.vc L.vs) (hl : RInts w Q L.la L.ln L.lc L.ls) (h1 : L.vn ≤ 1000) (h2 : L.ln ≤ 1000) :
    CallsIn Fence.wide n Tryz.prog 90 #[.pointer (some ⟨lb, 0, none⟩), .int .i64 x] w fun e w' => ∃ va' vc' la' lc', e = .returned (.tuple #[.agg #[.slice va' L.vn vc', .slice la' L.ln lc'], .int .i64 L.i]) ∧
      RInts w' (fun b => w.heap.size ≤ b) va' L.vn vc' L.vs ∧ RInts w' (fun b => w.heap.size ≤ b) la' L.ln lc' L.ls ∧ Below w.heap.size w w' := by
  have hc := cellsOf h.blk
  have hlt := ltOf h.blk
  have hlt1 : lb < w.heap.size + 1 := by omega
  have hlt2 : lb < w.heap.size + 1 + 1 := by omega
  have hlt3 : lb < w.heap.size + 1 + 1 + 1 := by omega
  have hfew := h.few
  unfold LogC.cells at hc
  obtain ⟨ea, ec, hev⟩ : ∃ ea ec, L.ev = .slice ea L.es.length ec := by
    rcases h.shape with ⟨h1, h2⟩ | ⟨g, c, h1, _⟩
    · exact ⟨none, 0, by rw [h1, h2]; rfl⟩
    · exact ⟨_, _, h1⟩
  rw [hev] at hc
  have Hev := Lib.hid hev
  clear hev
  refine callsIn_of_wp_marks Tryz.func90 rfl trivial ?_ rfl
  simp only [Tryz.ntmps90, List.size_toArray, List.length_cons, List.length_nil, Nat.reduceAdd, Nat.reduceSub, Array.replicate_succ, Array.replicate_zero, List.push_toArray, List.append_toArray, List.nil_append, List.cons_append]
  have hn1 : 1 ≤ n := by omega
  gi_wp2_with (refine ⟨trivial, ?_⟩; gi_at_call 121; refine (back_in Fence.wide (n - 1) trivial rfl _ _ _ _).mono ?_; rintro e w1 ⟨rfl, rfl⟩)
  obtain ⟨W0, hW0⟩ : ∃ W0, (((w.alloc (.cells #[.int .i64 x] 2)).alloc (.cells #[.slice none 0 0, .slice none 0 0] 26)).alloc (.cells #[.int .i64 0] 2)).alloc (.cells #[.slice ea L.es.length ec] 34) = W0 := ⟨_, rfl⟩
  have hz0 : W0.heap.size = w.heap.size + 1 + 1 + 1 + 1 := by rw [← hW0]; simp
  have hB0 : Below w.heap.size w W0 := by rw [← hW0]; exact ((((Below.refl _ w).alloc (Nat.le_refl _) _).alloc (by simp) _).alloc (by simp; omega) _).alloc (by simp; omega) _
  have hcb : W0.cell? ⟨w.heap.size + 1 + 1 + 1, 0, none⟩ = some (.slice ea L.es.length ec) := by
    rw [cellsOf (cs := #[.slice ea L.es.length ec]) (T := 34) (fz := (0, 0)) (by rw [← hW0]; simp only [heap_alloc, size_alloc]; rw [if_pos trivial])]; rfl
  have hc1 : W0.heap[w.heap.size + 1]? = some (.cells #[.slice none 0 0, .slice none 0 0] 26 (0, 0)) := by rw [← hW0]; simp only [heap_alloc, size_alloc]; rw [if_neg (by omega), if_neg (by omega), if_pos trivial]
  have hc2 : W0.heap[w.heap.size + 1 + 1]? = some (.cells #[.int .i64 0] 2 (0, 0)) := by rw [← hW0]; simp only [heap_alloc, size_alloc]; rw [if_neg (by omega), if_pos trivial]
  rw [hW0]
  refine wpIn_rangeFunc_ownH rfl hn1 (gf := 140) (lb := #[.pointer (some ⟨w.heap.size + 1 + 1 + 1, 0, none⟩)]) rfl trivial (enters_of Tryz.func140 (by kernel_rfl) rfl)
    (back_stops Fence.wide (n - 1) trivial rfl (by omega) (w.heap.size + 1 + 1 + 1) W0.heap.size lb L hk w W0 h hB0 rfl (by omega) (by rw [Hev.out]; exact hcb)) (Kp := Below W0.heap.size) belowK_t (belowK_b (Nat.le_refl _)) (Below.refl _ _) (fun _ => rfl)
    (fun _ W => Below W0.heap.size W0 W) (fun _ _ _ => False) (ownFrom_below (Nat.le_refl _) (Nat.le_refl _)) (fun _ _ _ _ _ hs _ _ => hs) (Below.refl _ _)
    (fun y a' W => ∃ Bx, W0.heap.size ≤ Bx ∧ W.heap[Bx]? = some (.cells (entArr y.1.2) 48 (0, 0)) ∧ a' = confAct lb w.heap.size x ea L.es.length ec y Bx) ?hAx ?assign ?body ?done ?stop
  case hAx =>
    rintro y a' s X Y row ⟨Bx, h1, h2, h3⟩ hg hrow
    exact ⟨Bx, h1, box_own (β := Unit) Bx _ _ () X Y row h2 hg (fun r e => (hrow r e).2), h3⟩
  case assign =>
    intro l pre y W K hI hK
    dsimp only [plainVals]
    gi_wp2
    exact hK _ _ ((KeepsOthers.alloc _ _).from _) ((Below.refl _ W).alloc hI.size _) (hI.alloc hI.size _) ⟨W.heap.size, hI.size, heap_alloc_new W _, rfl⟩
  case body =>
    rintro l pre y a' W _ _ hI ⟨Bx, hBx, hbx, rfl⟩ _
    have hcx := cellsOf hbx
    have hky := y.2
    have hkq : (y.1.2.k == 2) = false := by simpa using hky
    have hHI := Lib.hid hI
    unfold entArr at hcx
    clear hI hbx hky
    unfold confAct
    gi_wp2
    exact ⟨(KeepsOthers.refl _).from _, Below.refl _ _, hHI.out⟩
  case stop =>
    intro D c pre W _ _ hf _
    exact hf.elim
  case done =>
    rintro D ys W hD _ hI hK
    have hBW := hB0.trans (hI.mono hB0.size)
    have hcW := fun i => (hI.cell (p := ⟨lb, i, none⟩) (by show lb < _; omega)).trans ((hB0.cell (p := ⟨lb, i, none⟩) hlt).trans (hc i))
    have Hv := Lib.hid (hv.below hBW)
    have Hl := Lib.hid (hl.below hBW)
    have k1 := cellsOf ((hI.block _ (by omega)).trans hc1)
    have k2 := cellsOf ((hI.block _ (by omega)).trans hc2)
    have f1 := freeOf ((hI.block _ (by omega)).trans hc1)
    have f2 := freeOf ((hI.block _ (by omega)).trans hc2)
    have hzW := hI.size
    have HBW := Lib.hid hBW
    have HK := Lib.hid hK
    have G1 := Lib.hid ((hI.block _ (by omega)).trans hc1)
    have G2 := Lib.hid ((hI.block _ (by omega)).trans hc2)
    have HI := Lib.hid hI
    clear hc hc1 hc2 hcb hv hl hBW hK hI hW0
    gi_wp2_with fail
    refine wpIn_wide.2 ?_
    have hdB : Below W.heap.size W W.drew := (Below.refl _ _).drew
    go_region_held3 (fun w' => (∀ i, w'.cell? ⟨lb, i, none⟩ = #[Value.int .i64 L.i, .int .i64 L.t, .slice L.va L.vn L.vc, .slice L.la L.ln L.lc, .slice ea L.es.length ec][i]?))
      (first | (exact hcW) | (exact keepCells hb1 (by simp only [size_drew]; omega) hcW) | (exact keepSet (by simp; omega) (by assumption)) | (exact keepSet (by simp; omega) (keepSet (by simp; omega) (by assumption))))
      ((first | (go_at_call 34; refine (cloneConf Q _ _ _ _ _ _ _ _ _ (Hv.out.below hdB) (Hl.out.below hdB) (by omega) (by omega)).mono ?_; rintro e w1 ⟨va', vc', la', lc', rfl, hr1, hr2, hb1⟩; have k1' := keepCells hb1 (by simp only [size_drew]; omega) k1; have k2' := keepCells hb1 (by simp only [size_drew]; omega) k2; have f1' := keepFree hb1 (by simp only [size_drew]; omega) f1; have f2' := keepFree hb1 (by simp only [size_drew]; omega) f2)))
    have HK1 := Lib.hid ((hb1.block D (ltOf HK.out)).trans HK.out)
    gi_wp2
    have g1 := (hb1.block _ (by simp only [size_drew]; omega)).trans G1.out
    have g2 := (hb1.block _ (by simp only [size_drew]; omega)).trans G2.out
    have hDW := ltOf HK.out
    have e1 : (((w1.setCell ⟨w.heap.size + 1, 0, none⟩ (.slice va' L.vn vc')).setCell ⟨w.heap.size + 1, 1, none⟩ (.slice la' L.ln lc')).setCell ⟨w.heap.size + 1 + 1, 0, none⟩ (.int .i64 L.i)).heap[w.heap.size + 1]? = some (.cells #[.slice va' L.vn vc', .slice la' L.ln lc'] 26 (0, 0)) := by
      rw [heap_set_ne (by simp), heap_set (heap_set g1)]; rfl
    have e2 : (((w1.setCell ⟨w.heap.size + 1, 0, none⟩ (.slice va' L.vn vc')).setCell ⟨w.heap.size + 1, 1, none⟩ (.slice la' L.ln lc')).setCell ⟨w.heap.size + 1 + 1, 0, none⟩ (.int .i64 L.i)).heap[w.heap.size + 1 + 1]? = some (.cells #[.int .i64 L.i] 2 (0, 0)) := by
      rw [heap_set (by rw [heap_set_ne (by simp), heap_set_ne (by simp)]; exact g2)]; rfl
    have e3 : (((w1.setCell ⟨w.heap.size + 1, 0, none⟩ (.slice va' L.vn vc')).setCell ⟨w.heap.size + 1, 1, none⟩ (.slice la' L.ln lc')).setCell ⟨w.heap.size + 1 + 1, 0, none⟩ (.int .i64 L.i)).heap[D]? = some (.deferred (some [])) := by
      rw [heap_set_ne (by simp; omega), heap_set_ne (by simp; omega), heap_set_ne (by simp; omega)]; exact HK1.out
    have hC : Chg [w.heap.size + 1, w.heap.size + 1 + 1] w1 (((w1.setCell ⟨w.heap.size + 1, 0, none⟩ (.slice va' L.vn vc')).setCell ⟨w.heap.size + 1, 1, none⟩ (.slice la' L.ln lc')).setCell ⟨w.heap.size + 1 + 1, 0, none⟩ (.int .i64 L.i)) :=
      (((Chg.refl _ w1).setCell (by simp) _).setCell (by simp) _).setCell (by simp) _
    refine ⟨by simp, .inl ⟨_, _, rfl, run_takeDeferred e3, ?_⟩⟩
    generalize (((w1.setCell ⟨w.heap.size + 1, 0, none⟩ (.slice va' L.vn vc')).setCell ⟨w.heap.size + 1, 1, none⟩ (.slice la' L.ln lc')).setCell ⟨w.heap.size + 1 + 1, 0, none⟩ (.int .i64 L.i)) = w4 at *
    have hz1 := hb1.size
    have hz4 := hC.size
    have hP : Chg [D] w4 (w4.putObj D (.deferred none)) := ⟨rfl, rfl, rfl, by simp, fun k _ hn => World.putObj_heap_other (by simpa using hn)⟩
    have c1 := cellsOf ((hP.block _ (ltOf e1) (by simp; omega)).trans e1)
    have c2 := cellsOf ((hP.block _ (ltOf e2) (by simp; omega)).trans e2)
    refine ⟨.tuple #[.agg #[.slice va' L.vn vc', .slice la' L.ln lc'], .int .i64 L.i], by simp [results, Tryz.results90, go_sem, c1, c2], va', vc', la', lc', rfl, ?_, ?_, ?_⟩
    · exact ((hr1.chg hC (by simp; omega)).chg hP (by simp; omega)).mono (by simp; omega)
    · exact ((hr2.chg hC (by simp; omega)).chg hP (by simp; omega)).mono (by simp; omega)
    · exact ((((Chg.ofBelow (M := [w.heap.size + 1, w.heap.size + 1 + 1, D]) HBW.out).trans (Chg.ofBelow (hdB.trans hb1))).trans (hC.mono (by simp))).trans (hP.mono (by simp))).newBelow (by simp; omega)

theorem confAt_any (Q : Nat → Prop) (lb : Nat) (L : LogC) (x : Int) (w : World) (h : RLog w lb L) (hk : ∀ e ∈ L.es, e.k ≠ 2) (hv : RInts w Q L.va L.vn L.vc L.vs) (hl : RInts w Q L.la L.ln L.lc L.ls) (h1 : L.vn ≤ 1000) (h2 : L.ln ≤ 1000) :
    Calls Tryz.prog 90 #[.pointer (some ⟨lb, 0, none⟩), .int .i64 x] w fun e w' => ∃ va' vc' la' lc', e = .returned (.tuple #[.agg #[.slice va' L.vn vc', .slice la' L.ln lc'], .int .i64 L.i]) ∧
      RInts w' (fun b => w.heap.size ≤ b) va' L.vn vc' L.vs ∧ RInts w' (fun b => w.heap.size ≤ b) la' L.ln lc' L.ls ∧ Below w.heap.size w w' :=
  callsIn_wide.1 (confAt_in 3 (Nat.le_refl _) Q lb L x w h hk hv hl h1 h2)
end Go.Proofs.YtjbnmamgfpnccaaGreat
