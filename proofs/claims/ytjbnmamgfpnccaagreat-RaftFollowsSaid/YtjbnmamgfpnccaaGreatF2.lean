/- heard, bad, the search for the first entry that is not had, CutFrom. -/
import Derived.Test.YtjbnmamgfpnccaaGreatF1
namespace Go.Proofs.YtjbnmamgfpnccaaGreat
open Go Go.RowKit Go.Sort

def CoreC.heard (c : CoreC) (f : Int) : CoreC := { c with role := 0, lead := f, quiet := 0, yes := .nil }

set_option maxRecDepth 100000 in
set_option maxHeartbeats 1000000 in
theorem heard_any (F : List Nat) (b : Nat) (c : CoreC) (L : LogC) (m : MsgC) (w : World) (h : RCore w F b c L) (hrole : c.role ≠ 3) :
    Calls Tryz.prog 102 #[.pointer (some ⟨b, 0, none⟩), .agg m.cells.toArray] w fun e w' => e = .returned (.bool true) ∧ RCore w' F b (c.heard m.frm) L ∧ Upd F F w w' ∧ Chg [b] w w' := by
  obtain ⟨kind, frm, to, term, idx, lt, cm, ok, es, off, data, last, v, l⟩ := m
  unfold MsgC.cells
  dsimp only
  obtain ⟨W, hW⟩ : ∃ W, W = w.alloc (.cells #[.int .i64 kind, .int .i64 frm, .int .i64 to, .int .i64 term, .int .i64 idx, .int .i64 lt, .int .i64 cm, .bool ok, .slice es.a es.n es.c, .int .i64 off, .slice data.a data.n data.c, .bool last, .slice v.a v.n v.c, .slice l.a l.n l.c] 36) := ⟨_, rfl⟩
  have hB0 : Below w.heap.size w W := by rw [hW]; exact (Below.refl _ w).alloc (Nat.le_refl _) _
  have hbox : W.heap[w.heap.size]? = some (.cells #[.int .i64 kind, .int .i64 frm, .int .i64 to, .int .i64 term, .int .i64 idx, .int .i64 lt, .int .i64 cm, .bool ok, .slice es.a es.n es.c, .int .i64 off, .slice data.a data.n data.c, .bool last, .slice v.a v.n v.c, .slice l.a l.n l.c] 36 (0, 0)) := by rw [hW, heap_alloc, if_pos rfl]
  have hR := h.below hB0
  have hr3 : (c.role == 3) = false := by simp [hrole]
  have k5w : w.cell? ⟨b, 5, none⟩ = some (.int .i64 c.role) := by rw [cellsOf h.blk]; rfl
  have hltw := ltOf h.blk
  have hc := cellsOf hR.blk
  have hf := freeOf hR.blk
  have hltb := ltOf hR.blk
  unfold CoreC.cells at hc
  have b1 : W.cell? ⟨w.heap.size, 1, none⟩ = some (.int .i64 frm) := by rw [cellsOf hbox]; rfl
  have hltx := ltOf hbox
  have HR := Lib.hid hR
  have HB0 := Lib.hid hB0
  clear h hR hB0 hbox hrole
  go_enter Tryz.func102, Tryz.ntmps102
  go_wp2_with fail
  rw [← hW]
  clear hW
  have hneb : w.heap.size ≠ b := by omega
  go_region
  go_wp2_with fail
  go_ret
  have hC : Chg [b] W ((((W.setCell ⟨b, 5, none⟩ (.int .i64 0)).setCell ⟨b, 6, none⟩ (.int .i64 frm)).setCell ⟨b, 7, none⟩ (.int .i64 0)).setCell ⟨b, 8, none⟩ (.slice none 0 0)).drew :=
    (((((Chg.refl _ W).setCell (by simp) _).setCell (by simp) _).setCell (by simp) _).setCell (by simp) _).drew
  refine ⟨rfl, HR.out.upd hC ?_ (HR.out.rest.noYes.same c.n c.term c.vote c.commit 0 frm 0 c.dirty c.whole) (fun hx => HR.out.b0 (foot_yes c L b hx)), (Upd.below HB0.out).trans (Upd.of hC (by simpa using HR.out.bF)), ((Chg.ofBelow (M := []) HB0.out).mono (by simp)).trans hC⟩
  rw [heap_drew, heap_set (heap_set (heap_set (heap_set HR.out.blk)))]; rfl

theorem bad_any (e : EntC) (w : World) (h : e.k ≠ 2) :
    Calls Tryz.prog 131 #[.agg #[.int .i64 e.i, .int .i64 e.t, .int .i64 e.k, .slice e.da e.dn e.dc]] w fun ev w' => ev = .returned (.bool false) ∧ Below w.heap.size w w' := by
  have hq : (e.k != 2) = true := by simp [h]
  go_enter Tryz.func131, Tryz.ntmps131
  go_wp2
  go_ret
  exact ⟨rfl, (Below.refl _ w).alloc (Nat.le_refl _) _⟩

set_option maxRecDepth 100000 in
set_option maxHeartbeats 1000000 in
theorem unhad_any (F : List Nat) (b : Nat) (c : CoreC) (L : LogC) (bx : Nat) (e : EntC) (w : World) (h : RCore w F b c L) (hbx : w.cell? ⟨bx, 0, none⟩ = some (.pointer (some ⟨b, 0, none⟩))) :
    Calls Tryz.prog 129 #[.agg #[.int .i64 e.i, .int .i64 e.t, .int .i64 e.k, .slice e.da e.dn e.dc], .pointer (some ⟨bx, 0, none⟩)] w fun ev w' => ev = .returned (.bool (!L.has e.i e.t)) ∧ Below w.heap.size w w' := by
  obtain ⟨W, hW⟩ : ∃ W, W = w.alloc (.cells #[.int .i64 e.i, .int .i64 e.t, .int .i64 e.k, .slice e.da e.dn e.dc] 48) := ⟨_, rfl⟩
  have hB0 : Below w.heap.size w W := by rw [hW]; exact (Below.refl _ w).alloc (Nat.le_refl _) _
  have hbox : W.heap[w.heap.size]? = some (.cells #[.int .i64 e.i, .int .i64 e.t, .int .i64 e.k, .slice e.da e.dn e.dc] 48 (0, 0)) := by rw [hW, heap_alloc, if_pos rfl]
  have hR := h.below hB0
  have hlx := World.block_lt_of_cell? w _ hbx
  have kb := (hB0.cell (p := ⟨bx, 0, none⟩) hlx).trans hbx
  have r1 := cell_regrown kb
  have r2 := cell_regrown (show W.cell? ⟨b, 3, none⟩ = some (.pointer (some ⟨c.lb, 0, none⟩)) by rw [cellsOf hR.blk]; rfl)
  have r3 := cell_regrown (show W.cell? ⟨w.heap.size, 0, none⟩ = some (.int .i64 e.i) by rw [cellsOf hbox]; rfl)
  have r4 := cell_regrown (show W.cell? ⟨w.heap.size, 1, none⟩ = some (.int .i64 e.t) by rw [cellsOf hbox]; rfl)
  have HH := Lib.hid (fun (d : Nat) (os : Array Obj) => Calls.regrown_of (has_any c.lb L e.i e.t (grow (redrawn W d) os) (hR.below (below_regrown W d os)).rest.log.log (LogC.wf_ab (hR.below (below_regrown W d os)).rest.log.wf)))
  have HB0 := Lib.hid hB0
  clear hR h hbx hB0 hbox kb
  go_enter Tryz.func129, Tryz.ntmps129
  go_wp2_with fail
  rw [← hW]
  clear hW
  refine wp_region_quiet_below (by kernel_rfl) (by kernel_rfl) ?_
  repeat (go_big_quiet_step (exact HH.out _ _))
  refine wpQuiet_nil ?_
  intro wf hwf
  obtain ⟨p, hp⟩ := hwf
  have hbf : Below W.heap.size W wf := by rw [hp]; exact below_regrown W p.d p.os
  go_wp2_with fail
  go_ret
  exact ⟨rfl, HB0.out.trans (hbf.mono HB0.out.size)⟩

/-- The place of the first of which something holds, or -1. -/
def firstAt {α : Type} (p : α → Bool) (es : List α) : Int := match es.findIdx? p with | some i => (i : Int) | none => -1
theorem firstAt_some {α : Type} {p : α → Bool} {es : List α} {k : Nat} {e : α} (h : es[k]? = some e) (hp : p e = true) (hl : ∀ j e', j < k → es[j]? = some e' → p e' = false) : firstAt p es = k := by
  have : es.findIdx? p = some k := by
    rw [List.findIdx?_eq_some_iff_getElem]
    obtain ⟨hk, he⟩ := List.getElem?_eq_some_iff.1 h
    refine ⟨hk, by rw [he]; exact hp, fun j hj => ?_⟩
    have := hl j es[j] hj (by simp)
    simp [this]
  simp [firstAt, this]
theorem firstAt_none {α : Type} {p : α → Bool} {es : List α} (h : ∀ (j : Nat) e', es[j]? = some e' → p e' = false) : firstAt p es = -1 := by
  have : es.findIdx? p = none := by
    rw [List.findIdx?_eq_none_iff]
    intro x hx
    obtain ⟨j, hj⟩ := List.mem_iff_getElem?.1 hx
    exact h j x hj
  simp [firstAt, this]

set_option maxRecDepth 100000 in
set_option maxHeartbeats 2000000 in
theorem findUnhad_any (F : List Nat) (b : Nat) (c : CoreC) (L : LogC) (bx : Nat) (Q : Nat → Prop) (a : Option Addr) (n cp : Nat) (es : List EntC) (w : World) (h : RCore w F b c L) (hbx : w.cell? ⟨bx, 0, none⟩ = some (.pointer (some ⟨b, 0, none⟩)))
    (hn : n = es.length) (hs : RSl w Q 4 a n cp (entCells es)) :
    Calls Tryz.prog 128 #[.slice a n cp, .func (.func 129) #[] #[.pointer (some ⟨bx, 0, none⟩)]] w fun ev w' => ev = .returned (.int .i64 (firstAt (fun e => !L.has e.i e.t) es)) ∧ Below w.heap.size w w' := by
  subst hn
  have hlen : (es.length : Int) ≤ 9223372036854775807 := by
    have h1 := hs.1
    have h2 := hs.2.1
    unfold maxLen at h2
    omega
  have hlx := World.block_lt_of_cell? w _ hbx
  have Hs := Lib.hid hs
  have HF := Lib.hid (fun (W : World) (hb : Below w.heap.size w W) (e : EntC) => unhad_any F b c L bx e W (h.below hb) ((hb.cell (p := ⟨bx, 0, none⟩) hlx).trans hbx))
  clear hs h hbx
  go_enter Tryz.func128, Tryz.ntmps128
  go_wp2_with fail
  go_loopw [8, 5] (fun i i5 wr => ∃ k : Nat, k ≤ es.length ∧ i = .int .i64 k ∧ Below w.heap.size w wr ∧ ∀ j e', j < k → es[j]? = some e' → (!L.has e'.i e'.t) = false) (fun i _ _ => es.length - (intOf i).toNat)
  case atStart => exact ⟨0, Nat.zero_le _, rfl, Below.refl _ _, fun j _ hj => absurd hj (Nat.not_lt_zero _)⟩
  case round =>
    obtain ⟨k, hk1, rfl, hbr, hall⟩ := hrel
    have HBr := Lib.hid hbr
    have Hall := Lib.hid hall
    clear hbr hall
    by_cases hkl : k < es.length
    · obtain ⟨e, he⟩ : ∃ e, es[k]? = some e := ⟨es[k], by simp [hkl]⟩
      obtain ⟨b', off, rfl, hb, hc⟩ : ∃ bx off, a = some ⟨bx, off, none⟩ ∧ bx < w.heap.size ∧ ∀ j u, (entCells es)[j]? = some u → w.cell? ⟨bx, off + j, none⟩ = some u := by
        rcases Hs.out.2.2.2.2 with h0 | ⟨bx, off, h1, h2, _, h5⟩
        · omega
        · exact ⟨bx, off, h1, h2, h5⟩
      have hget := entCells_get es k e he
      have hbw := HBr.out
      have e0 := (hbw.cell (p := ⟨b', off + k * 4, none⟩) hb).trans (hc _ _ hget.1)
      have e1 := (hbw.cell (p := ⟨b', off + (k * 4 + 1), none⟩) hb).trans (hc _ _ hget.2.1)
      have e2 := (hbw.cell (p := ⟨b', off + (k * 4 + 2), none⟩) hb).trans (hc _ _ hget.2.2.1)
      have e3 := (hbw.cell (p := ⟨b', off + (k * 4 + 3), none⟩) hb).trans (hc _ _ hget.2.2.2)
      rw [← Nat.add_assoc] at e1 e2 e3
      have HC := Lib.hid (HF.out wr hbw e)
      have He := Lib.hid he
      clear hc hget hbw he
      go_wp2_with fail
      refine HC.out.mono ?_
      rintro ev w3 ⟨rfl, hb3⟩
      have HB3 := Lib.hid (HBr.out.trans (hb3.mono HBr.out.size))
      clear hb3 HC e0 e1 e2 e3
      cases hp : (!L.has e.i e.t) with
      | true =>
        have hfin : Hid (firstAt (fun e => !L.has e.i e.t) es = k) := Lib.hid (firstAt_some He.out hp Hall.out)
        clear hp
        go_wp2_with fail
        go_ret
        exact ⟨by rw [hfin.out]; rfl, HB3.out⟩
      | false =>
        have hfin : Hid (∀ j e', j < k + 1 → es[j]? = some e' → (!L.has e'.i e'.t) = false) := Lib.hid (fun j e' hj hje => by
          rcases Nat.lt_succ_iff_lt_or_eq.1 hj with h1 | h1
          · exact Hall.out j e' h1 hje
          · subst h1
            rw [He.out] at hje
            cases hje
            exact hp)
        clear hp
        go_wp2_with fail
        go_roundw
        case rel => exact ⟨k + 1, by omega, by go_num, HB3.out, hfin.out⟩
        case measure => simp [intOf]; omega
    · have hfin : Hid (firstAt (fun e => !L.has e.i e.t) es = -1) := Lib.hid (firstAt_none (fun j e' hje => Hall.out j e' (by have := (List.getElem?_eq_some_iff.1 hje).1; omega) hje))
      go_wp2_with fail
      go_ret
      exact ⟨by rw [hfin.out]; rfl, HBr.out⟩

set_option maxRecDepth 100000 in
set_option maxHeartbeats 2000000 in
theorem findBad_any (Q : Nat → Prop) (a : Option Addr) (n cp : Nat) (es : List EntC) (w : World) (hn : n = es.length) (hs : RSl w Q 4 a n cp (entCells es)) (hk : ∀ e ∈ es, e.k ≠ 2) :
    Calls Tryz.prog 128 #[.slice a n cp, .func (.func 131) #[] #[]] w fun ev w' => ev = .returned (.int .i64 (-1)) ∧ Below w.heap.size w w' := by
  subst hn
  have hlen : (es.length : Int) ≤ 9223372036854775807 := by
    have h1 := hs.1
    have h2 := hs.2.1
    unfold maxLen at h2
    omega
  have Hs := Lib.hid hs
  have Hk := Lib.hid hk
  clear hs hk
  go_enter Tryz.func128, Tryz.ntmps128
  go_wp2_with fail
  go_loopw [8, 5] (fun i i5 wr => ∃ k : Nat, k ≤ es.length ∧ i = .int .i64 k ∧ Below w.heap.size w wr) (fun i _ _ => es.length - (intOf i).toNat)
  case atStart => exact ⟨0, Nat.zero_le _, rfl, Below.refl _ _⟩
  case round =>
    obtain ⟨k, hk1, rfl, hbr⟩ := hrel
    have HBr := Lib.hid hbr
    clear hbr
    by_cases hkl : k < es.length
    · obtain ⟨e, he⟩ : ∃ e, es[k]? = some e := ⟨es[k], by simp [hkl]⟩
      obtain ⟨b', off, rfl, hb, hc⟩ : ∃ bx off, a = some ⟨bx, off, none⟩ ∧ bx < w.heap.size ∧ ∀ j u, (entCells es)[j]? = some u → w.cell? ⟨bx, off + j, none⟩ = some u := by
        rcases Hs.out.2.2.2.2 with h0 | ⟨bx, off, h1, h2, _, h5⟩
        · omega
        · exact ⟨bx, off, h1, h2, h5⟩
      have hget := entCells_get es k e he
      have hbw := HBr.out
      have e0 := (hbw.cell (p := ⟨b', off + k * 4, none⟩) hb).trans (hc _ _ hget.1)
      have e1 := (hbw.cell (p := ⟨b', off + (k * 4 + 1), none⟩) hb).trans (hc _ _ hget.2.1)
      have e2 := (hbw.cell (p := ⟨b', off + (k * 4 + 2), none⟩) hb).trans (hc _ _ hget.2.2.1)
      have e3 := (hbw.cell (p := ⟨b', off + (k * 4 + 3), none⟩) hb).trans (hc _ _ hget.2.2.2)
      rw [← Nat.add_assoc] at e1 e2 e3
      have HC := Lib.hid (bad_any e wr (Hk.out e (List.mem_of_getElem? he)))
      clear hc hget hbw he
      go_wp2_with fail
      refine HC.out.mono ?_
      rintro ev w3 ⟨rfl, hb3⟩
      have HB3 := Lib.hid (HBr.out.trans (hb3.mono HBr.out.size))
      clear hb3 HC e0 e1 e2 e3
      go_wp2_with fail
      go_roundw
      case rel => exact ⟨k + 1, by omega, by go_num, HB3.out⟩
      case measure => simp [intOf]; omega
    · go_wp2_with fail
      go_ret
      exact ⟨rfl, HBr.out⟩

theorem noBad_any (Q : Nat → Prop) (a : Option Addr) (n cp : Nat) (es : List EntC) (w : World) (hn : n = es.length) (hs : RSl w Q 4 a n cp (entCells es)) (hk : ∀ e ∈ es, e.k ≠ 2) :
    Calls Tryz.prog 130 #[.slice a n cp, .func (.func 131) #[] #[]] w fun ev w' => ev = .returned (.bool false) ∧ Below w.heap.size w w' := by
  have HF := Lib.hid (findBad_any Q a n cp es w hn hs hk)
  clear hs hk hn
  go_enter Tryz.func130, Tryz.ntmps130
  go_wp2_with fail
  refine HF.out.mono ?_
  rintro ev w3 ⟨rfl, hb3⟩
  go_wp2_with fail
  go_ret
  exact ⟨rfl, hb3⟩
end Go.Proofs.YtjbnmamgfpnccaaGreat
