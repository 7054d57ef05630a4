/- A log takes entries in: right, Append. -/
import Derived.Test.YtjbnmamgfpnccaaGreatK2
import Derived.Deep.RegionLaw
namespace Go.Proofs.YtjbnmamgfpnccaaGreat
open Go Go.RowKit

/-- An entry that a log takes (none that changes the configuration). -/
structure EntOk (e : EntC) : Prop where
  i1 : 1 ≤ e.i
  i2 : e.i ≤ 1099511627776
  t1 : 0 ≤ e.t
  t2 : e.t ≤ 1099511627776
  k0 : 0 ≤ e.k
  k1 : e.k ≤ 1
  d : e.dn ≤ 2048

theorem right_any (e : EntC) (w : World) (h : EntOk e) :
    Calls Tryz.prog 39 #[.agg #[.int .i64 e.i, .int .i64 e.t, .int .i64 e.k, .slice e.da e.dn e.dc]] w fun ev w' => ev = .returned (.bool true) ∧ Below w.heap.size w w' := by
  obtain ⟨a1, a2, a3, a4, a5, a6, a7⟩ := h
  have q1 : (e.k == 2) = false := by simp; omega
  have q2 : (e.dn : Int) ≤ 2048 := by omega
  have q3 : e.k ≤ 2 := by omega
  go_enter Tryz.func39, Tryz.ntmps39
  go_wp2
  go_ret
  exact ⟨rfl, (Below.refl _ w).alloc (Nat.le_refl _) _⟩

theorem entCells_append (es : List EntC) (e : EntC) : entCells (es ++ [e]) = entCells es ++ e.cells := by simp [entCells]

/-- What an append to a log owes behind its walk. -/
theorem app_fin {lb : Nat} {L : LogC} {w w1 w2 : World} {e : EntC} {a' : Option Addr} {c' H n : Nat} (h : RLog w lb L) (hb : Below w.heap.size w w1) (hH : w1.heap.size = H) (hn : n = L.es.length) (hfew : n + 1 < 1000000)
    (hown : w2.ownsRow 0 48 4 (.slice a' (n + 1) c') (n + 1) (entCells L.es ++ e.cells)) (hgrow : w1.grownBy w2 L.ev.ownBlock)
    (hat : (Value.slice a' (n + 1) c').ownBlock = L.ev.ownBlock ∨ (Value.slice a' (n + 1) c').ownBlock = some H) :
    RLog (w2.setCell ⟨lb, 4, none⟩ (.slice a' (n + 1) c')) lb { L with ev := .slice a' (n + 1) c', es := L.es ++ [e] } ∧ Chg (lb :: own L.ev) w (w2.setCell ⟨lb, 4, none⟩ (.slice a' (n + 1) c')) ∧
      (∀ x ∈ own (.slice a' (n + 1) c'), x ∈ own L.ev ∨ x = H) ∧ w.heap.size ≤ H := by
  subst hn
  have hz := hb.size
  have hlb := ltOf h.blk
  have hnew : (Value.slice a' (L.es.length + 1) c').ownBlock ≠ some lb := by
    intro e1
    rcases hat with h1 | h1
    · exact h.ne (h1.symm.trans e1)
    · rw [h1] at e1; cases e1; omega
  refine ⟨⟨?_, ?_, hnew, by simp; omega⟩, ((Chg.ofBelow hb).grown hgrow (fun k hk => .inl (by simp [mem_own, hk]))).setCell (by simp) _, ?_, by omega⟩
  · have h2 : w2.heap[lb]? = some (.cells L.cells 84 (0, 0)) := by
      rw [hgrow.block lb (by omega) (fun e1 => h.ne e1.symm), hb.block lb hlb]; exact h.blk
    rw [heap_set h2]; rfl
  · show (w2.setCell _ _).ownsRow 0 48 4 (.slice a' (L.es.length + 1) c') (L.es ++ [e]).length (entCells (L.es ++ [e]))
    rw [entCells_append, List.length_append, List.length_singleton]
    exact ((Chg.refl [lb] w2).setCell (by simp) _).owns hown (by intro k hk hx; simp at hx; subst hx; exact hnew hk)
  · intro x hx
    rw [mem_own] at hx ⊢
    rcases hat with h1 | h1
    · exact .inl (by rw [← h1]; exact hx)
    · rw [h1] at hx; cases hx; exact .inr rfl

def tprev (t : Int) (es : List EntC) : Nat → Int
  | 0 => t
  | k + 1 => match es[k]? with | some e => e.t | none => 0
/-- Entries that follow a log. -/
structure Follow (L : LogC) (es : List EntC) : Prop where
  ok : ∀ e ∈ es, EntOk e
  next : ∀ (j : Nat) (e : EntC), es[j]? = some e → e.i = L.last.1 + 1 + (j : Int)
  up : ∀ (j : Nat) (e : EntC), es[j]? = some e → tprev L.last.2 es j ≤ e.t

theorem Tryz.info48 : (Tryz.prog.info? 48).map (fun i => (i.zero, i.size, i.bytes)) = some (some (.agg #[.int .i64 0, .int .i64 0, .int .i64 0, .slice none 0 0]), 4, 48) := by kernel_rfl
theorem Tryz.und34 : Tryz.prog.underlying 34 = some (.slice 48) := by kernel_rfl

/-- Entries whose data are new. -/
def NewEnts (w0 w : World) (ev : Value) (lb : Nat) (es : List EntC) : Prop := ∀ e ∈ es, RBytes w (fun x => w0.heap.size ≤ x ∧ x ∉ own ev ∧ x ≠ lb) e.da e.dn e.dc e.d

/-- What a round of Append owes behind its walk. -/
theorem app_round {lb n c' H : Nat} {L : LogC} {w wr W w1 w2 : World} {v : Value} {ns : List EntC} {e : EntC} {da a' : Option Addr} {dc : Nat}
    (hR : RLog wr lb { L with ev := v, es := L.es ++ ns }) (hne : NewEnts w wr v lb ns) (hch : Chg (lb :: own L.ev) w wr) (how : ∀ x ∈ own v, x ∈ own L.ev ∨ w.heap.size ≤ x)
    (hBW : Below wr.heap.size wr W) (hr : RBytes W (fun b => (wr.alloc (.cells #[.int .i64 e.i, .int .i64 e.t, .int .i64 e.k, .slice e.da e.dn e.dc] 48)).heap.size ≤ b) da e.dn dc e.d) (hb : Below W.heap.size W w1) (hH : w1.heap.size = H) (hn : n = (L.es ++ ns).length) (hfew : n + 1 < 1000000)
    (hown : w2.ownsRow 0 48 4 (.slice a' (n + 1) c') (n + 1) (entCells (L.es ++ ns) ++ [.int .i64 e.i, .int .i64 e.t, .int .i64 e.k, .slice da e.dn dc])) (hgrow : w1.grownBy w2 v.ownBlock)
    (hat : (Value.slice a' (n + 1) c').ownBlock = v.ownBlock ∨ (Value.slice a' (n + 1) c').ownBlock = some H) :
    ∃ ev' ns', RLog (w2.setCell ⟨lb, 4, none⟩ (.slice a' (n + 1) c')) lb { L with ev := ev', es := L.es ++ ns' } ∧ ns'.map EntC.ab = ns.map EntC.ab ++ [e.ab] ∧ NewEnts w (w2.setCell ⟨lb, 4, none⟩ (.slice a' (n + 1) c')) ev' lb ns' ∧
      Chg (lb :: own L.ev) w (w2.setCell ⟨lb, 4, none⟩ (.slice a' (n + 1) c')) ∧ (∀ x ∈ own ev', x ∈ own L.ev ∨ w.heap.size ≤ x) := by
  have hzr := hch.size
  have hzW := hBW.size
  have hRW := hR.below hBW
  have hlb := ltOf hR.blk
  have hov := own_lt hR.own
  obtain ⟨r1, r2, r3, r4⟩ := app_fin (e := { e with da := da, dc := dc }) hRW hb hH hn hfew hown hgrow hat
  have r2' : Chg (lb :: own v) W (w2.setCell ⟨lb, 4, none⟩ (.slice a' (n + 1) c')) := r2
  refine ⟨_, ns ++ [{ e with da := da, dc := dc }], by rw [← List.append_assoc]; exact r1, by simp [EntC.ab], ?_, ?_, ?_⟩
  · intro x hx
    simp only [List.mem_append, List.mem_singleton] at hx
    rcases hx with hx | rfl
    · have h0 := (hne x hx).mono (Q' := fun y => (w.heap.size ≤ y ∧ y ∉ own (.slice a' (n + 1) c') ∧ y ≠ lb) ∧ y ∉ own v) (fun y hy hq => ⟨⟨hq.1, fun hy2 => by
        rcases r3 y hy2 with h2 | h2
        · exact hq.2.1 h2
        · omega, hq.2.2⟩, hq.2.1⟩)
      exact ((h0.below hBW).chg r2' (fun y _ hq hm => by
        simp only [List.mem_cons] at hm
        rcases hm with h1 | h1
        · exact hq.1.2.2 h1
        · exact hq.2 h1)).mono (fun _ _ hq => hq.1)
    · have h0 := hr.mono (Q' := fun y => (w.heap.size ≤ y ∧ y ∉ own (.slice a' (n + 1) c') ∧ y ≠ lb) ∧ y ∉ own v) (fun y hy hq => by
        rw [size_alloc] at hq
        have hnv : y ∉ own v := fun h => by have := hov y h; omega
        refine ⟨⟨by omega, fun hy2 => ?_, by omega⟩, hnv⟩
        rcases r3 y hy2 with h2 | h2
        · exact hnv h2
        · omega)
      exact (h0.chg r2' (fun y _ hq hm => by
        simp only [List.mem_cons] at hm
        rcases hm with h1 | h1
        · exact hq.1.2.2 h1
        · exact hq.2 h1)).mono (fun _ _ hq => hq.1)
  · refine (hch.trans (Chg.ofBelow hBW)).trans' r2' (fun x hx => ?_)
    simp only [List.mem_cons] at hx ⊢
    rcases hx with h1 | h1
    · exact .inl (.inl h1)
    · rcases how x h1 with h2 | h2
      · exact .inl (.inr h2)
      · exact .inr h2
  · intro x hx
    rcases r3 x hx with h1 | h1
    · exact how x h1
    · exact .inr (by omega)

set_option maxRecDepth 100000 in
set_option maxHeartbeats 4000000 in
theorem append_any (Q : Nat → Prop) (lb : Nat) (L : LogC) (a : Option Addr) (ac : Nat) (es : List EntC) (w : World) (h : RLog w lb L) (hf : Follow L es) (hfew : L.es.length + es.length < 1000000)
    (hs : RSl w Q 4 a es.length ac (entCells es)) (hd : ∀ e ∈ es, RBytes w Q e.da e.dn e.dc e.d) (hQ : ∀ x, x < w.heap.size → Q x → x ∉ lb :: own L.ev) (hl0 : 0 ≤ L.last.1) (hl1 : L.last.1 ≤ 1099511627776) :
    Calls Tryz.prog 14 #[.pointer (some ⟨lb, 0, none⟩), .slice a es.length ac] w fun e w' => e = .returned (.int .i64 0) ∧
      ∃ ev ns, RLog w' lb { L with ev := ev, es := L.es ++ ns } ∧ ns.map EntC.ab = es.map EntC.ab ∧ NewEnts w w' ev lb ns ∧ Chg (lb :: own L.ev) w w' ∧ (∀ x ∈ own ev, x ∈ own L.ev ∨ w.heap.size ≤ x) := by
  obtain ⟨i0, hi, hz0, hz1, hz2⟩ := info_parts Tryz.info48
  have HL := Lib.hid (last_any lb L w h)
  have hnext := hf.next
  have hup := hf.up
  have hok := hf.ok
  generalize hp : L.last = p at HL hnext hup hl0 hl1
  obtain ⟨li, lt⟩ := p
  dsimp only at HL hnext hup hl0 hl1
  clear hp hf
  have H := Lib.hid h
  have Hs := Lib.hid hs
  have Hd := Lib.hid hd
  have HQ := Lib.hid hQ
  have Hnext := Lib.hid hnext
  have Hup := Lib.hid hup
  have Hok := Lib.hid hok
  clear h hs hd hQ hnext hup hok
  go_enter Tryz.func14, Tryz.ntmps14
  go_wp2_with fail
  refine HL.out.mono ?_
  rintro e w1 ⟨rfl, hb1⟩
  clear HL
  have HB1 := Lib.hid hb1
  go_wp2_with fail
  go_loopw [5, 6, 8, 18] (fun ix tm s8 i wr => ∃ k : Nat, k ≤ es.length ∧ i = .int .i64 k ∧ ix = .int .i64 (li + k) ∧ tm = .int .i64 (tprev lt es k) ∧ Below w.heap.size w wr)
    (fun _ _ _ i _ => es.length - (intOf i).toNat)
  case atStart => exact ⟨0, Nat.zero_le _, rfl, by simp, rfl, hb1⟩
  case round =>
    obtain ⟨k, hk1, rfl, rfl, rfl, hbr⟩ := hrel
    have HBr := Lib.hid hbr
    clear hbr
    by_cases hkl : k < es.length
    · obtain ⟨e, he⟩ : ∃ e, es[k]? = some e := ⟨es[k], by simp [hkl]⟩
      have hem : e ∈ es := List.mem_of_getElem? he
      obtain ⟨bx, off, rfl, hbx, hcx⟩ : ∃ bx off, a = some ⟨bx, off, none⟩ ∧ bx < w.heap.size ∧ ∀ j u, (entCells es)[j]? = some u → w.cell? ⟨bx, off + j, none⟩ = some u := by
        rcases Hs.out.2.2.2.2 with h0 | ⟨bx, off, h1, h2, _, h5⟩
        · omega
        · exact ⟨bx, off, h1, h2, h5⟩
      have hget := entCells_get es k e he
      have hbw := HBr.out
      have e0 := (hbw.cell (p := ⟨bx, off + k * 4, none⟩) hbx).trans (hcx _ _ hget.1)
      have e1 := (hbw.cell (p := ⟨bx, off + (k * 4 + 1), none⟩) hbx).trans (hcx _ _ hget.2.1)
      have e2 := (hbw.cell (p := ⟨bx, off + (k * 4 + 2), none⟩) hbx).trans (hcx _ _ hget.2.2.1)
      have e3 := (hbw.cell (p := ⟨bx, off + (k * 4 + 3), none⟩) hbx).trans (hcx _ _ hget.2.2.2)
      rw [← Nat.add_assoc] at e1 e2 e3
      have hei := Lib.hid (Hnext.out k e he)
      have het := Hup.out k e he
      have hR := Lib.hid (fun W => right_any e W (Hok.out e hem))
      have ht' : Hid (tprev lt es (k + 1) = e.t) := Lib.hid (by simp [tprev, he])
      have heq : (e.i == li + (k : Int) + 1) = true := by have := hei.out; simp; omega
      have hwr : IntKind.i64.wrap (li + (k : Int) + 1) = li + (k : Int) + 1 := IntWalk.i64_in _ (by omega)
      have het' : ¬ e.t < tprev lt es k := by omega
      clear hcx hget hbw hem he
      go_wp2_with fail
      refine (hR.out _).mono ?_
      rintro ev w3 ⟨rfl, hb3⟩
      have hz3 := hb3.size
      rw [size_alloc] at hz3
      have g3 : w3.heap[wr.heap.size]? = some (.cells #[.int .i64 e.i, .int .i64 e.t, .int .i64 e.k, .slice e.da e.dn e.dc] 48 (0, 0)) := by rw [hb3.block _ (by simp), heap_alloc, if_pos rfl]
      have c3 := cellsOf g3
      have HB3 := Lib.hid ((HBr.out.alloc HBr.out.size _).trans (hb3.mono (by have := HBr.out.size; rw [size_alloc]; omega)))
      clear g3 hb3 e0 e1 e2 e3 hR
      go_wp2
      go_quiet (fail)
      go_wp2
      go_roundw
      case rel => exact ⟨k + 1, by omega, by go_num, congrArg (Value.int IntKind.i64) (by have := hei.out; omega), by rw [ht'.out], below_drewN' HB3.out _⟩
      case measure => simp [intOf]; omega
    · obtain ⟨wo, hwo⟩ : ∃ wo, wo = wr := ⟨_, rfl⟩
      subst hwo
      have HRl := Lib.hid (H.out.below HBr.out)
      clear HB1 Hnext Hup
      go_wp2_with fail
      go_loopw [10, 44] (fun s10 i wx => ∃ (j : Nat) (ev : Value) (ns : List EntC), j ≤ es.length ∧ i = .int .i64 j ∧ RLog wx lb { L with ev := ev, es := L.es ++ ns } ∧ ns.map EntC.ab = (es.take j).map EntC.ab ∧ NewEnts w wx ev lb ns ∧ Chg (lb :: own L.ev) w wx ∧ (∀ x ∈ own ev, x ∈ own L.ev ∨ w.heap.size ≤ x))
        (fun _ i _ => es.length - (intOf i).toNat)
      case atStart => exact ⟨0, L.ev, [], Nat.zero_le _, rfl, by simpa using HRl.out, by simp, by simp [NewEnts], Chg.ofBelow HBr.out, fun x hx => .inl hx⟩
      case round =>
        obtain ⟨j, ev, ns, hj1, rfl, hRx, hab, hne, hch, how⟩ := hrel
        obtain ⟨ea, eca, hev⟩ : ∃ ea eca, ev = .slice ea (L.es ++ ns).length eca := by obtain ⟨x1, x2, x3, _⟩ := RSl.ofOwns hRx.own; exact ⟨x1, x2, x3⟩
        subst hev
        have HRx := Lib.hid hRx
        have Hab := Lib.hid hab
        have Hne := Lib.hid hne
        have Hch := Lib.hid hch
        have How := Lib.hid how
        have hnl : ns.length = j := by have := congrArg List.length hab; simpa [hj1] using this
        have Hnl := Lib.hid hnl
        clear hRx hab hne hch how hnl
        by_cases hjl : j < es.length
        · obtain ⟨e, he⟩ : ∃ e, es[j]? = some e := ⟨es[j], by simp [hjl]⟩
          have hem : e ∈ es := List.mem_of_getElem? he
          obtain ⟨bx, off, rfl, hbx, hQx, hcx⟩ : ∃ bx off, a = some ⟨bx, off, none⟩ ∧ bx < w.heap.size ∧ Q bx ∧ ∀ j u, (entCells es)[j]? = some u → w.cell? ⟨bx, off + j, none⟩ = some u := by
            rcases Hs.out.2.2.2.2 with h0 | ⟨bx, off, h1, h2, h3, h5⟩
            · omega
            · exact ⟨bx, off, h1, h2, h3, h5⟩
          have hget := entCells_get es j e he
          have hbn := HQ.out bx hbx hQx
          have e0 := (Hch.out.cell (p := ⟨bx, off + j * 4, none⟩) hbx hbn).trans (hcx _ _ hget.1)
          have e1 := (Hch.out.cell (p := ⟨bx, off + (j * 4 + 1), none⟩) hbx hbn).trans (hcx _ _ hget.2.1)
          have e2 := (Hch.out.cell (p := ⟨bx, off + (j * 4 + 2), none⟩) hbx hbn).trans (hcx _ _ hget.2.2.1)
          have e3 := (Hch.out.cell (p := ⟨bx, off + (j * 4 + 3), none⟩) hbx hbn).trans (hcx _ _ hget.2.2.2)
          rw [← Nat.add_assoc] at e1 e2 e3
          have hdn := (Hok.out e hem).d
          have hde := (Hd.out e hem).chg Hch.out HQ.out
          have hba := (Below.refl wr.heap.size wr).alloc (Nat.le_refl _) (.cells #[.int .i64 e.i, .int .i64 e.t, .int .i64 e.k, .slice e.da e.dn e.dc] 48)
          have HCl := Lib.hid (cloneBytes Q _ _ _ _ _ (hde.below hba) (by omega))
          have htk : Hid ((es.take (j + 1)).map EntC.ab = (es.take j).map EntC.ab ++ [e.ab]) := Lib.hid (by
            rw [List.take_succ_eq_append_getElem hjl, List.map_append]
            have : es[j] = e := by have := he; rw [List.getElem?_eq_getElem hjl] at this; exact Option.some.inj this
            rw [this]; rfl)
          clear hcx hget hem hde he
          go_wp2_with fail
          refine HCl.out.mono ?_
          rintro ev4 w4 ⟨da, dc, rfl, hr4, hb4⟩
          have Hr4 := Lib.hid hr4
          have hz4 := hb4.size
          rw [size_alloc] at hz4
          have g4 : w4.heap[wr.heap.size]? = some (.cells #[.int .i64 e.i, .int .i64 e.t, .int .i64 e.k, .slice e.da e.dn e.dc] 48 (0, 0)) := by rw [hb4.block _ (by simp), heap_alloc, if_pos rfl]
          have c4 := cellsOf g4
          have f4 := freeOf g4
          have G4 := Lib.hid g4
          have HB4 := Lib.hid (hba.trans (hb4.mono (by rw [size_alloc]; omega)))
          clear g4 hb4 hba e0 e1 e2 e3 HCl hr4
          go_wp2
          obtain ⟨W, hW⟩ : ∃ W, W = w4.setCell ⟨wr.heap.size, 3, none⟩ (.slice da e.dn dc) := ⟨_, rfl⟩
          rw [← hW]
          have hBW : Below wr.heap.size wr W := by rw [hW]; exact HB4.out.setCell (Nat.le_refl _) _
          have hC4 : Chg [wr.heap.size] w4 W := by rw [hW]; exact (Chg.refl _ _).setCell (by simp) _
          have hg5 : W.heap[wr.heap.size]? = some (.cells #[.int .i64 e.i, .int .i64 e.t, .int .i64 e.k, .slice da e.dn dc] 48 (0, 0)) := by rw [hW, heap_set G4.out]; rfl
          have hzW : W.heap.size = w4.heap.size := by rw [hW, size_setCell]
          have Hr5 := Lib.hid (Hr4.out.chg hC4 (by simp; omega))
          have hR5 := HRx.out.below hBW
          have HR5 := Lib.hid hR5
          have HBW := Lib.hid hBW
          have c5 := cellsOf hg5
          have hlW := ltOf hg5
          have hlbW := ltOf hR5.blk
          have hlbW1 : lb < W.heap.size + 1 := by omega
          have hlW1 : wr.heap.size < W.heap.size + 1 := by omega
          have hcl := cellsOf hR5.blk
          have hfl := freeOf hR5.blk
          unfold LogC.cells at hcl
          dsimp only at hcl
          have hlen5 : Hid ((L.es ++ ns).length = L.es.length + ns.length) := Lib.hid (by simp)
          have hownr := hR5.own
          have hner := hR5.ne
          have Hner := Lib.hid hner
          have Ho := Lib.hid ((hownr.alloc (.cells #[.int .i64 e.i, .int .i64 e.t, .int .i64 e.k, .slice da e.dn dc] 48)))
          have hbox : RSl (W.alloc (.cells #[.int .i64 e.i, .int .i64 e.t, .int .i64 e.k, .slice da e.dn dc] 48)) (fun _ => True) 4 (some ⟨W.heap.size, 0, none⟩) 1 1 [.int .i64 e.i, .int .i64 e.t, .int .i64 e.k, .slice da e.dn dc] :=
            RSl.ofBlk (heap_alloc_new W _) trivial (Nat.le_refl _) (by unfold maxLen; omega) rfl (fun j u hu => by simpa using hu)
          have Hbox := Lib.hid hbox
          have Hcell : Hid (∀ u ∈ [Value.int .i64 e.i, .int .i64 e.t, .int .i64 e.k, .slice da e.dn dc], u.oneCell' = true) := Lib.hid (by simp [Value.oneCell'])
          have hn1 : (L.es ++ ns).length < 999999 := by rw [hlen5.out]; have := Hnl.out; omega
          have c44 : W.cell? ⟨lb, 4, none⟩ = some (.slice ea (L.es ++ ns).length eca) := by rw [hcl]; rfl
          have f44 := hfl 4
          clear hR5 hBW hW hC4 hg5 hownr hner hbox c4 f4 G4 HB4 Hr4 hz4 hcl hfl hzW
          generalize (L.es ++ ns).length = n at *
          go_region_law ((refine step_append_sl _ (by rfl) (.tmp 56) (.tmp 58) 34 (by rfl) 0 48 i0 _ 4 48 Tryz.und34 hi hz0 hz1 hz2 rfl (by omega) (.slice ea n eca) n (entCells (L.es ++ ns)) (by rfl) Ho.out (fun _ => True) (some ⟨W.heap.size, 0, none⟩) 1 1 _ (by rfl) Hbox.out Hcell.out (by unfold maxLen; omega) (by omega) (by omega) _ rfl ?_; intro a2 c2 w2 hown2 hgrow hat; have k44 : w2.cell? ⟨lb, 4, none⟩ = some (.slice ea n eca) := (hgrow.cell_far _ (by simp; omega) (Ne.symm Hner.out)).trans (by simp [c44, hlbW, World.cell?_alloc_past]); have fk44 : w2.frozen? ⟨lb, 4, none⟩ = false := (hgrow.frozen_far _ (by simp; omega) (Ne.symm Hner.out)).trans (by simp [f44, hlbW, World.frozen?_alloc_past])))
          all_goals
            obtain ⟨ev', ns', p1, p2, p3, p4, p5⟩ := app_round HRx.out Hne.out Hch.out How.out HBW.out Hr5.out (((Below.refl _ W).alloc (Nat.le_refl _) _).drew) rfl (by rw [List.length_append]; exact hlen5.out) (by omega) hown2 hgrow hat
            have P1 := Lib.hid p1
            have P2 : Hid (ns'.map EntC.ab = (es.take (j + 1)).map EntC.ab) := Lib.hid (by rw [p2, htk.out, Hab.out])
            have P3 := Lib.hid p3
            have P4 := Lib.hid p4
            have P5 := Lib.hid p5
            clear p1 p2 p3 p4 p5 hown2 hgrow hat
            go_wp2
            go_roundw
            case rel => exact ⟨j + 1, ev', ns', by omega, by go_num, P1.out, P2.out, P3.out, P4.out, P5.out⟩
            case measure => simp [intOf]; omega
        · have hfull : es.take j = es := List.take_of_length_le (by omega)
          have hF := Hab.out
          rw [hfull] at hF
          have HF := Lib.hid hF
          clear hfull hF
          go_wp2_with fail
          go_ret
          exact ⟨rfl, _, ns, HRx.out, HF.out, Hne.out, Hch.out, How.out⟩
end Go.Proofs.YtjbnmamgfpnccaaGreat
