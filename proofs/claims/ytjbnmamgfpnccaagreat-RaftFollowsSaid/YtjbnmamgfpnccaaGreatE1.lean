/- Entries. -/
import Derived.Test.YtjbnmamgfpnccaaGreatN1
namespace Go.Proofs.YtjbnmamgfpnccaaGreat
open Go Go.RowKit

/-- What a round of Entries owes behind its walk. -/
theorem ent_round {w wr W W1 w2 : World} {v : Value} {ns : List EntC} {e : EntC} {da a' : Option Addr} {dc n c' : Nat}
    (hB : Below w.heap.size w wr) (hge : ∀ x ∈ own v, w.heap.size ≤ x) (hlt : ∀ x ∈ own v, x < wr.heap.size)
    (hne : ∀ e ∈ ns, RBytes wr (fun x => w.heap.size ≤ x ∧ x ∉ own v) e.da e.dn e.dc e.d)
    (hBW : Below wr.heap.size wr W) (hr : RBytes W (fun b => wr.heap.size + 1 ≤ b) da e.dn dc e.d) (hb : Below W.heap.size W W1) (hgrow : W1.grownBy w2 v.ownBlock)
    (hat : (Value.slice a' n c').ownBlock = v.ownBlock ∨ (Value.slice a' n c').ownBlock = some (W.heap.size + 1)) :
    Below w.heap.size w w2 ∧ (∀ x ∈ own (.slice a' n c'), w.heap.size ≤ x) ∧ (∀ x ∈ ns ++ [{ e with da := da, dc := dc }], RBytes w2 (fun x => w.heap.size ≤ x ∧ x ∉ own (.slice a' n c')) x.da x.dn x.dc x.d) := by
  have hzr := hB.size
  have hzW := hBW.size
  have hz1 := hb.size
  have h3 : ∀ x ∈ own (.slice a' n c'), x ∈ own v ∨ W.heap.size ≤ x := fun x hx => by
    rw [mem_own] at hx
    rcases hat with h1 | h1
    · exact .inl (mem_own.2 (by rw [← h1]; exact hx))
    · rw [h1] at hx; cases hx; exact .inr (by omega)
  have hC1 : Chg (own v) W w2 := (Chg.ofBelow hb).grown hgrow (fun k hk => .inl (mem_own.2 hk))
  have hC : Chg (own v) wr w2 := ((Chg.ofBelow (M := own v) hBW).trans hC1)
  refine ⟨((Chg.ofBelow (M := []) hB).trans' hC (fun x hx => .inr (hge x hx))).below, fun x hx => ?_, fun x hx => ?_⟩
  · rcases h3 x hx with h1 | h1
    · exact hge x h1
    · omega
  · simp only [List.mem_append, List.mem_singleton] at hx
    rcases hx with hx | rfl
    · have h0 := (hne x hx).mono (Q' := fun y => (w.heap.size ≤ y ∧ y ∉ own (.slice a' n c')) ∧ y ∉ own v) (fun y hy hq => ⟨⟨hq.1, fun hy2 => by
        rcases h3 y hy2 with h2 | h2
        · exact hq.2 h2
        · omega⟩, hq.2⟩)
      exact (h0.chg hC (fun y _ hq hm => hq.2 hm)).mono (fun _ _ hq => hq.1)
    · have h0 := hr.mono (Q' := fun y => (w.heap.size ≤ y ∧ y ∉ own (.slice a' n c')) ∧ y ∉ own v) (fun y hy hq => by
        have hnv : y ∉ own v := fun h => by have := hlt y h; omega
        refine ⟨⟨by omega, fun hy2 => ?_⟩, hnv⟩
        rcases h3 y hy2 with h2 | h2
        · exact hnv h2
        · omega)
      exact (h0.chg hC1 (fun y _ hq hm => hq.2 hm)).mono (fun _ _ hq => hq.1)

set_option maxRecDepth 100000 in
set_option maxHeartbeats 4000000 in
theorem entries_any (Q : Nat → Prop) (lb : Nat) (L : LogC) (frm : Int) (most : Nat) (w : World) (h : RLog w lb L) (hw : L.Wf) (hd : ∀ e ∈ L.es, RBytes w Q e.da e.dn e.dc e.d ∧ e.dn ≤ 2048) (hm : most ≤ 1000000) (hf0 : -1000000 ≤ frm) (hf1 : frm ≤ 1099511627777) :
    Calls Tryz.prog 17 #[.pointer (some ⟨lb, 0, none⟩), .int .i64 frm, .int .i64 (most : Int)] w fun e w' => ∃ (s : SE), e = .returned (.slice s.a s.n s.c) ∧ s.n = s.es.length ∧ RSl w' (fun x => w.heap.size ≤ x) 4 s.a s.n s.c (entCells s.es) ∧
      (∀ e ∈ s.es, RBytes w' (fun x => w.heap.size ≤ x) e.da e.dn e.dc e.d) ∧ s.es.map EntC.ab = L.ab.entries frm most ∧ Below w.heap.size w w' := by
  obtain ⟨i0, hi, hz0, hz1, hz2⟩ := info_parts Tryz.info48
  have HL := Lib.hid (last_any lb L w h)
  have hlast := hw.last
  have hfew := hw.few
  have hi0 := hw.i0
  have hi1 := hw.i1
  have htop := hw.top
  have hc := cellsOf h.blk
  unfold LogC.cells at hc
  have hwr : IntKind.i64.wrap (L.i + 1) = L.i + 1 := IntWalk.i64_in _ (by omega)
  obtain ⟨ea, ec, hev⟩ : ∃ ea ec, L.ev = .slice ea L.es.length ec := by obtain ⟨x1, x2, x3, _⟩ := RSl.ofOwns h.own; exact ⟨x1, x2, x3⟩
  have H := Lib.hid h
  generalize L.last = p at *
  obtain ⟨li, lt⟩ := p
  dsimp only at *
  rw [hev] at hc
  clear h
  go_enter Tryz.func17, Tryz.ntmps17
  go_wp2_with fail
  refine HL.out.mono ?_
  rintro e w1 ⟨rfl, hb1⟩
  have k1 := keepCells hb1 (ltOf H.out.blk) hc
  clear HL
  obtain ⟨k0, hk0⟩ : ∃ k0 : Nat, max frm (L.i + 1) = L.i + 1 + (k0 : Int) := ⟨(max frm (L.i + 1) - (L.i + 1)).toNat, by omega⟩
  have hent : Hid (L.ab.entries frm most = ((L.es.drop k0).take most).map EntC.ab) := Lib.hid (by
    unfold Log.entries LogC.ab
    dsimp only
    rw [hk0, show (L.i + 1 + (k0 : Int) - L.i - 1).toNat = k0 by omega, ← List.map_drop, ← List.map_take])
  have HB1 := Lib.hid hb1
  by_cases hgood : k0 < L.es.length ∧ 0 < most
  · obtain ⟨hk, hmo⟩ := hgood
    have q1 : ((L.es.length : Int) == 0) = false := beq_eq_false_iff_ne.2 (by omega)
    obtain ⟨g, hea, hgw, hcell⟩ : ∃ g, ea = some ⟨g, 0, none⟩ ∧ g < w.heap.size ∧ ∀ j, j < L.es.length * 4 → w.cell? ⟨g, j, none⟩ = (entCells L.es)[j]? := by
      rcases H.out.shape with ⟨_, he⟩ | ⟨g, cc, h1, h2, _, h4⟩
      · rw [he] at hk; simp at hk
      · rw [hev] at h1; cases h1; exact ⟨g, rfl, h2, h4⟩
    subst hea
    have hec : L.es.length ≤ ec := by obtain ⟨x1, x2, x3, x4⟩ := RSl.ofOwns H.out.own; rw [hev] at x3; cases x3; exact x4.1
    have q2 : decide (L.i + (L.es.length : Int) < L.i + 1 + (k0 : Int)) = false := by simp; omega
    obtain ⟨n, hn⟩ : ∃ n, min (L.es.length - k0) most = n := ⟨_, rfl⟩
    have hmin : min ((L.es.length - k0 : Nat) : Int) (most : Int) = n := by omega
    have q3 : decide (most = 0) = false := by simp; omega
    have hw1 : IntKind.i64.wrap (L.i + 1 + (k0 : Int) - L.i) = 1 + k0 := by rw [IntWalk.i64_in _ (by omega)]; omega
    have hw2 : IntKind.i64.wrap (1 + (k0 : Int) - 1) = k0 := by rw [IntWalk.i64_in _ (by omega)]; omega
    go_wp2_with fail
    go_quiet (fail)
    go_wp2_with fail
    have hnk : n ≤ L.es.length - k0 := by omega
    have hent' : Hid (L.ab.entries frm most = ((L.es.drop k0).take n).map EntC.ab) := Lib.hid (by
      rw [hent.out, ← hn]
      congr 1
      rcases Nat.le_total (L.es.length - k0) most with h1 | h1
      · rw [Nat.min_eq_left h1, List.take_of_length_le (by simp; omega), List.take_of_length_le (by simp)]
      · rw [Nat.min_eq_right h1])
    have Hcell := Lib.hid hcell
    have Hd := Lib.hid hd
    have Hn := Lib.hid hn
    clear hcell hd hn hmin hw1 hw2 q1 q2 q3 hk0 hent k1 hc hb1
    go_loopw [9, 59] (fun v i wr => ∃ (k : Nat) (a : Option Addr) (cp : Nat) (ns : List EntC), k ≤ n ∧ i = .int .i64 k ∧ v = .slice a k cp ∧ Below w.heap.size w wr ∧ wr.ownsRow 0 48 4 (.slice a k cp) k (entCells ns) ∧
        (∀ x ∈ own (.slice a k cp), w.heap.size ≤ x) ∧ (∀ e ∈ ns, RBytes wr (fun x => w.heap.size ≤ x ∧ x ∉ own (.slice a k cp)) e.da e.dn e.dc e.d) ∧ ns.map EntC.ab = ((L.es.drop k0).take k).map EntC.ab)
      (fun _ i _ => n - (intOf i).toNat)
    case atStart => exact ⟨0, none, 0, [], Nat.zero_le _, rfl, rfl, below_drewN' HB1.out _, by simpa [entCells] using World.ownsRow_nil _ 0 48 4, by simp [own, Value.ownBlock], by simp, by simp⟩
    case round =>
      obtain ⟨k, a, cp, ns, hkn, rfl, rfl, hB, hown, hge, hne, hab⟩ := hrel
      have HB := Lib.hid hB
      have Hown := Lib.hid hown
      have Hge := Lib.hid hge
      have Hne := Lib.hid hne
      have Hab := Lib.hid hab
      clear hB hown hge hne hab
      by_cases hkl : k < n
      · obtain ⟨e, he⟩ : ∃ e, L.es[k0 + k]? = some e := ⟨L.es[k0 + k]'(by omega), by rw [List.getElem?_eq_getElem (by omega)]⟩
        have hem : e ∈ L.es := List.mem_of_getElem? he
        have hget := entCells_get L.es (k0 + k) e he
        have e0 := (HB.out.cell (p := ⟨g, (k0 + k) * 4, none⟩) hgw).trans ((Hcell.out _ (by omega)).trans hget.1)
        have e1 := (HB.out.cell (p := ⟨g, (k0 + k) * 4 + 1, none⟩) hgw).trans ((Hcell.out _ (by omega)).trans hget.2.1)
        have e2 := (HB.out.cell (p := ⟨g, (k0 + k) * 4 + 2, none⟩) hgw).trans ((Hcell.out _ (by omega)).trans hget.2.2.1)
        have e3 := (HB.out.cell (p := ⟨g, (k0 + k) * 4 + 3, none⟩) hgw).trans ((Hcell.out _ (by omega)).trans hget.2.2.2)
        rw [Nat.add_mul] at e0 e1 e2 e3
        obtain ⟨hde, hdn⟩ := Hd.out e hem
        have hde' := hde.below HB.out
        have hba := (Below.refl wr.heap.size wr).alloc (Nat.le_refl _) (.cells #[.int .i64 e.i, .int .i64 e.t, .int .i64 e.k, .slice e.da e.dn e.dc] 48)
        have HCl := Lib.hid (cloneBytes Q _ _ _ _ _ (hde'.below hba) (by omega))
        have htk : Hid (((L.es.drop k0).take (k + 1)).map EntC.ab = ((L.es.drop k0).take k).map EntC.ab ++ [e.ab]) := Lib.hid (by
          rw [List.take_add_one, List.map_append, List.getElem?_drop, he]; rfl)
        clear hget hem hde hde' he
        go_wp2_with fail
        refine HCl.out.mono ?_
        rintro ev4 w4 ⟨da, dc, rfl, hr4, hb4⟩
        have Hr4 := Lib.hid hr4
        have hz4 := hb4.size
        rw [size_alloc] at hz4
        have g4 : w4.heap[wr.heap.size]? = some (.cells #[.int .i64 e.i, .int .i64 e.t, .int .i64 e.k, .slice e.da e.dn e.dc] 48 (0, 0)) := by rw [hb4.block _ (by simp), heap_alloc, if_pos rfl]
        have c4 := cellsOf g4
        have f4 := freeOf g4
        have G4 := Lib.hid g4
        have HB4 := Lib.hid (hba.trans (hb4.mono (by rw [size_alloc]; omega)))
        clear g4 hb4 hba e0 e1 e2 e3 HCl hr4
        obtain ⟨W, hW⟩ : ∃ W, W = w4.setCell ⟨wr.heap.size, 3, none⟩ (.slice da e.dn dc) := ⟨_, rfl⟩
        have hBW : Below wr.heap.size wr W := by rw [hW]; exact HB4.out.setCell (Nat.le_refl _) _
        have hC4 : Chg [wr.heap.size] w4 W := by rw [hW]; exact (Chg.refl _ _).setCell (by simp) _
        have hg5 : W.heap[wr.heap.size]? = some (.cells #[.int .i64 e.i, .int .i64 e.t, .int .i64 e.k, .slice da e.dn dc] 48 (0, 0)) := by rw [hW, heap_set G4.out]; rfl
        have c5 := cellsOf hg5
        have hr5 := Hr4.out.chg hC4 (by simp; omega)
        rw [size_alloc] at hr5
        have Hr5 := Lib.hid hr5
        have HBW := Lib.hid hBW
        have hlv := Lib.hid (own_lt Hown.out)
        have hownW := ((Chg.ofBelow (M := []) hBW).owns Hown.out (by simp)).alloc (.cells #[.int .i64 e.i, .int .i64 e.t, .int .i64 e.k, .slice da e.dn dc] 48)
        have Hbox : Hid (RSl (W.alloc (.cells #[.int .i64 e.i, .int .i64 e.t, .int .i64 e.k, .slice da e.dn dc] 48)) (fun _ => True) 4 (some ⟨W.heap.size, 0, none⟩) 1 1 [.int .i64 e.i, .int .i64 e.t, .int .i64 e.k, .slice da e.dn dc]) :=
          Lib.hid (RSl.ofBlk (heap_alloc_new W _) trivial (Nat.le_refl _) (by unfold maxLen; omega) rfl (fun j u hu => by simpa using hu))
        have Hcellq : Hid (∀ u ∈ [Value.int .i64 e.i, .int .i64 e.t, .int .i64 e.k, .slice da e.dn dc], u.oneCell' = true) := Lib.hid (by simp [Value.oneCell'])
        have HW := Lib.hid hW
        rw [hW] at c5 hownW Hbox
        rw [size_setCell] at Hbox
        have HownW := Lib.hid hownW
        clear hBW hC4 hg5 hr5 hownW hW Hr4
        go_wp2_with (at_builtin; refine wpList_append_sl _ rfl (.tmp 67) (.tmp 69) 34 rfl 0 48 i0 _ 4 48 Tryz.und34 hi hz0 hz1 hz2 rfl (by decide) (.slice a k cp) k _ rfl HownW.out (fun _ => True) (some ⟨w4.heap.size, 0, none⟩) 1 1 _ rfl Hbox.out Hcellq.out (by unfold maxLen; omega) (by omega) (by omega) (w4.heap.size + 1) (by simp) ?_; intro a2 c2 w5 hown5 hgrow hat)
        rw [← HW.out] at hgrow
        have hzW : W.heap.size = w4.heap.size := by rw [HW.out, size_setCell]
        rw [← hzW] at hat
        obtain ⟨p1, p2, p3⟩ := ent_round HB.out Hge.out hlv.out Hne.out HBW.out Hr5.out ((Below.refl _ W).alloc (Nat.le_refl _) _) hgrow hat
        have hentc : entCells ns ++ [Value.int .i64 e.i, .int .i64 e.t, .int .i64 e.k, .slice da e.dn dc] = entCells (ns ++ [{ e with da := da, dc := dc }]) := by simp [entCells, EntC.cells]
        rw [hentc] at hown5
        exact ⟨⟨k + 1, a2, c2, ns ++ [{ e with da := da, dc := dc }], by omega, by go_num, rfl, p1, hown5, p2, p3, by rw [htk.out, List.map_append, Hab.out]; rfl⟩, by simp [intOf]; omega⟩
      · obtain rfl : k = n := by omega
        have hF := Hab.out
        rw [← hent'.out] at hF
        have HF := Lib.hid hF
        have hlen : Hid (k = ns.length) := Lib.hid (by have := congrArg List.length Hab.out; simp at this; omega)
        obtain ⟨a', c', e1, hsl⟩ := RSl.ofOwns Hown.out
        cases e1
        have hsl' : RSl wr (fun x => w.heap.size ≤ x) 4 a k cp (entCells ns) := by
          obtain ⟨x1, x2, x3, x4, x5⟩ := hsl
          refine ⟨x1, x2, x3, x4, ?_⟩
          rcases x5 with x5 | ⟨b, off, rfl, hb, hq, hc⟩
          · exact .inl x5
          · exact .inr ⟨b, off, rfl, hb, Hge.out b (by simp [own, Value.ownBlock]), hc⟩
        have Hsl := Lib.hid hsl'
        clear hF hsl hsl'
        go_wp2_with fail
        go_ret
        exact ⟨⟨a, k, cp, ns⟩, rfl, hlen.out, Hsl.out, fun e he => (Hne.out e he).mono (fun _ _ hq => hq.1), HF.out, HB.out⟩
  · have hemp : Hid (L.ab.entries frm most = []) := Lib.hid (by
      rw [hent.out]
      by_cases hk : k0 < L.es.length
      · have : most = 0 := by omega
        rw [this]; rfl
      · rw [List.drop_of_length_le (by omega), List.take_nil]; rfl)
    have hfin : Hid (∃ s : SE, Ending.returned (Value.slice none 0 0) = .returned (.slice s.a s.n s.c) ∧ s.n = s.es.length ∧ RSl w1 (fun x => w.heap.size ≤ x) 4 s.a s.n s.c (entCells s.es) ∧
      (∀ e ∈ s.es, RBytes w1 (fun x => w.heap.size ≤ x) e.da e.dn e.dc e.d) ∧ s.es.map EntC.ab = L.ab.entries frm most ∧ Below w.heap.size w w1) :=
      Lib.hid ⟨SE.nil, rfl, rfl, RSl.nil _ _ _, by simp [SE.nil], by rw [hemp.out]; rfl, hb1⟩
    by_cases hz : L.es.length = 0
    · have q1 : ((L.es.length : Int) == 0) = true := by simp [hz]
      go_wp2_with fail
      go_ret
      exact hfin.out
    · have q1 : ((L.es.length : Int) == 0) = false := beq_eq_false_iff_ne.2 (by omega)
      by_cases hk : k0 < L.es.length
      · have q2 : decide (L.i + (L.es.length : Int) < L.i + 1 + (k0 : Int)) = false := by simp; omega
        obtain rfl : most = 0 := by omega
        go_wp2_with fail
        go_ret
        exact hfin.out
      · have q2 : decide (L.i + (L.es.length : Int) < L.i + 1 + (k0 : Int)) = true := by simp; omega
        go_wp2_with fail
        go_ret
        exact hfin.out
end Go.Proofs.YtjbnmamgfpnccaaGreat
