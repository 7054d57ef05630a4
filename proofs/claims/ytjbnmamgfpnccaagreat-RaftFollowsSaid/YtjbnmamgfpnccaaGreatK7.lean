/- What a leader reckons: match, Middle, reckon. -/
import Derived.Test.YtjbnmamgfpnccaaGreatP
namespace Go.Proofs.YtjbnmamgfpnccaaGreat
open Go Go.RowKit

/-- Peers come behind, as they are made. -/
def PsExt (c c' : CoreC) (L : LogC) : Prop := ∃ qs : List PeerC, c' = { c with ps := c.ps ++ qs } ∧ (∀ q ∈ qs, q.next = L.last.1 ∧ q.mat = 0 ∧ q.off = 0) ∧ ∀ q ∈ qs, ∀ p ∈ c.ps, p.m ≠ q.m
def matOf (ps : List PeerC) (m : Int) : Int := match ps.find? (fun p => p.m == m) with | some p => p.mat | none => 0
def matchOf (c : CoreC) (L : LogC) (m : Int) : Int := if m = c.n then L.last.1 else matOf c.ps m
theorem PsExt.refl (c : CoreC) (L : LogC) : PsExt c c L := ⟨[], by simp, by simp, by simp⟩
theorem PsExt.trans {c c' c'' : CoreC} {L : LogC} (h : PsExt c c' L) (k : PsExt c' c'' L) : PsExt c c'' L := by
  obtain ⟨q1, rfl, a1, a2⟩ := h
  obtain ⟨q2, rfl, b1, b2⟩ := k
  refine ⟨q1 ++ q2, by simp, ?_, ?_⟩
  · intro q hq; simp at hq; rcases hq with hq | hq; exact a1 q hq; exact b1 q hq
  · intro q hq p hp; simp at hq; rcases hq with hq | hq; exact a2 q hq p hp; exact b2 q hq p (by simp [hp])
theorem matOf_append (ps qs : List PeerC) (m : Int) (h : ∀ q ∈ qs, q.mat = 0) : matOf (ps ++ qs) m = matOf ps m := by
  unfold matOf
  rw [List.find?_append]
  cases hf : ps.find? (fun p => p.m == m) with
  | some p => simp
  | none =>
    simp only [Option.none_or]
    cases hg : qs.find? (fun p => p.m == m) with
    | none => rfl
    | some q => simp [h q (List.mem_of_find?_eq_some hg)]
theorem PsExt.matchOf {c c' : CoreC} {L : LogC} (h : PsExt c c' L) (m : Int) : matchOf c' L m = YtjbnmamgfpnccaaGreat.matchOf c L m := by
  obtain ⟨qs, rfl, a1, _⟩ := h
  unfold YtjbnmamgfpnccaaGreat.matchOf
  simp only
  rw [matOf_append _ _ _ (fun q hq => (a1 q hq).2.1)]
theorem matOf_mem {ps : List PeerC} {p : PeerC} (hn : (ps.map (·.m)).Nodup) (hp : p ∈ ps) : matOf ps p.m = p.mat := by
  unfold matOf
  induction ps with
  | nil => simp at hp
  | cons q ps ih =>
    simp only [List.map_cons, List.nodup_cons] at hn
    by_cases hm : q.m = p.m
    · simp only [List.find?_cons, hm, beq_self_eq_true]
      simp only [List.mem_cons] at hp
      rcases hp with rfl | hp
      · rfl
      · exact absurd (List.mem_map.2 ⟨p, hp, hm.symm⟩) hn.1
    · simp only [List.find?_cons, show (q.m == p.m) = false by simp [hm]]
      simp only [List.mem_cons] at hp
      rcases hp with rfl | hp
      · exact absurd rfl hm
      · exact ih hn.2 hp

set_option maxRecDepth 100000 in
set_option maxHeartbeats 1000000 in
theorem at_any (F : List Nat) (b bx : Nat) (c : CoreC) (L : LogC) (m : Int) (mb : Nat) (w : World) (h : RCore w F b c L) (hmb : c.mb = some mb) (hbx : w.cell? ⟨bx, 0, none⟩ = some (.pointer (some ⟨b, 0, none⟩))) :
    Calls Tryz.prog 89 #[.int .i64 m, .pointer (some ⟨bx, 0, none⟩)] w fun e w' => e = .returned (.int .i64 (matchOf c L m)) ∧ ∃ F' c', RCore w' F' b c' L ∧ PsExt c c' L ∧ Upd F F' w w' ∧ (∀ x ∈ foot c' L, x ∈ foot c L ∨ w.heap.size ≤ x) ∧ Chg (b :: foot c L) w w' := by
  have hc := cellsOf h.blk
  have k0 : w.cell? ⟨b, 0, none⟩ = some (.int .i64 c.n) := by rw [hc]; rfl
  have H := Lib.hid h
  have hb0 := World.block_lt_of_cell? w _ hbx
  by_cases hm : m = c.n
  · have hq : (m == c.n) = true := by simp [hm]
    have hr : Hid (matchOf c L m = L.last.1) := Lib.hid (by simp [matchOf, hm])
    have HL := Lib.hid (clast_any F b c L w h)
    generalize L.last.1 = li at *
    clear h hm hc
    go_enter Tryz.func89, Tryz.ntmps89
    go_wp2_with (go_at_call 86; refine HL.out.mono ?_; rintro e w1 ⟨rfl, hb1⟩)
    go_ret
    exact ⟨by rw [hr.out]; rfl, F, c, H.out.below hb1, PsExt.refl _ _, Upd.below hb1, fun x hx => .inl hx, Chg.ofBelow hb1⟩
  · have hq : (m == c.n) = false := by simp [hm]
    have hr : Hid (matchOf c L m = matOf c.ps m) := Lib.hid (by simp [matchOf, hm])
    have HP := Lib.hid (peer_any F b c L m mb w h hmb)
    clear h hm hc
    go_enter Tryz.func89, Tryz.ntmps89
    go_wp2_with fail
    refine HP.out.mono ?_
    rintro e w1 ⟨p, rfl, hpm, F', c', hR, hp, hU, hcc, hgr, hch⟩
    have HCh := Lib.hid hch
    have HG := Lib.hid hgr
    have hpk := cellsOf (hR.rest.peers p hp)
    have hmat := Lib.hid (matOf_mem hR.rest.nod hp)
    have hext : PsExt c c' L := by
      rcases hcc with rfl | ⟨rfl, h1, h2, h3, h4⟩
      · exact PsExt.refl _ _
      · exact ⟨[p], rfl, by simp [h1, h2, h3], by intro q hq q2 hq2; simp at hq; subst hq; rw [hpm]; exact h4 q2 hq2⟩
    have hfin : Hid (matchOf c L m = p.mat) := Lib.hid (by
      rw [hr.out]
      obtain ⟨qs, e1, e2, _⟩ := hext
      rw [← hmat.out, hpm, e1]
      exact (matOf_append _ _ _ (fun q hq => (e2 q hq).2.1)).symm)
    have HR := Lib.hid hR
    have HU := Lib.hid hU
    have HE := Lib.hid hext
    clear hR hU hext hcc hp hpm hmat HP hgr hch
    go_wp2
    go_ret
    exact ⟨by rw [hfin.out]; rfl, F', c', HR.out, HE.out, HU.out, HG.out, HCh.out⟩

/-- A row of the call's own grows beside a member. -/
theorem RCore.beside {w w1 w2 : World} {F : List Nat} {b : Nat} {c : CoreC} {L : LogC} {v v' : Value} (h : RCore w F b c L) (hb : Below w.heap.size w w1) (hg : w1.grownBy w2 v.ownBlock) (hv : ∀ x ∈ own v, x ∈ F ∧ x ∉ b :: foot c L)
    (hv' : ∀ x ∈ own v', x ∈ own v ∨ w.heap.size ≤ x) (hl : ∀ x ∈ own v', x < w2.heap.size) : RCore w2 (own v' ++ F) b c L ∧ Upd F (own v' ++ F) w w2 ∧ (∀ x ∈ own v', x ∈ own v' ++ F ∧ x ∉ b :: foot c L) := by
  have hE : Ext w F (own v' ++ F) := Ext.add (fun g hg' => by
    rcases hv' g hg' with h1 | h1
    · exact .inl (hv g h1).1
    · exact .inr h1)
  have hC : Chg (own v) w w2 := (Chg.ofBelow hb).grown hg (fun k hk => .inl (by simp [mem_own, hk]))
  refine ⟨(h.ext hE).chg hC (fun x hx => hE.sub x (hv x hx).1) (fun x hx => (hv x hx).2), ⟨hE, hC.mono (fun x hx => (hv x hx).1), fun hF x hx => ?_⟩, fun x hx => ⟨by simp [hx], ?_⟩⟩
  · simp only [List.mem_append] at hx
    rcases hx with hx | hx
    · exact hl x hx
    · exact hC.lt (hF x hx)
  · rcases hv' x hx with h1 | h1
    · exact (hv x h1).2
    · intro hy
      simp only [List.mem_cons] at hy
      rcases hy with rfl | hy
      · have := ltOf h.blk; omega
      · have := h.rest.lt x hy; omega

def middle (xs : List Int) : Int := (sorted xs).getD ((xs.length - 1) / 2) 0
theorem Tryz.info2 : (Tryz.prog.info? 2).map (fun i => (i.zero, i.size, i.bytes)) = some (some (.int .i64 0), 1, 8) := by kernel_rfl
theorem Tryz.und157 : Tryz.prog.underlying 157 = some (.slice 2) := by kernel_rfl

theorem holds_own2 {w : World} {base n c g : Nat} {xs : List Int} (h : w.ownsRow base 2 1 (.slice (some ⟨g, 0, none⟩) n c) n (xs.map (Value.int .i64))) : HoldsI w g xs := fun j hj => by
  have hj' : j < xs.length := by simpa using hj
  have hn : xs.length = n := by have := h.1; simpa using this
  refine ⟨?_, ?_⟩
  · rw [Nat.zero_add, h.cellAt j (by omega)]; simp [hj']
  · rw [Nat.zero_add]; exact h.frozenAt j

set_option maxRecDepth 100000 in
set_option maxHeartbeats 2000000 in
theorem middle_any (Q : Nat → Prop) (F : List Nat) (b bx : Nat) (c : CoreC) (L : LogC) (mb : Nat) (va la : Option Addr) (vn vc ln lc : Nat) (vs : List Int) (w : World) (h : RCore w F b c L) (hF : ∀ x ∈ F, x < w.heap.size) (hmb : c.mb = some mb)
    (hbx : w.cell? ⟨bx, 0, none⟩ = some (.pointer (some ⟨b, 0, none⟩))) (hbn : bx ∉ F) (hv : RInts w Q va vn vc vs) (hQ : ∀ x, x < w.heap.size → Q x → x ∉ F) (h0 : 0 < vn) (h1 : vn ≤ 1000) :
    Calls Tryz.prog 88 #[.agg #[.slice va vn vc, .slice la ln lc], .func (.func 89) #[] #[.pointer (some ⟨bx, 0, none⟩)]] w fun e w' => e = .returned (.int .i64 (middle (vs.map (matchOf c L)))) ∧ ∃ F' c', RCore w' F' b c' L ∧ PsExt c c' L ∧ Upd F F' w w' := by
  obtain ⟨i0, hi, hz0, hz1, hz2⟩ := info_parts Tryz.info2
  obtain ⟨W, hW⟩ : ∃ W, W = w.alloc (.cells #[.slice va vn vc, .slice la ln lc] 26) := ⟨_, rfl⟩
  have hbW : Below w.heap.size w W := by rw [hW]; exact (Below.refl _ _).alloc (Nat.le_refl _) _
  have hlx := World.block_lt_of_cell? w _ hbx
  have hlx' : bx < w.heap.size := hlx
  have HbW := Lib.hid hbW
  have HbxW := Lib.hid ((hbW.cell (p := ⟨bx, 0, none⟩) hlx').trans hbx)
  have HRW := Lib.hid (h.below hbW)
  have Hv := Lib.hid hv
  obtain rfl := hv.1
  have hlw := hbW.size
  have Hmb := Lib.hid hmb
  clear h hv hbx hmb hbW hlx
  go_enter Tryz.func88, Tryz.ntmps88
  go_wp2_with fail
  rw [← hW]
  clear hW
  go_loopw [5, 7, 11] (fun ns v i wr => ∃ (k : Nat) (a : Option Addr) (cp : Nat) (F' : List Nat) (c' : CoreC), k ≤ vs.length ∧ i = .int .i64 k ∧ ns = .slice a k cp ∧
      wr.ownsRow 0 2 1 (.slice a k cp) k (((vs.take k).map (matchOf c L)).map (Value.int .i64)) ∧ RCore wr F' b c' L ∧ PsExt c c' L ∧ Upd F F' W wr ∧ (∀ x ∈ own (.slice a k cp), x ∈ F' ∧ x ∉ b :: foot c' L))
    (fun _ _ i _ => vs.length - (intOf i).toNat)
  case atStart => exact ⟨0, none, 0, F, c, Nat.zero_le _, rfl, rfl, by simpa using World.ownsRow_nil W 0 2 1, HRW.out, PsExt.refl _ _, Upd.refl _ _, by simp [own, Value.ownBlock]⟩
  case round =>
    obtain ⟨k, a, cp, F', c', hk1, rfl, rfl, hown, hR, hE, hU, hO⟩ := hrel
    have Hown := Lib.hid hown
    have HR := Lib.hid hR
    have HE := Lib.hid hE
    have HU := Lib.hid hU
    have HO := Lib.hid hO
    clear hown hR hE hU hO
    by_cases hkl : k < vs.length
    · obtain ⟨bv, off, rfl, hbv, hQv, hcv⟩ : ∃ bv off, va = some ⟨bv, off, none⟩ ∧ bv < w.heap.size ∧ Q bv ∧ ∀ j, j < vs.length → w.cell? ⟨bv, off + j, none⟩ = some (.int .i64 (vs.getD j 0)) := by
        rcases Hv.out.cells with ⟨_, he⟩ | ⟨bv, off, h1, h2, h3, _, h5⟩
        · rw [he] at hkl; simp at hkl
        · exact ⟨bv, off, h1, h2, h3, h5⟩
      have hck := (HU.out.chg.cell (p := ⟨bv, off + k, none⟩) (Nat.lt_of_lt_of_le hbv hlw) (hQ bv hbv hQv)).trans ((HbW.out.cell (p := ⟨bv, off + k, none⟩) hbv).trans (hcv k hkl))
      rw [show vs.getD k 0 = vs[k] by simp [hkl]] at hck
      have hbk := (HU.out.chg.cell (p := ⟨bx, 0, none⟩) (Nat.lt_of_lt_of_le hlx' hlw) hbn).trans HbxW.out
      have hFk := HU.out.lt (fun x hx => Nat.lt_of_lt_of_le (hF x hx) hlw)
      have hmb' : c'.mb = some mb := by obtain ⟨qs, e1, _⟩ := HE.out; rw [e1]; exact Hmb.out
      have HA := at_any F' b bx c' L vs[k] mb wr HR.out hmb' hbk
      rw [HE.out.matchOf] at HA
      have HA' := Lib.hid HA
      have htk : Hid ((vs.take (k + 1)).map (matchOf c L) = (vs.take k).map (matchOf c L) ++ [matchOf c L vs[k]]) := Lib.hid (by rw [List.take_succ_eq_append_getElem hkl, List.map_append]; rfl)
      generalize matchOf c L vs[k] = z at *
      clear HA hcv hmb' hbk
      have HFk := Lib.hid hFk
      clear hFk
      go_wp2_with fail
      refine HA'.out.mono ?_
      rintro e w4 ⟨rfl, F4, c4, hR4, hE4, hU4, hG4, hC4⟩
      have hown4 := hC4.owns Hown.out (fun x hx hy => (HO.out x (mem_own.2 hx)).2 hy)
      have hO4 : ∀ x ∈ own (.slice a k cp), x ∈ F4 ∧ x ∉ b :: foot c4 L := fun x hx => ⟨hU4.ext.sub x (HO.out x hx).1, fun hy => by
        simp only [List.mem_cons] at hy
        have h2 := (HO.out x hx).2
        simp only [List.mem_cons, not_or] at h2
        rcases hy with rfl | hy
        · exact h2.1 rfl
        · rcases hG4 x hy with h3 | h3
          · exact h2.2 h3
          · have := own_lt Hown.out x hx; omega⟩
      have HO4 := Lib.hid hO4
      have HR4 := Lib.hid hR4
      have HE4 := Lib.hid (HE.out.trans hE4)
      have HU4 := Lib.hid (HU.out.trans hU4)
      have hF4 := Lib.hid (hU4.lt HFk.out)
      have Hown4 := Lib.hid (hown4.alloc (.cells #[.int .i64 z] 2))
      have Hbox : Hid (RSl (w4.alloc (.cells #[.int .i64 z] 2)) (fun _ => True) 1 (some ⟨w4.heap.size, 0, none⟩) 1 1 [.int .i64 z]) := Lib.hid (RSl.ofBlk (heap_alloc_new w4 _) trivial (Nat.le_refl _) (by unfold maxLen; omega) rfl (fun j u hu => by simpa using hu))
      have Hone : Hid (∀ u ∈ [Value.int .i64 z], u.oneCell' = true) := Lib.hid (by simp [Value.oneCell'])
      clear hown4 hO4 hR4 hE4 hU4 hG4 hC4 HA' hck
      go_wp2_with (at_builtin; refine wpList_append_sl _ rfl (.tmp 15) (.tmp 19) 157 rfl 0 2 i0 (.int .i64 0) 1 8 Tryz.und157 hi hz0 hz1 hz2 rfl (by decide) (.slice a k cp) k _ rfl Hown4.out (fun _ => True) (some ⟨w4.heap.size, 0, none⟩) 1 1 [.int .i64 z] rfl Hbox.out Hone.out (by unfold maxLen; omega) (by omega) (by simp) (w4.heap.size + 1) (by simp) ?_; intro a2 c2 w5 hown5 hgrow hat)
      obtain ⟨r1, r2, r3⟩ := HR4.out.beside (v' := .slice a2 (k + 1) c2) ((Below.refl w4.heap.size w4).alloc (Nat.le_refl _) _) hgrow HO4.out (fun x hx => by
        rw [mem_own] at hx ⊢
        rcases hat with h1 | h1
        · exact .inl (by rw [← h1]; exact hx)
        · rw [h1] at hx; cases hx; exact .inr (by omega)) (own_lt hown5)
      have hfin : ((vs.take k).map (matchOf c L)).map (Value.int .i64) ++ [Value.int .i64 z] = ((vs.take (k + 1)).map (matchOf c L)).map (Value.int .i64) := by rw [htk.out]; simp
      rw [hfin] at hown5
      exact ⟨⟨k + 1, a2, c2, _, c4, by omega, by go_num, rfl, hown5, r1, HE4.out, HU4.out.trans r2, r3⟩, by simp [intOf]; omega⟩
    · have hkk : k = vs.length := by omega
      subst hkk
      have hown' := Hown.out
      rw [List.take_length] at hown'
      obtain ⟨g, cc, hv2, _, hglt⟩ := hown'.form h0
      cases hv2
      have hH := Lib.hid (holds_own2 hown')
      have hcl := (RSl.ofOwns hown')
      obtain ⟨_, _, hq, hcl⟩ := hcl
      cases hq
      have hlen : Hid ((vs.map (matchOf c L)).length = vs.length) := Lib.hid (by simp)
      have hne : ((vs.length : Int) == 0) = false := beq_eq_false_iff_ne.2 (by omega)
      have hO := HO.out g (by simp [own, Value.ownBlock])
      have HOO := Lib.hid hO
      clear hown' hcl hO
      go_wp2_with fail
      refine (sort64 g _ cp _ _ hlen.out hH.out hglt (by rw [hlen.out]; omega)).mono ?_
      rintro e w6 ⟨rfl, hH6, hC6⟩
      have hpos : (vs.length - 1) / 2 < vs.length := by omega
      have hsl : (sorted (vs.map (matchOf c L))).length = vs.length := (sorted_length _).trans hlen.out
      have hj : w6.cell? ⟨g, (vs.length - 1) / 2, none⟩ = some (.int .i64 (middle (vs.map (matchOf c L)))) := by
        have h6 := (hH6 ((vs.length - 1) / 2) (by simp [hsl]; omega)).1
        rw [Nat.zero_add] at h6
        rw [h6]
        unfold middle
        rw [hlen.out, List.getD_eq_getElem?_getD, List.getElem?_eq_getElem (by omega)]
        simp [show (vs.length - 1) / 2 < (sorted (vs.map (matchOf c L))).length by omega]
      have HH6 := Lib.hid hH6
      have hgC := HOO.out
      have HC6 := Lib.hid hC6
      have hR6 : RCore w6 F' b c' L := HR.out.chg hC6 (fun x hx => by simp at hx; rw [hx]; exact hgC.1) (fun x hx => by simp at hx; rw [hx]; exact hgC.2)
      have hU6 : Upd F' F' wr w6 := Upd.of hC6 (fun x hx => by simp at hx; rw [hx]; exact hgC.1)
      have HR6 := Lib.hid hR6
      have HU6 := Lib.hid (((Upd.below HbW.out).trans HU.out).trans hU6)
      have a1 : IntKind.i64.wrap ((vs.length : Int) - 1) = ((vs.length - 1 : Nat) : Int) := by rw [IntWalk.i64_in _ (by omega)]; omega
      have a2 : IntKind.i64.wrap ((((vs.length - 1 : Nat) : Int)).tdiv 2) = (((vs.length - 1) / 2 : Nat) : Int) := by
        rw [IntWalk.i64_quo _ _ (by omega)]; omega
      obtain ⟨z, hz⟩ : ∃ z, z = middle (vs.map (matchOf c L)) := ⟨_, rfl⟩
      rw [← hz] at hj
      have Hz := Lib.hid hz
      clear hz
      generalize hq : (vs.length - 1) / 2 = q at *
      generalize vs.length - 1 = y at *
      clear hsl hH6 hC6 hR6 hU6 hgC
      go_wp2_with fail
      go_ret
      exact ⟨by rw [← Hz.out]; rfl, F', c', HR6.out, HE.out, HU6.out⟩
end Go.Proofs.YtjbnmamgfpnccaaGreat
