/- A message of entries, at a follower of the statement; the statement's send. -/
import Derived.Test.YtjbnmamgfpnccaaGreatX4
import Derived.Test.YtjbnmamgfpnccaaGreatX3
namespace Go.Proofs.YtjbnmamgfpnccaaGreat
open Go Go.RowKit Go.Sort

structure Fol (C : Int) (E : List Ent) (p k : Nat) (c : CoreC) (L : LogC) : Prop where
  n : c.n = 2
  role : c.role ≠ 3
  term : c.term = 0 ∨ c.term = 3
  holds : Holds L E p
  c0 : 0 ≤ c.commit
  cC : c.commit ≤ C
  cp : c.commit ≤ p
  few : c.outs.length ≤ k
def entMsg (x : Nat) (C : Int) (s : SE) : MsgC := ⟨5, 1, 2, 3, x, termOf x, C, false, s, 0, .nil, false, .nil, .nil⟩
/-- What a message leaves. -/
def Fed (w w' : World) (F : List Nat) (b : Nat) (C : Int) (E : List Ent) (p k x len : Nat) : Prop :=
  ∃ F' c' L' p', RCore w' F' b c' L' ∧ Upd F F' w w' ∧ Fol C E p' (k + 1) c' L' ∧ c'.term = 3 ∧ c'.lead = 1 ∧ p ≤ p' ∧ (x ≤ p → x + len ≤ p' ∧ min C ((x + len : Nat) : Int) ≤ c'.commit)

theorem app71 (F : List Nat) (b : Nat) (c : CoreC) (L : LogC) (C : Int) (E : List Ent) (p k x n : Nat) (s : SE) (w : World) (h : RCore w F b c L) (hF : ∀ x ∈ F, x < w.heap.size) (hs : RE w F s) (hE : Lead E) (hab : s.es.map EntC.ab = carried E x n) (hx : x ≤ E.length)
    (hf : Fol C E p k c L) (ht : c.term = 3) (hk : k < 1000) (hC0 : 0 ≤ C) :
    Calls Tryz.prog 71 #[.pointer (some ⟨b, 0, none⟩), .agg (entMsg x C s).cells.toArray] w fun e w' => e = .returned (.tuple #[]) ∧ Fed w w' F b C E p k x s.es.length := by
  have hE20 := hE.1
  have hp := hf.holds.p
  have hlen := carried_len hab
  have hhas : L.has (x : Int) (termOf x) = decide (x ≤ p) := hf.holds.has hE
  have hkk : ∀ e ∈ s.es, e.k ≠ 2 := fun e he => by
    obtain ⟨j, hj⟩ := List.mem_iff_getElem?.1 he
    obtain ⟨_, h2⟩ := carried_get hab hj
    obtain ⟨_, _, e3, _⟩ := hE.2 _ _ h2
    have e3 : e.k = 1 := e3
    omega
  have hsn : s.n = s.es.length := hs.n
  by_cases hxp : x ≤ p
  · rw [show decide (x ≤ p) = true by simp [hxp]] at hhas
    rcases lacks_eq hf.holds hE hab hxp with ⟨h1, h2⟩ | ⟨h1, h2⟩
    · refine (appendNone_any F b c L (entMsg x C s) w h hF hs hf.role (by rw [hf.holds.i]; omega) (by rw [hf.holds.i]; show (0 : Int) ≤ (x : Int); omega) (show (x : Int) ≤ _ by omega) (show s.n ≤ _ by omega) (by have := hf.few; omega) hhas h2 hkk).mono ?_
      rintro e w' ⟨rfl, F', oa, on, oc, hR, hU⟩
      refine ⟨rfl, F', _, L, p, hR, hU, ⟨hf.n, by simp [CoreC.withOut, CoreC.heard], .inr ht, hf.holds, ?_, ?_, ?_, by have := hf.few; simp [CoreC.withOut, CoreC.heard]; omega⟩, ht, rfl, Nat.le_refl _, fun _ => ⟨by omega, ?_⟩⟩
      · show 0 ≤ max c.commit (min C ((x : Int) + (s.n : Int)))
        have := hf.c0; omega
      · show max c.commit (min C ((x : Int) + (s.n : Int))) ≤ C
        have := hf.cC; omega
      · show max c.commit (min C ((x : Int) + (s.n : Int))) ≤ p
        have := hf.cp; omega
      · show min C _ ≤ max c.commit (min C ((x : Int) + (s.n : Int)))
        omega
    · have hfo := follows hf.holds hE hab (fun e he => (hs.d e he).1) hxp
      obtain ⟨l1, _⟩ := hf.holds.last hE
      refine (appendSome_any F b c L (entMsg x C s) (p - x) w h hF hs hf.role (by rw [hf.holds.i]; omega) (by rw [hf.holds.i]; show (0 : Int) ≤ (x : Int); omega) (show (x : Int) ≤ _ by omega) (show s.n ≤ _ by omega) (by have := hf.few; omega) hhas h2 h1 hfo (by rw [l1]; exact hf.cp)
        (by rw [l1, List.length_drop]; show (p : Int) + ((s.es.length - (p - x) : Nat) : Int) ≤ _; omega) (by rw [hf.holds.len, List.length_drop]; show p + (s.es.length - (p - x)) < _; omega) hkk).mono ?_
      rintro e w' ⟨rfl, F', ev, ns, d, oa, on, oc, hns, hR, hU⟩
      refine ⟨rfl, F', _, _, x + s.es.length, hR, hU, ⟨hf.n, by simp [CoreC.withOut, CoreC.heard], .inr ht, holds_more hf.holds hab hxp h1 hns, ?_, ?_, ?_, by have := hf.few; simp [CoreC.withOut, CoreC.heard]; omega⟩, ht, rfl, by omega, fun _ => ⟨Nat.le_refl _, ?_⟩⟩
      · show 0 ≤ max c.commit (min C ((x : Int) + (s.n : Int)))
        have := hf.c0; omega
      · show max c.commit (min C ((x : Int) + (s.n : Int))) ≤ C
        have := hf.cC; omega
      · show max c.commit (min C ((x : Int) + (s.n : Int))) ≤ ((x + s.es.length : Nat) : Int)
        have := hf.cp; omega
      · show min C _ ≤ max c.commit (min C ((x : Int) + (s.n : Int)))
        omega
  · rw [show decide (x ≤ p) = false by simp; omega] at hhas
    refine (appendGap_any F b c L (entMsg x C s) w h hF hs hf.role (by rw [hf.holds.i]; omega) (by rw [hf.holds.i]; show (0 : Int) ≤ (x : Int); omega) (show (x : Int) ≤ _ by omega) (show s.n ≤ _ by omega) (by have := hf.few; omega) hhas).mono ?_
    rintro e w' ⟨rfl, F', oa, on, oc, hR, hU⟩
    exact ⟨rfl, F', _, L, p, hR, hU, ⟨hf.n, by simp [CoreC.withOut, CoreC.heard], .inr ht, hf.holds, hf.c0, hf.cC, hf.cp, by have := hf.few; simp [CoreC.withOut, CoreC.heard]; omega⟩, ht, rfl, Nat.le_refl _, fun hh => absurd hh hxp⟩

theorem entMsg_ok {E : List Ent} {x n : Nat} {C : Int} {s : SE} (hE : Lead E) (hab : s.es.map EntC.ab = carried E x n) (hn : s.n = s.es.length) (hd : ∀ e ∈ s.es, e.dn = e.d.length) (h8 : n ≤ 8) (hx : x ≤ E.length) (hC0 : 0 ≤ C) (hC1 : C ≤ 31) : MsgOk (entMsg x C s) := by
  have hE20 := hE.1
  have ht : termOf x ≤ 3 ∧ 0 ≤ termOf x := by unfold termOf; split <;> omega
  exact ⟨by simp [entMsg], by simp [entMsg], by simp [entMsg], by simp [entMsg], by simp [entMsg], by simp [entMsg], by simp [entMsg], by simp [entMsg], by simp [entMsg], by simp [entMsg], by simp [entMsg]; omega, by simp [entMsg],
    by simp [entMsg]; omega, by simp [entMsg]; omega, by simp [entMsg], by simp [entMsg]; omega, by simp [entMsg]; omega, by simp [entMsg], by simp [entMsg], esOk hE hab hn hd h8 rfl rfl ht.1, by simp [entMsg], rfl, rfl, rfl, rfl, rfl⟩

theorem stepApp (F : List Nat) (b : Nat) (c : CoreC) (L : LogC) (C : Int) (E : List Ent) (p k x n : Nat) (s : SE) (w : World) (h : RCore w F b c L) (hF : ∀ x ∈ F, x < w.heap.size) (hs : RE w F s) (hE : Lead E) (hab : s.es.map EntC.ab = carried E x n) (hx : x ≤ E.length)
    (hf : Fol C E p k c L) (hk : k < 1000) (hC0 : 0 ≤ C) (hC1 : C ≤ 31) (h8 : n ≤ 8) :
    Calls Tryz.prog 9 #[.pointer (some ⟨b, 0, none⟩), .agg (entMsg x C s).cells.toArray] w fun e w' => e = .returned (.tuple #[]) ∧ Fed w w' F b C E p k x s.es.length := by
  have hok := entMsg_ok hE hab hs.n (fun e he => (hs.d e he).1) h8 hx hC0 hC1
  rcases hf.term with ht | ht
  · refine stepNew_any F b c L (entMsg x C s) w h hs hok rfl hf.n.symm (show c.term < 3 by omega) _ (fun w1 h1 hU1 => ?_)
    have hf1 : Fol C E p k (c.followed 3) L := ⟨hf.n, by simp [CoreC.followed], .inr rfl, hf.holds, hf.c0, hf.cC, hf.cp, hf.few⟩
    refine (app71 F b (c.followed 3) L C E p k x n s w1 h1 (hU1.lt hF) (hs.upd hU1) hE hab hx hf1 rfl hk hC0).mono ?_
    rintro e w' ⟨rfl, F', c', L', p', hR, hU, r⟩
    exact ⟨rfl, F', c', L', p', hR, hU1.trans hU, r⟩
  · refine stepSame_any F b c L (entMsg x C s) w h hs hok rfl hf.n.symm ht.symm _ (fun w1 h1 hU1 => ?_)
    refine (app71 F b c L C E p k x n s w1 h1 (hU1.lt hF) (hs.upd hU1) hE hab hx hf ht hk hC0).mono ?_
    rintro e w' ⟨rfl, F', c', L', p', hR, hU, r⟩
    exact ⟨rfl, F', c', L', p', hR, hU1.trans hU, r⟩

set_option maxRecDepth 100000 in
set_option maxHeartbeats 2000000 in
/-- The statement's send. -/
theorem send15_any (F : List Nat) (b : Nat) (c : CoreC) (L : LogC) (lbl : Nat) (M : LogC) (Q : Nat → Prop) (cm : Int) (E : List Ent) (p k x n : Nat) (w : World) (h : RCore w F b c L) (hF : ∀ x ∈ F, x < w.heap.size) (hE : Lead E)
    (hf : Fol (bits .and .i64 cm 31) E p k c L) (hk : k < 1000) (hl : RLog w lbl M) (hM : Holds M E E.length) (hMw : M.ab.Wf) (hMd : ∀ e ∈ M.es, RBytes w Q e.da e.dn e.dc e.d ∧ e.dn ≤ 2048) (h1 : 1 ≤ n) (h8 : n ≤ 8) (hx : x ≤ 1000) :
    Calls Tryz.prog 15 #[.pointer (some ⟨b, 0, none⟩), .pointer (some ⟨lbl, 0, none⟩), .int .i64 (x : Int), .int .i64 (n : Int), .int .i64 cm] w fun e w' => e = .returned (.tuple #[]) ∧
      ((E.length < x ∧ Below w.heap.size w w') ∨ (x ≤ E.length ∧ Fed w w' F b (bits .and .i64 cm 31) E p k x (min n (E.length - x)))) := by
  obtain ⟨b0, b31⟩ := band31 cm
  have HT := Lib.hid (term_any lbl M x w hl (LogC.wf_ab hMw))
  rw [hM.termAt hE] at HT
  by_cases hxm : x ≤ E.length
  · rw [if_pos hxm] at HT
    have hw1 : IntKind.i64.wrap ((x : Int) + 1) = (x : Int) + 1 := IntWalk.i64_in _ (by omega)
    have HEn := Lib.hid (fun (w1 : World) (hb : Below w.heap.size w w1) => entries_any Q lbl M ((x : Int) + 1) n w1 (hl.below hb) (LogC.wf_ab hMw) (fun e he => ⟨(hMd e he).1.below hb, (hMd e he).2⟩) (by omega) (by omega) (by omega))
    have hent : M.ab.entries ((x : Int) + 1) n = carried E x n := by
      have hes : M.ab.es = E := by
        show M.es.map EntC.ab = E
        rw [hM.es, List.take_length]
      have hi : M.ab.i = 0 := hM.i
      unfold Log.entries carried
      rw [hes, hi, show (max ((x : Int) + 1) (0 + 1) - 0 - 1).toNat = x by omega]
    have Hent := Lib.hid hent
    have HR := Lib.hid h
    have HF := Lib.hid hF
    have HE := Lib.hid hE
    have Hf := Lib.hid hf
    clear h hF hE hf hl hM hMw hMd hent
    go_enter Tryz.func15, Tryz.ntmps15
    go_wp2_with fail
    refine HT.out.mono ?_
    rintro e w1 ⟨rfl, hb1⟩
    have HEn1 := Lib.hid (HEn.out w1 hb1)
    have HB1 := Lib.hid hb1
    clear hb1 HT HEn
    go_wp2_with fail
    refine HEn1.out.mono ?_
    rintro e w2 ⟨s, rfl, hsn, hsl, hsd, hsab, hb2⟩
    have hz1 := HB1.out.size
    have hb12 := HB1.out.trans (hb2.mono hz1)
    have hq : ∀ y, y < w2.heap.size → w1.heap.size ≤ y → y ∉ F := fun y _ hy hyF => by have := HF.out y hyF; omega
    have hre : RE w2 F s := ⟨hsn, hsl.mono hq, fun e he => (hsd e he).mono hq⟩
    have hF2 : ∀ y ∈ F, y < w2.heap.size := fun y hy => Nat.lt_of_lt_of_le (HF.out y hy) hb12.size
    have HS := Lib.hid (stepApp F b c L _ E p k x n s w2 (HR.out.below hb12) hF2 hre HE.out (hsab.trans Hent.out) hxm Hf.out hk b0 b31 h8)
    have Hlen := Lib.hid (carried_len (hsab.trans Hent.out))
    have HB2 := Lib.hid hb12
    unfold entMsg MsgC.cells SI.nil at HS
    dsimp only at HS
    clear hsn hsl hsd hsab hb2 hb12 hq hre hF2 HEn1 b0 b31
    go_wp2_with fail
    refine HS.out.mono ?_
    rintro e w3 ⟨rfl, F', c', L', p', hR, hU, r⟩
    go_wp2_with fail
    go_end0
    refine ⟨rfl, .inr ⟨hxm, F', c', L', p', hR, (Upd.below HB2.out).trans hU, ?_⟩⟩
    rw [← Hlen.out]
    exact r
  · rw [if_neg hxm] at HT
    clear h hF hE hf hl hM hMw hMd
    go_enter Tryz.func15, Tryz.ntmps15
    go_wp2_with fail
    refine HT.out.mono ?_
    rintro e w1 ⟨rfl, hb1⟩
    go_wp2_with fail
    go_end0
    exact ⟨rfl, .inl ⟨by omega, hb1⟩⟩
end Go.Proofs.YtjbnmamgfpnccaaGreat
