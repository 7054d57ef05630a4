/- reckon. -/
import Derived.Test.YtjbnmamgfpnccaaGreatK7
namespace Go.Proofs.YtjbnmamgfpnccaaGreat
open Go Go.RowKit

def rises (c : CoreC) (L : LogC) (to : Int) : Bool := decide (c.commit < to) && L.has to c.term
def midOf (c : CoreC) (L : LogC) : Int := middle (L.vs.map (matchOf c L))
def CoreC.reckoned (c : CoreC) (L : LogC) (to : Int) : CoreC := if rises c L to then { c with commit := to } else c

set_option maxRecDepth 100000 in
set_option maxHeartbeats 2000000 in
theorem reckon_any (F : List Nat) (b : Nat) (c : CoreC) (L : LogC) (mb : Nat) (w : World) (h : RCore w F b c L) (hF : ∀ x ∈ F, x < w.heap.size) (hmb : c.mb = some mb) (hk : ∀ e ∈ L.es, e.k ≠ 2) (h0 : 0 < L.vn) (h1 : L.vn ≤ 1000) (h2 : L.ln ≤ 1000) :
    Calls Tryz.prog 55 #[.pointer (some ⟨b, 0, none⟩)] w fun e w' => e = .returned (.bool (rises c L (midOf c L))) ∧ ∃ F' c', RCore w' F' b (c'.reckoned L (midOf c L)) L ∧ PsExt c c' L ∧ Upd F F' w w' := by
  obtain ⟨W, hW⟩ : ∃ W, W = w.alloc (.cells #[.pointer (some ⟨b, 0, none⟩)] 27) := ⟨_, rfl⟩
  have hbW : Below w.heap.size w W := by rw [hW]; exact (Below.refl _ _).alloc (Nat.le_refl _) _
  have hB1 : W.heap[w.heap.size]? = some (.cells #[.pointer (some ⟨b, 0, none⟩)] 27 (0, 0)) := by rw [hW, heap_alloc, if_pos rfl]
  have hzW : W.heap.size = w.heap.size + 1 := by rw [hW, size_alloc]
  have kb := cellsOf hB1
  have kb0 : W.cell? ⟨w.heap.size, 0, none⟩ = some (.pointer (some ⟨b, 0, none⟩)) := by rw [kb]; rfl
  have HR := Lib.hid (h.below hbW)
  have HBW := Lib.hid hbW
  have HB1 := Lib.hid hB1
  have Hmb := Lib.hid hmb
  have HC := Lib.hid (cconf_any F b c L W (h.below hbW) hk h1 h2)
  clear h hmb hbW hB1 kb
  go_enter Tryz.func55, Tryz.ntmps55
  go_wp2_with fail
  rw [← hW]
  clear hW
  refine HC.out.mono ?_
  rintro e w1 ⟨va, vc, la, lc, rfl, hr1, hr2, hb1⟩
  have hz1 := hb1.size
  have HR1 := Lib.hid (HR.out.below hb1)
  have kb1 : w1.cell? ⟨w.heap.size, 0, none⟩ = some (.pointer (some ⟨b, 0, none⟩)) := (hb1.cell (p := ⟨w.heap.size, 0, none⟩) (by show w.heap.size < W.heap.size; omega)).trans kb0
  have HM := Lib.hid (middle_any (fun x => W.heap.size ≤ x) F b w.heap.size c L mb va la L.vn vc L.ln lc L.vs w1 HR1.out (fun x hx => by have := hF x hx; omega) Hmb.out kb1 (fun hx => by have := hF _ hx; omega) hr1 (fun x _ hq hx => by have := hF x hx; omega) h0 h1)
  have HB01 := Lib.hid (HBW.out.trans (hb1.mono (by omega : w.heap.size ≤ W.heap.size)))
  have HX1 := Lib.hid ((hb1.block _ (by omega)).trans HB1.out)
  have Hto : Hid (midOf c L = middle (L.vs.map (matchOf c L))) := Lib.hid rfl
  rw [← Hto.out] at HM
  obtain ⟨to, hto'⟩ : ∃ to, midOf c L = to := ⟨_, rfl⟩
  rw [hto'] at HM
  have Hto2 := Lib.hid hto'
  clear hto'
  clear HC hr1 hr2 hb1 kb0 HR HB1
  go_wp2_with fail
  refine HM.out.mono ?_
  rintro e w2 ⟨rfl, F2, c2, hR2, hE2, hU2⟩
  have hX2 := hU2.chg.get HX1.out (fun hx => by have := hF _ hx; omega)
  have hlx2 : w.heap.size < w2.heap.size := ltOf hX2
  have kx := cellsOf hX2
  have hc2 := cellsOf hR2.blk
  unfold CoreC.cells at hc2
  have k1 : w2.cell? ⟨b, 1, none⟩ = some (.int .i64 c2.term) := by rw [hc2]; rfl
  have k3 : w2.cell? ⟨b, 3, none⟩ = some (.pointer (some ⟨c2.lb, 0, none⟩)) := by rw [hc2]; rfl
  have k4 : w2.cell? ⟨b, 4, none⟩ = some (.int .i64 c2.commit) := by rw [hc2]; rfl
  have kx0 : w2.cell? ⟨w.heap.size, 0, none⟩ = some (.pointer (some ⟨b, 0, none⟩)) := by rw [kx]; rfl
  have hfb := freeOf hR2.blk
  have HH := Lib.hid (fun W (hb : Below w2.heap.size w2 W) => has_any c2.lb L to c2.term W (hR2.below hb).rest.log.log (LogC.wf_ab hR2.rest.log.wf))
  have hsame : Hid (c2.commit = c.commit ∧ c2.term = c.term) := Lib.hid (by obtain ⟨qs, e1, _⟩ := hE2; rw [e1]; exact ⟨rfl, rfl⟩)
  have hrise : Hid (rises c L to = (decide (c2.commit < to) && L.has to c2.term)) := Lib.hid (by unfold rises; rw [hsame.out.1, hsame.out.2])
  have hrise2 : Hid (rises c2 L to = (decide (c2.commit < to) && L.has to c2.term)) := Lib.hid rfl
  have hlb2 := ltOf hR2.blk
  have HR2 := Lib.hid hR2
  have HE2 := Lib.hid hE2
  have HU2 := Lib.hid ((Upd.below HB01.out).trans hU2)
  clear hR2 hE2 hU2 hX2 hc2 kx HM HX1 HB01 HR1 Hto HBW
  by_cases hto : to ≤ c2.commit
  · have hf : Hid (rises c L to = false) := Lib.hid (by rw [hrise.out]; simp; omega)
    have hf2 : Hid (rises c2 L to = false) := Lib.hid (by rw [hrise2.out]; simp; omega)
    go_wp2_with fail
    go_quiet (fail)
    go_wp2
    go_ret
    exact ⟨by rw [Hto2.out, hf.out]; rfl, F2, c2, by unfold CoreC.reckoned; rw [Hto2.out, hf2.out]; exact HR2.out.below ((Chg.drewN (Chg.refl [] _) _).below), HE2.out, HU2.out.trans (Upd.below ((Chg.drewN (Chg.refl [] _) _).below))⟩
  · have hHd := Lib.hid (HH.out w2.drew (Below.refl _ _).drew)
    go_wp2_with fail
    have hlt' : c2.commit < to := by omega
    have hd : decide (to ≤ c2.commit) = false := by simp; omega
    clear hto
    go_region_held3 (fun W => W.cell? ⟨w.heap.size, 0, none⟩ = some (.pointer (some ⟨b, 0, none⟩)) ∧ W.cell? ⟨b, 1, none⟩ = some (.int .i64 c2.term) ∧ W.cell? ⟨b, 3, none⟩ = some (.pointer (some ⟨c2.lb, 0, none⟩)) ∧ W.cell? ⟨b, 4, none⟩ = some (.int .i64 c2.commit))
      (first | (exact ⟨kx0, k1, k3, k4⟩) | (exact ⟨(hb3.cell (p := ⟨w.heap.size, 0, none⟩) hlx2).trans kx0, (hb3.cell (p := ⟨b, 1, none⟩) hlb2).trans k1, (hb3.cell (p := ⟨b, 3, none⟩) hlb2).trans k3, (hb3.cell (p := ⟨b, 4, none⟩) hlb2).trans k4⟩))
      ((go_at_call 31; refine hHd.out.mono ?_; rintro e w3 ⟨rfl, hb3⟩))
    have hb23 : Below w2.heap.size w2 w3 := ((Below.refl w2.heap.size w2).drew).trans hb3
    have HR3 := Lib.hid (HR2.out.below hb23)
    have HU3 := Lib.hid (HU2.out.trans (Upd.below hb23))
    have k4' : w3.cell? ⟨b, 4, none⟩ = some (.int .i64 c2.commit) := (hb23.cell (p := ⟨b, 4, none⟩) hlb2).trans k4
    have kx3 : w3.cell? ⟨w.heap.size, 0, none⟩ = some (.pointer (some ⟨b, 0, none⟩)) := (hb23.cell (p := ⟨w.heap.size, 0, none⟩) hlx2).trans kx0
    have hf3 : w3.frozen? ⟨b, 4, none⟩ = false := freeOf HR3.out.blk 4
    clear hb3 hb23 HH hHd k1 k3 k4 kx0 hfb kb1
    cases hh : L.has to c2.term with
    | false =>
      have hf : Hid (rises c L to = false) := Lib.hid (by rw [hrise.out, hh]; simp)
      have hf2 : Hid (rises c2 L to = false) := Lib.hid (by rw [hrise2.out, hh]; simp)
      go_wp2
      go_ret
      exact ⟨by rw [Hto2.out, hf.out]; rfl, F2, c2, by unfold CoreC.reckoned; rw [Hto2.out, hf2.out]; exact HR3.out, HE2.out, HU3.out⟩
    | true =>
      have hf : Hid (rises c L to = true) := Lib.hid (by rw [hrise.out, hh]; simp; omega)
      have hf2 : Hid (rises c2 L to = true) := Lib.hid (by rw [hrise2.out, hh]; simp; omega)
      obtain ⟨W4, hW4⟩ : ∃ W4, W4 = w3.setCell ⟨b, 4, none⟩ (.int .i64 to) := ⟨_, rfl⟩
      have hC4 : Chg [b] w3 W4 := by rw [hW4]; exact (Chg.refl _ _).setCell (by simp) _
      have hR4 : RCore W4 F2 b { c2 with commit := to } L := HR3.out.nums hC4 c2.n c2.term c2.vote to c2.role c2.lead c2.quiet c2.dirty c2.whole (by rw [hW4, heap_set HR3.out.blk]; rfl)
      have HR4 := Lib.hid hR4
      have HC4 := Lib.hid hC4
      have HbF := Lib.hid HR3.out.bF
      clear hR4 hC4
      go_wp2_with fail
      rw [← hW4]
      go_wp2
      go_ret
      exact ⟨by rw [Hto2.out, hf.out]; rfl, F2, c2, by unfold CoreC.reckoned; rw [Hto2.out, hf2.out]; exact HR4.out, HE2.out, HU3.out.trans (Upd.of HC4.out (by simpa using HbF.out))⟩
end Go.Proofs.YtjbnmamgfpnccaaGreat
