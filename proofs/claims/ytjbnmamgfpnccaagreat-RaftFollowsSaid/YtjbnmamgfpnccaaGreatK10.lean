/- sendAll. -/
import Derived.Test.YtjbnmamgfpnccaaGreatK9
import Derived.Test.YtjbnmamgfpnccaaGreatK4
namespace Go.Proofs.YtjbnmamgfpnccaaGreat
open Go Go.RowKit

theorem Told.outs {c c' : CoreC} {L : LogC} {k : Nat} (h : Told c c' L k) : c'.outs.length ≤ c.outs.length + k ∧ c'.mb = c.mb := by
  obtain ⟨qs, oa, on, oc, ms, rfl, _, h2⟩ := h
  simp; omega
theorem Told.next {c c' : CoreC} {L : LogC} {k : Nat} (h : Told c c' L k) (hn : ∀ p ∈ c.ps, L.i < p.next ∧ p.next ≤ L.last.1 + 1) (hL : L.i < L.last.1) : ∀ p ∈ c'.ps, L.i < p.next ∧ p.next ≤ L.last.1 + 1 := by
  obtain ⟨qs, oa, on, oc, ms, rfl, h1, _⟩ := h
  intro p hp
  simp at hp
  rcases hp with hp | hp
  · exact hn p hp
  · have := (h1 p hp).1; omega

set_option maxRecDepth 100000 in
set_option maxHeartbeats 2000000 in
theorem sendAll_any (F : List Nat) (b : Nat) (c : CoreC) (L : LogC) (mb : Nat) (w : World) (h : RCore w F b c L) (hF : ∀ x ∈ F, x < w.heap.size) (hmb : c.mb = some mb)
    (hk : ∀ e ∈ L.es, e.k ≠ 2) (h0 : 0 < L.vn) (h1 : L.vn ≤ 1000) (h2 : L.ln ≤ 1000)
    (hnext : ∀ p ∈ c.ps, L.i < p.next ∧ p.next ≤ L.last.1 + 1) (hL : L.i < L.last.1) (hd : ∀ e ∈ L.es, e.dn ≤ 2048) (hfew : c.outs.length ≤ 900000) :
    Calls Tryz.prog 46 #[.pointer (some ⟨b, 0, none⟩)] w fun e w' => e = .returned (.tuple #[]) ∧ ∃ F' c', RCore w' F' b c' L ∧ Told c c' L 2000 ∧ Upd F F' w w' := by
  have hlt := ltOf h.blk
  have hlen := others_length L.vs L.ls c.n
  have hvn := h.rest.log.v.1
  have hln := h.rest.log.l.1
  have hlen2 : (others L.vs L.ls c.n).length ≤ 2000 := by omega
  have k0 : w.cell? ⟨b, 0, none⟩ = some (.int .i64 c.n) := by rw [cellsOf h.blk]; rfl
  have hdB : Below w.heap.size w w.drew := (Below.refl _ _).drew
  have HC := Lib.hid (cconf_any F b c L w.drew (h.below hdB) hk h1 h2)
  have H := Lib.hid h
  have Hnext := Lib.hid hnext
  have Hd := Lib.hid hd
  have HF := Lib.hid hF
  have Hmb := Lib.hid hmb
  have Hk := Lib.hid hk
  clear h hnext hd hmb hlen hvn hln hk
  go_enter Tryz.func46, Tryz.ntmps46
  go_wp2_with fail
  go_region_held3 (fun W => W.cell? ⟨b, 0, none⟩ = some (.int .i64 c.n))
    (first | (exact k0) | (exact (hb1.cell (p := ⟨b, 0, none⟩) hlt).trans k0) | (exact (hb2.cell (p := ⟨b, 0, none⟩) (by show b < _; omega)).trans ((hb1.cell (p := ⟨b, 0, none⟩) hlt).trans k0)))
    ((first | (go_at_call 49; refine HC.out.mono ?_; rintro e w1 ⟨va, vc, la, lc, rfl, hr1, hr2, hb1⟩; have hs1 := hb1.size; simp only [size_drew] at hs1) | (go_at_call 80; refine (others_any (fun x => w.heap.size ≤ x) va la L.vn vc L.ln lc L.vs L.ls c.n _ hr1 hr2 h0 h1 h2).mono ?_; rintro e w2 ⟨a, cc, rfl, hxs, hb2⟩)))
  have hb02 : Below w.heap.size w w2 := (hdB.trans hb1).trans (hb2.mono hs1)
  have hz2 := hb02.size
  have hq1 := hs1
  generalize others L.vs L.ls c.n = xs at *
  have HXs := Lib.hid hxs
  have HR2 := Lib.hid (H.out.below hb02)
  have HB02 := Lib.hid hb02
  clear hxs hb1 hb2 hr1 hr2 hb02 HC H k0 hdB
  go_wp2_with fail
  go_loopw [12] (fun i wr => ∃ (k : Nat) (F' : List Nat) (c' : CoreC), k ≤ xs.length ∧ i = .int .i64 k ∧ RCore wr F' b c' L ∧ Told c c' L k ∧ Upd F F' w2 wr)
    (fun i _ => xs.length - (intOf i).toNat)
  case atStart => exact ⟨0, F, c, Nat.zero_le _, rfl, HR2.out, Told.refl _ _, Upd.refl _ _⟩
  case round =>
    obtain ⟨k, F', c', hk1, rfl, hR, hT, hU⟩ := hrel
    have HR := Lib.hid hR
    have HT := Lib.hid hT
    have HU := Lib.hid hU
    clear hR hT hU
    by_cases hkl : k < xs.length
    · obtain ⟨bx, off, rfl, hbx, hQx, hcx⟩ : ∃ bx off, a = some ⟨bx, off, none⟩ ∧ bx < w2.heap.size ∧ w1.heap.size ≤ bx ∧ ∀ j, j < xs.length → w2.cell? ⟨bx, off + j, none⟩ = some (.int .i64 (xs.getD j 0)) := by
        rcases HXs.out.cells with ⟨_, he⟩ | ⟨bx, off, h1, h2, h3, _, h5⟩
        · rw [he] at hkl; simp at hkl
        · exact ⟨bx, off, h1, h2, h3, h5⟩
      have hck := (HU.out.chg.cell (p := ⟨bx, off + k, none⟩) hbx (fun hx => by have := HF.out bx hx; omega)).trans (hcx k hkl)
      rw [show xs.getD k 0 = xs[k] by simp [hkl]] at hck
      have hout := HT.out.outs
      have HS := Lib.hid (sendTo_any F' b c' L xs[k] mb wr HR.out (HU.out.lt (fun x hx => Nat.lt_of_lt_of_le (HF.out x hx) hz2)) (by rw [hout.2]; exact Hmb.out) (HT.out.next Hnext.out hL) hL Hd.out (by omega))
      clear hcx hout
      go_wp2_with fail
      refine HS.out.mono ?_
      rintro e w3 ⟨rfl, F3, c3, hR3, hT3, hU3⟩
      have HR3 := Lib.hid hR3
      have HT3 := Lib.hid (HT.out.trans hT3)
      have HU3 := Lib.hid (HU.out.trans hU3)
      clear hR3 hT3 hU3 HS
      go_wp2_with fail
      go_roundw
      case rel => exact ⟨k + 1, F3, c3, by omega, by go_num, HR3.out, HT3.out, HU3.out⟩
      case measure => simp [intOf]; omega
    · go_wp2_with fail
      go_end0
      exact ⟨rfl, F', c', HR.out, by
        obtain ⟨qs, oa, on, oc, ms, e1, e2, e3⟩ := HT.out
        exact ⟨qs, oa, on, oc, ms, e1, e2, by omega⟩, (Upd.below HB02.out).trans HU.out⟩
end Go.Proofs.YtjbnmamgfpnccaaGreat
