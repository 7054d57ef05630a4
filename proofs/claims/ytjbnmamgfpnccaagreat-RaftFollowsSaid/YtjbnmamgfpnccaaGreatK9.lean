/- sendTo, where no snapshot is to be sent. -/
import Derived.Test.YtjbnmamgfpnccaaGreatK8
import Derived.Test.YtjbnmamgfpnccaaGreatE1
namespace Go.Proofs.YtjbnmamgfpnccaaGreat
open Go Go.RowKit

/-- Peers and messages come behind. -/
def Told (c c' : CoreC) (L : LogC) (k : Nat) : Prop := ∃ qs oa on oc ms, c' = { c with ps := c.ps ++ qs, oa := oa, on := on, oc := oc, outs := c.outs ++ ms } ∧ (∀ q ∈ qs, q.next = L.last.1 ∧ q.mat = 0 ∧ q.off = 0) ∧ ms.length ≤ k
theorem Told.refl (c : CoreC) (L : LogC) : Told c c L 0 := ⟨[], c.oa, c.on, c.oc, [], by simp, by simp, by simp⟩
theorem Told.trans {c c' c'' : CoreC} {L : LogC} {k j : Nat} (h : Told c c' L k) (g : Told c' c'' L j) : Told c c'' L (k + j) := by
  obtain ⟨q1, o1, n1, d1, m1, rfl, a1, a2⟩ := h
  obtain ⟨q2, o2, n2, d2, m2, rfl, b1, b2⟩ := g
  refine ⟨q1 ++ q2, o2, n2, d2, m1 ++ m2, by simp, ?_, by simp; omega⟩
  intro q hq; simp at hq; rcases hq with hq | hq; exact a1 q hq; exact b1 q hq

def appMsg (m idx lt cm : Int) (es : SE) : MsgC := ⟨5, 0, m, 0, idx, lt, cm, false, es, 0, .nil, false, .nil, .nil⟩
theorem RMsg.app {w : World} {F : List Nat} {es : SE} (m idx lt cm : Int) (h : RE w F es) : RMsg w F (appMsg m idx lt cm es) :=
  ⟨h, ⟨rfl, RSl.nil _ _ _⟩, ⟨rfl, RSl.nil _ _ _⟩, ⟨rfl, RSl.nil _ _ _⟩⟩

set_option maxRecDepth 100000 in
set_option maxHeartbeats 2000000 in
theorem sendTo_any (F : List Nat) (b : Nat) (c : CoreC) (L : LogC) (m : Int) (mb : Nat) (w : World) (h : RCore w F b c L) (hF : ∀ x ∈ F, x < w.heap.size) (hmb : c.mb = some mb)
    (hnext : ∀ p ∈ c.ps, L.i < p.next ∧ p.next ≤ L.last.1 + 1) (hL : L.i < L.last.1) (hd : ∀ e ∈ L.es, e.dn ≤ 2048) (hfew : c.outs.length < 1000000) :
    Calls Tryz.prog 81 #[.pointer (some ⟨b, 0, none⟩), .int .i64 m] w fun e w' => e = .returned (.tuple #[]) ∧ ∃ F' c', RCore w' F' b c' L ∧ Told c c' L 1 ∧ Upd F F' w w' := by
  have hwf := LogC.wf_ab h.rest.log.wf
  have hi0 := hwf.i0
  have hi1 := hwf.i1
  have htop := hwf.top
  have hlast := hwf.last
  have HP := Lib.hid (peer_any F b c L m mb w h hmb)
  have Hnext := Lib.hid hnext
  have Hd := Lib.hid hd
  have HF := Lib.hid hF
  have HL := Lib.hid hL
  clear h hmb hnext hd hF hL
  go_enter Tryz.func81, Tryz.ntmps81
  go_wp2_with fail
  refine HP.out.mono ?_
  rintro e w1 ⟨p, rfl, _, F1, c1, hR1, hp1, hU1, hcc, _, _⟩
  have hnx : L.i < p.next ∧ p.next ≤ L.last.1 + 1 := by
    rcases hcc with rfl | ⟨rfl, h1, _⟩
    · exact Hnext.out p hp1
    · have := HL.out; omega
  have HT1 : Hid (Told c c1 L 0) := Lib.hid (by
    rcases hcc with rfl | ⟨rfl, h1, h2, h3, _⟩
    · exact Told.refl _ _
    · exact ⟨[p], c.oa, c.on, c.oc, [], by simp, by simp [h1, h2, h3], by simp⟩)
  have hol : Hid (c1.outs = c.outs) := Lib.hid (by rcases hcc with rfl | ⟨rfl, _⟩ <;> rfl)
  have hF1 := hU1.lt HF.out
  have HR1 := Lib.hid hR1
  have HU1 := Lib.hid hU1
  have HF1 := Lib.hid hF1
  have k3 : w1.cell? ⟨b, 3, none⟩ = some (.pointer (some ⟨c1.lb, 0, none⟩)) := by rw [cellsOf hR1.blk]; rfl
  have k4 : w1.cell? ⟨b, 4, none⟩ = some (.int .i64 c1.commit) := by rw [cellsOf hR1.blk]; rfl
  have kp : w1.cell? ⟨p.pb, 0, none⟩ = some (.int .i64 p.next) := by rw [cellsOf (hR1.rest.peers p hp1)]; rfl
  have Hp := Lib.hid hp1
  have hlb := ltOf hR1.blk
  have hlp := ltOf (hR1.rest.peers p hp1)
  have HB := Lib.hid (base_any c1.lb L w1 hR1.rest.log.log.blk)
  clear hcc hR1 hU1 hF1 hp1 HP Hnext HF
  go_wp2_with fail
  refine HB.out.mono ?_
  rintro e w2 ⟨rfl, hb2⟩
  have k3' : w2.cell? ⟨b, 3, none⟩ = some (.pointer (some ⟨c1.lb, 0, none⟩)) := (hb2.cell (p := ⟨b, 3, none⟩) hlb).trans k3
  have k4' : w2.cell? ⟨b, 4, none⟩ = some (.int .i64 c1.commit) := (hb2.cell (p := ⟨b, 4, none⟩) hlb).trans k4
  have kp' : w2.cell? ⟨p.pb, 0, none⟩ = some (.int .i64 p.next) := (hb2.cell (p := ⟨p.pb, 0, none⟩) hlp).trans kp
  have hz2 := hb2.size
  have HR2 := Lib.hid (HR1.out.below hb2)
  have HU2 := Lib.hid (HU1.out.trans (Upd.below hb2))
  have HF2 : Hid (∀ x ∈ F1, x < w2.heap.size) := Lib.hid (fun x hx => Nat.lt_of_lt_of_le (HF1.out x hx) hz2)
  have hlb2 : b < w2.heap.size := by omega
  have hlp2 : p.pb < w2.heap.size := by omega
  have hge : ¬ p.next ≤ L.i := by omega
  have hwp : IntKind.i64.wrap (p.next - 1) = p.next - 1 := IntWalk.i64_in _ (by omega)
  have HTm := Lib.hid (term_any c1.lb L (p.next - 1) w2.drew (HR2.out.below (Below.refl _ _).drew).rest.log.log hwf)
  generalize L.termAt (p.next - 1) = tt at *
  clear k3 k4 kp hb2 HB HR1 HU1 HF1 hlb hlp
  go_wp2_with fail
  go_region_held3 (fun W => W.cell? ⟨b, 3, none⟩ = some (.pointer (some ⟨c1.lb, 0, none⟩)) ∧ W.cell? ⟨p.pb, 0, none⟩ = some (.int .i64 p.next))
    (first | (exact ⟨k3', kp'⟩) | (exact ⟨(hb3.cell (p := ⟨b, 3, none⟩) hlb2).trans k3', (hb3.cell (p := ⟨p.pb, 0, none⟩) hlp2).trans kp'⟩))
    ((go_at_call 41; refine HTm.out.mono ?_; rintro e w3 ⟨rfl, hb3⟩))
  have hb23 : Below w2.heap.size w2 w3 := ((Below.refl w2.heap.size w2).drew).trans hb3
  have k3 : w3.cell? ⟨b, 3, none⟩ = some (.pointer (some ⟨c1.lb, 0, none⟩)) := (hb23.cell (p := ⟨b, 3, none⟩) hlb2).trans k3'
  have k4 : w3.cell? ⟨b, 4, none⟩ = some (.int .i64 c1.commit) := (hb23.cell (p := ⟨b, 4, none⟩) hlb2).trans k4'
  have kp : w3.cell? ⟨p.pb, 0, none⟩ = some (.int .i64 p.next) := (hb23.cell (p := ⟨p.pb, 0, none⟩) hlp2).trans kp'
  have hz3 := hb23.size
  have hlb3 : b < w3.heap.size := by omega
  have hlp3 : p.pb < w3.heap.size := by omega
  have HR3 := Lib.hid (HR2.out.below hb23)
  have HU3 := Lib.hid (HU2.out.trans (Upd.below hb23))
  have HF3 : Hid (∀ x ∈ F1, x < w3.heap.size) := Lib.hid (fun x hx => Nat.lt_of_lt_of_le (HF2.out x hx) hz3)
  have hdB : Below w3.heap.size w3 w3.drew := (Below.refl _ _).drew
  have HE := Lib.hid (entries_any (fun x => x ∉ F1) c1.lb L p.next 8 w3.drew (HR3.out.below hdB).rest.log.log hwf (fun e he => ⟨(HR3.out.below hdB).rest.log.d e he, Hd.out e he⟩) (by omega) (by omega) (by omega))
  clear k3' k4' kp' hb3 hb23 HTm HR2 HU2 HF2 hlb2 hlp2
  go_wp2_with fail
  go_region_held3 (fun W => W.cell? ⟨b, 3, none⟩ = some (.pointer (some ⟨c1.lb, 0, none⟩)) ∧ W.cell? ⟨b, 4, none⟩ = some (.int .i64 c1.commit) ∧ W.cell? ⟨p.pb, 0, none⟩ = some (.int .i64 p.next))
    (first | (exact ⟨k3, k4, kp⟩) | (exact ⟨g3, g4, gp⟩) | (exact ⟨(hb4.cell (p := ⟨b, 3, none⟩) hlb3).trans k3, (hb4.cell (p := ⟨b, 4, none⟩) hlb3).trans k4, (hb4.cell (p := ⟨p.pb, 0, none⟩) hlp3).trans kp⟩))
    ((first | (go_at_call 17; refine HE.out.mono ?_; rintro e w4 ⟨⟨sa, sn, sc, ses⟩, rfl, hs1, hs2, hs3, hs4, hb4⟩; dsimp only at hs1 hs2 hs3; subst hs1; have HS2 := Lib.hid hs2; have HS3 := Lib.hid hs3; clear hs2 hs3 hs4) | (go_at_call 36; have hb34 := hdB.trans hb4; refine (send_any F1 b c1 L (appMsg m (p.next - 1) (tt.getD 0) c1.commit ⟨sa, ses.length, sc, ses⟩) w4 (HR3.out.below hb34) (RMsg.app _ _ _ _ ⟨rfl, HS2.out.mono (fun x hx hq hf => by have := HF3.out x hf; have : w3.heap.size ≤ x := hq; omega), fun e he => (HS3.out e he).mono (fun x hx hq hf => by have := HF3.out x hf; have : w3.heap.size ≤ x := hq; omega)⟩) (by rw [hol.out]; exact hfew)).mono ?_; rintro e w5 ⟨rfl, F5, oa, on, oc, hR5, hU5⟩; have g3 : w5.cell? ⟨b, 3, none⟩ = some (.pointer (some ⟨c1.lb, 0, none⟩)) := (by rw [cellsOf hR5.blk]; rfl); have g4 : w5.cell? ⟨b, 4, none⟩ = some (.int .i64 c1.commit) := (by rw [cellsOf hR5.blk]; rfl); have gp : w5.cell? ⟨p.pb, 0, none⟩ = some (.int .i64 p.next) := (by rw [cellsOf (hR5.rest.peers p Hp.out)]; rfl))))
  have HR5 := Lib.hid hR5
  have HU5 := Lib.hid (HU3.out.trans ((Upd.below hb34).trans hU5))
  have HT5 : Hid (Told c1 { c1 with oa := oa, on := on, oc := oc, outs := c1.outs ++ [(appMsg m (p.next - 1) (tt.getD 0) c1.commit ⟨sa, ses.length, sc, ses⟩).sent c1] } L 1) := Lib.hid ⟨[], oa, on, oc, [_], by simp; rfl, by simp, by simp⟩
  clear hR5 hU5
  go_wp2
  go_end0
  exact ⟨rfl, F5, _, HR5.out, HT1.out.trans HT5.out, HU5.out⟩
end Go.Proofs.YtjbnmamgfpnccaaGreat
