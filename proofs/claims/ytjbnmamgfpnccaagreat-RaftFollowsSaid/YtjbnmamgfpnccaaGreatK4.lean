/- A member asks the other voters: poll. -/
import Derived.Test.YtjbnmamgfpnccaaGreatK3
namespace Go.Proofs.YtjbnmamgfpnccaaGreat
open Go Go.RowKit

def askMsg (kind m term idx lt : Int) : MsgC := ⟨kind, 0, m, term, idx, lt, 0, false, .nil, 0, .nil, false, .nil, .nil⟩
theorem RMsg.ask (w : World) (F : List Nat) (kind m term idx lt : Int) : RMsg w F (askMsg kind m term idx lt) :=
  ⟨⟨rfl, RSl.nil _ _ _, by simp [askMsg, SE.nil]⟩, ⟨rfl, RSl.nil _ _ _⟩, ⟨rfl, RSl.nil _ _ _⟩, ⟨rfl, RSl.nil _ _ _⟩⟩
/-- Whom a member asks. -/
def asked (vs ls : List Int) (n : Int) : List Int := (others vs ls n).filter fun m => hasI vs m
theorem others_length (vs ls : List Int) (n : Int) : (others vs ls n).length ≤ vs.length + ls.length := by
  unfold others
  refine Nat.le_trans (List.length_filter_le _ _) (Nat.le_trans (Lib.compact_length_le _) ?_)
  rw [sorted_length]; simp

def CoreC.withOut (c : CoreC) (oa : Option Addr) (on oc : Nat) (ms : List MsgC) : CoreC := { c with oa := oa, on := on, oc := oc, outs := c.outs ++ ms }
theorem withOut_nil (c : CoreC) : c.withOut c.oa c.on c.oc [] = c := by simp [CoreC.withOut]
theorem withOut_snoc (c : CoreC) (oa oa' : Option Addr) (on oc on' oc' : Nat) (ms : List MsgC) (m : MsgC) : ({ c.withOut oa on oc ms with oa := oa', on := on', oc := oc', outs := (c.withOut oa on oc ms).outs ++ [m] } : CoreC) = c.withOut oa' on' oc' (ms ++ [m]) := by simp [CoreC.withOut]
theorem upd_notin {F F' : List Nat} {w0 w w' : World} (_h : Upd F F' w w') (hF : ∀ x ∈ F, x < w0.heap.size) : ∀ x, x < w.heap.size → w0.heap.size ≤ x → x ∉ F := fun x _ h2 hx => by have := hF x hx; omega

set_option maxRecDepth 100000 in
set_option maxHeartbeats 2000000 in
theorem poll_any (F : List Nat) (b : Nat) (c : CoreC) (L : LogC) (kind term : Int) (w : World) (h : RCore w F b c L) (hF : ∀ x ∈ F, x < w.heap.size) (hk : ∀ e ∈ L.es, e.k ≠ 2) (h0 : 0 < L.vn) (h1 : L.vn ≤ 1000) (h2 : L.ln ≤ 1000) (hfew : c.outs.length ≤ 900000) :
    Calls Tryz.prog 85 #[.pointer (some ⟨b, 0, none⟩), .int .i64 kind, .int .i64 term] w fun e w' => e = .returned (.tuple #[]) ∧
      ∃ F' oa on oc, RCore w' F' b (c.withOut oa on oc ((asked L.vs L.ls c.n).map fun m => (askMsg kind m term L.last.1 L.last.2).sent c)) L ∧ Upd F F' w w' := by
  have hc := cellsOf h.blk
  unfold CoreC.cells at hc
  have hlt := ltOf h.blk
  have hlen := others_length L.vs L.ls c.n
  have hvn := h.rest.log.v.1
  have hln := h.rest.log.l.1
  have hlen2 : (others L.vs L.ls c.n).length ≤ 2000 := by omega
  have HL := Lib.hid (last_any c.lb L w h.rest.log.log)
  generalize hp : L.last = p at HL ⊢
  obtain ⟨i0, t0⟩ := p
  dsimp only at HL ⊢
  clear hp hvn hln hlen
  have H := Lib.hid h
  clear h
  go_enter Tryz.func85, Tryz.ntmps85
  go_wp2_with fail
  refine HL.out.mono ?_
  rintro e w1 ⟨rfl, hb1⟩
  have hz1 := hb1.size
  clear HL
  have HC := Lib.hid (cconf_any F b c L w1 (H.out.below hb1) hk h1 h2)
  go_wp2_with fail
  refine HC.out.mono ?_
  rintro e w2 ⟨va, vc, la, lc, rfl, hr1, hr2, hb2⟩
  have hz2 := hb2.size
  clear HC
  have hb02 : Below w.heap.size w w2 := hb1.trans (hb2.mono hz1)
  go_wp2_with fail
  obtain ⟨W, hW⟩ : ∃ W, W = w2.alloc (.cells #[.slice va L.vn vc, .slice la L.ln lc] 26) := ⟨_, rfl⟩
  rw [← hW]
  have hbW : Below w2.heap.size w2 W := by rw [hW]; exact (Below.refl _ _).alloc (Nat.le_refl _) _
  have hB1 : W.heap[w2.heap.size]? = some (.cells #[.slice va L.vn vc, .slice la L.ln lc] 26 (0, 0)) := by rw [hW, heap_alloc, if_pos rfl]
  have hzW : W.heap.size = w2.heap.size + 1 := by rw [hW, size_alloc]
  have HR := Lib.hid (H.out.below (hb02.trans (hbW.mono hb02.size)))
  have hr1' := hr1.below hbW
  have hr2' := hr2.below hbW
  clear hW
  have hdB : Below W.heap.size W W.drew := (Below.refl _ _).drew
  have HO := Lib.hid (others_any (fun x => w1.heap.size ≤ x) va la L.vn vc L.ln lc L.vs L.ls c.n W.drew (hr1'.below hdB) (hr2'.below hdB) h0 h1 h2)
  have k0 : W.cell? ⟨b, 0, none⟩ = some (.int .i64 c.n) := by rw [cellsOf HR.out.blk]; rfl
  have kb := cellsOf hB1
  go_region_held3 (fun w' => w'.cell? ⟨b, 0, none⟩ = some (.int .i64 c.n) ∧ (∀ i, w'.cell? ⟨w2.heap.size, i, none⟩ = #[Value.slice va L.vn vc, .slice la L.ln lc][i]?))
    (first | (exact ⟨k0, kb⟩) | (exact ⟨(hb3.cell (p := ⟨b, 0, none⟩) (by show b < W.heap.size; omega)).trans k0, keepCells hb3 (by show _ < W.heap.size; omega) kb⟩))
    ((go_at_call 80; refine HO.out.mono ?_; rintro e w3 ⟨a, cc, rfl, hxs, hb3⟩))
  have hasked : Hid (asked L.vs L.ls c.n = (others L.vs L.ls c.n).filter fun m => hasI L.vs m) := Lib.hid rfl
  generalize others L.vs L.ls c.n = xs at *
  have hz3 := hb3.size
  have hb23 : Below W.heap.size W w3 := hdB.trans hb3
  have HR3 := Lib.hid (HR.out.below hb23)
  have hbox3 := (hb23.block _ (by omega)).trans hB1
  have hv3 := hr1'.below hb23
  have hbig : w.heap.size ≤ w3.heap.size := by have : W.heap.size ≤ w3.heap.size := hb23.size; omega
  have hb03 : Below w.heap.size w w3 := (hb02.trans (hbW.mono hb02.size)).trans (hb23.mono (by omega))
  have hzz : W.heap.size ≤ w3.heap.size := hb23.size
  have HXs := Lib.hid hxs
  have HV3 := Lib.hid hv3
  have HBox := Lib.hid hbox3
  clear hxs hv3 hbox3 hr1' hr2' hr1 hr2 hdB HO k0 kb hB1 HR hb3 hb23 hbW
  go_wp2_with fail
  go_loopw [10, 28] (fun m i wr => ∃ (k : Nat) (F' : List Nat) (oa : Option Addr) (on oc : Nat), k ≤ xs.length ∧ i = .int .i64 k ∧
      RCore wr F' b (c.withOut oa on oc (((xs.take k).filter fun m => hasI L.vs m).map fun m => (askMsg kind m term i0 t0).sent c)) L ∧ Upd F F' w3 wr)
    (fun _ i _ => xs.length - (intOf i).toNat)
  case atStart => exact ⟨0, F, c.oa, c.on, c.oc, Nat.zero_le _, rfl, by simpa [withOut_nil] using HR3.out, Upd.refl _ _⟩
  case round =>
    obtain ⟨k, F', oa, on, oc, hk1, rfl, hR, hU⟩ := hrel
    have HRk := Lib.hid hR
    have HUk := Lib.hid hU
    clear hR hU
    by_cases hkl : k < xs.length
    · have hgd : xs.getD k 0 = xs[k] := by simp [hkl]
      have hstep := Lib.hid (filter_take (fun m => hasI L.vs m) xs k hkl)
      obtain ⟨bx, off, rfl, hbx, hQx, hcx⟩ : ∃ bx off, a = some ⟨bx, off, none⟩ ∧ bx < w3.heap.size ∧ W.drew.heap.size ≤ bx ∧ ∀ j, j < xs.length → w3.cell? ⟨bx, off + j, none⟩ = some (.int .i64 (xs.getD j 0)) := by
        rcases HXs.out.cells with ⟨_, he⟩ | ⟨bx, off, h1, h2, h3, _, h5⟩
        · rw [he] at hkl; simp at hkl
        · exact ⟨bx, off, h1, h2, h3, h5⟩
      have hQx' : W.heap.size ≤ bx := hQx
      have hck := (HUk.out.chg.cell (p := ⟨bx, off + k, none⟩) hbx (fun hx => by have := hF bx hx; omega)).trans (hcx k hkl)
      rw [hgd] at hck
      have hbk := cellsOf (HUk.out.chg.get HBox.out (fun hx => by have := hF _ hx; omega))
      have hvk := HV3.out.chg HUk.out.chg (fun y hy hq hx => by have := hF y hx; omega)
      have hle := filter_take_le (fun m => hasI L.vs m) xs k
      have HVo := Lib.hid (voter_any (fun x => w1.heap.size ≤ x) va la L.vn vc L.ln lc L.vs xs[k] wr hvk (by omega))
      have hck' := Lib.hid hck
      clear hcx hgd hQx hvk
      cases hx : hasI L.vs xs[k] with
      | true =>
        have Hx := Lib.hid hx
        rw [hx] at HVo
        clear hx
        go_wp2_with fail
        refine HVo.out.mono ?_
        rintro e w4 ⟨rfl, hb4⟩
        have hR4 := HRk.out.below hb4
        have hS := Lib.hid (send_any F' b _ L (askMsg kind xs[k] term i0 t0) w4 hR4 (RMsg.ask _ _ _ _ _ _ _) (by simp [CoreC.withOut]; omega))
        go_wp2_with fail
        refine hS.out.mono ?_
        rintro e w5 ⟨rfl, F5, oa5, on5, oc5, hR5, hU5⟩
        have hfin : RCore w5 F5 b (c.withOut oa5 on5 oc5 (((xs.take (k + 1)).filter fun m => hasI L.vs m).map fun m => (askMsg kind m term i0 t0).sent c)) L := by
          rw [withOut_snoc] at hR5
          rw [hstep.out, Hx.out, if_pos rfl, List.map_append]
          exact hR5
        have Hfin := Lib.hid hfin
        have HU5 := Lib.hid (HUk.out.trans ((Upd.below hb4).trans hU5))
        clear hR5 hU5 hR4 hb4 hS hfin
        go_wp2_with fail
        go_roundw
        case rel => exact ⟨k + 1, F5, oa5, on5, oc5, by omega, by go_num, Hfin.out, HU5.out⟩
        case measure => simp [intOf]; omega
      | false =>
        have Hx := Lib.hid hx
        rw [hx] at HVo
        clear hx
        go_wp2_with fail
        refine HVo.out.mono ?_
        rintro e w4 ⟨rfl, hb4⟩
        have hfin : RCore w4 F' b (c.withOut oa on oc (((xs.take (k + 1)).filter fun m => hasI L.vs m).map fun m => (askMsg kind m term i0 t0).sent c)) L := by
          rw [hstep.out, Hx.out]; simpa using HRk.out.below hb4
        have Hfin := Lib.hid hfin
        have HU5 := Lib.hid (HUk.out.trans (Upd.below hb4))
        clear hb4 hfin
        go_wp2_with fail
        go_roundw
        case rel => exact ⟨k + 1, F', oa, on, oc, by omega, by go_num, Hfin.out, HU5.out⟩
        case measure => simp [intOf]; omega
    · have hfull : xs.take k = xs := List.take_of_length_le (by omega)
      have hfin : RCore wr F' b (c.withOut oa on oc ((asked L.vs L.ls c.n).map fun m => (askMsg kind m term i0 t0).sent c)) L := by
        rw [hasked.out, ← hfull]; rw [hfull]; have := HRk.out; rw [hfull] at this; exact this
      have Hfin := Lib.hid hfin
      clear hfull hfin
      go_wp2_with fail
      go_end0
      exact ⟨rfl, F', oa, on, oc, Hfin.out, (Upd.below hb03).trans HUk.out⟩
end Go.Proofs.YtjbnmamgfpnccaaGreat
