/- last, full, add. -/
import Derived.Test.YtjbnmamgfpnccaaGreatK5
namespace Go.Proofs.YtjbnmamgfpnccaaGreat
open Go Go.RowKit

theorem clast_any (F : List Nat) (b : Nat) (c : CoreC) (L : LogC) (w : World) (h : RCore w F b c L) :
    Calls Tryz.prog 86 #[.pointer (some ⟨b, 0, none⟩)] w fun e w' => e = .returned (.int .i64 L.last.1) ∧ Below w.heap.size w w' := by
  have hc := cellsOf h.blk
  unfold CoreC.cells at hc
  have HL := Lib.hid (last_any c.lb L w h.rest.log.log)
  generalize L.last = p at HL ⊢
  obtain ⟨i0, t0⟩ := p
  dsimp only at HL ⊢
  clear h
  go_enter Tryz.func86, Tryz.ntmps86
  go_wp2_with (go_at_call 13; refine HL.out.mono ?_; rintro e w1 ⟨rfl, hb1⟩)
  go_ret
  exact ⟨rfl, hb1⟩

theorem full_any (F : List Nat) (b : Nat) (c : CoreC) (L : LogC) (w : World) (h : RCore w F b c L) :
    Calls Tryz.prog 53 #[.pointer (some ⟨b, 0, none⟩)] w fun e w' => e = .returned (.bool (L.last.1 == 1099511627776)) ∧ Below w.heap.size w w' := by
  have HL := Lib.hid (clast_any F b c L w h)
  generalize L.last.1 = i0 at HL ⊢
  clear h
  go_enter Tryz.func53, Tryz.ntmps53
  go_wp2_with (go_at_call 86; refine HL.out.mono ?_; rintro e w1 ⟨rfl, hb1⟩)
  go_ret
  exact ⟨rfl, hb1⟩

theorem LogC.ab_snoc (L : LogC) (ev : Value) (e : EntC) : ({ L with ev := ev, es := L.es ++ [e] } : LogC).ab = { L.ab with es := L.ab.es ++ [e.ab] } := by simp [LogC.ab]
theorem wf_snoc {L : Log} (h : L.Wf) {e : Ent} (hi : e.i = L.last.1 + 1) (hm : L.last.1 < maxNum) (hf : L.es.length + 1 < 1000000) : ({ L with es := L.es ++ [e] } : Log).Wf := by
  have hl := h.last
  refine ⟨h.i0, h.i1, fun j x hx => ?_, ?_, by simpa using hf⟩
  · simp only at hx ⊢
    rcases Nat.lt_or_ge j L.es.length with hj | hj
    · rw [List.getElem?_append_left hj] at hx; exact h.next j x hx
    · rw [List.getElem?_append_right hj] at hx
      have : j = L.es.length := by
        rcases Nat.lt_or_ge (j - L.es.length) 1 with h1 | h1
        · omega
        · simp [List.getElem?_eq_none (l := [e]) (by simpa using h1)] at hx
      subst this; simp at hx; subst hx; omega
  · simp; omega

set_option maxRecDepth 100000 in
set_option maxHeartbeats 2000000 in
theorem add_any (F : List Nat) (b : Nat) (c : CoreC) (L : LogC) (kind : Int) (da : Option Addr) (dn dc : Nat) (d : List Int) (w : World) (h : RCore w F b c L) (hF : ∀ x ∈ F, x < w.heap.size)
    (hd : RBytes w (fun x => x ∉ F) da dn dc d) (hdn : dn ≤ 2048) (hk0 : 0 ≤ kind) (hk1 : kind ≤ 1) (ht0 : 0 ≤ c.term) (ht1 : c.term ≤ 1099511627776) (htl : L.last.2 ≤ c.term) (hfull : L.last.1 < 1099511627776) (hfew : L.es.length + 1 < 1000000) :
    Calls Tryz.prog 54 #[.pointer (some ⟨b, 0, none⟩), .int .i64 kind, .slice da dn dc] w fun e w' => e = .returned (.int .i64 (L.last.1 + 1)) ∧
      ∃ F' ev e', RCore w' F' b (c.touched (L.last.1 + 1)) { L with ev := ev, es := L.es ++ [e'] } ∧ e'.ab = ⟨L.last.1 + 1, c.term, kind, d⟩ ∧ Upd F F' w w' := by
  have hwf := h.rest.log.wf
  have hl0 : 0 ≤ L.last.1 := by rw [LogC.last_ab]; have := hwf.last; have := hwf.i0; omega
  have HC := Lib.hid (fun W (hb : Below w.heap.size w W) => clast_any F b c L W (h.below hb))
  have HU := Lib.hid (fun W (hb : Below w.heap.size w W) => full_any F b c L W (h.below hb))
  have hwr : IntKind.i64.wrap (L.last.1 + 1) = L.last.1 + 1 := IntWalk.i64_in _ (by omega)
  have hnf : (L.last.1 == 1099511627776) = false := by simp; omega
  have hlt := ltOf h.blk
  have hcells := Lib.hid (cellsOf h.blk)
  have H := Lib.hid h
  have Hd := Lib.hid hd
  have hll := h.rest.log.log
  have hfol : Follow L [⟨L.last.1 + 1, c.term, kind, da, dn, dc, d⟩] := by
    refine ⟨?_, ?_, ?_⟩
    · intro e he; simp at he; subst he; exact ⟨by dsimp only; omega, by dsimp only; omega, ht0, ht1, hk0, hk1, hdn⟩
    · intro j e he
      cases j with
      | zero => simp at he; subst he; simp
      | succ j => simp at he
    · intro j e he
      cases j with
      | zero => simp at he; subst he; exact htl
      | succ j => simp at he
  have Hfol := Lib.hid hfol
  have hE : (⟨L.last.1 + 1, c.term, kind, d⟩ : Ent) = (⟨L.last.1 + 1, c.term, kind, da, dn, dc, d⟩ : EntC).ab := rfl
  rw [hE]
  clear hE
  generalize hli : L.last.1 = li at *
  have Hli := Lib.hid hli
  clear h hd hfol hll hwf hli
  go_enter Tryz.func54, Tryz.ntmps54
  go_wp2_with fail
  refine (HC.out w (Below.refl _ _)).mono ?_
  rintro e w1 ⟨rfl, hb1⟩
  go_wp2_with fail
  refine (HU.out w1 hb1).mono ?_
  rintro e w2 ⟨rfl, hb2⟩
  rw [hnf]
  have hb02 : Below w.heap.size w w2 := hb1.trans (hb2.mono hb1.size)
  have HB2 := Lib.hid hb02
  have hR2 := H.out.below hb02
  have k1 : w2.cell? ⟨b, 1, none⟩ = some (.int .i64 c.term) := by rw [cellsOf hR2.blk]; rfl
  have k3 : w2.cell? ⟨b, 3, none⟩ = some (.pointer (some ⟨c.lb, 0, none⟩)) := by rw [cellsOf hR2.blk]; rfl
  have hz2 := hb02.size
  have hlt2 := ltOf hR2.blk
  have HR2 := Lib.hid hR2
  clear hb1 hb2 hb02 hR2 HC HU
  go_wp2_with fail
  have hbW : Below w2.heap.size w2 (w2.alloc (.cells #[.int .i64 (li + 1), .int .i64 c.term, .int .i64 kind, .slice da dn dc] 48)).drew := ((Below.refl _ w2).alloc (Nat.le_refl _) _).drew
  have hbox : RSl (w2.alloc (.cells #[.int .i64 (li + 1), .int .i64 c.term, .int .i64 kind, .slice da dn dc] 48)).drew (fun x => x ∉ F) 4 (some ⟨w2.heap.size, 0, none⟩) 1 1 (entCells [⟨li + 1, c.term, kind, da, dn, dc, d⟩]) :=
    RSl.ofBlk (heap_alloc_new w2 _) (fun hx => by have := hF _ hx; omega) (Nat.le_refl _) (by unfold maxLen; omega) rfl (fun j u hu => by simpa [entCells, EntC.cells] using hu)
  have HA := Lib.hid (append_any (fun x => x ∉ F) c.lb L (some ⟨w2.heap.size, 0, none⟩) 1 [⟨li + 1, c.term, kind, da, dn, dc, d⟩] _ (HR2.out.below hbW).rest.log.log Hfol.out (by simpa using hfew) hbox
    (by intro e he; simp at he; subst he; exact (Hd.out.below HB2.out).below hbW) (fun x _ hq hx => hq (HR2.out.rest.log.mem x hx)) (by rw [Hli.out]; omega) (by rw [Hli.out]; omega))
  clear hbox
  have hltA : b < w2.heap.size + 1 := by omega
  go_region_held3 (fun w' => w'.cell? ⟨b, 1, none⟩ = some (.int .i64 c.term) ∧ w'.cell? ⟨b, 3, none⟩ = some (.pointer (some ⟨c.lb, 0, none⟩)))
    (first | (exact ⟨k1, k3⟩) | (exact ⟨(hbW.cell (p := ⟨b, 1, none⟩) hlt2).trans k1, (hbW.cell (p := ⟨b, 3, none⟩) hlt2).trans k3⟩) | (exact ⟨(hC3.cell (p := ⟨b, 1, none⟩) (by show b < (w2.alloc _).heap.size; rw [size_alloc]; exact hltA) hbn.out).trans ((hbW.cell (p := ⟨b, 1, none⟩) hlt2).trans k1), (hC3.cell (p := ⟨b, 3, none⟩) (by show b < (w2.alloc _).heap.size; rw [size_alloc]; exact hltA) hbn.out).trans ((hbW.cell (p := ⟨b, 3, none⟩) hlt2).trans k3)⟩))
    ((go_at_call 14; refine HA.out.mono ?_; rintro e w3 ⟨rfl, ev, ns, hR3, hns, hN3, hC3, hO3⟩; have hbn : Hid (b ∉ c.lb :: own L.ev) := Lib.hid (fun hx => HR2.out.b0 (by simp [foot] at hx ⊢; grind))))
  obtain ⟨e', rfl⟩ : ∃ e', ns = [e'] := by
    have hl := congrArg List.length hns
    simp at hl
    exact List.length_eq_one_iff.1 hl
  have hab : e'.ab = (⟨li + 1, c.term, kind, da, dn, dc, d⟩ : EntC).ab := by simpa using hns
  have hbF := hF
  have hR2W := HR2.out.below hbW
  have hF2 : ∀ x ∈ F, x < (w2.alloc (.cells #[.int .i64 (li + 1), .int .i64 c.term, .int .i64 kind, .slice da dn dc] 48)).drew.heap.size := fun x hx => by
    have := hF x hx; show x < (w2.alloc _).heap.size; rw [size_alloc]; omega
  obtain ⟨rl, ru⟩ := hR2W.rest.log.appended hR3 hN3 hC3 hO3 (by
    rw [LogC.ab_snoc, hab]
    exact wf_snoc hR2W.rest.log.wf (by show li + 1 = _; rw [← LogC.last_ab, Hli.out]) (by rw [← LogC.last_ab, Hli.out]; exact hfull) (by simpa [LogC.ab] using hfew)) hF2
  have hR4 := hR2W.setLog hC3 ru.ext rl hO3
  have HT := Lib.hid (touch_any _ b c _ (li + 1) w3 hR4)
  have HU := Lib.hid ((Upd.below (F := F) (HB2.out.trans (hbW.mono hz2))).trans ru)
  have HAB := Lib.hid hab
  clear hR4 rl ru hR3 hns hN3 hC3 hO3 HA hbn hR2W hF2 hab hbW
  go_wp2_with fail
  refine HT.out.mono ?_
  rintro e w4 ⟨rfl, hR5, hC5⟩
  have HR5 := Lib.hid hR5
  have HC5 := Lib.hid hC5
  clear HT hR5 hC5
  go_wp2_with fail
  go_ret
  exact ⟨rfl, _, ev, e', HR5.out, HAB.out, HU.out.trans (Upd.of HC5.out (by simpa using HR5.out.bF))⟩
end Go.Proofs.YtjbnmamgfpnccaaGreat
