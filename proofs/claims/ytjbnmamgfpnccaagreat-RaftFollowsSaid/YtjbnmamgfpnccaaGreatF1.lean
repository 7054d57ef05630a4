/- The document's comparisons: SameBytes, Same. -/
import Derived.Test.YtjbnmamgfpnccaaGreatW7
namespace Go.Proofs.YtjbnmamgfpnccaaGreat
open Go Go.RowKit Go.Sort

set_option maxRecDepth 100000 in
set_option maxHeartbeats 1000000 in
theorem sameBytes_any (Q Q' : Nat → Prop) (xs : List Int) (a a' : Option Addr) (n c n' c' : Nat) (w : World) (h : RBytes w Q a n c xs) (h' : RBytes w Q' a' n' c' xs) :
    Calls Tryz.prog 42 #[.slice a n c, .slice a' n' c'] w fun e w' => e = .returned (.bool true) ∧ Below w.heap.size w w' := by
  obtain rfl := h.1
  obtain rfl := h'.1
  have hlen : (xs.length : Int) ≤ 9223372036854775807 := by
    have h1 := h.2.1
    have h2 := h.2.2.1
    unfold maxLen at h2
    omega
  have H := Lib.hid h
  have H' := Lib.hid h'
  clear h h'
  go_enter Tryz.func42, Tryz.ntmps42
  go_wp2_with fail
  go_loopw [5] (fun i wr => ∃ k : Nat, k ≤ xs.length ∧ i = .int .i64 k ∧ Below w.heap.size w wr) (fun i _ => xs.length - (intOf i).toNat)
  case atStart => exact ⟨0, Nat.zero_le _, rfl, Below.refl _ _⟩
  case round =>
    obtain ⟨k, hk1, rfl, hbr⟩ := hrel
    have HBr := Lib.hid hbr
    clear hbr
    by_cases hkl : k < xs.length
    · obtain ⟨b, off, rfl, hb, hc⟩ : ∃ b off, a = some ⟨b, off, none⟩ ∧ b < w.heap.size ∧ ∀ j, j < xs.length → w.cell? ⟨b, off + j, none⟩ = some (.int .u8 (xs.getD j 0)) := by
        rcases H.out.cells with ⟨h0, _⟩ | ⟨b, off, h1, h2, _, _, h5⟩
        · omega
        · exact ⟨b, off, h1, h2, h5⟩
      obtain ⟨b', off', rfl, hb', hc'⟩ : ∃ b off, a' = some ⟨b, off, none⟩ ∧ b < w.heap.size ∧ ∀ j, j < xs.length → w.cell? ⟨b, off + j, none⟩ = some (.int .u8 (xs.getD j 0)) := by
        rcases H'.out.cells with ⟨h0, _⟩ | ⟨b, off, h1, h2, _, _, h5⟩
        · omega
        · exact ⟨b, off, h1, h2, h5⟩
      have k1 := (HBr.out.cell (p := ⟨b, off + k, none⟩) hb).trans (hc k hkl)
      have k2 := (HBr.out.cell (p := ⟨b', off' + k, none⟩) hb').trans (hc' k hkl)
      generalize xs.getD k 0 = x at k1 k2
      clear hc hc'
      go_wp2_with fail
      go_quiet (fail)
      go_wp2
      go_roundw
      case rel => exact ⟨k + 1, by omega, by go_num, below_drewN' HBr.out _⟩
      case measure => simp [intOf]; omega
    · go_wp2_with fail
      go_ret
      exact ⟨rfl, HBr.out⟩

/-- Entries that read alike are the same. -/
theorem ents_alike {es es' : List EntC} (h : es.map EntC.ab = es'.map EntC.ab) {k : Nat} {e : EntC} (he : es[k]? = some e) : ∃ e', es'[k]? = some e' ∧ e'.i = e.i ∧ e'.t = e.t ∧ e'.k = e.k ∧ e'.d = e.d := by
  have h1 : (es'.map EntC.ab)[k]? = some e.ab := by rw [← h]; simp [he]
  rw [List.getElem?_map] at h1
  cases h2 : es'[k]? with
  | none => simp [h2] at h1
  | some e' =>
    simp only [h2, Option.map_some, Option.some.injEq] at h1
    exact ⟨e', rfl, congrArg Ent.i h1, congrArg Ent.t h1, congrArg Ent.k h1, congrArg Ent.d h1⟩

set_option maxRecDepth 100000 in
set_option maxHeartbeats 4000000 in
theorem same_any (Q Q' : Nat → Prop) (es es' : List EntC) (a a' : Option Addr) (n c n' c' : Nat) (w : World) (hn : n = es.length) (hn' : n' = es'.length) (h : RSl w Q 4 a n c (entCells es)) (h' : RSl w Q' 4 a' n' c' (entCells es'))
    (hd : ∀ e ∈ es, RBytes w Q e.da e.dn e.dc e.d) (hd' : ∀ e ∈ es', RBytes w Q' e.da e.dn e.dc e.d) (heq : es.map EntC.ab = es'.map EntC.ab) :
    Calls Tryz.prog 18 #[.slice a n c, .slice a' n' c'] w fun e w' => e = .returned (.bool true) ∧ Below w.heap.size w w' := by
  have hl : es'.length = es.length := by have := congrArg List.length heq; simpa using this.symm
  subst hn
  subst hn'
  rw [hl] at h' ⊢
  have hlen : (es.length : Int) ≤ 9223372036854775807 := by
    have h1 := h.1
    have h2 := h.2.1
    unfold maxLen at h2
    omega
  have H := Lib.hid h
  have H' := Lib.hid h'
  have Hd := Lib.hid hd
  have Hd' := Lib.hid hd'
  have Heq := Lib.hid heq
  clear h h' hd hd' heq hl
  go_enter Tryz.func18, Tryz.ntmps18
  go_wp2_with fail
  go_loopw [5] (fun i wr => ∃ k : Nat, k ≤ es.length ∧ i = .int .i64 k ∧ Below w.heap.size w wr) (fun i _ => es.length - (intOf i).toNat)
  case atStart => exact ⟨0, Nat.zero_le _, rfl, Below.refl _ _⟩
  case round =>
    obtain ⟨k, hk1, rfl, hbr⟩ := hrel
    have HBr := Lib.hid hbr
    clear hbr
    by_cases hkl : k < es.length
    · obtain ⟨e, he⟩ : ∃ e, es[k]? = some e := ⟨es[k], by simp [hkl]⟩
      obtain ⟨e', he', q1, q2, q3, q4⟩ := ents_alike Heq.out he
      obtain ⟨b, off, rfl, hb, hc⟩ : ∃ bx off, a = some ⟨bx, off, none⟩ ∧ bx < w.heap.size ∧ ∀ j u, (entCells es)[j]? = some u → w.cell? ⟨bx, off + j, none⟩ = some u := by
        rcases H.out.2.2.2.2 with h0 | ⟨bx, off, h1, h2, _, h5⟩
        · omega
        · exact ⟨bx, off, h1, h2, h5⟩
      obtain ⟨b', off', rfl, hb', hc'⟩ : ∃ bx off, a' = some ⟨bx, off, none⟩ ∧ bx < w.heap.size ∧ ∀ j u, (entCells es')[j]? = some u → w.cell? ⟨bx, off + j, none⟩ = some u := by
        rcases H'.out.2.2.2.2 with h0 | ⟨bx, off, h1, h2, _, h5⟩
        · omega
        · exact ⟨bx, off, h1, h2, h5⟩
      have hget := entCells_get es k e he
      have hget' := entCells_get es' k e' he'
      have hbw := HBr.out
      have e0 := (hbw.cell (p := ⟨b, off + k * 4, none⟩) hb).trans (hc _ _ hget.1)
      have e1 := (hbw.cell (p := ⟨b, off + (k * 4 + 1), none⟩) hb).trans (hc _ _ hget.2.1)
      have e2 := (hbw.cell (p := ⟨b, off + (k * 4 + 2), none⟩) hb).trans (hc _ _ hget.2.2.1)
      have e3 := (hbw.cell (p := ⟨b, off + (k * 4 + 3), none⟩) hb).trans (hc _ _ hget.2.2.2)
      have g0 := (hbw.cell (p := ⟨b', off' + k * 4, none⟩) hb').trans (hc' _ _ hget'.1)
      have g1 := (hbw.cell (p := ⟨b', off' + (k * 4 + 1), none⟩) hb').trans (hc' _ _ hget'.2.1)
      have g2 := (hbw.cell (p := ⟨b', off' + (k * 4 + 2), none⟩) hb').trans (hc' _ _ hget'.2.2.1)
      have g3 := (hbw.cell (p := ⟨b', off' + (k * 4 + 3), none⟩) hb').trans (hc' _ _ hget'.2.2.2)
      rw [← Nat.add_assoc] at e1 e2 e3 g1 g2 g3
      rw [q1] at g0
      rw [q2] at g1
      rw [q3] at g2
      have r0 := cell_regrown e0
      have r1 := cell_regrown e1
      have r2 := cell_regrown e2
      have r3 := cell_regrown e3
      have s0 := cell_regrown g0
      have s1 := cell_regrown g1
      have s2 := cell_regrown g2
      have s3 := cell_regrown g3
      have hd1 := (Hd.out e (List.mem_of_getElem? he)).below HBr.out
      have hd2 := (Hd'.out e' (List.mem_of_getElem? he')).below HBr.out
      rw [q4] at hd2
      have HS := Lib.hid (fun (d : Nat) (os : Array Obj) => Calls.regrown_of (sameBytes_any Q Q' e.d e.da e'.da e.dn e.dc e'.dn e'.dc (grow (redrawn wr d) os) (hd1.below (below_regrown wr d os)) (hd2.below (below_regrown wr d os))))
      clear hc hc' hget hget' hbw he he' q1 q2 q3 q4 hd1 hd2 e0 e1 e2 e3 g0 g1 g2 g3
      go_wp2_with fail
      refine wp_region_quiet_below (by kernel_rfl) (by kernel_rfl) ?_
      repeat (go_big_quiet_step (exact HS.out _ _))
      refine wpQuiet_nil ?_
      intro wf hwf
      obtain ⟨p, hp⟩ := hwf
      have hbf : Below wr.heap.size wr wf := by rw [hp]; exact below_regrown wr p.d p.os
      have HBf := Lib.hid (HBr.out.trans (hbf.mono HBr.out.size))
      clear hp hbf r0 r1 r2 r3 s0 s1 s2 s3 HS
      go_wp2
      go_roundw
      case rel => exact ⟨k + 1, by omega, by go_num, HBf.out⟩
      case measure => simp [intOf]; omega
    · go_wp2_with fail
      go_ret
      exact ⟨rfl, HBr.out⟩
end Go.Proofs.YtjbnmamgfpnccaaGreat
