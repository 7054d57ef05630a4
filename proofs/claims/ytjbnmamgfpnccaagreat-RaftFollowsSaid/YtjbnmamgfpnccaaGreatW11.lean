/- The document's example: alive. -/
import Derived.Test.YtjbnmamgfpnccaaGreatW10
namespace Go.Proofs.YtjbnmamgfpnccaaGreat
open Go Go.RowKit Go.Sort

/-- What is owned is new, and nothing elder has changed. -/
structure Own (w0 w : World) (F : List Nat) : Prop where
  lt : ∀ x ∈ F, x < w.heap.size
  ge : ∀ x ∈ F, w0.heap.size ≤ x
  below : Below w0.heap.size w0 w
theorem Own.upd {w0 w w' : World} {F F' : List Nat} (h : Own w0 w F) (u : Upd F F' w w') : Own w0 w' F' :=
  ⟨u.lt h.lt, fun x hx => by
    rcases u.ext.new x hx with h1 | h1
    · exact h.ge x h1
    · exact Nat.le_trans h.below.size h1, ((Chg.ofBelow (M := []) h.below).trans' u.chg (fun x hx => .inr (h.ge x hx))).below⟩
theorem Own.chg {w0 w w' : World} {F M : List Nat} (h : Own w0 w F) (u : Chg M w w') (hM : ∀ x ∈ M, x ∈ F) : Own w0 w' F :=
  ⟨fun x hx => u.lt (h.lt x hx), h.ge, ((Chg.ofBelow (M := []) h.below).trans' u (fun x hx => .inr (h.ge x (hM x hx)))).below⟩
theorem Own.narrow {w0 w : World} {F F' : List Nat} (h : Own w0 w F) (hs : ∀ x ∈ F', x ∈ F) : Own w0 w F' := ⟨fun x hx => h.lt x (hs x hx), fun x hx => h.ge x (hs x hx), h.below⟩
theorem Upd.sub {F F' : List Nat} {w w' : World} (u : Upd F F' w w') {b : Nat} (hb : b < w.heap.size) (hn : b ∉ F) : b ∉ F' := fun hx => by
  rcases u.ext.new b hx with h1 | h1
  · exact hn h1
  · omega

theorem foot_waited (lb : Nat) (a : Option Addr) (cc : Nat) (q : Int) (va la : Option Addr) (vn vc ln lc : Nat) (vs ls : List Int) : foot (waited lb a cc q) (newLog va vn vc la ln lc vs ls) = [lb] := rfl

theorem role_blk {w : World} {b : Nat} {c : CoreC} {r : Int} (h : w.heap[b]? = some (.cells c.cells 81 (0, 0))) (hr : c.role = r) : Calls Tryz.prog 11 #[.pointer (some ⟨b, 0, none⟩)] w fun e w' => e = .returned (.int .i64 r) ∧ w' = w := by
  have k : w.cell? ⟨b, 5, none⟩ = some (.int .i64 r) := by rw [cellsOf h, ← hr]; rfl
  clear h
  go_enter Tryz.func11, Tryz.ntmps11
  go_wp2
  go_ret
  exact ⟨rfl, rfl⟩
theorem term_blk {w : World} {b : Nat} {c : CoreC} {r : Int} (h : w.heap[b]? = some (.cells c.cells 81 (0, 0))) (hr : c.term = r) : Calls Tryz.prog 21 #[.pointer (some ⟨b, 0, none⟩)] w fun e w' => e = .returned (.int .i64 r) ∧ w' = w := by
  have k : w.cell? ⟨b, 1, none⟩ = some (.int .i64 r) := by rw [cellsOf h, ← hr]; rfl
  clear h
  go_enter Tryz.func21, Tryz.ntmps21
  go_wp2
  go_ret
  exact ⟨rfl, rfl⟩
theorem commit_blk {w : World} {b : Nat} {c : CoreC} {r : Int} (h : w.heap[b]? = some (.cells c.cells 81 (0, 0))) (hr : c.commit = r) : Calls Tryz.prog 19 #[.pointer (some ⟨b, 0, none⟩)] w fun e w' => e = .returned (.int .i64 r) ∧ w' = w := by
  have k : w.cell? ⟨b, 4, none⟩ = some (.int .i64 r) := by rw [cellsOf h, ← hr]; rfl
  clear h
  go_enter Tryz.func19, Tryz.ntmps19
  go_wp2
  go_ret
  exact ⟨rfl, rfl⟩
theorem lead_blk {w : World} {b : Nat} {c : CoreC} {r : Int} (h : w.heap[b]? = some (.cells c.cells 81 (0, 0))) (hr : c.lead = r) : Calls Tryz.prog 20 #[.pointer (some ⟨b, 0, none⟩)] w fun e w' => e = .returned (.int .i64 r) ∧ w' = w := by
  have k : w.cell? ⟨b, 6, none⟩ = some (.int .i64 r) := by rw [cellsOf h, ← hr]; rfl
  clear h
  go_enter Tryz.func20, Tryz.ntmps20
  go_wp2
  go_ret
  exact ⟨rfl, rfl⟩

/-- What has been sent, in memory. -/
theorem outs_shape {w : World} {F : List Nat} {b : Nat} {c : CoreC} {L : LogC} (h : RCore w F b c L) (hn : c.outs ≠ []) : ∃ g cur, c.oa = some ⟨g, 0, none⟩ ∧ w.heap[g]? = some (.cells cur 36 (0, 0)) ∧ (∀ (j : Nat) (u : Value), (msgCells c.outs)[j]? = some u → cur[j]? = some u) ∧
    g ∈ F ∧ g ∉ b :: foot c.cleared L := by
  obtain ⟨h1, h2⟩ := h.rest.out
  rcases h2.2 with ⟨hv, h0⟩ | ⟨g, cap, cur, hv, _, hh, hnn, hm, hs, ht⟩
  · exact absurd (List.eq_nil_of_length_eq_zero (by omega)) hn
  · injection hv with e1 e2 e3
    have hg : g ∈ own (.slice c.oa c.on c.oc) := by rw [mem_own, e1]; rfl
    have hap := h.rest.apart
    rw [foot_out] at hap
    simp only [List.nodup_append, List.mem_append] at hap
    refine ⟨g, cur, e1, hh, ?_, h.rest.mem g (by rw [foot_out]; simp only [List.mem_append]; exact .inl (.inr hg)), ?_⟩
    · intro j u hu
      rw [← ht] at hu
      rw [List.getElem?_take] at hu
      split at hu
      · simpa using hu
      · cases hu
    · intro hx
      rw [List.mem_cons] at hx
      rcases hx with rfl | hx
      · exact h.b0 (by rw [foot_out]; simp only [List.mem_append]; exact .inl (.inr hg))
      · rw [foot_out] at hx
        simp only [List.mem_append] at hx
        rcases hx with (hx | hx) | hx
        · exact hap.1.2.2 g hx g hg rfl
        · simp [CoreC.cleared, own, Value.ownBlock] at hx
        · exact hap.2.2 g (.inr hg) g hx rfl

set_option maxRecDepth 100000 in
set_option maxHeartbeats 4000000 in
theorem alive_any (w : World) : Calls Tryz.prog 6 #[] w fun e w' => e = .returned (.bool true) ∧ Below w.heap.size w w' := by
  obtain ⟨W, hW⟩ : ∃ W, W = w.alloc (.cells #[.int .i64 1] 3) := ⟨_, rfl⟩
  have hB0 : Below w.heap.size w W := by rw [hW]; exact (Below.refl _ w).alloc (Nat.le_refl _) _
  have hz0 : W.heap.size = w.heap.size + 1 := by rw [hW, size_alloc]
  have hv : RInts W (fun _ => True) (some ⟨w.heap.size, 0, none⟩) 1 1 [1] := ⟨rfl, RSl.ofBlk (cur := #[.int .i64 1]) (e := 3) (fz := (0, 0)) (by rw [hW, heap_alloc, if_pos rfl]) trivial (Nat.le_refl _) (by unfold maxLen; omega) rfl (fun j u hu => by simpa using hu)⟩
  have HL := Lib.hid (newLog_any [] (fun _ => True) _ none 1 1 0 0 [1] [] W hv ⟨rfl, RSl.nil _ _ _⟩ (by omega) (by omega) (by simp))
  have HB0 := Lib.hid hB0
  clear hB0 hv
  go_enter Tryz.func6, Tryz.ntmps6
  go_wp2_with fail
  rw [← hW]
  clear hW
  refine HL.out.mono ?_
  rintro e w1 ⟨lbc, va, vc, la, lc, rfl, hlb, hlt1, hL1, hb1⟩
  have HC := Lib.hid (coreNew_any [lbc] 1 0 0 lbc _ w1 hL1 (by simpa using hlt1) rfl)
  have HB1 := Lib.hid (HB0.out.trans (hb1.mono (by omega)))
  have hz1 := hb1.size
  clear hL1 hb1 HL HB0
  go_wp2_with fail
  refine HC.out.mono ?_
  rintro e w2 ⟨bc, ac, cc, rfl, hbc, hRc, hb2⟩
  have HRc := Lib.hid hRc
  have hltc := ltOf hRc.blk
  have hz2 := hb2.size
  have HB2 := Lib.hid (HB1.out.trans (hb2.mono (by omega)))
  clear hRc hb2 HC HB1
  go_wp2_with fail
  refine (three_any w2).mono ?_
  rintro e w3 ⟨ta, rfl, hr3, hb3⟩
  have hz3 := hb3.size
  have HB3 := Lib.hid (HB2.out.trans (hb3.mono (by omega)))
  have HRc3 := Lib.hid (HRc.out.below hb3)
  have HL := Lib.hid (newLog_any [bc, lbc] _ ta none 3 3 0 0 [1, 2, 3] [] w3 hr3 ⟨rfl, RSl.nil _ _ _⟩ (by omega) (by omega) (by simp; omega))
  clear hr3 hb3 HRc HB2
  go_wp2_with fail
  refine HL.out.mono ?_
  rintro e w4 ⟨lbd, vd, vdc, ld, ldc, rfl, hlbd, hlt4, hL4, hb4⟩
  have hz4 := hb4.size
  have HB4 := Lib.hid (HB3.out.trans (hb4.mono (by omega)))
  have HB34 := Lib.hid hb4
  have HC := Lib.hid (coreNew_any [lbd, bc, lbc] 1 0 0 lbd _ w4 hL4 (by simp; omega) rfl)
  clear hL4 hb4 HL HB3
  go_wp2_with fail
  refine HC.out.mono ?_
  rintro e w5 ⟨bd, ad, cd, rfl, hbd, hRd, hb5⟩
  have hz5 := hb5.size
  have hltd := ltOf hRd.blk
  have HRd := Lib.hid (show RCore w5 [bd, lbd, bc, lbc] bd (waited lbd ad cd 0) (newLog vd 3 vdc ld 0 ldc [1, 2, 3] []) from hRd)
  have HRc5 := Lib.hid (show RCore w5 [bd, lbd, bc, lbc] bc (waited lbc ac cc 0) (newLog va 1 vc la 0 lc [1] []) from ((HRc3.out.ext (Ext.add (G := [bd, lbd]) (by simp; omega))).below HB34.out).below hb5)
  have HO5 := Lib.hid (show Own w w5 [bd, lbd, bc, lbc] from ⟨by simp; omega, by simp; omega, HB4.out.trans (hb5.mono (by omega))⟩)
  clear hRd hb5 HC HB4 HRc3 HB34
  go_wp2_with fail
  go_loopw [3] (fun i wr => ∃ k : Nat, k ≤ 12 ∧ i = .int .i64 k ∧ ((k ≤ 11 ∧ Own w wr [bd, lbd, bc, lbc] ∧ RCore wr [bd, lbd, bc, lbc] bc (waited lbc ac cc k) (newLog va 1 vc la 0 lc [1] []) ∧ RCore wr [bd, lbd, bc, lbc] bd (waited lbd ad cd k) (newLog vd 3 vdc ld 0 ldc [1, 2, 3] [])) ∨
      (k = 12 ∧ ∃ c' Fd yes oa on oc, wr.heap[bc]? = some (.cells (CoreC.cells c') 81 (0, 0)) ∧ c'.role = 3 ∧ c'.term = 1 ∧ c'.commit = 1 ∧ yes.xs = [1] ∧ RCore wr Fd bd ((asker lbd ad cd yes).withOut oa on oc (asks 1 1)) (newLog vd 3 vdc ld 0 ldc [1, 2, 3] []) ∧ bc ∉ Fd ∧ Own w wr Fd)))
    (fun i _ => 12 - (intOf i).toNat)
  case atStart => exact ⟨0, by omega, rfl, .inl ⟨by omega, HO5.out, HRc5.out, HRd.out⟩⟩
  case round =>
    obtain ⟨k, hk1, rfl, ⟨hk, hO, hRc, hRd⟩ | ⟨rfl, c', Fd, yes, oa, on, oc, hblk, h1, h2, h3, hy, hRd, hbF, hO⟩⟩ := hrel
    · have HT := Lib.hid (tickQuiet_any _ bc _ _ wr hRc (show (0 : Int) ≠ 3 by decide) (show (0 : Int) ≤ 1 by decide) (show (1 : Int) ≤ 1000000 by decide) (show (0 : Int) ≤ (k : Int) by omega))
      have HTl := Lib.hid (fun (e : k = 11) => tickLeads [bc, lbc] bc lbc ac va la cc vc lc wr (by rw [e] at hRc; exact hRc.narrow (by simp) (by rw [foot_waited]; simp)) (by have := hO.lt; simp at this ⊢; omega))
      have HRdw := Lib.hid hRd
      have HOw := Lib.hid hO
      clear hRc hRd hO HRc5 HRd HO5
      have hdc : decide ((k : Int) < 12) = true := by simp; omega
      by_cases hk2 : k < 11
      · have HTq := Lib.hid (HT.out (show (k : Int) + 1 < 10 + 2 * 1 by omega))
        clear HT
        go_wp2_with fail
        refine HTq.out.mono ?_
        rintro e w6 ⟨rfl, hRc6, hC6⟩
        have hRd6 := HRdw.out.chg hC6 (by simp) (by rw [foot_waited]; simp; omega)
        have HRc6 := Lib.hid hRc6
        have HO6 := Lib.hid (HOw.out.chg hC6 (by simp))
        have HTd := Lib.hid (tickQuiet_any _ bd _ _ w6 hRd6 (show (0 : Int) ≠ 3 by decide) (show (0 : Int) ≤ 1 by decide) (show (1 : Int) ≤ 1000000 by decide) (show (0 : Int) ≤ (k : Int) by omega) (show (k : Int) + 1 < 10 + 2 * 1 by omega))
        clear hRc6 hC6 hRd6 HTq HRdw HOw HTl
        go_wp2_with fail
        refine HTd.out.mono ?_
        rintro e w7 ⟨rfl, hRd7, hC7⟩
        have HRc7 := Lib.hid (HRc6.out.chg hC7 (by simp) (by show ∀ x ∈ [bd], x ∉ bc :: [lbc]; simp; omega))
        have HRd7 := Lib.hid hRd7
        have HO7 := Lib.hid (HO6.out.chg hC7 (by simp))
        clear hRd7 hC7 HTd HRc6 HO6
        go_wp2_with fail
        go_roundw
        case rel => exact ⟨k + 1, by omega, by go_num, .inl ⟨by omega, HO7.out, HRc7.out, HRd7.out⟩⟩
        case measure => simp [intOf]; omega
      · obtain rfl : k = 11 := by omega
        have HTk := Lib.hid (HTl.out rfl)
        clear HT HTl
        go_wp2_with fail
        refine HTk.out.mono ?_
        rintro e w6 ⟨rfl, F6, c6, L6, hRc6, hU6, m1, m2, m3⟩
        have hRd6 := HRdw.out.chg hU6.chg (by simp) (by rw [foot_waited]; simp; omega)
        have hO6 := HOw.out.chg hU6.chg (by simp)
        have Hblk := Lib.hid hRc6.blk
        have Hm := Lib.hid (show c6.role = 3 ∧ c6.term = 1 ∧ c6.commit = 1 from ⟨m1, m2, m3⟩)
        have HO6 := Lib.hid hO6
        have HTd := Lib.hid (tickAsks [bd, lbd] bd lbd ad vd ld cd vdc ldc w6 (hRd6.narrow (by simp) (by rw [foot_waited]; simp)) (by have := hO6.lt; simp at this ⊢; omega))
        clear hRc6 hU6 hRd6 hO6 m1 m2 m3 HTk HRdw HOw
        go_wp2_with fail
        refine HTd.out.mono ?_
        rintro e w7 ⟨rfl, F7, yes, oa, on, oc, hy, hRd7, hU7⟩
        have Hy := Lib.hid hy
        have HRd7 := Lib.hid hRd7
        have Hblk7 := Lib.hid (hU7.chg.get Hblk.out (by simp; omega))
        have HbF := Lib.hid (hU7.sub (ltOf Hblk.out) (by simp; omega))
        have HO7 := Lib.hid ((HO6.out.narrow (F' := [bd, lbd]) (by simp)).upd hU7)
        clear hRd7 hU7 HTd HO6 Hblk hy
        go_wp2_with fail
        go_roundw
        case rel => exact ⟨12, by omega, by go_num, .inr ⟨rfl, c6, F7, yes, oa, on, oc, Hblk7.out, Hm.out.1, Hm.out.2.1, Hm.out.2.2, Hy.out, HRd7.out, HbF.out, HO7.out⟩⟩
        case measure => simp [intOf]
    · have Hblk := Lib.hid hblk
      have Hm := Lib.hid (show c'.role = 3 ∧ c'.term = 1 ∧ c'.commit = 1 from ⟨h1, h2, h3⟩)
      have Hy := Lib.hid hy
      have HRdw := Lib.hid hRd
      have HbF := Lib.hid hbF
      have HOw := Lib.hid hO
      clear hblk h1 h2 h3 hy hRd hbF hO HRc5 HRd HO5
      obtain ⟨g, cur, e1, hg, hcur, hgF, hgn⟩ := outs_shape HRdw.out (by simp [CoreC.withOut, asks])
      have e1 : oa = some ⟨g, 0, none⟩ := e1
      have e2 : on = 2 := HRdw.out.rest.out.1
      subst e1 e2
      have hcur0 : cur[0]? = some (.int .i64 1) := hcur 0 _ rfl
      have HOu := Lib.hid (out_any HRdw.out)
      have Hg := Lib.hid hg
      have HgF := Lib.hid hgF
      have Hgn := Lib.hid hgn
      have Hcur := Lib.hid hcur0
      clear hg hgF hgn hcur hcur0
      go_wp2_with fail
      refine HOu.out.mono ?_
      rintro e w6 ⟨rfl, hR6, hC6⟩
      have hsub : ∀ x ∈ bd :: foot (asker lbd ad cd yes) (newLog vd 3 vdc ld 0 ldc [1, 2, 3] []), x ∈ Fd := by
        intro x hx
        rw [List.mem_cons] at hx
        rcases hx with rfl | hx
        · exact hR6.bF
        · exact hR6.rest.mem x hx
      have HR6 := Lib.hid (show RCore w6 (bd :: foot (asker lbd ad cd yes) (newLog vd 3 vdc ld 0 ldc [1, 2, 3] [])) bd (asker lbd ad cd yes) (newLog vd 3 vdc ld 0 ldc [1, 2, 3] []) from hR6.narrow hsub (fun x hx => hx))
      have Hblk6 := Lib.hid (hC6.get Hblk.out (fun hx => HbF.out (by simp at hx; rw [hx]; exact hR6.bF)))
      have Hg6 := Lib.hid (hC6.get Hg.out (fun hx => Hgn.out (by simp at hx; rw [hx]; simp)))
      have HO6 := Lib.hid ((HOw.out.chg hC6 (by simpa using hR6.bF)).narrow hsub)
      have HbF6 := Lib.hid (fun hx => HbF.out (hsub bc hx))
      have HS := Lib.hid (stepYes2 _ bd lbd ad vd ld cd vdc ldc yes w6 HR6.out HO6.out.lt Hy.out)
      clear hR6 hC6 hsub HOu Hblk Hg HbF HRdw HOw
      go_wp2_with fail
      refine HS.out.mono ?_
      rintro e w7 ⟨rfl, F7, y2, oa2, on2, oc2, hy2, hR7, hU7⟩
      obtain ⟨g2, cur2, e1, hg2, hcur2, hgF2, hgn2⟩ := outs_shape hR7 (by simp [CoreC.withOut, asks])
      have e1 : oa2 = some ⟨g2, 0, none⟩ := e1
      have e2 : on2 = 2 := hR7.rest.out.1
      subst e1 e2
      have hcur20 : cur2[14]? = some (.int .i64 3) := hcur2 14 _ rfl
      have HOu := Lib.hid (out_any hR7)
      have Hy2 := Lib.hid hy2
      have Hg2 := Lib.hid hg2
      have HgF2 := Lib.hid hgF2
      have Hgn2 := Lib.hid hgn2
      have Hcur2 := Lib.hid hcur20
      have Hblk7 := Lib.hid (hU7.chg.get Hblk6.out HbF6.out)
      have Hg7 := Lib.hid (hU7.chg.get Hg6.out Hgn.out)
      have HbF7 := Lib.hid (hU7.sub (ltOf Hblk6.out) HbF6.out)
      have HgF7 := Lib.hid (hU7.sub (ltOf Hg6.out) Hgn.out)
      have HO7 := Lib.hid (HO6.out.upd hU7)
      clear hy2 hg2 hgF2 hgn2 hcur2 hcur20 hR7 hU7 HS Hblk6 Hg6 HbF6 HO6 HR6
      go_wp2_with fail
      refine HOu.out.mono ?_
      rintro e w8 ⟨rfl, hR8, hC8⟩
      have hsub : ∀ x ∈ bd :: foot (candid lbd ad cd y2) (newLog vd 3 vdc ld 0 ldc [1, 2, 3] []), x ∈ F7 := by
        intro x hx
        rw [List.mem_cons] at hx
        rcases hx with rfl | hx
        · exact hR8.bF
        · exact hR8.rest.mem x hx
      have HR8 := Lib.hid (show RCore w8 (bd :: foot (candid lbd ad cd y2) (newLog vd 3 vdc ld 0 ldc [1, 2, 3] [])) bd (candid lbd ad cd y2) (newLog vd 3 vdc ld 0 ldc [1, 2, 3] []) from hR8.narrow hsub (fun x hx => hx))
      have Hblk8 := Lib.hid (hC8.get Hblk7.out (fun hx => HbF7.out (by simp at hx; rw [hx]; exact hR8.bF)))
      have Hg8 := Lib.hid (hC8.get Hg7.out (fun hx => HgF7.out (by simp at hx; rw [hx]; exact hR8.bF)))
      have Hg28 := Lib.hid (hC8.get Hg2.out (fun hx => Hgn2.out (by simp at hx; rw [hx]; simp)))
      have HO8 := Lib.hid ((HO7.out.chg hC8 (by simpa using hR8.bF)).narrow hsub)
      have HbF8 := Lib.hid (fun hx => HbF7.out (hsub bc hx))
      have HgF8 := Lib.hid (fun hx => HgF7.out (hsub g hx))
      have HS := Lib.hid (stepYes4 _ bd lbd ad vd ld cd vdc ldc y2 w8 HR8.out HO8.out.lt Hy2.out)
      clear hR8 hC8 hsub HOu Hblk7 Hg7 HbF7 HgF7 HO7 Hg2
      go_wp2_with fail
      refine HS.out.mono ?_
      rintro e w9 ⟨rfl, F9, cd', Ld', hR9, hU9, n1, n2, n3⟩
      have hblk9 := hU9.chg.get Hblk8.out HbF8.out
      have hd9 := hR9.blk
      have ka : w9.cell? ⟨g, 0, none⟩ = some (.int .i64 1) := (cellsOf (hU9.chg.get Hg8.out HgF8.out) 0).trans Hcur.out
      have kb : w9.cell? ⟨g2, 14, none⟩ = some (.int .i64 3) := (cellsOf (hU9.chg.get Hg28.out Hgn2.out) 14).trans Hcur2.out
      have R1 := Lib.hid (role_blk hblk9 Hm.out.1)
      have R2 := Lib.hid (term_blk hblk9 Hm.out.2.1)
      have R3 := Lib.hid (commit_blk hblk9 Hm.out.2.2)
      have R4 := Lib.hid (role_blk hd9 n1)
      have R5 := Lib.hid (lead_blk hd9 n2)
      have R6 := Lib.hid (commit_blk hd9 n3)
      have HO9 := Lib.hid (HO8.out.upd hU9)
      clear hblk9 hd9 hR9 hU9 n1 n2 n3 HS Hblk8 Hg8 Hg28 HO8 HR8 Hgn Hgn2 HgF HgF2
      go_wp2_with fail
      refine R1.out.mono ?_
      rintro e w10 ⟨rfl, rfl⟩
      go_wp2_with fail
      refine R2.out.mono ?_
      rintro e w10 ⟨rfl, rfl⟩
      go_wp2_with fail
      refine R3.out.mono ?_
      rintro e w10 ⟨rfl, rfl⟩
      go_wp2_with fail
      refine R4.out.mono ?_
      rintro e w10 ⟨rfl, rfl⟩
      go_wp2_with fail
      refine R5.out.mono ?_
      rintro e w10 ⟨rfl, rfl⟩
      go_wp2_with fail
      refine R6.out.mono ?_
      rintro e w10 ⟨rfl, rfl⟩
      go_wp2_with fail
      go_ret
      exact ⟨rfl, HO9.out.below⟩
end Go.Proofs.YtjbnmamgfpnccaaGreat
