/- RaftFollows, walked. -/
import Derived.Test.YtjbnmamgfpnccaaGreatF7
namespace Go.Proofs.YtjbnmamgfpnccaaGreat
open Go Go.RowKit Go.Sort

def SI.cell (s : SI) : Value := .slice s.a s.n s.c

theorem RLogF.below' {w w' : World} {F : List Nat} {lb : Nat} {L : LogC} (h : RLogF w F lb L) (hb : Below w.heap.size w w') : RLogF w' F lb L := h.chg (M := []) (Chg.ofBelow hb) (by simp) (by simp)
theorem Grows.below' {w0 w w' : World} {G : List Nat} {lbl : Nat} {M : LogC} {bc lbc : Nat} {a : Option Addr} {cc : Nat} {Lc : LogC} {E : List Ent} (h : Grows w0 w G lbl M bc lbc a cc Lc E) (hb : Below w.heap.size w w') : Grows w0 w' G lbl M bc lbc a cc Lc E :=
  ⟨h.log.below' hb, h.core.below hb, h.ow.chg (M := []) (Chg.ofBelow hb) (by simp), h.holds, h.lead, h.bn, h.ln⟩
theorem entries_whole {L : LogC} {E : List Ent} (h : Holds L E E.length) (hE : Lead E) : L.ab.entries 0 100 = E := by
  have hes : L.ab.es = E := by
    show L.es.map EntC.ab = E
    rw [h.es, List.take_length]
  have hi : L.ab.i = 0 := h.i
  have := hE.1
  unfold Log.entries
  rw [hes, hi]
  show (E.drop 0).take 100 = E
  rw [List.drop_zero, List.take_of_length_le (by omega)]
set_option maxRecDepth 100000 in
set_option maxHeartbeats 4000000 in
theorem follows_any (w : World) (da : Option Addr) (dn dc : Nat) (ds : List SI) (hdn : dn = ds.length) (hds : RSl w (fun _ => True) 1 da dn dc (ds.map SI.cell)) (hdb : ∀ s ∈ ds, RBytes w (fun _ => True) s.a s.n s.c s.xs)
    (oa : Option Addr) (on oc : Nat) (os : List Int) (hos : RInts w (fun _ => True) oa on oc os) (cm : Int) :
    Calls Tryz.prog 4 #[.slice da dn dc, .slice oa on oc, .int .i64 cm] w fun e w' => e = .returned (.bool true) ∧ Below w.heap.size w w' := by
  subst hdn
  obtain rfl := hos.1
  have hlen : (ds.length : Int) ≤ 9223372036854775807 := by
    have h1 := hds.1
    have h2 := hds.2.1
    unfold maxLen at h2
    omega
  have hlen2 : (os.length : Int) ≤ 9223372036854775807 := by
    have h1 := hos.2.1
    have h2 := hos.2.2.1
    unfold maxLen at h2
    omega
  have Hds := Lib.hid hds
  have Hdb := Lib.hid hdb
  have Hos := Lib.hid hos
  clear hds hdb hos
  go_enter Tryz.func4, Tryz.ntmps4
  go_wp2_with fail
  refine (alive_any w).mono ?_
  rintro e w1 ⟨rfl, hb1⟩
  have hz1 := hb1.size
  have HB1 := Lib.hid hb1
  clear hb1
  go_wp2_with fail
  refine (three_any w1).mono ?_
  rintro e w2 ⟨ta, rfl, hr2, hb2⟩
  have hz2 := hb2.size
  have Hr2 := Lib.hid hr2
  have HB2 := Lib.hid (HB1.out.trans (hb2.mono (by omega)))
  clear hr2 hb2 HB1
  go_wp2_with fail
  obtain ⟨W3, hW3⟩ : ∃ W3, W3 = w2.alloc (.cells #[.slice ta 3 3, .slice none 0 0] 26) := ⟨_, rfl⟩
  rw [← hW3]
  have hB3 : Below w2.heap.size w2 W3 := by rw [hW3]; exact (Below.refl _ w2).alloc (Nat.le_refl _) _
  have hx3 : W3.heap[w2.heap.size]? = some (.cells #[.slice ta 3 3, .slice none 0 0] 26 (0, 0)) := by rw [hW3, heap_alloc, if_pos rfl]
  have hz3 := hB3.size
  have Hr3 := Lib.hid (Hr2.out.below hB3)
  have HL := Lib.hid (newLog_any [] _ ta none 3 3 0 0 [1, 2, 3] [] W3 (Hr2.out.below hB3) ⟨rfl, RSl.nil _ _ _⟩ (by omega) (by omega) (by simp))
  have HB3 := Lib.hid (HB2.out.trans (hB3.mono (by omega)))
  have HX3 := Lib.hid hx3
  clear hW3 hB3 hx3 Hr2 HB2
  refine HL.out.mono ?_
  rintro e w4 ⟨lbl, vl, vlc, ll, llc, rfl, hlbl, hlt4, hL4, hb4⟩
  have hz4 := hb4.size
  have HL4 := Lib.hid hL4
  have HB4 := Lib.hid (HB3.out.trans (hb4.mono (by omega)))
  have Hr4 := Lib.hid (Hr3.out.below hb4)
  have hx4 := (hb4.block _ (ltOf HX3.out)).trans HX3.out
  have kx4 := cellsOf hx4
  have hltx4 := ltOf hx4
  have HLc := Lib.hid (newLog_any [lbl] _ ta none 3 3 0 0 [1, 2, 3] [] w4 Hr4.out ⟨rfl, RSl.nil _ _ _⟩ (by omega) (by omega) (by simpa using hlt4))
  clear hL4 hb4 HL HB3 HX3 Hr3 hx4
  go_wp2_with fail
  refine HLc.out.mono ?_
  rintro e w5 ⟨lbc, vc, vcc, lc, lcc, rfl, hlbc, hlt5, hL5, hb5⟩
  have hz5 := hb5.size
  have HB45 := Lib.hid hb5
  have HB5 := Lib.hid (HB4.out.trans (hb5.mono (by omega)))
  have HC := Lib.hid (coreNew_any [lbc, lbl] 2 0 0 lbc _ w5 hL5 (by simp; omega) rfl)
  clear hL5 hb5 HLc HB4 Hr4 kx4
  go_wp2_with fail
  refine HC.out.mono ?_
  rintro e w6 ⟨bc, ac, cc, rfl, hbc, hR6, hb6⟩
  have hz6 := hb6.size
  have hlt6 := ltOf hR6.blk
  have HG6 := Lib.hid (show Grows w w6 [bc, lbc, lbl] lbl (newLog vl 3 vlc ll 0 llc [1, 2, 3] []) bc lbc ac cc (newLog vc 3 vcc lc 0 lcc [1, 2, 3] []) [] from
    ⟨((HL4.out.ext (Ext.add (G := [bc, lbc]) (by simp; omega))).below' HB45.out).below' hb6, hR6, ⟨by simp; omega, by simp; omega, HB5.out.trans (hb6.mono (by omega))⟩, ⟨rfl, rfl, rfl, Nat.le_refl _⟩, ⟨by simp, by simp⟩, by simp [newLog, own, Value.ownBlock]; omega, by simp [newLog, own, Value.ownBlock]; omega⟩)
  clear hR6 hb6 HC HB5 HL4 HB45
  go_wp2_with fail
  generalize hM0 : newLog vl 3 vlc ll 0 llc [1, 2, 3] [] = M0 at HG6
  clear hM0 hlt4 hlt5 hlt6 hltx4 hlbl hlbc hbc hz6 hz5 hz4 hz3
  go_loopw [37] (fun i wr => ∃ (k : Nat) (G : List Nat) (M : LogC) (E : List Ent), k ≤ ds.length ∧ i = .int .i64 k ∧ E.length ≤ k ∧ Grows w wr G lbl M bc lbc ac cc (newLog vc 3 vcc lc 0 lcc [1, 2, 3] []) E)
    (fun i _ => ds.length - (intOf i).toNat)
  case atStart => exact ⟨0, _, _, [], Nat.zero_le _, rfl, Nat.zero_le _, HG6.out⟩
  case round =>
    obtain ⟨k, G, M, E, hk1, rfl, hEk, hG⟩ := hrel
    have HG := Lib.hid hG
    clear hG HG6
    by_cases hkl : k < ds.length
    · obtain ⟨s, hs⟩ : ∃ s, ds[k]? = some s := ⟨ds[k], by simp [hkl]⟩
      obtain ⟨bx, off, rfl, hbx, hcx⟩ : ∃ bx off, da = some ⟨bx, off, none⟩ ∧ bx < w.heap.size ∧ ∀ j u, (ds.map SI.cell)[j]? = some u → w.cell? ⟨bx, off + j, none⟩ = some u := by
        rcases Hds.out.2.2.2.2 with h0 | ⟨bx, off, h1, h2, _, h5⟩
        · exact absurd hkl (by rw [show ds.length = 0 from h0]; omega)
        · exact ⟨bx, off, h1, h2, h5⟩
      have e0 : wr.cell? ⟨bx, off + k, none⟩ = some (.slice s.a s.n s.c) := (HG.out.ow.below.cell (p := ⟨bx, off + k, none⟩) hbx).trans (hcx k _ (by simp [hs, SI.cell]))
      have hltbx : bx < wr.heap.size := Nat.lt_of_lt_of_le hbx HG.out.ow.below.size
      have Hs := Lib.hid (Hdb.out s (List.mem_of_getElem? hs))
      clear hcx hs
      by_cases hg : k < 20 ∧ s.n ≤ 2048
      · obtain ⟨hk20, hsn⟩ := hg
        have HLa := Lib.hid (last_any lbl M wr HG.out.log.log)
        rw [(HG.out.holds.last HG.out.lead).1] at HLa
        have hw1 : IntKind.i64.wrap ((E.length : Int) + 1) = (E.length : Int) + 1 := IntWalk.i64_in _ (by omega)
        have hsn' : (s.n : Int) ≤ 2048 := by omega
        go_wp2_with fail
        refine HLa.out.mono ?_
        rintro e w7 ⟨rfl, hb7⟩
        go_wp2_with fail
        have hb8 : Below wr.heap.size wr (w7.alloc (.cells #[.int .i64 ((E.length : Int) + 1), .int .i64 3, .int .i64 1, .slice s.a s.n s.c] 48)) := hb7.alloc hb7.size _
        obtain ⟨W8, hW8⟩ : ∃ W8, W8 = w7.alloc (.cells #[.int .i64 ((E.length : Int) + 1), .int .i64 3, .int .i64 1, .slice s.a s.n s.c] 48) := ⟨_, rfl⟩
        have hx8 : W8.heap[w7.heap.size]? = some (.cells #[.int .i64 ((E.length : Int) + 1), .int .i64 3, .int .i64 1, .slice s.a s.n s.c] 48 (0, 0)) := by rw [hW8, heap_alloc, if_pos rfl]
        rw [← hW8] at hb8
        have HA := Lib.hid (grow_any w W8 G lbl M bc lbc ac cc vc lc 3 vcc 0 lcc [1, 2, 3] [] E (HG.out.below' hb8) (by omega) w7.heap.size s Hs.out hsn hx8 (fun hm => by have := HG.out.ow.lt _ (HG.out.log.mem _ hm); have := hb7.size; omega))
        rw [← hW8]
        clear hW8 hx8 hb8 hb7 HLa HG e0
        refine HA.out.mono ?_
        rintro e w9 ⟨rfl, G9, M9, hG9, _⟩
        have HG9 := Lib.hid hG9
        clear hG9 HA
        go_wp2_with fail
        go_roundw
        case rel => exact ⟨k + 1, G9, M9, _, by omega, by go_num, by simp; omega, HG9.out⟩
        case measure => simp [intOf]; omega
      · by_cases hk20 : k < 20
        · have hsn : decide ((s.n : Int) ≤ 2048) = false := by simp; omega
          have hk20' : decide ((k : Int) < 20) = true := by simp; omega
          go_wp2_with fail
          go_roundw
          case rel => exact ⟨k + 1, G, M, E, by omega, by go_num, by omega, HG.out⟩
          case measure => simp [intOf]; omega
        · have hk20' : decide ((k : Int) < 20) = false := by simp; omega
          go_wp2_with fail
          go_roundw
          case rel => exact ⟨k + 1, G, M, E, by omega, by go_num, by omega, HG.out⟩
          case measure => simp [intOf]; omega
    · have HLa := Lib.hid (last_any lbl M wr HG.out.log.log)
      rw [(HG.out.holds.last HG.out.lead).1] at HLa
      go_wp2_with fail
      refine HLa.out.mono ?_
      rintro e w7 ⟨rfl, hb7⟩
      obtain ⟨b0, b31⟩ := band31 cm
      have hGb := HG.out.below' hb7
      have hE20 := hGb.lead.1
      have HF7 := Lib.hid (show Fedd w w7 [bc, lbc] G lbl M bc (follower lbc ac cc) (newLog vc 3 vcc lc 0 lcc [1, 2, 3] []) (bits .and .i64 cm 31) E 0 0 from
        ⟨hGb.log, hGb.core.narrow (by have h1 := hGb.core.bF; have h2 := hGb.core.rest.mem lbc (by rw [foot_follower]; simp); intro x hx; simp at hx; rcases hx with rfl | rfl; exact h1; exact h2) (by rw [foot_follower]; simp), by have h1 := hGb.core.bF; have h2 := hGb.core.rest.mem lbc (by rw [foot_follower]; simp); intro x hx; simp at hx; rcases hx with rfl | rfl; exact h1; exact h2,
         hGb.ow, hGb.holds, hGb.lead, by intro x hx; simp at hx; rcases hx with rfl | rfl; exact hGb.bn; exact hGb.ln, ⟨rfl, by simp [follower, newCore], .inl rfl, ⟨rfl, rfl, by simp [newLog], Nat.zero_le _⟩, by simp [follower, newCore], by simpa [follower, newCore] using b0, by simp [follower, newCore], by simp [follower, newCore]⟩⟩)
      clear hGb hb7 HLa HG
      go_wp2_with fail
      go_loopw [69] (fun i wr => ∃ (k p q : Nat) (F G : List Nat) (c : CoreC) (L : LogC), k ≤ os.length ∧ i = .int .i64 k ∧ q ≤ k ∧ q ≤ 60 ∧ Fedd w wr F G lbl M bc c L (bits .and .i64 cm 31) E p q)
        (fun i _ => os.length - (intOf i).toNat)
      case atStart => exact ⟨0, 0, 0, _, _, _, _, Nat.zero_le _, rfl, Nat.le_refl _, Nat.zero_le _, HF7.out⟩
      case round =>
        obtain ⟨k, p, q, F, G, c, L, hk1, rfl, hqk, hq60, hF⟩ := hrel
        have HF := Lib.hid hF
        clear hF HF7
        by_cases hkl : k < os.length
        · obtain ⟨ob, off, rfl, hob, hcx⟩ : ∃ b off, oa = some ⟨b, off, none⟩ ∧ b < w.heap.size ∧ ∀ j, j < os.length → w.cell? ⟨b, off + j, none⟩ = some (.int .i64 (os.getD j 0)) := by
            rcases Hos.out.cells with ⟨_, he⟩ | ⟨b, off, h1, h2, _, _, h5⟩
            · rw [he] at hkl; simp at hkl
            · exact ⟨b, off, h1, h2, h5⟩
          have e0 := (HF.out.ow.below.cell (p := ⟨ob, off + k, none⟩) hob).trans (hcx k hkl)
          have hltob : ob < wr.heap.size := Nat.lt_of_lt_of_le hob HF.out.ow.below.size
          generalize os.getD k 0 = v at e0
          clear hcx
          by_cases hk60 : k < 60
          · have hk60' : decide ((k : Int) < 60) = true := by simp; omega
            go_wp2_with fail
            obtain ⟨v0, v31⟩ := band31 v
            obtain ⟨u0, u7⟩ := band7 (v / 32)
            obtain ⟨xn, hxn⟩ : ∃ xn : Nat, bits .and .i64 v 31 = (xn : Int) := ⟨(bits .and .i64 v 31).toNat, by omega⟩
            obtain ⟨nn, hnn⟩ : ∃ nn : Nat, 1 + bits .and .i64 (v / 32) 7 = (nn : Int) := ⟨(1 + bits .and .i64 (v / 32) 7).toNat, by omega⟩
            have hnw : wrap64 (1 + bits .and .i64 (v / 32) 7) = (nn : Int) := by rw [hnn]; unfold wrap64; omega
            rw [hxn, hnw]
            have HFd := Lib.hid (fed_any w wr F G lbl M bc c L cm E p q xn nn HF.out (by omega) (by omega) (by omega) (by omega))
            clear hxn hnn hnw v0 v31 u0 u7 e0
            refine HFd.out.mono ?_
            rintro e w8 ⟨rfl, F8, G8, c8, L8, p8, hF8, _, _, _⟩
            have HF8 := Lib.hid hF8
            clear hF8 HFd
            go_wp2_with fail
            go_roundw
            case rel => exact ⟨k + 1, p8, q + 1, F8, G8, c8, L8, by omega, by go_num, by omega, by omega, HF8.out⟩
            case measure => simp [intOf]; omega
          · have hk60' : decide ((k : Int) < 60) = false := by simp; omega
            go_wp2_with fail
            go_roundw
            case rel => exact ⟨k + 1, p, q, F, G, c, L, by omega, by go_num, by omega, hq60, HF.out⟩
            case measure => simp [intOf]; omega
        · go_wp2_with fail
          go_loopw [18] (fun i wr => ∃ (x p q : Nat) (F G : List Nat) (c : CoreC) (L : LogC), x ≤ E.length + 1 ∧ i = .int .i64 x ∧ q ≤ 60 + x ∧ Fedd w wr F G lbl M bc c L (bits .and .i64 cm 31) E p q ∧
              (1 ≤ x → c.term = 3 ∧ c.lead = 1 ∧ min x E.length ≤ p) ∧ (x = E.length + 1 → min (bits .and .i64 cm 31) (E.length : Int) ≤ c.commit))
            (fun i _ => E.length + 1 - (intOf i).toNat)
          case atStart => exact ⟨0, p, q, F, G, c, L, Nat.zero_le _, rfl, hq60, HF.out, fun h => by omega, fun h => by omega⟩
          case round =>
            obtain ⟨x, p, q, F, G, c, L, hx1, rfl, hqx, hF, hx3, hx4⟩ := hrel
            have HFx := Lib.hid hF
            have Hx3 := Lib.hid hx3
            have Hx4 := Lib.hid hx4
            clear hF hx3 hx4 HF
            by_cases hxl : x ≤ E.length
            · have hxd : decide ((x : Int) ≤ (E.length : Int)) = true := by simp; omega
              have hfd := fed_any w wr F G lbl M bc c L cm E p q x 1 HFx.out (by omega) (by omega) (by omega) (by omega)
              rw [show ((1 : Nat) : Int) = 1 from rfl] at hfd
              have HFd := Lib.hid hfd
              clear hfd
              go_wp2_with fail
              refine HFd.out.mono ?_
              rintro e w8 ⟨rfl, F8, G8, c8, L8, p8, hF8, hp8, ht8, hm8⟩
              have hE := HFx.out.fol.holds.p
              have hxp : x ≤ p := by
                rcases Nat.eq_zero_or_pos x with h0 | h0
                · omega
                · have := (Hx3.out h0).2.2; omega
              have HF8 := Lib.hid hF8
              have H8 := Lib.hid (show (1 ≤ x + 1 → c8.term = 3 ∧ c8.lead = 1 ∧ min (x + 1) E.length ≤ p8) ∧ (x + 1 = E.length + 1 → min (bits .and .i64 cm 31) (E.length : Int) ≤ c8.commit) from by
                obtain ⟨m1, m2⟩ := hm8 hxp
                refine ⟨fun _ => ⟨(ht8 (.inr hxl)).1, (ht8 (.inr hxl)).2, by omega⟩, fun he => ?_⟩
                have : x + min 1 (E.length - x) = E.length := by omega
                rw [this] at m2
                exact m2)
              clear hF8 hp8 ht8 hm8 HFd
              go_wp2_with fail
              go_roundw
              case rel => exact ⟨x + 1, p8, q + 1, F8, G8, c8, L8, by omega, by go_num, by omega, HF8.out, H8.out.1, H8.out.2⟩
              case measure => simp [intOf]; omega
            · have hxd : decide ((x : Int) ≤ (E.length : Int)) = false := by simp; omega
              obtain rfl : x = E.length + 1 := by omega
              obtain ⟨t3, l1, hp⟩ := Hx3.out (by omega)
              have hc := Hx4.out rfl
              have hpE : p = E.length := by have := HFx.out.fol.holds.p; omega
              have hcc : c.commit = min (bits .and .i64 cm 31) (E.length : Int) := by
                have h1 := HFx.out.fol.cC
                have h2 := HFx.out.fol.cp
                rw [hpE] at h2
                omega
              have hcore := HFx.out.core
              have HLg := Lib.hid (log_any hcore)
              have hdc : ∀ e ∈ L.es, RBytes wr (fun b => b ∉ F) e.da e.dn e.dc e.d ∧ e.dn ≤ 2048 := fun e he => ⟨hcore.rest.log.d e he, by
                obtain ⟨j, hj⟩ := List.mem_iff_getElem?.1 he
                obtain ⟨_, h2⟩ := HFx.out.fol.holds.get hj
                obtain ⟨_, _, _, e4⟩ := HFx.out.lead.2 _ _ h2
                have e4 : e.d.length ≤ 2048 := e4
                rw [(hcore.rest.log.d e he).1]; exact e4⟩
              have HEc := Lib.hid (entries_any (fun b => b ∉ F) c.lb L 0 100 wr hcore.rest.log.log (LogC.wf_ab hcore.rest.log.wf) hdc (by omega) (by omega) (by omega))
              rw [show ((100 : Nat) : Int) = 100 from rfl] at HEc
              have hdm : ∀ e ∈ M.es, RBytes wr (fun b => b ∉ G) e.da e.dn e.dc e.d ∧ e.dn ≤ 2048 := fun e he => ⟨HFx.out.log.d e he, by
                obtain ⟨j, hj⟩ := List.mem_iff_getElem?.1 he
                obtain ⟨_, h2⟩ := HFx.out.holds.get hj
                obtain ⟨_, _, _, e4⟩ := HFx.out.lead.2 _ _ h2
                have e4 : e.d.length ≤ 2048 := e4
                rw [(HFx.out.log.d e he).1]; exact e4⟩
              have HEm := Lib.hid (fun (W : World) (hb : Below wr.heap.size wr W) => entries_any (fun b => b ∉ G) lbl M 0 100 W (HFx.out.log.log.below hb) (LogC.wf_ab HFx.out.log.wf) (fun e he => ⟨(hdm e he).1.below hb, (hdm e he).2⟩) (by omega) (by omega) (by omega))
              rw [show ((100 : Nat) : Int) = 100 from rfl] at HEm
              have Hblk := Lib.hid hcore.blk
              have hhold : Holds L E E.length := by have := HFx.out.fol.holds; rw [hpE] at this; exact this
              have Hw1 := Lib.hid (entries_whole hhold HFx.out.lead)
              have Hw2 := Lib.hid (entries_whole HFx.out.holds HFx.out.lead)
              have Hcc := Lib.hid hcc
              have Ht3 := Lib.hid t3
              have Hl1 := Lib.hid l1
              have HOw := Lib.hid HFx.out.ow
              have hltb := ltOf hcore.blk
              clear hcore hdc hdm hhold hcc t3 l1 hc hp hpE Hx3 Hx4 HFx
              go_wp2_with fail
              refine HLg.out.mono ?_
              rintro e w8 ⟨rfl, rfl⟩
              go_wp2_with fail
              refine HEc.out.mono ?_
              rintro e w9 ⟨s1, rfl, hn1, hs1, hd1, hab1, hb9⟩
              have HEm9 := Lib.hid (HEm.out w9 hb9)
              have Hs1 := Lib.hid hs1
              have Hd1 := Lib.hid hd1
              have Hn1 := Lib.hid hn1
              have Hab1 := Lib.hid (hab1.trans Hw1.out)
              have HB9 := Lib.hid hb9
              clear hs1 hd1 hn1 hab1 hb9 HEm HEc HLg
              go_wp2_with fail
              refine HEm9.out.mono ?_
              rintro e w10 ⟨s2, rfl, hn2, hs2, hd2, hab2, hb10⟩
              have HSm := Lib.hid (same_any (fun _ => True) (fun _ => True) s1.es s2.es s1.a s2.a s1.n s1.c s2.n s2.c w10 Hn1.out hn2 ((Hs1.out.below hb10).mono (fun _ _ _ => trivial)) (hs2.mono (fun _ _ _ => trivial))
                (fun e he => ((Hd1.out e he).below hb10).mono (fun _ _ _ => trivial)) (fun e he => (hd2 e he).mono (fun _ _ _ => trivial)) (Hab1.out.trans (hab2.trans Hw2.out).symm))
              have HB10 := Lib.hid (HB9.out.trans (hb10.mono HB9.out.size))
              clear hn2 hs2 hd2 hab2 hb10 HEm9 Hs1 Hd1 Hn1 Hab1
              go_wp2_with fail
              refine HSm.out.mono ?_
              rintro e w11 ⟨rfl, hb11⟩
              have hball := HB10.out.trans (hb11.mono HB10.out.size)
              have hblk := (hball.block _ hltb).trans Hblk.out
              have R1 := Lib.hid (commit_blk hblk Hcc.out)
              have R2 := Lib.hid (lead_blk hblk Hl1.out)
              have R3 := Lib.hid (term_blk hblk Ht3.out)
              have HBall := Lib.hid (HOw.out.below.trans (hball.mono HOw.out.below.size))
              clear hball hblk hb11 HSm HB10
              go_wp2_with fail
              refine R1.out.mono ?_
              rintro e w12 ⟨rfl, rfl⟩
              go_wp2_with fail
              refine R2.out.mono ?_
              rintro e w12 ⟨rfl, rfl⟩
              go_wp2_with fail
              refine R3.out.mono ?_
              rintro e w12 ⟨rfl, rfl⟩
              go_wp2_with fail
              go_ret
              exact ⟨rfl, HBall.out⟩
end Go.Proofs.YtjbnmamgfpnccaaGreat
