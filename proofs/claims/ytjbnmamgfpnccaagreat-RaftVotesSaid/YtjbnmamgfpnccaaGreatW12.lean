/- RaftVotes, walked. -/
import Derived.Test.YtjbnmamgfpnccaaGreatW11
import Derived.Test.YtjbnmamgfpnccaaGreatX2
import Derived.Test.YtjbnmamgfpnccaaGreatX3
namespace Go.Proofs.YtjbnmamgfpnccaaGreat
open Go Go.RowKit Go.Sort

def zeros : Array Value := #[.int .i64 0, .int .i64 0, .int .i64 0, .int .i64 0, .int .i64 0, .int .i64 0, .int .i64 0, .int .i64 0, .int .i64 0, .int .i64 0]
theorem msgCells_get (ms : List MsgC) (n : Nat) (m : MsgC) (h : ms[n]? = some m) : ∀ j u, m.cells[j]? = some u → (msgCells ms)[n * 14 + j]? = some u := by
  induction ms generalizing n with
  | nil => simp at h
  | cons x ms ih =>
    intro j u hu
    have hl : x.cells.length = 14 := rfl
    cases n with
    | zero =>
      simp at h; subst h
      show (x.cells ++ msgCells ms)[0 * 14 + j]? = _
      rw [List.getElem?_append_left (by have := (List.getElem?_eq_some_iff.1 hu).1; omega)]
      rw [Nat.zero_mul, Nat.zero_add]; exact hu
    | succ n =>
      have := ih n (by simpa using h) j u hu
      show (x.cells ++ msgCells ms)[(n + 1) * 14 + j]? = _
      rw [List.getElem?_append_right (by omega), hl, ← this]
      congr 1; omega

theorem RInts.none {w w' : World} {Q : Nat → Prop} {a : Option Addr} {c : Nat} {xs : List Int} (h : RInts w Q a 0 c xs) : RInts w' Q a 0 c xs := ⟨h.1, h.2.1, h.2.2.1, h.2.2.2.1, h.2.2.2.2.1, .inl rfl⟩
theorem RBytes.none {w w' : World} {Q : Nat → Prop} {a : Option Addr} {c : Nat} {xs : List Int} (h : RBytes w Q a 0 c xs) : RBytes w' Q a 0 c xs := ⟨h.1, h.2.1, h.2.2.1, h.2.2.2.1, h.2.2.2.2.1, .inl rfl⟩
/-- A store elsewhere leaves the member be. -/
theorem voter_keep {w w' : World} {b lb yb cc vc lc : Nat} {a va la : Option Addr} {T V : Int} {vs : List Int} (h : RCore w [b, lb] b (voter lb a cc T V) (newLog va 5 vc la 0 lc vs [])) (hc : Chg [yb] w w') (h1 : b ≠ yb) (h2 : lb ≠ yb)
    (hv : RInts w (fun x => x ≠ yb ∧ x ∉ [b, lb]) va 5 vc vs) : RCore w' [b, lb] b (voter lb a cc T V) (newLog va 5 vc la 0 lc vs []) := by
  have hr := h.rest
  exact ⟨hc.get h.blk (by simpa using h1), ⟨⟨⟨hc.get hr.log.log.blk (by simpa [voter, newCore] using h2), hc.owns hr.log.log.own (by simp [newLog, Value.ownBlock]), hr.log.log.ne, hr.log.log.few⟩, hr.log.wf,
    (hv.chg hc (fun x _ hq => by simpa using hq.1)).mono (fun x _ hq => hq.2), hr.log.l.none, by simp [newLog], hr.log.mem⟩, ⟨rfl, hc.owns hr.yes.2 (by simp [voter, newCore, SI.nil, Value.ownBlock])⟩,
    ⟨hr.snap.v.none, hr.snap.l.none, hr.snap.d.none⟩, hr.cv.none, hr.cl.none, ⟨rfl, hc.owns hr.cd.2 (fun k hk => absurd (show (none : Option Nat) = some k from hk) (by simp))⟩, rfl, by simp [voter, newCore], hr.nod, ⟨rfl, hc.owns hr.out.2 (by simp [voter, newCore, Value.ownBlock])⟩, by simp [voter, newCore], hr.mem, hr.apart⟩, h.bF, h.b0⟩

def said (f T : Int) (ok : Bool) : MsgC := ⟨4, 1, f, T, 0, 0, 0, ok, .nil, 0, .nil, false, .nil, .nil⟩
theorem askOf_ok (f t i l : Int) (f1 : 2 ≤ f) (f2 : f ≤ 5) (t1 : 1 ≤ t) (t2 : t ≤ 8) (i1 : 0 ≤ i) (i2 : i ≤ 3) (l1 : 0 ≤ l) (l2 : l ≤ 3) : MsgOk (askOf f t i l) :=
  ⟨by simp [askOf], by simp [askOf], by simp [askOf]; omega, by simp [askOf]; omega, by simp [askOf], by simp [askOf], by simp [askOf]; omega, by simp [askOf]; omega, by simp [askOf]; omega, by simp [askOf]; omega, by simp [askOf]; omega, by simp [askOf], by simp [askOf]; omega, by simp [askOf]; omega, by simp [askOf], by simp [askOf], by simp [askOf], by simp [askOf], by simp [askOf], ⟨by simp [askOf, SE.nil], by simp [askOf, SE.nil], by simp [askOf, SE.nil]⟩, by simp [askOf, SE.nil], rfl, rfl, rfl, rfl, rfl⟩
/-- An ask is answered. -/
theorem votesStep (F : List Nat) (b lb cc : Nat) (a : Option Addr) (T V : Int) (Y : List Int) (L : LogC) (f t i l : Int) (w : World) (h : RCore w F b (voter lb a cc T V) L) (hV : VInv T V Y)
    (f1 : 2 ≤ f) (f2 : f ≤ 5) (t1 : 1 ≤ t) (t2 : t ≤ 8) (i1 : 0 ≤ i) (i2 : i ≤ 3) (l1 : 0 ≤ l) (l2 : l ≤ 3) :
    Calls Tryz.prog 9 #[.pointer (some ⟨b, 0, none⟩), .agg (askOf f t i l).cells.toArray] w fun e w' => e = .returned (.tuple #[]) ∧ ∃ F' oa on oc T1 V1 ok, RCore w' F' b ((voter lb a cc T1 V1).withOut oa on oc [said f T1 ok]) L ∧ Upd F F' w w' ∧
      t ≤ T1 ∧ T1 ≤ 8 ∧ (ok = false ∧ VInv T1 V1 Y ∨ ok = true ∧ T1 = t ∧ (Y[T1.toNat]? = some 0 ∨ Y[T1.toNat]? = some f) ∧ VInv T1 V1 (Y.set T1.toNat f)) := by
  refine (stepAsk_any F b _ L (askOf f t i l) w h ⟨rfl, RSl.nil _ _ _, by simp [askOf, SE.nil]⟩ (askOf_ok f t i l f1 f2 t1 t2 i1 i2 l1 l2) rfl rfl (by simp [voter, newCore])).mono ?_
  rintro e w' ⟨rfl, F', oa, on, oc, hU, ⟨hlt, hR⟩ | ⟨hge, hR⟩⟩
  · exact ⟨rfl, F', oa, on, oc, T, V, false, hR, hU, Int.le_of_lt hlt, hV.t8, .inl ⟨rfl, hV⟩⟩
  · obtain ⟨V1, ok, he, hok⟩ := votes_round lb a cc T V Y L f t i l hV t1 t2 hge oa on oc
    refine ⟨rfl, F', oa, on, oc, t, V1, ok, ?_, hU, Int.le_refl _, t2, ?_⟩
    · have hR' : RCore w' F' b ((((voter lb a cc T V).come t).voted L (askOf f t i l)).withOut oa on oc [(sayMsg f (granted ((voter lb a cc T V).come t) L (askOf f t i l))).sent (((voter lb a cc T V).come t).voted L (askOf f t i l))]) L := hR
      rw [he] at hR'
      exact hR'
    · rcases hok with ⟨h1, h2⟩ | ⟨h1, h2, h3⟩
      · exact .inl ⟨h1, h2⟩
      · exact .inr ⟨h1, rfl, h2, h3⟩

theorem ysSet {w : World} {yb n : Nat} {Y : List Int} {f : Int} (h : w.heap[yb]? = some (.cells (Y.map (Value.int .i64)).toArray 3 (0, 0))) : (w.setCell ⟨yb, n, none⟩ (.int .i64 f)).heap[yb]? = some (.cells ((Y.set n f).map (Value.int .i64)).toArray 3 (0, 0)) := by
  rw [heap_set h, List.map_set]
  simp
theorem mk10 (w : World) : (Instr.makeSlice 24 (.int .i64 10) (.int .i64 10)).run Tryz.prog w = .ok (.slice (some ⟨w.heap.size, 0, none⟩) 10 10) (w.alloc (.cells zeros 3)) := by kernel_rfl
set_option maxRecDepth 100000 in
set_option maxHeartbeats 4000000 in
theorem votes_any (w : World) (aa : Option Addr) (an ac : Nat) (ms : List MsgC) (hn : an = ms.length) (hms : RSl w (fun _ => True) 14 aa an ac (msgCells ms)) :
    Calls Tryz.prog 3 #[.slice aa an ac] w fun e w' => e = .returned (.bool true) ∧ Below w.heap.size w w' := by
  have hlen : (ms.length : Int) ≤ 9223372036854775807 := by
    have h1 := hms.1
    have h2 := hms.2.1
    unfold maxLen at h2
    omega
  have Hms := Lib.hid hms
  subst hn
  clear hms
  go_enter Tryz.func3, Tryz.ntmps3
  go_wp2_with fail
  refine (alive_any w).mono ?_
  rintro e w1 ⟨rfl, hb1⟩
  have hz1 := hb1.size
  have HB1 := Lib.hid hb1
  clear hb1
  go_wp2_with fail
  obtain ⟨W, hW⟩ : ∃ W, W = (w1.alloc (.cells #[.int .i64 1, .int .i64 2, .int .i64 3, .int .i64 4, .int .i64 5] 3)).alloc (.cells #[.slice (some ⟨w1.heap.size, 0, none⟩) 5 5, .slice none 0 0] 26) := ⟨_, rfl⟩
  rw [← hW]
  have hB : Below w1.heap.size w1 W := by rw [hW]; exact ((Below.refl _ w1).alloc (Nat.le_refl _) _).alloc (by simp) _
  have hv : RInts W (fun _ => True) (some ⟨w1.heap.size, 0, none⟩) 5 5 [1, 2, 3, 4, 5] := ⟨rfl, RSl.ofBlk (cur := #[.int .i64 1, .int .i64 2, .int .i64 3, .int .i64 4, .int .i64 5]) (e := 3) (fz := (0, 0)) (by rw [hW, heap_alloc_ne (by simp), heap_alloc, if_pos rfl]) trivial (Nat.le_refl _) (by unfold maxLen; omega) rfl (fun j u hu => by simpa using hu)⟩
  have hzW := hB.size
  have HL := Lib.hid (newLog_any [] (fun _ => True) _ none 5 5 0 0 [1, 2, 3, 4, 5] [] W hv ⟨rfl, RSl.nil _ _ _⟩ (by omega) (by omega) (by simp))
  have HBW := Lib.hid (HB1.out.trans (hB.mono (by omega)))
  clear hB hv hW HB1
  refine HL.out.mono ?_
  rintro e w2 ⟨lb, va, vc, la, lc, rfl, hlb, hlt2, hL2, hb2⟩
  have hz2 := hb2.size
  have HC := Lib.hid (coreNew_any [lb] 1 0 0 lb _ w2 hL2 (by simpa using hlt2) rfl)
  have HB2 := Lib.hid (HBW.out.trans (hb2.mono (by omega)))
  clear hL2 hb2 HL HBW
  go_wp2_with fail
  refine HC.out.mono ?_
  rintro e w3 ⟨b, a, cc, rfl, hbb, hR3, hb3⟩
  have hz3 := hb3.size
  have hlt3 := ltOf hR3.blk
  have HR3 := Lib.hid (show RCore w3 [b, lb] b (voter lb a cc 0 0) (newLog va 5 vc la 0 lc [1, 2, 3, 4, 5] []) from hR3)
  have HO3 := Lib.hid (show Own w w3 [b, lb] from ⟨by simp; omega, by simp; omega, HB2.out.trans (hb3.mono (by omega))⟩)
  clear hR3 hb3 HC HB2
  have hmk := mk10
  unfold zeros at hmk
  go_wp2_with fail
  obtain ⟨W4, hW4⟩ : ∃ W4, W4 = w3.alloc (.cells zeros 3) := ⟨_, rfl⟩
  have hB4 : Below w3.heap.size w3 W4 := by rw [hW4]; exact (Below.refl _ w3).alloc (Nat.le_refl _) _
  have hy4 : W4.heap[w3.heap.size]? = some (.cells ((List.replicate 10 (0 : Int)).map (Value.int .i64)).toArray 3 (0, 0)) := by rw [hW4, heap_alloc, if_pos rfl]; rfl
  have HR4 := Lib.hid (HR3.out.below hB4)
  have HV4 := Lib.hid (show RInts W4 (fun x => x ≠ w3.heap.size ∧ x ∉ [b, lb]) va 5 vc [1, 2, 3, 4, 5] from (RInts.mono (Q' := fun x => x ≠ w3.heap.size ∧ x ∉ [b, lb]) HR3.out.rest.log.v (fun x hx hq => ⟨by omega, hq⟩)).below hB4)
  have HY4 := Lib.hid hy4
  have HO4 := Lib.hid (show Own w W4 [w3.heap.size, b, lb] from ⟨by have := HO3.out.lt; have := hB4.size; have := ltOf hy4; simp at *; omega, by have := HO3.out.ge; have := HO3.out.below.size; simp at *; omega, HO3.out.below.trans (hB4.mono HO3.out.below.size)⟩)
  unfold zeros at hW4
  rw [← hW4]
  have hybb : b < w3.heap.size := hlt3
  have hybl : lb < w3.heap.size := by omega
  clear hW4 hB4 hy4 HR3 HO3 hmk hlt3
  generalize w3.heap.size = yb at *
  go_loopw [23] (fun i wr => ∃ (k : Nat) (T V : Int) (Y : List Int), k ≤ ms.length ∧ i = .int .i64 k ∧ VInv T V Y ∧ RCore wr [b, lb] b (voter lb a cc T V) (newLog va 5 vc la 0 lc [1, 2, 3, 4, 5] []) ∧
      wr.heap[yb]? = some (.cells (Y.map (Value.int .i64)).toArray 3 (0, 0)) ∧ Own w wr [yb, b, lb] ∧ RInts wr (fun x => x ≠ yb ∧ x ∉ [b, lb]) va 5 vc [1, 2, 3, 4, 5])
    (fun i _ => ms.length - (intOf i).toNat)
  case atStart => exact ⟨0, 0, 0, List.replicate 10 0, Nat.zero_le _, rfl, VInv.start, HR4.out, HY4.out, HO4.out, HV4.out⟩
  case round =>
    obtain ⟨k, T, V, Y, hk1, rfl, hV, hR, hY, hO, hva⟩ := hrel
    have HV := Lib.hid hV
    have HR := Lib.hid hR
    have HY := Lib.hid hY
    have HO := Lib.hid hO
    have HVa := Lib.hid hva
    clear hV hR hY hO hva HR4 HY4 HO4 HV4
    by_cases hkl : k < ms.length
    · obtain ⟨m, hm⟩ : ∃ m, ms[k]? = some m := ⟨ms[k], by simp [hkl]⟩
      obtain ⟨bx, off', rfl, hbx, hcx⟩ : ∃ bx off, aa = some ⟨bx, off, none⟩ ∧ bx < w.heap.size ∧ ∀ j u, (msgCells ms)[j]? = some u → w.cell? ⟨bx, off + j, none⟩ = some u := by
        rcases Hms.out.2.2.2.2 with h0 | ⟨bx, off, h1, h2, _, h5⟩
        · exact absurd hkl (by rw [show ms.length = 0 from h0]; omega)
        · exact ⟨bx, off, h1, h2, h5⟩
      have hget : ∀ j u, m.cells[j]? = some u → wr.cell? ⟨bx, off' + k * 14 + j, none⟩ = some u := fun j u hu => by
        rw [Nat.add_assoc]
        exact (HO.out.below.cell (p := ⟨bx, off' + (k * 14 + j), none⟩) hbx).trans (hcx _ _ (msgCells_get ms k m hm j u hu))
      have hbxr : bx < wr.heap.size := Nat.lt_of_lt_of_le hbx HO.out.below.size
      obtain ⟨kind, frm, to, term, idx, lt, cm, ok, es, off, data, last, v, l⟩ := m
      have e0 := hget 0 _ rfl
      have e1 := hget 1 _ rfl
      have e2 := hget 2 _ rfl
      have e3 := hget 3 _ rfl
      have e4 := hget 4 _ rfl
      have e5 := hget 5 _ rfl
      have e6 := hget 6 _ rfl
      have e7 := hget 7 _ rfl
      have e8 := hget 8 _ rfl
      have e9 := hget 9 _ rfl
      have e10 := hget 10 _ rfl
      have e11 := hget 11 _ rfl
      have e12 := hget 12 _ rfl
      have e13 := hget 13 _ rfl
      dsimp only at e0 e1 e2 e3 e4 e5 e6 e7 e8 e9 e10 e11 e12 e13
      simp only [Nat.add_zero] at e0
      obtain ⟨f0, f3⟩ := band3 frm
      obtain ⟨t0, t7⟩ := band7 term
      obtain ⟨i0, i3⟩ := band3 idx
      obtain ⟨l0, l3⟩ := band3 lt
      have hwf : IntKind.i64.wrap (2 + bits .and .i64 frm 3) = 2 + bits .and .i64 frm 3 := IntWalk.i64_in _ (by omega)
      have hwt : IntKind.i64.wrap (1 + bits .and .i64 term 7) = 1 + bits .and .i64 term 7 := IntWalk.i64_in _ (by omega)
      clear hget hcx hm
      go_wp2_with fail
      have hxl : wr.heap.size < (wr.alloc (.cells (askOf (2 + bits .and .i64 frm 3) (1 + bits .and .i64 term 7) (bits .and .i64 idx 3) (bits .and .i64 lt 3)).cells.toArray 36)).heap.size := by rw [size_alloc]; omega
      generalize bits .and .i64 frm 3 = f9 at *
      generalize bits .and .i64 term 7 = t9 at *
      generalize bits .and .i64 idx 3 = i9 at *
      generalize bits .and .i64 lt 3 = l9 at *
      clear e0 e1 e2 e3 e4 e5 e6 e7 e8 e9 e10 e11 e12 e13 hwf hwt
      obtain ⟨f, hf⟩ : ∃ f, f = 2 + f9 := ⟨_, rfl⟩
      obtain ⟨t, ht⟩ : ∃ t, t = 1 + t9 := ⟨_, rfl⟩
      rw [← hf, ← ht] at hxl ⊢
      have f1 : 2 ≤ f := by omega
      have f2 : f ≤ 5 := by omega
      have t1 : 1 ≤ t := by omega
      have t2 : t ≤ 8 := by omega
      clear hf ht
      obtain ⟨W6, hW6⟩ : ∃ W6, W6 = wr.alloc (.cells (askOf f t i9 l9).cells.toArray 36) := ⟨_, rfl⟩
      have hB6 : Below wr.heap.size wr W6 := by rw [hW6]; exact (Below.refl _ wr).alloc (Nat.le_refl _) _
      have hbox : W6.heap[wr.heap.size]? = some (.cells (askOf f t i9 l9).cells.toArray 36 (0, 0)) := by rw [hW6, heap_alloc, if_pos rfl]
      rw [← hW6] at hxl
      have HS := Lib.hid (votesStep [b, lb] b lb cc a T V Y _ f t i9 l9 W6 (HR.out.below hB6) HV.out f1 f2 t1 t2 i0 i3 l0 l3)
      have hlyb := ltOf HY.out
      have hlb0 := ltOf HR.out.blk
      have hll0 := ltOf HR.out.rest.log.log.blk
      have HY6 := Lib.hid ((hB6.block _ hlyb).trans HY.out)
      have HO6 := Lib.hid (show Own w W6 [yb, b, lb] from HO.out.chg (M := []) (Chg.ofBelow hB6) (by simp))
      have HVa6 := Lib.hid (HVa.out.below hB6)
      have HBx6 := Lib.hid hbox
      unfold askOf MsgC.cells SE.nil SI.nil at hW6 HS
      dsimp only at hW6 HS
      have hW6' : W6 = wr.alloc (.cells #[.int .i64 3, .int .i64 f, .int .i64 1, .int .i64 t, .int .i64 i9, .int .i64 l9, .int .i64 0, .bool false, .slice none 0 0, .int .i64 0, .slice none 0 0, .bool false, .slice none 0 0, .slice none 0 0] 36) := hW6
      rw [← hW6']
      have hllb : lb < wr.heap.size := hll0
      clear hW6 hW6' hB6 hbox hll0 HR HY HO HVa
      refine HS.out.mono ?_
      rintro e w7 ⟨rfl, F7, oa, on, oc, T1, V1, ok1, hR7, hU7, hT1, hT8, hok⟩
      obtain ⟨g, cur, q1, hg, hcur, hgF, hgn⟩ := outs_shape hR7 (by simp [CoreC.withOut])
      have q1 : oa = some ⟨g, 0, none⟩ := q1
      have q2 : on = 1 := hR7.rest.out.1
      subst q1 q2
      have hcells : ∀ (j : Nat) (u : Value), (said f T1 ok1).cells[j]? = some u → cur[j]? = some u := fun j u hu => hcur j u (by show (msgCells [said f T1 ok1])[j]? = some u; simpa [msgCells] using hu)
      have Hcells := Lib.hid hcells
      have hgyb : g ≠ yb := fun e => by
        rcases hU7.ext.new g hgF with h1 | h1
        · rw [e] at h1; simp at h1; omega
        · rw [e] at h1; have := HO6.out.lt yb (by simp); omega
      have HOu := Lib.hid (out_any hR7)
      have Hg := Lib.hid hg
      have Hgn := Lib.hid hgn
      have Hok := Lib.hid hok
      have HU7 := Lib.hid hU7
      clear hg hgF hgn hcur hcells hok hU7 hR7 HS
      go_wp2_with fail
      refine HOu.out.mono ?_
      rintro e w8 ⟨he8, hR8, hC8⟩
      have he8 : e = .returned (.slice (some ⟨g, 0, none⟩) 1 oc) := he8
      subst he8
      have hC68 : Chg [b, lb] W6 w8 := HU7.out.chg.trans (hC8.mono (by simp))
      have HR8 := Lib.hid (show RCore w8 [b, lb] b (voter lb a cc T1 V1) (newLog va 5 vc la 0 lc [1, 2, 3, 4, 5] []) from hR8.narrow (fun x hx => HU7.out.ext.sub x hx) (by show ∀ x ∈ b :: [lb], x ∈ [b, lb]; simp))
      have HY8 := Lib.hid (hC68.get HY6.out (by simp; omega))
      have HVa8 := Lib.hid (HVa6.out.chg hC68 (fun x _ hq => hq.2))
      have hx8 := hC68.get HBx6.out (by simp; omega)
      have hg8 := hC8.get Hg.out (fun hx => Hgn.out (by simp at hx; rw [hx]; simp))
      have HO8 := Lib.hid (HO6.out.chg hC68 (by simp))
      have cx := cellsOf hx8
      have bx1 : w8.cell? ⟨wr.heap.size, 1, none⟩ = some (.int .i64 f) := by rw [cx]; rfl
      have bx3 : w8.cell? ⟨wr.heap.size, 3, none⟩ = some (.int .i64 t) := by rw [cx]; rfl
      have cg : ∀ j u, (said f T1 ok1).cells[j]? = some u → w8.cell? ⟨g, j, none⟩ = some u := fun j u hu => by rw [cellsOf hg8]; exact Hcells.out j u hu
      have Bx1 := Lib.hid bx1
      have Bx3 := Lib.hid bx3
      have Cg := Lib.hid cg
      have hlx8 := ltOf hx8
      have hlg8 := ltOf hg8
      have Hx8 := Lib.hid hx8
      have hlby := ltOf HY8.out
      clear hR8 hC8 hC68 HU7 HVa6 HY6 HBx6 Hg Hgn HO6 HOu cx bx1 bx3 cg hx8 hg8 Hcells hxl hlb0 hllb
      generalize wr.heap.size = xb at *
      go_wp2_with fail
      go_loopw [48] (fun j wi => ∃ q : Nat, q ≤ 1 ∧ j = .int .i64 q ∧ Chg [yb] w8 wi ∧ ((q = 0 ∧ wi.heap[yb]? = some (.cells (Y.map (Value.int .i64)).toArray 3 (0, 0))) ∨ (q = 1 ∧ ∃ Y', VInv T1 V1 Y' ∧ wi.heap[yb]? = some (.cells (Y'.map (Value.int .i64)).toArray 3 (0, 0)))))
        (fun j _ => 1 - (intOf j).toNat)
      case atStart => exact ⟨0, by omega, rfl, Chg.refl _ _, .inl ⟨rfl, HY8.out⟩⟩
      case round =>
        obtain ⟨q, hq1, rfl, hCi, ⟨rfl, hYi⟩ | ⟨rfl, Y', hV', hYi⟩⟩ := hrel
        · have gi : ∀ j u, (said f T1 ok1).cells[j]? = some u → wr.cell? ⟨g, j, none⟩ = some u := fun j u hu => (hCi.cell (p := ⟨g, j, none⟩) hlg8 (by simpa using hgyb)).trans (Cg.out j u hu)
          have g0 := gi 0 _ rfl
          have g1 := gi 1 _ rfl
          have g2 := gi 2 _ rfl
          have g3 := gi 3 _ rfl
          have g4 := gi 4 _ rfl
          have g5 := gi 5 _ rfl
          have g6 := gi 6 _ rfl
          have g7 := gi 7 _ rfl
          have g8 := gi 8 _ rfl
          have g9 := gi 9 _ rfl
          have g10 := gi 10 _ rfl
          have g11 := gi 11 _ rfl
          have g12 := gi 12 _ rfl
          have g13 := gi 13 _ rfl
          dsimp only [said, SE.nil, SI.nil] at g0 g1 g2 g3 g4 g5 g6 g7 g8 g9 g10 g11 g12 g13
          have hxyb : xb ≠ yb := by omega
          have x1 := (hCi.cell (p := ⟨xb, 1, none⟩) hlx8 (by simpa using hxyb)).trans Bx1.out
          have x3 := (hCi.cell (p := ⟨xb, 3, none⟩) hlx8 (by simpa using hxyb)).trans Bx3.out
          have hlgi := hCi.lt hlg8
          have hlxi := hCi.lt hlx8
          have hlyi := ltOf hYi
          have hng : wr.heap.size ≠ g := by omega
          have d4 : decide (T1 < t) = false := by simp; omega
          clear gi
          rcases Hok.out with ⟨rfl, hVf⟩ | ⟨rfl, rfl, hy, hVt⟩
          · have HVf := Lib.hid hVf
            have HC := Lib.hid hCi
            have HYi := Lib.hid hYi
            clear hVf hCi hYi Hok
            go_wp2_with fail
            go_roundw
            case rel => exact ⟨1, by omega, rfl, HC.out.alloc _, .inr ⟨rfl, Y, HVf.out, by rw [heap_alloc_ne hlyi]; exact HYi.out⟩⟩
            case measure => simp [intOf]
          · obtain ⟨y, hyv, hycase⟩ : ∃ y, Y[T1.toNat]? = some y ∧ (y = 0 ∨ y = f) := by
              rcases hy with h1 | h1
              · exact ⟨0, h1, .inl rfl⟩
              · exact ⟨f, h1, .inr rfl⟩
            have ky : wr.cell? ⟨yb, T1.toNat, none⟩ = some (.int .i64 y) := by rw [cellsOf hYi]; simp [hyv]
            have fy := freeOf hYi T1.toNat
            have HVt := Lib.hid hVt
            have HC := Lib.hid hCi
            have HYi := Lib.hid hYi
            have hT0 : 0 ≤ T1 := by omega
            have hT10 : T1 < 10 := by omega
            have hnyb : wr.heap.size ≠ yb := by omega
            clear hVt hCi hYi Hok hy
            rcases hycase with rfl | rfl
            · go_wp2_with fail
              go_quiet (fail)
              go_wp2_with fail
              go_roundw
              case rel => exact ⟨1, by omega, rfl, ((HC.out.alloc _).drewN _).setCell (by simp) _, .inr ⟨rfl, Y.set T1.toNat f, HVt.out, ysSet (by rw [heap_drewN, heap_alloc_ne hlyi]; exact HYi.out)⟩⟩
              case measure => simp [intOf]
            · have hf0 : (y != 0) = true := by simp; omega
              go_wp2_with fail
              go_quiet (fail)
              go_wp2_with fail
              go_roundw
              case rel => exact ⟨1, by omega, rfl, ((HC.out.alloc _).drewN _).setCell (by simp) _, .inr ⟨rfl, Y.set T1.toNat y, HVt.out, ysSet (by rw [heap_drewN, heap_alloc_ne hlyi]; exact HYi.out)⟩⟩
              case measure => simp [intOf]
        · have hRi := voter_keep HR8.out hCi (by omega) (by omega) HVa8.out
          have HRi := Lib.hid hRi
          have HYi := Lib.hid hYi
          have HV' := Lib.hid hV'
          have HVai := Lib.hid (HVa8.out.chg hCi (fun x _ hq => by simpa using hq.1))
          have HOi := Lib.hid (HO8.out.chg hCi (by simp))
          clear hRi hYi hV' hCi HR8 HVa8 HO8 HY8
          go_wp2_with fail
          go_roundw
          case rel => exact ⟨k + 1, T1, V1, Y', by omega, by go_num, HV'.out, HRi.out, HYi.out, HOi.out, HVai.out⟩
          case measure => simp [intOf]; omega
    · obtain rfl : k = ms.length := by omega
      have HRo := Lib.hid (role_blk HR.out.blk (show (voter lb a cc T V).role = 0 from rfl))
      go_wp2_with fail
      refine HRo.out.mono ?_
      rintro e w9 ⟨rfl, rfl⟩
      go_wp2_with fail
      go_ret
      exact ⟨rfl, HO.out.below⟩
end Go.Proofs.YtjbnmamgfpnccaaGreat
