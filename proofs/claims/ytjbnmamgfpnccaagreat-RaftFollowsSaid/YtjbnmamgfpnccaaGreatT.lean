/- A region that draws its order: one operation of no weight, then quiet ones at a class of worlds, then a tail in one forced order. -/
import Derived.Deep.Quiet
import Derived.StillTail
import Derived.Lib.QuietBelow
import Derived.BigQuiet
namespace Go.Proofs.YtjbnmamgfpnccaaGreat
open Go Go.RowKit

section
variable {P : Program} {ops : Array Oper} {md : Region.Mode} {C : World → Prop}

/-- What has been carried out is closed; of the tail nothing has but the floating one. -/
structure HeadF (md : Region.Mode) (ops : Array Oper) (n f : Nat) (listed : Array Bool) : Prop where
  size : listed.size = ops.size
  closed : ∀ j oj, ops[j]? = some oj → listed.getD j false = true → ∀ e ∈ oj.after, Region.binds md e = true → listed.getD e.on false = true
  tail : ∀ t, n ≤ t → t < ops.size → t ≠ f → listed.getD t true = false
  float : listed.getD f true = true

/-- Each operation ahead of n is waited for by a later one, up to n; behind n each waits for the one ahead of it, but f. -/
def headB (md : Region.Mode) (ops : Array Oper) (n f : Nat) : Bool :=
  Region.sinkB md ops n && (List.range ops.size).all fun t => decide (t ≤ n) || decide (t = f) || (Region.waitsFor md ops t (t - 1) && decide (t - 1 ≠ f))

theorem HeadF.step {n f i : Nat} {listed : Array Bool} (inv : HeadF md ops n f listed) (hi : i ∈ Region.ready md ops listed) (hin : i < n) (hf : n < f) : HeadF md ops n f (listed.setIfInBounds i true) := by
  obtain ⟨_, oi, hoi, hall⟩ := mem_ready.1 hi
  refine ⟨by simp [inv.size], fun j oj hj hl e he hb => ?_, fun t ht ht' htf => by rw [getD_set_ne true (by omega)]; exact inv.tail t ht ht' htf, by rw [getD_set_ne true (by omega)]; exact inv.float⟩
  by_cases hij : i = j
  · subst hij
    obtain rfl : oj = oi := Option.some.inj (hj.symm.trans hoi)
    exact getD_set_true (hall e he hb)
  · rw [getD_set_ne false hij] at hl
    exact getD_set_true (inv.closed j oj hj hl e he hb)

/-- While one of the head is open, none of the tail may come. -/
theorem HeadF.waits {n f : Nat} {listed : Array Bool} (hB : headB md ops n f = true) (hn : n < ops.size) (hf : n < f) (inv : HeadF md ops n f listed) :
    ∀ (d i : Nat), n - i = d → i < n → listed.getD i true = false → ∀ t, n ≤ t → t ∉ Region.ready md ops listed := by
  simp only [headB, Bool.and_eq_true] at hB
  obtain ⟨hs, hc⟩ := hB
  intro d
  induction d using Nat.strongRecOn with
  | _ d ih =>
    intro i hd hi hun t ht hr
    obtain ⟨hut, ot, hot, hall⟩ := mem_ready.1 hr
    have htlt : t < ops.size := (Array.getElem?_eq_some_iff.1 hot).1
    by_cases htf : t = f
    · subst htf; rw [inv.float] at hut; cases hut
    by_cases htn : t = n
    · subst htn
      obtain ⟨j, hj, hj2⟩ := List.any_eq_true.1 (List.all_eq_true.1 hs i (List.mem_range.2 hi))
      simp only [Bool.and_eq_true, decide_eq_true_eq] at hj2
      obtain ⟨oj, hoj, e, he, hb, hon⟩ := Region.waitsFor_spec hj2.2
      have hjle : j ≤ t := by have := List.mem_range.1 hj; omega
      by_cases hjt : j = t
      · subst hjt
        obtain rfl : oj = ot := Option.some.inj (hoj.symm.trans hot)
        have h2 := hall e he hb
        rw [hon, getD_both hun] at h2
        cases h2
      · cases hl : listed.getD j false with
        | true =>
          have h2 := inv.closed j oj hoj hl e he hb
          rw [hon, getD_both hun] at h2
          cases h2
        | false => exact ih (t - j) (by omega) j rfl (by omega) (getD_in (by rw [inv.size]; omega) hl) t (Nat.le_refl _) hr
    · have h1 := List.all_eq_true.1 hc t (List.mem_range.2 htlt)
      simp only [Bool.or_eq_true, Bool.and_eq_true, decide_eq_true_eq] at h1
      rcases h1 with (h1 | h1) | ⟨h1, h1f⟩
      · omega
      · exact htf h1
      · obtain ⟨o', ho', e, he, hb, hon⟩ := Region.waitsFor_spec h1
        obtain rfl : o' = ot := Option.some.inj (ho'.symm.trans hot)
        have h2 := hall e he hb
        rw [hon, getD_both (inv.tail (t - 1) (by omega) (by omega) h1f)] at h2
        cases h2

/-- So many operations of the head, in whatever order; then L. -/
def anyHead (P : Program) (md : Region.Mode) (ops : Array Oper) (C : World → Prop) (n : Nat) (L : Array Bool → Act → Prop) : Nat → Array Bool → Act → Prop
  | 0, listed, a => L listed a
  | k + 1, listed, a => Region.ready md ops listed ≠ [] ∧ ∀ i ∈ Region.ready md ops listed, i < n ∧ qOp P ops C i (anyHead P md ops C n L k (listed.setIfInBounds i true)) a

theorem wpAny_of_anyHead {n g : Nat} {L : Array Bool → Act → Prop} {Q : Exit → Act → World → Prop} (hL : ∀ listed a w, C w → L listed a → wpAny P md ops Q g listed a w) :
    ∀ (k : Nat) (listed : Array Bool) (a : Act) (w : World), C w → anyHead P md ops C n L k listed a → wpAny P md ops Q (k + g) listed a w
  | 0, listed, a, w, hw, h => by rw [Nat.zero_add]; exact hL _ _ _ hw h
  | k + 1, listed, a, w, hw, h => by
    rw [show k + 1 + g = (k + g) + 1 by omega]
    exact ⟨fun h0 => absurd h0 h.1, fun i hi => wpOp_of_qOp hw (fun a' w' hw' h' => wpAny_of_anyHead hL k _ a' w' hw' h') (h.2 i hi).2⟩

theorem anyHead_take {n f i : Nat} {oi : Oper} {v : Value} {L : Array Bool → Act → Prop} (hi : ops[i]? = some oi) (hsel : ∀ (j : Nat) (o : Oper) cs b, ops[j]? = some o → o.op ≠ .select cs b)
    (hB : headB md ops n f = true) (hn : n < ops.size) (hf : n < f) (hin : i < n) (hdone : ∀ listed a, L listed a → ∀ j ∈ Region.ready md ops listed, n ≤ j) :
    ∀ (k : Nat) (listed : Array Bool) (a : Act), HeadF md ops n f listed →
      (∀ j oj, ops[j]? = some oj → j ≠ i → listed.getD j true = false → (∀ e ∈ oj.after, Region.binds md e = true → e.on ≠ i) → oi.apart ops oj = true) →
      i ∈ Region.ready md ops listed → YieldsIn P ops C oi v a →
      anyHead P md ops C n L k (listed.setIfInBounds i true) (a.put oi.dst v) → anyHead P md ops C n L (k + 1) listed a := by
  intro k
  induction k with
  | zero =>
    intro listed a inv _ hr hy H
    have hun := (mem_ready.1 hr).1
    refine ⟨fun h => (by rw [h] at hr; cases hr), fun j hj => ?_⟩
    have hjn : j < n := Nat.lt_of_not_le fun h => inv.waits hB hn hf _ i rfl hin hun j h hj
    refine ⟨hjn, ?_⟩
    by_cases hji : j = i
    · subst hji; exact hy.qOp hi H
    · have := hdone _ _ H j (ready_mono hj hji)
      omega
  | succ k ih =>
    intro listed a inv hfree hr hy H
    have hun := (mem_ready.1 hr).1
    refine ⟨fun h => (by rw [h] at hr; cases hr), fun j hj => ?_⟩
    have hjn : j < n := Nat.lt_of_not_le fun h => inv.waits hB hn hf _ i rfl hin hun j h hj
    refine ⟨hjn, ?_⟩
    by_cases hji : j = i
    · subst hji; exact hy.qOp hi H
    · have h1 := (H.2 j (ready_mono hj hji)).2
      obtain ⟨hjun, oj, hoj, hall⟩ := mem_ready.1 hj
      have hnot : ∀ e ∈ oj.after, Region.binds md e = true → e.on ≠ i := fun e he hb heq => by
        have h1 := hall e he hb
        rw [heq, getD_both hun] at h1
        cases h1
      have h2 := qOp_put hoj (hfree j oj hoj hji hjun hnot) (fun cs b => hsel i oi cs b hi) (fun cs b => hsel j oj cs b hoj) hy h1
      refine qOp_mono (fun a' h3 => ih (listed.setIfInBounds j true) a' (inv.step hj hjn hf) (fun k' ok hk hki hu hno => hfree k' ok hk hki ?_ hno) (ready_mono hr (Ne.symm hji)) h3.1 ?_) h2
      · by_cases hjk : j = k'
        · subst hjk; exact hjun
        · rw [getD_set_ne true hjk] at hu; exact hu
      · rw [Array.setIfInBounds_comm _ _ hji]; exact h3.2

theorem anyHead_lex {n f g : Nat} {Lq : Act → Prop} (hsel : Region.noSelect ops = true) (hB : headB md ops n f = true) (hn : n < ops.size) (hf : n < f) :
    ∀ (l : List Oper) (k : Nat) (listed : Array Bool) (a : Act), (∀ j, j < l.length → l[j]? = ops[k + j]?) → k + l.length = n → HeadF md ops n f listed →
    Region.lexHead md ops g l.length k listed = true → wpQuiet P ops C Lq l a →
    anyHead P md ops C n (fun listed' a' => Region.seqB md ops g n listed' = true ∧ Lq a') l.length listed a
  | [], k, listed, a, _, hk, _, hl, h => by
    obtain rfl : k = n := by simpa using hk
    exact ⟨by simpa [Region.lexHead] using hl, h⟩
  | o :: l, k, listed, a, hl, hk, inv, hx, h => by
    have h0 : ops[k]? = some o := by simpa using (hl 0 (by simp)).symm
    simp only [List.length_cons, Region.lexHead, Bool.and_eq_true] at hx
    obtain ⟨⟨hr, hfr⟩, hx'⟩ := hx
    have hkn : k < n := by simp only [List.length_cons] at hk; omega
    have hr' : k ∈ Region.ready md ops listed := by simpa using hr
    have hst : qOp P ops C k (wpQuiet P ops C Lq l) a := by unfold qOp; simp only [h0]; exact h
    obtain ⟨v, hy, hK⟩ := yieldsIn_of_qOp h0 hst
    exact anyHead_take h0 (Region.noSelect_spec hsel) hB hn hf hkn (fun listed' a' hL => seqB_ready hL.1) l.length listed a inv (Region.free_spec h0 hfr) hr' hy
      (anyHead_lex hsel hB hn hf l (k + 1) _ _ (fun j hj => by have := hl (j + 1) (by simp; omega); simpa [Nat.add_assoc, Nat.add_comm 1 j] using this) (by simp only [List.length_cons] at hk; omega) (inv.step hr' hkn hf) hx' hK)

/-- Operations in one forced order. -/
theorem wpAny_forced {Q : Exit → Act → World → Prop} : ∀ (l : List Oper) (k : Nat) (listed : Array Bool) (a : Act) (w : World), (∀ j, j < l.length → l[j]? = ops[k + j]?) →
    Region.seqB md ops l.length k listed = true → wpList P ops Q l a w → wpAny P md ops Q l.length listed a w
  | [], _, _, _, _, _, hB, h => ⟨by simpa [Region.seqB] using hB, h⟩
  | o :: l, k, listed, a, w, hl, hB, h => by
    have h0 : ops[k]? = some o := by simpa using (hl 0 (by simp)).symm
    simp only [List.length_cons, Region.seqB, Bool.and_eq_true, decide_eq_true_eq] at hB
    refine ⟨fun h1 => (by rw [hB.1] at h1; cases h1), fun i hi => ?_⟩
    rw [hB.1] at hi
    obtain rfl : i = k := by simpa using hi
    have hw : wpOp P ops Q i (wpList P ops Q l) a w := by unfold wpOp; simp only [h0]; exact h
    exact wpOp_mono (fun a' w' h' => wpAny_forced l (i + 1) _ a' w' (fun j hj => by have := hl (j + 1) (by simp; omega); simpa [Nat.add_assoc, Nat.add_comm 1 j] using this) hB.2 h') hw

/-- What the region's form must be: the floating one last. -/
def floatB (md : Region.Mode) (ops : Array Oper) (n f : Nat) : Bool :=
  Region.noSelect ops && decide (n < f) && decide (f + 1 = ops.size) && headB md ops n f && (Region.ready md ops (Array.replicate ops.size false)).contains f && Region.free md ops (Array.replicate ops.size false) f &&
    Region.lexHead md ops (f - n) n 0 ((Array.replicate ops.size false).setIfInBounds f true) && (match ops[f]? with | some o => o.after.isEmpty | none => false)

theorem wp_region_float {id : Nat} {Q : Exit → Act → World → Prop} {a : Act} {w : World} {l : List Oper} (n f : Nat) (of : Oper) (vf : Value) (hm : P.follows .mixedOrders = true) (hB : floatB .any l.toArray n f = true)
    (hof : l[f]? = some of) (hy : Yields P l.toArray of vf a) (hQ : ∀ c a w, Q (.panic c) (a.put of.dst vf) w → Q (.panic c) a w) (hC : C { w with drawn := w.drawn + 1 })
    (h : wpQuiet P l.toArray C (fun a' => ∀ w', C w' → wpList P l.toArray Q ((l.drop n).take (f - n)) a' w') (l.take n) (a.put of.dst vf)) : (Code.region id l.toArray true).wp P Q a w := by
  simp only [floatB, Bool.and_eq_true, decide_eq_true_eq] at hB
  obtain ⟨⟨⟨⟨⟨⟨⟨hsel, hnf⟩, hfs⟩, hhead⟩, hrd⟩, hfree⟩, hlex⟩, haft⟩ := hB
  have hof' : l.toArray[f]? = some of := by simpa using hof
  rw [hof'] at haft
  have hfl : f + 1 = l.length := by simpa using hfs
  have htl : (l.take n).length = n := by simp; omega
  have hdl : ((l.drop n).take (f - n)).length = f - n := by simp; omega
  have hn' : n < l.toArray.size := by omega
  have hsz : (Array.replicate l.toArray.size false).size = l.toArray.size := by simp
  refine wp_region_any hm ?_
  rw [show l.toArray.size = f + 1 by omega]
  refine wpAny_first hof' (Region.noSelect_spec hsel) hQ f _ a _ ?_ ?_ hy ?_
  · rw [← show l.toArray.size = f + 1 by omega]; exact Region.free_spec hof' hfree
  · rw [← show l.toArray.size = f + 1 by omega]; simpa using hrd
  · rw [← show l.toArray.size = f + 1 by omega]
    have inv : HeadF .any l.toArray n f ((Array.replicate l.toArray.size false).setIfInBounds f true) := by
      refine ⟨by simp, fun j oj hj hl e he hb => ?_, fun t ht hts htf => ?_, ?_⟩
      · by_cases hjf : f = j
        · subst hjf
          obtain rfl : oj = of := Option.some.inj (hj.symm.trans hof')
          have : oj.after = #[] := by simpa using haft
          rw [this] at he; simp at he
        · rw [getD_set_ne false hjf, getD_replicate_false] at hl; cases hl
      · rw [getD_set_ne true (Ne.symm htf)]; exact getD_in (by simpa using hts) (getD_replicate_false _ _)
      · have hfs' : f < l.length := by omega
        simp [hfs']
    have H := anyHead_lex (md := .any) (C := C) (g := f - n) hsel hhead hn' hnf (l.take n) 0 _ (a.put of.dst vf) (fun j hj => by
      have hj' : j < n := by rw [htl] at hj; exact hj
      simp [hj']) (by simpa using htl) inv (by rw [htl]; exact hlex) h
    have := wpAny_of_anyHead (Q := Q) (g := f - n) (fun listed a' w' hw' hL => by
      have := wpAny_forced (md := .any) (Q := Q) ((l.drop n).take (f - n)) n listed a' w' (fun j hj => by rw [hdl] at hj; simp [List.getElem?_drop, hj]) (by rw [hdl]; exact hL.1) (hL.2 w' hw')
      rwa [hdl] at this) _ _ _ _ hC H
    · rw [htl, show n + (f - n) = f by omega] at this
      exact this
end
end Go.Proofs.YtjbnmamgfpnccaaGreat
