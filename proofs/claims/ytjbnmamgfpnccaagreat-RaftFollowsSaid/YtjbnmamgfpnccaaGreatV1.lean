/- Messages that come in, opened. -/
import Derived.Test.YtjbnmamgfpnccaaGreatR
import Derived.ProofKit
import Derived.OpenShut
import Derived.Carry
import Derived.Deep.Slices
namespace Go.Proofs.YtjbnmamgfpnccaaGreat
open Go.ChangeShapes Go.WideShapes Go.ChangeAt Go.RowKit

theorem Tryz.cells2 : Tryz.prog.cellsOf 2 = 1 := by kernel_rfl
theorem Tryz.cells3 : Tryz.prog.cellsOf 3 = 1 := by kernel_rfl
theorem Tryz.cells4 : Tryz.prog.cellsOf 4 = 1 := by kernel_rfl
theorem Tryz.cells24 : Tryz.prog.cellsOf 24 = 1 := by kernel_rfl
theorem Tryz.cells26 : Tryz.prog.cellsOf 26 = 2 := by kernel_rfl
theorem Tryz.cells31 : Tryz.prog.cellsOf 31 = 1 := by kernel_rfl
theorem Tryz.cells34 : Tryz.prog.cellsOf 34 = 1 := by kernel_rfl
theorem Tryz.cells36 : Tryz.prog.cellsOf 36 = 14 := by kernel_rfl

theorem take_one {α : Type} {cs : List α} {j : Nat} {v : α} (h : (cs.drop j).take 1 = [v]) : cs[j]? = some v := by
  have h1 : ((cs.drop j).take 1)[0]? = some v := by rw [h]; rfl
  rw [List.getElem?_take, if_pos (by omega), List.getElem?_drop, Nat.add_zero] at h1
  exact h1

theorem msgCells_inv (ms : List MsgC) : ∀ j u, (msgCells ms)[j]? = some u → ∃ m, ms[j / 14]? = some m ∧ m.cells[j % 14]? = some u := by
  induction ms with
  | nil => intro j u h; simp [msgCells] at h
  | cons x ms ih =>
    intro j u h
    have hl : x.cells.length = 14 := rfl
    have h' : (x.cells ++ msgCells ms)[j]? = some u := h
    rcases Nat.lt_or_ge j 14 with hj | hj
    · rw [List.getElem?_append_left (by omega)] at h'
      rw [Nat.div_eq_of_lt hj, Nat.mod_eq_of_lt hj]
      exact ⟨x, rfl, h'⟩
    · rw [List.getElem?_append_right (by omega), hl] at h'
      obtain ⟨m, h1, h2⟩ := ih _ u h'
      have e1 : j / 14 = (j - 14) / 14 + 1 := by omega
      have e2 : j % 14 = (j - 14) % 14 := by omega
      rw [e1, e2]
      exact ⟨m, by simpa using h1, h2⟩

section
variable {H : Type} {enc : TypeId × Value → H} {w : World} {base : Nat} {spare : Nat → Bool} {held : Bool}

theorem slice_cell {t e : TypeId} {fuel : Nat} {cs : List Value} {x : DataW H × List MemPlace} (ht : Tryz.prog.underlying t = some (.slice e)) (h : DataW.trod enc Tryz.prog w base spare held fuel t cs = some x) : ∃ a n c, cs = [.slice a n c] := by
  rcases DataW.trod_slice ht h with ⟨h1, _⟩ | ⟨a, len, cap, _, _, _, _, h1, _⟩
  · exact ⟨none, 0, 0, h1⟩
  · exact ⟨some a, len, cap, h1⟩

/-- The cells of a message that is read. -/
theorem msg_cells {fuel : Nat} {cs : List Value} {x : DataW H × List MemPlace} (h : DataW.trod enc Tryz.prog w base spare held fuel 36 cs = some x) : ∃ m : MsgC, cs = m.cells := by
  obtain ⟨xs, n, rfl, _, hlen, hxs, hf⟩ := DataW.trod_struct Tryz.underlying36 h
  rw [Tryz.cells36] at hlen
  have get : ∀ i, i < 13 → ∃ y, xs[i]? = some y := fun i hi => ⟨xs[i]'(by rw [hxs]; exact hi), by simp⟩
  have int3 : ∀ (i j : Nat) (f : Field), i < 13 → (∃ t, f.type = t ∧ (t = 3 ∨ t = 2)) → f.offset = j → (DataW.trod enc Tryz.prog w base spare held n f.type ((cs.drop f.offset).take (Tryz.prog.cellsOf f.type)) = xs[i]?) → ∃ k : Int, cs[j]? = some (.int .i64 k) := by
    rintro i j f hi ⟨t, h1, h2⟩ rfl h3
    obtain ⟨y, hy⟩ := get i hi
    rw [hy, h1] at h3
    rcases h2 with rfl | rfl
    · rw [Tryz.cells3] at h3
      obtain ⟨k, h4, _⟩ := DataW.trod_int Tryz.underlying3 h3
      exact ⟨k, take_one h4⟩
    · rw [Tryz.cells2] at h3
      obtain ⟨k, h4, _⟩ := DataW.trod_int Tryz.underlying2 h3
      exact ⟨k, take_one h4⟩
  have bool4 : ∀ (i j : Nat) (f : Field), i < 13 → f.type = 4 → f.offset = j → (DataW.trod enc Tryz.prog w base spare held n f.type ((cs.drop f.offset).take (Tryz.prog.cellsOf f.type)) = xs[i]?) → ∃ k : Bool, cs[j]? = some (.bool k) := by
    rintro i j f hi h1 rfl h3
    obtain ⟨y, hy⟩ := get i hi
    rw [hy, h1, Tryz.cells4] at h3
    obtain ⟨k, h4, _⟩ := DataW.trod_bool Tryz.underlying4 h3
    exact ⟨k, take_one h4⟩
  obtain ⟨k0, e0⟩ := int3 0 0 _ (by omega) ⟨_, rfl, .inl rfl⟩ rfl (hf 0 _ rfl)
  obtain ⟨k1, e1⟩ := int3 1 1 _ (by omega) ⟨_, rfl, .inl rfl⟩ rfl (hf 1 _ rfl)
  obtain ⟨k2, e2⟩ := int3 2 2 _ (by omega) ⟨_, rfl, .inl rfl⟩ rfl (hf 2 _ rfl)
  obtain ⟨k3, e3⟩ := int3 3 3 _ (by omega) ⟨_, rfl, .inr rfl⟩ rfl (hf 3 _ rfl)
  obtain ⟨k4, e4⟩ := int3 4 4 _ (by omega) ⟨_, rfl, .inr rfl⟩ rfl (hf 4 _ rfl)
  obtain ⟨k5, e5⟩ := int3 5 5 _ (by omega) ⟨_, rfl, .inr rfl⟩ rfl (hf 5 _ rfl)
  obtain ⟨k6, e6⟩ := int3 6 6 _ (by omega) ⟨_, rfl, .inr rfl⟩ rfl (hf 6 _ rfl)
  obtain ⟨k7, e7⟩ := bool4 7 7 _ (by omega) rfl rfl (hf 7 _ rfl)
  obtain ⟨y8, hy8⟩ := get 8 (by omega)
  have h8 : DataW.trod enc Tryz.prog w base spare held n 34 ((cs.drop 8).take (Tryz.prog.cellsOf 34)) = some y8 := (hf 8 _ rfl).trans hy8
  rw [Tryz.cells34] at h8
  obtain ⟨a8, n8, c8, s8⟩ := slice_cell Tryz.underlying34 h8
  have e8 := take_one s8
  obtain ⟨k9, e9⟩ := int3 9 9 _ (by omega) ⟨_, rfl, .inr rfl⟩ rfl (hf 9 _ rfl)
  obtain ⟨y10, hy10⟩ := get 10 (by omega)
  have h10 : DataW.trod enc Tryz.prog w base spare held n 31 ((cs.drop 10).take (Tryz.prog.cellsOf 31)) = some y10 := (hf 10 _ rfl).trans hy10
  rw [Tryz.cells31] at h10
  obtain ⟨a10, n10, c10, s10⟩ := slice_cell Tryz.underlying31 h10
  have e10 := take_one s10
  obtain ⟨k11, e11⟩ := bool4 11 11 _ (by omega) rfl rfl (hf 11 _ rfl)
  obtain ⟨y12, hy12⟩ := get 12 (by omega)
  have h12 : DataW.trod enc Tryz.prog w base spare held n 26 ((cs.drop 12).take (Tryz.prog.cellsOf 26)) = some y12 := (hf 12 _ rfl).trans hy12
  rw [Tryz.cells26] at h12
  obtain ⟨zs, n', _, _, hlen2, hzs, hg⟩ := DataW.trod_struct Tryz.underlying26 h12
  obtain ⟨z0, hz0⟩ : ∃ y, zs[0]? = some y := ⟨zs[0]'(by rw [hzs]; decide), by simp⟩
  obtain ⟨z1, hz1⟩ : ∃ y, zs[1]? = some y := ⟨zs[1]'(by rw [hzs]; decide), by simp⟩
  have g0 : DataW.trod enc Tryz.prog w base spare held n' 24 ((((cs.drop 12).take 2).drop 0).take (Tryz.prog.cellsOf 24)) = some z0 := (hg 0 _ rfl).trans hz0
  have g1 : DataW.trod enc Tryz.prog w base spare held n' 24 ((((cs.drop 12).take 2).drop 1).take (Tryz.prog.cellsOf 24)) = some z1 := (hg 1 _ rfl).trans hz1
  rw [Tryz.cells24] at g0 g1
  obtain ⟨av, nv, cv, sv⟩ := slice_cell Tryz.underlying24 g0
  obtain ⟨al, nl, cl, sl⟩ := slice_cell Tryz.underlying24 g1
  have e12 := take_one sv
  have e13 := take_one sl
  rw [List.getElem?_take, if_pos (by omega), List.getElem?_drop] at e12 e13
  refine ⟨⟨k0, k1, k2, k3, k4, k5, k6, k7, ⟨a8, n8, c8, []⟩, k9, ⟨a10, n10, c10, []⟩, k11, ⟨av, nv, cv, []⟩, ⟨al, nl, cl, []⟩⟩, ?_⟩
  apply List.ext_getElem?
  intro i
  rcases Nat.lt_or_ge i 14 with hi | hi
  · have : i = 0 ∨ i = 1 ∨ i = 2 ∨ i = 3 ∨ i = 4 ∨ i = 5 ∨ i = 6 ∨ i = 7 ∨ i = 8 ∨ i = 9 ∨ i = 10 ∨ i = 11 ∨ i = 12 ∨ i = 13 := by omega
    rcases this with rfl | rfl | rfl | rfl | rfl | rfl | rfl | rfl | rfl | rfl | rfl | rfl | rfl | rfl
    all_goals first | exact e0 | exact e1 | exact e2 | exact e3 | exact e4 | exact e5 | exact e6 | exact e7 | exact e8 | exact e9 | exact e10 | exact e11 | exact e12 | exact e13
  · rw [List.getElem?_eq_none (by omega), List.getElem?_eq_none (by show 14 ≤ i; exact hi)]

/-- Messages that come in. -/
theorem open_msgs {fuel : Nat} {a : Option Addr} {len cap : Nat} {x : DataW H × List MemPlace} (h : DataW.trod enc Tryz.prog w base (fun _ => true) held fuel 22 [.slice a len cap] = some x) :
    ∃ ms : List MsgC, len = ms.length ∧ RSl w (fun _ => True) 14 a len cap (msgCells ms) := by
  rcases Deep.open_slice Tryz.underlying22 h with ⟨h1, _⟩ | ⟨a', len', cap', m, n, D, Pl, hcs, _, hl, hm, hmm, _, hall⟩
  · simp only [List.cons.injEq, Value.slice.injEq, and_true] at h1
    obtain ⟨rfl, rfl, rfl⟩ := h1
    exact ⟨[], rfl, RSl.nil _ _ _⟩
  · simp only [List.cons.injEq, Value.slice.injEq, and_true] at hcs
    obtain ⟨rfl, rfl, rfl⟩ := hcs
    have hmc : m = cap := hmm
    subst hmc
    rw [Tryz.cells36] at hall
    have hms : ∀ i, i < len → ∃ m : MsgC, ∀ j u, m.cells[j]? = some u → w.cell? (a'.add (i * 14 + j)) = some u := by
      intro i hi
      obtain ⟨cs', hc, ht⟩ := hall i (by omega)
      obtain ⟨m, rfl⟩ := msg_cells ht
      obtain ⟨_, _, hcell⟩ := World.cells?_some hc
      refine ⟨m, fun j u hu => ?_⟩
      have hj : j < 14 := (List.getElem?_eq_some_iff.1 hu).1
      rw [← hu, ← hcell j hj, Deep.add_add]
    have : ∃ ms : List MsgC, ms.length = len ∧ ∀ i m, ms[i]? = some m → ∀ j u, m.cells[j]? = some u → w.cell? (a'.add (i * 14 + j)) = some u := by
      clear hall h
      have key : ∀ k, k ≤ len → ∃ ms : List MsgC, ms.length = k ∧ ∀ i m, ms[i]? = some m → ∀ j u, m.cells[j]? = some u → w.cell? (a'.add (i * 14 + j)) = some u := by
        intro k
        induction k with
        | zero => exact fun _ => ⟨[], rfl, by simp⟩
        | succ k ih =>
          intro hk
          obtain ⟨ms, h1, h2⟩ := ih (by omega)
          obtain ⟨m, hm⟩ := hms k (by omega)
          refine ⟨ms ++ [m], by simp [h1], fun i m' hm' => ?_⟩
          rcases Nat.lt_or_ge i ms.length with hi | hi
          · rw [List.getElem?_append_left hi] at hm'
            exact h2 i m' hm'
          · rw [List.getElem?_append_right hi] at hm'
            have : i = ms.length := by
              have := (List.getElem?_eq_some_iff.1 hm').1
              simp at this; omega
            subst this
            simp at hm'
            subst hm'
            rw [h1]; exact hm
      exact key len (Nat.le_refl _)
    obtain ⟨ms, hlen, hcells⟩ := this
    refine ⟨ms, hlen.symm, hl, hm, ?_, by simp, ?_⟩
    · rw [← hlen]
      clear hcells hlen
      induction ms with
      | nil => rfl
      | cons m ms ih =>
        have : m.cells.length = 14 := rfl
        simp [msgCells] at *
        omega
    · rcases Nat.eq_zero_or_pos len with h0 | hp
      · exact .inl h0
      · right
        obtain ⟨m0, hm0⟩ : ∃ m, ms[0]? = some m := ⟨ms[0]'(by omega), by simp⟩
        have hc0 := hcells 0 m0 hm0 0 _ rfl
        obtain ⟨ab, ao, asp⟩ := a'
        have hsp : asp = none := by
          have := World.cell?_spot hc0
          simpa [Addr.add] using this
        subst hsp
        refine ⟨ab, ao, rfl, ?_, trivial, ?_⟩
        · have := World.block_lt_of_cell? w _ hc0
          simpa [addr_add] using this
        · intro j u hu
          obtain ⟨m, h1, h2⟩ := msgCells_inv ms j u hu
          have := hcells _ m h1 _ u h2
          rw [show j / 14 * 14 + j % 14 = j by omega, addr_add] at this
          exact this
end
end Go.Proofs.YtjbnmamgfpnccaaGreat
