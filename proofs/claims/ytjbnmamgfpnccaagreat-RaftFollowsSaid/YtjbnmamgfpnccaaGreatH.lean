/- Words on memory: what a block holds whole, what may have changed, slices that read as lists. No program. -/
import Derived.WalkKit
import Derived.WalkLawsBesides
import Derived.WalkSpells
import Derived.Deep.AppendLies
namespace Go.Proofs.YtjbnmamgfpnccaaGreat
open Go Go.RowKit

theorem nil_or_snoc {α : Type} (l : List α) : l = [] ∨ ∃ r e, l = r ++ [e] := by
  rcases l.eq_nil_or_concat with h | ⟨r, e, h⟩
  · exact .inl h
  · exact .inr ⟨r, e, by rw [h, List.concat_eq_append]⟩

theorem cellsOf {w : World} {b : Nat} {cs : Array Value} {T : TypeId} {fz : Nat × Nat} (h : w.heap[b]? = some (.cells cs T fz)) (i : Nat) : w.cell? ⟨b, i, none⟩ = cs[i]? := by
  simp [World.cell?, h]
theorem freeOf {w : World} {b : Nat} {cs : Array Value} {T : TypeId} (h : w.heap[b]? = some (.cells cs T (0,0))) (i : Nat) : w.frozen? ⟨b, i, none⟩ = false := by
  simp [World.frozen?, h]
theorem ltOf {w : World} {b : Nat} {o : Obj} (h : w.heap[b]? = some o) : b < w.heap.size := lt_of_block h

theorem heap_drew (w : World) (b : Nat) : w.drew.heap[b]? = w.heap[b]? := rfl
theorem heap_drewN (w : World) (n b : Nat) : (w.drewN n).heap[b]? = w.heap[b]? := rfl
theorem size_drew (w : World) : w.drew.heap.size = w.heap.size := rfl
theorem size_drewN (w : World) (n : Nat) : (w.drewN n).heap.size = w.heap.size := rfl
theorem heap_alloc (w : World) (o : Obj) (b : Nat) : (w.alloc o).heap[b]? = if b = w.heap.size then some o else w.heap[b]? := by
  show (w.heap.push o)[b]? = _
  rw [Array.getElem?_push]
theorem heap_setCell (w : World) (a : Addr) (v : Value) (b : Nat) : (w.setCell a v).heap[b]? = if a.block = b then (w.heap[b]?).map (fun
      | .cells c elem frozen => .cells (if a.spot.isSome then c else c.setIfInBounds a.off v) elem frozen
      | o => o) else w.heap[b]? := by
  show (w.heap.modify _ _)[b]? = _
  rw [Array.getElem?_modify]; rfl
theorem size_setCell (w : World) (a : Addr) (v : Value) : (w.setCell a v).heap.size = w.heap.size := by simp [World.setCell]
theorem size_alloc (w : World) (o : Obj) : (w.alloc o).heap.size = w.heap.size + 1 := by simp

/-- A store into a block that is known whole. -/
theorem heap_set {w : World} {b o : Nat} {v : Value} {cs : Array Value} {T : TypeId} {fz : Nat × Nat} (h : w.heap[b]? = some (.cells cs T fz)) :
    (w.setCell ⟨b, o, none⟩ v).heap[b]? = some (.cells (cs.setIfInBounds o v) T fz) := by
  rw [heap_setCell, if_pos rfl, h]; rfl
theorem heap_set_ne {w : World} {b : Nat} {p : Addr} {v : Value} (h : p.block ≠ b) : (w.setCell p v).heap[b]? = w.heap[b]? := by
  rw [heap_setCell, if_neg h]
theorem heap_alloc_ne {w : World} {b : Nat} {o : Obj} (h : b < w.heap.size) : (w.alloc o).heap[b]? = w.heap[b]? := by
  rw [heap_alloc, if_neg (by omega)]

/-- What may have changed: the blocks of M, and what is new. -/
structure Chg (M : List Nat) (w w' : World) : Prop where
  os : w'.os = w.os
  tape : w'.tape = w.tape
  output : w'.output = w.output
  size : w.heap.size ≤ w'.heap.size
  block : ∀ k, k < w.heap.size → k ∉ M → w'.heap[k]? = w.heap[k]?

namespace Chg
variable {M : List Nat} {a b w w' : World}
theorem refl (M : List Nat) (w : World) : Chg M w w := ⟨rfl, rfl, rfl, Nat.le_refl _, fun _ _ _ => rfl⟩
theorem trans' {M' : List Nat} {c : World} (h : Chg M a b) (k : Chg M' b c) (hM : ∀ x ∈ M', x ∈ M ∨ a.heap.size ≤ x) : Chg M a c :=
  ⟨k.os.trans h.os, k.tape.trans h.tape, k.output.trans h.output, Nat.le_trans h.size k.size, fun i hi hn =>
    (k.block i (Nat.lt_of_lt_of_le hi h.size) (fun hx => by rcases hM i hx with h1 | h1; exact hn h1; omega)).trans (h.block i hi hn)⟩
theorem trans {c : World} (h : Chg M a b) (k : Chg M b c) : Chg M a c := h.trans' k fun _ hx => .inl hx
theorem mono {M' : List Nat} (h : Chg M a b) (hM : ∀ x ∈ M, x ∈ M') : Chg M' a b := ⟨h.os, h.tape, h.output, h.size, fun k hk hn => h.block k hk (fun hx => hn (hM k hx))⟩
theorem drew (h : Chg M a w) : Chg M a w.drew := ⟨h.os, h.tape, h.output, h.size, h.block⟩
theorem drewN (h : Chg M a w) (n : Nat) : Chg M a (w.drewN n) := ⟨h.os, h.tape, h.output, h.size, h.block⟩
theorem alloc (h : Chg M a w) (o : Obj) : Chg M a (w.alloc o) :=
  ⟨h.os, h.tape, h.output, by rw [size_alloc]; have := h.size; omega, fun k hk hn => by rw [heap_alloc_ne (by have := h.size; omega)]; exact h.block k hk hn⟩
theorem setCell (h : Chg M a w) {p : Addr} (hp : p.block ∈ M ∨ a.heap.size ≤ p.block) (v : Value) : Chg M a (w.setCell p v) :=
  ⟨h.os, h.tape, h.output, by rw [size_setCell]; exact h.size, fun k hk hn => by
    rw [heap_set_ne (fun e => by rcases hp with h1 | h1; exact hn (e ▸ h1); omega)]; exact h.block k hk hn⟩
theorem ofBelow (h : Below w.heap.size w w') : Chg M w w' := ⟨h.os, h.tape, h.output, h.size, fun k hk _ => h.block k hk⟩
theorem below (h : Chg [] w w') : Below w.heap.size w w' := ⟨h.os, h.tape, h.output, h.size, fun k hk => h.block k hk (by simp)⟩
theorem grown {row : Option Nat} (h : Chg M a w) (hg : w.grownBy w' row) (hr : ∀ k, row = some k → k ∈ M ∨ a.heap.size ≤ k) : Chg M a w' :=
  ⟨hg.os.trans h.os, hg.tape.trans h.tape, hg.output.trans h.output, Nat.le_trans h.size hg.size, fun k hk hn =>
    (hg.block k (Nat.lt_of_lt_of_le hk h.size) (fun e => by rcases hr k e.symm with h1 | h1; exact hn h1; omega)).trans (h.block k hk hn)⟩
theorem get (h : Chg M w w') {b : Nat} {o : Obj} (hb : w.heap[b]? = some o) (hn : b ∉ M) : w'.heap[b]? = some o := (h.block b (ltOf hb) hn).trans hb
theorem lt (h : Chg M w w') {b : Nat} (hb : b < w.heap.size) : b < w'.heap.size := Nat.lt_of_lt_of_le hb h.size
theorem cell (h : Chg M w w') {p : Addr} (hb : p.block < w.heap.size) (hn : p.block ∉ M) : w'.cell? p = w.cell? p := World.cell?_of_block (h.block p.block hb hn)
theorem owns (h : Chg M w w') {base : Nat} {e : TypeId} {size : Nat} {v : Value} {n : Nat} {xs : List Value} (ho : w.ownsRow base e size v n xs) (hn : ∀ k, v.ownBlock = some k → k ∉ M) : w'.ownsRow base e size v n xs := by
  obtain ⟨h1, h2⟩ := ho
  refine ⟨h1, ?_⟩
  rcases h2 with h2 | ⟨g, cap, cur, rfl, hg, hh, r⟩
  · exact .inl h2
  · exact .inr ⟨g, cap, cur, rfl, hg, h.get hh (hn g rfl), r⟩
theorem newBelow (h : Chg M w w') (hM : ∀ x ∈ M, w.heap.size ≤ x) : Below w.heap.size w w' := ⟨h.os, h.tape, h.output, h.size, fun k hk => h.block k hk (fun hx => by have := hM k hx; omega)⟩
end Chg

/-- A slice reads as a list of cells; its block is of kind Q. -/
def RSl (w : World) (Q : Nat → Prop) (size : Nat) (a : Option Addr) (n c : Nat) (cells : List Value) : Prop :=
  n ≤ c ∧ c ≤ maxLen ∧ cells.length = n * size ∧ (a = none → c = 0) ∧
  (n = 0 ∨ ∃ b off, a = some ⟨b, off, none⟩ ∧ b < w.heap.size ∧ Q b ∧ ∀ j u, cells[j]? = some u → w.cell? ⟨b, off + j, none⟩ = some u)

namespace RSl
variable {w w' : World} {Q : Nat → Prop} {size n c : Nat} {a : Option Addr} {cells : List Value}
theorem chg {M : List Nat} (h : RSl w Q size a n c cells) (hc : Chg M w w') (hQ : ∀ b, b < w.heap.size → Q b → b ∉ M) : RSl w' Q size a n c cells := by
  obtain ⟨h1, h2, h3, h4, h5⟩ := h
  refine ⟨h1, h2, h3, h4, ?_⟩
  rcases h5 with h5 | ⟨b, off, e, hb, hm, hcell⟩
  · exact .inl h5
  · exact .inr ⟨b, off, e, hc.lt hb, hm, fun j u hu => (hc.cell (p := ⟨b, off + j, none⟩) hb (hQ b hb hm)).trans (hcell j u hu)⟩
theorem below (h : RSl w Q size a n c cells) (hc : Below w.heap.size w w') : RSl w' Q size a n c cells := h.chg (M := []) (Chg.ofBelow hc) (by simp)
theorem mono {Q' : Nat → Prop} (h : RSl w Q size a n c cells) (hQ : ∀ b, b < w.heap.size → Q b → Q' b) : RSl w Q' size a n c cells := by
  obtain ⟨h1, h2, h3, h4, h5⟩ := h
  refine ⟨h1, h2, h3, h4, ?_⟩
  rcases h5 with h5 | ⟨b, off, e, hb, hm, hcell⟩
  · exact .inl h5
  · exact .inr ⟨b, off, e, hb, hQ b hb hm, hcell⟩
theorem nil (w : World) (Q : Nat → Prop) (size : Nat) : RSl w Q size none 0 0 [] := ⟨Nat.le_refl _, Nat.zero_le _, by simp, fun _ => rfl, .inl rfl⟩
theorem ofOwns {base : Nat} {e : TypeId} {v : Value} (h : w.ownsRow base e size v n cells) : ∃ a c, v = .slice a n c ∧ RSl w (fun b => base ≤ b) size a n c cells := by
  obtain ⟨h1, h2⟩ := h
  rcases h2 with ⟨rfl, rfl⟩ | ⟨g, cap, cur, rfl, hg, hh, hn, hm, hs, ht⟩
  · obtain rfl : cells = [] := List.eq_nil_of_length_eq_zero (by simpa using h1)
    exact ⟨none, 0, rfl, nil _ _ _⟩
  · refine ⟨some ⟨g, 0, none⟩, cap, rfl, hn, hm, h1, by simp, .inr ⟨g, 0, rfl, ltOf hh, hg, fun j u hu => ?_⟩⟩
    rw [Nat.zero_add, cellsOf hh, ← hu, ← ht, List.getElem?_take, if_pos]
    · simp
    · rw [← h1]; exact (List.getElem?_eq_some_iff.1 hu).1
theorem len (h : RSl w Q size a n c cells) : cells.length = n * size := h.2.2.1
/-- A block that is known whole, read from its head. -/
theorem ofBlk {g cap : Nat} {cur : Array Value} {e : TypeId} {fz : Nat × Nat} (hh : w.heap[g]? = some (.cells cur e fz)) (hQ : Q g) (hn : n ≤ cap) (hm : cap ≤ maxLen) (hs : cells.length = n * size) (ht : ∀ (j : Nat) (u : Value), cells[j]? = some u → cur[j]? = some u) :
    RSl w Q size (some ⟨g, 0, none⟩) n cap cells :=
  ⟨hn, hm, hs, by simp, .inr ⟨g, 0, rfl, ltOf hh, hQ, fun j u hu => by rw [Nat.zero_add, cellsOf hh]; exact ht j u hu⟩⟩
end RSl

theorem addr_add (b off j : Nat) : (⟨b, off, none⟩ : Addr).add j = ⟨b, off + j, none⟩ := by unfold Addr.add; split <;> simp_all
/-- What 'append' asks of its source. -/
theorem RSl.news {w : World} {Q : Nat → Prop} {size n c : Nat} {p : Addr} {cells : List Value} (h : RSl w Q size (some p) n c cells) : ∀ j u, cells[j]? = some u → w.cell? (p.add j) = some u := by
  intro j u hu
  rcases h.2.2.2.2 with h0 | ⟨b, off, e, _, _, hc⟩
  · have := h.len; rw [h0] at this
    obtain rfl : cells = [] := List.eq_nil_of_length_eq_zero (by simpa using this)
    simp at hu
  · cases e; rw [addr_add]; exact hc j u hu

theorem keepCells {n b : Nat} {w w1 : World} (hb : Below n w w1) (h : b < n) {cs : Array Value} (hc : ∀ i, w.cell? ⟨b, i, none⟩ = cs[i]?) : ∀ i, w1.cell? ⟨b, i, none⟩ = cs[i]? := fun i => (hb.cell (p := ⟨b, i, none⟩) h).trans (hc i)
theorem keepFree {n b : Nat} {w w1 : World} (hb : Below n w w1) (h : b < n) (hc : ∀ i, w.frozen? ⟨b, i, none⟩ = false) : ∀ i, w1.frozen? ⟨b, i, none⟩ = false := fun i => (hb.frozen (p := ⟨b, i, none⟩) h).trans (hc i)

theorem keepSet {b : Nat} {w : World} {p : Addr} {v : Value} (h : p.block ≠ b) {cs : Array Value} (hc : ∀ i, w.cell? ⟨b, i, none⟩ = cs[i]?) : ∀ i, (w.setCell p v).cell? ⟨b, i, none⟩ = cs[i]? := fun i =>
  (World.cell?_of_block (w := w) (a := ⟨b, i, none⟩) (heap_set_ne h)).trans (hc i)

/-- A slice of ints. -/
def RInts (w : World) (Q : Nat → Prop) (a : Option Addr) (n c : Nat) (xs : List Int) : Prop := n = xs.length ∧ RSl w Q 1 a n c (xs.map (Value.int .i64))
/-- A slice of bytes. -/
def RBytes (w : World) (Q : Nat → Prop) (a : Option Addr) (n c : Nat) (xs : List Int) : Prop := n = xs.length ∧ RSl w Q 1 a n c (xs.map (Value.int .u8))
theorem RInts.below {w w' : World} {Q : Nat → Prop} {a : Option Addr} {n c : Nat} {xs : List Int} (h : RInts w Q a n c xs) (hb : Below w.heap.size w w') : RInts w' Q a n c xs := ⟨h.1, h.2.below hb⟩
theorem RBytes.below {w w' : World} {Q : Nat → Prop} {a : Option Addr} {n c : Nat} {xs : List Int} (h : RBytes w Q a n c xs) (hb : Below w.heap.size w w') : RBytes w' Q a n c xs := ⟨h.1, h.2.below hb⟩
theorem RInts.chg {w w' : World} {Q : Nat → Prop} {a : Option Addr} {n c : Nat} {xs : List Int} {M : List Nat} (h : RInts w Q a n c xs) (hc : Chg M w w') (hQ : ∀ b, b < w.heap.size → Q b → b ∉ M) : RInts w' Q a n c xs := ⟨h.1, h.2.chg hc hQ⟩
theorem RBytes.chg {w w' : World} {Q : Nat → Prop} {a : Option Addr} {n c : Nat} {xs : List Int} {M : List Nat} (h : RBytes w Q a n c xs) (hc : Chg M w w') (hQ : ∀ b, b < w.heap.size → Q b → b ∉ M) : RBytes w' Q a n c xs := ⟨h.1, h.2.chg hc hQ⟩
theorem RInts.mono {w : World} {Q Q' : Nat → Prop} {a : Option Addr} {n c : Nat} {xs : List Int} (h : RInts w Q a n c xs) (hQ : ∀ b, b < w.heap.size → Q b → Q' b) : RInts w Q' a n c xs := ⟨h.1, h.2.mono hQ⟩
theorem RBytes.mono {w : World} {Q Q' : Nat → Prop} {a : Option Addr} {n c : Nat} {xs : List Int} (h : RBytes w Q a n c xs) (hQ : ∀ b, b < w.heap.size → Q b → Q' b) : RBytes w Q' a n c xs := ⟨h.1, h.2.mono hQ⟩
theorem RInts.cells {w : World} {Q : Nat → Prop} {a : Option Addr} {n c : Nat} {xs : List Int} (h : RInts w Q a n c xs) : n = 0 ∧ xs = [] ∨ ∃ b off, a = some ⟨b, off, none⟩ ∧ b < w.heap.size ∧ Q b ∧ n = xs.length ∧ ∀ j, j < xs.length → w.cell? ⟨b, off + j, none⟩ = some (.int .i64 (xs.getD j 0)) := by
  obtain ⟨hn, h⟩ := h
  rcases h.2.2.2.2 with h0 | ⟨b, off, rfl, hb, hQ, hc⟩
  · exact .inl ⟨h0, List.eq_nil_of_length_eq_zero (by omega)⟩
  · exact .inr ⟨b, off, rfl, hb, hQ, hn, fun j hj => hc j _ (by simp [hj])⟩
theorem RBytes.cells {w : World} {Q : Nat → Prop} {a : Option Addr} {n c : Nat} {xs : List Int} (h : RBytes w Q a n c xs) : n = 0 ∧ xs = [] ∨ ∃ b off, a = some ⟨b, off, none⟩ ∧ b < w.heap.size ∧ Q b ∧ n = xs.length ∧ ∀ j, j < xs.length → w.cell? ⟨b, off + j, none⟩ = some (.int .u8 (xs.getD j 0)) := by
  obtain ⟨hn, h⟩ := h
  rcases h.2.2.2.2 with h0 | ⟨b, off, rfl, hb, hQ, hc⟩
  · exact .inl ⟨h0, List.eq_nil_of_length_eq_zero (by omega)⟩
  · exact .inr ⟨b, off, rfl, hb, hQ, hn, fun j hj => hc j _ (by simp [hj])⟩
end Go.Proofs.YtjbnmamgfpnccaaGreat
