/- The log's readers: Base, Last, Term, Has, Newer. -/
import Derived.Test.YtjbnmamgfpnccaaGreatProg
import Derived.Test.YtjbnmamgfpnccaaGreatH
import Derived.Test.YtjbnmamgfpnccaaGreatM
import Derived.Deep.QuietTactic
import Derived.BigQuiet
import Derived.Lib.Hide
namespace Go.Proofs.YtjbnmamgfpnccaaGreat
open Go Go.RowKit

/-- An entry in memory. -/
structure EntC where
  i : Int
  t : Int
  k : Int
  da : Option Addr
  dn : Nat
  dc : Nat
  d : List Int
def EntC.cells (e : EntC) : List Value := [.int .i64 e.i, .int .i64 e.t, .int .i64 e.k, .slice e.da e.dn e.dc]
def entCells (es : List EntC) : List Value := es.flatMap EntC.cells
theorem entCells_length (es : List EntC) : (entCells es).length = es.length * 4 := by
  induction es with
  | nil => rfl
  | cons e es ih => simp [entCells, EntC.cells] at *; omega
theorem entCells_get (es : List EntC) (n : Nat) (e : EntC) (h : es[n]? = some e) : (entCells es)[n * 4]? = some (.int .i64 e.i) ∧ (entCells es)[n * 4 + 1]? = some (.int .i64 e.t) ∧
    (entCells es)[n * 4 + 2]? = some (.int .i64 e.k) ∧ (entCells es)[n * 4 + 3]? = some (.slice e.da e.dn e.dc) := by
  induction es generalizing n with
  | nil => simp at h
  | cons x es ih =>
    cases n with
    | zero => simp at h; subst h; simp [entCells, EntC.cells]
    | succ n =>
      have := ih n (by simpa using h)
      have hl : x.cells.length = 4 := rfl
      have key : ∀ r, (entCells (x :: es))[(n + 1) * 4 + r]? = (entCells es)[n * 4 + r]? := fun r => by
        show (x.cells ++ entCells es)[(n + 1) * 4 + r]? = _
        rw [List.getElem?_append_right (by omega), hl]
        congr 1; omega
      have k0 := key 0
      simp only [Nat.add_zero] at k0
      rw [k0, key 1, key 2, key 3]; exact this

/-- A log in memory: base, configuration, entries. -/
structure LogC where
  i : Int
  t : Int
  va : Option Addr
  vn : Nat
  vc : Nat
  la : Option Addr
  ln : Nat
  lc : Nat
  ev : Value
  es : List EntC
  vs : List Int
  ls : List Int
def LogC.cells (L : LogC) : Array Value := #[.int .i64 L.i, .int .i64 L.t, .slice L.va L.vn L.vc, .slice L.la L.ln L.lc, L.ev]
structure RLog (w : World) (lb : Nat) (L : LogC) : Prop where
  blk : w.heap[lb]? = some (.cells L.cells 84 (0, 0))
  own : w.ownsRow 0 48 4 L.ev L.es.length (entCells L.es)
  ne : L.ev.ownBlock ≠ some lb
  few : L.es.length < 1000000

/-- What a log's slice of entries is. -/
theorem RLog.shape {w : World} {lb : Nat} {L : LogC} (h : RLog w lb L) : (L.ev = .slice none 0 0 ∧ L.es = []) ∨
    ∃ g c, L.ev = .slice (some ⟨g, 0, none⟩) L.es.length c ∧ g < w.heap.size ∧ g ≠ lb ∧ ∀ j, j < L.es.length * 4 → w.cell? ⟨g, j, none⟩ = (entCells L.es)[j]? := by
  rcases h.own.2 with ⟨hv, h0⟩ | ⟨g, cap, cur, hv, _, hh, hn, hm, hs, ht⟩
  · exact .inl ⟨hv, List.eq_nil_of_length_eq_zero h0⟩
  · refine .inr ⟨g, cap, hv, ltOf hh, fun e => h.ne (by rw [hv, ← e]; rfl), fun j hj => ?_⟩
    rw [cellsOf hh, ← ht, List.getElem?_take, if_pos hj]
    simp

theorem base_any (lb : Nat) (L : LogC) (w : World) (h : w.heap[lb]? = some (.cells L.cells 84 (0, 0))) :
    Calls Tryz.prog 25 #[.pointer (some ⟨lb, 0, none⟩)] w fun e w' => e = .returned (.tuple #[.int .i64 L.i, .int .i64 L.t]) ∧ Below w.heap.size w w' := by
  have hc := cellsOf h
  unfold LogC.cells at hc
  clear h
  go_enter Tryz.func25, Tryz.ntmps25
  go_wp2
  go_quiet (fail)
  go_wp2
  go_ret2
  exact ⟨rfl, (Chg.drewN (Chg.refl [] w) _).below⟩

def LogC.last (L : LogC) : Int × Int := match L.es.getLast? with | none => (L.i, L.t) | some e => (e.i, e.t)

theorem last_any (lb : Nat) (L : LogC) (w : World) (h : RLog w lb L) :
    Calls Tryz.prog 13 #[.pointer (some ⟨lb, 0, none⟩)] w fun e w' => e = .returned (.tuple #[.int .i64 L.last.1, .int .i64 L.last.2]) ∧ Below w.heap.size w w' := by
  have hc := cellsOf h.blk
  have hlt := ltOf h.blk
  have hsh := h.shape
  have hfew := h.few
  unfold LogC.cells at hc
  clear h
  obtain ⟨i, t, va, vn, vc, la, ln, lc, ev, es, vs, ls⟩ := L
  dsimp only at *
  rcases hsh with ⟨rfl, rfl⟩ | ⟨g, c, rfl, hg, hne, hcell⟩
  · go_enter Tryz.func13, Tryz.ntmps13
    go_wp2
    go_quiet (fail)
    go_wp2
    go_ret2
    exact ⟨rfl, (Chg.drewN (Chg.refl [] w) _).below⟩
  · rcases nil_or_snoc es with rfl | ⟨r, e, rfl⟩
    · go_enter Tryz.func13, Tryz.ntmps13
      go_wp2
      go_quiet (fail)
      go_wp2
      go_ret2
      exact ⟨rfl, (Chg.drewN (Chg.refl [] w) _).below⟩
    · have hl : LogC.last ⟨i, t, va, vn, vc, la, ln, lc, .slice (some ⟨g, 0, none⟩) (r ++ [e]).length c, r ++ [e], vs, ls⟩ = (e.i, e.t) := by simp [LogC.last]
      have hget := entCells_get (r ++ [e]) r.length e (by simp)
      have hlen : (r ++ [e]).length = r.length + 1 := by simp
      have e0 := (hcell (r.length * 4) (by rw [hlen]; omega)).trans hget.1
      have e1 := (hcell (r.length * 4 + 1) (by rw [hlen]; omega)).trans hget.2.1
      have e2 := (hcell (r.length * 4 + 2) (by rw [hlen]; omega)).trans hget.2.2.1
      have e3 := (hcell (r.length * 4 + 3) (by rw [hlen]; omega)).trans hget.2.2.2
      rw [hl]
      rw [hlen] at hc hfew
      clear hget hcell hl hlen
      generalize r.length = n at *
      have hw : IntKind.i64.wrap (n : Int) = n := IntWalk.i64_in _ (by omega)
      have hw2 : (n : Int) < (n : Int) + 1 := by omega
      have hw3 : ((n : Int) + 1 == 0) = false := by simp; omega
      go_enter Tryz.func13, Tryz.ntmps13
      go_wp2
      go_region
      go_wp2
      go_quiet (fail)
      go_wp2
      go_ret2
      exact ⟨rfl, (((((Chg.refl [] w).alloc _).drew).drewN _).below)⟩

theorem RLog.chg {w w' : World} {lb : Nat} {L : LogC} {M : List Nat} (h : RLog w lb L) (hc : Chg M w w') (h1 : lb ∉ M) (h2 : ∀ k, L.ev.ownBlock = some k → k ∉ M) : RLog w' lb L :=
  ⟨hc.get h.blk h1, hc.owns h.own h2, h.ne, h.few⟩
theorem RLog.below {w w' : World} {lb : Nat} {L : LogC} (h : RLog w lb L) (hc : Below w.heap.size w w') : RLog w' lb L :=
  h.chg (Chg.ofBelow (M := []) hc) (by simp) (by simp)

/-- A log is well formed: its entries follow the base. -/
structure LogC.Wf (L : LogC) : Prop where
  i0 : 0 ≤ L.i
  i1 : L.i ≤ 1099511627776
  next : ∀ (j : Nat) (e : EntC), L.es[j]? = some e → e.i = L.i + 1 + (j : Int)
  top : L.i + L.es.length ≤ 1099511627776
  few : L.es.length < 1000000
theorem LogC.Wf.last {L : LogC} (h : L.Wf) : L.last.1 = L.i + L.es.length := by
  unfold LogC.last
  rcases nil_or_snoc L.es with e | ⟨r, x, e⟩
  · rw [e]; simp
  · have := h.next r.length x (by rw [e]; simp)
    rw [e]; simp [this]; omega

def LogC.termAt (L : LogC) (x : Int) : Option Int :=
  if x < L.i then none else if x = L.i then some L.t else (L.es[(x - L.i - 1).toNat]?).map (·.t)

theorem term_any (lb : Nat) (L : LogC) (x : Int) (w : World) (h : RLog w lb L) (hw : L.Wf) :
    Calls Tryz.prog 41 #[.pointer (some ⟨lb, 0, none⟩), .int .i64 x] w fun e w' => e = .returned (.tuple #[.int .i64 ((L.termAt x).getD 0), .bool (L.termAt x).isSome]) ∧ Below w.heap.size w w' := by
  have hlast := hw.last
  have hfew := hw.few
  have hi0 := hw.i0
  have hi1 := hw.i1
  have htop := hw.top
  by_cases c1 : x < L.i
  · have hr : L.termAt x = none := by simp [LogC.termAt, c1]
    rw [hr]
    go_enter Tryz.func41, Tryz.ntmps41
    go_wp2_with fail
    refine (last_any lb L _ h).mono ?_
    rintro e w1 ⟨rfl, hb⟩
    have hc := cellsOf (h.below hb).blk
    unfold LogC.cells at hc
    clear hlast
    go_wp2
    go_ret2
    exact ⟨rfl, hb⟩
  · by_cases c2 : L.last.1 < x
    · have hr : L.termAt x = none := by
        have : L.es.length ≤ (x - L.i).toNat - 1 := by omega
        simp [LogC.termAt, c1, this, show x ≠ L.i by omega]
      rw [hr]
      go_enter Tryz.func41, Tryz.ntmps41
      go_wp2_with fail
      refine (last_any lb L _ h).mono ?_
      rintro e w1 ⟨rfl, hb⟩
      have hc := cellsOf (h.below hb).blk
      unfold LogC.cells at hc
      clear hlast
      go_wp2
      go_ret2
      exact ⟨rfl, hb⟩
    · by_cases c3 : x = L.i
      · have hr : L.termAt x = some L.t := by simp [LogC.termAt, c3]
        rw [hr]
        have hq : (x == L.i) = true := by simp [c3]
        have H3 := Lib.hid c3
        clear c3
        go_enter Tryz.func41, Tryz.ntmps41
        go_wp2_with fail
        refine (last_any lb L _ h).mono ?_
        rintro e w1 ⟨rfl, hb⟩
        have hc := cellsOf (h.below hb).blk
        unfold LogC.cells at hc
        clear hlast
        go_wp2
        go_ret2
        exact ⟨rfl, hb⟩
      · obtain ⟨n, hn⟩ : ∃ n : Nat, x = L.i + 1 + n := ⟨(x - L.i - 1).toNat, by omega⟩
        have hlt : n < L.es.length := by omega
        obtain ⟨e, he⟩ : ∃ e, L.es[n]? = some e := ⟨L.es[n], by simp [hlt]⟩
        have hr : L.termAt x = some e.t := by
          have : (x - L.i - 1).toNat = n := by omega
          simp [LogC.termAt, c1, c3, this, he]
        rw [hr]
        have hq : (x == L.i) = false := by simp [c3]
        have hs1 : IntKind.i64.wrap (x - L.i) = x - L.i := IntWalk.i64_in _ (by omega)
        have hs2 : IntKind.i64.wrap (x - L.i - 1) = x - L.i - 1 := IntWalk.i64_in _ (by omega)
        have hs3 : (x - L.i - 1).toNat = n := by omega
        have hs4 : 0 ≤ x - L.i - 1 := by omega
        have hs6 : 1 ≤ x - L.i := by omega
        have hs7 : (x - L.i).toNat - 1 = n := by omega
        have hs5 : x - L.i - 1 < L.es.length := by omega
        have hget := Lib.hid (entCells_get L.es n _ he)
        clear hn he c3 hlast hr
        go_enter Tryz.func41, Tryz.ntmps41
        go_wp2_with fail
        refine (last_any lb L _ h).mono ?_
        rintro e w1 ⟨rfl, hb⟩
        have h1 := h.below hb
        have hc := cellsOf h1.blk
        unfold LogC.cells at hc
        rcases h1.shape with ⟨_, h0⟩ | ⟨g, c, hev, hg, hne, hcell⟩
        · rw [h0] at hlt; simp at hlt
        have e1 := (hcell (n * 4 + 1) (by omega)).trans hget.out.2.1
        rw [hev] at hc
        clear hcell hget hev h1
        go_wp2
        go_quiet (fail)
        go_wp2
        go_ret2
        exact ⟨rfl, (Chg.drewN (Chg.ofBelow (M := []) hb) _).below⟩

def LogC.has (L : LogC) (x t : Int) : Bool := match L.termAt x with | none => false | some u => u == t
theorem has_any (lb : Nat) (L : LogC) (x t : Int) (w : World) (h : RLog w lb L) (hw : L.Wf) :
    Calls Tryz.prog 31 #[.pointer (some ⟨lb, 0, none⟩), .int .i64 x, .int .i64 t] w fun e w' => e = .returned (.bool (L.has x t)) ∧ Below w.heap.size w w' := by
  cases ht : L.termAt x with
  | none =>
    have hr : L.has x t = false := by simp [LogC.has, ht]
    rw [hr]
    go_enter Tryz.func31, Tryz.ntmps31
    go_wp2_with fail
    refine (term_any lb L x _ h hw).mono ?_
    rintro e w1 ⟨rfl, hb⟩
    rw [ht]
    clear ht
    go_wp2
    go_ret
    exact ⟨rfl, hb⟩
  | some u =>
    have hr : L.has x t = (u == t) := by simp [LogC.has, ht]
    rw [hr]
    go_enter Tryz.func31, Tryz.ntmps31
    go_wp2_with fail
    refine (term_any lb L x _ h hw).mono ?_
    rintro e w1 ⟨rfl, hb⟩
    rw [ht]
    clear ht
    go_wp2
    go_ret
    exact ⟨rfl, hb⟩

def LogC.newer (L : LogC) (x t : Int) : Bool := decide (L.last.2 < t) || (t == L.last.2 && decide (L.last.1 ≤ x))
theorem newer_any (lb : Nat) (L : LogC) (x t : Int) (w : World) (h : RLog w lb L) :
    Calls Tryz.prog 99 #[.pointer (some ⟨lb, 0, none⟩), .int .i64 x, .int .i64 t] w fun e w' => e = .returned (.bool (L.newer x t)) ∧ Below w.heap.size w w' := by
  unfold LogC.newer
  have HL := Lib.hid (last_any lb L w h)
  generalize L.last = p at HL ⊢
  obtain ⟨a, b⟩ := p
  dsimp only at HL ⊢
  clear h
  by_cases c1 : b < t
  · go_enter Tryz.func99, Tryz.ntmps99
    go_wp2_with fail
    refine HL.out.mono ?_
    rintro e w1 ⟨rfl, hb⟩
    go_wp2
    go_ret
    exact ⟨by simp [c1], hb⟩
  · by_cases c2 : t = b
    · subst c2
      go_enter Tryz.func99, Tryz.ntmps99
      go_wp2_with fail
      refine HL.out.mono ?_
      rintro e w1 ⟨rfl, hb⟩
      go_wp2
      go_ret
      exact ⟨by simp, hb⟩
    · have c3 : (t == b) = false := by simp [c2]
      have c4 : t < b := by omega
      go_enter Tryz.func99, Tryz.ntmps99
      go_wp2_with fail
      refine HL.out.mono ?_
      rintro e w1 ⟨rfl, hb⟩
      go_wp2
      go_ret
      exact ⟨by simp [c3], hb⟩

def EntC.ab (e : EntC) : Ent := ⟨e.i, e.t, e.k, e.d⟩
def LogC.ab (L : LogC) : Log := ⟨L.i, L.t, ⟨L.vs, L.ls⟩, L.es.map EntC.ab⟩
theorem LogC.last_ab (L : LogC) : L.last = L.ab.last := by
  unfold LogC.last Log.last LogC.ab
  rcases nil_or_snoc L.es with e | ⟨r, x, e⟩ <;> simp [e, EntC.ab]
theorem LogC.termAt_ab (L : LogC) (x : Int) : L.termAt x = L.ab.termAt x := by
  unfold LogC.termAt Log.termAt LogC.ab
  simp only [List.getElem?_map, Option.map_map]
  rfl
theorem LogC.has_ab (L : LogC) (x t : Int) : L.has x t = L.ab.has x t := by unfold LogC.has Log.has; rw [LogC.termAt_ab]; cases L.ab.termAt x <;> rfl
theorem LogC.newer_ab (L : LogC) (x t : Int) : L.newer x t = L.ab.newer x t := by unfold LogC.newer Log.newer; rw [LogC.last_ab]
theorem LogC.wf_ab {L : LogC} (h : L.ab.Wf) : L.Wf :=
  ⟨h.i0, h.i1, fun j e he => h.next j e.ab (by simp [LogC.ab, he]), by have := h.top; simpa [LogC.ab, maxNum] using this, by have := h.few; simpa [LogC.ab] using this⟩
end Go.Proofs.YtjbnmamgfpnccaaGreat
