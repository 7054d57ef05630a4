/- msg.Right: its parts. -/
import Derived.Test.YtjbnmamgfpnccaaGreatR
import Derived.Test.YtjbnmamgfpnccaaGreatN1
namespace Go.Proofs.YtjbnmamgfpnccaaGreat
open Go Go.RowKit

theorem number_any (n least : Int) (w : World) : Calls Tryz.prog 63 #[.int .i64 n, .int .i64 least] w fun e w' => e = .returned (.bool (decide (least ≤ n) && decide (n ≤ 1099511627776))) ∧ w' = w := by
  by_cases h1 : least ≤ n
  · have d1 : decide (least ≤ n) = true := by simp [h1]
    go_enter Tryz.func63, Tryz.ntmps63
    go_wp2
    go_ret
    exact ⟨by simp [h1], rfl⟩
  · have d1 : decide (least ≤ n) = false := by simp [h1]
    go_enter Tryz.func63, Tryz.ntmps63
    go_wp2
    go_ret
    exact ⟨by simp [d1], rfl⟩

/-- What a kind names: index, logTerm, commit, ok, entries. -/
def partsOf (k : Int) : Array Value := #[.bool (k == 1 || k == 3 || k == 5), .bool (k == 1 || k == 3 || k == 5), .bool (k == 5), .bool (k == 2 || k == 4), .bool (k == 5), .bool false, .bool false, .bool false, .bool false]
set_option maxHeartbeats 1000000 in
theorem names_any (k : Int) (w : World) (h1 : 1 ≤ k) (h5 : k ≤ 5) : Calls Tryz.prog 62 #[.int .i64 k] w fun e w' => e = .returned (.tuple #[.agg (partsOf k), .bool true]) ∧ Below w.heap.size w w' := by
  have hk : k = 1 ∨ k = 2 ∨ k = 3 ∨ k = 4 ∨ k = 5 := by omega
  rcases hk with rfl | rfl | rfl | rfl | rfl
  all_goals
    clear h1 h5
    go_enter Tryz.func62, Tryz.ntmps62
    go_wp2
    refine bodyPost_ret (v := .tuple #[.agg (partsOf _), .bool true]) (by simp [results, Tryz.results62, go_sem, partsOf]) rfl ⟨rfl, (Below.refl _ w).alloc (Nat.le_refl _) _⟩

theorem rising_nil (a : Option Addr) (c : Nat) (w : World) : Calls Tryz.prog 96 #[.slice a 0 c] w fun e w' => e = .returned (.bool true) ∧ w' = w := by
  go_enter Tryz.func96, Tryz.ntmps96
  go_wp2_with fail
  go_loopw [7] (fun i wr => i = .int .i64 0 ∧ wr = w) (fun _ _ => 0)
  case atStart => exact ⟨rfl, rfl⟩
  case round =>
    obtain ⟨rfl, rfl⟩ := hrel
    go_wp2
    go_ret
    exact ⟨rfl, rfl⟩
theorem confRight_nil (a a' : Option Addr) (c c' : Nat) (w : World) : Calls Tryz.prog 65 #[.agg #[.slice a 0 c, .slice a' 0 c']] w fun e w' => e = .returned (.bool false) ∧ Below w.heap.size w w' := by
  go_enter Tryz.func65, Tryz.ntmps65
  go_wp2_with (go_at_call 96; refine (rising_nil _ _ _).mono ?_; rintro e w1 ⟨rfl, rfl⟩)
  go_ret
  exact ⟨rfl, (Below.refl _ w).alloc (Nat.le_refl _) _⟩

/-- A message's entries follow its place. -/
structure EsOk (m : MsgC) : Prop where
  n : m.es.n = m.es.es.length
  few : m.es.es.length ≤ 8
  next : ∀ (j : Nat) (e : EntC), m.es.es[j]? = some e → e.i = m.index + 1 + (j : Int) ∧ e.i ≤ 1099511627776 ∧ tprev m.logTerm m.es.es j ≤ e.t ∧ e.t ≤ m.term ∧ 0 ≤ e.k ∧ e.k ≤ 2 ∧ e.dn ≤ 2048

set_option maxRecDepth 100000 in
set_option maxHeartbeats 2000000 in
theorem entriesOk_any (F : List Nat) (m : MsgC) (w : World) (h : RE w F m.es) (hok : EsOk m) (hi0 : 0 ≤ m.index) (hi1 : m.index ≤ 1099511627776) :
    Calls Tryz.prog 64 #[.agg m.cells.toArray] w fun e w' => e = .returned (.bool true) ∧ Below w.heap.size w w' := by
  obtain ⟨kind, frm, to, term, idx, lt, cm, ok, ⟨ea, en, ec, es⟩, off, data, last, v, l⟩ := m
  obtain ⟨hn, hfew, hnext⟩ := hok
  unfold MsgC.cells
  dsimp only at *
  subst hn
  obtain ⟨W, hW⟩ : ∃ W, W = w.alloc (.cells #[.int .i64 kind, .int .i64 frm, .int .i64 to, .int .i64 term, .int .i64 idx, .int .i64 lt, .int .i64 cm, .bool ok, .slice ea es.length ec, .int .i64 off, .slice data.a data.n data.c, .bool last, .slice v.a v.n v.c, .slice l.a l.n l.c] 36) := ⟨_, rfl⟩
  have hB0 : Below w.heap.size w W := by rw [hW]; exact (Below.refl _ w).alloc (Nat.le_refl _) _
  have hbox : W.heap[w.heap.size]? = some (.cells #[.int .i64 kind, .int .i64 frm, .int .i64 to, .int .i64 term, .int .i64 idx, .int .i64 lt, .int .i64 cm, .bool ok, .slice ea es.length ec, .int .i64 off, .slice data.a data.n data.c, .bool last, .slice v.a v.n v.c, .slice l.a l.n l.c] 36 (0, 0)) := by rw [hW, heap_alloc, if_pos rfl]
  have hsz : W.heap.size = w.heap.size + 1 := by rw [hW, size_alloc]
  have HBox := Lib.hid hbox
  have HB0 := Lib.hid hB0
  have H := Lib.hid (h.sl.below hB0)
  have Hnext := Lib.hid hnext
  have hkb := cellsOf hbox
  clear h hnext hB0 hbox
  go_enter Tryz.func64, Tryz.ntmps64
  go_wp2_with fail
  rw [← hW]
  go_quiet (fail)
  clear hW
  go_wp2_with fail
  go_loopw [3, 4, 14] (fun ix tm i wr => ∃ k : Nat, k ≤ es.length ∧ i = .int .i64 k ∧ ix = .int .i64 (idx + k) ∧ tm = .int .i64 (tprev lt es k) ∧ Below W.heap.size W wr)
    (fun _ _ i _ => es.length - (intOf i).toNat)
  case atStart => exact ⟨0, Nat.zero_le _, rfl, by simp, rfl, below_drewN' (Below.refl _ _) _⟩
  case round =>
    obtain ⟨k, hk1, rfl, rfl, rfl, hbr⟩ := hrel
    have HBr := Lib.hid hbr
    clear hbr
    by_cases hkl : k < es.length
    · obtain ⟨e, he⟩ : ∃ e, es[k]? = some e := ⟨es[k], by simp [hkl]⟩
      obtain ⟨bx, off', rfl, hbx, hcx⟩ : ∃ bx off, ea = some ⟨bx, off, none⟩ ∧ bx < W.heap.size ∧ ∀ j u, (entCells es)[j]? = some u → W.cell? ⟨bx, off + j, none⟩ = some u := by
        rcases H.out.2.2.2.2 with h0 | ⟨bx, off, h1, h2, _, h5⟩
        · exact absurd hkl (by rw [show es.length = 0 from h0]; omega)
        · exact ⟨bx, off, h1, h2, h5⟩
      have hget := entCells_get es k e he
      have hbw := HBr.out
      have e0 := (hbw.cell (p := ⟨bx, off' + k * 4, none⟩) hbx).trans (hcx _ _ hget.1)
      have e1 := (hbw.cell (p := ⟨bx, off' + (k * 4 + 1), none⟩) hbx).trans (hcx _ _ hget.2.1)
      have e2 := (hbw.cell (p := ⟨bx, off' + (k * 4 + 2), none⟩) hbx).trans (hcx _ _ hget.2.2.1)
      have e3 := (hbw.cell (p := ⟨bx, off' + (k * 4 + 3), none⟩) hbx).trans (hcx _ _ hget.2.2.2)
      rw [← Nat.add_assoc] at e1 e2 e3
      have kt : wr.cell? ⟨w.heap.size, 3, none⟩ = some (.int .i64 term) := (hbw.cell (p := ⟨w.heap.size, 3, none⟩) (by show w.heap.size < _; omega)).trans (by rw [cellsOf HBox.out]; rfl)
      have hlw : w.heap.size < wr.heap.size := by have := hbw.size; omega
      obtain ⟨n1, n2, n3, n4, n5, n6, n7⟩ := Hnext.out k e he
      have ht' : Hid (tprev lt es (k + 1) = e.t) := Lib.hid (by simp [tprev, he])
      have heq : (e.i != idx + (k : Int) + 1) = false := by simp; omega
      have hwr : IntKind.i64.wrap (idx + (k : Int) + 1) = idx + (k : Int) + 1 := IntWalk.i64_in _ (by omega)
      have N1 := Lib.hid n1
      have m2 : ¬ e.i > 1099511627776 := by omega
      have m3 : ¬ e.t < tprev lt es k := by omega
      have m4 : ¬ e.t > term := by omega
      have m5 : ¬ e.k < 0 := by omega
      have m6 : ¬ e.k > 2 := by omega
      have m7 : ¬ (e.dn : Int) > 2048 := by omega
      clear hcx hget hbw he n1
      go_wp2_with fail
      go_quiet (fail)
      go_wp2
      go_roundw
      case rel => exact ⟨k + 1, by omega, by go_num, congrArg (Value.int IntKind.i64) (by have := N1.out; omega), by rw [ht'.out], below_drewN' (HBr.out.alloc HBr.out.size _) _⟩
      case measure => simp [intOf]; omega
    · obtain rfl : k = es.length := by omega
      have hle : (es.length : Int) ≤ 8 := by omega
      have kn : wr.cell? ⟨w.heap.size, 8, none⟩ = some (.slice ea es.length ec) := (HBr.out.cell (p := ⟨w.heap.size, 8, none⟩) (by show w.heap.size < _; omega)).trans (by rw [cellsOf HBox.out]; rfl)
      go_wp2_with fail
      go_ret
      exact ⟨rfl, HB0.out.trans (HBr.out.mono (by omega))⟩
end Go.Proofs.YtjbnmamgfpnccaaGreat
