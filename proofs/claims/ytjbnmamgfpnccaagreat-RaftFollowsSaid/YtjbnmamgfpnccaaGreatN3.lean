/- msg.Right. -/
import Derived.Test.YtjbnmamgfpnccaaGreatN2
import Derived.Test.YtjbnmamgfpnccaaGreatT
namespace Go.Proofs.YtjbnmamgfpnccaaGreat
open Go Go.RowKit Go.Sort

structure MsgOk (m : MsgC) : Prop where
  k1 : 1 ≤ m.kind
  k5 : m.kind ≤ 5
  f1 : 1 ≤ m.frm
  f7 : m.frm ≤ 7
  o1 : 1 ≤ m.to
  o7 : m.to ≤ 7
  ne : m.frm ≠ m.to
  t1 : 1 ≤ m.term
  tm : m.term ≤ 1099511627776
  i0 : 0 ≤ m.index
  i1 : m.index ≤ 1099511627776
  iz : m.kind = 2 ∨ m.kind = 4 → m.index = 0
  l0 : 0 ≤ m.logTerm
  l1 : m.logTerm ≤ 1099511627776
  lz : m.kind = 2 ∨ m.kind = 4 → m.logTerm = 0
  c0 : 0 ≤ m.commit
  c1 : m.commit ≤ 1099511627776
  cz : m.kind ≠ 5 → m.commit = 0
  ok : m.kind ≠ 2 → m.kind ≠ 4 → m.ok = false
  es : EsOk m
  ez : m.kind ≠ 5 → m.es.n = 0
  off : m.off = 0
  data : m.data.n = 0
  last : m.last = false
  v : m.v.n = 0
  l : m.l.n = 0

/-- A region's operations, found in the program. -/
def regionsOf : Code → List (Nat × Array Oper)
  | .region i o _ => [(i, o)]
  | .seq a b => regionsOf a ++ regionsOf b
  | .cond _ a b => regionsOf a ++ regionsOf b
  | .block _ c => regionsOf c
  | .loop c => regionsOf c
  | _ => []
noncomputable def ops32 : List Oper := match (regionsOf (Tryz.f32.body.getD .skip)).find? (fun x => x.1 == 7) with | some x => x.2.toList | none => []
theorem ops32_float : floatB .any ops32.toArray 90 92 = true := by kernel_rfl

/-- The table of a message's parts. -/
def tableOf (p0 p2 p3 : Bool) (idx lt cm : Int) (ok : Bool) (n : Nat) : Array Value := #[.bool p0, .bool (idx == 0), .bool true,
  .bool p0, .bool (lt == 0), .bool true,
  .bool p2, .bool (cm == 0), .bool true,
  .bool p3, .bool !ok, .bool true,
  .bool p2, .bool ((n : Int) == 0), .bool true,
  .bool false, .bool true, .bool true,
  .bool false, .bool true, .bool true,
  .bool false, .bool true, .bool true,
  .bool false, .bool true, .bool false]
theorem table_ok (m : MsgC) (h : MsgOk m) (j : Nat) (hj : j < 9) : ∃ n z r : Bool, (tableOf (m.kind == 1 || m.kind == 3 || m.kind == 5) (m.kind == 5) (m.kind == 2 || m.kind == 4) m.index m.logTerm m.commit m.ok m.es.n)[j * 3]? = some (.bool n) ∧
    (tableOf (m.kind == 1 || m.kind == 3 || m.kind == 5) (m.kind == 5) (m.kind == 2 || m.kind == 4) m.index m.logTerm m.commit m.ok m.es.n)[j * 3 + 1]? = some (.bool z) ∧
    (tableOf (m.kind == 1 || m.kind == 3 || m.kind == 5) (m.kind == 5) (m.kind == 2 || m.kind == 4) m.index m.logTerm m.commit m.ok m.es.n)[j * 3 + 2]? = some (.bool r) ∧ (n = true ∧ r = true ∨ n = false ∧ z = true) := by
  have k1 := h.k1
  have k5 := h.k5
  have hk : m.kind = 1 ∨ m.kind = 2 ∨ m.kind = 3 ∨ m.kind = 4 ∨ m.kind = 5 := by omega
  have iz := h.iz
  have lz := h.lz
  have cz := h.cz
  have hok := h.ok
  have ez := h.ez
  have hj' : j = 0 ∨ j = 1 ∨ j = 2 ∨ j = 3 ∨ j = 4 ∨ j = 5 ∨ j = 6 ∨ j = 7 ∨ j = 8 := by omega
  rcases hj' with rfl | rfl | rfl | rfl | rfl | rfl | rfl | rfl | rfl
  · exact ⟨_, _, _, rfl, rfl, rfl, by rcases hk with e | e | e | e | e <;> simp [e] at iz ⊢ <;> omega⟩
  · exact ⟨_, _, _, rfl, rfl, rfl, by rcases hk with e | e | e | e | e <;> simp [e] at lz ⊢ <;> omega⟩
  · exact ⟨_, _, _, rfl, rfl, rfl, by rcases hk with e | e | e | e | e <;> simp [e] at cz ⊢ <;> omega⟩
  · exact ⟨_, _, _, rfl, rfl, rfl, by rcases hk with e | e | e | e | e <;> simp [e] at hok ⊢ <;> simp [hok]⟩
  · exact ⟨_, _, _, rfl, rfl, rfl, by rcases hk with e | e | e | e | e <;> simp [e] at ez ⊢ <;> omega⟩
  all_goals exact ⟨_, _, _, rfl, rfl, rfl, by simp⟩

set_option maxRecDepth 100000 in
set_option maxHeartbeats 4000000 in
theorem rightMsg_any (F : List Nat) (m : MsgC) (w : World) (h : RE w F m.es) (hok : MsgOk m) :
    Calls Tryz.prog 32 #[.agg m.cells.toArray] w fun e w' => e = .returned (.bool true) ∧ Below w.heap.size w w' := by
  have HT := Lib.hid (table_ok m hok)
  have HEs := Lib.hid (fun W (hb : Below w.heap.size w W) => entriesOk_any F m W ((h.chg (Chg.ofBelow (M := []) hb) (by simp))) hok.es hok.i0 hok.i1)
  obtain ⟨hk1, hk5, hf1, hf7, ho1, ho7, hne, ht1, htm, hi0, hi1, _, hl0, hl1, _, hc0, hc1, _, _, _, _, hoff, hdata, hlast, hv, hl⟩ := hok
  obtain ⟨kind, frm, to, term, idx, lt, cm, ok, es, off, data, last, v, l⟩ := m
  unfold MsgC.cells at HEs ⊢
  dsimp only at *
  subst hoff hlast
  rw [hdata, hv, hl] at HEs ⊢
  have q1 : (frm == to) = false := by simp [hne]
  have q7 : (kind != 7) = true := by simp; omega
  have HN : Hid (∀ W : World, Calls Tryz.prog 62 #[.int .i64 kind] W fun e w' => e = .returned (.tuple #[.agg #[.bool (kind == 1 || kind == 3 || kind == 5), .bool (kind == 1 || kind == 3 || kind == 5), .bool (kind == 5), .bool (kind == 2 || kind == 4), .bool (kind == 5), .bool false, .bool false, .bool false, .bool false], .bool true]) ∧ Below W.heap.size W w') := Lib.hid (fun W => names_any kind W hk1 hk5)
  obtain ⟨p0, hp0⟩ : ∃ p0, p0 = (kind == 1 || kind == 3 || kind == 5) := ⟨_, rfl⟩
  obtain ⟨p2, hp2⟩ : ∃ p2, p2 = (kind == 5) := ⟨_, rfl⟩
  obtain ⟨p3, hp3⟩ : ∃ p3, p3 = (kind == 2 || kind == 4) := ⟨_, rfl⟩
  rw [← hp0, ← hp3, ← hp2] at HN HT
  unfold tableOf at HT
  clear hp0 hp2 hp3
  have d1 : decide (frm < 1) = false := by simp; omega
  have d2 : decide (7 < frm) = false := by simp; omega
  have d3 : decide (to < 1) = false := by simp; omega
  have d4 : decide (7 < to) = false := by simp; omega
  obtain ⟨W, hW⟩ : ∃ W, W = w.alloc (.cells #[.int .i64 kind, .int .i64 frm, .int .i64 to, .int .i64 term, .int .i64 idx, .int .i64 lt, .int .i64 cm, .bool ok, .slice es.a es.n es.c, .int .i64 0, .slice data.a 0 data.c, .bool false, .slice v.a 0 v.c, .slice l.a 0 l.c] 36) := ⟨_, rfl⟩
  have hB0 : Below w.heap.size w W := by rw [hW]; exact (Below.refl _ w).alloc (Nat.le_refl _) _
  have hbox : W.heap[w.heap.size]? = some (.cells #[.int .i64 kind, .int .i64 frm, .int .i64 to, .int .i64 term, .int .i64 idx, .int .i64 lt, .int .i64 cm, .bool ok, .slice es.a es.n es.c, .int .i64 0, .slice data.a 0 data.c, .bool false, .slice v.a 0 v.c, .slice l.a 0 l.c] 36 (0, 0)) := by rw [hW, heap_alloc, if_pos rfl]
  have hsz : W.heap.size = w.heap.size + 1 := by rw [hW, size_alloc]
  have HBox := Lib.hid hbox
  have HB0 := Lib.hid hB0
  have hkb := cellsOf hbox
  clear h hdata hv hl hne hB0 hbox
  go_enter Tryz.func32, Tryz.ntmps32
  go_wp2_with fail
  rw [← hW]
  refine (HN.out W).mono ?_
  rintro e w1 ⟨rfl, hb1⟩
  have hz1 := hb1.size
  have kb1 := keepCells hb1 (by omega) hkb
  have hlw1 : w.heap.size < w1.heap.size := by omega
  have hlw2 : w.heap.size < w1.heap.size + 1 := by omega
  clear hW hkb HN
  have n1 : (decide (1 ≤ term) && decide (term ≤ 1099511627776)) = true := by simp; omega
  go_wp2_with (go_at_call 63; refine (number_any _ _ _).mono ?_; rintro e w' ⟨rfl, rfl⟩)
  obtain ⟨W1, hW1⟩ : ∃ W1, W1 = w1.alloc (.cells #[.bool p0, .bool p0, .bool p2, .bool p3, .bool p2, .bool false, .bool false, .bool false, .bool false] 114) := ⟨_, rfl⟩
  rw [← hW1]
  have hb1W : Below w1.heap.size w1 W1 := by rw [hW1]; exact (Below.refl _ _).alloc (Nat.le_refl _) _
  have hpk : W1.heap[w1.heap.size]? = some (.cells #[.bool p0, .bool p0, .bool p2, .bool p3, .bool p2, .bool false, .bool false, .bool false, .bool false] 114 (0, 0)) := by rw [hW1, heap_alloc, if_pos rfl]
  have hzW1 : W1.heap.size = w1.heap.size + 1 := by rw [hW1, size_alloc]
  have kp := cellsOf hpk
  have kb := keepCells hb1W hlw1 kb1
  have hbW1 : Below w.heap.size w W1 := (HB0.out.trans (hb1.mono (by omega))).trans (hb1W.mono (by omega))
  have HBW1 := Lib.hid hbW1
  have hlW : w.heap.size < W1.heap.size := by omega
  have hlW2 : w1.heap.size < W1.heap.size := by omega
  have kbR : ∀ (d : Nat) (os : Array Obj) (i : Nat), (grow (redrawn W1 d) os).cell? ⟨w.heap.size, i, none⟩ = #[Value.int .i64 kind, .int .i64 frm, .int .i64 to, .int .i64 term, .int .i64 idx, .int .i64 lt, .int .i64 cm, .bool ok, .slice es.a es.n es.c, .int .i64 0, .slice data.a 0 data.c, .bool false, .slice v.a 0 v.c, .slice l.a 0 l.c][i]? :=
    fun d os i => ((below_regrown W1 d os).cell (p := ⟨w.heap.size, i, none⟩) hlW).trans (kb i)
  have kpR : ∀ (d : Nat) (os : Array Obj) (i : Nat), (grow (redrawn W1 d) os).cell? ⟨w1.heap.size, i, none⟩ = #[Value.bool p0, .bool p0, .bool p2, .bool p3, .bool p2, .bool false, .bool false, .bool false, .bool false][i]? :=
    fun d os i => ((below_regrown W1 d os).cell (p := ⟨w1.heap.size, i, none⟩) hlW2).trans (kp i)
  have HcN := Lib.hid (fun (n k : Int) (d : Nat) (os : Array Obj) => Calls.regrown_of ((number_any n k (grow (redrawn W1 d) os)).mono (fun e w' h => ⟨h.1, by rw [h.2]; exact Below.refl _ _⟩)))
  have HcE := Lib.hid (fun (d : Nat) (os : Array Obj) => Calls.regrown_of (HEs.out (grow (redrawn W1 d) os) (hbW1.trans ((below_regrown W1 d os).mono hbW1.size))))
  have HcC := Lib.hid (fun (d : Nat) (os : Array Obj) => Calls.regrown_of (confRight_nil v.a l.a v.c l.c (grow (redrawn W1 d) os)))
  have HBW1 := Lib.hid hbW1
  have hk0 : W1.cell? ⟨w.heap.size, 0, none⟩ = some (.int .i64 kind) := by rw [kb]; rfl
  have Hk0 := Lib.hid hk0
  clear hW1 hb1W hpk kb1 hb1 hbW1 HEs HBox kb kp hk0
  simp only [List.append_eq, List.cons_append, List.nil_append]
  refine wp_region_float (C := fun w' => ∃ p : Regrown, w' = grow (redrawn W1 p.d) p.os) 90 92 _ (.int .i64 0) (by kernel_rfl) ops32_float rfl (.inl ⟨rfl, fun w => rfl⟩) (fun _ _ _ h => h) ⟨⟨W1.drawn + 1, #[]⟩, by rw [grow_empty]; rfl⟩ ?_
  simp only [List.take_succ_cons, List.take_zero, List.drop_succ_cons, List.drop_zero, Act.put, List.setIfInBounds_toArray, List.set_cons_succ, List.set_cons_zero]
  repeat (go_big_quiet_step (first | exact HcN.out _ _ _ _ | exact HcE.out _ _ | exact HcC.out _ _))
  refine wpQuiet_nil ?_
  intro wf hwf
  obtain ⟨p, hp⟩ := hwf
  have hbf : Below W1.heap.size W1 wf := by rw [hp]; exact below_regrown W1 p.d p.os
  have Hbf := Lib.hid hbf
  clear hp hbf HcN HcE HcC kbR kpR
  go_wp2_with fail
  obtain ⟨W2, hW2⟩ : ∃ W2, W2 = wf.alloc (.cells #[.bool p0, .bool (idx == 0), .bool true, .bool p0, .bool (lt == 0), .bool true, .bool p2, .bool (cm == 0), .bool true, .bool p3, .bool !ok, .bool true, .bool p2, .bool ((es.n : Int) == 0), .bool true,
    .bool false, .bool true, .bool true, .bool false, .bool true, .bool true, .bool false, .bool true, .bool true, .bool false, .bool true, .bool false] 117) := ⟨_, rfl⟩
  rw [← hW2]
  have hbt : W2.heap[wf.heap.size]? = some (.cells #[.bool p0, .bool (idx == 0), .bool true, .bool p0, .bool (lt == 0), .bool true, .bool p2, .bool (cm == 0), .bool true, .bool p3, .bool !ok, .bool true, .bool p2, .bool ((es.n : Int) == 0), .bool true,
    .bool false, .bool true, .bool true, .bool false, .bool true, .bool true, .bool false, .bool true, .bool true, .bool false, .bool true, .bool false] 117 (0, 0)) := by rw [hW2, heap_alloc, if_pos rfl]
  have hb2 : Below W1.heap.size W1 W2 := by rw [hW2]; exact Hbf.out.alloc Hbf.out.size _
  have hkt : Hid (∀ j, j < 9 → ∃ n z r : Bool, W2.cell? ⟨wf.heap.size, j * 3, none⟩ = some (.bool n) ∧ W2.cell? ⟨wf.heap.size, j * 3 + 1, none⟩ = some (.bool z) ∧ W2.cell? ⟨wf.heap.size, j * 3 + 2, none⟩ = some (.bool r) ∧ (n = true ∧ r = true ∨ n = false ∧ z = true)) := Lib.hid (fun j hj => by
    obtain ⟨n, z, r, h1, h2, h3, h4⟩ := HT.out j hj
    exact ⟨n, z, r, by rw [cellsOf hbt]; exact h1, by rw [cellsOf hbt]; exact h2, by rw [cellsOf hbt]; exact h3, h4⟩)
  have hlt2 := ltOf hbt
  have HB2 := Lib.hid hb2
  clear hW2 hbt hb2 HT
  generalize wf.heap.size = g at *
  go_loopw [143] (fun i wr => ∃ j : Nat, j ≤ 9 ∧ i = .int .i64 j ∧ Below W2.heap.size W2 wr) (fun i _ => 9 - (intOf i).toNat)
  case atStart => exact ⟨0, by omega, rfl, Below.refl _ _⟩
  case round =>
    obtain ⟨j, hj, rfl, hbr⟩ := hrel
    have HBr := Lib.hid hbr
    clear hbr
    by_cases hj9 : j < 9
    · obtain ⟨n, z, r, h1, h2, h3, h4⟩ := hkt.out j hj9
      have e1 := (HBr.out.cell (p := ⟨g, j * 3, none⟩) hlt2).trans h1
      have e2 := (HBr.out.cell (p := ⟨g, j * 3 + 1, none⟩) hlt2).trans h2
      have e3 := (HBr.out.cell (p := ⟨g, j * 3 + 2, none⟩) hlt2).trans h3
      clear h1 h2 h3
      rcases h4 with ⟨rfl, rfl⟩ | ⟨rfl, rfl⟩
      · go_wp2_with fail
        go_roundw
        case rel => exact ⟨j + 1, by omega, by go_num, HBr.out.alloc HBr.out.size _⟩
        case measure => simp [intOf]; omega
      · go_wp2_with fail
        go_roundw
        case rel => exact ⟨j + 1, by omega, by go_num, HBr.out.alloc HBr.out.size _⟩
        case measure => simp [intOf]; omega
    · obtain rfl : j = 9 := by omega
      have hbb : Below W1.heap.size W1 wr := HB2.out.trans (HBr.out.mono HB2.out.size)
      have k0 := (hbb.cell (p := ⟨w.heap.size, 0, none⟩) hlW).trans Hk0.out
      have HBB := Lib.hid hbb
      clear hbb
      go_wp2_with fail
      go_ret
      exact ⟨rfl, HBW1.out.trans (HBB.out.mono HBW1.out.size)⟩
end Go.Proofs.YtjbnmamgfpnccaaGreat
