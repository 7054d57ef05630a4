/- The member's short methods: its configuration, its last index, what it turns in its own block. -/
import Derived.Test.YtjbnmamgfpnccaaGreatQ
import Derived.Test.YtjbnmamgfpnccaaGreatS
namespace Go.Proofs.YtjbnmamgfpnccaaGreat
open Go Go.RowKit

/-- What is asked of a log so that its configuration can be told. -/
structure ConfOk (w : World) (Q : Nat → Prop) (lb : Nat) (L : LogC) : Prop where
  log : RLog w lb L
  plain : ∀ e ∈ L.es, e.k ≠ 2
  v : RInts w Q L.va L.vn L.vc L.vs
  l : RInts w Q L.la L.ln L.lc L.ls
  vn : L.vn ≤ 1000
  ln : L.ln ≤ 1000
theorem ConfOk.below {w w' : World} {Q : Nat → Prop} {lb : Nat} {L : LogC} (h : ConfOk w Q lb L) (hb : Below w.heap.size w w') : ConfOk w' Q lb L := ⟨h.log.below hb, h.plain, h.v.below hb, h.l.below hb, h.vn, h.ln⟩

theorem conf_any (Q : Nat → Prop) (lb : Nat) (L : LogC) (w : World) (h : ConfOk w Q lb L) :
    Calls Tryz.prog 56 #[.pointer (some ⟨lb, 0, none⟩)] w fun e w' => ∃ va' vc' la' lc', e = .returned (.tuple #[.agg #[.slice va' L.vn vc', .slice la' L.ln lc'], .int .i64 L.i]) ∧
      RInts w' (fun b => w.heap.size ≤ b) va' L.vn vc' L.vs ∧ RInts w' (fun b => w.heap.size ≤ b) la' L.ln lc' L.ls ∧ Below w.heap.size w w' := by
  have hB0 : Below w.heap.size w (w.alloc (.cells #[.slice none 0 0, .slice none 0 0] 26)) := (Below.refl _ w).alloc (Nat.le_refl _) _
  have HL := Lib.hid (last_any lb L _ (h.below hB0).log)
  generalize L.last.1 = x at HL
  generalize L.last.2 = y at HL
  go_enter Tryz.func56, Tryz.ntmps56
  go_wp2_with fail
  refine HL.out.mono ?_
  rintro e w1 ⟨rfl, hb⟩
  have hz1 := hb.size
  rw [size_alloc] at hz1
  have hb1 : Below w.heap.size w w1 := hB0.trans (hb.mono (by rw [size_alloc]; omega))
  have HC := Lib.hid (confAt_any Q lb L x w1 (h.below hb1).log h.plain (h.below hb1).v (h.below hb1).l h.vn h.ln)
  clear HL
  go_wp2_with fail
  refine HC.out.mono ?_
  rintro e w2 ⟨va', vc', la', lc', rfl, hr1, hr2, hb2⟩
  have hz2 := hb2.size
  have g0 : w2.heap[w.heap.size]? = some (.cells #[.slice none 0 0, .slice none 0 0] 26 (0, 0)) := by
    rw [hb2.block _ (by omega), hb.block _ (by simp), heap_alloc, if_pos rfl]
  have k1 := cellsOf g0
  have f1 := freeOf g0
  have G := Lib.hid g0
  clear HC g0
  go_wp2
  have e1 : ((w2.setCell ⟨w.heap.size, 0, none⟩ (.slice va' L.vn vc')).setCell ⟨w.heap.size, 1, none⟩ (.slice la' L.ln lc')).heap[w.heap.size]? = some (.cells #[.slice va' L.vn vc', .slice la' L.ln lc'] 26 (0, 0)) := by
    rw [heap_set (heap_set G.out)]; rfl
  have hC : Chg [w.heap.size] w2 ((w2.setCell ⟨w.heap.size, 0, none⟩ (.slice va' L.vn vc')).setCell ⟨w.heap.size, 1, none⟩ (.slice la' L.ln lc')) := ((Chg.refl _ w2).setCell (by simp) _).setCell (by simp) _
  have c1 := cellsOf e1
  refine bodyPost_ret (v := .tuple #[.agg #[.slice va' L.vn vc', .slice la' L.ln lc'], .int .i64 L.i]) (by simp [results, Tryz.results56, go_sem, c1]) rfl ⟨va', vc', la', lc', rfl, ?_, ?_, ?_⟩
  · exact (hr1.chg hC (by simp; omega)).mono (by simp; omega)
  · exact (hr2.chg hC (by simp; omega)).mono (by simp; omega)
  · exact (((Chg.ofBelow (M := [w.heap.size]) hb1).trans (Chg.ofBelow hb2)).trans hC).newBelow (by simp)

theorem cconf_any (F : List Nat) (b : Nat) (c : CoreC) (L : LogC) (w : World) (h : RCore w F b c L) (hk : ∀ e ∈ L.es, e.k ≠ 2) (h1 : L.vn ≤ 1000) (h2 : L.ln ≤ 1000) :
    Calls Tryz.prog 49 #[.pointer (some ⟨b, 0, none⟩)] w fun e w' => ∃ va' vc' la' lc', e = .returned (.agg #[.slice va' L.vn vc', .slice la' L.ln lc']) ∧
      RInts w' (fun b => w.heap.size ≤ b) va' L.vn vc' L.vs ∧ RInts w' (fun b => w.heap.size ≤ b) la' L.ln lc' L.ls ∧ Below w.heap.size w w' := by
  have hB0 : Below w.heap.size w (w.alloc (.cells #[.slice none 0 0, .slice none 0 0] 26)) := (Below.refl _ w).alloc (Nat.le_refl _) _
  have ho : ConfOk w (fun b => b ∉ F) c.lb L := ⟨h.rest.log.log, hk, h.rest.log.v, h.rest.log.l, h1, h2⟩
  have HL := Lib.hid (conf_any _ c.lb L _ (ho.below hB0))
  have hc := cellsOf h.blk
  have hlt := ltOf h.blk
  unfold CoreC.cells at hc
  clear h
  go_enter Tryz.func49, Tryz.ntmps49
  go_wp2_with fail
  refine HL.out.mono ?_
  rintro e w1 ⟨va', vc', la', lc', rfl, hr1, hr2, hb⟩
  have hz1 := hb.size
  rw [size_alloc] at hz1 hb
  have g0 : w1.heap[w.heap.size]? = some (.cells #[.slice none 0 0, .slice none 0 0] 26 (0, 0)) := by
    rw [hb.block _ (by omega), heap_alloc, if_pos rfl]
  have k1 := cellsOf g0
  have f1 := freeOf g0
  have G := Lib.hid g0
  have hszlt : w.heap.size < w1.heap.size := by omega
  clear HL g0 hc
  go_wp2
  have e1 : ((w1.setCell ⟨w.heap.size, 0, none⟩ (.slice va' L.vn vc')).setCell ⟨w.heap.size, 1, none⟩ (.slice la' L.ln lc')).heap[w.heap.size]? = some (.cells #[.slice va' L.vn vc', .slice la' L.ln lc'] 26 (0, 0)) := by
    rw [heap_set (heap_set G.out)]; rfl
  have e2 := (heap_alloc_ne (o := .cells #[.slice va' L.vn vc', .slice la' L.ln lc'] 26) (ltOf e1)).trans e1
  have hC : Chg [w.heap.size] w1 (((w1.setCell ⟨w.heap.size, 0, none⟩ (.slice va' L.vn vc')).setCell ⟨w.heap.size, 1, none⟩ (.slice la' L.ln lc')).alloc (.cells #[.slice va' L.vn vc', .slice la' L.ln lc'] 26)) :=
    (((Chg.refl _ w1).setCell (by simp) _).setCell (by simp) _).alloc _
  have c1 := cellsOf e2
  have hb1 : Below w.heap.size w w1 := hB0.trans (hb.mono (by omega))
  refine bodyPost_ret (v := .agg #[.slice va' L.vn vc', .slice la' L.ln lc']) (by simp [results, Tryz.results49, go_sem, c1]) rfl ⟨va', vc', la', lc', rfl, ?_, ?_, ?_⟩
  · exact (hr1.chg hC (by simp; omega)).mono (by simp; omega)
  · exact (hr2.chg hC (by simp; omega)).mono (by simp; omega)
  · exact ((Chg.ofBelow (M := [w.heap.size]) hb1).trans hC).newBelow (by simp)

section
variable {w w' : World} {F : List Nat} {b : Nat} {c : CoreC} {L : LogC}
/-- What a member's rest says, its numbers turned. -/
theorem RRest.same (h : RRest w F c L) (n t v cm r l q d : Int) (wh : Bool) : RRest w F { c with n := n, term := t, vote := v, commit := cm, role := r, lead := l, quiet := q, dirty := d, whole := wh } L :=
  ⟨h.log, h.yes, h.snap, h.cv, h.cl, h.cd, h.map, h.peers, h.nod, h.out, h.outs, h.mem, h.apart⟩
theorem foot_yes (c : CoreC) (L : LogC) : ∀ x, x ∈ foot { c with yes := .nil } L → x ∈ foot c L := by
  intro x; simp [foot, ownS, own, SI.nil, Value.ownBlock]; grind
theorem nod_yes (c : CoreC) (L : LogC) (h : (foot c L).Nodup) : (foot { c with yes := .nil } L).Nodup := by
  refine h.sublist ?_
  have hs : (ownS SI.nil).Sublist (ownS c.yes) := by simp [ownS, own, SI.nil, Value.ownBlock]
  exact ((((List.Sublist.append_left hs _).append_right _).append_right _).append_right _).append_right _
theorem RRest.noYes (h : RRest w F c L) : RRest w F { c with yes := .nil } L :=
  ⟨h.log, ⟨rfl, World.ownsRow_nil _ _ _ _⟩, h.snap, h.cv, h.cl, h.cd, h.map, h.peers, h.nod, h.out, h.outs, fun x hx => h.mem x (foot_yes c L x hx), nod_yes c L h.apart⟩
end

def CoreC.followed (c : CoreC) (t : Int) : CoreC := { c with term := t, vote := 0, role := 0, lead := 0, yes := .nil }
theorem follow_any (F : List Nat) (b : Nat) (c : CoreC) (L : LogC) (t : Int) (w : World) (h : RCore w F b c L) :
    Calls Tryz.prog 35 #[.pointer (some ⟨b, 0, none⟩), .int .i64 t] w fun e w' => e = .returned (.tuple #[]) ∧ RCore w' F b (c.followed t) L ∧ Chg [b] w w' := by
  have hc := cellsOf h.blk
  have hf := freeOf h.blk
  unfold CoreC.cells at hc
  have H := Lib.hid h
  clear h
  go_enter Tryz.func35, Tryz.ntmps35
  go_wp2
  go_end0
  have hC : Chg [b] w (((((w.setCell ⟨b, 1, none⟩ (.int .i64 t)).setCell ⟨b, 2, none⟩ (.int .i64 0)).setCell ⟨b, 5, none⟩ (.int .i64 0)).setCell ⟨b, 6, none⟩ (.int .i64 0)).setCell ⟨b, 8, none⟩ (.slice none 0 0)) :=
    (((((Chg.refl _ w).setCell (by simp) _).setCell (by simp) _).setCell (by simp) _).setCell (by simp) _).setCell (by simp) _
  refine ⟨rfl, H.out.upd hC ?_ (H.out.rest.noYes.same c.n t 0 c.commit 0 0 c.quiet c.dirty c.whole) (fun hx => H.out.b0 (foot_yes c L b hx)), hC⟩
  rw [heap_set (heap_set (heap_set (heap_set (heap_set H.out.blk))))]; rfl

def CoreC.touched (c : CoreC) (i : Int) : CoreC := if c.dirty = 0 ∨ i < c.dirty then { c with dirty := i } else c
theorem touch_any (F : List Nat) (b : Nat) (c : CoreC) (L : LogC) (i : Int) (w : World) (h : RCore w F b c L) :
    Calls Tryz.prog 87 #[.pointer (some ⟨b, 0, none⟩), .int .i64 i] w fun e w' => e = .returned (.tuple #[]) ∧ RCore w' F b (c.touched i) L ∧ Chg [b] w w' := by
  have hc := cellsOf h.blk
  have hf := freeOf h.blk
  unfold CoreC.cells at hc
  have H := Lib.hid h
  clear h
  have hC : Chg [b] w (w.setCell ⟨b, 21, none⟩ (.int .i64 i)) := (Chg.refl _ w).setCell (by simp) _
  have fin : (c.dirty = 0 ∨ i < c.dirty) → RCore (w.setCell ⟨b, 21, none⟩ (.int .i64 i)) F b (c.touched i) L := fun hd => by
    unfold CoreC.touched; rw [if_pos hd]
    exact H.out.upd hC (by rw [heap_set H.out.blk]; rfl) (H.out.rest.same c.n c.term c.vote c.commit c.role c.lead c.quiet i c.whole) H.out.b0
  have fin' : ¬ (c.dirty = 0 ∨ i < c.dirty) → RCore w F b (c.touched i) L := fun hd => by
    unfold CoreC.touched; rw [if_neg hd]; exact H.out
  have Fin := Lib.hid fin
  have Fin' := Lib.hid fin'
  clear fin fin'
  by_cases c1 : c.dirty = 0
  · have q1 : (c.dirty == 0) = true := by simp [c1]
    have C1 := Lib.hid c1
    clear c1
    go_enter Tryz.func87, Tryz.ntmps87
    go_wp2
    go_end0
    exact ⟨rfl, Fin.out (.inl C1.out), hC⟩
  · have q1 : (c.dirty == 0) = false := by simp [c1]
    by_cases c2 : i < c.dirty
    · go_enter Tryz.func87, Tryz.ntmps87
      go_wp2
      go_end0
      exact ⟨rfl, Fin.out (.inr c2), hC⟩
    · have c3 : c.dirty ≤ i := by omega
      go_enter Tryz.func87, Tryz.ntmps87
      go_wp2
      go_end0
      exact ⟨rfl, Fin'.out (by omega), Chg.refl _ _⟩
end Go.Proofs.YtjbnmamgfpnccaaGreat
