/- A new log in memory; a tick that only waits. -/
import Derived.Test.YtjbnmamgfpnccaaGreatW7
import Derived.Test.YtjbnmamgfpnccaaGreatX1
namespace Go.Proofs.YtjbnmamgfpnccaaGreat
open Go Go.RowKit Go.Sort

def newLog (va : Option Addr) (vn vc : Nat) (la : Option Addr) (ln lc : Nat) (vs ls : List Int) : LogC := ⟨0, 0, va, vn, vc, la, ln, lc, .slice none 0 0, [], vs, ls⟩
theorem newLogF {w w' : World} {G : List Nat} {lb : Nat} {va la : Option Addr} {vn vc ln lc : Nat} {vs ls : List Int} (hb : w'.heap[lb]? = some (.cells #[.int .i64 0, .int .i64 0, .slice va vn vc, .slice la ln lc, .slice none 0 0] 84 (0, 0)))
    (hv : RInts w' (fun x => w.heap.size ≤ x ∧ x ≠ lb) va vn vc vs) (hl : RInts w' (fun x => w.heap.size ≤ x ∧ x ≠ lb) la ln lc ls) (hG : ∀ x ∈ G, x < w.heap.size) : RLogF w' (lb :: G) lb (newLog va vn vc la ln lc vs ls) := by
  have hq : ∀ x, x < w'.heap.size → (w.heap.size ≤ x ∧ x ≠ lb) → x ∉ lb :: G := by
    intro x _ ⟨h1, h2⟩ hm
    rcases List.mem_cons.1 hm with h3 | h3
    · exact h2 h3
    · have := hG x h3; omega
  refine ⟨⟨hb, ⟨rfl, .inl ⟨rfl, rfl⟩⟩, by simp [newLog, Value.ownBlock], by simp [newLog]⟩, ⟨by simp [newLog, LogC.ab], by simp [newLog, LogC.ab, maxNum], by simp [newLog, LogC.ab], by simp [newLog, LogC.ab, maxNum], by simp [newLog, LogC.ab]⟩, hv.mono hq, hl.mono hq, by simp [newLog], ?_⟩
  intro x hx
  simp [newLog, own, Value.ownBlock] at hx
  simp [hx]

/-- A new member's log. -/
theorem newLog_any (G : List Nat) (Q : Nat → Prop) (va la : Option Addr) (vn vc ln lc : Nat) (vs ls : List Int) (w : World) (hv : RInts w Q va vn vc vs) (hl : RInts w Q la ln lc ls) (h1 : vn ≤ 1000) (h2 : ln ≤ 1000) (hG : ∀ x ∈ G, x < w.heap.size) :
    Calls Tryz.prog 8 #[.int .i64 0, .int .i64 0, .agg #[.slice va vn vc, .slice la ln lc]] w fun e w' => ∃ lb va' vc' la' lc', e = .returned (.pointer (some ⟨lb, 0, none⟩)) ∧ w.heap.size ≤ lb ∧ lb < w'.heap.size ∧
      RLogF w' (lb :: G) lb (newLog va' vn vc' la' ln lc' vs ls) ∧ Below w.heap.size w w' := by
  refine (logNew_any Q va la vn vc ln lc vs ls w hv hl h1 h2).mono ?_
  rintro e w' ⟨lb, va', vc', la', lc', rfl, hlb, hb, r1, r2, hB⟩
  exact ⟨lb, va', vc', la', lc', rfl, hlb, ltOf hb, newLogF hb r1 r2 hG, hB⟩

set_option maxRecDepth 100000 in
set_option maxHeartbeats 2000000 in
theorem tickQuiet_any (F : List Nat) (b : Nat) (c : CoreC) (L : LogC) (w : World) (h : RCore w F b c L)
    (hrole : c.role ≠ 3) (hn0 : 0 ≤ c.n) (hn1 : c.n ≤ 1000000) (hq0 : 0 ≤ c.quiet) (hq1 : c.quiet + 1 < 10 + 2 * c.n) :
    Calls Tryz.prog 26 #[.pointer (some ⟨b, 0, none⟩)] w fun e w' => e = .returned (.tuple #[]) ∧ RCore w' F b { c with quiet := c.quiet + 1 } L ∧ Chg [b] w w' := by
  have hc := cellsOf h.blk
  have hf := freeOf h.blk
  have hlt := ltOf h.blk
  unfold CoreC.cells at hc
  have hwr : IntKind.i64.wrap (c.quiet + 1) = c.quiet + 1 := IntWalk.i64_in _ (by omega)
  have hr3 : (c.role == 3) = false := by simp [hrole]
  have H := Lib.hid h
  clear h hrole
  go_enter Tryz.func26, Tryz.ntmps26
  go_wp2_with fail
  obtain ⟨W, hW⟩ : ∃ W, W = w.setCell ⟨b, 7, none⟩ (.int .i64 (c.quiet + 1)) := ⟨_, rfl⟩
  rw [← hW]
  have hC : Chg [b] w W := by rw [hW]; exact (Chg.refl _ w).setCell (by simp) _
  have hR : RCore W F b { c with quiet := c.quiet + 1 } L := H.out.nums hC c.n c.term c.vote c.commit c.role c.lead (c.quiet + 1) c.dirty c.whole (by rw [hW, heap_set H.out.blk]; rfl)
  have HU := Lib.hid hC
  have HR := Lib.hid hR
  have k7 : W.cell? ⟨b, 7, none⟩ = some (.int .i64 (c.quiet + 1)) := by rw [cellsOf hR.blk]; rfl
  have k0 : W.cell? ⟨b, 0, none⟩ = some (.int .i64 c.n) := by rw [cellsOf hR.blk]; rfl
  have hltW := ltOf hR.blk
  have HP := Lib.hid (patience_any (hR.below ((Below.refl _ _).drew)) hn0 hn1)
  clear hW hC hR hc hf hr3 hwr hlt H
  go_region_held3 (fun W' => W'.cell? ⟨b, 7, none⟩ = some (.int .i64 (c.quiet + 1)))
    (first | (exact k7))
    ((go_at_call 47; refine HP.out.mono ?_; rintro e w1 ⟨rfl, rfl⟩))
  have hd : decide (c.quiet + 1 < 10 + 2 * c.n) = true := by simp [hq1]
  go_wp2_with fail
  go_end0
  exact ⟨rfl, HR.out.below (Below.refl _ _).drew, HU.out.drew⟩
end Go.Proofs.YtjbnmamgfpnccaaGreat
