/- raft.New at no snapshot. -/
import Derived.Test.YtjbnmamgfpnccaaGreatW2
namespace Go.Proofs.YtjbnmamgfpnccaaGreat
open Go Go.RowKit

def newCore (n term vote : Int) (lb : Nat) (commit : Int) (a : Option Addr) (cc : Nat) : CoreC :=
  ⟨n, term, vote, lb, commit, 0, 0, 0, .nil, ⟨0, 0, .nil, .nil, ⟨a, 0, cc, []⟩⟩, .nil, none, none, 0, 0, [], 0, false, []⟩

set_option maxRecDepth 100000 in
set_option maxHeartbeats 1000000 in
theorem coreNew_any (F : List Nat) (n term vote : Int) (lb : Nat) (L : LogC) (w : World) (h : RLogF w F lb L) (hF : ∀ x ∈ F, x < w.heap.size) (hev : own L.ev = []) :
    Calls Tryz.prog 7 #[.int .i64 n, .int .i64 term, .int .i64 vote, .pointer (some ⟨lb, 0, none⟩), .agg #[.int .i64 0, .int .i64 0, .slice none 0 0, .slice none 0 0, .slice none 0 0]] w fun e w' =>
      ∃ b a cc, e = .returned (.pointer (some ⟨b, 0, none⟩)) ∧ w.heap.size ≤ b ∧ RCore w' (b :: F) b (newCore n term vote lb L.i a cc) L ∧ Below w.heap.size w w' := by
  obtain ⟨W, hW⟩ : ∃ W, W = w.alloc (.cells #[.int .i64 0, .int .i64 0, .slice none 0 0, .slice none 0 0, .slice none 0 0] 33) := ⟨_, rfl⟩
  have hB0 : Below w.heap.size w W := by rw [hW]; exact (Below.refl _ w).alloc (Nat.le_refl _) _
  have hbox : W.heap[w.heap.size]? = some (.cells #[.int .i64 0, .int .i64 0, .slice none 0 0, .slice none 0 0, .slice none 0 0] 33 (0, 0)) := by rw [hW, heap_alloc, if_pos rfl]
  have hsz : W.heap.size = w.heap.size + 1 := by rw [hW, size_alloc]
  have hlb := ltOf h.log.blk
  have HBa := Lib.hid (base_any lb L W (hB0.block _ hlb |>.trans h.log.blk))
  have H := Lib.hid h
  have HF := Lib.hid hF
  clear hF
  have HB0 := Lib.hid hB0
  have HBox := Lib.hid hbox
  clear h hB0 hbox
  go_enter Tryz.func7, Tryz.ntmps7
  go_wp2_with fail
  rw [← hW]
  refine HBa.out.mono ?_
  rintro e w1 ⟨rfl, hb1⟩
  have hz1 := hb1.size
  have kx := cellsOf ((hb1.block _ (by omega)).trans HBox.out)
  have hlx : w.heap.size < w1.heap.size := by omega
  have HN := Lib.hid (noSnap_any w1)
  have HB1 := Lib.hid (HB0.out.trans (hb1.mono (by omega)))
  clear hW hb1 HBa HBox HB0
  go_wp2_with fail
  refine HN.out.mono ?_
  rintro e w2 ⟨a, cc, rfl, hr2, hb2⟩
  have hz2 := hb2.size
  have Hr2 := Lib.hid hr2
  have HB2 := Lib.hid (HB1.out.trans (hb2.mono (by omega)))
  clear hr2 hb2 HN kx
  go_wp2_with fail
  go_ret
  obtain ⟨W3, hW3⟩ : ∃ W3, W3 = w2.alloc (.cells #[.int .i64 n, .int .i64 term, .int .i64 vote, .pointer (some ⟨lb, 0, none⟩), .int .i64 L.i, .int .i64 0, .int .i64 0, .int .i64 0, .slice none 0 0, .int .i64 0, .int .i64 0, .slice none 0 0, .slice none 0 0, .slice a 0 cc,
    .int .i64 0, .int .i64 0, .slice none 0 0, .slice none 0 0, .slice none 0 0, .map none, .slice none 0 0, .int .i64 0, .bool false] 81) := ⟨_, rfl⟩
  rw [← hW3]
  have hB3 : Below w2.heap.size w2 W3 := by rw [hW3]; exact (Below.refl _ w2).alloc (Nat.le_refl _) _
  have hbox : W3.heap[w2.heap.size]? = some (.cells (newCore n term vote lb L.i a cc).cells 81 (0, 0)) := by rw [hW3, heap_alloc, if_pos rfl]; rfl
  have hall : Below w.heap.size w W3 := HB2.out.trans (hB3.mono (by omega))
  have hltl := ltOf H.out.log.blk
  have hfoot : foot (newCore n term vote lb L.i a cc) L = [lb] := by
    unfold foot
    rw [show (newCore n term vote lb L.i a cc).lb = lb from rfl, hev]
    rfl
  refine ⟨w2.heap.size, a, cc, rfl, by omega, ⟨hbox, ⟨?_, ⟨rfl, ⟨rfl, .inl ⟨rfl, rfl⟩⟩⟩, ⟨⟨rfl, RSl.nil _ _ _⟩, ⟨rfl, RSl.nil _ _ _⟩, ?_⟩, ⟨rfl, RSl.nil _ _ _⟩, ⟨rfl, RSl.nil _ _ _⟩, ⟨rfl, ⟨rfl, .inl ⟨rfl, rfl⟩⟩⟩, rfl, by simp [newCore], by simp [newCore], ⟨rfl, ⟨rfl, .inl ⟨rfl, rfl⟩⟩⟩, by simp [newCore], ?_, ?_⟩, by simp, ?_⟩, hall⟩
  · exact (H.out.ext (Ext.cons (.inr (by omega)))).chg (M := []) (Chg.ofBelow hall) (by simp) (by simp)
  · exact (RBytes.mono (Q' := fun x => x ∉ w2.heap.size :: F) Hr2.out (fun x hx hq => by
      have h1 : w1.heap.size ≤ x := hq
      simp only [List.mem_cons, not_or]
      exact ⟨by omega, fun hy => by have := HF.out x hy; omega⟩)).below hB3
  · rw [hfoot]; intro x hx; simp at hx; subst hx; exact List.mem_cons_of_mem _ (H.out.mem _ (by simp))
  · rw [hfoot]; simp
  · rw [hfoot]; simp; omega
end Go.Proofs.YtjbnmamgfpnccaaGreat
