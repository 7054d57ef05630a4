/- The example's members at their loud tick, and at their yeses. -/
import Derived.Test.YtjbnmamgfpnccaaGreatW8
namespace Go.Proofs.YtjbnmamgfpnccaaGreat
open Go Go.RowKit Go.Sort

/-- A new member that has waited so long. -/
def waited (lb : Nat) (a : Option Addr) (cc : Nat) (q : Int) : CoreC := { newCore 1 0 0 lb 0 a cc with quiet := q }
theorem waited_zero (lb : Nat) (a : Option Addr) (cc : Nat) : waited lb a cc 0 = newCore 1 0 0 lb 0 a cc := rfl
theorem newFit (lb : Nat) (a : Option Addr) (cc : Nat) (q : Int) (va la : Option Addr) (vn vc ln lc : Nat) (vs ls : List Int) (h0 : 0 < vn) (h1 : vn ≤ 1000) (h2 : ln ≤ 1000) : Fit (waited lb a cc q) (newLog va vn vc la ln lc vs ls) :=
  ⟨by simp [newLog], h0, h1, h2, by simp [newLog], by simp [waited, newCore], by simp [waited, newCore], by simp [newLog, LogC.last, waited, newCore], by simp [newLog, LogC.last], by simp [newLog]⟩

theorem oneLog {L : LogC} {ev : Value} {e' : EntC} {t : Int} (h0 : L.es = []) (hi : L.i = 0) (hab : e'.ab = ⟨1, t, 0, []⟩) :
    ({ L with ev := ev, es := L.es ++ [e'] } : LogC).last.1 = 1 ∧ ({ L with ev := ev, es := L.es ++ [e'] } : LogC).has 1 t = true := by
  have h1 : e'.i = 1 := congrArg Ent.i hab
  have h2 : e'.t = t := congrArg Ent.t hab
  simp [LogC.last, LogC.has, LogC.termAt, h0, hi, h1, h2]

theorem tickLeads (F : List Nat) (b lb : Nat) (a va la : Option Addr) (cc vc lc : Nat) (w : World) (h : RCore w F b (waited lb a cc 11) (newLog va 1 vc la 0 lc [1] [])) (hF : ∀ x ∈ F, x < w.heap.size) :
    Calls Tryz.prog 26 #[.pointer (some ⟨b, 0, none⟩)] w fun e w' => e = .returned (.tuple #[]) ∧ ∃ F' c' L', RCore w' F' b c' L' ∧ Upd F F' w w' ∧ c'.role = 3 ∧ c'.term = 1 ∧ c'.commit = 1 := by
  refine (tick_any F b _ _ w h hF (newFit lb a cc 11 va la 1 vc 0 lc [1] [] (by omega) (by omega) (by omega)) (show (0 : Int) < 1099511627776 by decide) (show (0 : Int) ≠ 3 by decide) (show (0 : Int) ≤ 1 by decide) (show (1 : Int) ≤ 1000000 by decide) (show (0 : Int) ≤ 11 by decide) (show (11 : Int) ≤ 1000000000 by decide) (show hasI [1] 1 = true by decide)).mono ?_
  rintro e w' ⟨rfl, ⟨hq, _⟩ | ⟨_, w1, hR1, hU1, hA⟩⟩
  · exact absurd (show (11 : Int) + 1 < 10 + 2 * 1 from hq) (by decide)
  · rcases hA with ⟨_, w2, F2, yes, hyx, hR2, hU2, hS⟩ | ⟨hq, _⟩
    · rcases hS with ⟨_, F3, ev, e', c', yes3, hy3, hR3, hab, hLd, hU3⟩ | ⟨hq, _⟩
      · obtain ⟨o1, o2⟩ := oneLog (L := newLog va 1 vc la 0 lc [1] []) (ev := ev) rfl rfl hab
        obtain ⟨l1, _, l3, l4, _⟩ := led_fields (t := 1) hLd rfl rfl rfl o1
        exact ⟨rfl, F3, c', _, hR3, (hU1.trans hU2).trans hU3, l1, l3, l4 rfl o2⟩
      · exact absurd (show quorum [1] [1] = false from hq) (by decide)
    · exact absurd (show quorum [1] [1] = false from hq) (by decide)

def asks (k : Int) (t : Int) : List MsgC := [⟨k, 1, 2, t, 0, 0, 0, false, .nil, 0, .nil, false, .nil, .nil⟩, ⟨k, 1, 3, t, 0, 0, 0, false, .nil, 0, .nil, false, .nil, .nil⟩]

theorem tickAsks (F : List Nat) (b lb : Nat) (a va la : Option Addr) (cc vc lc : Nat) (w : World) (h : RCore w F b (waited lb a cc 11) (newLog va 3 vc la 0 lc [1, 2, 3] [])) (hF : ∀ x ∈ F, x < w.heap.size) :
    Calls Tryz.prog 26 #[.pointer (some ⟨b, 0, none⟩)] w fun e w' => e = .returned (.tuple #[]) ∧ ∃ F' yes oa on oc, yes.xs = [1] ∧
      RCore w' F' b (((waited lb a cc 12).begun 1 yes).withOut oa on oc (asks 1 1)) (newLog va 3 vc la 0 lc [1, 2, 3] []) ∧ Upd F F' w w' := by
  refine (tick_any F b _ _ w h hF (newFit lb a cc 11 va la 3 vc 0 lc [1, 2, 3] [] (by omega) (by omega) (by omega)) (show (0 : Int) < 1099511627776 by decide) (show (0 : Int) ≠ 3 by decide) (show (0 : Int) ≤ 1 by decide) (show (1 : Int) ≤ 1000000 by decide) (show (0 : Int) ≤ 11 by decide) (show (11 : Int) ≤ 1000000000 by decide) (show hasI [1, 2, 3] 1 = true by decide)).mono ?_
  rintro e w' ⟨rfl, ⟨hq, _⟩ | ⟨_, w1, hR1, hU1, hA⟩⟩
  · exact absurd (show (11 : Int) + 1 < 10 + 2 * 1 from hq) (by decide)
  · rcases hA with ⟨hq, _⟩ | ⟨_, F', yes, oa, on, oc, hyx, hR2, hU2⟩
    · exact absurd (show quorum [1, 2, 3] [1] = true from hq) (by decide)
    · have hA : asked [1, 2, 3] [] 1 = [2, 3] := asked3
      refine ⟨rfl, F', yes, oa, on, oc, hyx, ?_, hU1.trans hU2⟩
      have hR2' : RCore w' F' b (((waited lb a cc 12).begun 1 yes).withOut oa on oc ((asked [1, 2, 3] [] 1).map fun m => (askMsg 1 m 1 0 0).sent ((waited lb a cc 12).begun 1 yes))) (newLog va 3 vc la 0 lc [1, 2, 3] []) := hR2
      rw [hA] at hR2'
      exact hR2'
end Go.Proofs.YtjbnmamgfpnccaaGreat
