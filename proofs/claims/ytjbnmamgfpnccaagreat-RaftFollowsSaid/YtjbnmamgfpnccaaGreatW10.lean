/- The example's yeses. -/
import Derived.Test.YtjbnmamgfpnccaaGreatW9
namespace Go.Proofs.YtjbnmamgfpnccaaGreat
open Go Go.RowKit Go.Sort

def yesMsg (k f : Int) : MsgC := ⟨k, f, 1, 1, 0, 0, 0, true, .nil, 0, .nil, false, .nil, .nil⟩
theorem yesMsg_ok (k f : Int) (hk : k = 2 ∨ k = 4) (hf : f = 2 ∨ f = 3) : MsgOk (yesMsg k f) := by
  rcases hk with rfl | rfl <;> rcases hf with rfl | rfl <;> constructor <;> (first | (simp [yesMsg, SE.nil, SI.nil]; done) | (constructor <;> simp [yesMsg, SE.nil, SI.nil]))
theorem yesMsg_re (w : World) (F : List Nat) (k f : Int) : RE w F (yesMsg k f).es := ⟨rfl, RSl.nil _ _ _, by simp [yesMsg, SE.nil]⟩
/-- The member that has asked ahead, and been heard. -/
def asker (lb : Nat) (a : Option Addr) (cc : Nat) (yes : SI) : CoreC := (waited lb a cc 12).begun 1 yes
/-- The member that has asked for votes. -/
def candid (lb : Nat) (a : Option Addr) (cc : Nat) (yes : SI) : CoreC := (asker lb a cc yes).stood.begun 2 yes
theorem candid_eq (lb : Nat) (a : Option Addr) (cc : Nat) (y1 y2 : SI) : (({ asker lb a cc y1 with yes := y2 } : CoreC).stood.begun 2 y1) = candid lb a cc y1 := rfl

theorem stepYes2 (F : List Nat) (b lb : Nat) (a va la : Option Addr) (cc vc lc : Nat) (yes : SI) (w : World) (h : RCore w F b (asker lb a cc yes) (newLog va 3 vc la 0 lc [1, 2, 3] [])) (hF : ∀ x ∈ F, x < w.heap.size) (hy : yes.xs = [1]) :
    Calls Tryz.prog 9 #[.pointer (some ⟨b, 0, none⟩), .agg (yesMsg 2 2).cells.toArray] w fun e w' => e = .returned (.tuple #[]) ∧ ∃ F' y2 oa on oc, y2.xs = [1] ∧
      RCore w' F' b ((candid lb a cc y2).withOut oa on oc (asks 3 1)) (newLog va 3 vc la 0 lc [1, 2, 3] []) ∧ Upd F F' w w' := by
  refine stepPreSay_any F b _ _ (yesMsg 2 2) w h (yesMsg_re _ _ _ _) (yesMsg_ok 2 2 (.inl rfl) (.inl rfl)) rfl rfl rfl (show (0 : Int) < 1 by decide) _ ?_
  intro w1 h1 hU1
  refine (preSay_any F b _ _ (yesMsg 2 2) w1 h1 (hU1.lt hF) ((newFit lb a cc 12 va la 3 vc 0 lc [1, 2, 3] [] (by omega) (by omega) (by omega)).begun 1 yes) (show (0 : Int) < 1099511627776 by decide) rfl rfl rfl (show ([1, 2, 3] : List Int).contains 2 = true by decide)
    (show yes.xs.length < 1000000 by rw [hy]; decide) (show quorum [1, 2, 3] (yes.xs ++ [2]) = true by rw [hy]; decide)).mono ?_
  rintro e w' ⟨rfl, F1, w2, y1, hy1, hR2, hU2, hS⟩
  rcases hS with ⟨hq, _⟩ | ⟨_, F', y2, oa, on, oc, hy2, hR3, hU3⟩
  · exact absurd (show quorum [1, 2, 3] [1] = true from hq) (by decide)
  · refine ⟨rfl, F', y2, oa, on, oc, hy2, ?_, (hU1.trans hU2).trans hU3⟩
    have hA : asked [1, 2, 3] [] 1 = [2, 3] := asked3
    have hR' : RCore w' F' b ((candid lb a cc y2).withOut oa on oc ((asked [1, 2, 3] [] 1).map fun m => (askMsg 3 m 1 0 0).sent (candid lb a cc y2))) (newLog va 3 vc la 0 lc [1, 2, 3] []) := hR3
    rw [hA] at hR'
    exact hR'

theorem stepYes4 (F : List Nat) (b lb : Nat) (a va la : Option Addr) (cc vc lc : Nat) (yes : SI) (w : World) (h : RCore w F b (candid lb a cc yes) (newLog va 3 vc la 0 lc [1, 2, 3] [])) (hF : ∀ x ∈ F, x < w.heap.size) (hy : yes.xs = [1]) :
    Calls Tryz.prog 9 #[.pointer (some ⟨b, 0, none⟩), .agg (yesMsg 4 3).cells.toArray] w fun e w' => e = .returned (.tuple #[]) ∧ ∃ F' c' L', RCore w' F' b c' L' ∧ Upd F F' w w' ∧ c'.role = 3 ∧ c'.lead = 1 ∧ c'.commit = 0 := by
  refine stepSay_any F b _ _ (yesMsg 4 3) w h (yesMsg_re _ _ _ _) (yesMsg_ok 4 3 (.inr rfl) (.inr rfl)) rfl rfl rfl _ ?_
  intro w1 h1 hU1
  have hfit : Fit (candid lb a cc yes) (newLog va 3 vc la 0 lc [1, 2, 3] []) := ⟨by simp [newLog], by simp [newLog], by simp [newLog], by simp [newLog], by simp [newLog], by simp [candid, asker, CoreC.begun, CoreC.stood, waited, newCore], by simp [candid, asker, CoreC.begun, CoreC.stood, waited, newCore], by simp [newLog, LogC.last, candid, asker, CoreC.begun, CoreC.stood, waited, newCore], by simp [newLog, LogC.last], by simp [newLog]⟩
  refine (say_any F b _ _ (yesMsg 4 3) w1 h1 (hU1.lt hF) hfit (show (1 : Int) ≤ 1099511627776 by decide) rfl rfl (show ([1, 2, 3] : List Int).contains 3 = true by decide)
    (show yes.xs.length < 1000000 by rw [hy]; decide) (show quorum [1, 2, 3] (yes.xs ++ [3]) = true by rw [hy]; decide)).mono ?_
  rintro e w' ⟨rfl, y1, F', ev, e', c', hy1, hR2, hab, hLd, hU2⟩
  obtain ⟨o1, _⟩ := oneLog (L := newLog va 3 vc la 0 lc [1, 2, 3] []) (ev := ev) rfl rfl hab
  obtain ⟨l1, l2, _, _, l5⟩ := led_fields (t := 1) hLd rfl rfl rfl o1
  exact ⟨rfl, F', c', _, hR2, hU1.trans hU2, l1, l2, l5 rfl⟩
end Go.Proofs.YtjbnmamgfpnccaaGreat
