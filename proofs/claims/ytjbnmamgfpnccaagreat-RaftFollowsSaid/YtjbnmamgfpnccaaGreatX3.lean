/- Masks of numbers of any sign. -/
import Derived.Laws.BitsLemmas
namespace Go.Proofs.YtjbnmamgfpnccaaGreat
open Go

theorem band_le (x : Int) (m : Nat) (hm : m < 1000) : 0 ≤ bits .and .i64 x (m : Int) ∧ bits .and .i64 x (m : Int) ≤ (m : Int) := by
  have h : (BitVec.ofInt 64 x &&& BitVec.ofInt 64 (m : Int)).toNat ≤ m := by
    rw [BitVec.toNat_and]
    refine Nat.le_trans Nat.and_le_right ?_
    rw [BitVec.ofInt_natCast, BitVec.toNat_ofNat, Nat.mod_eq_of_lt (by omega)]
    exact Nat.le_refl _
  unfold bits
  show 0 ≤ IntKind.i64.wrap ((BitVec.ofInt 64 x &&& BitVec.ofInt 64 (m : Int)).toNat : Int) ∧ IntKind.i64.wrap ((BitVec.ofInt 64 x &&& BitVec.ofInt 64 (m : Int)).toNat : Int) ≤ (m : Int)
  rw [IntKind.wrap_i64]
  omega
theorem band3 (x : Int) : 0 ≤ bits .and .i64 x 3 ∧ bits .and .i64 x 3 ≤ 3 := band_le x 3 (by omega)
theorem band7 (x : Int) : 0 ≤ bits .and .i64 x 7 ∧ bits .and .i64 x 7 ≤ 7 := band_le x 7 (by omega)
theorem band31 (x : Int) : 0 ≤ bits .and .i64 x 31 ∧ bits .and .i64 x 31 ≤ 31 := band_le x 31 (by omega)
end Go.Proofs.YtjbnmamgfpnccaaGreat
