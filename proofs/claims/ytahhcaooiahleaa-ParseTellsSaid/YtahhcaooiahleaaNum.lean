/- Numbers: what masks, shifts and joins of signed numbers come to. No program in sight. -/
import Derived.Test.YtahhcaooiahleaaBase
namespace Go.Proofs.Ytahhcaooiahleaa
open Go Go.RowKit

theorem i64_and_nat (a b : Nat) (ha : a < 1099511627776) (hb : b < 1099511627776) : bits .and .i64 (a : Int) (b : Int) = ((a &&& b : Nat) : Int) := by
  have hx : a &&& b < 2 ^ 40 := Nat.and_lt_two_pow _ (by omega)
  show IntKind.i64.wrap ((BitVec.ofInt 64 (a : Int) &&& BitVec.ofInt 64 (b : Int)).toNat : Int) = _
  rw [BitVec.toNat_and, ofInt_u64 a (by omega), ofInt_u64 b (by omega)]
  exact IntWalk.i64_in _ (by omega)

theorem i64_or_nat (a b : Nat) (ha : a < 1099511627776) (hb : b < 1099511627776) : bits .or .i64 (a : Int) (b : Int) = ((a ||| b : Nat) : Int) := by
  have hx : a ||| b < 2 ^ 40 := Nat.or_lt_two_pow (by omega) (by omega)
  show IntKind.i64.wrap ((BitVec.ofInt 64 (a : Int) ||| BitVec.ofInt 64 (b : Int)).toNat : Int) = _
  rw [BitVec.toNat_or, ofInt_u64 a (by omega), ofInt_u64 b (by omega)]
  exact IntWalk.i64_in _ (by omega)

theorem pow_cast (k : Nat) : (2 : Int) ^ k = ((2 ^ k : Nat) : Int) := by push_cast; rfl

/-- A number's low bits, as Go spells them. -/
theorem low_bits {n k : Nat} (hn : (n : Int) < 1099511627776) (hk : k ≤ 8) : bits .and .i64 (n : Int) (wrap64 (wrap64 (2 ^ k) - 1)) = ((n % 2 ^ k : Nat) : Int) := by
  have h1 : 2 ^ k ≤ 2 ^ 8 := Nat.pow_le_pow_right (by decide) hk
  have h0 : 0 < 2 ^ k := Nat.pow_pos (by decide)
  rw [pow_cast, IntWalk.wrap64_in ((2 ^ k : Nat) : Int) (by omega), show ((2 ^ k : Nat) : Int) - 1 = ((2 ^ k - 1 : Nat) : Int) from by omega, IntWalk.wrap64_in _ (by omega), i64_and_nat n _ (by omega) (by omega), Nat.and_two_pow_sub_one_eq_mod]

theorem lit_at {n lp lc la : Nat} (hn : (n : Int) < 1099511627776) (hp : lp ≤ 4) (hc : lc ≤ 8) (ha : la < 256) :
    bits .or .i64 (wrap64 (bits .and .i64 (n : Int) (wrap64 (wrap64 (2 ^ lp) - 1)) * 2 ^ lc)) ((la : Int) / 2 ^ (8 - lc)) = ((n % 2 ^ lp * 2 ^ lc + la / 2 ^ (8 - lc) : Nat) : Int) ∧ n % 2 ^ lp * 2 ^ lc + la / 2 ^ (8 - lc) < 2 ^ (lc + lp) := by
  have h1 : 2 ^ lp ≤ 2 ^ 4 := Nat.pow_le_pow_right (by decide) hp
  have h2 : 2 ^ lc ≤ 2 ^ 8 := Nat.pow_le_pow_right (by decide) hc
  have h0 : 0 < 2 ^ lp := Nat.pow_pos (by decide)
  have h3 : n % 2 ^ lp < 2 ^ lp := Nat.mod_lt _ h0
  have h4 : la / 2 ^ (8 - lc) < 2 ^ lc := by
    rw [Nat.div_lt_iff_lt_mul (Nat.pow_pos (by decide)), ← Nat.pow_add, show lc + (8 - lc) = 8 from by omega]
    exact ha
  have h5 : n % 2 ^ lp * 2 ^ lc + 2 ^ lc ≤ 2 ^ lp * 2 ^ lc := by
    have := Nat.mul_le_mul_right (2 ^ lc) (show n % 2 ^ lp + 1 ≤ 2 ^ lp from h3)
    rw [Nat.add_mul, Nat.one_mul] at this
    exact this
  have h6 : 2 ^ lp * 2 ^ lc ≤ 2 ^ 4 * 2 ^ 8 := Nat.mul_le_mul h1 h2
  refine ⟨?_, ?_⟩
  · have h7 := nat_join lc (n % 2 ^ lp * 2 ^ lc) (la / 2 ^ (8 - lc)) (Nat.mul_mod_left _ _) h4
    rw [low_bits hn (by omega), pow_cast lc, ← Int.natCast_mul, pow_cast (8 - lc), ← Int.natCast_ediv, ← h7]
    obtain ⟨X, hX⟩ : ∃ X, X = n % 2 ^ lp * 2 ^ lc := ⟨_, rfl⟩
    obtain ⟨Y, hY⟩ : ∃ Y, Y = la / 2 ^ (8 - lc) := ⟨_, rfl⟩
    rw [← hX] at h5 ⊢
    rw [← hY] at h4 ⊢
    rw [IntWalk.wrap64_in (X : Int) (by omega), i64_or_nat X Y (by omega) (by omega)]
  · rw [Nat.pow_add, Nat.mul_comm (2 ^ lc)]
    omega

theorem and1_i64 (v c : Nat) (h : v < 256) : bits .and .i64 ((v : Int) / 2 ^ c) 1 = ((v / 2 ^ c % 2 : Nat) : Int) := by
  have h1 : v / 2 ^ c < 1099511627776 := Nat.lt_of_le_of_lt (Nat.div_le_self _ _) (by omega)
  have := i64_and_nat (v / 2 ^ c) 1 h1 (by omega)
  rw [nat_mask1] at this
  rw [pow_cast, ← Int.natCast_ediv]
  exact this

theorem or2_i64 (m b : Nat) (h : m < 1073741824) (hb : b < 2) : bits .or .i64 ((m : Int) * 2) (b : Int) = ((2 * m + b : Nat) : Int) := by
  have e : ((m : Int) * 2) = ((2 * m : Nat) : Int) := by omega
  rw [e, i64_or_nat (2 * m) b (by omega) (by omega), nat_join 1 (2 * m) b (by omega) (by omega)]

end Go.Proofs.Ytahhcaooiahleaa
