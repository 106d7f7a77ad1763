/- Numbers of 128 bits as two words; plain laws, no walk. -/
import Derived.WalkKit
namespace Go.Proofs.Ytdglijdiiggdgaa
open Go.RowKit

def lo (n : Int) : Int := n % 18446744073709551616
def uh (n : Int) : Int := n / 18446744073709551616 % 18446744073709551616
def hi (n : Int) : Int := (n / 18446744073709551616 + 9223372036854775808) % 18446744073709551616 - 9223372036854775808

theorem lo_0 (n : Int) : 0 ≤ lo n := by unfold lo; omega
theorem lo_1 (n : Int) : lo n ≤ 18446744073709551615 := by unfold lo; omega
theorem uh_0 (n : Int) : 0 ≤ uh n := by unfold uh; omega
theorem uh_1 (n : Int) : uh n ≤ 18446744073709551615 := by unfold uh; omega
theorem hi_0 (n : Int) : -9223372036854775808 ≤ hi n := by unfold hi; omega
theorem hi_1 (n : Int) : hi n ≤ 9223372036854775807 := by unfold hi; omega
theorem uh_hi (n : Int) : IntKind.u64.wrap (hi n) = uh n := by unfold uh hi; rw [IntKind.wrap_u64]; omega
theorem hi_uh (n : Int) : IntKind.i64.wrap (uh n) = hi n := by unfold uh hi; rw [IntKind.wrap_i64]; omega
theorem lo_add (a b : Int) : (lo a + lo b) % 18446744073709551616 = lo (a + b) := by unfold lo; omega
theorem uh_add (a b : Int) : (uh a + uh b + (lo a + lo b) / 18446744073709551616) % 18446744073709551616 = uh (a + b) := by unfold lo uh; omega
theorem lo_sub (a b : Int) : (lo a - lo b) % 18446744073709551616 = lo (a - b) := by unfold lo; omega
/-- The borrow. -/
def bor (x y : Int) : Int := if x < y then 1 else 0
theorem bor_0 (x y : Int) : 0 ≤ bor x y := by unfold bor; split <;> decide
theorem bor_1 (x y : Int) : bor x y ≤ 1 := by unfold bor; split <;> decide
theorem uh_sub (a b : Int) : (uh a - uh b - bor (lo a) (lo b)) % 18446744073709551616 = uh (a - b) := by unfold lo uh bor; split <;> omega
theorem lo_small {n : Int} (h : 0 ≤ n) (h' : n ≤ 18446744073709551615) : lo n = n := by unfold lo; omega
theorem hi_zero : hi 0 = 0 := rfl
theorem lo_zero : lo 0 = 0 := rfl
theorem uh_zero : uh 0 = 0 := rfl
theorem lo_mul (a b : Int) : lo a * lo b % 18446744073709551616 = lo (a * b) := by unfold lo; rw [← Int.mul_emod]
theorem mod_cancel {x y z m : Int} (h : x = y + m * z) : x % m = y % m := by rw [h, Int.add_mul_emod_self_left]
theorem uh_mul (a b : Int) : (lo a * lo b / 18446744073709551616 + (uh a * lo b + lo a * uh b)) % 18446744073709551616 = uh (a * b) := by
  have ea : a = a / 18446744073709551616 * 18446744073709551616 + lo a := by unfold lo; omega
  have eb : b = b / 18446744073709551616 * 18446744073709551616 + lo b := by unfold lo; omega
  have eu : uh a = a / 18446744073709551616 % 18446744073709551616 := rfl
  have ev : uh b = b / 18446744073709551616 % 18446744073709551616 := rfl
  generalize lo a = x at *
  generalize lo b = y at *
  generalize a / 18446744073709551616 = p at *
  generalize b / 18446744073709551616 = q at *
  have eq1 : uh a = p - 18446744073709551616 * (p / 18446744073709551616) := by rw [eu]; omega
  have eq2 : uh b = q - 18446744073709551616 * (q / 18446744073709551616) := by rw [ev]; omega
  generalize p / 18446744073709551616 = p' at *
  generalize q / 18446744073709551616 = q' at *
  unfold uh at *
  have ed : a * b / 18446744073709551616 = x * y / 18446744073709551616 + (p * y + x * q + p * q * 18446744073709551616) := by
    rw [ea, eb, show (p * 18446744073709551616 + x) * (q * 18446744073709551616 + y) = x * y + 18446744073709551616 * (p * y + x * q + p * q * 18446744073709551616) by grind,
      Int.add_mul_ediv_left _ _ (by decide)]
  rw [ed, eq1, eq2]
  generalize x * y / 18446744073709551616 = k
  exact mod_cancel (z := - (p' * y) - x * q' - p * q) (by grind)

/-- The range in which a number is its own two words. -/
def In128 (n : Int) : Prop := -170141183460469231731687303715884105728 ≤ n ∧ n < 170141183460469231731687303715884105728
theorem words_of {n : Int} (h : In128 n) : n = hi n * 18446744073709551616 + lo n := by unfold In128 at h; unfold hi lo; omega
end Go.Proofs.Ytdglijdiiggdgaa
