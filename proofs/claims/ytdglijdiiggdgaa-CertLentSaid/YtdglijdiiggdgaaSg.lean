import Derived.Test.YtdglijdiiggdgaaFil2
import Derived.Test.YtdglijdiiggdgaaOr2
namespace Go.Proofs.Ytdglijdiiggdgaa
open Go.RowKit

set_option maxHeartbeats 400000 in
theorem limb_cmp_a (x y : Int) (h : x < 0) (w : World) :
    Calls Try.prog 71 #[.agg #[.int .i64 x, .int .u64 y], .agg #[.int .i64 0, .int .u64 0]] w fun e w' => e = .returned (.int .i64 (-1)) ∧ Below w.heap.size w w' := by
  go_enter Try.func71, Try.ntmps71
  go_wp2
  go_returns
  exact ⟨rfl, by go_grown⟩
set_option maxHeartbeats 400000 in
theorem limb_cmp_b (w : World) :
    Calls Try.prog 71 #[.agg #[.int .i64 0, .int .u64 0], .agg #[.int .i64 0, .int .u64 0]] w fun e w' => e = .returned (.int .i64 0) ∧ Below w.heap.size w w' := by
  go_enter Try.func71, Try.ntmps71
  go_wp2
  go_returns
  exact ⟨rfl, by go_grown⟩
set_option maxHeartbeats 400000 in
theorem limb_cmp_c (x y : Int) (h : 0 < x) (w : World) :
    Calls Try.prog 71 #[.agg #[.int .i64 x, .int .u64 y], .agg #[.int .i64 0, .int .u64 0]] w fun e w' => e = .returned (.int .i64 1) ∧ Below w.heap.size w w' := by
  have h1 : ¬ x < 0 := by omega
  have h2 : ¬ x = 0 := by omega
  go_enter Try.func71, Try.ntmps71
  go_wp2
  go_returns
  exact ⟨rfl, by go_grown⟩
set_option maxHeartbeats 400000 in
theorem limb_cmp_d (y : Int) (h : 0 < y) (w : World) :
    Calls Try.prog 71 #[.agg #[.int .i64 0, .int .u64 y], .agg #[.int .i64 0, .int .u64 0]] w fun e w' => e = .returned (.int .i64 1) ∧ Below w.heap.size w w' := by
  have h1 : ¬ y < 0 := by omega
  have h2 : ¬ y = 0 := by omega
  go_enter Try.func71, Try.ntmps71
  go_wp2
  go_returns
  exact ⟨rfl, by go_grown⟩
theorem limb_cmp (n : Int) (h : In128 n) (w : World) :
    Calls Try.prog 71 #[.agg #[.int .i64 (hi n), .int .u64 (lo n)], .agg #[.int .i64 0, .int .u64 0]] w fun e w' => e = .returned (.int .i64 n.sign) ∧ Below w.heap.size w w' := by
  have hw := words_of h
  have l0 := lo_0 n
  have l1 := lo_1 n
  rcases Int.lt_trichotomy (hi n) 0 with h1 | h1 | h1
  · rw [Int.sign_eq_neg_one_of_neg (by omega)]; exact limb_cmp_a _ _ h1 w
  · rw [h1] at hw ⊢
    rcases Int.lt_or_le 0 (lo n) with h2 | h2
    · rw [Int.sign_eq_one_of_pos (by omega)]; exact limb_cmp_d _ h2 w
    · have e : lo n = 0 := by omega
      rw [e] at hw ⊢
      rw [show n = 0 by omega]; exact limb_cmp_b w
  · rw [Int.sign_eq_one_of_pos (by omega)]; exact limb_cmp_c _ _ h1 w
set_option maxHeartbeats 400000 in
theorem limb_sign (n : Int) (h : In128 n) (w : World) :
    Calls Try.prog 62 #[.agg #[.int .i64 (hi n), .int .u64 (lo n)]] w fun e w' => e = .returned (.int .i64 n.sign) ∧ Below w.heap.size w w' := by
  have H := Lib.hid (limb_cmp n h)
  clear h
  go_enter Try.func62, Try.ntmps62
  go_wp2_with fail
  refine (H.out _).mono ?_; rintro e w1 ⟨rfl, hX⟩
  have hB := after (w := w) (by go_grown) hX
  clear hX
  go_wp2
  go_returns
  exact ⟨rfl, by go_grown⟩
end Go.Proofs.Ytdglijdiiggdgaa
