/- What limb's functions answer: numbers of 128 bits as two words. -/
import Derived.Test.YtdglijdiiggdgaaNum
import Derived.Test.YtdglijdiiggdgaaCalm
import Derived.Test.YtdglijdiiggdgaaRows
import Derived.WalkKit
import Derived.WalkSpells
import Derived.WalkLawsBesides
import Derived.Handy
import Derived.Lib.Hide
import Derived.Shelf.Spec.BitsCarry
import Derived.Shelf.Bits.Mul64
namespace Go.Proofs.Ytdglijdiiggdgaa
open Go.RowKit Go.Shelf

theorem add64 (x y c : Int) (hx : 0 ≤ x) (hy : 0 ≤ y) (hc0 : 0 ≤ c) (hc : c ≤ 1) (w : World) : (callFunc 83 #[.int .u64 x, .int .u64 y, .int .u64 c]).run Try.prog w =
    .ok (.value (.tuple #[.int .u64 ((x + y + c) % 18446744073709551616), .int .u64 ((x + y + c) / 18446744073709551616)])) w := by
  obtain ⟨x, rfl⟩ := Int.eq_ofNat_of_zero_le hx
  obtain ⟨y, rfl⟩ := Int.eq_ofNat_of_zero_le hy
  obtain ⟨c, rfl⟩ := Int.eq_ofNat_of_zero_le hc0
  rw [run_callFunc_extern Try.func83 (by kernel_rfl) (by kernel_rfl) (by kernel_rfl) (e := add64Entry) (by kernel_rfl), run_add64 x y c (by omega) (by omega) (by omega) (by omega)]
  rfl
theorem sub64 (x y b : Int) (hx : 0 ≤ x) (hy : 0 ≤ y) (hy' : y < 18446744073709551616) (hb0 : 0 ≤ b) (hb : b ≤ 1) (w : World) : (callFunc 88 #[.int .u64 x, .int .u64 y, .int .u64 b]).run Try.prog w =
    .ok (.value (.tuple #[.int .u64 ((x - y - b) % 18446744073709551616), .int .u64 (bor x (y + b))])) w := by
  obtain ⟨x, rfl⟩ := Int.eq_ofNat_of_zero_le hx
  obtain ⟨y, rfl⟩ := Int.eq_ofNat_of_zero_le hy
  obtain ⟨b, rfl⟩ := Int.eq_ofNat_of_zero_le hb0
  have e1 : (((x + 18446744073709551616 - y - b) % 18446744073709551616 : Nat) : Int) = ((x : Int) - y - b) % 18446744073709551616 := by omega
  have e2 : ((if x < y + b then 1 else 0 : Nat) : Int) = bor (x : Int) (y + b) := by unfold bor; split <;> split <;> omega
  rw [← e1, ← e2, run_callFunc_extern Try.func88 (by kernel_rfl) (by kernel_rfl) (by kernel_rfl) (e := sub64Entry) (by kernel_rfl), run_sub64 x y b (by omega)]
  rfl
theorem add64_0 (x y : Int) (hx : 0 ≤ x) (hy : 0 ≤ y) (w : World) : (callFunc 83 #[.int .u64 x, .int .u64 y, .int .u64 0]).run Try.prog w =
    .ok (.value (.tuple #[.int .u64 ((x + y) % 18446744073709551616), .int .u64 ((x + y) / 18446744073709551616)])) w := by
  simpa using add64 x y 0 hx hy (Int.le_refl 0) (by decide) w
theorem sub64_0 (x y : Int) (hx : 0 ≤ x) (hy : 0 ≤ y) (hy' : y < 18446744073709551616) (w : World) : (callFunc 88 #[.int .u64 x, .int .u64 y, .int .u64 0]).run Try.prog w =
    .ok (.value (.tuple #[.int .u64 ((x - y) % 18446744073709551616), .int .u64 (bor x y)])) w := by
  simpa using sub64 x y 0 hx hy hy' (Int.le_refl 0) (by decide) w

def mul_lays_ren : Go.Shelf.Ren := ⟨fun | 264 => 86 | n => n, fun | 53 => 98 | 46 => 111 | n => n, fun | n => n⟩
theorem mul_lays : Go.Proofs.Lays.n264 Try.prog mul_lays_ren := {
  mixed := by kernel_rfl
  f264 := Try.func86.trans (congrArg some (by kernel_rfl))
  t46 := Try.underlying111
  a46 := Try.isAgg111
  z46 := Try.sizeOf111
  v46 := Try.zeroValue111
  t53 := Try.underlying98
  a53 := Try.isAgg98
  z53 := Try.sizeOf98
  v53 := Try.zeroValue98 }
theorem mul64 (x y : Int) (hx : 0 ≤ x) (hy : 0 ≤ y) (hx' : x < 18446744073709551616) (hy' : y < 18446744073709551616) (w : World) :
    Calls Try.prog 86 #[.int .u64 x, .int .u64 y] w fun e w' => e = .returned (.tuple #[.int .u64 (x * y / 18446744073709551616), .int .u64 (x * y % 18446744073709551616)]) ∧ w = w' := by
  obtain ⟨x, rfl⟩ := Int.eq_ofNat_of_zero_le hx
  obtain ⟨y, rfl⟩ := Int.eq_ofNat_of_zero_le hy
  refine (Any.bits_Mul64 mul_lays x y (by omega) (by omega) w).mono ?_
  rintro e w' ⟨rfl, rfl⟩
  exact ⟨by simp, rfl⟩

theorem hi_uh64 (n : Int) : wrap64 (uh n) = hi n := by unfold uh hi wrap64; omega
theorem u64w (n : Int) : IntKind.u64.wrap n = n % 18446744073709551616 := by rw [IntKind.wrap_u64]
theorem uh_mul' (a b : Int) : IntKind.u64.wrap (lo a * lo b / 18446744073709551616 + IntKind.u64.wrap (IntKind.u64.wrap (uh a * lo b) + IntKind.u64.wrap (lo a * uh b))) = uh (a * b) := by
  rw [← uh_mul]; simp only [u64w]; omega
theorem ret_two {k l : IntKind} {a b c d : Int} (h : a = c) (h' : b = d) : Ending.returned (.agg #[.int k a, .int l b]) = Ending.returned (.agg #[.int k c, .int l d]) := by rw [h, h']

theorem hi_of {n : Int} (h : -9223372036854775808 ≤ n) (h' : n ≤ 9223372036854775807) : n / 9223372036854775808 = hi n := by unfold hi; omega
theorem lo_wrap (n : Int) : IntKind.u64.wrap n = lo n := by rw [IntKind.wrap_u64]; unfold lo; omega

set_option maxHeartbeats 400000 in
theorem limb_Of (n : Int) (w : World) (h : -9223372036854775808 ≤ n) (h' : n ≤ 9223372036854775807) :
    Calls Try.prog 80 #[.int .i64 n] w fun e w' => e = .returned (.agg #[.int .i64 (hi n), .int .u64 (lo n)]) ∧ Below w.heap.size w w' := by
  have e1 := hi_of h h'; have e2 := lo_wrap n
  go_enter Try.func80, Try.ntmps80
  go_wp2
  go_returns
  exact ⟨rfl, by go_grown⟩
set_option maxHeartbeats 400000 in
theorem limb_Add (a b : Int) (w : World) :
    Calls Try.prog 75 #[.agg #[.int .i64 (hi a), .int .u64 (lo a)], .agg #[.int .i64 (hi b), .int .u64 (lo b)]] w fun e w' => e = .returned (.agg #[.int .i64 (hi (a + b)), .int .u64 (lo (a + b))]) ∧ Below w.heap.size w w' := by
  have a0 := lo_0 a; have a1 := lo_1 a; have b0 := lo_0 b; have b1 := lo_1 b
  have a2 := uh_0 a; have b2 := uh_0 b
  have k0 : 0 ≤ (lo a + lo b) / 18446744073709551616 := by omega
  have k1 : (lo a + lo b) / 18446744073709551616 ≤ 1 := by omega
  have ea := uh_hi a; have eb := uh_hi b; have el := lo_add a b; have eu := uh_add a b; have eh := hi_uh (a + b)
  go_enter Try.func75, Try.ntmps75
  go_wp2_with (first | simp only [add64_0 (lo a) (lo b) a0 b0] | simp only [add64 (uh a) (uh b) _ a2 b2 k0 k1])
  go_returns
  exact ⟨rfl, by go_grown⟩
set_option maxHeartbeats 400000 in
theorem limb_Sub (a b : Int) (w : World) :
    Calls Try.prog 82 #[.agg #[.int .i64 (hi a), .int .u64 (lo a)], .agg #[.int .i64 (hi b), .int .u64 (lo b)]] w fun e w' => e = .returned (.agg #[.int .i64 (hi (a - b)), .int .u64 (lo (a - b))]) ∧ Below w.heap.size w w' := by
  have a0 := lo_0 a; have b0 := lo_0 b; have b1 : lo b < 18446744073709551616 := by have := lo_1 b; omega
  have a2 := uh_0 a; have b2 := uh_0 b; have b3 : uh b < 18446744073709551616 := by have := uh_1 b; omega
  have k0 := bor_0 (lo a) (lo b); have k1 := bor_1 (lo a) (lo b)
  have ea := uh_hi a; have eb := uh_hi b; have el := lo_sub a b; have eu := uh_sub a b; have eh := hi_uh (a - b)
  go_enter Try.func82, Try.ntmps82
  go_wp2_with (first | simp only [sub64_0 (lo a) (lo b) a0 b0 b1] | simp only [sub64 (uh a) (uh b) _ a2 b2 b3 k0 k1])
  go_returns
  exact ⟨rfl, by go_grown⟩
set_option maxHeartbeats 400000 in
theorem limb_Neg (a : Int) (w : World) :
    Calls Try.prog 74 #[.agg #[.int .i64 (hi a), .int .u64 (lo a)]] w fun e w' => e = .returned (.agg #[.int .i64 (hi (-a)), .int .u64 (lo (-a))]) ∧ Below w.heap.size w w' := by
  have h := limb_Sub 0 a
  rw [hi_zero, lo_zero, Int.zero_sub] at h
  have H := Lib.hid h; clear h
  go_enter Try.func74, Try.ntmps74
  go_wp2_with (go_at_call 82; refine (H.out _).mono ?_; rintro e w1 ⟨rfl, hb⟩; obtain ⟨hc, hf⟩ := bcell hb; have hz := hb.size; simp at hz; have hB := after (w := w) (by go_grown) hb)
  refine bodyPost_ret (v := .agg #[.int .i64 (hi (-a)), .int .u64 (lo (-a))]) (by simp [results, Try.results74, go_sem, hc]) rfl ⟨rfl, by go_grown⟩
set_option maxHeartbeats 400000 in
theorem limb_Mul (a b : Int) (w : World) :
    Calls Try.prog 79 #[.agg #[.int .i64 (hi a), .int .u64 (lo a)], .agg #[.int .i64 (hi b), .int .u64 (lo b)]] w fun e w' => e = .returned (.agg #[.int .i64 (hi (a * b)), .int .u64 (lo (a * b))]) ∧ Below w.heap.size w w' := by
  have a0 := lo_0 a; have b0 := lo_0 b; have a1 := lo_1 a; have b1 := lo_1 b
  have hm := mul64 (lo a) (lo b) a0 b0 (by omega) (by omega)
  have H := Lib.hid hm; clear hm
  have ea := uh_hi a; have eb := uh_hi b; have el := lo_mul a b; have eu := uh_mul' a b; have eh := hi_uh64 (a * b)
  go_enter Try.func79, Try.ntmps79
  go_wp2_with (go_at_call 86; refine (H.out _).mono ?_; rintro e w1 ⟨rfl, rfl⟩)
  go_returns
  exact ⟨rfl, by go_grown⟩
end Go.Proofs.Ytdglijdiiggdgaa
