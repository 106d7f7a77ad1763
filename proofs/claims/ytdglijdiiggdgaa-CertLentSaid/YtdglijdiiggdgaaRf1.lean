import Derived.Test.YtdglijdiiggdgaaSAll
import Derived.Laws.Bits64
namespace Go.Proofs.Ytdglijdiiggdgaa
open Go.RowKit
/-- A number of 128 bits as two unsigned words. -/
def w2 (n : Int) : Value := .agg #[.int .u64 (uh n), .int .u64 (lo n)]
theorem ret_u {a b c d : Int} {R : Prop} (h : a = c) (h' : b = d) (hR : R) : Ending.returned (.agg #[.int .u64 a, .int .u64 b]) = Ending.returned (.agg #[.int .u64 c, .int .u64 d]) ∧ R := ⟨by rw [h, h'], hR⟩
set_option maxHeartbeats 400000 in
theorem ref1_of (n : Int) (hn : I64 n) (w : World) : Calls Try.prog 85 #[.int .i64 n] w fun e w' => e = .returned (w2 n) ∧ Below w.heap.size w w' := by
  have e2 := lo_wrap n
  unfold w2
  by_cases h : n < 0
  · have e1 : uh n = 18446744073709551615 := by unfold I64 at hn; unfold uh; omega
    rw [e1]
    go_enter Try.func85, Try.ntmps85
    go_wp2
    go_returns
    exact ⟨rfl, by go_grown⟩
  · have e1 : uh n = 0 := by unfold I64 at hn; unfold uh; omega
    rw [e1]
    go_enter Try.func85, Try.ntmps85
    go_wp2
    go_returns
    exact ⟨rfl, by go_grown⟩
set_option maxHeartbeats 800000 in
theorem ref1_add (a b : Int) (w : World) : Calls Try.prog 67 #[w2 a, w2 b] w fun e w' => e = .returned (w2 (a + b)) ∧ Below w.heap.size w w' := by
  have a0 := lo_0 a; have a1 := lo_1 a; have b0 := lo_0 b; have b1 := lo_1 b
  have el := lo_add a b; have eu := uh_add a b
  unfold w2
  by_cases h : lo a + lo b ≤ 18446744073709551615
  · have e1 : IntKind.u64.wrap (lo a + lo b) = lo a + lo b := by rw [IntKind.wrap_u64]; omega
    have hc : ¬ (lo a + lo b < lo a) := by omega
    go_enter Try.func67, Try.ntmps67
    go_wp2
    go_returns
    exact ret_u (by rw [IntKind.wrap_u64]; omega) (by omega) (by go_grown)
  · have e1 : IntKind.u64.wrap (lo a + lo b) = lo a + lo b - 18446744073709551616 := by rw [IntKind.wrap_u64]; omega
    have hc : lo a + lo b - 18446744073709551616 < lo a := by omega
    go_enter Try.func67, Try.ntmps67
    go_wp2
    go_returns
    exact ret_u (by simp only [IntKind.wrap_u64]; omega) (by omega) (by go_grown)
theorem nat_not (x : Nat) (h : x < 18446744073709551616) : 18446744073709551615 ^^^ x = 18446744073709551615 - x := by
  have h1 : (BitVec.allOnes 64 ^^^ BitVec.ofNat 64 x).toNat = 18446744073709551615 ^^^ x := by
    rw [BitVec.toNat_xor, BitVec.toNat_ofNat, BitVec.toNat_allOnes, Nat.mod_eq_of_lt (by simpa using h)]
  rw [← h1, BitVec.allOnes_xor, BitVec.toNat_not, BitVec.toNat_ofNat, Nat.mod_eq_of_lt (by simpa using h)]
set_option maxRecDepth 100000 in
theorem not_u64 (x : Int) (h0 : 0 ≤ x) (h1 : x ≤ 18446744073709551615) : bits BinOp.xor IntKind.u64 IntKind.u64.max x = 18446744073709551615 - x := by
  have h := bits_xor_u64_nat 18446744073709551615 x.toNat (by omega) (by omega)
  rw [nat_not _ (by omega), Int.toNat_of_nonneg h0] at h
  have e2 : ((18446744073709551615 : Nat) : Int) = IntKind.u64.max := by decide
  rw [e2] at h
  rw [h]
  omega
theorem uh_neg (a : Int) : uh (-a - 1) = 18446744073709551615 - uh a := by unfold uh; omega
theorem lo_neg (a : Int) : lo (-a - 1) = 18446744073709551615 - lo a := by unfold lo; omega
set_option maxRecDepth 100000 in
set_option maxHeartbeats 800000 in
theorem ref1_neg (a : Int) (w : World) : Calls Try.prog 66 #[w2 a] w fun e w' => e = .returned (w2 (-a)) ∧ Below w.heap.size w w' := by
  have h := fun w => ref1_add (-a - 1) 1 w
  have e : -a - 1 + 1 = -a := by omega
  simp only [e] at h
  unfold w2 at h
  rw [uh_neg, lo_neg, show uh 1 = 0 from rfl, show lo 1 = 1 from rfl] at h
  have H := Lib.hid h
  clear h e
  unfold w2
  have xh := not_u64 (uh a) (uh_0 a) (uh_1 a)
  have xl := not_u64 (lo a) (lo_0 a) (lo_1 a)
  go_enter Try.func66, Try.ntmps66
  go_wp2_with fail
  all_goals try simp only [xh, xl]
  all_goals (first | refine wp_named ?_ | refine calls_named ?_)
  all_goals intro W hW
  all_goals have k1 : W.heap[w.heap.size + 1]? = some (.cells #[.int .u64 0, .int .u64 0] 100 (0, 0)) := by rw [hW]; exact heap_at (by simp)
  all_goals have z1 : w.heap.size + 1 < W.heap.size := by rw [hW]; simp
  all_goals have hB : Below w.heap.size w W := by rw [hW]; go_grown
  all_goals clear hW xh xl
  all_goals (refine (H.out _).mono ?_; rintro e W1 ⟨rfl, hX⟩)
  all_goals replace k1 := (hX.block _ z1).trans k1
  all_goals replace z1 := Nat.lt_of_lt_of_le z1 hX.size
  all_goals replace hB := after hB hX
  all_goals obtain ⟨p1, q1⟩ := cellB k1
  all_goals clear k1 hX
  all_goals go_wp2_with fail
  all_goals refine bodyPost_ret (v := .agg #[.int .u64 (uh (-a)), .int .u64 (lo (-a))]) (by simp [results, Try.results66, go_sem, p1]) rfl ⟨rfl, by go_grown⟩
theorem words_eq {x y xl xh yl yh p q r t : Int} (hx : x = xh * 4294967296 + xl) (hy : y = yh * 4294967296 + yl) (hp : p = xl * yl) (hq : q = xh * yl) (hr : r = xl * yh) (ht : t = xh * yh) : x * y = t * 18446744073709551616 + (q + r) * 4294967296 + p := by
  subst hx hy hp hq hr ht
  grind
theorem mul_bnd {x y : Int} (hx : 0 ≤ x) (hx2 : x ≤ 4294967295) (hy : 0 ≤ y) (hy2 : y ≤ 4294967295) : 0 ≤ x * y ∧ x * y ≤ 18446744065119617025 := by
  refine ⟨Int.mul_nonneg hx hy, ?_⟩
  have h1 := Int.mul_le_mul hx2 hy2 hy (by omega)
  omega
set_option maxHeartbeats 1600000 in
theorem ref1_words (x y : Int) (hx : 0 ≤ x) (hx2 : x ≤ 18446744073709551615) (hy : 0 ≤ y) (hy2 : y ≤ 18446744073709551615) (w : World) : Calls Try.prog 89 #[.int .u64 x, .int .u64 y] w fun e w' => e = .returned (w2 (x * y)) ∧ Below w.heap.size w w' := by
  unfold w2
  obtain ⟨p0, p1⟩ := mul_bnd (x := x % 4294967296) (y := y % 4294967296) (by omega) (by omega) (by omega) (by omega)
  obtain ⟨q0, q1⟩ := mul_bnd (x := x / 4294967296) (y := y % 4294967296) (by omega) (by omega) (by omega) (by omega)
  obtain ⟨r0, r1⟩ := mul_bnd (x := x % 4294967296) (y := y / 4294967296) (by omega) (by omega) (by omega) (by omega)
  obtain ⟨t0, t1⟩ := mul_bnd (x := x / 4294967296) (y := y / 4294967296) (by omega) (by omega) (by omega) (by omega)
  have hm := words_eq (x := x) (y := y) (xl := x % 4294967296) (xh := x / 4294967296) (yl := y % 4294967296) (yh := y / 4294967296) (by omega) (by omega) rfl rfl rfl rfl
  have wp : IntKind.u64.wrap (x % 4294967296 * (y % 4294967296)) = x % 4294967296 * (y % 4294967296) := by rw [IntKind.wrap_u64]; omega
  have wq : IntKind.u64.wrap (x / 4294967296 * (y % 4294967296)) = x / 4294967296 * (y % 4294967296) := by rw [IntKind.wrap_u64]; omega
  have wr : IntKind.u64.wrap (x % 4294967296 * (y / 4294967296)) = x % 4294967296 * (y / 4294967296) := by rw [IntKind.wrap_u64]; omega
  have wt : IntKind.u64.wrap (x / 4294967296 * (y / 4294967296)) = x / 4294967296 * (y / 4294967296) := by rw [IntKind.wrap_u64]; omega
  go_enter Try.func89, Try.ntmps89
  go_wp2
  go_returns
  refine ret_u ?_ ?_ (by go_grown)
  · rw [hm]
    clear hm wp wq wr wt
    unfold uh
    generalize x / 4294967296 * (y / 4294967296) = T at *
    generalize x / 4294967296 * (y % 4294967296) = Q at *
    generalize x % 4294967296 * (y / 4294967296) = R at *
    generalize x % 4294967296 * (y % 4294967296) = P at *
    omega
  · rw [hm]
    clear hm wp wq wr wt
    unfold lo
    generalize x / 4294967296 * (y / 4294967296) = T at *
    generalize x / 4294967296 * (y % 4294967296) = Q at *
    generalize x % 4294967296 * (y / 4294967296) = R at *
    generalize x % 4294967296 * (y % 4294967296) = P at *
    omega
theorem lo_mul' (a b : Int) : lo (lo a * lo b) = lo (a * b) := lo_mul a b
set_option maxHeartbeats 1600000 in
theorem ref1_mul (a b : Int) (w : World) : Calls Try.prog 84 #[w2 a, w2 b] w fun e w' => e = .returned (w2 (a * b)) ∧ Below w.heap.size w w' := by
  unfold w2
  have a0 := lo_0 a; have a1 := lo_1 a; have b0 := lo_0 b; have b1 := lo_1 b
  have H := Lib.hid (ref1_words (lo a) (lo b) a0 a1 b0 b1)
  unfold w2 at H
  go_enter Try.func84, Try.ntmps84
  go_wp2_with fail
  first | refine wp_named ?_ | refine calls_named ?_
  intro W hW
  have k0 : W.heap[w.heap.size]? = some (.cells #[.int .u64 (uh a), .int .u64 (lo a)] 100 (0, 0)) := by rw [hW]; exact (heap_old (by simp; omega)).trans ((heap_old (by simp)).trans (heap_at rfl))
  have k1 : W.heap[w.heap.size + 1]? = some (.cells #[.int .u64 (uh b), .int .u64 (lo b)] 100 (0, 0)) := by rw [hW]; exact (heap_old (by simp)).trans (heap_at (by simp))
  have k2 : W.heap[w.heap.size + 1 + 1]? = some (.cells #[.int .u64 0, .int .u64 0] 100 (0, 0)) := by rw [hW]; exact heap_at (by simp)
  have z2 : w.heap.size + 1 + 1 < W.heap.size := by rw [hW]; simp
  have hB : Below w.heap.size w W := by rw [hW]; go_grown
  clear hW
  refine (H.out _).mono ?_; rintro e W1 ⟨rfl, hX⟩
  replace k0 := (hX.block _ (by omega)).trans k0
  replace k1 := (hX.block _ (by omega)).trans k1
  replace k2 := (hX.block _ z2).trans k2
  replace z2 := Nat.lt_of_lt_of_le z2 hX.size
  replace hB := after hB hX
  clear hX
  have z0 : w.heap.size < W1.heap.size := by omega
  have z1 : w.heap.size + 1 < W1.heap.size := by omega
  obtain ⟨p0, q0⟩ := cellB k0
  obtain ⟨p1, q1⟩ := cellB k1
  obtain ⟨p2, q2⟩ := cellB k2
  clear k0 k1 k2
  go_wp2_with fail
  refine bodyPost_ret (v := .agg #[.int .u64 (IntKind.u64.wrap (IntKind.u64.wrap (uh (lo a * lo b) + IntKind.u64.wrap (uh a * lo b)) + IntKind.u64.wrap (lo a * uh b))), .int .u64 (lo (lo a * lo b))]) (by simp [results, Try.results84, go_sem, World.cell?_alloc_past, z2, p2]) rfl ?_
  refine ret_u ?_ (by rw [lo_mul']) (by go_grown)
  rw [← uh_mul a b]
  simp only [IntKind.wrap_u64]
  have hp := Int.mul_nonneg a0 b0
  have hp2 : lo a * lo b ≤ 340282366920938463426481119284349108225 := by
    have h1 := Int.mul_le_mul a1 b1 b0 (by omega)
    omega
  unfold uh
  generalize lo a * lo b = P at *
  generalize a / 18446744073709551616 % 18446744073709551616 * lo b = Q at *
  generalize lo a * (b / 18446744073709551616 % 18446744073709551616) = R at *
  omega
end Go.Proofs.Ytdglijdiiggdgaa
