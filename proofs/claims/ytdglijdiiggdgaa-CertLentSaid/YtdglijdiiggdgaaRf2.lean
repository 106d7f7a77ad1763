import Derived.Test.YtdglijdiiggdgaaRf1
namespace Go.Proofs.Ytdglijdiiggdgaa
open Go.RowKit
set_option maxRecDepth 100000 in
set_option maxHeartbeats 800000 in
theorem ref1_prod (a b : Int) (ha : I64 a) (hb : I64 b) (w : World) : Calls Try.prog 76 #[.int .i64 a, .int .i64 b] w fun e w' => e = .returned (w2 (a * b)) ∧ Below w.heap.size w w' := by
  have HM := Lib.hid (ref1_mul a b)
  have H1 := Lib.hid (ref1_of a ha)
  have H2 := Lib.hid (ref1_of b hb)
  unfold w2 at HM H1 H2
  unfold w2
  go_enter Try.func76, Try.ntmps76
  go_wp2_with fail
  first | refine wp_named ?_ | refine calls_named ?_
  intro W hW
  have k1 : W.heap[w.heap.size]? = some (.cells #[.int .u64 0, .int .u64 0] 100 (0, 0)) := by rw [hW]; exact heap_at rfl
  have z1 : w.heap.size < W.heap.size := by rw [hW]; simp
  have hB : Below w.heap.size w W := by rw [hW]; go_grown
  clear hW
  refine (H1.out _).mono ?_; rintro e W1 ⟨rfl, hX⟩
  replace k1 := (hX.block _ z1).trans k1; replace z1 := Nat.lt_of_lt_of_le z1 hX.size; replace hB := after hB hX; clear hX
  go_wp2_with fail
  refine (H2.out _).mono ?_; rintro e W2 ⟨rfl, hX⟩
  replace k1 := (hX.block _ z1).trans k1; replace z1 := Nat.lt_of_lt_of_le z1 hX.size; replace hB := after hB hX; clear hX
  go_wp2_with fail
  refine (HM.out _).mono ?_; rintro e W3 ⟨rfl, hX⟩
  replace k1 := (hX.block _ z1).trans k1; replace z1 := Nat.lt_of_lt_of_le z1 hX.size; replace hB := after hB hX; clear hX
  obtain ⟨p1, q1⟩ := cellB k1
  clear k1
  go_wp2_with fail
  refine bodyPost_ret (v := .agg #[.int .u64 (uh (a * b)), .int .u64 (lo (a * b))]) (by simp [results, Try.results76, go_sem, p1]) rfl ⟨rfl, by go_grown⟩
set_option maxHeartbeats 800000 in
theorem ref1_sign (n : Int) (h : In128 n) (w : World) : Calls Try.prog 55 #[w2 n] w fun e w' => e = .returned (.int .i64 n.sign) ∧ Below w.heap.size w w' := by
  unfold w2
  have u0 := uh_0 n; have u1 := uh_1 n
  unfold In128 at h
  by_cases h1 : n < 0
  · have e : n.sign = -1 := Int.sign_eq_neg_one_of_neg h1
    have hq : (uh n / 9223372036854775808 == 1) = true := by
      have : uh n / 9223372036854775808 = 1 := by unfold uh; omega
      rw [this]; rfl
    rw [e]
    go_enter Try.func55, Try.ntmps55
    go_wp2
    go_returns
    exact ⟨rfl, by go_grown⟩
  have hq : (uh n / 9223372036854775808 == 1) = false := by
    have : uh n / 9223372036854775808 = 0 := by unfold uh; omega
    rw [this]; rfl
  by_cases h2 : n = 0
  · subst h2
    have e1 : uh 0 = 0 := rfl
    have e2 : lo 0 = 0 := rfl
    rw [e1, e2]
    clear e1 e2 hq u0 u1
    go_enter Try.func55, Try.ntmps55
    go_wp2
    go_returns
    exact ⟨rfl, by go_grown⟩
  have e : n.sign = 1 := Int.sign_eq_one_of_pos (by omega)
  rw [e]
  by_cases h3 : uh n = 0
  · have h4 : ¬ lo n = 0 := by unfold uh at h3; unfold lo; omega
    have h5 : (lo n == 0) = false := by simpa using h4
    rw [h3]
    clear hq
    go_enter Try.func55, Try.ntmps55
    go_wp2
    go_returns
    exact ⟨rfl, by go_grown⟩
  · have h5 : (uh n == 0) = false := by simpa using h3
    go_enter Try.func55, Try.ntmps55
    go_wp2
    go_returns
    exact ⟨rfl, by go_grown⟩
end Go.Proofs.Ytdglijdiiggdgaa
