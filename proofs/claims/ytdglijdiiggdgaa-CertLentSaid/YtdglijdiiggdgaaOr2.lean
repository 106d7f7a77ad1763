/- What orient's smaller functions answer: differences, rows, bounds, the determinant. -/
import Derived.Test.YtdglijdiiggdgaaOr1
namespace Go.Proofs.Ytdglijdiiggdgaa
open Go.RowKit

/-- A coordinate that may be loaded. -/
def Co (n : Int) : Prop := -1073741824 ≤ n ∧ n ≤ 1073741824

set_option maxRecDepth 100000 in
set_option maxHeartbeats 400000 in
theorem orient_less (a b c d e f : Int) (ha : Co a) (hb : Co b) (hc : Co c) (hd : Co d) (he : Co e) (hf : Co f) (w : World) :
    Calls Try.prog 61 #[.agg #[.int .i64 a, .int .i64 b, .int .i64 c], .agg #[.int .i64 d, .int .i64 e, .int .i64 f]] w fun e' w' =>
      e' = .returned (.agg #[.int .i64 (a - d), .int .i64 (b - e), .int .i64 (c - f)]) ∧ Below w.heap.size w w' := by
  obtain ⟨_, _⟩ := ha; obtain ⟨_, _⟩ := hb; obtain ⟨_, _⟩ := hc; obtain ⟨_, _⟩ := hd; obtain ⟨_, _⟩ := he; obtain ⟨_, _⟩ := hf
  go_enter Try.func61, Try.ntmps61
  go_wp2
  go_returns
  exact ⟨rfl, by go_grown⟩

set_option maxRecDepth 100000 in
set_option maxHeartbeats 400000 in
theorem orient_row (a b c : Int) (w : World) :
    Calls Try.prog 73 #[.agg #[.int .i64 a, .int .i64 b, .int .i64 c]] w fun e' w' =>
      e' = .returned (.agg #[.int .i64 a, .int .i64 b, .int .i64 c]) ∧ Below w.heap.size w w' := by
  go_enter Try.func73, Try.ntmps73
  go_wp2
  go_returns
  exact ⟨rfl, by go_grown⟩

/-- May a coordinate be loaded? -/
def co (n : Int) : Bool := decide (-1073741824 ≤ n) && decide (n ≤ 1073741824)
theorem co_iff (n : Int) : co n = true ↔ Co n := by unfold co Co; simp

set_option maxHeartbeats 400000 in
theorem orient_may1 (n : Int) (w : World) :
    Calls Try.prog 59 #[.int .i64 n] w fun e' w' => e' = .returned (.bool (co n)) ∧ w = w' := by
  unfold co
  by_cases h : -1073741824 ≤ n
  · go_enter Try.func59, Try.ntmps59
    go_wp2
    go_ret
    simp [h]
  · have h' : ¬ (-1073741824 ≤ n) := h
    go_enter Try.func59, Try.ntmps59
    go_wp2
    go_ret
    simp
    omega

set_option maxRecDepth 100000 in
set_option maxHeartbeats 400000 in
theorem orient_may (a b c : Int) (w : World) :
    Calls Try.prog 51 #[.agg #[.int .i64 a, .int .i64 b, .int .i64 c]] w fun e' w' => e' = .returned (.bool (co a && co b && co c)) ∧ Below w.heap.size w w' := by
  cases ea : co a with
  | false =>
    have h1 := orient_may1 a; rw [ea] at h1; have H1 := Lib.hid h1; clear h1 ea
    go_enter Try.func51, Try.ntmps51
    go_wp2_with fail
    refine (H1.out _).mono ?_; rintro e' w1 ⟨rfl, rfl⟩
    go_wp2
    go_ret
    exact ⟨by simp, by go_grown⟩
  | true =>
    have h1 := orient_may1 a; rw [ea] at h1; have H1 := Lib.hid h1; clear h1 ea
    cases eb : co b with
    | false =>
      have h2 := orient_may1 b; rw [eb] at h2; have H2 := Lib.hid h2; clear h2 eb
      go_enter Try.func51, Try.ntmps51
      go_wp2_with fail
      refine (H1.out _).mono ?_; rintro e' w1 ⟨rfl, rfl⟩
      go_wp2_with fail
      refine (H2.out _).mono ?_; rintro e' w1 ⟨rfl, rfl⟩
      go_wp2
      go_ret
      exact ⟨by simp, by go_grown⟩
    | true =>
      have h2 := orient_may1 b; rw [eb] at h2; have H2 := Lib.hid h2; clear h2 eb
      have H3 := Lib.hid (orient_may1 c)
      generalize co c = cc at H3 ⊢
      go_enter Try.func51, Try.ntmps51
      go_wp2_with fail
      refine (H1.out _).mono ?_; rintro e' w1 ⟨rfl, rfl⟩
      go_wp2_with fail
      refine (H2.out _).mono ?_; rintro e' w1 ⟨rfl, rfl⟩
      go_wp2_with fail
      refine (H3.out _).mono ?_; rintro e' w1 ⟨rfl, rfl⟩
      go_wp2
      go_ret
      exact ⟨by simp, by go_grown⟩
theorem sub_I64 {a b : Int} (ha : Co a) (hb : Co b) : I64 (a - b) := by unfold Co at ha hb; unfold I64; omega

set_option maxRecDepth 100000 in
set_option maxHeartbeats 1000000 in
theorem orient_det (a0 a1 a2 b0 b1 b2 c0 c1 c2 d0 d1 d2 : Int) (ha0 : Co a0) (ha1 : Co a1) (ha2 : Co a2) (hb0 : Co b0) (hb1 : Co b1) (hb2 : Co b2) (hc0 : Co c0) (hc1 : Co c1) (hc2 : Co c2) (hd0 : Co d0) (hd1 : Co d1) (hd2 : Co d2) (w : World) :
    Calls Try.prog 63 #[.agg #[.int .i64 a0, .int .i64 a1, .int .i64 a2], .agg #[.int .i64 b0, .int .i64 b1, .int .i64 b2], .agg #[.int .i64 c0, .int .i64 c1, .int .i64 c2], .agg #[.int .i64 d0, .int .i64 d1, .int .i64 d2]] w fun e w' => e = .returned (.agg #[.int .i64 (hi (det3 (a0 - d0) (a1 - d1) (a2 - d2) (b0 - d0) (b1 - d1) (b2 - d2) (c0 - d0) (c1 - d1) (c2 - d2))), .int .u64 (lo (det3 (a0 - d0) (a1 - d1) (a2 - d2) (b0 - d0) (b1 - d1) (b2 - d2) (c0 - d0) (c1 - d1) (c2 - d2)))]) ∧ Below w.heap.size w w' := by
  have ia0 := sub_I64 ha0 hd0
  have ia1 := sub_I64 ha1 hd1
  have ia2 := sub_I64 ha2 hd2
  have ib0 := sub_I64 hb0 hd0
  have ib1 := sub_I64 hb1 hd1
  have ib2 := sub_I64 hb2 hd2
  have ic0 := sub_I64 hc0 hd0
  have ic1 := sub_I64 hc1 hd1
  have ic2 := sub_I64 hc2 hd2
  go_enter Try.func63, Try.ntmps63
  go_wp2_with fail
  refine wp_named ?_
  intro W1 hW
  have k0 : W1.heap[w.heap.size]? = some (.cells #[.int .i64 a0, .int .i64 a1, .int .i64 a2] 73 (0, 0)) := by rw [hW]; repeat (first | exact heap_at (by simp <;> omega) | rw [heap_old (by simp <;> omega)])
  have z0 : w.heap.size < W1.heap.size := by rw [hW]; simp <;> omega
  have k1 : W1.heap[w.heap.size + 1]? = some (.cells #[.int .i64 b0, .int .i64 b1, .int .i64 b2] 73 (0, 0)) := by rw [hW]; repeat (first | exact heap_at (by simp <;> omega) | rw [heap_old (by simp <;> omega)])
  have z1 : w.heap.size + 1 < W1.heap.size := by rw [hW]; simp <;> omega
  have k2 : W1.heap[w.heap.size + 1 + 1]? = some (.cells #[.int .i64 c0, .int .i64 c1, .int .i64 c2] 73 (0, 0)) := by rw [hW]; repeat (first | exact heap_at (by simp <;> omega) | rw [heap_old (by simp <;> omega)])
  have z2 : w.heap.size + 1 + 1 < W1.heap.size := by rw [hW]; simp <;> omega
  have k3 : W1.heap[w.heap.size + 1 + 1 + 1]? = some (.cells #[.int .i64 d0, .int .i64 d1, .int .i64 d2] 73 (0, 0)) := by rw [hW]; repeat (first | exact heap_at (by simp <;> omega) | rw [heap_old (by simp <;> omega)])
  have z3 : w.heap.size + 1 + 1 + 1 < W1.heap.size := by rw [hW]; simp <;> omega
  have k4 : W1.heap[w.heap.size + 1 + 1 + 1 + 1]? = some (.cells #[.int .i64 0, .int .u64 0] 108 (0, 0)) := by rw [hW]; repeat (first | exact heap_at (by simp <;> omega) | rw [heap_old (by simp <;> omega)])
  have z4 : w.heap.size + 1 + 1 + 1 + 1 < W1.heap.size := by rw [hW]; simp <;> omega
  have hB : Below w.heap.size w W1 := by rw [hW]; go_grown
  clear hW
  obtain ⟨kq0, kr0⟩ := cellB k0
  obtain ⟨kq1, kr1⟩ := cellB k1
  obtain ⟨kq2, kr2⟩ := cellB k2
  obtain ⟨kq3, kr3⟩ := cellB k3
  obtain ⟨kq4, kr4⟩ := cellB k4
  refine wp_calm0 13 (by kernel_rfl) (by kernel_rfl) ?_
  intro C hC
  repeat (refine wpCalm_step (fun K hK => ?_); go_simp; first | (refine hK _ ?_; clear hK K) | (apply Exists.intro; refine ⟨fun wc hw => ?_, hK _ ?_⟩; (obtain ⟨hc, hf⟩ := bcell (hC wc hw); go_simp; first | exact rfl | exact orient_less _ _ _ _ _ _ (by assumption) (by assumption) (by assumption) (by assumption) (by assumption) (by assumption) _ | exact orient_row _ _ _ _ | exact orient_three _ _ _ _ _ _ _ _ _ (by assumption) (by assumption) (by assumption) (by assumption) (by assumption) (by assumption) (by assumption) (by assumption) (by assumption) _); clear hK K))
  refine wpCalm_nil ?_
  clear hC C
  clear kq0 kr0 kq1 kr1 kq2 kr2 kq3 kr3 kq4 kr4
  intro W2 hX
  replace k0 := (hX.block _ z0).trans k0
  replace z0 := Nat.lt_of_lt_of_le z0 hX.size
  replace k1 := (hX.block _ z1).trans k1
  replace z1 := Nat.lt_of_lt_of_le z1 hX.size
  replace k2 := (hX.block _ z2).trans k2
  replace z2 := Nat.lt_of_lt_of_le z2 hX.size
  replace k3 := (hX.block _ z3).trans k3
  replace z3 := Nat.lt_of_lt_of_le z3 hX.size
  replace k4 := (hX.block _ z4).trans k4
  replace z4 := Nat.lt_of_lt_of_le z4 hX.size
  replace hB := after hB hX
  clear hX
  simp only [List.drop_succ_cons, List.drop_zero]
  obtain ⟨kq4, kr4⟩ := cellB k4
  go_wp2
  refine bodyPost_ret (v := .agg #[.int .i64 (hi (det3 (a0 - d0) (a1 - d1) (a2 - d2) (b0 - d0) (b1 - d1) (b2 - d2) (c0 - d0) (c1 - d1) (c2 - d2))), .int .u64 (lo (det3 (a0 - d0) (a1 - d1) (a2 - d2) (b0 - d0) (b1 - d1) (b2 - d2) (c0 - d0) (c1 - d1) (c2 - d2)))]) (by simp [results, Try.results63, go_sem, kq4]) rfl ⟨rfl, by go_grown⟩

end Go.Proofs.Ytdglijdiiggdgaa
