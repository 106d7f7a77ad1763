import Derived.Test.YtdglijdiiggdgaaRf2
namespace Go.Proofs.Ytdglijdiiggdgaa
open Go.RowKit
set_option maxHeartbeats 400000 in
theorem ref2_row (x y z : Int) (w : World) : Calls Try.prog 53 #[.agg #[.int .i64 x, .int .i64 y, .int .i64 z]] w fun e w' => e = .returned (.agg #[.int .i64 x, .int .i64 y, .int .i64 z, .int .i64 1]) ∧ Below w.heap.size w w' := by
  go_enter Try.func53, Try.ntmps53
  go_wp2
  go_returns
  exact ⟨rfl, by go_grown⟩
theorem co_mul {a b : Int} (ha : Co a) (hb : Co b) : -1152921504606846976 ≤ a * b ∧ a * b ≤ 1152921504606846976 := by
  unfold Co at ha hb
  have h := mulN (x := a) (y := b) (A := 1073741824) (B := 1073741824) (by omega) (by omega)
  omega
theorem co_I64 {a : Int} (ha : Co a) : I64 a := by unfold Co at ha; unfold I64; omega
set_option maxRecDepth 100000 in
set_option maxHeartbeats 2000000 in
theorem ref2_three0 (a0 a1 a2 a3 b0 b1 b2 b3 c0 c1 c2 c3 : Int) (ha0 : Co a0) (ha1 : Co a1) (ha2 : Co a2) (hb0 : Co b0) (hb1 : Co b1) (hb2 : Co b2) (hc0 : Co c0) (hc1 : Co c1) (hc2 : Co c2) (w : World) :
    Calls Try.prog 65 #[.agg #[.int .i64 a0, .int .i64 a1, .int .i64 a2, .int .i64 a3], .agg #[.int .i64 b0, .int .i64 b1, .int .i64 b2, .int .i64 b3], .agg #[.int .i64 c0, .int .i64 c1, .int .i64 c2, .int .i64 c3]] w fun e w' =>
      e = .returned (w2 (a0 * (b1 * c2 - b2 * c1) + a1 * (b2 * c0 - b0 * c2) + a2 * (b0 * c1 - b1 * c0))) ∧ Below w.heap.size w w' := by
  obtain ⟨l0, u0⟩ := co_mul hb1 hc2
  have m0 : IntKind.i64.wrap (b1 * c2) = b1 * c2 := by rw [IntKind.wrap_i64]; omega
  obtain ⟨l1, u1⟩ := co_mul hb2 hc1
  have m1 : IntKind.i64.wrap (b2 * c1) = b2 * c1 := by rw [IntKind.wrap_i64]; omega
  obtain ⟨l2, u2⟩ := co_mul hb2 hc0
  have m2 : IntKind.i64.wrap (b2 * c0) = b2 * c0 := by rw [IntKind.wrap_i64]; omega
  obtain ⟨l3, u3⟩ := co_mul hb0 hc2
  have m3 : IntKind.i64.wrap (b0 * c2) = b0 * c2 := by rw [IntKind.wrap_i64]; omega
  obtain ⟨l4, u4⟩ := co_mul hb0 hc1
  have m4 : IntKind.i64.wrap (b0 * c1) = b0 * c1 := by rw [IntKind.wrap_i64]; omega
  obtain ⟨l5, u5⟩ := co_mul hb1 hc0
  have m5 : IntKind.i64.wrap (b1 * c0) = b1 * c0 := by rw [IntKind.wrap_i64]; omega
  have d0 : IntKind.i64.wrap (b1 * c2 - b2 * c1) = b1 * c2 - b2 * c1 := by rw [IntKind.wrap_i64]; omega
  have i0 : I64 (b1 * c2 - b2 * c1) := by unfold I64; omega
  have P0 := Lib.hid (ref1_prod a0 (b1 * c2 - b2 * c1) (co_I64 ha0) i0)
  have d1 : IntKind.i64.wrap (b2 * c0 - b0 * c2) = b2 * c0 - b0 * c2 := by rw [IntKind.wrap_i64]; omega
  have i1 : I64 (b2 * c0 - b0 * c2) := by unfold I64; omega
  have P1 := Lib.hid (ref1_prod a1 (b2 * c0 - b0 * c2) (co_I64 ha1) i1)
  have d2 : IntKind.i64.wrap (b0 * c1 - b1 * c0) = b0 * c1 - b1 * c0 := by rw [IntKind.wrap_i64]; omega
  have i2 : I64 (b0 * c1 - b1 * c0) := by unfold I64; omega
  have P2 := Lib.hid (ref1_prod a2 (b0 * c1 - b1 * c0) (co_I64 ha2) i2)
  have A1 := Lib.hid (ref1_add (a0 * (b1 * c2 - b2 * c1)) (a1 * (b2 * c0 - b0 * c2)))
  have A2 := Lib.hid (ref1_add (a0 * (b1 * c2 - b2 * c1) + a1 * (b2 * c0 - b0 * c2)) (a2 * (b0 * c1 - b1 * c0)))
  unfold w2 at P0 P1 P2 A1 A2
  unfold w2
  clear i0 i1 i2 ha0 ha1 ha2 hb0 hb1 hb2 hc0 hc1 hc2
  go_enter Try.func65, Try.ntmps65
  go_wp2_with fail
  first | refine wp_named ?_ | refine calls_named ?_
  intro V0 hV
  have k0 : V0.heap[w.heap.size]? = some (.cells #[.int .i64 a0, .int .i64 a1, .int .i64 a2, .int .i64 a3] 92 (0, 0)) := by rw [hV]; repeat (first | exact heap_at (by simp <;> omega) | rw [heap_old (by simp <;> omega)])
  have z0 : w.heap.size < V0.heap.size := by rw [hV]; simp <;> omega
  have k1 : V0.heap[w.heap.size + 1]? = some (.cells #[.int .i64 b0, .int .i64 b1, .int .i64 b2, .int .i64 b3] 92 (0, 0)) := by rw [hV]; repeat (first | exact heap_at (by simp <;> omega) | rw [heap_old (by simp <;> omega)])
  have z1 : w.heap.size + 1 < V0.heap.size := by rw [hV]; simp <;> omega
  have k2 : V0.heap[w.heap.size + 1 + 1]? = some (.cells #[.int .i64 c0, .int .i64 c1, .int .i64 c2, .int .i64 c3] 92 (0, 0)) := by rw [hV]; repeat (first | exact heap_at (by simp <;> omega) | rw [heap_old (by simp <;> omega)])
  have z2 : w.heap.size + 1 + 1 < V0.heap.size := by rw [hV]; simp <;> omega
  have k3 : V0.heap[w.heap.size + 1 + 1 + 1]? = some (.cells #[.int .u64 0, .int .u64 0] 100 (0, 0)) := by rw [hV]; repeat (first | exact heap_at (by simp <;> omega) | rw [heap_old (by simp <;> omega)])
  have z3 : w.heap.size + 1 + 1 + 1 < V0.heap.size := by rw [hV]; simp <;> omega
  have hB : Below w.heap.size w V0 := by rw [hV]; go_grown
  clear hV
  refine (P0.out _).mono ?_; rintro e W0 ⟨rfl, hX⟩
  replace k0 := (hX.block _ z0).trans k0; replace z0 := Nat.lt_of_lt_of_le z0 hX.size
  replace k1 := (hX.block _ z1).trans k1; replace z1 := Nat.lt_of_lt_of_le z1 hX.size
  replace k2 := (hX.block _ z2).trans k2; replace z2 := Nat.lt_of_lt_of_le z2 hX.size
  replace k3 := (hX.block _ z3).trans k3; replace z3 := Nat.lt_of_lt_of_le z3 hX.size
  replace hB := after hB hX; clear hX
  obtain ⟨p0, q0⟩ := cellB k0
  obtain ⟨p1, q1⟩ := cellB k1
  obtain ⟨p2, q2⟩ := cellB k2
  obtain ⟨p3, q3⟩ := cellB k3
  go_wp2_with fail
  first | refine wp_named ?_ | refine calls_named ?_
  intro V1 hV
  replace k0 : V1.heap[w.heap.size]? = some (.cells #[.int .i64 a0, .int .i64 a1, .int .i64 a2, .int .i64 a3] 92 (0, 0)) := by rw [hV]; exact (heap_old z0).trans k0
  replace z0 : w.heap.size < V1.heap.size := by rw [hV]; simp <;> omega
  replace k1 : V1.heap[w.heap.size + 1]? = some (.cells #[.int .i64 b0, .int .i64 b1, .int .i64 b2, .int .i64 b3] 92 (0, 0)) := by rw [hV]; exact (heap_old z1).trans k1
  replace z1 : w.heap.size + 1 < V1.heap.size := by rw [hV]; simp <;> omega
  replace k2 : V1.heap[w.heap.size + 1 + 1]? = some (.cells #[.int .i64 c0, .int .i64 c1, .int .i64 c2, .int .i64 c3] 92 (0, 0)) := by rw [hV]; exact (heap_old z2).trans k2
  replace z2 : w.heap.size + 1 + 1 < V1.heap.size := by rw [hV]; simp <;> omega
  replace k3 : V1.heap[w.heap.size + 1 + 1 + 1]? = some (.cells #[.int .u64 0, .int .u64 0] 100 (0, 0)) := by rw [hV]; exact (heap_old z3).trans k3
  replace z3 : w.heap.size + 1 + 1 + 1 < V1.heap.size := by rw [hV]; simp <;> omega
  have k4 : V1.heap[W0.heap.size]? = some (.cells #[.int .u64 (uh (a0 * (b1 * c2 - b2 * c1))), .int .u64 (lo (a0 * (b1 * c2 - b2 * c1)))] 100 (0, 0)) := by rw [hV]; exact heap_at rfl
  have z4 : W0.heap.size < V1.heap.size := by rw [hV]; simp
  replace hB : Below w.heap.size w V1 := by rw [hV]; have := hB.size; go_grown
  clear hV p0 q0 p1 q1 p2 q2 p3 q3
  refine (P1.out _).mono ?_; rintro e W1 ⟨rfl, hX⟩
  replace k0 := (hX.block _ z0).trans k0; replace z0 := Nat.lt_of_lt_of_le z0 hX.size
  replace k1 := (hX.block _ z1).trans k1; replace z1 := Nat.lt_of_lt_of_le z1 hX.size
  replace k2 := (hX.block _ z2).trans k2; replace z2 := Nat.lt_of_lt_of_le z2 hX.size
  replace k3 := (hX.block _ z3).trans k3; replace z3 := Nat.lt_of_lt_of_le z3 hX.size
  replace k4 := (hX.block _ z4).trans k4; replace z4 := Nat.lt_of_lt_of_le z4 hX.size
  replace hB := after hB hX; clear hX
  obtain ⟨p0, q0⟩ := cellB k0
  obtain ⟨p1, q1⟩ := cellB k1
  obtain ⟨p2, q2⟩ := cellB k2
  obtain ⟨p3, q3⟩ := cellB k3
  obtain ⟨p4, q4⟩ := cellB k4
  go_wp2_with fail
  first | refine wp_named ?_ | refine calls_named ?_
  intro V2 hV
  replace k0 : V2.heap[w.heap.size]? = some (.cells #[.int .i64 a0, .int .i64 a1, .int .i64 a2, .int .i64 a3] 92 (0, 0)) := by rw [hV]; exact (heap_old z0).trans k0
  replace z0 : w.heap.size < V2.heap.size := by rw [hV]; simp <;> omega
  replace k1 : V2.heap[w.heap.size + 1]? = some (.cells #[.int .i64 b0, .int .i64 b1, .int .i64 b2, .int .i64 b3] 92 (0, 0)) := by rw [hV]; exact (heap_old z1).trans k1
  replace z1 : w.heap.size + 1 < V2.heap.size := by rw [hV]; simp <;> omega
  replace k2 : V2.heap[w.heap.size + 1 + 1]? = some (.cells #[.int .i64 c0, .int .i64 c1, .int .i64 c2, .int .i64 c3] 92 (0, 0)) := by rw [hV]; exact (heap_old z2).trans k2
  replace z2 : w.heap.size + 1 + 1 < V2.heap.size := by rw [hV]; simp <;> omega
  replace k3 : V2.heap[w.heap.size + 1 + 1 + 1]? = some (.cells #[.int .u64 0, .int .u64 0] 100 (0, 0)) := by rw [hV]; exact (heap_old z3).trans k3
  replace z3 : w.heap.size + 1 + 1 + 1 < V2.heap.size := by rw [hV]; simp <;> omega
  replace k4 : V2.heap[W0.heap.size]? = some (.cells #[.int .u64 (uh (a0 * (b1 * c2 - b2 * c1))), .int .u64 (lo (a0 * (b1 * c2 - b2 * c1)))] 100 (0, 0)) := by rw [hV]; exact (heap_old z4).trans k4
  replace z4 : W0.heap.size < V2.heap.size := by rw [hV]; simp <;> omega
  have k5 : V2.heap[W1.heap.size]? = some (.cells #[.int .u64 (uh (a1 * (b2 * c0 - b0 * c2))), .int .u64 (lo (a1 * (b2 * c0 - b0 * c2)))] 100 (0, 0)) := by rw [hV]; exact heap_at rfl
  have z5 : W1.heap.size < V2.heap.size := by rw [hV]; simp
  replace hB : Below w.heap.size w V2 := by rw [hV]; have := hB.size; go_grown
  clear hV p0 q0 p1 q1 p2 q2 p3 q3 p4 q4
  refine (P2.out _).mono ?_; rintro e W2 ⟨rfl, hX⟩
  replace k0 := (hX.block _ z0).trans k0; replace z0 := Nat.lt_of_lt_of_le z0 hX.size
  replace k1 := (hX.block _ z1).trans k1; replace z1 := Nat.lt_of_lt_of_le z1 hX.size
  replace k2 := (hX.block _ z2).trans k2; replace z2 := Nat.lt_of_lt_of_le z2 hX.size
  replace k3 := (hX.block _ z3).trans k3; replace z3 := Nat.lt_of_lt_of_le z3 hX.size
  replace k4 := (hX.block _ z4).trans k4; replace z4 := Nat.lt_of_lt_of_le z4 hX.size
  replace k5 := (hX.block _ z5).trans k5; replace z5 := Nat.lt_of_lt_of_le z5 hX.size
  replace hB := after hB hX; clear hX
  obtain ⟨p0, q0⟩ := cellB k0
  obtain ⟨p1, q1⟩ := cellB k1
  obtain ⟨p2, q2⟩ := cellB k2
  obtain ⟨p3, q3⟩ := cellB k3
  obtain ⟨p4, q4⟩ := cellB k4
  obtain ⟨p5, q5⟩ := cellB k5
  go_wp2_with fail
  first | refine wp_named ?_ | refine calls_named ?_
  intro V3 hV
  replace k3 : V3.heap[w.heap.size + 1 + 1 + 1]? = some (.cells #[.int .u64 0, .int .u64 0] 100 (0, 0)) := by rw [hV]; exact (heap_old z3).trans k3
  replace z3 : w.heap.size + 1 + 1 + 1 < V3.heap.size := by rw [hV]; simp <;> omega
  replace k4 : V3.heap[W0.heap.size]? = some (.cells #[.int .u64 (uh (a0 * (b1 * c2 - b2 * c1))), .int .u64 (lo (a0 * (b1 * c2 - b2 * c1)))] 100 (0, 0)) := by rw [hV]; exact (heap_old z4).trans k4
  replace z4 : W0.heap.size < V3.heap.size := by rw [hV]; simp <;> omega
  replace k5 : V3.heap[W1.heap.size]? = some (.cells #[.int .u64 (uh (a1 * (b2 * c0 - b0 * c2))), .int .u64 (lo (a1 * (b2 * c0 - b0 * c2)))] 100 (0, 0)) := by rw [hV]; exact (heap_old z5).trans k5
  replace z5 : W1.heap.size < V3.heap.size := by rw [hV]; simp <;> omega
  have k6 : V3.heap[W2.heap.size]? = some (.cells #[.int .u64 (uh (a2 * (b0 * c1 - b1 * c0))), .int .u64 (lo (a2 * (b0 * c1 - b1 * c0)))] 100 (0, 0)) := by rw [hV]; exact heap_at rfl
  have z6 : W2.heap.size < V3.heap.size := by rw [hV]; simp
  replace hB : Below w.heap.size w V3 := by rw [hV]; have := hB.size; go_grown
  clear hV p0 q0 p1 q1 p2 q2 p3 q3 p4 q4 p5 q5 k0 k1 k2 z0 z1 z2
  obtain ⟨p3, q3⟩ := cellB k3
  obtain ⟨p4, q4⟩ := cellB k4
  obtain ⟨p5, q5⟩ := cellB k5
  obtain ⟨p6, q6⟩ := cellB k6
  refine wp_calm0 5 (by kernel_rfl) (by kernel_rfl) ?_
  intro C hC
  repeat (refine wpCalm_step (fun K hK => ?_); go_simp; first | (refine hK _ ?_; clear hK K) | (apply Exists.intro; refine ⟨fun wc hw => ?_, hK _ ?_⟩; (obtain ⟨hc, hf⟩ := bcell (hC wc hw); go_simp; first | with_reducible exact A1.out wc | with_reducible exact A2.out wc | exact rfl); clear hK K))
  refine wpCalm_nil ?_
  clear hC C
  intro V hX
  simp only [List.drop_succ_cons, List.drop_zero]
  replace k3 := (hX.block _ z3).trans k3; replace z3 := Nat.lt_of_lt_of_le z3 hX.size; replace hB := after hB hX
  clear hX p3 q3 p4 q4 p5 q5 p6 q6 k4 k5 k6 z4 z5 z6
  obtain ⟨p3, q3⟩ := cellB k3
  clear k3
  go_wp2_with fail
  refine bodyPost_ret (v := .agg #[.int .u64 (uh (a0 * (b1 * c2 - b2 * c1) + a1 * (b2 * c0 - b0 * c2) + a2 * (b0 * c1 - b1 * c0))), .int .u64 (lo (a0 * (b1 * c2 - b2 * c1) + a1 * (b2 * c0 - b0 * c2) + a2 * (b0 * c1 - b1 * c0)))]) (by simp [results, Try.results65, go_sem, p3]) rfl ⟨rfl, by go_grown⟩
theorem ref2_three (a0 a1 a2 a3 b0 b1 b2 b3 c0 c1 c2 c3 : Int) (ha : Co a0 ∧ Co a1 ∧ Co a2) (hb : Co b0 ∧ Co b1 ∧ Co b2) (hc : Co c0 ∧ Co c1 ∧ Co c2) (w : World) :
    Calls Try.prog 65 #[.agg #[.int .i64 a0, .int .i64 a1, .int .i64 a2, .int .i64 a3], .agg #[.int .i64 b0, .int .i64 b1, .int .i64 b2, .int .i64 b3], .agg #[.int .i64 c0, .int .i64 c1, .int .i64 c2, .int .i64 c3]] w fun e w' =>
      e = .returned (w2 (det3 a0 a1 a2 b0 b1 b2 c0 c1 c2)) ∧ Below w.heap.size w w' := ref2_three0 a0 a1 a2 a3 b0 b1 b2 b3 c0 c1 c2 c3 ha.1 ha.2.1 ha.2.2 hb.1 hb.2.1 hb.2.2 hc.1 hc.2.1 hc.2.2 w
end Go.Proofs.Ytdglijdiiggdgaa
