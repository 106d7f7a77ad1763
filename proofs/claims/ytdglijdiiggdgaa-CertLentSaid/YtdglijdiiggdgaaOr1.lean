/- What orient's reckonings answer. -/
import Derived.Test.YtdglijdiiggdgaaLimb
namespace Go.Proofs.Ytdglijdiiggdgaa
open Go.RowKit Go.Shelf

def I64 (n : Int) : Prop := -9223372036854775808 ≤ n ∧ n ≤ 9223372036854775807

set_option maxHeartbeats 400000 in
theorem limb_OfI (a : Int) (ha : I64 a) (w : World) :
    Calls Try.prog 80 #[.int .i64 a] w fun e w' => e = .returned (.agg #[.int .i64 (hi a), .int .u64 (lo a)]) ∧ Below w.heap.size w w' := limb_Of a w ha.1 ha.2
set_option maxHeartbeats 400000 in
theorem limb_Prod (a b : Int) (ha : I64 a) (hb : I64 b) (w : World) :
    Calls Try.prog 87 #[.int .i64 a, .int .i64 b] w fun e w' => e = .returned (.agg #[.int .i64 (hi (a * b)), .int .u64 (lo (a * b))]) ∧ Below w.heap.size w w' := by
  obtain ⟨a0, a1⟩ := ha
  obtain ⟨b0, b1⟩ := hb
  go_enter Try.func87, Try.ntmps87
  go_wp2_with fail
  refine (limb_Of a _ a0 a1).mono ?_; rintro e w1 ⟨rfl, hX⟩
  go_wp2_with fail
  refine (limb_Of b _ b0 b1).mono ?_; rintro e w2 ⟨rfl, hb⟩; replace hX := after hX hb; clear hb
  go_wp2_with fail
  refine (limb_Mul a b _).mono ?_; rintro e w3 ⟨rfl, hb⟩; replace hX := after hX hb; clear hb
  obtain ⟨hc, hf⟩ := bcell hX
  have hz := hX.size; simp at hz
  have hB := after (w := w) (by go_grown) hX
  go_wp2
  refine bodyPost_ret (v := .agg #[.int .i64 (hi (a * b)), .int .u64 (lo (a * b))]) (by simp [results, Try.results87, go_sem, hc]) rfl ⟨rfl, by go_grown⟩

set_option maxHeartbeats 400000 in
theorem orient_minor (a b c d : Int) (ha : I64 a) (hb : I64 b) (hc : I64 c) (hd : I64 d) (w : World) :
    Calls Try.prog 81 #[.int .i64 a, .int .i64 b, .int .i64 c, .int .i64 d] w fun e w' => e = .returned (.agg #[.int .i64 (hi (a * d - b * c)), .int .u64 (lo (a * d - b * c))]) ∧ Below w.heap.size w w' := by
  go_enter Try.func81, Try.ntmps81
  go_wp2_with fail
  refine (limb_Prod a d ha hd _).mono ?_; rintro e w1 ⟨rfl, hX⟩
  go_wp2_with fail
  refine (limb_Prod b c hb hc _).mono ?_; rintro e w2 ⟨rfl, hb⟩; replace hX := after hX hb; clear hb
  go_wp2_with fail
  refine (limb_Sub (a * d) (b * c) _).mono ?_; rintro e w3 ⟨rfl, hb⟩; replace hX := after hX hb; clear hb
  obtain ⟨hc, hf⟩ := bcell hX
  have hz := hX.size; simp at hz
  have hB := after (w := w) (by go_grown) hX
  go_wp2
  refine bodyPost_ret (v := .agg #[.int .i64 (hi (a * d - b * c)), .int .u64 (lo (a * d - b * c))]) (by simp [results, Try.results81, go_sem, hc]) rfl ⟨rfl, by go_grown⟩

def det3 (p0 p1 p2 q0 q1 q2 r0 r1 r2 : Int) : Int := p0 * (q1 * r2 - q2 * r1) + p1 * (q2 * r0 - q0 * r2) + p2 * (q0 * r1 - q1 * r0)

set_option maxRecDepth 100000 in
set_option maxHeartbeats 1000000 in
theorem orient_three0 (p0 p1 p2 q0 q1 q2 r0 r1 r2 : Int) (h1 : I64 p0) (h2 : I64 p1) (h3 : I64 p2) (h4 : I64 q0) (h5 : I64 q1) (h6 : I64 q2) (h7 : I64 r0) (h8 : I64 r1) (h9 : I64 r2) (w : World) :
    Calls Try.prog 72 #[.agg #[.int .i64 p0, .int .i64 p1, .int .i64 p2], .agg #[.int .i64 q0, .int .i64 q1, .int .i64 q2], .agg #[.int .i64 r0, .int .i64 r1, .int .i64 r2]] w fun e w' => e = .returned (.agg #[.int .i64 (hi (p0 * (q1 * r2 - q2 * r1) + p1 * (q2 * r0 - q0 * r2) + p2 * (q0 * r1 - q1 * r0))), .int .u64 (lo (p0 * (q1 * r2 - q2 * r1) + p1 * (q2 * r0 - q0 * r2) + p2 * (q0 * r1 - q1 * r0)))]) ∧ Below w.heap.size w w' := by
  go_enter Try.func72, Try.ntmps72
  go_wp2_with fail
  refine wp_named ?_
  intro W1 hW
  have k0 : W1.heap[w.heap.size]? = some (.cells #[.int .i64 p0, .int .i64 p1, .int .i64 p2] 44 (0, 0)) := by rw [hW]; repeat (first | exact heap_at (by simp <;> omega) | rw [heap_old (by simp <;> omega)])
  have z0 : w.heap.size < W1.heap.size := by rw [hW]; simp <;> omega
  have k1 : W1.heap[w.heap.size + 1]? = some (.cells #[.int .i64 q0, .int .i64 q1, .int .i64 q2] 44 (0, 0)) := by rw [hW]; repeat (first | exact heap_at (by simp <;> omega) | rw [heap_old (by simp <;> omega)])
  have z1 : w.heap.size + 1 < W1.heap.size := by rw [hW]; simp <;> omega
  have k2 : W1.heap[w.heap.size + 1 + 1]? = some (.cells #[.int .i64 r0, .int .i64 r1, .int .i64 r2] 44 (0, 0)) := by rw [hW]; repeat (first | exact heap_at (by simp <;> omega) | rw [heap_old (by simp <;> omega)])
  have z2 : w.heap.size + 1 + 1 < W1.heap.size := by rw [hW]; simp <;> omega
  have k3 : W1.heap[w.heap.size + 1 + 1 + 1]? = some (.cells #[.int .i64 0, .int .u64 0] 108 (0, 0)) := by rw [hW]; repeat (first | exact heap_at (by simp <;> omega) | rw [heap_old (by simp <;> omega)])
  have z3 : w.heap.size + 1 + 1 + 1 < W1.heap.size := by rw [hW]; simp <;> omega
  have hB : Below w.heap.size w W1 := by rw [hW]; go_grown
  clear hW
  obtain ⟨kq0, kr0⟩ := cellB k0
  obtain ⟨kq1, kr1⟩ := cellB k1
  obtain ⟨kq2, kr2⟩ := cellB k2
  obtain ⟨kq3, kr3⟩ := cellB k3
  refine wp_calm1 13 (.cells #[.int .i64 0, .int .u64 0] 108) (some 7) (by kernel_rfl) (by kernel_rfl) rfl (fun o ho a w => by cases ho; go_simp) ?_
  intro C hC
  repeat (refine wpCalm_step (fun K hK => ?_); go_simp; first | (refine hK _ ?_; clear hK K) | (apply Exists.intro; refine ⟨fun wc hw => ?_, hK _ ?_⟩; (obtain ⟨hc, hf⟩ := bcell (hC wc hw); go_simp; first | exact rfl | exact limb_OfI _ (by assumption) _ | exact orient_minor _ _ _ _ (by assumption) (by assumption) (by assumption) (by assumption) _ | exact limb_Mul _ _ _); clear hK K))
  refine wpCalm_nil ?_
  clear hC C
  clear kq0 kr0 kq1 kr1 kq2 kr2 kq3 kr3
  intro W2 b4 hX hb hblk
  have o0_4 : w.heap.size < b4 := Nat.lt_of_lt_of_le z0 hb
  have o1_4 : w.heap.size + 1 < b4 := Nat.lt_of_lt_of_le z1 hb
  have o2_4 : w.heap.size + 1 + 1 < b4 := Nat.lt_of_lt_of_le z2 hb
  have o3_4 : w.heap.size + 1 + 1 + 1 < b4 := Nat.lt_of_lt_of_le z3 hb
  clear hb
  replace k0 := (hX.block _ z0).trans k0
  replace z0 := Nat.lt_of_lt_of_le z0 hX.size
  replace k1 := (hX.block _ z1).trans k1
  replace z1 := Nat.lt_of_lt_of_le z1 hX.size
  replace k2 := (hX.block _ z2).trans k2
  replace z2 := Nat.lt_of_lt_of_le z2 hX.size
  replace k3 := (hX.block _ z3).trans k3
  replace z3 := Nat.lt_of_lt_of_le z3 hX.size
  replace hB := after hB hX
  have k4 := hblk
  have z4 := (Array.getElem?_eq_some_iff.1 hblk).1
  clear hblk
  clear hX
  simp only [List.drop_succ_cons, List.drop_zero]
  obtain ⟨kq0, kr0⟩ := cellB k0
  obtain ⟨kq1, kr1⟩ := cellB k1
  obtain ⟨kq2, kr2⟩ := cellB k2
  obtain ⟨kq3, kr3⟩ := cellB k3
  obtain ⟨kq4, kr4⟩ := cellB k4
  go_wp2_with fail
  clear kq0 kr0 kq1 kr1 kq2 kr2 kq3 kr3 kq4 kr4
  refine wp_named ?_
  intro W3 hW0
  have hW : W3 = storeAll W2 b4 0 [.int .i64 (hi (p0 * (q1 * r2 - q2 * r1))), .int .u64 (lo (p0 * (q1 * r2 - q2 * r1)))] := hW0
  clear hW0
  replace k0 := kept hW (by omega) k0
  replace z0 := Nat.lt_of_lt_of_eq z0 (sized hW).symm
  replace k1 := kept hW (by omega) k1
  replace z1 := Nat.lt_of_lt_of_eq z1 (sized hW).symm
  replace k2 := kept hW (by omega) k2
  replace z2 := Nat.lt_of_lt_of_eq z2 (sized hW).symm
  replace k3 := kept hW (by omega) k3
  replace z3 := Nat.lt_of_lt_of_eq z3 (sized hW).symm
  replace k4 := made (cs := [.int .i64 0, .int .u64 0]) hW k4 rfl
  replace z4 := Nat.lt_of_lt_of_eq z4 (sized hW).symm
  replace hB := below hW hB (by omega)
  clear hW
  obtain ⟨kq0, kr0⟩ := cellB k0
  obtain ⟨kq1, kr1⟩ := cellB k1
  obtain ⟨kq2, kr2⟩ := cellB k2
  obtain ⟨kq3, kr3⟩ := cellB k3
  obtain ⟨kq4, kr4⟩ := cellB k4
  refine wp_calm1 13 (.cells #[.int .i64 0, .int .u64 0] 108) (some 8) (by kernel_rfl) (by kernel_rfl) rfl (fun o ho a w => by cases ho; go_simp) ?_
  intro C hC
  repeat (refine wpCalm_step (fun K hK => ?_); go_simp; first | (refine hK _ ?_; clear hK K) | (apply Exists.intro; refine ⟨fun wc hw => ?_, hK _ ?_⟩; (obtain ⟨hc, hf⟩ := bcell (hC wc hw); go_simp; first | exact rfl | exact limb_OfI _ (by assumption) _ | exact orient_minor _ _ _ _ (by assumption) (by assumption) (by assumption) (by assumption) _ | exact limb_Mul _ _ _); clear hK K))
  refine wpCalm_nil ?_
  clear hC C
  clear kq0 kr0 kq1 kr1 kq2 kr2 kq3 kr3 kq4 kr4
  intro W4 b5 hX hb hblk
  have o0_5 : w.heap.size < b5 := Nat.lt_of_lt_of_le z0 hb
  have o1_5 : w.heap.size + 1 < b5 := Nat.lt_of_lt_of_le z1 hb
  have o2_5 : w.heap.size + 1 + 1 < b5 := Nat.lt_of_lt_of_le z2 hb
  have o3_5 : w.heap.size + 1 + 1 + 1 < b5 := Nat.lt_of_lt_of_le z3 hb
  have o4_5 : b4 < b5 := Nat.lt_of_lt_of_le z4 hb
  clear hb
  replace k0 := (hX.block _ z0).trans k0
  replace z0 := Nat.lt_of_lt_of_le z0 hX.size
  replace k1 := (hX.block _ z1).trans k1
  replace z1 := Nat.lt_of_lt_of_le z1 hX.size
  replace k2 := (hX.block _ z2).trans k2
  replace z2 := Nat.lt_of_lt_of_le z2 hX.size
  replace k3 := (hX.block _ z3).trans k3
  replace z3 := Nat.lt_of_lt_of_le z3 hX.size
  replace k4 := (hX.block _ z4).trans k4
  replace z4 := Nat.lt_of_lt_of_le z4 hX.size
  replace hB := after hB hX
  have k5 := hblk
  have z5 := (Array.getElem?_eq_some_iff.1 hblk).1
  clear hblk
  clear hX
  simp only [List.drop_succ_cons, List.drop_zero]
  obtain ⟨kq0, kr0⟩ := cellB k0
  obtain ⟨kq1, kr1⟩ := cellB k1
  obtain ⟨kq2, kr2⟩ := cellB k2
  obtain ⟨kq3, kr3⟩ := cellB k3
  obtain ⟨kq4, kr4⟩ := cellB k4
  obtain ⟨kq5, kr5⟩ := cellB k5
  go_wp2_with fail
  clear kq0 kr0 kq1 kr1 kq2 kr2 kq3 kr3 kq4 kr4 kq5 kr5
  refine wp_named ?_
  intro W5 hW0
  have hW : W5 = storeAll W4 b5 0 [.int .i64 (hi (p1 * (q2 * r0 - q0 * r2))), .int .u64 (lo (p1 * (q2 * r0 - q0 * r2)))] := hW0
  clear hW0
  replace k0 := kept hW (by omega) k0
  replace z0 := Nat.lt_of_lt_of_eq z0 (sized hW).symm
  replace k1 := kept hW (by omega) k1
  replace z1 := Nat.lt_of_lt_of_eq z1 (sized hW).symm
  replace k2 := kept hW (by omega) k2
  replace z2 := Nat.lt_of_lt_of_eq z2 (sized hW).symm
  replace k3 := kept hW (by omega) k3
  replace z3 := Nat.lt_of_lt_of_eq z3 (sized hW).symm
  replace k4 := kept hW (by omega) k4
  replace z4 := Nat.lt_of_lt_of_eq z4 (sized hW).symm
  replace k5 := made (cs := [.int .i64 0, .int .u64 0]) hW k5 rfl
  replace z5 := Nat.lt_of_lt_of_eq z5 (sized hW).symm
  replace hB := below hW hB (by omega)
  clear hW
  obtain ⟨kq0, kr0⟩ := cellB k0
  obtain ⟨kq1, kr1⟩ := cellB k1
  obtain ⟨kq2, kr2⟩ := cellB k2
  obtain ⟨kq3, kr3⟩ := cellB k3
  obtain ⟨kq4, kr4⟩ := cellB k4
  obtain ⟨kq5, kr5⟩ := cellB k5
  refine wp_calm1 13 (.cells #[.int .i64 0, .int .u64 0] 108) (some 9) (by kernel_rfl) (by kernel_rfl) rfl (fun o ho a w => by cases ho; go_simp) ?_
  intro C hC
  repeat (refine wpCalm_step (fun K hK => ?_); go_simp; first | (refine hK _ ?_; clear hK K) | (apply Exists.intro; refine ⟨fun wc hw => ?_, hK _ ?_⟩; (obtain ⟨hc, hf⟩ := bcell (hC wc hw); go_simp; first | exact rfl | exact limb_OfI _ (by assumption) _ | exact orient_minor _ _ _ _ (by assumption) (by assumption) (by assumption) (by assumption) _ | exact limb_Mul _ _ _); clear hK K))
  refine wpCalm_nil ?_
  clear hC C
  clear kq0 kr0 kq1 kr1 kq2 kr2 kq3 kr3 kq4 kr4 kq5 kr5
  intro W6 b6 hX hb hblk
  have o0_6 : w.heap.size < b6 := Nat.lt_of_lt_of_le z0 hb
  have o1_6 : w.heap.size + 1 < b6 := Nat.lt_of_lt_of_le z1 hb
  have o2_6 : w.heap.size + 1 + 1 < b6 := Nat.lt_of_lt_of_le z2 hb
  have o3_6 : w.heap.size + 1 + 1 + 1 < b6 := Nat.lt_of_lt_of_le z3 hb
  have o4_6 : b4 < b6 := Nat.lt_of_lt_of_le z4 hb
  have o5_6 : b5 < b6 := Nat.lt_of_lt_of_le z5 hb
  clear hb
  replace k0 := (hX.block _ z0).trans k0
  replace z0 := Nat.lt_of_lt_of_le z0 hX.size
  replace k1 := (hX.block _ z1).trans k1
  replace z1 := Nat.lt_of_lt_of_le z1 hX.size
  replace k2 := (hX.block _ z2).trans k2
  replace z2 := Nat.lt_of_lt_of_le z2 hX.size
  replace k3 := (hX.block _ z3).trans k3
  replace z3 := Nat.lt_of_lt_of_le z3 hX.size
  replace k4 := (hX.block _ z4).trans k4
  replace z4 := Nat.lt_of_lt_of_le z4 hX.size
  replace k5 := (hX.block _ z5).trans k5
  replace z5 := Nat.lt_of_lt_of_le z5 hX.size
  replace hB := after hB hX
  have k6 := hblk
  have z6 := (Array.getElem?_eq_some_iff.1 hblk).1
  clear hblk
  clear hX
  simp only [List.drop_succ_cons, List.drop_zero]
  obtain ⟨kq0, kr0⟩ := cellB k0
  obtain ⟨kq1, kr1⟩ := cellB k1
  obtain ⟨kq2, kr2⟩ := cellB k2
  obtain ⟨kq3, kr3⟩ := cellB k3
  obtain ⟨kq4, kr4⟩ := cellB k4
  obtain ⟨kq5, kr5⟩ := cellB k5
  obtain ⟨kq6, kr6⟩ := cellB k6
  go_wp2_with fail
  clear kq0 kr0 kq1 kr1 kq2 kr2 kq3 kr3 kq4 kr4 kq5 kr5 kq6 kr6
  refine wp_named ?_
  intro W7 hW0
  have hW : W7 = storeAll W6 b6 0 [.int .i64 (hi (p2 * (q0 * r1 - q1 * r0))), .int .u64 (lo (p2 * (q0 * r1 - q1 * r0)))] := hW0
  clear hW0
  replace k0 := kept hW (by omega) k0
  replace z0 := Nat.lt_of_lt_of_eq z0 (sized hW).symm
  replace k1 := kept hW (by omega) k1
  replace z1 := Nat.lt_of_lt_of_eq z1 (sized hW).symm
  replace k2 := kept hW (by omega) k2
  replace z2 := Nat.lt_of_lt_of_eq z2 (sized hW).symm
  replace k3 := kept hW (by omega) k3
  replace z3 := Nat.lt_of_lt_of_eq z3 (sized hW).symm
  replace k4 := kept hW (by omega) k4
  replace z4 := Nat.lt_of_lt_of_eq z4 (sized hW).symm
  replace k5 := kept hW (by omega) k5
  replace z5 := Nat.lt_of_lt_of_eq z5 (sized hW).symm
  replace k6 := made (cs := [.int .i64 0, .int .u64 0]) hW k6 rfl
  replace z6 := Nat.lt_of_lt_of_eq z6 (sized hW).symm
  replace hB := below hW hB (by omega)
  clear hW
  obtain ⟨kq0, kr0⟩ := cellB k0
  obtain ⟨kq1, kr1⟩ := cellB k1
  obtain ⟨kq2, kr2⟩ := cellB k2
  obtain ⟨kq3, kr3⟩ := cellB k3
  obtain ⟨kq4, kr4⟩ := cellB k4
  obtain ⟨kq5, kr5⟩ := cellB k5
  obtain ⟨kq6, kr6⟩ := cellB k6
  refine wp_calm0 5 (by kernel_rfl) (by kernel_rfl) ?_
  intro C hC
  repeat (refine wpCalm_step (fun K hK => ?_); go_simp; first | (refine hK _ ?_; clear hK K) | (apply Exists.intro; refine ⟨fun wc hw => ?_, hK _ ?_⟩; (obtain ⟨hc, hf⟩ := bcell (hC wc hw); go_simp; first | exact rfl | exact limb_Add _ _ _); clear hK K))
  refine wpCalm_nil ?_
  clear hC C
  clear kq0 kr0 kq1 kr1 kq2 kr2 kq3 kr3 kq4 kr4 kq5 kr5 kq6 kr6
  intro W8 hX
  replace k0 := (hX.block _ z0).trans k0
  replace z0 := Nat.lt_of_lt_of_le z0 hX.size
  replace k1 := (hX.block _ z1).trans k1
  replace z1 := Nat.lt_of_lt_of_le z1 hX.size
  replace k2 := (hX.block _ z2).trans k2
  replace z2 := Nat.lt_of_lt_of_le z2 hX.size
  replace k3 := (hX.block _ z3).trans k3
  replace z3 := Nat.lt_of_lt_of_le z3 hX.size
  replace k4 := (hX.block _ z4).trans k4
  replace z4 := Nat.lt_of_lt_of_le z4 hX.size
  replace k5 := (hX.block _ z5).trans k5
  replace z5 := Nat.lt_of_lt_of_le z5 hX.size
  replace k6 := (hX.block _ z6).trans k6
  replace z6 := Nat.lt_of_lt_of_le z6 hX.size
  replace hB := after hB hX
  clear hX
  simp only [List.drop_succ_cons, List.drop_zero]
  obtain ⟨kq3, kr3⟩ := cellB k3
  go_wp2
  refine bodyPost_ret (v := .agg #[.int .i64 (hi (p0 * (q1 * r2 - q2 * r1) + p1 * (q2 * r0 - q0 * r2) + p2 * (q0 * r1 - q1 * r0))), .int .u64 (lo (p0 * (q1 * r2 - q2 * r1) + p1 * (q2 * r0 - q0 * r2) + p2 * (q0 * r1 - q1 * r0)))]) (by simp [results, Try.results72, go_sem, kq3]) rfl ⟨rfl, by go_grown⟩

theorem orient_three (p0 p1 p2 q0 q1 q2 r0 r1 r2 : Int) (h1 : I64 p0) (h2 : I64 p1) (h3 : I64 p2) (h4 : I64 q0) (h5 : I64 q1) (h6 : I64 q2) (h7 : I64 r0) (h8 : I64 r1) (h9 : I64 r2) (w : World) :
    Calls Try.prog 72 #[.agg #[.int .i64 p0, .int .i64 p1, .int .i64 p2], .agg #[.int .i64 q0, .int .i64 q1, .int .i64 q2], .agg #[.int .i64 r0, .int .i64 r1, .int .i64 r2]] w fun e w' =>
      e = .returned (.agg #[.int .i64 (hi (det3 p0 p1 p2 q0 q1 q2 r0 r1 r2)), .int .u64 (lo (det3 p0 p1 p2 q0 q1 q2 r0 r1 r2))]) ∧ Below w.heap.size w w' :=
  orient_three0 p0 p1 p2 q0 q1 q2 r0 r1 r2 h1 h2 h3 h4 h5 h6 h7 h8 h9 w
end Go.Proofs.Ytdglijdiiggdgaa
