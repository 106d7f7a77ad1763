/- What orient's filter answers. -/
import Derived.Test.YtdglijdiiggdgaaOr2
import Derived.Test.YtdglijdiiggdgaaFlo
import Derived.Laws.FloatArith
namespace Go.Proofs.Ytdglijdiiggdgaa
open Go.RowKit

theorem abs_bits (a : Nat) (ha : a < 18446744073709551616) : (bits BinOp.andNot IntKind.u64 (a : Int) 9223372036854775808).toNat = a % 2 ^ 63 := by
  have h := u64_andNot_nat a 9223372036854775808 ha (by decide)
  rw [show ((9223372036854775808 : Nat) : Int) = 9223372036854775808 from rfl] at h
  rw [h, Int.toNat_natCast, show (18446744073709551615 - 9223372036854775808 : Nat) = 2 ^ 63 - 1 by decide, Nat.and_two_pow_sub_one_eq_mod]
set_option maxHeartbeats 400000 in
theorem abs_any (a : Nat) (w : World) (ha : a < 18446744073709551616) :
    Calls Try.prog 70 #[.float .f64 a] w fun e w' => e = .returned (.float .f64 (a % 2 ^ 63)) ∧ w = w' := by
  have e1 : ∀ w : World, (callFunc 78 #[.float .f64 a]).run Try.prog w = .ok (.value (.int .u64 a)) w := fun w => by
    rw [run_callFunc_extern Try.func78 (by kernel_rfl) (by kernel_rfl) (by kernel_rfl) (e := Extern.MathFloatBits.float64bits) (by kernel_rfl)]
    rfl
  have e2 : ∀ (n : Int) (w : World), (callFunc 77 #[.int .u64 n]).run Try.prog w = .ok (.value (.float .f64 n.toNat)) w := fun n w => by
    rw [run_callFunc_extern Try.func77 (by kernel_rfl) (by kernel_rfl) (by kernel_rfl) (e := Extern.MathFloatBits.float64frombits) (by kernel_rfl)]
    rfl
  go_enter Try.func70, Try.ntmps70
  go_wp2
  go_ret
  rw [abs_bits a ha]
  exact ⟨rfl, rfl⟩

set_option maxRecDepth 100000 in
set_option maxHeartbeats 400000 in
theorem filter_one (a b c : Int) (w : World) :
    Calls Try.prog 69 #[.agg #[.int .i64 a, .int .i64 b, .int .i64 c]] w fun e w' =>
      e = .returned (.tuple #[.float .f64 (floatOfInt .f64 a), .float .f64 (floatOfInt .f64 b), .float .f64 (floatOfInt .f64 c)]) ∧ Below w.heap.size w w' := by
  go_enter Try.func69, Try.ntmps69
  go_wp2_with fail
  refine wp_named ?_
  intro W1 hW
  have k0 : W1.heap[w.heap.size]? = some (.cells #[.int .i64 a, .int .i64 b, .int .i64 c] 73 (0, 0)) := by rw [hW]; exact heap_at (by simp <;> omega)
  have z0 : w.heap.size < W1.heap.size := by rw [hW]; simp
  have hB : Below w.heap.size w W1 := by rw [hW]; go_grown
  clear hW
  obtain ⟨kq0, kr0⟩ := cellB k0
  refine wp_calm0 12 (by kernel_rfl) (by kernel_rfl) ?_
  intro C hC
  repeat (refine wpCalm_step (fun K hK => ?_); go_simp; first | (refine hK _ ?_; clear hK K) | (apply Exists.intro; refine ⟨fun wc hw => ?_, hK _ ?_⟩; (obtain ⟨hc, hf⟩ := bcell (hC wc hw); go_simp; first | exact rfl); clear hK K))
  refine wpCalm_nil ?_
  intro W2 hX
  have hB2 := after hB hX
  simp only [List.drop_succ_cons, List.drop_zero]
  go_wp2
  go_ret3
  exact ⟨rfl, hB2⟩

theorem unary_neg_float (k : FloatKind) (b : Nat) : Op.unary .neg (.float k b) = pure (.float k (Op.negFloat k b)) := rfl
attribute [go_sem] unary_neg_float

theorem ret_int {k : IntKind} {a b : Int} (h : a = b) : Ending.returned (.int k a) = .returned (.int k b) := by rw [h]
/-- The filter's answer out of the two words that it compares. -/
def filR (s e : Nat) : Int := if (FloatKind.f64.format.order s e == some .gt) = true then 1 else if (FloatKind.f64.format.order s (Op.negFloat .f64 e) == some .lt) = true then -1 else 0

set_option maxRecDepth 100000 in
set_option maxHeartbeats 2000000 in
theorem filter_walk (a b c : Int × Int × Int) (px py pz qx qy qz rx ry rz u1 v1 u2 v2 u3 v3 d1 m1 d2 m2 s1 d3 m3 s2 a1 f1 a2 f2 g1 a3 f3 g2 g3 : Nat)
    (w_px : px = floatOfInt .f64 a.1) (w_py : py = floatOfInt .f64 a.2.1) (w_pz : pz = floatOfInt .f64 a.2.2)
    (w_qx : qx = floatOfInt .f64 b.1) (w_qy : qy = floatOfInt .f64 b.2.1) (w_qz : qz = floatOfInt .f64 b.2.2)
    (w_rx : rx = floatOfInt .f64 c.1) (w_ry : ry = floatOfInt .f64 c.2.1) (w_rz : rz = floatOfInt .f64 c.2.2)
    (e_u1 : floatBits .mul .f64 qy rz = some u1)
    (e_v1 : floatBits .mul .f64 qz ry = some v1)
    (e_u2 : floatBits .mul .f64 qz rx = some u2)
    (e_v2 : floatBits .mul .f64 qx rz = some v2)
    (e_u3 : floatBits .mul .f64 qx ry = some u3)
    (e_v3 : floatBits .mul .f64 qy rx = some v3)
    (e_d1 : floatBits .sub .f64 u1 v1 = some d1)
    (e_m1 : floatBits .mul .f64 px d1 = some m1)
    (e_d2 : floatBits .sub .f64 u2 v2 = some d2)
    (e_m2 : floatBits .mul .f64 py d2 = some m2)
    (e_s1 : floatBits .add .f64 m1 m2 = some s1)
    (e_d3 : floatBits .sub .f64 u3 v3 = some d3)
    (e_m3 : floatBits .mul .f64 pz d3 = some m3)
    (e_s2 : floatBits .add .f64 s1 m3 = some s2)
    (e_a1 : floatBits .add .f64 (u1 % 2 ^ 63) (v1 % 2 ^ 63) = some a1)
    (e_f1 : floatBits .mul .f64 (px % 2 ^ 63) a1 = some f1)
    (e_a2 : floatBits .add .f64 (u2 % 2 ^ 63) (v2 % 2 ^ 63) = some a2)
    (e_f2 : floatBits .mul .f64 (py % 2 ^ 63) a2 = some f2)
    (e_g1 : floatBits .add .f64 f1 f2 = some g1)
    (e_a3 : floatBits .add .f64 (u3 % 2 ^ 63) (v3 % 2 ^ 63) = some a3)
    (e_f3 : floatBits .mul .f64 (pz % 2 ^ 63) a3 = some f3)
    (e_g2 : floatBits .add .f64 g1 f3 = some g2)
    (e_g3 : floatBits .mul .f64 g2 4391009636686233600 = some g3)
    (b_px : px < 18446744073709551616) (b_py : py < 18446744073709551616) (b_pz : pz < 18446744073709551616) (b_u1 : u1 < 18446744073709551616) (b_v1 : v1 < 18446744073709551616) (b_u2 : u2 < 18446744073709551616) (b_v2 : v2 < 18446744073709551616) (b_u3 : u3 < 18446744073709551616) (b_v3 : v3 < 18446744073709551616) (w : World) :
    Calls Try.prog 60 #[.agg #[.int .i64 a.1, .int .i64 a.2.1, .int .i64 a.2.2], .agg #[.int .i64 b.1, .int .i64 b.2.1, .int .i64 b.2.2], .agg #[.int .i64 c.1, .int .i64 c.2.1, .int .i64 c.2.2]] w fun e w' =>
      e = .returned (.int .i64 (filR s2 g3)) ∧ Below w.heap.size w w' := by
  obtain ⟨a1', a2', a3'⟩ := a
  obtain ⟨b1', b2', b3'⟩ := b
  obtain ⟨c1', c2', c3'⟩ := c
  have o1 := filter_one a1' a2' a3'
  have o2 := filter_one b1' b2' b3'
  have o3 := filter_one c1' c2' c3'
  dsimp only at w_px w_py w_pz w_qx w_qy w_qz w_rx w_ry w_rz ⊢
  rw [← w_px, ← w_py, ← w_pz] at o1
  rw [← w_qx, ← w_qy, ← w_qz] at o2
  rw [← w_rx, ← w_ry, ← w_rz] at o3
  have O1 := Lib.hid o1; have O2 := Lib.hid o2; have O3 := Lib.hid o3
  clear o1 o2 o3 w_px w_py w_pz w_qx w_qy w_qz w_rx w_ry w_rz
  have r_u1 : ∀ W : World, (binOp .mul 115 (.float .f64 qy) (.float .f64 rz)).run Try.prog W = .ok (.float .f64 u1) W := fun W => run_float_arith W _ _ _ _ _ _ e_u1
  have r_v1 : ∀ W : World, (binOp .mul 115 (.float .f64 qz) (.float .f64 ry)).run Try.prog W = .ok (.float .f64 v1) W := fun W => run_float_arith W _ _ _ _ _ _ e_v1
  have r_u2 : ∀ W : World, (binOp .mul 115 (.float .f64 qz) (.float .f64 rx)).run Try.prog W = .ok (.float .f64 u2) W := fun W => run_float_arith W _ _ _ _ _ _ e_u2
  have r_v2 : ∀ W : World, (binOp .mul 115 (.float .f64 qx) (.float .f64 rz)).run Try.prog W = .ok (.float .f64 v2) W := fun W => run_float_arith W _ _ _ _ _ _ e_v2
  have r_u3 : ∀ W : World, (binOp .mul 115 (.float .f64 qx) (.float .f64 ry)).run Try.prog W = .ok (.float .f64 u3) W := fun W => run_float_arith W _ _ _ _ _ _ e_u3
  have r_v3 : ∀ W : World, (binOp .mul 115 (.float .f64 qy) (.float .f64 rx)).run Try.prog W = .ok (.float .f64 v3) W := fun W => run_float_arith W _ _ _ _ _ _ e_v3
  have r_d1 : ∀ W : World, (binOp .sub 115 (.float .f64 u1) (.float .f64 v1)).run Try.prog W = .ok (.float .f64 d1) W := fun W => run_float_arith W _ _ _ _ _ _ e_d1
  have r_m1 : ∀ W : World, (binOp .mul 115 (.float .f64 px) (.float .f64 d1)).run Try.prog W = .ok (.float .f64 m1) W := fun W => run_float_arith W _ _ _ _ _ _ e_m1
  have r_d2 : ∀ W : World, (binOp .sub 115 (.float .f64 u2) (.float .f64 v2)).run Try.prog W = .ok (.float .f64 d2) W := fun W => run_float_arith W _ _ _ _ _ _ e_d2
  have r_m2 : ∀ W : World, (binOp .mul 115 (.float .f64 py) (.float .f64 d2)).run Try.prog W = .ok (.float .f64 m2) W := fun W => run_float_arith W _ _ _ _ _ _ e_m2
  have r_s1 : ∀ W : World, (binOp .add 115 (.float .f64 m1) (.float .f64 m2)).run Try.prog W = .ok (.float .f64 s1) W := fun W => run_float_arith W _ _ _ _ _ _ e_s1
  have r_d3 : ∀ W : World, (binOp .sub 115 (.float .f64 u3) (.float .f64 v3)).run Try.prog W = .ok (.float .f64 d3) W := fun W => run_float_arith W _ _ _ _ _ _ e_d3
  have r_m3 : ∀ W : World, (binOp .mul 115 (.float .f64 pz) (.float .f64 d3)).run Try.prog W = .ok (.float .f64 m3) W := fun W => run_float_arith W _ _ _ _ _ _ e_m3
  have r_s2 : ∀ W : World, (binOp .add 115 (.float .f64 s1) (.float .f64 m3)).run Try.prog W = .ok (.float .f64 s2) W := fun W => run_float_arith W _ _ _ _ _ _ e_s2
  have r_a1 : ∀ W : World, (binOp .add 115 (.float .f64 (u1 % 2 ^ 63)) (.float .f64 (v1 % 2 ^ 63))).run Try.prog W = .ok (.float .f64 a1) W := fun W => run_float_arith W _ _ _ _ _ _ e_a1
  have r_f1 : ∀ W : World, (binOp .mul 115 (.float .f64 (px % 2 ^ 63)) (.float .f64 a1)).run Try.prog W = .ok (.float .f64 f1) W := fun W => run_float_arith W _ _ _ _ _ _ e_f1
  have r_a2 : ∀ W : World, (binOp .add 115 (.float .f64 (u2 % 2 ^ 63)) (.float .f64 (v2 % 2 ^ 63))).run Try.prog W = .ok (.float .f64 a2) W := fun W => run_float_arith W _ _ _ _ _ _ e_a2
  have r_f2 : ∀ W : World, (binOp .mul 115 (.float .f64 (py % 2 ^ 63)) (.float .f64 a2)).run Try.prog W = .ok (.float .f64 f2) W := fun W => run_float_arith W _ _ _ _ _ _ e_f2
  have r_g1 : ∀ W : World, (binOp .add 115 (.float .f64 f1) (.float .f64 f2)).run Try.prog W = .ok (.float .f64 g1) W := fun W => run_float_arith W _ _ _ _ _ _ e_g1
  have r_a3 : ∀ W : World, (binOp .add 115 (.float .f64 (u3 % 2 ^ 63)) (.float .f64 (v3 % 2 ^ 63))).run Try.prog W = .ok (.float .f64 a3) W := fun W => run_float_arith W _ _ _ _ _ _ e_a3
  have r_f3 : ∀ W : World, (binOp .mul 115 (.float .f64 (pz % 2 ^ 63)) (.float .f64 a3)).run Try.prog W = .ok (.float .f64 f3) W := fun W => run_float_arith W _ _ _ _ _ _ e_f3
  have r_g2 : ∀ W : World, (binOp .add 115 (.float .f64 g1) (.float .f64 f3)).run Try.prog W = .ok (.float .f64 g2) W := fun W => run_float_arith W _ _ _ _ _ _ e_g2
  have r_g3 : ∀ W : World, (binOp .mul 115 (.float .f64 g2) (.float .f64 4391009636686233600)).run Try.prog W = .ok (.float .f64 g3) W := fun W => run_float_arith W _ _ _ _ _ _ e_g3
  clear e_u1 e_v1 e_u2 e_v2 e_u3 e_v3 e_d1 e_m1 e_d2 e_m2 e_s1 e_d3 e_m3 e_s2 e_a1 e_f1 e_a2 e_f2 e_g1 e_a3 e_f3 e_g2 e_g3
  go_enter Try.func60, Try.ntmps60
  go_wp2_with fail
  first | refine wp_named ?_ | refine calls_named ?_
  intro W1 hW
  have k0 : W1.heap[w.heap.size]? = some (.cells #[.int .i64 a1', .int .i64 a2', .int .i64 a3'] 73 (0, 0)) := by rw [hW]; repeat (first | exact heap_at (by simp <;> omega) | rw [heap_old (by simp <;> omega)])
  have z0 : w.heap.size < W1.heap.size := by rw [hW]; simp <;> omega
  have k1 : W1.heap[w.heap.size + 1]? = some (.cells #[.int .i64 b1', .int .i64 b2', .int .i64 b3'] 73 (0, 0)) := by rw [hW]; repeat (first | exact heap_at (by simp <;> omega) | rw [heap_old (by simp <;> omega)])
  have z1 : w.heap.size + 1 < W1.heap.size := by rw [hW]; simp <;> omega
  have k2 : W1.heap[w.heap.size + 1 + 1]? = some (.cells #[.int .i64 c1', .int .i64 c2', .int .i64 c3'] 73 (0, 0)) := by rw [hW]; repeat (first | exact heap_at (by simp <;> omega) | rw [heap_old (by simp <;> omega)])
  have z2 : w.heap.size + 1 + 1 < W1.heap.size := by rw [hW]; simp <;> omega
  have hB : Below w.heap.size w W1 := by rw [hW]; go_grown
  clear hW
  refine ((O1.out _)).mono ?_; rintro e W2 ⟨rfl, hX⟩
  replace k0 := (hX.block _ z0).trans k0
  replace z0 := Nat.lt_of_lt_of_le z0 hX.size
  replace k1 := (hX.block _ z1).trans k1
  replace z1 := Nat.lt_of_lt_of_le z1 hX.size
  replace k2 := (hX.block _ z2).trans k2
  replace z2 := Nat.lt_of_lt_of_le z2 hX.size
  replace hB := after hB hX
  clear hX
  obtain ⟨kq1, kr1⟩ := cellB k1
  go_wp2_with fail
  clear kq1 kr1
  refine ((O2.out _)).mono ?_; rintro e W3 ⟨rfl, hX⟩
  replace k0 := (hX.block _ z0).trans k0
  replace z0 := Nat.lt_of_lt_of_le z0 hX.size
  replace k1 := (hX.block _ z1).trans k1
  replace z1 := Nat.lt_of_lt_of_le z1 hX.size
  replace k2 := (hX.block _ z2).trans k2
  replace z2 := Nat.lt_of_lt_of_le z2 hX.size
  replace hB := after hB hX
  clear hX
  obtain ⟨kq2, kr2⟩ := cellB k2
  go_wp2_with fail
  clear kq2 kr2
  refine ((O3.out _)).mono ?_; rintro e W4 ⟨rfl, hX⟩
  replace k0 := (hX.block _ z0).trans k0
  replace z0 := Nat.lt_of_lt_of_le z0 hX.size
  replace k1 := (hX.block _ z1).trans k1
  replace z1 := Nat.lt_of_lt_of_le z1 hX.size
  replace k2 := (hX.block _ z2).trans k2
  replace z2 := Nat.lt_of_lt_of_le z2 hX.size
  replace hB := after hB hX
  clear hX
  clear O1 O2 O3 k0 z0 k1 z1 k2 z2
  go_wp2_with fail
  refine (abs_any px _ b_px).mono ?_; rintro e W ⟨rfl, rfl⟩
  go_wp2_with fail
  refine (abs_any u1 _ b_u1).mono ?_; rintro e W ⟨rfl, rfl⟩
  go_wp2_with fail
  refine (abs_any v1 _ b_v1).mono ?_; rintro e W ⟨rfl, rfl⟩
  go_wp2_with fail
  refine (abs_any py _ b_py).mono ?_; rintro e W ⟨rfl, rfl⟩
  go_wp2_with fail
  refine (abs_any u2 _ b_u2).mono ?_; rintro e W ⟨rfl, rfl⟩
  go_wp2_with fail
  refine (abs_any v2 _ b_v2).mono ?_; rintro e W ⟨rfl, rfl⟩
  go_wp2_with fail
  refine (abs_any pz _ b_pz).mono ?_; rintro e W ⟨rfl, rfl⟩
  go_wp2_with fail
  refine (abs_any u3 _ b_u3).mono ?_; rintro e W ⟨rfl, rfl⟩
  go_wp2_with fail
  refine (abs_any v3 _ b_v3).mono ?_; rintro e W ⟨rfl, rfl⟩
  have HB := Lib.hid hB
  clear hB
  go_wp2
  · have h1 : (FloatKind.f64.format.order s2 g3 == some .gt) = true := by assumption
    go_ret
    exact ⟨ret_int (by unfold filR; rw [if_pos h1]), HB.out⟩
  · have h1 : (FloatKind.f64.format.order s2 g3 == some .gt) = false := by assumption
    have h2 : (FloatKind.f64.format.order s2 (Op.negFloat .f64 g3) == some .lt) = true := by assumption
    go_ret
    exact ⟨ret_int (by unfold filR; rw [h1, if_neg (by decide), if_pos h2]), HB.out⟩
  · have h1 : (FloatKind.f64.format.order s2 g3 == some .gt) = false := by assumption
    have h2 : (FloatKind.f64.format.order s2 (Op.negFloat .f64 g3) == some .lt) = false := by assumption
    go_ret
    exact ⟨ret_int (by unfold filR; rw [h1, if_neg (by decide), h2, if_neg (by decide)]), HB.out⟩
end Go.Proofs.Ytdglijdiiggdgaa
