import Derived.Test.YtdglijdiiggdgaaNeq
namespace Go.Proofs.Ytdglijdiiggdgaa
open Go.RowKit

theorem mulN {x y : Int} {A B : Nat} (hx : x.natAbs ≤ A) (hy : y.natAbs ≤ B) : (x * y).natAbs ≤ A * B := by
  rw [Int.natAbs_mul]; exact Nat.mul_le_mul hx hy
theorem det3_128 {p0 p1 p2 q0 q1 q2 r0 r1 r2 : Int} (h1 : p0.natAbs ≤ 2147483648) (h2 : p1.natAbs ≤ 2147483648) (h3 : p2.natAbs ≤ 2147483648) (h4 : q0.natAbs ≤ 2147483648) (h5 : q1.natAbs ≤ 2147483648) (h6 : q2.natAbs ≤ 2147483648) (h7 : r0.natAbs ≤ 2147483648) (h8 : r1.natAbs ≤ 2147483648) (h9 : r2.natAbs ≤ 2147483648) :
    In128 (det3 p0 p1 p2 q0 q1 q2 r0 r1 r2) := by
  have k1 := mulN h5 h9; have k2 := mulN h6 h8; have k3 := mulN h6 h7; have k4 := mulN h4 h9; have k5 := mulN h4 h8; have k6 := mulN h5 h7
  have s1 : (q1 * r2 - q2 * r1).natAbs ≤ 9223372036854775808 := by omega
  have s2 : (q2 * r0 - q0 * r2).natAbs ≤ 9223372036854775808 := by omega
  have s3 : (q0 * r1 - q1 * r0).natAbs ≤ 9223372036854775808 := by omega
  have t1 := mulN h1 s1; have t2 := mulN h2 s2; have t3 := mulN h3 s3
  unfold det3 In128
  omega
def det4 (a0 a1 a2 b0 b1 b2 c0 c1 c2 d0 d1 d2 : Int) : Int := det3 (a0 - d0) (a1 - d1) (a2 - d2) (b0 - d0) (b1 - d1) (b2 - d2) (c0 - d0) (c1 - d1) (c2 - d2)
theorem sub31 {a b : Int} (ha : Co a) (hb : Co b) : (a - b).natAbs ≤ 2147483648 := by unfold Co at ha hb; omega
set_option maxRecDepth 100000 in
set_option maxHeartbeats 2000000 in
theorem sign_any (a0 a1 a2 b0 b1 b2 c0 c1 c2 d0 d1 d2 : Int) (sm : Nat → Int) (ok : Nat → Bool)
    (ha : Co a0 ∧ Co a1 ∧ Co a2) (hb : Co b0 ∧ Co b1 ∧ Co b2) (hc : Co c0 ∧ Co c1 ∧ Co c2) (hd : Co d0 ∧ Co d1 ∧ Co d2)
    (H7 : Hid (∀ m : Nat, m < 85 → det4 a0 a1 a2 b0 b1 b2 c0 c1 c2 d0 d1 d2 = 0 → ∀ w, Calls Try.prog 64 #[.agg #[.int .i64 a0, .int .i64 a1, .int .i64 a2, .int .i64 b0, .int .i64 b1, .int .i64 b2, .int .i64 c0, .int .i64 c1, .int .i64 c2, .int .i64 d0, .int .i64 d1, .int .i64 d2], .int .i64 m] w fun e w' => e = .returned (.tuple #[.int .i64 (sm m), .bool (ok m)]) ∧ Below w.heap.size w w'))
    (w : World) :
    Calls Try.prog 52 #[.agg #[.int .i64 a0, .int .i64 a1, .int .i64 a2, .int .i64 b0, .int .i64 b1, .int .i64 b2, .int .i64 c0, .int .i64 c1, .int .i64 c2, .int .i64 d0, .int .i64 d1, .int .i64 d2]] w fun e w' =>
      e = .returned (.int .i64 (if det4 a0 a1 a2 b0 b1 b2 c0 c1 c2 d0 d1 d2 = 0 then firstOf sm ok 85 0 else (det4 a0 a1 a2 b0 b1 b2 c0 c1 c2 d0 d1 d2).sign)) ∧ Below w.heap.size w w' := by
  obtain ⟨f, hf, HF⟩ := filter_any (a0 - d0, a1 - d1, a2 - d2) (b0 - d0, b1 - d1, b2 - d2) (c0 - d0, c1 - d1, c2 - d2)
    ⟨sub31 ha.1 hd.1, sub31 ha.2.1 hd.2.1, sub31 ha.2.2 hd.2.2⟩ ⟨sub31 hb.1 hd.1, sub31 hb.2.1 hd.2.1, sub31 hb.2.2 hd.2.2⟩ ⟨sub31 hc.1 hd.1, sub31 hc.2.1 hd.2.1, sub31 hc.2.2 hd.2.2⟩
  have h128 : In128 (det4 a0 a1 a2 b0 b1 b2 c0 c1 c2 d0 d1 d2) := det3_128 (sub31 ha.1 hd.1) (sub31 ha.2.1 hd.2.1) (sub31 ha.2.2 hd.2.2) (sub31 hb.1 hd.1) (sub31 hb.2.1 hd.2.1) (sub31 hb.2.2 hd.2.2) (sub31 hc.1 hd.1) (sub31 hc.2.1 hd.2.1) (sub31 hc.2.2 hd.2.2)
  have main := sign_walk a0 a1 a2 b0 b1 b2 c0 c1 c2 d0 d1 d2 (.agg #[.int .i64 (a0 - d0), .int .i64 (a1 - d1), .int .i64 (a2 - d2)]) (.agg #[.int .i64 (b0 - d0), .int .i64 (b1 - d1), .int .i64 (b2 - d2)]) (.agg #[.int .i64 (c0 - d0), .int .i64 (c1 - d1), .int .i64 (c2 - d2)])
    (.agg #[.int .i64 (hi (det4 a0 a1 a2 b0 b1 b2 c0 c1 c2 d0 d1 d2)), .int .u64 (lo (det4 a0 a1 a2 b0 b1 b2 c0 c1 c2 d0 d1 d2))]) f (det4 a0 a1 a2 b0 b1 b2 c0 c1 c2 d0 d1 d2).sign sm ok
    (Lib.hid (orient_less a0 a1 a2 d0 d1 d2 ha.1 ha.2.1 ha.2.2 hd.1 hd.2.1 hd.2.2)) (Lib.hid (orient_less b0 b1 b2 d0 d1 d2 hb.1 hb.2.1 hb.2.2 hd.1 hd.2.1 hd.2.2)) (Lib.hid (orient_less c0 c1 c2 d0 d1 d2 hc.1 hc.2.1 hc.2.2 hd.1 hd.2.1 hd.2.2))
    (Lib.hid HF) (Lib.hid (orient_det a0 a1 a2 b0 b1 b2 c0 c1 c2 d0 d1 d2 ha.1 ha.2.1 ha.2.2 hb.1 hb.2.1 hb.2.2 hc.1 hc.2.1 hc.2.2 hd.1 hd.2.1 hd.2.2)) (Lib.hid (limb_sign _ h128))
    (Lib.hid (fun m hm _ hs => H7.out m hm (Int.sign_eq_zero_iff_zero.1 hs))) w
  have e : sgnR f (det4 a0 a1 a2 b0 b1 b2 c0 c1 c2 d0 d1 d2).sign sm ok = (if det4 a0 a1 a2 b0 b1 b2 c0 c1 c2 d0 d1 d2 = 0 then firstOf sm ok 85 0 else (det4 a0 a1 a2 b0 b1 b2 c0 c1 c2 d0 d1 d2).sign) := by
    have hf' : f = 0 ∨ f = (det4 a0 a1 a2 b0 b1 b2 c0 c1 c2 d0 d1 d2).sign ∧ f ≠ 0 := hf
    unfold sgnR
    rcases hf' with h | ⟨h, h'⟩
    · rw [if_pos h]
      simp only [Int.sign_eq_zero_iff_zero]
    · rw [if_neg h']
      have : det4 a0 a1 a2 b0 b1 b2 c0 c1 c2 d0 d1 d2 ≠ 0 := fun e => h' (by rw [h, e]; rfl)
      rw [if_neg this, h]
  rw [e] at main
  exact main
end Go.Proofs.Ytdglijdiiggdgaa
