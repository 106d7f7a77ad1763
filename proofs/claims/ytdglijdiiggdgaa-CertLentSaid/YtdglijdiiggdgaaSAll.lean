import Derived.Test.YtdglijdiiggdgaaMov
namespace Go.Proofs.Ytdglijdiiggdgaa
open Go.RowKit Geo
theorem first_same (s s' : Nat → Int) (ok : Nat → Bool) (h : ∀ k, ok k = true → s k = s' k) : ∀ n k, firstOf s ok n k = firstG s' ok n k
  | 0, _ => rfl
  | n + 1, k => by
    unfold firstOf firstG
    by_cases h1 : ok k = true
    · rw [h k h1, first_same s s' ok h n (k + 1)]
    · rw [if_neg (fun h2 => h1 h2.1), if_neg (fun h2 => h1 h2.1), first_same s s' ok h n (k + 1)]
theorem det_det4 (a0 a1 a2 b0 b1 b2 c0 c1 c2 d0 d1 d2 : Int) : det ⟨a0, a1, a2, 1⟩ ⟨b0, b1, b2, 1⟩ ⟨c0, c1, c2, 1⟩ ⟨d0, d1, d2, 1⟩ = det4 a0 a1 a2 b0 b1 b2 c0 c1 c2 d0 d1 d2 := by
  unfold det4 det3 det d3; grind
def ptOf (X Y Z : Nat → Int) (i : Nat) : Pt := ⟨X i, Y i, Z i⟩
theorem sg4_of_det (p q r t : Pt) (h : det4 p.x p.y p.z q.x q.y q.z r.x r.y r.z t.x t.y t.z ≠ 0) : sg4 p q r t = (det4 p.x p.y p.z q.x q.y q.z r.x r.y r.z t.x t.y t.z).sign := by
  have e : dm p q r t 0 0 0 = (det4 p.x p.y p.z q.x q.y q.z r.x r.y r.z t.x t.y t.z).sign := by
    unfold dm
    rw [← det_det4]; rfl
  have e0 : dm p q r t 0 0 0 ≠ 0 := by rw [e]; exact fun h2 => h (Int.sign_eq_zero_iff_zero.1 h2)
  unfold sg4
  rw [fz, if_neg e0, e]
set_option maxHeartbeats 1000000 in
theorem sign_sg4 (X Y Z : Nat → Int) (hco : ∀ s, s < 4 → Co (X s) ∧ Co (Y s) ∧ Co (Z s)) (w : World) :
    Calls Try.prog 52 #[.agg #[.int .i64 (X 0), .int .i64 (Y 0), .int .i64 (Z 0), .int .i64 (X 1), .int .i64 (Y 1), .int .i64 (Z 1), .int .i64 (X 2), .int .i64 (Y 2), .int .i64 (Z 2), .int .i64 (X 3), .int .i64 (Y 3), .int .i64 (Z 3)]] w fun e w' =>
      e = .returned (.int .i64 (sg4 (ptOf X Y Z 0) (ptOf X Y Z 1) (ptOf X Y Z 2) (ptOf X Y Z 3))) ∧ Below w.heap.size w w' := by
  have h := sign_any (X 0) (Y 0) (Z 0) (X 1) (Y 1) (Z 1) (X 2) (Y 2) (Z 2) (X 3) (Y 3) (Z 3) (fun m => if good m 12 = true then smV (ptOf X Y Z 0) (ptOf X Y Z 1) (ptOf X Y Z 2) (ptOf X Y Z 3) m else 0) (fun m => good m 12)
    (hco 0 (by decide)) (hco 1 (by decide)) (hco 2 (by decide)) (hco 3 (by decide)) (Lib.hid (fun m hm _ w => orient_moved X Y Z m hm (good m 12) _ (Lib.hid rfl) (Lib.hid (fun hg => by rw [if_pos hg]; rfl)) (Lib.hid (fun hg => by rw [if_neg (by rw [hg]; decide)])) (Lib.hid hco) w)) w
  have e : (if det4 (X 0) (Y 0) (Z 0) (X 1) (Y 1) (Z 1) (X 2) (Y 2) (Z 2) (X 3) (Y 3) (Z 3) = 0 then firstOf (fun m => if good m 12 = true then smV (ptOf X Y Z 0) (ptOf X Y Z 1) (ptOf X Y Z 2) (ptOf X Y Z 3) m else 0) (fun m => good m 12) 85 0 else (det4 (X 0) (Y 0) (Z 0) (X 1) (Y 1) (Z 1) (X 2) (Y 2) (Z 2) (X 3) (Y 3) (Z 3)).sign) = sg4 (ptOf X Y Z 0) (ptOf X Y Z 1) (ptOf X Y Z 2) (ptOf X Y Z 3) := by
    by_cases h0 : det4 (X 0) (Y 0) (Z 0) (X 1) (Y 1) (Z 1) (X 2) (Y 2) (Z 2) (X 3) (Y 3) (Z 3) = 0
    · rw [if_pos h0, first_same _ (smV (ptOf X Y Z 0) (ptOf X Y Z 1) (ptOf X Y Z 2) (ptOf X Y Z 3)) _ (fun k hk => if_pos hk), first_sg4]
    · rw [if_neg h0]; exact (sg4_of_det (ptOf X Y Z 0) (ptOf X Y Z 1) (ptOf X Y Z 2) (ptOf X Y Z 3) h0).symm
  rw [e] at h
  exact h
end Go.Proofs.Ytdglijdiiggdgaa
