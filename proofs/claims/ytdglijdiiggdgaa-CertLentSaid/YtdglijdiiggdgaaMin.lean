import Derived.Test.YtdglijdiiggdgaaRing
namespace Go.Proofs.Ytdglijdiiggdgaa
open Go.RowKit Go.Maps

def leastTo (zs : List Int) : Nat → Int
  | 0 => zs.getD 0 0
  | k + 1 => min (leastTo zs k) (zs.getD (k + 1) 0)
theorem leastTo_le (zs : List Int) : ∀ k j, j ≤ k → leastTo zs k ≤ zs.getD j 0
  | 0, j, h => by have : j = 0 := by omega
                  subst this; exact Int.le_refl _
  | k + 1, j, h => by
    unfold leastTo
    rcases Nat.lt_or_ge j (k + 1) with h1 | h1
    · have := leastTo_le zs k j (by omega); omega
    · have : j = k + 1 := by omega
      subst this; omega
theorem leastTo_mem (zs : List Int) : ∀ k, ∃ j, j ≤ k ∧ leastTo zs k = zs.getD j 0
  | 0 => ⟨0, Nat.le_refl _, rfl⟩
  | k + 1 => by
    obtain ⟨j, hj, e⟩ := leastTo_mem zs k
    unfold leastTo
    rcases Int.le_total (leastTo zs k) (zs.getD (k + 1) 0) with h | h
    · exact ⟨j, by omega, by rw [Int.min_eq_left h]; exact e⟩
    · exact ⟨k + 1, Nat.le_refl _, by rw [Int.min_eq_right h]⟩

set_option maxHeartbeats 2000000 in
theorem slices_min (g off n cp : Nat) (zs : List Int) (hn : 0 < n) (hbig : n < 4611686018427387904) (w : World)
    (hc : Hid (∀ j, j < n → w.cell? ⟨g, off + j, none⟩ = some (.int .i64 (zs.getD j 0)))) :
    Calls Try.prog 31 #[.slice (some ⟨g, off, none⟩) n cp] w fun e w' => e = .returned (.int .i64 (leastTo zs (n - 1))) ∧ w = w' := by
  have h1 : ¬ (n : Int) < 1 := by omega
  have c0 := hc.out 0 hn
  rw [Nat.add_zero] at c0
  obtain ⟨z, hz⟩ : ∃ z, z = zs.getD 0 0 := ⟨_, rfl⟩
  rw [← hz] at c0
  have HZ := Lib.hid hz
  clear hz
  go_enter Try.func31, Try.ntmps31
  go_wp2_with fail
  go_loop [3, 4] (fun m i => ∃ k : Nat, 1 ≤ k ∧ k ≤ n ∧ i = .int .i64 k ∧ ∃ y : Int, m = .int .i64 y ∧ Hid (y = leastTo zs (k - 1))) (fun _ i => n - (intOf i).toNat)
  case atStart => exact ⟨1, Nat.le_refl _, hn, rfl, z, rfl, HZ⟩
  case round =>
    obtain ⟨k, hk1, hk, rfl, y, rfl, HY⟩ := hrel
    clear c0 HZ
    by_cases hlt : k < n
    case neg =>
      have e : k = n := by omega
      go_wp2
      go_returns
      exact retI (by rw [HY.out, e]) rfl
    have ck := hc.out k hlt
    obtain ⟨x, hx⟩ : ∃ x, x = zs.getD k 0 := ⟨_, rfl⟩
    rw [← hx] at ck
    have HX := Lib.hid hx
    clear hx
    go_wp2
    go_round
    case rel => exact ⟨k + 1, by omega, by omega, by go_num, _, rfl, by
      have e : leastTo zs (k + 1 - 1) = min (leastTo zs (k - 1)) (zs.getD k 0) := by rw [show k + 1 - 1 = (k - 1) + 1 by omega, leastTo, show k - 1 + 1 = k by omega]
      show _ = _
      rw [e, ← HX.out, ← HY.out]
      split <;> omega⟩
    case measure => simp [intOf]; omega
end Go.Proofs.Ytdglijdiiggdgaa
