import Derived.Test.YtdglijdiiggdgaaAwk
namespace Go.Proofs.Ytdglijdiiggdgaa
open Go.RowKit Go.Maps

def outR : Option (List Int) → List Int × Int
  | none => ([], 170)
  | some o => (o, 0)
theorem walk_len {L : List (Int × Int)} {m : Int} : ∀ (f : Nat) (out : List Int) (a : Int) (o : List Int), walkF L m f out a = some o → out.length ≤ L.length → o.length ≤ L.length
  | 0, _, _, _, h, _ => by cases h
  | f + 1, out, a, o, h, hl => by
    unfold walkF at h
    split at h
    · split at h
      · cases h
      · injection h with h
        rw [← h]; exact hl
    · split at h
      · cases h
      · split at h
        · cases h
        · exact walk_len f _ _ o h (by simp; omega)
theorem pairs_len {v : Int} {A B C : Nat → Int} : ∀ (f k : Nat) (M L : List (Int × Int)), pairsF v A B C f k M = some L → L.length ≤ M.length + f
  | 0, k, M, L, h => by
    unfold pairsF at h
    injection h with h
    rw [h]; omega
  | f + 1, k, M, L, h => by
    unfold pairsF at h
    split at h
    · cases h
    · have := pairs_len f (k + 1) M L h; omega
    · have := pairs_len f (k + 1) _ L h
      simp at this; omega
theorem out_len {v : Int} {A B C : Nat → Int} {n : Nat} : (outR (refR (pairsF v A B C n 0 []))).1.length ≤ n := by
  cases h : pairsF v A B C n 0 [] with
  | none => exact Nat.zero_le _
  | some L =>
    have h1 := pairs_len _ _ _ _ h
    unfold refR
    simp only
    split
    · cases h2 : arR (some L) with
      | none => exact Nat.zero_le _
      | some o =>
        unfold arR at h2
        simp only at h2
        split at h2
        · cases h2
        · have := walk_len _ _ _ _ h2 (by simp)
          show o.length ≤ n
          simp at h1
          omega
    · exact Nat.zero_le _
theorem around_told (pa : Option Addr) (n cp : Nat) (v : Int) (A B C : Nat → Int) (hn : n < 1048576) (hv : Wf v) (hwf : ∀ k, k < n → Wf (A k) ∧ Wf (B k) ∧ Wf (C k)) (w : World) (hp : PtsO w pa n A B C) :
    Calls Try.prog 10 #[.slice pa n cp, .int .i64 v] w fun e w' => ∃ p cap xs c, outR (refR (pairsF v A B C n 0 [])) = (xs, c) ∧ e = .returned (.tuple #[.slice p xs.length cap, .int .i64 c]) ∧ IntsAt w' p xs ∧ xs.length ≤ maxLen ∧ Below w.heap.size w w' := by
  refine (cert_around pa n cp v A B C _ hn (Lib.hid hv) (Lib.hid hwf) (Lib.hid rfl) w (Lib.hid hp)).mono ?_
  rintro e w' ⟨hX, hE⟩
  rw [around_same]
  rcases hE with ⟨h, rfl⟩ | ⟨out, vv, h, hrow, rfl⟩
  · refine ⟨none, 0, [], 170, ?_, rfl, fun j hj => by simp at hj, Nat.zero_le _, hX⟩
    rw [show ringF v A B C n 0 [] = ringF v A B C (n - 0) 0 [] from rfl, h]; rfl
  · obtain ⟨p, cap, rfl, hI, hl⟩ := ints_of_row hrow
    refine ⟨p, cap, out, 0, ?_, rfl, hI, hl, hX⟩
    rw [show ringF v A B C n 0 [] = ringF v A B C (n - 0) 0 [] from rfl, h]; rfl
theorem ref21_told (pa : Option Addr) (n cp : Nat) (v : Int) (A B C : Nat → Int) (hn : n < 1048576) (w : World) (hp : PtsO w pa n A B C) :
    Calls Try.prog 11 #[.slice pa n cp, .int .i64 v] w fun e w' => ∃ p cap xs c, outR (refR (pairsF v A B C n 0 [])) = (xs, c) ∧ e = .returned (.tuple #[.slice p xs.length cap, .int .i64 c]) ∧ IntsAt w' p xs ∧ xs.length ≤ maxLen ∧ Below w.heap.size w w' := by
  refine (ref21_around pa n cp v A B C _ hn (Lib.hid rfl) w (Lib.hid hp)).mono ?_
  rintro e w' ⟨hX, hE⟩
  rcases hE with ⟨h, rfl⟩ | ⟨out, vv, h, hrow, rfl⟩
  · refine ⟨none, 0, [], 170, ?_, rfl, fun j hj => by simp at hj, Nat.zero_le _, hX⟩
    rw [show pairsF v A B C n 0 [] = pairsF v A B C (n - 0) 0 [] from rfl, h]; rfl
  · obtain ⟨p, cap, rfl, hI, hl⟩ := ints_of_row hrow
    refine ⟨p, cap, out, 0, ?_, rfl, hI, hl, hX⟩
    rw [show pairsF v A B C n 0 [] = pairsF v A B C (n - 0) 0 [] from rfl, h]; rfl
set_option maxRecDepth 100000 in
set_option maxHeartbeats 2000000 in
theorem law21_around (pa : Option Addr) (n cp : Nat) (v : Int) (A B C : Nat → Int) (hn : n ≤ maxLen) (hv : Wf v) (hwf : ∀ k, k < n → Wf (A k) ∧ Wf (B k) ∧ Wf (C k)) (w : World) (hp : Hid (PtsO w pa n A B C)) :
    Calls Try.prog 4 #[.slice pa n cp, .int .i64 v] w fun e w' => e = .returned (.bool true) ∧ Below w.heap.size w w' := by
  have HWF := Lib.hid hwf
  clear hwf
  unfold maxLen at hn
  by_cases hbig : 60 < n
  · have hbig' : (60 : Int) < n := by omega
    go_enter Try.func4, Try.ntmps4
    go_wp2_with fail
    refine (law21_awake _).mono ?_; rintro e W1 ⟨rfl, hX⟩
    go_wp2_with fail
    go_returns
    exact ⟨rfl, hX⟩
  have hbig' : ¬ (60 : Int) < n := by omega
  go_enter Try.func4, Try.ntmps4
  go_wp2_with fail
  refine (around_told pa n cp v A B C (by omega) hv HWF.out _ hp.out).mono ?_; rintro e W1 ⟨p, cap, xs, c, hr, rfl, hI, hl, hX⟩
  have hp1 := hp.out.below hX
  have HI := Lib.hid hI
  have HP := Lib.hid hp1
  clear hI hp1
  go_wp2_with fail
  refine (ref21_told pa n cp v A B C (by omega) _ HP.out).mono ?_; rintro e W2 ⟨q, cap2, ys, c2, hr2, rfl, hJ, hl2, hX2⟩
  rw [hr] at hr2
  injection hr2 with e1 e2
  subst e1 e2
  have hI2 := HI.out.below hX2
  have hB := after hX hX2
  have HI2 := Lib.hid hI2
  have HJ := Lib.hid hJ
  clear hI2 hJ hX hX2 HP HI
  have hl3 : xs.length < 4611686018427387904 := by have := @out_len v A B C n; rw [hr] at this; simp only at this; omega
  have HL := Lib.hid hl3
  clear hl hl2 hl3 hr
  go_wp2_with fail
  refine (ref3_same p q cap cap2 xs xs _ _ rfl rfl HL.out HL.out _ HI2 HJ).mono ?_; rintro e W3 ⟨rfl, hX⟩
  replace hB := after hB hX
  clear hX
  have hd : decide (xs = xs) = true := by simp
  rw [hd]
  clear hd
  go_wp2_with fail
  refine (law21_awake _).mono ?_; rintro e W4 ⟨rfl, hX⟩
  replace hB := after hB hX
  go_wp2_with fail
  go_returns
  exact ⟨by simp, hB⟩
end Go.Proofs.Ytdglijdiiggdgaa
