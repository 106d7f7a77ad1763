import Derived.Test.YtdglijdiiggdgaaSg
namespace Go.Proofs.Ytdglijdiiggdgaa
open Go.RowKit

/-- The first sign that is none of 0. -/
def firstOf (s : Nat → Int) (ok : Nat → Bool) : Nat → Nat → Int
  | 0, _ => 1
  | n + 1, k => if ok k = true ∧ s k ≠ 0 then s k else firstOf s ok n (k + 1)

theorem firstOf_yes {s : Nat → Int} {ok : Nat → Bool} {k : Nat} (hk : k < 85) (h1 : ok k = true) (h2 : s k ≠ 0) (h : firstOf s ok (85 - k) k = firstOf s ok 85 0) : firstOf s ok 85 0 = s k := by
  rw [← h, show 85 - k = (84 - k) + 1 by omega, firstOf, if_pos ⟨h1, h2⟩]
theorem firstOf_no {s : Nat → Int} {ok : Nat → Bool} {k : Nat} (hk : k < 85) (h1 : ¬ (ok k = true ∧ s k ≠ 0)) (h : firstOf s ok (85 - k) k = firstOf s ok 85 0) : firstOf s ok (85 - (k + 1)) (k + 1) = firstOf s ok 85 0 := by
  rw [← h, show 85 - k = (84 - k) + 1 by omega, firstOf, if_neg h1, show 85 - (k + 1) = 84 - k by omega]
theorem firstOf_end {s : Nat → Int} {ok : Nat → Bool} {k : Nat} (hk : k = 85) (h : firstOf s ok (85 - k) k = firstOf s ok 85 0) : firstOf s ok 85 0 = 1 := by
  rw [← h, hk]; rfl

def sgnR (f s : Int) (sm : Nat → Int) (ok : Nat → Bool) : Int := if f = 0 then (if s = 0 then firstOf sm ok 85 0 else s) else f
theorem ret64 {a b : Int} {R : Prop} (h : b = a) (hR : R) : Ending.returned (Value.int .i64 a) = Ending.returned (Value.int .i64 b) ∧ R := ⟨by rw [h], hR⟩
set_option maxRecDepth 100000 in
set_option maxHeartbeats 2000000 in
theorem sign_walk (a0 a1 a2 b0 b1 b2 c0 c1 c2 d0 d1 d2 : Int) (u v x n : Value) (f s : Int) (sm : Nat → Int) (ok : Nat → Bool)
    (H1 : Hid (∀ w, Calls Try.prog 61 #[.agg #[.int .i64 a0, .int .i64 a1, .int .i64 a2], .agg #[.int .i64 d0, .int .i64 d1, .int .i64 d2]] w fun e w' => e = .returned u ∧ Below w.heap.size w w'))
    (H2 : Hid (∀ w, Calls Try.prog 61 #[.agg #[.int .i64 b0, .int .i64 b1, .int .i64 b2], .agg #[.int .i64 d0, .int .i64 d1, .int .i64 d2]] w fun e w' => e = .returned v ∧ Below w.heap.size w w'))
    (H3 : Hid (∀ w, Calls Try.prog 61 #[.agg #[.int .i64 c0, .int .i64 c1, .int .i64 c2], .agg #[.int .i64 d0, .int .i64 d1, .int .i64 d2]] w fun e w' => e = .returned x ∧ Below w.heap.size w w'))
    (H4 : Hid (∀ w, Calls Try.prog 60 #[u, v, x] w fun e w' => e = .returned (.int .i64 f) ∧ Below w.heap.size w w'))
    (H5 : Hid (∀ w, Calls Try.prog 63 #[.agg #[.int .i64 a0, .int .i64 a1, .int .i64 a2], .agg #[.int .i64 b0, .int .i64 b1, .int .i64 b2], .agg #[.int .i64 c0, .int .i64 c1, .int .i64 c2], .agg #[.int .i64 d0, .int .i64 d1, .int .i64 d2]] w fun e w' => e = .returned n ∧ Below w.heap.size w w'))
    (H6 : Hid (∀ w, Calls Try.prog 62 #[n] w fun e w' => e = .returned (.int .i64 s) ∧ Below w.heap.size w w'))
    (H7 : Hid (∀ m : Nat, m < 85 → f = 0 → s = 0 → ∀ w, Calls Try.prog 64 #[.agg #[.int .i64 a0, .int .i64 a1, .int .i64 a2, .int .i64 b0, .int .i64 b1, .int .i64 b2, .int .i64 c0, .int .i64 c1, .int .i64 c2, .int .i64 d0, .int .i64 d1, .int .i64 d2], .int .i64 m] w fun e w' => e = .returned (.tuple #[.int .i64 (sm m), .bool (ok m)]) ∧ Below w.heap.size w w'))
    (w : World) :
    Calls Try.prog 52 #[.agg #[.int .i64 a0, .int .i64 a1, .int .i64 a2, .int .i64 b0, .int .i64 b1, .int .i64 b2, .int .i64 c0, .int .i64 c1, .int .i64 c2, .int .i64 d0, .int .i64 d1, .int .i64 d2]] w fun e w' => e = .returned (.int .i64 (sgnR f s sm ok)) ∧ Below w.heap.size w w' := by
  go_enter Try.func52, Try.ntmps52
  go_wp2_with fail
  first | refine wp_named ?_ | refine calls_named ?_
  intro W hW
  have k0 : W.heap[w.heap.size]? = some (.cells #[.int .i64 a0, .int .i64 a1, .int .i64 a2, .int .i64 b0, .int .i64 b1, .int .i64 b2, .int .i64 c0, .int .i64 c1, .int .i64 c2, .int .i64 d0, .int .i64 d1, .int .i64 d2] 89 (0, 0)) := by rw [hW]; exact heap_at rfl
  have z0 : w.heap.size < W.heap.size := by rw [hW]; simp
  have hB : Below w.heap.size w W := by rw [hW]; go_grown
  clear hW
  obtain ⟨kq, kr⟩ := cellB k0

  refine wp_calm0 17 (by kernel_rfl) (by kernel_rfl) ?_
  intro K hK
  repeat (refine wpCalm_step (fun M hM => ?_); go_simp; first | (refine hM _ ?_; clear hM M) | (apply Exists.intro; refine ⟨fun wc hw => ?_, hM _ ?_⟩; (obtain ⟨hc, hf⟩ := bcell (hK wc hw); go_simp; first | with_reducible exact (H1).out _ | with_reducible exact (H2).out _ | with_reducible exact (H3).out _ | with_reducible exact (H4).out _ | exact rfl); clear hM M))
  refine wpCalm_nil ?_
  clear hK K kq kr
  intro W1 hX
  replace k0 := (hX.block _ z0).trans k0
  replace z0 := Nat.lt_of_lt_of_le z0 hX.size
  replace hB := after hB hX
  clear hX
  simp only [List.drop_succ_cons, List.drop_zero]
  obtain ⟨kq, kr⟩ := cellB k0
  by_cases hf : f = 0
  case neg =>
    go_wp2
    go_returns
    exact ret64 (by unfold sgnR; rw [if_neg hf]) hB
  go_wp2_with fail
  refine (H5.out _).mono ?_; rintro e W2 ⟨rfl, hX⟩
  replace k0 := (hX.block _ z0).trans k0
  replace z0 := Nat.lt_of_lt_of_le z0 hX.size
  replace hB := after hB hX
  clear hX kq kr
  obtain ⟨kq, kr⟩ := cellB k0
  go_wp2_with fail
  refine (H6.out _).mono ?_; rintro e W3 ⟨rfl, hX⟩
  replace k0 := (hX.block _ z0).trans k0
  replace z0 := Nat.lt_of_lt_of_le z0 hX.size
  replace hB := after hB hX
  clear hX kq kr
  by_cases hs : s = 0
  case neg =>
    go_wp2
    go_returns
    exact ret64 (by unfold sgnR; rw [if_pos hf, if_neg hs]) hB
  go_wp2_with fail
  have e0 : firstOf sm ok (85 - 0) 0 = firstOf sm ok 85 0 := rfl
  have G := Lib.hid e0
  clear e0
  go_loopw [40] (fun i wr => ∃ k : Nat, k ≤ 85 ∧ i = .int .i64 k ∧ Hid (firstOf sm ok (85 - k) k = firstOf sm ok 85 0) ∧ wr.heap[w.heap.size]? = some (.cells #[.int .i64 a0, .int .i64 a1, .int .i64 a2, .int .i64 b0, .int .i64 b1, .int .i64 b2, .int .i64 c0, .int .i64 c1, .int .i64 c2, .int .i64 d0, .int .i64 d1, .int .i64 d2] 89 (0, 0)) ∧ Below w.heap.size w wr ∧ w.heap.size < wr.heap.size)
    (fun i _ => 85 - (intOf i).toNat)
  case atStart => exact ⟨0, by decide, rfl, G, k0, hB, z0⟩
  case round =>
    clear k0 hB z0 G
    obtain ⟨k, hk, rfl, G, k0, hB, z0⟩ := hrel
    obtain ⟨kq, kr⟩ := cellB k0
    by_cases hlt : k < 85
    case neg =>
      have hge : ¬ (k : Int) < 85 := by omega
      go_wp2
      go_returns
      exact ret64 (by unfold sgnR; rw [if_pos (by first | rfl | exact hf), if_pos (by first | rfl | exact hs), firstOf_end (by omega) G.out]) hB
    have hlt' : (k : Int) < 85 := by omega
    go_wp2_with fail
    refine (H7.out _ hlt hf hs _).mono ?_; rintro e W4 ⟨rfl, hX⟩
    replace k0 := (hX.block _ z0).trans k0
    replace z0 := Nat.lt_of_lt_of_le z0 hX.size
    replace hB := after hB hX
    clear hX kq kr
    cases ho : ok k with
    | false =>
      go_wp2
      go_roundw
      case rel => exact ⟨k + 1, by omega, by go_num, firstOf_no hlt (by simp [ho]) G.out, k0, hB, z0⟩
      case measure => simp [intOf]; omega
    | true =>
      by_cases hz : sm k = 0
      · go_wp2
        go_roundw
        case rel => exact ⟨k + 1, by omega, by go_num, firstOf_no hlt (by simp [hz]) G.out, k0, hB, z0⟩
        case measure => simp [intOf]; omega
      · go_wp2
        go_returns
        exact ret64 (by unfold sgnR; rw [if_pos hf, if_pos hs, firstOf_yes hlt ho hz G.out]) hB
end Go.Proofs.Ytdglijdiiggdgaa
