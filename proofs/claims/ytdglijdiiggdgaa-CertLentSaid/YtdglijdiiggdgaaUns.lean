import Derived.Test.YtdglijdiiggdgaaCmp
namespace Go.Proofs.Ytdglijdiiggdgaa
open Go.RowKit

/-- Nobody from the k-th place on, but a triple's own, has the sign -1. -/
def unsF (a b c : Int) (sv : Nat → Int) : Nat → Nat → Bool
  | 0, _ => true
  | f + 1, k => if ownB a b c k = true then unsF a b c sv f (k + 1) else if sv k = -1 then false else unsF a b c sv f (k + 1)
section
variable {a b c : Int} {sv : Nat → Int} {n k : Nat} {r : Bool}
theorem uns_own (hk : k < n) (h : ownB a b c k = true) (hr : unsF a b c sv (n - k) k = r) : unsF a b c sv (n - (k + 1)) (k + 1) = r := by
  rw [show n - k = (n - (k + 1)) + 1 by omega, unsF, if_pos h] at hr; exact hr
theorem uns_yes (hk : k < n) (h : ownB a b c k = false) (h2 : sv k = -1) (hr : unsF a b c sv (n - k) k = r) : r = false := by
  rw [show n - k = (n - (k + 1)) + 1 by omega, unsF, if_neg (by simp [h]), if_pos h2] at hr; exact hr.symm
theorem uns_no (hk : k < n) (h : ownB a b c k = false) (h2 : ¬ sv k = -1) (hr : unsF a b c sv (n - k) k = r) : unsF a b c sv (n - (k + 1)) (k + 1) = r := by
  rw [show n - k = (n - (k + 1)) + 1 by omega, unsF, if_neg (by simp [h]), if_neg h2] at hr; exact hr
theorem uns_end (hk : n ≤ k) (hr : unsF a b c sv (n - k) k = r) : r = true := by
  rw [show n - k = 0 by omega] at hr; exact hr.symm
end

set_option maxRecDepth 100000 in
set_option maxHeartbeats 4000000 in
theorem cert_unseen (p off n cp : Nat) (a b c : Int) (sv : Nat → Int) (X Y Z : Nat → Int) (hn : n < 4611686018427387904) (w : World) (hp : Hid (PtsAt w p off n X Y Z))
    (HS : Hid (∀ v : Nat, v < n → ownB a b c v = false → ∀ w', PtsAt w' p off n X Y Z → Calls Try.prog 34 #[.slice (some ⟨p, off, none⟩) n cp, .agg #[.int .i64 a, .int .i64 b, .int .i64 c], .int .i64 v] w' fun e w'' => e = .returned (.tuple #[.bool (decide (sv v = -1)), .int .i64 0]) ∧ Below w'.heap.size w' w'')) :
    Calls Try.prog 23 #[.slice (some ⟨p, off, none⟩) n cp, .agg #[.int .i64 a, .int .i64 b, .int .i64 c]] w fun e w' => e = .returned (.bool (unsF a b c sv n 0)) ∧ Below w.heap.size w w' := by
  obtain ⟨r, hr⟩ : ∃ r, r = unsF a b c sv n 0 := ⟨_, rfl⟩
  have HF : Hid (unsF a b c sv (n - 0) 0 = r) := hr.symm
  rw [← hr]
  clear hr
  go_enter Try.func23, Try.ntmps23
  go_wp2_with fail
  first | refine wp_named ?_ | refine calls_named ?_
  intro W hW
  have k0 : W.heap[w.heap.size]? = some (.cells #[.int .i64 a, .int .i64 b, .int .i64 c] 45 (0, 0)) := by rw [hW]; exact heap_at rfl
  have z0 : w.heap.size < W.heap.size := by rw [hW]; simp
  have hB : Below w.heap.size w W := by rw [hW]; go_grown
  clear hW
  have hbw := hp.out.1
  go_loopw [10] (fun v wr => ∃ k : Nat, k ≤ n ∧ v = .int .i64 k ∧ Hid (unsF a b c sv (n - k) k = r) ∧ wr.heap[w.heap.size]? = some (.cells #[.int .i64 a, .int .i64 b, .int .i64 c] 45 (0, 0)) ∧ w.heap.size < wr.heap.size ∧ Below w.heap.size w wr)
    (fun v _ => n - (intOf v).toNat)
  case atStart => exact ⟨0, Nat.zero_le _, rfl, HF, k0, z0, hB⟩
  case round =>
    clear HF k0 z0 hB
    obtain ⟨k, hk, rfl, HF, k0, z0, hB⟩ := hrel
    obtain ⟨kq, kr⟩ := cellB k0
    by_cases hlt : k < n
    case neg =>
      go_wp2
      go_returns
      exact retB (uns_end (by omega) HF.out) hB
    go_wp2_with fail
    refine (cert_own a b c k _).mono ?_; rintro e W1 ⟨rfl, hX⟩
    replace k0 := (hX.block _ z0).trans k0
    replace z0 := Nat.lt_of_lt_of_le z0 hX.size
    replace hB := after hB hX
    clear hX kq kr
    obtain ⟨kq, kr⟩ := cellB k0
    cases ho : ownB a b c k with
    | true =>
      go_wp2
      go_roundw
      case rel => exact ⟨k + 1, by omega, by go_num, uns_own hlt ho HF.out, k0, z0, hB⟩
      case measure => simp [intOf]; omega
    | false =>
      go_wp2_with fail
      refine (HS.out k hlt ho _ (hp.out.mono hB hbw)).mono ?_; rintro e W2 ⟨rfl, hX⟩
      replace k0 := (hX.block _ z0).trans k0
      replace z0 := Nat.lt_of_lt_of_le z0 hX.size
      replace hB := after hB hX
      clear hX kq kr
      by_cases hs : sv k = -1
      · go_wp2
        go_returns
        exact retB (uns_yes hlt ho hs HF.out) hB
      · go_wp2
        go_roundw
        case rel => exact ⟨k + 1, by omega, by go_num, uns_no hlt ho hs HF.out, k0, z0, hB⟩
        case measure => simp [intOf]; omega
end Go.Proofs.Ytdglijdiiggdgaa
