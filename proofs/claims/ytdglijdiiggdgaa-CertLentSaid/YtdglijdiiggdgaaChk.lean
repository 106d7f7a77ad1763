import Derived.Test.YtdglijdiiggdgaaCer
namespace Go.Proofs.Ytdglijdiiggdgaa
open Go.RowKit

instance (n : Int) : Decidable (Co n) := by unfold Co; exact inferInstance
/-- What the list's check answers: from the k-th point on. -/
def chkF (X Y Z : Nat → Int) : Nat → Nat → Int × Int
  | 0, _ => (0, 0)
  | f + 1, k => if Co (X k) ∧ Co (Y k) ∧ Co (Z k) then chkF X Y Z f (k + 1) else (20, k)
section
variable {X Y Z : Nat → Int} {n k : Nat} {r : Int × Int}
theorem chk_ok (hk : k < n) (h : Co (X k) ∧ Co (Y k) ∧ Co (Z k)) (hr : chkF X Y Z (n - k) k = r) : chkF X Y Z (n - (k + 1)) (k + 1) = r := by
  rw [show n - k = (n - (k + 1)) + 1 by omega, chkF, if_pos h] at hr; exact hr
theorem chk_bad (hk : k < n) (h : ¬ (Co (X k) ∧ Co (Y k) ∧ Co (Z k))) (hr : chkF X Y Z (n - k) k = r) : r = (20, (k : Int)) := by
  rw [show n - k = (n - (k + 1)) + 1 by omega, chkF, if_neg h] at hr; exact hr.symm
theorem chk_end (hk : n ≤ k) (hr : chkF X Y Z (n - k) k = r) : r = (0, 0) := by
  rw [show n - k = 0 by omega] at hr; exact hr.symm
end
def chk (n : Nat) (X Y Z : Nat → Int) : Int × Int := if 512 < n then (90, 0) else chkF X Y Z n 0
theorem retP {a b : Int} {r : Int × Int} {R : Prop} (h : r = (a, b)) (hR : R) : Ending.returned (.tuple #[.int .i64 a, .int .i64 b]) = Ending.returned (.tuple #[.int .i64 r.1, .int .i64 r.2]) ∧ R := ⟨by rw [h], hR⟩

set_option maxRecDepth 100000 in
set_option maxHeartbeats 4000000 in
theorem seq_check (pa : Option Addr) (n cp : Nat) (X Y Z : Nat → Int) (w : World) (hp : Hid (PtsO w pa n X Y Z)) :
    Calls Try.prog 19 #[.slice pa n cp] w fun e w' => e = .returned (.tuple #[.int .i64 (chk n X Y Z).1, .int .i64 (chk n X Y Z).2]) ∧ Below w.heap.size w w' := by
  by_cases hn : 512 < n
  · have hn' : (512 : Int) < n := by omega
    go_enter Try.func19, Try.ntmps19
    go_wp2
    go_returns
    exact retP (by unfold chk; rw [if_pos hn]) (by go_grown)
  have hn' : ¬ (512 : Int) < n := by omega
  obtain ⟨r, hr⟩ : ∃ r, r = chk n X Y Z := ⟨_, rfl⟩
  have hF : chkF X Y Z (n - 0) 0 = r := by rw [hr]; unfold chk; rw [if_neg hn]; rfl
  rw [← hr]
  have HF := Lib.hid hF
  clear hF hr
  go_enter Try.func19, Try.ntmps19
  go_wp2_with fail
  go_loopw [13] (fun v wr => ∃ k : Nat, k ≤ n ∧ v = .int .i64 k ∧ Hid (chkF X Y Z (n - k) k = r) ∧ Hid (PtsO wr pa n X Y Z) ∧ Below w.heap.size w wr)
    (fun v _ => n - (intOf v).toNat)
  case atStart => exact ⟨0, Nat.zero_le _, rfl, HF, hp, Below.refl _ _⟩
  case round =>
    clear hp HF
    obtain ⟨k, hk, rfl, HF, hp, hB⟩ := hrel
    by_cases hlt : k < n
    case neg =>
      go_wp2
      go_returns
      exact retP (chk_end (by omega) HF.out) hB
    have hsz := hB.size
    obtain ⟨b, off, rfl, hq⟩ := hp.out.at hlt
    obtain ⟨g1, g2, g3⟩ := hq.2 k hlt
    have hbw := hq.1
    clear hq
    have x0 : ∀ w, (Instr.index 44 (.agg #[.int .i64 (X k), .int .i64 (Y k), .int .i64 (Z k)]) (.int .i64 0)).run Try.prog w = .ok (.int .i64 (X k)) w := fun _ => by kernel_rfl
    have x1 : ∀ w, (Instr.index 44 (.agg #[.int .i64 (X k), .int .i64 (Y k), .int .i64 (Z k)]) (.int .i64 1)).run Try.prog w = .ok (.int .i64 (Y k)) w := fun _ => by kernel_rfl
    have x2 : ∀ w, (Instr.index 44 (.agg #[.int .i64 (X k), .int .i64 (Y k), .int .i64 (Z k)]) (.int .i64 2)).run Try.prog w = .ok (.int .i64 (Z k)) w := fun _ => by kernel_rfl
    go_wp2_with fail
    go_rounds 4
    all_goals first
      | (go_returns; exact retP (chk_bad hlt (by unfold Co; omega) HF.out) (by go_grown))
      | (refine ⟨⟨k + 1, by omega, by go_num, chk_ok hlt (by unfold Co; omega) HF.out, hp.out.below (by go_grown), by go_grown⟩, ?_⟩; simp [intOf]; omega)
end Go.Proofs.Ytdglijdiiggdgaa
