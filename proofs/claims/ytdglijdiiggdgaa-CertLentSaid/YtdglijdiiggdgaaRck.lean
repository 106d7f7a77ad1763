import Derived.Test.YtdglijdiiggdgaaRSg
namespace Go.Proofs.Ytdglijdiiggdgaa
open Go.RowKit Geo
theorem ref2_fit (n : Int) (w : World) : Calls Try.prog 46 #[.int .i64 n] w fun e w' => e = .returned (.bool (co n)) ∧ Below w.heap.size w w' := by
  by_cases h1 : -1073741824 ≤ n <;> by_cases h2 : n ≤ 1073741824
  all_goals
    go_enter Try.func46, Try.ntmps46
    go_wp2
    go_returns
    exact ⟨by unfold co; simp [h1, h2], by go_grown⟩
set_option maxHeartbeats 1000000 in
theorem ref2_Fit (a b c : Int) (w : World) : Calls Try.prog 37 #[.agg #[.int .i64 a, .int .i64 b, .int .i64 c]] w fun e w' => e = .returned (.bool (co a && co b && co c)) ∧ Below w.heap.size w w' := by
  obtain ⟨x, hx⟩ : ∃ x, x = co a := ⟨_, rfl⟩
  obtain ⟨y, hy⟩ : ∃ y, y = co b := ⟨_, rfl⟩
  obtain ⟨z, hz⟩ : ∃ z, z = co c := ⟨_, rfl⟩
  have HA := ref2_fit a; rw [← hx] at HA
  have HB := ref2_fit b; rw [← hy] at HB
  have HC := ref2_fit c; rw [← hz] at HC
  rw [← hx, ← hy, ← hz]
  clear hx hy hz
  have HA := Lib.hid HA; have HB := Lib.hid HB; have HC := Lib.hid HC
  go_enter Try.func37, Try.ntmps37
  go_wp2_with fail
  first | refine wp_named ?_ | refine calls_named ?_
  intro W hW
  have k0 : W.heap[w.heap.size]? = some (.cells #[.int .i64 a, .int .i64 b, .int .i64 c] 73 (0, 0)) := by rw [hW]; exact heap_at rfl
  have z0 : w.heap.size < W.heap.size := by rw [hW]; simp
  have hB : Below w.heap.size w W := by rw [hW]; go_grown
  clear hW
  refine (HA.out _).mono ?_; rintro e W1 ⟨rfl, hX⟩
  replace k0 := (hX.block _ z0).trans k0; replace z0 := Nat.lt_of_lt_of_le z0 hX.size; replace hB := after hB hX; clear hX
  obtain ⟨kq, kr⟩ := cellB k0
  cases x
  · go_wp2_with fail
    go_returns
    exact ⟨by simp, hB⟩
  go_wp2_with fail
  refine (HB.out _).mono ?_; rintro e W2 ⟨rfl, hX⟩
  replace k0 := (hX.block _ z0).trans k0; replace z0 := Nat.lt_of_lt_of_le z0 hX.size; replace hB := after hB hX; clear hX kq kr
  obtain ⟨kq, kr⟩ := cellB k0
  cases y
  · go_wp2_with fail
    go_returns
    exact ⟨by simp, hB⟩
  go_wp2_with fail
  refine (HC.out _).mono ?_; rintro e W3 ⟨rfl, hX⟩
  replace hB := after hB hX
  go_wp2_with fail
  go_returns
  exact ⟨by simp, hB⟩
set_option maxRecDepth 100000 in
set_option maxHeartbeats 4000000 in
theorem ref6_check (pa : Option Addr) (n cp : Nat) (X Y Z : Nat → Int) (w : World) (hp : Hid (PtsO w pa n X Y Z)) :
    Calls Try.prog 16 #[.slice pa n cp] w fun e w' => e = .returned (.tuple #[.int .i64 (chk n X Y Z).1, .int .i64 (chk n X Y Z).2]) ∧ Below w.heap.size w w' := by
  by_cases hn : 512 < n
  · have hn' : (512 : Int) < n := by omega
    go_enter Try.func16, Try.ntmps16
    go_wp2
    go_returns
    exact retP (by unfold chk; rw [if_pos hn]) (by go_grown)
  have hn' : ¬ (512 : Int) < n := by omega
  obtain ⟨r, hr⟩ : ∃ r, r = chk n X Y Z := ⟨_, rfl⟩
  have hF : chkF X Y Z (n - 0) 0 = r := by rw [hr]; unfold chk; rw [if_neg hn]; rfl
  rw [← hr]
  have HF := Lib.hid hF
  clear hF hr
  go_enter Try.func16, Try.ntmps16
  go_wp2_with fail
  go_loopw [4] (fun v wr => ∃ k : Nat, k ≤ n ∧ v = .int .i64 k ∧ Hid (chkF X Y Z (n - k) k = r) ∧ Hid (PtsO wr pa n X Y Z) ∧ Below w.heap.size w wr)
    (fun v _ => n - (intOf v).toNat)
  case atStart => exact ⟨0, Nat.zero_le _, rfl, HF, hp, Below.refl _ _⟩
  case round =>
    clear hp HF
    obtain ⟨k, hk, rfl, HF, hp, hB⟩ := hrel
    by_cases hlt : k < n
    case neg =>
      go_wp2
      go_returns
      exact retP (chk_end (by omega) HF.out) hB
    obtain ⟨b, off, rfl, hq⟩ := hp.out.at hlt
    obtain ⟨g1, g2, g3⟩ := hq.2 k hlt
    have hbw := hq.1
    clear hq
    go_wp2_with fail
    refine (ref2_Fit (X k) (Y k) (Z k) _).mono ?_; rintro e W1 ⟨rfl, hX⟩
    have hp1 := hp.out.below hX
    have HP := Lib.hid hp1
    replace hB := after hB hX
    clear hX hp1 hp g1 g2 g3
    obtain ⟨f, hf⟩ : ∃ f, f = (co (X k) && co (Y k) && co (Z k)) := ⟨_, rfl⟩
    rw [← hf]
    have hiff : f = true ↔ (Co (X k) ∧ Co (Y k) ∧ Co (Z k)) := by rw [hf]; simp only [Bool.and_eq_true, co_iff]; exact ⟨fun h => ⟨h.1.1, h.1.2, h.2⟩, fun h => ⟨⟨h.1, h.2.1⟩, h.2.2⟩⟩
    have HI := Lib.hid hiff
    clear hf hiff
    cases f
    · have hbad := chk_bad hlt (fun h => by have := HI.out.2 h; cases this) HF.out
      have HBAD := Lib.hid hbad
      clear hbad
      go_wp2_with fail
      go_returns
      exact retP HBAD.out hB
    · have hok := chk_ok hlt (HI.out.1 rfl) HF.out
      have HOK := Lib.hid hok
      clear hok
      go_wp2_with fail
      go_roundw
      case rel => exact ⟨k + 1, by omega, by go_num, HOK, HP, hB⟩
      case measure => simp [intOf]; omega
end Go.Proofs.Ytdglijdiiggdgaa
