import Derived.Test.YtdglijdiiggdgaaCan
namespace Go.Proofs.Ytdglijdiiggdgaa
open Go.RowKit

def cmpI (x y : Int) : Int := if x < y then -1 else if y < x then 1 else 0
theorem retI {a b : Int} {R : Prop} (h : b = a) (hR : R) : Ending.returned (Value.int .i64 a) = Ending.returned (Value.int .i64 b) ∧ R := ⟨by rw [h], hR⟩

set_option maxHeartbeats 1000000 in
theorem cmp_nan (x : Int) (w : World) :
    Calls Try.prog 68 #[.int .i64 x] w fun e w' => e = .returned (.bool false) ∧ w = w' := by
  go_enter Try.func68, Try.ntmps68
  go_wp2
  go_returns
  simp [go_sem]
set_option maxHeartbeats 1000000 in
theorem cmp_cmp (x y : Int) (w : World) :
    Calls Try.prog 57 #[.int .i64 x, .int .i64 y] w fun e w' => e = .returned (.int .i64 (cmpI x y)) ∧ w = w' := by
  go_enter Try.func57, Try.ntmps57
  go_wp2_with fail
  refine (cmp_nan x _).mono ?_; rintro e w1 ⟨rfl, rfl⟩
  go_wp2_with fail
  refine (cmp_nan y _).mono ?_; rintro e w1 ⟨rfl, rfl⟩
  go_wp2
  all_goals go_returns
  all_goals refine retI ?_ rfl
  all_goals (unfold cmpI; grind)

def cmp3 (a b : Int × Int × Int) : Int := if cmpI a.1 b.1 ≠ 0 then cmpI a.1 b.1 else if cmpI a.2.1 b.2.1 ≠ 0 then cmpI a.2.1 b.2.1 else cmpI a.2.2 b.2.2
set_option maxRecDepth 100000 in
set_option maxHeartbeats 2000000 in
theorem slices_compare (p q : Nat) (a b : Int × Int × Int) (w : World)
    (h0 : w.cell? ⟨p, 0, none⟩ = some (.int .i64 a.1)) (h1 : w.cell? ⟨p, 1, none⟩ = some (.int .i64 a.2.1)) (h2 : w.cell? ⟨p, 2, none⟩ = some (.int .i64 a.2.2))
    (k0 : w.cell? ⟨q, 0, none⟩ = some (.int .i64 b.1)) (k1 : w.cell? ⟨q, 1, none⟩ = some (.int .i64 b.2.1)) (k2 : w.cell? ⟨q, 2, none⟩ = some (.int .i64 b.2.2)) :
    Calls Try.prog 47 #[.slice (some ⟨p, 0, none⟩) 3 3, .slice (some ⟨q, 0, none⟩) 3 3] w fun e w' => e = .returned (.int .i64 (cmp3 a b)) ∧ w = w' := by
  by_cases e0 : cmpI a.1 b.1 = 0
  case neg =>
    have R := Lib.hid (show cmp3 a b = cmpI a.1 b.1 by unfold cmp3; rw [if_pos e0])
    go_enter Try.func47, Try.ntmps47
    go_wp2_with fail
    refine wp_loop_rounds 4 ?_
    rw [rounds_succ]
    go_wp2_with fail
    refine (cmp_cmp _ _ _).mono ?_; rintro e w1 ⟨rfl, rfl⟩
    go_wp2
    go_returns
    exact retI R.out rfl
  by_cases e1 : cmpI a.2.1 b.2.1 = 0
  case neg =>
    have R := Lib.hid (show cmp3 a b = cmpI a.2.1 b.2.1 by unfold cmp3; rw [if_neg (by simp [e0]), if_pos e1])
    go_enter Try.func47, Try.ntmps47
    go_wp2_with fail
    refine wp_loop_rounds 4 ?_
    rw [rounds_succ]
    go_wp2_with fail
    refine (cmp_cmp _ _ _).mono ?_; rintro e w1 ⟨rfl, rfl⟩
    go_wp2_with fail
    rw [rounds_succ]
    go_wp2_with fail
    refine (cmp_cmp _ _ _).mono ?_; rintro e w1 ⟨rfl, rfl⟩
    go_wp2
    go_returns
    exact retI R.out rfl
  by_cases e2 : cmpI a.2.2 b.2.2 = 0
  case neg =>
    have R := Lib.hid (show cmp3 a b = cmpI a.2.2 b.2.2 by unfold cmp3; rw [if_neg (by simp [e0]), if_neg (by simp [e1])])
    go_enter Try.func47, Try.ntmps47
    go_wp2_with fail
    refine wp_loop_rounds 4 ?_
    rw [rounds_succ]
    go_wp2_with fail
    refine (cmp_cmp _ _ _).mono ?_; rintro e w1 ⟨rfl, rfl⟩
    go_wp2_with fail
    rw [rounds_succ]
    go_wp2_with fail
    refine (cmp_cmp _ _ _).mono ?_; rintro e w1 ⟨rfl, rfl⟩
    go_wp2_with fail
    rw [rounds_succ]
    go_wp2_with fail
    refine (cmp_cmp _ _ _).mono ?_; rintro e w1 ⟨rfl, rfl⟩
    go_wp2
    go_returns
    exact retI R.out rfl
  have R := Lib.hid (show cmp3 a b = 0 by unfold cmp3; rw [if_neg (by simp [e0]), if_neg (by simp [e1]), e2])
  go_enter Try.func47, Try.ntmps47
  go_wp2_with fail
  refine wp_loop_rounds 4 ?_
  rw [rounds_succ]
  go_wp2_with fail
  refine (cmp_cmp _ _ _).mono ?_; rintro e w1 ⟨rfl, rfl⟩
  go_wp2_with fail
  rw [rounds_succ]
  go_wp2_with fail
  refine (cmp_cmp _ _ _).mono ?_; rintro e w1 ⟨rfl, rfl⟩
  go_wp2_with fail
  rw [rounds_succ]
  go_wp2_with fail
  refine (cmp_cmp _ _ _).mono ?_; rintro e w1 ⟨rfl, rfl⟩
  go_wp2_with fail
  rw [rounds_succ]
  go_wp2
  go_returns
  exact retI R.out rfl

set_option maxRecDepth 100000 in
set_option maxHeartbeats 2000000 in
theorem facet_compare (a b : Int × Int × Int) (w : World) :
    Calls Try.prog 39 #[tri a, tri b] w fun e w' => e = .returned (.int .i64 (cmp3 a b)) ∧ Below w.heap.size w w' := by
  unfold tri
  go_enter Try.func39, Try.ntmps39
  go_wp2_with fail
  first | refine wp_named ?_ | refine calls_named ?_
  intro W hW
  have k1 : W.heap[w.heap.size + 1]? = some (.cells #[.int .i64 b.1, .int .i64 b.2.1, .int .i64 b.2.2] 45 (0, 0)) := by rw [hW]; exact heap_at (by simp)
  have k0 : W.heap[w.heap.size]? = some (.cells #[.int .i64 a.1, .int .i64 a.2.1, .int .i64 a.2.2] 45 (0, 0)) := by rw [hW, heap_old (by simp)]; exact heap_at rfl
  have z0 : w.heap.size < W.heap.size := by rw [hW]; simp; omega
  have z1 : w.heap.size + 1 < W.heap.size := by rw [hW]; simp
  have hB : Below w.heap.size w W := by rw [hW]; go_grown
  clear hW
  obtain ⟨kq0, kr0⟩ := cellB k0
  obtain ⟨kq1, kr1⟩ := cellB k1
  refine wp_calm0 4 (by kernel_rfl) (by kernel_rfl) ?_
  intro K hK
  repeat (refine wpCalm_step (fun M hM => ?_); go_simp; first | (refine hM _ ?_; clear hM M) | (apply Exists.intro; refine ⟨fun wc hw => ?_, hM _ ?_⟩; (obtain ⟨hc, hf⟩ := bcell (hK wc hw); go_simp; first | exact (slices_compare _ _ a b _ (by simp [hc, z0, kq0]) (by simp [hc, z0, kq0]) (by simp [hc, z0, kq0]) (by simp [hc, z1, kq1]) (by simp [hc, z1, kq1]) (by simp [hc, z1, kq1])).mono (fun e w' h => by obtain ⟨rfl, rfl⟩ := h; exact ⟨rfl, Below.refl _ _⟩) | exact rfl); clear hM M))
  refine wpCalm_nil ?_
  clear hK K kq0 kr0 kq1 kr1
  intro W1 hX
  replace hB := after hB hX
  clear hX k0 k1 z0 z1
  simp only [List.drop_succ_cons, List.drop_zero]
  go_wp2
  go_returns
  exact ⟨rfl, hB⟩

def ltB (a b : Int × Int × Int) : Bool := decide (cmp3 a b < 0)
set_option maxHeartbeats 1000000 in
theorem facet_less (a b : Int × Int × Int) (w : World) :
    Calls Try.prog 22 #[tri a, tri b] w fun e w' => e = .returned (.bool (ltB a b)) ∧ Below w.heap.size w w' := by
  have H := Lib.hid (facet_compare a b)
  unfold tri at *
  go_enter Try.func22, Try.ntmps22
  go_wp2_with fail
  refine (H.out _).mono ?_; rintro e W1 ⟨rfl, hX⟩
  have hB := after (w := w) (by go_grown) hX
  clear hX
  go_wp2
  go_returns
  exact ⟨rfl, hB⟩
end Go.Proofs.Ytdglijdiiggdgaa
