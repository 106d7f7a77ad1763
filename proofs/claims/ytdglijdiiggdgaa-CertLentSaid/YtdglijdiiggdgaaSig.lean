import Derived.Test.YtdglijdiiggdgaaSgn
namespace Go.Proofs.Ytdglijdiiggdgaa
open Go.RowKit

/-- The points of a list in memory. -/
def PtsAt (w : World) (b off n : Nat) (X Y Z : Nat → Int) : Prop :=
  b < w.heap.size ∧ ∀ i, i < n → w.cell? ⟨b, off + i * 3, none⟩ = some (.int .i64 (X i)) ∧ w.cell? ⟨b, off + i * 3 + 1, none⟩ = some (.int .i64 (Y i)) ∧ w.cell? ⟨b, off + i * 3 + 2, none⟩ = some (.int .i64 (Z i))
theorem PtsAt.mono {w w' : World} {b off n : Nat} {X Y Z : Nat → Int} (h : PtsAt w b off n X Y Z) {B : Nat} (hB : Below B w w') (hb : b < B) : PtsAt w' b off n X Y Z := by
  refine ⟨Nat.lt_of_lt_of_le h.1 hB.size, fun i hi => ?_⟩
  obtain ⟨h1, h2, h3⟩ := h.2 i hi
  exact ⟨(hB.cell (p := ⟨b, _, none⟩) hb).trans h1, (hB.cell (p := ⟨b, _, none⟩) hb).trans h2, (hB.cell (p := ⟨b, _, none⟩) hb).trans h3⟩

structure St4 where
  a : Nat
  b : Nat
  c : Nat
  d : Nat
  t : Int
def swp (p : Nat) (s : St4) : St4 :=
  if p % 3 = 0 then (if s.b < s.a then ⟨s.b, s.a, s.c, s.d, -s.t⟩ else s)
  else if p % 3 = 1 then (if s.c < s.b then ⟨s.a, s.c, s.b, s.d, -s.t⟩ else s)
  else (if s.d < s.c then ⟨s.a, s.b, s.d, s.c, -s.t⟩ else s)
def bub : Nat → Nat → St4 → St4
  | 0, _, s => s
  | n + 1, p, s => bub n (p + 1) (swp p s)

theorem bub_step {r p : Nat} {s z : St4} (hr : r < 3) (hp : p < 3) (h : bub (9 - 3 * r - p) (3 * r + p) s = z) : bub (9 - 3 * r - (p + 1)) (3 * r + (p + 1)) (swp (3 * r + p) s) = z := by
  rw [show 9 - 3 * r - p = (9 - 3 * r - (p + 1)) + 1 by omega] at h
  exact h
theorem bub_next {r : Nat} {s z : St4} (h : bub (9 - 3 * r - 3) (3 * r + 3) s = z) : bub (9 - 3 * (r + 1)) (3 * (r + 1)) s = z := by
  rw [show 9 - 3 * (r + 1) = 9 - 3 * r - 3 by omega, show 3 * (r + 1) = 3 * r + 3 by omega]; exact h
theorem bub_end (p : Nat) (s : St4) : bub 0 p s = s := rfl
theorem bub_last {s z : St4} (h : bub (9 - 3 * 3) (3 * 3) s = z) : s = z := h
section
variable {r a b c d : Nat} {t : Int}
theorem swp_y0 (h : b < a) : swp (3 * r + 0) ⟨a, b, c, d, t⟩ = ⟨b, a, c, d, -t⟩ := by unfold swp; rw [if_pos (by omega), if_pos h]
theorem swp_n0 (h : ¬ b < a) : swp (3 * r + 0) ⟨a, b, c, d, t⟩ = ⟨a, b, c, d, t⟩ := by unfold swp; rw [if_pos (by omega), if_neg h]
theorem swp_y1 (h : c < b) : swp (3 * r + 1) ⟨a, b, c, d, t⟩ = ⟨a, c, b, d, -t⟩ := by unfold swp; rw [if_neg (by omega), if_pos (by omega), if_pos h]
theorem swp_n1 (h : ¬ c < b) : swp (3 * r + 1) ⟨a, b, c, d, t⟩ = ⟨a, b, c, d, t⟩ := by unfold swp; rw [if_neg (by omega), if_pos (by omega), if_neg h]
theorem swp_y2 (h : d < c) : swp (3 * r + 2) ⟨a, b, c, d, t⟩ = ⟨a, b, d, c, -t⟩ := by unfold swp; rw [if_neg (by omega), if_neg (by omega), if_pos h]
theorem swp_n2 (h : ¬ d < c) : swp (3 * r + 2) ⟨a, b, c, d, t⟩ = ⟨a, b, c, d, t⟩ := by unfold swp; rw [if_neg (by omega), if_neg (by omega), if_neg h]
end
attribute [irreducible] bub
set_option maxRecDepth 100000 in
set_option maxHeartbeats 6000000 in
theorem sign_good (b off n cp : Nat) (X Y Z : Nat → Int) (i j k m i' j' k' m' : Nat) (t s : Int) (hn : n < 4611686018427387904)
    (hi : i < n) (hj : j < n) (hk : k < n) (hm : m < n) (h1 : i ≠ j) (h2 : i ≠ k) (h3 : i ≠ m) (h4 : j ≠ k) (h5 : j ≠ m) (h6 : k ≠ m)
    (hb : bub 9 0 ⟨i, j, k, m, 1⟩ = ⟨i', j', k', m', t⟩) (ht : t = 1 ∨ t = -1) (hi' : i' < n) (hj' : j' < n) (hk' : k' < n) (hm' : m' < n) (hs1 : -1 ≤ s) (hs2 : s ≤ 1) (hco : Hid (∀ i, i < n → Co (X i) ∧ Co (Y i) ∧ Co (Z i)))
    (hs : Hid (∀ w, Calls Try.prog 52 #[.agg #[.int .i64 (X i'), .int .i64 (Y i'), .int .i64 (Z i'), .int .i64 (X j'), .int .i64 (Y j'), .int .i64 (Z j'), .int .i64 (X k'), .int .i64 (Y k'), .int .i64 (Z k'), .int .i64 (X m'), .int .i64 (Y m'), .int .i64 (Z m')]] w fun e w' => e = .returned (.int .i64 s) ∧ Below w.heap.size w w'))
    (w : World) (hp : Hid (PtsAt w b off n X Y Z)) :
    Calls Try.prog 44 #[.slice (some ⟨b, off, none⟩) n cp, .int .i64 i, .int .i64 j, .int .i64 k, .int .i64 m] w fun e w' => e = .returned (.tuple #[.int .i64 (t * s), .int .i64 0]) ∧ Below w.heap.size w w' := by
  have d0 : decide ((i:Int) < 0) = false := by simp
  have d1 : decide ((j:Int) < 0) = false := by simp
  have d2 : decide ((k:Int) < 0) = false := by simp
  have d3 : decide ((m:Int) < 0) = false := by simp
  have d4 : decide (n ≤ i) = false := by simp; omega
  have d5 : decide (n ≤ j) = false := by simp; omega
  have d6 : decide (n ≤ k) = false := by simp; omega
  have d7 : decide (n ≤ m) = false := by simp; omega
  have HB := Lib.hid hb
  clear hb
  have HT := Lib.hid ht
  clear ht
  have q1 : ¬ j = i := fun h => h1 h.symm
  have q2 : ¬ k = i := fun h => h2 h.symm
  have q3 : ¬ m = i := fun h => h3 h.symm
  have q4 : ¬ k = j := fun h => h4 h.symm
  have q5 : ¬ m = j := fun h => h5 h.symm
  have q6 : ¬ m = k := fun h => h6 h.symm
  have x0 : ∀ w, (Instr.index 88 (.agg #[.int .i64 i, .int .i64 j, .int .i64 k, .int .i64 m]) (.int .i64 0)).run Try.prog w = .ok (.int .i64 i) w := fun _ => by kernel_rfl
  have x1 : ∀ w, (Instr.index 88 (.agg #[.int .i64 i, .int .i64 j, .int .i64 k, .int .i64 m]) (.int .i64 1)).run Try.prog w = .ok (.int .i64 j) w := fun _ => by kernel_rfl
  have x2 : ∀ w, (Instr.index 88 (.agg #[.int .i64 i, .int .i64 j, .int .i64 k, .int .i64 m]) (.int .i64 2)).run Try.prog w = .ok (.int .i64 k) w := fun _ => by kernel_rfl
  have x3 : ∀ w, (Instr.index 88 (.agg #[.int .i64 i, .int .i64 j, .int .i64 k, .int .i64 m]) (.int .i64 3)).run Try.prog w = .ok (.int .i64 m) w := fun _ => by kernel_rfl
  go_enter Try.func44, Try.ntmps44
  go_wp2_with fail
  refine wp_loop_rounds 5 ?_
  rw [rounds_succ]
  go_wp2_with fail
  go_rounds 4
  go_rounds 4
  go_rounds 4
  go_rounds 4
  first | refine wp_named ?_ | refine calls_named ?_
  intro W hW
  have k0 : W.heap[w.heap.size]? = some (.cells #[.int .i64 i, .int .i64 j, .int .i64 k, .int .i64 m] 88 (0, 0)) := by rw [hW]; exact heap_at rfl
  have z0 : w.heap.size < W.heap.size := by rw [hW]; simp
  have hB : Below w.heap.size w W := by rw [hW]; go_grown
  clear hW x0 x1 x2 x3
  have d8 : ((m : Int) == (k : Int)) = false := by simp; omega
  try simp only [d0, d1, d2, d3, d4, d5, d6, d7, d8]
  clear d8
  clear d0 d1 d2 d3 d4 d5 d6 d7
  go_loopw [17, 52] (fun u v wr => ∃ r : Nat, r ≤ 3 ∧ v = .int .i64 r ∧ ∃ (a b1 c d : Nat) (tt : Int), u = .int .i64 tt ∧ Hid (bub (9 - 3 * r) (3 * r) ⟨a, b1, c, d, tt⟩ = ⟨i', j', k', m', t⟩) ∧ Hid (tt = 1 ∨ tt = -1) ∧ wr.heap[w.heap.size]? = some (.cells #[.int .i64 a, .int .i64 b1, .int .i64 c, .int .i64 d] 88 (0, 0)) ∧ Below w.heap.size w wr ∧ w.heap.size < wr.heap.size)
    (fun _ v _ => 3 - (intOf v).toNat)
  case atStart => exact ⟨0, by decide, rfl, i, j, k, m, 1, rfl, HB, .inl rfl, k0, hB, z0⟩
  case round =>
    clear k0 hB z0 HB
    obtain ⟨r, hr, rfl, a, b1, c, d, tt, rfl, HB, HT', k0, hB, z0⟩ := hrel
    by_cases hlt : r < 3
    case neg =>
      have hge : ¬ (r : Int) < 3 := by omega
      have e3 : r = 3 := by omega
      subst e3
      have e := bub_last HB.out
      cases e
      clear HB HT'
      obtain ⟨kq, kr⟩ := cellB k0
      have hP : Hid (PtsAt wr b off n X Y Z) := hp.out.mono hB hp.out.1
      have x0 : ∀ w, (Instr.index 88 (.agg #[.int .i64 i', .int .i64 j', .int .i64 k', .int .i64 m']) (.int .i64 0)).run Try.prog w = .ok (.int .i64 i') w := fun _ => by kernel_rfl
      have x1 : ∀ w, (Instr.index 88 (.agg #[.int .i64 i', .int .i64 j', .int .i64 k', .int .i64 m']) (.int .i64 1)).run Try.prog w = .ok (.int .i64 j') w := fun _ => by kernel_rfl
      have x2 : ∀ w, (Instr.index 88 (.agg #[.int .i64 i', .int .i64 j', .int .i64 k', .int .i64 m']) (.int .i64 2)).run Try.prog w = .ok (.int .i64 k') w := fun _ => by kernel_rfl
      have x3 : ∀ w, (Instr.index 88 (.agg #[.int .i64 i', .int .i64 j', .int .i64 k', .int .i64 m']) (.int .i64 3)).run Try.prog w = .ok (.int .i64 m') w := fun _ => by kernel_rfl
      go_wp2_with fail
      first | refine wp_named ?_ | refine calls_named ?_
      intro V0 hW
      have k1 : V0.heap[wr.heap.size]? = some (.cells #[.int .i64 0, .int .i64 0, .int .i64 0, .int .i64 0, .int .i64 0, .int .i64 0, .int .i64 0, .int .i64 0, .int .i64 0, .int .i64 0, .int .i64 0, .int .i64 0] 89 (0, 0)) := by rw [hW]; exact heap_at rfl
      have z1 : wr.heap.size < V0.heap.size := by rw [hW]; simp
      have hB0 : Below wr.heap.size wr V0 := by rw [hW]; go_grown
      clear hW kq kr
      replace hP : Hid (PtsAt V0 b off n X Y Z) := hP.out.mono hB0 hP.out.1
      replace hB := after hB hB0
      clear hB0 k0
      have hbr : b < wr.heap.size := Nat.lt_of_lt_of_le hp.out.1 (Nat.le_of_lt z0)
      have zw : w.heap.size ≤ wr.heap.size := Nat.le_of_lt z0
      clear z0
      refine wp_loop_rounds 5 ?_
      rw [rounds_succ]
      obtain ⟨g1, g2, g3⟩ := hP.out.2 i' hi'
      have c1 : (co (X i') && co (Y i') && co (Z i')) = true := by rw [(co_iff _).2 (hco.out _ hi').1, (co_iff _).2 (hco.out _ hi').2.1, (co_iff _).2 (hco.out _ hi').2.2]; rfl
      have C1 := Lib.hid c1
      clear c1
      go_wp2_with fail
      refine (orient_may (X i') (Y i') (Z i') _).mono ?_; rintro e U0 ⟨rfl, hX⟩
      simp only [C1.out]
      clear C1
      replace k1 := (hX.block _ z1).trans k1
      replace z1 := Nat.lt_of_lt_of_le z1 hX.size
      replace hP : Hid (PtsAt U0 b off n X Y Z) := hP.out.mono hX hP.out.1
      replace hB := after hB hX
      clear hX g1 g2 g3
      obtain ⟨g1, g2, g3⟩ := hP.out.2 i' hi'
      obtain ⟨kq, kr⟩ := cellB k1
      go_wp2_with fail
      rw [rounds_succ]
      first | refine wp_named ?_ | refine calls_named ?_
      intro V1 hW
      replace k1 : V1.heap[wr.heap.size]? = some (.cells #[.int .i64 (X i'), .int .i64 (Y i'), .int .i64 (Z i'), .int .i64 0, .int .i64 0, .int .i64 0, .int .i64 0, .int .i64 0, .int .i64 0, .int .i64 0, .int .i64 0, .int .i64 0] 89 (0, 0)) := by rw [hW]; refine Eq.trans (set_own (set_own (set_own k1 _) _) _) ?_; simp
      replace z1 : wr.heap.size < V1.heap.size := by rw [hW]; simpa using z1
      replace hB : Below w.heap.size w V1 := by rw [hW]; exact ((hB.setCell zw _).setCell zw _).setCell zw _
      have hL : Below wr.heap.size U0 V1 := by rw [hW]; go_grown
      replace hP : Hid (PtsAt V1 b off n X Y Z) := hP.out.mono hL hbr
      clear hL hW kq kr g1 g2 g3
      obtain ⟨g1, g2, g3⟩ := hP.out.2 j' hj'
      have c1 : (co (X j') && co (Y j') && co (Z j')) = true := by rw [(co_iff _).2 (hco.out _ hj').1, (co_iff _).2 (hco.out _ hj').2.1, (co_iff _).2 (hco.out _ hj').2.2]; rfl
      have C1 := Lib.hid c1
      clear c1
      go_wp2_with fail
      refine (orient_may (X j') (Y j') (Z j') _).mono ?_; rintro e U1 ⟨rfl, hX⟩
      simp only [C1.out]
      clear C1
      replace k1 := (hX.block _ z1).trans k1
      replace z1 := Nat.lt_of_lt_of_le z1 hX.size
      replace hP : Hid (PtsAt U1 b off n X Y Z) := hP.out.mono hX hP.out.1
      replace hB := after hB hX
      clear hX g1 g2 g3
      obtain ⟨g1, g2, g3⟩ := hP.out.2 j' hj'
      obtain ⟨kq, kr⟩ := cellB k1
      go_wp2_with fail
      rw [rounds_succ]
      first | refine wp_named ?_ | refine calls_named ?_
      intro V2 hW
      replace k1 : V2.heap[wr.heap.size]? = some (.cells #[.int .i64 (X i'), .int .i64 (Y i'), .int .i64 (Z i'), .int .i64 (X j'), .int .i64 (Y j'), .int .i64 (Z j'), .int .i64 0, .int .i64 0, .int .i64 0, .int .i64 0, .int .i64 0, .int .i64 0] 89 (0, 0)) := by rw [hW]; refine Eq.trans (set_own (set_own (set_own k1 _) _) _) ?_; simp
      replace z1 : wr.heap.size < V2.heap.size := by rw [hW]; simpa using z1
      replace hB : Below w.heap.size w V2 := by rw [hW]; exact ((hB.setCell zw _).setCell zw _).setCell zw _
      have hL : Below wr.heap.size U1 V2 := by rw [hW]; go_grown
      replace hP : Hid (PtsAt V2 b off n X Y Z) := hP.out.mono hL hbr
      clear hL hW kq kr g1 g2 g3
      obtain ⟨g1, g2, g3⟩ := hP.out.2 k' hk'
      have c1 : (co (X k') && co (Y k') && co (Z k')) = true := by rw [(co_iff _).2 (hco.out _ hk').1, (co_iff _).2 (hco.out _ hk').2.1, (co_iff _).2 (hco.out _ hk').2.2]; rfl
      have C1 := Lib.hid c1
      clear c1
      go_wp2_with fail
      refine (orient_may (X k') (Y k') (Z k') _).mono ?_; rintro e U2 ⟨rfl, hX⟩
      simp only [C1.out]
      clear C1
      replace k1 := (hX.block _ z1).trans k1
      replace z1 := Nat.lt_of_lt_of_le z1 hX.size
      replace hP : Hid (PtsAt U2 b off n X Y Z) := hP.out.mono hX hP.out.1
      replace hB := after hB hX
      clear hX g1 g2 g3
      obtain ⟨g1, g2, g3⟩ := hP.out.2 k' hk'
      obtain ⟨kq, kr⟩ := cellB k1
      go_wp2_with fail
      rw [rounds_succ]
      first | refine wp_named ?_ | refine calls_named ?_
      intro V3 hW
      replace k1 : V3.heap[wr.heap.size]? = some (.cells #[.int .i64 (X i'), .int .i64 (Y i'), .int .i64 (Z i'), .int .i64 (X j'), .int .i64 (Y j'), .int .i64 (Z j'), .int .i64 (X k'), .int .i64 (Y k'), .int .i64 (Z k'), .int .i64 0, .int .i64 0, .int .i64 0] 89 (0, 0)) := by rw [hW]; refine Eq.trans (set_own (set_own (set_own k1 _) _) _) ?_; simp
      replace z1 : wr.heap.size < V3.heap.size := by rw [hW]; simpa using z1
      replace hB : Below w.heap.size w V3 := by rw [hW]; exact ((hB.setCell zw _).setCell zw _).setCell zw _
      have hL : Below wr.heap.size U2 V3 := by rw [hW]; go_grown
      replace hP : Hid (PtsAt V3 b off n X Y Z) := hP.out.mono hL hbr
      clear hL hW kq kr g1 g2 g3
      obtain ⟨g1, g2, g3⟩ := hP.out.2 m' hm'
      have c1 : (co (X m') && co (Y m') && co (Z m')) = true := by rw [(co_iff _).2 (hco.out _ hm').1, (co_iff _).2 (hco.out _ hm').2.1, (co_iff _).2 (hco.out _ hm').2.2]; rfl
      have C1 := Lib.hid c1
      clear c1
      go_wp2_with fail
      refine (orient_may (X m') (Y m') (Z m') _).mono ?_; rintro e U3 ⟨rfl, hX⟩
      simp only [C1.out]
      clear C1
      replace k1 := (hX.block _ z1).trans k1
      replace z1 := Nat.lt_of_lt_of_le z1 hX.size
      replace hP : Hid (PtsAt U3 b off n X Y Z) := hP.out.mono hX hP.out.1
      replace hB := after hB hX
      clear hX g1 g2 g3
      obtain ⟨g1, g2, g3⟩ := hP.out.2 m' hm'
      obtain ⟨kq, kr⟩ := cellB k1
      go_wp2_with fail
      rw [rounds_succ]
      first | refine wp_named ?_ | refine calls_named ?_
      intro V4 hW
      replace k1 : V4.heap[wr.heap.size]? = some (.cells #[.int .i64 (X i'), .int .i64 (Y i'), .int .i64 (Z i'), .int .i64 (X j'), .int .i64 (Y j'), .int .i64 (Z j'), .int .i64 (X k'), .int .i64 (Y k'), .int .i64 (Z k'), .int .i64 (X m'), .int .i64 (Y m'), .int .i64 (Z m')] 89 (0, 0)) := by rw [hW]; refine Eq.trans (set_own (set_own (set_own k1 _) _) _) ?_; simp
      replace z1 : wr.heap.size < V4.heap.size := by rw [hW]; simpa using z1
      replace hB : Below w.heap.size w V4 := by rw [hW]; exact ((hB.setCell zw _).setCell zw _).setCell zw _
      have hL : Below wr.heap.size U3 V4 := by rw [hW]; go_grown
      replace hP : Hid (PtsAt V4 b off n X Y Z) := hP.out.mono hL hbr
      clear hL hW kq kr g1 g2 g3
      obtain ⟨kq, kr⟩ := cellB k1
      go_wp2_with fail
      refine (hs.out _).mono ?_; rintro e U ⟨rfl, hX⟩
      replace hB := after hB hX
      clear hX kq kr
      have t1 := HT.out
      have t2 : -9223372036854775808 ≤ t * s := by rcases t1 with rfl | rfl <;> omega
      have t3 : t * s ≤ 9223372036854775807 := by rcases t1 with rfl | rfl <;> omega
      clear t1
      go_wp2
      go_returns
      exact ⟨rfl, hB⟩
    have hlt' : (r : Int) < 3 := by omega
    go_wp2_with fail
    go_loopw [17, 54] (fun u v wr => ∃ p : Nat, p ≤ 3 ∧ v = .int .i64 p ∧ ∃ (a b1 c d : Nat) (tt : Int), u = .int .i64 tt ∧ Hid (bub (9 - 3 * r - p) (3 * r + p) ⟨a, b1, c, d, tt⟩ = ⟨i', j', k', m', t⟩) ∧ Hid (tt = 1 ∨ tt = -1) ∧ wr.heap[w.heap.size]? = some (.cells #[.int .i64 a, .int .i64 b1, .int .i64 c, .int .i64 d] 88 (0, 0)) ∧ Below w.heap.size w wr ∧ w.heap.size < wr.heap.size)
      (fun _ v _ => 3 - (intOf v).toNat)
    case atStart => exact ⟨0, by decide, rfl, a, b1, c, d, tt, rfl, HB, HT', k0, hB, z0⟩
    case round =>
      clear k0 hB z0 HB HT'
      obtain ⟨p, hp3, rfl, a, b1, c, d, tt, rfl, HB, HT', k0, hB, z0⟩ := hrel
      obtain ⟨kq, kr⟩ := cellB k0
      have y1 : IntKind.i64.wrap 1 = 1 := by decide
      have y2 : IntKind.i64.wrap 2 = 2 := by decide
      have y3 : IntKind.i64.wrap 3 = 3 := by decide
      have hp4 : p = 0 ∨ p = 1 ∨ p = 2 ∨ p = 3 := by omega
      rcases hp4 with rfl | rfl | rfl | rfl
      · go_wp2_with fail
        refine wp_calm0 8 (by kernel_rfl) (by kernel_rfl) ?_
        intro K hK
        repeat (refine wpCalm_step (fun M hM => ?_); go_simp; first | (refine hM _ ?_; clear hM M) | (apply Exists.intro; refine ⟨fun wc hw => ?_, hM _ ?_⟩; (obtain ⟨hc, hf⟩ := bcell (hK wc hw); go_simp; first | exact rfl); clear hM M))
        refine wpCalm_nil ?_
        clear hK K kq kr
        intro WX hX
        replace k0 := (hX.block _ z0).trans k0
        replace z0 := Nat.lt_of_lt_of_le z0 hX.size
        replace hB := after hB hX
        clear hX
        simp only [List.drop_succ_cons, List.drop_zero]
        obtain ⟨kq, kr⟩ := cellB k0
        by_cases hsw : b1 < a
        · have t1 : -1 ≤ tt := by have := HT'.out; omega
          have t2 : tt ≤ 1 := by have := HT'.out; omega
          go_wp2_with fail
          go_region
          all_goals clear kq kr
          all_goals go_wp2
          all_goals go_roundw
          case rel => first | exact ⟨0 + 1, by decide, by go_num, b1, a, c, d, _, rfl, (by have := bub_step hlt (by decide) HB.out; rw [swp_y0 hsw] at this; exact this), (by have := HT'.out; show _ ∨ _; omega), set_own (set_own k0 _) _, by go_grown, by simpa using z0⟩ | ((repeat apply Exists.intro); exact ⟨⟨0 + 1, by decide, by go_num, b1, a, c, d, _, rfl, (by have := bub_step hlt (by decide) HB.out; rw [swp_y0 hsw] at this; exact this), (by have := HT'.out; show _ ∨ _; omega), set_own (set_own k0 _) _, by go_grown, by simpa using z0⟩, rfl⟩)
          case measure => simp [intOf]
          case rel => first | exact ⟨0 + 1, by decide, by go_num, b1, a, c, d, _, rfl, (by have := bub_step hlt (by decide) HB.out; rw [swp_y0 hsw] at this; exact this), (by have := HT'.out; show _ ∨ _; omega), set_own (set_own k0 _) _, by go_grown, by simpa using z0⟩ | ((repeat apply Exists.intro); exact ⟨⟨0 + 1, by decide, by go_num, b1, a, c, d, _, rfl, (by have := bub_step hlt (by decide) HB.out; rw [swp_y0 hsw] at this; exact this), (by have := HT'.out; show _ ∨ _; omega), set_own (set_own k0 _) _, by go_grown, by simpa using z0⟩, rfl⟩)
          case measure => simp [intOf]
        · go_wp2
          go_roundw
          case rel => first | exact ⟨0 + 1, by decide, by go_num, a, b1, c, d, tt, rfl, (by have := bub_step hlt (by decide) HB.out; rw [swp_n0 hsw] at this; exact this), HT', k0, hB, z0⟩ | ((repeat apply Exists.intro); exact ⟨⟨0 + 1, by decide, by go_num, a, b1, c, d, tt, rfl, (by have := bub_step hlt (by decide) HB.out; rw [swp_n0 hsw] at this; exact this), HT', k0, hB, z0⟩, rfl⟩)
          case measure => simp [intOf]
      · go_wp2_with fail
        refine wp_calm0 8 (by kernel_rfl) (by kernel_rfl) ?_
        intro K hK
        repeat (refine wpCalm_step (fun M hM => ?_); go_simp; first | (refine hM _ ?_; clear hM M) | (apply Exists.intro; refine ⟨fun wc hw => ?_, hM _ ?_⟩; (obtain ⟨hc, hf⟩ := bcell (hK wc hw); go_simp; first | exact rfl); clear hM M))
        refine wpCalm_nil ?_
        clear hK K kq kr
        intro WX hX
        replace k0 := (hX.block _ z0).trans k0
        replace z0 := Nat.lt_of_lt_of_le z0 hX.size
        replace hB := after hB hX
        clear hX
        simp only [List.drop_succ_cons, List.drop_zero]
        obtain ⟨kq, kr⟩ := cellB k0
        by_cases hsw : c < b1
        · have t1 : -1 ≤ tt := by have := HT'.out; omega
          have t2 : tt ≤ 1 := by have := HT'.out; omega
          go_wp2_with fail
          go_region
          all_goals clear kq kr
          all_goals go_wp2
          all_goals go_roundw
          case rel => first | exact ⟨1 + 1, by decide, by go_num, a, c, b1, d, _, rfl, (by have := bub_step hlt (by decide) HB.out; rw [swp_y1 hsw] at this; exact this), (by have := HT'.out; show _ ∨ _; omega), set_own (set_own k0 _) _, by go_grown, by simpa using z0⟩ | ((repeat apply Exists.intro); exact ⟨⟨1 + 1, by decide, by go_num, a, c, b1, d, _, rfl, (by have := bub_step hlt (by decide) HB.out; rw [swp_y1 hsw] at this; exact this), (by have := HT'.out; show _ ∨ _; omega), set_own (set_own k0 _) _, by go_grown, by simpa using z0⟩, rfl⟩)
          case measure => simp [intOf]
          case rel => first | exact ⟨1 + 1, by decide, by go_num, a, c, b1, d, _, rfl, (by have := bub_step hlt (by decide) HB.out; rw [swp_y1 hsw] at this; exact this), (by have := HT'.out; show _ ∨ _; omega), set_own (set_own k0 _) _, by go_grown, by simpa using z0⟩ | ((repeat apply Exists.intro); exact ⟨⟨1 + 1, by decide, by go_num, a, c, b1, d, _, rfl, (by have := bub_step hlt (by decide) HB.out; rw [swp_y1 hsw] at this; exact this), (by have := HT'.out; show _ ∨ _; omega), set_own (set_own k0 _) _, by go_grown, by simpa using z0⟩, rfl⟩)
          case measure => simp [intOf]
        · go_wp2
          go_roundw
          case rel => first | exact ⟨1 + 1, by decide, by go_num, a, b1, c, d, tt, rfl, (by have := bub_step hlt (by decide) HB.out; rw [swp_n1 hsw] at this; exact this), HT', k0, hB, z0⟩ | ((repeat apply Exists.intro); exact ⟨⟨1 + 1, by decide, by go_num, a, b1, c, d, tt, rfl, (by have := bub_step hlt (by decide) HB.out; rw [swp_n1 hsw] at this; exact this), HT', k0, hB, z0⟩, rfl⟩)
          case measure => simp [intOf]
      · go_wp2_with fail
        refine wp_calm0 8 (by kernel_rfl) (by kernel_rfl) ?_
        intro K hK
        repeat (refine wpCalm_step (fun M hM => ?_); go_simp; first | (refine hM _ ?_; clear hM M) | (apply Exists.intro; refine ⟨fun wc hw => ?_, hM _ ?_⟩; (obtain ⟨hc, hf⟩ := bcell (hK wc hw); go_simp; first | exact rfl); clear hM M))
        refine wpCalm_nil ?_
        clear hK K kq kr
        intro WX hX
        replace k0 := (hX.block _ z0).trans k0
        replace z0 := Nat.lt_of_lt_of_le z0 hX.size
        replace hB := after hB hX
        clear hX
        simp only [List.drop_succ_cons, List.drop_zero]
        obtain ⟨kq, kr⟩ := cellB k0
        by_cases hsw : d < c
        · have t1 : -1 ≤ tt := by have := HT'.out; omega
          have t2 : tt ≤ 1 := by have := HT'.out; omega
          go_wp2_with fail
          go_region
          all_goals clear kq kr
          all_goals go_wp2
          all_goals go_roundw
          case rel => first | exact ⟨2 + 1, by decide, by go_num, a, b1, d, c, _, rfl, (by have := bub_step hlt (by decide) HB.out; rw [swp_y2 hsw] at this; exact this), (by have := HT'.out; show _ ∨ _; omega), set_own (set_own k0 _) _, by go_grown, by simpa using z0⟩ | ((repeat apply Exists.intro); exact ⟨⟨2 + 1, by decide, by go_num, a, b1, d, c, _, rfl, (by have := bub_step hlt (by decide) HB.out; rw [swp_y2 hsw] at this; exact this), (by have := HT'.out; show _ ∨ _; omega), set_own (set_own k0 _) _, by go_grown, by simpa using z0⟩, rfl⟩)
          case measure => simp [intOf]
          case rel => first | exact ⟨2 + 1, by decide, by go_num, a, b1, d, c, _, rfl, (by have := bub_step hlt (by decide) HB.out; rw [swp_y2 hsw] at this; exact this), (by have := HT'.out; show _ ∨ _; omega), set_own (set_own k0 _) _, by go_grown, by simpa using z0⟩ | ((repeat apply Exists.intro); exact ⟨⟨2 + 1, by decide, by go_num, a, b1, d, c, _, rfl, (by have := bub_step hlt (by decide) HB.out; rw [swp_y2 hsw] at this; exact this), (by have := HT'.out; show _ ∨ _; omega), set_own (set_own k0 _) _, by go_grown, by simpa using z0⟩, rfl⟩)
          case measure => simp [intOf]
        · go_wp2
          go_roundw
          case rel => first | exact ⟨2 + 1, by decide, by go_num, a, b1, c, d, tt, rfl, (by have := bub_step hlt (by decide) HB.out; rw [swp_n2 hsw] at this; exact this), HT', k0, hB, z0⟩ | ((repeat apply Exists.intro); exact ⟨⟨2 + 1, by decide, by go_num, a, b1, c, d, tt, rfl, (by have := bub_step hlt (by decide) HB.out; rw [swp_n2 hsw] at this; exact this), HT', k0, hB, z0⟩, rfl⟩)
          case measure => simp [intOf]
      · go_wp2
        go_roundw
        case rel => exact ⟨r + 1, by omega, by go_num, a, b1, c, d, tt, rfl, bub_next HB.out, HT', k0, hB, z0⟩
        case measure => simp [intOf]; omega
end Go.Proofs.Ytdglijdiiggdgaa
