import Derived.Test.YtdglijdiiggdgaaMfa
import Derived.Maps.OwnSet
import Derived.Maps.RangeWalk
import Derived.Maps.OwnRows
import Derived.OwnWalk
import Derived.Maps.OwnOps
import Derived.DeepKeys4
import Derived.WideKeyPair
namespace Go.Proofs.Ytdglijdiiggdgaa
open Go.RowKit

/-- The points of a list in memory. -/
def PtsAt (w : World) (b off n : Nat) (X Y Z : Nat → Int) : Prop :=
  b < w.heap.size ∧ ∀ i, i < n → w.cell? ⟨b, off + i * 3, none⟩ = some (.int .i64 (X i)) ∧ w.cell? ⟨b, off + i * 3 + 1, none⟩ = some (.int .i64 (Y i)) ∧ w.cell? ⟨b, off + i * 3 + 2, none⟩ = some (.int .i64 (Z i))
theorem PtsAt.mono {w w' : World} {b off n : Nat} {X Y Z : Nat → Int} (h : PtsAt w b off n X Y Z) {B : Nat} (hB : Below B w w') (hb : b < B) : PtsAt w' b off n X Y Z := by
  refine ⟨Nat.lt_of_lt_of_le h.1 hB.size, fun i hi => ?_⟩
  obtain ⟨h1, h2, h3⟩ := h.2 i hi
  exact ⟨(hB.cell (p := ⟨b, _, none⟩) hb).trans h1, (hB.cell (p := ⟨b, _, none⟩) hb).trans h2, (hB.cell (p := ⟨b, _, none⟩) hb).trans h3⟩

structure St4 where
  a : Nat
  b : Nat
  c : Nat
  d : Nat
  t : Int
def swp (p : Nat) (s : St4) : St4 :=
  if p % 3 = 0 then (if s.b < s.a then ⟨s.b, s.a, s.c, s.d, -s.t⟩ else s)
  else if p % 3 = 1 then (if s.c < s.b then ⟨s.a, s.c, s.b, s.d, -s.t⟩ else s)
  else (if s.d < s.c then ⟨s.a, s.b, s.d, s.c, -s.t⟩ else s)
def bub : Nat → Nat → St4 → St4
  | 0, _, s => s
  | n + 1, p, s => bub n (p + 1) (swp p s)

theorem bub_step {r p : Nat} {s z : St4} (hr : r < 3) (hp : p < 3) (h : bub (9 - 3 * r - p) (3 * r + p) s = z) : bub (9 - 3 * r - (p + 1)) (3 * r + (p + 1)) (swp (3 * r + p) s) = z := by
  rw [show 9 - 3 * r - p = (9 - 3 * r - (p + 1)) + 1 by omega] at h
  exact h
theorem bub_next {r : Nat} {s z : St4} (h : bub (9 - 3 * r - 3) (3 * r + 3) s = z) : bub (9 - 3 * (r + 1)) (3 * (r + 1)) s = z := by
  rw [show 9 - 3 * (r + 1) = 9 - 3 * r - 3 by omega, show 3 * (r + 1) = 3 * r + 3 by omega]; exact h
theorem bub_end (p : Nat) (s : St4) : bub 0 p s = s := rfl
theorem bub_last {s z : St4} (h : bub (9 - 3 * 3) (3 * 3) s = z) : s = z := h
section
variable {r a b c d : Nat} {t : Int}
theorem swp_y0 (h : b < a) : swp (3 * r + 0) ⟨a, b, c, d, t⟩ = ⟨b, a, c, d, -t⟩ := by unfold swp; rw [if_pos (by omega), if_pos h]
theorem swp_n0 (h : ¬ b < a) : swp (3 * r + 0) ⟨a, b, c, d, t⟩ = ⟨a, b, c, d, t⟩ := by unfold swp; rw [if_pos (by omega), if_neg h]
theorem swp_y1 (h : c < b) : swp (3 * r + 1) ⟨a, b, c, d, t⟩ = ⟨a, c, b, d, -t⟩ := by unfold swp; rw [if_neg (by omega), if_pos (by omega), if_pos h]
theorem swp_n1 (h : ¬ c < b) : swp (3 * r + 1) ⟨a, b, c, d, t⟩ = ⟨a, b, c, d, t⟩ := by unfold swp; rw [if_neg (by omega), if_pos (by omega), if_neg h]
theorem swp_y2 (h : d < c) : swp (3 * r + 2) ⟨a, b, c, d, t⟩ = ⟨a, b, d, c, -t⟩ := by unfold swp; rw [if_neg (by omega), if_neg (by omega), if_pos h]
theorem swp_n2 (h : ¬ d < c) : swp (3 * r + 2) ⟨a, b, c, d, t⟩ = ⟨a, b, c, d, t⟩ := by unfold swp; rw [if_neg (by omega), if_neg (by omega), if_neg h]
end
attribute [irreducible] bub
set_option maxRecDepth 100000 in
set_option maxHeartbeats 6000000 in
theorem sign_good (b off n cp : Nat) (X Y Z : Nat → Int) (i j k m i' j' k' m' : Nat) (t s : Int) (hn : n < 4611686018427387904)
    (hi : i < n) (hj : j < n) (hk : k < n) (hm : m < n) (h1 : i ≠ j) (h2 : i ≠ k) (h3 : i ≠ m) (h4 : j ≠ k) (h5 : j ≠ m) (h6 : k ≠ m)
    (hb : bub 9 0 ⟨i, j, k, m, 1⟩ = ⟨i', j', k', m', t⟩) (ht : t = 1 ∨ t = -1) (hi' : i' < n) (hj' : j' < n) (hk' : k' < n) (hm' : m' < n) (hs1 : -1 ≤ s) (hs2 : s ≤ 1) (hco : Hid (∀ i, i < n → Co (X i) ∧ Co (Y i) ∧ Co (Z i)))
    (hs : Hid (∀ w, Calls Try.prog 52 #[.agg #[.int .i64 (X i'), .int .i64 (Y i'), .int .i64 (Z i'), .int .i64 (X j'), .int .i64 (Y j'), .int .i64 (Z j'), .int .i64 (X k'), .int .i64 (Y k'), .int .i64 (Z k'), .int .i64 (X m'), .int .i64 (Y m'), .int .i64 (Z m')]] w fun e w' => e = .returned (.int .i64 s) ∧ Below w.heap.size w w'))
    (w : World) (hp : Hid (PtsAt w b off n X Y Z)) :
    Calls Try.prog 44 #[.slice (some ⟨b, off, none⟩) n cp, .int .i64 i, .int .i64 j, .int .i64 k, .int .i64 m] w fun e w' => e = .returned (.tuple #[.int .i64 (t * s), .int .i64 0]) ∧ Below w.heap.size w w' := by
  have d0 : decide ((i:Int) < 0) = false := by simp
  have d1 : decide ((j:Int) < 0) = false := by simp
  have d2 : decide ((k:Int) < 0) = false := by simp
  have d3 : decide ((m:Int) < 0) = false := by simp
  have d4 : decide (n ≤ i) = false := by simp; omega
  have d5 : decide (n ≤ j) = false := by simp; omega
  have d6 : decide (n ≤ k) = false := by simp; omega
  have d7 : decide (n ≤ m) = false := by simp; omega
  have HB := Lib.hid hb
  clear hb
  have HT := Lib.hid ht
  clear ht
  have q1 : ¬ j = i := fun h => h1 h.symm
  have q2 : ¬ k = i := fun h => h2 h.symm
  have q3 : ¬ m = i := fun h => h3 h.symm
  have q4 : ¬ k = j := fun h => h4 h.symm
  have q5 : ¬ m = j := fun h => h5 h.symm
  have q6 : ¬ m = k := fun h => h6 h.symm
  have x0 : ∀ w, (Instr.index 88 (.agg #[.int .i64 i, .int .i64 j, .int .i64 k, .int .i64 m]) (.int .i64 0)).run Try.prog w = .ok (.int .i64 i) w := fun _ => by kernel_rfl
  have x1 : ∀ w, (Instr.index 88 (.agg #[.int .i64 i, .int .i64 j, .int .i64 k, .int .i64 m]) (.int .i64 1)).run Try.prog w = .ok (.int .i64 j) w := fun _ => by kernel_rfl
  have x2 : ∀ w, (Instr.index 88 (.agg #[.int .i64 i, .int .i64 j, .int .i64 k, .int .i64 m]) (.int .i64 2)).run Try.prog w = .ok (.int .i64 k) w := fun _ => by kernel_rfl
  have x3 : ∀ w, (Instr.index 88 (.agg #[.int .i64 i, .int .i64 j, .int .i64 k, .int .i64 m]) (.int .i64 3)).run Try.prog w = .ok (.int .i64 m) w := fun _ => by kernel_rfl
  go_enter Try.func44, Try.ntmps44
  go_wp2_with fail
  refine wp_loop_rounds 5 ?_
  rw [rounds_succ]
  go_wp2_with fail
  go_rounds 4
  go_rounds 4
  go_rounds 4
  go_rounds 4
  first | refine wp_named ?_ | refine calls_named ?_
  intro W hW
  have k0 : W.heap[w.heap.size]? = some (.cells #[.int .i64 i, .int .i64 j, .int .i64 k, .int .i64 m] 88 (0, 0)) := by rw [hW]; exact heap_at rfl
  have z0 : w.heap.size < W.heap.size := by rw [hW]; simp
  have hB : Below w.heap.size w W := by rw [hW]; go_grown
  clear hW x0 x1 x2 x3
  have d8 : ((m : Int) == (k : Int)) = false := by simp; omega
  try simp only [d0, d1, d2, d3, d4, d5, d6, d7, d8]
  clear d8
  clear d0 d1 d2 d3 d4 d5 d6 d7
  go_loopw [17, 52] (fun u v wr => ∃ r : Nat, r ≤ 3 ∧ v = .int .i64 r ∧ ∃ (a b1 c d : Nat) (tt : Int), u = .int .i64 tt ∧ Hid (bub (9 - 3 * r) (3 * r) ⟨a, b1, c, d, tt⟩ = ⟨i', j', k', m', t⟩) ∧ Hid (tt = 1 ∨ tt = -1) ∧ wr.heap[w.heap.size]? = some (.cells #[.int .i64 a, .int .i64 b1, .int .i64 c, .int .i64 d] 88 (0, 0)) ∧ Below w.heap.size w wr ∧ w.heap.size < wr.heap.size)
    (fun _ v _ => 3 - (intOf v).toNat)
  case atStart => exact ⟨0, by decide, rfl, i, j, k, m, 1, rfl, HB, .inl rfl, k0, hB, z0⟩
  case round =>
    clear k0 hB z0 HB
    obtain ⟨r, hr, rfl, a, b1, c, d, tt, rfl, HB, HT', k0, hB, z0⟩ := hrel
    by_cases hlt : r < 3
    case neg =>
      have hge : ¬ (r : Int) < 3 := by omega
      have e3 : r = 3 := by omega
      subst e3
      have e := bub_last HB.out
      cases e
      clear HB HT'
      obtain ⟨kq, kr⟩ := cellB k0
      have hP : Hid (PtsAt wr b off n X Y Z) := hp.out.mono hB hp.out.1
      have x0 : ∀ w, (Instr.index 88 (.agg #[.int .i64 i', .int .i64 j', .int .i64 k', .int .i64 m']) (.int .i64 0)).run Try.prog w = .ok (.int .i64 i') w := fun _ => by kernel_rfl
      have x1 : ∀ w, (Instr.index 88 (.agg #[.int .i64 i', .int .i64 j', .int .i64 k', .int .i64 m']) (.int .i64 1)).run Try.prog w = .ok (.int .i64 j') w := fun _ => by kernel_rfl
      have x2 : ∀ w, (Instr.index 88 (.agg #[.int .i64 i', .int .i64 j', .int .i64 k', .int .i64 m']) (.int .i64 2)).run Try.prog w = .ok (.int .i64 k') w := fun _ => by kernel_rfl
      have x3 : ∀ w, (Instr.index 88 (.agg #[.int .i64 i', .int .i64 j', .int .i64 k', .int .i64 m']) (.int .i64 3)).run Try.prog w = .ok (.int .i64 m') w := fun _ => by kernel_rfl
      go_wp2_with fail
      first | refine wp_named ?_ | refine calls_named ?_
      intro V0 hW
      have k1 : V0.heap[wr.heap.size]? = some (.cells #[.int .i64 0, .int .i64 0, .int .i64 0, .int .i64 0, .int .i64 0, .int .i64 0, .int .i64 0, .int .i64 0, .int .i64 0, .int .i64 0, .int .i64 0, .int .i64 0] 89 (0, 0)) := by rw [hW]; exact heap_at rfl
      have z1 : wr.heap.size < V0.heap.size := by rw [hW]; simp
      have hB0 : Below wr.heap.size wr V0 := by rw [hW]; go_grown
      clear hW kq kr
      replace hP : Hid (PtsAt V0 b off n X Y Z) := hP.out.mono hB0 hP.out.1
      replace hB := after hB hB0
      clear hB0 k0
      have hbr : b < wr.heap.size := Nat.lt_of_lt_of_le hp.out.1 (Nat.le_of_lt z0)
      have zw : w.heap.size ≤ wr.heap.size := Nat.le_of_lt z0
      clear z0
      refine wp_loop_rounds 5 ?_
      rw [rounds_succ]
      obtain ⟨g1, g2, g3⟩ := hP.out.2 i' hi'
      have c1 : (co (X i') && co (Y i') && co (Z i')) = true := by rw [(co_iff _).2 (hco.out _ hi').1, (co_iff _).2 (hco.out _ hi').2.1, (co_iff _).2 (hco.out _ hi').2.2]; rfl
      have C1 := Lib.hid c1
      clear c1
      go_wp2_with fail
      refine (orient_may (X i') (Y i') (Z i') _).mono ?_; rintro e U0 ⟨rfl, hX⟩
      simp only [C1.out]
      clear C1
      replace k1 := (hX.block _ z1).trans k1
      replace z1 := Nat.lt_of_lt_of_le z1 hX.size
      replace hP : Hid (PtsAt U0 b off n X Y Z) := hP.out.mono hX hP.out.1
      replace hB := after hB hX
      clear hX g1 g2 g3
      obtain ⟨g1, g2, g3⟩ := hP.out.2 i' hi'
      obtain ⟨kq, kr⟩ := cellB k1
      go_wp2_with fail
      rw [rounds_succ]
      first | refine wp_named ?_ | refine calls_named ?_
      intro V1 hW
      replace k1 : V1.heap[wr.heap.size]? = some (.cells #[.int .i64 (X i'), .int .i64 (Y i'), .int .i64 (Z i'), .int .i64 0, .int .i64 0, .int .i64 0, .int .i64 0, .int .i64 0, .int .i64 0, .int .i64 0, .int .i64 0, .int .i64 0] 89 (0, 0)) := by rw [hW]; refine Eq.trans (set_own (set_own (set_own k1 _) _) _) ?_; simp
      replace z1 : wr.heap.size < V1.heap.size := by rw [hW]; simpa using z1
      replace hB : Below w.heap.size w V1 := by rw [hW]; exact ((hB.setCell zw _).setCell zw _).setCell zw _
      have hL : Below wr.heap.size U0 V1 := by rw [hW]; go_grown
      replace hP : Hid (PtsAt V1 b off n X Y Z) := hP.out.mono hL hbr
      clear hL hW kq kr g1 g2 g3
      obtain ⟨g1, g2, g3⟩ := hP.out.2 j' hj'
      have c1 : (co (X j') && co (Y j') && co (Z j')) = true := by rw [(co_iff _).2 (hco.out _ hj').1, (co_iff _).2 (hco.out _ hj').2.1, (co_iff _).2 (hco.out _ hj').2.2]; rfl
      have C1 := Lib.hid c1
      clear c1
      go_wp2_with fail
      refine (orient_may (X j') (Y j') (Z j') _).mono ?_; rintro e U1 ⟨rfl, hX⟩
      simp only [C1.out]
      clear C1
      replace k1 := (hX.block _ z1).trans k1
      replace z1 := Nat.lt_of_lt_of_le z1 hX.size
      replace hP : Hid (PtsAt U1 b off n X Y Z) := hP.out.mono hX hP.out.1
      replace hB := after hB hX
      clear hX g1 g2 g3
      obtain ⟨g1, g2, g3⟩ := hP.out.2 j' hj'
      obtain ⟨kq, kr⟩ := cellB k1
      go_wp2_with fail
      rw [rounds_succ]
      first | refine wp_named ?_ | refine calls_named ?_
      intro V2 hW
      replace k1 : V2.heap[wr.heap.size]? = some (.cells #[.int .i64 (X i'), .int .i64 (Y i'), .int .i64 (Z i'), .int .i64 (X j'), .int .i64 (Y j'), .int .i64 (Z j'), .int .i64 0, .int .i64 0, .int .i64 0, .int .i64 0, .int .i64 0, .int .i64 0] 89 (0, 0)) := by rw [hW]; refine Eq.trans (set_own (set_own (set_own k1 _) _) _) ?_; simp
      replace z1 : wr.heap.size < V2.heap.size := by rw [hW]; simpa using z1
      replace hB : Below w.heap.size w V2 := by rw [hW]; exact ((hB.setCell zw _).setCell zw _).setCell zw _
      have hL : Below wr.heap.size U1 V2 := by rw [hW]; go_grown
      replace hP : Hid (PtsAt V2 b off n X Y Z) := hP.out.mono hL hbr
      clear hL hW kq kr g1 g2 g3
      obtain ⟨g1, g2, g3⟩ := hP.out.2 k' hk'
      have c1 : (co (X k') && co (Y k') && co (Z k')) = true := by rw [(co_iff _).2 (hco.out _ hk').1, (co_iff _).2 (hco.out _ hk').2.1, (co_iff _).2 (hco.out _ hk').2.2]; rfl
      have C1 := Lib.hid c1
      clear c1
      go_wp2_with fail
      refine (orient_may (X k') (Y k') (Z k') _).mono ?_; rintro e U2 ⟨rfl, hX⟩
      simp only [C1.out]
      clear C1
      replace k1 := (hX.block _ z1).trans k1
      replace z1 := Nat.lt_of_lt_of_le z1 hX.size
      replace hP : Hid (PtsAt U2 b off n X Y Z) := hP.out.mono hX hP.out.1
      replace hB := after hB hX
      clear hX g1 g2 g3
      obtain ⟨g1, g2, g3⟩ := hP.out.2 k' hk'
      obtain ⟨kq, kr⟩ := cellB k1
      go_wp2_with fail
      rw [rounds_succ]
      first | refine wp_named ?_ | refine calls_named ?_
      intro V3 hW
      replace k1 : V3.heap[wr.heap.size]? = some (.cells #[.int .i64 (X i'), .int .i64 (Y i'), .int .i64 (Z i'), .int .i64 (X j'), .int .i64 (Y j'), .int .i64 (Z j'), .int .i64 (X k'), .int .i64 (Y k'), .int .i64 (Z k'), .int .i64 0, .int .i64 0, .int .i64 0] 89 (0, 0)) := by rw [hW]; refine Eq.trans (set_own (set_own (set_own k1 _) _) _) ?_; simp
      replace z1 : wr.heap.size < V3.heap.size := by rw [hW]; simpa using z1
      replace hB : Below w.heap.size w V3 := by rw [hW]; exact ((hB.setCell zw _).setCell zw _).setCell zw _
      have hL : Below wr.heap.size U2 V3 := by rw [hW]; go_grown
      replace hP : Hid (PtsAt V3 b off n X Y Z) := hP.out.mono hL hbr
      clear hL hW kq kr g1 g2 g3
      obtain ⟨g1, g2, g3⟩ := hP.out.2 m' hm'
      have c1 : (co (X m') && co (Y m') && co (Z m')) = true := by rw [(co_iff _).2 (hco.out _ hm').1, (co_iff _).2 (hco.out _ hm').2.1, (co_iff _).2 (hco.out _ hm').2.2]; rfl
      have C1 := Lib.hid c1
      clear c1
      go_wp2_with fail
      refine (orient_may (X m') (Y m') (Z m') _).mono ?_; rintro e U3 ⟨rfl, hX⟩
      simp only [C1.out]
      clear C1
      replace k1 := (hX.block _ z1).trans k1
      replace z1 := Nat.lt_of_lt_of_le z1 hX.size
      replace hP : Hid (PtsAt U3 b off n X Y Z) := hP.out.mono hX hP.out.1
      replace hB := after hB hX
      clear hX g1 g2 g3
      obtain ⟨g1, g2, g3⟩ := hP.out.2 m' hm'
      obtain ⟨kq, kr⟩ := cellB k1
      go_wp2_with fail
      rw [rounds_succ]
      first | refine wp_named ?_ | refine calls_named ?_
      intro V4 hW
      replace k1 : V4.heap[wr.heap.size]? = some (.cells #[.int .i64 (X i'), .int .i64 (Y i'), .int .i64 (Z i'), .int .i64 (X j'), .int .i64 (Y j'), .int .i64 (Z j'), .int .i64 (X k'), .int .i64 (Y k'), .int .i64 (Z k'), .int .i64 (X m'), .int .i64 (Y m'), .int .i64 (Z m')] 89 (0, 0)) := by rw [hW]; refine Eq.trans (set_own (set_own (set_own k1 _) _) _) ?_; simp
      replace z1 : wr.heap.size < V4.heap.size := by rw [hW]; simpa using z1
      replace hB : Below w.heap.size w V4 := by rw [hW]; exact ((hB.setCell zw _).setCell zw _).setCell zw _
      have hL : Below wr.heap.size U3 V4 := by rw [hW]; go_grown
      replace hP : Hid (PtsAt V4 b off n X Y Z) := hP.out.mono hL hbr
      clear hL hW kq kr g1 g2 g3
      obtain ⟨kq, kr⟩ := cellB k1
      go_wp2_with fail
      refine (hs.out _).mono ?_; rintro e U ⟨rfl, hX⟩
      replace hB := after hB hX
      clear hX kq kr
      have t1 := HT.out
      have t2 : -9223372036854775808 ≤ t * s := by rcases t1 with rfl | rfl <;> omega
      have t3 : t * s ≤ 9223372036854775807 := by rcases t1 with rfl | rfl <;> omega
      clear t1
      go_wp2
      go_returns
      exact ⟨rfl, hB⟩
    have hlt' : (r : Int) < 3 := by omega
    go_wp2_with fail
    go_loopw [17, 54] (fun u v wr => ∃ p : Nat, p ≤ 3 ∧ v = .int .i64 p ∧ ∃ (a b1 c d : Nat) (tt : Int), u = .int .i64 tt ∧ Hid (bub (9 - 3 * r - p) (3 * r + p) ⟨a, b1, c, d, tt⟩ = ⟨i', j', k', m', t⟩) ∧ Hid (tt = 1 ∨ tt = -1) ∧ wr.heap[w.heap.size]? = some (.cells #[.int .i64 a, .int .i64 b1, .int .i64 c, .int .i64 d] 88 (0, 0)) ∧ Below w.heap.size w wr ∧ w.heap.size < wr.heap.size)
      (fun _ v _ => 3 - (intOf v).toNat)
    case atStart => exact ⟨0, by decide, rfl, a, b1, c, d, tt, rfl, HB, HT', k0, hB, z0⟩
    case round =>
      clear k0 hB z0 HB HT'
      obtain ⟨p, hp3, rfl, a, b1, c, d, tt, rfl, HB, HT', k0, hB, z0⟩ := hrel
      obtain ⟨kq, kr⟩ := cellB k0
      have y1 : IntKind.i64.wrap 1 = 1 := by decide
      have y2 : IntKind.i64.wrap 2 = 2 := by decide
      have y3 : IntKind.i64.wrap 3 = 3 := by decide
      have hp4 : p = 0 ∨ p = 1 ∨ p = 2 ∨ p = 3 := by omega
      rcases hp4 with rfl | rfl | rfl | rfl
      · go_wp2_with fail
        refine wp_calm0 8 (by kernel_rfl) (by kernel_rfl) ?_
        intro K hK
        repeat (refine wpCalm_step (fun M hM => ?_); go_simp; first | (refine hM _ ?_; clear hM M) | (apply Exists.intro; refine ⟨fun wc hw => ?_, hM _ ?_⟩; (obtain ⟨hc, hf⟩ := bcell (hK wc hw); go_simp; first | exact rfl); clear hM M))
        refine wpCalm_nil ?_
        clear hK K kq kr
        intro WX hX
        replace k0 := (hX.block _ z0).trans k0
        replace z0 := Nat.lt_of_lt_of_le z0 hX.size
        replace hB := after hB hX
        clear hX
        simp only [List.drop_succ_cons, List.drop_zero]
        obtain ⟨kq, kr⟩ := cellB k0
        by_cases hsw : b1 < a
        · have t1 : -1 ≤ tt := by have := HT'.out; omega
          have t2 : tt ≤ 1 := by have := HT'.out; omega
          go_wp2_with fail
          go_region
          all_goals clear kq kr
          all_goals go_wp2
          all_goals go_roundw
          case rel => first | exact ⟨0 + 1, by decide, by go_num, b1, a, c, d, _, rfl, (by have := bub_step hlt (by decide) HB.out; rw [swp_y0 hsw] at this; exact this), (by have := HT'.out; show _ ∨ _; omega), set_own (set_own k0 _) _, by go_grown, by simpa using z0⟩ | ((repeat apply Exists.intro); exact ⟨⟨0 + 1, by decide, by go_num, b1, a, c, d, _, rfl, (by have := bub_step hlt (by decide) HB.out; rw [swp_y0 hsw] at this; exact this), (by have := HT'.out; show _ ∨ _; omega), set_own (set_own k0 _) _, by go_grown, by simpa using z0⟩, rfl⟩)
          case measure => simp [intOf]
          case rel => first | exact ⟨0 + 1, by decide, by go_num, b1, a, c, d, _, rfl, (by have := bub_step hlt (by decide) HB.out; rw [swp_y0 hsw] at this; exact this), (by have := HT'.out; show _ ∨ _; omega), set_own (set_own k0 _) _, by go_grown, by simpa using z0⟩ | ((repeat apply Exists.intro); exact ⟨⟨0 + 1, by decide, by go_num, b1, a, c, d, _, rfl, (by have := bub_step hlt (by decide) HB.out; rw [swp_y0 hsw] at this; exact this), (by have := HT'.out; show _ ∨ _; omega), set_own (set_own k0 _) _, by go_grown, by simpa using z0⟩, rfl⟩)
          case measure => simp [intOf]
        · go_wp2
          go_roundw
          case rel => first | exact ⟨0 + 1, by decide, by go_num, a, b1, c, d, tt, rfl, (by have := bub_step hlt (by decide) HB.out; rw [swp_n0 hsw] at this; exact this), HT', k0, hB, z0⟩ | ((repeat apply Exists.intro); exact ⟨⟨0 + 1, by decide, by go_num, a, b1, c, d, tt, rfl, (by have := bub_step hlt (by decide) HB.out; rw [swp_n0 hsw] at this; exact this), HT', k0, hB, z0⟩, rfl⟩)
          case measure => simp [intOf]
      · go_wp2_with fail
        refine wp_calm0 8 (by kernel_rfl) (by kernel_rfl) ?_
        intro K hK
        repeat (refine wpCalm_step (fun M hM => ?_); go_simp; first | (refine hM _ ?_; clear hM M) | (apply Exists.intro; refine ⟨fun wc hw => ?_, hM _ ?_⟩; (obtain ⟨hc, hf⟩ := bcell (hK wc hw); go_simp; first | exact rfl); clear hM M))
        refine wpCalm_nil ?_
        clear hK K kq kr
        intro WX hX
        replace k0 := (hX.block _ z0).trans k0
        replace z0 := Nat.lt_of_lt_of_le z0 hX.size
        replace hB := after hB hX
        clear hX
        simp only [List.drop_succ_cons, List.drop_zero]
        obtain ⟨kq, kr⟩ := cellB k0
        by_cases hsw : c < b1
        · have t1 : -1 ≤ tt := by have := HT'.out; omega
          have t2 : tt ≤ 1 := by have := HT'.out; omega
          go_wp2_with fail
          go_region
          all_goals clear kq kr
          all_goals go_wp2
          all_goals go_roundw
          case rel => first | exact ⟨1 + 1, by decide, by go_num, a, c, b1, d, _, rfl, (by have := bub_step hlt (by decide) HB.out; rw [swp_y1 hsw] at this; exact this), (by have := HT'.out; show _ ∨ _; omega), set_own (set_own k0 _) _, by go_grown, by simpa using z0⟩ | ((repeat apply Exists.intro); exact ⟨⟨1 + 1, by decide, by go_num, a, c, b1, d, _, rfl, (by have := bub_step hlt (by decide) HB.out; rw [swp_y1 hsw] at this; exact this), (by have := HT'.out; show _ ∨ _; omega), set_own (set_own k0 _) _, by go_grown, by simpa using z0⟩, rfl⟩)
          case measure => simp [intOf]
          case rel => first | exact ⟨1 + 1, by decide, by go_num, a, c, b1, d, _, rfl, (by have := bub_step hlt (by decide) HB.out; rw [swp_y1 hsw] at this; exact this), (by have := HT'.out; show _ ∨ _; omega), set_own (set_own k0 _) _, by go_grown, by simpa using z0⟩ | ((repeat apply Exists.intro); exact ⟨⟨1 + 1, by decide, by go_num, a, c, b1, d, _, rfl, (by have := bub_step hlt (by decide) HB.out; rw [swp_y1 hsw] at this; exact this), (by have := HT'.out; show _ ∨ _; omega), set_own (set_own k0 _) _, by go_grown, by simpa using z0⟩, rfl⟩)
          case measure => simp [intOf]
        · go_wp2
          go_roundw
          case rel => first | exact ⟨1 + 1, by decide, by go_num, a, b1, c, d, tt, rfl, (by have := bub_step hlt (by decide) HB.out; rw [swp_n1 hsw] at this; exact this), HT', k0, hB, z0⟩ | ((repeat apply Exists.intro); exact ⟨⟨1 + 1, by decide, by go_num, a, b1, c, d, tt, rfl, (by have := bub_step hlt (by decide) HB.out; rw [swp_n1 hsw] at this; exact this), HT', k0, hB, z0⟩, rfl⟩)
          case measure => simp [intOf]
      · go_wp2_with fail
        refine wp_calm0 8 (by kernel_rfl) (by kernel_rfl) ?_
        intro K hK
        repeat (refine wpCalm_step (fun M hM => ?_); go_simp; first | (refine hM _ ?_; clear hM M) | (apply Exists.intro; refine ⟨fun wc hw => ?_, hM _ ?_⟩; (obtain ⟨hc, hf⟩ := bcell (hK wc hw); go_simp; first | exact rfl); clear hM M))
        refine wpCalm_nil ?_
        clear hK K kq kr
        intro WX hX
        replace k0 := (hX.block _ z0).trans k0
        replace z0 := Nat.lt_of_lt_of_le z0 hX.size
        replace hB := after hB hX
        clear hX
        simp only [List.drop_succ_cons, List.drop_zero]
        obtain ⟨kq, kr⟩ := cellB k0
        by_cases hsw : d < c
        · have t1 : -1 ≤ tt := by have := HT'.out; omega
          have t2 : tt ≤ 1 := by have := HT'.out; omega
          go_wp2_with fail
          go_region
          all_goals clear kq kr
          all_goals go_wp2
          all_goals go_roundw
          case rel => first | exact ⟨2 + 1, by decide, by go_num, a, b1, d, c, _, rfl, (by have := bub_step hlt (by decide) HB.out; rw [swp_y2 hsw] at this; exact this), (by have := HT'.out; show _ ∨ _; omega), set_own (set_own k0 _) _, by go_grown, by simpa using z0⟩ | ((repeat apply Exists.intro); exact ⟨⟨2 + 1, by decide, by go_num, a, b1, d, c, _, rfl, (by have := bub_step hlt (by decide) HB.out; rw [swp_y2 hsw] at this; exact this), (by have := HT'.out; show _ ∨ _; omega), set_own (set_own k0 _) _, by go_grown, by simpa using z0⟩, rfl⟩)
          case measure => simp [intOf]
          case rel => first | exact ⟨2 + 1, by decide, by go_num, a, b1, d, c, _, rfl, (by have := bub_step hlt (by decide) HB.out; rw [swp_y2 hsw] at this; exact this), (by have := HT'.out; show _ ∨ _; omega), set_own (set_own k0 _) _, by go_grown, by simpa using z0⟩ | ((repeat apply Exists.intro); exact ⟨⟨2 + 1, by decide, by go_num, a, b1, d, c, _, rfl, (by have := bub_step hlt (by decide) HB.out; rw [swp_y2 hsw] at this; exact this), (by have := HT'.out; show _ ∨ _; omega), set_own (set_own k0 _) _, by go_grown, by simpa using z0⟩, rfl⟩)
          case measure => simp [intOf]
        · go_wp2
          go_roundw
          case rel => first | exact ⟨2 + 1, by decide, by go_num, a, b1, c, d, tt, rfl, (by have := bub_step hlt (by decide) HB.out; rw [swp_n2 hsw] at this; exact this), HT', k0, hB, z0⟩ | ((repeat apply Exists.intro); exact ⟨⟨2 + 1, by decide, by go_num, a, b1, c, d, tt, rfl, (by have := bub_step hlt (by decide) HB.out; rw [swp_n2 hsw] at this; exact this), HT', k0, hB, z0⟩, rfl⟩)
          case measure => simp [intOf]
      · go_wp2
        go_roundw
        case rel => exact ⟨r + 1, by omega, by go_num, a, b1, c, d, tt, rfl, bub_next HB.out, HT', k0, hB, z0⟩
        case measure => simp [intOf]; omega
end Go.Proofs.Ytdglijdiiggdgaa
namespace Go.Proofs.Ytdglijdiiggdgaa
open Go.RowKit

set_option maxRecDepth 100000 in
set_option maxHeartbeats 1000000 in
theorem sees_walk (b off n cp : Nat) (i j k m : Nat) (s : Int) (w : World)
    (h : ∀ w', Below w.heap.size w w' → Calls Try.prog 44 #[.slice (some ⟨b, off, none⟩) n cp, .int .i64 i, .int .i64 j, .int .i64 k, .int .i64 m] w' fun e w'' => e = .returned (.tuple #[.int .i64 s, .int .i64 0]) ∧ Below w'.heap.size w' w'') :
    Calls Try.prog 34 #[.slice (some ⟨b, off, none⟩) n cp, .agg #[.int .i64 i, .int .i64 j, .int .i64 k], .int .i64 m] w fun e w' => e = .returned (.tuple #[.bool (decide (s = -1)), .int .i64 0]) ∧ Below w.heap.size w w' := by
  have H := Lib.hid h
  clear h
  go_enter Try.func34, Try.ntmps34
  go_wp2_with fail
  refine (H.out _ (by go_grown)).mono ?_; rintro e W1 ⟨rfl, hX⟩
  have hB := after (w := w) (by go_grown) hX
  clear hX
  go_wp2
  go_returns
  exact ⟨rfl, hB⟩
end Go.Proofs.Ytdglijdiiggdgaa
namespace Go.Proofs.Ytdglijdiiggdgaa
open Go.RowKit

theorem retB {a b : Bool} {R : Prop} (h : b = a) (hR : R) : Ending.returned (Value.bool a) = Ending.returned (Value.bool b) ∧ R := ⟨by rw [h], hR⟩
def ownB (a b c v : Int) : Bool := v == a || v == b || v == c

set_option maxHeartbeats 1000000 in
theorem cert_own (a b c v : Int) (w : World) :
    Calls Try.prog 33 #[.agg #[.int .i64 a, .int .i64 b, .int .i64 c], .int .i64 v] w fun e w' => e = .returned (.bool (ownB a b c v)) ∧ Below w.heap.size w w' := by
  go_enter Try.func33, Try.ntmps33
  go_wp2
  all_goals go_returns
  all_goals refine retB ?_ (by go_grown)
  all_goals (unfold ownB; simp_all)

def inN (n : Nat) (a : Int) : Bool := decide (0 ≤ a) && decide (a < n)
def plcB (n : Nat) (a b c : Int) : Bool := inN n a && inN n b && inN n c && !decide (a = b) && !decide (b = c) && !decide (c = a)
section
variable (x : Value) (n : Nat) (a b c : Int)
set_option maxRecDepth 100000 in
set_option maxHeartbeats 2000000 in
theorem cert_places (p : Option Addr) (cp : Nat) (w : World) :
    Calls Try.prog 20 #[.slice p n cp, .agg #[.int .i64 a, .int .i64 b, .int .i64 c]] w fun e w' => e = .returned (.bool (plcB n a b c)) ∧ Below w.heap.size w w' := by
  have x0 : ∀ w, (Instr.index 45 (.agg #[.int .i64 a, .int .i64 b, .int .i64 c]) (.int .i64 0)).run Try.prog w = .ok (.int .i64 a) w := fun _ => by kernel_rfl
  have x1 : ∀ w, (Instr.index 45 (.agg #[.int .i64 a, .int .i64 b, .int .i64 c]) (.int .i64 1)).run Try.prog w = .ok (.int .i64 b) w := fun _ => by kernel_rfl
  have x2 : ∀ w, (Instr.index 45 (.agg #[.int .i64 a, .int .i64 b, .int .i64 c]) (.int .i64 2)).run Try.prog w = .ok (.int .i64 c) w := fun _ => by kernel_rfl
  go_enter Try.func20, Try.ntmps20
  go_wp2_with fail
  go_rounds 4
  all_goals go_returns
  all_goals refine retB ?_ (by go_grown)
  all_goals (unfold plcB inN; simp [*]; try first | omega | (by_cases hca : c = a <;> simp_all))
end
/-- A list of triples of whole numbers, or none at all. -/
def PtsO (w : World) (pa : Option Addr) (n : Nat) (X Y Z : Nat → Int) : Prop := (n = 0 ∧ pa = none) ∨ ∃ b off, pa = some ⟨b, off, none⟩ ∧ PtsAt w b off n X Y Z
theorem PtsO.at {w : World} {pa : Option Addr} {n : Nat} {X Y Z : Nat → Int} (h : PtsO w pa n X Y Z) {k : Nat} (hk : k < n) : ∃ b off, pa = some ⟨b, off, none⟩ ∧ PtsAt w b off n X Y Z := by
  rcases h with ⟨rfl, _⟩ | h
  · omega
  · exact h
theorem PtsO.below {w w' : World} {pa : Option Addr} {n : Nat} {X Y Z : Nat → Int} (h : PtsO w pa n X Y Z) (hB : Below w.heap.size w w') : PtsO w' pa n X Y Z := by
  rcases h with h | ⟨b, off, e, h⟩
  · exact .inl h
  · exact .inr ⟨b, off, e, h.mono hB h.1⟩
end Go.Proofs.Ytdglijdiiggdgaa
namespace Go.Proofs.Ytdglijdiiggdgaa
open Go.RowKit

instance (n : Int) : Decidable (Co n) := by unfold Co; exact inferInstance
/-- What the list's check answers: from the k-th point on. -/
def chkF (X Y Z : Nat → Int) : Nat → Nat → Int × Int
  | 0, _ => (0, 0)
  | f + 1, k => if Co (X k) ∧ Co (Y k) ∧ Co (Z k) then chkF X Y Z f (k + 1) else (20, k)
section
variable {X Y Z : Nat → Int} {n k : Nat} {r : Int × Int}
theorem chk_ok (hk : k < n) (h : Co (X k) ∧ Co (Y k) ∧ Co (Z k)) (hr : chkF X Y Z (n - k) k = r) : chkF X Y Z (n - (k + 1)) (k + 1) = r := by
  rw [show n - k = (n - (k + 1)) + 1 by omega, chkF, if_pos h] at hr; exact hr
theorem chk_bad (hk : k < n) (h : ¬ (Co (X k) ∧ Co (Y k) ∧ Co (Z k))) (hr : chkF X Y Z (n - k) k = r) : r = (20, (k : Int)) := by
  rw [show n - k = (n - (k + 1)) + 1 by omega, chkF, if_neg h] at hr; exact hr.symm
theorem chk_end (hk : n ≤ k) (hr : chkF X Y Z (n - k) k = r) : r = (0, 0) := by
  rw [show n - k = 0 by omega] at hr; exact hr.symm
end
def chk (n : Nat) (X Y Z : Nat → Int) : Int × Int := if 512 < n then (90, 0) else chkF X Y Z n 0
theorem retP {a b : Int} {r : Int × Int} {R : Prop} (h : r = (a, b)) (hR : R) : Ending.returned (.tuple #[.int .i64 a, .int .i64 b]) = Ending.returned (.tuple #[.int .i64 r.1, .int .i64 r.2]) ∧ R := ⟨by rw [h], hR⟩

set_option maxRecDepth 100000 in
set_option maxHeartbeats 4000000 in
theorem seq_check (pa : Option Addr) (n cp : Nat) (X Y Z : Nat → Int) (w : World) (hp : Hid (PtsO w pa n X Y Z)) :
    Calls Try.prog 19 #[.slice pa n cp] w fun e w' => e = .returned (.tuple #[.int .i64 (chk n X Y Z).1, .int .i64 (chk n X Y Z).2]) ∧ Below w.heap.size w w' := by
  by_cases hn : 512 < n
  · have hn' : (512 : Int) < n := by omega
    go_enter Try.func19, Try.ntmps19
    go_wp2
    go_returns
    exact retP (by unfold chk; rw [if_pos hn]) (by go_grown)
  have hn' : ¬ (512 : Int) < n := by omega
  obtain ⟨r, hr⟩ : ∃ r, r = chk n X Y Z := ⟨_, rfl⟩
  have hF : chkF X Y Z (n - 0) 0 = r := by rw [hr]; unfold chk; rw [if_neg hn]; rfl
  rw [← hr]
  have HF := Lib.hid hF
  clear hF hr
  go_enter Try.func19, Try.ntmps19
  go_wp2_with fail
  go_loopw [13] (fun v wr => ∃ k : Nat, k ≤ n ∧ v = .int .i64 k ∧ Hid (chkF X Y Z (n - k) k = r) ∧ Hid (PtsO wr pa n X Y Z) ∧ Below w.heap.size w wr)
    (fun v _ => n - (intOf v).toNat)
  case atStart => exact ⟨0, Nat.zero_le _, rfl, HF, hp, Below.refl _ _⟩
  case round =>
    clear hp HF
    obtain ⟨k, hk, rfl, HF, hp, hB⟩ := hrel
    by_cases hlt : k < n
    case neg =>
      go_wp2
      go_returns
      exact retP (chk_end (by omega) HF.out) hB
    have hsz := hB.size
    obtain ⟨b, off, rfl, hq⟩ := hp.out.at hlt
    obtain ⟨g1, g2, g3⟩ := hq.2 k hlt
    have hbw := hq.1
    clear hq
    have x0 : ∀ w, (Instr.index 44 (.agg #[.int .i64 (X k), .int .i64 (Y k), .int .i64 (Z k)]) (.int .i64 0)).run Try.prog w = .ok (.int .i64 (X k)) w := fun _ => by kernel_rfl
    have x1 : ∀ w, (Instr.index 44 (.agg #[.int .i64 (X k), .int .i64 (Y k), .int .i64 (Z k)]) (.int .i64 1)).run Try.prog w = .ok (.int .i64 (Y k)) w := fun _ => by kernel_rfl
    have x2 : ∀ w, (Instr.index 44 (.agg #[.int .i64 (X k), .int .i64 (Y k), .int .i64 (Z k)]) (.int .i64 2)).run Try.prog w = .ok (.int .i64 (Z k)) w := fun _ => by kernel_rfl
    go_wp2_with fail
    go_rounds 4
    all_goals first
      | (go_returns; exact retP (chk_bad hlt (by unfold Co; omega) HF.out) (by go_grown))
      | (refine ⟨⟨k + 1, by omega, by go_num, chk_ok hlt (by unfold Co; omega) HF.out, hp.out.below (by go_grown), by go_grown⟩, ?_⟩; simp [intOf]; omega)
end Go.Proofs.Ytdglijdiiggdgaa
namespace Go.Proofs.Ytdglijdiiggdgaa
open Go.RowKit

def tri (t : Int × Int × Int) : Value := .agg #[.int .i64 t.1, .int .i64 t.2.1, .int .i64 t.2.2]
def canF (a b c : Int) : Int × Int × Int := if b < a then (if c < b then (c, a, b) else (b, c, a)) else (if c < a then (c, a, b) else (a, b, c))

set_option maxRecDepth 100000 in
set_option maxHeartbeats 2000000 in
theorem facet_canon (a b c : Int) (w : World) :
    Calls Try.prog 21 #[.agg #[.int .i64 a, .int .i64 b, .int .i64 c]] w fun e w' => e = .returned (tri (canF a b c)) ∧ Below w.heap.size w w' := by
  have x0 : ∀ w, (Instr.index 75 (.agg #[.int .i64 b, .int .i64 c, .int .i64 a, .int .i64 c, .int .i64 a, .int .i64 b]) (.int .i64 0)).run Try.prog w = .ok (.agg #[.int .i64 b, .int .i64 c, .int .i64 a]) w := fun _ => by kernel_rfl
  have x1 : ∀ w, (Instr.index 75 (.agg #[.int .i64 b, .int .i64 c, .int .i64 a, .int .i64 c, .int .i64 a, .int .i64 b]) (.int .i64 1)).run Try.prog w = .ok (.agg #[.int .i64 c, .int .i64 a, .int .i64 b]) w := fun _ => by kernel_rfl
  go_enter Try.func21, Try.ntmps21
  go_wp2_with fail
  go_rounds 3

  all_goals refine bodyPost_ret (v := tri (canF a b c)) (by unfold tri canF; simp [*, results, Try.results21, go_sem]; try grind) rfl ⟨rfl, by go_grown⟩
end Go.Proofs.Ytdglijdiiggdgaa
namespace Go.Proofs.Ytdglijdiiggdgaa
open Go.RowKit

def cmpI (x y : Int) : Int := if x < y then -1 else if y < x then 1 else 0
theorem retI {a b : Int} {R : Prop} (h : b = a) (hR : R) : Ending.returned (Value.int .i64 a) = Ending.returned (Value.int .i64 b) ∧ R := ⟨by rw [h], hR⟩

set_option maxHeartbeats 1000000 in
theorem cmp_nan (x : Int) (w : World) :
    Calls Try.prog 68 #[.int .i64 x] w fun e w' => e = .returned (.bool false) ∧ w = w' := by
  go_enter Try.func68, Try.ntmps68
  go_wp2
  go_returns
  simp [go_sem]
set_option maxHeartbeats 1000000 in
theorem cmp_cmp (x y : Int) (w : World) :
    Calls Try.prog 57 #[.int .i64 x, .int .i64 y] w fun e w' => e = .returned (.int .i64 (cmpI x y)) ∧ w = w' := by
  go_enter Try.func57, Try.ntmps57
  go_wp2_with fail
  refine (cmp_nan x _).mono ?_; rintro e w1 ⟨rfl, rfl⟩
  go_wp2_with fail
  refine (cmp_nan y _).mono ?_; rintro e w1 ⟨rfl, rfl⟩
  go_wp2
  all_goals go_returns
  all_goals refine retI ?_ rfl
  all_goals (unfold cmpI; grind)

def cmp3 (a b : Int × Int × Int) : Int := if cmpI a.1 b.1 ≠ 0 then cmpI a.1 b.1 else if cmpI a.2.1 b.2.1 ≠ 0 then cmpI a.2.1 b.2.1 else cmpI a.2.2 b.2.2
set_option maxRecDepth 100000 in
set_option maxHeartbeats 2000000 in
theorem slices_compare (p q : Nat) (a b : Int × Int × Int) (w : World)
    (h0 : w.cell? ⟨p, 0, none⟩ = some (.int .i64 a.1)) (h1 : w.cell? ⟨p, 1, none⟩ = some (.int .i64 a.2.1)) (h2 : w.cell? ⟨p, 2, none⟩ = some (.int .i64 a.2.2))
    (k0 : w.cell? ⟨q, 0, none⟩ = some (.int .i64 b.1)) (k1 : w.cell? ⟨q, 1, none⟩ = some (.int .i64 b.2.1)) (k2 : w.cell? ⟨q, 2, none⟩ = some (.int .i64 b.2.2)) :
    Calls Try.prog 47 #[.slice (some ⟨p, 0, none⟩) 3 3, .slice (some ⟨q, 0, none⟩) 3 3] w fun e w' => e = .returned (.int .i64 (cmp3 a b)) ∧ w = w' := by
  by_cases e0 : cmpI a.1 b.1 = 0
  case neg =>
    have R := Lib.hid (show cmp3 a b = cmpI a.1 b.1 by unfold cmp3; rw [if_pos e0])
    go_enter Try.func47, Try.ntmps47
    go_wp2_with fail
    refine wp_loop_rounds 4 ?_
    rw [rounds_succ]
    go_wp2_with fail
    refine (cmp_cmp _ _ _).mono ?_; rintro e w1 ⟨rfl, rfl⟩
    go_wp2
    go_returns
    exact retI R.out rfl
  by_cases e1 : cmpI a.2.1 b.2.1 = 0
  case neg =>
    have R := Lib.hid (show cmp3 a b = cmpI a.2.1 b.2.1 by unfold cmp3; rw [if_neg (by simp [e0]), if_pos e1])
    go_enter Try.func47, Try.ntmps47
    go_wp2_with fail
    refine wp_loop_rounds 4 ?_
    rw [rounds_succ]
    go_wp2_with fail
    refine (cmp_cmp _ _ _).mono ?_; rintro e w1 ⟨rfl, rfl⟩
    go_wp2_with fail
    rw [rounds_succ]
    go_wp2_with fail
    refine (cmp_cmp _ _ _).mono ?_; rintro e w1 ⟨rfl, rfl⟩
    go_wp2
    go_returns
    exact retI R.out rfl
  by_cases e2 : cmpI a.2.2 b.2.2 = 0
  case neg =>
    have R := Lib.hid (show cmp3 a b = cmpI a.2.2 b.2.2 by unfold cmp3; rw [if_neg (by simp [e0]), if_neg (by simp [e1])])
    go_enter Try.func47, Try.ntmps47
    go_wp2_with fail
    refine wp_loop_rounds 4 ?_
    rw [rounds_succ]
    go_wp2_with fail
    refine (cmp_cmp _ _ _).mono ?_; rintro e w1 ⟨rfl, rfl⟩
    go_wp2_with fail
    rw [rounds_succ]
    go_wp2_with fail
    refine (cmp_cmp _ _ _).mono ?_; rintro e w1 ⟨rfl, rfl⟩
    go_wp2_with fail
    rw [rounds_succ]
    go_wp2_with fail
    refine (cmp_cmp _ _ _).mono ?_; rintro e w1 ⟨rfl, rfl⟩
    go_wp2
    go_returns
    exact retI R.out rfl
  have R := Lib.hid (show cmp3 a b = 0 by unfold cmp3; rw [if_neg (by simp [e0]), if_neg (by simp [e1]), e2])
  go_enter Try.func47, Try.ntmps47
  go_wp2_with fail
  refine wp_loop_rounds 4 ?_
  rw [rounds_succ]
  go_wp2_with fail
  refine (cmp_cmp _ _ _).mono ?_; rintro e w1 ⟨rfl, rfl⟩
  go_wp2_with fail
  rw [rounds_succ]
  go_wp2_with fail
  refine (cmp_cmp _ _ _).mono ?_; rintro e w1 ⟨rfl, rfl⟩
  go_wp2_with fail
  rw [rounds_succ]
  go_wp2_with fail
  refine (cmp_cmp _ _ _).mono ?_; rintro e w1 ⟨rfl, rfl⟩
  go_wp2_with fail
  rw [rounds_succ]
  go_wp2
  go_returns
  exact retI R.out rfl

set_option maxRecDepth 100000 in
set_option maxHeartbeats 2000000 in
theorem facet_compare (a b : Int × Int × Int) (w : World) :
    Calls Try.prog 39 #[tri a, tri b] w fun e w' => e = .returned (.int .i64 (cmp3 a b)) ∧ Below w.heap.size w w' := by
  unfold tri
  go_enter Try.func39, Try.ntmps39
  go_wp2_with fail
  first | refine wp_named ?_ | refine calls_named ?_
  intro W hW
  have k1 : W.heap[w.heap.size + 1]? = some (.cells #[.int .i64 b.1, .int .i64 b.2.1, .int .i64 b.2.2] 45 (0, 0)) := by rw [hW]; exact heap_at (by simp)
  have k0 : W.heap[w.heap.size]? = some (.cells #[.int .i64 a.1, .int .i64 a.2.1, .int .i64 a.2.2] 45 (0, 0)) := by rw [hW, heap_old (by simp)]; exact heap_at rfl
  have z0 : w.heap.size < W.heap.size := by rw [hW]; simp; omega
  have z1 : w.heap.size + 1 < W.heap.size := by rw [hW]; simp
  have hB : Below w.heap.size w W := by rw [hW]; go_grown
  clear hW
  obtain ⟨kq0, kr0⟩ := cellB k0
  obtain ⟨kq1, kr1⟩ := cellB k1
  refine wp_calm0 4 (by kernel_rfl) (by kernel_rfl) ?_
  intro K hK
  repeat (refine wpCalm_step (fun M hM => ?_); go_simp; first | (refine hM _ ?_; clear hM M) | (apply Exists.intro; refine ⟨fun wc hw => ?_, hM _ ?_⟩; (obtain ⟨hc, hf⟩ := bcell (hK wc hw); go_simp; first | exact (slices_compare _ _ a b _ (by simp [hc, z0, kq0]) (by simp [hc, z0, kq0]) (by simp [hc, z0, kq0]) (by simp [hc, z1, kq1]) (by simp [hc, z1, kq1]) (by simp [hc, z1, kq1])).mono (fun e w' h => by obtain ⟨rfl, rfl⟩ := h; exact ⟨rfl, Below.refl _ _⟩) | exact rfl); clear hM M))
  refine wpCalm_nil ?_
  clear hK K kq0 kr0 kq1 kr1
  intro W1 hX
  replace hB := after hB hX
  clear hX k0 k1 z0 z1
  simp only [List.drop_succ_cons, List.drop_zero]
  go_wp2
  go_returns
  exact ⟨rfl, hB⟩

def ltB (a b : Int × Int × Int) : Bool := decide (cmp3 a b < 0)
set_option maxHeartbeats 1000000 in
theorem facet_less (a b : Int × Int × Int) (w : World) :
    Calls Try.prog 22 #[tri a, tri b] w fun e w' => e = .returned (.bool (ltB a b)) ∧ Below w.heap.size w w' := by
  have H := Lib.hid (facet_compare a b)
  unfold tri at *
  go_enter Try.func22, Try.ntmps22
  go_wp2_with fail
  refine (H.out _).mono ?_; rintro e W1 ⟨rfl, hX⟩
  have hB := after (w := w) (by go_grown) hX
  clear hX
  go_wp2
  go_returns
  exact ⟨rfl, hB⟩
end Go.Proofs.Ytdglijdiiggdgaa
namespace Go.Proofs.Ytdglijdiiggdgaa
open Go.RowKit

/-- Nobody from the k-th place on, but a triple's own, has the sign -1. -/
def unsF (a b c : Int) (sv : Nat → Int) : Nat → Nat → Bool
  | 0, _ => true
  | f + 1, k => if ownB a b c k = true then unsF a b c sv f (k + 1) else if sv k = -1 then false else unsF a b c sv f (k + 1)
section
variable {a b c : Int} {sv : Nat → Int} {n k : Nat} {r : Bool}
theorem uns_own (hk : k < n) (h : ownB a b c k = true) (hr : unsF a b c sv (n - k) k = r) : unsF a b c sv (n - (k + 1)) (k + 1) = r := by
  rw [show n - k = (n - (k + 1)) + 1 by omega, unsF, if_pos h] at hr; exact hr
theorem uns_yes (hk : k < n) (h : ownB a b c k = false) (h2 : sv k = -1) (hr : unsF a b c sv (n - k) k = r) : r = false := by
  rw [show n - k = (n - (k + 1)) + 1 by omega, unsF, if_neg (by simp [h]), if_pos h2] at hr; exact hr.symm
theorem uns_no (hk : k < n) (h : ownB a b c k = false) (h2 : ¬ sv k = -1) (hr : unsF a b c sv (n - k) k = r) : unsF a b c sv (n - (k + 1)) (k + 1) = r := by
  rw [show n - k = (n - (k + 1)) + 1 by omega, unsF, if_neg (by simp [h]), if_neg h2] at hr; exact hr
theorem uns_end (hk : n ≤ k) (hr : unsF a b c sv (n - k) k = r) : r = true := by
  rw [show n - k = 0 by omega] at hr; exact hr.symm
end

set_option maxRecDepth 100000 in
set_option maxHeartbeats 4000000 in
theorem cert_unseen (p off n cp : Nat) (a b c : Int) (sv : Nat → Int) (X Y Z : Nat → Int) (hn : n < 4611686018427387904) (w : World) (hp : Hid (PtsAt w p off n X Y Z))
    (HS : Hid (∀ v : Nat, v < n → ownB a b c v = false → ∀ w', PtsAt w' p off n X Y Z → Calls Try.prog 34 #[.slice (some ⟨p, off, none⟩) n cp, .agg #[.int .i64 a, .int .i64 b, .int .i64 c], .int .i64 v] w' fun e w'' => e = .returned (.tuple #[.bool (decide (sv v = -1)), .int .i64 0]) ∧ Below w'.heap.size w' w'')) :
    Calls Try.prog 23 #[.slice (some ⟨p, off, none⟩) n cp, .agg #[.int .i64 a, .int .i64 b, .int .i64 c]] w fun e w' => e = .returned (.bool (unsF a b c sv n 0)) ∧ Below w.heap.size w w' := by
  obtain ⟨r, hr⟩ : ∃ r, r = unsF a b c sv n 0 := ⟨_, rfl⟩
  have HF : Hid (unsF a b c sv (n - 0) 0 = r) := hr.symm
  rw [← hr]
  clear hr
  go_enter Try.func23, Try.ntmps23
  go_wp2_with fail
  first | refine wp_named ?_ | refine calls_named ?_
  intro W hW
  have k0 : W.heap[w.heap.size]? = some (.cells #[.int .i64 a, .int .i64 b, .int .i64 c] 45 (0, 0)) := by rw [hW]; exact heap_at rfl
  have z0 : w.heap.size < W.heap.size := by rw [hW]; simp
  have hB : Below w.heap.size w W := by rw [hW]; go_grown
  clear hW
  have hbw := hp.out.1
  go_loopw [10] (fun v wr => ∃ k : Nat, k ≤ n ∧ v = .int .i64 k ∧ Hid (unsF a b c sv (n - k) k = r) ∧ wr.heap[w.heap.size]? = some (.cells #[.int .i64 a, .int .i64 b, .int .i64 c] 45 (0, 0)) ∧ w.heap.size < wr.heap.size ∧ Below w.heap.size w wr)
    (fun v _ => n - (intOf v).toNat)
  case atStart => exact ⟨0, Nat.zero_le _, rfl, HF, k0, z0, hB⟩
  case round =>
    clear HF k0 z0 hB
    obtain ⟨k, hk, rfl, HF, k0, z0, hB⟩ := hrel
    obtain ⟨kq, kr⟩ := cellB k0
    by_cases hlt : k < n
    case neg =>
      go_wp2
      go_returns
      exact retB (uns_end (by omega) HF.out) hB
    go_wp2_with fail
    refine (cert_own a b c k _).mono ?_; rintro e W1 ⟨rfl, hX⟩
    replace k0 := (hX.block _ z0).trans k0
    replace z0 := Nat.lt_of_lt_of_le z0 hX.size
    replace hB := after hB hX
    clear hX kq kr
    obtain ⟨kq, kr⟩ := cellB k0
    cases ho : ownB a b c k with
    | true =>
      go_wp2
      go_roundw
      case rel => exact ⟨k + 1, by omega, by go_num, uns_own hlt ho HF.out, k0, z0, hB⟩
      case measure => simp [intOf]; omega
    | false =>
      go_wp2_with fail
      refine (HS.out k hlt ho _ (hp.out.mono hB hbw)).mono ?_; rintro e W2 ⟨rfl, hX⟩
      replace k0 := (hX.block _ z0).trans k0
      replace z0 := Nat.lt_of_lt_of_le z0 hX.size
      replace hB := after hB hX
      clear hX kq kr
      by_cases hs : sv k = -1
      · go_wp2
        go_returns
        exact retB (uns_yes hlt ho hs HF.out) hB
      · go_wp2
        go_roundw
        case rel => exact ⟨k + 1, by omega, by go_num, uns_no hlt ho hs HF.out, k0, z0, hB⟩
        case measure => simp [intOf]; omega
end Go.Proofs.Ytdglijdiiggdgaa
namespace Go.Proofs.Ytdglijdiiggdgaa
open Go.RowKit Go.Maps

theorem uInt : Try.prog.underlying 3 = some (.int .i64) := by kernel_rfl
theorem uMap : Try.prog.underlying 60 = some (.map 3 3) := by kernel_rfl
theorem lawInt : Keyed Try.prog 3 := int_keyed uInt
theorem zeroInt (w : World) : (zeroValue 3).run Try.prog w = .ok (.int .i64 0) w := by kernel_rfl

def i64v (n : Int) : DataW Unit := .lit (.int .i64 n)
def Wf (n : Int) : Prop := (Lit.int .i64 n).wf = true
/-- A map as read is that list of pairs, keys and what they lead to. -/
structure MapIs (D : DataW Unit) (L : List (Int × Int)) : Prop where
  has : ∀ a : Int, Maps.has D (.int .i64 a) = L.any (fun p => p.1 == a)
  at_ : ∀ p ∈ L, D.atKey (.int .i64 p.1) (i64v 0) = i64v p.2
  size : Maps.size D = L.length
  once : L.Pairwise (fun p q => p.1 ≠ q.1)
  tidy : Tidy D
  wf : ∀ p ∈ L, Wf p.1 ∧ Wf p.2
theorem mapIs_nil : MapIs (.map []) [] := ⟨fun a => rfl, (fun p hp => by cases hp), rfl, List.Pairwise.nil, tidy_empty, (fun p hp => by cases hp)⟩
theorem MapIs.snoc {D : DataW Unit} {L : List (Int × Int)} (h : MapIs D L) {a b : Int} (hno : Maps.has D (.int .i64 a) = false) (ha : Wf a) (hb : Wf b) : MapIs (D.put (.int .i64 a) (i64v b)) (L ++ [(a, b)]) := by
  have hkl : WideAt.IsKeyLit (.int .i64 a) := by simp [WideAt.IsKeyLit]
  refine ⟨fun x => ?_, fun p hp => ?_, ?_, ?_, h.tidy.put hkl _, fun p hp => ?_⟩
  · by_cases hx : x = a
    · subst hx
      rw [has_put_same h.tidy.isMap hkl]; simp
    · rw [has_put_other (by intro e; injection e with _ e; exact hx e), h.has]
      simp [List.any_append, Ne.symm hx]
  · rcases List.mem_append.1 hp with hp | hp
    · have hne : p.1 ≠ a := fun e => by
        have h1 := h.has a
        rw [hno] at h1
        have h2 : L.any (fun q => q.1 == a) = true := List.any_eq_true.2 ⟨p, hp, by simp [e]⟩
        rw [h2] at h1; cases h1
      rw [atKey_put_other (by intro e; injection e with _ e; exact hne e)]
      exact h.at_ p hp
    · simp only [List.mem_singleton] at hp
      subst hp
      exact atKey_put_same h.tidy.isMap hkl _ _
  · rw [size_put h.tidy, hno]; simp [h.size]
  · refine List.pairwise_append.2 ⟨h.once, by simp, fun p hp q hq => ?_⟩
    simp only [List.mem_singleton] at hq
    subst hq
    intro e
    have h1 := h.has a
    rw [hno] at h1
    have h2 : L.any (fun q => q.1 == a) = true := List.any_eq_true.2 ⟨p, hp, by simp [e]⟩
    rw [h2] at h1; cases h1
  · rcases List.mem_append.1 hp with hp | hp
    · exact h.wf p hp
    · simp only [List.mem_singleton] at hp
      subst hp
      exact ⟨ha, hb⟩

theorem ownsMap_below {P : Program} {K : TypeId} {R : Value → Option (DataW Unit × List MemPlace)} {w w' : World} {b n : Nat} {D : DataW Unit} (h : w.ownsMap P K R b n D) (hB : Below w.heap.size w w') (hb : b < w.heap.size) : w'.ownsMap P K R b n D := by
  obtain ⟨es, cl, h1, h2⟩ := h
  exact ⟨es, cl, (hB.block _ hb).trans h1, h2⟩

/-- What follows on v in a triple: none: v comes more than once. -/
def hit (v a b c : Int) : Option (Option (Int × Int)) :=
  if a = v then (if b = v ∨ c = v then none else some (some (b, c))) else if b = v then (if c = v then none else some (some (c, a))) else if c = v then some (some (a, b)) else some none
def ringF (v : Int) (A B C : Nat → Int) : Nat → Nat → List (Int × Int) → Option (List (Int × Int))
  | 0, _, L => some L
  | f + 1, k, L => match hit v (A k) (B k) (C k) with
    | none => none
    | some none => ringF v A B C f (k + 1) L
    | some (some p) => if L.any (fun q => q.1 == p.1) then none else ringF v A B C f (k + 1) (L ++ [p])
section
variable {v : Int} {A B C : Nat → Int} {n k : Nat} {L : List (Int × Int)} {r : Option (List (Int × Int))}
theorem Below.map_kept {w w' : World} {B b : Nat} {es : Array MapEntry} {cl : Nat} (h : Below B w w') (hb : b < B) (he : w.heap[b]? = some (.map es cl)) : w'.heap[b]? = some (.map es cl) := (h.block _ hb).trans he
theorem ring_end (hk : n ≤ k) (h : ringF v A B C (n - k) k L = r) : r = some L := by
  rw [show n - k = 0 by omega] at h; exact h.symm
theorem ring_many (hk : k < n) (hh : hit v (A k) (B k) (C k) = none) (h : ringF v A B C (n - k) k L = r) : r = none := by
  rw [show n - k = (n - (k + 1)) + 1 by omega, ringF, hh] at h; exact h.symm
theorem ring_zero (hk : k < n) (hh : hit v (A k) (B k) (C k) = some none) (h : ringF v A B C (n - k) k L = r) : ringF v A B C (n - (k + 1)) (k + 1) L = r := by
  rw [show n - k = (n - (k + 1)) + 1 by omega, ringF, hh] at h; exact h
theorem ring_twice (hk : k < n) {p : Int × Int} (hh : hit v (A k) (B k) (C k) = some (some p)) (ht : L.any (fun q => q.1 == p.1) = true) (h : ringF v A B C (n - k) k L = r) : r = none := by
  rw [show n - k = (n - (k + 1)) + 1 by omega, ringF, hh] at h
  simp only [ht, if_true] at h
  exact h.symm
theorem ring_one (hk : k < n) {p : Int × Int} (hh : hit v (A k) (B k) (C k) = some (some p)) (ht : L.any (fun q => q.1 == p.1) = false) (h : ringF v A B C (n - k) k L = r) : ringF v A B C (n - (k + 1)) (k + 1) (L ++ [p]) = r := by
  rw [show n - k = (n - (k + 1)) + 1 by omega, ringF, hh] at h
  simpa [ht] using h
end

def W3 (t : Int × Int × Int) : Prop := Wf t.1 ∧ Wf t.2.1 ∧ Wf t.2.2
set_option maxRecDepth 100000 in
set_option maxHeartbeats 8000000 in
theorem cert_ring (pa : Option Addr) (n cp : Nat) (v : Int) (A B C : Nat → Int) (r : Option (List (Int × Int))) (hn : n < 1048576) (hv : Hid (Wf v)) (hwf : Hid (∀ k, k < n → Wf (A k) ∧ Wf (B k) ∧ Wf (C k))) (hr : Hid (ringF v A B C (n - 0) 0 [] = r))
    (w : World) (hp : Hid (PtsO w pa n A B C)) :
    Calls Try.prog 30 #[.slice pa n cp, .int .i64 v] w fun e w' => Below w.heap.size w w' ∧
      ((r = none ∧ e = .returned (.tuple #[.map none, .bool false])) ∨ (∃ L D, r = some L ∧ MapIs D L ∧ L.length ≤ n ∧ w'.ownsMap Try.prog 3 (plainElem Try.prog 3) w.heap.size n D ∧ e = .returned (.tuple #[.map (some w.heap.size), .bool (decide (0 < L.length))]))) := by
  have hmm := @run_makeMap Try.prog
  go_enter Try.func30, Try.ntmps30
  go_wp2_with fail
  first | refine wp_named ?_ | refine calls_named ?_
  intro W hW
  clear hmm
  have hown : W.ownsMap Try.prog 3 (plainElem (H := Unit) Try.prog 3) w.heap.size 0 (.map []) := by rw [hW]; exact World.ownsMap_made _ _ _ _
  have hB : Below w.heap.size w W := by rw [hW]; go_grown
  have hz : w.heap.size < W.heap.size := by rw [hW]; simp
  clear hW
  go_loopw [20] (fun u wr => ∃ (k : Nat) (L : List (Int × Int)) (D : DataW Unit), k ≤ n ∧ u = .int .i64 k ∧ Hid (ringF v A B C (n - k) k L = r) ∧ Hid (MapIs D L) ∧ Hid (L.length ≤ k) ∧ Hid (wr.ownsMap Try.prog 3 (plainElem Try.prog 3) w.heap.size k D) ∧ Below w.heap.size w wr ∧ w.heap.size < wr.heap.size)
    (fun u _ => n - (intOf u).toNat)
  case atStart => exact ⟨0, [], .map [], Nat.zero_le _, rfl, hr, mapIs_nil, Nat.le_refl _, hown, hB, hz⟩
  case round =>
    clear hown hB hr hz
    obtain ⟨k, L, D, hk, rfl, HF, HM, HL, hown, hB, hz⟩ := hrel
    by_cases hlt : k < n
    case neg =>
      go_wp2_with (first | (at_len; refine wpList_len_own _ rfl _ 60 rfl 3 3 uMap _ w.heap.size k D rfl hown.out ?_) | fail)
      go_returns
      have hs := HM.out.size
      refine ⟨hB, .inr ⟨L, D, ring_end (by omega) HF.out, HM.out, Nat.le_trans HL.out hk, hown.out.mono hk, ?_⟩⟩
      rw [← hs]
      rfl
    obtain ⟨b, off, rfl, hq⟩ := hp.out.at hlt
    have hbw := hq.1
    have hpr := hq.mono hB hbw
    clear hq
    obtain ⟨g1, g2, g3⟩ := hpr.2 k hlt
    clear hpr
    obtain ⟨w1, w2, w3⟩ := hwf.out k hlt
    have W1 := Lib.hid w1; have W2 := Lib.hid w2; have W3' := Lib.hid w3
    clear w1 w2 w3
    obtain ⟨a, ha⟩ : ∃ a, a = A k := ⟨_, rfl⟩
    obtain ⟨b1, hb1⟩ : ∃ b1, b1 = B k := ⟨_, rfl⟩
    obtain ⟨c, hc1⟩ : ∃ c, c = C k := ⟨_, rfl⟩
    rw [← ha] at g1 W1; rw [← hb1] at g2 W2; rw [← hc1] at g3 W3'
    have EA := Lib.hid ha; have EB := Lib.hid hb1; have EC := Lib.hid hc1
    clear ha hb1 hc1
    have x0 : ∀ (a b1 c : Int) w, (Instr.index 45 (.agg #[.int .i64 a, .int .i64 b1, .int .i64 c]) (.int .i64 0)).run Try.prog w = .ok (.int .i64 a) w := fun _ _ _ _ => by kernel_rfl
    have x1 : ∀ (a b1 c : Int) w, (Instr.index 45 (.agg #[.int .i64 a, .int .i64 b1, .int .i64 c]) (.int .i64 1)).run Try.prog w = .ok (.int .i64 b1) w := fun _ _ _ _ => by kernel_rfl
    have x2 : ∀ (a b1 c : Int) w, (Instr.index 45 (.agg #[.int .i64 a, .int .i64 b1, .int .i64 c]) (.int .i64 2)).run Try.prog w = .ok (.int .i64 c) w := fun _ _ _ _ => by kernel_rfl
    by_cases ea : a = v <;> by_cases eb : b1 = v <;> by_cases ec : c = v
    all_goals (go_wp2_with fail; refine wp_loop_rounds 4 ?_; rw [rounds_succ]; go_wp2_with fail; rw [rounds_succ]; go_wp2_with fail; rw [rounds_succ]; go_wp2_with fail; rw [rounds_succ]; go_wp2_with fail)
    case roundEnd =>
      have hsz := hB.size
      have hh : hit v (A k) (B k) (C k) = some Option.none := by rw [← EA.out, ← EB.out, ← EC.out]; simp [hit, ea, eb, ec]
      refine ⟨⟨k + 1, L, D, by omega, by go_num, ring_zero hlt hh HF.out, HM, Nat.le_succ_of_le HL.out, (hown.out.kept (World.grownBy_alloc _ _ Option.none) (by simp)).mono (Nat.le_succ k), by go_grown, by simp; omega⟩, ?_⟩
      simp [intOf]; omega
    all_goals (
      first | refine wp_named ?_ | refine calls_named ?_
      intro W hW
      have k1 : W.heap[wr.heap.size]? = some (.cells #[.int .i64 a, .int .i64 b1, .int .i64 c] 45 (0, 0)) := by rw [hW]; refine (heap_at rfl).trans ?_; simp [ea, eb, ec]
      have z1 : wr.heap.size < W.heap.size := by rw [hW]; simp
      have hgr : wr.grownBy W Option.none := by rw [hW]; exact World.grownBy_alloc _ _ _
      replace hown := Lib.hid (hown.out.kept hgr (by simp))
      replace hB : Below w.heap.size w W := by rw [hW]; have := hB.size; go_grown
      replace hz : w.heap.size < W.heap.size := by omega
      clear hgr hW x0 x1 x2 g1 g2 g3
      obtain ⟨kq, kr⟩ := cellB k1
      have y1 : IntKind.i64.wrap 1 = 1 := by decide
      have y2 : IntKind.i64.wrap 2 = 2 := by decide
      have y3 : IntKind.i64.wrap 3 = 3 := by decide
      have y4 : IntKind.i64.wrap 4 = 4 := by decide
      have y0 : IntKind.i64.wrap 0 = 0 := by decide
      have u1 : Int.tmod 1 3 = 1 := by decide
      have u2 : Int.tmod 2 3 = 2 := by decide
      have u3 : Int.tmod 3 3 = 0 := by decide
      have u4' : Int.tmod 4 3 = 1 := by decide
      refine wp_calm0 12 (by kernel_rfl) (by kernel_rfl) ?_
      intro K hK
      repeat (refine wpCalm_step (fun M hM => ?_); go_simp; first | (refine hM _ ?_; clear hM M) | (apply Exists.intro; refine ⟨fun wc hw => ?_, hM _ ?_⟩; (obtain ⟨hc, hf⟩ := bcell (hK wc hw); go_simp; first | exact rfl); clear hM M))
      refine wpCalm_nil ?_
      clear hK K kq kr y0 y1 y2 y3 y4 u1 u2 u3 u4'
      intro V hX
      replace hown : Hid (V.ownsMap Try.prog 3 (plainElem Try.prog 3) w.heap.size k D) := ownsMap_below hown.out hX hz
      replace hB := after hB hX
      replace hz := Nat.lt_of_lt_of_le hz hX.size
      clear hX k1 z1
      simp only [List.drop_succ_cons, List.drop_zero]
      go_wp2_with (first | (at_lookup; refine wpList_lookup_own_ok_int _ rfl _ _ 60 rfl 3 3 .i64 lawInt uMap uInt (zeroInt _) w.heap.size k D rfl hown.out _ _ rfl (keyOf_int_mk uInt (by first | exact W1.out | exact W2.out | exact W3'.out | exact hv.out)) ?_; intro cc hat hwc) | (at_mapUpdate; refine wpList_mapUpdate_own _ rfl _ _ _ 60 rfl 3 3 lawInt uMap _ w.heap.size k D rfl hown.out (by unfold maxLen; omega) _ _ _ rfl rfl (keyOf_int_mk uInt (by first | exact W1.out | exact W2.out | exact W3'.out | exact hv.out)) _ [] (plainElem_int uInt (by first | exact W1.out | exact W2.out | exact W3'.out | exact hv.out)) ?_; intro w1 hown1 hgrow1) | fail))
    · go_returns
      exact ⟨hB, .inl ⟨ring_many hlt (by rw [← EA.out, ← EB.out, ← EC.out]; simp [hit, ea, eb, ec]) HF.out, rfl⟩⟩
    · go_returns
      exact ⟨hB, .inl ⟨ring_many hlt (by rw [← EA.out, ← EB.out, ← EC.out]; simp [hit, ea, eb, ec]) HF.out, rfl⟩⟩
    · go_returns
      exact ⟨hB, .inl ⟨ring_many hlt (by rw [← EA.out, ← EB.out, ← EC.out]; simp [hit, ea, eb, ec]) HF.out, rfl⟩⟩
    · go_returns
      exact ⟨hB, .inl ⟨ring_many hlt (by rw [← EA.out, ← EB.out, ← EC.out]; simp [hit, ea, eb, ec]) HF.out, rfl⟩⟩
    · go_returns
      exact ⟨hB, .inl ⟨ring_many hlt (by rw [← EA.out, ← EB.out, ← EC.out]; simp [hit, ea, eb, ec]) HF.out, rfl⟩⟩
    · go_returns
      exact ⟨hB, .inl ⟨ring_many hlt (by rw [← EA.out, ← EB.out, ← EC.out]; simp [hit, ea, eb, ec]) HF.out, rfl⟩⟩
    · have hh : Maps.has D (.int .i64 b1) = true := by assumption
      go_returns
      exact ⟨hB, .inl ⟨ring_twice (p := (b1, c)) hlt (by rw [← EA.out, ← EB.out, ← EC.out]; simp [hit, ea, eb, ec]) (by rw [← HM.out.has]; exact hh) HF.out, rfl⟩⟩
    · have hh : Maps.has D (.int .i64 b1) = false := (Bool.not_eq_true _).mp (by assumption)
      have hL := HL.out
      refine ⟨⟨k + 1, L ++ [(b1, c)], D.put (.int .i64 b1) (i64v c), by omega, by go_num, ring_one (p := (b1, c)) hlt (by rw [← EA.out, ← EB.out, ← EC.out]; simp [hit, ea, eb, ec]) (by rw [← HM.out.has]; exact hh) HF.out, HM.out.snoc hh W2.out W3'.out, by show (L ++ _).length ≤ _; simp; omega, hown1, hB.grown hgrow1 hB.size (fun j hj => by cases hj; exact Nat.le_refl _), Nat.lt_of_lt_of_le hz hgrow1.size⟩, ?_⟩
      simp [intOf]; omega
    · go_returns
      exact ⟨hB, .inl ⟨ring_many hlt (by rw [← EA.out, ← EB.out, ← EC.out]; simp [hit, ea, eb, ec]) HF.out, rfl⟩⟩
    · go_returns
      exact ⟨hB, .inl ⟨ring_many hlt (by rw [← EA.out, ← EB.out, ← EC.out]; simp [hit, ea, eb, ec]) HF.out, rfl⟩⟩
    · have hh : Maps.has D (.int .i64 c) = true := by assumption
      go_returns
      exact ⟨hB, .inl ⟨ring_twice (p := (c, a)) hlt (by rw [← EA.out, ← EB.out, ← EC.out]; simp [hit, ea, eb, ec]) (by rw [← HM.out.has]; exact hh) HF.out, rfl⟩⟩
    · have hh : Maps.has D (.int .i64 c) = false := (Bool.not_eq_true _).mp (by assumption)
      have hL := HL.out
      refine ⟨⟨k + 1, L ++ [(c, a)], D.put (.int .i64 c) (i64v a), by omega, by go_num, ring_one (p := (c, a)) hlt (by rw [← EA.out, ← EB.out, ← EC.out]; simp [hit, ea, eb, ec]) (by rw [← HM.out.has]; exact hh) HF.out, HM.out.snoc hh W3'.out W1.out, by show (L ++ _).length ≤ _; simp; omega, hown1, hB.grown hgrow1 hB.size (fun j hj => by cases hj; exact Nat.le_refl _), Nat.lt_of_lt_of_le hz hgrow1.size⟩, ?_⟩
      simp [intOf]; omega
    · have hh : Maps.has D (.int .i64 a) = true := by assumption
      go_returns
      exact ⟨hB, .inl ⟨ring_twice (p := (a, b1)) hlt (by rw [← EA.out, ← EB.out, ← EC.out]; simp [hit, ea, eb, ec]) (by rw [← HM.out.has]; exact hh) HF.out, rfl⟩⟩
    · have hh : Maps.has D (.int .i64 a) = false := (Bool.not_eq_true _).mp (by assumption)
      have hL := HL.out
      refine ⟨⟨k + 1, L ++ [(a, b1)], D.put (.int .i64 a) (i64v b1), by omega, by go_num, ring_one (p := (a, b1)) hlt (by rw [← EA.out, ← EB.out, ← EC.out]; simp [hit, ea, eb, ec]) (by rw [← HM.out.has]; exact hh) HF.out, HM.out.snoc hh W1.out W2.out, by show (L ++ _).length ≤ _; simp; omega, hown1, hB.grown hgrow1 hB.size (fun j hj => by cases hj; exact Nat.le_refl _), Nat.lt_of_lt_of_le hz hgrow1.size⟩, ?_⟩
      simp [intOf]; omega
end Go.Proofs.Ytdglijdiiggdgaa
namespace Go.Proofs.Ytdglijdiiggdgaa
open Go.RowKit Go.Maps

def leastTo (zs : List Int) : Nat → Int
  | 0 => zs.getD 0 0
  | k + 1 => min (leastTo zs k) (zs.getD (k + 1) 0)
theorem leastTo_le (zs : List Int) : ∀ k j, j ≤ k → leastTo zs k ≤ zs.getD j 0
  | 0, j, h => by have : j = 0 := by omega
                  subst this; exact Int.le_refl _
  | k + 1, j, h => by
    unfold leastTo
    rcases Nat.lt_or_ge j (k + 1) with h1 | h1
    · have := leastTo_le zs k j (by omega); omega
    · have : j = k + 1 := by omega
      subst this; omega
theorem leastTo_mem (zs : List Int) : ∀ k, ∃ j, j ≤ k ∧ leastTo zs k = zs.getD j 0
  | 0 => ⟨0, Nat.le_refl _, rfl⟩
  | k + 1 => by
    obtain ⟨j, hj, e⟩ := leastTo_mem zs k
    unfold leastTo
    rcases Int.le_total (leastTo zs k) (zs.getD (k + 1) 0) with h | h
    · exact ⟨j, by omega, by rw [Int.min_eq_left h]; exact e⟩
    · exact ⟨k + 1, Nat.le_refl _, by rw [Int.min_eq_right h]⟩

set_option maxHeartbeats 2000000 in
theorem slices_min (g off n cp : Nat) (zs : List Int) (hn : 0 < n) (hbig : n < 4611686018427387904) (w : World)
    (hc : Hid (∀ j, j < n → w.cell? ⟨g, off + j, none⟩ = some (.int .i64 (zs.getD j 0)))) :
    Calls Try.prog 31 #[.slice (some ⟨g, off, none⟩) n cp] w fun e w' => e = .returned (.int .i64 (leastTo zs (n - 1))) ∧ w = w' := by
  have h1 : ¬ (n : Int) < 1 := by omega
  have c0 := hc.out 0 hn
  rw [Nat.add_zero] at c0
  obtain ⟨z, hz⟩ : ∃ z, z = zs.getD 0 0 := ⟨_, rfl⟩
  rw [← hz] at c0
  have HZ := Lib.hid hz
  clear hz
  go_enter Try.func31, Try.ntmps31
  go_wp2_with fail
  go_loop [3, 4] (fun m i => ∃ k : Nat, 1 ≤ k ∧ k ≤ n ∧ i = .int .i64 k ∧ ∃ y : Int, m = .int .i64 y ∧ Hid (y = leastTo zs (k - 1))) (fun _ i => n - (intOf i).toNat)
  case atStart => exact ⟨1, Nat.le_refl _, hn, rfl, z, rfl, HZ⟩
  case round =>
    obtain ⟨k, hk1, hk, rfl, y, rfl, HY⟩ := hrel
    clear c0 HZ
    by_cases hlt : k < n
    case neg =>
      have e : k = n := by omega
      go_wp2
      go_returns
      exact retI (by rw [HY.out, e]) rfl
    have ck := hc.out k hlt
    obtain ⟨x, hx⟩ : ∃ x, x = zs.getD k 0 := ⟨_, rfl⟩
    rw [← hx] at ck
    have HX := Lib.hid hx
    clear hx
    go_wp2
    go_round
    case rel => exact ⟨k + 1, by omega, by omega, by go_num, _, rfl, by
      have e : leastTo zs (k + 1 - 1) = min (leastTo zs (k - 1)) (zs.getD k 0) := by rw [show k + 1 - 1 = (k - 1) + 1 by omega, leastTo, show k - 1 + 1 = k by omega]
      show _ = _
      rw [e, ← HX.out, ← HY.out]
      split <;> omega⟩
    case measure => simp [intOf]; omega
end Go.Proofs.Ytdglijdiiggdgaa
namespace Go.Proofs.Ytdglijdiiggdgaa
open Go.RowKit Go.Maps

theorem infoInt : (Try.prog.info? 3).map (fun i => (i.zero, i.size, i.bytes)) = some (some (.int .i64 0), 1, 8) := by kernel_rfl
theorem uInts : Try.prog.underlying 31 = some (.slice 3) := by kernel_rfl

def lenV : Value → Nat
  | .slice _ n _ => n
  | _ => 0
def nextOf (L : List (Int × Int)) (a : Int) : Option Int := (L.find? (fun p => p.1 == a)).map Prod.snd
def leastOf (L : List (Int × Int)) : Int := leastTo (L.map Prod.fst) (L.length - 1)
def walkF (L : List (Int × Int)) (m : Int) : Nat → List Int → Int → Option (List Int)
  | 0, _, _ => none
  | f + 1, out, a => if out ≠ [] ∧ a = m then (if out.length < L.length then none else some out) else match nextOf L a with
    | none => none
    | some b => if out.length = L.length then none else walkF L m f (out ++ [a]) b
def arR (r : Option (List (Int × Int))) : Option (List Int) := match r with
  | none => none
  | some L => if L = [] then none else walkF L (leastOf L) (L.length + 2) [] (leastOf L)

theorem mem_getD {zs : List Int} {x : Int} (h : x ∈ zs) : ∃ j, j < zs.length ∧ zs.getD j 0 = x := by
  obtain ⟨j, hj, e⟩ := List.getElem_of_mem h
  exact ⟨j, hj, by simp [List.getD, hj, e]⟩
theorem getD_mem {zs : List Int} {j : Nat} (h : j < zs.length) : zs.getD j 0 ∈ zs := by
  simp [List.getD, h]
theorem least_same {zs ys : List Int} (hz : zs ≠ []) (h : ∀ a, a ∈ zs ↔ a ∈ ys) : leastTo zs (zs.length - 1) = leastTo ys (ys.length - 1) := by
  have l1 : 0 < zs.length := List.length_pos_iff.2 hz
  obtain ⟨x, hx⟩ := List.exists_mem_of_length_pos l1
  have l2 : 0 < ys.length := List.length_pos_of_mem ((h x).1 hx)
  obtain ⟨i, hi, ei⟩ := leastTo_mem zs (zs.length - 1)
  obtain ⟨j, hj, ej⟩ := leastTo_mem ys (ys.length - 1)
  have m1 : leastTo zs (zs.length - 1) ∈ ys := (h _).1 (ei ▸ getD_mem (by omega))
  have m2 : leastTo ys (ys.length - 1) ∈ zs := (h _).2 (ej ▸ getD_mem (by omega))
  obtain ⟨p, hp, ep⟩ := mem_getD m1
  obtain ⟨q, hq, eq⟩ := mem_getD m2
  have a1 := leastTo_le ys (ys.length - 1) p (by omega)
  have a2 := leastTo_le zs (zs.length - 1) q (by omega)
  omega
theorem ownsRow_base {w : World} {base base' : Nat} {e : TypeId} {size n : Nat} {v : Value} {xs : List Value} (h : w.ownsRow base e size v n xs) (hb : base' ≤ base) : w.ownsRow base' e size v n xs := by
  obtain ⟨h1, h2 | ⟨g, cap, cur, h3, h4, h5⟩⟩ := h
  · exact ⟨h1, .inl h2⟩
  · exact ⟨h1, .inr ⟨g, cap, cur, h3, Nat.le_trans hb h4, h5⟩⟩
theorem MapIs.mem {D : DataW Unit} {L : List (Int × Int)} (h : MapIs D L) (a : Int) : Maps.has D (.int .i64 a) = true ↔ a ∈ L.map Prod.fst := by
  rw [h.has]; simp
theorem nextOf_none {D : DataW Unit} {L : List (Int × Int)} (h : MapIs D L) {a : Int} (hn : Maps.has D (.int .i64 a) = false) : nextOf L a = none := by
  have h1 := h.has a
  rw [hn] at h1
  unfold nextOf
  rw [List.find?_eq_none.2]
  · rfl
  · intro p hp
    have := List.any_eq_false.1 h1.symm p hp
    simpa using this
theorem nextOf_some {D : DataW Unit} {L : List (Int × Int)} (h : MapIs D L) {a c : Int} (hn : Maps.has D (.int .i64 a) = true) (hc : D.atKey (.int .i64 a) (.lit (.int .i64 0)) = .lit (.int .i64 c)) : nextOf L a = some c ∧ Wf c := by
  have h1 := h.has a
  rw [hn] at h1
  unfold nextOf
  cases hf : L.find? (fun p => p.1 == a) with
  | none =>
    rw [List.find?_eq_none] at hf
    obtain ⟨p, hp, hq⟩ := List.any_eq_true.1 h1.symm
    exact absurd hq (hf p hp)
  | some p =>
    have hp := List.mem_of_find?_eq_some hf
    have hk := List.find?_some hf
    simp only [beq_iff_eq] at hk
    have h2 := h.at_ p hp
    rw [hk] at h2
    have h3 := hc.symm.trans h2
    unfold i64v at h3
    injection h3 with h3
    injection h3 with _ h3
    subst h3
    exact ⟨rfl, (h.wf p hp).2⟩
section
variable {L : List (Int × Int)} {m a b : Int} {out : List Int} {res : Option (List Int)} {f : Nat}
theorem walk_end (ho : out ≠ []) (ha : a = m) (h : walkF L m (f + 1) out a = res) : res = if out.length < L.length then none else some out := by
  rw [walkF, if_pos ⟨ho, ha⟩] at h; exact h.symm
theorem walk_miss (hc : ¬ (out ≠ [] ∧ a = m)) (hn : nextOf L a = none) (h : walkF L m (f + 1) out a = res) : res = none := by
  rw [walkF, if_neg hc, hn] at h; exact h.symm
theorem walk_full (hc : ¬ (out ≠ [] ∧ a = m)) (hn : nextOf L a = some b) (hl : out.length = L.length) (h : walkF L m (f + 1) out a = res) : res = none := by
  rw [walkF, if_neg hc, hn] at h; simp only [hl, if_true] at h; exact h.symm
theorem walk_on (hc : ¬ (out ≠ [] ∧ a = m)) (hn : nextOf L a = some b) (hl : ¬ out.length = L.length) (h : walkF L m (f + 1) out a = res) : walkF L m f (out ++ [a]) b = res := by
  rw [walkF, if_neg hc, hn] at h; simpa [hl] using h
end

set_option maxRecDepth 100000 in
set_option maxHeartbeats 8000000 in
theorem cert_around (pa : Option Addr) (n cp : Nat) (v : Int) (A B C : Nat → Int) (r : Option (List (Int × Int))) (hn : n < 1048576) (hv : Hid (Wf v)) (hwf : Hid (∀ k, k < n → Wf (A k) ∧ Wf (B k) ∧ Wf (C k))) (hr : Hid (ringF v A B C (n - 0) 0 [] = r))
    (w : World) (hp : Hid (PtsO w pa n A B C)) :
    Calls Try.prog 10 #[.slice pa n cp, .int .i64 v] w fun e w' => Below w.heap.size w w' ∧
      ((arR r = none ∧ e = .returned (.tuple #[.slice none 0 0, .int .i64 170])) ∨ (∃ out vv, arR r = some out ∧ w'.ownsRow w.heap.size 3 1 vv out.length (out.map (Value.int .i64)) ∧ e = .returned (.tuple #[vv, .int .i64 0]))) := by
  obtain ⟨i0, hi, hz0, hz1, hz2⟩ := info_parts infoInt
  have HI := Lib.hid hi; have HZ0 := Lib.hid hz0; have HZ1 := Lib.hid hz1; have HZ2 := Lib.hid hz2
  clear hi hz0 hz1 hz2
  go_enter Try.func10, Try.ntmps10
  go_wp2_with fail
  refine (cert_ring pa n cp v A B C r hn hv hwf hr w hp).mono ?_
  rintro e W ⟨hB, h⟩
  rcases h with ⟨rfl, rfl⟩ | ⟨L, D, rfl, HM, hLn, hown, rfl⟩
  · go_wp2
    go_returns
    exact ⟨hB, .inl ⟨rfl, rfl⟩⟩
  have hM := Lib.hid HM; have hO := Lib.hid hown; have hL := Lib.hid hLn
  have hbl := hown.lt
  clear HM hown hLn
  by_cases hL0 : L = []
  · subst hL0
    go_wp2
    go_returns
    exact ⟨hB, .inl ⟨rfl, rfl⟩⟩
  have hpos : 0 < L.length := List.length_pos_iff.2 hL0
  go_wp2_with (first
    | (at_range; refine wpList_range_own _ rfl _ 60 rfl 3 3 lawInt uMap _ w.heap.size n D rfl hO.out ?_; intro w0 hrg0 hg0 hs0)
    | fail)
  go_frame
  go_loopw [8] (fun u wr => ∃ (left : Lit → Bool) (cnt : Nat) (zs : List Int), Hid (wr.ranges Try.prog 3 (plainElem Try.prog 3) w.heap.size W.heap.size n D left cnt) ∧ Hid (zs.length + cnt ≤ Maps.size D) ∧
      Hid (∀ a, a ∈ zs ↔ (Maps.has D (.int .i64 a) = true ∧ left (.int .i64 a) = false)) ∧ Hid (wr.ownsRow (W.heap.size + 1) 3 1 u zs.length (zs.map (Value.int .i64))) ∧ Hid (Below w.heap.size w wr) ∧ Hid (W.heap.size + 1 ≤ wr.heap.size))
    (fun _ wr => wr.rangeLeft w.heap.size W.heap.size)
  case atStart =>
    exact ⟨_, _, [], hrg0, (by show 0 + _ ≤ _; omega), (by intro a; simp), World.ownsRow_nil _ _ _ _, hB.grown hg0 hB.size (fun j hj => by cases hj), Nat.le_of_eq hs0.symm⟩
  case round =>
    have hWw := hB.size
    clear hrg0 hg0 hs0 hB
    obtain ⟨left, cnt, zs, hrg, hcs, hzs, hrow, hnx, hws⟩ := hrel
    go_wp2_with (first
      | (at_next; refine wpList_next_ranges_ii _ rfl _ rfl 3 3 .i64 .i64 lawInt uInt uInt w.heap.size W.heap.size n _ _ _ rfl hrg.out ?_ ?_)
      | fail)
    · intro hc0 hl0
      have hsame : ∀ a, a ∈ zs ↔ a ∈ L.map Prod.fst := fun a => by
        rw [hzs.out a, ← hM.out.mem a]; simp [hl0]
      have hz0 : zs ≠ [] := by
        intro e
        obtain ⟨p, hp⟩ := List.exists_mem_of_length_pos hpos
        have := (hsame p.1).2 (List.mem_map_of_mem hp)
        rw [e] at this; cases this
      have hlz : 0 < zs.length := List.length_pos_iff.2 hz0
      have hlz2 : zs.length < 1048576 := by have := hcs.out; have := hM.out.size; have := hL.out; omega
      have hm : leastTo zs (zs.length - 1) = leastOf L := by
        have := least_same hz0 hsame
        rw [this, List.length_map]; rfl
      obtain ⟨_, hform⟩ := hrow.out
      rcases hform with ⟨_, hzero⟩ | ⟨g, cap, cur, rfl, hform2⟩
      · omega
      have hcell : Hid (∀ j, j < zs.length → wr.cell? ⟨g, 0 + j, none⟩ = some (.int .i64 (zs.getD j 0))) := fun j hj => by rw [Nat.zero_add, hrow.out.cellAt j (by omega), List.getElem?_map, List.getElem?_eq_getElem hj]; simp [List.getD, hj]
      have hcap := Lib.hid hform2
      have HM2 := Lib.hid hm
      have hmp : Hid (wr.ownsMap Try.prog 3 (plainElem Try.prog 3) w.heap.size n D) := hrg.out.owns
      clear hm hform2 hsame hz0 hl0 hrg hzs hrow hcs hc0
      go_wp2_with fail
      refine (slices_min g 0 zs.length cap zs hlz (by omega) _ hcell).mono ?_; rintro e W1 ⟨rfl, rfl⟩
      rw [HM2.out]
      clear HM2 hcell
      go_wp2_with (first
        | (at_len; refine wpList_len_own _ rfl _ 60 rfl 3 3 uMap _ w.heap.size n D rfl hmp.out ?_; rw [hM.out.size])
        | (at_make; refine wpList_make_own _ rfl _ _ 31 rfl (W.heap.size + 1) 3 i0 (.int .i64 0) 1 uInts HI.out HZ0.out HZ1.out _ _ _ L.length rfl rfl rfl (by rw [HZ2.out]; have := hL.out; omega) (by have := hL.out; unfold maxLen; omega) hws.out ?_; intro w2 hrow2 hgr2)
        | fail)
      first | refine wp_named ?_ | refine calls_named ?_
      intro W2 hW2
      subst hW2
      have hwfm : Wf (leastOf L) := by
        obtain ⟨j, hj, ej⟩ := leastTo_mem (L.map Prod.fst) (L.length - 1)
        have : leastOf L ∈ L.map Prod.fst := by unfold leastOf; rw [ej]; exact getD_mem (by rw [List.length_map]; omega)
        obtain ⟨p, hp, ep⟩ := List.mem_map.1 this
        rw [← ep]; exact (hM.out.wf p hp).1
      have hF0 : walkF L (leastOf L) (L.length + 2 - 0) [] (leastOf L) = arR (some L) := by unfold arR; simp [hL0]
      have HF0 := Lib.hid hF0
      clear hF0
      have HW := Lib.hid hwfm
      clear hwfm
      have hnxg := hnx.out.grown hgr2 hnx.out.size (fun j hj => by cases hj)
      have hmpg := hmp.out.kept hgr2 (by simp)
      have hwsg : W.heap.size + 1 ≤ W2.heap.size := Nat.le_trans hws.out hgr2.size
      generalize hres : arR (some L) = res at *
      have HRES := Lib.hid hres
      clear hres
      go_loopw [11, 12] (fun u i wr => ∃ (out : List Int) (a : Int) (g cap q : Nat), u = .slice (some ⟨g, 0, none⟩) q cap ∧ i = .int .i64 a ∧ Hid (q = out.length) ∧ Hid (walkF L (leastOf L) (L.length + 2 - q) out a = res) ∧ Hid (q ≤ L.length) ∧
          Hid (wr.ownsRow (W.heap.size + 1) 3 1 (.slice (some ⟨g, 0, none⟩) q cap) q (out.map (Value.int .i64))) ∧ Hid (wr.ownsMap Try.prog 3 (plainElem Try.prog 3) w.heap.size n D) ∧ Hid (Below w.heap.size w wr) ∧ Hid (W.heap.size + 1 ≤ wr.heap.size) ∧ Hid (Wf a))
        (fun u _ _ => L.length + 1 - lenV u)
      case atStart => exact ⟨[], leastOf L, _, _, 0, rfl, rfl, rfl, HF0, Nat.zero_le _, hrow2, hmpg, hnxg, hwsg, HW⟩
      case round =>
        clear hnxg hmpg hwsg HF0 HW hgr2 hrow2 hmp hnx hws hcap
        obtain ⟨out, a, g2, cap2, q, rfl, rfl, hq, hF, hqL, hrow, hmp, hnx, hws, hwa⟩ := hrel
        have hqn : q < 1048576 := by have := hqL.out; have := hL.out; omega
        have hlen := fun ty => hmp.out.len uMap ty
        rw [hM.out.size] at hlen
        have hf1 : L.length + 2 - q = (L.length + 1 - q) + 1 := by have := hqL.out; omega
        have hF1 := hF.out
        rw [hf1] at hF1
        have HF1 := Lib.hid hF1
        clear hF1 hf1 hF
        by_cases hend : ¬ q = 0 ∧ a = leastOf L
        · obtain ⟨hq0, rfl⟩ := hend
          have hres2 := walk_end (by intro e; rw [hq.out, e] at hq0; exact hq0 rfl) rfl HF1.out
          have hqe := hq.out
          by_cases hshort : q < L.length
          · rw [if_pos (by omega)] at hres2
            clear hqe
            go_wp2
            go_returns
            exact ⟨hnx.out, .inl ⟨HRES.out.trans hres2, rfl⟩⟩
          · rw [if_neg (by omega)] at hres2
            clear hqe
            go_wp2
            go_returns
            exact ⟨hnx.out, .inr ⟨out, _, HRES.out.trans hres2, (by rw [← hq.out]; exact ownsRow_base hrow.out (Nat.le_trans (Nat.le_of_lt hbl) (Nat.le_succ _))), rfl⟩⟩
        have hc : ¬ (out ≠ [] ∧ a = leastOf L) := fun h => hend ⟨fun e => h.1 (List.eq_nil_of_length_eq_zero (by rw [← hq.out]; exact e)), h.2⟩
        have hcond : Hid (¬ (out ≠ [] ∧ a = leastOf L)) := hc
        clear hc
        have hkey := keyOf_int_mk (P := Try.prog) uInt hwa.out
        have HKEY := Lib.hid hkey
        clear hkey
        have HEND := Lib.hid hend
        clear hend
        by_cases hq0 : q = 0
        · subst hq0
          cases hh : Maps.has D (.int .i64 a) with
          | false =>
            go_wp2_with (first | (at_lookup; refine wpList_lookup_own_ok_int _ rfl _ _ 60 rfl 3 3 .i64 lawInt uMap uInt (zeroInt _) w.heap.size n D rfl hmp.out _ _ rfl HKEY.out ?_; intro cc hat hwc) | fail)
            go_returns
            exact ⟨hnx.out, .inl ⟨HRES.out.trans (walk_miss hcond.out (nextOf_none hM.out hh) HF1.out), rfl⟩⟩
          | true =>
            by_cases hfull : 0 = L.length
            · exact absurd hfull (by omega)
            · go_wp2_with (first | (at_lookup; refine wpList_lookup_own_ok_int _ rfl _ _ 60 rfl 3 3 .i64 lawInt uMap uInt (zeroInt _) w.heap.size n D rfl hmp.out _ _ rfl HKEY.out ?_; intro cc hat hwc) | (at_builtin; refine wpList_append_own _ rfl _ _ 31 rfl (W.heap.size + 1) 3 i0 (.int .i64 0) 1 8 uInts HI.out HZ0.out HZ1.out HZ2.out rfl (by decide) _ _ _ rfl (hrow.out.alloc _) ⟨wr.heap.size, 0, none⟩ 1 1 [.int .i64 a] rfl rfl (cell_one_new _ _ _) (ints_oneCell .i64 [a]) (by unfold maxLen; omega) (by omega) (by have := hws.out; simp; omega) ?_; intro v' w3 hrow3 hgr3 hnil3) | fail)
              obtain ⟨_, h00⟩ := id hrow3
              replace h00 := h00.resolve_left (fun h => by have := h.2; omega)
              obtain ⟨g3, cap3, cur3, rfl, h3⟩ := h00
              have hg2 := (hrow.out.lt g2 rfl).1
              have hqq := hq.out
              have hql := hqL.out
              go_roundw
              case rel =>
                refine ⟨out ++ [a], cc, g3, cap3, 0 + 1, rfl, rfl, ?_, ?_, ?_, ?_, ?_, ?_, ?_, (nextOf_some hM.out hh hat).2⟩
                · show 0 + 1 = (out ++ [a]).length; rw [List.length_append]; show 0 + 1 = out.length + 1; omega
                · show walkF _ _ _ _ _ = _
                  rw [show L.length + 2 - (0 + 1) = L.length + 1 - 0 by omega]
                  exact walk_on hcond.out (nextOf_some hM.out hh hat).1 (by omega) HF1.out
                · show 0 + 1 ≤ _; omega
                · show World.ownsRow _ _ _ _ _ _ _
                  simpa using hrow3
                · exact (hmp.out.alloc _).kept hgr3 (by intro e; have e2 : w.heap.size = g2 := (by injection e); omega)
                · exact (hnx.out.alloc hnx.out.size _).grown hgr3 (by have := hnx.out.size; simp; omega) (fun j hj => by have e2 : g2 = j := (by injection hj); omega)
                · have h1 := hgr3.size; have h2 := hws.out; simp only [World.size_alloc] at h1; show _ ≤ _; omega
              case measure => simp only [lenV]; omega
        · have ha : (a != leastOf L) = true := by simp; exact fun e => HEND.out ⟨hq0, e⟩
          cases hh : Maps.has D (.int .i64 a) with
          | false =>
            go_wp2_with (first | (at_lookup; refine wpList_lookup_own_ok_int _ rfl _ _ 60 rfl 3 3 .i64 lawInt uMap uInt (zeroInt _) w.heap.size n D rfl hmp.out _ _ rfl HKEY.out ?_; intro cc hat hwc) | fail)
            go_returns
            exact ⟨hnx.out, .inl ⟨HRES.out.trans (walk_miss hcond.out (nextOf_none hM.out hh) HF1.out), rfl⟩⟩
          | true =>
            by_cases hfull : q = L.length
            · go_wp2_with (first | (at_lookup; refine wpList_lookup_own_ok_int _ rfl _ _ 60 rfl 3 3 .i64 lawInt uMap uInt (zeroInt _) w.heap.size n D rfl hmp.out _ _ rfl HKEY.out ?_; intro cc hat hwc) | fail)
              go_returns
              exact ⟨hnx.out, .inl ⟨HRES.out.trans (walk_full hcond.out (nextOf_some hM.out hh hat).1 (hq.out.symm.trans hfull) HF1.out), rfl⟩⟩
            · go_wp2_with (first | (at_lookup; refine wpList_lookup_own_ok_int _ rfl _ _ 60 rfl 3 3 .i64 lawInt uMap uInt (zeroInt _) w.heap.size n D rfl hmp.out _ _ rfl HKEY.out ?_; intro cc hat hwc) | (at_builtin; refine wpList_append_own _ rfl _ _ 31 rfl (W.heap.size + 1) 3 i0 (.int .i64 0) 1 8 uInts HI.out HZ0.out HZ1.out HZ2.out rfl (by decide) _ _ _ rfl (hrow.out.alloc _) ⟨wr.heap.size, 0, none⟩ 1 1 [.int .i64 a] rfl rfl (cell_one_new _ _ _) (ints_oneCell .i64 [a]) (by unfold maxLen; omega) (by omega) (by have := hws.out; simp; omega) ?_; intro v' w3 hrow3 hgr3 hnil3) | fail)
              obtain ⟨_, h00⟩ := id hrow3
              replace h00 := h00.resolve_left (fun h => by have := h.2; omega)
              obtain ⟨g3, cap3, cur3, rfl, h3⟩ := h00
              have hg2 := (hrow.out.lt g2 rfl).1
              have hqq := hq.out
              have hql := hqL.out
              go_roundw
              case rel =>
                refine ⟨out ++ [a], cc, g3, cap3, q + 1, rfl, rfl, ?_, ?_, ?_, ?_, ?_, ?_, ?_, (nextOf_some hM.out hh hat).2⟩
                · show q + 1 = (out ++ [a]).length; rw [List.length_append]; show q + 1 = out.length + 1; omega
                · show walkF _ _ _ _ _ = _
                  rw [show L.length + 2 - (q + 1) = L.length + 1 - q by omega]
                  exact walk_on hcond.out (nextOf_some hM.out hh hat).1 (by omega) HF1.out
                · show q + 1 ≤ _; omega
                · show World.ownsRow _ _ _ _ _ _ _
                  simpa using hrow3
                · exact (hmp.out.alloc _).kept hgr3 (by intro e; have e2 : w.heap.size = g2 := (by injection e); omega)
                · exact (hnx.out.alloc hnx.out.size _).grown hgr3 (by have := hnx.out.size; simp; omega) (fun j hj => by have e2 : g2 = j := (by injection hj); omega)
                · have h1 := hgr3.size; have h2 := hws.out; simp only [World.size_alloc] at h1; show _ ≤ _; omega
              case measure => simp only [lenV]; omega
    · intro x c w1 cnt1 hwx hwc hlx hat hrg1 hlt hg1 hs1 hen
      have hob : ∀ k, Value.ownBlock u8 = some k → W.heap.size + 1 ≤ k := fun k h => (hrow.out.lt k h).1
      have hne1 : Value.ownBlock u8 = none ∨ Value.ownBlock u8 ≠ some W.heap.size := by
        cases h : Value.ownBlock u8 with
        | none => exact .inl rfl
        | some k => exact .inr (fun e => by have := hob k h; injection e with e; omega)
      have hrow1 := Lib.hid (hrow.out.kept hg1 hne1)
      have hmne : ∀ q, q ≤ W.heap.size → some q ≠ Value.ownBlock u8 := fun q hq e => by have := hob q e.symm; omega
      have hlz : zs.length < 1048576 := by have := hcs.out; have := hM.out.size; have := hL.out; omega
      have hs1' : W.heap.size + 1 ≤ w1.heap.size := Nat.le_trans hws.out (Nat.le_of_eq hs1.symm)
      have HMN := Lib.hid hmne; have HOB := Lib.hid hob; have HG1 := Lib.hid hg1; have HR1 := Lib.hid hrg1; have HAT := Lib.hid hat
      clear hne1 hob hs1 hmne hg1 hrg1 hat
      go_wp2_with (first
        | (at_builtin; refine wpList_append_own _ rfl _ _ 31 rfl (W.heap.size + 1) 3 i0 (.int .i64 0) 1 8 uInts HI.out HZ0.out HZ1.out HZ2.out rfl (by decide) _ _ _ rfl (hrow1.out.alloc _) ⟨w1.heap.size, 0, none⟩ 1 1 [.int .i64 x] rfl rfl (cell_one_new _ _ _) (ints_oneCell .i64 [x]) (by unfold maxLen; omega) (by omega) (by simp; omega) ?_; intro v' w2 hrow2 hgr2 hnil2; go_frame)
        | fail)
      go_roundw
      case rel =>
        refine ⟨_, cnt1, zs ++ [x], (HR1.out.alloc _).kept hgr2 (HMN.out _ hWw) (HMN.out _ (Nat.le_refl _)), ?_, ?_, ?_, ?_, ?_⟩
        · have := hcs.out; show (zs ++ [x]).length + cnt1 ≤ _; simp; omega
        · have hhx : Maps.has D (.int .i64 x) = true := has_true_of_atKey HAT.out
          intro a
          rw [List.mem_append, hzs.out a, List.mem_singleton]
          by_cases hax : a = x
          · subst hax; simp [hhx, Lit.sameKey]
          · simp [hax, Lit.sameKey]
        · show World.ownsRow _ _ _ _ _ _ _
          simpa using hrow2
        · exact ((hnx.out.grown HG1.out hnx.out.size (fun j hj => by cases hj; exact hWw)).alloc (by omega) _).grown hgr2 (by simp; omega) (fun j hj => by have := HOB.out j hj; omega)
        · have := hgr2.size; simp at this; show _ ≤ _; omega
      case measure =>
        have := ((HR1.out.alloc _).kept hgr2 (HMN.out _ hWw) (HMN.out _ (Nat.le_refl _))).left_eq
        rw [this, hrg.out.left_eq]; exact hlt
end Go.Proofs.Ytdglijdiiggdgaa
namespace Go.Proofs.Ytdglijdiiggdgaa
open Go.RowKit Go.Maps

/-- A slice of ints in memory that reads as a list. -/
def IntsAt (w : World) (p : Option Addr) (xs : List Int) : Prop :=
  ∀ j, j < xs.length → ∃ g off, p = some ⟨g, off, none⟩ ∧ g < w.heap.size ∧ w.cell? ⟨g, off + j, none⟩ = some (.int .i64 (xs.getD j 0))
theorem IntsAt.mono {w w' : World} {p : Option Addr} {xs : List Int} (h : IntsAt w p xs) {B : Nat} (hB : Below B w w') (hg : ∀ g off, p = some ⟨g, off, none⟩ → g < B) : IntsAt w' p xs := by
  intro j hj
  obtain ⟨g, off, e, h1, h2⟩ := h j hj
  exact ⟨g, off, e, Nat.lt_of_lt_of_le h1 hB.size, (hB.cell (p := ⟨g, _, none⟩) (hg g off e)).trans h2⟩
theorem IntsAt.below {w w' : World} {p : Option Addr} {xs : List Int} (h : IntsAt w p xs) (hB : Below w.heap.size w w') : IntsAt w' p xs := by
  intro j hj
  obtain ⟨g, off, e, h1, h2⟩ := h j hj
  exact ⟨g, off, e, Nat.lt_of_lt_of_le h1 hB.size, (hB.cell (p := ⟨g, _, none⟩) h1).trans h2⟩

theorem eq_of_getD {xs ys : List Int} (hl : xs.length = ys.length) (h : ∀ j, j < xs.length → xs.getD j 0 = ys.getD j 0) : xs = ys := by
  apply List.ext_getElem hl
  intro j h1 h2
  have := h j h1
  simpa [List.getD, h1, h2] using this

set_option maxRecDepth 100000 in
set_option maxHeartbeats 4000000 in
theorem ref3_compare (p q : Option Addr) (c1 c2 : Nat) (xs ys : List Int) (m n : Nat) (hm : m = xs.length) (hn : n = ys.length) (b1 : m < 4611686018427387904) (b2 : n < 4611686018427387904) (w : World) (hx : Hid (IntsAt w p xs)) (hy : Hid (IntsAt w q ys)) :
    Calls Try.prog 32 #[.slice p m c1, .slice q n c2] w fun e w' => Below w.heap.size w w' ∧ ∃ c : Int, e = .returned (.int .i64 c) ∧ (c = 0 ↔ xs = ys) := by
  have HM := Lib.hid hm; have HN := Lib.hid hn
  clear hm hn
  go_enter Try.func32, Try.ntmps32
  go_wp2_with fail
  go_loopw [5] (fun u wr => ∃ k : Nat, k ≤ m ∧ k ≤ n ∧ u = .int .i64 k ∧ Hid (∀ j, j < k → xs.getD j 0 = ys.getD j 0) ∧ Below w.heap.size w wr)
    (fun u _ => m - (intOf u).toNat)
  case atStart => exact ⟨0, Nat.zero_le _, Nat.zero_le _, rfl, (by intro j hj; omega), Below.refl _ _⟩
  case round =>
    obtain ⟨k, hk1, hk2, rfl, hE, hB⟩ := hrel
    by_cases h1 : k < m
    case neg =>
      have hkm : k = m := by omega
      by_cases h2 : m < n
      · go_wp2
        go_returns
        refine ⟨hB, _, rfl, ?_⟩
        have hm := HM.out; have hn := HN.out
        refine ⟨(fun e => by cases e), fun e => by rw [e] at hm; omega⟩
      · have hmn : m = n := by omega
        have hnm : ¬ n < m := by omega
        have hfin : xs = ys := eq_of_getD (by rw [← HM.out, ← HN.out]; exact hmn) (fun j hj => hE.out j (by rw [hkm, HM.out]; exact hj))
        have HF := Lib.hid hfin
        clear hkm hmn hfin
        go_wp2
        go_returns
        exact ⟨hB, _, rfl, ⟨fun _ => HF.out, fun _ => rfl⟩⟩
    by_cases h2 : k < n
    case neg =>
      have h3 : ¬ m < n := by omega
      have h4 : n < m := by omega
      go_wp2
      go_returns
      refine ⟨hB, _, rfl, ?_⟩
      have hm := HM.out; have hn := HN.out
      refine ⟨(fun e => by cases e), fun e => by rw [e] at hm; omega⟩
    obtain ⟨g, off, rfl, hg, hc⟩ := hx.out k (by rw [← HM.out]; exact h1)
    obtain ⟨g', off', rfl, hg', hc'⟩ := hy.out k (by rw [← HN.out]; exact h2)
    replace hc := (hB.cell (p := ⟨g, off + k, none⟩) hg).trans hc
    replace hc' := (hB.cell (p := ⟨g', off' + k, none⟩) hg').trans hc'
    replace hg := Nat.lt_of_lt_of_le hg hB.size
    replace hg' := Nat.lt_of_lt_of_le hg' hB.size
    obtain ⟨x, hxv⟩ : ∃ x, x = xs.getD k 0 := ⟨_, rfl⟩
    obtain ⟨y, hyv⟩ : ∃ y, y = ys.getD k 0 := ⟨_, rfl⟩
    rw [← hxv] at hc; rw [← hyv] at hc'
    have HX := Lib.hid hxv; have HY := Lib.hid hyv
    clear hxv hyv
    go_wp2_with fail
    refine wp_calm0 9 (by kernel_rfl) (by kernel_rfl) ?_
    intro K hK
    repeat (refine wpCalm_step (fun M hM => ?_); go_simp; first | (refine hM _ ?_; clear hM M) | (apply Exists.intro; refine ⟨fun wc hw => ?_, hM _ ?_⟩; (obtain ⟨hcc, hff⟩ := bcell (hK wc hw); go_simp; first | exact rfl); clear hM M))
    refine wpCalm_nil ?_
    clear hK K
    intro V hX
    replace hc := (hX.cell (p := ⟨g, off + k, none⟩) hg).trans hc
    replace hc' := (hX.cell (p := ⟨g', off' + k, none⟩) hg').trans hc'
    replace hg := Nat.lt_of_lt_of_le hg hX.size
    replace hg' := Nat.lt_of_lt_of_le hg' hX.size
    replace hB := after hB hX
    clear hX
    simp only [List.drop_succ_cons, List.drop_zero]
    by_cases hlt : x < y
    · go_wp2
      go_returns
      refine ⟨hB, _, rfl, (fun e => by cases e), fun e => ?_⟩
      have := HX.out; have := HY.out; rw [e] at *; omega
    go_wp2_with fail
    refine wp_calm0 9 (by kernel_rfl) (by kernel_rfl) ?_
    intro K hK
    repeat (refine wpCalm_step (fun M hM => ?_); go_simp; first | (refine hM _ ?_; clear hM M) | (apply Exists.intro; refine ⟨fun wc hw => ?_, hM _ ?_⟩; (obtain ⟨hcc, hff⟩ := bcell (hK wc hw); go_simp; first | exact rfl); clear hM M))
    refine wpCalm_nil ?_
    clear hK K
    intro V2 hX
    replace hB := after hB hX
    clear hX hc hc' hg hg'
    simp only [List.drop_succ_cons, List.drop_zero]
    by_cases hgt : y < x
    · go_wp2
      go_returns
      refine ⟨hB, _, rfl, (fun e => by cases e), fun e => ?_⟩
      have := HX.out; have := HY.out; rw [e] at *; omega
    go_wp2
    go_roundw
    case rel =>
      refine ⟨k + 1, by omega, by omega, by go_num, ?_, hB⟩
      intro j hj
      rcases Nat.lt_or_ge j k with h | h
      · exact hE.out j h
      · have : j = k := by omega
        subst this
        rw [← HX.out, ← HY.out]; omega
    case measure => simp [intOf]; omega
set_option maxHeartbeats 1000000 in
theorem ref3_same (p q : Option Addr) (c1 c2 : Nat) (xs ys : List Int) (m n : Nat) (hm : m = xs.length) (hn : n = ys.length) (b1 : m < 4611686018427387904) (b2 : n < 4611686018427387904) (w : World) (hx : Hid (IntsAt w p xs)) (hy : Hid (IntsAt w q ys)) :
    Calls Try.prog 12 #[.slice p m c1, .slice q n c2] w fun e w' => e = .returned (.bool (decide (xs = ys))) ∧ Below w.heap.size w w' := by
  have H := Lib.hid (ref3_compare p q c1 c2 xs ys m n hm hn b1 b2 w hx hy)
  clear hm hn
  go_enter Try.func12, Try.ntmps12
  go_wp2_with fail
  refine H.out.mono ?_; rintro e W1 ⟨hX, c, rfl, hc⟩
  have HC := Lib.hid hc
  clear hc
  by_cases h0 : c = 0
  · have := HC.out.1 h0
    have HT := Lib.hid this
    clear this
    go_wp2
    go_returns
    exact retB (by simp [HT.out, h0]) hX
  · have : ¬ xs = ys := fun e => h0 (HC.out.2 e)
    have HT := Lib.hid this
    clear this
    go_wp2
    go_returns
    exact retB (by simp [HT.out, h0]) hX
end Go.Proofs.Ytdglijdiiggdgaa
namespace Go.Proofs.Ytdglijdiiggdgaa
open Go.RowKit Go.Maps

/-- Two rows of ints of the call's own, in blocks apart. -/
structure Two (w0 w : World) (u : Value) (xs : List Int) (u' : Value) (ys : List Int) : Prop where
  one : w.ownsRow w0.heap.size 3 1 u xs.length (xs.map (Value.int .i64))
  two : w.ownsRow w0.heap.size 3 1 u' ys.length (ys.map (Value.int .i64))
  apart : ∀ k, u.ownBlock = some k → u'.ownBlock ≠ some k
  below : Below w0.heap.size w0 w
section
variable {w0 w w' : World} {u u' v' : Value} {xs ys : List Int} {x : Int} {o : Obj}
theorem Two.swap (h : Two w0 w u xs u' ys) : Two w0 w u' ys u xs := ⟨h.two, h.one, fun k h1 h2 => h.apart k h2 h1, h.below⟩
theorem Two.more (h : Two w0 w u xs u' ys) (h1 : w'.ownsRow w0.heap.size 3 1 v' (xs.length + 1) (xs.map (Value.int .i64) ++ [.int .i64 x])) (h2 : (w.alloc o).grownBy w' u.ownBlock)
    (h4 : v'.ownBlock = u.ownBlock ∨ v'.ownBlock = some (w.alloc o).heap.size) : Two w0 w' v' (xs ++ [x]) u' ys := by
  have hsz := h.below.size
  refine ⟨by simpa using h1, (h.two.alloc o).kept h2 ?_, ?_, (h.below.alloc hsz o).grown h2 (by simp; omega) (fun j hj => (h.one.lt j hj).1)⟩
  · cases e : u'.ownBlock with
    | none => exact .inl rfl
    | some k => exact .inr (fun e2 => h.apart k e2.symm e)
  · intro k hk
    rcases h4 with h4 | h4
    · exact h.apart k (h4 ▸ hk)
    · intro e
      have := (h.two.lt k e).2
      rw [h4] at hk
      injection hk with hk
      simp at hk
      omega
theorem Two.cells (h : Two w0 w u xs u' ys) {b : Nat} (hb : b < w0.heap.size) : (∀ o, w.cell? ⟨b, o, none⟩ = w0.cell? ⟨b, o, none⟩) ∧ b < w.heap.size :=
  ⟨fun o => h.below.cell (p := ⟨b, o, none⟩) hb, Nat.lt_of_lt_of_le hb h.below.size⟩
end

def refR (r : Option (List (Int × Int))) : Option (List Int) := match r with
  | none => none
  | some M => if (M.map Prod.fst).Nodup then arR (some M) else none
theorem nextOf_at : ∀ {M : List (Int × Int)} {j : Nat}, (M.map Prod.fst).Nodup → (h : j < M.length) → nextOf M (M[j]).1 = some (M[j]).2
  | [], _, _, h => absurd h (Nat.not_lt_zero _)
  | p :: M, 0, _, _ => by unfold nextOf; simp
  | p :: M, j + 1, hn, h => by
    rw [List.map_cons, List.nodup_cons] at hn
    have hj : j < M.length := by simpa using h
    have ih := nextOf_at hn.2 hj
    have hne : ¬ p.1 = (M[j]).1 := fun e => hn.1 (e ▸ List.mem_map_of_mem (List.getElem_mem hj))
    unfold nextOf at *
    rw [List.getElem_cons_succ, List.find?_cons_of_neg (by simpa using hne)]
    exact ih
def pairsF (v : Int) (A B C : Nat → Int) : Nat → Nat → List (Int × Int) → Option (List (Int × Int))
  | 0, _, M => some M
  | f + 1, k, M => match hit v (A k) (B k) (C k) with
    | none => none
    | some none => pairsF v A B C f (k + 1) M
    | some (some p) => pairsF v A B C f (k + 1) (M ++ [p])
section
variable {v : Int} {A B C : Nat → Int} {n k : Nat} {M : List (Int × Int)} {r : Option (List (Int × Int))}
theorem pairs_end (hk : n ≤ k) (h : pairsF v A B C (n - k) k M = r) : r = some M := by
  rw [show n - k = 0 by omega] at h; exact h.symm
theorem pairs_many (hk : k < n) (hh : hit v (A k) (B k) (C k) = none) (h : pairsF v A B C (n - k) k M = r) : r = none := by
  rw [show n - k = (n - (k + 1)) + 1 by omega, pairsF, hh] at h; exact h.symm
theorem pairs_zero (hk : k < n) (hh : hit v (A k) (B k) (C k) = some none) (h : pairsF v A B C (n - k) k M = r) : pairsF v A B C (n - (k + 1)) (k + 1) M = r := by
  rw [show n - k = (n - (k + 1)) + 1 by omega, pairsF, hh] at h; exact h
theorem pairs_one (hk : k < n) {p : Int × Int} (hh : hit v (A k) (B k) (C k) = some (some p)) (h : pairsF v A B C (n - k) k M = r) : pairsF v A B C (n - (k + 1)) (k + 1) (M ++ [p]) = r := by
  rw [show n - k = (n - (k + 1)) + 1 by omega, pairsF, hh] at h; exact h
end

set_option maxRecDepth 100000 in
set_option maxHeartbeats 8000000 in
theorem ref21_around (pa : Option Addr) (n cp : Nat) (v : Int) (A B C : Nat → Int) (r : Option (List (Int × Int))) (hn : n < 1048576) (hr : Hid (pairsF v A B C (n - 0) 0 [] = r))
    (w : World) (hp : Hid (PtsO w pa n A B C)) :
    Calls Try.prog 11 #[.slice pa n cp, .int .i64 v] w fun e w' => Below w.heap.size w w' ∧
      ((refR r = none ∧ e = .returned (.tuple #[.slice none 0 0, .int .i64 170])) ∨ (∃ out vv, refR r = some out ∧ w'.ownsRow w.heap.size 3 1 vv out.length (out.map (Value.int .i64)) ∧ e = .returned (.tuple #[vv, .int .i64 0]))) := by
  obtain ⟨i0, hi, hz0, hz1, hz2⟩ := info_parts infoInt
  have HI := Lib.hid hi; have HZ0 := Lib.hid hz0; have HZ1 := Lib.hid hz1; have HZ2 := Lib.hid hz2
  clear hi hz0 hz1 hz2
  go_enter Try.func11, Try.ntmps11
  go_wp2_with fail
  go_loopw [6, 7, 8] (fun u u' i wr => ∃ (k : Nat) (M : List (Int × Int)), k ≤ n ∧ i = .int .i64 k ∧ Hid (pairsF v A B C (n - k) k M = r) ∧ Hid (M.length ≤ k) ∧ Hid (Two w wr u (M.map Prod.fst) u' (M.map Prod.snd)))
    (fun _ _ i _ => n - (intOf i).toNat)
  case atStart => exact ⟨0, [], Nat.zero_le _, rfl, hr, Nat.le_refl _, World.ownsRow_nil _ _ _ _, World.ownsRow_nil _ _ _ _, (fun k hk => by cases hk), Below.refl _ _⟩
  case round =>
    clear hr
    obtain ⟨k, M, hk, rfl, HF, HL, hT⟩ := hrel
    by_cases hlt : k < n
    case neg =>
      have hr := pairs_end (by omega) HF.out
      subst hr
      have hqn : M.length < 1048576 := by have := HL.out; omega
      obtain ⟨h6, h7, hap, hB⟩ := hT.out
      clear hT HF HL
      by_cases hM0 : M = []
      · subst hM0
        have hno : refR (some []) = none := rfl
        have HNO := Lib.hid hno
        clear hno
        obtain ⟨_, ⟨rfl, _⟩ | ⟨g, cap, cur, rfl, _⟩⟩ := h6
        · go_wp2
          go_returns
          exact ⟨hB, .inl ⟨HNO.out, rfl⟩⟩
        · go_wp2
          go_returns
          exact ⟨hB, .inl ⟨HNO.out, rfl⟩⟩
      have hpos : 0 < M.length := List.length_pos_iff.2 hM0
      have h6' := h6.2.resolve_left (fun h => by have := h.2; rw [List.length_map] at this; omega)
      have h7' := h7.2.resolve_left (fun h => by have := h.2; rw [List.length_map] at this; omega)
      obtain ⟨g6, c6, cur6, rfl, h6b⟩ := h6'
      obtain ⟨g7, c7, cur7, rfl, h7b⟩ := h7'
      have h6l := (h6.lt g6 rfl)
      have h7l := (h7.lt g7 rfl)
      rw [List.length_map] at h6 h7
      have HA : Hid (∀ j, j < M.length → wr.cell? ⟨g6, j, none⟩ = some (.int .i64 ((M.map Prod.fst).getD j 0))) := fun j hj => by
        rw [h6.cellAt j (by omega)]; simp [List.getD, hj]
      have HV : Hid (∀ j, j < M.length → wr.cell? ⟨g7, j, none⟩ = some (.int .i64 ((M.map Prod.snd).getD j 0))) := fun j hj => by
        rw [h7.cellAt j (by omega)]; simp [List.getD, hj]
      clear h6 h7 hap h6b h7b
      simp only [List.length_map]
      obtain ⟨q, hq⟩ : ∃ q, q = M.length := ⟨_, rfl⟩
      rw [← hq] at hpos hqn HA HV ⊢
      have HQ := Lib.hid hq
      clear hq
      go_wp2_with fail
      obtain ⟨S, rfl⟩ : ∃ S, S = wr := ⟨_, rfl⟩
      obtain ⟨K, hK⟩ : ∃ K : Nat → Int, K = fun j => (M.map Prod.fst).getD j 0 := ⟨_, rfl⟩
      obtain ⟨V, hV⟩ : ∃ V : Nat → Int, V = fun j => (M.map Prod.snd).getD j 0 := ⟨_, rfl⟩
      replace HA : Hid (∀ j, j < q → S.cell? ⟨g6, j, none⟩ = some (.int .i64 (K j))) := by rw [hK]; exact HA
      replace HV : Hid (∀ j, j < q → S.cell? ⟨g7, j, none⟩ = some (.int .i64 (V j))) := by rw [hV]; exact HV
      have HKE := Lib.hid hK; have HVE := Lib.hid hV
      clear hK hV
      have h6w := h6l.2
      have h7w := h7l.2
      have hBw := hB.size
      clear h6l h7l
      have HB := Lib.hid hB
      clear hB
      have d0 : ((q : Int) == 0) = false := by simp; omega
      try simp only [d0]
      clear d0
      go_loopw [11, 12] (fun u i wx => ∃ (at_ k2 : Nat), u = .int .i64 at_ ∧ i = .int .i64 k2 ∧ k2 ≤ q ∧ at_ < q ∧ Hid (at_ ≤ k2) ∧ Hid (∀ j, j < k2 → K at_ ≤ K j) ∧ Hid (∀ j, j < k2 → ∀ l, l < j → ¬ K j = K l) ∧ Below S.heap.size S wx)
        (fun _ i _ => q - (intOf i).toNat)
      case atStart => exact ⟨0, 0, rfl, rfl, Nat.zero_le _, hpos, Nat.le_refl _, (fun j hj => by omega), (fun j hj => by omega), Below.refl _ _⟩
      case round =>
        obtain ⟨at_, k2, rfl, rfl, hk2, hat, hatk, HMIN, HNO, hBW⟩ := hrel
        by_cases hlt2 : k2 < q
        case neg =>
          have hkq : k2 = q := by omega
          have c2 := (hBW.cell (p := ⟨g6, at_, none⟩) h6w).trans (HA.out at_ hat)
          have hwx := Nat.lt_of_lt_of_le h6w hBW.size
          have hML : q = M.length := HQ.out
          have hnd : (M.map Prod.fst).Nodup := by
            refine List.pairwise_iff_getElem.2 fun i j hi hj hij e => ?_
            have hj' : j < q := by rw [HQ.out]; simpa using hj
            have := HNO.out j (by omega) i hij
            rw [HKE.out] at this
            simp only [List.getD, hi, hj, List.getElem?_eq_getElem, Option.getD_some] at this
            exact this e.symm
          have hne : M ≠ [] := fun e => by rw [e] at hML; simp at hML; omega
          have hleast : K at_ = leastOf M := by
            have hlen : (M.map Prod.fst).length = q := by rw [List.length_map]; exact HQ.out.symm
            obtain ⟨j, hj, ej⟩ := leastTo_mem (M.map Prod.fst) (M.length - 1)
            have h1 := leastTo_le (M.map Prod.fst) (M.length - 1) at_ (by omega)
            have h2 := HMIN.out j (by omega)
            rw [HKE.out] at h2 ⊢
            unfold leastOf
            rw [ej] at h1 ⊢
            have h1' : (M.map Prod.fst).getD j 0 ≤ (M.map Prod.fst).getD at_ 0 := h1
            have h2' : (M.map Prod.fst).getD at_ 0 ≤ (M.map Prod.fst).getD j 0 := h2
            show (M.map Prod.fst).getD at_ 0 = _
            omega
          have hnx : ∀ j, j < q → nextOf M (K j) = some (V j) := by
            intro j hj
            have hj1 : j < M.length := by omega
            have hK : K j = (M[j]).1 := by rw [HKE.out]; simp [List.getD, hj1]
            have hV : V j = (M[j]).2 := by rw [HVE.out]; simp [List.getD, hj1]
            rw [hK, hV]
            exact nextOf_at hnd hj1
          have hnone : ∀ z, (∀ j, j < q → ¬ K j = z) → nextOf M z = none := by
            intro z hz
            unfold nextOf
            rw [List.find?_eq_none.2]
            · rfl
            · intro p hp
              obtain ⟨j, hj, e⟩ := List.getElem_of_mem hp
              have := hz j (by omega)
              rw [HKE.out] at this
              simp only [List.getD, List.getElem?_map, hj, List.getElem?_eq_getElem, Option.map_some, Option.getD_some] at this
              rw [← e]; simpa using this
          have hres : refR (some M) = walkF M (leastOf M) (q + 2) [] (leastOf M) := by
            unfold refR arR; simp [hnd, hne, ← hML]
          have hfirst : walkF M (leastOf M) (q + 2 - 1) [leastOf M] (V at_) = refR (some M) := by
            rw [hres]
            conv => rhs; rw [show q + 2 = (q + 1) + 1 from rfl, walkF]
            have := hnx at_ hat
            rw [hleast] at this
            simp only [ne_eq, not_true_eq_false, false_and, if_false, this]
            rw [if_neg (by rw [← hML]; simp; omega)]
            rfl
          generalize hrr : refR (some M) = res at hfirst ⊢
          have HRR := Lib.hid hrr; have HNX := Lib.hid hnx; have HNONE := Lib.hid hnone; have HFIRST := Lib.hid hfirst; have HLEAST := Lib.hid hleast
          clear hrr hnx hnone hfirst hres hnd hne hleast hML HNO HMIN
          obtain ⟨m, hm⟩ : ∃ m, m = leastOf M := ⟨_, rfl⟩
          obtain ⟨y, hy⟩ : ∃ y, y = K at_ := ⟨_, rfl⟩
          rw [← hy] at c2
          have hym : y = m := by rw [hy, hm]; exact HLEAST.out
          subst hym
          clear hy
          have HM := Lib.hid hm
          clear hm
          clear hkq
          go_wp2_with fail
          first | refine wp_named ?_ | refine calls_named ?_
          intro W3 hW3
          have hBX0 : Below S.heap.size S W3 := by rw [hW3]; have := hBW.size; exact hBW.alloc this _
          have hrow0 : W3.ownsRow S.heap.size 3 1 (.slice (some ⟨wr.heap.size, 0, none⟩) 1 1) 1 [.int .i64 y] := by
            rw [hW3]; exact World.ownsRow_lit _ #[.int .i64 y] 1 hBW.size (by decide) rfl
          clear hW3 hBW c2 hwx hlt2
          have HF3 : Hid (walkF M y (q + 2 - 1) [y] (V at_) = res) := by have := HFIRST.out; rw [← HM.out] at this; exact this
          clear HFIRST
          go_loopw [11, 14] (fun u u' wx => ∃ (at_ : Nat) (out : List Int) (g cap p : Nat), u = .int .i64 at_ ∧ u' = .slice (some ⟨g, 0, none⟩) p cap ∧ at_ < q ∧ p ≤ q ∧ 0 < p ∧ Hid (p = out.length) ∧ Hid (out.getD 0 0 = y) ∧ Hid (walkF M y (q + 2 - p) out (V at_) = res) ∧
              Hid (wx.ownsRow S.heap.size 3 1 (.slice (some ⟨g, 0, none⟩) p cap) p (out.map (Value.int .i64))) ∧ Hid (Below S.heap.size S wx))
            (fun _ u' _ => q + 1 - lenV u')
          case atStart => exact ⟨at_, [y], _, _, 1, rfl, rfl, hat, hpos, Nat.zero_lt_one, rfl, rfl, HF3, hrow0, hBX0⟩
          case round =>
            clear hrow0 hBX0 HF3 hat
            obtain ⟨at_, out, g8, c8, p, rfl, rfl, hat, hpq, hp0, hpl, hfirst, HF3, hrow, hBX⟩ := hrel
            have d1 := (hBX.out.cell (p := ⟨g7, at_, none⟩) h7w).trans (HV.out at_ hat)
            have d2 := Nat.lt_of_lt_of_le h7w hBX.out.size
            have d3 : _ = some (Value.int .i64 y) := (hrow.out.cellAt 0 (by omega)).trans (by
              have h1 := hfirst.out; have h2 := hpl.out
              cases out with
              | nil => simp at h2; omega
              | cons o os => simp at h1; subst h1; rfl)
            obtain ⟨z, hz⟩ : ∃ z, z = V at_ := ⟨_, rfl⟩
            rw [← hz] at d1
            have HF4 : Hid (walkF M y ((q + 1 - p) + 1) out z = res) := by have := HF3.out; rw [← hz, show q + 2 - p = (q + 1 - p) + 1 by omega] at this; exact this
            have HZE := Lib.hid hz
            clear hz HF3
            have hne : out ≠ [] := fun e => by have := hpl.out; rw [e] at this; simp at this; omega
            have HNE := Lib.hid hne
            clear hne
            by_cases hzy : z = y
            · subst hzy
              have hend := walk_end HNE.out rfl HF4.out
              rw [← hpl.out, ← HQ.out] at hend
              by_cases hpe : p = q
              · rw [if_neg (by omega)] at hend
                have HEND := Lib.hid hend
                clear hend
                go_wp2
                go_returns
                exact ⟨HB.out.trans (hBX.out.mono hBw), .inr ⟨out, _, HRR.out.trans HEND.out, (by rw [← hpl.out]; exact ownsRow_base hrow.out hBw), rfl⟩⟩
              · rw [if_pos (by omega)] at hend
                have HEND := Lib.hid hend
                clear hend
                go_wp2
                go_returns
                exact ⟨HB.out.trans (hBX.out.mono hBw), .inl ⟨HRR.out.trans HEND.out, rfl⟩⟩
            have hcond : Hid (¬ (out ≠ [] ∧ z = y)) := fun h => hzy h.2
            go_wp2_with fail
            go_loop [11, 16] (fun u i => ∃ (a2 : Int) (l : Nat), u = .int .i64 a2 ∧ i = .int .i64 l ∧ l ≤ q ∧ Hid ((a2 = -1 ∧ ∀ j, j < l → ¬ K j = z) ∨ (∃ t : Nat, a2 = t ∧ t < q ∧ K t = z)))
              (fun _ i => q - (intOf i).toNat)
            case atStart => exact ⟨-1, 0, rfl, rfl, Nat.zero_le _, .inl ⟨rfl, fun j hj => by omega⟩⟩
            case round =>
              obtain ⟨a2, l, rfl, rfl, hl, hfind⟩ := hrel
              by_cases hlt5 : l < q
              case neg =>
                rcases hfind.out with ⟨rfl, hno⟩ | ⟨t, rfl, htq, hKt⟩
                · have hmiss := walk_miss hcond.out (HNONE.out z (fun j hj => hno j (by omega))) HF4.out
                  have HMISS := Lib.hid hmiss
                  clear hmiss hno
                  go_wp2
                  go_returns
                  exact ⟨HB.out.trans (hBX.out.mono hBw), .inl ⟨HRR.out.trans HMISS.out, rfl⟩⟩
                · have hnext := HNX.out t htq
                  rw [hKt] at hnext
                  have HNEXT := Lib.hid hnext
                  have HKT := Lib.hid hKt
                  clear hnext hKt
                  by_cases hpe : p = q
                  · have hfull := walk_full hcond.out HNEXT.out (hpl.out.symm.trans (hpe.trans HQ.out)) HF4.out
                    have HFULL := Lib.hid hfull
                    clear hfull
                    go_wp2
                    go_returns
                    exact ⟨HB.out.trans (hBX.out.mono hBw), .inl ⟨HRR.out.trans HFULL.out, rfl⟩⟩
                  · have ht0 : ¬ (t : Int) < 0 := by omega
                    have hpe2 : ((p : Int) == (q : Int)) = false := by simp; omega
                    go_wp2_with (first | (at_builtin; refine wpList_append_own _ rfl (.tmp 130) (.tmp 132) 31 rfl S.heap.size 3 i0 (.int .i64 0) 1 8 uInts HI.out HZ0.out HZ1.out HZ2.out rfl (by decide) _ _ _ rfl (hrow.out.alloc _) ⟨_, 0, none⟩ 1 1 [.int .i64 z] rfl rfl (cell_one_new _ _ _) (ints_oneCell .i64 [z]) (by unfold maxLen; omega) (by omega) (by have := hBX.out.size; simp; omega) ?_; intro v' w3 hrow3 hgr3 hnil3) | fail)
                    obtain ⟨_, h00⟩ := id hrow3
                    replace h00 := h00.resolve_left (fun h => by have := h.2; omega)
                    obtain ⟨g3, cap3, cur3, rfl, h3⟩ := h00
                    have hg8 := (hrow.out.lt g8 rfl).1
                    have hon := walk_on hcond.out HNEXT.out (fun e => hpe (hpl.out.trans (e.trans HQ.out.symm))) HF4.out
                    go_roundw
                    case rel =>
                      refine ⟨t, out ++ [z], g3, cap3, p + 1, rfl, rfl, htq, by omega, by omega, ?_, ?_, ?_, ?_, ?_⟩
                      · have := hpl.out; show p + 1 = (out ++ [z]).length; rw [List.length_append]; show p + 1 = out.length + 1; omega
                      · have h1 := hfirst.out; have h2 := hpl.out
                        show (out ++ [z]).getD 0 0 = y
                        cases out with
                        | nil => simp at h2; omega
                        | cons o os => simpa using h1
                      · show walkF _ _ _ _ _ = _
                        rw [show q + 2 - (p + 1) = q + 1 - p by omega]; exact hon
                      · show World.ownsRow _ _ _ _ _ _ _
                        simpa using hrow3
                      · exact (hBX.out.alloc hBX.out.size _).grown hgr3 (by have := hBX.out.size; simp; omega) (fun j hj => by have e2 : g8 = j := (by injection hj); omega)
                    case measure => simp only [lenV]; omega
              have e1 := (hBX.out.cell (p := ⟨g6, l, none⟩) h6w).trans (HA.out l hlt5)
              have e2 := Nat.lt_of_lt_of_le h6w hBX.out.size
              obtain ⟨x, hx⟩ : ∃ x, x = K l := ⟨_, rfl⟩
              rw [← hx] at e1
              have HX := Lib.hid hx
              clear hx
              by_cases hxz : x = z
              · go_wp2
                go_round
                case rel => exact ⟨l, l + 1, rfl, by go_num, by omega, .inr ⟨l, rfl, hlt5, by rw [← HX.out]; exact hxz⟩⟩
                case measure => simp [intOf]; omega
              · go_wp2
                go_round
                case rel =>
                  refine ⟨a2, l + 1, rfl, by go_num, by omega, ?_⟩
                  rcases hfind.out with ⟨h1, hno⟩ | h
                  · refine .inl ⟨h1, fun j hj => ?_⟩
                    rcases Nat.lt_or_ge j l with h | h
                    · exact hno j h
                    · have : j = l := by omega
                      subst this; rw [← HX.out]; exact hxz
                  · exact .inr h
                case measure => simp [intOf]; omega
        have c1 := (hBW.cell (p := ⟨g6, k2, none⟩) h6w).trans (HA.out k2 hlt2)
        have c2 := (hBW.cell (p := ⟨g6, at_, none⟩) h6w).trans (HA.out at_ hat)
        have hwx := Nat.lt_of_lt_of_le h6w hBW.size
        obtain ⟨x, hx⟩ : ∃ x, x = K k2 := ⟨_, rfl⟩
        obtain ⟨y, hy⟩ : ∃ y, y = K at_ := ⟨_, rfl⟩
        rw [← hx] at c1; rw [← hy] at c2
        have HX := Lib.hid hx; have HY := Lib.hid hy
        clear hx hy
        go_wp2_with fail
        refine wp_calm0 9 (by kernel_rfl) (by kernel_rfl) ?_
        intro C hC
        repeat (refine wpCalm_step (fun J hJ => ?_); go_simp; first | (refine hJ _ ?_; clear hJ J) | (apply Exists.intro; refine ⟨fun wc hw => ?_, hJ _ ?_⟩; (obtain ⟨hcc, hff⟩ := bcell (hC wc hw); go_simp; first | exact rfl); clear hJ J))
        refine wpCalm_nil ?_
        clear hC C
        intro W1 hX
        replace hBW := after hBW hX
        clear hX c1 c2 hwx
        simp only [List.drop_succ_cons, List.drop_zero]
        by_cases hxy : x < y
        · go_wp2_with fail
          have hmin2 : ∀ j, j < k2 + 1 → K k2 ≤ K j := by
            intro j hj
            have h1 := HX.out; have h2 := HY.out
            rcases Nat.lt_or_ge j k2 with h | h
            · have := HMIN.out j h; omega
            · have : j = k2 := by omega
              subst this; exact Int.le_refl _
          have HMIN2 := Lib.hid hmin2
          clear hmin2
          have d1 : decide (x < y) = true := by simp [hxy]
          try simp only [d1]
          clear d1
          go_loopw [13] (fun u wx => ∃ l : Nat, u = .int .i64 l ∧ l ≤ k2 ∧ Hid (∀ j, j < l → ¬ K k2 = K j) ∧ Below S.heap.size S wx)
            (fun u _ => k2 - (intOf u).toNat)
          case atStart => exact ⟨0, rfl, Nat.zero_le _, (fun j hj => by omega), hBW⟩
          case round =>
            clear hBW
            obtain ⟨l, rfl, hl, HN2, hBW⟩ := hrel
            by_cases hlt3 : l < k2
            case neg =>
              have hlk : l = k2 := by omega
              have hno2 : ∀ j, j < k2 + 1 → ∀ l, l < j → ¬ K j = K l := by
                intro j hj l' hl'
                rcases Nat.lt_or_ge j k2 with h | h
                · exact HNO.out j h l' hl'
                · have : j = k2 := by omega
                  subst this; exact HN2.out l' (by omega)
              have HNO2 := Lib.hid hno2
              clear hno2 hlk
              go_wp2
              go_roundw
              case rel => first | exact ⟨k2, k2 + 1, rfl, by go_num, by omega, hlt2, Nat.le_succ _, HMIN2, HNO2, hBW⟩ | ((repeat apply Exists.intro); exact ⟨⟨k2, k2 + 1, rfl, by go_num, by omega, hlt2, Nat.le_succ _, HMIN2, HNO2, hBW⟩, rfl⟩)
              case measure => simp [intOf]; omega
            have c1 := (hBW.cell (p := ⟨g6, k2, none⟩) h6w).trans (HA.out k2 hlt2)
            have c2 := (hBW.cell (p := ⟨g6, l, none⟩) h6w).trans (HA.out l (by omega))
            have hwx := Nat.lt_of_lt_of_le h6w hBW.size
            have hlq : l < q := by omega
            obtain ⟨z, hz⟩ : ∃ z, z = K l := ⟨_, rfl⟩
            rw [← HX.out] at c1; rw [← hz] at c2
            have HZ := Lib.hid hz
            clear hz
            go_wp2_with fail
            refine wp_calm0 9 (by kernel_rfl) (by kernel_rfl) ?_
            intro C hC
            repeat (refine wpCalm_step (fun J hJ => ?_); go_simp; first | (refine hJ _ ?_; clear hJ J) | (apply Exists.intro; refine ⟨fun wc hw => ?_, hJ _ ?_⟩; (obtain ⟨hcc, hff⟩ := bcell (hC wc hw); go_simp; first | exact rfl); clear hJ J))
            refine wpCalm_nil ?_
            clear hC C
            intro W2 hX
            replace hBW := after hBW hX
            clear hX c1 c2 hwx
            simp only [List.drop_succ_cons, List.drop_zero]
            by_cases hxz : x = z
            · have hdup : ¬ (M.map Prod.fst).Nodup := by
                intro hnd
                have e1 := HX.out; have e2 := HZ.out
                have e3 : K k2 = K l := by rw [← e1, ← e2]; exact hxz
                rw [HKE.out] at e3
                have q1 : k2 < (M.map Prod.fst).length := by rw [List.length_map, ← HQ.out]; exact hlt2
                have q2 : l < (M.map Prod.fst).length := by rw [List.length_map, ← HQ.out]; exact hlq
                simp only [List.getD, q1, q2, List.getElem?_eq_getElem, Option.getD_some] at e3
                exact (List.pairwise_iff_getElem.1 hnd) l k2 q2 q1 hlt3 e3.symm
              have hres : refR (some M) = none := by unfold refR; simp [hdup]
              have HR := Lib.hid hres
              clear hres hdup
              go_wp2
              go_returns
              exact ⟨HB.out.trans (hBW.mono hBw), .inl ⟨HR.out, rfl⟩⟩
            · go_wp2
              go_roundw
              case rel =>
                refine ⟨l + 1, by go_num, by omega, ?_, hBW⟩
                intro j hj
                have e1 := HX.out; have e2 := HZ.out
                rcases Nat.lt_or_ge j l with h | h
                · exact HN2.out j h
                · have : j = l := by omega
                  subst this; rw [← e1, ← e2]; exact hxz
              case measure => simp [intOf]; omega
        · go_wp2_with fail
          have hmin2 : ∀ j, j < k2 + 1 → K at_ ≤ K j := by
            intro j hj
            have h1 := HX.out; have h2 := HY.out
            rcases Nat.lt_or_ge j k2 with h | h
            · exact HMIN.out j h
            · have : j = k2 := by omega
              subst this; omega
          have HMIN2 := Lib.hid hmin2
          clear hmin2
          have d1 : decide (x < y) = false := by simp; omega
          try simp only [d1]
          clear d1
          go_loopw [13] (fun u wx => ∃ l : Nat, u = .int .i64 l ∧ l ≤ k2 ∧ Hid (∀ j, j < l → ¬ K k2 = K j) ∧ Below S.heap.size S wx)
            (fun u _ => k2 - (intOf u).toNat)
          case atStart => exact ⟨0, rfl, Nat.zero_le _, (fun j hj => by omega), hBW⟩
          case round =>
            clear hBW
            obtain ⟨l, rfl, hl, HN2, hBW⟩ := hrel
            by_cases hlt3 : l < k2
            case neg =>
              have hlk : l = k2 := by omega
              have hno2 : ∀ j, j < k2 + 1 → ∀ l, l < j → ¬ K j = K l := by
                intro j hj l' hl'
                rcases Nat.lt_or_ge j k2 with h | h
                · exact HNO.out j h l' hl'
                · have : j = k2 := by omega
                  subst this; exact HN2.out l' (by omega)
              have HNO2 := Lib.hid hno2
              clear hno2 hlk
              go_wp2
              go_roundw
              case rel => first | exact ⟨at_, k2 + 1, rfl, by go_num, by omega, hat, Nat.le_succ_of_le hatk.out, HMIN2, HNO2, hBW⟩ | ((repeat apply Exists.intro); exact ⟨⟨at_, k2 + 1, rfl, by go_num, by omega, hat, Nat.le_succ_of_le hatk.out, HMIN2, HNO2, hBW⟩, rfl⟩)
              case measure => simp [intOf]; omega
            have c1 := (hBW.cell (p := ⟨g6, k2, none⟩) h6w).trans (HA.out k2 hlt2)
            have c2 := (hBW.cell (p := ⟨g6, l, none⟩) h6w).trans (HA.out l (by omega))
            have hwx := Nat.lt_of_lt_of_le h6w hBW.size
            have hlq : l < q := by omega
            obtain ⟨z, hz⟩ : ∃ z, z = K l := ⟨_, rfl⟩
            rw [← HX.out] at c1; rw [← hz] at c2
            have HZ := Lib.hid hz
            clear hz
            go_wp2_with fail
            refine wp_calm0 9 (by kernel_rfl) (by kernel_rfl) ?_
            intro C hC
            repeat (refine wpCalm_step (fun J hJ => ?_); go_simp; first | (refine hJ _ ?_; clear hJ J) | (apply Exists.intro; refine ⟨fun wc hw => ?_, hJ _ ?_⟩; (obtain ⟨hcc, hff⟩ := bcell (hC wc hw); go_simp; first | exact rfl); clear hJ J))
            refine wpCalm_nil ?_
            clear hC C
            intro W2 hX
            replace hBW := after hBW hX
            clear hX c1 c2 hwx
            simp only [List.drop_succ_cons, List.drop_zero]
            by_cases hxz : x = z
            · have hdup : ¬ (M.map Prod.fst).Nodup := by
                intro hnd
                have e1 := HX.out; have e2 := HZ.out
                have e3 : K k2 = K l := by rw [← e1, ← e2]; exact hxz
                rw [HKE.out] at e3
                have q1 : k2 < (M.map Prod.fst).length := by rw [List.length_map, ← HQ.out]; exact hlt2
                have q2 : l < (M.map Prod.fst).length := by rw [List.length_map, ← HQ.out]; exact hlq
                simp only [List.getD, q1, q2, List.getElem?_eq_getElem, Option.getD_some] at e3
                exact (List.pairwise_iff_getElem.1 hnd) l k2 q2 q1 hlt3 e3.symm
              have hres : refR (some M) = none := by unfold refR; simp [hdup]
              have HR := Lib.hid hres
              clear hres hdup
              go_wp2
              go_returns
              exact ⟨HB.out.trans (hBW.mono hBw), .inl ⟨HR.out, rfl⟩⟩
            · go_wp2
              go_roundw
              case rel =>
                refine ⟨l + 1, by go_num, by omega, ?_, hBW⟩
                intro j hj
                have e1 := HX.out; have e2 := HZ.out
                rcases Nat.lt_or_ge j l with h | h
                · exact HN2.out j h
                · have : j = l := by omega
                  subst this; rw [← e1, ← e2]; exact hxz
              case measure => simp [intOf]; omega
    have hML : M.length < 1048576 := by have := HL.out; omega
    obtain ⟨b, off, rfl, hq⟩ := hp.out.at hlt
    have hbw := hq.1
    obtain ⟨hcl, hbl⟩ := hT.out.cells hbw
    obtain ⟨g1, g2, g3⟩ := hq.2 k hlt
    clear hq
    obtain ⟨a, ha⟩ : ∃ a, a = A k := ⟨_, rfl⟩
    obtain ⟨b1, hb1⟩ : ∃ b1, b1 = B k := ⟨_, rfl⟩
    obtain ⟨c, hc1⟩ : ∃ c, c = C k := ⟨_, rfl⟩
    rw [← ha] at g1; rw [← hb1] at g2; rw [← hc1] at g3
    have EA := Lib.hid ha; have EB := Lib.hid hb1; have EC := Lib.hid hc1
    clear ha hb1 hc1
    by_cases ea : a = v <;> by_cases eb : b1 = v <;> by_cases ec : c = v
    all_goals (go_wp2_with fail; refine wp_loop_rounds 4 ?_; rw [rounds_succ]; go_wp2_with (first | (at_builtin; refine wpList_append_own_at _ rfl (.tmp 37) (.tmp 46) 31 rfl w.heap.size 3 i0 (.int .i64 0) 1 8 uInts HI.out HZ0.out HZ1.out HZ2.out rfl (by decide) _ _ _ rfl (hT.out.one.alloc _) ⟨_, 0, none⟩ 1 1 [.int .i64 _] rfl rfl (cell_one_new _ _ _) (ints_oneCell .i64 [_]) (by unfold maxLen; simp; omega) (by simp; omega) (by have := hT.out.below.size; simp; omega) ?_; intro v' w1 hq1 hq2 hq3 hq4; replace hT := Lib.hid (hT.out.more hq1 hq2 hq4); clear hq1 hq2 hq3 hq4; obtain ⟨hcl, hbl⟩ := hT.out.cells hbw) | (at_builtin; refine wpList_append_own_at _ rfl (.tmp 48) (.tmp 57) 31 rfl w.heap.size 3 i0 (.int .i64 0) 1 8 uInts HI.out HZ0.out HZ1.out HZ2.out rfl (by decide) _ _ _ rfl (hT.out.two.alloc _) ⟨_, 0, none⟩ 1 1 [.int .i64 _] rfl rfl (cell_one_new _ _ _) (ints_oneCell .i64 [_]) (by unfold maxLen; simp; omega) (by simp; omega) (by have := hT.out.below.size; simp; omega) ?_; intro v' w1 hq1 hq2 hq3 hq4; replace hT := Lib.hid ((hT.out.swap.more hq1 hq2 hq4).swap); clear hq1 hq2 hq3 hq4; obtain ⟨hcl, hbl⟩ := hT.out.cells hbw) | fail); rw [rounds_succ]; go_wp2_with (first | (at_builtin; refine wpList_append_own_at _ rfl (.tmp 37) (.tmp 46) 31 rfl w.heap.size 3 i0 (.int .i64 0) 1 8 uInts HI.out HZ0.out HZ1.out HZ2.out rfl (by decide) _ _ _ rfl (hT.out.one.alloc _) ⟨_, 0, none⟩ 1 1 [.int .i64 _] rfl rfl (cell_one_new _ _ _) (ints_oneCell .i64 [_]) (by unfold maxLen; simp; omega) (by simp; omega) (by have := hT.out.below.size; simp; omega) ?_; intro v' w1 hq1 hq2 hq3 hq4; replace hT := Lib.hid (hT.out.more hq1 hq2 hq4); clear hq1 hq2 hq3 hq4; obtain ⟨hcl, hbl⟩ := hT.out.cells hbw) | (at_builtin; refine wpList_append_own_at _ rfl (.tmp 48) (.tmp 57) 31 rfl w.heap.size 3 i0 (.int .i64 0) 1 8 uInts HI.out HZ0.out HZ1.out HZ2.out rfl (by decide) _ _ _ rfl (hT.out.two.alloc _) ⟨_, 0, none⟩ 1 1 [.int .i64 _] rfl rfl (cell_one_new _ _ _) (ints_oneCell .i64 [_]) (by unfold maxLen; simp; omega) (by simp; omega) (by have := hT.out.below.size; simp; omega) ?_; intro v' w1 hq1 hq2 hq3 hq4; replace hT := Lib.hid ((hT.out.swap.more hq1 hq2 hq4).swap); clear hq1 hq2 hq3 hq4; obtain ⟨hcl, hbl⟩ := hT.out.cells hbw) | fail); rw [rounds_succ]; go_wp2_with (first | (at_builtin; refine wpList_append_own_at _ rfl (.tmp 37) (.tmp 46) 31 rfl w.heap.size 3 i0 (.int .i64 0) 1 8 uInts HI.out HZ0.out HZ1.out HZ2.out rfl (by decide) _ _ _ rfl (hT.out.one.alloc _) ⟨_, 0, none⟩ 1 1 [.int .i64 _] rfl rfl (cell_one_new _ _ _) (ints_oneCell .i64 [_]) (by unfold maxLen; simp; omega) (by simp; omega) (by have := hT.out.below.size; simp; omega) ?_; intro v' w1 hq1 hq2 hq3 hq4; replace hT := Lib.hid (hT.out.more hq1 hq2 hq4); clear hq1 hq2 hq3 hq4; obtain ⟨hcl, hbl⟩ := hT.out.cells hbw) | (at_builtin; refine wpList_append_own_at _ rfl (.tmp 48) (.tmp 57) 31 rfl w.heap.size 3 i0 (.int .i64 0) 1 8 uInts HI.out HZ0.out HZ1.out HZ2.out rfl (by decide) _ _ _ rfl (hT.out.two.alloc _) ⟨_, 0, none⟩ 1 1 [.int .i64 _] rfl rfl (cell_one_new _ _ _) (ints_oneCell .i64 [_]) (by unfold maxLen; simp; omega) (by simp; omega) (by have := hT.out.below.size; simp; omega) ?_; intro v' w1 hq1 hq2 hq3 hq4; replace hT := Lib.hid ((hT.out.swap.more hq1 hq2 hq4).swap); clear hq1 hq2 hq3 hq4; obtain ⟨hcl, hbl⟩ := hT.out.cells hbw) | fail); rw [rounds_succ]; go_wp2_with (first | (at_builtin; refine wpList_append_own_at _ rfl (.tmp 37) (.tmp 46) 31 rfl w.heap.size 3 i0 (.int .i64 0) 1 8 uInts HI.out HZ0.out HZ1.out HZ2.out rfl (by decide) _ _ _ rfl (hT.out.one.alloc _) ⟨_, 0, none⟩ 1 1 [.int .i64 _] rfl rfl (cell_one_new _ _ _) (ints_oneCell .i64 [_]) (by unfold maxLen; simp; omega) (by simp; omega) (by have := hT.out.below.size; simp; omega) ?_; intro v' w1 hq1 hq2 hq3 hq4; replace hT := Lib.hid (hT.out.more hq1 hq2 hq4); clear hq1 hq2 hq3 hq4; obtain ⟨hcl, hbl⟩ := hT.out.cells hbw) | (at_builtin; refine wpList_append_own_at _ rfl (.tmp 48) (.tmp 57) 31 rfl w.heap.size 3 i0 (.int .i64 0) 1 8 uInts HI.out HZ0.out HZ1.out HZ2.out rfl (by decide) _ _ _ rfl (hT.out.two.alloc _) ⟨_, 0, none⟩ 1 1 [.int .i64 _] rfl rfl (cell_one_new _ _ _) (ints_oneCell .i64 [_]) (by unfold maxLen; simp; omega) (by simp; omega) (by have := hT.out.below.size; simp; omega) ?_; intro v' w1 hq1 hq2 hq3 hq4; replace hT := Lib.hid ((hT.out.swap.more hq1 hq2 hq4).swap); clear hq1 hq2 hq3 hq4; obtain ⟨hcl, hbl⟩ := hT.out.cells hbw) | fail))
    · go_returns
      exact ⟨hT.out.below, .inl ⟨by rw [pairs_many hlt (by rw [← EA.out, ← EB.out, ← EC.out]; simp [hit, ea, eb, ec]) HF.out]; rfl, rfl⟩⟩
    · go_returns
      exact ⟨hT.out.below, .inl ⟨by rw [pairs_many hlt (by rw [← EA.out, ← EB.out, ← EC.out]; simp [hit, ea, eb, ec]) HF.out]; rfl, rfl⟩⟩
    · go_returns
      exact ⟨hT.out.below, .inl ⟨by rw [pairs_many hlt (by rw [← EA.out, ← EB.out, ← EC.out]; simp [hit, ea, eb, ec]) HF.out]; rfl, rfl⟩⟩
    · have hL := HL.out
      refine ⟨⟨k + 1, M ++ [(b1, c)], by omega, by go_num, pairs_one (p := (b1, c)) hlt (by rw [← EA.out, ← EB.out, ← EC.out]; simp [hit, ea, eb, ec]) HF.out, by show (M ++ _).length ≤ _; simp; omega, ?_⟩, by simp [intOf]; omega⟩
      show Two _ _ _ _ _ _
      simpa using hT.out
    · go_returns
      exact ⟨hT.out.below, .inl ⟨by rw [pairs_many hlt (by rw [← EA.out, ← EB.out, ← EC.out]; simp [hit, ea, eb, ec]) HF.out]; rfl, rfl⟩⟩
    · have hL := HL.out
      refine ⟨⟨k + 1, M ++ [(c, a)], by omega, by go_num, pairs_one (p := (c, a)) hlt (by rw [← EA.out, ← EB.out, ← EC.out]; simp [hit, ea, eb, ec]) HF.out, by show (M ++ _).length ≤ _; simp; omega, ?_⟩, by simp [intOf]; omega⟩
      show Two _ _ _ _ _ _
      simpa using hT.out
    · have hL := HL.out
      refine ⟨⟨k + 1, M ++ [(a, b1)], by omega, by go_num, pairs_one (p := (a, b1)) hlt (by rw [← EA.out, ← EB.out, ← EC.out]; simp [hit, ea, eb, ec]) HF.out, by show (M ++ _).length ≤ _; simp; omega, ?_⟩, by simp [intOf]; omega⟩
      show Two _ _ _ _ _ _
      simpa using hT.out
    · have hL := HL.out
      refine ⟨⟨k + 1, M, by omega, by go_num, pairs_zero hlt (by rw [← EA.out, ← EB.out, ← EC.out]; simp [hit, ea, eb, ec]) HF.out, Nat.le_succ_of_le hL, hT⟩, by simp [intOf]; omega⟩
end Go.Proofs.Ytdglijdiiggdgaa
/- 'm[k]++' at a map of the call's own: the entry is made or found, then stored: plain laws of the model's operations. -/
namespace Go.Proofs.Ytdglijdiiggdgaa
open Go.RowKit Go.Maps Go.WideMaps Go.WideElems Go.ChangeMaps

theorem find_push {es : Array MapEntry} {x : MapEntry} (h : ∀ e ∈ es.toList, e.born < x.born) : (es.push x).findIdx? (fun e => (e.born : Int) == (x.born : Int)) = some es.size := by
  rw [Array.findIdx?_eq_some_iff_getElem]
  refine ⟨by simp, by simp, fun j hj => ?_⟩
  have := h es[j] (by simp)
  simp [Array.getElem_push_lt hj]
  omega
theorem find_at {es : Array MapEntry} {j : Nat} {e0 : MapEntry} {f : MapEntry → MapEntry} (hj : es[j]? = some e0) (hn : (es.toList.map (·.born)).Nodup) (hf : ∀ e, (f e).born = e.born) :
    (es.modify j f).findIdx? (fun e => (e.born : Int) == (e0.born : Int)) = some j := by
  obtain ⟨hlt, he⟩ := Array.getElem?_eq_some_iff.1 hj
  rw [Array.findIdx?_eq_some_iff_getElem]
  refine ⟨by simpa using hlt, by simp [Array.getElem_modify, hf, he], fun i hi => ?_⟩
  have hi' : i < es.size := by omega
  have hne := (List.pairwise_iff_getElem.1 hn) i j (by simpa using hi') (by simpa using hlt) hi
  simp only [List.getElem_map, Array.getElem_toList, he] at hne
  rw [Array.getElem_modify, if_neg (by omega)]
  simp
  omega
theorem modify_twice {es : Array MapEntry} {j : Nat} {f g h : MapEntry → MapEntry} (hh : ∀ e, g (f e) = h e) : (es.modify j f).modify j g = es.modify j h := by
  apply Array.ext
  · simp
  · intro i h1 h2
    simp only [Array.getElem_modify]
    split <;> simp [hh]
theorem push_modify {es : Array MapEntry} {x : MapEntry} {g : MapEntry → MapEntry} : (es.push x).modify es.size g = es.push (g x) := by
  apply Array.ext
  · simp
  · intro i h1 h2
    simp only [Array.getElem_modify]
    by_cases hi : es.size = i
    · subst hi; simp
    · have : i < es.size := by simp at h2; omega
      rw [if_neg hi, Array.getElem_push_lt this, Array.getElem_push_lt this]

variable {P : Program} {w : World} {b n : Nat} {D : DataW Unit}
theorem entry_law {t k e : TypeId} {q : IntKind} (h : w.ownsMap P k (plainElem P e) b n D) (K : Keyed P k) (ht : P.underlying t = some (.map k e)) (he : P.underlying e = some (.int q)) (hz : ∀ w, (zeroValue e).run P w = .ok (.int q 0) w) (hn : n < maxLen)
    {key : Value} {kl : Lit} (hkey : keyOf P k key = some kl) :
    ∃ c st w1, (Instr.lookup t (.map (some b)) key false).run P w = .ok (.int q c) w ∧ D.atKey kl (.lit (.int q 0)) = .lit (.int q c) ∧ (Lit.int q c).wf = true ∧
      (Instr.mapEntry t (.map (some b)) key).run P w = .ok (.tuple #[.int q c, .int .i64 st]) w1 ∧ (Instr.lookup t (.map (some b)) key false).run P w1 = .ok (.int q c) w1 ∧ w.grownBy w1 (some b) ∧
      ∀ d, (Lit.int q d).wf = true → ∃ w2, (Instr.entryStore t (.map (some b)) (.int .i64 st) (.int q d)).run P w1 = .ok () w2 ∧ w2.ownsMap P k (plainElem P e) b (n + 1) (D.put kl (.lit (.int q d))) ∧ w.grownBy w2 (some b) := by
  obtain ⟨c, hrun, hat, hwc⟩ := h.lookup_int K ht he (hz w) hkey
  obtain ⟨w1, hup1, hown1, hgr1⟩ := h.update K ht hn hkey (plainElem_int (H := Unit) he hwc)
  obtain ⟨es, clock, hb, F, hs, hD⟩ := id h
  have hlook1 : (Instr.lookup t (.map (some b)) key false).run P w1 = .ok (.int q c) w1 := by
    obtain ⟨c', h1, h2, _⟩ := hown1.lookup_int K ht he (hz w1) hkey
    have hc : c' = c := by
      have hkl := K.key hkey
      rw [atKey_put_same h.isMap hkl] at h2
      injection h2 with h2
      injection h2 with _ h2
      exact h2.symm
    rw [← hc]; exact h1
  have hun := run_underlying ht
  have hge := MapKept.run_getObj_map (P := P) hb
  have hset : ∀ o, (setObj b o).run P w = .ok () (setBlock w b o) := fun o => MapKept.run_setObj_map o hb
  have hgrow : ∀ o, w.grownBy (setBlock w b o) (some b) := fun o => ⟨rfl, rfl, rfl, by simp [setBlock], fun i _ hi => heap_setBlock_other hb _ (fun e => hi (by rw [e]))⟩
  rcases K.find w hkey es.toList F.keys with ⟨hf, hnk⟩ | ⟨j, e0, hf, hj, hke⟩
  · have hc0 : c = 0 := by
      simp [Instr.lookup, hun, hge, K.check w _ hkey, hf, hz w, Result.andThen] at hrun
      exact hrun.symm
    subst hc0
    have hw1 : w1 = setBlock w b (.map (es.push ⟨key, .int q 0, clock⟩) (clock + 1)) := by
      simp [Instr.mapUpdate, hun, hge, K.check w _ hkey, hf, hset, Result.andThen] at hup1
      exact hup1.symm
    refine ⟨0, clock, w1, hrun, hat, hwc, ?_, hlook1, hgr1, fun d hd => ?_⟩
    · rw [hw1]
      simp [Instr.mapEntry, hun, hge, K.check w _ hkey, hf, hset, hz w, goInt, Result.andThen]
    · obtain ⟨w2, hup2, hown2, hgr2⟩ := h.update K ht hn hkey (plainElem_int (H := Unit) he hd)
      have hw2 : w2 = setBlock w b (.map (es.push ⟨key, .int q d, clock⟩) (clock + 1)) := by
        simp [Instr.mapUpdate, hun, hge, K.check w _ hkey, hf, hset, Result.andThen] at hup2
        exact hup2.symm
      refine ⟨w2, ?_, hown2, hgr2⟩
      have hb1 : w1.heap[b]? = some (.map (es.push ⟨key, .int q 0, clock⟩) (clock + 1)) := by rw [hw1]; exact heap_setBlock_same hb _
      have hfi := find_push (es := es) (x := ⟨key, .int q 0, clock⟩) F.stamped.1
      have hset1 : ∀ o, (setObj b o).run P w1 = .ok () (setBlock w1 b o) := fun o => MapKept.run_setObj_map o hb1
      have hge1 := MapKept.run_getObj_map (P := P) hb1
      simp [Instr.entryStore, hge1, asInt, asIntOf, hfi, hset1, Result.andThen]
      rw [hw2, hw1, push_modify]
      simp [setBlock]
  · have hja : es[j]? = some e0 := by simpa using hj
    have hv0 : e0.val = .int q c := by
      simp [Instr.lookup, hun, hge, K.check w _ hkey, hf, Result.andThen] at hrun
      exact hrun
    have hw1 : w1 = setBlock w b (.map (es.modify j fun e => { e with key := key, val := .int q c }) clock) := by
      simp [Instr.mapUpdate, hun, hge, K.check w _ hkey, hf, hset, hja, hke, K.stays w hkey, Result.andThen] at hup1
      exact hup1.symm
    have hsame : (es.modify j fun e => { e with key := key }) = es.modify j fun e => { e with key := key, val := .int q c } := by
      obtain ⟨hlt, hej⟩ := Array.getElem?_eq_some_iff.1 hja
      apply Array.ext
      · simp
      · intro i h1 h2
        simp only [Array.getElem_modify]
        by_cases hi : j = i
        · subst hi; simp [hej, hv0]
        · simp [hi]
    refine ⟨c, e0.born, w1, hrun, hat, hwc, ?_, hlook1, hgr1, fun d hd => ?_⟩
    · rw [hw1, ← hsame]
      simp [Instr.mapEntry, hun, hge, K.check w _ hkey, hf, hset, hja, hke, K.stays w hkey, hv0, goInt, Result.andThen]
    · obtain ⟨w2, hup2, hown2, hgr2⟩ := h.update K ht hn hkey (plainElem_int (H := Unit) he hd)
      have hw2 : w2 = setBlock w b (.map (es.modify j fun e => { e with key := key, val := .int q d }) clock) := by
        simp [Instr.mapUpdate, hun, hge, K.check w _ hkey, hf, hset, hja, hke, K.stays w hkey, Result.andThen] at hup2
        exact hup2.symm
      refine ⟨w2, ?_, hown2, hgr2⟩
      have hb1 : w1.heap[b]? = some (.map (es.modify j fun e => { e with key := key, val := .int q c }) clock) := by rw [hw1]; exact heap_setBlock_same hb _
      have hfi := find_at (f := fun e => { e with key := key, val := .int q c }) hja F.stamped.2.1 (fun _ => rfl)
      have hset1 : ∀ o, (setObj b o).run P w1 = .ok () (setBlock w1 b o) := fun o => MapKept.run_setObj_map o hb1
      have hge1 := MapKept.run_getObj_map (P := P) hb1
      simp [Instr.entryStore, hge1, asInt, asIntOf, hfi, hset1, Result.andThen]
      rw [hw2, hw1, modify_twice (h := fun e => { e with key := key, val := .int q d }) (fun _ => rfl)]
      simp [setBlock]
end Go.Proofs.Ytdglijdiiggdgaa
namespace Go.Proofs.Ytdglijdiiggdgaa
open Go.RowKit Go.Maps Go.WideMaps

theorem uPair : Try.prog.underlying 78 = some (.array 2 3) := by kernel_rfl
theorem uPM : Try.prog.underlying 77 = some (.map 78 3) := by kernel_rfl
set_option maxRecDepth 100000 in
theorem laidOut : laidOutB Try.prog = true := by kernel_rfl
theorem rowPair : (78 : TypeId) < Try.prog.types.size := of_decide_eq_true (by kernel_rfl)
theorem widePair : (match Try.prog.underlying 78 with | some (.array _ _) | some (.struct _) => true | _ => false) = true := by rw [uPair]
set_option maxRecDepth 100000 in
theorem lawPair : Keyed Try.prog 78 := Keyed.of_law (deep_law_laid laidOut (m := 2) (by omega) rowPair (by kernel_rfl) widePair)
theorem arrPair : ArrKey Try.prog 78 3 2 := ⟨uPair, by kernel_rfl, by kernel_rfl, by kernel_rfl⟩
theorem sizeTypes : ∃ m, Try.prog.types.size = m + 1 := ⟨Try.prog.types.size - 1, by kernel_rfl⟩
def lk (x y : Int) : Lit := .string (keyBytes [.int .i64 x, .int .i64 y])
theorem keyPair {x y : Int} (hx : Wf x) (hy : Wf y) : keyOf Try.prog 78 (.agg #[.int .i64 x, .int .i64 y]) = some (lk x y) := keyOf_pair arrPair uInt sizeTypes hx hy
theorem lk_inj {x y x' y' : Int} (hx : Wf x) (hy : Wf y) (hx' : Wf x') (hy' : Wf y') (h : lk x y = lk x' y') : x = x' ∧ y = y' := by
  have h1 := keyPair hx hy
  rw [h] at h1
  have := lawPair.inj h1 (keyPair hx' hy')
  simpa using this
structure MapC (D : DataW Unit) (E : List (Int × Int)) : Prop where
  isMap : IsMap D
  at_ : ∀ x y, Wf x → Wf y → D.atKey (lk x y) (.lit (.int .i64 0)) = .lit (.int .i64 (E.count (x, y) : Nat))
theorem mapC_nil : MapC (.map []) [] := ⟨isMap_empty, fun x y _ _ => rfl⟩
theorem MapC.snoc {D : DataW Unit} {E : List (Int × Int)} (h : MapC D E) {a b : Int} (ha : Wf a) (hb : Wf b) : MapC (D.put (lk a b) (.lit (.int .i64 ((E.count (a, b) : Nat) + 1)))) (E ++ [(a, b)]) := by
  refine ⟨h.isMap.put _ _, fun x y hx hy => ?_⟩
  by_cases he : x = a ∧ y = b
  · obtain ⟨rfl, rfl⟩ := he
    rw [atKey_put_same h.isMap (by simp [lk, WideAt.IsKeyLit])]
    simp [List.count_append]
  · rw [atKey_put_other (fun e => he (lk_inj hx hy ha hb e)), h.at_ x y hx hy]
    have : ¬ (a, b) = (x, y) := fun e => he ⟨by injection e with e1 e2; exact e1.symm, by injection e with e1 e2; exact e2.symm⟩
    simp [List.count_append, List.count_singleton, this]
def edgesTo (A B C : Nat → Int) : Nat → List (Int × Int)
  | 0 => []
  | k + 1 => edgesTo A B C k ++ [(A k, B k), (B k, C k), (C k, A k)]
theorem edgesTo_length (A B C : Nat → Int) : ∀ k, (edgesTo A B C k).length = 3 * k
  | 0 => rfl
  | k + 1 => by unfold edgesTo; rw [List.length_append, edgesTo_length]; simp; omega
theorem edgesTo_mono {A B C : Nat → Int} {k m : Nat} (h : k ≤ m) {e : Int × Int} (he : e ∈ edgesTo A B C k) : e ∈ edgesTo A B C m := by
  induction m with
  | zero =>
    have : k = 0 := by omega
    rw [this] at he; exact he
  | succ m ih =>
    rcases Nat.lt_or_ge k (m + 1) with h1 | h1
    · exact List.mem_append_left _ (ih (by omega))
    · have : k = m + 1 := by omega
      rw [this] at he; exact he
def closB (A B C : Nat → Int) (n : Nat) : Bool := decide (0 < n) && decide (∀ e ∈ edgesTo A B C n, (edgesTo A B C n).count (e.2, e.1) = 1)

set_option maxRecDepth 100000 in
set_option maxHeartbeats 8000000 in
theorem cert_closed (pa : Option Addr) (n cp : Nat) (A B C : Nat → Int) (hn : n < 1048576) (hwf : Hid (∀ k, k < n → Wf (A k) ∧ Wf (B k) ∧ Wf (C k))) (w : World) (hp : Hid (PtsO w pa n A B C)) :
    Calls Try.prog 24 #[.slice pa n cp] w fun e w' => e = .returned (.bool (closB A B C n)) ∧ Below w.heap.size w w' := by
  have hmm := @run_makeMap Try.prog
  go_enter Try.func24, Try.ntmps24
  go_wp2_with fail
  first | refine wp_named ?_ | refine calls_named ?_
  intro W hW
  clear hmm
  have hown : W.ownsMap Try.prog 78 (plainElem (H := Unit) Try.prog 3) w.heap.size 0 (.map []) := by rw [hW]; exact World.ownsMap_made _ _ _ _
  have hB : Below w.heap.size w W := by rw [hW]; go_grown
  have hz : w.heap.size < W.heap.size := by rw [hW]; simp
  clear hW
  go_loopw [13] (fun u wr => ∃ (k : Nat) (D : DataW Unit), k ≤ n ∧ u = .int .i64 k ∧ Hid (MapC D (edgesTo A B C k)) ∧ Hid (wr.ownsMap Try.prog 78 (plainElem Try.prog 3) w.heap.size (3 * k) D) ∧ Below w.heap.size w wr ∧ w.heap.size < wr.heap.size)
    (fun u _ => n - (intOf u).toNat)
  case atStart => exact ⟨0, .map [], Nat.zero_le _, rfl, mapC_nil, hown, hB, hz⟩
  case round =>
    clear hown hB hz
    obtain ⟨k, D, hk, rfl, HM, hown, hB, hz⟩ := hrel
    by_cases hlt : k < n
    case neg =>
      have hkn : k = n := by omega
      subst hkn
      clear hlt hk
      go_wp2_with fail
      go_loopw [38] (fun u wr => ∃ j : Nat, j ≤ k ∧ u = .int .i64 j ∧ Hid (∀ e ∈ edgesTo A B C j, (edgesTo A B C k).count (e.2, e.1) = 1) ∧ Hid (wr.ownsMap Try.prog 78 (plainElem Try.prog 3) w.heap.size (3 * k) D) ∧ Below w.heap.size w wr ∧ w.heap.size < wr.heap.size)
        (fun u _ => k - (intOf u).toNat)
      case atStart => exact ⟨0, Nat.zero_le _, rfl, (fun e he => by cases he), hown, hB, hz⟩
      case round =>
        clear hown hB hz
        obtain ⟨j, hj, rfl, HC, hown, hB, hz⟩ := hrel
        by_cases hlt2 : j < k
        case neg =>
          have hjk : j = k := by omega
          subst hjk
          have hb0 : closB A B C j = decide (0 < j) := by unfold closB; rw [decide_eq_true (p := ∀ e ∈ edgesTo A B C j, _) HC.out, Bool.and_true]
          have HB0 := Lib.hid hb0
          clear hb0
          go_wp2
          go_returns
          refine retB ?_ hB
          rw [HB0.out]
          try simp
        obtain ⟨b, off, rfl, hq⟩ := hp.out.at hlt2
        have hbw := hq.1
        have hpr := hq.mono hB hbw
        clear hq
        obtain ⟨g1, g2, g3⟩ := hpr.2 j hlt2
        have hbr := hpr.1
        clear hpr
        obtain ⟨w1, w2, w3⟩ := hwf.out j hlt2
        obtain ⟨a, ha⟩ : ∃ a, a = A j := ⟨_, rfl⟩
        obtain ⟨b1, hb1⟩ : ∃ b1, b1 = B j := ⟨_, rfl⟩
        obtain ⟨c, hc1⟩ : ∃ c, c = C j := ⟨_, rfl⟩
        rw [← ha] at g1 w1; rw [← hb1] at g2 w2; rw [← hc1] at g3 w3
        have EA := Lib.hid ha; have EB := Lib.hid hb1; have EC := Lib.hid hc1
        have Wa := Lib.hid w1; have Wb := Lib.hid w2; have Wc := Lib.hid w3
        clear ha hb1 hc1 w1 w2 w3
        have hlast : ∀ e ∈ edgesTo A B C (j + 1), e ∈ edgesTo A B C j ∨ e = (a, b1) ∨ e = (b1, c) ∨ e = (c, a) := by
          intro e he
          rw [EA.out, EB.out, EC.out]
          simpa [edgesTo] using he
        have hsub : ∀ x y, ((x, y) = (a, b1) ∨ (x, y) = (b1, c) ∨ (x, y) = (c, a)) → (x, y) ∈ edgesTo A B C k := by
          intro x y h
          refine edgesTo_mono (k := j + 1) (by omega) ?_
          rw [EA.out, EB.out, EC.out] at h
          exact List.mem_append_right _ (by simpa using h)
        have HLAST := Lib.hid hlast; have HSUB := Lib.hid hsub
        clear hlast hsub
        go_wp2_with fail
        refine wp_loop_rounds 4 ?_
        rw [rounds_succ]
        first | refine wp_named ?_ | refine calls_named ?_
        intro V0 hW
        have k1 : V0.heap[wr.heap.size]? = some (.cells #[.int .i64 a, .int .i64 b1, .int .i64 c] 45 (0, 0)) := by rw [hW]; exact heap_at rfl
        have z1 : wr.heap.size < V0.heap.size := by rw [hW]; simp
        have hgr : wr.grownBy V0 Option.none := by rw [hW]; exact World.grownBy_alloc _ _ _
        replace hown := Lib.hid (hown.out.kept hgr (by simp))
        replace hB : Below w.heap.size w V0 := by rw [hW]; have := hB.size; go_grown
        clear hgr hW g1 g2 g3
        obtain ⟨kq, kr⟩ := cellB k1
        obtain ⟨cc0, l1, hat, hwc⟩ := hown.out.drew.lookup_int lawPair uPM uInt (zeroInt _) (keyPair Wb.out Wa.out)
        have hce := (HM.out.at_ b1 a Wb.out Wa.out).symm.trans hat
        injection hce with hce
        injection hce with _ hce
        have HCE0 := Lib.hid hce
        clear hat hwc hce
        have y1 : IntKind.i64.wrap 1 = 1 := by decide
        have u1 : Int.tmod 1 3 = 1 := by decide
        go_wp2_with fail
        go_region
        clear l1 y1 u1 kq kr
        by_cases hone0 : cc0 = 1
        case neg =>
          have hbad : closB A B C k = false := by
            unfold closB
            rw [Bool.and_eq_false_iff]
            refine .inr (decide_eq_false fun hall => ?_)
            have := hall _ (HSUB.out a b1 (by simp))
            have h2 := HCE0.out
            simp only at this
            omega
          have HBAD := Lib.hid hbad
          clear hbad
          go_wp2
          go_returns
          exact retB HBAD.out (Below.drew hB)
        go_wp2_with fail
        rw [rounds_succ]
        first | refine wp_named ?_ | refine calls_named ?_
        intro V1 hW
        replace k1 : V1.heap[wr.heap.size]? = some (.cells #[.int .i64 a, .int .i64 b1, .int .i64 c] 45 (0, 0)) := by rw [hW]; exact k1
        replace z1 : wr.heap.size < V1.heap.size := by rw [hW]; exact z1
        replace hown : Hid (V1.ownsMap Try.prog 78 (plainElem Try.prog 3) w.heap.size (3 * k) D) := by rw [hW]; exact hown.out.drew
        replace hB : Below w.heap.size w V1 := by rw [hW]; exact Below.drew hB
        clear hW
        obtain ⟨kq, kr⟩ := cellB k1
        obtain ⟨cc1, l1, hat, hwc⟩ := hown.out.drew.lookup_int lawPair uPM uInt (zeroInt _) (keyPair Wc.out Wb.out)
        have hce := (HM.out.at_ c b1 Wc.out Wb.out).symm.trans hat
        injection hce with hce
        injection hce with _ hce
        have HCE1 := Lib.hid hce
        clear hat hwc hce
        have y1 : IntKind.i64.wrap 2 = 2 := by decide
        have u1 : Int.tmod 2 3 = 2 := by decide
        go_wp2_with fail
        go_region
        clear l1 y1 u1 kq kr
        by_cases hone1 : cc1 = 1
        case neg =>
          have hbad : closB A B C k = false := by
            unfold closB
            rw [Bool.and_eq_false_iff]
            refine .inr (decide_eq_false fun hall => ?_)
            have := hall _ (HSUB.out b1 c (by simp))
            have h2 := HCE1.out
            simp only at this
            omega
          have HBAD := Lib.hid hbad
          clear hbad
          go_wp2
          go_returns
          exact retB HBAD.out (Below.drew hB)
        go_wp2_with fail
        rw [rounds_succ]
        first | refine wp_named ?_ | refine calls_named ?_
        intro V2 hW
        replace k1 : V2.heap[wr.heap.size]? = some (.cells #[.int .i64 a, .int .i64 b1, .int .i64 c] 45 (0, 0)) := by rw [hW]; exact k1
        replace z1 : wr.heap.size < V2.heap.size := by rw [hW]; exact z1
        replace hown : Hid (V2.ownsMap Try.prog 78 (plainElem Try.prog 3) w.heap.size (3 * k) D) := by rw [hW]; exact hown.out.drew
        replace hB : Below w.heap.size w V2 := by rw [hW]; exact Below.drew hB
        clear hW
        obtain ⟨kq, kr⟩ := cellB k1
        obtain ⟨cc2, l1, hat, hwc⟩ := hown.out.drew.lookup_int lawPair uPM uInt (zeroInt _) (keyPair Wa.out Wc.out)
        have hce := (HM.out.at_ a c Wa.out Wc.out).symm.trans hat
        injection hce with hce
        injection hce with _ hce
        have HCE2 := Lib.hid hce
        clear hat hwc hce
        have y1 : IntKind.i64.wrap 3 = 3 := by decide
        have u1 : Int.tmod 3 3 = 0 := by decide
        go_wp2_with fail
        go_region
        clear l1 y1 u1 kq kr
        by_cases hone2 : cc2 = 1
        case neg =>
          have hbad : closB A B C k = false := by
            unfold closB
            rw [Bool.and_eq_false_iff]
            refine .inr (decide_eq_false fun hall => ?_)
            have := hall _ (HSUB.out c a (by simp))
            have h2 := HCE2.out
            simp only at this
            omega
          have HBAD := Lib.hid hbad
          clear hbad
          go_wp2
          go_returns
          exact retB HBAD.out (Below.drew hB)
        go_wp2_with fail
        rw [rounds_succ]
        go_wp2_with fail
        refine ⟨⟨j + 1, by omega, by go_num, ?_, hown.out.drew, Below.drew hB, by show w.heap.size < V2.heap.size; omega⟩, by simp [intOf]; omega⟩
        intro e he
        rcases HLAST.out e he with h | rfl | rfl | rfl
        · exact HC.out e h
        · have := HCE0.out; show List.count (b1, a) _ = 1; omega
        · have := HCE1.out; show List.count (c, b1) _ = 1; omega
        · have := HCE2.out; show List.count (a, c) _ = 1; omega
    obtain ⟨b, off, rfl, hq⟩ := hp.out.at hlt
    have hbw := hq.1
    have hpr := hq.mono hB hbw
    clear hq
    obtain ⟨g1, g2, g3⟩ := hpr.2 k hlt
    have hbr := hpr.1
    clear hpr
    obtain ⟨w1, w2, w3⟩ := hwf.out k hlt
    obtain ⟨a, ha⟩ : ∃ a, a = A k := ⟨_, rfl⟩
    obtain ⟨b1, hb1⟩ : ∃ b1, b1 = B k := ⟨_, rfl⟩
    obtain ⟨c, hc1⟩ : ∃ c, c = C k := ⟨_, rfl⟩
    rw [← ha] at g1 w1; rw [← hb1] at g2 w2; rw [← hc1] at g3 w3
    have EA := Lib.hid ha; have EB := Lib.hid hb1; have EC := Lib.hid hc1
    have Wa := Lib.hid w1; have Wb := Lib.hid w2; have Wc := Lib.hid w3
    clear ha hb1 hc1 w1 w2 w3
    go_wp2_with fail
    refine wp_loop_rounds 4 ?_
    rw [rounds_succ]
    first | refine wp_named ?_ | refine calls_named ?_
    intro W0 hW
    have k1 : W0.heap[wr.heap.size]? = some (.cells #[.int .i64 a, .int .i64 b1, .int .i64 c] 45 (0, 0)) := by rw [hW]; exact heap_at rfl
    have z1 : wr.heap.size < W0.heap.size := by rw [hW]; simp
    have hgr : wr.grownBy W0 Option.none := by rw [hW]; exact World.grownBy_alloc _ _ _
    replace hown := Lib.hid (hown.out.kept hgr (by simp))
    replace hB : Below w.heap.size w W0 := by rw [hW]; have := hB.size; go_grown
    clear hgr hW g1 g2 g3
    obtain ⟨E, hE⟩ : ∃ E, E = edgesTo A B C k := ⟨_, rfl⟩
    have hEl : E.length = 3 * k := by rw [hE, edgesTo_length]
    rw [← hE] at HM
    have HE := Lib.hid hE; have HEL := Lib.hid hEl
    clear hE hEl
    have hne : some wr.heap.size ≠ some w.heap.size := fun e => by injection e; omega
    have HN := Lib.hid hne
    clear hne
    obtain ⟨kq, kr⟩ := cellB k1
    obtain ⟨cc, st, w1, l1, hat, hwc, l2, l3, hg1, hstore⟩ := entry_law hown.out.drew lawPair uPM uInt zeroInt (by unfold maxLen; omega) (keyPair Wa.out Wb.out)
    have hce := (HM.out.at_ a b1 Wa.out Wb.out).symm.trans hat
    injection hce with hce
    injection hce with _ hce
    have hcl := List.count_le_length (a := (a, b1)) (l := E)
    have hcl2 : (E).length ≤ 3 * k + 0 := by have := HEL.out; simp; omega
    have hcc0 : 0 ≤ cc := by omega
    have hcc1 : cc ≤ 4000000 := by omega
    obtain ⟨V1, l4, hown2, hg2⟩ := hstore (cc + 1) (WalkArith.wf_i64 (by omega))
    have hM2 := HM.out.snoc Wa.out Wb.out
    rw [hce] at hM2
    replace HM := Lib.hid hM2
    clear hstore hat hwc hce hcl hcl2 hM2
    have y1 : IntKind.i64.wrap 1 = 1 := by decide
    have y2 : IntKind.i64.wrap (cc + 1) = cc + 1 := by rw [IntKind.wrap_i64]; omega
    have u1 : Int.tmod 1 3 = 1 := by decide
    go_wp2_with fail
    go_region
    clear l1 l2 l3 l4 y1 y2 u1 kq kr hcc0 hcc1 hg1
    replace k1 := (hg2.block _ z1 HN.out).trans k1
    replace z1 := Nat.lt_of_lt_of_le z1 hg2.size
    replace hB := (Below.drew hB).grown hg2 hB.size (fun j hj => by cases hj; exact Nat.le_refl _)
    replace hown := Lib.hid hown2
    clear hg2 hown2
    go_wp2_with fail
    rw [rounds_succ]
    obtain ⟨kq, kr⟩ := cellB k1
    obtain ⟨cc, st, w1, l1, hat, hwc, l2, l3, hg1, hstore⟩ := entry_law hown.out.drew lawPair uPM uInt zeroInt (by unfold maxLen; omega) (keyPair Wb.out Wc.out)
    have hce := (HM.out.at_ b1 c Wb.out Wc.out).symm.trans hat
    injection hce with hce
    injection hce with _ hce
    have hcl := List.count_le_length (a := (b1, c)) (l := E ++ [(a, b1)])
    have hcl2 : (E ++ [(a, b1)]).length ≤ 3 * k + 1 := by have := HEL.out; simp; omega
    have hcc0 : 0 ≤ cc := by omega
    have hcc1 : cc ≤ 4000000 := by omega
    obtain ⟨V2, l4, hown2, hg2⟩ := hstore (cc + 1) (WalkArith.wf_i64 (by omega))
    have hM2 := HM.out.snoc Wb.out Wc.out
    rw [hce] at hM2
    replace HM := Lib.hid hM2
    clear hstore hat hwc hce hcl hcl2 hM2
    have y1 : IntKind.i64.wrap 2 = 2 := by decide
    have y2 : IntKind.i64.wrap (cc + 1) = cc + 1 := by rw [IntKind.wrap_i64]; omega
    have u1 : Int.tmod 2 3 = 2 := by decide
    go_wp2_with fail
    go_region
    clear l1 l2 l3 l4 y1 y2 u1 kq kr hcc0 hcc1 hg1
    replace k1 := (hg2.block _ z1 HN.out).trans k1
    replace z1 := Nat.lt_of_lt_of_le z1 hg2.size
    replace hB := (Below.drew hB).grown hg2 hB.size (fun j hj => by cases hj; exact Nat.le_refl _)
    replace hown := Lib.hid hown2
    clear hg2 hown2
    go_wp2_with fail
    rw [rounds_succ]
    obtain ⟨kq, kr⟩ := cellB k1
    obtain ⟨cc, st, w1, l1, hat, hwc, l2, l3, hg1, hstore⟩ := entry_law hown.out.drew lawPair uPM uInt zeroInt (by unfold maxLen; omega) (keyPair Wc.out Wa.out)
    have hce := (HM.out.at_ c a Wc.out Wa.out).symm.trans hat
    injection hce with hce
    injection hce with _ hce
    have hcl := List.count_le_length (a := (c, a)) (l := E ++ [(a, b1)] ++ [(b1, c)])
    have hcl2 : (E ++ [(a, b1)] ++ [(b1, c)]).length ≤ 3 * k + 2 := by have := HEL.out; simp; omega
    have hcc0 : 0 ≤ cc := by omega
    have hcc1 : cc ≤ 4000000 := by omega
    obtain ⟨V3, l4, hown2, hg2⟩ := hstore (cc + 1) (WalkArith.wf_i64 (by omega))
    have hM2 := HM.out.snoc Wc.out Wa.out
    rw [hce] at hM2
    replace HM := Lib.hid hM2
    clear hstore hat hwc hce hcl hcl2 hM2
    have y1 : IntKind.i64.wrap 3 = 3 := by decide
    have y2 : IntKind.i64.wrap (cc + 1) = cc + 1 := by rw [IntKind.wrap_i64]; omega
    have u1 : Int.tmod 3 3 = 0 := by decide
    go_wp2_with fail
    go_region
    clear l1 l2 l3 l4 y1 y2 u1 kq kr hcc0 hcc1 hg1
    replace k1 := (hg2.block _ z1 HN.out).trans k1
    replace z1 := Nat.lt_of_lt_of_le z1 hg2.size
    replace hB := (Below.drew hB).grown hg2 hB.size (fun j hj => by cases hj; exact Nat.le_refl _)
    replace hown := Lib.hid hown2
    clear hg2 hown2
    go_wp2_with fail
    rw [rounds_succ]
    go_wp2_with fail
    have hM3 := HM.out
    rw [HE.out, EA.out, EB.out, EC.out] at hM3
    have hE3 : edgesTo A B C k ++ [(A k, B k)] ++ [(B k, C k)] ++ [(C k, A k)] = edgesTo A B C (k + 1) := by simp [edgesTo]
    rw [hE3] at hM3
    have hown3 := hown.out
    rw [show 3 * k + 1 + 1 + 1 = 3 * (k + 1) by omega] at hown3
    rw [EA.out, EB.out, EC.out] at hown3
    exact ⟨⟨k + 1, _, by omega, by go_num, hM3, hown3, hB, by omega⟩, by simp [intOf]; omega⟩
end Go.Proofs.Ytdglijdiiggdgaa
namespace Go.Proofs.Ytdglijdiiggdgaa
open Go.RowKit Go.Maps
theorem pairs_more {v : Int} {A B C : Nat → Int} : ∀ {f k : Nat} {L M : List (Int × Int)}, pairsF v A B C f k L = some M → ∃ T, M = L ++ T := by
  intro f
  induction f with
  | zero => intro k L M h; unfold pairsF at h; cases h; exact ⟨[], by simp⟩
  | succ f ih =>
    intro k L M h
    unfold pairsF at h
    split at h
    · cases h
    · exact ih h
    · obtain ⟨T, hT⟩ := ih h
      exact ⟨[_] ++ T, by rw [hT, List.append_assoc]⟩
/-- Both ways of gathering what follows on v answer alike. -/
theorem ring_pairs (v : Int) (A B C : Nat → Int) : ∀ (f k : Nat) (L : List (Int × Int)), (L.map Prod.fst).Nodup →
    (ringF v A B C f k L = pairsF v A B C f k L ∧ (∀ M, pairsF v A B C f k L = some M → (M.map Prod.fst).Nodup)) ∨ (ringF v A B C f k L = none ∧ ∀ M, pairsF v A B C f k L = some M → ¬ (M.map Prod.fst).Nodup) := by
  intro f
  induction f with
  | zero => intro k L hL; exact .inl ⟨rfl, fun M hM => by unfold pairsF at hM; cases hM; exact hL⟩
  | succ f ih =>
    intro k L hL
    unfold ringF pairsF
    cases hh : hit v (A k) (B k) (C k) with
    | none => exact .inl ⟨rfl, fun M hM => by simp at hM⟩
    | some o =>
      cases o with
      | none => exact ih (k + 1) L hL
      | some p =>
        simp only
        by_cases hd : L.any (fun q => q.1 == p.1) = true
        · rw [if_pos hd]
          refine .inr ⟨rfl, fun M hM hn => ?_⟩
          obtain ⟨T, rfl⟩ := pairs_more hM
          obtain ⟨q, hq, he⟩ := List.any_eq_true.1 hd
          rw [List.map_append, List.map_append] at hn
          have h1 := (List.nodup_append.1 hn).1
          have h2 := (List.nodup_append.1 h1).2.2 q.1 (List.mem_map_of_mem hq) p.1 (by simp)
          exact h2 (by simpa using he)
        · rw [if_neg hd]
          refine ih (k + 1) (L ++ [p]) ?_
          rw [List.map_append]
          refine List.nodup_append.2 ⟨hL, by simp, fun a ha c hc => ?_⟩
          simp only [List.map_cons, List.map_nil, List.mem_singleton] at hc
          subst hc
          intro e
          obtain ⟨q, hq, hqe⟩ := List.mem_map.1 ha
          exact hd (List.any_eq_true.2 ⟨q, hq, by simp [hqe, e]⟩)
theorem around_same (v : Int) (A B C : Nat → Int) (n : Nat) : refR (pairsF v A B C n 0 []) = arR (ringF v A B C n 0 []) := by
  rcases ring_pairs v A B C n 0 [] (by simp) with ⟨h1, h2⟩ | ⟨h1, h2⟩
  · rw [h1]
    cases hp : pairsF v A B C n 0 [] with
    | none => rfl
    | some M => unfold refR; simp [h2 M hp]
  · rw [h1]
    cases hp : pairsF v A B C n 0 [] with
    | none => rfl
    | some M => unfold refR; simp [h2 M hp]; rfl
end Go.Proofs.Ytdglijdiiggdgaa
namespace Go.Proofs.Ytdglijdiiggdgaa
open Go.RowKit
theorem uTri : Try.prog.underlying 45 = some (.array 3 3) := by kernel_rfl
theorem szInt (w : World) : (sizeOf 3).run Try.prog w = .ok 1 w := by kernel_rfl
theorem part0 (x y z : Int) (w : World) : (Go.part 3 #[.int .i64 x, .int .i64 y, .int .i64 z] 0).run Try.prog w = .ok (.int .i64 x) w := by kernel_rfl
theorem part1 (x y z : Int) (w : World) : (Go.part 3 #[.int .i64 x, .int .i64 y, .int .i64 z] 1).run Try.prog w = .ok (.int .i64 y) w := by kernel_rfl
theorem part2 (x y z : Int) (w : World) : (Go.part 3 #[.int .i64 x, .int .i64 y, .int .i64 z] 2).run Try.prog w = .ok (.int .i64 z) w := by kernel_rfl
theorem eq3 (x y z a b c : Int) (w : World) : (Op.equalIn 10000 45 (.agg #[.int .i64 x, .int .i64 y, .int .i64 z]) (.agg #[.int .i64 a, .int .i64 b, .int .i64 c])).run Try.prog w = .ok (x == a && (y == b && z == c)) w := by
  show (Op.equalIn (9999 + 1) _ _ _).run _ w = _
  rw [Op.equalIn]
  have e1 : ∀ (p q : Int) (w : World), (Op.equalIn 9999 3 (.int .i64 p) (.int .i64 q)).run Try.prog w = .ok (p == q) w := fun p q w => run_equalIn_int w 9998 _ .i64 .i64 p q uInt
  by_cases h1 : x = a <;> by_cases h2 : y = b <;> by_cases h3 : z = c <;>
    simp [run_underlying uTri, szInt, part0, part1, part2, e1, Result.andThen, h1, h2, h3, Std.Legacy.Range.forIn_eq_forIn_range', Std.Legacy.Range.size, (show List.range' 0 3 = [0, 1, 2] from rfl), List.forIn_cons, List.forIn_nil]
end Go.Proofs.Ytdglijdiiggdgaa
namespace Go.Proofs.Ytdglijdiiggdgaa
open Go.RowKit

theorem mulN {x y : Int} {A B : Nat} (hx : x.natAbs ≤ A) (hy : y.natAbs ≤ B) : (x * y).natAbs ≤ A * B := by
  rw [Int.natAbs_mul]; exact Nat.mul_le_mul hx hy
theorem det3_128 {p0 p1 p2 q0 q1 q2 r0 r1 r2 : Int} (h1 : p0.natAbs ≤ 2147483648) (h2 : p1.natAbs ≤ 2147483648) (h3 : p2.natAbs ≤ 2147483648) (h4 : q0.natAbs ≤ 2147483648) (h5 : q1.natAbs ≤ 2147483648) (h6 : q2.natAbs ≤ 2147483648) (h7 : r0.natAbs ≤ 2147483648) (h8 : r1.natAbs ≤ 2147483648) (h9 : r2.natAbs ≤ 2147483648) :
    In128 (det3 p0 p1 p2 q0 q1 q2 r0 r1 r2) := by
  have k1 := mulN h5 h9; have k2 := mulN h6 h8; have k3 := mulN h6 h7; have k4 := mulN h4 h9; have k5 := mulN h4 h8; have k6 := mulN h5 h7
  have s1 : (q1 * r2 - q2 * r1).natAbs ≤ 9223372036854775808 := by omega
  have s2 : (q2 * r0 - q0 * r2).natAbs ≤ 9223372036854775808 := by omega
  have s3 : (q0 * r1 - q1 * r0).natAbs ≤ 9223372036854775808 := by omega
  have t1 := mulN h1 s1; have t2 := mulN h2 s2; have t3 := mulN h3 s3
  unfold det3 In128
  omega
def det4 (a0 a1 a2 b0 b1 b2 c0 c1 c2 d0 d1 d2 : Int) : Int := det3 (a0 - d0) (a1 - d1) (a2 - d2) (b0 - d0) (b1 - d1) (b2 - d2) (c0 - d0) (c1 - d1) (c2 - d2)
theorem sub31 {a b : Int} (ha : Co a) (hb : Co b) : (a - b).natAbs ≤ 2147483648 := by unfold Co at ha hb; omega
set_option maxRecDepth 100000 in
set_option maxHeartbeats 2000000 in
theorem sign_any (a0 a1 a2 b0 b1 b2 c0 c1 c2 d0 d1 d2 : Int) (sm : Nat → Int) (ok : Nat → Bool)
    (ha : Co a0 ∧ Co a1 ∧ Co a2) (hb : Co b0 ∧ Co b1 ∧ Co b2) (hc : Co c0 ∧ Co c1 ∧ Co c2) (hd : Co d0 ∧ Co d1 ∧ Co d2)
    (H7 : Hid (∀ m : Nat, m < 85 → det4 a0 a1 a2 b0 b1 b2 c0 c1 c2 d0 d1 d2 = 0 → ∀ w, Calls Try.prog 64 #[.agg #[.int .i64 a0, .int .i64 a1, .int .i64 a2, .int .i64 b0, .int .i64 b1, .int .i64 b2, .int .i64 c0, .int .i64 c1, .int .i64 c2, .int .i64 d0, .int .i64 d1, .int .i64 d2], .int .i64 m] w fun e w' => e = .returned (.tuple #[.int .i64 (sm m), .bool (ok m)]) ∧ Below w.heap.size w w'))
    (w : World) :
    Calls Try.prog 52 #[.agg #[.int .i64 a0, .int .i64 a1, .int .i64 a2, .int .i64 b0, .int .i64 b1, .int .i64 b2, .int .i64 c0, .int .i64 c1, .int .i64 c2, .int .i64 d0, .int .i64 d1, .int .i64 d2]] w fun e w' =>
      e = .returned (.int .i64 (if det4 a0 a1 a2 b0 b1 b2 c0 c1 c2 d0 d1 d2 = 0 then firstOf sm ok 85 0 else (det4 a0 a1 a2 b0 b1 b2 c0 c1 c2 d0 d1 d2).sign)) ∧ Below w.heap.size w w' := by
  obtain ⟨f, hf, HF⟩ := filter_any (a0 - d0, a1 - d1, a2 - d2) (b0 - d0, b1 - d1, b2 - d2) (c0 - d0, c1 - d1, c2 - d2)
    ⟨sub31 ha.1 hd.1, sub31 ha.2.1 hd.2.1, sub31 ha.2.2 hd.2.2⟩ ⟨sub31 hb.1 hd.1, sub31 hb.2.1 hd.2.1, sub31 hb.2.2 hd.2.2⟩ ⟨sub31 hc.1 hd.1, sub31 hc.2.1 hd.2.1, sub31 hc.2.2 hd.2.2⟩
  have h128 : In128 (det4 a0 a1 a2 b0 b1 b2 c0 c1 c2 d0 d1 d2) := det3_128 (sub31 ha.1 hd.1) (sub31 ha.2.1 hd.2.1) (sub31 ha.2.2 hd.2.2) (sub31 hb.1 hd.1) (sub31 hb.2.1 hd.2.1) (sub31 hb.2.2 hd.2.2) (sub31 hc.1 hd.1) (sub31 hc.2.1 hd.2.1) (sub31 hc.2.2 hd.2.2)
  have main := sign_walk a0 a1 a2 b0 b1 b2 c0 c1 c2 d0 d1 d2 (.agg #[.int .i64 (a0 - d0), .int .i64 (a1 - d1), .int .i64 (a2 - d2)]) (.agg #[.int .i64 (b0 - d0), .int .i64 (b1 - d1), .int .i64 (b2 - d2)]) (.agg #[.int .i64 (c0 - d0), .int .i64 (c1 - d1), .int .i64 (c2 - d2)])
    (.agg #[.int .i64 (hi (det4 a0 a1 a2 b0 b1 b2 c0 c1 c2 d0 d1 d2)), .int .u64 (lo (det4 a0 a1 a2 b0 b1 b2 c0 c1 c2 d0 d1 d2))]) f (det4 a0 a1 a2 b0 b1 b2 c0 c1 c2 d0 d1 d2).sign sm ok
    (Lib.hid (orient_less a0 a1 a2 d0 d1 d2 ha.1 ha.2.1 ha.2.2 hd.1 hd.2.1 hd.2.2)) (Lib.hid (orient_less b0 b1 b2 d0 d1 d2 hb.1 hb.2.1 hb.2.2 hd.1 hd.2.1 hd.2.2)) (Lib.hid (orient_less c0 c1 c2 d0 d1 d2 hc.1 hc.2.1 hc.2.2 hd.1 hd.2.1 hd.2.2))
    (Lib.hid HF) (Lib.hid (orient_det a0 a1 a2 b0 b1 b2 c0 c1 c2 d0 d1 d2 ha.1 ha.2.1 ha.2.2 hb.1 hb.2.1 hb.2.2 hc.1 hc.2.1 hc.2.2 hd.1 hd.2.1 hd.2.2)) (Lib.hid (limb_sign _ h128))
    (Lib.hid (fun m hm _ hs => H7.out m hm (Int.sign_eq_zero_iff_zero.1 hs))) w
  have e : sgnR f (det4 a0 a1 a2 b0 b1 b2 c0 c1 c2 d0 d1 d2).sign sm ok = (if det4 a0 a1 a2 b0 b1 b2 c0 c1 c2 d0 d1 d2 = 0 then firstOf sm ok 85 0 else (det4 a0 a1 a2 b0 b1 b2 c0 c1 c2 d0 d1 d2).sign) := by
    have hf' : f = 0 ∨ f = (det4 a0 a1 a2 b0 b1 b2 c0 c1 c2 d0 d1 d2).sign ∧ f ≠ 0 := hf
    unfold sgnR
    rcases hf' with h | ⟨h, h'⟩
    · rw [if_pos h]
      simp only [Int.sign_eq_zero_iff_zero]
    · rw [if_neg h']
      have : det4 a0 a1 a2 b0 b1 b2 c0 c1 c2 d0 d1 d2 ≠ 0 := fun e => h' (by rw [h, e]; rfl)
      rw [if_neg this, h]
  rw [e] at main
  exact main
end Go.Proofs.Ytdglijdiiggdgaa
