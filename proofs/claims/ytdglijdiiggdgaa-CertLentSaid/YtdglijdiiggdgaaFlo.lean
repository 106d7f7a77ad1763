/- Floats of 64 bits that stand for whole numbers (times a power of two): what rounding does to them. No Go here. -/
import Ieee.Arith
namespace Go.Proofs.Ytdglijdiiggdgaa
open Ieee

theorem two_pos (n : Nat) : 0 < 2 ^ n := Nat.two_pow_pos n

/-- The word of a rung below infinity is read back. -/
theorem read_word (s : Bool) (rung : Nat) (h : rung < 2047 * 2 ^ 52) :
    double.read (double.word s rung) = if rung < 2 ^ 52 then .number s rung (-1074) else .number s (2 ^ 52 + rung % 2 ^ 52) (-1074 + (rung / 2 ^ 52 - 1 : Nat)) := by
  have hsw : double.signWeight = 2 ^ 63 := rfl
  have hb : double.binade = 2 ^ 52 := rfl
  have hi : double.infRung = 2047 * 2 ^ 52 := rfl
  have hl : double.leastPlace = -1074 := rfl
  have hw : double.word s rung / 2 ^ 63 % 2 = (if s then 1 else 0) ∧ double.word s rung % 2 ^ 63 = rung := by
    unfold Format.word
    rw [hsw]
    cases s
    · simp only [Bool.false_eq_true, if_false]; omega
    · simp only [if_true]; omega
  unfold Format.read
  rw [hsw, hb, hi, hl]
  simp only [hw.2]
  have hneg : (double.word s rung / 2 ^ 63 % 2 == 1) = s := by
    rw [hw.1]; cases s <;> rfl
  rw [hneg]
  by_cases hr : rung < 2 ^ 52
  · rw [if_pos hr, if_pos hr]
  · rw [if_neg hr, if_neg hr, if_pos h]

/-- Round to the nearest whole multiple of 2 ^ drop. -/
theorem cut_spec (s : Bool) (n drop : Nat) (hd : drop ≤ n.log2 + 2) :
    2 * (Toward.even.cut s n drop * 2 ^ drop) ≤ 2 * n + 2 ^ drop ∧ 2 * n ≤ 2 * (Toward.even.cut s n drop * 2 ^ drop) + 2 ^ drop ∧
      (n % 2 ^ drop = 0 → Toward.even.cut s n drop * 2 ^ drop = n) ∧ n / 2 ^ drop ≤ Toward.even.cut s n drop ∧ Toward.even.cut s n drop ≤ n / 2 ^ drop + 1 := by
  unfold Toward.cut
  rw [Nat.min_eq_left hd, Nat.one_shiftLeft]
  dsimp only
  have hp := two_pos drop
  have hdm := Nat.div_add_mod n (2 ^ drop)
  have hml := Nat.mod_lt n hp
  generalize 2 ^ drop = g at *
  generalize hq : n / g = q at *
  generalize hr : n % g = r at *
  have hmul : g * q = q * g := Nat.mul_comm _ _
  by_cases h1 : g < 2 * r
  · simp only [h1, decide_true, Bool.true_or, Bool.toNat_true]
    rw [Nat.add_mul]
    refine ⟨by omega, by omega, fun h => by omega, by omega, by omega⟩
  · by_cases h2 : (g == 2 * r && q % 2 == 1) = true
    · have h3 : g = 2 * r := by simpa using (Bool.and_eq_true_iff.1 h2).1
      simp only [h1, decide_false, Bool.false_or, h2, Bool.toNat_true]
      rw [Nat.add_mul]
      refine ⟨by omega, by omega, fun h => by omega, by omega, by omega⟩
    · have h2' : (g == 2 * r && q % 2 == 1) = false := by simpa using h2
      simp only [h1, decide_false, Bool.false_or, h2', Bool.toNat_false, Nat.add_zero]
      refine ⟨by omega, by omega, fun h => by omega, by omega, by omega⟩

/-- The datum stands for x / 2 ^ k. -/
def Stands (d : Datum) (x : Int) (k : Int) : Prop := ∃ s m e, d = .number s m e ∧ (if s then -(m : Int) else m) * 2 ^ (e + k).toNat = x * 2 ^ (-(e + k)).toNat
def Rep (b : Nat) (x : Int) (k : Int) : Prop := Stands (double.read b) x k

theorem pow_cancel {a b : Int} {n : Nat} (h : a * 2 ^ n = b * 2 ^ n) : a = b := by
  have hp : (2 : Int) ^ n ≠ 0 := Int.ne_of_gt (Int.pow_pos (by decide))
  exact Int.eq_of_mul_eq_mul_right hp h

/-- A rung made of a significand and a place. -/
theorem stands_rung (s : Bool) (kept : Nat) (t : Nat) (h1 : 2 ^ 52 ≤ kept) (h2 : kept ≤ 2 ^ 53) (ht : t < 2000) :
    ∃ m e, double.read (double.word s (t * 2 ^ 52 + kept)) = .number s m e ∧ (m = kept ∧ e = (t : Int) - 1074 ∨ m = 2 ^ 52 ∧ kept = 2 ^ 53 ∧ e = (t : Int) - 1073) := by
  have hlt : t * 2 ^ 52 + kept < 2047 * 2 ^ 52 := by omega
  rw [read_word s _ hlt, if_neg (by omega)]
  by_cases hk : kept = 2 ^ 53
  · refine ⟨_, _, rfl, .inr ⟨by omega, hk, by omega⟩⟩
  · refine ⟨_, _, rfl, .inl ⟨by omega, by omega⟩⟩

theorem nearest_small (s : Bool) (m : Nat) (e : Int) (hm : m ≠ 0) (ht0 : -1074 ≤ e + m.log2 - 52) (ht1 : e + m.log2 - 52 < 220) :
    ∃ kept : Nat, 2 ^ 52 ≤ kept ∧ kept ≤ 2 ^ 53 ∧ double.nearest s m e = double.word s ((e + m.log2 - 52 + 1074).toNat * 2 ^ 52 + kept) ∧
      ((m.log2 ≤ 52 → kept = m * 2 ^ (52 - m.log2)) ∧
       (52 < m.log2 → 2 * (kept * 2 ^ (m.log2 - 52)) ≤ 2 * m + 2 ^ (m.log2 - 52) ∧ 2 * m ≤ 2 * (kept * 2 ^ (m.log2 - 52)) + 2 ^ (m.log2 - 52) ∧ (m % 2 ^ (m.log2 - 52) = 0 → kept * 2 ^ (m.log2 - 52) = m))) := by
  have hlog0 : 2 ^ m.log2 ≤ m := Nat.log2_self_le hm
  have hlog1 : m < 2 ^ (m.log2 + 1) := Nat.lt_log2_self
  generalize hL : m.log2 = L at *
  have hl : double.leastPlace = -1074 := rfl
  have hf : double.fractionBits = 52 := rfl
  have hb : double.binade = 2 ^ 52 := rfl
  have hi : double.infRung = 2047 * 2 ^ 52 := rfl
  have hlast : max (e + (L : Int) - (52 : Nat)) (-1074) = e + L - 52 := by
    have : ((52 : Nat) : Int) = 52 := rfl
    rw [this]; omega
  by_cases hle : L ≤ 52
  · have e1 : (e - (e + L - 52)).toNat = 52 - L := by omega
    have e2 : (e + L - 52 - e).toNat = 0 := by omega
    have hk : Toward.even.cut s (m * 2 ^ (52 - L)) 0 = m * 2 ^ (52 - L) := by
      have := (cut_spec s (m * 2 ^ (52 - L)) 0 (Nat.zero_le _)).2.2.1 (by simp [Nat.mod_one])
      simpa using this
    have hp : 2 ^ L * 2 ^ (52 - L) = 2 ^ 52 := by rw [← Nat.pow_add]; congr 1; omega
    have hp1 : 2 ^ (L + 1) * 2 ^ (52 - L) = 2 ^ 53 := by rw [← Nat.pow_add]; congr 1; omega
    have k1 : 2 ^ 52 ≤ m * 2 ^ (52 - L) := by rw [← hp]; exact Nat.mul_le_mul_right _ hlog0
    have k2 : m * 2 ^ (52 - L) ≤ 2 ^ 53 := by rw [← hp1]; exact Nat.mul_le_mul_right _ (Nat.le_of_lt hlog1)
    refine ⟨m * 2 ^ (52 - L), k1, k2, ?_, fun _ => rfl, fun h => by omega⟩
    unfold Format.nearest
    rw [if_neg hm, hl, hf, hb, hi, hL]
    simp only [hlast, e1, e2, Nat.shiftLeft_eq, hk]
    rw [Nat.min_eq_left (by omega), show (e + (L : Int) - 52 - -1074) = e + L - 52 + 1074 by omega]
  · have e1 : (e - (e + L - 52)).toNat = 0 := by omega
    have e2 : (e + L - 52 - e).toNat = L - 52 := by omega
    obtain ⟨c1, c2, c3, c4, c5⟩ := cut_spec s m (L - 52) (by omega)
    have hp : 2 ^ 52 * 2 ^ (L - 52) = 2 ^ L := by rw [← Nat.pow_add]; congr 1; omega
    have hp1 : 2 ^ 53 * 2 ^ (L - 52) = 2 ^ (L + 1) := by rw [← Nat.pow_add]; congr 1; omega
    have q1 : 2 ^ 52 ≤ m / 2 ^ (L - 52) := by rw [Nat.le_div_iff_mul_le (two_pos _), hp]; exact hlog0
    have q2 : m / 2 ^ (L - 52) < 2 ^ 53 := by rw [Nat.div_lt_iff_lt_mul (two_pos _), hp1]; exact hlog1
    refine ⟨Toward.even.cut s m (L - 52), by omega, by omega, ?_, fun h => by omega, fun _ => ⟨c1, c2, c3⟩⟩
    unfold Format.nearest
    rw [if_neg hm, hl, hf, hb, hi, hL]
    simp only [hlast, e1, e2, Nat.shiftLeft_eq, Nat.pow_zero, Nat.mul_one]
    rw [Nat.min_eq_left (by omega), show (e + (L : Int) - 52 - -1074) = e + L - 52 + 1074 by omega]

theorem ip (a b : Nat) : (2 : Int) ^ (a + b) = 2 ^ a * 2 ^ b := Int.pow_add _ _ _
theorem ipos (a : Nat) : (0 : Int) < 2 ^ a := Int.pow_pos (by decide)
theorem icast (a : Nat) : ((2 ^ a : Nat) : Int) = 2 ^ a := by simp

/-- The magnitude's side of rounding: 'm * 2 ^ b = x * 2 ^ a' says that the number is x / 2 ^ k. -/
theorem near_mag (m : Nat) (e k : Int) (x : Nat) (hm : m ≠ 0) (hk0 : 0 ≤ k) (hk1 : k ≤ 100) (hx : x < 2 ^ 200)
    (h : m * 2 ^ (e + k).toNat = x * 2 ^ (-(e + k)).toNat) (s : Bool) :
    ∃ (y m' : Nat) (e' : Int), double.read (double.nearest s m e) = .number s m' e' ∧ m' * 2 ^ (e' + k).toNat = y * 2 ^ (-(e' + k)).toNat ∧
      2 ^ 53 * y ≤ 2 ^ 53 * x + x ∧ 2 ^ 53 * x ≤ 2 ^ 53 * y + x := by
  have hlog0 : 2 ^ m.log2 ≤ m := Nat.log2_self_le hm
  have hlog1 : m < 2 ^ (m.log2 + 1) := Nat.lt_log2_self
  have hx0 : x ≠ 0 := by
    rintro rfl
    rw [Nat.zero_mul] at h
    have := Nat.mul_pos (Nat.pos_of_ne_zero hm) (two_pos (e + k).toNat)
    omega
  -- the place of the last digit
  have ht0 : -1074 ≤ e + m.log2 - 52 := by
    apply Classical.byContradiction
    intro hn
    have hlt : (m.log2 + 1) ≤ (-(e + k)).toNat := by omega
    have h0 : (e + k).toNat = 0 := by omega
    rw [h0, Nat.pow_zero, Nat.mul_one] at h
    have h1 : 2 ^ (m.log2 + 1) ≤ 2 ^ (-(e + k)).toNat := Nat.pow_le_pow_right (by decide) hlt
    have h2 : 2 ^ (-(e + k)).toNat ≤ x * 2 ^ (-(e + k)).toNat := Nat.le_mul_of_pos_left _ (Nat.pos_of_ne_zero hx0)
    omega
  have ht1 : e + m.log2 - 52 < 220 := by
    apply Classical.byContradiction
    intro hn
    have h1 : 2 ^ (m.log2 + (e + k).toNat) ≤ m * 2 ^ (e + k).toNat := by rw [Nat.pow_add]; exact Nat.mul_le_mul_right _ hlog0
    have h2 : x * 2 ^ (-(e + k)).toNat < 2 ^ (200 + (-(e + k)).toNat) := by rw [Nat.pow_add]; exact Nat.mul_lt_mul_of_pos_right hx (two_pos _)
    have h3 : 2 ^ (200 + (-(e + k)).toNat) ≤ 2 ^ (m.log2 + (e + k).toNat) := Nat.pow_le_pow_right (by decide) (by omega)
    omega
  obtain ⟨kept, k1, k2, hnear, hlow, hhigh⟩ := nearest_small s m e hm ht0 ht1
  rw [hnear]
  obtain ⟨m', e', hread, hme⟩ := stands_rung s kept (e + m.log2 - 52 + 1074).toNat k1 k2 (by omega)
  generalize hL : m.log2 = L at *
  -- what is read is kept * 2 ^ t
  have hval : ∀ y : Nat, kept * 2 ^ (e + L - 52 + k).toNat = y * 2 ^ (-(e + L - 52 + k)).toNat → m' * 2 ^ (e' + k).toNat = y * 2 ^ (-(e' + k)).toNat := by
    intro y hy
    rcases hme with ⟨rfl, he'⟩ | ⟨rfl, hk53, he'⟩
    · have : e' = e + L - 52 := by omega
      rw [this]; exact hy
    · have hee : e' = e + L - 52 + 1 := by omega
      rw [hk53, show (2 : Nat) ^ 53 = 2 ^ 52 * 2 by rfl] at hy
      by_cases hs : 0 ≤ e + L - 52 + k
      · have a1 : (e' + k).toNat = (e + L - 52 + k).toNat + 1 := by omega
        have a2 : (-(e' + k)).toNat = 0 := by omega
        have a3 : (-(e + L - 52 + k)).toNat = 0 := by omega
        rw [a3, Nat.pow_zero, Nat.mul_one] at hy
        have e2 : 2 ^ ((e + (L : Int) - 52 + k).toNat + 1) = 2 ^ (e + (L : Int) - 52 + k).toNat * 2 := Nat.pow_succ ..
        rw [a1, a2, e2, Nat.pow_zero, Nat.mul_one, ← hy]
        generalize 2 ^ (e + (L : Int) - 52 + k).toNat = g
        omega
      · have a1 : (e' + k).toNat = 0 := by omega
        have a2 : (-(e + L - 52 + k)).toNat = (-(e' + k)).toNat + 1 := by omega
        have a3 : (e + L - 52 + k).toNat = 0 := by omega
        have e2 : y * 2 ^ ((-(e' + k)).toNat + 1) = y * 2 ^ (-(e' + k)).toNat * 2 := by rw [Nat.pow_succ, Nat.mul_assoc]
        rw [a2, a3, e2, Nat.pow_zero, Nat.mul_one] at hy
        rw [a1, Nat.pow_zero, Nat.mul_one]
        generalize y * 2 ^ (-(e' + k)).toNat = g at *
        omega
  by_cases hle : L ≤ 52
  · -- nothing is rounded
    have hkept := hlow hle
    refine ⟨x, m', e', hread, hval x ?_, by omega, by omega⟩
    rw [hkept]
    by_cases hs : 0 ≤ e + k
    · have b1 : (-(e + k)).toNat = 0 := by omega
      rw [b1, Nat.pow_zero, Nat.mul_one] at h
      rw [← h]
      by_cases hs2 : 0 ≤ e + L - 52 + k
      · have a1 : (-(e + L - 52 + k)).toNat = 0 := by omega
        have a2 : (e + k).toNat = (52 - L) + (e + L - 52 + k).toNat := by omega
        rw [a1, a2, Nat.pow_add]
        simp only [Nat.mul_assoc, Nat.pow_zero, Nat.mul_one]
      · have a1 : (e + L - 52 + k).toNat = 0 := by omega
        have a2 : 52 - L = (e + k).toNat + (-(e + L - 52 + k)).toNat := by omega
        rw [a1, a2, Nat.pow_add]
        simp only [Nat.mul_assoc, Nat.pow_zero, Nat.mul_one]
    · have b1 : (e + k).toNat = 0 := by omega
      have a1 : (e + L - 52 + k).toNat = 0 := by omega
      have a2 : (-(e + L - 52 + k)).toNat = (-(e + k)).toNat + (52 - L) := by omega
      rw [b1, Nat.pow_zero, Nat.mul_one] at h
      rw [a1, a2, h, Nat.pow_add]
      simp only [Nat.mul_assoc, Nat.pow_zero, Nat.mul_one]
  · obtain ⟨c1, c2, c3⟩ := hhigh (by omega)
    have hg : 2 ^ 52 * 2 ^ (L - 52) = 2 ^ L := by rw [← Nat.pow_add]; congr 1; omega
    by_cases hs2 : 0 ≤ e + L - 52 + k
    · -- a whole number of units
      have a1 : (-(e + L - 52 + k)).toNat = 0 := by omega
      refine ⟨kept * 2 ^ (e + L - 52 + k).toNat, m', e', hread, hval _ (by rw [a1, Nat.pow_zero, Nat.mul_one]), ?_⟩
      have hp : 0 < 2 ^ (-(e + k)).toNat := two_pos _
      have key : kept * 2 ^ (e + L - 52 + k).toNat * 2 ^ (-(e + k)).toNat = kept * 2 ^ (L - 52) * 2 ^ (e + k).toNat := by
        rw [Nat.mul_assoc, Nat.mul_assoc, ← Nat.pow_add, ← Nat.pow_add]
        congr 2
        omega
      have m1 : 2 ^ 53 * (kept * 2 ^ (L - 52)) ≤ 2 ^ 53 * m + m := by omega
      have m2 : 2 ^ 53 * m ≤ 2 ^ 53 * (kept * 2 ^ (L - 52)) + m := by omega
      have n1 := Nat.mul_le_mul_right (2 ^ (e + k).toNat) m1
      have n2 := Nat.mul_le_mul_right (2 ^ (e + k).toNat) m2
      have d1 : 2 ^ 53 * (kept * 2 ^ (L - 52)) * 2 ^ (e + k).toNat = 2 ^ 53 * (kept * 2 ^ (e + L - 52 + k).toNat * 2 ^ (-(e + k)).toNat) := by rw [key, Nat.mul_assoc]
      have d2 : 2 ^ 53 * m * 2 ^ (e + k).toNat = 2 ^ 53 * (x * 2 ^ (-(e + k)).toNat) := by rw [← h, Nat.mul_assoc]
      rw [Nat.add_mul, d1, d2, h] at n1
      rw [Nat.add_mul, d1, d2, h] at n2
      generalize kept * 2 ^ (e + L - 52 + k).toNat = y at *
      generalize 2 ^ (-(e + k)).toNat = g at *
      refine ⟨Nat.le_of_mul_le_mul_right (c := g) ?_ hp, Nat.le_of_mul_le_mul_right (c := g) ?_ hp⟩
      · rw [Nat.add_mul, Nat.mul_assoc, Nat.mul_assoc]; exact n1
      · rw [Nat.add_mul, Nat.mul_assoc, Nat.mul_assoc]; exact n2
    · -- fewer than 53 digits: exact
      have b1 : (e + k).toNat = 0 := by omega
      have a1 : (e + L - 52 + k).toNat = 0 := by omega
      rw [b1, Nat.pow_zero, Nat.mul_one] at h
      have hsplit : (-(e + k)).toNat = (L - 52) + (-(e + L - 52 + k)).toNat := by omega
      have hdiv : m % 2 ^ (L - 52) = 0 := by
        rw [h, hsplit, Nat.pow_add, ← Nat.mul_assoc, Nat.mul_comm x, Nat.mul_assoc, Nat.mul_mod_right]
      have hex := c3 hdiv
      refine ⟨x, m', e', hread, hval x ?_, by omega, by omega⟩
      rw [a1, Nat.pow_zero, Nat.mul_one]
      have h5 : kept * 2 ^ (L - 52) = x * 2 ^ (-(e + L - 52 + k)).toNat * 2 ^ (L - 52) := by
        rw [hex, h, hsplit, Nat.pow_add]
        simp only [Nat.mul_assoc, Nat.mul_comm]
      exact Nat.eq_of_mul_eq_mul_right (two_pos _) h5

theorem pos_of_mul_pos_right' {a b : Int} (h : 0 < a * b) (hb : 0 < b) : 0 < a := by
  apply Classical.byContradiction
  intro hn
  have := Int.mul_nonpos_of_nonpos_of_nonneg (show a ≤ 0 by omega) (Int.le_of_lt hb)
  omega

/-- The nearest word of x / 2 ^ k: some y / 2 ^ k, no farther from it than the 2 ^ 53th part. -/
def Near (x y : Int) : Prop := 2 ^ 53 * y - 2 ^ 53 * x ≤ x.natAbs ∧ 2 ^ 53 * x - 2 ^ 53 * y ≤ x.natAbs

theorem near_nearest {s : Bool} {m : Nat} {e k x : Int} (hk0 : 0 ≤ k) (hk1 : k ≤ 100) (hx : x.natAbs < 2 ^ 200)
    (h : (if s then -(m : Int) else m) * 2 ^ (e + k).toNat = x * 2 ^ (-(e + k)).toNat) : ∃ y, Rep (double.nearest s m e) y k ∧ Near x y := by
  by_cases hm : m = 0
  · subst hm
    have hx0 : x = 0 := by
      have h1 : x * 2 ^ (-(e + k)).toNat = 0 := by rw [← h]; cases s <;> simp
      rcases Int.mul_eq_zero.1 h1 with h2 | h2
      · exact h2
      · exact absurd h2 (Int.ne_of_gt (ipos _))
    subst hx0
    refine ⟨0, ?_, by unfold Near; simp⟩
    have hn : double.nearest s 0 e = double.word s 0 := by unfold Format.nearest; rw [if_pos rfl]
    rw [Rep, hn, read_word s 0 (by decide), if_pos (by decide)]
    exact ⟨s, 0, _, rfl, by cases s <;> simp⟩
  · have hmag : m * 2 ^ (e + k).toNat = x.natAbs * 2 ^ (-(e + k)).toNat := by
      have h1 := congrArg Int.natAbs h
      rw [Int.natAbs_mul, Int.natAbs_mul, Int.natAbs_pow, Int.natAbs_pow] at h1
      cases s <;> simpa using h1
    obtain ⟨y, m', e', hr, hy, n1, n2⟩ := near_mag m e k x.natAbs hm hk0 hk1 hx hmag s
    have hsx : (if s then -(x.natAbs : Int) else x.natAbs) = x := by
      have hp : (0 : Int) < 2 ^ (e + k).toNat := ipos _
      have hq : (0 : Int) < 2 ^ (-(e + k)).toNat := ipos _
      have hm0 : (0 : Int) < m := by omega
      cases s with
      | false =>
        simp only [Bool.false_eq_true, if_false] at h ⊢
        have : 0 < x * 2 ^ (-(e + k)).toNat := by rw [← h]; exact Int.mul_pos hm0 hp
        have : 0 < x := pos_of_mul_pos_right' this hq
        omega
      | true =>
        simp only [if_true] at h ⊢
        have : 0 < -x * 2 ^ (-(e + k)).toNat := by
          rw [Int.neg_mul, ← h, Int.neg_mul, Int.neg_neg]; exact Int.mul_pos hm0 hp
        have : 0 < -x := pos_of_mul_pos_right' this hq
        omega
    refine ⟨if s then -(y : Int) else y, ⟨s, m', e', hr, ?_⟩, ?_⟩
    · have hc := congrArg (Nat.cast (R := Int)) hy
      simp only [Int.natCast_mul, Int.natCast_pow, Int.cast_ofNat_Int] at hc
      cases s with
      | false => simpa using hc
      | true => simp only [if_true, Int.neg_mul]; rw [hc]
    · unfold Near
      have hN : ((2 : Int) ^ 53) = 9007199254740992 := by decide
      have hN2 : (2 : Nat) ^ 53 = 9007199254740992 := by decide
      rw [hN2] at n1 n2
      rw [hN]
      generalize hX : x.natAbs = X at *
      cases s with
      | false =>
        simp only [Bool.false_eq_true, if_false] at hsx ⊢
        omega
      | true =>
        simp only [if_true] at hsx ⊢
        omega

/-- Powers on both sides, moved. -/
theorem rebalance {p q : Int} {a b c d : Nat} (h : p * 2 ^ a = q * 2 ^ b) (e : a + d = b + c) : p * 2 ^ c = q * 2 ^ d := by
  have h1 : p * 2 ^ c * 2 ^ b = q * 2 ^ d * 2 ^ b := by
    rw [Int.mul_assoc, ← ip, show c + b = a + d by omega, ip, ← Int.mul_assoc, h, Int.mul_assoc, Int.mul_assoc, Int.mul_comm (2 ^ b)]
  exact pow_cancel h1

theorem sg_mul (s t : Bool) (m n : Nat) : (if s ^^ t then -((m * n : Nat) : Int) else ((m * n : Nat) : Int)) = (if s then -(m : Int) else m) * (if t then -(n : Int) else n) := by
  cases s <;> cases t <;> simp [Int.neg_mul, Int.mul_neg]

theorem mul_rep {a b : Nat} {x y k l : Int} (ha : Rep a x k) (hb : Rep b y l) (hk0 : 0 ≤ k + l) (hk1 : k + l ≤ 100) (hx : (x * y).natAbs < 2 ^ 200) :
    ∃ r z, double.mul a b = some r ∧ Rep r z (k + l) ∧ Near (x * y) z := by
  obtain ⟨s, m, i, hra, h1⟩ := ha
  obtain ⟨t, n, j, hrb, h2⟩ := hb
  have h3 : (if s ^^ t then -((m * n : Nat) : Int) else ((m * n : Nat) : Int)) * 2 ^ (i + j + (k + l)).toNat = x * y * 2 ^ (-(i + j + (k + l))).toNat := by
    rw [sg_mul]
    generalize (if s then -(m : Int) else m) = p at *
    generalize (if t then -(n : Int) else n) = q at *
    have h4 : p * q * 2 ^ ((i + k).toNat + (j + l).toNat) = x * y * 2 ^ ((-(i + k)).toNat + (-(j + l)).toNat) := by
      rw [ip, ip, show p * q * (2 ^ (i + k).toNat * 2 ^ (j + l).toNat) = (p * 2 ^ (i + k).toNat) * (q * 2 ^ (j + l).toNat) by grind, h1, h2]
      grind
    exact rebalance h4 (by omega)
  obtain ⟨z, hz, hn⟩ := near_nearest hk0 hk1 hx h3
  refine ⟨_, z, ?_, hz, hn⟩
  unfold Format.mul
  rw [hra, hrb]
  rfl

theorem signed_eq (s : Bool) (m up : Nat) : signed s m up = (if s then -(m : Int) else m) * 2 ^ up := by
  unfold signed
  rw [Nat.shiftLeft_eq]
  cases s <;> simp [Int.neg_mul]

theorem sg_abs (s : Bool) (z : Int) (h : z ≠ 0 → s = decide (z < 0)) : (if s then -(z.natAbs : Int) else z.natAbs) = z := by
  by_cases hz : z = 0
  · subst hz; cases s <;> simp
  · rw [h hz]
    by_cases hn : z < 0
    · simp only [hn, decide_true, if_true]; omega
    · simp only [hn, decide_false, Bool.false_eq_true, if_false]; omega

theorem sum_stands {d1 d2 : Datum} {x y k : Int} (h1 : Stands d1 x k) (h2 : Stands d2 y k) : ∃ d, d1.sum d2 = some d ∧ Stands d (x + y) k := by
  obtain ⟨s, m, i, rfl, h1⟩ := h1
  obtain ⟨t, n, j, rfl, h2⟩ := h2
  refine ⟨_, rfl, _, _, _, rfl, ?_⟩
  rw [sg_abs _ _ (fun h => by simp [h]), signed_eq, signed_eq]
  generalize (if s then -(m : Int) else m) = p at *
  generalize (if t then -(n : Int) else n) = q at *
  generalize hb : min i j = b at *
  have hbi : b ≤ i := by omega
  have hbj : b ≤ j := by omega
  have e1 := rebalance h1 (c := (i - b).toNat + (b + k).toNat) (d := (-(b + k)).toNat) (by omega)
  have e2 := rebalance h2 (c := (j - b).toNat + (b + k).toNat) (d := (-(b + k)).toNat) (by omega)
  rw [Int.add_mul, Int.add_mul, Int.mul_assoc, Int.mul_assoc, ← ip, ← ip, e1, e2]

theorem opp_stands {d : Datum} {x k : Int} (h : Stands d x k) : Stands d.opposite (-x) k := by
  obtain ⟨s, m, i, rfl, h1⟩ := h
  refine ⟨!s, m, i, rfl, ?_⟩
  have : (if (!s) = true then -(m : Int) else m) = -(if s = true then -(m : Int) else m) := by cases s <;> simp
  rw [this, Int.neg_mul, h1, Int.neg_mul]

theorem write_near {d : Datum} {x k : Int} (h : Stands d x k) (hk0 : 0 ≤ k) (hk1 : k ≤ 100) (hx : x.natAbs < 2 ^ 200) : ∃ z, Rep (double.write d) z k ∧ Near x z := by
  obtain ⟨s, m, i, rfl, h1⟩ := h
  exact near_nearest hk0 hk1 hx h1

theorem add_rep {a b : Nat} {x y k : Int} (ha : Rep a x k) (hb : Rep b y k) (hk0 : 0 ≤ k) (hk1 : k ≤ 100) (hx : (x + y).natAbs < 2 ^ 200) :
    ∃ r z, double.add a b = some r ∧ Rep r z k ∧ Near (x + y) z := by
  obtain ⟨d, hd, hs⟩ := sum_stands ha hb
  obtain ⟨z, hz, hn⟩ := write_near hs hk0 hk1 hx
  exact ⟨_, z, by unfold Format.add; rw [hd]; rfl, hz, hn⟩
theorem sub_rep {a b : Nat} {x y k : Int} (ha : Rep a x k) (hb : Rep b y k) (hk0 : 0 ≤ k) (hk1 : k ≤ 100) (hx : (x - y).natAbs < 2 ^ 200) :
    ∃ r z, double.sub a b = some r ∧ Rep r z k ∧ Near (x - y) z := by
  obtain ⟨d, hd, hs⟩ := sum_stands ha (opp_stands hb)
  rw [show x + -y = x - y by omega] at hs
  obtain ⟨z, hz, hn⟩ := write_near hs hk0 hk1 hx
  exact ⟨_, z, by unfold Format.sub; rw [hd]; rfl, hz, hn⟩

theorem of_int_rep {n : Int} (h : n.natAbs < 2 ^ 53) : Rep (double.write (.number (n < 0) n.natAbs 0)) n 0 := by
  have hs : Stands (.number (n < 0) n.natAbs 0) n 0 := ⟨_, _, _, rfl, by rw [sg_abs _ _ (fun _ => rfl)]; rfl⟩
  obtain ⟨z, hz, h1, h2⟩ := write_near hs (by omega) (by omega) (Nat.lt_of_lt_of_le h (Nat.pow_le_pow_right (by decide) (by decide)))
  have hN : ((2 : Int) ^ 53) = 9007199254740992 := by decide
  have hN2 : ((2 : Nat) ^ 53) = 9007199254740992 := by decide
  rw [hN] at h1 h2
  rw [hN2] at h
  have : z = n := by omega
  rw [← this]; rw [this]; rw [this] at hz; exact hz

/-- Comparing. -/
theorem order_rep {a b : Nat} {x y k l : Int} (ha : Rep a x k) (hb : Rep b y l) (hk : 0 ≤ k) (hl : 0 ≤ l) : double.order a b = some (compare (x * 2 ^ l.toNat) (y * 2 ^ k.toNat)) := by
  obtain ⟨s, m, i, hra, h1⟩ := ha
  obtain ⟨t, n, j, hrb, h2⟩ := hb
  unfold Format.order
  rw [hra, hrb]
  show some (compare (signed s m (i - min i j).toNat) (signed t n (j - min i j).toNat)) = _
  rw [signed_eq, signed_eq]
  generalize (if s then -(m : Int) else m) = p at *
  generalize (if t then -(n : Int) else n) = q at *
  generalize hb : min i j = b at *
  have hbi : b ≤ i := by omega
  have hbj : b ≤ j := by omega
  have e1 := rebalance h1 (c := (i - b).toNat + (b + k + l).toNat) (d := l.toNat + (-(b + k + l)).toNat) (by omega)
  have e2 := rebalance h2 (c := (j - b).toNat + (b + k + l).toNat) (d := k.toNat + (-(b + k + l)).toNat) (by omega)
  rw [ip, ← Int.mul_assoc, ip, ← Int.mul_assoc] at e1 e2
  generalize p * 2 ^ (i - b).toNat = X at *
  generalize q * 2 ^ (j - b).toNat = Y at *
  generalize x * 2 ^ l.toNat = X' at *
  generalize y * 2 ^ k.toNat = Y' at *
  have g1 : (0 : Int) < 2 ^ (b + k + l).toNat := ipos _
  have g2 : (0 : Int) < 2 ^ (-(b + k + l)).toNat := ipos _
  generalize (2 : Int) ^ (b + k + l).toNat = g at *
  generalize (2 : Int) ^ (-(b + k + l)).toNat = g' at *
  have key : ∀ u v u' v' : Int, u * g = u' * g' → v * g = v' * g' → (u < v ↔ u' < v') := by
    intro u v u' v' hu hv
    constructor
    · intro h
      have h1 := Int.mul_lt_mul_of_pos_right h g1
      rw [hu, hv] at h1
      exact Int.lt_of_mul_lt_mul_right h1 (Int.le_of_lt g2)
    · intro h
      have h1 := Int.mul_lt_mul_of_pos_right h g2
      rw [← hu, ← hv] at h1
      exact Int.lt_of_mul_lt_mul_right h1 (Int.le_of_lt g1)
  have hlt := key X Y X' Y' e1 e2
  have hgt := key Y X Y' X' e2 e1
  congr 1
  rcases Int.lt_trichotomy X' Y' with h | h | h
  · rw [Int.compare_eq_lt.2 h, Int.compare_eq_lt.2 (hlt.2 h)]
  · have : X = Y := by
      have n1 := mt hlt.1 (by omega); have n2 := mt hgt.1 (by omega); omega
    rw [h, this, Int.compare_eq_eq.2 rfl, Int.compare_eq_eq.2 rfl]
  · rw [Int.compare_eq_gt.2 h, Int.compare_eq_gt.2 (hgt.2 h)]

/-- The sign struck, and turned. -/
theorem abs_rep {b : Nat} {x k : Int} (h : Rep b x k) : Rep (b % 2 ^ 63) x.natAbs k := by
  obtain ⟨s, m, e, hr, h1⟩ := h
  have hsw : double.signWeight = 2 ^ 63 := rfl
  have hread : double.read (b % 2 ^ 63) = .number false m e := by
    unfold Format.read at hr ⊢
    rw [hsw] at hr ⊢
    have e1 : b % 2 ^ 63 / 2 ^ 63 % 2 = 0 := by omega
    have e2 : b % 2 ^ 63 % 2 ^ 63 = b % 2 ^ 63 := by omega
    simp only [e1, e2] at hr ⊢
    generalize b % 2 ^ 63 = r at *
    split at hr
    · rename_i hlt
      rw [if_pos hlt]
      injection hr with _ hr1 hr2
      subst hr1; subst hr2; rfl
    · rename_i hlt
      rw [if_neg hlt]
      split at hr
      · rename_i hlt2
        rw [if_pos hlt2]
        injection hr with _ hr1 hr2
        subst hr1; subst hr2; rfl
      · split at hr <;> cases hr
  refine ⟨false, m, e, hread, ?_⟩
  have h2 := congrArg Int.natAbs h1
  rw [Int.natAbs_mul, Int.natAbs_mul, Int.natAbs_pow, Int.natAbs_pow] at h2
  have h3 : m * 2 ^ (e + k).toNat = x.natAbs * 2 ^ (-(e + k)).toNat := by cases s <;> simpa using h2
  have hc := congrArg (Nat.cast (R := Int)) h3
  simpa using hc

theorem xor_parts (b : Nat) : (b ^^^ 2 ^ 63) % 2 ^ 63 = b % 2 ^ 63 ∧ (b ^^^ 2 ^ 63) / 2 ^ 63 % 2 = (b / 2 ^ 63 + 1) % 2 := by
  refine ⟨by rw [Nat.xor_mod_two_pow]; simp, ?_⟩
  have h : (b ^^^ 2 ^ 63) / 2 ^ 63 = (b / 2 ^ 63) ^^^ 1 := by rw [← Nat.shiftRight_eq_div_pow, Nat.shiftRight_xor_distrib, Nat.shiftRight_eq_div_pow]; rfl
  rw [h]
  generalize b / 2 ^ 63 = c
  rw [show (2 : Nat) = 2 ^ 1 from rfl, Nat.xor_mod_two_pow]
  simp only [Nat.pow_one]
  rcases Nat.mod_two_eq_zero_or_one c with h | h <;> simp [h, Nat.add_mod]

theorem neg_rep {b : Nat} {x k : Int} (h : Rep b x k) : Rep (b ^^^ 2 ^ 63) (-x) k := by
  obtain ⟨s, m, e, hr, h1⟩ := h
  have hsw : double.signWeight = 2 ^ 63 := rfl
  obtain ⟨x1, x2⟩ := xor_parts b
  have hread : double.read (b ^^^ 2 ^ 63) = .number (!s) m e := by
    unfold Format.read at hr ⊢
    rw [hsw] at hr ⊢
    simp only [x1, x2] at hr ⊢
    have hneg : ((b / 2 ^ 63 + 1) % 2 == 1) = !(b / 2 ^ 63 % 2 == 1) := by
      rcases Nat.mod_two_eq_zero_or_one (b / 2 ^ 63) with h | h <;> simp [h, Nat.add_mod]
    rw [hneg]
    generalize b % 2 ^ 63 = r at *
    split at hr
    · rename_i hlt
      rw [if_pos hlt]
      injection hr with hr0 hr1 hr2
      subst hr0; subst hr1; subst hr2; rfl
    · rename_i hlt
      rw [if_neg hlt]
      split at hr
      · rename_i hlt2
        rw [if_pos hlt2]
        injection hr with hr0 hr1 hr2
        subst hr0; subst hr1; subst hr2; rfl
      · split at hr <;> cases hr
  exact ⟨!s, m, e, hread, by
    have : (if (!s) = true then -(m : Int) else m) = -(if s = true then -(m : Int) else m) := by cases s <;> simp
    rw [this, Int.neg_mul, h1, Int.neg_mul]⟩
end Go.Proofs.Ytdglijdiiggdgaa
