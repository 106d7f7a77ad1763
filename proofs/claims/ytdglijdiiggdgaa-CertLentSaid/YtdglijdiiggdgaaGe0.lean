/- Plain geometry: the perturbed signs of four places are the signs of true determinants of moved whole points. No Go here. -/
import Derived.Test.YtdglijdiiggdgaaGe1
namespace Geo

theorem ipow_le {B : Int} (hB : 1 ≤ B) {m n : Nat} (h : m ≤ n) : B ^ m ≤ B ^ n := by
  obtain ⟨d, rfl⟩ := Nat.exists_eq_add_of_le h
  rw [Int.pow_add]
  have h1 : 0 < B ^ m := Int.pow_pos (by omega)
  have h2 : 0 < B ^ d := Int.pow_pos (by omega)
  have := Int.mul_le_mul_of_nonneg_left (show (1 : Int) ≤ B ^ d by omega) (show 0 ≤ B ^ m by omega)
  omega

/-- The first that is not 0. -/
def fz : List Int → Int
  | [] => 0
  | x :: r => if x = 0 then fz r else x

theorem fz_append (a b : List Int) : fz (a ++ b) = if fz a = 0 then fz b else fz a := by
  induction a with
  | nil => simp [fz]
  | cons x r ih =>
    simp only [List.cons_append, fz]
    by_cases hx : x = 0
    · simp [hx, ih]
    · simp [hx]

theorem sign_cases (x : Int) : (x = 0 ∧ x.sign = 0) ∨ (0 < x ∧ x.sign = 1) ∨ (x < 0 ∧ x.sign = -1) := by
  rcases Int.lt_trichotomy x 0 with h | h | h
  · exact .inr (.inr ⟨h, Int.sign_eq_neg_one_of_neg h⟩)
  · exact .inl ⟨h, by rw [h]; rfl⟩
  · exact .inr (.inl ⟨h, Int.sign_eq_one_of_pos h⟩)

theorem dom0 {p0 p1 p2 p3 P0 P1 P2 P3 q0 q1 q2 q3 x0 x1 x2 x3 r : Int}
    (u0 : -P0 ≤ p0 ∧ p0 ≤ P0) (u1 : -P1 ≤ p1 ∧ p1 ≤ P1) (u2 : -P2 ≤ p2 ∧ p2 ≤ P2) (u3 : -P3 ≤ p3 ∧ p3 ≤ P3)
    (l0 : (x0 = 0 ∧ p0 = 0) ∨ (0 < x0 ∧ q0 ≤ p0) ∨ (x0 < 0 ∧ p0 ≤ -q0)) (l1 : (x1 = 0 ∧ p1 = 0) ∨ (0 < x1 ∧ q1 ≤ p1) ∨ (x1 < 0 ∧ p1 ≤ -q1))
    (l2 : (x2 = 0 ∧ p2 = 0) ∨ (0 < x2 ∧ q2 ≤ p2) ∨ (x2 < 0 ∧ p2 ≤ -q2)) (l3 : (x3 = 0 ∧ p3 = 0) ∨ (0 < x3 ∧ q3 ≤ p3) ∨ (x3 < 0 ∧ p3 ≤ -q3))
    (c1 : 6 * P1 ≤ q0) (c2 : 6 * P2 ≤ q1) (c3 : 6 * P3 ≤ q2) (d1 : P1 ≤ P0) (d2 : P2 ≤ P1) (d3 : P3 ≤ P2) (e1 : q1 ≤ q0) (e2 : q2 ≤ q1) (e3 : q3 ≤ q2)
    (hr : 0 < r) (hq : 2 * r ≤ q3) :
    (p0 + p1 + p2 + p3).sign = fz [x0.sign, x1.sign, x2.sign, x3.sign] ∧ (-(4 * P0) ≤ p0 + p1 + p2 + p3 ∧ p0 + p1 + p2 + p3 ≤ 4 * P0) ∧
      (p0 + p1 + p2 + p3 ≠ 0 → r ≤ p0 + p1 + p2 + p3 ∨ p0 + p1 + p2 + p3 ≤ -r) := by
  have s0 := sign_cases x0
  have s1 := sign_cases x1
  have s2 := sign_cases x2
  have s3 := sign_cases x3
  have sE := sign_cases (p0 + p1 + p2 + p3)
  refine ⟨?_, by omega, by omega⟩
  simp only [fz]
  rcases s0 with ⟨z0, s0⟩ | ⟨z0, s0⟩ | ⟨z0, s0⟩
  · rw [if_pos s0]
    rcases s1 with ⟨z1, s1⟩ | ⟨z1, s1⟩ | ⟨z1, s1⟩
    · rw [if_pos s1]
      rcases s2 with ⟨z2, s2⟩ | ⟨z2, s2⟩ | ⟨z2, s2⟩
      · rw [if_pos s2]
        rcases s3 with ⟨z3, s3⟩ | ⟨z3, s3⟩ | ⟨z3, s3⟩
        · rw [if_pos s3]; omega
        · rw [if_neg (by omega)]; omega
        · rw [if_neg (by omega)]; omega
      · rw [if_neg (by omega)]; omega
      · rw [if_neg (by omega)]; omega
    · rw [if_neg (by omega)]; omega
    · rw [if_neg (by omega)]; omega
  · rw [if_neg (by omega)]; omega
  · rw [if_neg (by omega)]; omega

theorem dom {B u : Int} (hB : 2 ≤ B) (hu0 : 0 ≤ u) (hu : 6 * u ≤ B) {g h f0 f1 f2 f3 : Nat} {x0 x1 x2 x3 : Int}
    (b0 : -(u * B ^ g) ≤ x0 ∧ x0 ≤ u * B ^ g) (b1 : -(u * B ^ g) ≤ x1 ∧ x1 ≤ u * B ^ g) (b2 : -(u * B ^ g) ≤ x2 ∧ x2 ≤ u * B ^ g) (b3 : -(u * B ^ g) ≤ x3 ∧ x3 ≤ u * B ^ g)
    (l0 : x0 ≠ 0 → B ^ h ≤ x0 ∨ x0 ≤ -B ^ h) (l1 : x1 ≠ 0 → B ^ h ≤ x1 ∨ x1 ≤ -B ^ h) (l2 : x2 ≠ 0 → B ^ h ≤ x2 ∨ x2 ≤ -B ^ h) (l3 : x3 ≠ 0 → B ^ h ≤ x3 ∨ x3 ≤ -B ^ h)
    (c1 : f1 + g + 1 ≤ f0 + h) (c2 : f2 + g + 1 ≤ f1 + h) (c3 : f3 + g + 1 ≤ f2 + h) (d1 : f1 ≤ f0) (d2 : f2 ≤ f1) (d3 : f3 ≤ f2) (hf : 1 ≤ h + f3) :
    (B ^ f0 * x0 + B ^ f1 * x1 + B ^ f2 * x2 + B ^ f3 * x3).sign = fz [x0.sign, x1.sign, x2.sign, x3.sign] ∧
      (-(4 * u * B ^ (g + f0)) ≤ B ^ f0 * x0 + B ^ f1 * x1 + B ^ f2 * x2 + B ^ f3 * x3 ∧ B ^ f0 * x0 + B ^ f1 * x1 + B ^ f2 * x2 + B ^ f3 * x3 ≤ 4 * u * B ^ (g + f0)) ∧
      (B ^ f0 * x0 + B ^ f1 * x1 + B ^ f2 * x2 + B ^ f3 * x3 ≠ 0 → B ^ (h + f3 - 1) ≤ B ^ f0 * x0 + B ^ f1 * x1 + B ^ f2 * x2 + B ^ f3 * x3 ∨ B ^ f0 * x0 + B ^ f1 * x1 + B ^ f2 * x2 + B ^ f3 * x3 ≤ -B ^ (h + f3 - 1)) := by
  have pos : ∀ n, 0 < B ^ n := fun n => Int.pow_pos (by omega)
  have up : ∀ f x, (-(u * B ^ g) ≤ x ∧ x ≤ u * B ^ g) → -(u * B ^ (g + f)) ≤ B ^ f * x ∧ B ^ f * x ≤ u * B ^ (g + f) := by
    intro f x ⟨ha, hb⟩
    have h1 := Int.mul_le_mul_of_nonneg_left ha (Int.le_of_lt (pos f))
    have h2 := Int.mul_le_mul_of_nonneg_left hb (Int.le_of_lt (pos f))
    have e : u * B ^ (g + f) = B ^ f * (u * B ^ g) := by rw [Int.pow_add]; grind
    rw [Int.mul_neg] at h1
    omega
  have low : ∀ f x, (x ≠ 0 → B ^ h ≤ x ∨ x ≤ -B ^ h) → (x = 0 ∧ B ^ f * x = 0) ∨ (0 < x ∧ B ^ (f + h) ≤ B ^ f * x) ∨ (x < 0 ∧ B ^ f * x ≤ -B ^ (f + h)) := by
    intro f x hx
    by_cases h0 : x = 0
    · exact .inl ⟨h0, by rw [h0, Int.mul_zero]⟩
    · rw [Int.pow_add]
      have hp := pos h
      rcases hx h0 with h1 | h1
      · exact .inr (.inl ⟨by omega, Int.mul_le_mul_of_nonneg_left h1 (Int.le_of_lt (pos f))⟩)
      · have := Int.mul_le_mul_of_nonneg_left h1 (Int.le_of_lt (pos f))
        rw [Int.mul_neg] at this
        exact .inr (.inr ⟨by omega, this⟩)
  have six : ∀ f f', f + g + 1 ≤ f' + h → 6 * (u * B ^ (g + f)) ≤ B ^ (f' + h) := by
    intro f f' hle
    have h1 : B ^ (f + g + 1) ≤ B ^ (f' + h) := ipow_le (by omega) hle
    have h2 : B ^ (f + g + 1) = B * B ^ (g + f) := by rw [show f + g + 1 = 1 + (g + f) by omega, Int.pow_add, Int.pow_one]
    have h3 := Int.mul_le_mul_of_nonneg_right hu (Int.le_of_lt (pos (g + f)))
    rw [Int.mul_assoc] at h3
    omega
  have mono : ∀ f f', f ≤ f' → u * B ^ (g + f) ≤ u * B ^ (g + f') := fun f f' hle => Int.mul_le_mul_of_nonneg_left (ipow_le (by omega) (by omega)) hu0
  have mono2 : ∀ f f', f ≤ f' → B ^ (f + h) ≤ B ^ (f' + h) := fun f f' hle => ipow_le (by omega) (by omega)
  have hr : 2 * B ^ (h + f3 - 1) ≤ B ^ (f3 + h) := by
    rw [show f3 + h = 1 + (h + f3 - 1) by omega, Int.pow_add, Int.pow_one]
    exact Int.mul_le_mul_of_nonneg_right hB (Int.le_of_lt (pos (h + f3 - 1)))
  have key := dom0 (up f0 x0 b0) (up f1 x1 b1) (up f2 x2 b2) (up f3 x3 b3) (low f0 x0 l0) (low f1 x1 l1) (low f2 x2 l2) (low f3 x3 l3)
    (six _ _ c1) (six _ _ c2) (six _ _ c3) (mono _ _ d1) (mono _ _ d2) (mono _ _ d3) (mono2 _ _ d1) (mono2 _ _ d2) (mono2 _ _ d3) (pos _) hr
  rw [Int.mul_assoc]
  exact key

/-! ### The rows and their changes -/

structure Pt where
  x : Int
  y : Int
  z : Int
  deriving DecidableEq, Inhabited

/-- A point's row, or what the change c (the bit 0, 1 or 2: 1, 2 or 4) makes of it. -/
def R (p : Pt) (c : Nat) : V4 :=
  if c = 1 then ⟨0, 0, 1, 0⟩ else if c = 2 then ⟨0, 1, 0, 0⟩ else if c = 4 then ⟨1, 0, 0, 0⟩ else ⟨p.x, p.y, p.z, 1⟩

/-- A point, moved. -/
def mv (s a b c : Int) (p : Pt) : V4 := ⟨s * p.x + c, s * p.y + b, s * p.z + a, s⟩

theorem det_lin1 (s a b c : Int) (p : Pt) (q r t : V4) : det (mv s a b c p) q r t = s * det (R p 0) q r t + a * det (R p 1) q r t + b * det (R p 2) q r t + c * det (R p 4) q r t := by
  simp only [mv, R, if_pos, reduceIte, show ((0 : Nat) = 1) = False by simp, show ((0 : Nat) = 2) = False by simp, show ((0 : Nat) = 4) = False by simp, show ((2 : Nat) = 1) = False by simp, show ((4 : Nat) = 1) = False by simp, show ((4 : Nat) = 2) = False by simp]
  unfold det; grind
theorem det_lin2 (s a b c : Int) (p : Pt) (q r t : V4) : det q (mv s a b c p) r t = s * det q (R p 0) r t + a * det q (R p 1) r t + b * det q (R p 2) r t + c * det q (R p 4) r t := by
  have h := det_lin1 s a b c p q r t
  have e := fun x => det_swap12 q x r t
  simp only [e] at h
  grind
theorem det_lin3 (s a b c : Int) (p : Pt) (q r t : V4) : det q r (mv s a b c p) t = s * det q r (R p 0) t + a * det q r (R p 1) t + b * det q r (R p 2) t + c * det q r (R p 4) t := by
  have h := det_lin2 s a b c p q r t
  have e := fun x => det_swap23 q r x t
  simp only [e] at h
  grind
theorem det_lin4 (s a b c : Int) (p : Pt) (q r t : V4) : det q r t (mv s a b c p) = s * det q r t (R p 0) + a * det q r t (R p 1) + b * det q r t (R p 2) + c * det q r t (R p 4) := by
  have h := det_lin3 s a b c p q r t
  have e := fun x => det_swap34 q r t x
  simp only [e] at h
  grind

/-! ### Bounds -/
def bnd (A x : Int) : Prop := -A ≤ x ∧ x ≤ A
theorem bnd_mul {A B x y : Int} (_hA : 0 ≤ A) (_hB : 0 ≤ B) (hx : bnd A x) (hy : bnd B y) : bnd (A * B) (x * y) := by
  obtain ⟨x1, x2⟩ := hx
  obtain ⟨y1, y2⟩ := hy
  have h1 := Int.mul_nonneg (show 0 ≤ A - x by omega) (show 0 ≤ B - y by omega)
  have h2 := Int.mul_nonneg (show 0 ≤ A + x by omega) (show 0 ≤ B + y by omega)
  have h3 := Int.mul_nonneg (show 0 ≤ A - x by omega) (show 0 ≤ B + y by omega)
  have h4 := Int.mul_nonneg (show 0 ≤ A + x by omega) (show 0 ≤ B - y by omega)
  rw [Int.sub_mul, Int.mul_sub, Int.mul_sub] at h1
  rw [Int.add_mul, Int.mul_add, Int.mul_add] at h2
  rw [Int.sub_mul, Int.mul_add, Int.mul_add] at h3
  rw [Int.add_mul, Int.mul_sub, Int.mul_sub] at h4
  exact ⟨by omega, by omega⟩
theorem bnd_add {A B x y : Int} (hx : bnd A x) (hy : bnd B y) : bnd (A + B) (x + y) := ⟨by have := hx.1; have := hy.1; omega, by have := hx.2; have := hy.2; omega⟩
theorem bnd_sub {A B x y : Int} (hx : bnd A x) (hy : bnd B y) : bnd (A + B) (x - y) := ⟨by have := hx.1; have := hy.2; omega, by have := hx.2; have := hy.1; omega⟩
theorem bnd_mono {A B x : Int} (h : A ≤ B) (hx : bnd A x) : bnd B x := ⟨by have := hx.1; omega, by have := hx.2; omega⟩

def BV (M : Int) (v : V4) : Prop := bnd M v.x ∧ bnd M v.y ∧ bnd M v.z ∧ bnd M v.w

theorem d3_bnd {M a1 a2 a3 b1 b2 b3 c1 c2 c3 : Int} (hM : 0 ≤ M) (ha1 : bnd M a1) (ha2 : bnd M a2) (ha3 : bnd M a3) (hb1 : bnd M b1) (hb2 : bnd M b2) (hb3 : bnd M b3)
    (hc1 : bnd M c1) (hc2 : bnd M c2) (hc3 : bnd M c3) : bnd (6 * (M * (M * M))) (d3 a1 a2 a3 b1 b2 b3 c1 c2 c3) := by
  have hMM := Int.mul_nonneg hM hM
  have m : ∀ {x y u v : Int}, bnd M x → bnd M y → bnd M u → bnd M v → bnd (M * M + M * M) (x * y - u * v) := fun hx hy hu hv => bnd_sub (bnd_mul hM hM hx hy) (bnd_mul hM hM hu hv)
  unfold d3
  have t1 := bnd_mul hM (by omega) ha1 (m hb2 hc3 hb3 hc2)
  have t2 := bnd_mul hM (by omega) ha2 (m hb1 hc3 hb3 hc1)
  have t3 := bnd_mul hM (by omega) ha3 (m hb1 hc2 hb2 hc1)
  refine bnd_mono ?_ (bnd_add (bnd_sub t1 t2) t3)
  rw [Int.mul_add]
  omega

theorem det_bnd {M : Int} (hM : 0 ≤ M) {a b c d : V4} (ha : BV M a) (hb : BV M b) (hc : BV M c) (hd : BV M d) : bnd (24 * (M * (M * (M * M)))) (det a b c d) := by
  obtain ⟨a1, a2, a3, a4⟩ := ha
  obtain ⟨b1, b2, b3, b4⟩ := hb
  obtain ⟨c1, c2, c3, c4⟩ := hc
  obtain ⟨e1, e2, e3, e4⟩ := hd
  have hMMM : 0 ≤ M * (M * M) := Int.mul_nonneg hM (Int.mul_nonneg hM hM)
  unfold det
  have t1 := bnd_mul hM (by omega) a1 (d3_bnd hM b2 b3 b4 c2 c3 c4 e2 e3 e4)
  have t2 := bnd_mul hM (by omega) a2 (d3_bnd hM b1 b3 b4 c1 c3 c4 e1 e3 e4)
  have t3 := bnd_mul hM (by omega) a3 (d3_bnd hM b1 b2 b4 c1 c2 c4 e1 e2 e4)
  have t4 := bnd_mul hM (by omega) a4 (d3_bnd hM b1 b2 b3 c1 c2 c3 e1 e2 e3)
  refine bnd_mono ?_ (bnd_sub (bnd_add (bnd_sub t1 t2) t3) t4)
  have e : M * (6 * (M * (M * M))) = 6 * (M * (M * (M * M))) := by grind
  omega

theorem R_bnd {M : Int} (hM : 1 ≤ M) {p : Pt} (hp : bnd M p.x ∧ bnd M p.y ∧ bnd M p.z) (c : Nat) : BV M (R p c) := by
  have h0 : bnd M 0 := ⟨by omega, by omega⟩
  have h1 : bnd M 1 := ⟨by omega, by omega⟩
  unfold R
  split
  · exact ⟨h0, h0, h1, h0⟩
  split
  · exact ⟨h0, h1, h0, h0⟩
  split
  · exact ⟨h1, h0, h0, h0⟩
  · exact ⟨hp.1, hp.2.1, hp.2.2, h1⟩

/-! ### The levels -/
def Lev (B u : Int) (g h : Nat) (X : Int) : Prop := (-(u * B ^ g) ≤ X ∧ X ≤ u * B ^ g) ∧ (X ≠ 0 → B ^ h ≤ X ∨ X ≤ -B ^ h)

/-- One row more. -/
theorem lev_step {B u : Int} (hB : 2 ≤ B) (hu0 : 0 ≤ u) (hu : 6 * u ≤ B) {g h K e : Nat} (he : 1 ≤ e) (hK : 4 * e + 1 ≤ K) {x0 x1 x2 x3 : Int} (c : g + 1 ≤ e + h)
    (l0 : Lev B u g h x0) (l1 : Lev B u g h x1) (l2 : Lev B u g h x2) (l3 : Lev B u g h x3) :
    (B ^ K * x0 + B ^ (K - e) * x1 + B ^ (K - 2 * e) * x2 + B ^ (K - 4 * e) * x3).sign = fz [x0.sign, x1.sign, x2.sign, x3.sign] ∧
      Lev B (4 * u) (g + K) (h + (K - 4 * e) - 1) (B ^ K * x0 + B ^ (K - e) * x1 + B ^ (K - 2 * e) * x2 + B ^ (K - 4 * e) * x3) := by
  have h := dom hB hu0 hu l0.1 l1.1 l2.1 l3.1 l0.2 l1.2 l2.2 l3.2 (f0 := K) (f1 := K - e) (f2 := K - 2 * e) (f3 := K - 4 * e) (by omega) (by omega) (by omega) (by omega) (by omega) (by omega) (by omega)
  exact ⟨h.1, h.2.1, h.2.2⟩

/-! ### The sign of four points whose places rise -/
def dm (p q r t : Pt) (a b c : Nat) : Int := (det (R p a) (R q b) (R r c) (R t 0)).sign

def sg4 (p q r t : Pt) : Int :=
  fz [dm p q r t 0 0 0, dm p q r t 1 0 0, dm p q r t 2 0 0, dm p q r t 4 0 0, dm p q r t 0 1 0, dm p q r t 2 1 0, dm p q r t 4 1 0,
    dm p q r t 0 2 0, dm p q r t 1 2 0, dm p q r t 4 2 0, dm p q r t 0 4 0, dm p q r t 1 4 0, dm p q r t 2 4 0,
    dm p q r t 0 0 1, dm p q r t 2 0 1, dm p q r t 4 0 1, dm p q r t 0 2 1, dm p q r t 4 2 1]

theorem R_eq {c : Nat} (h : c = 1 ∨ c = 2 ∨ c = 4) (p q : Pt) : R p c = R q c := by rcases h with rfl | rfl | rfl <;> rfl
theorem dm_self12 (p q r t : Pt) (b : Nat) {a : Nat} (h : a = 1 ∨ a = 2 ∨ a = 4) : dm p q r t a a b = 0 := by
  unfold dm; rw [R_eq h p q, det_self12]; rfl
theorem dm_self23 (p q r t : Pt) (b : Nat) {a : Nat} (h : a = 1 ∨ a = 2 ∨ a = 4) : dm p q r t b a a = 0 := by
  unfold dm; rw [R_eq h q r, det_self23]; rfl
theorem dm_self13 (p q r t : Pt) (b : Nat) {a : Nat} (h : a = 1 ∨ a = 2 ∨ a = 4) : dm p q r t a b a = 0 := by
  have h1 := det_swap23 (R p a) (R q b) (R p a) (R t 0)
  rw [det_self12] at h1
  unfold dm; rw [R_eq h r p, show det (R p a) (R q b) (R p a) (R t 0) = 0 by omega]; rfl
theorem dm_last (p q r t : Pt) : dm p q r t 4 2 1 = 1 := by
  unfold dm R det d3; simp

theorem sg4_cases (p q r t : Pt) : sg4 p q r t = 1 ∨ sg4 p q r t = -1 := by
  have hs : ∀ l : List Int, (∀ x ∈ l, x = 0 ∨ x = 1 ∨ x = -1) → (∃ x ∈ l, x ≠ 0) → fz l = 1 ∨ fz l = -1 := by
    intro l
    induction l with
    | nil => intro _ h; obtain ⟨x, hx, _⟩ := h; simp at hx
    | cons y r ih =>
      intro h1 h2
      have hy := h1 y (by simp)
      simp only [fz]
      by_cases h0 : y = 0
      · rw [if_pos h0]
        refine ih (fun x hx => h1 x (by simp [hx])) ?_
        obtain ⟨x, hx, hne⟩ := h2
        rcases List.mem_cons.1 hx with rfl | hx
        · exact absurd h0 hne
        · exact ⟨x, hx, hne⟩
      · rw [if_neg h0]; omega
  have hd : ∀ a b c, dm p q r t a b c = 0 ∨ dm p q r t a b c = 1 ∨ dm p q r t a b c = -1 := by
    intro a b c
    have := sign_cases (det (R p a) (R q b) (R r c) (R t 0))
    unfold dm
    omega
  refine hs _ ?_ ⟨dm p q r t 4 2 1, by simp, by rw [dm_last]; decide⟩
  intro x hx
  simp only [List.mem_cons, List.not_mem_nil, or_false] at hx
  rcases hx with h | h | h | h | h | h | h | h | h | h | h | h | h | h | h | h | h | h <;> (rw [h]; exact hd _ _ _)

/-- The sixteen, and then those with the third row changed, tell what 'sg4' tells. -/
theorem fz_sg4 (p q r t : Pt) (s00 s01 s02 s04 s10 s11 s12 s14 z2 z4 x1 x2 x4 : Int)
    (h00 : s00 = fz [dm p q r t 0 0 0, dm p q r t 1 0 0, dm p q r t 2 0 0, dm p q r t 4 0 0])
    (h01 : s01 = fz [dm p q r t 0 1 0, dm p q r t 1 1 0, dm p q r t 2 1 0, dm p q r t 4 1 0])
    (h02 : s02 = fz [dm p q r t 0 2 0, dm p q r t 1 2 0, dm p q r t 2 2 0, dm p q r t 4 2 0])
    (h04 : s04 = fz [dm p q r t 0 4 0, dm p q r t 1 4 0, dm p q r t 2 4 0, dm p q r t 4 4 0])
    (h10 : s10 = fz [dm p q r t 0 0 1, dm p q r t 1 0 1, dm p q r t 2 0 1, dm p q r t 4 0 1])
    (h11 : s11 = fz [dm p q r t 0 1 1, dm p q r t 1 1 1, dm p q r t 2 1 1, dm p q r t 4 1 1])
    (h12 : s12 = fz [dm p q r t 0 2 1, dm p q r t 1 2 1, dm p q r t 2 2 1, dm p q r t 4 2 1]) :
    fz [fz [fz [s00, s01, s02, s04], fz [s10, s11, s12, s14], z2, z4], x1, x2, x4] = sg4 p q r t := by
  have t1 : (1 : Nat) = 1 ∨ (1 : Nat) = 2 ∨ (1 : Nat) = 4 := by omega
  have t2 : (2 : Nat) = 1 ∨ (2 : Nat) = 2 ∨ (2 : Nat) = 4 := by omega
  have t4 : (4 : Nat) = 1 ∨ (4 : Nat) = 2 ∨ (4 : Nat) = 4 := by omega
  rw [dm_self12 _ _ _ _ _ t1] at h01
  rw [dm_self12 _ _ _ _ _ t2] at h02
  rw [dm_self12 _ _ _ _ _ t4] at h04
  rw [dm_self13 _ _ _ _ _ t1] at h10
  rw [dm_self12 _ _ _ _ _ t1, dm_self23 _ _ _ _ _ t1, dm_self23 _ _ _ _ _ t1, dm_self23 _ _ _ _ _ t1] at h11
  rw [dm_self13 _ _ _ _ _ t1, dm_self12 _ _ _ _ _ t2, dm_last] at h12
  have e11 : s11 = 0 := by rw [h11]; rfl
  have e12 : fz [s12] ≠ 0 := by
    rw [h12]
    simp only [fz, reduceIte]
    by_cases h : dm p q r t 0 2 1 = 0 <;> simp [h]
  have hne : fz [s10, s11, s12, s14] = fz [s10, s12] := by
    rw [e11]
    simp only [fz, reduceIte] at e12 ⊢
    by_cases h : s12 = 0
    · rw [h] at e12; simp at e12
    · simp [h]
  have hz : fz [s10, s12] ≠ 0 := by
    simp only [fz] at e12 ⊢
    by_cases h : s12 = 0
    · rw [h] at e12; simp at e12
    · by_cases h' : s10 = 0 <;> simp [h, h']
  have hin : fz [fz [s00, s01, s02, s04], fz [s10, s11, s12, s14], z2, z4] = fz [fz [s00, s01, s02, s04], fz [s10, s12]] := by
    rw [hne]
    generalize fz [s10, s12] = y at hz
    generalize fz [s00, s01, s02, s04] = x
    simp only [fz]
    by_cases h : x = 0 <;> simp [h, hz]
  have hin0 : fz [fz [s00, s01, s02, s04], fz [s10, s12]] ≠ 0 := by
    generalize fz [s10, s12] = y at hz
    generalize fz [s00, s01, s02, s04] = x
    simp only [fz]
    by_cases h : x = 0 <;> simp [h, hz]
  rw [hin]
  have hout : fz [fz [fz [s00, s01, s02, s04], fz [s10, s12]], x1, x2, x4] = fz [fz [s00, s01, s02, s04], fz [s10, s12]] := by
    generalize fz [fz [s00, s01, s02, s04], fz [s10, s12]] = y at hin0
    simp [fz, hin0]
  rw [hout]
  have flat : ∀ a b c d e f : List Int, fz [fz [fz a, fz b, fz c, fz d], fz [fz e, fz f]] = fz (a ++ b ++ c ++ d ++ e ++ f) := by
    intro a b c d e f
    simp only [fz_append]
    generalize fz a = a
    generalize fz b = b
    generalize fz c = c
    generalize fz d = d
    generalize fz e = e
    generalize fz f = f
    simp only [fz]
    by_cases ha : a = 0 <;> by_cases hb : b = 0 <;> by_cases hc : c = 0 <;> by_cases hd : d = 0 <;> by_cases he : e = 0 <;> by_cases hf : f = 0 <;> simp [ha, hb, hc, hd, he, hf]
  rw [h00, h01, h02, h04, h10, h12, flat]
  unfold sg4
  rw [dm_last]
  simp only [List.cons_append, List.nil_append, fz, reduceIte]

theorem eight_lt {i j : Nat} (h : i < j) : 8 * 8 ^ i ≤ 8 ^ j := by
  have : 8 * 8 ^ i = 8 ^ (i + 1) := by rw [Nat.pow_succ, Nat.mul_comm]
  rw [this]
  exact Nat.pow_le_pow_right (by omega) h

def mvd (B : Int) (K : Nat) (l : Nat → Pt) (i : Nat) : V4 := mv (B ^ K) (B ^ (K - 8 ^ i)) (B ^ (K - 2 * 8 ^ i)) (B ^ (K - 4 * 8 ^ i)) (l i)

/-- A moved point's sign is the perturbed one. -/
theorem sign_mvd {B M : Int} (hM : 1 ≤ M) (hB : 384 * (24 * (M * (M * (M * M)))) ≤ B) {l : Nat → Pt} {K n : Nat} (hK : 8 ^ n ≤ K)
    (hl : ∀ i, i < n → bnd M (l i).x ∧ bnd M (l i).y ∧ bnd M (l i).z) {i0 i1 i2 i3 : Nat} (h01 : i0 < i1) (h12 : i1 < i2) (h23 : i2 < i3) (h3 : i3 < n) :
    (det (mvd B K l i0) (mvd B K l i1) (mvd B K l i2) (mvd B K l i3)).sign = sg4 (l i0) (l i1) (l i2) (l i3) := by
  have hM4 : 1 ≤ M * (M * (M * M)) := by
    have a1 := Int.mul_le_mul hM hM (by omega) (by omega)
    have a2 := Int.mul_le_mul hM a1 (by omega) (by omega)
    have a3 := Int.mul_le_mul hM a2 (by omega) (by omega)
    omega
  generalize hC : 24 * (M * (M * (M * M))) = C at hB
  have hC1 : 24 ≤ C := by omega
  have g01 := eight_lt h01
  have g12 := eight_lt h12
  have g23 := eight_lt h23
  have g3 := eight_lt h3
  have p0 : 1 ≤ 8 ^ i0 := Nat.pow_pos (by omega)
  generalize he0 : 8 ^ i0 = e0 at *
  generalize he1 : 8 ^ i1 = e1 at *
  generalize he2 : 8 ^ i2 = e2 at *
  generalize he3 : 8 ^ i3 = e3 at *
  have m0 : mvd B K l i0 = mv (B ^ K) (B ^ (K - e0)) (B ^ (K - 2 * e0)) (B ^ (K - 4 * e0)) (l i0) := by rw [mvd, he0]
  have m1 : mvd B K l i1 = mv (B ^ K) (B ^ (K - e1)) (B ^ (K - 2 * e1)) (B ^ (K - 4 * e1)) (l i1) := by rw [mvd, he1]
  have m2 : mvd B K l i2 = mv (B ^ K) (B ^ (K - e2)) (B ^ (K - 2 * e2)) (B ^ (K - 4 * e2)) (l i2) := by rw [mvd, he2]
  have m3 : mvd B K l i3 = mv (B ^ K) (B ^ (K - e3)) (B ^ (K - 2 * e3)) (B ^ (K - 4 * e3)) (l i3) := by rw [mvd, he3]
  -- level 0
  have L0 : ∀ a b c d, Lev B C 0 0 (det (R (l i0) a) (R (l i1) b) (R (l i2) c) (R (l i3) d)) := by
    intro a b c d
    have hb := det_bnd (show 0 ≤ M by omega) (R_bnd hM (hl i0 (by omega)) a) (R_bnd hM (hl i1 (by omega)) b) (R_bnd hM (hl i2 (by omega)) c) (R_bnd hM (hl i3 (by omega)) d)
    rw [hC] at hb
    refine ⟨⟨?_, ?_⟩, fun hne => ?_⟩
    · have := hb.1; simpa using this
    · have := hb.2; simpa using this
    · simp only [Int.pow_zero]; omega
  -- level 1
  have S1 : ∀ q r t : V4, (∀ a, Lev B C 0 0 (det (R (l i0) a) q r t)) →
      (det (mvd B K l i0) q r t).sign = fz [(det (R (l i0) 0) q r t).sign, (det (R (l i0) 1) q r t).sign, (det (R (l i0) 2) q r t).sign, (det (R (l i0) 4) q r t).sign] ∧
        Lev B (4 * C) (0 + K) (0 + (K - 4 * e0) - 1) (det (mvd B K l i0) q r t) := by
    intro q r t h
    rw [m0, det_lin1]
    exact lev_step (by omega) (by omega) (by omega) (by omega) (by omega) (by omega) (h 0) (h 1) (h 2) (h 4)
  have S2 : ∀ r t : V4, (∀ a, Lev B (4 * C) (0 + K) (0 + (K - 4 * e0) - 1) (det (mvd B K l i0) (R (l i1) a) r t)) →
      (det (mvd B K l i0) (mvd B K l i1) r t).sign = fz [(det (mvd B K l i0) (R (l i1) 0) r t).sign, (det (mvd B K l i0) (R (l i1) 1) r t).sign, (det (mvd B K l i0) (R (l i1) 2) r t).sign, (det (mvd B K l i0) (R (l i1) 4) r t).sign] ∧
        Lev B (4 * (4 * C)) (0 + K + K) (0 + (K - 4 * e0) - 1 + (K - 4 * e1) - 1) (det (mvd B K l i0) (mvd B K l i1) r t) := by
    intro r t h
    rw [m1, det_lin2]
    exact lev_step (by omega) (by omega) (by omega) (by omega) (by omega) (by omega) (h 0) (h 1) (h 2) (h 4)
  have S3 : ∀ t : V4, (∀ a, Lev B (4 * (4 * C)) (0 + K + K) (0 + (K - 4 * e0) - 1 + (K - 4 * e1) - 1) (det (mvd B K l i0) (mvd B K l i1) (R (l i2) a) t)) →
      (det (mvd B K l i0) (mvd B K l i1) (mvd B K l i2) t).sign = fz [(det (mvd B K l i0) (mvd B K l i1) (R (l i2) 0) t).sign, (det (mvd B K l i0) (mvd B K l i1) (R (l i2) 1) t).sign, (det (mvd B K l i0) (mvd B K l i1) (R (l i2) 2) t).sign, (det (mvd B K l i0) (mvd B K l i1) (R (l i2) 4) t).sign] ∧
        Lev B (4 * (4 * (4 * C))) (0 + K + K + K) (0 + (K - 4 * e0) - 1 + (K - 4 * e1) - 1 + (K - 4 * e2) - 1) (det (mvd B K l i0) (mvd B K l i1) (mvd B K l i2) t) := by
    intro t h
    rw [m2, det_lin3]
    exact lev_step (by omega) (by omega) (by omega) (by omega) (by omega) (by omega) (h 0) (h 1) (h 2) (h 4)
  have A1 : ∀ b c d, _ := fun b c d => S1 (R (l i1) b) (R (l i2) c) (R (l i3) d) (fun a => L0 a b c d)
  have A2 : ∀ c d, _ := fun c d => S2 (R (l i2) c) (R (l i3) d) (fun b => (A1 b c d).2)
  have A3 : ∀ d, _ := fun d => S3 (R (l i3) d) (fun c => (A2 c d).2)
  have A4 : (det (mvd B K l i0) (mvd B K l i1) (mvd B K l i2) (mvd B K l i3)).sign = fz [(det (mvd B K l i0) (mvd B K l i1) (mvd B K l i2) (R (l i3) 0)).sign, (det (mvd B K l i0) (mvd B K l i1) (mvd B K l i2) (R (l i3) 1)).sign, (det (mvd B K l i0) (mvd B K l i1) (mvd B K l i2) (R (l i3) 2)).sign, (det (mvd B K l i0) (mvd B K l i1) (mvd B K l i2) (R (l i3) 4)).sign] := by
    rw [m3, det_lin4]
    exact (lev_step (by omega) (by omega) (by omega) (by omega) (by omega) (by omega) (A3 0).2 (A3 1).2 (A3 2).2 (A3 4).2).1
  rw [A4, (A3 0).1, (A2 0 0).1, (A2 1 0).1]
  exact fz_sg4 (l i0) (l i1) (l i2) (l i3) _ _ _ _ _ _ _ _ _ _ _ _ _ (A1 0 0 0).1 (A1 1 0 0).1 (A1 2 0 0).1 (A1 4 0 0).1 (A1 0 1 0).1 (A1 1 1 0).1 (A1 2 1 0).1

end Geo
