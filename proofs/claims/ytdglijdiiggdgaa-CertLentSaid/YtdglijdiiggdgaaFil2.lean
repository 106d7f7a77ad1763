/- Where the filter is sure it is right: the error of its floats, reckoned. -/
import Derived.Test.YtdglijdiiggdgaaFil
namespace Go.Proofs.Ytdglijdiiggdgaa
open Go.RowKit

theorem near_big {x y : Int} (h : Near x y) : y.natAbs ≤ 2 * x.natAbs := by unfold Near at h; omega

theorem stage1 {A B u v d : Int} (hu : Near A u) (hv : Near B v) (hd : Near (u - v) d) :
    9007199254740992 * (d - (A - B)).natAbs ≤ 3 * (A.natAbs + B.natAbs) := by
  unfold Near at *
  simp only [show (2 : Int) ^ 53 = 9007199254740992 by decide] at *
  omega

theorem stage2 {p d D m : Int} {T : Nat} (h : 9007199254740992 * (d - D).natAbs ≤ 3 * T) (hD : D.natAbs ≤ T) (hm : Near (p * d) m) :
    9007199254740992 * (m - p * D).natAbs ≤ 5 * (p.natAbs * T) ∧ m.natAbs ≤ 2 * (p.natAbs * T) := by
  have hd2 : d.natAbs ≤ 2 * T := by omega
  have e1 : (p * d).natAbs = p.natAbs * d.natAbs := Int.natAbs_mul _ _
  have e2 : (p * (d - D)).natAbs = p.natAbs * (d - D).natAbs := Int.natAbs_mul _ _
  have e3 : p * (d - D) = p * d - p * D := Int.mul_sub _ _ _
  have e4 : (p * D).natAbs = p.natAbs * D.natAbs := Int.natAbs_mul _ _
  have b1 := Nat.mul_le_mul_left p.natAbs hd2
  have b2 := Nat.mul_le_mul_left p.natAbs h
  have b3 := Nat.mul_le_mul_left p.natAbs hD
  have c2 : p.natAbs * (9007199254740992 * (d - D).natAbs) = 9007199254740992 * (p.natAbs * (d - D).natAbs) := Nat.mul_left_comm _ _ _
  have c1 : p.natAbs * (2 * T) = 2 * (p.natAbs * T) := Nat.mul_left_comm _ _ _
  have c3 : p.natAbs * (3 * T) = 3 * (p.natAbs * T) := Nat.mul_left_comm _ _ _
  rw [c2, c3, ← e2, e3] at b2
  rw [← e1, c1] at b1
  rw [← e4] at b3
  unfold Near at hm
  simp only [show (2 : Int) ^ 53 = 9007199254740992 by decide] at hm
  generalize p.natAbs * T = F at *
  generalize p * d = x at *
  generalize p * D = y at *
  omega

theorem stage3 {A B u v a : Int} (hu : Near A u) (hv : Near B v) (ha : Near (u.natAbs + v.natAbs) a) :
    (9007199254740992 : Int) * (A.natAbs + B.natAbs) ≤ 9007199254740992 * a + 2 * (A.natAbs + B.natAbs) ∧ 0 ≤ a := by
  unfold Near at *
  simp only [show (2 : Int) ^ 53 = 9007199254740992 by decide] at *
  omega

theorem stage4 {p a f : Int} {T : Nat} (h : (9007199254740992 : Int) * T ≤ 9007199254740992 * a + 2 * T) (ha0 : 0 ≤ a) (hf : Near (p.natAbs * a) f) :
    (9007199254740992 : Int) * (p.natAbs * T : Nat) ≤ 9007199254740992 * f + 3 * (p.natAbs * T : Nat) ∧ 0 ≤ f := by
  have b1 := Int.mul_le_mul_of_nonneg_left h (show (0 : Int) ≤ p.natAbs by omega)
  have hpa : 0 ≤ (p.natAbs : Int) * a := Int.mul_nonneg (by omega) ha0
  rw [Int.mul_add, Int.mul_left_comm, Int.mul_left_comm (p.natAbs : Int) 9007199254740992, Int.mul_left_comm (p.natAbs : Int) 2] at b1
  have e : ((p.natAbs * T : Nat) : Int) = (p.natAbs : Int) * T := Int.natCast_mul _ _
  rw [← e] at b1
  unfold Near at hf
  simp only [show (2 : Int) ^ 53 = 9007199254740992 by decide] at hf
  generalize (p.natAbs : Int) * a = x at *
  generalize p.natAbs * T = F at *
  omega

theorem near_N {x y : Int} (h : Near x y) : 9007199254740992 * (y - x).natAbs ≤ x.natAbs := by
  unfold Near at h
  simp only [show (2 : Int) ^ 53 = 9007199254740992 by decide] at h
  omega
theorem addN {x y z u v : Int} {a b F G : Nat} (h1 : 9007199254740992 * (x - u).natAbs ≤ a * F) (h2 : 9007199254740992 * (y - v).natAbs ≤ b * G) (hz : Near (x + y) z) (k1 : x.natAbs ≤ 4 * F) (k2 : y.natAbs ≤ 4 * G) :
    9007199254740992 * (z - (u + v)).natAbs ≤ (a * F + 4 * F) + (b * G + 4 * G) := by
  have h3 := near_N hz
  generalize a * F = A at *
  generalize b * G = B at *
  have t1 : (z - (u + v)).natAbs ≤ (z - (x + y)).natAbs + ((x - u).natAbs + (y - v).natAbs) := by omega
  have t2 : (x + y).natAbs ≤ 4 * F + 4 * G := by omega
  omega
theorem big2 {x y z : Int} {F G : Nat} (hz : Near (x + y) z) (k1 : x.natAbs ≤ 2 * F) (k2 : y.natAbs ≤ 2 * G) : z.natAbs ≤ 4 * (F + G) := by
  have := near_big hz
  omega
theorem lowN {f g h : Int} {a b F G : Nat} (l1 : (9007199254740992 : Int) * F ≤ 9007199254740992 * f + (a * F : Nat)) (l2 : (9007199254740992 : Int) * G ≤ 9007199254740992 * g + (b * G : Nat)) (p1 : 0 ≤ f) (p2 : 0 ≤ g)
    (hh : Near (f + g) h) : (9007199254740992 : Int) * (F + G : Nat) ≤ 9007199254740992 * h + ((a * F + F) + (b * G + G) : Nat) ∧ 0 ≤ h := by
  have h3 := near_N hh
  generalize a * F = A at *
  generalize b * G = B at *
  have e : ((f + g).natAbs : Int) = f + g := by omega
  have t : 9007199254740992 * (f + g - h) ≤ f + g := by omega
  constructor
  · rcases Int.lt_or_le (f + g) (F + G) with hlt | hle <;> omega
  · omega

theorem stage5 {d1 d2 d3 m1 m2 m3 s1 s2 f1 f2 f3 g1 g2 g3 : Int} {F1 F2 F3 : Nat}
    (h1 : 9007199254740992 * (m1 - d1).natAbs ≤ 5 * F1) (h2 : 9007199254740992 * (m2 - d2).natAbs ≤ 5 * F2) (h3 : 9007199254740992 * (m3 - d3).natAbs ≤ 5 * F3)
    (k1 : m1.natAbs ≤ 2 * F1) (k2 : m2.natAbs ≤ 2 * F2) (k3 : m3.natAbs ≤ 2 * F3)
    (hs1 : Near (m1 + m2) s1) (hs2 : Near (s1 + m3) s2)
    (l1 : (9007199254740992 : Int) * F1 ≤ 9007199254740992 * f1 + 3 * F1) (l2 : (9007199254740992 : Int) * F2 ≤ 9007199254740992 * f2 + 3 * F2) (l3 : (9007199254740992 : Int) * F3 ≤ 9007199254740992 * f3 + 3 * F3)
    (p1 : 0 ≤ f1) (p2 : 0 ≤ f2) (p3 : 0 ≤ f3) (hg1 : Near (f1 + f2) g1) (hg2 : Near (g1 + f3) g2) (hg3 : Near (g2 * 1) g3) :
    (g3 < s2 * 281474976710656 → 0 < d1 + d2 + d3) ∧ (s2 * 281474976710656 < -g3 → d1 + d2 + d3 < 0) := by
  have q1 := addN (a := 5) (b := 5) h1 h2 hs1 (by omega) (by omega)
  have q1b := big2 hs1 k1 k2
  have q2 := addN (F := F1 + F2) (G := F3) (a := 9) (b := 5) (u := d1 + d2) (v := d3) (by omega) h3 hs2 q1b (by omega)
  have r1 := lowN (a := 3) (b := 3) (by simpa using l1) (by simpa using l2) p1 p2 hg1
  have r2 := lowN (F := F1 + F2) (G := F3) (a := 4) (b := 3) (by have := r1.1; omega) (by simpa using l3) r1.2 p3 hg2
  have r3 := near_N hg3
  clear h1 h2 h3 k1 k2 k3 hs1 hs2 l1 l2 l3 hg1 hg2 hg3 q1 q1b r1 p1 p2 p3
  rw [Int.mul_one] at r3
  obtain ⟨r2, r2p⟩ := r2
  have e : (g2.natAbs : Int) = g2 := by omega
  have w1 : (9007199254740992 : Int) * (F1 + F2 + F3 : Nat) ≤ 9007199254740992 * g3 + 6 * (F1 + F2 + F3 : Nat) := by
    rcases Int.lt_or_le g2 (F1 + F2 + F3) with hlt | hle <;> omega
  have w2 : 9007199254740992 * (s2 - (d1 + d2 + d3)).natAbs ≤ 13 * (F1 + F2 + F3) := by omega
  clear q2 r2 r2p r3 e
  generalize F1 + F2 + F3 = F at *
  generalize d1 + d2 + d3 = d at *
  constructor <;> intro h <;> omega

theorem const_rep : Rep 4391009636686233600 1 48 := by
  have h : (4391009636686233600 : Nat) = Ieee.double.word false 4391009636686233600 := rfl
  unfold Rep
  rw [h, read_word false _ (by decide), if_neg (by decide)]
  exact ⟨_, _, _, rfl, by decide⟩

theorem rep_lt {n : Nat} (d : Ieee.Datum) (h : n = Ieee.double.write d) : n < 18446744073709551616 := by
  rw [h]; exact Ieee.double.write_lt d

theorem lt200 {x : Int} {k : Nat} (h : x.natAbs ≤ 2 ^ k) (hk : k ≤ 150) : x.natAbs < 2 ^ 200 := Nat.lt_of_le_of_lt h (Nat.pow_lt_pow_right (by decide) (by omega))
theorem mul0 {a b : Nat} {x y : Int} {n : Nat} (ha : Rep a x 0) (hb : Rep b y 0) (h : (x * y).natAbs ≤ 2 ^ n) (hn : n ≤ 149) :
    ∃ r z, floatBits .mul .f64 a b = some r ∧ Rep r z 0 ∧ Near (x * y) z ∧ z.natAbs ≤ 2 ^ (n + 1) ∧ r < 18446744073709551616 := by
  obtain ⟨r, z, h1, h2, h3⟩ := mul_rep ha hb (by decide) (by decide) (lt200 h (by omega))
  exact ⟨r, z, h1, h2, h3, by have := near_big h3; rw [Nat.pow_succ]; omega, Ieee.double.mul_lt h1⟩
theorem add0 {a b : Nat} {x y : Int} {n : Nat} (ha : Rep a x 0) (hb : Rep b y 0) (h1 : x.natAbs ≤ 2 ^ n) (h2 : y.natAbs ≤ 2 ^ n) (hn : n ≤ 148) :
    ∃ r z, floatBits .add .f64 a b = some r ∧ Rep r z 0 ∧ Near (x + y) z ∧ z.natAbs ≤ 2 ^ (n + 2) ∧ r < 18446744073709551616 := by
  have h : (x + y).natAbs ≤ 2 ^ (n + 1) := by rw [Nat.pow_succ]; omega
  obtain ⟨r, z, h3, h4, h5⟩ := add_rep ha hb (by decide) (by decide) (lt200 h (by omega))
  exact ⟨r, z, h3, h4, h5, by have := near_big h5; rw [show n + 2 = n + 1 + 1 by omega, Nat.pow_succ]; omega, Ieee.double.add_lt h3⟩
theorem sub0 {a b : Nat} {x y : Int} {n : Nat} (ha : Rep a x 0) (hb : Rep b y 0) (h1 : x.natAbs ≤ 2 ^ n) (h2 : y.natAbs ≤ 2 ^ n) (hn : n ≤ 148) :
    ∃ r z, floatBits .sub .f64 a b = some r ∧ Rep r z 0 ∧ Near (x - y) z ∧ z.natAbs ≤ 2 ^ (n + 2) ∧ r < 18446744073709551616 := by
  have h : (x - y).natAbs ≤ 2 ^ (n + 1) := by rw [Nat.pow_succ]; omega
  obtain ⟨r, z, h3, h4, h5⟩ := sub_rep ha hb (by decide) (by decide) (lt200 h (by omega))
  exact ⟨r, z, h3, h4, h5, by have := near_big h5; rw [show n + 2 = n + 1 + 1 by omega, Nat.pow_succ]; omega, Ieee.double.sub_lt h3⟩
theorem nab {n : Int} {k : Nat} (h : n.natAbs ≤ 2 ^ k) : ((n.natAbs : Int)).natAbs ≤ 2 ^ k := by rwa [Int.natAbs_natCast]
/-- One part: p * (a * b - c * d). -/
theorem part {bp ba bb bc bd : Nat} {p a b c d : Int} (hp : p.natAbs ≤ 2 ^ 31) (ha : a.natAbs ≤ 2 ^ 31) (hb : b.natAbs ≤ 2 ^ 31) (hc : c.natAbs ≤ 2 ^ 31) (hd : d.natAbs ≤ 2 ^ 31)
    (rp : Rep bp p 0) (ra : Rep ba a 0) (rb : Rep bb b 0) (rc : Rep bc c 0) (rd : Rep bd d 0) :
    ∃ (u v e m s f : Nat) (M F : Int) (T : Nat), floatBits .mul .f64 ba bb = some u ∧ floatBits .mul .f64 bc bd = some v ∧ floatBits .sub .f64 u v = some e ∧ floatBits .mul .f64 bp e = some m ∧
      floatBits .add .f64 (u % 2 ^ 63) (v % 2 ^ 63) = some s ∧ floatBits .mul .f64 (bp % 2 ^ 63) s = some f ∧ u < 18446744073709551616 ∧ v < 18446744073709551616 ∧
      Rep m M 0 ∧ Rep f F 0 ∧ M.natAbs ≤ 2 ^ 97 ∧ F.natAbs ≤ 2 ^ 97 ∧ 9007199254740992 * (M - p * (a * b - c * d)).natAbs ≤ 5 * T ∧ M.natAbs ≤ 2 * T ∧
      (9007199254740992 : Int) * T ≤ 9007199254740992 * F + 3 * T ∧ 0 ≤ F := by
  have prod : ∀ a b : Int, a.natAbs ≤ 2 ^ 31 → b.natAbs ≤ 2 ^ 31 → (a * b).natAbs ≤ 2 ^ 62 := by
    intro a b ha hb
    rw [Int.natAbs_mul]
    have h := Nat.mul_le_mul ha hb
    rw [← Nat.pow_add] at h
    exact h
  have prod2 : ∀ a b : Int, a.natAbs ≤ 2 ^ 31 → b.natAbs ≤ 2 ^ 65 → (a * b).natAbs ≤ 2 ^ 96 := by
    intro a b ha hb
    rw [Int.natAbs_mul]
    have h := Nat.mul_le_mul ha hb
    rw [← Nat.pow_add] at h
    exact h
  obtain ⟨u, U, e1, R1, N1, B1, L1⟩ := mul0 ra rb (prod a b ha hb) (by decide)
  obtain ⟨v, V, e2, R2, N2, B2, L2⟩ := mul0 rc rd (prod c d hc hd) (by decide)
  obtain ⟨e, E, e3, R3, N3, B3, _⟩ := sub0 R1 R2 B1 B2 (by decide)
  obtain ⟨m, M, e4, R4, N4, B4, _⟩ := mul0 rp R3 (prod2 p E hp B3) (by decide)
  obtain ⟨s, S, e5, R5, N5, B5, _⟩ := add0 (abs_rep R1) (abs_rep R2) (nab B1) (nab B2) (by decide)
  obtain ⟨f, F, e6, R6, N6, B6, _⟩ := mul0 (abs_rep rp) R5 (prod2 _ S (nab hp) B5) (by decide)
  have s1 := stage1 N1 N2 N3
  have s2 := stage2 s1 (by omega) N4
  have s3 := stage3 N1 N2 N5
  have s4 := stage4 (T := (a * b).natAbs + (c * d).natAbs) (by have := s3.1; omega) s3.2 N6
  exact ⟨u, v, e, m, s, f, M, F, p.natAbs * ((a * b).natAbs + (c * d).natAbs), e1, e2, e3, e4, e5, e6, L1, L2, R4, R6, B4, B6, s2.1, s2.2, s4.1, s4.2⟩

/-- The filter is sure only of what is so. -/
theorem filter_any (p q r : Int × Int × Int) (hp : p.1.natAbs ≤ 2 ^ 31 ∧ p.2.1.natAbs ≤ 2 ^ 31 ∧ p.2.2.natAbs ≤ 2 ^ 31) (hq : q.1.natAbs ≤ 2 ^ 31 ∧ q.2.1.natAbs ≤ 2 ^ 31 ∧ q.2.2.natAbs ≤ 2 ^ 31)
    (hr : r.1.natAbs ≤ 2 ^ 31 ∧ r.2.1.natAbs ≤ 2 ^ 31 ∧ r.2.2.natAbs ≤ 2 ^ 31) : ∃ f : Int, (f = 0 ∨ f = (det3 p.1 p.2.1 p.2.2 q.1 q.2.1 q.2.2 r.1 r.2.1 r.2.2).sign ∧ f ≠ 0) ∧ ∀ w : World,
      Calls Try.prog 60 #[.agg #[.int .i64 p.1, .int .i64 p.2.1, .int .i64 p.2.2], .agg #[.int .i64 q.1, .int .i64 q.2.1, .int .i64 q.2.2], .agg #[.int .i64 r.1, .int .i64 r.2.1, .int .i64 r.2.2]] w fun e w' =>
        e = .returned (.int .i64 f) ∧ Below w.heap.size w w' := by
  have fr : ∀ n : Int, n.natAbs ≤ 2 ^ 31 → Rep (floatOfInt .f64 n) n 0 := fun n hn => of_int_rep (by omega)
  have fl : ∀ n : Int, floatOfInt .f64 n < 18446744073709551616 := fun n => rep_lt (.number (n < 0) n.natAbs 0) rfl
  obtain ⟨px, py, pz⟩ := p
  obtain ⟨qx, qy, qz⟩ := q
  obtain ⟨rx, ry, rz⟩ := r
  obtain ⟨hpx, hpy, hpz⟩ := hp
  obtain ⟨hqx, hqy, hqz⟩ := hq
  obtain ⟨hrx, hry, hrz⟩ := hr
  dsimp only at *
  obtain ⟨u1, v1, d1, m1, a1, f1, M1, F1, T1, e11, e12, e13, e14, e15, e16, L11, L12, R11, R12, B11, B12, S11, S12, S13, S14⟩ := part hpx hqy hrz hqz hry (fr px hpx) (fr qy hqy) (fr rz hrz) (fr qz hqz) (fr ry hry)
  obtain ⟨u2, v2, d2, m2, a2, f2, M2, F2, T2, e21, e22, e23, e24, e25, e26, L21, L22, R21, R22, B21, B22, S21, S22, S23, S24⟩ := part hpy hqz hrx hqx hrz (fr py hpy) (fr qz hqz) (fr rx hrx) (fr qx hqx) (fr rz hrz)
  obtain ⟨u3, v3, d3, m3, a3, f3, M3, F3, T3, e31, e32, e33, e34, e35, e36, L31, L32, R31, R32, B31, B32, S31, S32, S33, S34⟩ := part hpz hqx hry hqy hrx (fr pz hpz) (fr qx hqx) (fr ry hry) (fr qy hqy) (fr rx hrx)
  obtain ⟨s1, X1, es1, RS1, NS1, BS1, _⟩ := add0 R11 R21 B11 B21 (by decide)
  obtain ⟨s2, X2, es2, RS2, NS2, BS2, _⟩ := add0 RS1 R31 BS1 (Nat.le_trans B31 (by decide)) (by decide)
  obtain ⟨g1, G1, eg1, RG1, NG1, BG1, _⟩ := add0 R12 R22 B12 B22 (by decide)
  obtain ⟨g2, G2, eg2, RG2, NG2, BG2, _⟩ := add0 RG1 R32 BG1 (Nat.le_trans B32 (by decide)) (by decide)
  obtain ⟨g3, G3, eg3, RG3, NG3⟩ := mul_rep RG2 const_rep (by decide) (by decide) (lt200 (k := 101) (by rw [Int.mul_one]; exact BG2) (by decide))
  have fin := stage5 S11 S21 S31 S12 S22 S32 NS1 NS2 S13 S23 S33 S14 S24 S34 NG1 NG2 NG3
  refine ⟨filR s2 g3, ?_, fun w => filter_walk (px, py, pz) (qx, qy, qz) (rx, ry, rz) _ _ _ _ _ _ _ _ _ u1 v1 u2 v2 u3 v3 d1 m1 d2 m2 s1 d3 m3 s2 a1 f1 a2 f2 g1 a3 f3 g2 g3
    rfl rfl rfl rfl rfl rfl rfl rfl rfl e11 e12 e21 e22 e31 e32 e13 e14 e23 e24 es1 e33 e34 es2 e15 e16 e25 e26 eg1 e35 e36 eg2 eg3 (fl px) (fl py) (fl pz) L11 L12 L21 L22 L31 L32 w⟩
  have hdet : det3 px py pz qx qy qz rx ry rz = px * (qy * rz - qz * ry) + py * (qz * rx - qx * rz) + pz * (qx * ry - qy * rx) := rfl
  have o1 := order_rep RS2 RG3 (by decide) (by decide)
  have o2 := order_rep RS2 (neg_rep RG3) (by decide) (by decide)
  have hneg : Op.negFloat .f64 g3 = g3 ^^^ 2 ^ 63 := rfl
  have hfmt : FloatKind.f64.format = Ieee.double := rfl
  unfold filR
  rw [hneg, hfmt, o1, o2, hdet]
  have p48 : (2 : Int) ^ ((0 : Int) + 48).toNat = 281474976710656 := by decide
  have p0 : (2 : Int) ^ (0 : Int).toNat = 1 := by decide
  rw [p48, p0, Int.mul_one, Int.mul_one]
  generalize px * (qy * rz - qz * ry) + py * (qz * rx - qx * rz) + pz * (qx * ry - qy * rx) = D at *
  generalize X2 * 281474976710656 = X at *
  obtain ⟨fin1, fin2⟩ := fin
  by_cases h1 : G3 < X
  · have hc : compare X G3 = .gt := Int.compare_eq_gt.2 h1
    right
    rw [hc, if_pos (by decide), Int.sign_eq_one_of_pos (fin1 h1)]
    exact ⟨rfl, by decide⟩
  · have hc : (some (compare X G3) == some .gt) = false := by
      cases h : compare X G3 with
      | gt => exact absurd (Int.compare_eq_gt.1 h) h1
      | lt => rfl
      | eq => rfl
    rw [hc, if_neg (by decide)]
    by_cases h2 : X < -G3
    · have hc2 : compare X (-G3) = .lt := Int.compare_eq_lt.2 h2
      right
      rw [hc2, if_pos (by decide), Int.sign_eq_neg_one_of_neg (fin2 h2)]
      exact ⟨rfl, by decide⟩
    · have hc2 : (some (compare X (-G3)) == some .lt) = false := by
        cases h : compare X (-G3) with
        | lt => exact absurd (Int.compare_eq_lt.1 h) h2
        | gt => rfl
        | eq => rfl
      rw [hc2, if_neg (by decide)]
      exact .inl rfl
end Go.Proofs.Ytdglijdiiggdgaa
