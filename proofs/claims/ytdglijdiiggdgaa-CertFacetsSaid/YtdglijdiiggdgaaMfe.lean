import Derived.Test.YtdglijdiiggdgaaMfd
import Derived.Laws.Bits64
namespace Go.Proofs.Ytdglijdiiggdgaa
open Go.RowKit Geo
theorem first_same (s s' : Nat → Int) (ok : Nat → Bool) (h : ∀ k, ok k = true → s k = s' k) : ∀ n k, firstOf s ok n k = firstG s' ok n k
  | 0, _ => rfl
  | n + 1, k => by
    unfold firstOf firstG
    by_cases h1 : ok k = true
    · rw [h k h1, first_same s s' ok h n (k + 1)]
    · rw [if_neg (fun h2 => h1 h2.1), if_neg (fun h2 => h1 h2.1), first_same s s' ok h n (k + 1)]
theorem det_det4 (a0 a1 a2 b0 b1 b2 c0 c1 c2 d0 d1 d2 : Int) : det ⟨a0, a1, a2, 1⟩ ⟨b0, b1, b2, 1⟩ ⟨c0, c1, c2, 1⟩ ⟨d0, d1, d2, 1⟩ = det4 a0 a1 a2 b0 b1 b2 c0 c1 c2 d0 d1 d2 := by
  unfold det4 det3 det d3; grind
def ptOf (X Y Z : Nat → Int) (i : Nat) : Pt := ⟨X i, Y i, Z i⟩
theorem sg4_of_det (p q r t : Pt) (h : det4 p.x p.y p.z q.x q.y q.z r.x r.y r.z t.x t.y t.z ≠ 0) : sg4 p q r t = (det4 p.x p.y p.z q.x q.y q.z r.x r.y r.z t.x t.y t.z).sign := by
  have e : dm p q r t 0 0 0 = (det4 p.x p.y p.z q.x q.y q.z r.x r.y r.z t.x t.y t.z).sign := by
    unfold dm
    rw [← det_det4]; rfl
  have e0 : dm p q r t 0 0 0 ≠ 0 := by rw [e]; exact fun h2 => h (Int.sign_eq_zero_iff_zero.1 h2)
  unfold sg4
  rw [fz, if_neg e0, e]
set_option maxHeartbeats 1000000 in
theorem sign_sg4 (X Y Z : Nat → Int) (hco : ∀ s, s < 4 → Co (X s) ∧ Co (Y s) ∧ Co (Z s)) (w : World) :
    Calls Try.prog 52 #[.agg #[.int .i64 (X 0), .int .i64 (Y 0), .int .i64 (Z 0), .int .i64 (X 1), .int .i64 (Y 1), .int .i64 (Z 1), .int .i64 (X 2), .int .i64 (Y 2), .int .i64 (Z 2), .int .i64 (X 3), .int .i64 (Y 3), .int .i64 (Z 3)]] w fun e w' =>
      e = .returned (.int .i64 (sg4 (ptOf X Y Z 0) (ptOf X Y Z 1) (ptOf X Y Z 2) (ptOf X Y Z 3))) ∧ Below w.heap.size w w' := by
  have h := sign_any (X 0) (Y 0) (Z 0) (X 1) (Y 1) (Z 1) (X 2) (Y 2) (Z 2) (X 3) (Y 3) (Z 3) (fun m => if good m 12 = true then smV (ptOf X Y Z 0) (ptOf X Y Z 1) (ptOf X Y Z 2) (ptOf X Y Z 3) m else 0) (fun m => good m 12)
    (hco 0 (by decide)) (hco 1 (by decide)) (hco 2 (by decide)) (hco 3 (by decide)) (Lib.hid (fun m hm _ w => orient_moved X Y Z m hm (good m 12) _ (Lib.hid rfl) (Lib.hid (fun hg => by rw [if_pos hg]; rfl)) (Lib.hid (fun hg => by rw [if_neg (by rw [hg]; decide)])) (Lib.hid hco) w)) w
  have e : (if det4 (X 0) (Y 0) (Z 0) (X 1) (Y 1) (Z 1) (X 2) (Y 2) (Z 2) (X 3) (Y 3) (Z 3) = 0 then firstOf (fun m => if good m 12 = true then smV (ptOf X Y Z 0) (ptOf X Y Z 1) (ptOf X Y Z 2) (ptOf X Y Z 3) m else 0) (fun m => good m 12) 85 0 else (det4 (X 0) (Y 0) (Z 0) (X 1) (Y 1) (Z 1) (X 2) (Y 2) (Z 2) (X 3) (Y 3) (Z 3)).sign) = sg4 (ptOf X Y Z 0) (ptOf X Y Z 1) (ptOf X Y Z 2) (ptOf X Y Z 3) := by
    by_cases h0 : det4 (X 0) (Y 0) (Z 0) (X 1) (Y 1) (Z 1) (X 2) (Y 2) (Z 2) (X 3) (Y 3) (Z 3) = 0
    · rw [if_pos h0, first_same _ (smV (ptOf X Y Z 0) (ptOf X Y Z 1) (ptOf X Y Z 2) (ptOf X Y Z 3)) _ (fun k hk => if_pos hk), first_sg4]
    · rw [if_neg h0]; exact (sg4_of_det (ptOf X Y Z 0) (ptOf X Y Z 1) (ptOf X Y Z 2) (ptOf X Y Z 3) h0).symm
  rw [e] at h
  exact h
end Go.Proofs.Ytdglijdiiggdgaa
namespace Go.Proofs.Ytdglijdiiggdgaa
open Go.RowKit Geo
def pass3 (s : St4) : St4 := swp 2 (swp 1 (swp 0 s))
theorem swp_mod (p q : Nat) (h : p % 3 = q % 3) (s : St4) : swp p s = swp q s := by unfold swp; rw [h]
theorem bub9 (s : St4) : bub 9 0 s = pass3 (pass3 (pass3 s)) := by
  show bub (0 + 1 + 1 + 1 + 1 + 1 + 1 + 1 + 1 + 1) 0 s = _
  simp only [bub, Nat.zero_add]
  unfold pass3
  rw [swp_mod 3 0 rfl, swp_mod 4 1 rfl, swp_mod 5 2 rfl, swp_mod 6 0 rfl, swp_mod 7 1 rfl, swp_mod 8 2 rfl]
theorem bub12 (s : St4) : bub 12 0 s = pass3 (pass3 (pass3 (pass3 s))) := by
  show bub (0 + 1 + 1 + 1 + 1 + 1 + 1 + 1 + 1 + 1 + 1 + 1 + 1) 0 s = _
  simp only [bub, Nat.zero_add]
  unfold pass3
  rw [swp_mod 3 0 rfl, swp_mod 4 1 rfl, swp_mod 5 2 rfl, swp_mod 6 0 rfl, swp_mod 7 1 rfl, swp_mod 8 2 rfl, swp_mod 9 0 rfl, swp_mod 10 1 rfl, swp_mod 11 2 rfl]
theorem sw0 (s : St4) : swp 0 s = if s.b < s.a then ⟨s.b, s.a, s.c, s.d, -s.t⟩ else s := rfl
theorem sw1 (s : St4) : swp 1 s = if s.c < s.b then ⟨s.a, s.c, s.b, s.d, -s.t⟩ else s := rfl
theorem sw2 (s : St4) : swp 2 s = if s.d < s.c then ⟨s.a, s.b, s.d, s.c, -s.t⟩ else s := rfl
theorem pass_a (s : St4) : (pass3 s).a ≤ (pass3 s).d ∧ (pass3 s).b ≤ (pass3 s).d ∧ (pass3 s).c ≤ (pass3 s).d := by
  obtain ⟨a, b, c, d, t⟩ := s
  unfold pass3
  rw [sw0, sw1, sw2]
  (repeat' split) <;> simp_all <;> omega
theorem pass_b (s : St4) (h : s.a ≤ s.d ∧ s.b ≤ s.d ∧ s.c ≤ s.d) : (pass3 s).a ≤ (pass3 s).c ∧ (pass3 s).b ≤ (pass3 s).c ∧ (pass3 s).c ≤ (pass3 s).d := by
  obtain ⟨a, b, c, d, t⟩ := s
  unfold pass3
  rw [sw0, sw1, sw2]
  simp only at h
  (repeat' split) <;> simp_all <;> omega
theorem pass_c (s : St4) (h : s.a ≤ s.c ∧ s.b ≤ s.c ∧ s.c ≤ s.d) : (pass3 s).a ≤ (pass3 s).b ∧ (pass3 s).b ≤ (pass3 s).c ∧ (pass3 s).c ≤ (pass3 s).d := by
  obtain ⟨a, b, c, d, t⟩ := s
  unfold pass3
  rw [sw0, sw1, sw2]
  simp only at h
  (repeat' split) <;> simp_all <;> omega
theorem pass_fix (s : St4) (h : s.a ≤ s.b ∧ s.b ≤ s.c ∧ s.c ≤ s.d) : pass3 s = s := by
  unfold pass3
  have e0 : swp 0 s = s := by rw [sw0, if_neg (by omega)]
  have e1 : swp 1 s = s := by rw [sw1, if_neg (by omega)]
  have e2 : swp 2 s = s := by rw [sw2, if_neg (by omega)]
  rw [e0, e1, e2]
theorem bub_sorted (s : St4) : (bub 9 0 s).a ≤ (bub 9 0 s).b ∧ (bub 9 0 s).b ≤ (bub 9 0 s).c ∧ (bub 9 0 s).c ≤ (bub 9 0 s).d := by
  rw [bub9]
  exact pass_c _ (pass_b _ (pass_a s))
theorem bub_12 (s : St4) : bub 12 0 s = bub 9 0 s := by
  have h := bub_sorted s
  rw [bub12, bub9] at *
  exact pass_fix _ h
/-- The same four places, in another order; the sign of the order. -/
structure Perm4 (s z : St4) : Prop where
  all : ∀ P : Nat → Prop, P s.a → P s.b → P s.c → P s.d → P z.a ∧ P z.b ∧ P z.c ∧ P z.d
  apart : (s.a ≠ s.b ∧ s.a ≠ s.c ∧ s.a ≠ s.d ∧ s.b ≠ s.c ∧ s.b ≠ s.d ∧ s.c ≠ s.d) → z.a ≠ z.b ∧ z.a ≠ z.c ∧ z.a ≠ z.d ∧ z.b ≠ z.c ∧ z.b ≠ z.d ∧ z.c ≠ z.d
  sign : (s.t = 1 ∨ s.t = -1) → (z.t = 1 ∨ z.t = -1)
  back : ∀ P : Nat → Prop, P z.a → P z.b → P z.c → P z.d → P s.a ∧ P s.b ∧ P s.c ∧ P s.d
  deti : ∀ V : Nat → V4, s.t * D V s.a s.b s.c s.d = z.t * D V z.a z.b z.c z.d
theorem perm_swp (p : Nat) (s : St4) : Perm4 s (swp p s) := by
  obtain ⟨a, b, c, d, t⟩ := s
  have h3 : p % 3 = 0 ∨ p % 3 = 1 ∨ p % 3 = 2 := by omega
  rcases h3 with h | h | h
  · rw [swp_mod p 0 h, sw0]
    by_cases hc : b < a
    · rw [if_pos hc]
      exact ⟨fun P h1 h2 h3 h4 => ⟨h2, h1, h3, h4⟩, fun h => by simp only at h ⊢; omega, fun h => by simp only at h ⊢; omega, fun P h1 h2 h3 h4 => ⟨h2, h1, h3, h4⟩, fun V => by simp only; rw [D_swap12 a b c d, Int.neg_mul_neg]⟩
    · rw [if_neg hc]; exact ⟨fun P h1 h2 h3 h4 => ⟨h1, h2, h3, h4⟩, fun h => h, fun h => h, fun P h1 h2 h3 h4 => ⟨h1, h2, h3, h4⟩, fun V => rfl⟩
  · rw [swp_mod p 1 h, sw1]
    by_cases hc : c < b
    · rw [if_pos hc]
      exact ⟨fun P h1 h2 h3 h4 => ⟨h1, h3, h2, h4⟩, fun h => by simp only at h ⊢; omega, fun h => by simp only at h ⊢; omega, fun P h1 h2 h3 h4 => ⟨h1, h3, h2, h4⟩, fun V => by simp only; rw [D_swap23 a b c d, Int.neg_mul_neg]⟩
    · rw [if_neg hc]; exact ⟨fun P h1 h2 h3 h4 => ⟨h1, h2, h3, h4⟩, fun h => h, fun h => h, fun P h1 h2 h3 h4 => ⟨h1, h2, h3, h4⟩, fun V => rfl⟩
  · rw [swp_mod p 2 h, sw2]
    by_cases hc : d < c
    · rw [if_pos hc]
      exact ⟨fun P h1 h2 h3 h4 => ⟨h1, h2, h4, h3⟩, fun h => by simp only at h ⊢; omega, fun h => by simp only at h ⊢; omega, fun P h1 h2 h3 h4 => ⟨h1, h2, h4, h3⟩, fun V => by simp only; rw [D_swap34 a b c d, Int.neg_mul_neg]⟩
    · rw [if_neg hc]; exact ⟨fun P h1 h2 h3 h4 => ⟨h1, h2, h3, h4⟩, fun h => h, fun h => h, fun P h1 h2 h3 h4 => ⟨h1, h2, h3, h4⟩, fun V => rfl⟩
theorem Perm4.trans {s z y : St4} (h : Perm4 s z) (k : Perm4 z y) : Perm4 s y :=
  ⟨fun P h1 h2 h3 h4 => by obtain ⟨a, b, c, d⟩ := h.all P h1 h2 h3 h4; exact k.all P a b c d, fun a => k.apart (h.apart a), fun a => k.sign (h.sign a), fun P h1 h2 h3 h4 => by obtain ⟨a, b, c, d⟩ := k.back P h1 h2 h3 h4; exact h.back P a b c d, fun V => (h.deti V).trans (k.deti V)⟩
theorem perm_bub : ∀ (n p : Nat) (s : St4), Perm4 s (bub n p s)
  | 0, p, s => by rw [bub_end]; exact ⟨fun P h1 h2 h3 h4 => ⟨h1, h2, h3, h4⟩, fun h => h, fun h => h, fun P h1 h2 h3 h4 => ⟨h1, h2, h3, h4⟩, fun V => rfl⟩
  | n + 1, p, s => by unfold bub; exact (perm_swp p s).trans (perm_bub n (p + 1) (swp p s))
/-- The sign of four places of a list. -/
def sgP (X Y Z : Nat → Int) (i j k m : Nat) : Int := (bub 9 0 ⟨i, j, k, m, 1⟩).t * sg4 (ptOf X Y Z (bub 9 0 ⟨i, j, k, m, 1⟩).a) (ptOf X Y Z (bub 9 0 ⟨i, j, k, m, 1⟩).b) (ptOf X Y Z (bub 9 0 ⟨i, j, k, m, 1⟩).c) (ptOf X Y Z (bub 9 0 ⟨i, j, k, m, 1⟩).d)
theorem orient_sign_at (b off n cp : Nat) (X Y Z : Nat → Int) (i j k m : Nat) (hn : n < 4611686018427387904) (hi : i < n) (hj : j < n) (hk : k < n) (hm : m < n) (h1 : i ≠ j) (h2 : i ≠ k) (h3 : i ≠ m) (h4 : j ≠ k) (h5 : j ≠ m) (h6 : k ≠ m)
    (hco : ∀ i, i < n → Co (X i) ∧ Co (Y i) ∧ Co (Z i)) (w : World) (hp : PtsAt w b off n X Y Z) :
    Calls Try.prog 44 #[.slice (some ⟨b, off, none⟩) n cp, .int .i64 i, .int .i64 j, .int .i64 k, .int .i64 m] w fun e w' => e = .returned (.tuple #[.int .i64 (sgP X Y Z i j k m), .int .i64 0]) ∧ Below w.heap.size w w' := by
  obtain ⟨z, hz⟩ : ∃ z, z = bub 9 0 ⟨i, j, k, m, 1⟩ := ⟨_, rfl⟩
  have hp4 := perm_bub 9 0 ⟨i, j, k, m, 1⟩
  rw [← hz] at hp4
  obtain ⟨ha, hb, hc, hd⟩ := hp4.all (· < n) hi hj hk hm
  have ht := hp4.sign (.inl rfl)
  have hs := sg4_cases (ptOf X Y Z z.a) (ptOf X Y Z z.b) (ptOf X Y Z z.c) (ptOf X Y Z z.d)
  have hcx : ∀ s, s < 4 → Co (l4 (X z.a) (X z.b) (X z.c) (X z.d) s) ∧ Co (l4 (Y z.a) (Y z.b) (Y z.c) (Y z.d) s) ∧ Co (l4 (Z z.a) (Z z.b) (Z z.c) (Z z.d) s) := by
    intro s hs
    match s, hs with
    | 0, _ => exact hco _ ha
    | 1, _ => exact hco _ hb
    | 2, _ => exact hco _ hc
    | 3, _ => exact hco _ hd
  have main := sign_good b off n cp X Y Z i j k m z.a z.b z.c z.d z.t (sg4 (ptOf X Y Z z.a) (ptOf X Y Z z.b) (ptOf X Y Z z.c) (ptOf X Y Z z.d)) hn hi hj hk hm h1 h2 h3 h4 h5 h6 hz.symm ht ha hb hc hd (by omega) (by omega) (Lib.hid hco)
    (Lib.hid (fun w => sign_sg4 (l4 (X z.a) (X z.b) (X z.c) (X z.d)) (l4 (Y z.a) (Y z.b) (Y z.c) (Y z.d)) (l4 (Z z.a) (Z z.b) (Z z.c) (Z z.d)) hcx w)) w (Lib.hid hp)
  have e : z.t * sg4 (ptOf X Y Z z.a) (ptOf X Y Z z.b) (ptOf X Y Z z.c) (ptOf X Y Z z.d) = sgP X Y Z i j k m := by unfold sgP; rw [← hz]
  rw [e] at main
  exact main
end Go.Proofs.Ytdglijdiiggdgaa
namespace Go.Proofs.Ytdglijdiiggdgaa
open Go.RowKit
/-- A number of 128 bits as two unsigned words. -/
def w2 (n : Int) : Value := .agg #[.int .u64 (uh n), .int .u64 (lo n)]
theorem ret_u {a b c d : Int} {R : Prop} (h : a = c) (h' : b = d) (hR : R) : Ending.returned (.agg #[.int .u64 a, .int .u64 b]) = Ending.returned (.agg #[.int .u64 c, .int .u64 d]) ∧ R := ⟨by rw [h, h'], hR⟩
set_option maxHeartbeats 400000 in
theorem ref1_of (n : Int) (hn : I64 n) (w : World) : Calls Try.prog 85 #[.int .i64 n] w fun e w' => e = .returned (w2 n) ∧ Below w.heap.size w w' := by
  have e2 := lo_wrap n
  unfold w2
  by_cases h : n < 0
  · have e1 : uh n = 18446744073709551615 := by unfold I64 at hn; unfold uh; omega
    rw [e1]
    go_enter Try.func85, Try.ntmps85
    go_wp2
    go_returns
    exact ⟨rfl, by go_grown⟩
  · have e1 : uh n = 0 := by unfold I64 at hn; unfold uh; omega
    rw [e1]
    go_enter Try.func85, Try.ntmps85
    go_wp2
    go_returns
    exact ⟨rfl, by go_grown⟩
set_option maxHeartbeats 800000 in
theorem ref1_add (a b : Int) (w : World) : Calls Try.prog 67 #[w2 a, w2 b] w fun e w' => e = .returned (w2 (a + b)) ∧ Below w.heap.size w w' := by
  have a0 := lo_0 a; have a1 := lo_1 a; have b0 := lo_0 b; have b1 := lo_1 b
  have el := lo_add a b; have eu := uh_add a b
  unfold w2
  by_cases h : lo a + lo b ≤ 18446744073709551615
  · have e1 : IntKind.u64.wrap (lo a + lo b) = lo a + lo b := by rw [IntKind.wrap_u64]; omega
    have hc : ¬ (lo a + lo b < lo a) := by omega
    go_enter Try.func67, Try.ntmps67
    go_wp2
    go_returns
    exact ret_u (by rw [IntKind.wrap_u64]; omega) (by omega) (by go_grown)
  · have e1 : IntKind.u64.wrap (lo a + lo b) = lo a + lo b - 18446744073709551616 := by rw [IntKind.wrap_u64]; omega
    have hc : lo a + lo b - 18446744073709551616 < lo a := by omega
    go_enter Try.func67, Try.ntmps67
    go_wp2
    go_returns
    exact ret_u (by simp only [IntKind.wrap_u64]; omega) (by omega) (by go_grown)
theorem nat_not (x : Nat) (h : x < 18446744073709551616) : 18446744073709551615 ^^^ x = 18446744073709551615 - x := by
  have h1 : (BitVec.allOnes 64 ^^^ BitVec.ofNat 64 x).toNat = 18446744073709551615 ^^^ x := by
    rw [BitVec.toNat_xor, BitVec.toNat_ofNat, BitVec.toNat_allOnes, Nat.mod_eq_of_lt (by simpa using h)]
  rw [← h1, BitVec.allOnes_xor, BitVec.toNat_not, BitVec.toNat_ofNat, Nat.mod_eq_of_lt (by simpa using h)]
set_option maxRecDepth 100000 in
theorem not_u64 (x : Int) (h0 : 0 ≤ x) (h1 : x ≤ 18446744073709551615) : bits BinOp.xor IntKind.u64 IntKind.u64.max x = 18446744073709551615 - x := by
  have h := bits_xor_u64_nat 18446744073709551615 x.toNat (by omega) (by omega)
  rw [nat_not _ (by omega), Int.toNat_of_nonneg h0] at h
  have e2 : ((18446744073709551615 : Nat) : Int) = IntKind.u64.max := by decide
  rw [e2] at h
  rw [h]
  omega
theorem uh_neg (a : Int) : uh (-a - 1) = 18446744073709551615 - uh a := by unfold uh; omega
theorem lo_neg (a : Int) : lo (-a - 1) = 18446744073709551615 - lo a := by unfold lo; omega
set_option maxRecDepth 100000 in
set_option maxHeartbeats 800000 in
theorem ref1_neg (a : Int) (w : World) : Calls Try.prog 66 #[w2 a] w fun e w' => e = .returned (w2 (-a)) ∧ Below w.heap.size w w' := by
  have h := fun w => ref1_add (-a - 1) 1 w
  have e : -a - 1 + 1 = -a := by omega
  simp only [e] at h
  unfold w2 at h
  rw [uh_neg, lo_neg, show uh 1 = 0 from rfl, show lo 1 = 1 from rfl] at h
  have H := Lib.hid h
  clear h e
  unfold w2
  have xh := not_u64 (uh a) (uh_0 a) (uh_1 a)
  have xl := not_u64 (lo a) (lo_0 a) (lo_1 a)
  go_enter Try.func66, Try.ntmps66
  go_wp2_with fail
  all_goals try simp only [xh, xl]
  all_goals (first | refine wp_named ?_ | refine calls_named ?_)
  all_goals intro W hW
  all_goals have k1 : W.heap[w.heap.size + 1]? = some (.cells #[.int .u64 0, .int .u64 0] 100 (0, 0)) := by rw [hW]; exact heap_at (by simp)
  all_goals have z1 : w.heap.size + 1 < W.heap.size := by rw [hW]; simp
  all_goals have hB : Below w.heap.size w W := by rw [hW]; go_grown
  all_goals clear hW xh xl
  all_goals (refine (H.out _).mono ?_; rintro e W1 ⟨rfl, hX⟩)
  all_goals replace k1 := (hX.block _ z1).trans k1
  all_goals replace z1 := Nat.lt_of_lt_of_le z1 hX.size
  all_goals replace hB := after hB hX
  all_goals obtain ⟨p1, q1⟩ := cellB k1
  all_goals clear k1 hX
  all_goals go_wp2_with fail
  all_goals refine bodyPost_ret (v := .agg #[.int .u64 (uh (-a)), .int .u64 (lo (-a))]) (by simp [results, Try.results66, go_sem, p1]) rfl ⟨rfl, by go_grown⟩
theorem words_eq {x y xl xh yl yh p q r t : Int} (hx : x = xh * 4294967296 + xl) (hy : y = yh * 4294967296 + yl) (hp : p = xl * yl) (hq : q = xh * yl) (hr : r = xl * yh) (ht : t = xh * yh) : x * y = t * 18446744073709551616 + (q + r) * 4294967296 + p := by
  subst hx hy hp hq hr ht
  grind
theorem mul_bnd {x y : Int} (hx : 0 ≤ x) (hx2 : x ≤ 4294967295) (hy : 0 ≤ y) (hy2 : y ≤ 4294967295) : 0 ≤ x * y ∧ x * y ≤ 18446744065119617025 := by
  refine ⟨Int.mul_nonneg hx hy, ?_⟩
  have h1 := Int.mul_le_mul hx2 hy2 hy (by omega)
  omega
set_option maxHeartbeats 1600000 in
theorem ref1_words (x y : Int) (hx : 0 ≤ x) (hx2 : x ≤ 18446744073709551615) (hy : 0 ≤ y) (hy2 : y ≤ 18446744073709551615) (w : World) : Calls Try.prog 89 #[.int .u64 x, .int .u64 y] w fun e w' => e = .returned (w2 (x * y)) ∧ Below w.heap.size w w' := by
  unfold w2
  obtain ⟨p0, p1⟩ := mul_bnd (x := x % 4294967296) (y := y % 4294967296) (by omega) (by omega) (by omega) (by omega)
  obtain ⟨q0, q1⟩ := mul_bnd (x := x / 4294967296) (y := y % 4294967296) (by omega) (by omega) (by omega) (by omega)
  obtain ⟨r0, r1⟩ := mul_bnd (x := x % 4294967296) (y := y / 4294967296) (by omega) (by omega) (by omega) (by omega)
  obtain ⟨t0, t1⟩ := mul_bnd (x := x / 4294967296) (y := y / 4294967296) (by omega) (by omega) (by omega) (by omega)
  have hm := words_eq (x := x) (y := y) (xl := x % 4294967296) (xh := x / 4294967296) (yl := y % 4294967296) (yh := y / 4294967296) (by omega) (by omega) rfl rfl rfl rfl
  have wp : IntKind.u64.wrap (x % 4294967296 * (y % 4294967296)) = x % 4294967296 * (y % 4294967296) := by rw [IntKind.wrap_u64]; omega
  have wq : IntKind.u64.wrap (x / 4294967296 * (y % 4294967296)) = x / 4294967296 * (y % 4294967296) := by rw [IntKind.wrap_u64]; omega
  have wr : IntKind.u64.wrap (x % 4294967296 * (y / 4294967296)) = x % 4294967296 * (y / 4294967296) := by rw [IntKind.wrap_u64]; omega
  have wt : IntKind.u64.wrap (x / 4294967296 * (y / 4294967296)) = x / 4294967296 * (y / 4294967296) := by rw [IntKind.wrap_u64]; omega
  go_enter Try.func89, Try.ntmps89
  go_wp2
  go_returns
  refine ret_u ?_ ?_ (by go_grown)
  · rw [hm]
    clear hm wp wq wr wt
    unfold uh
    generalize x / 4294967296 * (y / 4294967296) = T at *
    generalize x / 4294967296 * (y % 4294967296) = Q at *
    generalize x % 4294967296 * (y / 4294967296) = R at *
    generalize x % 4294967296 * (y % 4294967296) = P at *
    omega
  · rw [hm]
    clear hm wp wq wr wt
    unfold lo
    generalize x / 4294967296 * (y / 4294967296) = T at *
    generalize x / 4294967296 * (y % 4294967296) = Q at *
    generalize x % 4294967296 * (y / 4294967296) = R at *
    generalize x % 4294967296 * (y % 4294967296) = P at *
    omega
theorem lo_mul' (a b : Int) : lo (lo a * lo b) = lo (a * b) := lo_mul a b
set_option maxHeartbeats 1600000 in
theorem ref1_mul (a b : Int) (w : World) : Calls Try.prog 84 #[w2 a, w2 b] w fun e w' => e = .returned (w2 (a * b)) ∧ Below w.heap.size w w' := by
  unfold w2
  have a0 := lo_0 a; have a1 := lo_1 a; have b0 := lo_0 b; have b1 := lo_1 b
  have H := Lib.hid (ref1_words (lo a) (lo b) a0 a1 b0 b1)
  unfold w2 at H
  go_enter Try.func84, Try.ntmps84
  go_wp2_with fail
  first | refine wp_named ?_ | refine calls_named ?_
  intro W hW
  have k0 : W.heap[w.heap.size]? = some (.cells #[.int .u64 (uh a), .int .u64 (lo a)] 100 (0, 0)) := by rw [hW]; exact (heap_old (by simp; omega)).trans ((heap_old (by simp)).trans (heap_at rfl))
  have k1 : W.heap[w.heap.size + 1]? = some (.cells #[.int .u64 (uh b), .int .u64 (lo b)] 100 (0, 0)) := by rw [hW]; exact (heap_old (by simp)).trans (heap_at (by simp))
  have k2 : W.heap[w.heap.size + 1 + 1]? = some (.cells #[.int .u64 0, .int .u64 0] 100 (0, 0)) := by rw [hW]; exact heap_at (by simp)
  have z2 : w.heap.size + 1 + 1 < W.heap.size := by rw [hW]; simp
  have hB : Below w.heap.size w W := by rw [hW]; go_grown
  clear hW
  refine (H.out _).mono ?_; rintro e W1 ⟨rfl, hX⟩
  replace k0 := (hX.block _ (by omega)).trans k0
  replace k1 := (hX.block _ (by omega)).trans k1
  replace k2 := (hX.block _ z2).trans k2
  replace z2 := Nat.lt_of_lt_of_le z2 hX.size
  replace hB := after hB hX
  clear hX
  have z0 : w.heap.size < W1.heap.size := by omega
  have z1 : w.heap.size + 1 < W1.heap.size := by omega
  obtain ⟨p0, q0⟩ := cellB k0
  obtain ⟨p1, q1⟩ := cellB k1
  obtain ⟨p2, q2⟩ := cellB k2
  clear k0 k1 k2
  go_wp2_with fail
  refine bodyPost_ret (v := .agg #[.int .u64 (IntKind.u64.wrap (IntKind.u64.wrap (uh (lo a * lo b) + IntKind.u64.wrap (uh a * lo b)) + IntKind.u64.wrap (lo a * uh b))), .int .u64 (lo (lo a * lo b))]) (by simp [results, Try.results84, go_sem, World.cell?_alloc_past, z2, p2]) rfl ?_
  refine ret_u ?_ (by rw [lo_mul']) (by go_grown)
  rw [← uh_mul a b]
  simp only [IntKind.wrap_u64]
  have hp := Int.mul_nonneg a0 b0
  have hp2 : lo a * lo b ≤ 340282366920938463426481119284349108225 := by
    have h1 := Int.mul_le_mul a1 b1 b0 (by omega)
    omega
  unfold uh
  generalize lo a * lo b = P at *
  generalize a / 18446744073709551616 % 18446744073709551616 * lo b = Q at *
  generalize lo a * (b / 18446744073709551616 % 18446744073709551616) = R at *
  omega
end Go.Proofs.Ytdglijdiiggdgaa
namespace Go.Proofs.Ytdglijdiiggdgaa
open Go.RowKit
set_option maxRecDepth 100000 in
set_option maxHeartbeats 800000 in
theorem ref1_prod (a b : Int) (ha : I64 a) (hb : I64 b) (w : World) : Calls Try.prog 76 #[.int .i64 a, .int .i64 b] w fun e w' => e = .returned (w2 (a * b)) ∧ Below w.heap.size w w' := by
  have HM := Lib.hid (ref1_mul a b)
  have H1 := Lib.hid (ref1_of a ha)
  have H2 := Lib.hid (ref1_of b hb)
  unfold w2 at HM H1 H2
  unfold w2
  go_enter Try.func76, Try.ntmps76
  go_wp2_with fail
  first | refine wp_named ?_ | refine calls_named ?_
  intro W hW
  have k1 : W.heap[w.heap.size]? = some (.cells #[.int .u64 0, .int .u64 0] 100 (0, 0)) := by rw [hW]; exact heap_at rfl
  have z1 : w.heap.size < W.heap.size := by rw [hW]; simp
  have hB : Below w.heap.size w W := by rw [hW]; go_grown
  clear hW
  refine (H1.out _).mono ?_; rintro e W1 ⟨rfl, hX⟩
  replace k1 := (hX.block _ z1).trans k1; replace z1 := Nat.lt_of_lt_of_le z1 hX.size; replace hB := after hB hX; clear hX
  go_wp2_with fail
  refine (H2.out _).mono ?_; rintro e W2 ⟨rfl, hX⟩
  replace k1 := (hX.block _ z1).trans k1; replace z1 := Nat.lt_of_lt_of_le z1 hX.size; replace hB := after hB hX; clear hX
  go_wp2_with fail
  refine (HM.out _).mono ?_; rintro e W3 ⟨rfl, hX⟩
  replace k1 := (hX.block _ z1).trans k1; replace z1 := Nat.lt_of_lt_of_le z1 hX.size; replace hB := after hB hX; clear hX
  obtain ⟨p1, q1⟩ := cellB k1
  clear k1
  go_wp2_with fail
  refine bodyPost_ret (v := .agg #[.int .u64 (uh (a * b)), .int .u64 (lo (a * b))]) (by simp [results, Try.results76, go_sem, p1]) rfl ⟨rfl, by go_grown⟩
set_option maxHeartbeats 800000 in
theorem ref1_sign (n : Int) (h : In128 n) (w : World) : Calls Try.prog 55 #[w2 n] w fun e w' => e = .returned (.int .i64 n.sign) ∧ Below w.heap.size w w' := by
  unfold w2
  have u0 := uh_0 n; have u1 := uh_1 n
  unfold In128 at h
  by_cases h1 : n < 0
  · have e : n.sign = -1 := Int.sign_eq_neg_one_of_neg h1
    have hq : (uh n / 9223372036854775808 == 1) = true := by
      have : uh n / 9223372036854775808 = 1 := by unfold uh; omega
      rw [this]; rfl
    rw [e]
    go_enter Try.func55, Try.ntmps55
    go_wp2
    go_returns
    exact ⟨rfl, by go_grown⟩
  have hq : (uh n / 9223372036854775808 == 1) = false := by
    have : uh n / 9223372036854775808 = 0 := by unfold uh; omega
    rw [this]; rfl
  by_cases h2 : n = 0
  · subst h2
    have e1 : uh 0 = 0 := rfl
    have e2 : lo 0 = 0 := rfl
    rw [e1, e2]
    clear e1 e2 hq u0 u1
    go_enter Try.func55, Try.ntmps55
    go_wp2
    go_returns
    exact ⟨rfl, by go_grown⟩
  have e : n.sign = 1 := Int.sign_eq_one_of_pos (by omega)
  rw [e]
  by_cases h3 : uh n = 0
  · have h4 : ¬ lo n = 0 := by unfold uh at h3; unfold lo; omega
    have h5 : (lo n == 0) = false := by simpa using h4
    rw [h3]
    clear hq
    go_enter Try.func55, Try.ntmps55
    go_wp2
    go_returns
    exact ⟨rfl, by go_grown⟩
  · have h5 : (uh n == 0) = false := by simpa using h3
    go_enter Try.func55, Try.ntmps55
    go_wp2
    go_returns
    exact ⟨rfl, by go_grown⟩
end Go.Proofs.Ytdglijdiiggdgaa
namespace Go.Proofs.Ytdglijdiiggdgaa
open Go.RowKit
set_option maxHeartbeats 400000 in
theorem ref2_row (x y z : Int) (w : World) : Calls Try.prog 53 #[.agg #[.int .i64 x, .int .i64 y, .int .i64 z]] w fun e w' => e = .returned (.agg #[.int .i64 x, .int .i64 y, .int .i64 z, .int .i64 1]) ∧ Below w.heap.size w w' := by
  go_enter Try.func53, Try.ntmps53
  go_wp2
  go_returns
  exact ⟨rfl, by go_grown⟩
theorem co_mul {a b : Int} (ha : Co a) (hb : Co b) : -1152921504606846976 ≤ a * b ∧ a * b ≤ 1152921504606846976 := by
  unfold Co at ha hb
  have h := mulN (x := a) (y := b) (A := 1073741824) (B := 1073741824) (by omega) (by omega)
  omega
theorem co_I64 {a : Int} (ha : Co a) : I64 a := by unfold Co at ha; unfold I64; omega
set_option maxRecDepth 100000 in
set_option maxHeartbeats 2000000 in
theorem ref2_three0 (a0 a1 a2 a3 b0 b1 b2 b3 c0 c1 c2 c3 : Int) (ha0 : Co a0) (ha1 : Co a1) (ha2 : Co a2) (hb0 : Co b0) (hb1 : Co b1) (hb2 : Co b2) (hc0 : Co c0) (hc1 : Co c1) (hc2 : Co c2) (w : World) :
    Calls Try.prog 65 #[.agg #[.int .i64 a0, .int .i64 a1, .int .i64 a2, .int .i64 a3], .agg #[.int .i64 b0, .int .i64 b1, .int .i64 b2, .int .i64 b3], .agg #[.int .i64 c0, .int .i64 c1, .int .i64 c2, .int .i64 c3]] w fun e w' =>
      e = .returned (w2 (a0 * (b1 * c2 - b2 * c1) + a1 * (b2 * c0 - b0 * c2) + a2 * (b0 * c1 - b1 * c0))) ∧ Below w.heap.size w w' := by
  obtain ⟨l0, u0⟩ := co_mul hb1 hc2
  have m0 : IntKind.i64.wrap (b1 * c2) = b1 * c2 := by rw [IntKind.wrap_i64]; omega
  obtain ⟨l1, u1⟩ := co_mul hb2 hc1
  have m1 : IntKind.i64.wrap (b2 * c1) = b2 * c1 := by rw [IntKind.wrap_i64]; omega
  obtain ⟨l2, u2⟩ := co_mul hb2 hc0
  have m2 : IntKind.i64.wrap (b2 * c0) = b2 * c0 := by rw [IntKind.wrap_i64]; omega
  obtain ⟨l3, u3⟩ := co_mul hb0 hc2
  have m3 : IntKind.i64.wrap (b0 * c2) = b0 * c2 := by rw [IntKind.wrap_i64]; omega
  obtain ⟨l4, u4⟩ := co_mul hb0 hc1
  have m4 : IntKind.i64.wrap (b0 * c1) = b0 * c1 := by rw [IntKind.wrap_i64]; omega
  obtain ⟨l5, u5⟩ := co_mul hb1 hc0
  have m5 : IntKind.i64.wrap (b1 * c0) = b1 * c0 := by rw [IntKind.wrap_i64]; omega
  have d0 : IntKind.i64.wrap (b1 * c2 - b2 * c1) = b1 * c2 - b2 * c1 := by rw [IntKind.wrap_i64]; omega
  have i0 : I64 (b1 * c2 - b2 * c1) := by unfold I64; omega
  have P0 := Lib.hid (ref1_prod a0 (b1 * c2 - b2 * c1) (co_I64 ha0) i0)
  have d1 : IntKind.i64.wrap (b2 * c0 - b0 * c2) = b2 * c0 - b0 * c2 := by rw [IntKind.wrap_i64]; omega
  have i1 : I64 (b2 * c0 - b0 * c2) := by unfold I64; omega
  have P1 := Lib.hid (ref1_prod a1 (b2 * c0 - b0 * c2) (co_I64 ha1) i1)
  have d2 : IntKind.i64.wrap (b0 * c1 - b1 * c0) = b0 * c1 - b1 * c0 := by rw [IntKind.wrap_i64]; omega
  have i2 : I64 (b0 * c1 - b1 * c0) := by unfold I64; omega
  have P2 := Lib.hid (ref1_prod a2 (b0 * c1 - b1 * c0) (co_I64 ha2) i2)
  have A1 := Lib.hid (ref1_add (a0 * (b1 * c2 - b2 * c1)) (a1 * (b2 * c0 - b0 * c2)))
  have A2 := Lib.hid (ref1_add (a0 * (b1 * c2 - b2 * c1) + a1 * (b2 * c0 - b0 * c2)) (a2 * (b0 * c1 - b1 * c0)))
  unfold w2 at P0 P1 P2 A1 A2
  unfold w2
  clear i0 i1 i2 ha0 ha1 ha2 hb0 hb1 hb2 hc0 hc1 hc2
  go_enter Try.func65, Try.ntmps65
  go_wp2_with fail
  first | refine wp_named ?_ | refine calls_named ?_
  intro V0 hV
  have k0 : V0.heap[w.heap.size]? = some (.cells #[.int .i64 a0, .int .i64 a1, .int .i64 a2, .int .i64 a3] 92 (0, 0)) := by rw [hV]; repeat (first | exact heap_at (by simp <;> omega) | rw [heap_old (by simp <;> omega)])
  have z0 : w.heap.size < V0.heap.size := by rw [hV]; simp <;> omega
  have k1 : V0.heap[w.heap.size + 1]? = some (.cells #[.int .i64 b0, .int .i64 b1, .int .i64 b2, .int .i64 b3] 92 (0, 0)) := by rw [hV]; repeat (first | exact heap_at (by simp <;> omega) | rw [heap_old (by simp <;> omega)])
  have z1 : w.heap.size + 1 < V0.heap.size := by rw [hV]; simp <;> omega
  have k2 : V0.heap[w.heap.size + 1 + 1]? = some (.cells #[.int .i64 c0, .int .i64 c1, .int .i64 c2, .int .i64 c3] 92 (0, 0)) := by rw [hV]; repeat (first | exact heap_at (by simp <;> omega) | rw [heap_old (by simp <;> omega)])
  have z2 : w.heap.size + 1 + 1 < V0.heap.size := by rw [hV]; simp <;> omega
  have k3 : V0.heap[w.heap.size + 1 + 1 + 1]? = some (.cells #[.int .u64 0, .int .u64 0] 100 (0, 0)) := by rw [hV]; repeat (first | exact heap_at (by simp <;> omega) | rw [heap_old (by simp <;> omega)])
  have z3 : w.heap.size + 1 + 1 + 1 < V0.heap.size := by rw [hV]; simp <;> omega
  have hB : Below w.heap.size w V0 := by rw [hV]; go_grown
  clear hV
  refine (P0.out _).mono ?_; rintro e W0 ⟨rfl, hX⟩
  replace k0 := (hX.block _ z0).trans k0; replace z0 := Nat.lt_of_lt_of_le z0 hX.size
  replace k1 := (hX.block _ z1).trans k1; replace z1 := Nat.lt_of_lt_of_le z1 hX.size
  replace k2 := (hX.block _ z2).trans k2; replace z2 := Nat.lt_of_lt_of_le z2 hX.size
  replace k3 := (hX.block _ z3).trans k3; replace z3 := Nat.lt_of_lt_of_le z3 hX.size
  replace hB := after hB hX; clear hX
  obtain ⟨p0, q0⟩ := cellB k0
  obtain ⟨p1, q1⟩ := cellB k1
  obtain ⟨p2, q2⟩ := cellB k2
  obtain ⟨p3, q3⟩ := cellB k3
  go_wp2_with fail
  first | refine wp_named ?_ | refine calls_named ?_
  intro V1 hV
  replace k0 : V1.heap[w.heap.size]? = some (.cells #[.int .i64 a0, .int .i64 a1, .int .i64 a2, .int .i64 a3] 92 (0, 0)) := by rw [hV]; exact (heap_old z0).trans k0
  replace z0 : w.heap.size < V1.heap.size := by rw [hV]; simp <;> omega
  replace k1 : V1.heap[w.heap.size + 1]? = some (.cells #[.int .i64 b0, .int .i64 b1, .int .i64 b2, .int .i64 b3] 92 (0, 0)) := by rw [hV]; exact (heap_old z1).trans k1
  replace z1 : w.heap.size + 1 < V1.heap.size := by rw [hV]; simp <;> omega
  replace k2 : V1.heap[w.heap.size + 1 + 1]? = some (.cells #[.int .i64 c0, .int .i64 c1, .int .i64 c2, .int .i64 c3] 92 (0, 0)) := by rw [hV]; exact (heap_old z2).trans k2
  replace z2 : w.heap.size + 1 + 1 < V1.heap.size := by rw [hV]; simp <;> omega
  replace k3 : V1.heap[w.heap.size + 1 + 1 + 1]? = some (.cells #[.int .u64 0, .int .u64 0] 100 (0, 0)) := by rw [hV]; exact (heap_old z3).trans k3
  replace z3 : w.heap.size + 1 + 1 + 1 < V1.heap.size := by rw [hV]; simp <;> omega
  have k4 : V1.heap[W0.heap.size]? = some (.cells #[.int .u64 (uh (a0 * (b1 * c2 - b2 * c1))), .int .u64 (lo (a0 * (b1 * c2 - b2 * c1)))] 100 (0, 0)) := by rw [hV]; exact heap_at rfl
  have z4 : W0.heap.size < V1.heap.size := by rw [hV]; simp
  replace hB : Below w.heap.size w V1 := by rw [hV]; have := hB.size; go_grown
  clear hV p0 q0 p1 q1 p2 q2 p3 q3
  refine (P1.out _).mono ?_; rintro e W1 ⟨rfl, hX⟩
  replace k0 := (hX.block _ z0).trans k0; replace z0 := Nat.lt_of_lt_of_le z0 hX.size
  replace k1 := (hX.block _ z1).trans k1; replace z1 := Nat.lt_of_lt_of_le z1 hX.size
  replace k2 := (hX.block _ z2).trans k2; replace z2 := Nat.lt_of_lt_of_le z2 hX.size
  replace k3 := (hX.block _ z3).trans k3; replace z3 := Nat.lt_of_lt_of_le z3 hX.size
  replace k4 := (hX.block _ z4).trans k4; replace z4 := Nat.lt_of_lt_of_le z4 hX.size
  replace hB := after hB hX; clear hX
  obtain ⟨p0, q0⟩ := cellB k0
  obtain ⟨p1, q1⟩ := cellB k1
  obtain ⟨p2, q2⟩ := cellB k2
  obtain ⟨p3, q3⟩ := cellB k3
  obtain ⟨p4, q4⟩ := cellB k4
  go_wp2_with fail
  first | refine wp_named ?_ | refine calls_named ?_
  intro V2 hV
  replace k0 : V2.heap[w.heap.size]? = some (.cells #[.int .i64 a0, .int .i64 a1, .int .i64 a2, .int .i64 a3] 92 (0, 0)) := by rw [hV]; exact (heap_old z0).trans k0
  replace z0 : w.heap.size < V2.heap.size := by rw [hV]; simp <;> omega
  replace k1 : V2.heap[w.heap.size + 1]? = some (.cells #[.int .i64 b0, .int .i64 b1, .int .i64 b2, .int .i64 b3] 92 (0, 0)) := by rw [hV]; exact (heap_old z1).trans k1
  replace z1 : w.heap.size + 1 < V2.heap.size := by rw [hV]; simp <;> omega
  replace k2 : V2.heap[w.heap.size + 1 + 1]? = some (.cells #[.int .i64 c0, .int .i64 c1, .int .i64 c2, .int .i64 c3] 92 (0, 0)) := by rw [hV]; exact (heap_old z2).trans k2
  replace z2 : w.heap.size + 1 + 1 < V2.heap.size := by rw [hV]; simp <;> omega
  replace k3 : V2.heap[w.heap.size + 1 + 1 + 1]? = some (.cells #[.int .u64 0, .int .u64 0] 100 (0, 0)) := by rw [hV]; exact (heap_old z3).trans k3
  replace z3 : w.heap.size + 1 + 1 + 1 < V2.heap.size := by rw [hV]; simp <;> omega
  replace k4 : V2.heap[W0.heap.size]? = some (.cells #[.int .u64 (uh (a0 * (b1 * c2 - b2 * c1))), .int .u64 (lo (a0 * (b1 * c2 - b2 * c1)))] 100 (0, 0)) := by rw [hV]; exact (heap_old z4).trans k4
  replace z4 : W0.heap.size < V2.heap.size := by rw [hV]; simp <;> omega
  have k5 : V2.heap[W1.heap.size]? = some (.cells #[.int .u64 (uh (a1 * (b2 * c0 - b0 * c2))), .int .u64 (lo (a1 * (b2 * c0 - b0 * c2)))] 100 (0, 0)) := by rw [hV]; exact heap_at rfl
  have z5 : W1.heap.size < V2.heap.size := by rw [hV]; simp
  replace hB : Below w.heap.size w V2 := by rw [hV]; have := hB.size; go_grown
  clear hV p0 q0 p1 q1 p2 q2 p3 q3 p4 q4
  refine (P2.out _).mono ?_; rintro e W2 ⟨rfl, hX⟩
  replace k0 := (hX.block _ z0).trans k0; replace z0 := Nat.lt_of_lt_of_le z0 hX.size
  replace k1 := (hX.block _ z1).trans k1; replace z1 := Nat.lt_of_lt_of_le z1 hX.size
  replace k2 := (hX.block _ z2).trans k2; replace z2 := Nat.lt_of_lt_of_le z2 hX.size
  replace k3 := (hX.block _ z3).trans k3; replace z3 := Nat.lt_of_lt_of_le z3 hX.size
  replace k4 := (hX.block _ z4).trans k4; replace z4 := Nat.lt_of_lt_of_le z4 hX.size
  replace k5 := (hX.block _ z5).trans k5; replace z5 := Nat.lt_of_lt_of_le z5 hX.size
  replace hB := after hB hX; clear hX
  obtain ⟨p0, q0⟩ := cellB k0
  obtain ⟨p1, q1⟩ := cellB k1
  obtain ⟨p2, q2⟩ := cellB k2
  obtain ⟨p3, q3⟩ := cellB k3
  obtain ⟨p4, q4⟩ := cellB k4
  obtain ⟨p5, q5⟩ := cellB k5
  go_wp2_with fail
  first | refine wp_named ?_ | refine calls_named ?_
  intro V3 hV
  replace k3 : V3.heap[w.heap.size + 1 + 1 + 1]? = some (.cells #[.int .u64 0, .int .u64 0] 100 (0, 0)) := by rw [hV]; exact (heap_old z3).trans k3
  replace z3 : w.heap.size + 1 + 1 + 1 < V3.heap.size := by rw [hV]; simp <;> omega
  replace k4 : V3.heap[W0.heap.size]? = some (.cells #[.int .u64 (uh (a0 * (b1 * c2 - b2 * c1))), .int .u64 (lo (a0 * (b1 * c2 - b2 * c1)))] 100 (0, 0)) := by rw [hV]; exact (heap_old z4).trans k4
  replace z4 : W0.heap.size < V3.heap.size := by rw [hV]; simp <;> omega
  replace k5 : V3.heap[W1.heap.size]? = some (.cells #[.int .u64 (uh (a1 * (b2 * c0 - b0 * c2))), .int .u64 (lo (a1 * (b2 * c0 - b0 * c2)))] 100 (0, 0)) := by rw [hV]; exact (heap_old z5).trans k5
  replace z5 : W1.heap.size < V3.heap.size := by rw [hV]; simp <;> omega
  have k6 : V3.heap[W2.heap.size]? = some (.cells #[.int .u64 (uh (a2 * (b0 * c1 - b1 * c0))), .int .u64 (lo (a2 * (b0 * c1 - b1 * c0)))] 100 (0, 0)) := by rw [hV]; exact heap_at rfl
  have z6 : W2.heap.size < V3.heap.size := by rw [hV]; simp
  replace hB : Below w.heap.size w V3 := by rw [hV]; have := hB.size; go_grown
  clear hV p0 q0 p1 q1 p2 q2 p3 q3 p4 q4 p5 q5 k0 k1 k2 z0 z1 z2
  obtain ⟨p3, q3⟩ := cellB k3
  obtain ⟨p4, q4⟩ := cellB k4
  obtain ⟨p5, q5⟩ := cellB k5
  obtain ⟨p6, q6⟩ := cellB k6
  refine wp_calm0 5 (by kernel_rfl) (by kernel_rfl) ?_
  intro C hC
  repeat (refine wpCalm_step (fun K hK => ?_); go_simp; first | (refine hK _ ?_; clear hK K) | (apply Exists.intro; refine ⟨fun wc hw => ?_, hK _ ?_⟩; (obtain ⟨hc, hf⟩ := bcell (hC wc hw); go_simp; first | with_reducible exact A1.out wc | with_reducible exact A2.out wc | exact rfl); clear hK K))
  refine wpCalm_nil ?_
  clear hC C
  intro V hX
  simp only [List.drop_succ_cons, List.drop_zero]
  replace k3 := (hX.block _ z3).trans k3; replace z3 := Nat.lt_of_lt_of_le z3 hX.size; replace hB := after hB hX
  clear hX p3 q3 p4 q4 p5 q5 p6 q6 k4 k5 k6 z4 z5 z6
  obtain ⟨p3, q3⟩ := cellB k3
  clear k3
  go_wp2_with fail
  refine bodyPost_ret (v := .agg #[.int .u64 (uh (a0 * (b1 * c2 - b2 * c1) + a1 * (b2 * c0 - b0 * c2) + a2 * (b0 * c1 - b1 * c0))), .int .u64 (lo (a0 * (b1 * c2 - b2 * c1) + a1 * (b2 * c0 - b0 * c2) + a2 * (b0 * c1 - b1 * c0)))]) (by simp [results, Try.results65, go_sem, p3]) rfl ⟨rfl, by go_grown⟩
theorem ref2_three (a0 a1 a2 a3 b0 b1 b2 b3 c0 c1 c2 c3 : Int) (ha : Co a0 ∧ Co a1 ∧ Co a2) (hb : Co b0 ∧ Co b1 ∧ Co b2) (hc : Co c0 ∧ Co c1 ∧ Co c2) (w : World) :
    Calls Try.prog 65 #[.agg #[.int .i64 a0, .int .i64 a1, .int .i64 a2, .int .i64 a3], .agg #[.int .i64 b0, .int .i64 b1, .int .i64 b2, .int .i64 b3], .agg #[.int .i64 c0, .int .i64 c1, .int .i64 c2, .int .i64 c3]] w fun e w' =>
      e = .returned (w2 (det3 a0 a1 a2 b0 b1 b2 c0 c1 c2)) ∧ Below w.heap.size w w' := ref2_three0 a0 a1 a2 a3 b0 b1 b2 b3 c0 c1 c2 c3 ha.1 ha.2.1 ha.2.2 hb.1 hb.2.1 hb.2.2 hc.1 hc.2.1 hc.2.2 w
end Go.Proofs.Ytdglijdiiggdgaa
namespace Go.Proofs.Ytdglijdiiggdgaa
open Go.RowKit Geo
def usedV (m j : Nat) : Nat := hV m j 0 + 2 * hV m j 1 + 4 * hV m j 2
def cntV (m j r : Nat) : Nat := if cR m j r = 0 then 0 else 1
theorem ors : ((List.range 8).all fun u => (List.range 3).all fun k => !(u / 2 ^ k % 2 == 0) || bits BinOp.or IntKind.i64 ((u : Nat) : Int) ((2 ^ k : Nat) : Int) == ((u + 2 ^ k : Nat) : Int)) = true := by decide +kernel
theorem or_of {u k : Nat} (hu : u < 8) (hk : k < 3) (h : u / 2 ^ k % 2 = 0) : bits BinOp.or IntKind.i64 ((u : Nat) : Int) ((2 ^ k : Nat) : Int) = ((u + 2 ^ k : Nat) : Int) := by
  have h1 := List.all_eq_true.1 (List.all_eq_true.1 ors u (List.mem_range.2 hu)) k (List.mem_range.2 hk)
  simpa [h] using h1
theorem bit0_of {m d : Nat} (hm : m < 85) (y : Int) (hy : y = ((m / d : Nat) : Int)) (b : Bool) (hb : (m / d % 2 == 0) = b) : (bits BinOp.and IntKind.i64 y 1 == 0) = b := by
  rw [hy, and1 (Nat.lt_of_le_of_lt (Nat.div_le_self m d) hm), ← hb]
  have : m / d % 2 = 0 ∨ m / d % 2 = 1 := by omega
  rcases this with h | h <;> rw [h] <;> rfl
theorem used_lt (m j : Nat) : usedV m j < 8 := by
  have := hV_cases m j 0; have := hV_cases m j 1; have := hV_cases m j 2
  unfold usedV; omega
def raw16 (X Y Z : Nat → Int) : Array Value := #[Value.int .i64 (X 0), Value.int .i64 (Y 0), Value.int .i64 (Z 0), Value.int .i64 1, Value.int .i64 (X 1), Value.int .i64 (Y 1), Value.int .i64 (Z 1), Value.int .i64 1, Value.int .i64 (X 2), Value.int .i64 (Y 2), Value.int .i64 (Z 2), Value.int .i64 1, Value.int .i64 (X 3), Value.int .i64 (Y 3), Value.int .i64 (Z 3), Value.int .i64 1]
set_option maxRecDepth 100000 in
set_option maxHeartbeats 16000000 in
theorem ref2_changed (X Y Z : Nat → Int) (m : Nat) (hm : m < 85) (lb c0 : Nat) (w : World) (hl : Hid (w.heap[lb]? = some (.cells (raw16 X Y Z) 92 (0, 0)))) :
    Calls Try.prog 54 #[.slice (some ⟨lb, 0, none⟩) 4 c0, .int .i64 m] w fun e w' => Below w.heap.size w w' ∧
      ((good m 12 = false ∧ e = .returned (.tuple #[.slice none 0 0, .bool false])) ∨ (good m 12 = true ∧ ∃ ob, w.heap.size ≤ ob ∧ w'.heap[ob]? = some (.cells (rowsA X Y Z m 12 4) 92 (0, 0)) ∧ e = .returned (.tuple #[.slice (some ⟨ob, 0, none⟩) 4 4, .bool true]))) := by
  have kl : w.heap[lb]? = some (.cells #[Value.int .i64 (X 0), Value.int .i64 (Y 0), Value.int .i64 (Z 0), Value.int .i64 1, Value.int .i64 (X 1), Value.int .i64 (Y 1), Value.int .i64 (Z 1), Value.int .i64 1, Value.int .i64 (X 2), Value.int .i64 (Y 2), Value.int .i64 (Z 2), Value.int .i64 1, Value.int .i64 (X 3), Value.int .i64 (Y 3), Value.int .i64 (Z 3), Value.int .i64 1] 92 (0, 0)) := hl.out
  have hlb : lb < w.heap.size := (Array.getElem?_eq_some_iff.1 kl).1
  obtain ⟨lq, lr⟩ := cellB kl
  go_enter Try.func54, Try.ntmps54
  go_wp2_with fail
  refine wp_calm0 12 (by kernel_rfl) (by kernel_rfl) ?_
  intro C hC
  repeat (refine wpCalm_step (fun K hK => ?_); go_simp; first | (refine hK _ ?_; clear hK K) | (apply Exists.intro; refine ⟨fun wc hw => ?_, hK _ ?_⟩; (obtain ⟨hc, hf⟩ := bcell (hC wc hw); go_simp; first | exact rfl); clear hK K))
  refine wpCalm_nil ?_
  clear hC C
  intro V hX
  simp only [List.drop_succ_cons, List.drop_zero]
  clear lq lr kl
  go_wp2_with fail
  refine wp_loop_rounds 5 ?_
  rw [rounds_succ]
  go_wp2_with fail
  first | refine wp_named ?_ | refine calls_named ?_
  intro W hW
  have k1 : W.heap[V.heap.size]? = some (.cells (rowsA X Y Z m (3 * 0 + 0) 4) 92 (0, 0)) := by
    have e : rowsA X Y Z m (3 * 0 + 0) 4 = #[Value.int .i64 (X 0), Value.int .i64 (Y 0), Value.int .i64 (Z 0), Value.int .i64 1, Value.int .i64 (X 1), Value.int .i64 (Y 1), Value.int .i64 (Z 1), Value.int .i64 1, Value.int .i64 (X 2), Value.int .i64 (Y 2), Value.int .i64 (Z 2), Value.int .i64 1, Value.int .i64 (X 3), Value.int .i64 (Y 3), Value.int .i64 (Z 3), Value.int .i64 1] := by
      show #[Value.int .i64 (rv (X 0) (Y 0) (Z 0) (cR m 0 0) 0), Value.int .i64 (rv (X 0) (Y 0) (Z 0) (cR m 0 0) 1), Value.int .i64 (rv (X 0) (Y 0) (Z 0) (cR m 0 0) 2), Value.int .i64 (rv (X 0) (Y 0) (Z 0) (cR m 0 0) 3), Value.int .i64 (rv (X 1) (Y 1) (Z 1) (cR m 0 1) 0), Value.int .i64 (rv (X 1) (Y 1) (Z 1) (cR m 0 1) 1), Value.int .i64 (rv (X 1) (Y 1) (Z 1) (cR m 0 1) 2), Value.int .i64 (rv (X 1) (Y 1) (Z 1) (cR m 0 1) 3), Value.int .i64 (rv (X 2) (Y 2) (Z 2) (cR m 0 2) 0), Value.int .i64 (rv (X 2) (Y 2) (Z 2) (cR m 0 2) 1), Value.int .i64 (rv (X 2) (Y 2) (Z 2) (cR m 0 2) 2), Value.int .i64 (rv (X 2) (Y 2) (Z 2) (cR m 0 2) 3), Value.int .i64 (rv (X 3) (Y 3) (Z 3) (cR m 0 3) 0), Value.int .i64 (rv (X 3) (Y 3) (Z 3) (cR m 0 3) 1), Value.int .i64 (rv (X 3) (Y 3) (Z 3) (cR m 0 3) 2), Value.int .i64 (rv (X 3) (Y 3) (Z 3) (cR m 0 3) 3)] = _
      rw [code0 (m := m) (j := 0) (s := 0) (by decide), code0 (m := m) (j := 0) (s := 1) (by decide), code0 (m := m) (j := 0) (s := 2) (by decide), code0 (m := m) (j := 0) (s := 3) (by decide)]; rfl
    rw [hW, e]; exact heap_at rfl
  have hB : Below w.heap.size w W := by rw [hW]; have := hX.size; go_grown
  have hz : V.heap.size < W.heap.size := by rw [hW]; simp
  have HVS : Hid (w.heap.size ≤ V.heap.size) := hX.size
  clear hW hX
  have HG : Hid (good m (3 * 0 + 0) = true) := good0 m
  have hu0 : usedV m (3 * 0 + 0) = 0 := by
    have h : ∀ s, cR m 0 s = 0 := fun s => code0 (Nat.zero_le _)
    have h2 : ∀ k, hV m 0 k = 0 := fun k => by unfold hV; rw [h, h, h, h, if_neg (by simp)]
    show hV m 0 0 + 2 * hV m 0 1 + 4 * hV m 0 2 = 0
    rw [h2, h2, h2]
  have hu : Value.int .i64 0 = .int .i64 (usedV m (3 * 0 + 0) : Nat) := by rw [hu0]; rfl
  have hn : Value.int .i64 0 = .int .i64 (cntV m (3 * 0 + 0) 0 : Nat) := by unfold cntV; rw [if_pos (code0 (by decide))]; rfl
  go_loopw [7, 9, 10] (fun u n kk wx => ∃ k : Nat, k ≤ 3 ∧ kk = .int .i64 k ∧ u = .int .i64 (usedV m (3 * 0 + k) : Nat) ∧ n = .int .i64 (cntV m (3 * 0 + k) 0 : Nat) ∧ Hid (good m (3 * 0 + k) = true) ∧ Hid (wx.heap[V.heap.size]? = some (.cells (rowsA X Y Z m (3 * 0 + k) 4) 92 (0, 0))) ∧ Hid (Below w.heap.size w wx) ∧ Hid (V.heap.size < wx.heap.size))
    (fun _ _ kk _ => 3 - (intOf kk).toNat)
  case atStart => exact ⟨0, by decide, rfl, hu, hn, HG, k1, hB, hz⟩
  clear k1 hB hz HG hn hu hu0
  obtain ⟨k, hk, rfl, rfl, rfl, HG, H1, HB, HZ⟩ := hrel
  have hk3 : k = 0 ∨ k = 1 ∨ k = 2 ∨ k = 3 := by omega
  clear hk
  rcases hk3 with rfl | rfl | rfl | rfl
  · have k1 : wr.heap[V.heap.size]? = some (.cells #[Value.int .i64 (rv (X 0) (Y 0) (Z 0) (cR m 0 0) 0), Value.int .i64 (rv (X 0) (Y 0) (Z 0) (cR m 0 0) 1), Value.int .i64 (rv (X 0) (Y 0) (Z 0) (cR m 0 0) 2), Value.int .i64 (rv (X 0) (Y 0) (Z 0) (cR m 0 0) 3), Value.int .i64 (rv (X 1) (Y 1) (Z 1) (cR m 0 1) 0), Value.int .i64 (rv (X 1) (Y 1) (Z 1) (cR m 0 1) 1), Value.int .i64 (rv (X 1) (Y 1) (Z 1) (cR m 0 1) 2), Value.int .i64 (rv (X 1) (Y 1) (Z 1) (cR m 0 1) 3), Value.int .i64 (rv (X 2) (Y 2) (Z 2) (cR m 0 2) 0), Value.int .i64 (rv (X 2) (Y 2) (Z 2) (cR m 0 2) 1), Value.int .i64 (rv (X 2) (Y 2) (Z 2) (cR m 0 2) 2), Value.int .i64 (rv (X 2) (Y 2) (Z 2) (cR m 0 2) 3), Value.int .i64 (rv (X 3) (Y 3) (Z 3) (cR m 0 3) 0), Value.int .i64 (rv (X 3) (Y 3) (Z 3) (cR m 0 3) 1), Value.int .i64 (rv (X 3) (Y 3) (Z 3) (cR m 0 3) 2), Value.int .i64 (rv (X 3) (Y 3) (Z 3) (cR m 0 3) 3)] 92 (0, 0)) := H1.out
    have hz := HZ.out
    clear H1
    by_cases hb : m / 2 ^ (3 * 0 + 0) % 2 = 1
    case neg =>
      have hb' := bit0_of (d := 1) hm ((m : Int)) (by omega) true (by simpa using hb)
      obtain ⟨n1, n2, n3⟩ := mask_no hm (r := 0) (k := 0) (by decide) (by decide) HG.out hb
      have q1 : rowsA X Y Z m (3 * 0 + (0 + 1)) 4 = #[Value.int .i64 (rv (X 0) (Y 0) (Z 0) (cR m 0 0) 0), Value.int .i64 (rv (X 0) (Y 0) (Z 0) (cR m 0 0) 1), Value.int .i64 (rv (X 0) (Y 0) (Z 0) (cR m 0 0) 2), Value.int .i64 (rv (X 0) (Y 0) (Z 0) (cR m 0 0) 3), Value.int .i64 (rv (X 1) (Y 1) (Z 1) (cR m 0 1) 0), Value.int .i64 (rv (X 1) (Y 1) (Z 1) (cR m 0 1) 1), Value.int .i64 (rv (X 1) (Y 1) (Z 1) (cR m 0 1) 2), Value.int .i64 (rv (X 1) (Y 1) (Z 1) (cR m 0 1) 3), Value.int .i64 (rv (X 2) (Y 2) (Z 2) (cR m 0 2) 0), Value.int .i64 (rv (X 2) (Y 2) (Z 2) (cR m 0 2) 1), Value.int .i64 (rv (X 2) (Y 2) (Z 2) (cR m 0 2) 2), Value.int .i64 (rv (X 2) (Y 2) (Z 2) (cR m 0 2) 3), Value.int .i64 (rv (X 3) (Y 3) (Z 3) (cR m 0 3) 0), Value.int .i64 (rv (X 3) (Y 3) (Z 3) (cR m 0 3) 1), Value.int .i64 (rv (X 3) (Y 3) (Z 3) (cR m 0 3) 2), Value.int .i64 (rv (X 3) (Y 3) (Z 3) (cR m 0 3) 3)] := by
        show #[Value.int .i64 (rv (X 0) (Y 0) (Z 0) (cR m 1 0) 0), Value.int .i64 (rv (X 0) (Y 0) (Z 0) (cR m 1 0) 1), Value.int .i64 (rv (X 0) (Y 0) (Z 0) (cR m 1 0) 2), Value.int .i64 (rv (X 0) (Y 0) (Z 0) (cR m 1 0) 3), Value.int .i64 (rv (X 1) (Y 1) (Z 1) (cR m 1 1) 0), Value.int .i64 (rv (X 1) (Y 1) (Z 1) (cR m 1 1) 1), Value.int .i64 (rv (X 1) (Y 1) (Z 1) (cR m 1 1) 2), Value.int .i64 (rv (X 1) (Y 1) (Z 1) (cR m 1 1) 3), Value.int .i64 (rv (X 2) (Y 2) (Z 2) (cR m 1 2) 0), Value.int .i64 (rv (X 2) (Y 2) (Z 2) (cR m 1 2) 1), Value.int .i64 (rv (X 2) (Y 2) (Z 2) (cR m 1 2) 2), Value.int .i64 (rv (X 2) (Y 2) (Z 2) (cR m 1 2) 3), Value.int .i64 (rv (X 3) (Y 3) (Z 3) (cR m 1 3) 0), Value.int .i64 (rv (X 3) (Y 3) (Z 3) (cR m 1 3) 1), Value.int .i64 (rv (X 3) (Y 3) (Z 3) (cR m 1 3) 2), Value.int .i64 (rv (X 3) (Y 3) (Z 3) (cR m 1 3) 3)] = _
        rw [show cR m 1 0 = cR m 0 0 from n2 0 (by decide), show cR m 1 1 = cR m 0 1 from n2 1 (by decide), show cR m 1 2 = cR m 0 2 from n2 2 (by decide), show cR m 1 3 = cR m 0 3 from n2 3 (by decide)]
      have q2 : usedV m (3 * 0 + (0 + 1)) = usedV m (3 * 0 + 0) := by show hV m 1 0 + 2 * hV m 1 1 + 4 * hV m 1 2 = _; rw [show hV m 1 0 = hV m 0 0 from n3 0 (by decide), show hV m 1 1 = hV m 0 1 from n3 1 (by decide), show hV m 1 2 = hV m 0 2 from n3 2 (by decide)]; rfl
      have q3 : cntV m (3 * 0 + (0 + 1)) 0 = cntV m (3 * 0 + 0) 0 := by show (if cR m 1 0 = 0 then 0 else 1) = _; rw [show cR m 1 0 = cR m 0 0 from n2 0 (by decide)]; rfl
      have N1 := Lib.hid n1; have Q1 := Lib.hid q1; have Q2 := Lib.hid q2; have Q3 := Lib.hid q3; have K1 := Lib.hid k1
      clear n1 n2 n3 q1 q2 q3 k1
      go_wp2_with fail
      go_roundw
      case rel => exact ⟨0 + 1, by decide, by go_num, by rw [Q2.out], by rw [Q3.out], N1.out, (by rw [Q1.out]; exact K1.out), HB, HZ⟩
      case measure => simp [intOf]
    have hb' := bit0_of (d := 1) hm ((m : Int)) (by omega) false (by simpa using hb)
    by_cases hc : cR m 0 0 = 0
    case neg =>
      have hn1 : cntV m (3 * 0 + 0) 0 = 1 := if_neg hc
      rw [hn1]
      clear hn1
      have hng := mask_bad hm (r := 0) (k := 0) (by decide) (by decide) HG.out hb (.inl hc)
      have HNG := Lib.hid hng
      clear k1 hng
      go_wp2_with fail
      go_returns
      exact ⟨HB.out, .inl ⟨HNG.out, rfl⟩⟩
    have hn1 : cntV m (3 * 0 + 0) 0 = 0 := if_pos hc
    rw [hn1]
    clear hn1
    obtain ⟨u, hu⟩ : ∃ u, u = usedV m (3 * 0 + 0) := ⟨_, rfl⟩
    rw [← hu]
    have hu8 : u < 8 := by rw [hu]; exact used_lt _ _
    have hub : u / 2 ^ 0 % 2 = hV m 0 0 := by rw [hu]; show (hV m 0 0 + 2 * hV m 0 1 + 4 * hV m 0 2) / _ % 2 = _; have := hV_cases m 0 0; have := hV_cases m 0 1; have := hV_cases m 0 2; omega
    by_cases hd : hV m 0 0 = 1
    case pos =>
      have hs := bit_of (m := u) (d := 1) (by omega) ((u : Int)) (by omega) true (by rw [hd] at hub; simpa using hub)
      have hu9 : (u : Int) ≤ 7 := by omega
      clear hu hub hu8
      have hng := mask_bad hm (r := 0) (k := 0) (by decide) (by decide) HG.out hb (.inr hd)
      have HNG := Lib.hid hng
      clear k1 hng
      go_wp2_with fail
      go_returns
      exact ⟨HB.out, .inl ⟨HNG.out, rfl⟩⟩
    have hd0 : hV m 0 0 = 0 := by have := hV_cases m 0 0; omega
    have hs := bit_of (m := u) (d := 1) (by omega) ((u : Int)) (by omega) false (by rw [hd0] at hub; simpa using hub)
    have ho := or_of (k := 0) hu8 (by decide) (hub.trans hd0)
    obtain ⟨n1, n4, n2, n3⟩ := mask_yes hm (r := 0) (k := 0) (by decide) (by decide) HG.out hb hc hd
    have q1 : rowsA X Y Z m (3 * 0 + (0 + 1)) 4 = #[Value.int .i64 0, Value.int .i64 0, Value.int .i64 1, Value.int .i64 0, Value.int .i64 (rv (X 1) (Y 1) (Z 1) (cR m 0 1) 0), Value.int .i64 (rv (X 1) (Y 1) (Z 1) (cR m 0 1) 1), Value.int .i64 (rv (X 1) (Y 1) (Z 1) (cR m 0 1) 2), Value.int .i64 (rv (X 1) (Y 1) (Z 1) (cR m 0 1) 3), Value.int .i64 (rv (X 2) (Y 2) (Z 2) (cR m 0 2) 0), Value.int .i64 (rv (X 2) (Y 2) (Z 2) (cR m 0 2) 1), Value.int .i64 (rv (X 2) (Y 2) (Z 2) (cR m 0 2) 2), Value.int .i64 (rv (X 2) (Y 2) (Z 2) (cR m 0 2) 3), Value.int .i64 (rv (X 3) (Y 3) (Z 3) (cR m 0 3) 0), Value.int .i64 (rv (X 3) (Y 3) (Z 3) (cR m 0 3) 1), Value.int .i64 (rv (X 3) (Y 3) (Z 3) (cR m 0 3) 2), Value.int .i64 (rv (X 3) (Y 3) (Z 3) (cR m 0 3) 3)] := by
      show #[Value.int .i64 (rv (X 0) (Y 0) (Z 0) (cR m 1 0) 0), Value.int .i64 (rv (X 0) (Y 0) (Z 0) (cR m 1 0) 1), Value.int .i64 (rv (X 0) (Y 0) (Z 0) (cR m 1 0) 2), Value.int .i64 (rv (X 0) (Y 0) (Z 0) (cR m 1 0) 3), Value.int .i64 (rv (X 1) (Y 1) (Z 1) (cR m 1 1) 0), Value.int .i64 (rv (X 1) (Y 1) (Z 1) (cR m 1 1) 1), Value.int .i64 (rv (X 1) (Y 1) (Z 1) (cR m 1 1) 2), Value.int .i64 (rv (X 1) (Y 1) (Z 1) (cR m 1 1) 3), Value.int .i64 (rv (X 2) (Y 2) (Z 2) (cR m 1 2) 0), Value.int .i64 (rv (X 2) (Y 2) (Z 2) (cR m 1 2) 1), Value.int .i64 (rv (X 2) (Y 2) (Z 2) (cR m 1 2) 2), Value.int .i64 (rv (X 2) (Y 2) (Z 2) (cR m 1 2) 3), Value.int .i64 (rv (X 3) (Y 3) (Z 3) (cR m 1 3) 0), Value.int .i64 (rv (X 3) (Y 3) (Z 3) (cR m 1 3) 1), Value.int .i64 (rv (X 3) (Y 3) (Z 3) (cR m 1 3) 2), Value.int .i64 (rv (X 3) (Y 3) (Z 3) (cR m 1 3) 3)] = _
      rw [show cR m 1 0 = 1 from n4, show cR m 1 1 = cR m 0 1 from n2 1 (by decide) (by decide), show cR m 1 2 = cR m 0 2 from n2 2 (by decide) (by decide), show cR m 1 3 = cR m 0 3 from n2 3 (by decide) (by decide)]; rfl
    have q2 : usedV m (3 * 0 + (0 + 1)) = u + 1 := by rw [hu]; show hV m 1 0 + 2 * hV m 1 1 + 4 * hV m 1 2 = hV m 0 0 + 2 * hV m 0 1 + 4 * hV m 0 2 + 1; rw [show hV m 1 0 = 1 from n3 0 (by decide), show hV m 1 1 = hV m 0 1 from n3 1 (by decide), show hV m 1 2 = hV m 0 2 from n3 2 (by decide)]; omega
    have q3 : cntV m (3 * 0 + (0 + 1)) 0 = 1 := by show (if cR m 1 0 = 0 then 0 else 1) = 1; rw [show cR m 1 0 = 1 from n4]; rfl
    have N1 := Lib.hid n1; have Q1 := Lib.hid q1; have Q2 := Lib.hid q2; have Q3 := Lib.hid q3; have K1 := Lib.hid k1
    obtain ⟨kq, kr⟩ := cellB k1
    have hu9 : (u : Int) ≤ 7 := by omega
    clear n1 n2 n3 n4 q1 q2 q3 k1 hu hub hd hd0 hu8
    have HO := Lib.hid (show bits BinOp.or IntKind.i64 (u : Int) 1 = ((u + 1 : Nat) : Int) from ho)
    clear ho
    go_wp2_with fail
    go_roundw
    case rel => exact ⟨0 + 1, by decide, by go_num, by rw [Q2.out]; exact congrArg (Value.int IntKind.i64) HO.out, by rw [Q3.out]; rfl, N1.out, (by rw [Q1.out]; refine Eq.trans (set_own (set_own (set_own (set_own K1.out _) _) _) _) ?_; simp), (by have := HB.out; have := HVS.out; refine Lib.hid ?_; go_grown), (by have := HZ.out; refine Lib.hid ?_; simpa using this)⟩
    case measure => simp [intOf]
  · have k1 : wr.heap[V.heap.size]? = some (.cells #[Value.int .i64 (rv (X 0) (Y 0) (Z 0) (cR m 1 0) 0), Value.int .i64 (rv (X 0) (Y 0) (Z 0) (cR m 1 0) 1), Value.int .i64 (rv (X 0) (Y 0) (Z 0) (cR m 1 0) 2), Value.int .i64 (rv (X 0) (Y 0) (Z 0) (cR m 1 0) 3), Value.int .i64 (rv (X 1) (Y 1) (Z 1) (cR m 1 1) 0), Value.int .i64 (rv (X 1) (Y 1) (Z 1) (cR m 1 1) 1), Value.int .i64 (rv (X 1) (Y 1) (Z 1) (cR m 1 1) 2), Value.int .i64 (rv (X 1) (Y 1) (Z 1) (cR m 1 1) 3), Value.int .i64 (rv (X 2) (Y 2) (Z 2) (cR m 1 2) 0), Value.int .i64 (rv (X 2) (Y 2) (Z 2) (cR m 1 2) 1), Value.int .i64 (rv (X 2) (Y 2) (Z 2) (cR m 1 2) 2), Value.int .i64 (rv (X 2) (Y 2) (Z 2) (cR m 1 2) 3), Value.int .i64 (rv (X 3) (Y 3) (Z 3) (cR m 1 3) 0), Value.int .i64 (rv (X 3) (Y 3) (Z 3) (cR m 1 3) 1), Value.int .i64 (rv (X 3) (Y 3) (Z 3) (cR m 1 3) 2), Value.int .i64 (rv (X 3) (Y 3) (Z 3) (cR m 1 3) 3)] 92 (0, 0)) := H1.out
    have hz := HZ.out
    clear H1
    by_cases hb : m / 2 ^ (3 * 0 + 1) % 2 = 1
    case neg =>
      have hb' := bit0_of (d := 2) hm ((m : Int) / 2) (by omega) true (by simpa using hb)
      obtain ⟨n1, n2, n3⟩ := mask_no hm (r := 0) (k := 1) (by decide) (by decide) HG.out hb
      have q1 : rowsA X Y Z m (3 * 0 + (1 + 1)) 4 = #[Value.int .i64 (rv (X 0) (Y 0) (Z 0) (cR m 1 0) 0), Value.int .i64 (rv (X 0) (Y 0) (Z 0) (cR m 1 0) 1), Value.int .i64 (rv (X 0) (Y 0) (Z 0) (cR m 1 0) 2), Value.int .i64 (rv (X 0) (Y 0) (Z 0) (cR m 1 0) 3), Value.int .i64 (rv (X 1) (Y 1) (Z 1) (cR m 1 1) 0), Value.int .i64 (rv (X 1) (Y 1) (Z 1) (cR m 1 1) 1), Value.int .i64 (rv (X 1) (Y 1) (Z 1) (cR m 1 1) 2), Value.int .i64 (rv (X 1) (Y 1) (Z 1) (cR m 1 1) 3), Value.int .i64 (rv (X 2) (Y 2) (Z 2) (cR m 1 2) 0), Value.int .i64 (rv (X 2) (Y 2) (Z 2) (cR m 1 2) 1), Value.int .i64 (rv (X 2) (Y 2) (Z 2) (cR m 1 2) 2), Value.int .i64 (rv (X 2) (Y 2) (Z 2) (cR m 1 2) 3), Value.int .i64 (rv (X 3) (Y 3) (Z 3) (cR m 1 3) 0), Value.int .i64 (rv (X 3) (Y 3) (Z 3) (cR m 1 3) 1), Value.int .i64 (rv (X 3) (Y 3) (Z 3) (cR m 1 3) 2), Value.int .i64 (rv (X 3) (Y 3) (Z 3) (cR m 1 3) 3)] := by
        show #[Value.int .i64 (rv (X 0) (Y 0) (Z 0) (cR m 2 0) 0), Value.int .i64 (rv (X 0) (Y 0) (Z 0) (cR m 2 0) 1), Value.int .i64 (rv (X 0) (Y 0) (Z 0) (cR m 2 0) 2), Value.int .i64 (rv (X 0) (Y 0) (Z 0) (cR m 2 0) 3), Value.int .i64 (rv (X 1) (Y 1) (Z 1) (cR m 2 1) 0), Value.int .i64 (rv (X 1) (Y 1) (Z 1) (cR m 2 1) 1), Value.int .i64 (rv (X 1) (Y 1) (Z 1) (cR m 2 1) 2), Value.int .i64 (rv (X 1) (Y 1) (Z 1) (cR m 2 1) 3), Value.int .i64 (rv (X 2) (Y 2) (Z 2) (cR m 2 2) 0), Value.int .i64 (rv (X 2) (Y 2) (Z 2) (cR m 2 2) 1), Value.int .i64 (rv (X 2) (Y 2) (Z 2) (cR m 2 2) 2), Value.int .i64 (rv (X 2) (Y 2) (Z 2) (cR m 2 2) 3), Value.int .i64 (rv (X 3) (Y 3) (Z 3) (cR m 2 3) 0), Value.int .i64 (rv (X 3) (Y 3) (Z 3) (cR m 2 3) 1), Value.int .i64 (rv (X 3) (Y 3) (Z 3) (cR m 2 3) 2), Value.int .i64 (rv (X 3) (Y 3) (Z 3) (cR m 2 3) 3)] = _
        rw [show cR m 2 0 = cR m 1 0 from n2 0 (by decide), show cR m 2 1 = cR m 1 1 from n2 1 (by decide), show cR m 2 2 = cR m 1 2 from n2 2 (by decide), show cR m 2 3 = cR m 1 3 from n2 3 (by decide)]
      have q2 : usedV m (3 * 0 + (1 + 1)) = usedV m (3 * 0 + 1) := by show hV m 2 0 + 2 * hV m 2 1 + 4 * hV m 2 2 = _; rw [show hV m 2 0 = hV m 1 0 from n3 0 (by decide), show hV m 2 1 = hV m 1 1 from n3 1 (by decide), show hV m 2 2 = hV m 1 2 from n3 2 (by decide)]; rfl
      have q3 : cntV m (3 * 0 + (1 + 1)) 0 = cntV m (3 * 0 + 1) 0 := by show (if cR m 2 0 = 0 then 0 else 1) = _; rw [show cR m 2 0 = cR m 1 0 from n2 0 (by decide)]; rfl
      have N1 := Lib.hid n1; have Q1 := Lib.hid q1; have Q2 := Lib.hid q2; have Q3 := Lib.hid q3; have K1 := Lib.hid k1
      clear n1 n2 n3 q1 q2 q3 k1
      go_wp2_with fail
      go_roundw
      case rel => exact ⟨1 + 1, by decide, by go_num, by rw [Q2.out], by rw [Q3.out], N1.out, (by rw [Q1.out]; exact K1.out), HB, HZ⟩
      case measure => simp [intOf]
    have hb' := bit0_of (d := 2) hm ((m : Int) / 2) (by omega) false (by simpa using hb)
    by_cases hc : cR m 1 0 = 0
    case neg =>
      have hn1 : cntV m (3 * 0 + 1) 0 = 1 := if_neg hc
      rw [hn1]
      clear hn1
      have hng := mask_bad hm (r := 0) (k := 1) (by decide) (by decide) HG.out hb (.inl hc)
      have HNG := Lib.hid hng
      clear k1 hng
      go_wp2_with fail
      go_returns
      exact ⟨HB.out, .inl ⟨HNG.out, rfl⟩⟩
    have hn1 : cntV m (3 * 0 + 1) 0 = 0 := if_pos hc
    rw [hn1]
    clear hn1
    obtain ⟨u, hu⟩ : ∃ u, u = usedV m (3 * 0 + 1) := ⟨_, rfl⟩
    rw [← hu]
    have hu8 : u < 8 := by rw [hu]; exact used_lt _ _
    have hub : u / 2 ^ 1 % 2 = hV m 1 1 := by rw [hu]; show (hV m 1 0 + 2 * hV m 1 1 + 4 * hV m 1 2) / _ % 2 = _; have := hV_cases m 1 0; have := hV_cases m 1 1; have := hV_cases m 1 2; omega
    by_cases hd : hV m 1 1 = 1
    case pos =>
      have hs := bit_of (m := u) (d := 2) (by omega) ((u : Int) / 2) (by omega) true (by rw [hd] at hub; simpa using hub)
      have hu9 : (u : Int) ≤ 7 := by omega
      clear hu hub hu8
      have hng := mask_bad hm (r := 0) (k := 1) (by decide) (by decide) HG.out hb (.inr hd)
      have HNG := Lib.hid hng
      clear k1 hng
      go_wp2_with fail
      go_returns
      exact ⟨HB.out, .inl ⟨HNG.out, rfl⟩⟩
    have hd0 : hV m 1 1 = 0 := by have := hV_cases m 1 1; omega
    have hs := bit_of (m := u) (d := 2) (by omega) ((u : Int) / 2) (by omega) false (by rw [hd0] at hub; simpa using hub)
    have ho := or_of (k := 1) hu8 (by decide) (hub.trans hd0)
    obtain ⟨n1, n4, n2, n3⟩ := mask_yes hm (r := 0) (k := 1) (by decide) (by decide) HG.out hb hc hd
    have q1 : rowsA X Y Z m (3 * 0 + (1 + 1)) 4 = #[Value.int .i64 0, Value.int .i64 1, Value.int .i64 0, Value.int .i64 0, Value.int .i64 (rv (X 1) (Y 1) (Z 1) (cR m 1 1) 0), Value.int .i64 (rv (X 1) (Y 1) (Z 1) (cR m 1 1) 1), Value.int .i64 (rv (X 1) (Y 1) (Z 1) (cR m 1 1) 2), Value.int .i64 (rv (X 1) (Y 1) (Z 1) (cR m 1 1) 3), Value.int .i64 (rv (X 2) (Y 2) (Z 2) (cR m 1 2) 0), Value.int .i64 (rv (X 2) (Y 2) (Z 2) (cR m 1 2) 1), Value.int .i64 (rv (X 2) (Y 2) (Z 2) (cR m 1 2) 2), Value.int .i64 (rv (X 2) (Y 2) (Z 2) (cR m 1 2) 3), Value.int .i64 (rv (X 3) (Y 3) (Z 3) (cR m 1 3) 0), Value.int .i64 (rv (X 3) (Y 3) (Z 3) (cR m 1 3) 1), Value.int .i64 (rv (X 3) (Y 3) (Z 3) (cR m 1 3) 2), Value.int .i64 (rv (X 3) (Y 3) (Z 3) (cR m 1 3) 3)] := by
      show #[Value.int .i64 (rv (X 0) (Y 0) (Z 0) (cR m 2 0) 0), Value.int .i64 (rv (X 0) (Y 0) (Z 0) (cR m 2 0) 1), Value.int .i64 (rv (X 0) (Y 0) (Z 0) (cR m 2 0) 2), Value.int .i64 (rv (X 0) (Y 0) (Z 0) (cR m 2 0) 3), Value.int .i64 (rv (X 1) (Y 1) (Z 1) (cR m 2 1) 0), Value.int .i64 (rv (X 1) (Y 1) (Z 1) (cR m 2 1) 1), Value.int .i64 (rv (X 1) (Y 1) (Z 1) (cR m 2 1) 2), Value.int .i64 (rv (X 1) (Y 1) (Z 1) (cR m 2 1) 3), Value.int .i64 (rv (X 2) (Y 2) (Z 2) (cR m 2 2) 0), Value.int .i64 (rv (X 2) (Y 2) (Z 2) (cR m 2 2) 1), Value.int .i64 (rv (X 2) (Y 2) (Z 2) (cR m 2 2) 2), Value.int .i64 (rv (X 2) (Y 2) (Z 2) (cR m 2 2) 3), Value.int .i64 (rv (X 3) (Y 3) (Z 3) (cR m 2 3) 0), Value.int .i64 (rv (X 3) (Y 3) (Z 3) (cR m 2 3) 1), Value.int .i64 (rv (X 3) (Y 3) (Z 3) (cR m 2 3) 2), Value.int .i64 (rv (X 3) (Y 3) (Z 3) (cR m 2 3) 3)] = _
      rw [show cR m 2 0 = 2 from n4, show cR m 2 1 = cR m 1 1 from n2 1 (by decide) (by decide), show cR m 2 2 = cR m 1 2 from n2 2 (by decide) (by decide), show cR m 2 3 = cR m 1 3 from n2 3 (by decide) (by decide)]; rfl
    have q2 : usedV m (3 * 0 + (1 + 1)) = u + 2 := by rw [hu]; show hV m 2 0 + 2 * hV m 2 1 + 4 * hV m 2 2 = hV m 1 0 + 2 * hV m 1 1 + 4 * hV m 1 2 + 2; rw [show hV m 2 0 = hV m 1 0 from n3 0 (by decide), show hV m 2 1 = 1 from n3 1 (by decide), show hV m 2 2 = hV m 1 2 from n3 2 (by decide)]; omega
    have q3 : cntV m (3 * 0 + (1 + 1)) 0 = 1 := by show (if cR m 2 0 = 0 then 0 else 1) = 1; rw [show cR m 2 0 = 2 from n4]; rfl
    have N1 := Lib.hid n1; have Q1 := Lib.hid q1; have Q2 := Lib.hid q2; have Q3 := Lib.hid q3; have K1 := Lib.hid k1
    obtain ⟨kq, kr⟩ := cellB k1
    have hu9 : (u : Int) ≤ 7 := by omega
    clear n1 n2 n3 n4 q1 q2 q3 k1 hu hub hd hd0 hu8
    have HO := Lib.hid (show bits BinOp.or IntKind.i64 (u : Int) 2 = ((u + 2 : Nat) : Int) from ho)
    clear ho
    go_wp2_with fail
    go_roundw
    case rel => exact ⟨1 + 1, by decide, by go_num, by rw [Q2.out]; exact congrArg (Value.int IntKind.i64) HO.out, by rw [Q3.out]; rfl, N1.out, (by rw [Q1.out]; refine Eq.trans (set_own (set_own (set_own (set_own K1.out _) _) _) _) ?_; simp), (by have := HB.out; have := HVS.out; refine Lib.hid ?_; go_grown), (by have := HZ.out; refine Lib.hid ?_; simpa using this)⟩
    case measure => simp [intOf]
  · have k1 : wr.heap[V.heap.size]? = some (.cells #[Value.int .i64 (rv (X 0) (Y 0) (Z 0) (cR m 2 0) 0), Value.int .i64 (rv (X 0) (Y 0) (Z 0) (cR m 2 0) 1), Value.int .i64 (rv (X 0) (Y 0) (Z 0) (cR m 2 0) 2), Value.int .i64 (rv (X 0) (Y 0) (Z 0) (cR m 2 0) 3), Value.int .i64 (rv (X 1) (Y 1) (Z 1) (cR m 2 1) 0), Value.int .i64 (rv (X 1) (Y 1) (Z 1) (cR m 2 1) 1), Value.int .i64 (rv (X 1) (Y 1) (Z 1) (cR m 2 1) 2), Value.int .i64 (rv (X 1) (Y 1) (Z 1) (cR m 2 1) 3), Value.int .i64 (rv (X 2) (Y 2) (Z 2) (cR m 2 2) 0), Value.int .i64 (rv (X 2) (Y 2) (Z 2) (cR m 2 2) 1), Value.int .i64 (rv (X 2) (Y 2) (Z 2) (cR m 2 2) 2), Value.int .i64 (rv (X 2) (Y 2) (Z 2) (cR m 2 2) 3), Value.int .i64 (rv (X 3) (Y 3) (Z 3) (cR m 2 3) 0), Value.int .i64 (rv (X 3) (Y 3) (Z 3) (cR m 2 3) 1), Value.int .i64 (rv (X 3) (Y 3) (Z 3) (cR m 2 3) 2), Value.int .i64 (rv (X 3) (Y 3) (Z 3) (cR m 2 3) 3)] 92 (0, 0)) := H1.out
    have hz := HZ.out
    clear H1
    by_cases hb : m / 2 ^ (3 * 0 + 2) % 2 = 1
    case neg =>
      have hb' := bit0_of (d := 4) hm ((m : Int) / 4) (by omega) true (by simpa using hb)
      obtain ⟨n1, n2, n3⟩ := mask_no hm (r := 0) (k := 2) (by decide) (by decide) HG.out hb
      have q1 : rowsA X Y Z m (3 * 0 + (2 + 1)) 4 = #[Value.int .i64 (rv (X 0) (Y 0) (Z 0) (cR m 2 0) 0), Value.int .i64 (rv (X 0) (Y 0) (Z 0) (cR m 2 0) 1), Value.int .i64 (rv (X 0) (Y 0) (Z 0) (cR m 2 0) 2), Value.int .i64 (rv (X 0) (Y 0) (Z 0) (cR m 2 0) 3), Value.int .i64 (rv (X 1) (Y 1) (Z 1) (cR m 2 1) 0), Value.int .i64 (rv (X 1) (Y 1) (Z 1) (cR m 2 1) 1), Value.int .i64 (rv (X 1) (Y 1) (Z 1) (cR m 2 1) 2), Value.int .i64 (rv (X 1) (Y 1) (Z 1) (cR m 2 1) 3), Value.int .i64 (rv (X 2) (Y 2) (Z 2) (cR m 2 2) 0), Value.int .i64 (rv (X 2) (Y 2) (Z 2) (cR m 2 2) 1), Value.int .i64 (rv (X 2) (Y 2) (Z 2) (cR m 2 2) 2), Value.int .i64 (rv (X 2) (Y 2) (Z 2) (cR m 2 2) 3), Value.int .i64 (rv (X 3) (Y 3) (Z 3) (cR m 2 3) 0), Value.int .i64 (rv (X 3) (Y 3) (Z 3) (cR m 2 3) 1), Value.int .i64 (rv (X 3) (Y 3) (Z 3) (cR m 2 3) 2), Value.int .i64 (rv (X 3) (Y 3) (Z 3) (cR m 2 3) 3)] := by
        show #[Value.int .i64 (rv (X 0) (Y 0) (Z 0) (cR m 3 0) 0), Value.int .i64 (rv (X 0) (Y 0) (Z 0) (cR m 3 0) 1), Value.int .i64 (rv (X 0) (Y 0) (Z 0) (cR m 3 0) 2), Value.int .i64 (rv (X 0) (Y 0) (Z 0) (cR m 3 0) 3), Value.int .i64 (rv (X 1) (Y 1) (Z 1) (cR m 3 1) 0), Value.int .i64 (rv (X 1) (Y 1) (Z 1) (cR m 3 1) 1), Value.int .i64 (rv (X 1) (Y 1) (Z 1) (cR m 3 1) 2), Value.int .i64 (rv (X 1) (Y 1) (Z 1) (cR m 3 1) 3), Value.int .i64 (rv (X 2) (Y 2) (Z 2) (cR m 3 2) 0), Value.int .i64 (rv (X 2) (Y 2) (Z 2) (cR m 3 2) 1), Value.int .i64 (rv (X 2) (Y 2) (Z 2) (cR m 3 2) 2), Value.int .i64 (rv (X 2) (Y 2) (Z 2) (cR m 3 2) 3), Value.int .i64 (rv (X 3) (Y 3) (Z 3) (cR m 3 3) 0), Value.int .i64 (rv (X 3) (Y 3) (Z 3) (cR m 3 3) 1), Value.int .i64 (rv (X 3) (Y 3) (Z 3) (cR m 3 3) 2), Value.int .i64 (rv (X 3) (Y 3) (Z 3) (cR m 3 3) 3)] = _
        rw [show cR m 3 0 = cR m 2 0 from n2 0 (by decide), show cR m 3 1 = cR m 2 1 from n2 1 (by decide), show cR m 3 2 = cR m 2 2 from n2 2 (by decide), show cR m 3 3 = cR m 2 3 from n2 3 (by decide)]
      have q2 : usedV m (3 * 0 + (2 + 1)) = usedV m (3 * 0 + 2) := by show hV m 3 0 + 2 * hV m 3 1 + 4 * hV m 3 2 = _; rw [show hV m 3 0 = hV m 2 0 from n3 0 (by decide), show hV m 3 1 = hV m 2 1 from n3 1 (by decide), show hV m 3 2 = hV m 2 2 from n3 2 (by decide)]; rfl
      have q3 : cntV m (3 * 0 + (2 + 1)) 0 = cntV m (3 * 0 + 2) 0 := by show (if cR m 3 0 = 0 then 0 else 1) = _; rw [show cR m 3 0 = cR m 2 0 from n2 0 (by decide)]; rfl
      have N1 := Lib.hid n1; have Q1 := Lib.hid q1; have Q2 := Lib.hid q2; have Q3 := Lib.hid q3; have K1 := Lib.hid k1
      clear n1 n2 n3 q1 q2 q3 k1
      go_wp2_with fail
      go_roundw
      case rel => exact ⟨2 + 1, by decide, by go_num, by rw [Q2.out], by rw [Q3.out], N1.out, (by rw [Q1.out]; exact K1.out), HB, HZ⟩
      case measure => simp [intOf]
    have hb' := bit0_of (d := 4) hm ((m : Int) / 4) (by omega) false (by simpa using hb)
    by_cases hc : cR m 2 0 = 0
    case neg =>
      have hn1 : cntV m (3 * 0 + 2) 0 = 1 := if_neg hc
      rw [hn1]
      clear hn1
      have hng := mask_bad hm (r := 0) (k := 2) (by decide) (by decide) HG.out hb (.inl hc)
      have HNG := Lib.hid hng
      clear k1 hng
      go_wp2_with fail
      go_returns
      exact ⟨HB.out, .inl ⟨HNG.out, rfl⟩⟩
    have hn1 : cntV m (3 * 0 + 2) 0 = 0 := if_pos hc
    rw [hn1]
    clear hn1
    obtain ⟨u, hu⟩ : ∃ u, u = usedV m (3 * 0 + 2) := ⟨_, rfl⟩
    rw [← hu]
    have hu8 : u < 8 := by rw [hu]; exact used_lt _ _
    have hub : u / 2 ^ 2 % 2 = hV m 2 2 := by rw [hu]; show (hV m 2 0 + 2 * hV m 2 1 + 4 * hV m 2 2) / _ % 2 = _; have := hV_cases m 2 0; have := hV_cases m 2 1; have := hV_cases m 2 2; omega
    by_cases hd : hV m 2 2 = 1
    case pos =>
      have hs := bit_of (m := u) (d := 4) (by omega) ((u : Int) / 4) (by omega) true (by rw [hd] at hub; simpa using hub)
      have hu9 : (u : Int) ≤ 7 := by omega
      clear hu hub hu8
      have hng := mask_bad hm (r := 0) (k := 2) (by decide) (by decide) HG.out hb (.inr hd)
      have HNG := Lib.hid hng
      clear k1 hng
      go_wp2_with fail
      go_returns
      exact ⟨HB.out, .inl ⟨HNG.out, rfl⟩⟩
    have hd0 : hV m 2 2 = 0 := by have := hV_cases m 2 2; omega
    have hs := bit_of (m := u) (d := 4) (by omega) ((u : Int) / 4) (by omega) false (by rw [hd0] at hub; simpa using hub)
    have ho := or_of (k := 2) hu8 (by decide) (hub.trans hd0)
    obtain ⟨n1, n4, n2, n3⟩ := mask_yes hm (r := 0) (k := 2) (by decide) (by decide) HG.out hb hc hd
    have q1 : rowsA X Y Z m (3 * 0 + (2 + 1)) 4 = #[Value.int .i64 1, Value.int .i64 0, Value.int .i64 0, Value.int .i64 0, Value.int .i64 (rv (X 1) (Y 1) (Z 1) (cR m 2 1) 0), Value.int .i64 (rv (X 1) (Y 1) (Z 1) (cR m 2 1) 1), Value.int .i64 (rv (X 1) (Y 1) (Z 1) (cR m 2 1) 2), Value.int .i64 (rv (X 1) (Y 1) (Z 1) (cR m 2 1) 3), Value.int .i64 (rv (X 2) (Y 2) (Z 2) (cR m 2 2) 0), Value.int .i64 (rv (X 2) (Y 2) (Z 2) (cR m 2 2) 1), Value.int .i64 (rv (X 2) (Y 2) (Z 2) (cR m 2 2) 2), Value.int .i64 (rv (X 2) (Y 2) (Z 2) (cR m 2 2) 3), Value.int .i64 (rv (X 3) (Y 3) (Z 3) (cR m 2 3) 0), Value.int .i64 (rv (X 3) (Y 3) (Z 3) (cR m 2 3) 1), Value.int .i64 (rv (X 3) (Y 3) (Z 3) (cR m 2 3) 2), Value.int .i64 (rv (X 3) (Y 3) (Z 3) (cR m 2 3) 3)] := by
      show #[Value.int .i64 (rv (X 0) (Y 0) (Z 0) (cR m 3 0) 0), Value.int .i64 (rv (X 0) (Y 0) (Z 0) (cR m 3 0) 1), Value.int .i64 (rv (X 0) (Y 0) (Z 0) (cR m 3 0) 2), Value.int .i64 (rv (X 0) (Y 0) (Z 0) (cR m 3 0) 3), Value.int .i64 (rv (X 1) (Y 1) (Z 1) (cR m 3 1) 0), Value.int .i64 (rv (X 1) (Y 1) (Z 1) (cR m 3 1) 1), Value.int .i64 (rv (X 1) (Y 1) (Z 1) (cR m 3 1) 2), Value.int .i64 (rv (X 1) (Y 1) (Z 1) (cR m 3 1) 3), Value.int .i64 (rv (X 2) (Y 2) (Z 2) (cR m 3 2) 0), Value.int .i64 (rv (X 2) (Y 2) (Z 2) (cR m 3 2) 1), Value.int .i64 (rv (X 2) (Y 2) (Z 2) (cR m 3 2) 2), Value.int .i64 (rv (X 2) (Y 2) (Z 2) (cR m 3 2) 3), Value.int .i64 (rv (X 3) (Y 3) (Z 3) (cR m 3 3) 0), Value.int .i64 (rv (X 3) (Y 3) (Z 3) (cR m 3 3) 1), Value.int .i64 (rv (X 3) (Y 3) (Z 3) (cR m 3 3) 2), Value.int .i64 (rv (X 3) (Y 3) (Z 3) (cR m 3 3) 3)] = _
      rw [show cR m 3 0 = 4 from n4, show cR m 3 1 = cR m 2 1 from n2 1 (by decide) (by decide), show cR m 3 2 = cR m 2 2 from n2 2 (by decide) (by decide), show cR m 3 3 = cR m 2 3 from n2 3 (by decide) (by decide)]; rfl
    have q2 : usedV m (3 * 0 + (2 + 1)) = u + 4 := by rw [hu]; show hV m 3 0 + 2 * hV m 3 1 + 4 * hV m 3 2 = hV m 2 0 + 2 * hV m 2 1 + 4 * hV m 2 2 + 4; rw [show hV m 3 0 = hV m 2 0 from n3 0 (by decide), show hV m 3 1 = hV m 2 1 from n3 1 (by decide), show hV m 3 2 = 1 from n3 2 (by decide)]; omega
    have q3 : cntV m (3 * 0 + (2 + 1)) 0 = 1 := by show (if cR m 3 0 = 0 then 0 else 1) = 1; rw [show cR m 3 0 = 4 from n4]; rfl
    have N1 := Lib.hid n1; have Q1 := Lib.hid q1; have Q2 := Lib.hid q2; have Q3 := Lib.hid q3; have K1 := Lib.hid k1
    obtain ⟨kq, kr⟩ := cellB k1
    have hu9 : (u : Int) ≤ 7 := by omega
    clear n1 n2 n3 n4 q1 q2 q3 k1 hu hub hd hd0 hu8
    have HO := Lib.hid (show bits BinOp.or IntKind.i64 (u : Int) 4 = ((u + 4 : Nat) : Int) from ho)
    clear ho
    go_wp2_with fail
    go_roundw
    case rel => exact ⟨2 + 1, by decide, by go_num, by rw [Q2.out]; exact congrArg (Value.int IntKind.i64) HO.out, by rw [Q3.out]; rfl, N1.out, (by rw [Q1.out]; refine Eq.trans (set_own (set_own (set_own (set_own K1.out _) _) _) _) ?_; simp), (by have := HB.out; have := HVS.out; refine Lib.hid ?_; go_grown), (by have := HZ.out; refine Lib.hid ?_; simpa using this)⟩
    case measure => simp [intOf]
  obtain ⟨S0, rfl⟩ : ∃ S, S = wr := ⟨_, rfl⟩
  have k1 : S0.heap[V.heap.size]? = some (.cells (rowsA X Y Z m (3 * 1 + 0) 4) 92 (0, 0)) := H1.out
  replace HG : Hid (good m (3 * 1 + 0) = true) := HG.out
  have hB := HB.out; have hz := HZ.out
  have K1 := Lib.hid k1
  clear H1 HB HZ k1
  go_wp2_with fail
  rw [rounds_succ]
  go_wp2_with fail
  have k1 := K1.out
  clear K1
  have hn : Value.int .i64 0 = .int .i64 (cntV m (3 * 1 + 0) 1 : Nat) := by unfold cntV; rw [if_pos (code0 (by decide))]; rfl
  go_loopw [7, 9, 10] (fun u n kk wx => ∃ k : Nat, k ≤ 3 ∧ kk = .int .i64 k ∧ u = .int .i64 (usedV m (3 * 1 + k) : Nat) ∧ n = .int .i64 (cntV m (3 * 1 + k) 1 : Nat) ∧ Hid (good m (3 * 1 + k) = true) ∧ Hid (wx.heap[V.heap.size]? = some (.cells (rowsA X Y Z m (3 * 1 + k) 4) 92 (0, 0))) ∧ Hid (Below w.heap.size w wx) ∧ Hid (V.heap.size < wx.heap.size))
    (fun _ _ kk _ => 3 - (intOf kk).toNat)
  case atStart => exact ⟨0, by decide, rfl, rfl, hn, HG, k1, hB, hz⟩
  clear k1 hB hz HG hn
  obtain ⟨k, hk, rfl, rfl, rfl, HG, H1, HB, HZ⟩ := hrel
  have hk3 : k = 0 ∨ k = 1 ∨ k = 2 ∨ k = 3 := by omega
  clear hk
  rcases hk3 with rfl | rfl | rfl | rfl
  · have k1 : wr.heap[V.heap.size]? = some (.cells #[Value.int .i64 (rv (X 0) (Y 0) (Z 0) (cR m 3 0) 0), Value.int .i64 (rv (X 0) (Y 0) (Z 0) (cR m 3 0) 1), Value.int .i64 (rv (X 0) (Y 0) (Z 0) (cR m 3 0) 2), Value.int .i64 (rv (X 0) (Y 0) (Z 0) (cR m 3 0) 3), Value.int .i64 (rv (X 1) (Y 1) (Z 1) (cR m 3 1) 0), Value.int .i64 (rv (X 1) (Y 1) (Z 1) (cR m 3 1) 1), Value.int .i64 (rv (X 1) (Y 1) (Z 1) (cR m 3 1) 2), Value.int .i64 (rv (X 1) (Y 1) (Z 1) (cR m 3 1) 3), Value.int .i64 (rv (X 2) (Y 2) (Z 2) (cR m 3 2) 0), Value.int .i64 (rv (X 2) (Y 2) (Z 2) (cR m 3 2) 1), Value.int .i64 (rv (X 2) (Y 2) (Z 2) (cR m 3 2) 2), Value.int .i64 (rv (X 2) (Y 2) (Z 2) (cR m 3 2) 3), Value.int .i64 (rv (X 3) (Y 3) (Z 3) (cR m 3 3) 0), Value.int .i64 (rv (X 3) (Y 3) (Z 3) (cR m 3 3) 1), Value.int .i64 (rv (X 3) (Y 3) (Z 3) (cR m 3 3) 2), Value.int .i64 (rv (X 3) (Y 3) (Z 3) (cR m 3 3) 3)] 92 (0, 0)) := H1.out
    have hz := HZ.out
    clear H1
    by_cases hb : m / 2 ^ (3 * 1 + 0) % 2 = 1
    case neg =>
      have hb' := bit0_of (d := 8) hm ((m : Int) / 8) (by omega) true (by simpa using hb)
      obtain ⟨n1, n2, n3⟩ := mask_no hm (r := 1) (k := 0) (by decide) (by decide) HG.out hb
      have q1 : rowsA X Y Z m (3 * 1 + (0 + 1)) 4 = #[Value.int .i64 (rv (X 0) (Y 0) (Z 0) (cR m 3 0) 0), Value.int .i64 (rv (X 0) (Y 0) (Z 0) (cR m 3 0) 1), Value.int .i64 (rv (X 0) (Y 0) (Z 0) (cR m 3 0) 2), Value.int .i64 (rv (X 0) (Y 0) (Z 0) (cR m 3 0) 3), Value.int .i64 (rv (X 1) (Y 1) (Z 1) (cR m 3 1) 0), Value.int .i64 (rv (X 1) (Y 1) (Z 1) (cR m 3 1) 1), Value.int .i64 (rv (X 1) (Y 1) (Z 1) (cR m 3 1) 2), Value.int .i64 (rv (X 1) (Y 1) (Z 1) (cR m 3 1) 3), Value.int .i64 (rv (X 2) (Y 2) (Z 2) (cR m 3 2) 0), Value.int .i64 (rv (X 2) (Y 2) (Z 2) (cR m 3 2) 1), Value.int .i64 (rv (X 2) (Y 2) (Z 2) (cR m 3 2) 2), Value.int .i64 (rv (X 2) (Y 2) (Z 2) (cR m 3 2) 3), Value.int .i64 (rv (X 3) (Y 3) (Z 3) (cR m 3 3) 0), Value.int .i64 (rv (X 3) (Y 3) (Z 3) (cR m 3 3) 1), Value.int .i64 (rv (X 3) (Y 3) (Z 3) (cR m 3 3) 2), Value.int .i64 (rv (X 3) (Y 3) (Z 3) (cR m 3 3) 3)] := by
        show #[Value.int .i64 (rv (X 0) (Y 0) (Z 0) (cR m 4 0) 0), Value.int .i64 (rv (X 0) (Y 0) (Z 0) (cR m 4 0) 1), Value.int .i64 (rv (X 0) (Y 0) (Z 0) (cR m 4 0) 2), Value.int .i64 (rv (X 0) (Y 0) (Z 0) (cR m 4 0) 3), Value.int .i64 (rv (X 1) (Y 1) (Z 1) (cR m 4 1) 0), Value.int .i64 (rv (X 1) (Y 1) (Z 1) (cR m 4 1) 1), Value.int .i64 (rv (X 1) (Y 1) (Z 1) (cR m 4 1) 2), Value.int .i64 (rv (X 1) (Y 1) (Z 1) (cR m 4 1) 3), Value.int .i64 (rv (X 2) (Y 2) (Z 2) (cR m 4 2) 0), Value.int .i64 (rv (X 2) (Y 2) (Z 2) (cR m 4 2) 1), Value.int .i64 (rv (X 2) (Y 2) (Z 2) (cR m 4 2) 2), Value.int .i64 (rv (X 2) (Y 2) (Z 2) (cR m 4 2) 3), Value.int .i64 (rv (X 3) (Y 3) (Z 3) (cR m 4 3) 0), Value.int .i64 (rv (X 3) (Y 3) (Z 3) (cR m 4 3) 1), Value.int .i64 (rv (X 3) (Y 3) (Z 3) (cR m 4 3) 2), Value.int .i64 (rv (X 3) (Y 3) (Z 3) (cR m 4 3) 3)] = _
        rw [show cR m 4 0 = cR m 3 0 from n2 0 (by decide), show cR m 4 1 = cR m 3 1 from n2 1 (by decide), show cR m 4 2 = cR m 3 2 from n2 2 (by decide), show cR m 4 3 = cR m 3 3 from n2 3 (by decide)]
      have q2 : usedV m (3 * 1 + (0 + 1)) = usedV m (3 * 1 + 0) := by show hV m 4 0 + 2 * hV m 4 1 + 4 * hV m 4 2 = _; rw [show hV m 4 0 = hV m 3 0 from n3 0 (by decide), show hV m 4 1 = hV m 3 1 from n3 1 (by decide), show hV m 4 2 = hV m 3 2 from n3 2 (by decide)]; rfl
      have q3 : cntV m (3 * 1 + (0 + 1)) 1 = cntV m (3 * 1 + 0) 1 := by show (if cR m 4 1 = 0 then 0 else 1) = _; rw [show cR m 4 1 = cR m 3 1 from n2 1 (by decide)]; rfl
      have N1 := Lib.hid n1; have Q1 := Lib.hid q1; have Q2 := Lib.hid q2; have Q3 := Lib.hid q3; have K1 := Lib.hid k1
      clear n1 n2 n3 q1 q2 q3 k1
      go_wp2_with fail
      go_roundw
      case rel => exact ⟨0 + 1, by decide, by go_num, by rw [Q2.out], by rw [Q3.out], N1.out, (by rw [Q1.out]; exact K1.out), HB, HZ⟩
      case measure => simp [intOf]
    have hb' := bit0_of (d := 8) hm ((m : Int) / 8) (by omega) false (by simpa using hb)
    by_cases hc : cR m 3 1 = 0
    case neg =>
      have hn1 : cntV m (3 * 1 + 0) 1 = 1 := if_neg hc
      rw [hn1]
      clear hn1
      have hng := mask_bad hm (r := 1) (k := 0) (by decide) (by decide) HG.out hb (.inl hc)
      have HNG := Lib.hid hng
      clear k1 hng
      go_wp2_with fail
      go_returns
      exact ⟨HB.out, .inl ⟨HNG.out, rfl⟩⟩
    have hn1 : cntV m (3 * 1 + 0) 1 = 0 := if_pos hc
    rw [hn1]
    clear hn1
    obtain ⟨u, hu⟩ : ∃ u, u = usedV m (3 * 1 + 0) := ⟨_, rfl⟩
    rw [← hu]
    have hu8 : u < 8 := by rw [hu]; exact used_lt _ _
    have hub : u / 2 ^ 0 % 2 = hV m 3 0 := by rw [hu]; show (hV m 3 0 + 2 * hV m 3 1 + 4 * hV m 3 2) / _ % 2 = _; have := hV_cases m 3 0; have := hV_cases m 3 1; have := hV_cases m 3 2; omega
    by_cases hd : hV m 3 0 = 1
    case pos =>
      have hs := bit_of (m := u) (d := 1) (by omega) ((u : Int)) (by omega) true (by rw [hd] at hub; simpa using hub)
      have hu9 : (u : Int) ≤ 7 := by omega
      clear hu hub hu8
      have hng := mask_bad hm (r := 1) (k := 0) (by decide) (by decide) HG.out hb (.inr hd)
      have HNG := Lib.hid hng
      clear k1 hng
      go_wp2_with fail
      go_returns
      exact ⟨HB.out, .inl ⟨HNG.out, rfl⟩⟩
    have hd0 : hV m 3 0 = 0 := by have := hV_cases m 3 0; omega
    have hs := bit_of (m := u) (d := 1) (by omega) ((u : Int)) (by omega) false (by rw [hd0] at hub; simpa using hub)
    have ho := or_of (k := 0) hu8 (by decide) (hub.trans hd0)
    obtain ⟨n1, n4, n2, n3⟩ := mask_yes hm (r := 1) (k := 0) (by decide) (by decide) HG.out hb hc hd
    have q1 : rowsA X Y Z m (3 * 1 + (0 + 1)) 4 = #[Value.int .i64 (rv (X 0) (Y 0) (Z 0) (cR m 3 0) 0), Value.int .i64 (rv (X 0) (Y 0) (Z 0) (cR m 3 0) 1), Value.int .i64 (rv (X 0) (Y 0) (Z 0) (cR m 3 0) 2), Value.int .i64 (rv (X 0) (Y 0) (Z 0) (cR m 3 0) 3), Value.int .i64 0, Value.int .i64 0, Value.int .i64 1, Value.int .i64 0, Value.int .i64 (rv (X 2) (Y 2) (Z 2) (cR m 3 2) 0), Value.int .i64 (rv (X 2) (Y 2) (Z 2) (cR m 3 2) 1), Value.int .i64 (rv (X 2) (Y 2) (Z 2) (cR m 3 2) 2), Value.int .i64 (rv (X 2) (Y 2) (Z 2) (cR m 3 2) 3), Value.int .i64 (rv (X 3) (Y 3) (Z 3) (cR m 3 3) 0), Value.int .i64 (rv (X 3) (Y 3) (Z 3) (cR m 3 3) 1), Value.int .i64 (rv (X 3) (Y 3) (Z 3) (cR m 3 3) 2), Value.int .i64 (rv (X 3) (Y 3) (Z 3) (cR m 3 3) 3)] := by
      show #[Value.int .i64 (rv (X 0) (Y 0) (Z 0) (cR m 4 0) 0), Value.int .i64 (rv (X 0) (Y 0) (Z 0) (cR m 4 0) 1), Value.int .i64 (rv (X 0) (Y 0) (Z 0) (cR m 4 0) 2), Value.int .i64 (rv (X 0) (Y 0) (Z 0) (cR m 4 0) 3), Value.int .i64 (rv (X 1) (Y 1) (Z 1) (cR m 4 1) 0), Value.int .i64 (rv (X 1) (Y 1) (Z 1) (cR m 4 1) 1), Value.int .i64 (rv (X 1) (Y 1) (Z 1) (cR m 4 1) 2), Value.int .i64 (rv (X 1) (Y 1) (Z 1) (cR m 4 1) 3), Value.int .i64 (rv (X 2) (Y 2) (Z 2) (cR m 4 2) 0), Value.int .i64 (rv (X 2) (Y 2) (Z 2) (cR m 4 2) 1), Value.int .i64 (rv (X 2) (Y 2) (Z 2) (cR m 4 2) 2), Value.int .i64 (rv (X 2) (Y 2) (Z 2) (cR m 4 2) 3), Value.int .i64 (rv (X 3) (Y 3) (Z 3) (cR m 4 3) 0), Value.int .i64 (rv (X 3) (Y 3) (Z 3) (cR m 4 3) 1), Value.int .i64 (rv (X 3) (Y 3) (Z 3) (cR m 4 3) 2), Value.int .i64 (rv (X 3) (Y 3) (Z 3) (cR m 4 3) 3)] = _
      rw [show cR m 4 0 = cR m 3 0 from n2 0 (by decide) (by decide), show cR m 4 1 = 1 from n4, show cR m 4 2 = cR m 3 2 from n2 2 (by decide) (by decide), show cR m 4 3 = cR m 3 3 from n2 3 (by decide) (by decide)]; rfl
    have q2 : usedV m (3 * 1 + (0 + 1)) = u + 1 := by rw [hu]; show hV m 4 0 + 2 * hV m 4 1 + 4 * hV m 4 2 = hV m 3 0 + 2 * hV m 3 1 + 4 * hV m 3 2 + 1; rw [show hV m 4 0 = 1 from n3 0 (by decide), show hV m 4 1 = hV m 3 1 from n3 1 (by decide), show hV m 4 2 = hV m 3 2 from n3 2 (by decide)]; omega
    have q3 : cntV m (3 * 1 + (0 + 1)) 1 = 1 := by show (if cR m 4 1 = 0 then 0 else 1) = 1; rw [show cR m 4 1 = 1 from n4]; rfl
    have N1 := Lib.hid n1; have Q1 := Lib.hid q1; have Q2 := Lib.hid q2; have Q3 := Lib.hid q3; have K1 := Lib.hid k1
    obtain ⟨kq, kr⟩ := cellB k1
    have hu9 : (u : Int) ≤ 7 := by omega
    clear n1 n2 n3 n4 q1 q2 q3 k1 hu hub hd hd0 hu8
    have HO := Lib.hid (show bits BinOp.or IntKind.i64 (u : Int) 1 = ((u + 1 : Nat) : Int) from ho)
    clear ho
    go_wp2_with fail
    go_roundw
    case rel => exact ⟨0 + 1, by decide, by go_num, by rw [Q2.out]; exact congrArg (Value.int IntKind.i64) HO.out, by rw [Q3.out]; rfl, N1.out, (by rw [Q1.out]; refine Eq.trans (set_own (set_own (set_own (set_own K1.out _) _) _) _) ?_; simp), (by have := HB.out; have := HVS.out; refine Lib.hid ?_; go_grown), (by have := HZ.out; refine Lib.hid ?_; simpa using this)⟩
    case measure => simp [intOf]
  · have k1 : wr.heap[V.heap.size]? = some (.cells #[Value.int .i64 (rv (X 0) (Y 0) (Z 0) (cR m 4 0) 0), Value.int .i64 (rv (X 0) (Y 0) (Z 0) (cR m 4 0) 1), Value.int .i64 (rv (X 0) (Y 0) (Z 0) (cR m 4 0) 2), Value.int .i64 (rv (X 0) (Y 0) (Z 0) (cR m 4 0) 3), Value.int .i64 (rv (X 1) (Y 1) (Z 1) (cR m 4 1) 0), Value.int .i64 (rv (X 1) (Y 1) (Z 1) (cR m 4 1) 1), Value.int .i64 (rv (X 1) (Y 1) (Z 1) (cR m 4 1) 2), Value.int .i64 (rv (X 1) (Y 1) (Z 1) (cR m 4 1) 3), Value.int .i64 (rv (X 2) (Y 2) (Z 2) (cR m 4 2) 0), Value.int .i64 (rv (X 2) (Y 2) (Z 2) (cR m 4 2) 1), Value.int .i64 (rv (X 2) (Y 2) (Z 2) (cR m 4 2) 2), Value.int .i64 (rv (X 2) (Y 2) (Z 2) (cR m 4 2) 3), Value.int .i64 (rv (X 3) (Y 3) (Z 3) (cR m 4 3) 0), Value.int .i64 (rv (X 3) (Y 3) (Z 3) (cR m 4 3) 1), Value.int .i64 (rv (X 3) (Y 3) (Z 3) (cR m 4 3) 2), Value.int .i64 (rv (X 3) (Y 3) (Z 3) (cR m 4 3) 3)] 92 (0, 0)) := H1.out
    have hz := HZ.out
    clear H1
    by_cases hb : m / 2 ^ (3 * 1 + 1) % 2 = 1
    case neg =>
      have hb' := bit0_of (d := 16) hm ((m : Int) / 16) (by omega) true (by simpa using hb)
      obtain ⟨n1, n2, n3⟩ := mask_no hm (r := 1) (k := 1) (by decide) (by decide) HG.out hb
      have q1 : rowsA X Y Z m (3 * 1 + (1 + 1)) 4 = #[Value.int .i64 (rv (X 0) (Y 0) (Z 0) (cR m 4 0) 0), Value.int .i64 (rv (X 0) (Y 0) (Z 0) (cR m 4 0) 1), Value.int .i64 (rv (X 0) (Y 0) (Z 0) (cR m 4 0) 2), Value.int .i64 (rv (X 0) (Y 0) (Z 0) (cR m 4 0) 3), Value.int .i64 (rv (X 1) (Y 1) (Z 1) (cR m 4 1) 0), Value.int .i64 (rv (X 1) (Y 1) (Z 1) (cR m 4 1) 1), Value.int .i64 (rv (X 1) (Y 1) (Z 1) (cR m 4 1) 2), Value.int .i64 (rv (X 1) (Y 1) (Z 1) (cR m 4 1) 3), Value.int .i64 (rv (X 2) (Y 2) (Z 2) (cR m 4 2) 0), Value.int .i64 (rv (X 2) (Y 2) (Z 2) (cR m 4 2) 1), Value.int .i64 (rv (X 2) (Y 2) (Z 2) (cR m 4 2) 2), Value.int .i64 (rv (X 2) (Y 2) (Z 2) (cR m 4 2) 3), Value.int .i64 (rv (X 3) (Y 3) (Z 3) (cR m 4 3) 0), Value.int .i64 (rv (X 3) (Y 3) (Z 3) (cR m 4 3) 1), Value.int .i64 (rv (X 3) (Y 3) (Z 3) (cR m 4 3) 2), Value.int .i64 (rv (X 3) (Y 3) (Z 3) (cR m 4 3) 3)] := by
        show #[Value.int .i64 (rv (X 0) (Y 0) (Z 0) (cR m 5 0) 0), Value.int .i64 (rv (X 0) (Y 0) (Z 0) (cR m 5 0) 1), Value.int .i64 (rv (X 0) (Y 0) (Z 0) (cR m 5 0) 2), Value.int .i64 (rv (X 0) (Y 0) (Z 0) (cR m 5 0) 3), Value.int .i64 (rv (X 1) (Y 1) (Z 1) (cR m 5 1) 0), Value.int .i64 (rv (X 1) (Y 1) (Z 1) (cR m 5 1) 1), Value.int .i64 (rv (X 1) (Y 1) (Z 1) (cR m 5 1) 2), Value.int .i64 (rv (X 1) (Y 1) (Z 1) (cR m 5 1) 3), Value.int .i64 (rv (X 2) (Y 2) (Z 2) (cR m 5 2) 0), Value.int .i64 (rv (X 2) (Y 2) (Z 2) (cR m 5 2) 1), Value.int .i64 (rv (X 2) (Y 2) (Z 2) (cR m 5 2) 2), Value.int .i64 (rv (X 2) (Y 2) (Z 2) (cR m 5 2) 3), Value.int .i64 (rv (X 3) (Y 3) (Z 3) (cR m 5 3) 0), Value.int .i64 (rv (X 3) (Y 3) (Z 3) (cR m 5 3) 1), Value.int .i64 (rv (X 3) (Y 3) (Z 3) (cR m 5 3) 2), Value.int .i64 (rv (X 3) (Y 3) (Z 3) (cR m 5 3) 3)] = _
        rw [show cR m 5 0 = cR m 4 0 from n2 0 (by decide), show cR m 5 1 = cR m 4 1 from n2 1 (by decide), show cR m 5 2 = cR m 4 2 from n2 2 (by decide), show cR m 5 3 = cR m 4 3 from n2 3 (by decide)]
      have q2 : usedV m (3 * 1 + (1 + 1)) = usedV m (3 * 1 + 1) := by show hV m 5 0 + 2 * hV m 5 1 + 4 * hV m 5 2 = _; rw [show hV m 5 0 = hV m 4 0 from n3 0 (by decide), show hV m 5 1 = hV m 4 1 from n3 1 (by decide), show hV m 5 2 = hV m 4 2 from n3 2 (by decide)]; rfl
      have q3 : cntV m (3 * 1 + (1 + 1)) 1 = cntV m (3 * 1 + 1) 1 := by show (if cR m 5 1 = 0 then 0 else 1) = _; rw [show cR m 5 1 = cR m 4 1 from n2 1 (by decide)]; rfl
      have N1 := Lib.hid n1; have Q1 := Lib.hid q1; have Q2 := Lib.hid q2; have Q3 := Lib.hid q3; have K1 := Lib.hid k1
      clear n1 n2 n3 q1 q2 q3 k1
      go_wp2_with fail
      go_roundw
      case rel => exact ⟨1 + 1, by decide, by go_num, by rw [Q2.out], by rw [Q3.out], N1.out, (by rw [Q1.out]; exact K1.out), HB, HZ⟩
      case measure => simp [intOf]
    have hb' := bit0_of (d := 16) hm ((m : Int) / 16) (by omega) false (by simpa using hb)
    by_cases hc : cR m 4 1 = 0
    case neg =>
      have hn1 : cntV m (3 * 1 + 1) 1 = 1 := if_neg hc
      rw [hn1]
      clear hn1
      have hng := mask_bad hm (r := 1) (k := 1) (by decide) (by decide) HG.out hb (.inl hc)
      have HNG := Lib.hid hng
      clear k1 hng
      go_wp2_with fail
      go_returns
      exact ⟨HB.out, .inl ⟨HNG.out, rfl⟩⟩
    have hn1 : cntV m (3 * 1 + 1) 1 = 0 := if_pos hc
    rw [hn1]
    clear hn1
    obtain ⟨u, hu⟩ : ∃ u, u = usedV m (3 * 1 + 1) := ⟨_, rfl⟩
    rw [← hu]
    have hu8 : u < 8 := by rw [hu]; exact used_lt _ _
    have hub : u / 2 ^ 1 % 2 = hV m 4 1 := by rw [hu]; show (hV m 4 0 + 2 * hV m 4 1 + 4 * hV m 4 2) / _ % 2 = _; have := hV_cases m 4 0; have := hV_cases m 4 1; have := hV_cases m 4 2; omega
    by_cases hd : hV m 4 1 = 1
    case pos =>
      have hs := bit_of (m := u) (d := 2) (by omega) ((u : Int) / 2) (by omega) true (by rw [hd] at hub; simpa using hub)
      have hu9 : (u : Int) ≤ 7 := by omega
      clear hu hub hu8
      have hng := mask_bad hm (r := 1) (k := 1) (by decide) (by decide) HG.out hb (.inr hd)
      have HNG := Lib.hid hng
      clear k1 hng
      go_wp2_with fail
      go_returns
      exact ⟨HB.out, .inl ⟨HNG.out, rfl⟩⟩
    have hd0 : hV m 4 1 = 0 := by have := hV_cases m 4 1; omega
    have hs := bit_of (m := u) (d := 2) (by omega) ((u : Int) / 2) (by omega) false (by rw [hd0] at hub; simpa using hub)
    have ho := or_of (k := 1) hu8 (by decide) (hub.trans hd0)
    obtain ⟨n1, n4, n2, n3⟩ := mask_yes hm (r := 1) (k := 1) (by decide) (by decide) HG.out hb hc hd
    have q1 : rowsA X Y Z m (3 * 1 + (1 + 1)) 4 = #[Value.int .i64 (rv (X 0) (Y 0) (Z 0) (cR m 4 0) 0), Value.int .i64 (rv (X 0) (Y 0) (Z 0) (cR m 4 0) 1), Value.int .i64 (rv (X 0) (Y 0) (Z 0) (cR m 4 0) 2), Value.int .i64 (rv (X 0) (Y 0) (Z 0) (cR m 4 0) 3), Value.int .i64 0, Value.int .i64 1, Value.int .i64 0, Value.int .i64 0, Value.int .i64 (rv (X 2) (Y 2) (Z 2) (cR m 4 2) 0), Value.int .i64 (rv (X 2) (Y 2) (Z 2) (cR m 4 2) 1), Value.int .i64 (rv (X 2) (Y 2) (Z 2) (cR m 4 2) 2), Value.int .i64 (rv (X 2) (Y 2) (Z 2) (cR m 4 2) 3), Value.int .i64 (rv (X 3) (Y 3) (Z 3) (cR m 4 3) 0), Value.int .i64 (rv (X 3) (Y 3) (Z 3) (cR m 4 3) 1), Value.int .i64 (rv (X 3) (Y 3) (Z 3) (cR m 4 3) 2), Value.int .i64 (rv (X 3) (Y 3) (Z 3) (cR m 4 3) 3)] := by
      show #[Value.int .i64 (rv (X 0) (Y 0) (Z 0) (cR m 5 0) 0), Value.int .i64 (rv (X 0) (Y 0) (Z 0) (cR m 5 0) 1), Value.int .i64 (rv (X 0) (Y 0) (Z 0) (cR m 5 0) 2), Value.int .i64 (rv (X 0) (Y 0) (Z 0) (cR m 5 0) 3), Value.int .i64 (rv (X 1) (Y 1) (Z 1) (cR m 5 1) 0), Value.int .i64 (rv (X 1) (Y 1) (Z 1) (cR m 5 1) 1), Value.int .i64 (rv (X 1) (Y 1) (Z 1) (cR m 5 1) 2), Value.int .i64 (rv (X 1) (Y 1) (Z 1) (cR m 5 1) 3), Value.int .i64 (rv (X 2) (Y 2) (Z 2) (cR m 5 2) 0), Value.int .i64 (rv (X 2) (Y 2) (Z 2) (cR m 5 2) 1), Value.int .i64 (rv (X 2) (Y 2) (Z 2) (cR m 5 2) 2), Value.int .i64 (rv (X 2) (Y 2) (Z 2) (cR m 5 2) 3), Value.int .i64 (rv (X 3) (Y 3) (Z 3) (cR m 5 3) 0), Value.int .i64 (rv (X 3) (Y 3) (Z 3) (cR m 5 3) 1), Value.int .i64 (rv (X 3) (Y 3) (Z 3) (cR m 5 3) 2), Value.int .i64 (rv (X 3) (Y 3) (Z 3) (cR m 5 3) 3)] = _
      rw [show cR m 5 0 = cR m 4 0 from n2 0 (by decide) (by decide), show cR m 5 1 = 2 from n4, show cR m 5 2 = cR m 4 2 from n2 2 (by decide) (by decide), show cR m 5 3 = cR m 4 3 from n2 3 (by decide) (by decide)]; rfl
    have q2 : usedV m (3 * 1 + (1 + 1)) = u + 2 := by rw [hu]; show hV m 5 0 + 2 * hV m 5 1 + 4 * hV m 5 2 = hV m 4 0 + 2 * hV m 4 1 + 4 * hV m 4 2 + 2; rw [show hV m 5 0 = hV m 4 0 from n3 0 (by decide), show hV m 5 1 = 1 from n3 1 (by decide), show hV m 5 2 = hV m 4 2 from n3 2 (by decide)]; omega
    have q3 : cntV m (3 * 1 + (1 + 1)) 1 = 1 := by show (if cR m 5 1 = 0 then 0 else 1) = 1; rw [show cR m 5 1 = 2 from n4]; rfl
    have N1 := Lib.hid n1; have Q1 := Lib.hid q1; have Q2 := Lib.hid q2; have Q3 := Lib.hid q3; have K1 := Lib.hid k1
    obtain ⟨kq, kr⟩ := cellB k1
    have hu9 : (u : Int) ≤ 7 := by omega
    clear n1 n2 n3 n4 q1 q2 q3 k1 hu hub hd hd0 hu8
    have HO := Lib.hid (show bits BinOp.or IntKind.i64 (u : Int) 2 = ((u + 2 : Nat) : Int) from ho)
    clear ho
    go_wp2_with fail
    go_roundw
    case rel => exact ⟨1 + 1, by decide, by go_num, by rw [Q2.out]; exact congrArg (Value.int IntKind.i64) HO.out, by rw [Q3.out]; rfl, N1.out, (by rw [Q1.out]; refine Eq.trans (set_own (set_own (set_own (set_own K1.out _) _) _) _) ?_; simp), (by have := HB.out; have := HVS.out; refine Lib.hid ?_; go_grown), (by have := HZ.out; refine Lib.hid ?_; simpa using this)⟩
    case measure => simp [intOf]
  · have k1 : wr.heap[V.heap.size]? = some (.cells #[Value.int .i64 (rv (X 0) (Y 0) (Z 0) (cR m 5 0) 0), Value.int .i64 (rv (X 0) (Y 0) (Z 0) (cR m 5 0) 1), Value.int .i64 (rv (X 0) (Y 0) (Z 0) (cR m 5 0) 2), Value.int .i64 (rv (X 0) (Y 0) (Z 0) (cR m 5 0) 3), Value.int .i64 (rv (X 1) (Y 1) (Z 1) (cR m 5 1) 0), Value.int .i64 (rv (X 1) (Y 1) (Z 1) (cR m 5 1) 1), Value.int .i64 (rv (X 1) (Y 1) (Z 1) (cR m 5 1) 2), Value.int .i64 (rv (X 1) (Y 1) (Z 1) (cR m 5 1) 3), Value.int .i64 (rv (X 2) (Y 2) (Z 2) (cR m 5 2) 0), Value.int .i64 (rv (X 2) (Y 2) (Z 2) (cR m 5 2) 1), Value.int .i64 (rv (X 2) (Y 2) (Z 2) (cR m 5 2) 2), Value.int .i64 (rv (X 2) (Y 2) (Z 2) (cR m 5 2) 3), Value.int .i64 (rv (X 3) (Y 3) (Z 3) (cR m 5 3) 0), Value.int .i64 (rv (X 3) (Y 3) (Z 3) (cR m 5 3) 1), Value.int .i64 (rv (X 3) (Y 3) (Z 3) (cR m 5 3) 2), Value.int .i64 (rv (X 3) (Y 3) (Z 3) (cR m 5 3) 3)] 92 (0, 0)) := H1.out
    have hz := HZ.out
    clear H1
    by_cases hb : m / 2 ^ (3 * 1 + 2) % 2 = 1
    case neg =>
      have hb' := bit0_of (d := 32) hm ((m : Int) / 32) (by omega) true (by simpa using hb)
      obtain ⟨n1, n2, n3⟩ := mask_no hm (r := 1) (k := 2) (by decide) (by decide) HG.out hb
      have q1 : rowsA X Y Z m (3 * 1 + (2 + 1)) 4 = #[Value.int .i64 (rv (X 0) (Y 0) (Z 0) (cR m 5 0) 0), Value.int .i64 (rv (X 0) (Y 0) (Z 0) (cR m 5 0) 1), Value.int .i64 (rv (X 0) (Y 0) (Z 0) (cR m 5 0) 2), Value.int .i64 (rv (X 0) (Y 0) (Z 0) (cR m 5 0) 3), Value.int .i64 (rv (X 1) (Y 1) (Z 1) (cR m 5 1) 0), Value.int .i64 (rv (X 1) (Y 1) (Z 1) (cR m 5 1) 1), Value.int .i64 (rv (X 1) (Y 1) (Z 1) (cR m 5 1) 2), Value.int .i64 (rv (X 1) (Y 1) (Z 1) (cR m 5 1) 3), Value.int .i64 (rv (X 2) (Y 2) (Z 2) (cR m 5 2) 0), Value.int .i64 (rv (X 2) (Y 2) (Z 2) (cR m 5 2) 1), Value.int .i64 (rv (X 2) (Y 2) (Z 2) (cR m 5 2) 2), Value.int .i64 (rv (X 2) (Y 2) (Z 2) (cR m 5 2) 3), Value.int .i64 (rv (X 3) (Y 3) (Z 3) (cR m 5 3) 0), Value.int .i64 (rv (X 3) (Y 3) (Z 3) (cR m 5 3) 1), Value.int .i64 (rv (X 3) (Y 3) (Z 3) (cR m 5 3) 2), Value.int .i64 (rv (X 3) (Y 3) (Z 3) (cR m 5 3) 3)] := by
        show #[Value.int .i64 (rv (X 0) (Y 0) (Z 0) (cR m 6 0) 0), Value.int .i64 (rv (X 0) (Y 0) (Z 0) (cR m 6 0) 1), Value.int .i64 (rv (X 0) (Y 0) (Z 0) (cR m 6 0) 2), Value.int .i64 (rv (X 0) (Y 0) (Z 0) (cR m 6 0) 3), Value.int .i64 (rv (X 1) (Y 1) (Z 1) (cR m 6 1) 0), Value.int .i64 (rv (X 1) (Y 1) (Z 1) (cR m 6 1) 1), Value.int .i64 (rv (X 1) (Y 1) (Z 1) (cR m 6 1) 2), Value.int .i64 (rv (X 1) (Y 1) (Z 1) (cR m 6 1) 3), Value.int .i64 (rv (X 2) (Y 2) (Z 2) (cR m 6 2) 0), Value.int .i64 (rv (X 2) (Y 2) (Z 2) (cR m 6 2) 1), Value.int .i64 (rv (X 2) (Y 2) (Z 2) (cR m 6 2) 2), Value.int .i64 (rv (X 2) (Y 2) (Z 2) (cR m 6 2) 3), Value.int .i64 (rv (X 3) (Y 3) (Z 3) (cR m 6 3) 0), Value.int .i64 (rv (X 3) (Y 3) (Z 3) (cR m 6 3) 1), Value.int .i64 (rv (X 3) (Y 3) (Z 3) (cR m 6 3) 2), Value.int .i64 (rv (X 3) (Y 3) (Z 3) (cR m 6 3) 3)] = _
        rw [show cR m 6 0 = cR m 5 0 from n2 0 (by decide), show cR m 6 1 = cR m 5 1 from n2 1 (by decide), show cR m 6 2 = cR m 5 2 from n2 2 (by decide), show cR m 6 3 = cR m 5 3 from n2 3 (by decide)]
      have q2 : usedV m (3 * 1 + (2 + 1)) = usedV m (3 * 1 + 2) := by show hV m 6 0 + 2 * hV m 6 1 + 4 * hV m 6 2 = _; rw [show hV m 6 0 = hV m 5 0 from n3 0 (by decide), show hV m 6 1 = hV m 5 1 from n3 1 (by decide), show hV m 6 2 = hV m 5 2 from n3 2 (by decide)]; rfl
      have q3 : cntV m (3 * 1 + (2 + 1)) 1 = cntV m (3 * 1 + 2) 1 := by show (if cR m 6 1 = 0 then 0 else 1) = _; rw [show cR m 6 1 = cR m 5 1 from n2 1 (by decide)]; rfl
      have N1 := Lib.hid n1; have Q1 := Lib.hid q1; have Q2 := Lib.hid q2; have Q3 := Lib.hid q3; have K1 := Lib.hid k1
      clear n1 n2 n3 q1 q2 q3 k1
      go_wp2_with fail
      go_roundw
      case rel => exact ⟨2 + 1, by decide, by go_num, by rw [Q2.out], by rw [Q3.out], N1.out, (by rw [Q1.out]; exact K1.out), HB, HZ⟩
      case measure => simp [intOf]
    have hb' := bit0_of (d := 32) hm ((m : Int) / 32) (by omega) false (by simpa using hb)
    by_cases hc : cR m 5 1 = 0
    case neg =>
      have hn1 : cntV m (3 * 1 + 2) 1 = 1 := if_neg hc
      rw [hn1]
      clear hn1
      have hng := mask_bad hm (r := 1) (k := 2) (by decide) (by decide) HG.out hb (.inl hc)
      have HNG := Lib.hid hng
      clear k1 hng
      go_wp2_with fail
      go_returns
      exact ⟨HB.out, .inl ⟨HNG.out, rfl⟩⟩
    have hn1 : cntV m (3 * 1 + 2) 1 = 0 := if_pos hc
    rw [hn1]
    clear hn1
    obtain ⟨u, hu⟩ : ∃ u, u = usedV m (3 * 1 + 2) := ⟨_, rfl⟩
    rw [← hu]
    have hu8 : u < 8 := by rw [hu]; exact used_lt _ _
    have hub : u / 2 ^ 2 % 2 = hV m 5 2 := by rw [hu]; show (hV m 5 0 + 2 * hV m 5 1 + 4 * hV m 5 2) / _ % 2 = _; have := hV_cases m 5 0; have := hV_cases m 5 1; have := hV_cases m 5 2; omega
    by_cases hd : hV m 5 2 = 1
    case pos =>
      have hs := bit_of (m := u) (d := 4) (by omega) ((u : Int) / 4) (by omega) true (by rw [hd] at hub; simpa using hub)
      have hu9 : (u : Int) ≤ 7 := by omega
      clear hu hub hu8
      have hng := mask_bad hm (r := 1) (k := 2) (by decide) (by decide) HG.out hb (.inr hd)
      have HNG := Lib.hid hng
      clear k1 hng
      go_wp2_with fail
      go_returns
      exact ⟨HB.out, .inl ⟨HNG.out, rfl⟩⟩
    have hd0 : hV m 5 2 = 0 := by have := hV_cases m 5 2; omega
    have hs := bit_of (m := u) (d := 4) (by omega) ((u : Int) / 4) (by omega) false (by rw [hd0] at hub; simpa using hub)
    have ho := or_of (k := 2) hu8 (by decide) (hub.trans hd0)
    obtain ⟨n1, n4, n2, n3⟩ := mask_yes hm (r := 1) (k := 2) (by decide) (by decide) HG.out hb hc hd
    have q1 : rowsA X Y Z m (3 * 1 + (2 + 1)) 4 = #[Value.int .i64 (rv (X 0) (Y 0) (Z 0) (cR m 5 0) 0), Value.int .i64 (rv (X 0) (Y 0) (Z 0) (cR m 5 0) 1), Value.int .i64 (rv (X 0) (Y 0) (Z 0) (cR m 5 0) 2), Value.int .i64 (rv (X 0) (Y 0) (Z 0) (cR m 5 0) 3), Value.int .i64 1, Value.int .i64 0, Value.int .i64 0, Value.int .i64 0, Value.int .i64 (rv (X 2) (Y 2) (Z 2) (cR m 5 2) 0), Value.int .i64 (rv (X 2) (Y 2) (Z 2) (cR m 5 2) 1), Value.int .i64 (rv (X 2) (Y 2) (Z 2) (cR m 5 2) 2), Value.int .i64 (rv (X 2) (Y 2) (Z 2) (cR m 5 2) 3), Value.int .i64 (rv (X 3) (Y 3) (Z 3) (cR m 5 3) 0), Value.int .i64 (rv (X 3) (Y 3) (Z 3) (cR m 5 3) 1), Value.int .i64 (rv (X 3) (Y 3) (Z 3) (cR m 5 3) 2), Value.int .i64 (rv (X 3) (Y 3) (Z 3) (cR m 5 3) 3)] := by
      show #[Value.int .i64 (rv (X 0) (Y 0) (Z 0) (cR m 6 0) 0), Value.int .i64 (rv (X 0) (Y 0) (Z 0) (cR m 6 0) 1), Value.int .i64 (rv (X 0) (Y 0) (Z 0) (cR m 6 0) 2), Value.int .i64 (rv (X 0) (Y 0) (Z 0) (cR m 6 0) 3), Value.int .i64 (rv (X 1) (Y 1) (Z 1) (cR m 6 1) 0), Value.int .i64 (rv (X 1) (Y 1) (Z 1) (cR m 6 1) 1), Value.int .i64 (rv (X 1) (Y 1) (Z 1) (cR m 6 1) 2), Value.int .i64 (rv (X 1) (Y 1) (Z 1) (cR m 6 1) 3), Value.int .i64 (rv (X 2) (Y 2) (Z 2) (cR m 6 2) 0), Value.int .i64 (rv (X 2) (Y 2) (Z 2) (cR m 6 2) 1), Value.int .i64 (rv (X 2) (Y 2) (Z 2) (cR m 6 2) 2), Value.int .i64 (rv (X 2) (Y 2) (Z 2) (cR m 6 2) 3), Value.int .i64 (rv (X 3) (Y 3) (Z 3) (cR m 6 3) 0), Value.int .i64 (rv (X 3) (Y 3) (Z 3) (cR m 6 3) 1), Value.int .i64 (rv (X 3) (Y 3) (Z 3) (cR m 6 3) 2), Value.int .i64 (rv (X 3) (Y 3) (Z 3) (cR m 6 3) 3)] = _
      rw [show cR m 6 0 = cR m 5 0 from n2 0 (by decide) (by decide), show cR m 6 1 = 4 from n4, show cR m 6 2 = cR m 5 2 from n2 2 (by decide) (by decide), show cR m 6 3 = cR m 5 3 from n2 3 (by decide) (by decide)]; rfl
    have q2 : usedV m (3 * 1 + (2 + 1)) = u + 4 := by rw [hu]; show hV m 6 0 + 2 * hV m 6 1 + 4 * hV m 6 2 = hV m 5 0 + 2 * hV m 5 1 + 4 * hV m 5 2 + 4; rw [show hV m 6 0 = hV m 5 0 from n3 0 (by decide), show hV m 6 1 = hV m 5 1 from n3 1 (by decide), show hV m 6 2 = 1 from n3 2 (by decide)]; omega
    have q3 : cntV m (3 * 1 + (2 + 1)) 1 = 1 := by show (if cR m 6 1 = 0 then 0 else 1) = 1; rw [show cR m 6 1 = 4 from n4]; rfl
    have N1 := Lib.hid n1; have Q1 := Lib.hid q1; have Q2 := Lib.hid q2; have Q3 := Lib.hid q3; have K1 := Lib.hid k1
    obtain ⟨kq, kr⟩ := cellB k1
    have hu9 : (u : Int) ≤ 7 := by omega
    clear n1 n2 n3 n4 q1 q2 q3 k1 hu hub hd hd0 hu8
    have HO := Lib.hid (show bits BinOp.or IntKind.i64 (u : Int) 4 = ((u + 4 : Nat) : Int) from ho)
    clear ho
    go_wp2_with fail
    go_roundw
    case rel => exact ⟨2 + 1, by decide, by go_num, by rw [Q2.out]; exact congrArg (Value.int IntKind.i64) HO.out, by rw [Q3.out]; rfl, N1.out, (by rw [Q1.out]; refine Eq.trans (set_own (set_own (set_own (set_own K1.out _) _) _) _) ?_; simp), (by have := HB.out; have := HVS.out; refine Lib.hid ?_; go_grown), (by have := HZ.out; refine Lib.hid ?_; simpa using this)⟩
    case measure => simp [intOf]
  obtain ⟨S1, rfl⟩ : ∃ S, S = wr := ⟨_, rfl⟩
  have k1 : S1.heap[V.heap.size]? = some (.cells (rowsA X Y Z m (3 * 2 + 0) 4) 92 (0, 0)) := H1.out
  replace HG : Hid (good m (3 * 2 + 0) = true) := HG.out
  have hB := HB.out; have hz := HZ.out
  have K1 := Lib.hid k1
  clear H1 HB HZ k1
  go_wp2_with fail
  rw [rounds_succ]
  go_wp2_with fail
  have k1 := K1.out
  clear K1
  have hn : Value.int .i64 0 = .int .i64 (cntV m (3 * 2 + 0) 2 : Nat) := by unfold cntV; rw [if_pos (code0 (by decide))]; rfl
  go_loopw [7, 9, 10] (fun u n kk wx => ∃ k : Nat, k ≤ 3 ∧ kk = .int .i64 k ∧ u = .int .i64 (usedV m (3 * 2 + k) : Nat) ∧ n = .int .i64 (cntV m (3 * 2 + k) 2 : Nat) ∧ Hid (good m (3 * 2 + k) = true) ∧ Hid (wx.heap[V.heap.size]? = some (.cells (rowsA X Y Z m (3 * 2 + k) 4) 92 (0, 0))) ∧ Hid (Below w.heap.size w wx) ∧ Hid (V.heap.size < wx.heap.size))
    (fun _ _ kk _ => 3 - (intOf kk).toNat)
  case atStart => exact ⟨0, by decide, rfl, rfl, hn, HG, k1, hB, hz⟩
  clear k1 hB hz HG hn
  obtain ⟨k, hk, rfl, rfl, rfl, HG, H1, HB, HZ⟩ := hrel
  have hk3 : k = 0 ∨ k = 1 ∨ k = 2 ∨ k = 3 := by omega
  clear hk
  rcases hk3 with rfl | rfl | rfl | rfl
  · have k1 : wr.heap[V.heap.size]? = some (.cells #[Value.int .i64 (rv (X 0) (Y 0) (Z 0) (cR m 6 0) 0), Value.int .i64 (rv (X 0) (Y 0) (Z 0) (cR m 6 0) 1), Value.int .i64 (rv (X 0) (Y 0) (Z 0) (cR m 6 0) 2), Value.int .i64 (rv (X 0) (Y 0) (Z 0) (cR m 6 0) 3), Value.int .i64 (rv (X 1) (Y 1) (Z 1) (cR m 6 1) 0), Value.int .i64 (rv (X 1) (Y 1) (Z 1) (cR m 6 1) 1), Value.int .i64 (rv (X 1) (Y 1) (Z 1) (cR m 6 1) 2), Value.int .i64 (rv (X 1) (Y 1) (Z 1) (cR m 6 1) 3), Value.int .i64 (rv (X 2) (Y 2) (Z 2) (cR m 6 2) 0), Value.int .i64 (rv (X 2) (Y 2) (Z 2) (cR m 6 2) 1), Value.int .i64 (rv (X 2) (Y 2) (Z 2) (cR m 6 2) 2), Value.int .i64 (rv (X 2) (Y 2) (Z 2) (cR m 6 2) 3), Value.int .i64 (rv (X 3) (Y 3) (Z 3) (cR m 6 3) 0), Value.int .i64 (rv (X 3) (Y 3) (Z 3) (cR m 6 3) 1), Value.int .i64 (rv (X 3) (Y 3) (Z 3) (cR m 6 3) 2), Value.int .i64 (rv (X 3) (Y 3) (Z 3) (cR m 6 3) 3)] 92 (0, 0)) := H1.out
    have hz := HZ.out
    clear H1
    by_cases hb : m / 2 ^ (3 * 2 + 0) % 2 = 1
    case neg =>
      have hb' := bit0_of (d := 64) hm ((m : Int) / 64) (by omega) true (by simpa using hb)
      obtain ⟨n1, n2, n3⟩ := mask_no hm (r := 2) (k := 0) (by decide) (by decide) HG.out hb
      have q1 : rowsA X Y Z m (3 * 2 + (0 + 1)) 4 = #[Value.int .i64 (rv (X 0) (Y 0) (Z 0) (cR m 6 0) 0), Value.int .i64 (rv (X 0) (Y 0) (Z 0) (cR m 6 0) 1), Value.int .i64 (rv (X 0) (Y 0) (Z 0) (cR m 6 0) 2), Value.int .i64 (rv (X 0) (Y 0) (Z 0) (cR m 6 0) 3), Value.int .i64 (rv (X 1) (Y 1) (Z 1) (cR m 6 1) 0), Value.int .i64 (rv (X 1) (Y 1) (Z 1) (cR m 6 1) 1), Value.int .i64 (rv (X 1) (Y 1) (Z 1) (cR m 6 1) 2), Value.int .i64 (rv (X 1) (Y 1) (Z 1) (cR m 6 1) 3), Value.int .i64 (rv (X 2) (Y 2) (Z 2) (cR m 6 2) 0), Value.int .i64 (rv (X 2) (Y 2) (Z 2) (cR m 6 2) 1), Value.int .i64 (rv (X 2) (Y 2) (Z 2) (cR m 6 2) 2), Value.int .i64 (rv (X 2) (Y 2) (Z 2) (cR m 6 2) 3), Value.int .i64 (rv (X 3) (Y 3) (Z 3) (cR m 6 3) 0), Value.int .i64 (rv (X 3) (Y 3) (Z 3) (cR m 6 3) 1), Value.int .i64 (rv (X 3) (Y 3) (Z 3) (cR m 6 3) 2), Value.int .i64 (rv (X 3) (Y 3) (Z 3) (cR m 6 3) 3)] := by
        show #[Value.int .i64 (rv (X 0) (Y 0) (Z 0) (cR m 7 0) 0), Value.int .i64 (rv (X 0) (Y 0) (Z 0) (cR m 7 0) 1), Value.int .i64 (rv (X 0) (Y 0) (Z 0) (cR m 7 0) 2), Value.int .i64 (rv (X 0) (Y 0) (Z 0) (cR m 7 0) 3), Value.int .i64 (rv (X 1) (Y 1) (Z 1) (cR m 7 1) 0), Value.int .i64 (rv (X 1) (Y 1) (Z 1) (cR m 7 1) 1), Value.int .i64 (rv (X 1) (Y 1) (Z 1) (cR m 7 1) 2), Value.int .i64 (rv (X 1) (Y 1) (Z 1) (cR m 7 1) 3), Value.int .i64 (rv (X 2) (Y 2) (Z 2) (cR m 7 2) 0), Value.int .i64 (rv (X 2) (Y 2) (Z 2) (cR m 7 2) 1), Value.int .i64 (rv (X 2) (Y 2) (Z 2) (cR m 7 2) 2), Value.int .i64 (rv (X 2) (Y 2) (Z 2) (cR m 7 2) 3), Value.int .i64 (rv (X 3) (Y 3) (Z 3) (cR m 7 3) 0), Value.int .i64 (rv (X 3) (Y 3) (Z 3) (cR m 7 3) 1), Value.int .i64 (rv (X 3) (Y 3) (Z 3) (cR m 7 3) 2), Value.int .i64 (rv (X 3) (Y 3) (Z 3) (cR m 7 3) 3)] = _
        rw [show cR m 7 0 = cR m 6 0 from n2 0 (by decide), show cR m 7 1 = cR m 6 1 from n2 1 (by decide), show cR m 7 2 = cR m 6 2 from n2 2 (by decide), show cR m 7 3 = cR m 6 3 from n2 3 (by decide)]
      have q2 : usedV m (3 * 2 + (0 + 1)) = usedV m (3 * 2 + 0) := by show hV m 7 0 + 2 * hV m 7 1 + 4 * hV m 7 2 = _; rw [show hV m 7 0 = hV m 6 0 from n3 0 (by decide), show hV m 7 1 = hV m 6 1 from n3 1 (by decide), show hV m 7 2 = hV m 6 2 from n3 2 (by decide)]; rfl
      have q3 : cntV m (3 * 2 + (0 + 1)) 2 = cntV m (3 * 2 + 0) 2 := by show (if cR m 7 2 = 0 then 0 else 1) = _; rw [show cR m 7 2 = cR m 6 2 from n2 2 (by decide)]; rfl
      have N1 := Lib.hid n1; have Q1 := Lib.hid q1; have Q2 := Lib.hid q2; have Q3 := Lib.hid q3; have K1 := Lib.hid k1
      clear n1 n2 n3 q1 q2 q3 k1
      go_wp2_with fail
      go_roundw
      case rel => exact ⟨0 + 1, by decide, by go_num, by rw [Q2.out], by rw [Q3.out], N1.out, (by rw [Q1.out]; exact K1.out), HB, HZ⟩
      case measure => simp [intOf]
    have hb' := bit0_of (d := 64) hm ((m : Int) / 64) (by omega) false (by simpa using hb)
    by_cases hc : cR m 6 2 = 0
    case neg =>
      have hn1 : cntV m (3 * 2 + 0) 2 = 1 := if_neg hc
      rw [hn1]
      clear hn1
      have hng := mask_bad hm (r := 2) (k := 0) (by decide) (by decide) HG.out hb (.inl hc)
      have HNG := Lib.hid hng
      clear k1 hng
      go_wp2_with fail
      go_returns
      exact ⟨HB.out, .inl ⟨HNG.out, rfl⟩⟩
    have hn1 : cntV m (3 * 2 + 0) 2 = 0 := if_pos hc
    rw [hn1]
    clear hn1
    obtain ⟨u, hu⟩ : ∃ u, u = usedV m (3 * 2 + 0) := ⟨_, rfl⟩
    rw [← hu]
    have hu8 : u < 8 := by rw [hu]; exact used_lt _ _
    have hub : u / 2 ^ 0 % 2 = hV m 6 0 := by rw [hu]; show (hV m 6 0 + 2 * hV m 6 1 + 4 * hV m 6 2) / _ % 2 = _; have := hV_cases m 6 0; have := hV_cases m 6 1; have := hV_cases m 6 2; omega
    by_cases hd : hV m 6 0 = 1
    case pos =>
      have hs := bit_of (m := u) (d := 1) (by omega) ((u : Int)) (by omega) true (by rw [hd] at hub; simpa using hub)
      have hu9 : (u : Int) ≤ 7 := by omega
      clear hu hub hu8
      have hng := mask_bad hm (r := 2) (k := 0) (by decide) (by decide) HG.out hb (.inr hd)
      have HNG := Lib.hid hng
      clear k1 hng
      go_wp2_with fail
      go_returns
      exact ⟨HB.out, .inl ⟨HNG.out, rfl⟩⟩
    have hd0 : hV m 6 0 = 0 := by have := hV_cases m 6 0; omega
    have hs := bit_of (m := u) (d := 1) (by omega) ((u : Int)) (by omega) false (by rw [hd0] at hub; simpa using hub)
    have ho := or_of (k := 0) hu8 (by decide) (hub.trans hd0)
    obtain ⟨n1, n4, n2, n3⟩ := mask_yes hm (r := 2) (k := 0) (by decide) (by decide) HG.out hb hc hd
    have q1 : rowsA X Y Z m (3 * 2 + (0 + 1)) 4 = #[Value.int .i64 (rv (X 0) (Y 0) (Z 0) (cR m 6 0) 0), Value.int .i64 (rv (X 0) (Y 0) (Z 0) (cR m 6 0) 1), Value.int .i64 (rv (X 0) (Y 0) (Z 0) (cR m 6 0) 2), Value.int .i64 (rv (X 0) (Y 0) (Z 0) (cR m 6 0) 3), Value.int .i64 (rv (X 1) (Y 1) (Z 1) (cR m 6 1) 0), Value.int .i64 (rv (X 1) (Y 1) (Z 1) (cR m 6 1) 1), Value.int .i64 (rv (X 1) (Y 1) (Z 1) (cR m 6 1) 2), Value.int .i64 (rv (X 1) (Y 1) (Z 1) (cR m 6 1) 3), Value.int .i64 0, Value.int .i64 0, Value.int .i64 1, Value.int .i64 0, Value.int .i64 (rv (X 3) (Y 3) (Z 3) (cR m 6 3) 0), Value.int .i64 (rv (X 3) (Y 3) (Z 3) (cR m 6 3) 1), Value.int .i64 (rv (X 3) (Y 3) (Z 3) (cR m 6 3) 2), Value.int .i64 (rv (X 3) (Y 3) (Z 3) (cR m 6 3) 3)] := by
      show #[Value.int .i64 (rv (X 0) (Y 0) (Z 0) (cR m 7 0) 0), Value.int .i64 (rv (X 0) (Y 0) (Z 0) (cR m 7 0) 1), Value.int .i64 (rv (X 0) (Y 0) (Z 0) (cR m 7 0) 2), Value.int .i64 (rv (X 0) (Y 0) (Z 0) (cR m 7 0) 3), Value.int .i64 (rv (X 1) (Y 1) (Z 1) (cR m 7 1) 0), Value.int .i64 (rv (X 1) (Y 1) (Z 1) (cR m 7 1) 1), Value.int .i64 (rv (X 1) (Y 1) (Z 1) (cR m 7 1) 2), Value.int .i64 (rv (X 1) (Y 1) (Z 1) (cR m 7 1) 3), Value.int .i64 (rv (X 2) (Y 2) (Z 2) (cR m 7 2) 0), Value.int .i64 (rv (X 2) (Y 2) (Z 2) (cR m 7 2) 1), Value.int .i64 (rv (X 2) (Y 2) (Z 2) (cR m 7 2) 2), Value.int .i64 (rv (X 2) (Y 2) (Z 2) (cR m 7 2) 3), Value.int .i64 (rv (X 3) (Y 3) (Z 3) (cR m 7 3) 0), Value.int .i64 (rv (X 3) (Y 3) (Z 3) (cR m 7 3) 1), Value.int .i64 (rv (X 3) (Y 3) (Z 3) (cR m 7 3) 2), Value.int .i64 (rv (X 3) (Y 3) (Z 3) (cR m 7 3) 3)] = _
      rw [show cR m 7 0 = cR m 6 0 from n2 0 (by decide) (by decide), show cR m 7 1 = cR m 6 1 from n2 1 (by decide) (by decide), show cR m 7 2 = 1 from n4, show cR m 7 3 = cR m 6 3 from n2 3 (by decide) (by decide)]; rfl
    have q2 : usedV m (3 * 2 + (0 + 1)) = u + 1 := by rw [hu]; show hV m 7 0 + 2 * hV m 7 1 + 4 * hV m 7 2 = hV m 6 0 + 2 * hV m 6 1 + 4 * hV m 6 2 + 1; rw [show hV m 7 0 = 1 from n3 0 (by decide), show hV m 7 1 = hV m 6 1 from n3 1 (by decide), show hV m 7 2 = hV m 6 2 from n3 2 (by decide)]; omega
    have q3 : cntV m (3 * 2 + (0 + 1)) 2 = 1 := by show (if cR m 7 2 = 0 then 0 else 1) = 1; rw [show cR m 7 2 = 1 from n4]; rfl
    have N1 := Lib.hid n1; have Q1 := Lib.hid q1; have Q2 := Lib.hid q2; have Q3 := Lib.hid q3; have K1 := Lib.hid k1
    obtain ⟨kq, kr⟩ := cellB k1
    have hu9 : (u : Int) ≤ 7 := by omega
    clear n1 n2 n3 n4 q1 q2 q3 k1 hu hub hd hd0 hu8
    have HO := Lib.hid (show bits BinOp.or IntKind.i64 (u : Int) 1 = ((u + 1 : Nat) : Int) from ho)
    clear ho
    go_wp2_with fail
    go_roundw
    case rel => exact ⟨0 + 1, by decide, by go_num, by rw [Q2.out]; exact congrArg (Value.int IntKind.i64) HO.out, by rw [Q3.out]; rfl, N1.out, (by rw [Q1.out]; refine Eq.trans (set_own (set_own (set_own (set_own K1.out _) _) _) _) ?_; simp), (by have := HB.out; have := HVS.out; refine Lib.hid ?_; go_grown), (by have := HZ.out; refine Lib.hid ?_; simpa using this)⟩
    case measure => simp [intOf]
  · have k1 : wr.heap[V.heap.size]? = some (.cells #[Value.int .i64 (rv (X 0) (Y 0) (Z 0) (cR m 7 0) 0), Value.int .i64 (rv (X 0) (Y 0) (Z 0) (cR m 7 0) 1), Value.int .i64 (rv (X 0) (Y 0) (Z 0) (cR m 7 0) 2), Value.int .i64 (rv (X 0) (Y 0) (Z 0) (cR m 7 0) 3), Value.int .i64 (rv (X 1) (Y 1) (Z 1) (cR m 7 1) 0), Value.int .i64 (rv (X 1) (Y 1) (Z 1) (cR m 7 1) 1), Value.int .i64 (rv (X 1) (Y 1) (Z 1) (cR m 7 1) 2), Value.int .i64 (rv (X 1) (Y 1) (Z 1) (cR m 7 1) 3), Value.int .i64 (rv (X 2) (Y 2) (Z 2) (cR m 7 2) 0), Value.int .i64 (rv (X 2) (Y 2) (Z 2) (cR m 7 2) 1), Value.int .i64 (rv (X 2) (Y 2) (Z 2) (cR m 7 2) 2), Value.int .i64 (rv (X 2) (Y 2) (Z 2) (cR m 7 2) 3), Value.int .i64 (rv (X 3) (Y 3) (Z 3) (cR m 7 3) 0), Value.int .i64 (rv (X 3) (Y 3) (Z 3) (cR m 7 3) 1), Value.int .i64 (rv (X 3) (Y 3) (Z 3) (cR m 7 3) 2), Value.int .i64 (rv (X 3) (Y 3) (Z 3) (cR m 7 3) 3)] 92 (0, 0)) := H1.out
    have hz := HZ.out
    clear H1
    have hb : ¬ m / 2 ^ (3 * 2 + 1) % 2 = 1 := by rw [Nat.div_eq_of_lt (show m < 2 ^ (3 * 2 + 1) by omega)]; decide
    have hb' := bit0_of (d := 128) hm ((m : Int) / 128) (by omega) true (by simpa using hb)
    obtain ⟨n1, n2, n3⟩ := mask_no hm (r := 2) (k := 1) (by decide) (by decide) HG.out hb
    have q1 : rowsA X Y Z m (3 * 2 + (1 + 1)) 4 = #[Value.int .i64 (rv (X 0) (Y 0) (Z 0) (cR m 7 0) 0), Value.int .i64 (rv (X 0) (Y 0) (Z 0) (cR m 7 0) 1), Value.int .i64 (rv (X 0) (Y 0) (Z 0) (cR m 7 0) 2), Value.int .i64 (rv (X 0) (Y 0) (Z 0) (cR m 7 0) 3), Value.int .i64 (rv (X 1) (Y 1) (Z 1) (cR m 7 1) 0), Value.int .i64 (rv (X 1) (Y 1) (Z 1) (cR m 7 1) 1), Value.int .i64 (rv (X 1) (Y 1) (Z 1) (cR m 7 1) 2), Value.int .i64 (rv (X 1) (Y 1) (Z 1) (cR m 7 1) 3), Value.int .i64 (rv (X 2) (Y 2) (Z 2) (cR m 7 2) 0), Value.int .i64 (rv (X 2) (Y 2) (Z 2) (cR m 7 2) 1), Value.int .i64 (rv (X 2) (Y 2) (Z 2) (cR m 7 2) 2), Value.int .i64 (rv (X 2) (Y 2) (Z 2) (cR m 7 2) 3), Value.int .i64 (rv (X 3) (Y 3) (Z 3) (cR m 7 3) 0), Value.int .i64 (rv (X 3) (Y 3) (Z 3) (cR m 7 3) 1), Value.int .i64 (rv (X 3) (Y 3) (Z 3) (cR m 7 3) 2), Value.int .i64 (rv (X 3) (Y 3) (Z 3) (cR m 7 3) 3)] := by
      show #[Value.int .i64 (rv (X 0) (Y 0) (Z 0) (cR m 8 0) 0), Value.int .i64 (rv (X 0) (Y 0) (Z 0) (cR m 8 0) 1), Value.int .i64 (rv (X 0) (Y 0) (Z 0) (cR m 8 0) 2), Value.int .i64 (rv (X 0) (Y 0) (Z 0) (cR m 8 0) 3), Value.int .i64 (rv (X 1) (Y 1) (Z 1) (cR m 8 1) 0), Value.int .i64 (rv (X 1) (Y 1) (Z 1) (cR m 8 1) 1), Value.int .i64 (rv (X 1) (Y 1) (Z 1) (cR m 8 1) 2), Value.int .i64 (rv (X 1) (Y 1) (Z 1) (cR m 8 1) 3), Value.int .i64 (rv (X 2) (Y 2) (Z 2) (cR m 8 2) 0), Value.int .i64 (rv (X 2) (Y 2) (Z 2) (cR m 8 2) 1), Value.int .i64 (rv (X 2) (Y 2) (Z 2) (cR m 8 2) 2), Value.int .i64 (rv (X 2) (Y 2) (Z 2) (cR m 8 2) 3), Value.int .i64 (rv (X 3) (Y 3) (Z 3) (cR m 8 3) 0), Value.int .i64 (rv (X 3) (Y 3) (Z 3) (cR m 8 3) 1), Value.int .i64 (rv (X 3) (Y 3) (Z 3) (cR m 8 3) 2), Value.int .i64 (rv (X 3) (Y 3) (Z 3) (cR m 8 3) 3)] = _
      rw [show cR m 8 0 = cR m 7 0 from n2 0 (by decide), show cR m 8 1 = cR m 7 1 from n2 1 (by decide), show cR m 8 2 = cR m 7 2 from n2 2 (by decide), show cR m 8 3 = cR m 7 3 from n2 3 (by decide)]
    have q2 : usedV m (3 * 2 + (1 + 1)) = usedV m (3 * 2 + 1) := by show hV m 8 0 + 2 * hV m 8 1 + 4 * hV m 8 2 = _; rw [show hV m 8 0 = hV m 7 0 from n3 0 (by decide), show hV m 8 1 = hV m 7 1 from n3 1 (by decide), show hV m 8 2 = hV m 7 2 from n3 2 (by decide)]; rfl
    have q3 : cntV m (3 * 2 + (1 + 1)) 2 = cntV m (3 * 2 + 1) 2 := by show (if cR m 8 2 = 0 then 0 else 1) = _; rw [show cR m 8 2 = cR m 7 2 from n2 2 (by decide)]; rfl
    have N1 := Lib.hid n1; have Q1 := Lib.hid q1; have Q2 := Lib.hid q2; have Q3 := Lib.hid q3; have K1 := Lib.hid k1
    clear n1 n2 n3 q1 q2 q3 k1
    go_wp2_with fail
    go_roundw
    case rel => exact ⟨1 + 1, by decide, by go_num, by rw [Q2.out], by rw [Q3.out], N1.out, (by rw [Q1.out]; exact K1.out), HB, HZ⟩
    case measure => simp [intOf]
  · have k1 : wr.heap[V.heap.size]? = some (.cells #[Value.int .i64 (rv (X 0) (Y 0) (Z 0) (cR m 8 0) 0), Value.int .i64 (rv (X 0) (Y 0) (Z 0) (cR m 8 0) 1), Value.int .i64 (rv (X 0) (Y 0) (Z 0) (cR m 8 0) 2), Value.int .i64 (rv (X 0) (Y 0) (Z 0) (cR m 8 0) 3), Value.int .i64 (rv (X 1) (Y 1) (Z 1) (cR m 8 1) 0), Value.int .i64 (rv (X 1) (Y 1) (Z 1) (cR m 8 1) 1), Value.int .i64 (rv (X 1) (Y 1) (Z 1) (cR m 8 1) 2), Value.int .i64 (rv (X 1) (Y 1) (Z 1) (cR m 8 1) 3), Value.int .i64 (rv (X 2) (Y 2) (Z 2) (cR m 8 2) 0), Value.int .i64 (rv (X 2) (Y 2) (Z 2) (cR m 8 2) 1), Value.int .i64 (rv (X 2) (Y 2) (Z 2) (cR m 8 2) 2), Value.int .i64 (rv (X 2) (Y 2) (Z 2) (cR m 8 2) 3), Value.int .i64 (rv (X 3) (Y 3) (Z 3) (cR m 8 3) 0), Value.int .i64 (rv (X 3) (Y 3) (Z 3) (cR m 8 3) 1), Value.int .i64 (rv (X 3) (Y 3) (Z 3) (cR m 8 3) 2), Value.int .i64 (rv (X 3) (Y 3) (Z 3) (cR m 8 3) 3)] 92 (0, 0)) := H1.out
    have hz := HZ.out
    clear H1
    have hb : ¬ m / 2 ^ (3 * 2 + 2) % 2 = 1 := by rw [Nat.div_eq_of_lt (show m < 2 ^ (3 * 2 + 2) by omega)]; decide
    have hb' := bit0_of (d := 256) hm ((m : Int) / 256) (by omega) true (by simpa using hb)
    obtain ⟨n1, n2, n3⟩ := mask_no hm (r := 2) (k := 2) (by decide) (by decide) HG.out hb
    have q1 : rowsA X Y Z m (3 * 2 + (2 + 1)) 4 = #[Value.int .i64 (rv (X 0) (Y 0) (Z 0) (cR m 8 0) 0), Value.int .i64 (rv (X 0) (Y 0) (Z 0) (cR m 8 0) 1), Value.int .i64 (rv (X 0) (Y 0) (Z 0) (cR m 8 0) 2), Value.int .i64 (rv (X 0) (Y 0) (Z 0) (cR m 8 0) 3), Value.int .i64 (rv (X 1) (Y 1) (Z 1) (cR m 8 1) 0), Value.int .i64 (rv (X 1) (Y 1) (Z 1) (cR m 8 1) 1), Value.int .i64 (rv (X 1) (Y 1) (Z 1) (cR m 8 1) 2), Value.int .i64 (rv (X 1) (Y 1) (Z 1) (cR m 8 1) 3), Value.int .i64 (rv (X 2) (Y 2) (Z 2) (cR m 8 2) 0), Value.int .i64 (rv (X 2) (Y 2) (Z 2) (cR m 8 2) 1), Value.int .i64 (rv (X 2) (Y 2) (Z 2) (cR m 8 2) 2), Value.int .i64 (rv (X 2) (Y 2) (Z 2) (cR m 8 2) 3), Value.int .i64 (rv (X 3) (Y 3) (Z 3) (cR m 8 3) 0), Value.int .i64 (rv (X 3) (Y 3) (Z 3) (cR m 8 3) 1), Value.int .i64 (rv (X 3) (Y 3) (Z 3) (cR m 8 3) 2), Value.int .i64 (rv (X 3) (Y 3) (Z 3) (cR m 8 3) 3)] := by
      show #[Value.int .i64 (rv (X 0) (Y 0) (Z 0) (cR m 9 0) 0), Value.int .i64 (rv (X 0) (Y 0) (Z 0) (cR m 9 0) 1), Value.int .i64 (rv (X 0) (Y 0) (Z 0) (cR m 9 0) 2), Value.int .i64 (rv (X 0) (Y 0) (Z 0) (cR m 9 0) 3), Value.int .i64 (rv (X 1) (Y 1) (Z 1) (cR m 9 1) 0), Value.int .i64 (rv (X 1) (Y 1) (Z 1) (cR m 9 1) 1), Value.int .i64 (rv (X 1) (Y 1) (Z 1) (cR m 9 1) 2), Value.int .i64 (rv (X 1) (Y 1) (Z 1) (cR m 9 1) 3), Value.int .i64 (rv (X 2) (Y 2) (Z 2) (cR m 9 2) 0), Value.int .i64 (rv (X 2) (Y 2) (Z 2) (cR m 9 2) 1), Value.int .i64 (rv (X 2) (Y 2) (Z 2) (cR m 9 2) 2), Value.int .i64 (rv (X 2) (Y 2) (Z 2) (cR m 9 2) 3), Value.int .i64 (rv (X 3) (Y 3) (Z 3) (cR m 9 3) 0), Value.int .i64 (rv (X 3) (Y 3) (Z 3) (cR m 9 3) 1), Value.int .i64 (rv (X 3) (Y 3) (Z 3) (cR m 9 3) 2), Value.int .i64 (rv (X 3) (Y 3) (Z 3) (cR m 9 3) 3)] = _
      rw [show cR m 9 0 = cR m 8 0 from n2 0 (by decide), show cR m 9 1 = cR m 8 1 from n2 1 (by decide), show cR m 9 2 = cR m 8 2 from n2 2 (by decide), show cR m 9 3 = cR m 8 3 from n2 3 (by decide)]
    have q2 : usedV m (3 * 2 + (2 + 1)) = usedV m (3 * 2 + 2) := by show hV m 9 0 + 2 * hV m 9 1 + 4 * hV m 9 2 = _; rw [show hV m 9 0 = hV m 8 0 from n3 0 (by decide), show hV m 9 1 = hV m 8 1 from n3 1 (by decide), show hV m 9 2 = hV m 8 2 from n3 2 (by decide)]; rfl
    have q3 : cntV m (3 * 2 + (2 + 1)) 2 = cntV m (3 * 2 + 2) 2 := by show (if cR m 9 2 = 0 then 0 else 1) = _; rw [show cR m 9 2 = cR m 8 2 from n2 2 (by decide)]; rfl
    have N1 := Lib.hid n1; have Q1 := Lib.hid q1; have Q2 := Lib.hid q2; have Q3 := Lib.hid q3; have K1 := Lib.hid k1
    clear n1 n2 n3 q1 q2 q3 k1
    go_wp2_with fail
    go_roundw
    case rel => exact ⟨2 + 1, by decide, by go_num, by rw [Q2.out], by rw [Q3.out], N1.out, (by rw [Q1.out]; exact K1.out), HB, HZ⟩
    case measure => simp [intOf]
  obtain ⟨S2, rfl⟩ : ∃ S, S = wr := ⟨_, rfl⟩
  have k1 : S2.heap[V.heap.size]? = some (.cells (rowsA X Y Z m (3 * 3 + 0) 4) 92 (0, 0)) := H1.out
  replace HG : Hid (good m (3 * 3 + 0) = true) := HG.out
  have hB := HB.out; have hz := HZ.out
  have K1 := Lib.hid k1
  clear H1 HB HZ k1
  go_wp2_with fail
  rw [rounds_succ]
  go_wp2_with fail
  have k1 := K1.out
  clear K1
  have hn : Value.int .i64 0 = .int .i64 (cntV m (3 * 3 + 0) 3 : Nat) := by unfold cntV; rw [if_pos (code0 (by decide))]; rfl
  go_loopw [7, 9, 10] (fun u n kk wx => ∃ k : Nat, k ≤ 3 ∧ kk = .int .i64 k ∧ u = .int .i64 (usedV m (3 * 3 + k) : Nat) ∧ n = .int .i64 (cntV m (3 * 3 + k) 3 : Nat) ∧ Hid (good m (3 * 3 + k) = true) ∧ Hid (wx.heap[V.heap.size]? = some (.cells (rowsA X Y Z m (3 * 3 + k) 4) 92 (0, 0))) ∧ Hid (Below w.heap.size w wx) ∧ Hid (V.heap.size < wx.heap.size))
    (fun _ _ kk _ => 3 - (intOf kk).toNat)
  case atStart => exact ⟨0, by decide, rfl, rfl, hn, HG, k1, hB, hz⟩
  clear k1 hB hz HG hn
  obtain ⟨k, hk, rfl, rfl, rfl, HG, H1, HB, HZ⟩ := hrel
  have hk3 : k = 0 ∨ k = 1 ∨ k = 2 ∨ k = 3 := by omega
  clear hk
  rcases hk3 with rfl | rfl | rfl | rfl
  · have k1 : wr.heap[V.heap.size]? = some (.cells #[Value.int .i64 (rv (X 0) (Y 0) (Z 0) (cR m 9 0) 0), Value.int .i64 (rv (X 0) (Y 0) (Z 0) (cR m 9 0) 1), Value.int .i64 (rv (X 0) (Y 0) (Z 0) (cR m 9 0) 2), Value.int .i64 (rv (X 0) (Y 0) (Z 0) (cR m 9 0) 3), Value.int .i64 (rv (X 1) (Y 1) (Z 1) (cR m 9 1) 0), Value.int .i64 (rv (X 1) (Y 1) (Z 1) (cR m 9 1) 1), Value.int .i64 (rv (X 1) (Y 1) (Z 1) (cR m 9 1) 2), Value.int .i64 (rv (X 1) (Y 1) (Z 1) (cR m 9 1) 3), Value.int .i64 (rv (X 2) (Y 2) (Z 2) (cR m 9 2) 0), Value.int .i64 (rv (X 2) (Y 2) (Z 2) (cR m 9 2) 1), Value.int .i64 (rv (X 2) (Y 2) (Z 2) (cR m 9 2) 2), Value.int .i64 (rv (X 2) (Y 2) (Z 2) (cR m 9 2) 3), Value.int .i64 (rv (X 3) (Y 3) (Z 3) (cR m 9 3) 0), Value.int .i64 (rv (X 3) (Y 3) (Z 3) (cR m 9 3) 1), Value.int .i64 (rv (X 3) (Y 3) (Z 3) (cR m 9 3) 2), Value.int .i64 (rv (X 3) (Y 3) (Z 3) (cR m 9 3) 3)] 92 (0, 0)) := H1.out
    have hz := HZ.out
    clear H1
    have hb : ¬ m / 2 ^ (3 * 3 + 0) % 2 = 1 := by rw [Nat.div_eq_of_lt (show m < 2 ^ (3 * 3 + 0) by omega)]; decide
    have hb' := bit0_of (d := 512) hm ((m : Int) / 512) (by omega) true (by simpa using hb)
    obtain ⟨n1, n2, n3⟩ := mask_no hm (r := 3) (k := 0) (by decide) (by decide) HG.out hb
    have q1 : rowsA X Y Z m (3 * 3 + (0 + 1)) 4 = #[Value.int .i64 (rv (X 0) (Y 0) (Z 0) (cR m 9 0) 0), Value.int .i64 (rv (X 0) (Y 0) (Z 0) (cR m 9 0) 1), Value.int .i64 (rv (X 0) (Y 0) (Z 0) (cR m 9 0) 2), Value.int .i64 (rv (X 0) (Y 0) (Z 0) (cR m 9 0) 3), Value.int .i64 (rv (X 1) (Y 1) (Z 1) (cR m 9 1) 0), Value.int .i64 (rv (X 1) (Y 1) (Z 1) (cR m 9 1) 1), Value.int .i64 (rv (X 1) (Y 1) (Z 1) (cR m 9 1) 2), Value.int .i64 (rv (X 1) (Y 1) (Z 1) (cR m 9 1) 3), Value.int .i64 (rv (X 2) (Y 2) (Z 2) (cR m 9 2) 0), Value.int .i64 (rv (X 2) (Y 2) (Z 2) (cR m 9 2) 1), Value.int .i64 (rv (X 2) (Y 2) (Z 2) (cR m 9 2) 2), Value.int .i64 (rv (X 2) (Y 2) (Z 2) (cR m 9 2) 3), Value.int .i64 (rv (X 3) (Y 3) (Z 3) (cR m 9 3) 0), Value.int .i64 (rv (X 3) (Y 3) (Z 3) (cR m 9 3) 1), Value.int .i64 (rv (X 3) (Y 3) (Z 3) (cR m 9 3) 2), Value.int .i64 (rv (X 3) (Y 3) (Z 3) (cR m 9 3) 3)] := by
      show #[Value.int .i64 (rv (X 0) (Y 0) (Z 0) (cR m 10 0) 0), Value.int .i64 (rv (X 0) (Y 0) (Z 0) (cR m 10 0) 1), Value.int .i64 (rv (X 0) (Y 0) (Z 0) (cR m 10 0) 2), Value.int .i64 (rv (X 0) (Y 0) (Z 0) (cR m 10 0) 3), Value.int .i64 (rv (X 1) (Y 1) (Z 1) (cR m 10 1) 0), Value.int .i64 (rv (X 1) (Y 1) (Z 1) (cR m 10 1) 1), Value.int .i64 (rv (X 1) (Y 1) (Z 1) (cR m 10 1) 2), Value.int .i64 (rv (X 1) (Y 1) (Z 1) (cR m 10 1) 3), Value.int .i64 (rv (X 2) (Y 2) (Z 2) (cR m 10 2) 0), Value.int .i64 (rv (X 2) (Y 2) (Z 2) (cR m 10 2) 1), Value.int .i64 (rv (X 2) (Y 2) (Z 2) (cR m 10 2) 2), Value.int .i64 (rv (X 2) (Y 2) (Z 2) (cR m 10 2) 3), Value.int .i64 (rv (X 3) (Y 3) (Z 3) (cR m 10 3) 0), Value.int .i64 (rv (X 3) (Y 3) (Z 3) (cR m 10 3) 1), Value.int .i64 (rv (X 3) (Y 3) (Z 3) (cR m 10 3) 2), Value.int .i64 (rv (X 3) (Y 3) (Z 3) (cR m 10 3) 3)] = _
      rw [show cR m 10 0 = cR m 9 0 from n2 0 (by decide), show cR m 10 1 = cR m 9 1 from n2 1 (by decide), show cR m 10 2 = cR m 9 2 from n2 2 (by decide), show cR m 10 3 = cR m 9 3 from n2 3 (by decide)]
    have q2 : usedV m (3 * 3 + (0 + 1)) = usedV m (3 * 3 + 0) := by show hV m 10 0 + 2 * hV m 10 1 + 4 * hV m 10 2 = _; rw [show hV m 10 0 = hV m 9 0 from n3 0 (by decide), show hV m 10 1 = hV m 9 1 from n3 1 (by decide), show hV m 10 2 = hV m 9 2 from n3 2 (by decide)]; rfl
    have q3 : cntV m (3 * 3 + (0 + 1)) 3 = cntV m (3 * 3 + 0) 3 := by show (if cR m 10 3 = 0 then 0 else 1) = _; rw [show cR m 10 3 = cR m 9 3 from n2 3 (by decide)]; rfl
    have N1 := Lib.hid n1; have Q1 := Lib.hid q1; have Q2 := Lib.hid q2; have Q3 := Lib.hid q3; have K1 := Lib.hid k1
    clear n1 n2 n3 q1 q2 q3 k1
    go_wp2_with fail
    go_roundw
    case rel => exact ⟨0 + 1, by decide, by go_num, by rw [Q2.out], by rw [Q3.out], N1.out, (by rw [Q1.out]; exact K1.out), HB, HZ⟩
    case measure => simp [intOf]
  · have k1 : wr.heap[V.heap.size]? = some (.cells #[Value.int .i64 (rv (X 0) (Y 0) (Z 0) (cR m 10 0) 0), Value.int .i64 (rv (X 0) (Y 0) (Z 0) (cR m 10 0) 1), Value.int .i64 (rv (X 0) (Y 0) (Z 0) (cR m 10 0) 2), Value.int .i64 (rv (X 0) (Y 0) (Z 0) (cR m 10 0) 3), Value.int .i64 (rv (X 1) (Y 1) (Z 1) (cR m 10 1) 0), Value.int .i64 (rv (X 1) (Y 1) (Z 1) (cR m 10 1) 1), Value.int .i64 (rv (X 1) (Y 1) (Z 1) (cR m 10 1) 2), Value.int .i64 (rv (X 1) (Y 1) (Z 1) (cR m 10 1) 3), Value.int .i64 (rv (X 2) (Y 2) (Z 2) (cR m 10 2) 0), Value.int .i64 (rv (X 2) (Y 2) (Z 2) (cR m 10 2) 1), Value.int .i64 (rv (X 2) (Y 2) (Z 2) (cR m 10 2) 2), Value.int .i64 (rv (X 2) (Y 2) (Z 2) (cR m 10 2) 3), Value.int .i64 (rv (X 3) (Y 3) (Z 3) (cR m 10 3) 0), Value.int .i64 (rv (X 3) (Y 3) (Z 3) (cR m 10 3) 1), Value.int .i64 (rv (X 3) (Y 3) (Z 3) (cR m 10 3) 2), Value.int .i64 (rv (X 3) (Y 3) (Z 3) (cR m 10 3) 3)] 92 (0, 0)) := H1.out
    have hz := HZ.out
    clear H1
    have hb : ¬ m / 2 ^ (3 * 3 + 1) % 2 = 1 := by rw [Nat.div_eq_of_lt (show m < 2 ^ (3 * 3 + 1) by omega)]; decide
    have hb' := bit0_of (d := 1024) hm ((m : Int) / 1024) (by omega) true (by simpa using hb)
    obtain ⟨n1, n2, n3⟩ := mask_no hm (r := 3) (k := 1) (by decide) (by decide) HG.out hb
    have q1 : rowsA X Y Z m (3 * 3 + (1 + 1)) 4 = #[Value.int .i64 (rv (X 0) (Y 0) (Z 0) (cR m 10 0) 0), Value.int .i64 (rv (X 0) (Y 0) (Z 0) (cR m 10 0) 1), Value.int .i64 (rv (X 0) (Y 0) (Z 0) (cR m 10 0) 2), Value.int .i64 (rv (X 0) (Y 0) (Z 0) (cR m 10 0) 3), Value.int .i64 (rv (X 1) (Y 1) (Z 1) (cR m 10 1) 0), Value.int .i64 (rv (X 1) (Y 1) (Z 1) (cR m 10 1) 1), Value.int .i64 (rv (X 1) (Y 1) (Z 1) (cR m 10 1) 2), Value.int .i64 (rv (X 1) (Y 1) (Z 1) (cR m 10 1) 3), Value.int .i64 (rv (X 2) (Y 2) (Z 2) (cR m 10 2) 0), Value.int .i64 (rv (X 2) (Y 2) (Z 2) (cR m 10 2) 1), Value.int .i64 (rv (X 2) (Y 2) (Z 2) (cR m 10 2) 2), Value.int .i64 (rv (X 2) (Y 2) (Z 2) (cR m 10 2) 3), Value.int .i64 (rv (X 3) (Y 3) (Z 3) (cR m 10 3) 0), Value.int .i64 (rv (X 3) (Y 3) (Z 3) (cR m 10 3) 1), Value.int .i64 (rv (X 3) (Y 3) (Z 3) (cR m 10 3) 2), Value.int .i64 (rv (X 3) (Y 3) (Z 3) (cR m 10 3) 3)] := by
      show #[Value.int .i64 (rv (X 0) (Y 0) (Z 0) (cR m 11 0) 0), Value.int .i64 (rv (X 0) (Y 0) (Z 0) (cR m 11 0) 1), Value.int .i64 (rv (X 0) (Y 0) (Z 0) (cR m 11 0) 2), Value.int .i64 (rv (X 0) (Y 0) (Z 0) (cR m 11 0) 3), Value.int .i64 (rv (X 1) (Y 1) (Z 1) (cR m 11 1) 0), Value.int .i64 (rv (X 1) (Y 1) (Z 1) (cR m 11 1) 1), Value.int .i64 (rv (X 1) (Y 1) (Z 1) (cR m 11 1) 2), Value.int .i64 (rv (X 1) (Y 1) (Z 1) (cR m 11 1) 3), Value.int .i64 (rv (X 2) (Y 2) (Z 2) (cR m 11 2) 0), Value.int .i64 (rv (X 2) (Y 2) (Z 2) (cR m 11 2) 1), Value.int .i64 (rv (X 2) (Y 2) (Z 2) (cR m 11 2) 2), Value.int .i64 (rv (X 2) (Y 2) (Z 2) (cR m 11 2) 3), Value.int .i64 (rv (X 3) (Y 3) (Z 3) (cR m 11 3) 0), Value.int .i64 (rv (X 3) (Y 3) (Z 3) (cR m 11 3) 1), Value.int .i64 (rv (X 3) (Y 3) (Z 3) (cR m 11 3) 2), Value.int .i64 (rv (X 3) (Y 3) (Z 3) (cR m 11 3) 3)] = _
      rw [show cR m 11 0 = cR m 10 0 from n2 0 (by decide), show cR m 11 1 = cR m 10 1 from n2 1 (by decide), show cR m 11 2 = cR m 10 2 from n2 2 (by decide), show cR m 11 3 = cR m 10 3 from n2 3 (by decide)]
    have q2 : usedV m (3 * 3 + (1 + 1)) = usedV m (3 * 3 + 1) := by show hV m 11 0 + 2 * hV m 11 1 + 4 * hV m 11 2 = _; rw [show hV m 11 0 = hV m 10 0 from n3 0 (by decide), show hV m 11 1 = hV m 10 1 from n3 1 (by decide), show hV m 11 2 = hV m 10 2 from n3 2 (by decide)]; rfl
    have q3 : cntV m (3 * 3 + (1 + 1)) 3 = cntV m (3 * 3 + 1) 3 := by show (if cR m 11 3 = 0 then 0 else 1) = _; rw [show cR m 11 3 = cR m 10 3 from n2 3 (by decide)]; rfl
    have N1 := Lib.hid n1; have Q1 := Lib.hid q1; have Q2 := Lib.hid q2; have Q3 := Lib.hid q3; have K1 := Lib.hid k1
    clear n1 n2 n3 q1 q2 q3 k1
    go_wp2_with fail
    go_roundw
    case rel => exact ⟨1 + 1, by decide, by go_num, by rw [Q2.out], by rw [Q3.out], N1.out, (by rw [Q1.out]; exact K1.out), HB, HZ⟩
    case measure => simp [intOf]
  · have k1 : wr.heap[V.heap.size]? = some (.cells #[Value.int .i64 (rv (X 0) (Y 0) (Z 0) (cR m 11 0) 0), Value.int .i64 (rv (X 0) (Y 0) (Z 0) (cR m 11 0) 1), Value.int .i64 (rv (X 0) (Y 0) (Z 0) (cR m 11 0) 2), Value.int .i64 (rv (X 0) (Y 0) (Z 0) (cR m 11 0) 3), Value.int .i64 (rv (X 1) (Y 1) (Z 1) (cR m 11 1) 0), Value.int .i64 (rv (X 1) (Y 1) (Z 1) (cR m 11 1) 1), Value.int .i64 (rv (X 1) (Y 1) (Z 1) (cR m 11 1) 2), Value.int .i64 (rv (X 1) (Y 1) (Z 1) (cR m 11 1) 3), Value.int .i64 (rv (X 2) (Y 2) (Z 2) (cR m 11 2) 0), Value.int .i64 (rv (X 2) (Y 2) (Z 2) (cR m 11 2) 1), Value.int .i64 (rv (X 2) (Y 2) (Z 2) (cR m 11 2) 2), Value.int .i64 (rv (X 2) (Y 2) (Z 2) (cR m 11 2) 3), Value.int .i64 (rv (X 3) (Y 3) (Z 3) (cR m 11 3) 0), Value.int .i64 (rv (X 3) (Y 3) (Z 3) (cR m 11 3) 1), Value.int .i64 (rv (X 3) (Y 3) (Z 3) (cR m 11 3) 2), Value.int .i64 (rv (X 3) (Y 3) (Z 3) (cR m 11 3) 3)] 92 (0, 0)) := H1.out
    have hz := HZ.out
    clear H1
    have hb : ¬ m / 2 ^ (3 * 3 + 2) % 2 = 1 := by rw [Nat.div_eq_of_lt (show m < 2 ^ (3 * 3 + 2) by omega)]; decide
    have hb' := bit0_of (d := 2048) hm ((m : Int) / 2048) (by omega) true (by simpa using hb)
    obtain ⟨n1, n2, n3⟩ := mask_no hm (r := 3) (k := 2) (by decide) (by decide) HG.out hb
    have q1 : rowsA X Y Z m (3 * 3 + (2 + 1)) 4 = #[Value.int .i64 (rv (X 0) (Y 0) (Z 0) (cR m 11 0) 0), Value.int .i64 (rv (X 0) (Y 0) (Z 0) (cR m 11 0) 1), Value.int .i64 (rv (X 0) (Y 0) (Z 0) (cR m 11 0) 2), Value.int .i64 (rv (X 0) (Y 0) (Z 0) (cR m 11 0) 3), Value.int .i64 (rv (X 1) (Y 1) (Z 1) (cR m 11 1) 0), Value.int .i64 (rv (X 1) (Y 1) (Z 1) (cR m 11 1) 1), Value.int .i64 (rv (X 1) (Y 1) (Z 1) (cR m 11 1) 2), Value.int .i64 (rv (X 1) (Y 1) (Z 1) (cR m 11 1) 3), Value.int .i64 (rv (X 2) (Y 2) (Z 2) (cR m 11 2) 0), Value.int .i64 (rv (X 2) (Y 2) (Z 2) (cR m 11 2) 1), Value.int .i64 (rv (X 2) (Y 2) (Z 2) (cR m 11 2) 2), Value.int .i64 (rv (X 2) (Y 2) (Z 2) (cR m 11 2) 3), Value.int .i64 (rv (X 3) (Y 3) (Z 3) (cR m 11 3) 0), Value.int .i64 (rv (X 3) (Y 3) (Z 3) (cR m 11 3) 1), Value.int .i64 (rv (X 3) (Y 3) (Z 3) (cR m 11 3) 2), Value.int .i64 (rv (X 3) (Y 3) (Z 3) (cR m 11 3) 3)] := by
      show #[Value.int .i64 (rv (X 0) (Y 0) (Z 0) (cR m 12 0) 0), Value.int .i64 (rv (X 0) (Y 0) (Z 0) (cR m 12 0) 1), Value.int .i64 (rv (X 0) (Y 0) (Z 0) (cR m 12 0) 2), Value.int .i64 (rv (X 0) (Y 0) (Z 0) (cR m 12 0) 3), Value.int .i64 (rv (X 1) (Y 1) (Z 1) (cR m 12 1) 0), Value.int .i64 (rv (X 1) (Y 1) (Z 1) (cR m 12 1) 1), Value.int .i64 (rv (X 1) (Y 1) (Z 1) (cR m 12 1) 2), Value.int .i64 (rv (X 1) (Y 1) (Z 1) (cR m 12 1) 3), Value.int .i64 (rv (X 2) (Y 2) (Z 2) (cR m 12 2) 0), Value.int .i64 (rv (X 2) (Y 2) (Z 2) (cR m 12 2) 1), Value.int .i64 (rv (X 2) (Y 2) (Z 2) (cR m 12 2) 2), Value.int .i64 (rv (X 2) (Y 2) (Z 2) (cR m 12 2) 3), Value.int .i64 (rv (X 3) (Y 3) (Z 3) (cR m 12 3) 0), Value.int .i64 (rv (X 3) (Y 3) (Z 3) (cR m 12 3) 1), Value.int .i64 (rv (X 3) (Y 3) (Z 3) (cR m 12 3) 2), Value.int .i64 (rv (X 3) (Y 3) (Z 3) (cR m 12 3) 3)] = _
      rw [show cR m 12 0 = cR m 11 0 from n2 0 (by decide), show cR m 12 1 = cR m 11 1 from n2 1 (by decide), show cR m 12 2 = cR m 11 2 from n2 2 (by decide), show cR m 12 3 = cR m 11 3 from n2 3 (by decide)]
    have q2 : usedV m (3 * 3 + (2 + 1)) = usedV m (3 * 3 + 2) := by show hV m 12 0 + 2 * hV m 12 1 + 4 * hV m 12 2 = _; rw [show hV m 12 0 = hV m 11 0 from n3 0 (by decide), show hV m 12 1 = hV m 11 1 from n3 1 (by decide), show hV m 12 2 = hV m 11 2 from n3 2 (by decide)]; rfl
    have q3 : cntV m (3 * 3 + (2 + 1)) 3 = cntV m (3 * 3 + 2) 3 := by show (if cR m 12 3 = 0 then 0 else 1) = _; rw [show cR m 12 3 = cR m 11 3 from n2 3 (by decide)]; rfl
    have N1 := Lib.hid n1; have Q1 := Lib.hid q1; have Q2 := Lib.hid q2; have Q3 := Lib.hid q3; have K1 := Lib.hid k1
    clear n1 n2 n3 q1 q2 q3 k1
    go_wp2_with fail
    go_roundw
    case rel => exact ⟨2 + 1, by decide, by go_num, by rw [Q2.out], by rw [Q3.out], N1.out, (by rw [Q1.out]; exact K1.out), HB, HZ⟩
    case measure => simp [intOf]
  obtain ⟨S3, rfl⟩ : ∃ S, S = wr := ⟨_, rfl⟩
  have k1 : S3.heap[V.heap.size]? = some (.cells (rowsA X Y Z m (3 * 4 + 0) 4) 92 (0, 0)) := H1.out
  replace HG : Hid (good m (3 * 4 + 0) = true) := HG.out
  have hB := HB.out; have hz := HZ.out
  have K1 := Lib.hid k1
  clear H1 HB HZ k1
  go_wp2_with fail
  rw [rounds_succ]
  go_wp2_with fail
  go_returns
  exact ⟨hB, .inr ⟨HG.out, _, HVS.out, K1.out, rfl⟩⟩
end Go.Proofs.Ytdglijdiiggdgaa
