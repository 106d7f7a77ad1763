import Derived.Test.YtdglijdiiggdgaaSAll
namespace Go.Proofs.Ytdglijdiiggdgaa
open Go.RowKit Geo
def pass3 (s : St4) : St4 := swp 2 (swp 1 (swp 0 s))
theorem swp_mod (p q : Nat) (h : p % 3 = q % 3) (s : St4) : swp p s = swp q s := by unfold swp; rw [h]
theorem bub9 (s : St4) : bub 9 0 s = pass3 (pass3 (pass3 s)) := by
  show bub (0 + 1 + 1 + 1 + 1 + 1 + 1 + 1 + 1 + 1) 0 s = _
  simp only [bub, Nat.zero_add]
  unfold pass3
  rw [swp_mod 3 0 rfl, swp_mod 4 1 rfl, swp_mod 5 2 rfl, swp_mod 6 0 rfl, swp_mod 7 1 rfl, swp_mod 8 2 rfl]
theorem bub12 (s : St4) : bub 12 0 s = pass3 (pass3 (pass3 (pass3 s))) := by
  show bub (0 + 1 + 1 + 1 + 1 + 1 + 1 + 1 + 1 + 1 + 1 + 1 + 1) 0 s = _
  simp only [bub, Nat.zero_add]
  unfold pass3
  rw [swp_mod 3 0 rfl, swp_mod 4 1 rfl, swp_mod 5 2 rfl, swp_mod 6 0 rfl, swp_mod 7 1 rfl, swp_mod 8 2 rfl, swp_mod 9 0 rfl, swp_mod 10 1 rfl, swp_mod 11 2 rfl]
theorem sw0 (s : St4) : swp 0 s = if s.b < s.a then ⟨s.b, s.a, s.c, s.d, -s.t⟩ else s := rfl
theorem sw1 (s : St4) : swp 1 s = if s.c < s.b then ⟨s.a, s.c, s.b, s.d, -s.t⟩ else s := rfl
theorem sw2 (s : St4) : swp 2 s = if s.d < s.c then ⟨s.a, s.b, s.d, s.c, -s.t⟩ else s := rfl
theorem pass_a (s : St4) : (pass3 s).a ≤ (pass3 s).d ∧ (pass3 s).b ≤ (pass3 s).d ∧ (pass3 s).c ≤ (pass3 s).d := by
  obtain ⟨a, b, c, d, t⟩ := s
  unfold pass3
  rw [sw0, sw1, sw2]
  (repeat' split) <;> simp_all <;> omega
theorem pass_b (s : St4) (h : s.a ≤ s.d ∧ s.b ≤ s.d ∧ s.c ≤ s.d) : (pass3 s).a ≤ (pass3 s).c ∧ (pass3 s).b ≤ (pass3 s).c ∧ (pass3 s).c ≤ (pass3 s).d := by
  obtain ⟨a, b, c, d, t⟩ := s
  unfold pass3
  rw [sw0, sw1, sw2]
  simp only at h
  (repeat' split) <;> simp_all <;> omega
theorem pass_c (s : St4) (h : s.a ≤ s.c ∧ s.b ≤ s.c ∧ s.c ≤ s.d) : (pass3 s).a ≤ (pass3 s).b ∧ (pass3 s).b ≤ (pass3 s).c ∧ (pass3 s).c ≤ (pass3 s).d := by
  obtain ⟨a, b, c, d, t⟩ := s
  unfold pass3
  rw [sw0, sw1, sw2]
  simp only at h
  (repeat' split) <;> simp_all <;> omega
theorem pass_fix (s : St4) (h : s.a ≤ s.b ∧ s.b ≤ s.c ∧ s.c ≤ s.d) : pass3 s = s := by
  unfold pass3
  have e0 : swp 0 s = s := by rw [sw0, if_neg (by omega)]
  have e1 : swp 1 s = s := by rw [sw1, if_neg (by omega)]
  have e2 : swp 2 s = s := by rw [sw2, if_neg (by omega)]
  rw [e0, e1, e2]
theorem bub_sorted (s : St4) : (bub 9 0 s).a ≤ (bub 9 0 s).b ∧ (bub 9 0 s).b ≤ (bub 9 0 s).c ∧ (bub 9 0 s).c ≤ (bub 9 0 s).d := by
  rw [bub9]
  exact pass_c _ (pass_b _ (pass_a s))
theorem bub_12 (s : St4) : bub 12 0 s = bub 9 0 s := by
  have h := bub_sorted s
  rw [bub12, bub9] at *
  exact pass_fix _ h
/-- The same four places, in another order; the sign of the order. -/
structure Perm4 (s z : St4) : Prop where
  all : ∀ P : Nat → Prop, P s.a → P s.b → P s.c → P s.d → P z.a ∧ P z.b ∧ P z.c ∧ P z.d
  apart : (s.a ≠ s.b ∧ s.a ≠ s.c ∧ s.a ≠ s.d ∧ s.b ≠ s.c ∧ s.b ≠ s.d ∧ s.c ≠ s.d) → z.a ≠ z.b ∧ z.a ≠ z.c ∧ z.a ≠ z.d ∧ z.b ≠ z.c ∧ z.b ≠ z.d ∧ z.c ≠ z.d
  sign : (s.t = 1 ∨ s.t = -1) → (z.t = 1 ∨ z.t = -1)
  back : ∀ P : Nat → Prop, P z.a → P z.b → P z.c → P z.d → P s.a ∧ P s.b ∧ P s.c ∧ P s.d
  deti : ∀ V : Nat → V4, s.t * D V s.a s.b s.c s.d = z.t * D V z.a z.b z.c z.d
theorem perm_swp (p : Nat) (s : St4) : Perm4 s (swp p s) := by
  obtain ⟨a, b, c, d, t⟩ := s
  have h3 : p % 3 = 0 ∨ p % 3 = 1 ∨ p % 3 = 2 := by omega
  rcases h3 with h | h | h
  · rw [swp_mod p 0 h, sw0]
    by_cases hc : b < a
    · rw [if_pos hc]
      exact ⟨fun P h1 h2 h3 h4 => ⟨h2, h1, h3, h4⟩, fun h => by simp only at h ⊢; omega, fun h => by simp only at h ⊢; omega, fun P h1 h2 h3 h4 => ⟨h2, h1, h3, h4⟩, fun V => by simp only; rw [D_swap12 a b c d, Int.neg_mul_neg]⟩
    · rw [if_neg hc]; exact ⟨fun P h1 h2 h3 h4 => ⟨h1, h2, h3, h4⟩, fun h => h, fun h => h, fun P h1 h2 h3 h4 => ⟨h1, h2, h3, h4⟩, fun V => rfl⟩
  · rw [swp_mod p 1 h, sw1]
    by_cases hc : c < b
    · rw [if_pos hc]
      exact ⟨fun P h1 h2 h3 h4 => ⟨h1, h3, h2, h4⟩, fun h => by simp only at h ⊢; omega, fun h => by simp only at h ⊢; omega, fun P h1 h2 h3 h4 => ⟨h1, h3, h2, h4⟩, fun V => by simp only; rw [D_swap23 a b c d, Int.neg_mul_neg]⟩
    · rw [if_neg hc]; exact ⟨fun P h1 h2 h3 h4 => ⟨h1, h2, h3, h4⟩, fun h => h, fun h => h, fun P h1 h2 h3 h4 => ⟨h1, h2, h3, h4⟩, fun V => rfl⟩
  · rw [swp_mod p 2 h, sw2]
    by_cases hc : d < c
    · rw [if_pos hc]
      exact ⟨fun P h1 h2 h3 h4 => ⟨h1, h2, h4, h3⟩, fun h => by simp only at h ⊢; omega, fun h => by simp only at h ⊢; omega, fun P h1 h2 h3 h4 => ⟨h1, h2, h4, h3⟩, fun V => by simp only; rw [D_swap34 a b c d, Int.neg_mul_neg]⟩
    · rw [if_neg hc]; exact ⟨fun P h1 h2 h3 h4 => ⟨h1, h2, h3, h4⟩, fun h => h, fun h => h, fun P h1 h2 h3 h4 => ⟨h1, h2, h3, h4⟩, fun V => rfl⟩
theorem Perm4.trans {s z y : St4} (h : Perm4 s z) (k : Perm4 z y) : Perm4 s y :=
  ⟨fun P h1 h2 h3 h4 => by obtain ⟨a, b, c, d⟩ := h.all P h1 h2 h3 h4; exact k.all P a b c d, fun a => k.apart (h.apart a), fun a => k.sign (h.sign a), fun P h1 h2 h3 h4 => by obtain ⟨a, b, c, d⟩ := k.back P h1 h2 h3 h4; exact h.back P a b c d, fun V => (h.deti V).trans (k.deti V)⟩
theorem perm_bub : ∀ (n p : Nat) (s : St4), Perm4 s (bub n p s)
  | 0, p, s => by rw [bub_end]; exact ⟨fun P h1 h2 h3 h4 => ⟨h1, h2, h3, h4⟩, fun h => h, fun h => h, fun P h1 h2 h3 h4 => ⟨h1, h2, h3, h4⟩, fun V => rfl⟩
  | n + 1, p, s => by unfold bub; exact (perm_swp p s).trans (perm_bub n (p + 1) (swp p s))
/-- The sign of four places of a list. -/
def sgP (X Y Z : Nat → Int) (i j k m : Nat) : Int := (bub 9 0 ⟨i, j, k, m, 1⟩).t * sg4 (ptOf X Y Z (bub 9 0 ⟨i, j, k, m, 1⟩).a) (ptOf X Y Z (bub 9 0 ⟨i, j, k, m, 1⟩).b) (ptOf X Y Z (bub 9 0 ⟨i, j, k, m, 1⟩).c) (ptOf X Y Z (bub 9 0 ⟨i, j, k, m, 1⟩).d)
theorem orient_sign_at (b off n cp : Nat) (X Y Z : Nat → Int) (i j k m : Nat) (hn : n < 4611686018427387904) (hi : i < n) (hj : j < n) (hk : k < n) (hm : m < n) (h1 : i ≠ j) (h2 : i ≠ k) (h3 : i ≠ m) (h4 : j ≠ k) (h5 : j ≠ m) (h6 : k ≠ m)
    (hco : ∀ i, i < n → Co (X i) ∧ Co (Y i) ∧ Co (Z i)) (w : World) (hp : PtsAt w b off n X Y Z) :
    Calls Try.prog 44 #[.slice (some ⟨b, off, none⟩) n cp, .int .i64 i, .int .i64 j, .int .i64 k, .int .i64 m] w fun e w' => e = .returned (.tuple #[.int .i64 (sgP X Y Z i j k m), .int .i64 0]) ∧ Below w.heap.size w w' := by
  obtain ⟨z, hz⟩ : ∃ z, z = bub 9 0 ⟨i, j, k, m, 1⟩ := ⟨_, rfl⟩
  have hp4 := perm_bub 9 0 ⟨i, j, k, m, 1⟩
  rw [← hz] at hp4
  obtain ⟨ha, hb, hc, hd⟩ := hp4.all (· < n) hi hj hk hm
  have ht := hp4.sign (.inl rfl)
  have hs := sg4_cases (ptOf X Y Z z.a) (ptOf X Y Z z.b) (ptOf X Y Z z.c) (ptOf X Y Z z.d)
  have hcx : ∀ s, s < 4 → Co (l4 (X z.a) (X z.b) (X z.c) (X z.d) s) ∧ Co (l4 (Y z.a) (Y z.b) (Y z.c) (Y z.d) s) ∧ Co (l4 (Z z.a) (Z z.b) (Z z.c) (Z z.d) s) := by
    intro s hs
    match s, hs with
    | 0, _ => exact hco _ ha
    | 1, _ => exact hco _ hb
    | 2, _ => exact hco _ hc
    | 3, _ => exact hco _ hd
  have main := sign_good b off n cp X Y Z i j k m z.a z.b z.c z.d z.t (sg4 (ptOf X Y Z z.a) (ptOf X Y Z z.b) (ptOf X Y Z z.c) (ptOf X Y Z z.d)) hn hi hj hk hm h1 h2 h3 h4 h5 h6 hz.symm ht ha hb hc hd (by omega) (by omega) (Lib.hid hco)
    (Lib.hid (fun w => sign_sg4 (l4 (X z.a) (X z.b) (X z.c) (X z.d)) (l4 (Y z.a) (Y z.b) (Y z.c) (Y z.d)) (l4 (Z z.a) (Z z.b) (Z z.c) (Z z.d)) hcx w)) w (Lib.hid hp)
  have e : z.t * sg4 (ptOf X Y Z z.a) (ptOf X Y Z z.b) (ptOf X Y Z z.c) (ptOf X Y Z z.d) = sgP X Y Z i j k m := by unfold sgP; rw [← hz]
  rw [e] at main
  exact main
end Go.Proofs.Ytdglijdiiggdgaa
