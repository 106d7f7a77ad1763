import Derived.Test.YtdglijdiiggdgaaTri
namespace Go.Proofs.Ytdglijdiiggdgaa
open Go.RowKit Go.Maps Geo
def sgI (X Y Z : Nat → Int) (a b c v : Int) : Int := sgP X Y Z a.toNat b.toNat c.toNat v.toNat
theorem sgP_cases (X Y Z : Nat → Int) (i j k m : Nat) : sgP X Y Z i j k m = 1 ∨ sgP X Y Z i j k m = -1 := by
  have h1 := (perm_bub 9 0 ⟨i, j, k, m, 1⟩).sign (.inl rfl)
  unfold sgP
  rcases h1 with h | h <;> rcases sg4_cases (ptOf X Y Z (bub 9 0 ⟨i, j, k, m, 1⟩).a) (ptOf X Y Z (bub 9 0 ⟨i, j, k, m, 1⟩).b) (ptOf X Y Z (bub 9 0 ⟨i, j, k, m, 1⟩).c) (ptOf X Y Z (bub 9 0 ⟨i, j, k, m, 1⟩).d) with h2 | h2 <;> rw [h, h2] <;> simp
theorem plcB_facts {n : Nat} {a b c : Int} (h : plcB n a b c = true) : 0 ≤ a ∧ a < n ∧ 0 ≤ b ∧ b < n ∧ 0 ≤ c ∧ c < n ∧ a ≠ b ∧ b ≠ c ∧ c ≠ a := by
  unfold plcB inN at h
  simp at h
  omega
theorem ownB_facts {a b c v : Int} (h : ownB a b c v = false) : v ≠ a ∧ v ≠ b ∧ v ≠ c := by
  unfold ownB at h
  simp at h
  exact ⟨h.1.1, h.1.2, h.2⟩
theorem sees_prog (pl : Option Addr) (n cp : Nat) (X Y Z : Nat → Int) (a b c v : Int) (hn : n < 4611686018427387904) (hco : ∀ i, i < n → Co (X i) ∧ Co (Y i) ∧ Co (Z i)) (hpl : plcB n a b c = true) (hv0 : 0 ≤ v) (hv1 : v < n) (hown : ownB a b c v = false) (w : World) (hp : PtsO w pl n X Y Z) :
    Calls Try.prog 34 #[.slice pl n cp, .agg #[.int .i64 a, .int .i64 b, .int .i64 c], .int .i64 v] w fun e w' => e = .returned (.tuple #[.bool (decide (sgI X Y Z a b c v = -1)), .int .i64 0]) ∧ Below w.heap.size w w' := by
  obtain ⟨p1, p2, p3, p4, p5, p6, p7, p8, p9⟩ := plcB_facts hpl
  obtain ⟨o1, o2, o3⟩ := ownB_facts hown
  obtain ⟨bk, off, rfl, hq⟩ := hp.at (k := v.toNat) (by omega)
  have main := sees_walk bk off n cp a.toNat b.toNat c.toNat v.toNat (sgP X Y Z a.toNat b.toNat c.toNat v.toNat) w (fun w' hB => orient_sign_at bk off n cp X Y Z a.toNat b.toNat c.toNat v.toNat hn (by omega) (by omega) (by omega) (by omega) (by omega) (by omega) (by omega) (by omega) (by omega) (by omega) hco w' (hq.mono hB hq.1))
  rw [Int.toNat_of_nonneg p1, Int.toNat_of_nonneg p3, Int.toNat_of_nonneg p5, Int.toNat_of_nonneg hv0] at main
  exact main
theorem ref2_sign_at (pb off n cp : Nat) (X Y Z : Nat → Int) (i j k m : Nat) (hn : n < 4611686018427387904) (hi : i < n) (hj : j < n) (hk : k < n) (hm : m < n) (hco : ∀ i, i < n → Co (X i) ∧ Co (Y i) ∧ Co (Z i)) (w : World) (hp : PtsAt w pb off n X Y Z) :
    Calls Try.prog 45 #[.slice (some ⟨pb, off, none⟩) n cp, .int .i64 i, .int .i64 j, .int .i64 k, .int .i64 m] w fun e w' => e = .returned (.int .i64 (sgP X Y Z i j k m)) ∧ Below w.heap.size w w' := by
  obtain ⟨z, hz⟩ : ∃ z, z = bub 9 0 ⟨i, j, k, m, 1⟩ := ⟨_, rfl⟩
  have hp4 := perm_bub 9 0 ⟨i, j, k, m, 1⟩
  rw [← hz] at hp4
  obtain ⟨ha, hb, hc, hd⟩ := hp4.all (· < n) hi hj hk hm
  have ht := hp4.sign (.inl rfl)
  have h12 : bub (12 - 3 * 0 - 0) (3 * 0 + 0) ⟨i, j, k, m, 1⟩ = ⟨z.a, z.b, z.c, z.d, z.t⟩ := by
    show bub 12 0 _ = z
    rw [bub_12, hz]
  have main := ref2_sign0 pb off n cp X Y Z i j k m hn z.a z.b z.c z.d z.t _ (Lib.hid h12) (Lib.hid ht) ha hb hc hd (Lib.hid rfl) (Lib.hid hco) w (Lib.hid hp)
  have e : z.t * sg4 (ptOf X Y Z z.a) (ptOf X Y Z z.b) (ptOf X Y Z z.c) (ptOf X Y Z z.d) = sgP X Y Z i j k m := by unfold sgP; rw [← hz]
  rw [e] at main
  exact main
set_option maxHeartbeats 1000000 in
theorem ref2_sees (pl : Option Addr) (n cp : Nat) (X Y Z : Nat → Int) (a b c v : Int) (hn : n < 4611686018427387904) (hco : ∀ i, i < n → Co (X i) ∧ Co (Y i) ∧ Co (Z i)) (hpl : plcB n a b c = true) (hv0 : 0 ≤ v) (hv1 : v < n) (w : World) (hp : PtsO w pl n X Y Z) :
    Calls Try.prog 36 #[.slice pl n cp, .agg #[.int .i64 a, .int .i64 b, .int .i64 c], .int .i64 v] w fun e w' => e = .returned (.bool (decide (sgI X Y Z a b c v = -1))) ∧ Below w.heap.size w w' := by
  obtain ⟨p1, p2, p3, p4, p5, p6, p7, p8, p9⟩ := plcB_facts hpl
  obtain ⟨bk, off, rfl, hq⟩ := hp.at (k := v.toNat) (by omega)
  have main := fun w' (hB : Below w.heap.size w w') => ref2_sign_at bk off n cp X Y Z a.toNat b.toNat c.toNat v.toNat hn (by omega) (by omega) (by omega) (by omega) hco w' (hq.mono hB hq.1)
  rw [Int.toNat_of_nonneg p1, Int.toNat_of_nonneg p3, Int.toNat_of_nonneg p5, Int.toNat_of_nonneg hv0] at main
  have hcs := sgP_cases X Y Z a.toNat b.toNat c.toNat v.toNat
  unfold sgI
  obtain ⟨s, hs⟩ : ∃ s, s = sgP X Y Z a.toNat b.toNat c.toNat v.toNat := ⟨_, rfl⟩
  rw [← hs] at main hcs ⊢
  have HM := Lib.hid main
  clear main hs hq hp p1 p2 p3 p4 p5 p6 p7 p8 p9 hpl hco hv0 hv1 hn
  go_enter Try.func36, Try.ntmps36
  go_wp2_with fail
  first | refine wp_named ?_ | refine calls_named ?_
  intro W hW
  have hB : Below w.heap.size w W := by rw [hW]; go_grown
  clear hW
  refine (HM.out _ hB).mono ?_; rintro e W1 ⟨rfl, hX⟩
  replace hB := after hB hX
  rcases hcs with rfl | rfl
  · go_wp2_with fail
    go_returns
    exact ⟨rfl, hB⟩
  · go_wp2_with fail
    go_returns
    exact ⟨rfl, hB⟩
end Go.Proofs.Ytdglijdiiggdgaa
