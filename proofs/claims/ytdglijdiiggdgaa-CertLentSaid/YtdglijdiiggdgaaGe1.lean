/- Plain geometry: four-dimensional determinants of whole numbers, facets of the first k points of a list in general position; no Go here. -/
namespace Geo

structure V4 where
  x : Int
  y : Int
  z : Int
  w : Int

def d3 (a1 a2 a3 b1 b2 b3 c1 c2 c3 : Int) : Int := a1 * (b2 * c3 - b3 * c2) - a2 * (b1 * c3 - b3 * c1) + a3 * (b1 * c2 - b2 * c1)

def det (a b c d : V4) : Int :=
  a.x * d3 b.y b.z b.w c.y c.z c.w d.y d.z d.w - a.y * d3 b.x b.z b.w c.x c.z c.w d.x d.z d.w
    + a.z * d3 b.x b.y b.w c.x c.y c.w d.x d.y d.w - a.w * d3 b.x b.y b.z c.x c.y c.z d.x d.y d.z

theorem det_swap12 (a b c d : V4) : det b a c d = - det a b c d := by unfold det d3; grind
theorem det_swap23 (a b c d : V4) : det a c b d = - det a b c d := by unfold det d3; grind
theorem det_swap34 (a b c d : V4) : det a b d c = - det a b c d := by unfold det d3; grind
theorem det_rot (a b c d : V4) : det b c a d = det a b c d := by unfold det d3; grind

set_option maxRecDepth 100000 in
set_option maxHeartbeats 4000000 in
theorem gp (a b c d e f : V4) : det a b c d * det a b e f - det a b c e * det a b d f + det a b c f * det a b d e = 0 := by
  unfold det d3; grind

theorem det_self12 (a c d : V4) : det a a c d = 0 := by have := det_swap12 a a c d; omega
theorem det_self23 (a b d : V4) : det a b b d = 0 := by have := det_swap23 a b b d; omega
theorem det_self34 (a b c : V4) : det a b c c = 0 := by have := det_swap34 a b c c; omega
theorem det_self14 (a b c : V4) : det a b c a = 0 := by
  have h1 := det_swap34 a b c a
  have h2 := det_swap23 a b a c
  have h3 := det_self12 a b c
  omega
theorem det_self24 (a b c : V4) : det a b c b = 0 := by
  have h1 := det_swap34 a b c b
  have h3 := det_self23 a b c
  omega

/-! ### Facets of the first k points -/
section
variable (V : Nat → V4)

def D (i j k l : Nat) : Int := det (V i) (V j) (V k) (V l)

def General (n : Nat) : Prop := ∀ i j k l, i < n → j < n → k < n → l < n → i ≠ j → i ≠ k → i ≠ l → j ≠ k → j ≠ l → k ≠ l → D V i j k l ≠ 0

structure Facet (k a b c : Nat) : Prop where
  la : a < k
  lb : b < k
  lc : c < k
  ab : a ≠ b
  bc : b ≠ c
  ac : a ≠ c
  side : ∀ v, v < k → v ≠ a → v ≠ b → v ≠ c → 0 < D V a b c v
end

variable {V : Nat → V4}

theorem D_swap12 (a b c d : Nat) : D V b a c d = - D V a b c d := det_swap12 _ _ _ _
theorem D_swap23 (a b c d : Nat) : D V a c b d = - D V a b c d := det_swap23 _ _ _ _
theorem D_swap34 (a b c d : Nat) : D V a b d c = - D V a b c d := det_swap34 _ _ _ _
theorem D_rot (a b c d : Nat) : D V b c a d = D V a b c d := det_rot _ _ _ _
theorem D_gp (a b c d e f : Nat) : D V a b c d * D V a b e f - D V a b c e * D V a b d f + D V a b c f * D V a b d e = 0 := gp _ _ _ _ _ _

theorem Facet.rot {k a b c : Nat} (h : Facet V k a b c) : Facet V k b c a :=
  ⟨h.lb, h.lc, h.la, h.bc, fun e => h.ac e.symm, fun e => h.ab e.symm, fun v hv h1 h2 h3 => by rw [D_rot]; exact h.side v hv h3 h1 h2⟩

theorem Facet.unique {k a b c d : Nat} (h : Facet V k a b c) (h' : Facet V k a b d) : c = d := by
  apply Classical.byContradiction
  intro hne
  have h1 := h.side d h'.lc (Ne.symm h'.ac) (Ne.symm h'.bc) (Ne.symm hne)
  have h2 := h'.side c h.lc (Ne.symm h.ac) (Ne.symm h.bc) hne
  have := D_swap34 (V := V) a b c d
  omega

theorem exists_other {k : Nat} (hk : 4 ≤ k) (a b c : Nat) : ∃ v, v < k ∧ v ≠ a ∧ v ≠ b ∧ v ≠ c := by
  by_cases h0 : 0 ≠ a ∧ 0 ≠ b ∧ 0 ≠ c
  · exact ⟨0, by omega, h0.1, h0.2.1, h0.2.2⟩
  by_cases h1 : 1 ≠ a ∧ 1 ≠ b ∧ 1 ≠ c
  · exact ⟨1, by omega, h1.1, h1.2.1, h1.2.2⟩
  by_cases h2 : 2 ≠ a ∧ 2 ≠ b ∧ 2 ≠ c
  · exact ⟨2, by omega, h2.1, h2.2.1, h2.2.2⟩
  exact ⟨3, by omega, by omega, by omega, by omega⟩

theorem Facet.no_back {k a b c : Nat} (hk : 4 ≤ k) (h : Facet V k a b c) : ¬ Facet V k b a c := by
  intro h'
  obtain ⟨v, hv, h1, h2, h3⟩ := exists_other hk a b c
  have e1 := h.side v hv h1 h2 h3
  have e2 := h'.side v hv h2 h1 h3
  have := D_swap12 (V := V) a b c v
  omega

theorem pos_of_mul {h x y : Int} (hh : 0 < h) (e : h * x = y) (hy : 0 < y) : 0 < x := by
  apply Classical.byContradiction
  intro hx
  have : h * x ≤ 0 := Int.mul_nonpos_of_nonneg_of_nonpos (by omega) (by omega)
  omega

/-- Of the places that P names, the one that turns farthest round the line of a and b. -/
theorem rotmax {a b r : Nat} (P : Nat → Prop) [DecidablePred P] (k : Nat) (hP : ∃ v, v < k ∧ P v) (hpos : ∀ v, v < k → P v → 0 < D V a b r v)
    (hne : ∀ u t, u < k → t < k → P u → P t → u ≠ t → D V a b u t ≠ 0) :
    ∃ d, d < k ∧ P d ∧ ∀ u, u < k → P u → u ≠ d → 0 < D V a b u d := by
  induction k with
  | zero => obtain ⟨v, hv, _⟩ := hP; omega
  | succ k ih =>
    by_cases hex : ∃ v, v < k ∧ P v
    · obtain ⟨d, hd, hPd, hmax⟩ := ih hex (fun v hv => hpos v (by omega)) (fun u t hu ht => hne u t (by omega) (by omega))
      by_cases hPk : P k
      · rcases Int.lt_trichotomy 0 (D V a b d k) with hlt | heq | hgt
        · refine ⟨k, by omega, hPk, fun u hu hPu huk => ?_⟩
          by_cases hud : u = d
          · rw [hud]; exact hlt
          · have h1 := hmax u (by omega) hPu hud
            have g := D_gp (V := V) a b r u d k
            have p1 : 0 < D V a b r u * D V a b d k := Int.mul_pos (hpos u (by omega) hPu) hlt
            have p2 : 0 < D V a b r k * D V a b u d := Int.mul_pos (hpos k (by omega) hPk) h1
            exact pos_of_mul (hpos d (by omega) hPd) (y := D V a b r u * D V a b d k + D V a b r k * D V a b u d) (by omega) (by omega)
        · exact absurd heq.symm (hne d k (by omega) (by omega) hPd hPk (by omega))
        · refine ⟨d, by omega, hPd, fun u hu hPu hud => ?_⟩
          by_cases huk : u = k
          · rw [huk]; have := D_swap34 (V := V) a b d k; omega
          · exact hmax u (by omega) hPu hud
      · refine ⟨d, by omega, hPd, fun u hu hPu hud => hmax u ?_ hPu hud⟩
        have : u ≠ k := fun e => hPk (e ▸ hPu)
        omega
    · obtain ⟨v, hv, hPv⟩ := hP
      have hvk : v = k := by
        apply Classical.byContradiction
        intro h
        exact hex ⟨v, by omega, hPv⟩
      subst hvk
      refine ⟨v, by omega, hPv, fun u hu hPu huv => ?_⟩
      exact absurd ⟨u, by omega, hPu⟩ hex

/-- The other facet at an edge. -/
theorem Facet.across {k a b c : Nat} (hk : 4 ≤ k) (hg : General V k) (h : Facet V k a b c) : ∃ d, Facet V k b a d := by
  obtain ⟨v0, hv0, h01, h02, h03⟩ := exists_other hk a b c
  have hla := h.la; have hlb := h.lb; have hlc := h.lc; have hab := h.ab; have hbc := h.bc; have hac := h.ac
  obtain ⟨d, hd, ⟨hda, hdb, hdc⟩, hmax⟩ := rotmax (V := V) (a := a) (b := b) (r := c) (fun v => v ≠ a ∧ v ≠ b ∧ v ≠ c) k ⟨v0, hv0, h01, h02, h03⟩
    (fun v hv hP => h.side v hv hP.1 hP.2.1 hP.2.2)
    (fun u t hu ht hPu hPt hut => hg a b u t hla hlb hu ht hab (Ne.symm hPu.1) (Ne.symm hPt.1) (Ne.symm hPu.2.1) (Ne.symm hPt.2.1) hut)
  refine ⟨d, h.lb, h.la, hd, Ne.symm hab, Ne.symm hda, Ne.symm hdb, fun v hv h1 h2 h3 => ?_⟩
  have e1 := D_swap12 (V := V) a b d v
  have e2 := D_swap34 (V := V) a b v d
  by_cases hvc : v = c
  · subst hvc
    have := h.side d hd hda hdb hdc
    omega
  · have := hmax v hv ⟨h2, h1, hvc⟩ h3
    omega

/-! ### One point more -/

theorem facet_succ {k a b c : Nat} (ha : a < k) (hb : b < k) (hc : c < k) : Facet V (k + 1) a b c ↔ Facet V k a b c ∧ 0 < D V a b c k := by
  constructor
  · intro h
    exact ⟨⟨ha, hb, hc, h.ab, h.bc, h.ac, fun v hv => h.side v (by omega)⟩, h.side k (by omega) (by omega) (by omega) (by omega)⟩
  · rintro ⟨h, hk⟩
    refine ⟨by omega, by omega, by omega, h.ab, h.bc, h.ac, fun v hv h1 h2 h3 => ?_⟩
    by_cases hvk : v = k
    · rw [hvk]; exact hk
    · exact h.side v (by omega) h1 h2 h3

theorem neg_mul_neg' {x y : Int} (hx : x < 0) (hy : y < 0) : 0 < x * y := Int.mul_pos_of_neg_of_neg hx hy

/-- A facet with the new point stands over each edge between a facet that the point sees and one that it doesn't. -/
theorem facet_new {k a b c d : Nat} (hk4 : 4 ≤ k) (h1 : Facet V k a b c) (s1 : D V a b c k < 0) (h2 : Facet V k b a d) (s2 : 0 < D V b a d k) : Facet V (k + 1) a b k := by
  have hla := h1.la; have hlb := h1.lb; have hlc := h1.lc; have hab := h1.ab; have hbc := h1.bc; have hac := h1.ac
  have hld := h2.lc; have hda := h2.bc; have hdb := h2.ac
  have t2 := D_swap12 (V := V) a b d k
  have hcd : c ≠ d := by
    rintro rfl
    exact h1.no_back hk4 h2
  have hp : 0 < D V a b c d := h1.side d hld (Ne.symm hda) (Ne.symm hdb) (Ne.symm hcd)
  refine ⟨by omega, by omega, by omega, hab, by omega, by omega, fun v hv hva hvb hvk => ?_⟩
  have hv' : v < k := by omega
  have f1 := D_swap34 (V := V) a b c k
  have f2 := D_swap34 (V := V) a b d k
  by_cases hvc : v = c
  · subst hvc; omega
  by_cases hvd : v = d
  · subst hvd; omega
  have e1 := h1.side v hv' hva hvb hvc
  have e2 := h2.side v hv' hvb hva hvd
  have e3 := D_swap12 (V := V) a b d v
  have g := D_gp (V := V) a b c d k v
  have p1 : 0 < D V a b c k * D V a b d v := neg_mul_neg' s1 (by omega)
  have p2 : D V a b c v * D V a b d k < 0 := Int.mul_neg_of_pos_of_neg e1 (by omega)
  exact pos_of_mul hp (y := D V a b c k * D V a b d v - D V a b c v * D V a b d k) (by omega) (by omega)

/-- And those are all. -/
theorem facet_parents {k a b : Nat} (hk : 4 ≤ k) (hg : General V k) (h : Facet V (k + 1) a b k) :
    ∃ c d, Facet V k a b c ∧ D V a b c k < 0 ∧ Facet V k b a d ∧ 0 < D V b a d k := by
  have hab := h.ab; have hak := h.ac; have hbk := h.bc
  have hla : a < k := by have := h.la; omega
  have hlb : b < k := by have := h.lb; omega
  obtain ⟨v0, hv0, h01, h02, _⟩ := exists_other hk a b b
  have hpos : ∀ v, v < k → v ≠ a → v ≠ b → 0 < D V a b k v := fun v hv h1 h2 => h.side v (by omega) h1 h2 (by omega)
  obtain ⟨d, hd, ⟨hda, hdb⟩, hmax⟩ := rotmax (V := V) (a := a) (b := b) (r := k) (fun v => v ≠ a ∧ v ≠ b) k ⟨v0, hv0, h01, h02⟩
    (fun v hv hP => hpos v hv hP.1 hP.2)
    (fun u t hu ht hPu hPt hut => hg a b u t hla hlb hu ht hab (Ne.symm hPu.1) (Ne.symm hPt.1) (Ne.symm hPu.2) (Ne.symm hPt.2) hut)
  -- the other end: the facet (b, a, d)
  have hF2 : Facet V k b a d := by
    refine ⟨hlb, hla, hd, Ne.symm hab, Ne.symm hda, Ne.symm hdb, fun v hv h1 h2 h3 => ?_⟩
    have := hmax v hv ⟨h2, h1⟩ h3
    have e1 := D_swap12 (V := V) a b d v
    have e2 := D_swap34 (V := V) a b v d
    omega
  obtain ⟨c, hF1⟩ := hF2.across hk hg
  have hca := hF1.ac; have hcb := hF1.bc; have hlc := hF1.lc
  refine ⟨c, d, hF1, ?_, hF2, ?_⟩
  · have := hpos c hlc (Ne.symm hca) (Ne.symm hcb)
    have e2 := D_swap34 (V := V) a b k c
    omega
  · have := hpos d hd hda hdb
    have e1 := D_swap12 (V := V) a b d k
    have e2 := D_swap34 (V := V) a b k d
    omega

/-- Whoever sees the new facet sees one of the two that it is made of. -/
theorem sees_parent {k a b c d v : Nat} (hk4 : 4 ≤ k) (h1 : Facet V k a b c) (s1 : D V a b c k < 0) (h2 : Facet V k b a d) (s2 : 0 < D V b a d k)
    (hv : D V a b k v < 0) : D V a b c v < 0 ∨ D V b a d v < 0 := by
  apply Classical.byContradiction
  intro hn
  have n1 : 0 ≤ D V a b c v := by omega
  have n2 : 0 ≤ D V b a d v := by omega
  have hld := h2.lc; have hda := h2.bc; have hdb := h2.ac
  have t2 := D_swap12 (V := V) a b d k
  have hcd : c ≠ d := by
    rintro rfl
    exact h1.no_back hk4 h2
  have hp : 0 < D V a b c d := h1.side d hld (Ne.symm hda) (Ne.symm hdb) (Ne.symm hcd)
  have e3 := D_swap12 (V := V) a b d v
  have g := D_gp (V := V) a b c d k v
  have p0 : D V a b c d * D V a b k v < 0 := Int.mul_neg_of_pos_of_neg hp hv
  have p1 : 0 ≤ D V a b c k * D V a b d v := Int.mul_nonneg_of_nonpos_of_nonpos (by omega) (by omega)
  have p2 : D V a b c v * D V a b d k ≤ 0 := Int.mul_nonpos_of_nonneg_of_nonpos n1 (by omega)
  omega

end Geo
