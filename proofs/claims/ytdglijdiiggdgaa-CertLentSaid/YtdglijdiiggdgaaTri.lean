import Derived.Test.YtdglijdiiggdgaaPlc
namespace Go.Proofs.Ytdglijdiiggdgaa
open Go.RowKit Go.Maps Geo
abbrev T3 := Int × Int × Int
def fA (L : List T3) (k : Nat) : Int := (L.getD k (0, 0, 0)).1
def fB (L : List T3) (k : Nat) : Int := (L.getD k (0, 0, 0)).2.1
def fC (L : List T3) (k : Nat) : Int := (L.getD k (0, 0, 0)).2.2
def cells3 (L : List T3) : List Value := L.flatMap fun t => [.int .i64 t.1, .int .i64 t.2.1, .int .i64 t.2.2]
theorem cells3_len (L : List T3) : (cells3 L).length = L.length * 3 := by
  unfold cells3
  induction L with
  | nil => rfl
  | cons t L ih => rw [List.flatMap_cons, List.length_append, ih]; simp; omega
theorem cells3_at : ∀ (L : List T3) (k : Nat), k < L.length → (cells3 L)[k * 3]? = some (.int .i64 (fA L k)) ∧ (cells3 L)[k * 3 + 1]? = some (.int .i64 (fB L k)) ∧ (cells3 L)[k * 3 + 2]? = some (.int .i64 (fC L k))
  | [], k, h => by simp at h
  | t :: L, 0, _ => ⟨rfl, rfl, rfl⟩
  | t :: L, k + 1, h => by
    have ih := cells3_at L k (by simpa using h)
    have e : cells3 (t :: L) = [.int .i64 t.1, .int .i64 t.2.1, .int .i64 t.2.2] ++ cells3 L := by unfold cells3; rw [List.flatMap_cons]
    rw [e]
    have g : ∀ i, ([Value.int .i64 t.1, .int .i64 t.2.1, .int .i64 t.2.2] ++ cells3 L)[(k + 1) * 3 + i]? = (cells3 L)[k * 3 + i]? := fun i => by
      rw [List.getElem?_append_right (by simp; omega)]
      congr 1
      simp; omega
    exact ⟨(g 0).trans ih.1, (g 1).trans ih.2.1, (g 2).trans ih.2.2⟩
theorem tris_of_row {w : World} {base : Nat} {T : TypeId} {vv : Value} {L : List T3} (h : w.ownsRow base T 3 vv L.length (cells3 L)) :
    ∃ p cap, vv = .slice p L.length cap ∧ PtsO w p L.length (fA L) (fB L) (fC L) := by
  have h0 := h
  rcases h.2 with ⟨rfl, hn⟩ | ⟨g, cap, cur, rfl, hb, hg, hle, hmax, hsz, htake⟩
  · exact ⟨none, 0, by rw [hn], .inl ⟨hn, rfl⟩⟩
  · refine ⟨_, cap, rfl, .inr ⟨g, 0, rfl, (Array.getElem?_eq_some_iff.1 hg).1, fun j hj => ?_⟩⟩
    obtain ⟨c0, c1, c2⟩ := cells3_at L j hj
    rw [Nat.zero_add]
    exact ⟨(h0.cellAt _ (by omega)).trans c0, (h0.cellAt _ (by omega)).trans c1, (h0.cellAt _ (by omega)).trans c2⟩
/-- Two lists of triples, compared from the place k on. -/
def sameF (A B C A' B' C' : Nat → Int) : Nat → Nat → Bool
  | 0, _ => true
  | f + 1, k => (A k == A' k && (B k == B' k && C k == C' k)) && sameF A B C A' B' C' f (k + 1)
theorem same_end {A B C A' B' C' : Nat → Int} {n k : Nat} {r : Bool} (hk : n ≤ k) (h : sameF A B C A' B' C' (n - k) k = r) : r = true := by
  rw [show n - k = 0 by omega] at h; exact h.symm
theorem same_bad {A B C A' B' C' : Nat → Int} {n k : Nat} {r : Bool} (hk : k < n) (he : (A k == A' k && (B k == B' k && C k == C' k)) = false) (h : sameF A B C A' B' C' (n - k) k = r) : r = false := by
  rw [show n - k = (n - (k + 1)) + 1 by omega, sameF, he] at h; exact h.symm
theorem same_on {A B C A' B' C' : Nat → Int} {n k : Nat} {r : Bool} (hk : k < n) (he : (A k == A' k && (B k == B' k && C k == C' k)) = true) (h : sameF A B C A' B' C' (n - k) k = r) : sameF A B C A' B' C' (n - (k + 1)) (k + 1) = r := by
  rw [show n - k = (n - (k + 1)) + 1 by omega, sameF, he] at h; exact h
theorem sameF_iff {A B C A' B' C' : Nat → Int} : ∀ f k, sameF A B C A' B' C' f k = true ↔ ∀ j, k ≤ j → j < k + f → A j = A' j ∧ B j = B' j ∧ C j = C' j
  | 0, k => ⟨fun _ j h1 h2 => by omega, fun _ => rfl⟩
  | f + 1, k => by
    unfold sameF
    simp only [Bool.and_eq_true, beq_iff_eq]
    rw [sameF_iff f (k + 1)]
    constructor
    · intro ⟨h1, h2⟩ j hj hj2
      rcases Nat.eq_or_lt_of_le hj with rfl | hlt
      · exact h1
      · exact h2 j hlt (by omega)
    · intro h
      exact ⟨h k (Nat.le_refl _) (by omega), fun j h1 h2 => h j (by omega) (by omega)⟩
attribute [local irreducible] wpCalm
set_option maxRecDepth 100000 in
set_option maxHeartbeats 4000000 in
theorem ref5_sameTris (pa pb : Option Addr) (n m c1 c2 : Nat) (A B C A' B' C' : Nat → Int) (hn : n < 4611686018427387904) (w : World) (ha : Hid (PtsO w pa n A B C)) (hb : Hid (PtsO w pb m A' B' C')) :
    Calls Try.prog 15 #[.slice pa n c1, .slice pb m c2] w fun e w' => e = .returned (.bool (decide (n = m) && sameF A B C A' B' C' n 0)) ∧ Below w.heap.size w w' := by
  by_cases hnm : n = m
  case neg =>
    have h1 : ((n : Int) != (m : Int)) = true := by simp; omega
    go_enter Try.func15, Try.ntmps15
    go_wp2
    go_returns
    exact ⟨by simp [hnm], Below.refl _ _⟩
  subst hnm
  obtain ⟨r, hr⟩ : ∃ r, r = sameF A B C A' B' C' n 0 := ⟨_, rfl⟩
  have HF0 : Hid (sameF A B C A' B' C' (n - 0) 0 = r) := hr.symm
  rw [← hr, show decide (n = n) = true by simp]
  clear hr
  go_enter Try.func15, Try.ntmps15
  go_wp2_with fail
  go_loopw [5] (fun v wr => ∃ k : Nat, k ≤ n ∧ v = .int .i64 k ∧ Hid (sameF A B C A' B' C' (n - k) k = r) ∧ Hid (PtsO wr pa n A B C) ∧ Hid (PtsO wr pb n A' B' C') ∧ Below w.heap.size w wr)
    (fun v _ => n - (intOf v).toNat)
  case atStart => exact ⟨0, Nat.zero_le _, rfl, HF0, ha, hb, Below.refl _ _⟩
  case round =>
    clear ha hb HF0
    obtain ⟨k, hk, rfl, HF, ha, hb, hB⟩ := hrel
    by_cases hlt : k < n
    case neg =>
      have he := same_end (by omega) HF.out
      subst he
      go_wp2
      go_returns
      exact ⟨rfl, hB⟩
    obtain ⟨g, off, rfl, hq⟩ := ha.out.at hlt
    obtain ⟨g', off', rfl, hq'⟩ := hb.out.at hlt
    obtain ⟨d1, d2, d3⟩ := hq.2 k hlt
    obtain ⟨e1, e2, e3⟩ := hq'.2 k hlt
    have hg := hq.1
    have hg' := hq'.1
    clear hq hq'
    obtain ⟨x, hx⟩ : ∃ x, x = A k := ⟨_, rfl⟩
    obtain ⟨y, hy⟩ : ∃ y, y = B k := ⟨_, rfl⟩
    obtain ⟨z, hz⟩ : ∃ z, z = C k := ⟨_, rfl⟩
    obtain ⟨x', hx'⟩ : ∃ x, x = A' k := ⟨_, rfl⟩
    obtain ⟨y', hy'⟩ : ∃ y, y = B' k := ⟨_, rfl⟩
    obtain ⟨z', hz'⟩ : ∃ z, z = C' k := ⟨_, rfl⟩
    obtain ⟨q, hq⟩ : ∃ q, q = (x == x' && (y == y' && z == z')) := ⟨_, rfl⟩
    have hq2 : (A k == A' k && (B k == B' k && C k == C' k)) = q := by rw [hq, hx, hy, hz, hx', hy', hz']
    have HQ := Lib.hid hq2
    have EQ3 := eq3 x y z x' y' z'
    rw [← hq] at EQ3
    rw [← hx] at d1; rw [← hy] at d2; rw [← hz] at d3; rw [← hx'] at e1; rw [← hy'] at e2; rw [← hz'] at e3
    clear hx hy hz hx' hy' hz' hq hq2
    go_wp2_with fail
    refine wp_calm0 9 (by kernel_rfl) (by kernel_rfl) ?_
    intro J hJ
    simp only [List.take_succ_cons, List.take_zero]
    iterate 8 ((with_reducible apply wpCalm_step); intro M hM; go_simp; first | ((with_reducible apply hM); clear hM M) | ((with_reducible apply calm_intro); (· intro wc hw; obtain ⟨hc, hf⟩ := bcell (hJ wc hw); go_simp; first | exact rfl); (with_reducible apply hM); clear hM M))
    cases q
    · with_reducible apply wpCalm_step
      intro M hM
      go_simp
      with_reducible apply calm_intro (v := .bool true)
      · intro wc hw
        go_simp
      with_reducible apply hM
      clear hM M
      with_reducible apply wpCalm_nil
      clear hJ J EQ3
      intro V hX
      simp only [List.drop_succ_cons, List.drop_zero]
      replace hB := after hB hX
      have hno := same_bad hlt HQ.out HF.out
      subst hno
      clear HQ HF hX
      go_wp2_with fail
      go_returns
      exact ⟨rfl, hB⟩
    · with_reducible apply wpCalm_step
      intro M hM
      go_simp
      with_reducible apply calm_intro (v := .bool false)
      · intro wc hw
        go_simp
      with_reducible apply hM
      clear hM M
      with_reducible apply wpCalm_nil
      clear hJ J EQ3
      intro V hX
      simp only [List.drop_succ_cons, List.drop_zero]
      have hon := Lib.hid (same_on hlt HQ.out HF.out)
      have ha' := Lib.hid (ha.out.below hX)
      have hb' := Lib.hid (hb.out.below hX)
      replace hB := after hB hX
      clear HQ HF hX ha hb
      go_wp2_with fail
      go_roundw
      case rel => exact ⟨k + 1, by omega, by go_num, hon, ha', hb', hB⟩
      case measure => simp [intOf]; omega
end Go.Proofs.Ytdglijdiiggdgaa
