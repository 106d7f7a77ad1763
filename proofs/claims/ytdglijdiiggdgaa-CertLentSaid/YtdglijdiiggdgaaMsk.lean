import Derived.Test.YtdglijdiiggdgaaGe0
namespace Geo
/-- The codes of the four rows (0: as it was; 1, 2, 4: changed) when the first j bits of m have been looked at. -/
def cR (m j s : Nat) : Nat := m % 2 ^ j / 8 ^ s % 8
def cOk (c : Nat) : Bool := c == 0 || c == 1 || c == 2 || c == 4
def hV (m j k : Nat) : Nat := if cR m j 0 / 2 ^ k % 2 = 1 ∨ cR m j 1 / 2 ^ k % 2 = 1 ∨ cR m j 2 / 2 ^ k % 2 = 1 ∨ cR m j 3 / 2 ^ k % 2 = 1 then 1 else 0
def apart (a b : Nat) : Bool := a == 0 || b == 0 || a != b
def good (m j : Nat) : Bool :=
  cOk (cR m j 0) && cOk (cR m j 1) && cOk (cR m j 2) && cOk (cR m j 3) && apart (cR m j 0) (cR m j 1) && apart (cR m j 0) (cR m j 2) && apart (cR m j 0) (cR m j 3) &&
    apart (cR m j 1) (cR m j 2) && apart (cR m j 1) (cR m j 3) && apart (cR m j 2) (cR m j 3)
/-- One bit more: m's bit 3 * r + k. -/
def stepOk (m r k : Nat) : Bool :=
  let j := 3 * r + k
  !good m j ||
    (if m / 2 ^ j % 2 = 1 then
      (if cR m j r ≠ 0 ∨ hV m j k = 1 then !good m 12
        else good m (j + 1) && cR m (j + 1) r == 2 ^ k && (List.range 4).all (fun s => s == r || cR m (j + 1) s == cR m j s) && (List.range 3).all (fun i => hV m (j + 1) i == (if i = k then 1 else hV m j i)))
    else good m (j + 1) && (List.range 4).all (fun s => cR m (j + 1) s == cR m j s) && (List.range 3).all (fun i => hV m (j + 1) i == hV m j i))
theorem steps_ok : ((List.range 85).all fun m => (List.range 4).all fun r => (List.range 3).all fun k => stepOk m r k) = true := by decide +kernel
theorem step_ok {m r k : Nat} (hm : m < 85) (hr : r < 4) (hk : k < 3) : stepOk m r k = true := by
  have h := List.all_eq_true.1 (List.all_eq_true.1 (List.all_eq_true.1 steps_ok m (List.mem_range.2 hm)) r (List.mem_range.2 hr)) k (List.mem_range.2 hk)
  exact h
theorem good0 (m : Nat) : good m 0 = true := by
  have : ∀ s, cR m 0 s = 0 := fun s => by unfold cR; rw [show m % 2 ^ 0 = 0 from Nat.mod_one m]; simp
  unfold good; simp [this, cOk, apart]
section
variable {m r k : Nat} (hm : m < 85) (hr : r < 4) (hk : k < 3) (hg : good m (3 * r + k) = true)
include hm hr hk hg
theorem mask_no (hb : m / 2 ^ (3 * r + k) % 2 ≠ 1) : good m (3 * r + k + 1) = true ∧ (∀ s, s < 4 → cR m (3 * r + k + 1) s = cR m (3 * r + k) s) ∧ ∀ i, i < 3 → hV m (3 * r + k + 1) i = hV m (3 * r + k) i := by
  have h := step_ok hm hr hk
  unfold stepOk at h
  simp only [hg, Bool.not_true, Bool.false_or, if_neg hb, Bool.and_eq_true, List.all_eq_true, List.mem_range, beq_iff_eq] at h
  exact ⟨h.1.1, h.1.2, h.2⟩
theorem mask_bad (hb : m / 2 ^ (3 * r + k) % 2 = 1) (h2 : cR m (3 * r + k) r ≠ 0 ∨ hV m (3 * r + k) k = 1) : good m 12 = false := by
  have h := step_ok hm hr hk
  unfold stepOk at h
  simp only [hg, Bool.not_true, Bool.false_or, if_pos hb, if_pos h2, Bool.not_eq_true'] at h
  exact h
theorem mask_yes (hb : m / 2 ^ (3 * r + k) % 2 = 1) (h1 : cR m (3 * r + k) r = 0) (h2 : hV m (3 * r + k) k ≠ 1) : good m (3 * r + k + 1) = true ∧ cR m (3 * r + k + 1) r = 2 ^ k ∧
    (∀ s, s < 4 → s ≠ r → cR m (3 * r + k + 1) s = cR m (3 * r + k) s) ∧ ∀ i, i < 3 → hV m (3 * r + k + 1) i = if i = k then 1 else hV m (3 * r + k) i := by
  have h := step_ok hm hr hk
  unfold stepOk at h
  simp only [hg, Bool.not_true, Bool.false_or, if_pos hb, if_neg (show ¬ (cR m (3 * r + k) r ≠ 0 ∨ hV m (3 * r + k) k = 1) by rintro (h | h) <;> contradiction), Bool.and_eq_true, List.all_eq_true, List.mem_range, beq_iff_eq, Bool.or_eq_true] at h
  refine ⟨h.1.1.1, h.1.1.2, fun s hs hsr => (h.1.2 s hs).resolve_left hsr, h.2⟩
end
/-- The codes of a good mask. -/
theorem good_codes {m : Nat} (hg : good m 12 = true) (s : Nat) (hs : s < 4) : cR m 12 s = 0 ∨ cR m 12 s = 1 ∨ cR m 12 s = 2 ∨ cR m 12 s = 4 := by
  unfold good cOk at hg
  simp only [Bool.and_eq_true, Bool.or_eq_true, beq_iff_eq] at hg
  have hs4 : s = 0 ∨ s = 1 ∨ s = 2 ∨ s = 3 := by omega
  rcases hs4 with rfl | rfl | rfl | rfl <;> omega
/-- A row's number i behind the code c. -/
def rv (x y z : Int) (c i : Nat) : Int :=
  if c = 0 then (if i = 0 then x else if i = 1 then y else if i = 2 then z else 1) else if (c = 1 ∧ i = 2) ∨ (c = 2 ∧ i = 1) ∨ (c = 4 ∧ i = 0) then 1 else 0
theorem R_rv (p : Pt) {c : Nat} (h : c = 0 ∨ c = 1 ∨ c = 2 ∨ c = 4) : R p c = ⟨rv p.x p.y p.z c 0, rv p.x p.y p.z c 1, rv p.x p.y p.z c 2, rv p.x p.y p.z c 3⟩ := by
  rcases h with rfl | rfl | rfl | rfl <;> rfl

/-- The sign at a mask. -/
def smV (p q r t : Pt) (m : Nat) : Int := (det (R p (cR m 12 0)) (R q (cR m 12 1)) (R r (cR m 12 2)) (R t (cR m 12 3))).sign
def firstG (s : Nat → Int) (ok : Nat → Bool) : Nat → Nat → Int
  | 0, _ => 1
  | n + 1, k => if ok k = true ∧ s k ≠ 0 then s k else firstG s ok n (k + 1)
theorem firstG_fz (s : Nat → Int) (ok : Nat → Bool) : ∀ n k, firstG s ok n k = if fz (((List.range' k n).filter ok).map s) = 0 then 1 else fz (((List.range' k n).filter ok).map s)
  | 0, k => rfl
  | n + 1, k => by
    rw [firstG, List.range'_succ, List.filter_cons]
    by_cases h : ok k = true
    · rw [if_pos h, List.map_cons]
      by_cases h0 : s k = 0
      · rw [if_neg (by simp [h0]), firstG_fz s ok n (k + 1)]
        have : fz (s k :: ((List.range' (k + 1) n).filter ok).map s) = fz (((List.range' (k + 1) n).filter ok).map s) := by rw [fz]; simp [h0]
        rw [this]
      · rw [if_pos ⟨h, h0⟩]
        have : fz (s k :: ((List.range' (k + 1) n).filter ok).map s) = s k := by rw [fz]; simp [h0]
        rw [this, if_neg h0]
    · rw [if_neg h, if_neg (by simp [h]), firstG_fz s ok n (k + 1)]
theorem good_list : (List.range' 0 85).filter (fun m => good m 12) = [0, 1, 2, 4, 8, 10, 12, 16, 17, 20, 32, 33, 34, 64, 66, 68, 80, 84] := by decide +kernel
theorem first_sg4 (p q r t : Pt) : firstG (smV p q r t) (fun m => good m 12) 85 0 = sg4 p q r t := by
  rw [firstG_fz, good_list]
  have e : fz ([0, 1, 2, 4, 8, 10, 12, 16, 17, 20, 32, 33, 34, 64, 66, 68, 80, 84].map (smV p q r t)) = sg4 p q r t := rfl
  rw [e]
  rcases sg4_cases p q r t with h | h <;> rw [h] <;> rfl
end Geo
