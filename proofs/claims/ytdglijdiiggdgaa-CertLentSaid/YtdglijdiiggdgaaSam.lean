import Derived.Test.YtdglijdiiggdgaaAr
namespace Go.Proofs.Ytdglijdiiggdgaa
open Go.RowKit Go.Maps

/-- A slice of ints in memory that reads as a list. -/
def IntsAt (w : World) (p : Option Addr) (xs : List Int) : Prop :=
  ∀ j, j < xs.length → ∃ g off, p = some ⟨g, off, none⟩ ∧ g < w.heap.size ∧ w.cell? ⟨g, off + j, none⟩ = some (.int .i64 (xs.getD j 0))
theorem IntsAt.mono {w w' : World} {p : Option Addr} {xs : List Int} (h : IntsAt w p xs) {B : Nat} (hB : Below B w w') (hg : ∀ g off, p = some ⟨g, off, none⟩ → g < B) : IntsAt w' p xs := by
  intro j hj
  obtain ⟨g, off, e, h1, h2⟩ := h j hj
  exact ⟨g, off, e, Nat.lt_of_lt_of_le h1 hB.size, (hB.cell (p := ⟨g, _, none⟩) (hg g off e)).trans h2⟩
theorem IntsAt.below {w w' : World} {p : Option Addr} {xs : List Int} (h : IntsAt w p xs) (hB : Below w.heap.size w w') : IntsAt w' p xs := by
  intro j hj
  obtain ⟨g, off, e, h1, h2⟩ := h j hj
  exact ⟨g, off, e, Nat.lt_of_lt_of_le h1 hB.size, (hB.cell (p := ⟨g, _, none⟩) h1).trans h2⟩

theorem eq_of_getD {xs ys : List Int} (hl : xs.length = ys.length) (h : ∀ j, j < xs.length → xs.getD j 0 = ys.getD j 0) : xs = ys := by
  apply List.ext_getElem hl
  intro j h1 h2
  have := h j h1
  simpa [List.getD, h1, h2] using this

set_option maxRecDepth 100000 in
set_option maxHeartbeats 4000000 in
theorem ref3_compare (p q : Option Addr) (c1 c2 : Nat) (xs ys : List Int) (m n : Nat) (hm : m = xs.length) (hn : n = ys.length) (b1 : m < 4611686018427387904) (b2 : n < 4611686018427387904) (w : World) (hx : Hid (IntsAt w p xs)) (hy : Hid (IntsAt w q ys)) :
    Calls Try.prog 32 #[.slice p m c1, .slice q n c2] w fun e w' => Below w.heap.size w w' ∧ ∃ c : Int, e = .returned (.int .i64 c) ∧ (c = 0 ↔ xs = ys) := by
  have HM := Lib.hid hm; have HN := Lib.hid hn
  clear hm hn
  go_enter Try.func32, Try.ntmps32
  go_wp2_with fail
  go_loopw [5] (fun u wr => ∃ k : Nat, k ≤ m ∧ k ≤ n ∧ u = .int .i64 k ∧ Hid (∀ j, j < k → xs.getD j 0 = ys.getD j 0) ∧ Below w.heap.size w wr)
    (fun u _ => m - (intOf u).toNat)
  case atStart => exact ⟨0, Nat.zero_le _, Nat.zero_le _, rfl, (by intro j hj; omega), Below.refl _ _⟩
  case round =>
    obtain ⟨k, hk1, hk2, rfl, hE, hB⟩ := hrel
    by_cases h1 : k < m
    case neg =>
      have hkm : k = m := by omega
      by_cases h2 : m < n
      · go_wp2
        go_returns
        refine ⟨hB, _, rfl, ?_⟩
        have hm := HM.out; have hn := HN.out
        refine ⟨(fun e => by cases e), fun e => by rw [e] at hm; omega⟩
      · have hmn : m = n := by omega
        have hnm : ¬ n < m := by omega
        have hfin : xs = ys := eq_of_getD (by rw [← HM.out, ← HN.out]; exact hmn) (fun j hj => hE.out j (by rw [hkm, HM.out]; exact hj))
        have HF := Lib.hid hfin
        clear hkm hmn hfin
        go_wp2
        go_returns
        exact ⟨hB, _, rfl, ⟨fun _ => HF.out, fun _ => rfl⟩⟩
    by_cases h2 : k < n
    case neg =>
      have h3 : ¬ m < n := by omega
      have h4 : n < m := by omega
      go_wp2
      go_returns
      refine ⟨hB, _, rfl, ?_⟩
      have hm := HM.out; have hn := HN.out
      refine ⟨(fun e => by cases e), fun e => by rw [e] at hm; omega⟩
    obtain ⟨g, off, rfl, hg, hc⟩ := hx.out k (by rw [← HM.out]; exact h1)
    obtain ⟨g', off', rfl, hg', hc'⟩ := hy.out k (by rw [← HN.out]; exact h2)
    replace hc := (hB.cell (p := ⟨g, off + k, none⟩) hg).trans hc
    replace hc' := (hB.cell (p := ⟨g', off' + k, none⟩) hg').trans hc'
    replace hg := Nat.lt_of_lt_of_le hg hB.size
    replace hg' := Nat.lt_of_lt_of_le hg' hB.size
    obtain ⟨x, hxv⟩ : ∃ x, x = xs.getD k 0 := ⟨_, rfl⟩
    obtain ⟨y, hyv⟩ : ∃ y, y = ys.getD k 0 := ⟨_, rfl⟩
    rw [← hxv] at hc; rw [← hyv] at hc'
    have HX := Lib.hid hxv; have HY := Lib.hid hyv
    clear hxv hyv
    go_wp2_with fail
    refine wp_calm0 9 (by kernel_rfl) (by kernel_rfl) ?_
    intro K hK
    repeat (refine wpCalm_step (fun M hM => ?_); go_simp; first | (refine hM _ ?_; clear hM M) | (apply Exists.intro; refine ⟨fun wc hw => ?_, hM _ ?_⟩; (obtain ⟨hcc, hff⟩ := bcell (hK wc hw); go_simp; first | exact rfl); clear hM M))
    refine wpCalm_nil ?_
    clear hK K
    intro V hX
    replace hc := (hX.cell (p := ⟨g, off + k, none⟩) hg).trans hc
    replace hc' := (hX.cell (p := ⟨g', off' + k, none⟩) hg').trans hc'
    replace hg := Nat.lt_of_lt_of_le hg hX.size
    replace hg' := Nat.lt_of_lt_of_le hg' hX.size
    replace hB := after hB hX
    clear hX
    simp only [List.drop_succ_cons, List.drop_zero]
    by_cases hlt : x < y
    · go_wp2
      go_returns
      refine ⟨hB, _, rfl, (fun e => by cases e), fun e => ?_⟩
      have := HX.out; have := HY.out; rw [e] at *; omega
    go_wp2_with fail
    refine wp_calm0 9 (by kernel_rfl) (by kernel_rfl) ?_
    intro K hK
    repeat (refine wpCalm_step (fun M hM => ?_); go_simp; first | (refine hM _ ?_; clear hM M) | (apply Exists.intro; refine ⟨fun wc hw => ?_, hM _ ?_⟩; (obtain ⟨hcc, hff⟩ := bcell (hK wc hw); go_simp; first | exact rfl); clear hM M))
    refine wpCalm_nil ?_
    clear hK K
    intro V2 hX
    replace hB := after hB hX
    clear hX hc hc' hg hg'
    simp only [List.drop_succ_cons, List.drop_zero]
    by_cases hgt : y < x
    · go_wp2
      go_returns
      refine ⟨hB, _, rfl, (fun e => by cases e), fun e => ?_⟩
      have := HX.out; have := HY.out; rw [e] at *; omega
    go_wp2
    go_roundw
    case rel =>
      refine ⟨k + 1, by omega, by omega, by go_num, ?_, hB⟩
      intro j hj
      rcases Nat.lt_or_ge j k with h | h
      · exact hE.out j h
      · have : j = k := by omega
        subst this
        rw [← HX.out, ← HY.out]; omega
    case measure => simp [intOf]; omega
set_option maxHeartbeats 1000000 in
theorem ref3_same (p q : Option Addr) (c1 c2 : Nat) (xs ys : List Int) (m n : Nat) (hm : m = xs.length) (hn : n = ys.length) (b1 : m < 4611686018427387904) (b2 : n < 4611686018427387904) (w : World) (hx : Hid (IntsAt w p xs)) (hy : Hid (IntsAt w q ys)) :
    Calls Try.prog 12 #[.slice p m c1, .slice q n c2] w fun e w' => e = .returned (.bool (decide (xs = ys))) ∧ Below w.heap.size w w' := by
  have H := Lib.hid (ref3_compare p q c1 c2 xs ys m n hm hn b1 b2 w hx hy)
  clear hm hn
  go_enter Try.func12, Try.ntmps12
  go_wp2_with fail
  refine H.out.mono ?_; rintro e W1 ⟨hX, c, rfl, hc⟩
  have HC := Lib.hid hc
  clear hc
  by_cases h0 : c = 0
  · have := HC.out.1 h0
    have HT := Lib.hid this
    clear this
    go_wp2
    go_returns
    exact retB (by simp [HT.out, h0]) hX
  · have : ¬ xs = ys := fun e => h0 (HC.out.2 e)
    have HT := Lib.hid this
    clear this
    go_wp2
    go_returns
    exact retB (by simp [HT.out, h0]) hX
end Go.Proofs.Ytdglijdiiggdgaa
