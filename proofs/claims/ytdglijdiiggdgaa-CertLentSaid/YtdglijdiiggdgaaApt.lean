import Derived.Test.YtdglijdiiggdgaaSe2
namespace Go.Proofs.Ytdglijdiiggdgaa
open Go.RowKit Go.Maps Geo
theorem infoTri : (Try.prog.info? 45).map (fun i => (i.zero, i.size, i.bytes)) = some (some (.agg #[.int .i64 0, .int .i64 0, .int .i64 0]), 3, 24) := by kernel_rfl
theorem uTris0 : Try.prog.underlying 23 = some (.slice 45) := by kernel_rfl
theorem cells3_snoc (L : List T3) (a b c : Int) : cells3 L ++ [.int .i64 a, .int .i64 b, .int .i64 c] = cells3 (L ++ [(a, b, c)]) := by unfold cells3; rw [List.flatMap_append]; rfl
/-- A list of triples in a block of its own. -/
def RowAt (w : World) (base : Nat) (p : Option Addr) (L : List T3) : Prop := (L = [] ∧ p = none) ∨ ∃ g cur, p = some ⟨g, 0, none⟩ ∧ base ≤ g ∧ w.heap[g]? = some (.cells cur 45 (0, 0)) ∧ cur.toList.take (L.length * 3) = cells3 L
theorem RowAt.pts {w : World} {base : Nat} {p : Option Addr} {L : List T3} (h : RowAt w base p L) : PtsO w p L.length (fA L) (fB L) (fC L) := by
  rcases h with ⟨rfl, rfl⟩ | ⟨g, cur, rfl, hb, hg, htake⟩
  · exact .inl ⟨rfl, rfl⟩
  · refine .inr ⟨g, 0, rfl, (Array.getElem?_eq_some_iff.1 hg).1, fun j hj => ?_⟩
    have at_ : ∀ i, i < L.length * 3 → w.cell? ⟨g, i, none⟩ = (cells3 L)[i]? := fun i hi => by
      rw [← htake, List.getElem?_take_of_lt hi]
      simp [World.cell?, hg]
    obtain ⟨c0, c1, c2⟩ := cells3_at L j hj
    rw [Nat.zero_add]
    exact ⟨(at_ _ (by omega)).trans c0, (at_ _ (by omega)).trans c1, (at_ _ (by omega)).trans c2⟩
theorem RowAt.below {w w' : World} {base : Nat} {p : Option Addr} {L : List T3} (h : RowAt w base p L) (hB : Below w.heap.size w w') : RowAt w' base p L := by
  rcases h with h | ⟨g, cur, e, hb, hg, htake⟩
  · exact .inl h
  · exact .inr ⟨g, cur, e, hb, (hB.block _ (Array.getElem?_eq_some_iff.1 hg).1).trans hg, htake⟩
theorem row_of_own {w : World} {base : Nat} {vv : Value} {L : List T3} (h : w.ownsRow base 45 3 vv L.length (cells3 L)) :
    ∃ p cap, vv = .slice p L.length cap ∧ RowAt w base p L ∧ (p = none → cap = 0) ∧ L.length ≤ cap ∧ cap ≤ maxLen := by
  rcases h.2 with ⟨rfl, hn⟩ | ⟨g, cap, cur, rfl, hb, hg, hle, hmax, hsz, htake⟩
  · exact ⟨none, 0, by rw [hn], .inl ⟨List.length_eq_zero_iff.1 hn, rfl⟩, fun _ => rfl, by omega, Nat.zero_le _⟩
  · exact ⟨_, cap, rfl, .inr ⟨g, cur, rfl, hb, hg, htake⟩, (fun e => by cases e), hle, hmax⟩
theorem own_below {w w' : World} {base : Nat} {T : TypeId} {vv : Value} {k : Nat} {xs : List Value} (h : w.ownsRow base T 3 vv k xs) (hB : Below w.heap.size w w') : w'.ownsRow base T 3 vv k xs := by
  refine ⟨h.1, ?_⟩
  rcases h.2 with h2 | ⟨g, cap, cur, e, hb, hg, h3, h4, h5, h6⟩
  · exact .inl h2
  · exact .inr ⟨g, cap, cur, e, hb, (hB.block _ (Array.getElem?_eq_some_iff.1 hg).1).trans hg, h3, h4, h5, h6⟩
theorem slices_clip (p : Option Addr) (n cap : Nat) (h1 : p = none → cap = 0) (h2 : n ≤ cap) (h3 : cap ≤ maxLen) (w : World) :
    Calls Try.prog 35 #[.slice p n cap] w fun e w' => e = .returned (.slice p n n) ∧ w' = w := by
  unfold maxLen at h3
  cases p with
  | none =>
    have : cap = 0 := h1 rfl
    subst this
    have : n = 0 := by omega
    subst this
    go_enter Try.func35, Try.ntmps35
    go_wp2
    go_returns
    exact ⟨rfl, rfl⟩
  | some a =>
    go_enter Try.func35, Try.ntmps35
    go_wp2
    go_returns
    exact ⟨by simp, rfl⟩
def selL (A B C : Nat → Int) (v : Int) (X Y Z : Nat → Int) : Nat → Nat → List T3
  | 0, _ => []
  | f + 1, k => if ownB (A k) (B k) (C k) v = false ∧ sgI X Y Z (A k) (B k) (C k) v = -1 then (A k, B k, C k) :: selL A B C v X Y Z f (k + 1) else selL A B C v X Y Z f (k + 1)
def allF (n : Nat) (A B C : Nat → Int) : Nat → Nat → Bool
  | 0, _ => true
  | f + 1, k => plcB n (A k) (B k) (C k) && allF n A B C f (k + 1)
def aptR (n m : Nat) (X Y Z A B C : Nat → Int) (v : Int) : List T3 × Int :=
  if (chk n X Y Z).1 ≠ 0 then ([], (chk n X Y Z).1) else if v < 0 ∨ (n : Int) ≤ v then ([], 21) else if allF n A B C m 0 = false then ([], 21) else (selL A B C v X Y Z m 0, 0)
theorem chk_all {n : Nat} {X Y Z : Nat → Int} (h : (chk n X Y Z).1 = 0) : n ≤ 512 ∧ ∀ i, i < n → Co (X i) ∧ Co (Y i) ∧ Co (Z i) := by
  unfold chk at h
  by_cases hn : 512 < n
  · rw [if_pos hn] at h; cases h
  · rw [if_neg hn] at h
    refine ⟨by omega, ?_⟩
    have go : ∀ f k, (chkF X Y Z f k).1 = 0 → ∀ i, k ≤ i → i < k + f → Co (X i) ∧ Co (Y i) ∧ Co (Z i) := by
      intro f
      induction f with
      | zero => intro k _ i h1 h2; omega
      | succ f ih =>
        intro k hk i h1 h2
        unfold chkF at hk
        by_cases hc : Co (X k) ∧ Co (Y k) ∧ Co (Z k)
        · rw [if_pos hc] at hk
          rcases Nat.eq_or_lt_of_le h1 with rfl | hlt
          · exact hc
          · exact ih (k + 1) hk i hlt (by omega)
        · rw [if_neg hc] at hk; cases hk
    exact fun i hi => go n 0 h i (Nat.zero_le _) (by omega)
section
variable {n m k : Nat} {A B C X Y Z : Nat → Int} {v : Int} {r : Bool} {out R : List T3}
theorem all_end (hk : m ≤ k) (h : allF n A B C (m - k) k = r) : r = true := by rw [show m - k = 0 by omega] at h; exact h.symm
theorem all_no (hk : k < m) (hp : plcB n (A k) (B k) (C k) = false) (h : allF n A B C (m - k) k = r) : r = false := by
  rw [show m - k = (m - (k + 1)) + 1 by omega, allF, hp] at h; exact h.symm
theorem all_on (hk : k < m) (hp : plcB n (A k) (B k) (C k) = true) (h : allF n A B C (m - k) k = r) : allF n A B C (m - (k + 1)) (k + 1) = r := by
  rw [show m - k = (m - (k + 1)) + 1 by omega, allF, hp] at h; exact h
theorem all_at : ∀ (f k : Nat), allF n A B C f k = true → ∀ j, k ≤ j → j < k + f → plcB n (A j) (B j) (C j) = true
  | 0, k, _, j, h1, h2 => by omega
  | f + 1, k, h, j, h1, h2 => by
    unfold allF at h
    rw [Bool.and_eq_true] at h
    rcases Nat.eq_or_lt_of_le h1 with rfl | hlt
    · exact h.1
    · exact all_at f (k + 1) h.2 j hlt (by omega)
theorem sel_end (hk : m ≤ k) (h : out ++ selL A B C v X Y Z (m - k) k = R) : R = out := by rw [show m - k = 0 by omega] at h; simpa [selL] using h.symm
theorem sel_no (hk : k < m) (hp : ¬ (ownB (A k) (B k) (C k) v = false ∧ sgI X Y Z (A k) (B k) (C k) v = -1)) (h : out ++ selL A B C v X Y Z (m - k) k = R) : out ++ selL A B C v X Y Z (m - (k + 1)) (k + 1) = R := by
  rw [show m - k = (m - (k + 1)) + 1 by omega, selL, if_neg hp] at h; exact h
theorem sel_yes (hk : k < m) (hp : ownB (A k) (B k) (C k) v = false ∧ sgI X Y Z (A k) (B k) (C k) v = -1) (h : out ++ selL A B C v X Y Z (m - k) k = R) : (out ++ [(A k, B k, C k)]) ++ selL A B C v X Y Z (m - (k + 1)) (k + 1) = R := by
  rw [show m - k = (m - (k + 1)) + 1 by omega, selL, if_pos hp] at h; simpa using h
end
set_option maxRecDepth 100000 in
set_option maxHeartbeats 8000000 in
theorem cert_apart (pl pt : Option Addr) (n cp m cp2 : Nat) (X Y Z A B C : Nat → Int) (v : Int) (hm : m < 1048576) (R : List T3) (code : Int) (HR : Hid (aptR n m X Y Z A B C v = (R, code))) (w : World) (hp : Hid (PtsO w pl n X Y Z)) (ht : Hid (PtsO w pt m A B C)) :
    Calls Try.prog 13 #[.slice pl n cp, .slice pt m cp2, .int .i64 v] w fun e w' => Below w.heap.size w w' ∧ ∃ p cap, e = .returned (.tuple #[.slice p R.length cap, .int .i64 code]) ∧ RowAt w' w.heap.size p R := by
  obtain ⟨i0, hi0, hiz0, hiz1, hiz2⟩ := info_parts infoTri
  have HI := Lib.hid hi0; have HZ0 := Lib.hid hiz0; have HZ1 := Lib.hid hiz1; have HZ2 := Lib.hid hiz2
  clear hi0 hiz0 hiz1 hiz2
  go_enter Try.func13, Try.ntmps13
  go_wp2_with fail
  refine (seq_check pl n cp X Y Z w hp).mono ?_; rintro e W ⟨rfl, hB⟩
  obtain ⟨c1, hc1⟩ : ∃ c1, c1 = (chk n X Y Z).1 := ⟨_, rfl⟩
  obtain ⟨c2, hc2⟩ : ∃ c2, c2 = (chk n X Y Z).2 := ⟨_, rfl⟩
  rw [← hc1, ← hc2]
  have HC1 := Lib.hid hc1
  clear hc1 hc2
  by_cases h0 : c1 = 0
  case neg =>
    have hr := HR.out
    unfold aptR at hr
    rw [if_pos (by rw [← HC1.out]; exact h0), ← HC1.out] at hr
    injection hr with r1 r2
    subst r1 r2
    clear HR HC1
    go_wp2
    go_returns
    exact ⟨hB, none, 0, rfl, .inl ⟨rfl, rfl⟩⟩
  have hall := chk_all (X := X) (Y := Y) (Z := Z) (n := n) (by rw [← HC1.out]; exact h0)
  have HALL := Lib.hid hall
  have hr := HR.out
  unfold aptR at hr
  rw [if_neg (by rw [← HC1.out]; simpa using h0)] at hr
  clear HR HC1 hall
  subst h0
  by_cases hv : v < 0
  case pos =>
    rw [if_pos (.inl hv)] at hr
    injection hr with r1 r2
    subst r1 r2
    go_wp2
    go_returns
    exact ⟨hB, none, 0, rfl, .inl ⟨rfl, rfl⟩⟩
  by_cases hv2 : (n : Int) ≤ v
  case pos =>
    rw [if_pos (.inr hv2)] at hr
    injection hr with r1 r2
    subst r1 r2
    have hv3 : ¬ v < (n : Int) := by omega
    go_wp2
    go_returns
    exact ⟨hB, none, 0, rfl, .inl ⟨rfl, rfl⟩⟩
  rw [if_neg (by omega)] at hr
  have hv3 : v < (n : Int) := by omega
  have HR := Lib.hid hr
  clear hr
  obtain ⟨ra, hra⟩ : ∃ ra, ra = allF n A B C m 0 := ⟨_, rfl⟩
  have HF0 : Hid (allF n A B C (m - 0) 0 = ra) := hra.symm
  have HRA := Lib.hid hra
  clear hra
  go_wp2_with fail
  go_loopw [35] (fun u wr => ∃ k : Nat, k ≤ m ∧ u = .int .i64 k ∧ Hid (allF n A B C (m - k) k = ra) ∧ Hid (Below w.heap.size w wr))
    (fun u _ => m - (intOf u).toNat)
  case atStart => exact ⟨0, Nat.zero_le _, rfl, HF0, hB⟩
  clear hB HF0
  obtain ⟨k, hk, rfl, HF, HB⟩ := hrel
  by_cases hlt : k < m
  case pos =>
    obtain ⟨q, off2, rfl, hq0⟩ := ht.out.at hlt
    have htr := hq0.mono HB.out hq0.1
    obtain ⟨g1, g2, g3⟩ := htr.2 k hlt
    have hqr := htr.1
    clear htr hq0
    obtain ⟨a, ha⟩ : ∃ a, a = A k := ⟨_, rfl⟩
    obtain ⟨b1, hb1⟩ : ∃ b1, b1 = B k := ⟨_, rfl⟩
    obtain ⟨c, hc1⟩ : ∃ c, c = C k := ⟨_, rfl⟩
    rw [← ha] at g1; rw [← hb1] at g2; rw [← hc1] at g3
    have EA := Lib.hid ha; have EB := Lib.hid hb1; have EC := Lib.hid hc1
    clear ha hb1 hc1
    go_wp2_with fail
    first | refine wp_named ?_ | refine calls_named ?_
    intro W0 hW
    have hB : Below w.heap.size w W0 := by rw [hW]; have := HB.out.size; have := HB.out; go_grown
    clear hW g1 g2 g3 HB
    refine (cert_places n a b1 c pl cp W0).mono ?_; rintro e W1 ⟨rfl, hX⟩
    replace hB := after hB hX
    clear hX
    have HB := Lib.hid hB
    clear hB
    cases hpl : plcB n a b1 c with
    | false =>
      have hno := all_no hlt (by rw [← EA.out, ← EB.out, ← EC.out]; exact hpl) HF.out
      have hr := HR.out
      rw [if_pos (HRA.out.symm.trans hno)] at hr
      injection hr with r1 r2
      subst r1 r2
      clear HR HF hno hpl
      go_wp2
      go_returns
      exact ⟨HB.out, none, 0, rfl, .inl ⟨rfl, rfl⟩⟩
    | true =>
      have hon := Lib.hid (all_on hlt (by rw [← EA.out, ← EB.out, ← EC.out]; exact hpl) HF.out)
      clear hpl HF
      go_wp2_with fail
      go_roundw
      case rel => exact ⟨k + 1, by omega, by go_num, hon, HB⟩
      case measure => simp [intOf]; omega
  have hat := all_end (by omega) HF.out
  subst hat
  have hr := HR.out
  rw [if_neg (by rw [← HRA.out]; decide)] at hr
  injection hr with r1 r2
  have HF0 : Hid ([] ++ selL A B C v X Y Z (m - 0) 0 = R) := r1
  have HPL := Lib.hid (fun j (hj : j < m) => all_at m 0 HRA.out.symm j (Nat.zero_le _) (by omega))
  subst r2
  clear HR HRA HF r1
  go_wp2_with fail
  clear hlt hk
  obtain ⟨S0, rfl⟩ : ∃ S, S = wr := ⟨_, rfl⟩
  go_loopw [12, 46] (fun vv u wr => ∃ (k : Nat) (out : List T3), k ≤ m ∧ u = .int .i64 k ∧ Hid (out ++ selL A B C v X Y Z (m - k) k = R) ∧ Hid (out.length ≤ k) ∧ Hid (wr.ownsRow w.heap.size 45 3 vv out.length (cells3 out)) ∧ Hid (Below w.heap.size w wr))
    (fun _ u _ => m - (intOf u).toNat)
  case atStart => exact ⟨0, [], Nat.zero_le _, rfl, HF0, Nat.le_refl _, World.ownsRow_nil _ _ _ _, HB⟩
  clear HF0 HB
  obtain ⟨k, out, hk, rfl, HF, HL0, hrow, HB⟩ := hrel
  by_cases hlt : k < m
  case pos =>
    have HL : Hid (out.length < 1048576) := by have := HL0.out; refine Lib.hid ?_; omega
    obtain ⟨q, off2, rfl, hq0⟩ := ht.out.at hlt
    have htr := hq0.mono HB.out hq0.1
    obtain ⟨g1, g2, g3⟩ := htr.2 k hlt
    have hqr := htr.1
    clear htr hq0
    have hpl := HPL.out k hlt
    obtain ⟨a, ha⟩ : ∃ a, a = A k := ⟨_, rfl⟩
    obtain ⟨b1, hb1⟩ : ∃ b1, b1 = B k := ⟨_, rfl⟩
    obtain ⟨c, hc1⟩ : ∃ c, c = C k := ⟨_, rfl⟩
    rw [← ha] at g1; rw [← hb1] at g2; rw [← hc1] at g3
    rw [← ha, ← hb1, ← hc1] at hpl
    have EA := Lib.hid ha; have EB := Lib.hid hb1; have EC := Lib.hid hc1
    have HPK := Lib.hid hpl
    clear ha hb1 hc1 hpl
    go_wp2_with fail
    first | refine wp_named ?_ | refine calls_named ?_
    intro W0 hW
    have k1 : W0.heap[wr.heap.size]? = some (.cells #[.int .i64 a, .int .i64 b1, .int .i64 c] 45 (0, 0)) := by rw [hW]; exact heap_at rfl
    have z1 : wr.heap.size < W0.heap.size := by rw [hW]; simp
    have hX0 : Below wr.heap.size wr W0 := by rw [hW]; go_grown
    clear hW g1 g2 g3
    obtain ⟨S1, rfl⟩ : ∃ S, S = wr := ⟨_, rfl⟩
    refine (cert_own a b1 c v W0).mono ?_; rintro e W1 ⟨rfl, hX⟩
    replace k1 := (hX.block _ z1).trans k1; replace z1 := Nat.lt_of_lt_of_le z1 hX.size
    have hX1 : Below S1.heap.size S1 W1 := after hX0 hX
    clear hX hX0
    obtain ⟨kq, kr⟩ := cellB k1
    cases hown : ownB a b1 c v with
    | true =>
      have hno := Lib.hid (sel_no hlt (by rw [← EA.out, ← EB.out, ← EC.out, hown]; simp) HF.out)
      have hrow1 := Lib.hid (own_below hrow.out hX1)
      have HB1 := Lib.hid (after HB.out hX1)
      clear hown HF hX1 hrow HB
      go_wp2_with fail
      go_roundw
      case rel => exact ⟨k + 1, out, by omega, by go_num, hno, (by have := HL0.out; refine Lib.hid ?_; omega), hrow1, HB1⟩
      case measure => simp [intOf]; omega
    | false =>
      have hpw := hp.out.below (after HB.out hX1)
      go_wp2_with fail
      refine (sees_prog pl n cp X Y Z a b1 c v (by have := HALL.out.1; omega) HALL.out.2 HPK.out (by omega) hv3 hown W1 hpw).mono ?_; rintro e W2 ⟨rfl, hX⟩
      replace k1 := (hX.block _ z1).trans k1; replace z1 := Nat.lt_of_lt_of_le z1 hX.size
      have hX2 : Below S1.heap.size S1 W2 := after hX1 hX
      clear hX hX1 hpw kq kr
      obtain ⟨kq, kr⟩ := cellB k1
      by_cases hs : sgI X Y Z a b1 c v = -1
      · have hyes := sel_yes hlt (by rw [← EA.out, ← EB.out, ← EC.out]; exact ⟨hown, hs⟩) HF.out
        rw [← EA.out, ← EB.out, ← EC.out] at hyes
        have HY := Lib.hid hyes
        have hsd : decide (sgI X Y Z a b1 c v = -1) = true := by simpa using hs
        rw [hsd]
        replace hrow := Lib.hid (own_below hrow.out hX2)
        have HB1 := Lib.hid (after HB.out hX2)
        have hBs := HB1.out
        clear hyes hs hsd HF hown HB
        go_wp2_with (first | (at_builtin; refine wpList_append_own _ rfl (.tmp 61) (.tmp 63) 23 rfl w.heap.size 45 i0 (.agg #[.int .i64 0, .int .i64 0, .int .i64 0]) 3 24 uTris0 HI.out HZ0.out HZ1.out HZ2.out rfl (by decide) _ out.length (cells3 out) (by rfl) (hrow.out.alloc _) ⟨_, 0, none⟩ 1 1 [.int .i64 a, .int .i64 b1, .int .i64 c] (by rfl) (by rfl) (row3_new _ _ _ _ _) (ints3 _ _ _) (by unfold maxLen; have := HL.out; omega) (by have := HL.out; omega) (by have := hBs.size; simp; omega) ?_; intro v9 x9 hq1 hq2 hq3) | fail)
        have hrow3 : Hid (x9.ownsRow w.heap.size 45 3 v9 (out ++ [(a, b1, c)]).length (cells3 (out ++ [(a, b1, c)]))) := by
          rw [cells3_snoc] at hq1; refine Lib.hid ?_; simpa using hq1
        have HB3 : Hid (Below w.heap.size w x9) := (HB1.out.alloc HB1.out.size _).grown hq2 (by have := HB1.out.size; simp; omega) (fun k hk => (hrow.out.lt k hk).1)
        clear hq1 hq2 hq3 kq kr k1 z1 hX2 HB1 hBs hrow
        go_wp2_with fail
        go_roundw
        case rel => exact ⟨k + 1, out ++ [(a, b1, c)], by omega, by go_num, HY, (by have := HL0.out; refine Lib.hid ?_; simp; omega), hrow3, HB3⟩
        case measure => simp [intOf]; omega
      · have hno := Lib.hid (sel_no hlt (by rw [← EA.out, ← EB.out, ← EC.out]; exact fun h => hs h.2) HF.out)
        have hsd : decide (sgI X Y Z a b1 c v = -1) = false := by simpa using hs
        rw [hsd]
        have hrow1 := Lib.hid (own_below hrow.out hX2)
        have HB1 := Lib.hid (after HB.out hX2)
        clear hown HF hX2 hrow HB hs hsd
        go_wp2_with fail
        go_roundw
        case rel => exact ⟨k + 1, out, by omega, by go_num, hno, (by have := HL0.out; refine Lib.hid ?_; omega), hrow1, HB1⟩
        case measure => simp [intOf]; omega
  have hat := sel_end (by omega) HF.out
  subst hat
  clear HF
  obtain ⟨p, cap, rfl, hRA, hn1, hn2, hn3⟩ := row_of_own hrow.out
  have HRA := Lib.hid hRA
  clear hRA hrow
  have HN1 := Lib.hid hn1
  have hn4 := hn2
  go_wp2_with fail
  refine (slices_clip p R.length cap HN1.out hn2 hn3 _).mono ?_; rintro e W1 ⟨rfl, rfl⟩
  go_wp2_with fail
  go_returns
  exact ⟨HB.out, p, _, rfl, HRA.out⟩
end Go.Proofs.Ytdglijdiiggdgaa
