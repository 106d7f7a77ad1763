import Derived.Test.YtdglijdiiggdgaaMff
import Derived.Laws.AppendOwnNone
import Derived.Maps.AppendAt
import Derived.Deep.RegionWith
import Derived.Deep.CutRange
namespace Go.Proofs.Ytdglijdiiggdgaa
open Go.RowKit Go.Maps Geo
theorem infoTri : (Try.prog.info? 45).map (fun i => (i.zero, i.size, i.bytes)) = some (some (.agg #[.int .i64 0, .int .i64 0, .int .i64 0]), 3, 24) := by kernel_rfl
theorem uTris0 : Try.prog.underlying 23 = some (.slice 45) := by kernel_rfl
theorem cells3_snoc (L : List T3) (a b c : Int) : cells3 L ++ [.int .i64 a, .int .i64 b, .int .i64 c] = cells3 (L ++ [(a, b, c)]) := by unfold cells3; rw [List.flatMap_append]; rfl
/-- A list of triples in a block of its own. -/
def RowAt (w : World) (base : Nat) (p : Option Addr) (L : List T3) : Prop := (L = [] ∧ p = none) ∨ ∃ g cur, p = some ⟨g, 0, none⟩ ∧ base ≤ g ∧ w.heap[g]? = some (.cells cur 45 (0, 0)) ∧ cur.toList.take (L.length * 3) = cells3 L
theorem RowAt.pts {w : World} {base : Nat} {p : Option Addr} {L : List T3} (h : RowAt w base p L) : PtsO w p L.length (fA L) (fB L) (fC L) := by
  rcases h with ⟨rfl, rfl⟩ | ⟨g, cur, rfl, hb, hg, htake⟩
  · exact .inl ⟨rfl, rfl⟩
  · refine .inr ⟨g, 0, rfl, (Array.getElem?_eq_some_iff.1 hg).1, fun j hj => ?_⟩
    have at_ : ∀ i, i < L.length * 3 → w.cell? ⟨g, i, none⟩ = (cells3 L)[i]? := fun i hi => by
      rw [← htake, List.getElem?_take_of_lt hi]
      simp [World.cell?, hg]
    obtain ⟨c0, c1, c2⟩ := cells3_at L j hj
    rw [Nat.zero_add]
    exact ⟨(at_ _ (by omega)).trans c0, (at_ _ (by omega)).trans c1, (at_ _ (by omega)).trans c2⟩
theorem RowAt.below {w w' : World} {base : Nat} {p : Option Addr} {L : List T3} (h : RowAt w base p L) (hB : Below w.heap.size w w') : RowAt w' base p L := by
  rcases h with h | ⟨g, cur, e, hb, hg, htake⟩
  · exact .inl h
  · exact .inr ⟨g, cur, e, hb, (hB.block _ (Array.getElem?_eq_some_iff.1 hg).1).trans hg, htake⟩
theorem row_of_own {w : World} {base : Nat} {vv : Value} {L : List T3} (h : w.ownsRow base 45 3 vv L.length (cells3 L)) :
    ∃ p cap, vv = .slice p L.length cap ∧ RowAt w base p L ∧ (p = none → cap = 0) ∧ L.length ≤ cap ∧ cap ≤ maxLen := by
  rcases h.2 with ⟨rfl, hn⟩ | ⟨g, cap, cur, rfl, hb, hg, hle, hmax, hsz, htake⟩
  · exact ⟨none, 0, by rw [hn], .inl ⟨List.length_eq_zero_iff.1 hn, rfl⟩, fun _ => rfl, by omega, Nat.zero_le _⟩
  · exact ⟨_, cap, rfl, .inr ⟨g, cur, rfl, hb, hg, htake⟩, (fun e => by cases e), hle, hmax⟩
theorem own_below {w w' : World} {base : Nat} {T : TypeId} {vv : Value} {k : Nat} {xs : List Value} (h : w.ownsRow base T 3 vv k xs) (hB : Below w.heap.size w w') : w'.ownsRow base T 3 vv k xs := by
  refine ⟨h.1, ?_⟩
  rcases h.2 with h2 | ⟨g, cap, cur, e, hb, hg, h3, h4, h5, h6⟩
  · exact .inl h2
  · exact .inr ⟨g, cap, cur, e, hb, (hB.block _ (Array.getElem?_eq_some_iff.1 hg).1).trans hg, h3, h4, h5, h6⟩
theorem slices_clip (p : Option Addr) (n cap : Nat) (h1 : p = none → cap = 0) (h2 : n ≤ cap) (h3 : cap ≤ maxLen) (w : World) :
    Calls Try.prog 35 #[.slice p n cap] w fun e w' => e = .returned (.slice p n n) ∧ w' = w := by
  unfold maxLen at h3
  cases p with
  | none =>
    have : cap = 0 := h1 rfl
    subst this
    have : n = 0 := by omega
    subst this
    go_enter Try.func35, Try.ntmps35
    go_wp2
    go_returns
    exact ⟨rfl, rfl⟩
  | some a =>
    go_enter Try.func35, Try.ntmps35
    go_wp2
    go_returns
    exact ⟨by simp, rfl⟩
def selL (A B C : Nat → Int) (v : Int) (X Y Z : Nat → Int) : Nat → Nat → List T3
  | 0, _ => []
  | f + 1, k => if ownB (A k) (B k) (C k) v = false ∧ sgI X Y Z (A k) (B k) (C k) v = -1 then (A k, B k, C k) :: selL A B C v X Y Z f (k + 1) else selL A B C v X Y Z f (k + 1)
def allF (n : Nat) (A B C : Nat → Int) : Nat → Nat → Bool
  | 0, _ => true
  | f + 1, k => plcB n (A k) (B k) (C k) && allF n A B C f (k + 1)
def aptR (n m : Nat) (X Y Z A B C : Nat → Int) (v : Int) : List T3 × Int :=
  if (chk n X Y Z).1 ≠ 0 then ([], (chk n X Y Z).1) else if v < 0 ∨ (n : Int) ≤ v then ([], 21) else if allF n A B C m 0 = false then ([], 21) else (selL A B C v X Y Z m 0, 0)
theorem chk_all {n : Nat} {X Y Z : Nat → Int} (h : (chk n X Y Z).1 = 0) : n ≤ 512 ∧ ∀ i, i < n → Co (X i) ∧ Co (Y i) ∧ Co (Z i) := by
  unfold chk at h
  by_cases hn : 512 < n
  · rw [if_pos hn] at h; cases h
  · rw [if_neg hn] at h
    refine ⟨by omega, ?_⟩
    have go : ∀ f k, (chkF X Y Z f k).1 = 0 → ∀ i, k ≤ i → i < k + f → Co (X i) ∧ Co (Y i) ∧ Co (Z i) := by
      intro f
      induction f with
      | zero => intro k _ i h1 h2; omega
      | succ f ih =>
        intro k hk i h1 h2
        unfold chkF at hk
        by_cases hc : Co (X k) ∧ Co (Y k) ∧ Co (Z k)
        · rw [if_pos hc] at hk
          rcases Nat.eq_or_lt_of_le h1 with rfl | hlt
          · exact hc
          · exact ih (k + 1) hk i hlt (by omega)
        · rw [if_neg hc] at hk; cases hk
    exact fun i hi => go n 0 h i (Nat.zero_le _) (by omega)
section
variable {n m k : Nat} {A B C X Y Z : Nat → Int} {v : Int} {r : Bool} {out R : List T3}
theorem all_end (hk : m ≤ k) (h : allF n A B C (m - k) k = r) : r = true := by rw [show m - k = 0 by omega] at h; exact h.symm
theorem all_no (hk : k < m) (hp : plcB n (A k) (B k) (C k) = false) (h : allF n A B C (m - k) k = r) : r = false := by
  rw [show m - k = (m - (k + 1)) + 1 by omega, allF, hp] at h; exact h.symm
theorem all_on (hk : k < m) (hp : plcB n (A k) (B k) (C k) = true) (h : allF n A B C (m - k) k = r) : allF n A B C (m - (k + 1)) (k + 1) = r := by
  rw [show m - k = (m - (k + 1)) + 1 by omega, allF, hp] at h; exact h
theorem all_at : ∀ (f k : Nat), allF n A B C f k = true → ∀ j, k ≤ j → j < k + f → plcB n (A j) (B j) (C j) = true
  | 0, k, _, j, h1, h2 => by omega
  | f + 1, k, h, j, h1, h2 => by
    unfold allF at h
    rw [Bool.and_eq_true] at h
    rcases Nat.eq_or_lt_of_le h1 with rfl | hlt
    · exact h.1
    · exact all_at f (k + 1) h.2 j hlt (by omega)
theorem sel_end (hk : m ≤ k) (h : out ++ selL A B C v X Y Z (m - k) k = R) : R = out := by rw [show m - k = 0 by omega] at h; simpa [selL] using h.symm
theorem sel_no (hk : k < m) (hp : ¬ (ownB (A k) (B k) (C k) v = false ∧ sgI X Y Z (A k) (B k) (C k) v = -1)) (h : out ++ selL A B C v X Y Z (m - k) k = R) : out ++ selL A B C v X Y Z (m - (k + 1)) (k + 1) = R := by
  rw [show m - k = (m - (k + 1)) + 1 by omega, selL, if_neg hp] at h; exact h
theorem sel_yes (hk : k < m) (hp : ownB (A k) (B k) (C k) v = false ∧ sgI X Y Z (A k) (B k) (C k) v = -1) (h : out ++ selL A B C v X Y Z (m - k) k = R) : (out ++ [(A k, B k, C k)]) ++ selL A B C v X Y Z (m - (k + 1)) (k + 1) = R := by
  rw [show m - k = (m - (k + 1)) + 1 by omega, selL, if_pos hp] at h; simpa using h
end
set_option maxRecDepth 100000 in
set_option maxHeartbeats 8000000 in
theorem cert_apart (pl pt : Option Addr) (n cp m cp2 : Nat) (X Y Z A B C : Nat → Int) (v : Int) (hm : m < 1048576) (R : List T3) (code : Int) (HR : Hid (aptR n m X Y Z A B C v = (R, code))) (w : World) (hp : Hid (PtsO w pl n X Y Z)) (ht : Hid (PtsO w pt m A B C)) :
    Calls Try.prog 13 #[.slice pl n cp, .slice pt m cp2, .int .i64 v] w fun e w' => Below w.heap.size w w' ∧ ∃ p cap, e = .returned (.tuple #[.slice p R.length cap, .int .i64 code]) ∧ RowAt w' w.heap.size p R := by
  obtain ⟨i0, hi0, hiz0, hiz1, hiz2⟩ := info_parts infoTri
  have HI := Lib.hid hi0; have HZ0 := Lib.hid hiz0; have HZ1 := Lib.hid hiz1; have HZ2 := Lib.hid hiz2
  clear hi0 hiz0 hiz1 hiz2
  go_enter Try.func13, Try.ntmps13
  go_wp2_with fail
  refine (seq_check pl n cp X Y Z w hp).mono ?_; rintro e W ⟨rfl, hB⟩
  obtain ⟨c1, hc1⟩ : ∃ c1, c1 = (chk n X Y Z).1 := ⟨_, rfl⟩
  obtain ⟨c2, hc2⟩ : ∃ c2, c2 = (chk n X Y Z).2 := ⟨_, rfl⟩
  rw [← hc1, ← hc2]
  have HC1 := Lib.hid hc1
  clear hc1 hc2
  by_cases h0 : c1 = 0
  case neg =>
    have hr := HR.out
    unfold aptR at hr
    rw [if_pos (by rw [← HC1.out]; exact h0), ← HC1.out] at hr
    injection hr with r1 r2
    subst r1 r2
    clear HR HC1
    go_wp2
    go_returns
    exact ⟨hB, none, 0, rfl, .inl ⟨rfl, rfl⟩⟩
  have hall := chk_all (X := X) (Y := Y) (Z := Z) (n := n) (by rw [← HC1.out]; exact h0)
  have HALL := Lib.hid hall
  have hr := HR.out
  unfold aptR at hr
  rw [if_neg (by rw [← HC1.out]; simpa using h0)] at hr
  clear HR HC1 hall
  subst h0
  by_cases hv : v < 0
  case pos =>
    rw [if_pos (.inl hv)] at hr
    injection hr with r1 r2
    subst r1 r2
    go_wp2
    go_returns
    exact ⟨hB, none, 0, rfl, .inl ⟨rfl, rfl⟩⟩
  by_cases hv2 : (n : Int) ≤ v
  case pos =>
    rw [if_pos (.inr hv2)] at hr
    injection hr with r1 r2
    subst r1 r2
    have hv3 : ¬ v < (n : Int) := by omega
    go_wp2
    go_returns
    exact ⟨hB, none, 0, rfl, .inl ⟨rfl, rfl⟩⟩
  rw [if_neg (by omega)] at hr
  have hv3 : v < (n : Int) := by omega
  have HR := Lib.hid hr
  clear hr
  obtain ⟨ra, hra⟩ : ∃ ra, ra = allF n A B C m 0 := ⟨_, rfl⟩
  have HF0 : Hid (allF n A B C (m - 0) 0 = ra) := hra.symm
  have HRA := Lib.hid hra
  clear hra
  go_wp2_with fail
  go_loopw [35] (fun u wr => ∃ k : Nat, k ≤ m ∧ u = .int .i64 k ∧ Hid (allF n A B C (m - k) k = ra) ∧ Hid (Below w.heap.size w wr))
    (fun u _ => m - (intOf u).toNat)
  case atStart => exact ⟨0, Nat.zero_le _, rfl, HF0, hB⟩
  clear hB HF0
  obtain ⟨k, hk, rfl, HF, HB⟩ := hrel
  by_cases hlt : k < m
  case pos =>
    obtain ⟨q, off2, rfl, hq0⟩ := ht.out.at hlt
    have htr := hq0.mono HB.out hq0.1
    obtain ⟨g1, g2, g3⟩ := htr.2 k hlt
    have hqr := htr.1
    clear htr hq0
    obtain ⟨a, ha⟩ : ∃ a, a = A k := ⟨_, rfl⟩
    obtain ⟨b1, hb1⟩ : ∃ b1, b1 = B k := ⟨_, rfl⟩
    obtain ⟨c, hc1⟩ : ∃ c, c = C k := ⟨_, rfl⟩
    rw [← ha] at g1; rw [← hb1] at g2; rw [← hc1] at g3
    have EA := Lib.hid ha; have EB := Lib.hid hb1; have EC := Lib.hid hc1
    clear ha hb1 hc1
    go_wp2_with fail
    first | refine wp_named ?_ | refine calls_named ?_
    intro W0 hW
    have hB : Below w.heap.size w W0 := by rw [hW]; have := HB.out.size; have := HB.out; go_grown
    clear hW g1 g2 g3 HB
    refine (cert_places n a b1 c pl cp W0).mono ?_; rintro e W1 ⟨rfl, hX⟩
    replace hB := after hB hX
    clear hX
    have HB := Lib.hid hB
    clear hB
    cases hpl : plcB n a b1 c with
    | false =>
      have hno := all_no hlt (by rw [← EA.out, ← EB.out, ← EC.out]; exact hpl) HF.out
      have hr := HR.out
      rw [if_pos (HRA.out.symm.trans hno)] at hr
      injection hr with r1 r2
      subst r1 r2
      clear HR HF hno hpl
      go_wp2
      go_returns
      exact ⟨HB.out, none, 0, rfl, .inl ⟨rfl, rfl⟩⟩
    | true =>
      have hon := Lib.hid (all_on hlt (by rw [← EA.out, ← EB.out, ← EC.out]; exact hpl) HF.out)
      clear hpl HF
      go_wp2_with fail
      go_roundw
      case rel => exact ⟨k + 1, by omega, by go_num, hon, HB⟩
      case measure => simp [intOf]; omega
  have hat := all_end (by omega) HF.out
  subst hat
  have hr := HR.out
  rw [if_neg (by rw [← HRA.out]; decide)] at hr
  injection hr with r1 r2
  have HF0 : Hid ([] ++ selL A B C v X Y Z (m - 0) 0 = R) := r1
  have HPL := Lib.hid (fun j (hj : j < m) => all_at m 0 HRA.out.symm j (Nat.zero_le _) (by omega))
  subst r2
  clear HR HRA HF r1
  go_wp2_with fail
  clear hlt hk
  obtain ⟨S0, rfl⟩ : ∃ S, S = wr := ⟨_, rfl⟩
  go_loopw [12, 46] (fun vv u wr => ∃ (k : Nat) (out : List T3), k ≤ m ∧ u = .int .i64 k ∧ Hid (out ++ selL A B C v X Y Z (m - k) k = R) ∧ Hid (out.length ≤ k) ∧ Hid (wr.ownsRow w.heap.size 45 3 vv out.length (cells3 out)) ∧ Hid (Below w.heap.size w wr))
    (fun _ u _ => m - (intOf u).toNat)
  case atStart => exact ⟨0, [], Nat.zero_le _, rfl, HF0, Nat.le_refl _, World.ownsRow_nil _ _ _ _, HB⟩
  clear HF0 HB
  obtain ⟨k, out, hk, rfl, HF, HL0, hrow, HB⟩ := hrel
  by_cases hlt : k < m
  case pos =>
    have HL : Hid (out.length < 1048576) := by have := HL0.out; refine Lib.hid ?_; omega
    obtain ⟨q, off2, rfl, hq0⟩ := ht.out.at hlt
    have htr := hq0.mono HB.out hq0.1
    obtain ⟨g1, g2, g3⟩ := htr.2 k hlt
    have hqr := htr.1
    clear htr hq0
    have hpl := HPL.out k hlt
    obtain ⟨a, ha⟩ : ∃ a, a = A k := ⟨_, rfl⟩
    obtain ⟨b1, hb1⟩ : ∃ b1, b1 = B k := ⟨_, rfl⟩
    obtain ⟨c, hc1⟩ : ∃ c, c = C k := ⟨_, rfl⟩
    rw [← ha] at g1; rw [← hb1] at g2; rw [← hc1] at g3
    rw [← ha, ← hb1, ← hc1] at hpl
    have EA := Lib.hid ha; have EB := Lib.hid hb1; have EC := Lib.hid hc1
    have HPK := Lib.hid hpl
    clear ha hb1 hc1 hpl
    go_wp2_with fail
    first | refine wp_named ?_ | refine calls_named ?_
    intro W0 hW
    have k1 : W0.heap[wr.heap.size]? = some (.cells #[.int .i64 a, .int .i64 b1, .int .i64 c] 45 (0, 0)) := by rw [hW]; exact heap_at rfl
    have z1 : wr.heap.size < W0.heap.size := by rw [hW]; simp
    have hX0 : Below wr.heap.size wr W0 := by rw [hW]; go_grown
    clear hW g1 g2 g3
    obtain ⟨S1, rfl⟩ : ∃ S, S = wr := ⟨_, rfl⟩
    refine (cert_own a b1 c v W0).mono ?_; rintro e W1 ⟨rfl, hX⟩
    replace k1 := (hX.block _ z1).trans k1; replace z1 := Nat.lt_of_lt_of_le z1 hX.size
    have hX1 : Below S1.heap.size S1 W1 := after hX0 hX
    clear hX hX0
    obtain ⟨kq, kr⟩ := cellB k1
    cases hown : ownB a b1 c v with
    | true =>
      have hno := Lib.hid (sel_no hlt (by rw [← EA.out, ← EB.out, ← EC.out, hown]; simp) HF.out)
      have hrow1 := Lib.hid (own_below hrow.out hX1)
      have HB1 := Lib.hid (after HB.out hX1)
      clear hown HF hX1 hrow HB
      go_wp2_with fail
      go_roundw
      case rel => exact ⟨k + 1, out, by omega, by go_num, hno, (by have := HL0.out; refine Lib.hid ?_; omega), hrow1, HB1⟩
      case measure => simp [intOf]; omega
    | false =>
      have hpw := hp.out.below (after HB.out hX1)
      go_wp2_with fail
      refine (sees_prog pl n cp X Y Z a b1 c v (by have := HALL.out.1; omega) HALL.out.2 HPK.out (by omega) hv3 hown W1 hpw).mono ?_; rintro e W2 ⟨rfl, hX⟩
      replace k1 := (hX.block _ z1).trans k1; replace z1 := Nat.lt_of_lt_of_le z1 hX.size
      have hX2 : Below S1.heap.size S1 W2 := after hX1 hX
      clear hX hX1 hpw kq kr
      obtain ⟨kq, kr⟩ := cellB k1
      by_cases hs : sgI X Y Z a b1 c v = -1
      · have hyes := sel_yes hlt (by rw [← EA.out, ← EB.out, ← EC.out]; exact ⟨hown, hs⟩) HF.out
        rw [← EA.out, ← EB.out, ← EC.out] at hyes
        have HY := Lib.hid hyes
        have hsd : decide (sgI X Y Z a b1 c v = -1) = true := by simpa using hs
        rw [hsd]
        replace hrow := Lib.hid (own_below hrow.out hX2)
        have HB1 := Lib.hid (after HB.out hX2)
        have hBs := HB1.out
        clear hyes hs hsd HF hown HB
        go_wp2_with (first | (at_builtin; refine wpList_append_own _ rfl (.tmp 61) (.tmp 63) 23 rfl w.heap.size 45 i0 (.agg #[.int .i64 0, .int .i64 0, .int .i64 0]) 3 24 uTris0 HI.out HZ0.out HZ1.out HZ2.out rfl (by decide) _ out.length (cells3 out) (by rfl) (hrow.out.alloc _) ⟨_, 0, none⟩ 1 1 [.int .i64 a, .int .i64 b1, .int .i64 c] (by rfl) (by rfl) (row3_new _ _ _ _ _) (ints3 _ _ _) (by unfold maxLen; have := HL.out; omega) (by have := HL.out; omega) (by have := hBs.size; simp; omega) ?_; intro v9 x9 hq1 hq2 hq3) | fail)
        have hrow3 : Hid (x9.ownsRow w.heap.size 45 3 v9 (out ++ [(a, b1, c)]).length (cells3 (out ++ [(a, b1, c)]))) := by
          rw [cells3_snoc] at hq1; refine Lib.hid ?_; simpa using hq1
        have HB3 : Hid (Below w.heap.size w x9) := (HB1.out.alloc HB1.out.size _).grown hq2 (by have := HB1.out.size; simp; omega) (fun k hk => (hrow.out.lt k hk).1)
        clear hq1 hq2 hq3 kq kr k1 z1 hX2 HB1 hBs hrow
        go_wp2_with fail
        go_roundw
        case rel => exact ⟨k + 1, out ++ [(a, b1, c)], by omega, by go_num, HY, (by have := HL0.out; refine Lib.hid ?_; simp; omega), hrow3, HB3⟩
        case measure => simp [intOf]; omega
      · have hno := Lib.hid (sel_no hlt (by rw [← EA.out, ← EB.out, ← EC.out]; exact fun h => hs h.2) HF.out)
        have hsd : decide (sgI X Y Z a b1 c v = -1) = false := by simpa using hs
        rw [hsd]
        have hrow1 := Lib.hid (own_below hrow.out hX2)
        have HB1 := Lib.hid (after HB.out hX2)
        clear hown HF hX2 hrow HB hs hsd
        go_wp2_with fail
        go_roundw
        case rel => exact ⟨k + 1, out, by omega, by go_num, hno, (by have := HL0.out; refine Lib.hid ?_; omega), hrow1, HB1⟩
        case measure => simp [intOf]; omega
  have hat := sel_end (by omega) HF.out
  subst hat
  clear HF
  obtain ⟨p, cap, rfl, hRA, hn1, hn2, hn3⟩ := row_of_own hrow.out
  have HRA := Lib.hid hRA
  clear hRA hrow
  have HN1 := Lib.hid hn1
  have hn4 := hn2
  go_wp2_with fail
  refine (slices_clip p R.length cap HN1.out hn2 hn3 _).mono ?_; rintro e W1 ⟨rfl, rfl⟩
  go_wp2_with fail
  go_returns
  exact ⟨HB.out, p, _, rfl, HRA.out⟩
end Go.Proofs.Ytdglijdiiggdgaa
namespace Go.Proofs.Ytdglijdiiggdgaa
open Go.RowKit Go.Maps Geo
/-- An append to a row of the call's own, with its new slice in sight. -/
theorem wp_app {P : Program} {w : World} {ops : Array Oper} {rest : List Oper} {o : Oper} {a : Act} {Q : Exit → Act → World → Prop} (hgd : o.guard = none) (s x : Operand) (t : TypeId)
    (ho : o.op = .call { callee := .builtin .append, args := #[s, x], argTypes := #[t, t] })
    (base : Nat) (e : TypeId) (i : TypeInfo) (z : Value) (size bytes : Nat) (ht : P.underlying t = some (.slice e)) (hi : P.info? e = some i) (hz : i.zero = some z)
    (hsize : i.size = size) (hby : i.bytes = bytes) (hzs : z.cells.size = size) (hsz : 0 < size)
    (v : Value) (n : Nat) (xs : List Value) (hs : a.eval s = v) (hown : w.ownsRow base e size v n xs)
    (ad : Addr) (m c : Nat) (news : List Value) (hx : a.eval x = .slice (some ad) m c) (hl : news.length = m * size) (hnews : ∀ j u, news[j]? = some u → w.cell? (ad.add j) = some u) (h1 : ∀ u ∈ news, u.oneCell' = true)
    (h63 : n + m ≤ maxLen) (hbytes : (n + m) * bytes ≤ 140737488355328) (hbase : base ≤ w.heap.size) (hpos : 0 < n + m)
    (h : ∀ g cap w', w'.ownsRow base e size (.slice (some ⟨g, 0, none⟩) (n + m) cap) (n + m) (xs ++ news) → w.grownBy w' v.ownBlock → n + m ≤ cap → cap ≤ 9223372036854775807 → (v.ownBlock = some g ∨ g = w.heap.size) → wpList P ops Q rest (a.put o.dst (.slice (some ⟨g, 0, none⟩) (n + m) cap)) w') : wpList P ops Q (o :: rest) a w := by
  refine wpList_append_own_at w hgd s x t ho base e i z size bytes ht hi hz hsize hby hzs hsz v n xs hs hown ad m c news hx hl hnews h1 h63 hbytes hbase ?_
  intro v' w' hq1 hq2 _ hat
  have h0 := hq1
  rcases hq1.2 with ⟨_, hn⟩ | ⟨g, cap, cur, rfl, _, _, hnc, hcm, _, _⟩
  · omega
  · refine h g cap w' h0 hq2 hnc hcm ?_
    rcases hat with h' | h'
    · exact .inl h'.symm
    · simp [Value.ownBlock] at h'
      exact .inr h'
section
variable {w : World} {ops : Array Oper} {rest : List Oper} {o : Oper} {a : Act} {Q : Exit → Act → World → Prop}
/-- Triples appended to a row of triples. -/
theorem wp_appT (hgd : o.guard = none) (s x : Operand)
    (ho : o.op = .call { callee := .builtin .append, args := #[s, x], argTypes := #[23, 23] })
    (base : Nat) (v : Value) (n : Nat) (L M : List T3) (hn : n = L.length) (hs : a.eval s = v) (hown : w.ownsRow base 45 3 v L.length (cells3 L))
    (ad : Addr) (m c : Nat) (hm : m = M.length) (hx : a.eval x = .slice (some ad) m c) (hnews : ∀ j u, (cells3 M)[j]? = some u → w.cell? (ad.add j) = some u)
    (hlen : n + m < 1073741824) (hbase : base ≤ w.heap.size) (hpos : 0 < n + m)
    (h : ∀ (R : List T3) (g cap : Nat) (w' : World), Hid (R = L ++ M) → Hid (w'.ownsRow base 45 3 (.slice (some ⟨g, 0, none⟩) R.length cap) R.length (cells3 R)) → Hid (w.grownBy w' v.ownBlock) → R.length ≤ cap → cap ≤ 9223372036854775807 → wpList Try.prog ops Q rest (a.put o.dst (.slice (some ⟨g, 0, none⟩) R.length cap)) w') : wpList Try.prog ops Q (o :: rest) a w := by
  obtain ⟨i0, hi0, hiz0, hiz1, hiz2⟩ := info_parts infoTri
  subst hn hm
  refine wp_app hgd s x _ ho base 45 i0 _ 3 24 uTris0 hi0 hiz0 hiz1 hiz2 rfl (by decide) v L.length (cells3 L) hs hown ad M.length c (cells3 M) hx (cells3_len M) hnews (cells3_one M) (by unfold maxLen; omega) (by omega) hbase hpos ?_
  intro g cap w' h1 h2 h3 h4 _
  rw [cells3_app, ← List.length_append] at h1
  rw [← List.length_append] at h3
  have := h (L ++ M) g cap w' rfl h1 h2 h3 h4
  rwa [List.length_append] at this
theorem wp_appT_none (hgd : o.guard = none) (s x : Operand)
    (ho : o.op = .call { callee := .builtin .append, args := #[s, x], argTypes := #[23, 23] })
    (base : Nat) (v : Value) (n : Nat) (xs : List Value) (hs : a.eval s = v) (hown : w.ownsRow base 45 3 v n xs) (hx : a.eval x = .slice none 0 0)
    (h : wpList Try.prog ops Q rest (a.put o.dst v) w) : wpList Try.prog ops Q (o :: rest) a w := by
  obtain ⟨i0, hi0, hiz0, hiz1, hiz2⟩ := info_parts infoTri
  exact wpList_append_own_none hgd s x _ ho base 45 i0 3 uTris0 hi0 v n xs hs hown hx h
theorem infoEdge : (Try.prog.info? 85).map (fun i => (i.zero, i.size, i.bytes)) = some (some (.agg #[.int .i64 0, .int .i64 0]), 2, 16) := by kernel_rfl
theorem uEdges : Try.prog.underlying 48 = some (.slice 85) := by kernel_rfl
theorem cells2_app (L M : List E2) : cells2 L ++ cells2 M = cells2 (L ++ M) := by unfold cells2; rw [List.flatMap_append]
theorem cells2_one (L : List E2) : ∀ u ∈ cells2 L, u.oneCell' = true := by
  intro u hu
  unfold cells2 at hu
  obtain ⟨t, _, ht⟩ := List.mem_flatMap.1 hu
  simp only [List.mem_cons, List.not_mem_nil, or_false] at ht
  rcases ht with rfl | rfl <;> rfl
/-- Pairs appended to a row of pairs. -/
theorem wp_appE (hgd : o.guard = none) (s x : Operand)
    (ho : o.op = .call { callee := .builtin .append, args := #[s, x], argTypes := #[48, 48] })
    (base : Nat) (v : Value) (n : Nat) (L M : List E2) (hn : n = L.length) (hs : a.eval s = v) (hown : w.ownsRow base 85 2 v L.length (cells2 L))
    (ad : Addr) (m c : Nat) (hm : m = M.length) (hx : a.eval x = .slice (some ad) m c) (hnews : ∀ j u, (cells2 M)[j]? = some u → w.cell? (ad.add j) = some u)
    (hlen : n + m < 1073741824) (hbase : base ≤ w.heap.size) (hpos : 0 < n + m)
    (h : ∀ (R : List E2) (g cap : Nat) (w' : World), Hid (R = L ++ M) → Hid (w'.ownsRow base 85 2 (.slice (some ⟨g, 0, none⟩) R.length cap) R.length (cells2 R)) → Hid (w.grownBy w' v.ownBlock) → R.length ≤ cap → cap ≤ 9223372036854775807 → Hid (v.ownBlock = some g ∨ g = w.heap.size) → wpList Try.prog ops Q rest (a.put o.dst (.slice (some ⟨g, 0, none⟩) R.length cap)) w') : wpList Try.prog ops Q (o :: rest) a w := by
  obtain ⟨i0, hi0, hiz0, hiz1, hiz2⟩ := info_parts infoEdge
  subst hn hm
  refine wp_app hgd s x _ ho base 85 i0 _ 2 16 uEdges hi0 hiz0 hiz1 hiz2 rfl (by decide) v L.length (cells2 L) hs hown ad M.length c (cells2 M) hx (cells2_len M) hnews (cells2_one M) (by unfold maxLen; omega) (by omega) hbase hpos ?_
  intro g cap w' h1 h2 h3 h4 h5
  rw [cells2_app, ← List.length_append] at h1
  rw [← List.length_append] at h3
  have := h (L ++ M) g cap w' rfl h1 h2 h3 h4 h5
  rwa [List.length_append] at this
end
theorem row_mono {w : World} {base base' : Nat} {e : TypeId} {size : Nat} {v : Value} {n : Nat} {xs : List Value} (h : w.ownsRow base e size v n xs) (hb : base' ≤ base) : w.ownsRow base' e size v n xs := by
  refine ⟨h.1, ?_⟩
  rcases h.2 with h2 | ⟨g, cap, cur, a, b, c⟩
  · exact .inl h2
  · exact .inr ⟨g, cap, cur, a, Nat.le_trans hb b, c⟩
theorem addr_add (g off j : Nat) : (⟨g, off, none⟩ : Addr).add j = ⟨g, off + j, none⟩ := by unfold Addr.add; split <;> simp_all
theorem new3 (w : World) (a b c : Int) (T : TypeId) : ∀ j u, (cells3 [(a, b, c)])[j]? = some u → (w.alloc (.cells #[.int .i64 a, .int .i64 b, .int .i64 c] T (0, 0))).cell? ((⟨w.heap.size, 0, none⟩ : Addr).add j) = some u := row3_new w _ _ _ T
theorem new2 (w : World) (a b : Int) (T : TypeId) : ∀ j u, (cells2 [(a, b)])[j]? = some u → (w.alloc (.cells #[.int .i64 a, .int .i64 b] T (0, 0))).cell? ((⟨w.heap.size, 0, none⟩ : Addr).add j) = some u := by
  intro j u h
  obtain ⟨kq, kr⟩ := cellB (w := w.alloc (.cells #[.int .i64 a, .int .i64 b] T (0, 0))) (b := w.heap.size) (heap_at rfl)
  rw [addr_add, Nat.zero_add, kq]
  have e : cells2 [(a, b)] = [.int .i64 a, .int .i64 b] := rfl
  rw [e] at h
  simpa using h
theorem cells3_take (L : List T3) (k : Nat) : (cells3 L).take (k * 3) = cells3 (L.take k) := by
  induction L generalizing k with
  | nil => simp [cells3]
  | cons t L ih =>
    cases k with
    | zero => simp [cells3]
    | succ k =>
      have e : ∀ M : List T3, cells3 (t :: M) = [.int .i64 t.1, .int .i64 t.2.1, .int .i64 t.2.2] ++ cells3 M := fun M => by unfold cells3; rw [List.flatMap_cons]
      rw [List.take_succ_cons, e, e, List.take_append, ← ih k]
      rw [show (k + 1) * 3 = k * 3 + 3 by omega]
      simp
theorem cells3_drop (L : List T3) (k : Nat) : (cells3 L).drop (k * 3) = cells3 (L.drop k) := by
  induction L generalizing k with
  | nil => simp [cells3]
  | cons t L ih =>
    cases k with
    | zero => simp
    | succ k =>
      have e : ∀ M : List T3, cells3 (t :: M) = [.int .i64 t.1, .int .i64 t.2.1, .int .i64 t.2.2] ++ cells3 M := fun M => by unfold cells3; rw [List.flatMap_cons]
      rw [List.drop_succ_cons, e, List.drop_append, ← ih k]
      rw [show (k + 1) * 3 = k * 3 + 3 by omega]
      simp
section
variable {w : World} {base g cap : Nat} {T : TypeId} {L : List T3}
theorem pts_of_row (h : w.ownsRow base T 3 (.slice (some ⟨g, 0, none⟩) L.length cap) L.length (cells3 L)) : PtsAt w g 0 L.length (fA L) (fB L) (fC L) := by
  refine ⟨?_, fun j hj => ?_⟩
  · rcases h.2 with ⟨h', _⟩ | ⟨g', cap', cur, h', _, hg, _⟩
    · simp at h'
    · simp only [Value.slice.injEq, Option.some.injEq, Addr.mk.injEq, and_true, true_and] at h'
      obtain ⟨rfl, rfl⟩ := h'
      exact (Array.getElem?_eq_some_iff.1 hg).1
  · obtain ⟨c0, c1, c2⟩ := cells3_at L j hj
    rw [Nat.zero_add]
    exact ⟨(h.cellAt _ (by omega)).trans c0, (h.cellAt _ (by omega)).trans c1, (h.cellAt _ (by omega)).trans c2⟩
theorem fABC {L : List T3} {k : Nat} (hk : k < L.length) : L[k]? = some (fA L k, fB L k, fC L k) := by
  unfold fA fB fC
  rw [List.getD_eq_getElem?_getD, List.getElem?_eq_getElem hk]
  rfl
theorem take_src (h : w.ownsRow base T 3 (.slice (some ⟨g, 0, none⟩) L.length cap) L.length (cells3 L)) {k : Nat} (hk : k ≤ L.length) : ∀ j u, (cells3 (L.take k))[j]? = some u → w.cell? ((⟨g, 0, none⟩ : Addr).add j) = some u := by
  intro j u hj
  have hl := cells3_len (L.take k)
  have hjl := (List.getElem?_eq_some_iff.1 hj).1
  rw [List.length_take] at hl
  rw [addr_add, Nat.zero_add, h.cellAt j (by omega)]
  rw [← cells3_take, List.getElem?_take_of_lt (by omega)] at hj
  exact hj
theorem drop_src (h : w.ownsRow base T 3 (.slice (some ⟨g, 0, none⟩) L.length cap) L.length (cells3 L)) {k : Nat} (hk : k ≤ L.length) : ∀ j u, (cells3 (L.drop k))[j]? = some u → w.cell? ((⟨g, k * 3, none⟩ : Addr).add j) = some u := by
  intro j u hj
  have hl := cells3_len (L.drop k)
  have hjl := (List.getElem?_eq_some_iff.1 hj).1
  rw [List.length_drop] at hl
  rw [addr_add, h.cellAt (k * 3 + j) (by omega)]
  rw [← cells3_drop, List.getElem?_drop] at hj
  exact hj
end
end Go.Proofs.Ytdglijdiiggdgaa
namespace Go.Proofs.Ytdglijdiiggdgaa
open Go.RowKit Go.Maps Geo
attribute [local irreducible] wpCalm
set_option maxRecDepth 100000 in
set_option maxHeartbeats 16000000 in
theorem ref5_sort (pa : Option Addr) (n cp : Nat) (A B C : Nat → Int) (R : List T3) (hn : n < 1048576) (HR : Hid (sortF A B C (n - 0) 0 [] = R)) (w : World) (hp : Hid (PtsO w pa n A B C)) :
    Calls Try.prog 42 #[.slice pa n cp] w fun e w' => Below w.heap.size w w' ∧ ∃ vv, e = .returned vv ∧ w'.ownsRow w.heap.size 45 3 vv R.length (cells3 R) := by
  go_enter Try.func42, Try.ntmps42
  go_wp2_with fail
  go_loopw [3, 4] (fun vv u wr => ∃ (k : Nat) (out : List T3), k ≤ n ∧ u = .int .i64 k ∧ Hid (sortF A B C (n - k) k out = R) ∧ Hid (out.length ≤ k) ∧ Hid (wr.ownsRow w.heap.size 45 3 vv out.length (cells3 out)) ∧ Hid (Below w.heap.size w wr))
    (fun _ u _ => n - (intOf u).toNat)
  case atStart => exact ⟨0, [], Nat.zero_le _, rfl, HR, Nat.le_refl _, World.ownsRow_nil _ _ _ _, Below.refl _ _⟩
  clear HR
  obtain ⟨k, out, hk, rfl, HF, HL0, hrow, HB⟩ := hrel
  by_cases hlt : k < n
  case neg =>
    have hat := sort_end (by omega) HF.out
    subst hat
    go_wp2_with fail
    go_returns
    exact ⟨HB.out, _, rfl, hrow.out⟩
  have HL : Hid (out.length < 1048576) := by have := HL0.out; refine Lib.hid ?_; omega
  obtain ⟨q, off2, rfl, hq0⟩ := hp.out.at hlt
  have htr := hq0.mono HB.out hq0.1
  obtain ⟨g1, g2, g3⟩ := htr.2 k hlt
  have hqr := htr.1
  clear htr hq0
  obtain ⟨t0, t1, t2, ht⟩ : ∃ t0 t1 t2, canF (A k) (B k) (C k) = (t0, t1, t2) := ⟨_, _, _, rfl⟩
  have hon := sort_on hlt HF.out
  rw [ht] at hon
  have HON := Lib.hid hon
  have hcan := ref5_canon (A k) (B k) (C k)
  rw [ht] at hcan
  unfold tri at hcan
  have HCAN := Lib.hid hcan
  clear hcan hon ht HF
  go_wp2_with fail
  refine (HCAN.out _).mono ?_; rintro e W1 ⟨rfl, hX⟩
  have hrow1 := Lib.hid (own_below hrow.out hX)
  have HB1 := Lib.hid (after HB.out hX)
  clear hX hrow HB HCAN g1 g2 g3 hqr
  go_wp2_with fail
  first | refine wp_named ?_ | refine calls_named ?_
  intro W2 hW
  have kt : W2.heap[W1.heap.size]? = some (.cells #[.int .i64 t0, .int .i64 t1, .int .i64 t2] 45 (0, 0)) := by rw [hW]; exact heap_at rfl
  have hrow2 : Hid (W2.ownsRow w.heap.size 45 3 u3 out.length (cells3 out)) := by rw [hW]; exact hrow1.out.alloc _
  have HB2 : Hid (Below w.heap.size w W2) := by rw [hW]; exact HB1.out.alloc HB1.out.size _
  have zt : W1.heap.size < W2.heap.size := by rw [hW]; simp
  have zb : Hid (w.heap.size ≤ W1.heap.size) := HB1.out.size
  clear hW hrow1 HB1
  rcases hrow2.out.2 with ⟨rfl, h0⟩ | ⟨g, cap, cur, rfl, _, _, hnc, hcm, _, _⟩
  · have hnil : out = [] := List.length_eq_zero_iff.1 h0
    subst hnil
    clear h0 hrow2
    go_wp2_with fail
    refine wp_loop_rounds 1 ?_
    rw [rounds_succ]
    go_wp2_with fail
    obtain ⟨kq, kr⟩ := cellB kt
    refine wp_calm0 12 (by kernel_rfl) (by kernel_rfl) ?_
    intro J hJ
    simp only [List.take_succ_cons, List.take_zero]
    repeat ((with_reducible apply wpCalm_step); intro M hM; go_simp; first | ((with_reducible apply hM); clear hM M) | (rw [if_neg]; rotate_left; (· intro h; cases h); (with_reducible apply hM); clear hM M) | ((with_reducible apply calm_intro); (· intro wc hw; obtain ⟨hc, hf⟩ := bcell (hJ wc hw); go_simp; first | exact rfl); (with_reducible apply hM); clear hM M))
    with_reducible apply wpCalm_nil
    clear hJ J
    intro V1 hX
    replace kt := (hX.block _ zt).trans kt; replace zt := Nat.lt_of_lt_of_le zt hX.size
    have HB' := Lib.hid (after HB2.out hX); clear HB2; have HB2 := HB'; clear HB'
    clear hX
    simp only [List.drop_succ_cons, List.drop_zero]
    clear kq kr
    go_wp2_with fail
    obtain ⟨kq, kr⟩ := cellB kt
    refine wp_calm0 12 (by kernel_rfl) (by kernel_rfl) ?_
    intro J hJ
    simp only [List.take_succ_cons, List.take_zero]
    repeat ((with_reducible apply wpCalm_step); intro M hM; go_simp; first | ((with_reducible apply hM); clear hM M) | (rw [if_neg]; rotate_left; (· intro h; cases h); (with_reducible apply hM); clear hM M) | ((with_reducible apply calm_intro); (· intro wc hw; obtain ⟨hc, hf⟩ := bcell (hJ wc hw); go_simp; first | exact rfl); (with_reducible apply hM); clear hM M))
    with_reducible apply wpCalm_nil
    clear hJ J
    intro V2 hX
    replace kt := (hX.block _ zt).trans kt; replace zt := Nat.lt_of_lt_of_le zt hX.size
    have HB' := Lib.hid (after HB2.out hX); clear HB2; have HB2 := HB'; clear HB'
    clear hX
    simp only [List.drop_succ_cons, List.drop_zero]
    clear kq kr
    obtain ⟨kq, kr⟩ := cellB kt
    have HS2 := HB2.out.size
    go_wp2_with (first | (at_builtin; refine wp_appT rfl (.tmp 50) (.tmp 52) rfl w.heap.size _ 0 [] [(t0, t1, t2)] rfl (by rfl) (World.ownsRow_nil _ _ _ _) ⟨_, 0, none⟩ 1 1 rfl (by rfl) (new3 _ _ _ _ _) (by decide) (by simp; omega) (by decide) ?_; intro R1 g1 c1 v1 HR1 hrow1 hgr1 hc1 hc2) | (at_builtin; refine wp_appT_none rfl (.tmp 54) (.tmp 57) rfl w.heap.size _ _ _ (by rfl) hrow1.out (by rfl) ?_) | fail)
    have HB3 := Lib.hid ((HB2.out.alloc HS2 _).grown hgr1.out (by simp; omega) (fun k hk => by cases hk))
    have HON' : Hid (sortF A B C (n - (k + 1)) (k + 1) R1 = R) := by have := HON.out; rw [insT_nil] at this; rw [HR1.out]; exact this
    have HL1 : Hid (R1.length ≤ k + 1) := by rw [HR1.out]; refine Lib.hid ?_; simp
    clear HON HR1 hgr1 HB2 kq kr kt zt
    go_roundw
    case rel => exact ⟨k + 1, R1, by omega, by go_num, HON', HL1, hrow1, HB3⟩
    case measure => simp [intOf]; omega
  have HNC := Lib.hid hnc
  have HCM := Lib.hid hcm
  clear hnc hcm
  go_wp2_with fail
  go_loopw [6] (fun u wr => ∃ j : Nat, j ≤ posF (t0, t1, t2) out ∧ u = .int .i64 j ∧ Hid (wr.ownsRow w.heap.size 45 3 (.slice (some ⟨g, 0, none⟩) out.length cap) out.length (cells3 out)) ∧ wr.heap[W1.heap.size]? = some (.cells #[.int .i64 t0, .int .i64 t1, .int .i64 t2] 45 (0, 0)) ∧ W1.heap.size < wr.heap.size ∧ Hid (Below w.heap.size w wr))
    (fun u _ => out.length - (intOf u).toNat)
  case atStart => exact ⟨0, Nat.zero_le _, rfl, hrow2, kt, zt, HB2⟩
  clear hrow2 kt zt HB2
  obtain ⟨j, hj, rfl, hrow3, kt, zt, HB3⟩ := hrel
  have HPL := Lib.hid (posF_le (t0, t1, t2) out)
  by_cases hjp : j < posF (t0, t1, t2) out
  · obtain ⟨x, hx, hl⟩ := posF_lt (t0, t1, t2) out j hjp
    have hjl : j < out.length := by have := HPL.out; omega
    have hjb : j < 1048576 := by have := HL.out; omega
    rw [fABC hjl] at hx
    injection hx with hx
    subst hx
    obtain ⟨g1, g2, g3⟩ := (pts_of_row hrow3.out).2 j hjl
    have hgz := (pts_of_row hrow3.out).1
    rw [Nat.zero_add] at g1 g2 g3
    obtain ⟨x0, hx0⟩ : ∃ x, x = fA out j := ⟨_, rfl⟩
    obtain ⟨x1, hx1⟩ : ∃ x, x = fB out j := ⟨_, rfl⟩
    obtain ⟨x2, hx2⟩ : ∃ x, x = fC out j := ⟨_, rfl⟩
    rw [← hx0, ← hx1, ← hx2] at hl
    rw [← hx0] at g1; rw [← hx1] at g2; rw [← hx2] at g3
    have hle := ref5_less x0 x1 x2 t0 t1 t2
    rw [hl] at hle
    have HLE := Lib.hid hle
    clear hle hl hx0 hx1 hx2
    obtain ⟨kq, kr⟩ := cellB kt
    go_wp2_with fail
    refine wp_calm0 12 (by kernel_rfl) (by kernel_rfl) ?_
    intro J hJ
    simp only [List.take_succ_cons, List.take_zero]
    repeat ((with_reducible apply wpCalm_step); intro M hM; go_simp; first | ((with_reducible apply hM); clear hM M) | (rw [if_neg]; rotate_left; (· intro h; cases h); (with_reducible apply hM); clear hM M) | ((with_reducible apply calm_intro); (· intro wc hw; obtain ⟨hc, hf⟩ := bcell (hJ wc hw); go_simp; first | with_reducible exact HLE.out _ | exact rfl); (with_reducible apply hM); clear hM M))
    with_reducible apply wpCalm_nil
    clear hJ J
    clear kq kr g1 g2 g3 hgz
    intro V1 hX
    replace kt := (hX.block _ zt).trans kt; replace zt := Nat.lt_of_lt_of_le zt hX.size
    have HB' := Lib.hid (after HB3.out hX); clear HB3; have HB3 := HB'; clear HB'
    have R' := Lib.hid (own_below hrow3.out hX); clear hrow3; have hrow3 := R'; clear R'
    clear hX
    simp only [List.drop_succ_cons, List.drop_zero]
    go_wp2_with fail
    go_roundw
    case rel => exact ⟨j + 1, by omega, by go_num, hrow3, kt, zt, HB3⟩
    case measure => simp [intOf]; omega
  have hjq : j = posF (t0, t1, t2) out := by omega
  have HJQ := Lib.hid hjq
  clear hj hjp hjq
  by_cases hjl : j < out.length
  · have hl := posF_at (t0, t1, t2) out (fA out j, fB out j, fC out j) (by rw [← HJQ.out]; exact fABC hjl)
    have hjb : j < 1048576 := by have := HL.out; omega
    obtain ⟨g1, g2, g3⟩ := (pts_of_row hrow3.out).2 j hjl
    have hgz := (pts_of_row hrow3.out).1
    rw [Nat.zero_add] at g1 g2 g3
    obtain ⟨x0, hx0⟩ : ∃ x, x = fA out j := ⟨_, rfl⟩
    obtain ⟨x1, hx1⟩ : ∃ x, x = fB out j := ⟨_, rfl⟩
    obtain ⟨x2, hx2⟩ : ∃ x, x = fC out j := ⟨_, rfl⟩
    have hget := fABC hjl
    rw [← hx0, ← hx1, ← hx2] at hl hget
    rw [← hx0] at g1; rw [← hx1] at g2; rw [← hx2] at g3
    have hle := ref5_less x0 x1 x2 t0 t1 t2
    rw [hl] at hle
    have HLE := Lib.hid hle
    have HGET := Lib.hid hget
    clear hle hl hx0 hx1 hx2 hget
    obtain ⟨kq, kr⟩ := cellB kt
    go_wp2_with fail
    refine wp_calm0 12 (by kernel_rfl) (by kernel_rfl) ?_
    intro J hJ
    simp only [List.take_succ_cons, List.take_zero]
    repeat ((with_reducible apply wpCalm_step); intro M hM; go_simp; first | ((with_reducible apply hM); clear hM M) | (rw [if_neg]; rotate_left; (· intro h; cases h); (with_reducible apply hM); clear hM M) | ((with_reducible apply calm_intro); (· intro wc hw; obtain ⟨hc, hf⟩ := bcell (hJ wc hw); go_simp; first | with_reducible exact HLE.out _ | exact rfl); (with_reducible apply hM); clear hM M))
    with_reducible apply wpCalm_nil
    clear hJ J
    clear kq kr
    intro V1 hX
    replace kt := (hX.block _ zt).trans kt; replace zt := Nat.lt_of_lt_of_le zt hX.size
    have HB' := Lib.hid (after HB3.out hX); clear HB3; have HB3 := HB'; clear HB'
    have R' := Lib.hid (own_below hrow3.out hX); clear hrow3; have hrow3 := R'; clear R'
    clear hX
    simp only [List.drop_succ_cons, List.drop_zero]
    clear g1 g2 g3 hgz
    go_wp2_with fail
    obtain ⟨g1, g2, g3⟩ := (pts_of_row hrow3.out).2 j hjl
    have hgz := (pts_of_row hrow3.out).1
    rw [Nat.zero_add] at g1 g2 g3
    have e3 := HGET.out
    rw [fABC hjl] at e3
    injection e3 with e3
    injection e3 with e30 e31
    injection e31 with e31 e32
    rw [e30] at g1; rw [e31] at g2; rw [e32] at g3
    clear e30 e31 e32
    obtain ⟨q3, hq3⟩ : ∃ q, q = (x0 == t0 && (x1 == t1 && x2 == t2)) := ⟨_, rfl⟩
    have HQ3 := Lib.hid hq3
    have EQ3 := eq3 x0 x1 x2 t0 t1 t2
    rw [← hq3] at EQ3
    clear hq3
    obtain ⟨kq, kr⟩ := cellB kt
    refine wp_calm0 12 (by kernel_rfl) (by kernel_rfl) ?_
    intro J hJ
    simp only [List.take_succ_cons, List.take_zero]
    iterate 10 ((with_reducible apply wpCalm_step); intro M hM; go_simp; first | ((with_reducible apply hM); clear hM M) | (rw [if_neg]; rotate_left; (· intro h; cases h); (with_reducible apply hM); clear hM M) | ((with_reducible apply calm_intro); (· intro wc hw; obtain ⟨hc, hf⟩ := bcell (hJ wc hw); go_simp; first | exact rfl); (with_reducible apply hM); clear hM M))
    cases q3 with
    | true =>
      with_reducible apply wpCalm_step
      intro M hM
      go_simp
      with_reducible apply calm_intro (v := .bool true)
      · intro wc hw
        go_simp
      with_reducible apply hM
      clear hM M
      repeat ((with_reducible apply wpCalm_step); intro M hM; go_simp; first | ((with_reducible apply hM); clear hM M) | ((with_reducible apply calm_intro); (· intro wc hw; obtain ⟨hc, hf⟩ := bcell (hJ wc hw); go_simp; first | exact rfl); (with_reducible apply hM); clear hM M))
      with_reducible apply wpCalm_nil
      clear hJ J EQ3 kq kr g1 g2 g3 hgz
      intro V2 hX
      replace kt := (hX.block _ zt).trans kt; replace zt := Nat.lt_of_lt_of_le zt hX.size
      have HB' := Lib.hid (after HB3.out hX); clear HB3; have HB3 := HB'; clear HB'
      have R' := Lib.hid (own_below hrow3.out hX); clear hrow3; have hrow3 := R'; clear R'
      clear hX
      simp only [List.drop_succ_cons, List.drop_zero]
      have hxt := HQ3.out
      simp only [Bool.true_eq, Bool.and_eq_true, beq_iff_eq] at hxt
      obtain ⟨hx0, hx1, hx2⟩ := hxt
      have HINS : Hid (insT out (t0, t1, t2) = out) := by
        refine Lib.hid ?_
        unfold insT
        rw [if_pos (by rw [← HJQ.out, HGET.out, hx0, hx1, hx2])]
      have HON' := HON.out
      rw [HINS.out] at HON'
      have HON2 := Lib.hid HON'
      clear HON' hx0 hx1 hx2 HQ3 HGET HINS HLE HON
      go_wp2_with fail
      go_roundw
      case rel => exact ⟨k + 1, out, by omega, by go_num, HON2, (by have := HL0.out; refine Lib.hid ?_; omega), hrow3, HB3⟩
      case measure => simp [intOf]; omega
    | false =>
      with_reducible apply wpCalm_step
      intro M hM
      go_simp
      with_reducible apply calm_intro (v := .bool false)
      · intro wc hw
        go_simp
      with_reducible apply hM
      clear hM M
      repeat ((with_reducible apply wpCalm_step); intro M hM; go_simp; first | ((with_reducible apply hM); clear hM M) | ((with_reducible apply calm_intro); (· intro wc hw; obtain ⟨hc, hf⟩ := bcell (hJ wc hw); go_simp; first | exact rfl); (with_reducible apply hM); clear hM M))
      with_reducible apply wpCalm_nil
      clear hJ J EQ3 kq kr g1 g2 g3 hgz
      intro V2 hX
      replace kt := (hX.block _ zt).trans kt; replace zt := Nat.lt_of_lt_of_le zt hX.size
      have HB' := Lib.hid (after HB3.out hX); clear HB3; have HB3 := HB'; clear HB'
      have R' := Lib.hid (own_below hrow3.out hX); clear hrow3; have hrow3 := R'; clear R'
      clear hX
      simp only [List.drop_succ_cons, List.drop_zero]
      have hnt : ¬ out[posF (t0, t1, t2) out]? = some (t0, t1, t2) := by
        rw [← HJQ.out, HGET.out]
        intro e
        injection e with e
        injection e with e0 e1
        injection e1 with e1 e2
        have := HQ3.out
        rw [e0, e1, e2] at this
        simp at this
      have HINS : Hid (insT out (t0, t1, t2) = out.take j ++ (t0, t1, t2) :: out.drop j) := by
        refine Lib.hid ?_
        unfold insT
        rw [if_neg hnt, ← HJQ.out]
      clear hnt HQ3 HGET HLE
      by_cases hj0 : j = 0
      · subst hj0
        obtain ⟨kq, kr⟩ := cellB kt
        have HS3 := HB3.out.size
        have hgz := (pts_of_row hrow3.out).1
        have hnc : out.length ≤ cap := HNC.out
        have hcj : ¬ cap = 0 := by omega
        have hlo : out.length < 1048576 := HL.out
        go_wp2_with (first | (at_builtin; refine wp_appT rfl (.tmp 50) (.tmp 52) rfl V2.heap.size _ 0 [] [(t0, t1, t2)] rfl (by rfl) (World.ownsRow_nil _ _ _ _) ⟨_, 0, none⟩ 1 1 rfl (by rfl) (new3 _ _ _ _ _) (by decide) (by simp) (by decide) ?_; intro R2 g2 c3 v2 HR2 hrow2 hgr2 hc3 hc4; have hrow5 := Lib.hid ((hrow3.out.alloc _).kept hgr2.out (.inr (by simp [Value.ownBlock]))); have HB5 := Lib.hid ((HB3.out.alloc HS3 _).grown hgr2.out (by simp; omega) (fun k hk => by cases hk)); have hs2 : V2.heap.size ≤ v2.heap.size := (by have := hgr2.out.size; simp at this; omega); have hl4 : R2.length < 1048578 := (by rw [HR2.out]; simp); have hl5 : 0 < R2.length := (by rw [HR2.out]; simp); have hg2 := (hrow2.out.lt g2 rfl).1; clear hgr2 HB3) | (at_builtin; refine wp_appT rfl (.tmp 54) (.tmp 57) rfl V2.heap.size _ R2.length R2 (out.drop 0) rfl (by rfl) hrow2.out ⟨g, 0 * 3, none⟩ (out.length - 0) (cap - 0) (by simp) (by rfl) (drop_src hrow5.out (by omega)) (by omega) hs2 (by omega) ?_; intro R3 g3 c5 v3 HR3 hrow6 hgr3 hc5 hc6; have hrow7 := Lib.hid (row_mono hrow6.out HS3); have HB6 := Lib.hid (HB5.out.grown hgr3.out (by omega) (fun k hk => by have : k = g2 := (by simp [Value.ownBlock] at hk; exact hk.symm); omega)); clear hgr3 HB5) | fail)
        have HR : Hid (R3 = insT out (t0, t1, t2)) := by rw [HINS.out]; refine Lib.hid ?_; rw [HR3.out, HR2.out]; simp
        have HON' : Hid (sortF A B C (n - (k + 1)) (k + 1) R3 = R) := by rw [HR.out]; exact HON.out
        have HL1 : Hid (R3.length ≤ k + 1) := by rw [HR.out]; have := insT_len out (t0, t1, t2); have := HL0.out; refine Lib.hid ?_; omega
        clear HON HR HINS HR3 HR2 HJQ HPL
        go_roundw
        case rel => exact ⟨k + 1, R3, by omega, by go_num, HON', HL1, hrow7, HB6⟩
        case measure => simp [intOf]; omega
      have hj1 : 0 < j := by omega
      clear hj0
      obtain ⟨kq, kr⟩ := cellB kt
      have HS3 := HB3.out.size
      have hgz := (pts_of_row hrow3.out).1
      have hnc : out.length ≤ cap := HNC.out
      have hcj : ¬ cap = j := by omega
      have hlo : out.length < 1048576 := HL.out
      go_wp2_with (first | (at_builtin; refine wp_appT rfl (.tmp 45) (.tmp 48) rfl V2.heap.size _ 0 [] (out.take j) rfl (by rfl) (World.ownsRow_nil _ _ _ _) ⟨g, 0, none⟩ j _ (by simp; try omega) (by rfl) (take_src hrow3.out (by omega)) (by omega) (Nat.le_refl _) (by omega) ?_; intro R1 g1 c1 v1 HR1 hrow1 hgr1 hc1 hc2; have hrow4 := Lib.hid (hrow3.out.kept hgr1.out (.inr (by simp [Value.ownBlock]))); have HB4 := Lib.hid (HB3.out.grown hgr1.out HS3 (fun k hk => by cases hk)); have kt1 := (hgr1.out.block _ zt (by simp [Value.ownBlock])).trans kt; have zt1 := Nat.lt_of_lt_of_le zt hgr1.out.size; obtain ⟨kq1, kr1⟩ := cellB kt1; have hs1 : V2.heap.size ≤ v1.heap.size := hgr1.out.size; have hl1 : 0 < R1.length ∧ R1.length ≤ j := (by rw [HR1.out]; simp; omega); have hl2 : R1.length < 1048576 := (by omega); have hl3 := hl1.1; have hg1 := (hrow1.out.lt g1 rfl).1; clear hl1 hgr1 HB3 kt kq kr zt) | (at_builtin; refine wp_appT rfl (.tmp 50) (.tmp 52) rfl V2.heap.size _ R1.length R1 [(t0, t1, t2)] rfl (by rfl) (hrow1.out.alloc _) ⟨_, 0, none⟩ 1 1 rfl (by rfl) (new3 _ _ _ _ _) (by omega) (by simp; omega) (by omega) ?_; intro R2 g2 c3 v2 HR2 hrow2 hgr2 hc3 hc4; have hrow5 := Lib.hid ((hrow4.out.alloc _).kept hgr2.out (.inr (by simp [Value.ownBlock]; omega))); have HB5 := Lib.hid ((HB4.out.alloc (by omega) _).grown hgr2.out (by simp; omega) (fun k hk => by have : k = g1 := (by simp [Value.ownBlock] at hk; exact hk.symm); omega)); have hs2 : V2.heap.size ≤ v2.heap.size := (by have := hgr2.out.size; simp at this; omega); have hl4 : R2.length < 1048578 := (by rw [HR2.out]; simp; omega); have hl5 : 0 < R2.length := (by rw [HR2.out]; simp); have hg2 := (hrow2.out.lt g2 rfl).1; clear hgr2 HB4 hrow4) | (at_builtin; refine wp_appT rfl (.tmp 54) (.tmp 57) rfl V2.heap.size _ R2.length R2 (out.drop j) rfl (by rfl) hrow2.out ⟨g, j * 3, none⟩ (out.length - j) (cap - j) (by simp) (by rfl) (drop_src hrow5.out (by omega)) (by omega) hs2 (by omega) ?_; intro R3 g3 c5 v3 HR3 hrow6 hgr3 hc5 hc6; have hrow7 := Lib.hid (row_mono hrow6.out HS3); have HB6 := Lib.hid (HB5.out.grown hgr3.out (by omega) (fun k hk => by have : k = g2 := (by simp [Value.ownBlock] at hk; exact hk.symm); omega)); clear hgr3 HB5) | fail)
      have HR : Hid (R3 = insT out (t0, t1, t2)) := by rw [HINS.out]; refine Lib.hid ?_; rw [HR3.out, HR2.out, HR1.out]; simp
      have HON' : Hid (sortF A B C (n - (k + 1)) (k + 1) R3 = R) := by rw [HR.out]; exact HON.out
      have HL1 : Hid (R3.length ≤ k + 1) := by rw [HR.out]; have := insT_len out (t0, t1, t2); have := HL0.out; refine Lib.hid ?_; omega
      clear HON HR HINS HR3 HR2 HJQ HPL
      go_roundw
      case rel => exact ⟨k + 1, R3, by omega, by go_num, HON', HL1, hrow7, HB6⟩
      case measure => simp [intOf]; omega
  have hjn : j = out.length := by have := HPL.out; have := HJQ.out; omega
  subst hjn
  clear hjl
  have hjb : out.length < 1048576 := HL.out
  go_wp2_with fail
  obtain ⟨kq, kr⟩ := cellB kt
  refine wp_calm0 12 (by kernel_rfl) (by kernel_rfl) ?_
  intro J hJ
  simp only [List.take_succ_cons, List.take_zero]
  repeat ((with_reducible apply wpCalm_step); intro M hM; go_simp; first | ((with_reducible apply hM); clear hM M) | (rw [if_neg]; rotate_left; (· intro h; cases h); (with_reducible apply hM); clear hM M) | ((with_reducible apply calm_intro); (· intro wc hw; obtain ⟨hc, hf⟩ := bcell (hJ wc hw); go_simp; first | exact rfl); (with_reducible apply hM); clear hM M))
  with_reducible apply wpCalm_nil
  clear hJ J
  clear kq kr
  intro V1 hX
  replace kt := (hX.block _ zt).trans kt; replace zt := Nat.lt_of_lt_of_le zt hX.size
  have HB' := Lib.hid (after HB3.out hX); clear HB3; have HB3 := HB'; clear HB'
  have R' := Lib.hid (own_below hrow3.out hX); clear hrow3; have hrow3 := R'; clear R'
  clear hX
  simp only [List.drop_succ_cons, List.drop_zero]
  go_wp2_with fail
  obtain ⟨kq, kr⟩ := cellB kt
  refine wp_calm0 12 (by kernel_rfl) (by kernel_rfl) ?_
  intro J hJ
  simp only [List.take_succ_cons, List.take_zero]
  repeat ((with_reducible apply wpCalm_step); intro M hM; go_simp; first | ((with_reducible apply hM); clear hM M) | (rw [if_neg]; rotate_left; (· intro h; cases h); (with_reducible apply hM); clear hM M) | ((with_reducible apply calm_intro); (· intro wc hw; obtain ⟨hc, hf⟩ := bcell (hJ wc hw); go_simp; first | exact rfl); (with_reducible apply hM); clear hM M))
  with_reducible apply wpCalm_nil
  clear hJ J
  clear kq kr
  intro V2 hX
  replace kt := (hX.block _ zt).trans kt; replace zt := Nat.lt_of_lt_of_le zt hX.size
  have HB' := Lib.hid (after HB3.out hX); clear HB3; have HB3 := HB'; clear HB'
  have R' := Lib.hid (own_below hrow3.out hX); clear hrow3; have hrow3 := R'; clear R'
  clear hX
  simp only [List.drop_succ_cons, List.drop_zero]
  have HINS : Hid (insT out (t0, t1, t2) = out ++ [(t0, t1, t2)]) := by
    refine Lib.hid ?_
    unfold insT
    rw [← HJQ.out, if_neg (by simp), List.take_length, List.drop_length]
  have HS3 := HB3.out.size
  have hgz := (pts_of_row hrow3.out).1
  have hnc : out.length ≤ cap := HNC.out
  obtain ⟨kq, kr⟩ := cellB kt
  by_cases hj0 : out.length = 0
  · have hemp : out = [] := List.length_eq_zero_iff.1 hj0
    subst hemp
    clear hj0
    by_cases hcj : cap = 0
    · subst hcj
      have hlo : [].length < 1048576 := HL.out
      go_wp2_with (first | (at_builtin; refine wp_appT rfl (.tmp 50) (.tmp 52) rfl V2.heap.size _ 0 [] [(t0, t1, t2)] rfl (by rfl) (World.ownsRow_nil _ _ _ _) ⟨_, 0, none⟩ 1 1 rfl (by rfl) (new3 _ _ _ _ _) (by decide) (by simp) (by decide) ?_; intro R2 g2 c3 v2 HR2 hrow2 hgr2 hc3 hc4; have hrow5 := Lib.hid ((hrow3.out.alloc _).kept hgr2.out (.inr (by simp [Value.ownBlock]))); have HB5 := Lib.hid ((HB3.out.alloc HS3 _).grown hgr2.out (by simp; omega) (fun k hk => by cases hk)); have hs2 : V2.heap.size ≤ v2.heap.size := (by have := hgr2.out.size; simp at this; omega); have hl4 : R2.length < 1048578 := (by rw [HR2.out]; simp); have hl5 : 0 < R2.length := (by rw [HR2.out]; simp); have hg2 := (hrow2.out.lt g2 rfl).1; clear hgr2 HB3) | (at_builtin; refine wp_appT rfl (.tmp 54) (.tmp 57) rfl V2.heap.size _ R2.length R2 [] rfl (by rfl) hrow2.out _ 0 _ rfl (by rfl) (fun j u h => by simp [cells3] at h) (by omega) hs2 (by omega) ?_; intro R3 g3 c5 v3 HR3 hrow6 hgr3 hc5 hc6; have hrow7 := Lib.hid (row_mono hrow6.out HS3); have HB6 := Lib.hid (HB5.out.grown hgr3.out (by omega) (fun k hk => by have : k = g2 := (by simp [Value.ownBlock] at hk; exact hk.symm); omega)); clear hgr3 HB5) | fail)
      have HR : Hid (R3 = insT [] (t0, t1, t2)) := by rw [HINS.out]; refine Lib.hid ?_; rw [HR3.out, HR2.out]; simp
      have HON' : Hid (sortF A B C (n - (k + 1)) (k + 1) R3 = R) := by rw [HR.out]; exact HON.out
      have HL1 : Hid (R3.length ≤ k + 1) := by rw [HR.out]; have := insT_len [] (t0, t1, t2); have := HL0.out; refine Lib.hid ?_; omega
      clear HON HR HINS HR3 HR2 HJQ HPL
      go_roundw
      case rel => exact ⟨k + 1, R3, by omega, by go_num, HON', HL1, hrow7, HB6⟩
      case measure => simp [intOf]; omega
    · have hcp : 0 < cap := by omega
      have hlo : [].length < 1048576 := HL.out
      go_wp2_with (first | (at_builtin; refine wp_appT rfl (.tmp 50) (.tmp 52) rfl V2.heap.size _ 0 [] [(t0, t1, t2)] rfl (by rfl) (World.ownsRow_nil _ _ _ _) ⟨_, 0, none⟩ 1 1 rfl (by rfl) (new3 _ _ _ _ _) (by decide) (by simp) (by decide) ?_; intro R2 g2 c3 v2 HR2 hrow2 hgr2 hc3 hc4; have hrow5 := Lib.hid ((hrow3.out.alloc _).kept hgr2.out (.inr (by simp [Value.ownBlock]))); have HB5 := Lib.hid ((HB3.out.alloc HS3 _).grown hgr2.out (by simp; omega) (fun k hk => by cases hk)); have hs2 : V2.heap.size ≤ v2.heap.size := (by have := hgr2.out.size; simp at this; omega); have hl4 : R2.length < 1048578 := (by rw [HR2.out]; simp); have hl5 : 0 < R2.length := (by rw [HR2.out]; simp); have hg2 := (hrow2.out.lt g2 rfl).1; clear hgr2 HB3) | (at_builtin; refine wp_appT rfl (.tmp 54) (.tmp 57) rfl V2.heap.size _ R2.length R2 [] rfl (by rfl) hrow2.out _ 0 _ rfl (by rfl) (fun j u h => by simp [cells3] at h) (by omega) hs2 (by omega) ?_; intro R3 g3 c5 v3 HR3 hrow6 hgr3 hc5 hc6; have hrow7 := Lib.hid (row_mono hrow6.out HS3); have HB6 := Lib.hid (HB5.out.grown hgr3.out (by omega) (fun k hk => by have : k = g2 := (by simp [Value.ownBlock] at hk; exact hk.symm); omega)); clear hgr3 HB5) | fail)
      have HR : Hid (R3 = insT [] (t0, t1, t2)) := by rw [HINS.out]; refine Lib.hid ?_; rw [HR3.out, HR2.out]; simp
      have HON' : Hid (sortF A B C (n - (k + 1)) (k + 1) R3 = R) := by rw [HR.out]; exact HON.out
      have HL1 : Hid (R3.length ≤ k + 1) := by rw [HR.out]; have := insT_len [] (t0, t1, t2); have := HL0.out; refine Lib.hid ?_; omega
      clear HON HR HINS HR3 HR2 HJQ HPL
      go_roundw
      case rel => exact ⟨k + 1, R3, by omega, by go_num, HON', HL1, hrow7, HB6⟩
      case measure => simp [intOf]; omega
  have hj1 : 0 < out.length := by omega
  clear hj0
  by_cases hcj : cap = out.length
  · subst hcj
    have hlo : out.length < 1048576 := HL.out
    go_wp2_with (first | (at_builtin; refine wp_appT rfl (.tmp 45) (.tmp 48) rfl V2.heap.size _ 0 [] (out.take out.length) rfl (by rfl) (World.ownsRow_nil _ _ _ _) ⟨g, 0, none⟩ out.length _ (by simp; try omega) (by rfl) (take_src hrow3.out (by omega)) (by omega) (Nat.le_refl _) (by omega) ?_; intro R1 g1 c1 v1 HR1 hrow1 hgr1 hc1 hc2; have hrow4 := Lib.hid (hrow3.out.kept hgr1.out (.inr (by simp [Value.ownBlock]))); have HB4 := Lib.hid (HB3.out.grown hgr1.out HS3 (fun k hk => by cases hk)); have kt1 := (hgr1.out.block _ zt (by simp [Value.ownBlock])).trans kt; have zt1 := Nat.lt_of_lt_of_le zt hgr1.out.size; obtain ⟨kq1, kr1⟩ := cellB kt1; have hs1 : V2.heap.size ≤ v1.heap.size := hgr1.out.size; have hl1 : 0 < R1.length ∧ R1.length ≤ out.length := (by rw [HR1.out]; simp; omega); have hl2 : R1.length < 1048576 := (by omega); have hl3 := hl1.1; have hg1 := (hrow1.out.lt g1 rfl).1; clear hl1 hgr1 HB3 kt kq kr zt) | (at_builtin; refine wp_appT rfl (.tmp 50) (.tmp 52) rfl V2.heap.size _ R1.length R1 [(t0, t1, t2)] rfl (by rfl) (hrow1.out.alloc _) ⟨_, 0, none⟩ 1 1 rfl (by rfl) (new3 _ _ _ _ _) (by omega) (by simp; omega) (by omega) ?_; intro R2 g2 c3 v2 HR2 hrow2 hgr2 hc3 hc4; have hrow5 := Lib.hid ((hrow4.out.alloc _).kept hgr2.out (.inr (by simp [Value.ownBlock]; omega))); have HB5 := Lib.hid ((HB4.out.alloc (by omega) _).grown hgr2.out (by simp; omega) (fun k hk => by have : k = g1 := (by simp [Value.ownBlock] at hk; exact hk.symm); omega)); have hs2 : V2.heap.size ≤ v2.heap.size := (by have := hgr2.out.size; simp at this; omega); have hl4 : R2.length < 1048578 := (by rw [HR2.out]; simp; omega); have hl5 : 0 < R2.length := (by rw [HR2.out]; simp); have hg2 := (hrow2.out.lt g2 rfl).1; clear hgr2 HB4 hrow4) | (at_builtin; refine wp_appT rfl (.tmp 54) (.tmp 57) rfl V2.heap.size _ R2.length R2 [] rfl (by rfl) hrow2.out _ 0 _ rfl (by rfl) (fun j u h => by simp [cells3] at h) (by omega) hs2 (by omega) ?_; intro R3 g3 c5 v3 HR3 hrow6 hgr3 hc5 hc6; have hrow7 := Lib.hid (row_mono hrow6.out HS3); have HB6 := Lib.hid (HB5.out.grown hgr3.out (by omega) (fun k hk => by have : k = g2 := (by simp [Value.ownBlock] at hk; exact hk.symm); omega)); clear hgr3 HB5) | fail)
    have HR : Hid (R3 = insT out (t0, t1, t2)) := by rw [HINS.out]; refine Lib.hid ?_; rw [HR3.out, HR2.out, HR1.out]; simp
    have HON' : Hid (sortF A B C (n - (k + 1)) (k + 1) R3 = R) := by rw [HR.out]; exact HON.out
    have HL1 : Hid (R3.length ≤ k + 1) := by rw [HR.out]; have := insT_len out (t0, t1, t2); have := HL0.out; refine Lib.hid ?_; omega
    clear HON HR HINS HR3 HR2 HJQ HPL
    go_roundw
    case rel => exact ⟨k + 1, R3, by omega, by go_num, HON', HL1, hrow7, HB6⟩
    case measure => simp [intOf]; omega
  · have hcp : out.length < cap := by omega
    have hlo : out.length < 1048576 := HL.out
    go_wp2_with (first | (at_builtin; refine wp_appT rfl (.tmp 45) (.tmp 48) rfl V2.heap.size _ 0 [] (out.take out.length) rfl (by rfl) (World.ownsRow_nil _ _ _ _) ⟨g, 0, none⟩ out.length _ (by simp; try omega) (by rfl) (take_src hrow3.out (by omega)) (by omega) (Nat.le_refl _) (by omega) ?_; intro R1 g1 c1 v1 HR1 hrow1 hgr1 hc1 hc2; have hrow4 := Lib.hid (hrow3.out.kept hgr1.out (.inr (by simp [Value.ownBlock]))); have HB4 := Lib.hid (HB3.out.grown hgr1.out HS3 (fun k hk => by cases hk)); have kt1 := (hgr1.out.block _ zt (by simp [Value.ownBlock])).trans kt; have zt1 := Nat.lt_of_lt_of_le zt hgr1.out.size; obtain ⟨kq1, kr1⟩ := cellB kt1; have hs1 : V2.heap.size ≤ v1.heap.size := hgr1.out.size; have hl1 : 0 < R1.length ∧ R1.length ≤ out.length := (by rw [HR1.out]; simp; omega); have hl2 : R1.length < 1048576 := (by omega); have hl3 := hl1.1; have hg1 := (hrow1.out.lt g1 rfl).1; clear hl1 hgr1 HB3 kt kq kr zt) | (at_builtin; refine wp_appT rfl (.tmp 50) (.tmp 52) rfl V2.heap.size _ R1.length R1 [(t0, t1, t2)] rfl (by rfl) (hrow1.out.alloc _) ⟨_, 0, none⟩ 1 1 rfl (by rfl) (new3 _ _ _ _ _) (by omega) (by simp; omega) (by omega) ?_; intro R2 g2 c3 v2 HR2 hrow2 hgr2 hc3 hc4; have hrow5 := Lib.hid ((hrow4.out.alloc _).kept hgr2.out (.inr (by simp [Value.ownBlock]; omega))); have HB5 := Lib.hid ((HB4.out.alloc (by omega) _).grown hgr2.out (by simp; omega) (fun k hk => by have : k = g1 := (by simp [Value.ownBlock] at hk; exact hk.symm); omega)); have hs2 : V2.heap.size ≤ v2.heap.size := (by have := hgr2.out.size; simp at this; omega); have hl4 : R2.length < 1048578 := (by rw [HR2.out]; simp; omega); have hl5 : 0 < R2.length := (by rw [HR2.out]; simp); have hg2 := (hrow2.out.lt g2 rfl).1; clear hgr2 HB4 hrow4) | (at_builtin; refine wp_appT rfl (.tmp 54) (.tmp 57) rfl V2.heap.size _ R2.length R2 [] rfl (by rfl) hrow2.out _ 0 _ rfl (by rfl) (fun j u h => by simp [cells3] at h) (by omega) hs2 (by omega) ?_; intro R3 g3 c5 v3 HR3 hrow6 hgr3 hc5 hc6; have hrow7 := Lib.hid (row_mono hrow6.out HS3); have HB6 := Lib.hid (HB5.out.grown hgr3.out (by omega) (fun k hk => by have : k = g2 := (by simp [Value.ownBlock] at hk; exact hk.symm); omega)); clear hgr3 HB5) | fail)
    have HR : Hid (R3 = insT out (t0, t1, t2)) := by rw [HINS.out]; refine Lib.hid ?_; rw [HR3.out, HR2.out, HR1.out]; simp
    have HON' : Hid (sortF A B C (n - (k + 1)) (k + 1) R3 = R) := by rw [HR.out]; exact HON.out
    have HL1 : Hid (R3.length ≤ k + 1) := by rw [HR.out]; have := insT_len out (t0, t1, t2); have := HL0.out; refine Lib.hid ?_; omega
    clear HON HR HINS HR3 HR2 HJQ HPL
    go_roundw
    case rel => exact ⟨k + 1, R3, by omega, by go_num, HON', HL1, hrow7, HB6⟩
    case measure => simp [intOf]; omega
end Go.Proofs.Ytdglijdiiggdgaa
namespace Go.Proofs.Ytdglijdiiggdgaa
open Go.RowKit Go.Maps Geo
def gtE (a b : E2) : Bool := decide (b.1 < a.1) || decide (a.1 = b.1) && decide (b.2 < a.2)
/-- The place at which an edge is set, found from the end. -/
def insP (out : List E2) (e : E2) : Nat → Nat
  | 0 => 0
  | n + 1 => if gtE (gP out n, gQ out n) e = true then insP out e n else n + 1
def insE (out : List E2) (e : E2) : List E2 := out.take (insP out e out.length) ++ e :: out.drop (insP out e out.length)
def padS (out : List E2) (e : E2) : List E2 := if e.2 < 4 then out else if hasF (gP out) (gQ out) e.1 e.2 out.length 0 = true then out else insE out e
def padT (A B C : Nat → Int) : Nat → Nat → List E2 → List E2
  | 0, _, out => out
  | f + 1, k, out => padT A B C f (k + 1) ((edgsF (A k) (B k) (C k)).foldl padS out)
theorem insP_le (out : List E2) (e : E2) : ∀ n, insP out e n ≤ n
  | 0 => Nat.le_refl _
  | n + 1 => by
    unfold insP
    split
    · have := insP_le out e n; omega
    · exact Nat.le_refl _
theorem insE_len (out : List E2) (e : E2) : (insE out e).length = out.length + 1 := by
  have := insP_le out e out.length
  unfold insE
  simp
  omega
theorem padS_len (out : List E2) (e : E2) : (padS out e).length ≤ out.length + 1 := by
  unfold padS
  split
  · omega
  · split
    · omega
    · rw [insE_len]; omega
section
variable {n k : Nat} {A B C : Nat → Int} {out R : List E2} {e : E2} {p : Nat}
theorem pad_end (hk : n ≤ k) (h : padT A B C (n - k) k out = R) : R = out := by rw [show n - k = 0 by omega] at h; exact h.symm
theorem pad_on (hk : k < n) (h : padT A B C (n - k) k out = R) : padT A B C (n - (k + 1)) (k + 1) ((edgsF (A k) (B k) (C k)).foldl padS out) = R := by
  rw [show n - k = (n - (k + 1)) + 1 by omega, padT] at h; exact h
theorem insP_zero (h : insP out e 0 = p) : p = 0 := h.symm
theorem insP_gt {m : Nat} (hg : gtE (gP out m, gQ out m) e = true) (h : insP out e (m + 1) = p) : insP out e m = p := by rw [insP, if_pos hg] at h; exact h
theorem insP_no {m : Nat} (hg : gtE (gP out m, gQ out m) e = false) (h : insP out e (m + 1) = p) : p = m + 1 := by rw [insP, if_neg (by rw [hg]; decide)] at h; exact h.symm
end
theorem own_belowE {w w' : World} {base : Nat} {T : TypeId} {sz : Nat} {vv : Value} {k : Nat} {xs : List Value} (h : w.ownsRow base T sz vv k xs) (hB : Below w.heap.size w w') : w'.ownsRow base T sz vv k xs := by
  refine ⟨h.1, ?_⟩
  rcases h.2 with h2 | ⟨g, cap, cur, e, hb, hg, h3, h4, h5, h6⟩
  · exact .inl h2
  · exact .inr ⟨g, cap, cur, e, hb, (hB.block _ (Array.getElem?_eq_some_iff.1 hg).1).trans hg, h3, h4, h5, h6⟩
theorem gPQ {L : List E2} {k : Nat} (hk : k < L.length) : L[k]? = some (gP L k, gQ L k) := by
  unfold gP gQ
  rw [List.getD_eq_getElem?_getD, List.getElem?_eq_getElem hk]
  rfl
theorem cells2_set (L : List E2) : ∀ (k : Nat) (x : E2), k < L.length → ((cells2 L).set (k * 2) (.int .i64 x.1)).set (k * 2 + 1) (.int .i64 x.2) = cells2 (L.set k x) := by
  induction L with
  | nil => intro k x h; simp at h
  | cons t L ih =>
    intro k x h
    have e : ∀ (t : E2) (M : List E2), cells2 (t :: M) = .int .i64 t.1 :: .int .i64 t.2 :: cells2 M := fun t M => by unfold cells2; rw [List.flatMap_cons]; rfl
    cases k with
    | zero => simp [e]
    | succ k =>
      rw [List.set_cons_succ, e, e, ← ih k x (by simpa using h)]
      rw [show (k + 1) * 2 = k * 2 + 1 + 1 by omega, show k * 2 + 1 + 1 + 1 = (k * 2 + 1) + 1 + 1 by omega]
      simp [List.set_cons_succ]
theorem shift_set {out : List E2} {m : Nat} {y x : E2} (hm : m ≤ out.length) : (out.take m ++ y :: out.drop m).set m x = out.take m ++ x :: out.drop m := by
  have hl : (out.take m).length = m := by simp; omega
  rw [List.set_append_right _ _ (by omega)]
  simp [hl]
theorem shift_step {out : List E2} {m : Nat} (hm : m < out.length) : out.take (m + 1) ++ out[m] :: out.drop (m + 1) = out.take m ++ out[m] :: out.drop m := by
  have e : out.drop m = out[m] :: out.drop (m + 1) := List.drop_eq_getElem_cons hm
  rw [List.take_succ_eq_append_getElem hm, e, List.append_assoc]
  rfl
theorem shift_get {out : List E2} {m j : Nat} {y : E2} (hm : m ≤ out.length) (hj : j < m) : gP (out.take m ++ y :: out.drop m) j = gP out j ∧ gQ (out.take m ++ y :: out.drop m) j = gQ out j := by
  unfold gP gQ
  simp only [List.getD_eq_getElem?_getD]
  rw [List.getElem?_append_left (by simp; omega), List.getElem?_take_of_lt hj]
  exact ⟨rfl, rfl⟩
theorem shift_len {out : List E2} {m : Nat} {y : E2} (hm : m ≤ out.length) : (out.take m ++ y :: out.drop m).length = out.length + 1 := by simp; omega
section
variable {w : World} {base g cap N : Nat} {T : TypeId} {L : List E2}
theorem prsAt_of_row (h : w.ownsRow base T 2 (.slice (some ⟨g, 0, none⟩) N cap) N (cells2 L)) (hN : L.length = N) : PrsAt w g 0 N (gP L) (gQ L) := by
  subst hN
  refine ⟨?_, fun j hj => ?_⟩
  · rcases h.2 with ⟨h', _⟩ | ⟨g', cap', cur, h', _, hg, _⟩
    · simp at h'
    · simp only [Value.slice.injEq, Option.some.injEq, Addr.mk.injEq, and_true, true_and] at h'
      obtain ⟨rfl, rfl⟩ := h'
      exact (Array.getElem?_eq_some_iff.1 hg).1
  · obtain ⟨c0, c1⟩ := cells2_at L j hj
    rw [Nat.zero_add]
    exact ⟨(h.cellAt _ (by omega)).trans c0, (h.cellAt _ (by omega)).trans c1⟩
/-- A pair is stored into a row of pairs. -/
theorem row_set2 (h : w.ownsRow base T 2 (.slice (some ⟨g, 0, none⟩) N cap) N (cells2 L)) (hN : L.length = N) {k : Nat} (hk : k < N) (x y : Int) :
    ((w.setCell ⟨g, k * 2, none⟩ (.int .i64 x)).setCell ⟨g, k * 2 + 1, none⟩ (.int .i64 y)).ownsRow base T 2 (.slice (some ⟨g, 0, none⟩) N cap) N (cells2 (L.set k (x, y))) ∧ w.grownBy ((w.setCell ⟨g, k * 2, none⟩ (.int .i64 x)).setCell ⟨g, k * 2 + 1, none⟩ (.int .i64 y)) (some g) := by
  obtain ⟨h1, g1⟩ := h.stored (k * 2) (.int .i64 x)
  obtain ⟨h2, g2⟩ := h1.stored (k * 2 + 1) (.int .i64 y)
  rw [cells2_set L k (x, y) (by omega)] at h2
  exact ⟨h2, g1.trans g2⟩
theorem PrsAt.kept {w' : World} {q off n : Nat} {row : Option Nat} {P Q : Nat → Int} (h : PrsAt w q off n P Q) (hg : w.grownBy w' row) (hne : some q ≠ row) : PrsAt w' q off n P Q := by
  have hb := hg.block q h.1 hne
  exact ⟨Nat.lt_of_lt_of_le h.1 hg.size, fun k hk => ⟨(World.cell?_of_block (a := ⟨q, _, none⟩) hb).trans (h.2 k hk).1, (World.cell?_of_block (a := ⟨q, _, none⟩) hb).trans (h.2 k hk).2⟩⟩
end
end Go.Proofs.Ytdglijdiiggdgaa
namespace Go.Proofs.Ytdglijdiiggdgaa
open Go.RowKit Go.Maps Geo
theorem edgs_prs {w : World} {q : Nat} {T : TypeId} {a b c : Int} (h : w.heap[q]? = some (.cells #[.int .i64 (edg a b).1, .int .i64 (edg a b).2, .int .i64 (edg b c).1, .int .i64 (edg b c).2, .int .i64 (edg c a).1, .int .i64 (edg c a).2] T (0, 0))) : PrsAt w q 0 3 (gP (edgsF a b c)) (gQ (edgsF a b c)) := by
  obtain ⟨kq, kr⟩ := cellB h
  refine ⟨(Array.getElem?_eq_some_iff.1 h).1, fun j hj => ?_⟩
  rw [kq, kq]
  match j, hj with
  | 0, _ => exact ⟨rfl, rfl⟩
  | 1, _ => exact ⟨rfl, rfl⟩
  | 2, _ => exact ⟨rfl, rfl⟩
theorem fold_end {E : List E2} {out O1 : List E2} {j : Nat} (hl : E.length = 3) (hj : 3 ≤ j) (h : (E.drop j).foldl padS out = O1) : O1 = out := by
  rw [List.drop_eq_nil_of_le (by omega)] at h; exact h.symm
theorem fold_on {E : List E2} {out O1 : List E2} {j : Nat} (hl : E.length = 3) (hj : j < 3) (h : (E.drop j).foldl padS out = O1) : (E.drop (j + 1)).foldl padS (padS out (gP E j, gQ E j)) = O1 := by
  have hjl : j < E.length := by omega
  have e := gPQ hjl
  rw [List.getElem?_eq_getElem hjl] at e
  injection e with e
  rw [List.drop_eq_getElem_cons hjl, List.foldl_cons, e] at h
  exact h
def blkNe (v : Value) (q : Nat) : Prop := v.ownBlock ≠ some q
attribute [local irreducible] wpCalm
set_option maxRecDepth 100000 in
set_option maxHeartbeats 16000000 in
theorem ref9_paired (pa : Option Addr) (n cp : Nat) (A B C : Nat → Int) (R : List E2) (hn : n < 1048576) (HR : Hid (padT A B C (n - 0) 0 [] = R)) (w : World) (hp : Hid (PtsO w pa n A B C)) :
    Calls Try.prog 43 #[.slice pa n cp] w fun e w' => Below w.heap.size w w' ∧ ∃ vv, e = .returned vv ∧ w'.ownsRow w.heap.size 85 2 vv R.length (cells2 R) := by
  go_enter Try.func43, Try.ntmps43
  go_wp2_with fail
  go_loopw [3, 4] (fun vv u wr => ∃ (k : Nat) (out : List E2), k ≤ n ∧ u = .int .i64 k ∧ Hid (padT A B C (n - k) k out = R) ∧ Hid (out.length ≤ 3 * k) ∧ Hid (wr.ownsRow w.heap.size 85 2 vv out.length (cells2 out)) ∧ Hid (Below w.heap.size w wr))
    (fun _ u _ => n - (intOf u).toNat)
  case atStart => exact ⟨0, [], Nat.zero_le _, rfl, HR, Nat.le_refl _, World.ownsRow_nil _ _ _ _, Below.refl _ _⟩
  clear HR
  obtain ⟨k, out, hk, rfl, HF, HL0, hrow, HB⟩ := hrel
  by_cases hlt : k < n
  case neg =>
    have hat := pad_end (by omega) HF.out
    subst hat
    go_wp2_with fail
    go_returns
    exact ⟨HB.out, _, rfl, hrow.out⟩
  obtain ⟨q, off2, rfl, hq0⟩ := hp.out.at hlt
  have htr := hq0.mono HB.out hq0.1
  obtain ⟨g1, g2, g3⟩ := htr.2 k hlt
  have hqr := htr.1
  clear htr hq0
  have hon := pad_on hlt HF.out
  have hed := ref5_edges (A k) (B k) (C k)
  have HED := Lib.hid hed
  obtain ⟨E, hE⟩ : ∃ E, E = edgsF (A k) (B k) (C k) := ⟨_, rfl⟩
  rw [← hE] at hon
  have HEE := Lib.hid hE
  obtain ⟨O1, hO1⟩ : ∃ O1, O1 = E.foldl padS out := ⟨_, rfl⟩
  rw [← hO1] at hon
  have HON := Lib.hid hon
  have HO1 := Lib.hid hO1
  clear hed hE hon hO1 HF
  go_wp2_with fail
  refine (HED.out _).mono ?_; rintro e W1 ⟨q1, hq1, rfl, hcl, hX⟩
  have hrow1 := Lib.hid (own_belowE hrow.out hX)
  have HNE : Hid (blkNe u3 q1) := by refine Lib.hid ?_; intro h; have := (hrow.out.lt q1 h).2; omega
  have HB1 := Lib.hid (after HB.out hX)
  have HPR := Lib.hid (edgs_prs hcl)
  rw [← HEE.out] at HPR
  have HEL : Hid (E.length = 3) := by rw [HEE.out]; rfl
  have HO2 : Hid ((E.drop 0).foldl padS out = O1) := HO1.out.symm
  clear hX hrow HB hcl HED HEE HO1 g1 g2 g3 hqr
  go_wp2_with fail
  go_loopw [3, 6] (fun vv u wr => ∃ (j : Nat) (out : List E2), j ≤ 3 ∧ u = .int .i64 j ∧ Hid ((E.drop j).foldl padS out = O1) ∧ Hid (out.length ≤ 3 * k + j) ∧ Hid (wr.ownsRow w.heap.size 85 2 vv out.length (cells2 out)) ∧ Hid (blkNe vv q1) ∧ Hid (PrsAt wr q1 0 3 (gP E) (gQ E)) ∧ Hid (Below w.heap.size w wr))
    (fun _ u _ => 3 - (intOf u).toNat)
  case atStart => exact ⟨0, out, by omega, rfl, HO2, HL0, hrow1, HNE, HPR, HB1⟩
  clear hrow1 HNE HPR HB1 HO2 HL0
  obtain ⟨j, out2, hj, rfl, HO, HL, hrow, HNE, HPR, HB⟩ := hrel
  by_cases hj3 : j < 3
  case neg =>
    have hat := fold_end HEL.out (by omega) HO.out
    subst hat
    go_wp2_with fail
    go_roundw
    case rel => exact ⟨k + 1, O1, by omega, by go_num, HON, (by have := HL.out; refine Lib.hid ?_; omega), hrow, HB⟩
    case measure => simp [intOf]; omega
  have hof := fold_on HEL.out hj3 HO.out
  obtain ⟨d1, d2⟩ := HPR.out.2 j hj3
  have hq1z := HPR.out.1
  rw [Nat.zero_add] at d1 d2
  obtain ⟨x, hx⟩ : ∃ x, x = gP E j := ⟨_, rfl⟩
  obtain ⟨y, hy⟩ : ∃ y, y = gQ E j := ⟨_, rfl⟩
  rw [← hx] at d1; rw [← hy] at d2; rw [← hx, ← hy] at hof
  have HX := Lib.hid hx; have HY := Lib.hid hy
  have HLK : Hid (out2.length < 4194304) := by have := HL.out; refine Lib.hid ?_; omega
  clear hx hy HO
  by_cases hy4 : y < 4
  · have hs : padS out2 (x, y) = out2 := by unfold padS; rw [if_pos hy4]
    rw [hs] at hof
    have HOF := Lib.hid hof
    clear hof hs
    go_wp2_with fail
    go_roundw
    case rel => exact ⟨j + 1, out2, by omega, by go_num, HOF, (by have := HL.out; refine Lib.hid ?_; omega), hrow, HNE, HPR, HB⟩
    case measure => simp [intOf]; omega
  obtain ⟨p, cap, rfl, hpo⟩ := prs_of_row hrow.out
  have hhas := ref9_has p out2.length cap (gP out2) (gQ out2) x y (by have := HLK.out; omega)
  obtain ⟨t, ht⟩ : ∃ t, t = hasF (gP out2) (gQ out2) x y out2.length 0 := ⟨_, rfl⟩
  rw [← ht] at hhas
  have HHAS := Lib.hid hhas
  have HT := Lib.hid ht
  have HPO := Lib.hid hpo
  clear hhas ht hpo
  go_wp2_with fail
  refine (HHAS.out _ HPO).mono ?_; rintro e W2 ⟨rfl, hX⟩
  have hrow2 := Lib.hid (own_belowE hrow.out hX)
  have HB2 := Lib.hid (after HB.out hX)
  have HPR2 := Lib.hid (HPR.out.mono hX hq1z)
  clear hX hrow HB HHAS HPR d1 d2
  cases t with
  | true =>
    have hs : padS out2 (x, y) = out2 := by unfold padS; rw [if_neg (by omega), if_pos HT.out.symm]
    rw [hs] at hof
    have HOF := Lib.hid hof
    clear hof hs
    go_wp2_with fail
    go_roundw
    case rel => exact ⟨j + 1, out2, by omega, by go_num, HOF, (by have := HL.out; refine Lib.hid ?_; omega), hrow2, HNE, HPR2, HB2⟩
    case measure => simp [intOf]; omega
  | false =>
    have hs : padS out2 (x, y) = insE out2 (x, y) := by unfold padS; rw [if_neg (by omega), if_neg (by rw [← HT.out]; decide)]
    rw [hs] at hof
    have HOF := Lib.hid hof
    clear hof hs HT
    obtain ⟨d1, d2⟩ := HPR2.out.2 j hj3
    replace hq1z := HPR2.out.1
    rw [Nat.zero_add, ← HX.out] at d1
    rw [Nat.zero_add, ← HY.out] at d2
    have hlk : out2.length < 4194304 := HLK.out
    have hbz := HB2.out.size
    go_wp2_with (first | (at_builtin; refine wp_appE rfl (.tmp 39) (.tmp 44) rfl w.heap.size _ out2.length out2 [(x, y)] rfl (by rfl) (hrow2.out.alloc _) ⟨_, 0, none⟩ 1 1 rfl (by rfl) (new2 _ _ _ _) (by omega) (by simp; omega) (by omega) ?_; intro R1 g c1 v1 HR1 hrow3 hgr1 hc1 hc2 HAT) | fail)
    have HLR : Hid (R1.length = out2.length + 1) := by rw [HR1.out]; refine Lib.hid ?_; simp
    have hlr : out2.length < R1.length := by have := HLR.out; omega
    have hlr2 : R1.length < 4194305 := by have := HLR.out; omega
    have HGQ : Hid (g ≠ q1) := by
      refine Lib.hid ?_
      rcases HAT.out with h | h
      · intro e; exact HNE.out (by rw [h, e])
      · simp at h; omega
    have HB3 := Lib.hid ((HB2.out.alloc hbz _).grown hgr1.out (by simp; omega) (fun k hk => (hrow2.out.lt k hk).1))
    have HPR3 := Lib.hid ((HPR2.out.mono ((Below.refl W2.heap.size W2).alloc (Nat.le_refl _) _) hq1z).kept hgr1.out (fun e => HNE.out e.symm))
    have hrow4 : Hid (v1.ownsRow w.heap.size 85 2 (.slice (some ⟨g, 0, none⟩) R1.length c1) R1.length (cells2 (out2.take out2.length ++ (x, y) :: out2.drop out2.length))) := by
      rw [List.take_length, List.drop_length, ← HR1.out]; exact hrow3
    obtain ⟨p0, hp0⟩ : ∃ p0, p0 = insP out2 (x, y) out2.length := ⟨_, rfl⟩
    have HP0 := Lib.hid hp0.symm
    clear hp0 hrow3 hrow2 HAT hgr1 HPR2 HB2 HNE HR1 d1 d2
    go_loopw [7] (fun u wr => ∃ (m : Nat) (z : E2), m ≤ out2.length ∧ u = .int .i64 m ∧ Hid (insP out2 (x, y) m = p0) ∧ Hid (wr.ownsRow w.heap.size 85 2 (.slice (some ⟨g, 0, none⟩) R1.length c1) R1.length (cells2 (out2.take m ++ z :: out2.drop m))) ∧ Hid (PrsAt wr q1 0 3 (gP E) (gQ E)) ∧ Hid (Below w.heap.size w wr))
      (fun u _ => (intOf u).toNat)
    case atStart => exact ⟨out2.length, (x, y), Nat.le_refl _, rfl, HP0, hrow4, HPR3, HB3⟩
    have HP1 : Hid (insP out2 (x, y) out2.length = p0) := HP0
    clear hrow4 HPR3 HB3 HP0
    obtain ⟨m, z, hm, rfl, HP, hrow, HPR, HB⟩ := hrel
    obtain ⟨d1, d2⟩ := HPR.out.2 j hj3
    have hq1w := HPR.out.1
    rw [Nat.zero_add, ← HX.out] at d1
    rw [Nat.zero_add, ← HY.out] at d2
    by_cases hm0 : m = 0
    · subst hm0
      have HPM : Hid (p0 = 0) := insP_zero HP.out
      clear HP
      go_wp2_with fail
      refine wp_calm0 44 (by kernel_rfl) (by kernel_rfl) ?_
      intro J hJ
      simp only [List.take_succ_cons, List.take_zero]
      repeat ((with_reducible apply wpCalm_step); intro M hM; go_simp; first | ((with_reducible apply hM); clear hM M) | (rw [if_neg]; rotate_left; (· intro h; cases h); (with_reducible apply hM); clear hM M) | ((with_reducible apply calm_intro); (· intro wc hw; obtain ⟨hc, hf⟩ := bcell (hJ wc hw); go_simp; first | exact rfl); (with_reducible apply hM); clear hM M))
      with_reducible apply wpCalm_nil
      clear hJ J
      intro V hX
      have hrow' := Lib.hid (own_belowE hrow.out hX); clear hrow; have hrow := hrow'; clear hrow'
      have HPR' := Lib.hid (HPR.out.mono hX hq1w); clear HPR; have HPR := HPR'; clear HPR'
      have HB' := Lib.hid (after HB.out hX); clear HB; have HB := HB'; clear HB'
      clear hX d1 d2
      obtain ⟨d1, d2⟩ := HPR.out.2 j hj3
      replace hq1w := HPR.out.1
      rw [Nat.zero_add, ← HX.out] at d1
      rw [Nat.zero_add, ← HY.out] at d2
      simp only [List.drop_succ_cons, List.drop_zero]
      have hpr0 := prsAt_of_row hrow.out (by have := HLR.out; rw [shift_len hm]; omega)
      have hgw0 := hpr0.1
      obtain ⟨s1, s2⟩ := hpr0.2 (0) (by omega)
      rw [Nat.zero_add] at s1 s2
      clear hpr0
      have hfz := hrow.out.frozenAt
      have hrs := row_set2 hrow.out (by have := HLR.out; rw [shift_len hm]; omega) (k := 0) (by omega) x y
      simp only [Nat.zero_mul, Nat.zero_add] at s1 s2 hrs
      obtain ⟨U, hU⟩ : ∃ U, U = (V.setCell ⟨g, 0, none⟩ (.int .i64 x)).setCell ⟨g, 1, none⟩ (.int .i64 y) := ⟨_, rfl⟩
      rw [← hU] at hrs
      rw [shift_set hm] at hrs
      obtain ⟨hr5, hg5⟩ := hrs
      have HR5 := Lib.hid hr5
      have HINS : Hid (insE out2 (x, y) = out2.take (0) ++ (x, y) :: out2.drop (0)) := by
        refine Lib.hid ?_
        unfold insE
        rw [HP1.out, HPM.out]
      have HB5 := Lib.hid (HB.out.grown hg5 HB.out.size (fun k hk => by injection hk with hk; have := (hrow.out.lt g rfl).1; omega))
      have HPR5 := Lib.hid (HPR.out.kept hg5 (fun e => HGQ.out (by injection e with e; exact e.symm)))
      have HIL : Hid ((insE out2 (x, y)).length = R1.length) := by have := HLR.out; rw [insE_len]; refine Lib.hid ?_; omega
      have hr6 := HR5.out
      rw [← HINS.out] at hr6
      have HR6 : Hid (U.ownsRow w.heap.size 85 2 (.slice (some ⟨g, 0, none⟩) R1.length c1) (insE out2 (x, y)).length (cells2 (insE out2 (x, y)))) := by rw [HIL.out]; exact hr6
      have HNE5 : Hid (blkNe (.slice (some ⟨g, 0, none⟩) R1.length c1) q1) := by refine Lib.hid ?_; intro e; injection e with e; exact HGQ.out e
      have HU := Lib.hid hU
      clear hr5 hg5 hr6 HR5 hU hrow HB HPR HINS
      go_wp2_with fail
      clear hfz s1 s2 d1 d2 hgw0
      rw [← HU.out]
      go_roundw
      case rel => exact ⟨j + 1, insE out2 (x, y), by omega, by go_num, HOF, (by have := HL.out; have := HIL.out; have := HLR.out; refine Lib.hid ?_; omega), HR6, HNE5, HPR5, HB5⟩
      case measure => simp [intOf]; omega
    obtain ⟨m', rfl⟩ : ∃ m', m = m' + 1 := ⟨m - 1, by omega⟩
    have hml : m' < out2.length := by omega
    have hmr : m' < R1.length := by omega
    have hpr := prsAt_of_row hrow.out (by have := HLR.out; rw [shift_len hm]; omega)
    have hgw := hpr.1
    obtain ⟨f1, f2⟩ := hpr.2 m' hmr
    rw [Nat.zero_add, (shift_get hm (Nat.lt_succ_self m')).1] at f1
    rw [Nat.zero_add, (shift_get hm (Nat.lt_succ_self m')).2] at f2
    obtain ⟨a, ha⟩ : ∃ a, a = gP out2 m' := ⟨_, rfl⟩
    obtain ⟨b, hb⟩ : ∃ b, b = gQ out2 m' := ⟨_, rfl⟩
    rw [← ha] at f1; rw [← hb] at f2
    have EA := Lib.hid ha; have EB := Lib.hid hb
    clear hpr ha hb
    have hwm : IntKind.i64.wrap (m' : Int) = m' := by rw [IntKind.wrap_i64]; omega
    have hm0' : (0 : Int) < (m' : Int) + 1 := by omega
    by_cases x1 : x < a
    · have hgt : gtE (gP out2 m', gQ out2 m') (x, y) = true := by rw [← EA.out, ← EB.out]; unfold gtE; simp; omega
      have HP2 := Lib.hid (insP_gt hgt HP.out)
      clear hgt HP
      go_wp2_with fail
      refine wp_calm0 44 (by kernel_rfl) (by kernel_rfl) ?_
      intro J hJ
      simp only [List.take_succ_cons, List.take_zero]
      repeat ((with_reducible apply wpCalm_step); intro M hM; go_simp; first | ((with_reducible apply hM); clear hM M) | (rw [if_neg]; rotate_left; (· intro h; cases h); (with_reducible apply hM); clear hM M) | ((with_reducible apply calm_intro); (· intro wc hw; obtain ⟨hc, hf⟩ := bcell (hJ wc hw); go_simp; first | exact rfl); (with_reducible apply hM); clear hM M))
      with_reducible apply wpCalm_nil
      clear hJ J
      clear f1 f2
      intro V hX
      have hrow' := Lib.hid (own_belowE hrow.out hX); clear hrow; have hrow := hrow'; clear hrow'
      have HPR' := Lib.hid (HPR.out.mono hX hq1w); clear HPR; have HPR := HPR'; clear HPR'
      have HB' := Lib.hid (after HB.out hX); clear HB; have HB := HB'; clear HB'
      clear hX d1 d2
      obtain ⟨d1, d2⟩ := HPR.out.2 j hj3
      replace hq1w := HPR.out.1
      rw [Nat.zero_add, ← HX.out] at d1
      rw [Nat.zero_add, ← HY.out] at d2
      simp only [List.drop_succ_cons, List.drop_zero]
      have hpr2 := prsAt_of_row hrow.out (by have := HLR.out; rw [shift_len hm]; omega)
      have hgw2 := hpr2.1
      obtain ⟨f1, f2⟩ := hpr2.2 m' hmr
      rw [Nat.zero_add, (shift_get hm (Nat.lt_succ_self m')).1, ← EA.out] at f1
      rw [Nat.zero_add, (shift_get hm (Nat.lt_succ_self m')).2, ← EB.out] at f2
      obtain ⟨s1, s2⟩ := hpr2.2 (m' + 1) (by omega)
      rw [Nat.zero_add] at s1 s2
      clear hpr2
      have hfz := hrow.out.frozenAt
      have hrs := row_set2 hrow.out (by have := HLR.out; rw [shift_len hm]; omega) (k := m' + 1) (by omega) a b
      obtain ⟨U, hU⟩ : ∃ U, U = (V.setCell ⟨g, (m' + 1) * 2, none⟩ (.int .i64 a)).setCell ⟨g, (m' + 1) * 2 + 1, none⟩ (.int .i64 b) := ⟨_, rfl⟩
      rw [← hU] at hrs
      rw [shift_set hm] at hrs
      obtain ⟨hr5, hg5⟩ := hrs
      have hpm : out2[m'] = (a, b) := by have e := gPQ hml; rw [List.getElem?_eq_getElem hml] at e; injection e with e; rw [e, EA.out, EB.out]
      rw [← hpm, shift_step hml] at hr5
      have HR5 := Lib.hid hr5
      have HB5 := Lib.hid (HB.out.grown hg5 HB.out.size (fun k hk => by injection hk with hk; have := (hrow.out.lt g rfl).1; omega))
      have HPR5 := Lib.hid (HPR.out.kept hg5 (fun e => HGQ.out (by injection e with e; exact e.symm)))
      have HU := Lib.hid hU
      clear hpm hr5 hg5 hU hrow HB HPR
      go_wp2_with fail
      clear hfz f1 f2 s1 s2 d1 d2 hgw hgw2 hwm
      rw [← HU.out]
      go_roundw
      case rel => exact ⟨m', out2[m'], by omega, by go_num, HP2, HR5, HPR5, HB5⟩
      case measure => simp [intOf] <;> omega
    have x1' : a ≤ x := by omega
    by_cases x2 : a = x
    · have x2b : (a == x) = true := by simpa using x2
      by_cases x3 : y < b
      · have hgt : gtE (gP out2 m', gQ out2 m') (x, y) = true := by rw [← EA.out, ← EB.out]; unfold gtE; simp; omega
        have HP2 := Lib.hid (insP_gt hgt HP.out)
        clear hgt HP
        go_wp2_with fail
        refine wp_calm0 44 (by kernel_rfl) (by kernel_rfl) ?_
        intro J hJ
        simp only [List.take_succ_cons, List.take_zero]
        repeat ((with_reducible apply wpCalm_step); intro M hM; go_simp; first | ((with_reducible apply hM); clear hM M) | (rw [if_neg]; rotate_left; (· intro h; cases h); (with_reducible apply hM); clear hM M) | ((with_reducible apply calm_intro); (· intro wc hw; obtain ⟨hc, hf⟩ := bcell (hJ wc hw); go_simp; first | exact rfl); (with_reducible apply hM); clear hM M))
        with_reducible apply wpCalm_nil
        clear hJ J
        clear f1 f2
        intro V hX
        have hrow' := Lib.hid (own_belowE hrow.out hX); clear hrow; have hrow := hrow'; clear hrow'
        have HPR' := Lib.hid (HPR.out.mono hX hq1w); clear HPR; have HPR := HPR'; clear HPR'
        have HB' := Lib.hid (after HB.out hX); clear HB; have HB := HB'; clear HB'
        clear hX d1 d2
        obtain ⟨d1, d2⟩ := HPR.out.2 j hj3
        replace hq1w := HPR.out.1
        rw [Nat.zero_add, ← HX.out] at d1
        rw [Nat.zero_add, ← HY.out] at d2
        simp only [List.drop_succ_cons, List.drop_zero]
        clear x2
        have hpr2 := prsAt_of_row hrow.out (by have := HLR.out; rw [shift_len hm]; omega)
        have hgw2 := hpr2.1
        obtain ⟨f1, f2⟩ := hpr2.2 m' hmr
        rw [Nat.zero_add, (shift_get hm (Nat.lt_succ_self m')).1, ← EA.out] at f1
        rw [Nat.zero_add, (shift_get hm (Nat.lt_succ_self m')).2, ← EB.out] at f2
        obtain ⟨s1, s2⟩ := hpr2.2 (m' + 1) (by omega)
        rw [Nat.zero_add] at s1 s2
        clear hpr2
        have hfz := hrow.out.frozenAt
        have hrs := row_set2 hrow.out (by have := HLR.out; rw [shift_len hm]; omega) (k := m' + 1) (by omega) a b
        obtain ⟨U, hU⟩ : ∃ U, U = (V.setCell ⟨g, (m' + 1) * 2, none⟩ (.int .i64 a)).setCell ⟨g, (m' + 1) * 2 + 1, none⟩ (.int .i64 b) := ⟨_, rfl⟩
        rw [← hU] at hrs
        rw [shift_set hm] at hrs
        obtain ⟨hr5, hg5⟩ := hrs
        have hpm : out2[m'] = (a, b) := by have e := gPQ hml; rw [List.getElem?_eq_getElem hml] at e; injection e with e; rw [e, EA.out, EB.out]
        rw [← hpm, shift_step hml] at hr5
        have HR5 := Lib.hid hr5
        have HB5 := Lib.hid (HB.out.grown hg5 HB.out.size (fun k hk => by injection hk with hk; have := (hrow.out.lt g rfl).1; omega))
        have HPR5 := Lib.hid (HPR.out.kept hg5 (fun e => HGQ.out (by injection e with e; exact e.symm)))
        have HU := Lib.hid hU
        clear hpm hr5 hg5 hU hrow HB HPR
        go_wp2_with fail
        clear hfz f1 f2 s1 s2 d1 d2 hgw hgw2 hwm
        rw [← HU.out]
        go_roundw
        case rel => exact ⟨m', out2[m'], by omega, by go_num, HP2, HR5, HPR5, HB5⟩
        case measure => simp [intOf] <;> omega
      · have hgt : gtE (gP out2 m', gQ out2 m') (x, y) = false := by rw [← EA.out, ← EB.out]; unfold gtE; simp; omega
        have HPM : Hid (p0 = m' + 1) := insP_no hgt HP.out
        clear hgt HP
        go_wp2_with fail
        refine wp_calm0 44 (by kernel_rfl) (by kernel_rfl) ?_
        intro J hJ
        simp only [List.take_succ_cons, List.take_zero]
        repeat ((with_reducible apply wpCalm_step); intro M hM; go_simp; first | ((with_reducible apply hM); clear hM M) | (rw [if_neg]; rotate_left; (· intro h; cases h); (with_reducible apply hM); clear hM M) | ((with_reducible apply calm_intro); (· intro wc hw; obtain ⟨hc, hf⟩ := bcell (hJ wc hw); go_simp; first | exact rfl); (with_reducible apply hM); clear hM M))
        with_reducible apply wpCalm_nil
        clear hJ J
        clear f1 f2
        intro V hX
        have hrow' := Lib.hid (own_belowE hrow.out hX); clear hrow; have hrow := hrow'; clear hrow'
        have HPR' := Lib.hid (HPR.out.mono hX hq1w); clear HPR; have HPR := HPR'; clear HPR'
        have HB' := Lib.hid (after HB.out hX); clear HB; have HB := HB'; clear HB'
        clear hX d1 d2
        obtain ⟨d1, d2⟩ := HPR.out.2 j hj3
        replace hq1w := HPR.out.1
        rw [Nat.zero_add, ← HX.out] at d1
        rw [Nat.zero_add, ← HY.out] at d2
        simp only [List.drop_succ_cons, List.drop_zero]
        have hpr0 := prsAt_of_row hrow.out (by have := HLR.out; rw [shift_len hm]; omega)
        have hgw0 := hpr0.1
        obtain ⟨s1, s2⟩ := hpr0.2 ((m' + 1)) (by omega)
        rw [Nat.zero_add] at s1 s2
        clear hpr0
        have hfz := hrow.out.frozenAt
        have hrs := row_set2 hrow.out (by have := HLR.out; rw [shift_len hm]; omega) (k := (m' + 1)) (by omega) x y
        obtain ⟨U, hU⟩ : ∃ U, U = (V.setCell ⟨g, (m' + 1) * 2, none⟩ (.int .i64 x)).setCell ⟨g, (m' + 1) * 2 + 1, none⟩ (.int .i64 y) := ⟨_, rfl⟩
        rw [← hU] at hrs
        rw [shift_set hm] at hrs
        obtain ⟨hr5, hg5⟩ := hrs
        have HR5 := Lib.hid hr5
        have HINS : Hid (insE out2 (x, y) = out2.take ((m' + 1)) ++ (x, y) :: out2.drop ((m' + 1))) := by
          refine Lib.hid ?_
          unfold insE
          rw [HP1.out, HPM.out]
        have HB5 := Lib.hid (HB.out.grown hg5 HB.out.size (fun k hk => by injection hk with hk; have := (hrow.out.lt g rfl).1; omega))
        have HPR5 := Lib.hid (HPR.out.kept hg5 (fun e => HGQ.out (by injection e with e; exact e.symm)))
        have HIL : Hid ((insE out2 (x, y)).length = R1.length) := by have := HLR.out; rw [insE_len]; refine Lib.hid ?_; omega
        have hr6 := HR5.out
        rw [← HINS.out] at hr6
        have HR6 : Hid (U.ownsRow w.heap.size 85 2 (.slice (some ⟨g, 0, none⟩) R1.length c1) (insE out2 (x, y)).length (cells2 (insE out2 (x, y)))) := by rw [HIL.out]; exact hr6
        have HNE5 : Hid (blkNe (.slice (some ⟨g, 0, none⟩) R1.length c1) q1) := by refine Lib.hid ?_; intro e; injection e with e; exact HGQ.out e
        have HU := Lib.hid hU
        clear hr5 hg5 hr6 HR5 hU hrow HB HPR HINS
        go_wp2_with fail
        clear hfz s1 s2 d1 d2 hgw0
        rw [← HU.out]
        go_roundw
        case rel => exact ⟨j + 1, insE out2 (x, y), by omega, by go_num, HOF, (by have := HL.out; have := HIL.out; have := HLR.out; refine Lib.hid ?_; omega), HR6, HNE5, HPR5, HB5⟩
        case measure => simp [intOf]; omega
    have x2b : (a == x) = false := by simpa using x2
    have hgt : gtE (gP out2 m', gQ out2 m') (x, y) = false := by rw [← EA.out, ← EB.out]; unfold gtE; simp; omega
    have HPM : Hid (p0 = m' + 1) := insP_no hgt HP.out
    clear hgt HP
    go_wp2_with fail
    refine wp_calm0 44 (by kernel_rfl) (by kernel_rfl) ?_
    intro J hJ
    simp only [List.take_succ_cons, List.take_zero]
    repeat ((with_reducible apply wpCalm_step); intro M hM; go_simp; first | ((with_reducible apply hM); clear hM M) | (rw [if_neg]; rotate_left; (· intro h; cases h); (with_reducible apply hM); clear hM M) | ((with_reducible apply calm_intro); (· intro wc hw; obtain ⟨hc, hf⟩ := bcell (hJ wc hw); go_simp; first | exact rfl); (with_reducible apply hM); clear hM M))
    with_reducible apply wpCalm_nil
    clear hJ J
    clear f1 f2
    intro V hX
    have hrow' := Lib.hid (own_belowE hrow.out hX); clear hrow; have hrow := hrow'; clear hrow'
    have HPR' := Lib.hid (HPR.out.mono hX hq1w); clear HPR; have HPR := HPR'; clear HPR'
    have HB' := Lib.hid (after HB.out hX); clear HB; have HB := HB'; clear HB'
    clear hX d1 d2
    obtain ⟨d1, d2⟩ := HPR.out.2 j hj3
    replace hq1w := HPR.out.1
    rw [Nat.zero_add, ← HX.out] at d1
    rw [Nat.zero_add, ← HY.out] at d2
    simp only [List.drop_succ_cons, List.drop_zero]
    have hpr0 := prsAt_of_row hrow.out (by have := HLR.out; rw [shift_len hm]; omega)
    have hgw0 := hpr0.1
    obtain ⟨s1, s2⟩ := hpr0.2 ((m' + 1)) (by omega)
    rw [Nat.zero_add] at s1 s2
    clear hpr0
    have hfz := hrow.out.frozenAt
    have hrs := row_set2 hrow.out (by have := HLR.out; rw [shift_len hm]; omega) (k := (m' + 1)) (by omega) x y
    obtain ⟨U, hU⟩ : ∃ U, U = (V.setCell ⟨g, (m' + 1) * 2, none⟩ (.int .i64 x)).setCell ⟨g, (m' + 1) * 2 + 1, none⟩ (.int .i64 y) := ⟨_, rfl⟩
    rw [← hU] at hrs
    rw [shift_set hm] at hrs
    obtain ⟨hr5, hg5⟩ := hrs
    have HR5 := Lib.hid hr5
    have HINS : Hid (insE out2 (x, y) = out2.take ((m' + 1)) ++ (x, y) :: out2.drop ((m' + 1))) := by
      refine Lib.hid ?_
      unfold insE
      rw [HP1.out, HPM.out]
    have HB5 := Lib.hid (HB.out.grown hg5 HB.out.size (fun k hk => by injection hk with hk; have := (hrow.out.lt g rfl).1; omega))
    have HPR5 := Lib.hid (HPR.out.kept hg5 (fun e => HGQ.out (by injection e with e; exact e.symm)))
    have HIL : Hid ((insE out2 (x, y)).length = R1.length) := by have := HLR.out; rw [insE_len]; refine Lib.hid ?_; omega
    have hr6 := HR5.out
    rw [← HINS.out] at hr6
    have HR6 : Hid (U.ownsRow w.heap.size 85 2 (.slice (some ⟨g, 0, none⟩) R1.length c1) (insE out2 (x, y)).length (cells2 (insE out2 (x, y)))) := by rw [HIL.out]; exact hr6
    have HNE5 : Hid (blkNe (.slice (some ⟨g, 0, none⟩) R1.length c1) q1) := by refine Lib.hid ?_; intro e; injection e with e; exact HGQ.out e
    have HU := Lib.hid hU
    clear hr5 hg5 hr6 HR5 hU hrow HB HPR HINS
    go_wp2_with fail
    clear hfz s1 s2 d1 d2 hgw0
    rw [← HU.out]
    go_roundw
    case rel => exact ⟨j + 1, insE out2 (x, y), by omega, by go_num, HOF, (by have := HL.out; have := HIL.out; have := HLR.out; refine Lib.hid ?_; omega), HR6, HNE5, HPR5, HB5⟩
    case measure => simp [intOf]; omega
end Go.Proofs.Ytdglijdiiggdgaa
namespace Go.Proofs.Ytdglijdiiggdgaa
open Go.RowKit Go.Maps Geo
section
variable {w : World} {ops : Array Oper} {rest : List Oper} {o : Oper} {a : Act} {Q : Exit → Act → World → Prop}
/-- Triples appended to a row of triples. -/
theorem wp_appT2 (hgd : o.guard = none) (s x : Operand)
    (ho : o.op = .call { callee := .builtin .append, args := #[s, x], argTypes := #[23, 23] })
    (base : Nat) (v : Value) (n : Nat) (L M : List T3) (hn : n = L.length) (hs : a.eval s = v) (hown : w.ownsRow base 45 3 v L.length (cells3 L))
    (ad : Addr) (m c : Nat) (hm : m = M.length) (hx : a.eval x = .slice (some ad) m c) (hnews : ∀ j u, (cells3 M)[j]? = some u → w.cell? (ad.add j) = some u)
    (hlen : n + m < 1073741824) (hbase : base ≤ w.heap.size) (hpos : 0 < n + m)
    (h : ∀ (R : List T3) (g cap : Nat) (w' : World), Hid (R = L ++ M) → Hid (w'.ownsRow base 45 3 (.slice (some ⟨g, 0, none⟩) R.length cap) R.length (cells3 R)) → Hid (w.grownBy w' v.ownBlock) → R.length ≤ cap → cap ≤ 9223372036854775807 → Hid (v.ownBlock = some g ∨ g = w.heap.size) → wpList Try.prog ops Q rest (a.put o.dst (.slice (some ⟨g, 0, none⟩) R.length cap)) w') : wpList Try.prog ops Q (o :: rest) a w := by
  obtain ⟨i0, hi0, hiz0, hiz1, hiz2⟩ := info_parts infoTri
  subst hn hm
  refine wp_app hgd s x _ ho base 45 i0 _ 3 24 uTris0 hi0 hiz0 hiz1 hiz2 rfl (by decide) v L.length (cells3 L) hs hown ad M.length c (cells3 M) hx (cells3_len M) hnews (cells3_one M) (by unfold maxLen; omega) (by omega) hbase hpos ?_
  intro g cap w' h1 h2 h3 h4 h5
  rw [cells3_app, ← List.length_append] at h1
  rw [← List.length_append] at h3
  have := h (L ++ M) g cap w' rfl h1 h2 h3 h4 h5
  rwa [List.length_append] at this
end
def sdF (X Y Z : Nat → Int) (a b c q : Nat) : Int := sideF X Y Z a b c q 0 0
def fctT (a b c s : Int) : T3 := if 0 < s then canF a b c else canF a c b
def bC (X Y Z : Nat → Int) (n a b : Nat) : Nat → Nat → List T3 → List T3 → List T3 × List T3
  | 0, _, G, F => (G, F)
  | f + 1, c, G, F => if sdF X Y Z a b c (max (c + 1) 4) = 0 then bC X Y Z n a b f (c + 1) G F else if sdF X Y Z a b c n = 0 then bC X Y Z n a b f (c + 1) (G ++ [fctT a b c (sdF X Y Z a b c (max (c + 1) 4))]) F else bC X Y Z n a b f (c + 1) (G ++ [fctT a b c (sdF X Y Z a b c (max (c + 1) 4))]) (F ++ [fctT a b c (sdF X Y Z a b c (max (c + 1) 4))])
def bB (X Y Z : Nat → Int) (n a : Nat) : Nat → Nat → List T3 → List T3 → List T3 × List T3
  | 0, _, G, F => (G, F)
  | f + 1, b, G, F => bB X Y Z n a f (b + 1) (bC X Y Z n a b (n - (b + 1)) (b + 1) G F).1 (bC X Y Z n a b (n - (b + 1)) (b + 1) G F).2
def bA (X Y Z : Nat → Int) (n : Nat) : Nat → Nat → List T3 → List T3 → List T3 × List T3
  | 0, _, G, F => (G, F)
  | f + 1, a, G, F => bA X Y Z n f (a + 1) (bB X Y Z n a (n - (a + 1)) (a + 1) G F).1 (bB X Y Z n a (n - (a + 1)) (a + 1) G F).2
section
variable {X Y Z : Nat → Int} {n a b c : Nat} {G F : List T3} {R : List T3 × List T3}
theorem bC_end (hk : n ≤ c) (h : bC X Y Z n a b (n - c) c G F = R) : R = (G, F) := by rw [show n - c = 0 by omega] at h; exact h.symm
theorem bC_no (hk : c < n) (h1 : sdF X Y Z a b c (max (c + 1) 4) = 0) (h : bC X Y Z n a b (n - c) c G F = R) : bC X Y Z n a b (n - (c + 1)) (c + 1) G F = R := by
  rw [show n - c = (n - (c + 1)) + 1 by omega, bC, if_pos h1] at h; exact h
theorem bC_ghost (hk : c < n) (h1 : sdF X Y Z a b c (max (c + 1) 4) ≠ 0) (h2 : sdF X Y Z a b c n = 0) (h : bC X Y Z n a b (n - c) c G F = R) : bC X Y Z n a b (n - (c + 1)) (c + 1) (G ++ [fctT a b c (sdF X Y Z a b c (max (c + 1) 4))]) F = R := by
  rw [show n - c = (n - (c + 1)) + 1 by omega, bC, if_neg h1, if_pos h2] at h; exact h
theorem bC_both (hk : c < n) (h1 : sdF X Y Z a b c (max (c + 1) 4) ≠ 0) (h2 : sdF X Y Z a b c n ≠ 0) (h : bC X Y Z n a b (n - c) c G F = R) : bC X Y Z n a b (n - (c + 1)) (c + 1) (G ++ [fctT a b c (sdF X Y Z a b c (max (c + 1) 4))]) (F ++ [fctT a b c (sdF X Y Z a b c (max (c + 1) 4))]) = R := by
  rw [show n - c = (n - (c + 1)) + 1 by omega, bC, if_neg h1, if_neg h2] at h; exact h
theorem bB_end (hk : n ≤ b) (h : bB X Y Z n a (n - b) b G F = R) : R = (G, F) := by rw [show n - b = 0 by omega] at h; exact h.symm
theorem bB_on (hk : b < n) (h : bB X Y Z n a (n - b) b G F = R) : bB X Y Z n a (n - (b + 1)) (b + 1) (bC X Y Z n a b (n - (b + 1)) (b + 1) G F).1 (bC X Y Z n a b (n - (b + 1)) (b + 1) G F).2 = R := by
  rw [show n - b = (n - (b + 1)) + 1 by omega, bB] at h; exact h
theorem bA_end (hk : n ≤ a) (h : bA X Y Z n (n - a) a G F = R) : R = (G, F) := by rw [show n - a = 0 by omega] at h; exact h.symm
theorem bA_on (hk : a < n) (h : bA X Y Z n (n - a) a G F = R) : bA X Y Z n (n - (a + 1)) (a + 1) (bB X Y Z n a (n - (a + 1)) (a + 1) G F).1 (bB X Y Z n a (n - (a + 1)) (a + 1) G F).2 = R := by
  rw [show n - a = (n - (a + 1)) + 1 by omega, bA] at h; exact h
end
theorem sortF_len {A B C : Nat → Int} : ∀ (f k : Nat) (out : List T3), (sortF A B C f k out).length ≤ out.length + f
  | 0, k, out => Nat.le_refl _
  | f + 1, k, out => by
    unfold sortF
    have h1 := sortF_len (A := A) (B := B) (C := C) f (k + 1) (insT out (canF (A k) (B k) (C k)))
    have h2 := insT_len out (canF (A k) (B k) (C k))
    omega
/-- The history that is being made: two lists in rows of their own. -/
def HullAt (w : World) (b2 b6 base : Nat) (G F : List T3) : Prop :=
  ∃ vF vG, w.heap[b6]? = some (.cells #[vF, vG, .slice none 0 0, .int .i64 0] 50 (0, 0)) ∧ w.heap[b2]? = some (.cells #[.slice none 0 0, .slice none 0 0, .slice none 0 0, .int .i64 0] 50 (0, 0)) ∧
    w.ownsRow base 45 3 vF F.length (cells3 F) ∧ w.ownsRow base 45 3 vG G.length (cells3 G) ∧ (∀ k, vF.ownBlock = some k → vG.ownBlock ≠ some k) ∧ b2 < base ∧ b6 < base ∧ base ≤ w.heap.size ∧ b2 ≠ b6
theorem HullAt.below {w w' : World} {b2 b6 base : Nat} {G F : List T3} (h : HullAt w b2 b6 base G F) (hB : Below w.heap.size w w') : HullAt w' b2 b6 base G F := by
  obtain ⟨vF, vG, h1, h2, h3, h4, h5, h6, h7, h8, h9⟩ := h
  exact ⟨vF, vG, (hB.block _ (by omega)).trans h1, (hB.block _ (by omega)).trans h2, own_below h3 hB, own_below h4 hB, h5, h6, h7, Nat.le_trans h8 hB.size, h9⟩
theorem post_named {P : Program} {f : Func} {R : Ending → World → Prop} {x : Exit} {a : Act} {W : World} (h : ∀ W', W' = W → bodyPost P f R x a W') : bodyPost P f R x a W := h W rfl
theorem setCell_grown (w : World) (a : Addr) (v : Value) : w.grownBy (w.setCell a v) (some a.block) := ⟨rfl, rfl, rfl, by simp, fun k _ hk => heap_setCell_other w a k v (fun e => hk (by simp [e]))⟩
theorem own_setCell {w : World} {base : Nat} {T : TypeId} {sz : Nat} {vv : Value} {k b o : Nat} {xs : List Value} {v : Value} (h : w.ownsRow base T sz vv k xs) (hb : b < base) : (w.setCell ⟨b, o, none⟩ v).ownsRow base T sz vv k xs :=
  h.kept (setCell_grown w _ v) (.inr (fun e => by have := (h.lt b e).1; omega))
theorem storeAll_grown {b : Nat} : ∀ (vs : List Value) (w : World) (o : Nat), w.grownBy (storeAll w b o vs) (some b)
  | [], w, o => ⟨rfl, rfl, rfl, Nat.le_refl _, fun _ _ _ => rfl⟩
  | v :: vs, w, o => (setCell_grown w ⟨b, o, none⟩ v).trans (storeAll_grown vs _ (o + 1))
theorem own_storeAll {w : World} {base : Nat} {T : TypeId} {sz : Nat} {vv : Value} {k b o : Nat} {xs vs : List Value} (h : w.ownsRow base T sz vv k xs) (hb : b < base) : (storeAll w b o vs).ownsRow base T sz vv k xs :=
  h.kept (storeAll_grown vs w o) (.inr (fun e => by have := (h.lt b e).1; omega))
theorem app_keep {w v1 : World} {ob : Obj} {base : Nat} {vF vG : Value} {T : TypeId} {sz n : Nat} {xs : List Value} {g : Nat} (hF : w.ownsRow base T sz vF n xs) (hsep : ∀ k, vF.ownBlock = some k → vG.ownBlock ≠ some k) (hgr : (w.alloc ob).grownBy v1 vG.ownBlock)
    (hat : vG.ownBlock = some g ∨ g = (w.alloc ob).heap.size) : v1.ownsRow base T sz vF n xs ∧ ∀ k, vF.ownBlock = some k → g ≠ k := by
  constructor
  · refine (hF.alloc _).kept hgr ?_
    cases h : vF.ownBlock with
    | none => exact .inl rfl
    | some k => exact .inr (fun e => hsep k h e.symm)
  · intro k hk e
    subst e
    rcases hat with h | h
    · exact hsep _ hk h
    · have := (hF.lt _ hk).2
      simp at h; omega
theorem app_block {w v1 : World} {ob o : Obj} {base : Nat} {vG : Value} {T : TypeId} {sz n b : Nat} {xs : List Value} (hG : w.ownsRow base T sz vG n xs) (hgr : (w.alloc ob).grownBy v1 vG.ownBlock) (hb : b < base) (hk : w.heap[b]? = some o) : v1.heap[b]? = some o := by
  have hbl := (Array.getElem?_eq_some_iff.1 hk).1
  exact (hgr.block b (by simp; omega) (fun e => by have := (hG.lt _ e.symm).1; omega)).trans ((heap_old hbl).trans hk)
theorem app_free {w v1 : World} {ob o : Obj} {vG : Value} {b : Nat} (hgr : (w.alloc ob).grownBy v1 vG.ownBlock) (hb : ∀ k, vG.ownBlock = some k → k < b) (hk : w.heap[b]? = some o) : v1.heap[b]? = some o := by
  have hbl := (Array.getElem?_eq_some_iff.1 hk).1
  exact (hgr.block b (by simp; omega) (fun e => by have := hb _ e.symm; omega)).trans ((heap_old hbl).trans hk)
theorem app_below {w0 w v1 : World} {ob : Obj} {base : Nat} {vG : Value} {T : TypeId} {sz n : Nat} {xs : List Value} (hB : Below w0.heap.size w0 w) (hG : w.ownsRow base T sz vG n xs) (hgr : (w.alloc ob).grownBy v1 vG.ownBlock) (h0 : w0.heap.size ≤ base) : Below w0.heap.size w0 v1 :=
  (hB.alloc hB.size _).grown hgr (by have := hB.size; simp; omega) (fun k hk => Nat.le_trans h0 (hG.lt k hk).1)
section
variable {w : World} {b2 b6 base g cap : Nat} {G F R : List T3} {vF vG : Value}
theorem hull_setG (k6 : w.heap[b6]? = some (.cells #[vF, vG, .slice none 0 0, .int .i64 0] 50 (0, 0))) (k2 : w.heap[b2]? = some (.cells #[.slice none 0 0, .slice none 0 0, .slice none 0 0, .int .i64 0] 50 (0, 0)))
    (hF : w.ownsRow base 45 3 vF F.length (cells3 F)) (hG : w.ownsRow base 45 3 (.slice (some ⟨g, 0, none⟩) R.length cap) R.length (cells3 R)) (hs : ∀ k, vF.ownBlock = some k → g ≠ k) (h2 : b2 < base) (h6 : b6 < base) (hb : base ≤ w.heap.size) (hne : b2 ≠ b6) :
    HullAt (w.setCell ⟨b6, 1, none⟩ (.slice (some ⟨g, 0, none⟩) R.length cap)) b2 b6 base R F := by
  refine ⟨vF, .slice (some ⟨g, 0, none⟩) R.length cap, ?_, ?_, own_setCell hF h6, own_setCell hG h6, ?_, h2, h6, by simp; exact hb, hne⟩
  · have := set_own (o := 1) k6 (.slice (some ⟨g, 0, none⟩) R.length cap)
    simpa using this
  · exact (other_block hne).trans k2
  · intro k hk e
    simp [Value.ownBlock] at e
    exact hs k hk e
theorem hull_setF (k6 : w.heap[b6]? = some (.cells #[vF, vG, .slice none 0 0, .int .i64 0] 50 (0, 0))) (k2 : w.heap[b2]? = some (.cells #[.slice none 0 0, .slice none 0 0, .slice none 0 0, .int .i64 0] 50 (0, 0)))
    (hG : w.ownsRow base 45 3 vG G.length (cells3 G)) (hF : w.ownsRow base 45 3 (.slice (some ⟨g, 0, none⟩) R.length cap) R.length (cells3 R)) (hs : ∀ k, vG.ownBlock = some k → g ≠ k) (h2 : b2 < base) (h6 : b6 < base) (hb : base ≤ w.heap.size) (hne : b2 ≠ b6) :
    HullAt (w.setCell ⟨b6, 0, none⟩ (.slice (some ⟨g, 0, none⟩) R.length cap)) b2 b6 base G R := by
  refine ⟨.slice (some ⟨g, 0, none⟩) R.length cap, vG, ?_, ?_, own_setCell hF h6, own_setCell hG h6, ?_, h2, h6, by simp; exact hb, hne⟩
  · have := set_own (o := 0) k6 (.slice (some ⟨g, 0, none⟩) R.length cap)
    simpa using this
  · exact (other_block hne).trans k2
  · intro k hk e
    simp [Value.ownBlock] at hk
    exact hs k e hk
end
end Go.Proofs.Ytdglijdiiggdgaa
namespace Go.Proofs.Ytdglijdiiggdgaa
open Go.RowKit Go.Maps Geo
/-- The reference's history: the final facets, all facets, the pairs, the number of tasks, the code. -/
def bldG (n : Nat) (X Y Z : Nat → Int) : List T3 := sortF (fA (bA X Y Z n n 0 [] []).1) (fB (bA X Y Z n n 0 [] []).1) (fC (bA X Y Z n n 0 [] []).1) (bA X Y Z n n 0 [] []).1.length 0 []
def bldF (n : Nat) (X Y Z : Nat → Int) : List T3 := sortF (fA (bA X Y Z n n 0 [] []).2) (fB (bA X Y Z n n 0 [] []).2) (fC (bA X Y Z n n 0 [] []).2) (bA X Y Z n n 0 [] []).2.length 0 []
structure HullR where
  F : List T3
  G : List T3
  P : List E2
  T : Int
  code : Int
def bldR (n : Nat) (X Y Z : Nat → Int) : HullR :=
  if (chk n X Y Z).1 ≠ 0 then ⟨[], [], [], 0, (chk n X Y Z).1⟩
  else if n < 4 then ⟨[], [], [], 0, 0⟩
  else ⟨bldF n X Y Z, bldG n X Y Z, padT (fA (bldG n X Y Z)) (fB (bldG n X Y Z)) (fC (bldG n X Y Z)) (bldG n X Y Z).length 0 [], 2 * ((bldG n X Y Z).length : Int) - 2, 0⟩
/-- What a history is in memory. -/
def HullV (w : World) (base : Nat) (v : Value) (H : HullR) : Prop :=
  ∃ vF vG vP, v = .agg #[vF, vG, vP, .int .i64 H.T] ∧ w.ownsRow base 45 3 vF H.F.length (cells3 H.F) ∧ w.ownsRow base 45 3 vG H.G.length (cells3 H.G) ∧ w.ownsRow base 85 2 vP H.P.length (cells2 H.P)
def BuildP (base : Nat) (H : HullR) (e : Ending) (w' : World) : Prop := ∃ v, e = .returned (.tuple #[v, .int .i64 H.code]) ∧ HullV w' base v H
theorem buildP_nil {base : Nat} {c : Int} {w' : World} {H : HullR} (hH : H = ⟨[], [], [], 0, c⟩) : BuildP base H (.returned (.tuple #[.agg #[.slice none 0 0, .slice none 0 0, .slice none 0 0, .int .i64 0], .int .i64 c])) w' := by
  subst hH
  exact ⟨_, rfl, _, _, _, rfl, World.ownsRow_nil _ _ _ _, World.ownsRow_nil _ _ _ _, World.ownsRow_nil _ _ _ _⟩
theorem buildP_mk {base : Nat} {w' : World} {H : HullR} {F G : List T3} {P : List E2} {T : Int} {vF vG vP : Value} (hH : H = ⟨F, G, P, T, 0⟩) (h1 : w'.ownsRow base 45 3 vF F.length (cells3 F)) (h2 : w'.ownsRow base 45 3 vG G.length (cells3 G)) (h3 : w'.ownsRow base 85 2 vP P.length (cells2 P)) :
    BuildP base H (.returned (.tuple #[.agg #[vF, vG, vP, .int .i64 T], .int .i64 0])) w' := by
  subst hH
  exact ⟨_, rfl, _, _, _, rfl, h1, h2, h3⟩
attribute [local irreducible] wpCalm
set_option maxRecDepth 100000 in
set_option maxHeartbeats 16000000 in
theorem ref9_build (pl : Option Addr) (n cp : Nat) (X Y Z : Nat → Int) (hn : n ≤ 64 ∨ 512 < n) (w : World) (hp : Hid (PtsO w pl n X Y Z)) :
    Calls Try.prog 29 #[.slice pl n cp] w fun e w' => Below w.heap.size w w' ∧ BuildP w.heap.size (bldR n X Y Z) e w' := by
  have hck := ref6_check pl n cp X Y Z
  obtain ⟨c1, hc1⟩ : ∃ c1, c1 = (chk n X Y Z).1 := ⟨_, rfl⟩
  obtain ⟨c2, hc2⟩ : ∃ c2, c2 = (chk n X Y Z).2 := ⟨_, rfl⟩
  rw [← hc1, ← hc2] at hck
  have HCK := Lib.hid hck
  have HC1 := Lib.hid hc1
  have HN := Lib.hid hn
  clear hck hc1 hc2 hn
  by_cases h0 : c1 = 0
  case neg =>
    have HR : Hid (bldR n X Y Z = ⟨[], [], [], 0, c1⟩) := by refine Lib.hid ?_; unfold bldR; rw [if_pos (by rw [← HC1.out]; exact h0), HC1.out]
    go_enter Try.func29, Try.ntmps29
    go_wp2_with fail
    first | refine wp_named ?_ | refine calls_named ?_
    intro W hW
    have k2 : W.heap[w.heap.size]? = some (.cells #[.slice none 0 0, .slice none 0 0, .slice none 0 0, .int .i64 0] 50 (0, 0)) := by rw [hW]; exact heap_at rfl
    have z2 : w.heap.size < W.heap.size := by rw [hW]; simp
    have hB : Below w.heap.size w W := by rw [hW]; go_grown
    clear hW
    refine (HCK.out _ (Lib.hid (hp.out.below hB))).mono ?_; rintro e W1 ⟨rfl, hX⟩
    replace k2 := (hX.block _ z2).trans k2; replace z2 := Nat.lt_of_lt_of_le z2 hX.size; replace hB := after hB hX
    clear hX
    obtain ⟨kq, kr⟩ := cellB k2
    go_wp2_with fail
    first | refine post_named ?_
    intro U hU0
    have hU : U = storeAll W1 w.heap.size 0 [.slice none 0 0, .slice none 0 0, .slice none 0 0, .int .i64 0] := hU0
    have k3 := made (cs := [.slice none 0 0, .slice none 0 0, .slice none 0 0, .int .i64 0]) hU k2 rfl
    have hB3 := below hU hB (Nat.le_refl _)
    clear hU hU0 kq kr k2 hB
    obtain ⟨p, q⟩ := cellB k3
    refine bodyPost_ret (v := .tuple #[.agg #[.slice none 0 0, .slice none 0 0, .slice none 0 0, .int .i64 0], .int .i64 c1]) (by simp [results, Try.results29, go_sem, p]) rfl ⟨hB3, buildP_nil HR.out⟩
  subst h0
  obtain ⟨hn5, hco⟩ := chk_all (n := n) (X := X) (Y := Y) (Z := Z) HC1.out.symm
  have HCO := Lib.hid hco
  have hn6 : n ≤ 64 := by have := HN.out; omega
  clear hco
  by_cases h4 : n < 4
  · have HR : Hid (bldR n X Y Z = ⟨[], [], [], 0, 0⟩) := by refine Lib.hid ?_; unfold bldR; rw [if_neg (by rw [← HC1.out]; decide), if_pos h4]
    have h4' : (n : Int) < 4 := by omega
    go_enter Try.func29, Try.ntmps29
    go_wp2_with fail
    first | refine wp_named ?_ | refine calls_named ?_
    intro W hW
    have k2 : W.heap[w.heap.size]? = some (.cells #[.slice none 0 0, .slice none 0 0, .slice none 0 0, .int .i64 0] 50 (0, 0)) := by rw [hW]; exact heap_at rfl
    have z2 : w.heap.size < W.heap.size := by rw [hW]; simp
    have hB : Below w.heap.size w W := by rw [hW]; go_grown
    clear hW
    refine (HCK.out _ (Lib.hid (hp.out.below hB))).mono ?_; rintro e W1 ⟨rfl, hX⟩
    replace k2 := (hX.block _ z2).trans k2; replace z2 := Nat.lt_of_lt_of_le z2 hX.size; replace hB := after hB hX
    clear hX
    obtain ⟨kq, kr⟩ := cellB k2
    go_wp2_with fail
    first | refine post_named ?_
    intro U hU0
    obtain ⟨U1, hU⟩ : ∃ U1, U1 = storeAll W1 w.heap.size 0 [.slice none 0 0, .slice none 0 0, .slice none 0 0, .int .i64 0] := ⟨_, rfl⟩
    have hU2 : U = U1.alloc (.cells #[.slice none 0 0, .slice none 0 0, .slice none 0 0, .int .i64 0] 50 (0, 0)) := by rw [hU]; exact hU0
    have k4 := made (cs := [.slice none 0 0, .slice none 0 0, .slice none 0 0, .int .i64 0]) hU k2 rfl
    have k3 : U.heap[w.heap.size]? = some (.cells #[.slice none 0 0, .slice none 0 0, .slice none 0 0, .int .i64 0] 50 (0, 0)) := by rw [hU2]; exact (heap_old (Nat.lt_of_lt_of_eq z2 (sized hU).symm)).trans k4
    have hB4 := below hU hB (Nat.le_refl _)
    have hB3 : Below w.heap.size w U := by rw [hU2]; exact hB4.alloc hB4.size _
    clear hU2 k4 hB4
    clear hU hU0 kq kr k2 hB
    obtain ⟨p, q⟩ := cellB k3
    refine bodyPost_ret (v := .tuple #[.agg #[.slice none 0 0, .slice none 0 0, .slice none 0 0, .int .i64 0], .int .i64 0]) (by simp [results, Try.results29, go_sem, p]) rfl ⟨hB3, buildP_nil HR.out⟩
  have HR : Hid (bldR n X Y Z = ⟨bldF n X Y Z, bldG n X Y Z, padT (fA (bldG n X Y Z)) (fB (bldG n X Y Z)) (fC (bldG n X Y Z)) (bldG n X Y Z).length 0 [], 2 * ((bldG n X Y Z).length : Int) - 2, 0⟩) := by refine Lib.hid ?_; unfold bldR; rw [if_neg (by rw [← HC1.out]; decide), if_neg h4]
  obtain ⟨pb, off, rfl, hp0⟩ := hp.out.at (k := 0) (by omega)
  have HP := Lib.hid hp0
  clear hp0 HC1 HN
  have h4d : decide ((n : Int) < 4) = false := by simp; omega
  have h4'' : 4 ≤ n := by omega
  go_enter Try.func29, Try.ntmps29
  go_wp2_with fail
  first | refine wp_named ?_ | refine calls_named ?_
  intro W hW
  have k2 : W.heap[w.heap.size]? = some (.cells #[.slice none 0 0, .slice none 0 0, .slice none 0 0, .int .i64 0] 50 (0, 0)) := by rw [hW]; exact heap_at rfl
  have z2 : w.heap.size < W.heap.size := by rw [hW]; simp
  have hB : Below w.heap.size w W := by rw [hW]; go_grown
  clear hW
  refine (HCK.out _ (Lib.hid (hp.out.below hB))).mono ?_; rintro e W1 ⟨rfl, hX⟩
  replace k2 := (hX.block _ z2).trans k2; replace z2 := Nat.lt_of_lt_of_le z2 hX.size; replace hB := after hB hX
  clear hX
  go_wp2_with fail
  first | refine wp_named ?_ | refine calls_named ?_
  intro W2 hW
  have HUL : Hid (HullAt W2 w.heap.size W1.heap.size (W1.heap.size + 1) [] []) := by
    refine Lib.hid ⟨.slice none 0 0, .slice none 0 0, ?_, ?_, World.ownsRow_nil _ _ _ _, World.ownsRow_nil _ _ _ _, (fun k hk => by cases hk), by omega, by omega, ?_, by omega⟩
    · rw [hW]; exact heap_at rfl
    · rw [hW]; exact (heap_old z2).trans k2
    · rw [hW]; simp
  have HB := Lib.hid (show Below w.heap.size w W2 by rw [hW]; exact hB.alloc hB.size _)
  have HBS : Hid (w.heap.size ≤ W1.heap.size) := hB.size
  clear hW k2 z2 hB
  obtain ⟨RA, hRA⟩ : ∃ RA, RA = bA X Y Z n n 0 [] [] := ⟨_, rfl⟩
  have HRA := Lib.hid hRA
  have HF0 : Hid (bA X Y Z n (n - 0) 0 [] [] = RA) := hRA.symm
  clear hRA
  go_loopw [8] (fun u wr => ∃ (a : Nat) (G F : List T3), a ≤ n ∧ u = .int .i64 a ∧ Hid (bA X Y Z n (n - a) a G F = RA) ∧ Hid (G.length ≤ 4096 * a ∧ F.length ≤ 4096 * a) ∧ Hid (HullAt wr w.heap.size W1.heap.size (W1.heap.size + 1) G F) ∧ Hid (Below w.heap.size w wr))
    (fun u _ => n - (intOf u).toNat)
  case atStart => exact ⟨0, [], [], Nat.zero_le _, rfl, HF0, ⟨Nat.zero_le _, Nat.zero_le _⟩, HUL, HB⟩
  clear HUL HB HF0
  obtain ⟨a, G, F, ha, rfl, HF, HL, HUL, HB⟩ := hrel
  by_cases hlt : a < n
  case neg =>
    have hat := bA_end (by omega) HF.out
    rw [HRA.out] at hat
    have HAT := Lib.hid hat
    clear hat HF HRA
    obtain ⟨vF, vG, k6, k2, hF, hG, hsep, hl2, hl6, hbase, hne⟩ := HUL.out
    clear HUL
    have hnG : G.length < 1048576 := by have := HL.out; omega
    have hnF : F.length < 1048576 := by have := HL.out; omega
    have HSG : Hid (sortF (fA G) (fB G) (fC G) (G.length - 0) 0 [] = bldG n X Y Z) := by refine Lib.hid ?_; unfold bldG; rw [HAT.out]; rfl
    have HSF : Hid (sortF (fA F) (fB F) (fC F) (F.length - 0) 0 [] = bldF n X Y Z) := by refine Lib.hid ?_; unfold bldF; rw [HAT.out]; rfl
    obtain ⟨SG, hSG⟩ : ∃ S, S = bldG n X Y Z := ⟨_, rfl⟩
    obtain ⟨SF, hSF⟩ : ∃ S, S = bldF n X Y Z := ⟨_, rfl⟩
    obtain ⟨SP, hSP⟩ : ∃ S, S = padT (fA SG) (fB SG) (fC SG) SG.length 0 [] := ⟨_, rfl⟩
    have HR2 : Hid (bldR n X Y Z = ⟨SF, SG, SP, 2 * (SG.length : Int) - 2, 0⟩) := by rw [hSP, hSG, hSF]; exact HR
    have hnS : SG.length < 1048576 := by rw [hSG, ← HSG.out]; have := sortF_len (A := fA G) (B := fB G) (C := fC G) (G.length - 0) 0 []; rw [List.length_nil] at this; omega
    rw [← hSG] at HSG; rw [← hSF] at HSF
    have HSP : Hid (padT (fA SG) (fB SG) (fC SG) (SG.length - 0) 0 [] = SP) := hSP.symm
    obtain ⟨pG, cG, rfl, hptG⟩ := tris_of_row hG
    obtain ⟨pF, cF, rfl, hptF⟩ := tris_of_row hF
    have hsort := ref5_sort pG G.length cG (fA G) (fB G) (fC G) SG hnG HSG wr hptG
    have HSORT := Lib.hid hsort
    have hsz := HB.out.size
    have HK2 := Lib.hid k2; have HK6 := Lib.hid k6; have HF6 := Lib.hid hF; have HNE := Lib.hid hne
    obtain ⟨kq6, kr6⟩ := cellB k6
    clear hsort hSG hSF hSP HAT hptG hptF k2 k6 hF hG hsep hne HR HSG
    go_wp2_with fail
    refine HSORT.out.mono ?_; rintro e V1 ⟨hX, sG, rfl, hsG⟩
    obtain ⟨pS, cS, rfl, _⟩ := tris_of_row hsG
    have k6 := (hX.block _ (by omega)).trans HK6.out
    have k2 := (hX.block _ (by omega)).trans HK2.out
    have hF := own_below HF6.out hX
    have HB1 := Lib.hid (after HB.out hX)
    have hs1 := hX.size
    clear hX HK6 HK2 HF6 HB HSORT kq6 kr6
    obtain ⟨kq6, kr6⟩ := cellB k6
    have HK6 := Lib.hid k6; have HK2 := Lib.hid k2; have HF6 := Lib.hid hF; have HG6 := Lib.hid hsG
    clear k6 k2 hF hsG
    go_upto_region 24 with (fail)
    first | refine wp_named ?_ | refine calls_named ?_
    intro U1 hU
    have k6 : U1.heap[W1.heap.size]? = some (.cells #[.slice pF F.length cF, .slice pS SG.length cS, .slice none 0 0, .int .i64 0] 50 (0, 0)) := by rw [hU]; have := set_own (o := 1) HK6.out (.slice pS SG.length cS); simpa using this
    have k2 : U1.heap[w.heap.size]? = some (.cells #[.slice none 0 0, .slice none 0 0, .slice none 0 0, .int .i64 0] 50 (0, 0)) := by rw [hU]; exact (other_block HNE.out).trans HK2.out
    have hF : U1.ownsRow (W1.heap.size + 1) 45 3 (.slice pF F.length cF) F.length (cells3 F) := by rw [hU]; exact own_setCell HF6.out (by omega)
    have hG : U1.ownsRow wr.heap.size 45 3 (.slice pS SG.length cS) SG.length (cells3 SG) := by rw [hU]; exact own_setCell HG6.out (by omega)
    have HB2 : Hid (Below w.heap.size w U1) := by rw [hU]; exact HB1.out.setCell (by have := HBS.out; exact this) _
    have hs2 : V1.heap.size = U1.heap.size := by rw [hU]; simp
    have hs3 : wr.heap.size ≤ U1.heap.size := by omega
    clear hU hs2 HK6 HK2 HF6 HG6 HB1 kq6 kr6
    obtain ⟨pF', cF', hpe, hptF⟩ := tris_of_row hF
    injection hpe with hpe1 hpe2 hpe3
    subst hpe1
    have hsort := ref5_sort pF F.length cF (fA F) (fB F) (fC F) SF hnF HSF U1 hptF
    have HSORT := Lib.hid hsort
    have HK2 := Lib.hid k2; have HK6 := Lib.hid k6; have HG6 := Lib.hid hG
    obtain ⟨kq6, kr6⟩ := cellB k6
    clear hsort hptF k2 k6 hF hG hpe2 hpe3 HSF
    go_wp2_with fail
    refine HSORT.out.mono ?_; rintro e V2 ⟨hX, sF, rfl, hsF⟩
    obtain ⟨pT, cT, rfl, _⟩ := tris_of_row hsF
    have k6 := (hX.block _ (by omega)).trans HK6.out
    have k2 := (hX.block _ (by omega)).trans HK2.out
    have hG := own_below HG6.out hX
    have HB3 := Lib.hid (after HB2.out hX)
    have hs4 := hX.size
    clear hX HK6 HK2 HG6 HB2 HSORT kq6 kr6
    obtain ⟨kq6, kr6⟩ := cellB k6
    have HK6 := Lib.hid k6; have HK2 := Lib.hid k2; have HG6 := Lib.hid hG; have HF6 := Lib.hid hsF
    clear k6 k2 hG hsF
    go_upto_region 25 with (fail)
    first | refine wp_named ?_ | refine calls_named ?_
    intro U2 hU
    have k6 : U2.heap[W1.heap.size]? = some (.cells #[.slice pT SF.length cT, .slice pS SG.length cS, .slice none 0 0, .int .i64 0] 50 (0, 0)) := by rw [hU]; have := set_own (o := 0) HK6.out (.slice pT SF.length cT); simpa using this
    have k2 : U2.heap[w.heap.size]? = some (.cells #[.slice none 0 0, .slice none 0 0, .slice none 0 0, .int .i64 0] 50 (0, 0)) := by rw [hU]; exact (other_block HNE.out).trans HK2.out
    have hF : U2.ownsRow U1.heap.size 45 3 (.slice pT SF.length cT) SF.length (cells3 SF) := by rw [hU]; exact own_setCell HF6.out (by omega)
    have hG : U2.ownsRow wr.heap.size 45 3 (.slice pS SG.length cS) SG.length (cells3 SG) := by rw [hU]; exact own_setCell HG6.out (by omega)
    have HB4 : Hid (Below w.heap.size w U2) := by rw [hU]; exact HB3.out.setCell (by have := HBS.out; exact this) _
    have hs5 : V2.heap.size = U2.heap.size := by rw [hU]; simp
    have hs6 : U1.heap.size ≤ U2.heap.size := by omega
    clear hU hs5 HK6 HK2 HF6 HG6 HB3 kq6 kr6
    obtain ⟨pS', cS', hpe, hptS⟩ := tris_of_row hG
    injection hpe with hpe1 hpe2 hpe3
    subst hpe1
    have hpair := ref9_paired pS SG.length cS (fA SG) (fB SG) (fC SG) SP hnS HSP U2 hptS
    have HPAIR := Lib.hid hpair
    have HK2 := Lib.hid k2; have HK6 := Lib.hid k6; have HG6 := Lib.hid hG; have HF6 := Lib.hid hF
    obtain ⟨kq6, kr6⟩ := cellB k6
    clear hpair hptS k2 k6 hF hG HSP hpe2 hpe3
    go_wp2_with fail
    refine HPAIR.out.mono ?_; rintro e V3 ⟨hX, sP, rfl, hsP⟩
    obtain ⟨pP, cP, rfl, _⟩ := prs_of_row hsP
    have k6 := (hX.block _ (by omega)).trans HK6.out
    have k2 := (hX.block _ (by omega)).trans HK2.out
    have hG := own_below HG6.out hX
    have hF := own_below HF6.out hX
    have HB5 := Lib.hid (after HB4.out hX)
    have hs7 := hX.size
    clear hX HK6 HK2 HG6 HF6 HB4 HPAIR kq6 kr6
    obtain ⟨kq6, kr6⟩ := cellB k6
    have HK6 := Lib.hid k6; have HK2 := Lib.hid k2; have HG6 := Lib.hid hG; have HF6 := Lib.hid hF; have HP6 := Lib.hid hsP
    clear k6 k2 hG hF hsP
    go_upto_region 26 with (fail)
    first | refine wp_named ?_ | refine calls_named ?_
    intro U3 hU
    have k6 : U3.heap[W1.heap.size]? = some (.cells #[.slice pT SF.length cT, .slice pS SG.length cS, .slice pP SP.length cP, .int .i64 0] 50 (0, 0)) := by rw [hU]; have := set_own (o := 2) HK6.out (.slice pP SP.length cP); simpa using this
    have k2 : U3.heap[w.heap.size]? = some (.cells #[.slice none 0 0, .slice none 0 0, .slice none 0 0, .int .i64 0] 50 (0, 0)) := by rw [hU]; exact (other_block HNE.out).trans HK2.out
    have hF : U3.ownsRow U1.heap.size 45 3 (.slice pT SF.length cT) SF.length (cells3 SF) := by rw [hU]; exact own_setCell HF6.out (by omega)
    have hG : U3.ownsRow wr.heap.size 45 3 (.slice pS SG.length cS) SG.length (cells3 SG) := by rw [hU]; exact own_setCell HG6.out (by omega)
    have hP : U3.ownsRow U2.heap.size 85 2 (.slice pP SP.length cP) SP.length (cells2 SP) := by rw [hU]; exact own_setCell HP6.out (by omega)
    have HB6 : Hid (Below w.heap.size w U3) := by rw [hU]; exact HB5.out.setCell (by have := HBS.out; exact this) _
    have hs8 : V3.heap.size = U3.heap.size := by rw [hU]; simp
    clear HK6 HK2 HF6 HG6 HP6 HB5 kq6 kr6 hU
    obtain ⟨kq6, kr6⟩ := cellB k6
    have HK6 := Lib.hid k6; have HK2 := Lib.hid k2; have HG6 := Lib.hid hG; have HF6 := Lib.hid hF; have HP6 := Lib.hid hP
    clear k6 k2 hG hF hP
    go_upto_region 27 with (fail)
    first | refine wp_named ?_ | refine calls_named ?_
    intro U4 hU
    have k6 : U4.heap[W1.heap.size]? = some (.cells #[.slice pT SF.length cT, .slice pS SG.length cS, .slice pP SP.length cP, .int .i64 (2 * (SG.length : Int) - 2)] 50 (0, 0)) := by rw [hU]; have := set_own (o := 3) HK6.out (.int .i64 (2 * (SG.length : Int) - 2)); simpa using this
    have k2 : U4.heap[w.heap.size]? = some (.cells #[.slice none 0 0, .slice none 0 0, .slice none 0 0, .int .i64 0] 50 (0, 0)) := by rw [hU]; exact (other_block HNE.out).trans HK2.out
    have hF : U4.ownsRow U1.heap.size 45 3 (.slice pT SF.length cT) SF.length (cells3 SF) := by rw [hU]; exact own_setCell HF6.out (by omega)
    have hG : U4.ownsRow wr.heap.size 45 3 (.slice pS SG.length cS) SG.length (cells3 SG) := by rw [hU]; exact own_setCell HG6.out (by omega)
    have hP : U4.ownsRow U2.heap.size 85 2 (.slice pP SP.length cP) SP.length (cells2 SP) := by rw [hU]; exact own_setCell HP6.out (by omega)
    have HB7 : Hid (Below w.heap.size w U4) := by rw [hU]; exact HB6.out.setCell (by have := HBS.out; exact this) _
    have hz4 : U3.heap.size = U4.heap.size := by rw [hU]; simp
    clear HK6 HK2 HF6 HG6 HP6 HB6 kq6 kr6 hU
    obtain ⟨kq6, kr6⟩ := cellB k6
    obtain ⟨kq2, kr2⟩ := cellB k2
    have HK2 := Lib.hid k2; have HG6 := Lib.hid hG; have HF6 := Lib.hid hF; have HP6 := Lib.hid hP
    have hw6 : W1.heap.size < U4.heap.size := (Array.getElem?_eq_some_iff.1 k6).1
    have HZ4 := Lib.hid hz4
    clear k6 k2 hG hF hP hz4 hs8
    go_wp2_with fail
    first | refine post_named ?_
    intro U5 hU0
    have hU : U5 = storeAll U4 w.heap.size 0 [.slice pT SF.length cT, .slice pS SG.length cS, .slice pP SP.length cP, .int .i64 (2 * (SG.length : Int) - 2)] := hU0
    have k3 := made (cs := [.slice none 0 0, .slice none 0 0, .slice none 0 0, .int .i64 0]) hU HK2.out rfl
    have hB3 := below hU HB7.out (Nat.le_refl _)
    have hl2' : w.heap.size < wr.heap.size := by omega
    have h1 : U5.ownsRow w.heap.size 45 3 (.slice pT SF.length cT) SF.length (cells3 SF) := by rw [hU]; exact row_mono (own_storeAll HF6.out (by omega)) (by omega)
    have h2 : U5.ownsRow w.heap.size 45 3 (.slice pS SG.length cS) SG.length (cells3 SG) := by rw [hU]; exact row_mono (own_storeAll HG6.out (by omega)) (by omega)
    have h3 : U5.ownsRow w.heap.size 85 2 (.slice pP SP.length cP) SP.length (cells2 SP) := by rw [hU]; exact row_mono (own_storeAll HP6.out (by omega)) (by omega)
    clear hU hU0 kq6 kr6 kq2 kr2 HK2 HG6 HF6 HP6 HB7
    obtain ⟨p, q⟩ := cellB k3
    refine bodyPost_ret (v := .tuple #[.agg #[.slice pT SF.length cT, .slice pS SG.length cS, .slice pP SP.length cP, .int .i64 (2 * (SG.length : Int) - 2)], .int .i64 0]) (by simp [results, Try.results29, go_sem, p]) rfl ⟨hB3, buildP_mk HR2.out h1 h2 h3⟩
  have hon := bA_on hlt HF.out
  obtain ⟨RB, hRB⟩ : ∃ RB, RB = bB X Y Z n a (n - (a + 1)) (a + 1) G F := ⟨_, rfl⟩
  rw [← hRB] at hon
  have HON := Lib.hid hon
  have HFB : Hid (bB X Y Z n a (n - (a + 1)) (a + 1) G F = RB) := hRB.symm
  clear hon hRB HF HRA
  have hab : a < 64 := by omega
  go_wp2_with fail
  go_loopw [9] (fun u wr => ∃ (b : Nat) (G F : List T3), a + 1 ≤ b ∧ b ≤ n ∧ u = .int .i64 b ∧ Hid (bB X Y Z n a (n - b) b G F = RB) ∧ Hid (G.length ≤ 4096 * a + 64 * b ∧ F.length ≤ 4096 * a + 64 * b) ∧ Hid (HullAt wr w.heap.size W1.heap.size (W1.heap.size + 1) G F) ∧ Hid (Below w.heap.size w wr))
    (fun u _ => n - (intOf u).toNat)
  case atStart => exact ⟨a + 1, G, F, Nat.le_refl _, hlt, by go_num, HFB, (by have := HL.out; refine Lib.hid ?_; omega), HUL, HB⟩
  clear HUL HB HFB HL
  obtain ⟨b, G, F, hb1, hb, rfl, HF, HL, HUL, HB⟩ := hrel
  by_cases hlt2 : b < n
  case neg =>
    have hat := bB_end (by omega) HF.out
    subst hat
    clear HF
    go_wp2_with fail
    go_roundw
    case rel => exact ⟨a + 1, G, F, by omega, by go_num, HON, (by have := HL.out; refine Lib.hid ?_; omega), HUL, HB⟩
    case measure => simp [intOf]; omega
  have hon := bB_on hlt2 HF.out
  obtain ⟨RC, hRC⟩ : ∃ RC, RC = bC X Y Z n a b (n - (b + 1)) (b + 1) G F := ⟨_, rfl⟩
  rw [← hRC] at hon
  have HON2 := Lib.hid hon
  have HFC : Hid (bC X Y Z n a b (n - (b + 1)) (b + 1) G F = RC) := hRC.symm
  clear hon hRC HF
  have hbb : b < 64 := by omega
  go_wp2_with fail
  go_loopw [10] (fun u wr => ∃ (c : Nat) (G F : List T3), b + 1 ≤ c ∧ c ≤ n ∧ u = .int .i64 c ∧ Hid (bC X Y Z n a b (n - c) c G F = RC) ∧ Hid (G.length ≤ 4096 * a + 64 * b + c ∧ F.length ≤ 4096 * a + 64 * b + c) ∧ Hid (HullAt wr w.heap.size W1.heap.size (W1.heap.size + 1) G F) ∧ Hid (Below w.heap.size w wr))
    (fun u _ => n - (intOf u).toNat)
  case atStart => exact ⟨b + 1, G, F, Nat.le_refl _, hlt2, by go_num, HFC, (by have := HL.out; refine Lib.hid ?_; omega), HUL, HB⟩
  clear HUL HB HFC HL
  obtain ⟨c, G, F, hc1, hc, rfl, HF, HL, HUL, HB⟩ := hrel
  by_cases hlt3 : c < n
  case neg =>
    have hat := bC_end (by omega) HF.out
    subst hat
    clear HF
    go_wp2_with fail
    go_roundw
    case rel => exact ⟨b + 1, G, F, by omega, by omega, by go_num, HON2, (by have := HL.out; refine Lib.hid ?_; omega), HUL, HB⟩
    case measure => simp [intOf]; omega
  have hcb : c < 64 := by omega
  obtain ⟨s, hs⟩ : ∃ s, s = sdF X Y Z a b c (max (c + 1) 4) := ⟨_, rfl⟩
  have HS := Lib.hid hs
  have hsd := ref9_side pb off n cp X Y Z a b c (max (c + 1) 4) (by omega) (by omega) (by omega) hlt3 (by omega) HCO
  change ∀ w, _ → Calls _ _ _ w fun e w' => e = .returned (.int .i64 (sdF X Y Z a b c (max (c + 1) 4))) ∧ _ at hsd
  rw [← hs] at hsd
  have HSD := Lib.hid hsd
  clear hs hsd
  by_cases hc3 : c < 3
  · have x2 : (c : Int) + 1 < 4 := by omega
    have hsd2 := HSD.out
    rw [show ((max (c + 1) 4 : Nat) : Int) = 4 by omega] at hsd2
    have HSD2 := Lib.hid hsd2
    clear hsd2
    go_wp2_with fail
    refine (HSD2.out _ (Lib.hid (HP.out.mono HB.out HP.out.1))).mono ?_; rintro e W3 ⟨rfl, hX⟩
    have HUL2 := Lib.hid (HUL.out.below hX)
    have HB2 := Lib.hid (after HB.out hX)
    clear hX HUL HB HSD HSD2
    by_cases hs0 : s = 0
    · have HOF := Lib.hid (bC_no hlt3 (by rw [← HS.out]; exact hs0) HF.out)
      subst hs0
      clear HF HS
      go_wp2_with fail
      go_roundw
      case rel => exact ⟨c + 1, G, F, by omega, by omega, by go_num, HOF, (by have := HL.out; refine Lib.hid ?_; omega), HUL2, HB2⟩
      case measure => simp [intOf]; omega
    have hs0b : (s == 0) = false := by simpa using hs0
    have hft := ref9_facet a b c s
    obtain ⟨t0, t1, t2, ht⟩ : ∃ t0 t1 t2, fctT a b c s = (t0, t1, t2) := ⟨_, _, _, rfl⟩
    unfold tri at hft
    change ∀ w, Calls _ _ _ w fun e w' => e = .returned (.agg #[.int .i64 (fctT a b c s).1, .int .i64 (fctT a b c s).2.1, .int .i64 (fctT a b c s).2.2]) ∧ _ at hft
    rw [ht] at hft
    have HFT := Lib.hid hft
    have HT := Lib.hid ht
    have HS0 := Lib.hid hs0
    clear hft ht hs0
    go_wp2_with fail
    refine (HFT.out _).mono ?_; rintro e W4 ⟨rfl, hX⟩
    have HUL4 := Lib.hid (HUL2.out.below hX)
    have HB4 := Lib.hid (after HB2.out hX)
    clear hX HUL2 HB2 HFT
    go_upto_region 20 with (fail)
    first | refine wp_named ?_ | refine calls_named ?_
    intro W5 hW
    have kt : W5.heap[W4.heap.size]? = some (.cells #[.int .i64 t0, .int .i64 t1, .int .i64 t2] 45 (0, 0)) := by rw [hW]; exact heap_at rfl
    have zt : W4.heap.size < W5.heap.size := by rw [hW]; simp
    obtain ⟨vF, vG, k6, k2, hF, hG, hsep, hl2, hl6, hbase, hne⟩ := HUL4.out
    have HFB : Hid (∀ k, vF.ownBlock = some k → k < W4.heap.size) := fun k hk => (hF.lt k hk).2
    have HGB : Hid (∀ k, vG.ownBlock = some k → k < W4.heap.size) := fun k hk => (hG.lt k hk).2
    replace k6 : W5.heap[W1.heap.size]? = some (.cells #[vF, vG, .slice none 0 0, .int .i64 0] 50 (0, 0)) := by rw [hW]; exact (heap_old (by omega)).trans k6
    replace k2 : W5.heap[w.heap.size]? = some (.cells #[.slice none 0 0, .slice none 0 0, .slice none 0 0, .int .i64 0] 50 (0, 0)) := by rw [hW]; exact (heap_old (by omega)).trans k2
    have HF6 : Hid (W5.ownsRow (W1.heap.size + 1) 45 3 vF F.length (cells3 F)) := by rw [hW]; exact hF.alloc _
    have HG6 : Hid (W5.ownsRow (W1.heap.size + 1) 45 3 vG G.length (cells3 G)) := by rw [hW]; exact hG.alloc _
    have HB5 : Hid (Below w.heap.size w W5) := by rw [hW]; exact HB4.out.alloc HB4.out.size _
    have hb5 : W1.heap.size + 1 ≤ W5.heap.size := by omega
    have HSEP := Lib.hid hsep; have HK2 := Lib.hid k2
    obtain ⟨kq6, kr6⟩ := cellB k6
    obtain ⟨kqt, krt⟩ := cellB kt
    have HK6 := Lib.hid k6
    have HKT := Lib.hid kt
    have HNE := Lib.hid hne
    have hlg : G.length < 524288 := by have := HL.out; omega
    have hlf : F.length < 524288 := by have := HL.out; omega
    clear hW HUL4 HB4 k6 k2 hF hG hsep hne kt
    go_upto_if 74 with (first | (at_builtin; refine wp_appT2 rfl (.tmp 63) (.tmp 65) rfl (W1.heap.size + 1) _ G.length G [(t0, t1, t2)] rfl (by rfl) (HG6.out.alloc _) ⟨_, 0, none⟩ 1 1 rfl (by rfl) (new3 _ _ _ _ _) (by omega) (by simp; omega) (by omega) ?_; intro R1 g1 c9 v1 HR1 hrow1 hgr1 hc8 hc9 HAT1; have k61 := app_block HG6.out hgr1.out (by omega) HK6.out; obtain ⟨kq7, kr7⟩ := cellB k61) | fail)
    first | refine wp_named ?_ | refine calls_named ?_
    intro U hU
    obtain ⟨hF1, hs1⟩ := app_keep HF6.out HSEP.out hgr1.out HAT1.out
    have HUL6 : Hid (HullAt U w.heap.size W1.heap.size (W1.heap.size + 1) R1 F) := by
      rw [hU]
      exact hull_setG k61 (app_block HG6.out hgr1.out (by omega) HK2.out) hF1 hrow1.out hs1 hl2 hl6 (by have := hgr1.out.size; simp at this; omega) HNE.out
    have HB6 : Hid (Below w.heap.size w U) := by rw [hU]; exact (app_below HB5.out HG6.out hgr1.out (by have := HBS.out; omega)).setCell (by have := HBS.out; exact this) _
    have kt6 : U.heap[W4.heap.size]? = some (.cells #[.int .i64 t0, .int .i64 t1, .int .i64 t2] 45 (0, 0)) := by
      rw [hU]
      exact (other_block (by simp; omega)).trans (app_free hgr1.out HGB.out HKT.out)
    have zt6 : W4.heap.size < U.heap.size := (Array.getElem?_eq_some_iff.1 kt6).1
    clear hU hF1 hs1 k61 kq7 kr7 hgr1 HAT1 hrow1 HK6 HK2 HF6 HG6 HB5 HSEP kq6 kr6 kqt krt HKT HFB HGB zt
    obtain ⟨s2, hs2⟩ : ∃ s2, s2 = sdF X Y Z a b c n := ⟨_, rfl⟩
    have HS2 := Lib.hid hs2
    have hsn := ref9_side pb off n cp X Y Z a b c n (by omega) (by omega) (by omega) hlt3 (Nat.le_refl _) HCO
    change ∀ w, _ → Calls _ _ _ w fun e w' => e = .returned (.int .i64 (sdF X Y Z a b c n)) ∧ _ at hsn
    rw [← hs2] at hsn
    have HSN := Lib.hid hsn
    clear hs2 hsn
    refine (HSN.out _ (Lib.hid (HP.out.mono HB6.out HP.out.1))).mono ?_; rintro e W7 ⟨rfl, hX⟩
    have HUL7 := Lib.hid (HUL6.out.below hX)
    have HB7 := Lib.hid (after HB6.out hX)
    have kt7 := (hX.block _ zt6).trans kt6
    have zt7 := Nat.lt_of_lt_of_le zt6 hX.size
    clear hX HUL6 HB6 kt6 zt6 HSN
    by_cases hs20 : s2 = 0
    · have hof := bC_ghost hlt3 (by rw [← HS.out]; exact HS0.out) (by rw [← HS2.out]; exact hs20) HF.out
      rw [← HS.out, HT.out, ← HR1.out] at hof
      have HOF := Lib.hid hof
      have HL1 : Hid (R1.length ≤ 4096 * a + 64 * b + (c + 1) ∧ F.length ≤ 4096 * a + 64 * b + (c + 1)) := by have := HL.out; refine Lib.hid ?_; rw [HR1.out]; simp; omega
      subst hs20
      clear HF HS HS2 HT hof HS0 HR1
      go_wp2_with fail
      go_roundw
      case rel => exact ⟨c + 1, R1, F, by omega, by omega, by go_num, HOF, HL1, HUL7, HB7⟩
      case measure => simp [intOf]; omega
    have hs20b : (s2 != 0) = true := by simpa using hs20
    have hof := bC_both hlt3 (by rw [← HS.out]; exact HS0.out) (by rw [← HS2.out]; exact hs20) HF.out
    rw [← HS.out, HT.out, ← HR1.out] at hof
    have HOF := Lib.hid hof
    have HL1 : Hid (R1.length ≤ 4096 * a + 64 * b + (c + 1)) := by have := HL.out; refine Lib.hid ?_; rw [HR1.out]; simp; omega
    clear HF HS HS2 HT hof HS0 HR1 hs20
    obtain ⟨vF7, vG7, k6, k2, hF, hG, hsep, hl2, hl6, hbase, hne⟩ := HUL7.out
    have HF6 := Lib.hid hF; have HG6 := Lib.hid hG
    have HSEP : Hid (∀ k, vG7.ownBlock = some k → vF7.ownBlock ≠ some k) := fun k hk e => hsep k e hk
    have HK2 := Lib.hid k2
    obtain ⟨kq6, kr6⟩ := cellB k6
    obtain ⟨kqt, krt⟩ := cellB kt7
    have HK6 := Lib.hid k6
    clear k6 k2 hF hG hsep hne HUL7 kt7
    go_wp2_with (first | (at_builtin; refine wp_appT2 rfl (.tmp 76) (.tmp 78) rfl (W1.heap.size + 1) _ F.length F [(t0, t1, t2)] rfl (by rfl) (HF6.out.alloc _) ⟨_, 0, none⟩ 1 1 rfl (by rfl) (new3 _ _ _ _ _) (by omega) (by simp; omega) (by omega) ?_; intro R2 g2 c10 v2 HR2 hrow2 hgr2 hc10 hc11 HAT2; have k62 := app_block HF6.out hgr2.out (by omega) HK6.out; obtain ⟨kq8, kr8⟩ := cellB k62) | fail)
    obtain ⟨hG1, hs1⟩ := app_keep HG6.out HSEP.out hgr2.out HAT2.out
    obtain ⟨U2, hU2⟩ : ∃ U2, U2 = v2.setCell ⟨W1.heap.size, 0, none⟩ (.slice (some ⟨g2, 0, none⟩) R2.length c10) := ⟨_, rfl⟩
    have HUL8 : Hid (HullAt U2 w.heap.size W1.heap.size (W1.heap.size + 1) R1 R2) := by
      rw [hU2]
      exact hull_setF k62 (app_block HF6.out hgr2.out (by omega) HK2.out) hG1 hrow2.out hs1 hl2 hl6 (by have := hgr2.out.size; simp at this; omega) HNE.out
    have HB8 : Hid (Below w.heap.size w U2) := by rw [hU2]; exact (app_below HB7.out HF6.out hgr2.out (by have := HBS.out; omega)).setCell (by have := HBS.out; exact this) _
    rw [← hU2]
    have HL2 : Hid (R1.length ≤ 4096 * a + 64 * b + (c + 1) ∧ R2.length ≤ 4096 * a + 64 * b + (c + 1)) := by have := HL.out; refine Lib.hid ⟨HL1.out, ?_⟩; rw [HR2.out]; simp; omega
    have hof2 := HOF.out
    rw [← HR2.out] at hof2
    have HOF2 := Lib.hid hof2
    clear hof2 hU2 hG1 hs1 k62 kq8 kr8 hgr2 HAT2 hrow2 HK6 HK2 HF6 HG6 HB7 HSEP kq6 kr6 kqt krt HOF HR2
    go_roundw
    case rel => exact ⟨c + 1, R1, R2, by omega, by omega, by go_num, HOF2, HL2, HUL8, HB8⟩
    case measure => simp [intOf]; omega
  have x2 : (4 : Int) ≤ (c : Int) + 1 := by omega
  have hsd2 := HSD.out
  rw [show ((max (c + 1) 4 : Nat) : Int) = (c : Int) + 1 by omega] at hsd2
  have HSD2 := Lib.hid hsd2
  clear hsd2
  go_wp2_with fail
  refine (HSD2.out _ (Lib.hid (HP.out.mono HB.out HP.out.1))).mono ?_; rintro e W3 ⟨rfl, hX⟩
  have HUL2 := Lib.hid (HUL.out.below hX)
  have HB2 := Lib.hid (after HB.out hX)
  clear hX HUL HB HSD HSD2
  by_cases hs0 : s = 0
  · have HOF := Lib.hid (bC_no hlt3 (by rw [← HS.out]; exact hs0) HF.out)
    subst hs0
    clear HF HS
    go_wp2_with fail
    go_roundw
    case rel => exact ⟨c + 1, G, F, by omega, by omega, by go_num, HOF, (by have := HL.out; refine Lib.hid ?_; omega), HUL2, HB2⟩
    case measure => simp [intOf]; omega
  have hs0b : (s == 0) = false := by simpa using hs0
  have hft := ref9_facet a b c s
  obtain ⟨t0, t1, t2, ht⟩ : ∃ t0 t1 t2, fctT a b c s = (t0, t1, t2) := ⟨_, _, _, rfl⟩
  unfold tri at hft
  change ∀ w, Calls _ _ _ w fun e w' => e = .returned (.agg #[.int .i64 (fctT a b c s).1, .int .i64 (fctT a b c s).2.1, .int .i64 (fctT a b c s).2.2]) ∧ _ at hft
  rw [ht] at hft
  have HFT := Lib.hid hft
  have HT := Lib.hid ht
  have HS0 := Lib.hid hs0
  clear hft ht hs0
  go_wp2_with fail
  refine (HFT.out _).mono ?_; rintro e W4 ⟨rfl, hX⟩
  have HUL4 := Lib.hid (HUL2.out.below hX)
  have HB4 := Lib.hid (after HB2.out hX)
  clear hX HUL2 HB2 HFT
  go_upto_region 20 with (fail)
  first | refine wp_named ?_ | refine calls_named ?_
  intro W5 hW
  have kt : W5.heap[W4.heap.size]? = some (.cells #[.int .i64 t0, .int .i64 t1, .int .i64 t2] 45 (0, 0)) := by rw [hW]; exact heap_at rfl
  have zt : W4.heap.size < W5.heap.size := by rw [hW]; simp
  obtain ⟨vF, vG, k6, k2, hF, hG, hsep, hl2, hl6, hbase, hne⟩ := HUL4.out
  have HFB : Hid (∀ k, vF.ownBlock = some k → k < W4.heap.size) := fun k hk => (hF.lt k hk).2
  have HGB : Hid (∀ k, vG.ownBlock = some k → k < W4.heap.size) := fun k hk => (hG.lt k hk).2
  replace k6 : W5.heap[W1.heap.size]? = some (.cells #[vF, vG, .slice none 0 0, .int .i64 0] 50 (0, 0)) := by rw [hW]; exact (heap_old (by omega)).trans k6
  replace k2 : W5.heap[w.heap.size]? = some (.cells #[.slice none 0 0, .slice none 0 0, .slice none 0 0, .int .i64 0] 50 (0, 0)) := by rw [hW]; exact (heap_old (by omega)).trans k2
  have HF6 : Hid (W5.ownsRow (W1.heap.size + 1) 45 3 vF F.length (cells3 F)) := by rw [hW]; exact hF.alloc _
  have HG6 : Hid (W5.ownsRow (W1.heap.size + 1) 45 3 vG G.length (cells3 G)) := by rw [hW]; exact hG.alloc _
  have HB5 : Hid (Below w.heap.size w W5) := by rw [hW]; exact HB4.out.alloc HB4.out.size _
  have hb5 : W1.heap.size + 1 ≤ W5.heap.size := by omega
  have HSEP := Lib.hid hsep; have HK2 := Lib.hid k2
  obtain ⟨kq6, kr6⟩ := cellB k6
  obtain ⟨kqt, krt⟩ := cellB kt
  have HK6 := Lib.hid k6
  have HKT := Lib.hid kt
  have HNE := Lib.hid hne
  have hlg : G.length < 524288 := by have := HL.out; omega
  have hlf : F.length < 524288 := by have := HL.out; omega
  clear hW HUL4 HB4 k6 k2 hF hG hsep hne kt
  go_upto_if 74 with (first | (at_builtin; refine wp_appT2 rfl (.tmp 63) (.tmp 65) rfl (W1.heap.size + 1) _ G.length G [(t0, t1, t2)] rfl (by rfl) (HG6.out.alloc _) ⟨_, 0, none⟩ 1 1 rfl (by rfl) (new3 _ _ _ _ _) (by omega) (by simp; omega) (by omega) ?_; intro R1 g1 c9 v1 HR1 hrow1 hgr1 hc8 hc9 HAT1; have k61 := app_block HG6.out hgr1.out (by omega) HK6.out; obtain ⟨kq7, kr7⟩ := cellB k61) | fail)
  first | refine wp_named ?_ | refine calls_named ?_
  intro U hU
  obtain ⟨hF1, hs1⟩ := app_keep HF6.out HSEP.out hgr1.out HAT1.out
  have HUL6 : Hid (HullAt U w.heap.size W1.heap.size (W1.heap.size + 1) R1 F) := by
    rw [hU]
    exact hull_setG k61 (app_block HG6.out hgr1.out (by omega) HK2.out) hF1 hrow1.out hs1 hl2 hl6 (by have := hgr1.out.size; simp at this; omega) HNE.out
  have HB6 : Hid (Below w.heap.size w U) := by rw [hU]; exact (app_below HB5.out HG6.out hgr1.out (by have := HBS.out; omega)).setCell (by have := HBS.out; exact this) _
  have kt6 : U.heap[W4.heap.size]? = some (.cells #[.int .i64 t0, .int .i64 t1, .int .i64 t2] 45 (0, 0)) := by
    rw [hU]
    exact (other_block (by simp; omega)).trans (app_free hgr1.out HGB.out HKT.out)
  have zt6 : W4.heap.size < U.heap.size := (Array.getElem?_eq_some_iff.1 kt6).1
  clear hU hF1 hs1 k61 kq7 kr7 hgr1 HAT1 hrow1 HK6 HK2 HF6 HG6 HB5 HSEP kq6 kr6 kqt krt HKT HFB HGB zt
  obtain ⟨s2, hs2⟩ : ∃ s2, s2 = sdF X Y Z a b c n := ⟨_, rfl⟩
  have HS2 := Lib.hid hs2
  have hsn := ref9_side pb off n cp X Y Z a b c n (by omega) (by omega) (by omega) hlt3 (Nat.le_refl _) HCO
  change ∀ w, _ → Calls _ _ _ w fun e w' => e = .returned (.int .i64 (sdF X Y Z a b c n)) ∧ _ at hsn
  rw [← hs2] at hsn
  have HSN := Lib.hid hsn
  clear hs2 hsn
  refine (HSN.out _ (Lib.hid (HP.out.mono HB6.out HP.out.1))).mono ?_; rintro e W7 ⟨rfl, hX⟩
  have HUL7 := Lib.hid (HUL6.out.below hX)
  have HB7 := Lib.hid (after HB6.out hX)
  have kt7 := (hX.block _ zt6).trans kt6
  have zt7 := Nat.lt_of_lt_of_le zt6 hX.size
  clear hX HUL6 HB6 kt6 zt6 HSN
  by_cases hs20 : s2 = 0
  · have hof := bC_ghost hlt3 (by rw [← HS.out]; exact HS0.out) (by rw [← HS2.out]; exact hs20) HF.out
    rw [← HS.out, HT.out, ← HR1.out] at hof
    have HOF := Lib.hid hof
    have HL1 : Hid (R1.length ≤ 4096 * a + 64 * b + (c + 1) ∧ F.length ≤ 4096 * a + 64 * b + (c + 1)) := by have := HL.out; refine Lib.hid ?_; rw [HR1.out]; simp; omega
    subst hs20
    clear HF HS HS2 HT hof HS0 HR1
    go_wp2_with fail
    go_roundw
    case rel => exact ⟨c + 1, R1, F, by omega, by omega, by go_num, HOF, HL1, HUL7, HB7⟩
    case measure => simp [intOf]; omega
  have hs20b : (s2 != 0) = true := by simpa using hs20
  have hof := bC_both hlt3 (by rw [← HS.out]; exact HS0.out) (by rw [← HS2.out]; exact hs20) HF.out
  rw [← HS.out, HT.out, ← HR1.out] at hof
  have HOF := Lib.hid hof
  have HL1 : Hid (R1.length ≤ 4096 * a + 64 * b + (c + 1)) := by have := HL.out; refine Lib.hid ?_; rw [HR1.out]; simp; omega
  clear HF HS HS2 HT hof HS0 HR1 hs20
  obtain ⟨vF7, vG7, k6, k2, hF, hG, hsep, hl2, hl6, hbase, hne⟩ := HUL7.out
  have HF6 := Lib.hid hF; have HG6 := Lib.hid hG
  have HSEP : Hid (∀ k, vG7.ownBlock = some k → vF7.ownBlock ≠ some k) := fun k hk e => hsep k e hk
  have HK2 := Lib.hid k2
  obtain ⟨kq6, kr6⟩ := cellB k6
  obtain ⟨kqt, krt⟩ := cellB kt7
  have HK6 := Lib.hid k6
  clear k6 k2 hF hG hsep hne HUL7 kt7
  go_wp2_with (first | (at_builtin; refine wp_appT2 rfl (.tmp 76) (.tmp 78) rfl (W1.heap.size + 1) _ F.length F [(t0, t1, t2)] rfl (by rfl) (HF6.out.alloc _) ⟨_, 0, none⟩ 1 1 rfl (by rfl) (new3 _ _ _ _ _) (by omega) (by simp; omega) (by omega) ?_; intro R2 g2 c10 v2 HR2 hrow2 hgr2 hc10 hc11 HAT2; have k62 := app_block HF6.out hgr2.out (by omega) HK6.out; obtain ⟨kq8, kr8⟩ := cellB k62) | fail)
  obtain ⟨hG1, hs1⟩ := app_keep HG6.out HSEP.out hgr2.out HAT2.out
  obtain ⟨U2, hU2⟩ : ∃ U2, U2 = v2.setCell ⟨W1.heap.size, 0, none⟩ (.slice (some ⟨g2, 0, none⟩) R2.length c10) := ⟨_, rfl⟩
  have HUL8 : Hid (HullAt U2 w.heap.size W1.heap.size (W1.heap.size + 1) R1 R2) := by
    rw [hU2]
    exact hull_setF k62 (app_block HF6.out hgr2.out (by omega) HK2.out) hG1 hrow2.out hs1 hl2 hl6 (by have := hgr2.out.size; simp at this; omega) HNE.out
  have HB8 : Hid (Below w.heap.size w U2) := by rw [hU2]; exact (app_below HB7.out HF6.out hgr2.out (by have := HBS.out; omega)).setCell (by have := HBS.out; exact this) _
  rw [← hU2]
  have HL2 : Hid (R1.length ≤ 4096 * a + 64 * b + (c + 1) ∧ R2.length ≤ 4096 * a + 64 * b + (c + 1)) := by have := HL.out; refine Lib.hid ⟨HL1.out, ?_⟩; rw [HR2.out]; simp; omega
  have hof2 := HOF.out
  rw [← HR2.out] at hof2
  have HOF2 := Lib.hid hof2
  clear hof2 hU2 hG1 hs1 k62 kq8 kr8 hgr2 HAT2 hrow2 HK6 HK2 HF6 HG6 HB7 HSEP kq6 kr6 kqt krt HOF HR2
  go_roundw
  case rel => exact ⟨c + 1, R1, R2, by omega, by omega, by go_num, HOF2, HL2, HUL8, HB8⟩
  case measure => simp [intOf]; omega
end Go.Proofs.Ytdglijdiiggdgaa
