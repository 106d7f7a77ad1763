import Derived.Test.YtdglijdiiggdgaaApt
import Derived.Deep.RegionWith
import Derived.Deep.CutRange
namespace Go.Proofs.Ytdglijdiiggdgaa
open Go.RowKit Go.Maps Geo
theorem heap_at_drew {w : World} {o : Obj} {k : Nat} (h : k = w.heap.size) : (w.alloc o).drew.heap[k]? = some o := heap_at h
set_option maxRecDepth 100000 in
set_option maxHeartbeats 8000000 in
theorem ref21_apart (pl pt : Option Addr) (n cp m cp2 : Nat) (X Y Z A B C : Nat → Int) (v : Int) (hm : m < 1048576) (R : List T3) (code : Int) (HR : Hid (aptR n m X Y Z A B C v = (R, code))) (w : World) (hp : Hid (PtsO w pl n X Y Z)) (ht : Hid (PtsO w pt m A B C)) :
    Calls Try.prog 14 #[.slice pl n cp, .slice pt m cp2, .int .i64 v] w fun e w' => Below w.heap.size w w' ∧ ∃ p cap, e = .returned (.tuple #[.slice p R.length cap, .int .i64 code]) ∧ RowAt w' w.heap.size p R := by
  obtain ⟨i0, hi0, hiz0, hiz1, hiz2⟩ := info_parts infoTri
  have HI := Lib.hid hi0; have HZ0 := Lib.hid hiz0; have HZ1 := Lib.hid hiz1; have HZ2 := Lib.hid hiz2
  clear hi0 hiz0 hiz1 hiz2
  go_enter Try.func14, Try.ntmps14
  go_wp2_with fail
  refine (ref6_check pl n cp X Y Z w hp).mono ?_; rintro e W ⟨rfl, hB⟩
  obtain ⟨c1, hc1⟩ : ∃ c1, c1 = (chk n X Y Z).1 := ⟨_, rfl⟩
  obtain ⟨c2, hc2⟩ : ∃ c2, c2 = (chk n X Y Z).2 := ⟨_, rfl⟩
  rw [← hc1, ← hc2]
  have HC1 := Lib.hid hc1
  clear hc1 hc2
  by_cases h0 : c1 = 0
  case neg =>
    have hr := HR.out
    unfold aptR at hr
    rw [if_pos (by rw [← HC1.out]; exact h0), ← HC1.out] at hr
    injection hr with r1 r2
    subst r1 r2
    clear HR HC1
    go_wp2
    go_returns
    exact ⟨hB, none, 0, rfl, .inl ⟨rfl, rfl⟩⟩
  have hall := chk_all (X := X) (Y := Y) (Z := Z) (n := n) (by rw [← HC1.out]; exact h0)
  have HALL := Lib.hid hall
  have hr := HR.out
  unfold aptR at hr
  rw [if_neg (by rw [← HC1.out]; simpa using h0)] at hr
  clear HR HC1 hall
  subst h0
  by_cases hv : v < 0
  case pos =>
    rw [if_pos (.inl hv)] at hr
    injection hr with r1 r2
    subst r1 r2
    go_wp2
    go_returns
    exact ⟨hB, none, 0, rfl, .inl ⟨rfl, rfl⟩⟩
  by_cases hv2 : (n : Int) ≤ v
  case pos =>
    rw [if_pos (.inr hv2)] at hr
    injection hr with r1 r2
    subst r1 r2
    have hv3 : ¬ v < (n : Int) := by omega
    go_wp2
    go_returns
    exact ⟨hB, none, 0, rfl, .inl ⟨rfl, rfl⟩⟩
  rw [if_neg (by omega)] at hr
  have hv3 : v < (n : Int) := by omega
  have HR := Lib.hid hr
  clear hr
  obtain ⟨ra, hra⟩ : ∃ ra, ra = allF n A B C m 0 := ⟨_, rfl⟩
  obtain ⟨Rs, hRs⟩ : ∃ Rs, Rs = selL A B C v X Y Z m 0 := ⟨_, rfl⟩
  have HF0 : Hid (allF n A B C (m - 0) 0 = ra) := hra.symm
  have HS0 : Hid ([] ++ selL A B C v X Y Z (m - 0) 0 = Rs) := hRs.symm
  rw [← hra, ← hRs] at HR
  clear hra hRs
  go_wp2_with fail
  go_loopw [10, 11] (fun vv u wr => ∃ (k : Nat) (out : List T3), k ≤ m ∧ u = .int .i64 k ∧ Hid (allF n A B C (m - k) k = ra) ∧ Hid (out ++ selL A B C v X Y Z (m - k) k = Rs) ∧ Hid (out.length ≤ k) ∧ Hid (wr.ownsRow w.heap.size 45 3 vv out.length (cells3 out)) ∧ Hid (Below w.heap.size w wr))
    (fun _ u _ => m - (intOf u).toNat)
  case atStart => exact ⟨0, [], Nat.zero_le _, rfl, HF0, HS0, Nat.le_refl _, World.ownsRow_nil _ _ _ _, hB⟩
  clear hB HF0 HS0
  obtain ⟨k, out, hk, rfl, HA, HF, HL0, hrow, HB⟩ := hrel
  by_cases hlt : k < m
  case neg =>
    have hat := all_end (by omega) HA.out
    subst hat
    have hat := sel_end (by omega) HF.out
    subst hat
    have hr := HR.out
    rw [if_neg (by decide)] at hr
    injection hr with r1 r2
    subst r1 r2
    obtain ⟨p, cap, rfl, hRA, hn1, hn2, hn3⟩ := row_of_own hrow.out
    have HRA := Lib.hid hRA
    clear HR HA HF hRA hrow hn1
    go_wp2_with fail
    go_returns
    exact ⟨HB.out, p, _, rfl, HRA.out⟩
  have HL : Hid (out.length < 1048576) := by have := HL0.out; refine Lib.hid ?_; omega
  obtain ⟨q, off2, rfl, hq0⟩ := ht.out.at hlt
  have HT := Lib.hid hq0
  have htr := hq0.mono HB.out hq0.1
  obtain ⟨g1, g2, g3⟩ := htr.2 k hlt
  have hqr := htr.1
  clear htr hq0
  obtain ⟨a, ha⟩ : ∃ a, a = A k := ⟨_, rfl⟩
  obtain ⟨b1, hb1⟩ : ∃ b1, b1 = B k := ⟨_, rfl⟩
  obtain ⟨c, hc1⟩ : ∃ c, c = C k := ⟨_, rfl⟩
  rw [← ha] at g1; rw [← hb1] at g2; rw [← hc1] at g3
  have EA := Lib.hid ha; have EB := Lib.hid hb1; have EC := Lib.hid hc1
  clear ha hb1 hc1
  obtain ⟨S1, rfl⟩ : ∃ S, S = wr := ⟨_, rfl⟩
  go_wp2_with fail
  go_cut [52] from 34 to 52 (fun u wx => u = .bool (plc n a b1 c != 0) ∧ Hid (Below S1.heap.size S1 wx))
  case first =>
    go_region_with (go_at_call 25; refine (ref2_places pl n cp S1.heap.size 3 a b1 c _ (Lib.hid (heap_at_drew rfl))).mono ?_; rintro e W1 ⟨rfl, hX⟩)
    all_goals (go_wp2_with fail; go_meet; exact ⟨rfl, Lib.hid (after ((Below.alloc (Below.refl _ _) (Nat.le_refl _) _).drew) hX)⟩)
  obtain ⟨rfl, HX1⟩ := hcut
  obtain ⟨W1, rfl⟩ : ∃ W1, W1 = wc := ⟨_, rfl⟩
  have hX1 := HX1.out
  clear HX1 g1 g2 g3 hqr
  cases hpl : plcB n a b1 c with
  | false =>
    have hno := all_no hlt (by rw [← EA.out, ← EB.out, ← EC.out]; exact hpl) HA.out
    have hr := HR.out
    rw [if_pos hno] at hr
    injection hr with r1 r2
    subst r1 r2
    have hp1 : plc n a b1 c = 21 := plc_no hpl
    rw [hp1]
    have HB2 := Lib.hid (after HB.out hX1)
    clear HR HA HF hno hpl hp1
    go_wp2_with fail
    go_returns
    exact ⟨HB2.out, none, 0, rfl, .inl ⟨rfl, rfl⟩⟩
  | true =>
    have hon := Lib.hid (all_on hlt (by rw [← EA.out, ← EB.out, ← EC.out]; exact hpl) HA.out)
    have hp0 : plc n a b1 c = 0 := if_pos hpl
    rw [hp0]
    have HPK := Lib.hid hpl
    obtain ⟨g1, g2, g3⟩ := (HT.out.mono (after HB.out hX1) HT.out.1).2 k hlt
    rw [← EA.out] at g1; rw [← EB.out] at g2; rw [← EC.out] at g3
    have hqr : q < W1.heap.size := (HT.out.mono (after HB.out hX1) HT.out.1).1
    clear hp0 hpl HA
    cases hown : ownB a b1 c v with
    | true =>
      have hno := Lib.hid (sel_no hlt (by rw [← EA.out, ← EB.out, ← EC.out, hown]; simp) HF.out)
      have hrow1 := Lib.hid (own_below hrow.out hX1)
      have HB1 := Lib.hid (after HB.out hX1)
      have h3 : v = a ∨ v = b1 ∨ v = c := by unfold ownB at hown; simpa [or_assoc] using hown
      clear hown HF hX1 hrow HB
      by_cases e1 : v = a
      · have x1 : (v != a) = false := by simp [e1]
        clear h3 e1
        go_wp2_with fail
        go_roundw
        case rel => first | exact ⟨k + 1, out, by omega, by go_num, hon, hno, (by have := HL0.out; refine Lib.hid ?_; omega), hrow1, HB1⟩ | ((repeat apply Exists.intro); exact ⟨⟨k + 1, out, by omega, by go_num, hon, hno, (by have := HL0.out; refine Lib.hid ?_; omega), hrow1, HB1⟩, rfl⟩)
        case measure => simp [intOf]; omega
      have x1 : (v != a) = true := by simpa using e1
      by_cases e2 : v = b1
      · have x2 : (v != b1) = false := by simp [e2]
        clear h3 e1 e2
        go_wp2_with fail
        go_roundw
        case rel => first | exact ⟨k + 1, out, by omega, by go_num, hon, hno, (by have := HL0.out; refine Lib.hid ?_; omega), hrow1, HB1⟩ | ((repeat apply Exists.intro); exact ⟨⟨k + 1, out, by omega, by go_num, hon, hno, (by have := HL0.out; refine Lib.hid ?_; omega), hrow1, HB1⟩, rfl⟩)
        case measure => simp [intOf]; omega
      have x2 : (v != b1) = true := by simpa using e2
      have x3 : (v != c) = false := by
        have : v = c := by omega
        simp [this]
      clear h3 e1 e2
      go_wp2_with fail
      go_roundw
      case rel => first | exact ⟨k + 1, out, by omega, by go_num, hon, hno, (by have := HL0.out; refine Lib.hid ?_; omega), hrow1, HB1⟩ | ((repeat apply Exists.intro); exact ⟨⟨k + 1, out, by omega, by go_num, hon, hno, (by have := HL0.out; refine Lib.hid ?_; omega), hrow1, HB1⟩, rfl⟩)
      case measure => simp [intOf]; omega
    | false =>
      obtain ⟨o1, o2, o3⟩ := ownB_facts hown
      have x1 : (v != a) = true := by simpa using o1
      have x2 : (v != b1) = true := by simpa using o2
      have x3 : (v != c) = true := by simpa using o3
      have hpw := hp.out.below (after HB.out hX1)
      clear o1 o2 o3
      go_wp2_with fail
      refine (ref2_sees pl n cp X Y Z a b1 c v (by have := HALL.out.1; omega) HALL.out.2 HPK.out (by omega) hv3 W1 hpw).mono ?_; rintro e W2 ⟨rfl, hX⟩
      have hX2 : Below S1.heap.size S1 W2 := after hX1 hX
      replace g1 : W2.cell? _ = _ := (hX.cell (p := ⟨q, _, none⟩) hqr).trans g1
      replace g2 : W2.cell? _ = _ := (hX.cell (p := ⟨q, _, none⟩) hqr).trans g2
      replace g3 : W2.cell? _ = _ := (hX.cell (p := ⟨q, _, none⟩) hqr).trans g3
      replace hqr := Nat.lt_of_lt_of_le hqr hX.size
      clear hX hX1 hpw x1 x2 x3
      by_cases hs : sgI X Y Z a b1 c v = -1
      · have hyes := sel_yes hlt (by rw [← EA.out, ← EB.out, ← EC.out]; exact ⟨hown, hs⟩) HF.out
        rw [← EA.out, ← EB.out, ← EC.out] at hyes
        have HY := Lib.hid hyes
        have hsd : decide (sgI X Y Z a b1 c v = -1) = true := by simpa using hs
        rw [hsd]
        replace hrow := Lib.hid (own_below hrow.out hX2)
        have HB1 := Lib.hid (after HB.out hX2)
        have hBs := HB1.out
        clear hyes hs hsd HF hown HB
        go_wp2_with (first | (at_builtin; refine wpList_append_own _ rfl (.tmp 87) (.tmp 92) 23 rfl w.heap.size 45 i0 (.agg #[.int .i64 0, .int .i64 0, .int .i64 0]) 3 24 uTris0 HI.out HZ0.out HZ1.out HZ2.out rfl (by decide) _ out.length (cells3 out) (by rfl) (hrow.out.alloc _) ⟨_, 0, none⟩ 1 1 [.int .i64 a, .int .i64 b1, .int .i64 c] (by rfl) (by rfl) (row3_new _ _ _ _ _) (ints3 _ _ _) (by unfold maxLen; have := HL.out; omega) (by have := HL.out; omega) (by have := hBs.size; simp; omega) ?_; intro v9 x9 hq1 hq2 hq3) | fail)
        have hrow3 : Hid (x9.ownsRow w.heap.size 45 3 v9 (out ++ [(a, b1, c)]).length (cells3 (out ++ [(a, b1, c)]))) := by
          rw [cells3_snoc] at hq1; refine Lib.hid ?_; simpa using hq1
        have HB3 : Hid (Below w.heap.size w x9) := (HB1.out.alloc HB1.out.size _).grown hq2 (by have := HB1.out.size; simp; omega) (fun k hk => (hrow.out.lt k hk).1)
        clear hq1 hq2 hq3 g1 g2 g3 hX2 HB1 hBs hrow
        go_wp2_with fail
        go_roundw
        case rel => first | exact ⟨k + 1, out ++ [(a, b1, c)], by omega, by go_num, hon, HY, (by have := HL0.out; refine Lib.hid ?_; simp; omega), hrow3, HB3⟩ | ((repeat apply Exists.intro); exact ⟨⟨k + 1, out ++ [(a, b1, c)], by omega, by go_num, hon, HY, (by have := HL0.out; refine Lib.hid ?_; simp; omega), hrow3, HB3⟩, rfl⟩)
        case measure => simp [intOf]; omega
      · have hno := Lib.hid (sel_no hlt (by rw [← EA.out, ← EB.out, ← EC.out]; exact fun h => hs h.2) HF.out)
        have hsd : decide (sgI X Y Z a b1 c v = -1) = false := by simpa using hs
        rw [hsd]
        have hrow1 := Lib.hid (own_below hrow.out hX2)
        have HB1 := Lib.hid (after HB.out hX2)
        clear hown HF hX2 hrow HB hs hsd
        go_wp2_with fail
        go_roundw
        case rel => first | exact ⟨k + 1, out, by omega, by go_num, hon, hno, (by have := HL0.out; refine Lib.hid ?_; omega), hrow1, HB1⟩ | ((repeat apply Exists.intro); exact ⟨⟨k + 1, out, by omega, by go_num, hon, hno, (by have := HL0.out; refine Lib.hid ?_; omega), hrow1, HB1⟩, rfl⟩)
        case measure => simp [intOf]; omega
end Go.Proofs.Ytdglijdiiggdgaa
