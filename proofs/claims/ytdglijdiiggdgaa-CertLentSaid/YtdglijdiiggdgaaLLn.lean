import Derived.Test.YtdglijdiiggdgaaLLf
namespace Go.Proofs.Ytdglijdiiggdgaa
open Go.RowKit Go.Maps Geo
set_option maxRecDepth 100000 in
set_option maxHeartbeats 16000000 in
theorem law21_lentN (pl : Option Addr) (n cp : Nat) (X Y Z A B C : Nat → Int) (v : Int) (hv : Hid (Wf v)) (hn : n ≤ 40) (w : World) (hp : Hid (PtsO w pl n X Y Z)) :
    Calls Try.prog 6 #[.slice pl n cp, .slice none 0 0, .int .i64 v] w fun e w' => e = .returned (.bool true) ∧ Below w.heap.size w w' := by
  have hn' : ¬ (40 : Int) < n := by omega
  have hwf : Hid (∀ k, k < 0 → Wf (A k) ∧ Wf (B k) ∧ Wf (C k)) := fun k hk => absurd hk (Nat.not_lt_zero k)
  obtain ⟨i0, hi0, hiz0, hiz1, hiz2⟩ := info_parts infoTri
  have HI := Lib.hid hi0; have HZ0 := Lib.hid hiz0; have HZ1 := Lib.hid hiz1; have HZ2 := Lib.hid hiz2
  clear hi0 hiz0 hiz1 hiz2
  go_enter Try.func6, Try.ntmps6
  go_wp2_with (first
    | (at_builtin; refine wpList_append_own _ rfl (.tmp 35) (.tmp 37) 23 rfl w.heap.size 45 i0 (.agg #[.int .i64 0, .int .i64 0, .int .i64 0]) 3 24 uTris0 HI.out HZ0.out HZ1.out HZ2.out rfl (by decide) _ 0 [] (by rfl) ((World.ownsRow_made _ _ 0 (Nat.le_refl _) (Nat.zero_le _) rfl).alloc _) ⟨_, 0, none⟩ 1 1 [.int .i64 77, .int .i64 77, .int .i64 77] (by show Value.slice (some ⟨w.heap.size + 1, 0, none⟩) 1 1 = _; simp) (by rfl) (row3_new _ _ _ _ _) (ints3 _ _ _) (by decide) (by decide) (by simp; omega) ?_; intro v2 x2 hb1 hb2 hb3; rcases hb1.2 with ⟨_, h9⟩ | ⟨go, capo, curo, rfl, hg1, hg2, hg3, hg4, hg5, hg6⟩; (· exact absurd h9 (by omega)))
    | fail)
  have hO : RowAt x2 w.heap.size (some ⟨go, 0, none⟩) (listT 0 A B C ++ [(77, 77, 77)]) := by
    refine .inr ⟨go, curo, rfl, hg1, hg2, ?_⟩
    rw [← cells3_app, List.length_append, listT_len, show cells3 [(77, 77, 77)] = [.int .i64 77, .int .i64 77, .int .i64 77] from rfl]
    simpa [listT, cells3] using hg6
  have hB0 : Below w.heap.size w x2 := by
    have h1 : Below w.heap.size w (w.alloc (.cells #[] 45 (0, 0))) := (Below.refl _ _).alloc (Nat.le_refl _) _
    exact (h1.alloc h1.size _).grown hb2 (by simp; omega) (fun k hk => by simp [Value.ownBlock] at hk; omega)
  have hq : ∀ W' : World, RowAt W' w.heap.size (some ⟨go, 0, none⟩) (listT 0 A B C ++ [(77, 77, 77)]) → PtsO W' (some ⟨go, 0, none⟩) 0 A B C := by
    intro W' h
    obtain ⟨g, off, e, h2⟩ := h.pts.at (k := 0) (by simp)
    injection e with e
    injection e with e1 e2
    subst e1 e2
    exact .inr ⟨go, 0, rfl, pts_listT h2 (by simp [listT_len])⟩
  have HQ := Lib.hid hq
  have HO := Lib.hid hO
  have HB0 := Lib.hid hB0
  have gz : go < x2.heap.size := (Array.getElem?_eq_some_iff.1 hg2).1
  have GZ := Lib.hid gz
  have mc2 : 0 + 1 ≤ capo := by omega
  clear hb1 hb2 hb3 hg2 hg3 hg5 hg6 hO hB0 hq gz
  obtain ⟨R, code, hR⟩ : ∃ R code, aptR n 0 X Y Z A B C v = (R, code) := ⟨_, _, rfl⟩
  have hlen : R.length ≤ 0 := by have := @aptR_len n 0 X Y Z A B C v; rw [hR] at this; exact this
  have HR := Lib.hid hR
  obtain ⟨xs, c, hxs⟩ : ∃ xs c, outR (refR (pairsF v A B C 0 0 [])) = (xs, c) := ⟨_, _, rfl⟩
  have hlen2 : xs.length ≤ 0 := by have := @out_len v A B C 0; rw [hxs] at this; exact this
  have HXS := Lib.hid hxs
  have HRL := Lib.hid hlen
  have HXL := Lib.hid hlen2
  clear hR hxs hlen hlen2
  refine (cert_apart pl (some ⟨go, 0, none⟩) n cp 0 capo X Y Z A B C v (by omega) R code HR x2 (hp.out.below HB0.out) (HQ.out _ HO.out)).mono ?_; rintro e W1 ⟨hX, pa, capa, rfl, hRA⟩
  have HA := Lib.hid hRA
  have NA := Lib.hid hRA.blk; have SA := Lib.hid (row_spot hRA)
  replace HO := Lib.hid (HO.out.below hX)
  have HB := Lib.hid (after HB0.out hX)
  have S1 := Lib.hid hX.size
  clear hX hRA HB0
  go_wp2_with fail
  refine (cert_apart pl (some ⟨go, 0, none⟩) n cp 0 capo X Y Z A B C v (by omega) R code HR W1 (hp.out.below HB.out) (HQ.out _ HO.out)).mono ?_; rintro e W2 ⟨hX, pb, capb, rfl, hRA⟩
  have HBb := Lib.hid hRA
  have NB := Lib.hid hRA.blk
  replace HO := Lib.hid (HO.out.below hX)
  replace HA := Lib.hid (HA.out.below hX)
  replace HB := Lib.hid (after HB.out hX)
  have S2 := Lib.hid hX.size
  clear hX hRA
  go_wp2_with fail
  refine (around_own (some ⟨go, 0, none⟩) 0 capo v A B C xs c HXS (by omega) hv hwf W2 (HQ.out _ HO.out)).mono ?_; rintro e W3 ⟨pp, capp, rfl, hRI, hX⟩
  have HP := Lib.hid hRI
  have NP := Lib.hid hRI.blk; have SP := Lib.hid (rowI_spot hRI)
  replace HO := Lib.hid (HO.out.below hX)
  replace HA := Lib.hid (HA.out.below hX)
  replace HBb := Lib.hid (HBb.out.below hX)
  replace HB := Lib.hid (after HB.out hX)
  have S3 := Lib.hid hX.size
  clear hX hRI
  go_wp2_with fail
  refine (around_own (some ⟨go, 0, none⟩) 0 capo v A B C xs c HXS (by omega) hv hwf W3 (HQ.out _ HO.out)).mono ?_; rintro e W4 ⟨pq, capq, rfl, hRI, hX⟩
  have HQQ := Lib.hid hRI
  have NQ := Lib.hid hRI.blk
  replace HO := Lib.hid (HO.out.below hX)
  replace HA := Lib.hid (HA.out.below hX)
  replace HBb := Lib.hid (HBb.out.below hX)
  replace HP := Lib.hid (HP.out.below hX)
  replace HB := Lib.hid (after HB.out hX)
  have S4 := Lib.hid hX.size
  clear hX hRI
  go_wp2_with fail
  go_loopw [16] (fun u wr => ∃ i : Nat, i ≤ R.length ∧ u = .int .i64 i ∧ Hid (Besides (blkOf pa W4.heap.size) W4 wr) ∧ Hid (Below w.heap.size w wr))
    (fun u _ => R.length - (intOf u).toNat)
  case atStart => exact ⟨0, Nat.zero_le _, rfl, Besides.refl _ _, HB⟩
  clear HB
  obtain ⟨i, hi, rfl, HBS, HB⟩ := hrel
  by_cases hlt : i < R.length
  case pos => exact absurd hlt (by have := HRL.out; omega)
  obtain ⟨W5, rfl⟩ : ∃ S, S = wr := ⟨_, rfl⟩
  have hz5 := HBS.out.size
  have s1 := S1.out; have s2 := S2.out; have s3 := S3.out; have s4 := S4.out; have gz := GZ.out
  have hO5 := HO.out.besides (fun g e => by injection e with e; injection e with e1 e2; exact blk_ne NA.out SA.out ⟨.inl (by omega), by omega⟩) HBS.out
  have hb5 := HBb.out.besides (fun g e => blk_ne NA.out SA.out ⟨.inr (NB.out g e).1, by have := (NB.out g e).2; omega⟩) HBS.out
  have hp5 := HP.out.besides (fun g e => blk_ne NA.out SA.out ⟨.inr (by have := (NP.out g e).1; omega), by have := (NP.out g e).2; omega⟩) HBS.out
  have hq5 := HQQ.out.besides (fun g e => blk_ne NA.out SA.out ⟨.inr (by have := (NQ.out g e).1; omega), by have := (NQ.out g e).2; omega⟩) HBS.out
  replace HO := Lib.hid hO5
  replace HBb := Lib.hid hb5
  replace HP := Lib.hid hp5
  replace HQQ := Lib.hid hq5
  have HZ5 := Lib.hid hz5
  clear hO5 hb5 hp5 hq5 HBS HA NA SA hz5 s1 s2 s3 s4 gz
  go_wp2_with fail
  clear hlt hi
  go_loopw [17] (fun u wr => ∃ i : Nat, i ≤ xs.length ∧ u = .int .i64 i ∧ Hid (Besides (blkOf pp W5.heap.size) W5 wr) ∧ Hid (Below w.heap.size w wr))
    (fun u _ => xs.length - (intOf u).toNat)
  case atStart => exact ⟨0, Nat.zero_le _, rfl, Besides.refl _ _, HB⟩
  clear HB
  obtain ⟨i, hi, rfl, HBS, HB⟩ := hrel
  by_cases hlt : i < xs.length
  case pos => exact absurd hlt (by have := HXL.out; omega)
  obtain ⟨W6, rfl⟩ : ∃ S, S = wr := ⟨_, rfl⟩
  have hz6 := HBS.out.size
  have s1 := S1.out; have s2 := S2.out; have s3 := S3.out; have s4 := S4.out; have gz := GZ.out; have hz5 := HZ5.out
  have hO5 := HO.out.besides (fun g e => by injection e with e; injection e with e1 e2; exact blk_ne NP.out SP.out ⟨.inl (by omega), by omega⟩) HBS.out
  have hb5 := HBb.out.besides (fun g e => blk_ne NP.out SP.out ⟨.inl (by have := (NB.out g e).2; omega), by have := (NB.out g e).2; omega⟩) HBS.out
  have hq5 := HQQ.out.besides (fun g e => blk_ne NP.out SP.out ⟨.inr (by have := (NQ.out g e).1; omega), by have := (NQ.out g e).2; omega⟩) HBS.out
  replace HO := Lib.hid hO5
  replace HBb := Lib.hid hb5
  replace HQQ := Lib.hid hq5
  clear hO5 hb5 hq5 HBS HP NP SP hz6 hz5 HZ5 NB NQ s1 s2 s3 s4 gz GZ S1 S2 S3 S4
  go_wp2_with fail
  clear hlt hi
  have htO : ∀ W', Below w.heap.size w W' → PtsO W' none 0 A B C := fun W' _ => .inl ⟨rfl, rfl⟩
  have HTO := Lib.hid htO
  clear htO
  refine (ref21_apart pl none n cp 0 0 X Y Z A B C v (by omega) R code HR W6 (hp.out.below HB.out) (HTO.out _ HB.out)).mono ?_; rintro e W7 ⟨hX, px, capx, rfl, hRX⟩
  have HX := Lib.hid hRX
  replace HO := Lib.hid (HO.out.below hX)
  replace HBb := Lib.hid (HBb.out.below hX)
  replace HQQ := Lib.hid (HQQ.out.below hX)
  replace HB := Lib.hid (after HB.out hX)
  clear hX hRX
  go_wp2_with fail
  refine (ref21_told none 0 0 v A B C (by omega) W7 (HTO.out _ HB.out)).mono ?_; rintro e W8 ⟨py, capy, xs', c', hr', rfl, hI, _, hX⟩
  rw [HXS.out] at hr'
  injection hr' with r1 r2
  subst r1 r2
  have HY := Lib.hid hI
  replace HO := Lib.hid (HO.out.below hX)
  replace HBb := Lib.hid (HBb.out.below hX)
  replace HQQ := Lib.hid (HQQ.out.below hX)
  replace HX := Lib.hid (HX.out.below hX)
  replace HB := Lib.hid (after HB.out hX)
  clear hX hI
  go_wp2_with fail
  refine (ref6_check pl n cp X Y Z W8 (hp.out.below HB.out)).mono ?_; rintro e W9 ⟨rfl, hX⟩
  replace HO := Lib.hid (HO.out.below hX)
  replace HBb := Lib.hid (HBb.out.below hX)
  replace HQQ := Lib.hid (HQQ.out.below hX)
  replace HX := Lib.hid (HX.out.below hX)
  replace HY := Lib.hid (HY.out.below hX)
  replace HB := Lib.hid (after HB.out hX)
  clear hX
  obtain ⟨k1, hk1⟩ : ∃ k1, k1 = (chk n X Y Z).1 := ⟨_, rfl⟩
  have hcode : k1 = 0 ∨ k1 ≠ 0 ∧ code = k1 := by
    by_cases h : k1 = 0
    · exact .inl h
    · refine .inr ⟨h, ?_⟩
      have := @aptR_code n 0 X Y Z A B C v (by rw [← hk1]; exact h)
      rw [HR.out] at this
      rw [hk1]; exact this
  rw [← hk1]
  have h77 : ∃ cur : Array Value, True := ⟨#[], trivial⟩
  clear hk1 h77
  obtain ⟨g77, o77, e77, hq77⟩ := HO.out.pts.at (k := 0) (by simp [listT_len])
  injection e77 with e77
  injection e77 with e771 e772
  subst e771 e772
  obtain ⟨y0, y1, y2⟩ := hq77.2 0 (by simp [listT_len])
  have gW := hq77.1
  unfold fA at y0; unfold fB at y1; unfold fC at y2
  rw [listT_last] at y0 y1 y2
  rw [Nat.zero_add] at y0 y1 y2
  have EQ7 := eq3 77 77 77 77 77 77
  rw [show ((77 : Int) == 77 && ((77 : Int) == 77 && (77 : Int) == 77)) = true from rfl] at EQ7
  clear hq77
  have hfin : Hid (∀ W, Below W9.heap.size W9 W → PtsO W (some ⟨go, 0, none⟩) 0 A B C) := by
    intro W hX
    exact HQ.out W (HO.out.below hX)
  have hRL := HRL.out; have hXL := HXL.out
  have HL1 := Lib.hid (show R.length < 4611686018427387904 by omega)
  have HL2 := Lib.hid (show xs.length < 4611686018427387904 by omega)
  clear hRL hXL
  have HPO := Lib.hid (hfin.out W9 (Below.refl _ _))
  have HPT := Lib.hid (HTO.out W9 HB.out)
  clear hfin HTO HQ HO hp HR HXS HI HZ0 HZ1 HZ2 hv hwf HRL HXL
  rcases hcode with hc0 | ⟨hne, hc0⟩
  · subst hc0
    go_wp2_with fail
    refine (ref5_sameTris (some ⟨go, 0, none⟩) none 0 0 capo 0 A B C A B C (by omega) W9 HPO HPT).mono ?_; rintro e U1 ⟨rfl, hX⟩
    rw [same_true]
    replace HBb := Lib.hid (HBb.out.below hX); replace HQQ := Lib.hid (HQQ.out.below hX); replace HX := Lib.hid (HX.out.below hX); replace HY := Lib.hid (HY.out.below hX); replace HB := Lib.hid (after HB.out hX)
    clear hX EQ7 y0 y1 y2 gW HPO HPT
    go_wp2_with fail
    refine (ref5_sameTris pb px R.length R.length capb capx (fA R) (fB R) (fC R) (fA R) (fB R) (fC R) HL1.out U1 (Lib.hid HBb.out.pts) (Lib.hid HX.out.pts)).mono ?_; rintro e U2 ⟨rfl, hX⟩
    rw [same_true]
    replace HQQ := Lib.hid (HQQ.out.below hX); replace HY := Lib.hid (HY.out.below hX); replace HB := Lib.hid (after HB.out hX)
    clear hX HBb HX
    go_wp2_with fail
    refine (ref3_same pq py capq capy xs xs _ _ rfl rfl HL2.out HL2.out U2 (Lib.hid HQQ.out.ints) HY).mono ?_; rintro e U3 ⟨rfl, hX⟩
    rw [show decide (xs = xs) = true by simp]
    replace HB := Lib.hid (after HB.out hX)
    clear hX HQQ HY
    go_wp2_with fail
    refine (ref9_same0 _).mono ?_; rintro e U4 ⟨rfl, hX⟩
    replace HB := Lib.hid (after HB.out hX)
    clear hX
    go_wp2_with fail
    refine (law21_awake _).mono ?_; rintro e U5 ⟨rfl, hX⟩
    replace HB := Lib.hid (after HB.out hX)
    clear hX
    go_wp2_with fail
    go_returns
    exact ⟨by simp, HB.out⟩
  · subst hc0
    have hn1 : (code != 0) = true := by simpa using hne
    have hn2 : (code == 0) = false := by simpa using hne
    clear hne
    go_wp2_with fail
    clear hn1 hn2
    refine (ref5_sameTris (some ⟨go, 0, none⟩) none 0 0 capo 0 A B C A B C (by omega) W9 HPO HPT).mono ?_; rintro e U1 ⟨rfl, hX⟩
    rw [same_true]
    replace HBb := Lib.hid (HBb.out.below hX); replace HQQ := Lib.hid (HQQ.out.below hX); replace HX := Lib.hid (HX.out.below hX); replace HY := Lib.hid (HY.out.below hX); replace HB := Lib.hid (after HB.out hX)
    clear hX EQ7 y0 y1 y2 gW HPO HPT
    go_wp2_with fail
    refine (ref5_sameTris pb px R.length R.length capb capx (fA R) (fB R) (fC R) (fA R) (fB R) (fC R) HL1.out U1 (Lib.hid HBb.out.pts) (Lib.hid HX.out.pts)).mono ?_; rintro e U2 ⟨rfl, hX⟩
    rw [same_true]
    replace HQQ := Lib.hid (HQQ.out.below hX); replace HY := Lib.hid (HY.out.below hX); replace HB := Lib.hid (after HB.out hX)
    clear hX HBb HX
    go_wp2_with fail
    refine (ref3_same pq py capq capy xs xs _ _ rfl rfl HL2.out HL2.out U2 (Lib.hid HQQ.out.ints) HY).mono ?_; rintro e U3 ⟨rfl, hX⟩
    rw [show decide (xs = xs) = true by simp]
    replace HB := Lib.hid (after HB.out hX)
    clear hX HQQ HY
    go_wp2_with fail
    refine (ref9_same0 _).mono ?_; rintro e U4 ⟨rfl, hX⟩
    replace HB := Lib.hid (after HB.out hX)
    clear hX
    go_wp2_with fail
    refine (law21_awake _).mono ?_; rintro e U5 ⟨rfl, hX⟩
    replace HB := Lib.hid (after HB.out hX)
    clear hX
    go_wp2_with fail
    go_returns
    exact ⟨by simp, HB.out⟩
end Go.Proofs.Ytdglijdiiggdgaa
