import Derived.Test.YtdglijdiiggdgaaSgP
import Derived.Test.YtdglijdiiggdgaaFour
namespace Go.Proofs.Ytdglijdiiggdgaa
open Go.RowKit Go.Maps Geo
theorem bub_step4 {r p : Nat} {s z : St4} (hr : r < 4) (hp : p < 3) (h : bub (12 - 3 * r - p) (3 * r + p) s = z) : bub (12 - 3 * r - (p + 1)) (3 * r + (p + 1)) (swp (3 * r + p) s) = z := by
  rw [show 12 - 3 * r - p = (12 - 3 * r - (p + 1)) + 1 by omega, bub] at h
  exact h
theorem bub_next4 {r : Nat} {s z : St4} (h : bub (12 - 3 * r - 3) (3 * r + 3) s = z) : bub (12 - 3 * (r + 1) - 0) (3 * (r + 1) + 0) s = z := by
  rw [show 12 - 3 * (r + 1) - 0 = 12 - 3 * r - 3 by omega, show 3 * (r + 1) + 0 = 3 * r + 3 by omega]; exact h
theorem good84 : good 84 12 = true := by decide
theorem smV_84 (p q r t : Pt) : smV p q r t 84 = 1 := dm_last p q r t
theorem sign_cases3 (n : Int) : n.sign = 0 ∨ n.sign = 1 ∨ n.sign = -1 := by
  rcases sign_cases n with h | h | h <;> simp [h.2]
theorem firstG_step {s : Nat → Int} {ok : Nat → Bool} {k : Nat} {z : Int} (hk : k < 85) (h : firstG s ok (85 - k) k = z) : z = if ok k = true ∧ s k ≠ 0 then s k else firstG s ok (85 - (k + 1)) (k + 1) := by
  rw [show 85 - k = (85 - (k + 1)) + 1 by omega, firstG] at h
  exact h.symm
set_option maxRecDepth 100000 in
set_option maxHeartbeats 16000000 in
theorem ref2_sign0 (pb off n cp : Nat) (X Y Z : Nat → Int) (i j k m : Nat) (_hn : n < 4611686018427387904) (za zb zc zd : Nat) (zt sg : Int) (hz : Hid (bub (12 - 3 * 0 - 0) (3 * 0 + 0) ⟨i, j, k, m, 1⟩ = ⟨za, zb, zc, zd, zt⟩)) (hzt : Hid (zt = 1 ∨ zt = -1)) (ha : za < n) (hb : zb < n) (hc : zc < n) (hd : zd < n)
    (hsg : Hid (sg4 (ptOf X Y Z za) (ptOf X Y Z zb) (ptOf X Y Z zc) (ptOf X Y Z zd) = sg)) (hco : Hid (∀ i, i < n → Co (X i) ∧ Co (Y i) ∧ Co (Z i))) (w : World) (hp : Hid (PtsAt w pb off n X Y Z)) :
    Calls Try.prog 45 #[.slice (some ⟨pb, off, none⟩) n cp, .int .i64 i, .int .i64 j, .int .i64 k, .int .i64 m] w fun e w' => e = .returned (.int .i64 (zt * sg)) ∧ Below w.heap.size w w' := by
  go_enter Try.func45, Try.ntmps45
  go_wp2_with fail
  first | refine wp_named ?_ | refine calls_named ?_
  intro W hW
  have k0 : W.heap[w.heap.size]? = some (.cells #[.int .i64 i, .int .i64 j, .int .i64 k, .int .i64 m] 3 (0, 0)) := by rw [hW]; exact heap_at rfl
  have hB : Below w.heap.size w W := by rw [hW]; go_grown
  have z0 : w.heap.size < W.heap.size := by rw [hW]; simp
  clear hW
  go_loopw [12, 13] (fun u v wr => ∃ r : Nat, r ≤ 4 ∧ v = .int .i64 r ∧ ∃ (a b1 c d : Nat) (tt : Int), u = .int .i64 tt ∧ Hid (bub (12 - 3 * r - 0) (3 * r + 0) ⟨a, b1, c, d, tt⟩ = ⟨za, zb, zc, zd, zt⟩) ∧ Hid (tt = 1 ∨ tt = -1) ∧ Hid (wr.heap[w.heap.size]? = some (.cells #[.int .i64 a, .int .i64 b1, .int .i64 c, .int .i64 d] 3 (0, 0))) ∧ Hid (Below w.heap.size w wr) ∧ Hid (w.heap.size < wr.heap.size))
    (fun _ v _ => 4 - (intOf v).toNat)
  case atStart => exact ⟨0, by decide, rfl, i, j, k, m, 1, rfl, hz, .inl rfl, k0, hB, z0⟩
  case round =>
    clear k0 hB z0 hz
    obtain ⟨r, hr, rfl, a, b1, c, d, tt, rfl, HB0, HT', K0, HB, Z0⟩ := hrel
    by_cases hlt : r < 4
    case pos =>
      have hlt' : (r : Int) < 4 := by omega
      go_wp2_with fail
      obtain ⟨S0, rfl⟩ : ∃ S, S = wr := ⟨_, rfl⟩
      go_loopw [12, 14] (fun u v wr => ∃ p : Nat, p ≤ 3 ∧ v = .int .i64 p ∧ ∃ (a b1 c d : Nat) (tt : Int), u = .int .i64 tt ∧ Hid (bub (12 - 3 * r - p) (3 * r + p) ⟨a, b1, c, d, tt⟩ = ⟨za, zb, zc, zd, zt⟩) ∧ Hid (tt = 1 ∨ tt = -1) ∧ wr.heap[w.heap.size]? = some (.cells #[.int .i64 a, .int .i64 b1, .int .i64 c, .int .i64 d] 3 (0, 0)) ∧ Below w.heap.size w wr ∧ w.heap.size < wr.heap.size)
        (fun _ v _ => 3 - (intOf v).toNat)
      case atStart => exact ⟨0, by decide, rfl, a, b1, c, d, tt, rfl, HB0, HT', K0.out, HB.out, Z0.out⟩
      case round =>
        clear K0 HB Z0 HB0 HT'
        obtain ⟨p, hp3, rfl, a, b1, c, d, tt, rfl, HB, HT', k0, hB, z0⟩ := hrel
        obtain ⟨kq, kr⟩ := cellB k0
        have y1 : IntKind.i64.wrap 1 = 1 := by decide
        have y2 : IntKind.i64.wrap 2 = 2 := by decide
        have y3 : IntKind.i64.wrap 3 = 3 := by decide
        have hp4 : p = 0 ∨ p = 1 ∨ p = 2 ∨ p = 3 := by omega
        rcases hp4 with rfl | rfl | rfl | rfl
        · go_wp2_with fail
          refine wp_calm0 10 (by kernel_rfl) (by kernel_rfl) ?_
          intro K hK
          repeat (refine wpCalm_step (fun M hM => ?_); go_simp; first | (refine hM _ ?_; clear hM M) | (apply Exists.intro; refine ⟨fun wc hw => ?_, hM _ ?_⟩; (obtain ⟨hc, hf⟩ := bcell (hK wc hw); go_simp; first | exact rfl); clear hM M))
          refine wpCalm_nil ?_
          clear hK K kq kr
          intro WX hX
          replace k0 := (hX.block _ z0).trans k0
          replace z0 := Nat.lt_of_lt_of_le z0 hX.size
          replace hB := after hB hX
          clear hX
          simp only [List.drop_succ_cons, List.drop_zero]
          obtain ⟨kq, kr⟩ := cellB k0
          by_cases hsw : b1 < a
          · have t1 : -1 ≤ tt := by have := HT'.out; omega
            have t2 : tt ≤ 1 := by have := HT'.out; omega
            go_wp2_with fail
            go_region
            all_goals clear kq kr
            all_goals go_wp2
            all_goals go_roundw
            all_goals first | (simp [intOf]; done) | exact ⟨0 + 1, by decide, by go_num, b1, a, c, d, _, rfl, (by have := bub_step4 hlt (by decide) HB.out; rw [swp_y0 hsw] at this; exact this), (by have := HT'.out; show _ ∨ _; omega), set_own (set_own k0 _) _, by go_grown, by simpa using z0⟩ | ((repeat apply Exists.intro); exact ⟨⟨0 + 1, by decide, by go_num, b1, a, c, d, _, rfl, (by have := bub_step4 hlt (by decide) HB.out; rw [swp_y0 hsw] at this; exact this), (by have := HT'.out; show _ ∨ _; omega), set_own (set_own k0 _) _, by go_grown, by simpa using z0⟩, rfl⟩)
          · go_wp2
            go_roundw
            case rel => first | exact ⟨0 + 1, by decide, by go_num, a, b1, c, d, tt, rfl, (by have := bub_step4 hlt (by decide) HB.out; rw [swp_n0 hsw] at this; exact this), HT', k0, hB, z0⟩ | ((repeat apply Exists.intro); exact ⟨⟨0 + 1, by decide, by go_num, a, b1, c, d, tt, rfl, (by have := bub_step4 hlt (by decide) HB.out; rw [swp_n0 hsw] at this; exact this), HT', k0, hB, z0⟩, rfl⟩)
            case measure => simp [intOf]
        · go_wp2_with fail
          refine wp_calm0 10 (by kernel_rfl) (by kernel_rfl) ?_
          intro K hK
          repeat (refine wpCalm_step (fun M hM => ?_); go_simp; first | (refine hM _ ?_; clear hM M) | (apply Exists.intro; refine ⟨fun wc hw => ?_, hM _ ?_⟩; (obtain ⟨hc, hf⟩ := bcell (hK wc hw); go_simp; first | exact rfl); clear hM M))
          refine wpCalm_nil ?_
          clear hK K kq kr
          intro WX hX
          replace k0 := (hX.block _ z0).trans k0
          replace z0 := Nat.lt_of_lt_of_le z0 hX.size
          replace hB := after hB hX
          clear hX
          simp only [List.drop_succ_cons, List.drop_zero]
          obtain ⟨kq, kr⟩ := cellB k0
          by_cases hsw : c < b1
          · have t1 : -1 ≤ tt := by have := HT'.out; omega
            have t2 : tt ≤ 1 := by have := HT'.out; omega
            go_wp2_with fail
            go_region
            all_goals clear kq kr
            all_goals go_wp2
            all_goals go_roundw
            all_goals first | (simp [intOf]; done) | exact ⟨1 + 1, by decide, by go_num, a, c, b1, d, _, rfl, (by have := bub_step4 hlt (by decide) HB.out; rw [swp_y1 hsw] at this; exact this), (by have := HT'.out; show _ ∨ _; omega), set_own (set_own k0 _) _, by go_grown, by simpa using z0⟩ | ((repeat apply Exists.intro); exact ⟨⟨1 + 1, by decide, by go_num, a, c, b1, d, _, rfl, (by have := bub_step4 hlt (by decide) HB.out; rw [swp_y1 hsw] at this; exact this), (by have := HT'.out; show _ ∨ _; omega), set_own (set_own k0 _) _, by go_grown, by simpa using z0⟩, rfl⟩)
          · go_wp2
            go_roundw
            case rel => first | exact ⟨1 + 1, by decide, by go_num, a, b1, c, d, tt, rfl, (by have := bub_step4 hlt (by decide) HB.out; rw [swp_n1 hsw] at this; exact this), HT', k0, hB, z0⟩ | ((repeat apply Exists.intro); exact ⟨⟨1 + 1, by decide, by go_num, a, b1, c, d, tt, rfl, (by have := bub_step4 hlt (by decide) HB.out; rw [swp_n1 hsw] at this; exact this), HT', k0, hB, z0⟩, rfl⟩)
            case measure => simp [intOf]
        · go_wp2_with fail
          refine wp_calm0 10 (by kernel_rfl) (by kernel_rfl) ?_
          intro K hK
          repeat (refine wpCalm_step (fun M hM => ?_); go_simp; first | (refine hM _ ?_; clear hM M) | (apply Exists.intro; refine ⟨fun wc hw => ?_, hM _ ?_⟩; (obtain ⟨hc, hf⟩ := bcell (hK wc hw); go_simp; first | exact rfl); clear hM M))
          refine wpCalm_nil ?_
          clear hK K kq kr
          intro WX hX
          replace k0 := (hX.block _ z0).trans k0
          replace z0 := Nat.lt_of_lt_of_le z0 hX.size
          replace hB := after hB hX
          clear hX
          simp only [List.drop_succ_cons, List.drop_zero]
          obtain ⟨kq, kr⟩ := cellB k0
          by_cases hsw : d < c
          · have t1 : -1 ≤ tt := by have := HT'.out; omega
            have t2 : tt ≤ 1 := by have := HT'.out; omega
            go_wp2_with fail
            go_region
            all_goals clear kq kr
            all_goals go_wp2
            all_goals go_roundw
            all_goals first | (simp [intOf]; done) | exact ⟨2 + 1, by decide, by go_num, a, b1, d, c, _, rfl, (by have := bub_step4 hlt (by decide) HB.out; rw [swp_y2 hsw] at this; exact this), (by have := HT'.out; show _ ∨ _; omega), set_own (set_own k0 _) _, by go_grown, by simpa using z0⟩ | ((repeat apply Exists.intro); exact ⟨⟨2 + 1, by decide, by go_num, a, b1, d, c, _, rfl, (by have := bub_step4 hlt (by decide) HB.out; rw [swp_y2 hsw] at this; exact this), (by have := HT'.out; show _ ∨ _; omega), set_own (set_own k0 _) _, by go_grown, by simpa using z0⟩, rfl⟩)
          · go_wp2
            go_roundw
            case rel => first | exact ⟨2 + 1, by decide, by go_num, a, b1, c, d, tt, rfl, (by have := bub_step4 hlt (by decide) HB.out; rw [swp_n2 hsw] at this; exact this), HT', k0, hB, z0⟩ | ((repeat apply Exists.intro); exact ⟨⟨2 + 1, by decide, by go_num, a, b1, c, d, tt, rfl, (by have := bub_step4 hlt (by decide) HB.out; rw [swp_n2 hsw] at this; exact this), HT', k0, hB, z0⟩, rfl⟩)
            case measure => simp [intOf]
        clear kq kr y1 y2 y3
        go_wp2_with fail
        go_roundw
        case rel => first | exact ⟨r + 1, by omega, by go_num, a, b1, c, d, tt, rfl, bub_next4 HB.out, HT', k0, hB, z0⟩ | ((repeat apply Exists.intro); exact ⟨⟨r + 1, by omega, by go_num, a, b1, c, d, tt, rfl, bub_next4 HB.out, HT', k0, hB, z0⟩, rfl⟩)
        case measure => simp [intOf]; omega
    have hr4 : r = 4 := by omega
    subst hr4
    have e := HB0.out
    have e2 : (⟨a, b1, c, d, tt⟩ : St4) = ⟨za, zb, zc, zd, zt⟩ := by
      rw [show 12 - 3 * 4 - 0 = 0 by decide, bub_end] at e; exact e
    injection e2 with e1 e2 e3 e4 e5
    subst e1 e2 e3 e4 e5
    clear e hlt hr HB0
    have hpw : Hid (PtsAt wr pb off n X Y Z) := hp.out.mono HB.out hp.out.1
    obtain ⟨ga1, ga2, ga3⟩ := hpw.out.2 a ha
    obtain ⟨gb1, gb2, gb3⟩ := hpw.out.2 b1 hb
    obtain ⟨gc1, gc2, gc3⟩ := hpw.out.2 c hc
    obtain ⟨gd1, gd2, gd3⟩ := hpw.out.2 d hd
    have gw := hpw.out.1
    have z0 := Z0.out
    obtain ⟨kq, kr⟩ := cellB K0.out
    have HR0 := Lib.hid (ref2_row (X a) (Y a) (Z a))
    have HR1 := Lib.hid (ref2_row (X b1) (Y b1) (Z b1))
    have HR2 := Lib.hid (ref2_row (X c) (Y c) (Z c))
    have HR3 := Lib.hid (ref2_row (X d) (Y d) (Z d))
    go_wp2_with fail
    refine wp_calm0 28 (by kernel_rfl) (by kernel_rfl) ?_
    intro K hK
    repeat (refine wpCalm_step (fun M hM => ?_); go_simp; first | (refine hM _ ?_; clear hM M) | (apply Exists.intro; refine ⟨fun wc hw => ?_, hM _ ?_⟩; (obtain ⟨hc, hf⟩ := bcell (hK wc hw); go_simp; first | with_reducible exact HR0.out wc | with_reducible exact HR1.out wc | with_reducible exact HR2.out wc | with_reducible exact HR3.out wc | exact rfl); clear hM M))
    refine wpCalm_nil ?_
    clear hK K kq kr ga1 ga2 ga3 gb1 gb2 gb3 gc1 gc2 gc3 gd1 gd2 gd3 HR0 HR1 HR2 HR3
    intro V hX
    simp only [List.drop_succ_cons, List.drop_zero]
    have hBV := after HB.out hX
    clear hX hpw K0 HB Z0 z0 gw
    go_wp2_with fail
    first | refine wp_named ?_ | refine calls_named ?_
    intro V1 hV
    have kb : V1.heap[V.heap.size]? = some (.cells (raw16 (l4 (X a) (X b1) (X c) (X d)) (l4 (Y a) (Y b1) (Y c) (Y d)) (l4 (Z a) (Z b1) (Z c) (Z d))) 92 (0, 0)) := by rw [hV]; exact heap_at rfl
    have hB1 : Below w.heap.size w V1 := by rw [hV]; have := hBV.size; go_grown
    clear hV
    have hc4 : Hid (∀ s, s < 4 → Co (l4 (X a) (X b1) (X c) (X d) s) ∧ Co (l4 (Y a) (Y b1) (Y c) (Y d) s) ∧ Co (l4 (Z a) (Z b1) (Z c) (Z d) s)) := by
      intro s hs
      match s, hs with
      | 0, _ => exact hco.out _ ha
      | 1, _ => exact hco.out _ hb
      | 2, _ => exact hco.out _ hc
      | 3, _ => exact hco.out _ hd
    obtain ⟨sm, hsm⟩ : ∃ sm, sm = smV (ptOf X Y Z a) (ptOf X Y Z b1) (ptOf X Y Z c) (ptOf X Y Z d) := ⟨_, rfl⟩
    have HSM := Lib.hid hsm
    have hf0 : firstG sm (fun m => good m 12) (85 - 0) 0 = sg := by rw [hsm, ← hsg.out]; exact first_sg4 _ _ _ _
    have HF0 := Lib.hid hf0
    clear hf0 hsm hsg ha hb hc hd hco hp
    go_loopw [16] (fun u wx => ∃ mk : Nat, mk ≤ 84 ∧ u = .int .i64 mk ∧ Hid (firstG sm (fun m => good m 12) (85 - mk) mk = sg) ∧ Hid (wx.heap[V.heap.size]? = some (.cells (raw16 (l4 (X a) (X b1) (X c) (X d)) (l4 (Y a) (Y b1) (Y c) (Y d)) (l4 (Z a) (Z b1) (Z c) (Z d))) 92 (0, 0))) ∧ Hid (Below w.heap.size w wx))
      (fun u _ => 85 - (intOf u).toNat)
    case atStart => exact ⟨0, by decide, rfl, HF0, kb, hB1⟩
    clear kb hB1 HF0 hBV
    obtain ⟨mk, hmk, rfl, HF, HK, HB⟩ := hrel
    have h84 : mk = 84 → good mk 12 = true ∧ sm mk = 1 := by intro e; rw [e]; exact ⟨good84, by rw [HSM.out]; exact smV_84 _ _ _ _⟩
    have H84 := Lib.hid h84
    clear h84
    go_wp2_with fail
    refine (ref2_changed _ _ _ mk (by omega) V.heap.size 4 _ HK).mono ?_; rintro e W1 ⟨hX, hE⟩
    have hlb : V.heap.size < wr.heap.size := (Array.getElem?_eq_some_iff.1 HK.out).1
    have hk1 : Hid (W1.heap[V.heap.size]? = some (.cells (raw16 (l4 (X a) (X b1) (X c) (X d)) (l4 (Y a) (Y b1) (Y c) (Y d)) (l4 (Z a) (Z b1) (Z c) (Z d))) 92 (0, 0))) := (hX.block _ hlb).trans HK.out
    have hB1 : Hid (Below w.heap.size w W1) := after HB.out hX
    have HZ := Lib.hid hlb
    have HXS := Lib.hid hX
    clear HK HB hlb hX
    rcases hE with ⟨hg, rfl⟩ | ⟨hg, ob, hob, hkb, rfl⟩
    · have hm84 : mk ≠ 84 := fun e => by have := (H84.out e).1; rw [hg] at this; cases this
      have hf := firstG_step (by omega) HF.out
      rw [if_neg (by simp [hg])] at hf
      have HF2 := Lib.hid hf.symm
      clear hf HF hg
      go_wp2_with fail
      go_roundw
      case rel => first | exact ⟨mk + 1, by omega, by go_num, HF2, hk1, hB1⟩ | ((repeat apply Exists.intro); exact ⟨⟨mk + 1, by omega, by go_num, HF2, hk1, hB1⟩, rfl⟩)
      case measure => simp [intOf]; omega
    have HKB := Lib.hid hkb
    have HG := Lib.hid hg
    clear hkb hg
    go_wp2_with fail
    refine (ref2_four _ _ _ mk ob 4 hc4 _ HKB).mono ?_; rintro e W2 ⟨rfl, hX⟩
    have hB2 : Hid (Below w.heap.size w W2) := after hB1.out hX
    have hk2 : Hid (W2.heap[V.heap.size]? = some (.cells (raw16 (l4 (X a) (X b1) (X c) (X d)) (l4 (Y a) (Y b1) (Y c) (Y d)) (l4 (Z a) (Z b1) (Z c) (Z d))) 92 (0, 0))) := (hX.block _ (Nat.lt_of_lt_of_le HZ.out HXS.out.size)).trans hk1.out
    clear hX hB1 hk1 HKB HZ HXS
    go_wp2_with fail
    refine (ref1_sign _ (parS_128 _ _ _ mk hc4.out) _).mono ?_; rintro e W3 ⟨rfl, hX⟩
    have hB3 : Hid (Below w.heap.size w W3) := after hB2.out hX
    have hk3 : Hid (W3.heap[V.heap.size]? = some (.cells (raw16 (l4 (X a) (X b1) (X c) (X d)) (l4 (Y a) (Y b1) (Y c) (Y d)) (l4 (Z a) (Z b1) (Z c) (Z d))) 92 (0, 0))) := (hX.block _ (Array.getElem?_eq_some_iff.1 hk2.out).1).trans hk2.out
    clear hX hB2 hk2
    have hs : (parS (l4 (X a) (X b1) (X c) (X d)) (l4 (Y a) (Y b1) (Y c) (Y d)) (l4 (Z a) (Z b1) (Z c) (Z d)) mk 4).sign = sm mk := by rw [HSM.out]; exact (smV_par _ _ _ mk HG.out).symm
    rw [hs]
    have hsb : sm mk = 0 ∨ sm mk = 1 ∨ sm mk = -1 := by rw [← hs]; exact sign_cases3 _
    clear hs
    obtain ⟨x, hx⟩ : ∃ x, x = sm mk := ⟨_, rfl⟩
    rw [← hx] at hsb ⊢
    have HX := Lib.hid hx
    clear hx
    by_cases hx0 : x = 0
    · have hm84 : mk ≠ 84 := fun e => by have := (H84.out e).2; rw [← HX.out, hx0] at this; cases this
      have hf := firstG_step (by omega) HF.out
      rw [if_neg (by rw [← HX.out]; simp [hx0])] at hf
      have HF2 := Lib.hid hf.symm
      clear hf HF hsb HX
      subst hx0
      go_wp2_with fail
      go_roundw
      case rel => first | exact ⟨mk + 1, by omega, by go_num, HF2, hk3, hB3⟩ | ((repeat apply Exists.intro); exact ⟨⟨mk + 1, by omega, by go_num, HF2, hk3, hB3⟩, rfl⟩)
      case measure => simp [intOf]; omega
    have hf := firstG_step (by omega) HF.out
    rw [if_pos ⟨HG.out, by rw [← HX.out]; exact hx0⟩, ← HX.out] at hf
    subst hf
    have hx1 : (sg != 0) = true := by simpa using hx0
    have t1 := hzt.out
    have t2 : -9223372036854775808 ≤ tt * sg := by rcases t1 with rfl | rfl <;> omega
    have t3 : tt * sg ≤ 9223372036854775807 := by rcases t1 with rfl | rfl <;> omega
    clear t1 hsb HF HX
    go_wp2_with fail
    go_returns
    exact ⟨rfl, hB3.out⟩
end Go.Proofs.Ytdglijdiiggdgaa
