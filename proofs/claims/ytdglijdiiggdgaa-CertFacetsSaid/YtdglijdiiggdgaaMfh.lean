import Derived.Test.YtdglijdiiggdgaaMfg
import Derived.Deep.RegionWith
import Derived.Deep.CutRange
namespace Go.Proofs.Ytdglijdiiggdgaa
open Go.RowKit Go.Maps Geo
theorem heap_drew {w : World} {o : Obj} {k : Nat} (h : k = w.heap.size) : (w.alloc o).drew.heap[k]? = some o := heap_at h
theorem same_list {L : List T3} {m : Nat} {A B C : Nat → Int} : (decide (L.length = m) && sameF (fA L) (fB L) (fC L) A B C L.length 0) = decide (L = listT m A B C) := by
  rw [Bool.eq_iff_iff]
  simp only [Bool.and_eq_true, decide_eq_true_eq, sameF_iff]
  constructor
  · rintro ⟨h1, h2⟩
    refine List.ext_getElem (by rw [listT_len, h1]) fun j hj hj2 => ?_
    obtain ⟨a1, a2, a3⟩ := h2 j (Nat.zero_le _) (by omega)
    have e := fABC hj
    rw [List.getElem?_eq_getElem hj] at e
    injection e with e
    have hj3 : (listT m A B C)[j]? = some (A j, B j, C j) := by
      unfold listT
      rw [List.getElem?_map, List.getElem?_range (by omega)]
      rfl
    rw [List.getElem?_eq_getElem hj2] at hj3
    injection hj3 with hj3
    rw [e, a1, a2, a3, hj3]
  · intro h
    have hl : L.length = m := by rw [h, listT_len]
    refine ⟨hl, fun j _ hj => ?_⟩
    have hj' : j < L.length := by omega
    have e := fABC hj'
    rw [List.getElem?_eq_getElem hj'] at e
    injection e with e
    have e2 : L[j] = (A j, B j, C j) := by
      have : L[j]? = (listT m A B C)[j]? := by rw [← h]
      rw [List.getElem?_eq_getElem hj'] at this
      unfold listT at this
      rw [List.getElem?_map, List.getElem?_range (by omega)] at this
      injection this
    rw [e2] at e
    injection e with e0 e1
    injection e1 with e1 e2
    exact ⟨e0.symm, e1.symm, e2.symm⟩
theorem bC_len {X Y Z : Nat → Int} {n a b : Nat} : ∀ (f c : Nat) (G F : List T3), (bC X Y Z n a b f c G F).2.length ≤ F.length + f ∧ (bC X Y Z n a b f c G F).1.length ≤ G.length + f
  | 0, c, G, F => ⟨Nat.le_refl _, Nat.le_refl _⟩
  | f + 1, c, G, F => by
    unfold bC
    split
    · have := bC_len (X := X) (Y := Y) (Z := Z) (n := n) (a := a) (b := b) f (c + 1) G F; omega
    · split
      · have := bC_len (X := X) (Y := Y) (Z := Z) (n := n) (a := a) (b := b) f (c + 1) (G ++ [fctT a b c (sdF X Y Z a b c (max (c + 1) 4))]) F
        rw [List.length_append, List.length_singleton] at this; omega
      · have := bC_len (X := X) (Y := Y) (Z := Z) (n := n) (a := a) (b := b) f (c + 1) (G ++ [fctT a b c (sdF X Y Z a b c (max (c + 1) 4))]) (F ++ [fctT a b c (sdF X Y Z a b c (max (c + 1) 4))])
        rw [List.length_append, List.length_append, List.length_singleton] at this; omega
theorem bB_len {X Y Z : Nat → Int} {n a : Nat} (hn : n ≤ 64) : ∀ (f b : Nat) (G F : List T3), (bB X Y Z n a f b G F).2.length ≤ F.length + 64 * f ∧ (bB X Y Z n a f b G F).1.length ≤ G.length + 64 * f
  | 0, b, G, F => ⟨Nat.le_refl _, Nat.le_refl _⟩
  | f + 1, b, G, F => by
    unfold bB
    have h1 := bC_len (X := X) (Y := Y) (Z := Z) (n := n) (a := a) (b := b) (n - (b + 1)) (b + 1) G F
    have h2 := bB_len (X := X) (Y := Y) (Z := Z) (a := a) hn f (b + 1) (bC X Y Z n a b (n - (b + 1)) (b + 1) G F).1 (bC X Y Z n a b (n - (b + 1)) (b + 1) G F).2
    omega
theorem bA_len {X Y Z : Nat → Int} {n : Nat} (hn : n ≤ 64) : ∀ (f a : Nat) (G F : List T3), (bA X Y Z n f a G F).2.length ≤ F.length + 4096 * f ∧ (bA X Y Z n f a G F).1.length ≤ G.length + 4096 * f
  | 0, a, G, F => ⟨Nat.le_refl _, Nat.le_refl _⟩
  | f + 1, a, G, F => by
    unfold bA
    have h1 := bB_len (X := X) (Y := Y) (Z := Z) (a := a) hn (n - (a + 1)) (a + 1) G F
    have h2 := bA_len (X := X) (Y := Y) (Z := Z) hn f (a + 1) (bB X Y Z n a (n - (a + 1)) (a + 1) G F).1 (bB X Y Z n a (n - (a + 1)) (a + 1) G F).2
    omega
theorem bldR_len {n : Nat} (X Y Z : Nat → Int) (hn : n ≤ 64) : (bldR n X Y Z).F.length < 1048576 ∧ (bldR n X Y Z).G.length < 1048576 := by
  unfold bldR
  split
  · exact ⟨by simp, by simp⟩
  · split
    · exact ⟨by simp, by simp⟩
    · have h := bA_len (X := X) (Y := Y) (Z := Z) hn n 0 [] []
      have h1 := sortF_len (A := fA (bA X Y Z n n 0 [] []).2) (B := fB (bA X Y Z n n 0 [] []).2) (C := fC (bA X Y Z n n 0 [] []).2) (bA X Y Z n n 0 [] []).2.length 0 []
      have h2 := sortF_len (A := fA (bA X Y Z n n 0 [] []).1) (B := fB (bA X Y Z n n 0 [] []).1) (C := fC (bA X Y Z n n 0 [] []).1) (bA X Y Z n n 0 [] []).1.length 0 []
      rw [List.length_nil] at h h1 h2
      unfold bldF bldG
      simp only
      exact ⟨by omega, by omega⟩
def rfcO (n m : Nat) (X Y Z A B C : Nat → Int) : Option (Int × Int) → Int × Int
  | some r => r
  | none => if (bldR n X Y Z).F = listT m A B C then (0, 0) else (170, (m : Int))
def rfcR (n m : Nat) (X Y Z A B C : Nat → Int) : Int × Int :=
  if (chk n X Y Z).1 = 0 then rfcO n m X Y Z A B C (facF n A B C (fun k => svI X Y Z (A k) (B k) (C k)) m 0) else chk n X Y Z
attribute [local irreducible] wpCalm
set_option maxRecDepth 100000 in
set_option maxHeartbeats 16000000 in
theorem ref21_facets (pl : Option Addr) (n cp : Nat) (pt : Option Addr) (m cp2 : Nat) (X Y Z A B C : Nat → Int) (hn : n ≤ 64 ∨ 512 < n) (hm : m < 1048576)
    (w : World) (hp : Hid (PtsO w pl n X Y Z)) (ht : Hid (PtsO w pt m A B C)) :
    Calls Try.prog 9 #[.slice pl n cp, .slice pt m cp2] w fun e w' => e = .returned (.tuple #[.int .i64 (rfcR n m X Y Z A B C).1, .int .i64 (rfcR n m X Y Z A B C).2]) ∧ Below w.heap.size w w' := by
  obtain ⟨r, hr⟩ : ∃ r, r = rfcR n m X Y Z A B C := ⟨_, rfl⟩
  rw [← hr]
  have HR := Lib.hid hr
  have HN := Lib.hid hn
  clear hr hn
  go_enter Try.func9, Try.ntmps9
  go_wp2_with fail
  refine (ref6_check pl n cp X Y Z w hp).mono ?_; rintro e W ⟨rfl, hB⟩
  obtain ⟨c1, hc1⟩ : ∃ c1, c1 = (chk n X Y Z).1 := ⟨_, rfl⟩
  obtain ⟨c2, hc2⟩ : ∃ c2, c2 = (chk n X Y Z).2 := ⟨_, rfl⟩
  rw [← hc1, ← hc2]
  have HC1 := Lib.hid hc1; have HC2 := Lib.hid hc2
  clear hc1 hc2
  by_cases h0 : c1 = 0
  case neg =>
    have hres : r = (c1, c2) := by rw [HR.out]; unfold rfcR; rw [if_neg (by rw [← HC1.out]; exact h0), HC1.out, HC2.out]
    have HRES := Lib.hid hres
    clear hres
    go_wp2
    go_returns
    exact retP HRES.out hB
  obtain ⟨sv, hsv⟩ : ∃ sv : Nat → Nat → Int, sv = fun k => svI X Y Z (A k) (B k) (C k) := ⟨_, rfl⟩
  have HSV := Lib.hid hsv
  obtain ⟨o, ho⟩ : ∃ o, o = facF n A B C sv m 0 := ⟨_, rfl⟩
  have HF0 : Hid (facF n A B C sv (m - 0) 0 = o) := ho.symm
  have hR2 : r = rfcO n m X Y Z A B C o := by rw [HR.out]; unfold rfcR; rw [if_pos (by rw [← HC1.out]; exact h0), ho, hsv]
  have HR2 := Lib.hid hR2
  have HCK := chk_all (n := n) (X := X) (Y := Y) (Z := Z) (by rw [← HC1.out]; exact h0)
  have hn5 := HCK.1
  have HCO := Lib.hid HCK.2
  clear hR2 ho hsv HCK
  have hn6 : n ≤ 64 := by have := HN.out; omega
  go_wp2_with fail
  go_loopw [8] (fun u wr => ∃ k : Nat, k ≤ m ∧ u = .int .i64 k ∧ Hid (facF n A B C sv (m - k) k = o) ∧ Below w.heap.size w wr)
    (fun u _ => m - (intOf u).toNat)
  case atStart => exact ⟨0, Nat.zero_le _, rfl, HF0, hB⟩
  case round =>
    clear hB HF0
    obtain ⟨k, hk, rfl, HF, hB⟩ := hrel
    by_cases hlt : k < m
    case neg =>
      have hres := HR2.out
      rw [fac_end (by omega) HF.out] at hres
      unfold rfcO at hres
      have HRES := Lib.hid hres
      have hbl := ref9_build pl n cp X Y Z (.inl hn6)
      have HBL := Lib.hid hbl
      obtain ⟨FF, hFF⟩ : ∃ H, H = bldR n X Y Z := ⟨_, rfl⟩
      rw [← hFF] at HBL HRES
      have HLF := Lib.hid (bldR_len X Y Z hn6).1
      rw [← hFF] at HLF
      clear hres hbl hFF HR2 HF
      go_wp2_with fail
      refine (HBL.out _ (Lib.hid (hp.out.below hB))).mono ?_; rintro e W2 ⟨hX, v, rfl, vF, vG, vP, rfl, hF, hG, hP⟩
      replace hB := after hB hX
      obtain ⟨pF, cF, rfl, hptF⟩ := tris_of_row hF
      obtain ⟨pG, cG, rfl, _⟩ := tris_of_row hG
      obtain ⟨pP, cP, rfl, _⟩ := prs_of_row hP
      have hsm := ref5_sameTris pF pt FF.F.length m cF cp2 (fA FF.F) (fB FF.F) (fC FF.F) A B C
      rw [same_list] at hsm
      have HSM := Lib.hid hsm
      have HF3 := Lib.hid hptF
      have HT3 := Lib.hid (ht.out.below hB)
      clear hsm hptF hF hG hP hX
      go_wp2_with fail
      first | refine wp_named ?_ | refine calls_named ?_
      intro W3 hW
      have HF4 : Hid (PtsO W3 pF FF.F.length (fA FF.F) (fB FF.F) (fC FF.F)) := by rw [hW]; exact HF3.out.below ((Below.refl _ _).alloc (Nat.le_refl _) _)
      have HT4 : Hid (PtsO W3 pt m A B C) := by rw [hW]; exact HT3.out.below ((Below.refl _ _).alloc (Nat.le_refl _) _)
      replace hB : Below w.heap.size w W3 := by rw [hW]; exact hB.alloc hB.size _
      clear hW HF3 HT3
      have hkm : k = m := by omega
      refine (HSM.out (by have := HLF.out; omega) _ HF4 HT4).mono ?_; rintro e W4 ⟨rfl, hX⟩
      replace hB := after hB hX
      clear hX HF4 HT4 HSM
      by_cases heq : FF.F = listT m A B C
      · have hr3 := HRES.out
        rw [if_pos heq] at hr3
        have HR3 := Lib.hid hr3
        rw [decide_eq_true heq]
        clear hr3 heq hkm
        go_wp2
        go_returns
        exact retP HR3.out hB
      · have hr3 := HRES.out
        rw [if_neg heq] at hr3
        have HR3 := Lib.hid hr3
        rw [decide_eq_false heq]
        clear hr3 heq hkm
        go_wp2
        go_returns
        exact retP HR3.out hB
    obtain ⟨q, off2, rfl, hq0⟩ := ht.out.at hlt
    have HT := Lib.hid hq0
    have htr := hq0.mono hB hq0.1
    obtain ⟨g1, g2, g3⟩ := htr.2 k hlt
    have hqr := htr.1
    clear htr hq0
    obtain ⟨a, ha⟩ : ∃ a, a = A k := ⟨_, rfl⟩
    obtain ⟨b1, hb1⟩ : ∃ b1, b1 = B k := ⟨_, rfl⟩
    obtain ⟨c, hc1⟩ : ∃ c, c = C k := ⟨_, rfl⟩
    rw [← ha] at g1; rw [← hb1] at g2; rw [← hc1] at g3
    have EA := Lib.hid ha; have EB := Lib.hid hb1; have EC := Lib.hid hc1
    clear ha hb1 hc1
    obtain ⟨S1, rfl⟩ : ∃ S, S = wr := ⟨_, rfl⟩
    go_wp2_with fail
    go_cut [44] from 26 to 44 (fun u wx => u = .bool (plc n a b1 c != 0) ∧ Hid (Below S1.heap.size S1 wx))
    case first =>
      go_region_with (go_at_call 25; refine (ref2_places pl n cp S1.heap.size 3 a b1 c _ (Lib.hid (heap_drew rfl))).mono ?_; rintro e W1 ⟨rfl, hX⟩)
      all_goals (go_wp2_with fail; go_meet; exact ⟨rfl, Lib.hid (after ((Below.alloc (Below.refl _ _) (Nat.le_refl _) _).drew) hX)⟩)
    obtain ⟨rfl, HX1⟩ := hcut
    obtain ⟨W1, rfl⟩ : ∃ W1, W1 = wc := ⟨_, rfl⟩
    have hX1 := HX1.out
    replace hB := after hB hX1
    clear HX1 g1 g2 g3 hqr hX1
    cases hpl : plcB n a b1 c with
    | false =>
      have hres := HR2.out
      rw [fac_plc hlt (by rw [← EA.out, ← EB.out, ← EC.out]; exact hpl) HF.out] at hres
      have HRES := Lib.hid hres
      have hp1 : plc n a b1 c = 21 := plc_no hpl
      rw [hp1]
      clear hres hp1
      go_wp2
      go_returns
      exact retP HRES.out hB
    | true =>
      have HPL := Lib.hid hpl
      have hp0 : plc n a b1 c = 0 := if_pos hpl
      rw [hp0]
      clear hpl hp0
      obtain ⟨g1, g2, g3⟩ := (HT.out.mono hB HT.out.1).2 k hlt
      rw [← EA.out] at g1; rw [← EB.out] at g2; rw [← EC.out] at g3
      have hqr : q < W1.heap.size := (HT.out.mono hB HT.out.1).1
      have hcan := ref5_canon a b1 c
      obtain ⟨x, hx⟩ : ∃ x, x = (canF a b1 c).1 := ⟨_, rfl⟩
      obtain ⟨y, hy⟩ : ∃ y, y = (canF a b1 c).2.1 := ⟨_, rfl⟩
      obtain ⟨z, hz⟩ : ∃ z, z = (canF a b1 c).2.2 := ⟨_, rfl⟩
      unfold tri at hcan
      rw [← hx, ← hy, ← hz] at hcan
      have HCAN := Lib.hid hcan
      have HXYZ : Hid (canF a b1 c = (x, y, z)) := by show _ = _; rw [hx, hy, hz]
      clear hcan hx hy hz
      by_cases hcn : x = a ∧ y = b1 ∧ z = c
      case neg =>
        have hbad : badF n A B C sv k = true := by
          unfold badF
          rw [← EA.out, ← EB.out, ← EC.out, HXYZ.out]
          have : decide ((x, y, z) = (a, b1, c)) = false := by simpa using hcn
          rw [this]; rfl
        have hres := HR2.out
        rw [fac_bad hlt (by rw [← EA.out, ← EB.out, ← EC.out]; exact HPL.out) hbad HF.out] at hres
        have HRES := Lib.hid hres
        clear hres hbad
        go_wp2_with fail
        have hnb : (x == a && (y == b1 && z == c)) = false := by simp; exact fun h1 h2 h3 => hcn ⟨h1, h2, h3⟩
        have EQ3 := eq3 x y z a b1 c
        rw [hnb] at EQ3
        clear hnb
        refine wp_calm0 35 (by kernel_rfl) (by kernel_rfl) ?_
        intro J hJ
        simp only [List.take_succ_cons, List.take_zero]
        iterate 9 ((with_reducible apply wpCalm_step); intro M hM; go_simp; first | ((with_reducible apply hM); clear hM M) | (rw [if_neg]; rotate_left; (· intro h; cases h); (with_reducible apply hM); clear hM M) | ((with_reducible apply calm_intro); (· intro wc hw; obtain ⟨hc, hf⟩ := bcell (hJ wc hw); go_simp; first | with_reducible exact HCAN.out _ | exact rfl); (with_reducible apply hM); clear hM M))
        with_reducible apply wpCalm_step
        intro M hM
        go_simp
        with_reducible apply calm_intro (v := .bool true)
        · intro wc hw
          go_simp
        with_reducible apply hM
        clear hM M
        repeat ((with_reducible apply wpCalm_step); intro M hM; go_simp; first | ((with_reducible apply hM); clear hM M) | (rw [if_neg]; rotate_left; (· intro h; cases h); (with_reducible apply hM); clear hM M) | ((with_reducible apply calm_intro); (· intro wc hw; obtain ⟨hc, hf⟩ := bcell (hJ wc hw); go_simp; first | with_reducible exact HCAN.out _ | exact rfl); (with_reducible apply hM); clear hM M))
        with_reducible apply wpCalm_nil
        clear hJ J
        intro V hX
        replace hB := after hB hX
        clear hX
        simp only [List.drop_succ_cons, List.drop_zero]
        clear EQ3
        go_wp2
        go_returns
        exact retP HRES.out hB
      obtain ⟨e1, e2, e3⟩ := hcn
      subst e1 e2 e3
      have hcc : decide (canF (A k) (B k) (C k) = (A k, B k, C k)) = true := by rw [← EA.out, ← EB.out, ← EC.out, HXYZ.out]; simp
      have HCC := Lib.hid hcc
      clear hcc
      have hnb : (x == x && (y == y && z == z)) = true := by simp
      have hseen := ref21_seen pl n cp X Y Z x y z (by omega) HCO HPL
      have hpo := hp.out
      obtain ⟨uu, huu⟩ : ∃ uu, uu = (!unsF x y z (sv k) n 0) := ⟨_, rfl⟩
      have hsvk : svI X Y Z x y z = sv k := by rw [HSV.out, EA.out, EB.out, EC.out]
      rw [hsvk, ← huu] at hseen
      have HUN : Hid (∀ wc, Below W1.heap.size W1 wc → Calls Try.prog 28 #[.slice pl n cp, .agg #[.int .i64 x, .int .i64 y, .int .i64 z]] wc fun e w' => e = .returned (.bool uu) ∧ Below wc.heap.size wc w') :=
        fun wc hw => hseen wc (Lib.hid (hpo.below (after hB hw)))
      have HUU := Lib.hid huu
      clear huu hseen hpo hsvk
      by_cases hk0 : k = 0
      case pos =>
        subst hk0
        simp only [Nat.zero_mul, Nat.add_zero] at g1 g2 g3
        cases uu with
        | true =>
          have hbad : badF n A B C sv 0 = true := by
            unfold badF
            rw [← EA.out, ← EB.out, ← EC.out, ← HUU.out]
            simp
          have hres := HR2.out
          rw [fac_bad hlt (by rw [← EA.out, ← EB.out, ← EC.out]; exact HPL.out) hbad HF.out] at hres
          have HRES := Lib.hid hres
          clear hres hbad
          go_wp2_with fail
          have EQ3 := eq3 x y z x y z
          rw [hnb] at EQ3
          refine wp_calm0 35 (by kernel_rfl) (by kernel_rfl) ?_
          intro J hJ
          simp only [List.take_succ_cons, List.take_zero]
          iterate 9 ((with_reducible apply wpCalm_step); intro M hM; go_simp; first | ((with_reducible apply hM); clear hM M) | (rw [if_neg]; rotate_left; (· intro h; cases h); (with_reducible apply hM); clear hM M) | ((with_reducible apply calm_intro); (· intro wc hw; obtain ⟨hc, hf⟩ := bcell (hJ wc hw); go_simp; first | with_reducible exact HCAN.out _ | with_reducible exact HUN.out wc (hJ wc hw) | exact rfl); (with_reducible apply hM); clear hM M))
          with_reducible apply wpCalm_step
          intro M hM
          go_simp
          with_reducible apply calm_intro (v := .bool false)
          · intro wc hw
            go_simp
          with_reducible apply hM
          clear hM M
          repeat ((with_reducible apply wpCalm_step); intro M hM; go_simp; first | ((with_reducible apply hM); clear hM M) | (rw [if_neg]; rotate_left; (· intro h; cases h); (with_reducible apply hM); clear hM M) | ((with_reducible apply calm_intro); (· intro wc hw; obtain ⟨hc, hf⟩ := bcell (hJ wc hw); go_simp; first | with_reducible exact HCAN.out _ | with_reducible exact HUN.out wc (hJ wc hw) | exact rfl); (with_reducible apply hM); clear hM M))
          with_reducible apply wpCalm_nil
          clear hJ J
          intro V hX
          replace hB := after hB hX
          clear hX
          simp only [List.drop_succ_cons, List.drop_zero]
          clear EQ3
          go_wp2
          go_returns
          exact retP HRES.out hB
        | false =>
          have hgood : badF n A B C sv 0 = false := by
            unfold badF
            rw [HCC.out, ← EA.out, ← EB.out, ← EC.out, ← HUU.out]
            simp
          go_wp2_with fail
          have EQ3 := eq3 x y z x y z
          rw [hnb] at EQ3
          refine wp_calm0 35 (by kernel_rfl) (by kernel_rfl) ?_
          intro J hJ
          simp only [List.take_succ_cons, List.take_zero]
          iterate 9 ((with_reducible apply wpCalm_step); intro M hM; go_simp; first | ((with_reducible apply hM); clear hM M) | (rw [if_neg]; rotate_left; (· intro h; cases h); (with_reducible apply hM); clear hM M) | ((with_reducible apply calm_intro); (· intro wc hw; obtain ⟨hc, hf⟩ := bcell (hJ wc hw); go_simp; first | with_reducible exact HCAN.out _ | with_reducible exact HUN.out wc (hJ wc hw) | exact rfl); (with_reducible apply hM); clear hM M))
          with_reducible apply wpCalm_step
          intro M hM
          go_simp
          with_reducible apply calm_intro (v := .bool false)
          · intro wc hw
            go_simp
          with_reducible apply hM
          clear hM M
          repeat ((with_reducible apply wpCalm_step); intro M hM; go_simp; first | ((with_reducible apply hM); clear hM M) | (rw [if_neg]; rotate_left; (· intro h; cases h); (with_reducible apply hM); clear hM M) | ((with_reducible apply calm_intro); (· intro wc hw; obtain ⟨hc, hf⟩ := bcell (hJ wc hw); go_simp; first | with_reducible exact HCAN.out _ | with_reducible exact HUN.out wc (hJ wc hw) | exact rfl); (with_reducible apply hM); clear hM M))
          with_reducible apply wpCalm_nil
          clear hJ J
          intro V hX
          replace hB := after hB hX
          clear hX
          simp only [List.drop_succ_cons, List.drop_zero]
          clear EQ3
          go_wp2_with fail
          go_roundw
          case rel => exact ⟨0 + 1, by omega, by go_num, fac_on hlt (by rw [← EA.out, ← EB.out, ← EC.out]; exact HPL.out) hgood HF.out, hB⟩
          case measure => simp [intOf]; omega
      obtain ⟨j, rfl⟩ : ∃ j, k = j + 1 := ⟨k - 1, by omega⟩
      have hjm : j < m := by omega
      obtain ⟨f1, f2, f3⟩ := (HT.out.mono hB HT.out.1).2 j hjm
      obtain ⟨a', ha⟩ : ∃ a', a' = A j := ⟨_, rfl⟩
      obtain ⟨b', hb1⟩ : ∃ b', b' = B j := ⟨_, rfl⟩
      obtain ⟨c', hc1⟩ : ∃ c', c' = C j := ⟨_, rfl⟩
      rw [← ha] at f1; rw [← hb1] at f2; rw [← hc1] at f3
      have EA' := Lib.hid ha; have EB' := Lib.hid hb1; have EC' := Lib.hid hc1
      clear ha hb1 hc1
      have hle := ref5_less a' b' c' x y z
      have HLE := Lib.hid hle
      clear hle
      obtain ⟨lt, hlt'⟩ : ∃ lt, lt = ltB (a', b', c') (x, y, z) := ⟨_, rfl⟩
      rw [← hlt'] at HLE
      have HLT := Lib.hid hlt'
      clear hlt'
      have hj1 : (0 : Int) ≤ (j : Int) + 1 := by omega
      have hj2 : (j : Int) + 1 < (m : Int) := by omega
      have hw1 : IntKind.i64.wrap (j : Int) = j := by rw [IntKind.wrap_i64]; omega
      cases lt with
      | false =>
        have hbad : badF n A B C sv (j + 1) = true := by
          unfold badF
          rw [HCC.out, ← EA.out, ← EB.out, ← EC.out]
          simp only [Nat.add_sub_cancel]
          rw [← EA'.out, ← EB'.out, ← EC'.out, ← HLT.out]
          simp
        have hres := HR2.out
        rw [fac_bad hlt (by rw [← EA.out, ← EB.out, ← EC.out]; exact HPL.out) hbad HF.out] at hres
        have HRES := Lib.hid hres
        clear hres hbad
        go_wp2_with fail
        have EQ3 := eq3 x y z x y z
        rw [hnb] at EQ3
        refine wp_calm0 35 (by kernel_rfl) (by kernel_rfl) ?_
        intro J hJ
        simp only [List.take_succ_cons, List.take_zero]
        iterate 9 ((with_reducible apply wpCalm_step); intro M hM; go_simp; first | ((with_reducible apply hM); clear hM M) | (rw [if_neg]; rotate_left; (· intro h; cases h); (with_reducible apply hM); clear hM M) | ((with_reducible apply calm_intro); (· intro wc hw; obtain ⟨hc, hf⟩ := bcell (hJ wc hw); go_simp; first | with_reducible exact HCAN.out _ | with_reducible exact HLE.out wc | exact rfl); (with_reducible apply hM); clear hM M))
        with_reducible apply wpCalm_step
        intro M hM
        go_simp
        with_reducible apply calm_intro (v := .bool false)
        · intro wc hw
          go_simp
        with_reducible apply hM
        clear hM M
        repeat ((with_reducible apply wpCalm_step); intro M hM; go_simp; first | ((with_reducible apply hM); clear hM M) | (rw [if_neg]; rotate_left; (· intro h; cases h); (with_reducible apply hM); clear hM M) | ((with_reducible apply calm_intro); (· intro wc hw; obtain ⟨hc, hf⟩ := bcell (hJ wc hw); go_simp; first | with_reducible exact HCAN.out _ | with_reducible exact HLE.out wc | exact rfl); (with_reducible apply hM); clear hM M))
        with_reducible apply wpCalm_nil
        clear hJ J
        intro V hX
        replace hB := after hB hX
        clear hX
        simp only [List.drop_succ_cons, List.drop_zero]
        clear EQ3
        go_wp2
        go_returns
        exact retP HRES.out hB
      | true =>
        cases uu with
        | true =>
          have hbad : badF n A B C sv (j + 1) = true := by
            unfold badF
            rw [← EA.out, ← EB.out, ← EC.out, ← HUU.out]
            simp
          have hres := HR2.out
          rw [fac_bad hlt (by rw [← EA.out, ← EB.out, ← EC.out]; exact HPL.out) hbad HF.out] at hres
          have HRES := Lib.hid hres
          clear hres hbad
          go_wp2_with fail
          have EQ3 := eq3 x y z x y z
          rw [hnb] at EQ3
          refine wp_calm0 35 (by kernel_rfl) (by kernel_rfl) ?_
          intro J hJ
          simp only [List.take_succ_cons, List.take_zero]
          iterate 9 ((with_reducible apply wpCalm_step); intro M hM; go_simp; first | ((with_reducible apply hM); clear hM M) | (rw [if_neg]; rotate_left; (· intro h; cases h); (with_reducible apply hM); clear hM M) | ((with_reducible apply calm_intro); (· intro wc hw; obtain ⟨hc, hf⟩ := bcell (hJ wc hw); go_simp; first | with_reducible exact HCAN.out _ | with_reducible exact HLE.out wc | with_reducible exact HUN.out wc (hJ wc hw) | exact rfl); (with_reducible apply hM); clear hM M))
          with_reducible apply wpCalm_step
          intro M hM
          go_simp
          with_reducible apply calm_intro (v := .bool false)
          · intro wc hw
            go_simp
          with_reducible apply hM
          clear hM M
          repeat ((with_reducible apply wpCalm_step); intro M hM; go_simp; first | ((with_reducible apply hM); clear hM M) | (rw [if_neg]; rotate_left; (· intro h; cases h); (with_reducible apply hM); clear hM M) | ((with_reducible apply calm_intro); (· intro wc hw; obtain ⟨hc, hf⟩ := bcell (hJ wc hw); go_simp; first | with_reducible exact HCAN.out _ | with_reducible exact HLE.out wc | with_reducible exact HUN.out wc (hJ wc hw) | exact rfl); (with_reducible apply hM); clear hM M))
          with_reducible apply wpCalm_nil
          clear hJ J
          intro V hX
          replace hB := after hB hX
          clear hX
          simp only [List.drop_succ_cons, List.drop_zero]
          clear EQ3
          go_wp2
          go_returns
          exact retP HRES.out hB
        | false =>
          have hgood : badF n A B C sv (j + 1) = false := by
            unfold badF
            rw [HCC.out, ← EA.out, ← EB.out, ← EC.out, ← HUU.out]
            simp only [Nat.add_sub_cancel]; rw [← EA'.out, ← EB'.out, ← EC'.out, ← HLT.out]; simp
          go_wp2_with fail
          have EQ3 := eq3 x y z x y z
          rw [hnb] at EQ3
          refine wp_calm0 35 (by kernel_rfl) (by kernel_rfl) ?_
          intro J hJ
          simp only [List.take_succ_cons, List.take_zero]
          iterate 9 ((with_reducible apply wpCalm_step); intro M hM; go_simp; first | ((with_reducible apply hM); clear hM M) | (rw [if_neg]; rotate_left; (· intro h; cases h); (with_reducible apply hM); clear hM M) | ((with_reducible apply calm_intro); (· intro wc hw; obtain ⟨hc, hf⟩ := bcell (hJ wc hw); go_simp; first | with_reducible exact HCAN.out _ | with_reducible exact HLE.out wc | with_reducible exact HUN.out wc (hJ wc hw) | exact rfl); (with_reducible apply hM); clear hM M))
          with_reducible apply wpCalm_step
          intro M hM
          go_simp
          with_reducible apply calm_intro (v := .bool false)
          · intro wc hw
            go_simp
          with_reducible apply hM
          clear hM M
          repeat ((with_reducible apply wpCalm_step); intro M hM; go_simp; first | ((with_reducible apply hM); clear hM M) | (rw [if_neg]; rotate_left; (· intro h; cases h); (with_reducible apply hM); clear hM M) | ((with_reducible apply calm_intro); (· intro wc hw; obtain ⟨hc, hf⟩ := bcell (hJ wc hw); go_simp; first | with_reducible exact HCAN.out _ | with_reducible exact HLE.out wc | with_reducible exact HUN.out wc (hJ wc hw) | exact rfl); (with_reducible apply hM); clear hM M))
          with_reducible apply wpCalm_nil
          clear hJ J
          intro V hX
          replace hB := after hB hX
          clear hX
          simp only [List.drop_succ_cons, List.drop_zero]
          clear EQ3
          go_wp2_with fail
          go_roundw
          case rel => exact ⟨(j + 1) + 1, by omega, by go_num, fac_on hlt (by rw [← EA.out, ← EB.out, ← EC.out]; exact HPL.out) hgood HF.out, hB⟩
          case measure => simp [intOf]; omega
end Go.Proofs.Ytdglijdiiggdgaa
/- Plain geometry: a closed set of facets is all facets; there is a facet. No Go here. -/
namespace Geo
def add4 (a b : V4) : V4 := ⟨a.x + b.x, a.y + b.y, a.z + b.z, a.w + b.w⟩
theorem det_add (a b c p q : V4) : det a b c (add4 p q) = det a b c p + det a b c q := by unfold det d3 add4; grind
theorem cram_x (a b c o x : V4) : det a b c o * x.x = a.x * det x b c o + b.x * det a x c o + c.x * det a b x o + o.x * det a b c x := by unfold det d3; grind
theorem cram_y (a b c o x : V4) : det a b c o * x.y = a.y * det x b c o + b.y * det a x c o + c.y * det a b x o + o.y * det a b c x := by unfold det d3; grind
theorem cram_z (a b c o x : V4) : det a b c o * x.z = a.z * det x b c o + b.z * det a x c o + c.z * det a b x o + o.z * det a b c x := by unfold det d3; grind
theorem cram_w (a b c o x : V4) : det a b c o * x.w = a.w * det x b c o + b.w * det a x c o + c.w * det a b x o + o.w * det a b c x := by unfold det d3; grind
theorem det_form (g1 g2 g3 : V4) : ∃ A B C E : Int, ∀ y : V4, det g1 g2 g3 y = A * y.x + B * y.y + C * y.z + E * y.w :=
  ⟨-d3 g1.y g1.z g1.w g2.y g2.z g2.w g3.y g3.z g3.w, d3 g1.x g1.z g1.w g2.x g2.z g2.w g3.x g3.z g3.w, -d3 g1.x g1.y g1.w g2.x g2.y g2.w g3.x g3.y g3.w, d3 g1.x g1.y g1.z g2.x g2.y g2.z g3.x g3.y g3.z, fun y => by unfold det d3; grind⟩
theorem comb {A B C E d0 d1 d2 d3 d4 xx xy xz xw ax ay az aw bx «by» bz bw cx cy cz cw ox oy oz ow : Int}
    (h1 : d0 * xx = ax * d1 + bx * d2 + cx * d3 + ox * d4) (h2 : d0 * xy = ay * d1 + «by» * d2 + cy * d3 + oy * d4) (h3 : d0 * xz = az * d1 + bz * d2 + cz * d3 + oz * d4) (h4 : d0 * xw = aw * d1 + bw * d2 + cw * d3 + ow * d4) :
    d0 * (A * xx + B * xy + C * xz + E * xw) = (A * ax + B * ay + C * az + E * aw) * d1 + (A * bx + B * «by» + C * bz + E * bw) * d2 + (A * cx + B * cy + C * cz + E * cw) * d3 + (A * ox + B * oy + C * oz + E * ow) * d4 := by
  have e1 : A * (d0 * xx) = A * (ax * d1 + bx * d2 + cx * d3 + ox * d4) := by rw [h1]
  have e2 : B * (d0 * xy) = B * (ay * d1 + «by» * d2 + cy * d3 + oy * d4) := by rw [h2]
  have e3 : C * (d0 * xz) = C * (az * d1 + bz * d2 + cz * d3 + oz * d4) := by rw [h3]
  have e4 : E * (d0 * xw) = E * (aw * d1 + bw * d2 + cw * d3 + ow * d4) := by rw [h4]
  grind
/-- A linear form at x, by its values at a, b, c, o. -/
theorem cramer (g1 g2 g3 a b c o x : V4) : det a b c o * det g1 g2 g3 x = det g1 g2 g3 a * det x b c o + det g1 g2 g3 b * det a x c o + det g1 g2 g3 c * det a b x o + det g1 g2 g3 o * det a b c x := by
  obtain ⟨A, B, C, E, h⟩ := det_form g1 g2 g3
  rw [h, h, h, h, h]
  exact comb (cram_x a b c o x) (cram_y a b c o x) (cram_z a b c o x) (cram_w a b c o x)
theorem det_rot3 (a x c o : V4) : det x c a o = det a x c o := by unfold det d3; grind
section
variable (V : Nat → V4)
def mid : V4 := add4 (add4 (V 0) (V 1)) (add4 (V 2) (V 3))
def sum3 (g1 g2 g3 : Nat) : V4 := add4 (add4 (V g1) (V g2)) (V g3)
variable {V}
theorem Facet.nonneg {n a b c : Nat} (h : Facet V n a b c) {v : Nat} (hv : v < n) : 0 ≤ D V a b c v := by
  by_cases h1 : v = a
  · subst h1; have : D V v b c v = 0 := det_self14 _ _ _; omega
  by_cases h2 : v = b
  · subst h2; have : D V a v c v = 0 := det_self24 _ _ _; omega
  by_cases h3 : v = c
  · subst h3; have : D V a b v v = 0 := det_self34 _ _ _; omega
  have := h.side v hv h1 h2 h3
  omega
theorem Facet.mid_pos {n a b c : Nat} (hn : 4 ≤ n) (h : Facet V n a b c) : 0 < det (V a) (V b) (V c) (mid V) := by
  unfold mid
  rw [det_add, det_add, det_add]
  have e0 : 0 ≤ det (V a) (V b) (V c) (V 0) := h.nonneg (v := 0) (by omega)
  have e1 : 0 ≤ det (V a) (V b) (V c) (V 1) := h.nonneg (v := 1) (by omega)
  have e2 : 0 ≤ det (V a) (V b) (V c) (V 2) := h.nonneg (v := 2) (by omega)
  have e3 : 0 ≤ det (V a) (V b) (V c) (V 3) := h.nonneg (v := 3) (by omega)
  have hex : ∃ v, v < 4 ∧ v ≠ a ∧ v ≠ b ∧ v ≠ c := exists_other (Nat.le_refl 4) a b c
  obtain ⟨v, hv, h1, h2, h3⟩ := hex
  have hp : 0 < det (V a) (V b) (V c) (V v) := h.side v (by omega) h1 h2 h3
  have hv4 : v = 0 ∨ v = 1 ∨ v = 2 ∨ v = 3 := by omega
  rcases hv4 with rfl | rfl | rfl | rfl <;> omega
theorem Facet.sum_nonneg {n a b c g1 g2 g3 : Nat} (h : Facet V n a b c) (h1 : g1 < n) (h2 : g2 < n) (h3 : g3 < n) : 0 ≤ det (V a) (V b) (V c) (sum3 V g1 g2 g3) := by
  unfold sum3
  rw [det_add, det_add]
  have e1 : 0 ≤ det (V a) (V b) (V c) (V g1) := h.nonneg h1
  have e2 : 0 ≤ det (V a) (V b) (V c) (V g2) := h.nonneg h2
  have e3 : 0 ≤ det (V a) (V b) (V c) (V g3) := h.nonneg h3
  omega
theorem nn_of {h d q s x y : Int} (hc : 0 < h) (e : d * q = h * x + s * y) (le : y * s ≤ q * d) : 0 ≤ x := by
  have h1 : y * s = s * y := Int.mul_comm _ _
  have h2 : q * d = d * q := Int.mul_comm _ _
  have : 0 ≤ h * x := by omega
  by_cases hx : 0 ≤ x
  · exact hx
  · have := Int.mul_neg_of_pos_of_neg hc (show x < 0 by omega)
    omega
/-- A facet whose three neighbours are no nearer to q is nearest: here, for q on the facet G: it holds q. -/
theorem Facet.nearest {n a b c d1 d2 d3 g1 g2 g3 : Nat} (hn : 4 ≤ n) (F : Facet V n a b c) (F1 : Facet V n b a d1) (F2 : Facet V n c b d2) (F3 : Facet V n a c d3) (G : Facet V n g1 g2 g3)
    (l1 : det (V a) (V b) (V c) (sum3 V g1 g2 g3) * det (V b) (V a) (V d1) (mid V) ≤ det (V b) (V a) (V d1) (sum3 V g1 g2 g3) * det (V a) (V b) (V c) (mid V))
    (l2 : det (V a) (V b) (V c) (sum3 V g1 g2 g3) * det (V c) (V b) (V d2) (mid V) ≤ det (V c) (V b) (V d2) (sum3 V g1 g2 g3) * det (V a) (V b) (V c) (mid V))
    (l3 : det (V a) (V b) (V c) (sum3 V g1 g2 g3) * det (V a) (V c) (V d3) (mid V) ≤ det (V a) (V c) (V d3) (sum3 V g1 g2 g3) * det (V a) (V b) (V c) (mid V)) :
    det (V a) (V b) (V c) (sum3 V g1 g2 g3) ≤ 0 := by
  have hab : a ≠ b := F.ab
  have hac : a ≠ c := F.ac
  have hbc : b ≠ c := F.bc
  have hd1 : c ≠ d1 := fun e => F.no_back hn (by rw [← e] at F1; exact F1)
  have hd2 : a ≠ d2 := fun e => F.no_back hn (by rw [← e] at F2; exact F2.rot)
  have hd3 : b ≠ d3 := fun e => F.no_back hn (by rw [← e] at F3; exact F3.rot.rot)
  have p1 : 0 < det (V b) (V a) (V d1) (V c) := F1.side c F.lc (by omega) (by omega) hd1
  have p2 : 0 < det (V c) (V b) (V d2) (V a) := F2.side a F.la (by omega) (by omega) hd2
  have p3 : 0 < det (V a) (V c) (V d3) (V b) := F3.side b F.lb (by omega) (by omega) hd3
  have c1 := cramer (V b) (V a) (V d1) (V a) (V b) (V c) (mid V) (sum3 V g1 g2 g3)
  have c2 := cramer (V c) (V b) (V d2) (V a) (V b) (V c) (mid V) (sum3 V g1 g2 g3)
  have c3 := cramer (V a) (V c) (V d3) (V a) (V b) (V c) (mid V) (sum3 V g1 g2 g3)
  rw [det_self24, det_self14] at c1
  rw [det_self24, det_self14] at c2
  rw [det_self14, det_self24] at c3
  have n3 : 0 ≤ det (V a) (V b) (sum3 V g1 g2 g3) (mid V) := nn_of (y := det (V a) (V b) (V c) (sum3 V g1 g2 g3)) p1 (by rw [c1]; omega) l1
  have n1 : 0 ≤ det (sum3 V g1 g2 g3) (V b) (V c) (mid V) := nn_of (y := det (V a) (V b) (V c) (sum3 V g1 g2 g3)) p2 (by rw [c2]; omega) l2
  have n2 : 0 ≤ det (V a) (sum3 V g1 g2 g3) (V c) (mid V) := nn_of (y := det (V a) (V b) (V c) (sum3 V g1 g2 g3)) p3 (by rw [c3]; omega) l3
  have cg := cramer (V g1) (V g2) (V g3) (V a) (V b) (V c) (mid V) (sum3 V g1 g2 g3)
  have hz : det (V g1) (V g2) (V g3) (sum3 V g1 g2 g3) = 0 := by
    unfold sum3
    rw [det_add, det_add, det_self14, det_self24, det_self34]; rfl
  rw [hz, Int.mul_zero] at cg
  have ga : 0 ≤ det (V g1) (V g2) (V g3) (V a) := G.nonneg F.la
  have gb : 0 ≤ det (V g1) (V g2) (V g3) (V b) := G.nonneg F.lb
  have gc : 0 ≤ det (V g1) (V g2) (V g3) (V c) := G.nonneg F.lc
  have go := G.mid_pos hn
  have m1 := Int.mul_nonneg ga n1
  have m2 := Int.mul_nonneg gb n2
  have m3 := Int.mul_nonneg gc n3
  by_cases h : det (V a) (V b) (V c) (sum3 V g1 g2 g3) ≤ 0
  · exact h
  · have := Int.mul_pos go (show 0 < det (V a) (V b) (V c) (sum3 V g1 g2 g3) by omega)
    omega
end
end Geo
/- Plain geometry: a closed set of facets is all facets; there is a facet. No Go here. -/
namespace Geo
theorem cross_trans {p q r s t u : Int} (ht : 0 < t) (hs : 0 < s) (hu : 0 < u) (h1 : p * t ≤ q * s) (h2 : q * u ≤ r * t) : p * u ≤ r * s := by
  have e1 := Int.mul_le_mul_of_nonneg_right h1 (Int.le_of_lt hu)
  have e2 := Int.mul_le_mul_of_nonneg_right h2 (Int.le_of_lt hs)
  have e3 : p * u * t ≤ r * s * t := by
    have a1 : p * t * u = p * u * t := by grind
    have a2 : q * s * u = q * u * s := by grind
    have a3 : r * t * s = r * s * t := by grind
    omega
  exact Int.le_of_mul_le_mul_right e3 ht
theorem exists_min {α : Type} (p s : α → Int) : ∀ (T : List α), T ≠ [] → (∀ t ∈ T, 0 < s t) → ∃ t ∈ T, ∀ u ∈ T, p t * s u ≤ p u * s t
  | [], h, _ => absurd rfl h
  | [t], _, hs => ⟨t, by simp, fun u hu => by simp at hu; subst hu; exact Int.le_refl _⟩
  | x :: y :: T, _, hs => by
    obtain ⟨t, ht, hm⟩ := exists_min p s (y :: T) (by simp) (fun t ht => hs t (List.mem_cons_of_mem _ ht))
    by_cases h : p t * s x ≤ p x * s t
    · refine ⟨t, List.mem_cons_of_mem _ ht, fun u hu => ?_⟩
      rcases List.mem_cons.1 hu with rfl | hu
      · exact h
      · exact hm u hu
    · refine ⟨x, by simp, fun u hu => ?_⟩
      rcases List.mem_cons.1 hu with rfl | hu
      · exact Int.le_refl _
      · exact cross_trans (hs t (List.mem_cons_of_mem _ ht)) (hs x (by simp)) (hs u (List.mem_cons_of_mem _ hu)) (by omega) (hm u hu)
def Rot (t : Nat × Nat × Nat) (a b c : Nat) : Prop := t = (a, b, c) ∨ t = (b, c, a) ∨ t = (c, a, b)
section
variable {V : Nat → V4}
theorem det_of_rot {t : Nat × Nat × Nat} {a b c : Nat} (h : Rot t a b c) (q : V4) : det (V t.1) (V t.2.1) (V t.2.2) q = det (V a) (V b) (V c) q := by
  rcases h with rfl | rfl | rfl
  · rfl
  · exact det_rot _ _ _ _
  · rw [← det_rot (V c)]
theorem facet_of_rot {n : Nat} {t : Nat × Nat × Nat} {a b c : Nat} (h : Rot t a b c) (hf : Facet V n t.1 t.2.1 t.2.2) : Facet V n a b c := by
  rcases h with rfl | rfl | rfl
  · exact hf
  · exact hf.rot.rot
  · exact hf.rot
theorem Facet.mem_of_zero {n a b c g : Nat} (F : Facet V n a b c) (hg : g < n) (h : det (V a) (V b) (V c) (V g) ≤ 0) : g = a ∨ g = b ∨ g = c := by
  by_cases h1 : g = a
  · exact .inl h1
  by_cases h2 : g = b
  · exact .inr (.inl h2)
  by_cases h3 : g = c
  · exact .inr (.inr h3)
  have : 0 < det (V a) (V b) (V c) (V g) := F.side g hg h1 h2 h3
  omega
theorem closed_all {n : Nat} (hn : 4 ≤ n) (T : List (Nat × Nat × Nat)) (hne : T ≠ []) (hf : ∀ t ∈ T, Facet V n t.1 t.2.1 t.2.2)
    (hc : ∀ t ∈ T, ∀ a b c, Rot t a b c → ∃ u ∈ T, ∃ d, Rot u b a d) {g1 g2 g3 : Nat} (G : Facet V n g1 g2 g3) : ∃ t ∈ T, Rot t g1 g2 g3 := by
  obtain ⟨⟨a, b, c⟩, ht, hm⟩ := exists_min (fun t : Nat × Nat × Nat => det (V t.1) (V t.2.1) (V t.2.2) (sum3 V g1 g2 g3)) (fun t => det (V t.1) (V t.2.1) (V t.2.2) (mid V)) T hne (fun t ht => (hf t ht).mid_pos hn)
  have F : Facet V n a b c := hf _ ht
  obtain ⟨u1, hu1, d1, r1⟩ := hc _ ht a b c (.inl rfl)
  obtain ⟨u2, hu2, d2, r2⟩ := hc _ ht b c a (.inr (.inr rfl))
  obtain ⟨u3, hu3, d3, r3⟩ := hc _ ht c a b (.inr (.inl rfl))
  have l1 := hm u1 hu1
  have l2 := hm u2 hu2
  have l3 := hm u3 hu3
  simp only at l1 l2 l3
  rw [det_of_rot r1, det_of_rot r1] at l1
  rw [det_of_rot r2, det_of_rot r2] at l2
  rw [det_of_rot r3, det_of_rot r3] at l3
  have h0 := F.nearest hn (facet_of_rot r1 (hf _ hu1)) (facet_of_rot r2 (hf _ hu2)) (facet_of_rot r3 (hf _ hu3)) G l1 l2 l3
  unfold sum3 at h0
  rw [det_add, det_add] at h0
  have e1 : 0 ≤ det (V a) (V b) (V c) (V g1) := F.nonneg G.la
  have e2 : 0 ≤ det (V a) (V b) (V c) (V g2) := F.nonneg G.lb
  have e3 : 0 ≤ det (V a) (V b) (V c) (V g3) := F.nonneg G.lc
  have m1 := F.mem_of_zero G.la (by omega)
  have m2 := F.mem_of_zero G.lb (by omega)
  have m3 := F.mem_of_zero G.lc (by omega)
  have x1 := G.ab
  have x2 := G.bc
  have x3 := G.ac
  have nb := F.no_back hn
  rcases m1 with rfl | rfl | rfl <;> rcases m2 with rfl | rfl | rfl <;> rcases m3 with rfl | rfl | rfl <;> first
    | exact absurd rfl x1
    | exact absurd rfl x2
    | exact absurd rfl x3
    | exact ⟨_, ht, .inl rfl⟩
    | exact ⟨_, ht, .inr (.inl rfl)⟩
    | exact ⟨_, ht, .inr (.inr rfl)⟩
    | exact absurd G nb
    | exact absurd G.rot nb
    | exact absurd G.rot.rot nb
theorem General.mono {n m : Nat} (h : General V n) (hm : m ≤ n) : General V m := fun i j k l h1 h2 h3 h4 => h i j k l (by omega) (by omega) (by omega) (by omega)
theorem np_of {h d q s x y : Int} (hc : 0 < h) (e : d * q = h * x + s * y) (le : q * d ≤ y * s) : x ≤ 0 := by
  have h1 : y * s = s * y := Int.mul_comm _ _
  have h2 : q * d = d * q := Int.mul_comm _ _
  have : h * x ≤ 0 := by omega
  by_cases hx : x ≤ 0
  · exact hx
  · have := Int.mul_pos hc (show 0 < x by omega)
    omega
theorem Facet.farthest {n a b c d1 d2 d3 : Nat} {q : V4} (hn : 4 ≤ n) (hw : ∀ v, v < n → 0 < (V v).w) (hq : 0 < q.w) (F : Facet V n a b c) (F1 : Facet V n b a d1) (F2 : Facet V n c b d2) (F3 : Facet V n a c d3)
    (l1 : det (V b) (V a) (V d1) q * det (V a) (V b) (V c) (mid V) ≤ det (V a) (V b) (V c) q * det (V b) (V a) (V d1) (mid V))
    (l2 : det (V c) (V b) (V d2) q * det (V a) (V b) (V c) (mid V) ≤ det (V a) (V b) (V c) q * det (V c) (V b) (V d2) (mid V))
    (l3 : det (V a) (V c) (V d3) q * det (V a) (V b) (V c) (mid V) ≤ det (V a) (V b) (V c) q * det (V a) (V c) (V d3) (mid V)) :
    0 ≤ det (V a) (V b) (V c) q := by
  have hab : a ≠ b := F.ab
  have hac : a ≠ c := F.ac
  have hbc : b ≠ c := F.bc
  have hd1 : c ≠ d1 := fun e => F.no_back hn (by rw [← e] at F1; exact F1)
  have hd2 : a ≠ d2 := fun e => F.no_back hn (by rw [← e] at F2; exact F2.rot)
  have hd3 : b ≠ d3 := fun e => F.no_back hn (by rw [← e] at F3; exact F3.rot.rot)
  have p1 : 0 < det (V b) (V a) (V d1) (V c) := F1.side c F.lc (by omega) (by omega) hd1
  have p2 : 0 < det (V c) (V b) (V d2) (V a) := F2.side a F.la (by omega) (by omega) hd2
  have p3 : 0 < det (V a) (V c) (V d3) (V b) := F3.side b F.lb (by omega) (by omega) hd3
  have c1 := cramer (V b) (V a) (V d1) (V a) (V b) (V c) (mid V) q
  have c2 := cramer (V c) (V b) (V d2) (V a) (V b) (V c) (mid V) q
  have c3 := cramer (V a) (V c) (V d3) (V a) (V b) (V c) (mid V) q
  rw [det_self24, det_self14] at c1
  rw [det_self24, det_self14] at c2
  rw [det_self14, det_self24] at c3
  have n3 : det (V a) (V b) q (mid V) ≤ 0 := np_of (y := det (V a) (V b) (V c) q) p1 (by rw [c1]; omega) l1
  have n1 : det q (V b) (V c) (mid V) ≤ 0 := np_of (y := det (V a) (V b) (V c) q) p2 (by rw [c2]; omega) l2
  have n2 : det (V a) q (V c) (mid V) ≤ 0 := np_of (y := det (V a) (V b) (V c) q) p3 (by rw [c3]; omega) l3
  have cw := cram_w (V a) (V b) (V c) (mid V) q
  have hm : 0 < (mid V).w := by
    show 0 < (V 0).w + (V 1).w + ((V 2).w + (V 3).w)
    have := hw 0 (by omega); have := hw 1 (by omega); have := hw 2 (by omega); have := hw 3 (by omega)
    omega
  have m0 := Int.mul_pos (F.mid_pos hn) hq
  have m1 := Int.mul_nonneg (Int.le_of_lt (hw a F.la)) (show 0 ≤ -det q (V b) (V c) (mid V) by omega)
  have m2 := Int.mul_nonneg (Int.le_of_lt (hw b F.lb)) (show 0 ≤ -det (V a) q (V c) (mid V) by omega)
  have m3 := Int.mul_nonneg (Int.le_of_lt (hw c F.lc)) (show 0 ≤ -det (V a) (V b) q (mid V) by omega)
  rw [Int.mul_neg] at m1 m2 m3
  by_cases h : 0 ≤ det (V a) (V b) (V c) q
  · exact h
  · have := Int.mul_neg_of_pos_of_neg hm (show det (V a) (V b) (V c) q < 0 by omega)
    omega
open Classical in
theorem exists_facet (hw : ∀ v, 0 < (V v).w) : ∀ n : Nat, General V (n + 4) → ∃ a b c, Facet V (n + 4) a b c
  | 0, hg => by
    have h := hg 0 1 2 3 (by decide) (by decide) (by decide) (by decide) (by decide) (by decide) (by decide) (by decide) (by decide) (by decide)
    have hs := D_swap12 (V := V) 0 1 2 3
    by_cases hp : 0 < D V 0 1 2 3
    · exact ⟨0, 1, 2, by decide, by decide, by decide, by decide, by decide, by decide, fun v hv h1 h2 h3 => by have : v = 3 := by omega
                                                                                                                subst this; exact hp⟩
    · exact ⟨1, 0, 2, by decide, by decide, by decide, by decide, by decide, by decide, fun v hv h1 h2 h3 => by have : v = 3 := by omega
                                                                                                                subst this; omega⟩
  | n + 1, hg => by
    have hn : 4 ≤ n + 4 := by omega
    have hg0 : General V (n + 4) := hg.mono (by omega)
    obtain ⟨a0, b0, c0, F0⟩ := exists_facet hw n hg0
    let T : List (Nat × Nat × Nat) := ((List.range (n + 4)).flatMap fun a => (List.range (n + 4)).flatMap fun b => (List.range (n + 4)).map fun c => (a, b, c)).filter fun t => decide (Facet V (n + 4) t.1 t.2.1 t.2.2)
    have memT : ∀ a b c, Facet V (n + 4) a b c → (a, b, c) ∈ T := fun a b c F => by
      refine List.mem_filter.2 ⟨List.mem_flatMap.2 ⟨a, List.mem_range.2 F.la, List.mem_flatMap.2 ⟨b, List.mem_range.2 F.lb, List.mem_map.2 ⟨c, List.mem_range.2 F.lc, rfl⟩⟩⟩, by simpa using F⟩
    have hf : ∀ t ∈ T, Facet V (n + 4) t.1 t.2.1 t.2.2 := fun t ht => by simpa using (List.mem_filter.1 ht).2
    have hne : T ≠ [] := List.ne_nil_of_mem (memT _ _ _ F0)
    obtain ⟨⟨a, b, c⟩, ht, hm⟩ := exists_min (fun t : Nat × Nat × Nat => -det (V t.1) (V t.2.1) (V t.2.2) (V (n + 4))) (fun t => det (V t.1) (V t.2.1) (V t.2.2) (mid V)) T hne (fun t ht => (hf t ht).mid_pos hn)
    have F : Facet V (n + 4) a b c := hf _ ht
    obtain ⟨d1, F1⟩ := F.across hn hg0
    obtain ⟨d2, F2⟩ := F.rot.across hn hg0
    obtain ⟨d3, F3⟩ := F.rot.rot.across hn hg0
    have l1 := hm _ (memT _ _ _ F1)
    have l2 := hm _ (memT _ _ _ F2)
    have l3 := hm _ (memT _ _ _ F3)
    simp only [Int.neg_mul] at l1 l2 l3
    have h0 := F.farthest (q := V (n + 4)) hn (fun v _ => hw v) (hw _) F1 F2 F3 (by omega) (by omega) (by omega)
    have hne0 : D V a b c (n + 4) ≠ 0 := hg a b c (n + 4) (Nat.lt_succ_of_lt F.la) (Nat.lt_succ_of_lt F.lb) (Nat.lt_succ_of_lt F.lc) (Nat.lt_succ_self _) F.ab F.ac (Nat.ne_of_lt F.la) F.bc (Nat.ne_of_lt F.lb) (Nat.ne_of_lt F.lc)
    have h1 : 0 < D V a b c (n + 4) := by have : 0 ≤ D V a b c (n + 4) := h0; omega
    exact ⟨a, b, c, (facet_succ F.la F.lb F.lc).2 ⟨F, h1⟩⟩
end
end Geo
namespace Go.Proofs.Ytdglijdiiggdgaa
open Geo
/-- The signs of places are the signs of moved points in general position. -/
theorem sgP_geo {n : Nat} {X Y Z : Nat → Int} (hco : ∀ i, i < n → Co (X i) ∧ Co (Y i) ∧ Co (Z i)) :
    ∃ V : Nat → V4, (∀ v, 0 < (V v).w) ∧ General V n ∧ ∀ i j k m, i < n → j < n → k < n → m < n → i ≠ j → i ≠ k → i ≠ m → j ≠ k → j ≠ m → k ≠ m → (D V i j k m).sign = sgP X Y Z i j k m := by
  obtain ⟨B, hB⟩ : ∃ B : Int, B = 384 * (24 * (1073741824 * (1073741824 * (1073741824 * 1073741824)))) := ⟨_, rfl⟩
  have hB1 : 384 * (24 * (1073741824 * (1073741824 * (1073741824 * 1073741824)))) ≤ B := by omega
  have hB0 : 0 < B := by omega
  clear hB
  have hl : ∀ i, i < n → bnd 1073741824 (ptOf X Y Z i).x ∧ bnd 1073741824 (ptOf X Y Z i).y ∧ bnd 1073741824 (ptOf X Y Z i).z := fun i hi => by
    obtain ⟨h1, h2, h3⟩ := hco i hi
    exact ⟨h1, h2, h3⟩
  have key : ∀ i j k m, i < n → j < n → k < n → m < n → i ≠ j → i ≠ k → i ≠ m → j ≠ k → j ≠ m → k ≠ m → (D (mvd B (8 ^ n) (ptOf X Y Z)) i j k m).sign = sgP X Y Z i j k m := by
    intro i j k m hi hj hk hm h1 h2 h3 h4 h5 h6
    have P := perm_bub 9 0 ⟨i, j, k, m, 1⟩
    have hs := bub_sorted ⟨i, j, k, m, 1⟩
    unfold sgP
    obtain ⟨z, hz⟩ : ∃ z, z = bub 9 0 ⟨i, j, k, m, 1⟩ := ⟨_, rfl⟩
    rw [← hz] at P hs ⊢
    obtain ⟨a1, a2, a3, a4⟩ := P.all (· < n) hi hj hk hm
    obtain ⟨b1, b2, b3, b4, b5, b6⟩ := P.apart ⟨h1, h2, h3, h4, h5, h6⟩
    have hd := P.deti (mvd B (8 ^ n) (ptOf X Y Z))
    simp only [Int.one_mul] at hd
    have ht := P.sign (.inl rfl)
    have hsg := sign_mvd (M := 1073741824) (B := B) (by decide) hB1 (l := ptOf X Y Z) (K := 8 ^ n) (n := n) (Nat.le_refl _) hl (i0 := z.a) (i1 := z.b) (i2 := z.c) (i3 := z.d) (by omega) (by omega) (by omega) a4
    rw [hd, ← hsg]
    unfold D
    rcases ht with ht | ht
    · rw [ht, Int.one_mul, Int.one_mul]
    · rw [ht, Int.neg_one_mul, Int.neg_one_mul, Int.sign_neg]
  refine ⟨mvd B (8 ^ n) (ptOf X Y Z), fun v => ?_, ?_, key⟩
  · show 0 < B ^ (8 ^ n)
    exact Int.pow_pos hB0
  · intro i j k m hi hj hk hm h1 h2 h3 h4 h5 h6 e
    have := key i j k m hi hj hk hm h1 h2 h3 h4 h5 h6
    rw [e] at this
    have hc := sgP_cases X Y Z i j k m
    rw [← this] at hc
    simp at hc
end Go.Proofs.Ytdglijdiiggdgaa
namespace Go.Proofs.Ytdglijdiiggdgaa
open Geo
/-- The sign that all places have, over any signs. -/
def sideG (S : Nat → Int) (a b c : Nat) : Nat → Nat → Int → Int
  | 0, _, s => s
  | f + 1, k, s => if ownN a b c k = true then sideG S a b c f (k + 1) s else if s ≠ 0 ∧ S k ≠ s then 0 else sideG S a b c f (k + 1) (S k)
theorem ownN_iff {a b c k : Nat} : ownN a b c k = true ↔ k = a ∨ k = b ∨ k = c := by unfold ownN; simp [or_assoc]
theorem sideG_ne {S : Nat → Int} {a b c : Nat} {r : Int} (hr : r ≠ 0) : ∀ (f k : Nat) (s : Int), (∀ v, k ≤ v → v < k + f → v ≠ a → v ≠ b → v ≠ c → S v ≠ 0) → sideG S a b c f k s = r →
    (∀ v, k ≤ v → v < k + f → v ≠ a → v ≠ b → v ≠ c → S v = r) ∧ (s = 0 ∨ s = r)
  | 0, k, s, _, h => ⟨fun v h1 h2 => by omega, .inr h⟩
  | f + 1, k, s, h0, h => by
    unfold sideG at h
    by_cases ho : ownN a b c k = true
    · rw [if_pos ho] at h
      obtain ⟨h1, h2⟩ := sideG_ne hr f (k + 1) s (fun v a1 a2 => h0 v (by omega) (by omega)) h
      refine ⟨fun v a1 a2 a3 a4 a5 => ?_, h2⟩
      rw [ownN_iff] at ho
      exact h1 v (by omega) (by omega) a3 a4 a5
    · rw [if_neg ho] at h
      by_cases hs : s ≠ 0 ∧ S k ≠ s
      · rw [if_pos hs] at h; exact absurd h.symm hr
      · rw [if_neg hs] at h
        obtain ⟨h1, h2⟩ := sideG_ne hr f (k + 1) (S k) (fun v a1 a2 => h0 v (by omega) (by omega)) h
        rw [ownN_iff] at ho
        have hk := h0 k (Nat.le_refl _) (by omega) (by omega) (by omega) (by omega)
        have hkr : S k = r := h2.resolve_left hk
        refine ⟨fun v a1 a2 a3 a4 a5 => ?_, ?_⟩
        · rcases Nat.lt_or_ge k v with h' | h'
          · exact h1 v (by omega) (by omega) a3 a4 a5
          · have : v = k := by omega
            rw [this]; exact hkr
        · by_cases e : s = 0
          · exact .inl e
          · right
            have : ¬ S k ≠ s := fun h' => hs ⟨e, h'⟩
            have : S k = s := by omega
            omega
theorem sideG_of {S : Nat → Int} {a b c : Nat} {r : Int} (hr : r ≠ 0) : ∀ (f k : Nat) (s : Int), (∀ v, k ≤ v → v < k + f → v ≠ a → v ≠ b → v ≠ c → S v = r) →
    (s = r ∨ s = 0 ∧ ∃ v, k ≤ v ∧ v < k + f ∧ v ≠ a ∧ v ≠ b ∧ v ≠ c) → sideG S a b c f k s = r
  | 0, k, s, _, h => by
    unfold sideG
    rcases h with h | ⟨_, v, h1, h2, _⟩
    · exact h
    · omega
  | f + 1, k, s, h0, h => by
    unfold sideG
    by_cases ho : ownN a b c k = true
    · rw [if_pos ho]
      refine sideG_of hr f (k + 1) s (fun v a1 a2 => h0 v (by omega) (by omega)) ?_
      rcases h with h | ⟨h, v, h1, h2, h3, h4, h5⟩
      · exact .inl h
      · rw [ownN_iff] at ho
        exact .inr ⟨h, v, by omega, by omega, h3, h4, h5⟩
    · rw [if_neg ho]
      rw [ownN_iff] at ho
      have hk := h0 k (Nat.le_refl _) (by omega) (by omega) (by omega) (by omega)
      rw [if_neg]
      · exact sideG_of hr f (k + 1) (S k) (fun v a1 a2 => h0 v (by omega) (by omega)) (.inl hk)
      · rintro ⟨h1, h2⟩
        rcases h with h | ⟨h, _⟩
        · rw [h] at h2; exact h2 hk
        · exact h1 h
/-- A triple turned as the side wants it. -/
def ftT (a b c : Nat) (s : Int) : T3 := if 0 < s then canF a b c else canF a c b
theorem canF_rot {a b c : Int} (h1 : a ≠ b) (h2 : b ≠ c) (h3 : a ≠ c) : canF b c a = canF a b c := by
  unfold canF
  repeat' split
  all_goals first | rfl | (exfalso; omega)
theorem canF_least {a b c : Int} : (canF a b c).1 ≤ (canF a b c).2.1 ∧ (canF a b c).1 ≤ (canF a b c).2.2 := by
  unfold canF
  repeat' split
  all_goals (simp only; omega)
theorem canF_cases (a b c : Int) : canF a b c = (a, b, c) ∨ canF a b c = (b, c, a) ∨ canF a b c = (c, a, b) := by
  unfold canF
  repeat' split
  all_goals simp
theorem canF_fix {x y z : Int} (h1 : x ≤ y) (h2 : x ≤ z) : canF x y z = (x, y, z) := by
  unfold canF
  rw [if_neg (by omega), if_neg (by omega)]
theorem canF_idem (a b c : Int) : canF (canF a b c).1 (canF a b c).2.1 (canF a b c).2.2 = canF a b c := canF_fix canF_least.1 canF_least.2
section
variable {V : Nat → V4} {n : Nat} {S : Nat → Nat → Nat → Nat → Int}
/-- The triples that the definition finds. -/
def InF (S : Nat → Nat → Nat → Nat → Int) (n : Nat) (t : T3) : Prop := ∃ a b c : Nat, a < b ∧ b < c ∧ c < n ∧ sideG (S a b c) a b c (max (c + 1) 4) 0 0 ≠ 0 ∧ sideG (S a b c) a b c n 0 0 ≠ 0 ∧ t = ftT a b c (sideG (S a b c) a b c (max (c + 1) 4) 0 0)
theorem sign_pos {x : Int} (h : x.sign = 1) : 0 < x := by
  rcases sign_cases x with ⟨_, h2⟩ | ⟨h1, _⟩ | ⟨_, h2⟩ <;> omega
theorem sign_neg' {x : Int} (h : x.sign = -1) : x < 0 := by
  rcases sign_cases x with ⟨_, h2⟩ | ⟨_, h2⟩ | ⟨h1, _⟩ <;> omega
theorem sign_of_pos {x : Int} (h : 0 < x) : x.sign = 1 := Int.sign_eq_one_of_pos h
theorem sign_of_neg {x : Int} (h : x < 0) : x.sign = -1 := Int.sign_eq_neg_one_of_neg h
theorem sign_ne {x : Int} (h : x ≠ 0) : x.sign = 1 ∨ x.sign = -1 := by
  rcases sign_cases x with ⟨h1, _⟩ | ⟨_, h2⟩ | ⟨_, h2⟩
  · exact absurd h1 h
  · exact .inl h2
  · exact .inr h2
variable (hn : 4 ≤ n) (hg : General V n) (hS : ∀ i j k m, i < n → j < n → k < n → m < n → i ≠ j → i ≠ k → i ≠ m → j ≠ k → j ≠ m → k ≠ m → (D V i j k m).sign = S i j k m)
include hn hg hS
theorem inF_iff (t : T3) : InF S n t ↔ ∃ a b c : Nat, Facet V n a b c ∧ t = canF a b c := by
  have hS0 : ∀ a b c, a < b → b < c → c < n → ∀ v, v < n → v ≠ a → v ≠ b → v ≠ c → S a b c v = 1 ∨ S a b c v = -1 := by
    intro a b c h1 h2 h3 v hv e1 e2 e3
    rw [← hS a b c v (by omega) (by omega) h3 hv (by omega) (by omega) (by omega) (by omega) (by omega) (by omega)]
    exact sign_ne (hg a b c v (by omega) (by omega) h3 hv (by omega) (by omega) (by omega) (by omega) (by omega) (by omega))
  constructor
  · rintro ⟨a, b, c, h1, h2, h3, h4, h5, rfl⟩
    obtain ⟨r, hr⟩ : ∃ r, r = sideG (S a b c) a b c n 0 0 := ⟨_, rfl⟩
    obtain ⟨q, hq⟩ : ∃ q, q = sideG (S a b c) a b c (max (c + 1) 4) 0 0 := ⟨_, rfl⟩
    rw [← hr] at h5
    rw [← hq] at h4 ⊢
    obtain ⟨R, _⟩ := sideG_ne h5 n 0 0 (fun v _ hv e1 e2 e3 => by rcases hS0 a b c h1 h2 h3 v (by omega) e1 e2 e3 with h | h <;> omega) hr.symm
    obtain ⟨Q, _⟩ := sideG_ne h4 (max (c + 1) 4) 0 0 (fun v _ hv e1 e2 e3 => by rcases hS0 a b c h1 h2 h3 v (by omega) e1 e2 e3 with h | h <;> omega) hq.symm
    obtain ⟨v, hv, e1, e2, e3⟩ := exists_other (Nat.le_refl 4) a b c
    have q1 := Q v (Nat.zero_le _) (by omega) e1 e2 e3
    have q2 := R v (Nat.zero_le _) (by omega) e1 e2 e3
    have hqr : q = r := by omega
    subst hqr
    have hc := hS0 a b c h1 h2 h3 v (by omega) e1 e2 e3
    rw [q1] at hc
    rcases hc with rfl | rfl
    · refine ⟨a, b, c, ⟨by omega, by omega, h3, by omega, by omega, by omega, fun v hv e1 e2 e3 => ?_⟩, rfl⟩
      refine sign_pos ?_
      rw [hS a b c v (by omega) (by omega) h3 hv (by omega) (by omega) (by omega) (by omega) (by omega) (by omega)]
      exact R v (Nat.zero_le _) (by omega) e1 e2 e3
    · refine ⟨a, c, b, ⟨by omega, by omega, by omega, by omega, by omega, by omega, fun v hv e1 e2 e3 => ?_⟩, rfl⟩
      rw [D_swap23]
      have : (D V a b c v).sign = -1 := by
        rw [hS a b c v (by omega) (by omega) h3 hv (by omega) (by omega) (by omega) (by omega) (by omega) (by omega)]
        exact R v (Nat.zero_le _) (by omega) e1 e3 e2
      have := sign_neg' this
      omega
  · have core : ∀ x y z : Nat, x < y → x < z → Facet V n x y z → InF S n (canF x y z) := by
      intro x y z hxy hxz F
      obtain ⟨h1, h2, h3, h4, h5, h6, h7⟩ := F
      rcases Nat.lt_or_ge y z with hyz | hyz
      · have all : ∀ v, v < n → v ≠ x → v ≠ y → v ≠ z → S x y z v = 1 := fun v hv e1 e2 e3 => by
          rw [← hS x y z v h1 h2 h3 hv (by omega) (by omega) (by omega) (by omega) (by omega) (by omega)]
          exact sign_of_pos (h7 v hv e1 e2 e3)
        obtain ⟨v, hv, e1, e2, e3⟩ := exists_other (Nat.le_refl 4) x y z
        have s1 := sideG_of (S := S x y z) (a := x) (b := y) (c := z) (r := 1) (by decide) (max (z + 1) 4) 0 0 (fun v _ hv => all v (by omega)) (.inr ⟨rfl, v, Nat.zero_le _, by omega, e1, e2, e3⟩)
        have s2 := sideG_of (S := S x y z) (a := x) (b := y) (c := z) (r := 1) (by decide) n 0 0 (fun v _ hv => all v (by omega)) (.inr ⟨rfl, v, Nat.zero_le _, by omega, e1, e2, e3⟩)
        exact ⟨x, y, z, hxy, hyz, h3, by rw [s1]; decide, by rw [s2]; decide, by rw [s1]; rfl⟩
      · have all : ∀ v, v < n → v ≠ x → v ≠ z → v ≠ y → S x z y v = -1 := fun v hv e1 e2 e3 => by
          rw [← hS x z y v h1 h3 h2 hv (by omega) (by omega) (by omega) (by omega) (by omega) (by omega)]
          refine sign_of_neg ?_
          rw [D_swap23]
          have := h7 v hv e1 e3 e2
          omega
        obtain ⟨v, hv, e1, e2, e3⟩ := exists_other (Nat.le_refl 4) x z y
        have s1 := sideG_of (S := S x z y) (a := x) (b := z) (c := y) (r := -1) (by decide) (max (y + 1) 4) 0 0 (fun v _ hv => all v (by omega)) (.inr ⟨rfl, v, Nat.zero_le _, by omega, e1, e2, e3⟩)
        have s2 := sideG_of (S := S x z y) (a := x) (b := z) (c := y) (r := -1) (by decide) n 0 0 (fun v _ hv => all v (by omega)) (.inr ⟨rfl, v, Nat.zero_le _, by omega, e1, e2, e3⟩)
        exact ⟨x, z, y, hxz, by omega, h2, by rw [s1]; decide, by rw [s2]; decide, by rw [s1]; rfl⟩
    rintro ⟨a, b, c, F, rfl⟩
    have d1 := F.ab; have d2 := F.bc; have d3 := F.ac
    by_cases m1 : a < b ∧ a < c
    · exact core a b c m1.1 m1.2 F
    · by_cases m2 : b < c ∧ b < a
      · have := core b c a m2.1 m2.2 F.rot
        rw [canF_rot (by omega) (by omega) (by omega)] at this
        exact this
      · have := core c a b (by omega) (by omega) F.rot.rot
        rw [← canF_rot (a := (c : Int)) (b := a) (c := b) (by omega) (by omega) (by omega)] at this
        exact this
end
/-- Edges of triples. -/
theorem mem_edgesTo {A B C : Nat → Int} {e : Int × Int} : ∀ m, e ∈ edgesTo A B C m ↔ ∃ k, k < m ∧ (e = (A k, B k) ∨ e = (B k, C k) ∨ e = (C k, A k))
  | 0 => by simp [edgesTo]
  | m + 1 => by
    unfold edgesTo
    rw [List.mem_append, mem_edgesTo m]
    simp only [List.mem_cons, List.not_mem_nil, or_false]
    constructor
    · rintro (⟨k, h1, h2⟩ | h)
      · exact ⟨k, by omega, h2⟩
      · exact ⟨m, by omega, h⟩
    · rintro ⟨k, h1, h2⟩
      rcases Nat.lt_or_ge k m with h | h
      · exact .inl ⟨k, h, h2⟩
      · have : k = m := by omega
        subst this
        exact .inr h2
theorem count_edgesTo {A B C : Nat → Int} (e : Int × Int) : ∀ m, (∀ k, k < m → A k ≠ B k ∧ B k ≠ C k ∧ A k ≠ C k) →
    (∀ k k', k < k' → k' < m → (e = (A k, B k) ∨ e = (B k, C k) ∨ e = (C k, A k)) → ¬ (e = (A k', B k') ∨ e = (B k', C k') ∨ e = (C k', A k'))) → (edgesTo A B C m).count e ≤ 1
  | 0, _, _ => by simp [edgesTo]
  | m + 1, hd, hu => by
    have ih := count_edgesTo e m (fun k hk => hd k (by omega)) (fun k k' h1 h2 => hu k k' h1 (by omega))
    unfold edgesTo
    rw [List.count_append]
    by_cases hm : e = (A m, B m) ∨ e = (B m, C m) ∨ e = (C m, A m)
    · have h0 : (edgesTo A B C m).count e = 0 := by
        rw [List.count_eq_zero]
        intro hmem
        obtain ⟨k, hk, he⟩ := (mem_edgesTo m).1 hmem
        exact hu k m hk (by omega) he hm
      rw [h0]
      obtain ⟨d1, d2, d3⟩ := hd m (by omega)
      have n1 : (A m, B m) ≠ (B m, C m) := fun h => d1 (by injection h)
      have n2 : (A m, B m) ≠ (C m, A m) := fun h => d3 (by injection h)
      have n3 : (B m, C m) ≠ (C m, A m) := fun h => d2 (by injection h)
      rcases hm with rfl | rfl | rfl
      · simp [List.count_cons, n1.symm, n2.symm]
      · simp [List.count_cons, n1, n3.symm]
      · simp [List.count_cons, n2, n3]
    · have h0 : List.count e [(A m, B m), (B m, C m), (C m, A m)] = 0 := by
        rw [List.count_eq_zero]
        simpa [not_or] using hm
      omega
theorem rot_edge {t : Nat × Nat × Nat} {a b : Nat} (h : ((a : Int), (b : Int)) = ((t.1 : Int), (t.2.1 : Int)) ∨ ((a : Int), (b : Int)) = ((t.2.1 : Int), (t.2.2 : Int)) ∨ ((a : Int), (b : Int)) = ((t.2.2 : Int), (t.1 : Int))) : ∃ d, Rot t a b d := by
  obtain ⟨x, y, z⟩ := t
  simp only [Prod.mk.injEq] at h
  rcases h with ⟨h1, h2⟩ | ⟨h1, h2⟩ | ⟨h1, h2⟩
  · have := Int.ofNat.inj h1; have := Int.ofNat.inj h2
    subst a b; exact ⟨z, .inl rfl⟩
  · have := Int.ofNat.inj h1; have := Int.ofNat.inj h2
    subst a b; exact ⟨x, .inr (.inr rfl)⟩
  · have := Int.ofNat.inj h1; have := Int.ofNat.inj h2
    subst a b; exact ⟨y, .inr (.inl rfl)⟩
section
variable {V : Nat → V4} {n m : Nat} {A B C : Nat → Nat} {FL : List T3}
/-- Rising facets are closed just if they are all. -/
theorem closed_iff (hn : 4 ≤ n) (hw : ∀ v, 0 < (V v).w) (hg : General V n) (hF : ∀ k, k < m → Facet V n (A k) (B k) (C k)) (hc : ∀ k, k < m → canF (A k) (B k) (C k) = ((A k : Int), (B k : Int), (C k : Int)))
    (hs : SortedT ((List.range m).map fun k => ((A k : Int), (B k : Int), (C k : Int)))) (hFs : SortedT FL) (hFL : ∀ t, t ∈ FL ↔ ∃ a b c : Nat, Facet V n a b c ∧ t = canF a b c) :
    closB (fun k => A k) (fun k => B k) (fun k => C k) m = true ↔ FL = (List.range m).map fun k => ((A k : Int), (B k : Int), (C k : Int)) := by
  have hsub : ∀ t, t ∈ (List.range m).map (fun k => ((A k : Int), (B k : Int), (C k : Int))) → t ∈ FL := by
    intro t ht
    obtain ⟨k, hk, rfl⟩ := List.mem_map.1 ht
    rw [List.mem_range] at hk
    exact (hFL _).2 ⟨_, _, _, hF k hk, (hc k hk).symm⟩
  constructor
  · intro h
    unfold closB at h
    simp only [Bool.and_eq_true, decide_eq_true_eq] at h
    obtain ⟨h0, h1⟩ := h
    refine sorted_ext hFs hs fun t => ⟨fun ht => ?_, hsub t⟩
    obtain ⟨g1, g2, g3, G, rfl⟩ := (hFL t).1 ht
    have hT := closed_all (V := V) hn ((List.range m).map fun k => (A k, B k, C k)) (by intro e; have := congrArg List.length e; simp at this; omega)
      (fun t ht => by obtain ⟨k, hk, rfl⟩ := List.mem_map.1 ht; rw [List.mem_range] at hk; exact hF k hk)
      (fun t ht a b c hr => by
        obtain ⟨k, hk, rfl⟩ := List.mem_map.1 ht
        rw [List.mem_range] at hk
        have he : ((a : Int), (b : Int)) ∈ edgesTo (fun k => (A k : Int)) (fun k => B k) (fun k => C k) m := by
          refine (mem_edgesTo m).2 ⟨k, hk, ?_⟩
          rcases hr with e | e | e <;> (simp only [Prod.mk.injEq] at e; obtain ⟨e1, e2, e3⟩ := e; subst e1 e2 e3; simp)
        have hb := h1 _ he
        have hb' : ((b : Int), (a : Int)) ∈ edgesTo (fun k => (A k : Int)) (fun k => B k) (fun k => C k) m := List.count_pos_iff.1 (by simp only at hb; omega)
        obtain ⟨k', hk', he'⟩ := (mem_edgesTo m).1 hb'
        obtain ⟨d, hd⟩ := rot_edge (t := (A k', B k', C k')) he'
        exact ⟨_, List.mem_map.2 ⟨k', List.mem_range.2 hk', rfl⟩, d, hd⟩) G
    obtain ⟨u, hu, hr⟩ := hT
    obtain ⟨k, hk, rfl⟩ := List.mem_map.1 hu
    rw [List.mem_range] at hk
    refine List.mem_map.2 ⟨k, List.mem_range.2 hk, ?_⟩
    rw [← hc k hk]
    have d1 := (hF k hk).ab; have d2 := (hF k hk).bc; have d3 := (hF k hk).ac
    rcases hr with e | e | e <;> (simp only [Prod.mk.injEq] at e; obtain ⟨e1, e2, e3⟩ := e)
    · rw [e1, e2, e3]
    · rw [e1, e2, e3, canF_rot (by omega) (by omega) (by omega)]
    · rw [e1, e2, e3, ← canF_rot (a := (g3 : Int)) (b := g1) (c := g2) (by omega) (by omega) (by omega)]
  · intro h
    have hmem : ∀ {a b c : Nat}, Facet V n a b c → ∃ k, k < m ∧ canF a b c = ((A k : Int), (B k : Int), (C k : Int)) := fun {a b c} F => by
      have := (hFL _).2 ⟨a, b, c, F, rfl⟩
      rw [h] at this
      obtain ⟨k, hk, e⟩ := List.mem_map.1 this
      exact ⟨k, List.mem_range.1 hk, e.symm⟩
    have h0 : 0 < m := by
      obtain ⟨q, rfl⟩ : ∃ q, n = q + 4 := ⟨n - 4, by omega⟩
      obtain ⟨a, b, c, F⟩ := exists_facet hw q hg
      obtain ⟨k, hk, _⟩ := hmem F
      omega
    have hedge : ∀ {a b c : Nat} {k : Nat}, canF a b c = ((A k : Int), (B k : Int), (C k : Int)) → ((a : Int), (b : Int)) = ((A k : Int), (B k : Int)) ∨ ((a : Int), (b : Int)) = ((B k : Int), (C k : Int)) ∨ ((a : Int), (b : Int)) = ((C k : Int), (A k : Int)) := by
      intro a b c k e
      rcases canF_cases a b c with h | h | h <;> rw [h] at e <;> simp only [Prod.mk.injEq] at e <;> obtain ⟨e1, e2, e3⟩ := e
      · exact .inl (by rw [e1, e2])
      · exact .inr (.inr (by rw [e1, e3]))
      · exact .inr (.inl (by rw [e2, e3]))
    have hface : ∀ {a b k : Nat}, k < m → (((a : Int), (b : Int)) = ((A k : Int), (B k : Int)) ∨ ((a : Int), (b : Int)) = ((B k : Int), (C k : Int)) ∨ ((a : Int), (b : Int)) = ((C k : Int), (A k : Int))) → ∃ d, Rot (A k, B k, C k) a b d ∧ Facet V n a b d := by
      intro a b k hk he
      obtain ⟨d, hd⟩ := rot_edge (t := (A k, B k, C k)) he
      exact ⟨d, hd, facet_of_rot hd (hF k hk)⟩
    unfold closB
    simp only [Bool.and_eq_true, decide_eq_true_eq]
    refine ⟨h0, fun e he => ?_⟩
    obtain ⟨k, hk, he⟩ := (mem_edgesTo m).1 he
    obtain ⟨a, b, rfl⟩ : ∃ a b : Nat, e = ((a : Int), (b : Int)) := by
      rcases he with rfl | rfl | rfl
      · exact ⟨_, _, rfl⟩
      · exact ⟨_, _, rfl⟩
      · exact ⟨_, _, rfl⟩
    obtain ⟨c, _, F⟩ := hface hk he
    obtain ⟨d, G⟩ := F.across hn hg
    obtain ⟨k1, hk1, e1⟩ := hmem G
    have hin : ((b : Int), (a : Int)) ∈ edgesTo (fun k => (A k : Int)) (fun k => B k) (fun k => C k) m := (mem_edgesTo m).2 ⟨k1, hk1, hedge e1⟩
    have hpos := List.count_pos_iff.2 hin
    have hle := count_edgesTo (A := fun k => (A k : Int)) (B := fun k => (B k : Int)) (C := fun k => (C k : Int)) ((b : Int), (a : Int)) m (fun k hk => by have := (hF k hk).ab; have := (hF k hk).bc; have := (hF k hk).ac; omega) (fun p q hpq hq h1 h2 => by
      obtain ⟨d1, r1, G1⟩ := hface (by omega) h1
      obtain ⟨d2, r2, G2⟩ := hface hq h2
      have hd := G1.unique G2
      subst hd
      have hcan : ∀ {k : Nat}, k < m → Rot (A k, B k, C k) b a d1 → ((A k : Int), (B k : Int), (C k : Int)) = canF b a d1 := fun {k} hk hr => by
        rw [← hc k hk]
        have d1' := (hF k hk).ab; have d2' := (hF k hk).bc; have d3' := (hF k hk).ac
        rcases hr with e | e | e <;> (simp only [Prod.mk.injEq] at e; obtain ⟨e1, e2, e3⟩ := e)
        · rw [e1, e2, e3]
        · rw [e1, e2, e3, canF_rot (by omega) (by omega) (by omega)]
        · rw [e1, e2, e3, ← canF_rot (a := (d1 : Int)) (b := b) (c := a) (by omega) (by omega) (by omega)]
      have hlt : ltB ((A p : Int), (B p : Int), (C p : Int)) ((A q : Int), (B q : Int), (C q : Int)) = true := by
        have := List.pairwise_iff_getElem.1 hs p q (by simp; omega) (by simp; omega) hpq
        simpa using this
      rw [hcan (by omega) r1, hcan hq r2, ltB_irr] at hlt
      cases hlt)
    simp only at hle hpos ⊢
    omega
end
end Go.Proofs.Ytdglijdiiggdgaa
namespace Go.Proofs.Ytdglijdiiggdgaa
open Geo
theorem sideF_G (X Y Z : Nat → Int) (a b c : Nat) : ∀ (f k : Nat) (s : Int), sideF X Y Z a b c f k s = sideG (sgP X Y Z a b c) a b c f k s
  | 0, k, s => rfl
  | f + 1, k, s => by unfold sideF sideG; rw [sideF_G X Y Z a b c f, sideF_G X Y Z a b c f]
theorem sdF_G (X Y Z : Nat → Int) (a b c q : Nat) : sdF X Y Z a b c q = sideG (sgP X Y Z a b c) a b c q 0 0 := sideF_G X Y Z a b c q 0 0
section
variable {X Y Z : Nat → Int} {n : Nat}
def OkC (X Y Z : Nat → Int) (n a b c : Nat) : Prop := sdF X Y Z a b c (max (c + 1) 4) ≠ 0 ∧ sdF X Y Z a b c n ≠ 0
def tOf (X Y Z : Nat → Int) (a b c : Nat) : T3 := fctT a b c (sdF X Y Z a b c (max (c + 1) 4))
theorem mem_bC {a b : Nat} {t : T3} : ∀ (f c : Nat) (G F : List T3), t ∈ (bC X Y Z n a b f c G F).2 ↔ t ∈ F ∨ ∃ j, c ≤ j ∧ j < c + f ∧ OkC X Y Z n a b j ∧ t = tOf X Y Z a b j
  | 0, c, G, F => by
    unfold bC
    constructor
    · exact .inl
    · rintro (h | ⟨j, h1, h2, _⟩)
      · exact h
      · omega
  | f + 1, c, G, F => by
    have up : ∀ P : Nat → Prop, (∃ j, c ≤ j ∧ j < c + (f + 1) ∧ P j) ↔ P c ∨ ∃ j, c + 1 ≤ j ∧ j < c + 1 + f ∧ P j := by
      intro P
      constructor
      · rintro ⟨j, h1, h2, h3⟩
        rcases Nat.lt_or_ge c j with h | h
        · exact .inr ⟨j, by omega, by omega, h3⟩
        · have : j = c := by omega
          subst this; exact .inl h3
      · rintro (h | ⟨j, h1, h2, h3⟩)
        · exact ⟨c, Nat.le_refl _, by omega, h⟩
        · exact ⟨j, by omega, by omega, h3⟩
    rw [up]
    unfold bC
    split
    · rename_i h
      rw [mem_bC f (c + 1)]
      constructor
      · rintro (h' | h')
        · exact .inl h'
        · exact .inr (.inr h')
      · rintro (h' | h' | h')
        · exact .inl h'
        · exact absurd h h'.1.1
        · exact .inr h'
    · rename_i h
      split
      · rename_i h2
        rw [mem_bC f (c + 1)]
        constructor
        · rintro (h' | h')
          · exact .inl h'
          · exact .inr (.inr h')
        · rintro (h' | h' | h')
          · exact .inl h'
          · exact absurd h2 h'.1.2
          · exact .inr h'
      · rename_i h2
        rw [mem_bC f (c + 1), List.mem_append, List.mem_singleton]
        constructor
        · rintro ((h' | h') | h')
          · exact .inl h'
          · exact .inr (.inl ⟨⟨h, h2⟩, h'⟩)
          · exact .inr (.inr h')
        · rintro (h' | h' | h')
          · exact .inl (.inl h')
          · exact .inl (.inr h'.2)
          · exact .inr h'
theorem mem_bB {a : Nat} {t : T3} : ∀ (f b : Nat) (G F : List T3), t ∈ (bB X Y Z n a f b G F).2 ↔ t ∈ F ∨ ∃ i j, b ≤ i ∧ i < b + f ∧ i < j ∧ j < n ∧ OkC X Y Z n a i j ∧ t = tOf X Y Z a i j
  | 0, b, G, F => by
    unfold bB
    constructor
    · exact .inl
    · rintro (h | ⟨i, j, h1, h2, _⟩)
      · exact h
      · omega
  | f + 1, b, G, F => by
    unfold bB
    rw [mem_bB f (b + 1), mem_bC]
    constructor
    · rintro ((h | ⟨j, h1, h2, h3⟩) | ⟨i, j, h1, h2, h3⟩)
      · exact .inl h
      · exact .inr ⟨b, j, Nat.le_refl _, by omega, by omega, by omega, h3⟩
      · exact .inr ⟨i, j, by omega, by omega, h3⟩
    · rintro (h | ⟨i, j, h1, h2, h3, h4, h5⟩)
      · exact .inl (.inl h)
      · rcases Nat.lt_or_ge b i with h | h
        · exact .inr ⟨i, j, by omega, by omega, h3, h4, h5⟩
        · have : i = b := by omega
          subst this
          exact .inl (.inr ⟨j, by omega, by omega, h5⟩)
theorem mem_bA {t : T3} : ∀ (f a : Nat) (G F : List T3), t ∈ (bA X Y Z n f a G F).2 ↔ t ∈ F ∨ ∃ h i j, a ≤ h ∧ h < a + f ∧ h < i ∧ i < j ∧ j < n ∧ OkC X Y Z n h i j ∧ t = tOf X Y Z h i j
  | 0, a, G, F => by
    unfold bA
    constructor
    · exact .inl
    · rintro (h | ⟨i, j, k, h1, h2, _⟩)
      · exact h
      · omega
  | f + 1, a, G, F => by
    unfold bA
    rw [mem_bA f (a + 1), mem_bB]
    constructor
    · rintro ((h | ⟨i, j, h1, h2, h3, h4, h5⟩) | ⟨h, i, j, h1, h2, h3⟩)
      · exact .inl h
      · exact .inr ⟨a, i, j, Nat.le_refl _, by omega, by omega, h3, h4, h5⟩
      · exact .inr ⟨h, i, j, by omega, by omega, h3⟩
    · rintro (h | ⟨h, i, j, h1, h2, h3, h4, h5, h6⟩)
      · exact .inl (.inl h)
      · rcases Nat.lt_or_ge a h with h' | h'
        · exact .inr ⟨h, i, j, by omega, by omega, h3, h4, h5, h6⟩
        · have : h = a := by omega
          subst this
          exact .inl (.inr ⟨i, j, by omega, by omega, h4, h5, h6⟩)
theorem tOf_canon (a b c : Nat) : canF (tOf X Y Z a b c).1 (tOf X Y Z a b c).2.1 (tOf X Y Z a b c).2.2 = tOf X Y Z a b c := by
  unfold tOf fctT
  split <;> exact canF_idem _ _ _
theorem fA_mem {L : List T3} {j : Nat} (hj : j < L.length) : (fA L j, fB L j, fC L j) ∈ L := by
  have e := fABC hj
  exact List.mem_of_getElem? e
theorem mem_get {L : List T3} {t : T3} (h : t ∈ L) : ∃ j, j < L.length ∧ t = (fA L j, fB L j, fC L j) := by
  obtain ⟨j, hj, e⟩ := List.mem_iff_getElem.1 h
  refine ⟨j, hj, ?_⟩
  have e2 := fABC hj
  rw [List.getElem?_eq_getElem hj] at e2
  injection e2 with e2
  rw [← e, e2]
/-- The final facets are the facets. -/
theorem mem_bldF {t : T3} : t ∈ bldF n X Y Z ↔ InF (sgP X Y Z) n t := by
  unfold bldF
  rw [mem_sortF]
  have hcan : ∀ u, u ∈ (bA X Y Z n n 0 [] []).2 → canF u.1 u.2.1 u.2.2 = u := by
    intro u hu
    rcases (mem_bA n 0 [] []).1 hu with h | ⟨h, i, j, _, _, _, _, _, _, rfl⟩
    · cases h
    · exact tOf_canon h i j
  constructor
  · rintro (h | ⟨j, _, h2, rfl⟩)
    · cases h
    · have hm := fA_mem (L := (bA X Y Z n n 0 [] []).2) (j := j) (by omega)
      have hc := hcan _ hm
      simp only at hc
      rw [hc]
      rcases (mem_bA n 0 [] []).1 hm with h | ⟨a, b, c, _, _, h3, h4, h5, h6, e⟩
      · cases h
      · refine ⟨a, b, c, h3, h4, h5, ?_, ?_, ?_⟩
        · rw [← sdF_G]; exact h6.1
        · rw [← sdF_G]; exact h6.2
        · rw [e, ← sdF_G]; rfl
  · rintro ⟨a, b, c, h1, h2, h3, h4, h5, h6⟩
    right
    have hm : t ∈ (bA X Y Z n n 0 [] []).2 := by
      refine (mem_bA n 0 [] []).2 (.inr ⟨a, b, c, Nat.zero_le _, by omega, h1, h2, h3, ⟨?_, ?_⟩, ?_⟩)
      · rw [sdF_G]; exact h4
      · rw [sdF_G]; exact h5
      · rw [h6, ← sdF_G]; rfl
    obtain ⟨j, hj, e⟩ := mem_get hm
    refine ⟨j, Nat.zero_le _, by omega, ?_⟩
    have hc := hcan t hm
    rw [e] at hc ⊢
    exact hc.symm
end
theorem unsF_all {a b c : Int} {sv : Nat → Int} : ∀ (f k : Nat), unsF a b c sv f k = true → ∀ v, k ≤ v → v < k + f → ownB a b c v = false → sv v ≠ -1
  | 0, k, _, v, h1, h2, _ => by omega
  | f + 1, k, h, v, h1, h2, h3 => by
    unfold unsF at h
    by_cases ho : ownB a b c k = true
    · rw [if_pos ho] at h
      rcases Nat.lt_or_ge k v with h' | h'
      · exact unsF_all f (k + 1) h v (by omega) (by omega) h3
      · have : v = k := by omega
        subst this
        rw [ho] at h3; cases h3
    · rw [if_neg ho] at h
      by_cases hs : sv k = -1
      · rw [if_pos hs] at h; cases h
      · rw [if_neg hs] at h
        rcases Nat.lt_or_ge k v with h' | h'
        · exact unsF_all f (k + 1) h v (by omega) (by omega) h3
        · have : v = k := by omega
          subst this
          exact hs
theorem facF_none {n : Nat} {A B C : Nat → Int} {sv : Nat → Nat → Int} : ∀ (f k : Nat), facF n A B C sv f k = none → ∀ j, k ≤ j → j < k + f → plcB n (A j) (B j) (C j) = true ∧ badF n A B C sv j = false
  | 0, k, _, j, h1, h2 => by omega
  | f + 1, k, h, j, h1, h2 => by
    unfold facF at h
    by_cases hp : plcB n (A k) (B k) (C k) = false
    · rw [if_pos hp] at h; cases h
    · rw [if_neg hp] at h
      by_cases hb : badF n A B C sv k = true
      · rw [if_pos hb] at h; cases h
      · rw [if_neg hb] at h
        rcases Nat.lt_or_ge k j with h' | h'
        · exact facF_none f (k + 1) h j (by omega) (by omega)
        · have : j = k := by omega
          subst this
          exact ⟨by simpa using hp, by simpa using hb⟩
theorem edgesTo_congr {A B C A' B' C' : Nat → Int} : ∀ m, (∀ k, k < m → A k = A' k ∧ B k = B' k ∧ C k = C' k) → edgesTo A B C m = edgesTo A' B' C' m
  | 0, _ => rfl
  | m + 1, h => by
    unfold edgesTo
    obtain ⟨h1, h2, h3⟩ := h m (by omega)
    rw [edgesTo_congr m (fun k hk => h k (by omega)), h1, h2, h3]
theorem rising {f : Nat → T3} {m : Nat} (h : ∀ k, k + 1 < m → ltB (f k) (f (k + 1)) = true) : SortedT ((List.range m).map f) := by
  refine List.pairwise_iff_getElem.2 fun i j hi hj hij => ?_
  simp only [List.length_map, List.length_range] at hi hj
  simp only [List.getElem_map, List.getElem_range]
  obtain ⟨d, rfl⟩ : ∃ d, j = i + d + 1 := ⟨j - i - 1, by omega⟩
  clear hij
  induction d with
  | zero => exact h i (by omega)
  | succ d ih => exact ltB_trans (ih (by simp; omega) (by omega)) (h (i + d + 1) (by omega))
theorem bldR_small {n : Nat} {X Y Z : Nat → Int} (h0 : (chk n X Y Z).1 = 0) (h4 : n < 4) : (bldR n X Y Z).F = [] := by
  unfold bldR
  rw [if_neg (by simpa using h0), if_pos h4]
theorem bldR_big {n : Nat} {X Y Z : Nat → Int} (h0 : (chk n X Y Z).1 = 0) (h4 : ¬ n < 4) : (bldR n X Y Z).F = bldF n X Y Z := by
  unfold bldR
  rw [if_neg (by simpa using h0), if_neg h4]
theorem facs_agree (n m : Nat) (X Y Z A B C : Nat → Int) : facR n m X Y Z A B C (fun k => svI X Y Z (A k) (B k) (C k)) = rfcR n m X Y Z A B C := by
  unfold facR rfcR
  by_cases h0 : (chk n X Y Z).1 = 0
  case neg => rw [if_neg h0, if_neg h0]
  rw [if_pos h0, if_pos h0]
  cases hf : facF n A B C (fun k => svI X Y Z (A k) (B k) (C k)) m 0 with
  | some r => rfl
  | none =>
    have hall := facF_none m 0 hf
    show (if (n < 4 ∧ 0 < m) ∨ (4 ≤ n ∧ closB A B C m = false) then ((170 : Int), (m : Int)) else (0, 0)) = if (bldR n X Y Z).F = listT m A B C then (0, 0) else (170, (m : Int))
    by_cases h4 : n < 4
    · rw [bldR_small h0 h4]
      by_cases hm : 0 < m
      · rw [if_pos (.inl ⟨h4, hm⟩), if_neg]
        intro e
        have := congrArg List.length e
        rw [listT_len] at this
        simp at this; omega
      · have : m = 0 := by omega
        subst this
        rw [if_neg (by omega), if_pos (show [] = listT 0 A B C from rfl)]
    · rw [bldR_big h0 h4]
      obtain ⟨_, hco⟩ := chk_all h0
      obtain ⟨V, hw, hg, hS⟩ := sgP_geo hco
      have hn4 : 4 ≤ n := by omega
      have hpl : ∀ k, k < m → 0 ≤ A k ∧ A k < n ∧ 0 ≤ B k ∧ B k < n ∧ 0 ≤ C k ∧ C k < n ∧ A k ≠ B k ∧ B k ≠ C k ∧ C k ≠ A k := fun k hk => plcB_facts (hall k (Nat.zero_le _) (by omega)).1
      have hcast : ∀ k, k < m → A k = ((A k).toNat : Int) ∧ B k = ((B k).toNat : Int) ∧ C k = ((C k).toNat : Int) := fun k hk => by have := hpl k hk; omega
      have hbad : ∀ k, k < m → canF (A k) (B k) (C k) = (A k, B k, C k) ∧ (0 < k → ltB (A (k - 1), B (k - 1), C (k - 1)) (A k, B k, C k) = true) ∧ unsF (A k) (B k) (C k) (svI X Y Z (A k) (B k) (C k)) n 0 = true := by
        intro k hk
        have := (hall k (Nat.zero_le _) (by omega)).2
        unfold badF at this
        simp only [Bool.or_eq_false_iff, Bool.and_eq_false_iff, Bool.not_eq_false', decide_eq_true_eq, decide_eq_false_iff_not] at this
        obtain ⟨⟨h1, h2⟩, h3⟩ := this
        exact ⟨h1, fun hk0 => h2.resolve_left (by omega), h3⟩
      have hF : ∀ k, k < m → Facet V n (A k).toNat (B k).toNat (C k).toNat := by
        intro k hk
        have hp := hpl k hk
        refine ⟨by omega, by omega, by omega, by omega, by omega, by omega, fun v hv e1 e2 e3 => ?_⟩
        have hu := unsF_all n 0 (hbad k hk).2.2 v (Nat.zero_le _) (by omega) (by unfold ownB; simp; omega)
        unfold svI sgI at hu
        rw [Int.toNat_natCast] at hu
        refine sign_pos ?_
        rw [hS _ _ _ _ (by omega) (by omega) (by omega) hv (by omega) (by omega) (by omega) (by omega) (by omega) (by omega)]
        rcases sgP_cases X Y Z (A k).toNat (B k).toNat (C k).toNat v with h | h
        · exact h
        · exact absurd h hu
      have hlist : listT m A B C = (List.range m).map fun k => (((A k).toNat : Int), ((B k).toNat : Int), ((C k).toNat : Int)) := by
        unfold listT
        refine List.map_congr_left fun k hk => ?_
        have := hcast k (List.mem_range.1 hk)
        rw [← this.1, ← this.2.1, ← this.2.2]
      have hcl : closB A B C m = closB (fun k => ((A k).toNat : Int)) (fun k => ((B k).toNat : Int)) (fun k => ((C k).toNat : Int)) m := by
        unfold closB
        rw [edgesTo_congr (A := A) (B := B) (C := C) m hcast]
      have hiff := closed_iff (m := m) (A := fun k => (A k).toNat) (B := fun k => (B k).toNat) (C := fun k => (C k).toNat) (FL := bldF n X Y Z) hn4 hw hg hF
        (fun k hk => by have h1 := (hbad k hk).1; have h2 := hcast k hk; rw [← h2.1, ← h2.2.1, ← h2.2.2]; exact h1)
        (rising fun k hk => by
          have h1 := (hbad (k + 1) hk).2.1 (by omega)
          have h2 := hcast k (by omega)
          have h3 := hcast (k + 1) hk
          rw [Nat.add_sub_cancel] at h1
          rw [← h2.1, ← h2.2.1, ← h2.2.2, ← h3.1, ← h3.2.1, ← h3.2.2]
          exact h1)
        (sorted_sortF _ _ _ List.Pairwise.nil)
        (fun t => (mem_bldF (t := t)).trans (inF_iff hn4 hg hS t))
      rw [← hcl, ← hlist] at hiff
      by_cases hcb : closB A B C m = true
      · rw [if_neg (by rw [hcb]; simp; omega), if_pos (hiff.1 hcb)]
      · rw [if_pos (.inr ⟨hn4, by simpa using hcb⟩), if_neg (fun e => hcb (hiff.2 e))]
end Go.Proofs.Ytdglijdiiggdgaa
namespace Go.Proofs.Ytdglijdiiggdgaa
open Go.RowKit Go.Maps Geo
set_option maxRecDepth 100000 in
set_option maxHeartbeats 2000000 in
theorem law21_facets (pl pt : Option Addr) (n cp m cp2 : Nat) (X Y Z A B C : Nat → Int) (hn : n ≤ maxLen) (hm : m ≤ maxLen) (hwf : Hid (∀ k, k < m → Wf (A k) ∧ Wf (B k) ∧ Wf (C k))) (w : World) (hp : Hid (PtsO w pl n X Y Z)) (ht : Hid (PtsO w pt m A B C)) :
    Calls Try.prog 3 #[.slice pl n cp, .slice pt m cp2] w fun e w' => e = .returned (.bool true) ∧ Below w.heap.size w w' := by
  unfold maxLen at hn hm
  by_cases hbig : 11 < n ∧ n ≤ 512
  · have hb1 : (11 : Int) < n := by omega
    have hb2 : (n : Int) ≤ 512 := by omega
    go_enter Try.func3, Try.ntmps3
    go_wp2_with fail
    refine (law21_awake _).mono ?_; rintro e W1 ⟨rfl, hX⟩
    go_wp2_with fail
    go_returns
    exact ⟨rfl, hX⟩
  by_cases hbig2 : 60 < m
  · have hbig2' : (60 : Int) < m := by omega
    by_cases hb : 11 < n
    · have hb1 : (11 : Int) < n := by omega
      have hb2 : ¬ (n : Int) ≤ 512 := by omega
      go_enter Try.func3, Try.ntmps3
      go_wp2_with fail
      refine (law21_awake _).mono ?_; rintro e W1 ⟨rfl, hX⟩
      go_wp2_with fail
      go_returns
      exact ⟨rfl, hX⟩
    · have hb1 : ¬ (11 : Int) < n := by omega
      go_enter Try.func3, Try.ntmps3
      go_wp2_with fail
      refine (law21_awake _).mono ?_; rintro e W1 ⟨rfl, hX⟩
      go_wp2_with fail
      go_returns
      exact ⟨rfl, hX⟩
  have hbig2' : ¬ (60 : Int) < m := by omega
  have hn2 : n ≤ 64 ∨ 512 < n := by omega
  have hc1 := cert_facets pl n cp pt m cp2 X Y Z A B C (fun k => svI X Y Z (A k) (B k) (C k))
  have hc2 := ref21_facets pl n cp pt m cp2 X Y Z A B C hn2 (by omega)
  rw [← facs_agree] at hc2
  obtain ⟨r1, hr1⟩ : ∃ r, r = (facR n m X Y Z A B C (fun k => svI X Y Z (A k) (B k) (C k))).1 := ⟨_, rfl⟩
  obtain ⟨r2, hr2⟩ : ∃ r, r = (facR n m X Y Z A B C (fun k => svI X Y Z (A k) (B k) (C k))).2 := ⟨_, rfl⟩
  rw [← hr1, ← hr2] at hc1 hc2
  have HC1 := Lib.hid hc1
  have HC2 := Lib.hid hc2
  have HS : Hid (∀ k, k < m → (chk n X Y Z).1 = 0 → plcB n (A k) (B k) (C k) = true → ∀ v : Nat, v < n → ownB (A k) (B k) (C k) v = false → ∀ w', PtsO w' pl n X Y Z → Calls Try.prog 34 #[.slice pl n cp, .agg #[.int .i64 (A k), .int .i64 (B k), .int .i64 (C k)], .int .i64 v] w' fun e w'' => e = .returned (.tuple #[.bool (decide ((fun k => svI X Y Z (A k) (B k) (C k)) k v = -1)), .int .i64 0]) ∧ Below w'.heap.size w' w'') := by
    intro k hk h0 hpl v hv hown w' hw'
    obtain ⟨h5, hco⟩ := chk_all h0
    exact sees_prog pl n cp X Y Z (A k) (B k) (C k) v (by omega) hco hpl (by omega) (by omega) hown w' hw'
  clear hc1 hc2 hr1 hr2
  by_cases hb : 11 < n
  · have hb1 : (11 : Int) < n := by omega
    have hb2 : ¬ (n : Int) ≤ 512 := by omega
    have HM : Hid (m < 1048576) := by refine Lib.hid ?_; omega
    clear hbig hb hn2
    go_enter Try.func3, Try.ntmps3
    go_wp2_with fail
    refine (HC1.out HM.out hwf w hp ht HS).mono ?_; rintro e W1 ⟨rfl, hX⟩
    have hp1 := Lib.hid (hp.out.below hX)
    have ht1 := Lib.hid (ht.out.below hX)
    have HB := Lib.hid hX
    clear hX
    go_wp2_with fail
    refine (HC2.out _ hp1 ht1).mono ?_; rintro e W2 ⟨rfl, hX⟩
    have HB2 := Lib.hid (after HB.out hX)
    clear hX HB hp1 ht1
    go_wp2_with fail
    refine (law21_awake _).mono ?_; rintro e W4 ⟨rfl, hX⟩
    have HB4 := Lib.hid (after HB2.out hX)
    go_wp2_with fail
    go_returns
    exact ⟨by simp, HB4.out⟩
  · have hb1 : ¬ (11 : Int) < n := by omega
    have HM : Hid (m < 1048576) := by refine Lib.hid ?_; omega
    clear hbig hb hn2
    go_enter Try.func3, Try.ntmps3
    go_wp2_with fail
    refine (HC1.out HM.out hwf w hp ht HS).mono ?_; rintro e W1 ⟨rfl, hX⟩
    have hp1 := Lib.hid (hp.out.below hX)
    have ht1 := Lib.hid (ht.out.below hX)
    have HB := Lib.hid hX
    clear hX
    go_wp2_with fail
    refine (HC2.out _ hp1 ht1).mono ?_; rintro e W2 ⟨rfl, hX⟩
    have HB2 := Lib.hid (after HB.out hX)
    clear hX HB hp1 ht1
    go_wp2_with fail
    refine (law21_awake _).mono ?_; rintro e W4 ⟨rfl, hX⟩
    have HB4 := Lib.hid (after HB2.out hX)
    go_wp2_with fail
    go_returns
    exact ⟨by simp, HB4.out⟩
end Go.Proofs.Ytdglijdiiggdgaa
