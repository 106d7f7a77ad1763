import Derived.Test.YtdglijdiiggdgaaDet
namespace Go.Proofs.Ytdglijdiiggdgaa
open Go.RowKit Go.Maps

def badF (n : Nat) (A B C : Nat → Int) (sv : Nat → Nat → Int) (k : Nat) : Bool :=
  !decide (canF (A k) (B k) (C k) = (A k, B k, C k)) || (decide (0 < k) && !ltB (A (k - 1), B (k - 1), C (k - 1)) (A k, B k, C k)) || !unsF (A k) (B k) (C k) (sv k) n 0
def facF (n : Nat) (A B C : Nat → Int) (sv : Nat → Nat → Int) : Nat → Nat → Option (Int × Int)
  | 0, _ => none
  | f + 1, k => if plcB n (A k) (B k) (C k) = false then some (21, (k : Int)) else if badF n A B C sv k = true then some (170, (k : Int)) else facF n A B C sv f (k + 1)
def facO (n m : Nat) (A B C : Nat → Int) : Option (Int × Int) → Int × Int
  | some r => r
  | none => if (n < 4 ∧ 0 < m) ∨ (4 ≤ n ∧ closB A B C m = false) then (170, (m : Int)) else (0, 0)
def facR (n m : Nat) (X Y Z A B C : Nat → Int) (sv : Nat → Nat → Int) : Int × Int :=
  if (chk n X Y Z).1 = 0 then
    facO n m A B C (facF n A B C sv m 0)
  else chk n X Y Z
section
variable {n m k : Nat} {A B C : Nat → Int} {sv : Nat → Nat → Int} {r : Option (Int × Int)}
theorem fac_end (hk : m ≤ k) (h : facF n A B C sv (m - k) k = r) : r = none := by
  rw [show m - k = 0 by omega] at h; exact h.symm
theorem fac_plc (hk : k < m) (hp : plcB n (A k) (B k) (C k) = false) (h : facF n A B C sv (m - k) k = r) : r = some (21, (k : Int)) := by
  rw [show m - k = (m - (k + 1)) + 1 by omega, facF, if_pos hp] at h; exact h.symm
theorem fac_bad (hk : k < m) (hp : plcB n (A k) (B k) (C k) = true) (hb : badF n A B C sv k = true) (h : facF n A B C sv (m - k) k = r) : r = some (170, (k : Int)) := by
  rw [show m - k = (m - (k + 1)) + 1 by omega, facF, if_neg (by simp [hp]), if_pos hb] at h; exact h.symm
theorem fac_on (hk : k < m) (hp : plcB n (A k) (B k) (C k) = true) (hb : badF n A B C sv k = false) (h : facF n A B C sv (m - k) k = r) : facF n A B C sv (m - (k + 1)) (k + 1) = r := by
  rw [show m - k = (m - (k + 1)) + 1 by omega, facF, if_neg (by simp [hp]), if_neg (by simp [hb])] at h; exact h
end
attribute [local irreducible] wpCalm
set_option maxRecDepth 100000 in
set_option maxHeartbeats 8000000 in
theorem cert_facets (pl : Option Addr) (n cp : Nat) (pt : Option Addr) (m cp2 : Nat) (X Y Z A B C : Nat → Int) (sv : Nat → Nat → Int) (hn : n < 1048576) (hm : m < 1048576) (hwf : Hid (∀ k, k < m → Wf (A k) ∧ Wf (B k) ∧ Wf (C k)))
    (w : World) (hp : Hid (PtsO w pl n X Y Z)) (ht : Hid (PtsO w pt m A B C))
    (HS : Hid (∀ k, k < m → (chk n X Y Z).1 = 0 → plcB n (A k) (B k) (C k) = true → ∀ v : Nat, v < n → ownB (A k) (B k) (C k) v = false → ∀ w', PtsO w' pl n X Y Z → Calls Try.prog 34 #[.slice pl n cp, .agg #[.int .i64 (A k), .int .i64 (B k), .int .i64 (C k)], .int .i64 v] w' fun e w'' => e = .returned (.tuple #[.bool (decide (sv k v = -1)), .int .i64 0]) ∧ Below w'.heap.size w' w'')) :
    Calls Try.prog 8 #[.slice pl n cp, .slice pt m cp2] w fun e w' => e = .returned (.tuple #[.int .i64 (facR n m X Y Z A B C sv).1, .int .i64 (facR n m X Y Z A B C sv).2]) ∧ Below w.heap.size w w' := by
  obtain ⟨r, hr⟩ : ∃ r, r = facR n m X Y Z A B C sv := ⟨_, rfl⟩
  rw [← hr]
  have HR := Lib.hid hr
  clear hr
  go_enter Try.func8, Try.ntmps8
  go_wp2_with fail
  refine (seq_check pl n cp X Y Z w hp).mono ?_; rintro e W ⟨rfl, hB⟩
  obtain ⟨c1, hc1⟩ : ∃ c1, c1 = (chk n X Y Z).1 := ⟨_, rfl⟩
  obtain ⟨c2, hc2⟩ : ∃ c2, c2 = (chk n X Y Z).2 := ⟨_, rfl⟩
  rw [← hc1, ← hc2]
  have HC1 := Lib.hid hc1; have HC2 := Lib.hid hc2
  clear hc1 hc2
  by_cases h0 : c1 = 0
  case neg =>
    have hres : r = (c1, c2) := by rw [HR.out]; unfold facR; rw [if_neg (by rw [← HC1.out]; exact h0), HC1.out, HC2.out]
    have HRES := Lib.hid hres
    clear hres
    go_wp2
    go_returns
    exact retP HRES.out hB
  obtain ⟨o, ho⟩ : ∃ o, o = facF n A B C sv m 0 := ⟨_, rfl⟩
  have HF0 : Hid (facF n A B C sv (m - 0) 0 = o) := ho.symm
  have hR2 : r = facO n m A B C o := by rw [HR.out]; unfold facR; rw [if_pos (by rw [← HC1.out]; exact h0), ho]
  have HR2 := Lib.hid hR2
  clear hR2 ho
  go_wp2_with fail
  go_loopw [21] (fun u wr => ∃ k : Nat, k ≤ m ∧ u = .int .i64 k ∧ Hid (facF n A B C sv (m - k) k = o) ∧ Below w.heap.size w wr)
    (fun u _ => m - (intOf u).toNat)
  case atStart => exact ⟨0, Nat.zero_le _, rfl, HF0, hB⟩
  case round =>
    clear hB HF0
    obtain ⟨k, hk, rfl, HF, hB⟩ := hrel
    by_cases hlt : k < m
    case neg =>
      have hres := HR2.out
      rw [fac_end (by omega) HF.out] at hres
      unfold facO at hres
      have hkm : k = m := by omega
      subst hkm
      clear hlt hk
      by_cases h4 : n < 4
      · have h4' : (n : Int) < 4 := by omega
        by_cases hm0 : 0 < k
        · rw [if_pos (.inl ⟨h4, hm0⟩)] at hres
          have HRES := Lib.hid hres
          clear hres
          go_wp2
          go_returns
          exact retP HRES.out hB
        · rw [if_neg (by omega)] at hres
          have HRES := Lib.hid hres
          clear hres
          go_wp2
          go_returns
          exact retP HRES.out hB
      · have h4' : ¬ (n : Int) < 4 := by omega
        have h4'' : 4 ≤ n := by omega
        have HRES := Lib.hid hres
        clear hres
        go_wp2_with fail
        refine (cert_closed pt k cp2 A B C hm hwf _ (ht.out.below hB)).mono ?_; rintro e W2 ⟨rfl, hX⟩
        replace hB := after hB hX
        clear hX
        cases hcl : closB A B C k with
        | false =>
          have hr3 := HRES.out
          rw [if_pos (.inr ⟨h4'', hcl⟩)] at hr3
          have HR3 := Lib.hid hr3
          clear hr3
          go_wp2
          go_returns
          exact retP HR3.out hB
        | true =>
          have hr3 := HRES.out
          rw [if_neg (by rw [hcl]; simp; omega)] at hr3
          have HR3 := Lib.hid hr3
          clear hr3
          go_wp2
          go_returns
          exact retP HR3.out hB
    obtain ⟨q, off2, rfl, hq0⟩ := ht.out.at hlt
    have htw := hq0.1
    have htr := hq0.mono hB htw
    obtain ⟨g1, g2, g3⟩ := htr.2 k hlt
    have hqr := htr.1
    clear htr
    obtain ⟨a, ha⟩ : ∃ a, a = A k := ⟨_, rfl⟩
    obtain ⟨b1, hb1⟩ : ∃ b1, b1 = B k := ⟨_, rfl⟩
    obtain ⟨c, hc1⟩ : ∃ c, c = C k := ⟨_, rfl⟩
    rw [← ha] at g1; rw [← hb1] at g2; rw [← hc1] at g3
    have EA := Lib.hid ha; have EB := Lib.hid hb1; have EC := Lib.hid hc1
    clear ha hb1 hc1
    go_wp2_with fail
    first | refine wp_named ?_ | refine calls_named ?_
    intro W0 hW
    have k1 : W0.heap[wr.heap.size]? = some (.cells #[.int .i64 a, .int .i64 b1, .int .i64 c] 45 (0, 0)) := by rw [hW]; exact heap_at rfl
    have z1 : wr.heap.size < W0.heap.size := by rw [hW]; simp
    replace hB : Below w.heap.size w W0 := by rw [hW]; have := hB.size; go_grown
    clear hW g1 g2 g3
    refine (cert_places n a b1 c pl cp W0).mono ?_; rintro e W1 ⟨rfl, hX⟩
    replace k1 := (hX.block _ z1).trans k1
    replace z1 := Nat.lt_of_lt_of_le z1 hX.size
    replace hB := after hB hX
    clear hX
    obtain ⟨kq, kr⟩ := cellB k1
    cases hpl : plcB n a b1 c with
    | false =>
      have hres := HR2.out
      rw [fac_plc hlt (by rw [← EA.out, ← EB.out, ← EC.out]; exact hpl) HF.out] at hres
      have HRES := Lib.hid hres
      clear hres
      go_wp2
      go_returns
      exact retP HRES.out hB
    | true =>
      have HPL := Lib.hid hpl
      clear hpl
      have hcan := facet_canon a b1 c
      obtain ⟨x, hx⟩ : ∃ x, x = (canF a b1 c).1 := ⟨_, rfl⟩
      obtain ⟨y, hy⟩ : ∃ y, y = (canF a b1 c).2.1 := ⟨_, rfl⟩
      obtain ⟨z, hz⟩ : ∃ z, z = (canF a b1 c).2.2 := ⟨_, rfl⟩
      unfold tri at hcan
      rw [← hx, ← hy, ← hz] at hcan
      have HCAN := Lib.hid hcan
      have HXYZ : Hid (canF a b1 c = (x, y, z)) := by show _ = _; rw [hx, hy, hz]
      clear hcan hx hy hz
      by_cases hcn : x = a ∧ y = b1 ∧ z = c
      case neg =>
        have hbad : badF n A B C sv k = true := by
          unfold badF
          rw [← EA.out, ← EB.out, ← EC.out, HXYZ.out]
          have : decide ((x, y, z) = (a, b1, c)) = false := by simpa using hcn
          rw [this]; rfl
        have hres := HR2.out
        rw [fac_bad hlt (by rw [← EA.out, ← EB.out, ← EC.out]; exact HPL.out) hbad HF.out] at hres
        have HRES := Lib.hid hres
        clear hres hbad
        go_wp2_with fail
        have hnb : (x == a && (y == b1 && z == c)) = false := by simp; exact fun h1 h2 h3 => hcn ⟨h1, h2, h3⟩
        have EQ3 := eq3 x y z a b1 c
        rw [hnb] at EQ3
        clear hnb
        refine wp_calm0 24 (by kernel_rfl) (by kernel_rfl) ?_
        intro J hJ
        simp only [List.take_succ_cons, List.take_zero]
        iterate 3 ((with_reducible apply wpCalm_step); intro M hM; go_simp; first | ((with_reducible apply hM); clear hM M) | (rw [if_neg]; rotate_left; (· intro h; cases h); (with_reducible apply hM); clear hM M) | ((with_reducible apply calm_intro); (· intro wc hw; obtain ⟨hc, hf⟩ := bcell (hJ wc hw); go_simp; first | with_reducible exact HCAN.out _ | exact rfl); (with_reducible apply hM); clear hM M))
        with_reducible apply wpCalm_step
        intro M hM
        go_simp
        with_reducible apply calm_intro (v := .bool true)
        · intro wc hw
          go_simp
        with_reducible apply hM
        clear hM M
        repeat ((with_reducible apply wpCalm_step); intro M hM; go_simp; first | ((with_reducible apply hM); clear hM M) | (rw [if_neg]; rotate_left; (· intro h; cases h); (with_reducible apply hM); clear hM M) | ((with_reducible apply calm_intro); (· intro wc hw; obtain ⟨hc, hf⟩ := bcell (hJ wc hw); go_simp; first | with_reducible exact HCAN.out _ | exact rfl); (with_reducible apply hM); clear hM M))
        with_reducible apply wpCalm_nil
        clear hJ J
        intro V hX
        have k2 := (hX.block _ z1).trans k1
        replace hB := after hB hX
        clear hX
        simp only [List.drop_succ_cons, List.drop_zero]
        clear EQ3
        go_wp2
        go_returns
        exact retP HRES.out hB
      obtain ⟨e1, e2, e3⟩ := hcn
      subst e1 e2 e3
      have hcc : decide (canF (A k) (B k) (C k) = (A k, B k, C k)) = true := by rw [← EA.out, ← EB.out, ← EC.out, HXYZ.out]; simp
      have HCC := Lib.hid hcc
      clear hcc
      have hnb : (x == x && (y == y && z == z)) = true := by simp
      have hn0 : 0 < n := by
        have h9 := HPL.out
        unfold plcB inN at h9
        simp at h9
        omega
      obtain ⟨p, off, rfl, hp0⟩ := hp.out.at hn0
      have hpw := hp0.1
      have HUN : Hid (∀ wc, Below W1.heap.size W1 wc → Calls Try.prog 23 #[.slice (some ⟨p, off, none⟩) n cp, .agg #[.int .i64 x, .int .i64 y, .int .i64 z]] wc fun e w' => e = .returned (.bool (unsF x y z (sv k) n 0)) ∧ Below wc.heap.size wc w') := by
        intro wc hw
        refine cert_unseen p off n cp x y z (sv k) X Y Z (by omega) wc (Lib.hid (hp0.mono (after hB hw) hpw)) (Lib.hid ?_)
        intro v hv hown w' hw'
        rw [EA.out, EB.out, EC.out]
        exact HS.out k hlt (by rw [← HC1.out]; exact h0) (by rw [← EA.out, ← EB.out, ← EC.out]; exact HPL.out) v hv (by rw [← EA.out, ← EB.out, ← EC.out]; exact hown) w' (.inr ⟨p, off, rfl, hw'⟩)
      clear hp0 hn0
      obtain ⟨uu, huu⟩ : ∃ uu, uu = unsF x y z (sv k) n 0 := ⟨_, rfl⟩
      rw [← huu] at HUN
      have HUU := Lib.hid huu
      clear huu
      by_cases hk0 : k = 0
      case pos =>
        subst hk0
        cases uu with
        | false =>
          have hbad : badF n A B C sv 0 = true := by
            unfold badF
            rw [← EA.out, ← EB.out, ← EC.out, ← HUU.out]
            simp
          have hres := HR2.out
          rw [fac_bad hlt (by rw [← EA.out, ← EB.out, ← EC.out]; exact HPL.out) hbad HF.out] at hres
          have HRES := Lib.hid hres
          clear hres hbad
          go_wp2_with fail
          have EQ3 := eq3 x y z x y z
          rw [hnb] at EQ3
          refine wp_calm0 24 (by kernel_rfl) (by kernel_rfl) ?_
          intro J hJ
          simp only [List.take_succ_cons, List.take_zero]
          iterate 3 ((with_reducible apply wpCalm_step); intro M hM; go_simp; first | ((with_reducible apply hM); clear hM M) | (rw [if_neg]; rotate_left; (· intro h; cases h); (with_reducible apply hM); clear hM M) | ((with_reducible apply calm_intro); (· intro wc hw; obtain ⟨hc, hf⟩ := bcell (hJ wc hw); go_simp; first | with_reducible exact HCAN.out _ | with_reducible exact HUN.out wc (hJ wc hw) | exact rfl); (with_reducible apply hM); clear hM M))
          with_reducible apply wpCalm_step
          intro M hM
          go_simp
          with_reducible apply calm_intro (v := .bool false)
          · intro wc hw
            go_simp
          with_reducible apply hM
          clear hM M
          repeat ((with_reducible apply wpCalm_step); intro M hM; go_simp; first | ((with_reducible apply hM); clear hM M) | (rw [if_neg]; rotate_left; (· intro h; cases h); (with_reducible apply hM); clear hM M) | ((with_reducible apply calm_intro); (· intro wc hw; obtain ⟨hc, hf⟩ := bcell (hJ wc hw); go_simp; first | with_reducible exact HCAN.out _ | with_reducible exact HUN.out wc (hJ wc hw) | exact rfl); (with_reducible apply hM); clear hM M))
          with_reducible apply wpCalm_nil
          clear hJ J
          intro V hX
          have k2 := (hX.block _ z1).trans k1
          replace hB := after hB hX
          clear hX
          simp only [List.drop_succ_cons, List.drop_zero]
          clear EQ3
          go_wp2
          go_returns
          exact retP HRES.out hB
        | true =>
          have hgood : badF n A B C sv 0 = false := by
            unfold badF
            rw [HCC.out, ← EA.out, ← EB.out, ← EC.out, ← HUU.out]
            simp
          go_wp2_with fail
          have EQ3 := eq3 x y z x y z
          rw [hnb] at EQ3
          refine wp_calm0 24 (by kernel_rfl) (by kernel_rfl) ?_
          intro J hJ
          simp only [List.take_succ_cons, List.take_zero]
          iterate 3 ((with_reducible apply wpCalm_step); intro M hM; go_simp; first | ((with_reducible apply hM); clear hM M) | (rw [if_neg]; rotate_left; (· intro h; cases h); (with_reducible apply hM); clear hM M) | ((with_reducible apply calm_intro); (· intro wc hw; obtain ⟨hc, hf⟩ := bcell (hJ wc hw); go_simp; first | with_reducible exact HCAN.out _ | with_reducible exact HUN.out wc (hJ wc hw) | exact rfl); (with_reducible apply hM); clear hM M))
          with_reducible apply wpCalm_step
          intro M hM
          go_simp
          with_reducible apply calm_intro (v := .bool false)
          · intro wc hw
            go_simp
          with_reducible apply hM
          clear hM M
          repeat ((with_reducible apply wpCalm_step); intro M hM; go_simp; first | ((with_reducible apply hM); clear hM M) | (rw [if_neg]; rotate_left; (· intro h; cases h); (with_reducible apply hM); clear hM M) | ((with_reducible apply calm_intro); (· intro wc hw; obtain ⟨hc, hf⟩ := bcell (hJ wc hw); go_simp; first | with_reducible exact HCAN.out _ | with_reducible exact HUN.out wc (hJ wc hw) | exact rfl); (with_reducible apply hM); clear hM M))
          with_reducible apply wpCalm_nil
          clear hJ J
          intro V hX
          have k2 := (hX.block _ z1).trans k1
          replace hB := after hB hX
          clear hX
          simp only [List.drop_succ_cons, List.drop_zero]
          clear EQ3
          go_wp2_with fail
          go_roundw
          case rel => exact ⟨0 + 1, by omega, by go_num, fac_on hlt (by rw [← EA.out, ← EB.out, ← EC.out]; exact HPL.out) hgood HF.out, hB⟩
          case measure => simp [intOf]; omega
      obtain ⟨j, rfl⟩ : ∃ j, k = j + 1 := ⟨k - 1, by omega⟩
      have hjm : j < m := by omega
      obtain ⟨g1, g2, g3⟩ := (hq0.mono hB htw).2 j hjm
      have hqr1 := (hq0.mono hB htw).1
      obtain ⟨a', ha⟩ : ∃ a', a' = A j := ⟨_, rfl⟩
      obtain ⟨b', hb1⟩ : ∃ b', b' = B j := ⟨_, rfl⟩
      obtain ⟨c', hc1⟩ : ∃ c', c' = C j := ⟨_, rfl⟩
      rw [← ha] at g1; rw [← hb1] at g2; rw [← hc1] at g3
      have EA' := Lib.hid ha; have EB' := Lib.hid hb1; have EC' := Lib.hid hc1
      clear ha hb1 hc1
      have hle := facet_less (a', b', c') (x, y, z)
      unfold tri at hle
      dsimp only at hle
      have HLE := Lib.hid hle
      clear hle
      obtain ⟨lt, hlt'⟩ : ∃ lt, lt = ltB (a', b', c') (x, y, z) := ⟨_, rfl⟩
      rw [← hlt'] at HLE
      have HLT := Lib.hid hlt'
      clear hlt'
      have hw1 : IntKind.i64.wrap (j : Int) = j := by rw [IntKind.wrap_i64]; omega
      cases lt with
      | false =>
        have hbad : badF n A B C sv (j + 1) = true := by
          unfold badF
          rw [HCC.out, ← EA.out, ← EB.out, ← EC.out]
          simp only [Nat.add_sub_cancel]
          rw [← EA'.out, ← EB'.out, ← EC'.out, ← HLT.out]
          simp
        have hres := HR2.out
        rw [fac_bad hlt (by rw [← EA.out, ← EB.out, ← EC.out]; exact HPL.out) hbad HF.out] at hres
        have HRES := Lib.hid hres
        clear hres hbad
        go_wp2_with fail
        have EQ3 := eq3 x y z x y z
        rw [hnb] at EQ3
        refine wp_calm0 24 (by kernel_rfl) (by kernel_rfl) ?_
        intro J hJ
        simp only [List.take_succ_cons, List.take_zero]
        iterate 3 ((with_reducible apply wpCalm_step); intro M hM; go_simp; first | ((with_reducible apply hM); clear hM M) | (rw [if_neg]; rotate_left; (· intro h; cases h); (with_reducible apply hM); clear hM M) | ((with_reducible apply calm_intro); (· intro wc hw; obtain ⟨hc, hf⟩ := bcell (hJ wc hw); go_simp; first | with_reducible exact HCAN.out _ | with_reducible exact HLE.out wc | exact rfl); (with_reducible apply hM); clear hM M))
        with_reducible apply wpCalm_step
        intro M hM
        go_simp
        with_reducible apply calm_intro (v := .bool false)
        · intro wc hw
          go_simp
        with_reducible apply hM
        clear hM M
        repeat ((with_reducible apply wpCalm_step); intro M hM; go_simp; first | ((with_reducible apply hM); clear hM M) | (rw [if_neg]; rotate_left; (· intro h; cases h); (with_reducible apply hM); clear hM M) | ((with_reducible apply calm_intro); (· intro wc hw; obtain ⟨hc, hf⟩ := bcell (hJ wc hw); go_simp; first | with_reducible exact HCAN.out _ | with_reducible exact HLE.out wc | exact rfl); (with_reducible apply hM); clear hM M))
        with_reducible apply wpCalm_nil
        clear hJ J
        intro V hX
        have k2 := (hX.block _ z1).trans k1
        replace hB := after hB hX
        clear hX
        simp only [List.drop_succ_cons, List.drop_zero]
        clear EQ3
        go_wp2
        go_returns
        exact retP HRES.out hB
      | true =>
        cases uu with
        | false =>
          have hbad : badF n A B C sv (j + 1) = true := by
            unfold badF
            rw [← EA.out, ← EB.out, ← EC.out, ← HUU.out]
            simp
          have hres := HR2.out
          rw [fac_bad hlt (by rw [← EA.out, ← EB.out, ← EC.out]; exact HPL.out) hbad HF.out] at hres
          have HRES := Lib.hid hres
          clear hres hbad
          go_wp2_with fail
          have EQ3 := eq3 x y z x y z
          rw [hnb] at EQ3
          refine wp_calm0 24 (by kernel_rfl) (by kernel_rfl) ?_
          intro J hJ
          simp only [List.take_succ_cons, List.take_zero]
          iterate 3 ((with_reducible apply wpCalm_step); intro M hM; go_simp; first | ((with_reducible apply hM); clear hM M) | (rw [if_neg]; rotate_left; (· intro h; cases h); (with_reducible apply hM); clear hM M) | ((with_reducible apply calm_intro); (· intro wc hw; obtain ⟨hc, hf⟩ := bcell (hJ wc hw); go_simp; first | with_reducible exact HCAN.out _ | with_reducible exact HLE.out wc | with_reducible exact HUN.out wc (hJ wc hw) | exact rfl); (with_reducible apply hM); clear hM M))
          with_reducible apply wpCalm_step
          intro M hM
          go_simp
          with_reducible apply calm_intro (v := .bool false)
          · intro wc hw
            go_simp
          with_reducible apply hM
          clear hM M
          repeat ((with_reducible apply wpCalm_step); intro M hM; go_simp; first | ((with_reducible apply hM); clear hM M) | (rw [if_neg]; rotate_left; (· intro h; cases h); (with_reducible apply hM); clear hM M) | ((with_reducible apply calm_intro); (· intro wc hw; obtain ⟨hc, hf⟩ := bcell (hJ wc hw); go_simp; first | with_reducible exact HCAN.out _ | with_reducible exact HLE.out wc | with_reducible exact HUN.out wc (hJ wc hw) | exact rfl); (with_reducible apply hM); clear hM M))
          with_reducible apply wpCalm_nil
          clear hJ J
          intro V hX
          have k2 := (hX.block _ z1).trans k1
          replace hB := after hB hX
          clear hX
          simp only [List.drop_succ_cons, List.drop_zero]
          clear EQ3
          go_wp2
          go_returns
          exact retP HRES.out hB
        | true =>
          have hgood : badF n A B C sv (j + 1) = false := by
            unfold badF
            rw [HCC.out, ← EA.out, ← EB.out, ← EC.out, ← HUU.out]
            simp only [Nat.add_sub_cancel]; rw [← EA'.out, ← EB'.out, ← EC'.out, ← HLT.out]; simp
          go_wp2_with fail
          have EQ3 := eq3 x y z x y z
          rw [hnb] at EQ3
          refine wp_calm0 24 (by kernel_rfl) (by kernel_rfl) ?_
          intro J hJ
          simp only [List.take_succ_cons, List.take_zero]
          iterate 3 ((with_reducible apply wpCalm_step); intro M hM; go_simp; first | ((with_reducible apply hM); clear hM M) | (rw [if_neg]; rotate_left; (· intro h; cases h); (with_reducible apply hM); clear hM M) | ((with_reducible apply calm_intro); (· intro wc hw; obtain ⟨hc, hf⟩ := bcell (hJ wc hw); go_simp; first | with_reducible exact HCAN.out _ | with_reducible exact HLE.out wc | with_reducible exact HUN.out wc (hJ wc hw) | exact rfl); (with_reducible apply hM); clear hM M))
          with_reducible apply wpCalm_step
          intro M hM
          go_simp
          with_reducible apply calm_intro (v := .bool false)
          · intro wc hw
            go_simp
          with_reducible apply hM
          clear hM M
          repeat ((with_reducible apply wpCalm_step); intro M hM; go_simp; first | ((with_reducible apply hM); clear hM M) | (rw [if_neg]; rotate_left; (· intro h; cases h); (with_reducible apply hM); clear hM M) | ((with_reducible apply calm_intro); (· intro wc hw; obtain ⟨hc, hf⟩ := bcell (hJ wc hw); go_simp; first | with_reducible exact HCAN.out _ | with_reducible exact HLE.out wc | with_reducible exact HUN.out wc (hJ wc hw) | exact rfl); (with_reducible apply hM); clear hM M))
          with_reducible apply wpCalm_nil
          clear hJ J
          intro V hX
          have k2 := (hX.block _ z1).trans k1
          replace hB := after hB hX
          clear hX
          simp only [List.drop_succ_cons, List.drop_zero]
          clear EQ3
          go_wp2_with fail
          go_roundw
          case rel => exact ⟨(j + 1) + 1, by omega, by go_num, fac_on hlt (by rw [← EA.out, ← EB.out, ← EC.out]; exact HPL.out) hgood HF.out, hB⟩
          case measure => simp [intOf]; omega
end Go.Proofs.Ytdglijdiiggdgaa
