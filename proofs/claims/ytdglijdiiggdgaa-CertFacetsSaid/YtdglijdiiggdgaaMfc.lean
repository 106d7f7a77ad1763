import Derived.Test.YtdglijdiiggdgaaMfb
import Derived.Deep.RegionWith
import Derived.ProofKit
import Derived.Deep.Slices
import Derived.Deep.Strs
import Derived.Laws.IdiomArrays
namespace Go.Proofs.Ytdglijdiiggdgaa
open Go.RowKit Go.Maps

def badF (n : Nat) (A B C : Nat → Int) (sv : Nat → Nat → Int) (k : Nat) : Bool :=
  !decide (canF (A k) (B k) (C k) = (A k, B k, C k)) || (decide (0 < k) && !ltB (A (k - 1), B (k - 1), C (k - 1)) (A k, B k, C k)) || !unsF (A k) (B k) (C k) (sv k) n 0
def facF (n : Nat) (A B C : Nat → Int) (sv : Nat → Nat → Int) : Nat → Nat → Option (Int × Int)
  | 0, _ => none
  | f + 1, k => if plcB n (A k) (B k) (C k) = false then some (21, (k : Int)) else if badF n A B C sv k = true then some (170, (k : Int)) else facF n A B C sv f (k + 1)
def facO (n m : Nat) (A B C : Nat → Int) : Option (Int × Int) → Int × Int
  | some r => r
  | none => if (n < 4 ∧ 0 < m) ∨ (4 ≤ n ∧ closB A B C m = false) then (170, (m : Int)) else (0, 0)
def facR (n m : Nat) (X Y Z A B C : Nat → Int) (sv : Nat → Nat → Int) : Int × Int :=
  if (chk n X Y Z).1 = 0 then
    facO n m A B C (facF n A B C sv m 0)
  else chk n X Y Z
section
variable {n m k : Nat} {A B C : Nat → Int} {sv : Nat → Nat → Int} {r : Option (Int × Int)}
theorem fac_end (hk : m ≤ k) (h : facF n A B C sv (m - k) k = r) : r = none := by
  rw [show m - k = 0 by omega] at h; exact h.symm
theorem fac_plc (hk : k < m) (hp : plcB n (A k) (B k) (C k) = false) (h : facF n A B C sv (m - k) k = r) : r = some (21, (k : Int)) := by
  rw [show m - k = (m - (k + 1)) + 1 by omega, facF, if_pos hp] at h; exact h.symm
theorem fac_bad (hk : k < m) (hp : plcB n (A k) (B k) (C k) = true) (hb : badF n A B C sv k = true) (h : facF n A B C sv (m - k) k = r) : r = some (170, (k : Int)) := by
  rw [show m - k = (m - (k + 1)) + 1 by omega, facF, if_neg (by simp [hp]), if_pos hb] at h; exact h.symm
theorem fac_on (hk : k < m) (hp : plcB n (A k) (B k) (C k) = true) (hb : badF n A B C sv k = false) (h : facF n A B C sv (m - k) k = r) : facF n A B C sv (m - (k + 1)) (k + 1) = r := by
  rw [show m - k = (m - (k + 1)) + 1 by omega, facF, if_neg (by simp [hp]), if_neg (by simp [hb])] at h; exact h
end
attribute [local irreducible] wpCalm
set_option maxRecDepth 100000 in
set_option maxHeartbeats 8000000 in
theorem cert_facets (pl : Option Addr) (n cp : Nat) (pt : Option Addr) (m cp2 : Nat) (X Y Z A B C : Nat → Int) (sv : Nat → Nat → Int) (hm : m < 1048576) (hwf : Hid (∀ k, k < m → Wf (A k) ∧ Wf (B k) ∧ Wf (C k)))
    (w : World) (hp : Hid (PtsO w pl n X Y Z)) (ht : Hid (PtsO w pt m A B C))
    (HS : Hid (∀ k, k < m → (chk n X Y Z).1 = 0 → plcB n (A k) (B k) (C k) = true → ∀ v : Nat, v < n → ownB (A k) (B k) (C k) v = false → ∀ w', PtsO w' pl n X Y Z → Calls Try.prog 34 #[.slice pl n cp, .agg #[.int .i64 (A k), .int .i64 (B k), .int .i64 (C k)], .int .i64 v] w' fun e w'' => e = .returned (.tuple #[.bool (decide (sv k v = -1)), .int .i64 0]) ∧ Below w'.heap.size w' w'')) :
    Calls Try.prog 8 #[.slice pl n cp, .slice pt m cp2] w fun e w' => e = .returned (.tuple #[.int .i64 (facR n m X Y Z A B C sv).1, .int .i64 (facR n m X Y Z A B C sv).2]) ∧ Below w.heap.size w w' := by
  obtain ⟨r, hr⟩ : ∃ r, r = facR n m X Y Z A B C sv := ⟨_, rfl⟩
  rw [← hr]
  have HR := Lib.hid hr
  clear hr
  go_enter Try.func8, Try.ntmps8
  go_wp2_with fail
  refine (seq_check pl n cp X Y Z w hp).mono ?_; rintro e W ⟨rfl, hB⟩
  obtain ⟨c1, hc1⟩ : ∃ c1, c1 = (chk n X Y Z).1 := ⟨_, rfl⟩
  obtain ⟨c2, hc2⟩ : ∃ c2, c2 = (chk n X Y Z).2 := ⟨_, rfl⟩
  rw [← hc1, ← hc2]
  have HC1 := Lib.hid hc1; have HC2 := Lib.hid hc2
  clear hc1 hc2
  by_cases h0 : c1 = 0
  case neg =>
    have hres : r = (c1, c2) := by rw [HR.out]; unfold facR; rw [if_neg (by rw [← HC1.out]; exact h0), HC1.out, HC2.out]
    have HRES := Lib.hid hres
    clear hres
    go_wp2
    go_returns
    exact retP HRES.out hB
  have hn : n < 1048576 := by
    have h9 := HC1.out
    rw [h0] at h9
    unfold chk at h9
    split at h9
    · simp at h9
    · omega
  obtain ⟨o, ho⟩ : ∃ o, o = facF n A B C sv m 0 := ⟨_, rfl⟩
  have HF0 : Hid (facF n A B C sv (m - 0) 0 = o) := ho.symm
  have hR2 : r = facO n m A B C o := by rw [HR.out]; unfold facR; rw [if_pos (by rw [← HC1.out]; exact h0), ho]
  have HR2 := Lib.hid hR2
  clear hR2 ho
  go_wp2_with fail
  go_loopw [21] (fun u wr => ∃ k : Nat, k ≤ m ∧ u = .int .i64 k ∧ Hid (facF n A B C sv (m - k) k = o) ∧ Below w.heap.size w wr)
    (fun u _ => m - (intOf u).toNat)
  case atStart => exact ⟨0, Nat.zero_le _, rfl, HF0, hB⟩
  case round =>
    clear hB HF0
    obtain ⟨k, hk, rfl, HF, hB⟩ := hrel
    by_cases hlt : k < m
    case neg =>
      have hres := HR2.out
      rw [fac_end (by omega) HF.out] at hres
      unfold facO at hres
      have hkm : k = m := by omega
      subst hkm
      clear hlt hk
      by_cases h4 : n < 4
      · have h4' : (n : Int) < 4 := by omega
        by_cases hm0 : 0 < k
        · rw [if_pos (.inl ⟨h4, hm0⟩)] at hres
          have HRES := Lib.hid hres
          clear hres
          go_wp2
          go_returns
          exact retP HRES.out hB
        · rw [if_neg (by omega)] at hres
          have HRES := Lib.hid hres
          clear hres
          go_wp2
          go_returns
          exact retP HRES.out hB
      · have h4' : ¬ (n : Int) < 4 := by omega
        have h4'' : 4 ≤ n := by omega
        have HRES := Lib.hid hres
        clear hres
        go_wp2_with fail
        refine (cert_closed pt k cp2 A B C hm hwf _ (ht.out.below hB)).mono ?_; rintro e W2 ⟨rfl, hX⟩
        replace hB := after hB hX
        clear hX
        cases hcl : closB A B C k with
        | false =>
          have hr3 := HRES.out
          rw [if_pos (.inr ⟨h4'', hcl⟩)] at hr3
          have HR3 := Lib.hid hr3
          clear hr3
          go_wp2
          go_returns
          exact retP HR3.out hB
        | true =>
          have hr3 := HRES.out
          rw [if_neg (by rw [hcl]; simp; omega)] at hr3
          have HR3 := Lib.hid hr3
          clear hr3
          go_wp2
          go_returns
          exact retP HR3.out hB
    obtain ⟨q, off2, rfl, hq0⟩ := ht.out.at hlt
    have htw := hq0.1
    have htr := hq0.mono hB htw
    obtain ⟨g1, g2, g3⟩ := htr.2 k hlt
    have hqr := htr.1
    clear htr
    obtain ⟨a, ha⟩ : ∃ a, a = A k := ⟨_, rfl⟩
    obtain ⟨b1, hb1⟩ : ∃ b1, b1 = B k := ⟨_, rfl⟩
    obtain ⟨c, hc1⟩ : ∃ c, c = C k := ⟨_, rfl⟩
    rw [← ha] at g1; rw [← hb1] at g2; rw [← hc1] at g3
    have EA := Lib.hid ha; have EB := Lib.hid hb1; have EC := Lib.hid hc1
    clear ha hb1 hc1
    go_wp2_with fail
    first | refine wp_named ?_ | refine calls_named ?_
    intro W0 hW
    have k1 : W0.heap[wr.heap.size]? = some (.cells #[.int .i64 a, .int .i64 b1, .int .i64 c] 45 (0, 0)) := by rw [hW]; exact heap_at rfl
    have z1 : wr.heap.size < W0.heap.size := by rw [hW]; simp
    replace hB : Below w.heap.size w W0 := by rw [hW]; have := hB.size; go_grown
    clear hW g1 g2 g3
    refine (cert_places n a b1 c pl cp W0).mono ?_; rintro e W1 ⟨rfl, hX⟩
    replace k1 := (hX.block _ z1).trans k1
    replace z1 := Nat.lt_of_lt_of_le z1 hX.size
    replace hB := after hB hX
    clear hX
    obtain ⟨kq, kr⟩ := cellB k1
    cases hpl : plcB n a b1 c with
    | false =>
      have hres := HR2.out
      rw [fac_plc hlt (by rw [← EA.out, ← EB.out, ← EC.out]; exact hpl) HF.out] at hres
      have HRES := Lib.hid hres
      clear hres
      go_wp2
      go_returns
      exact retP HRES.out hB
    | true =>
      have HPL := Lib.hid hpl
      clear hpl
      have hcan := facet_canon a b1 c
      obtain ⟨x, hx⟩ : ∃ x, x = (canF a b1 c).1 := ⟨_, rfl⟩
      obtain ⟨y, hy⟩ : ∃ y, y = (canF a b1 c).2.1 := ⟨_, rfl⟩
      obtain ⟨z, hz⟩ : ∃ z, z = (canF a b1 c).2.2 := ⟨_, rfl⟩
      unfold tri at hcan
      rw [← hx, ← hy, ← hz] at hcan
      have HCAN := Lib.hid hcan
      have HXYZ : Hid (canF a b1 c = (x, y, z)) := by show _ = _; rw [hx, hy, hz]
      clear hcan hx hy hz
      by_cases hcn : x = a ∧ y = b1 ∧ z = c
      case neg =>
        have hbad : badF n A B C sv k = true := by
          unfold badF
          rw [← EA.out, ← EB.out, ← EC.out, HXYZ.out]
          have : decide ((x, y, z) = (a, b1, c)) = false := by simpa using hcn
          rw [this]; rfl
        have hres := HR2.out
        rw [fac_bad hlt (by rw [← EA.out, ← EB.out, ← EC.out]; exact HPL.out) hbad HF.out] at hres
        have HRES := Lib.hid hres
        clear hres hbad
        go_wp2_with fail
        have hnb : (x == a && (y == b1 && z == c)) = false := by simp; exact fun h1 h2 h3 => hcn ⟨h1, h2, h3⟩
        have EQ3 := eq3 x y z a b1 c
        rw [hnb] at EQ3
        clear hnb
        refine wp_calm0 24 (by kernel_rfl) (by kernel_rfl) ?_
        intro J hJ
        simp only [List.take_succ_cons, List.take_zero]
        iterate 3 ((with_reducible apply wpCalm_step); intro M hM; go_simp; first | ((with_reducible apply hM); clear hM M) | (rw [if_neg]; rotate_left; (· intro h; cases h); (with_reducible apply hM); clear hM M) | ((with_reducible apply calm_intro); (· intro wc hw; obtain ⟨hc, hf⟩ := bcell (hJ wc hw); go_simp; first | with_reducible exact HCAN.out _ | exact rfl); (with_reducible apply hM); clear hM M))
        with_reducible apply wpCalm_step
        intro M hM
        go_simp
        with_reducible apply calm_intro (v := .bool true)
        · intro wc hw
          go_simp
        with_reducible apply hM
        clear hM M
        repeat ((with_reducible apply wpCalm_step); intro M hM; go_simp; first | ((with_reducible apply hM); clear hM M) | (rw [if_neg]; rotate_left; (· intro h; cases h); (with_reducible apply hM); clear hM M) | ((with_reducible apply calm_intro); (· intro wc hw; obtain ⟨hc, hf⟩ := bcell (hJ wc hw); go_simp; first | with_reducible exact HCAN.out _ | exact rfl); (with_reducible apply hM); clear hM M))
        with_reducible apply wpCalm_nil
        clear hJ J
        intro V hX
        have k2 := (hX.block _ z1).trans k1
        replace hB := after hB hX
        clear hX
        simp only [List.drop_succ_cons, List.drop_zero]
        clear EQ3
        go_wp2
        go_returns
        exact retP HRES.out hB
      obtain ⟨e1, e2, e3⟩ := hcn
      subst e1 e2 e3
      have hcc : decide (canF (A k) (B k) (C k) = (A k, B k, C k)) = true := by rw [← EA.out, ← EB.out, ← EC.out, HXYZ.out]; simp
      have HCC := Lib.hid hcc
      clear hcc
      have hnb : (x == x && (y == y && z == z)) = true := by simp
      have hn0 : 0 < n := by
        have h9 := HPL.out
        unfold plcB inN at h9
        simp at h9
        omega
      obtain ⟨p, off, rfl, hp0⟩ := hp.out.at hn0
      have hpw := hp0.1
      have HUN : Hid (∀ wc, Below W1.heap.size W1 wc → Calls Try.prog 23 #[.slice (some ⟨p, off, none⟩) n cp, .agg #[.int .i64 x, .int .i64 y, .int .i64 z]] wc fun e w' => e = .returned (.bool (unsF x y z (sv k) n 0)) ∧ Below wc.heap.size wc w') := by
        intro wc hw
        refine cert_unseen p off n cp x y z (sv k) X Y Z (by omega) wc (Lib.hid (hp0.mono (after hB hw) hpw)) (Lib.hid ?_)
        intro v hv hown w' hw'
        rw [EA.out, EB.out, EC.out]
        exact HS.out k hlt (by rw [← HC1.out]; exact h0) (by rw [← EA.out, ← EB.out, ← EC.out]; exact HPL.out) v hv (by rw [← EA.out, ← EB.out, ← EC.out]; exact hown) w' (.inr ⟨p, off, rfl, hw'⟩)
      clear hp0 hn0
      obtain ⟨uu, huu⟩ : ∃ uu, uu = unsF x y z (sv k) n 0 := ⟨_, rfl⟩
      rw [← huu] at HUN
      have HUU := Lib.hid huu
      clear huu
      by_cases hk0 : k = 0
      case pos =>
        subst hk0
        cases uu with
        | false =>
          have hbad : badF n A B C sv 0 = true := by
            unfold badF
            rw [← EA.out, ← EB.out, ← EC.out, ← HUU.out]
            simp
          have hres := HR2.out
          rw [fac_bad hlt (by rw [← EA.out, ← EB.out, ← EC.out]; exact HPL.out) hbad HF.out] at hres
          have HRES := Lib.hid hres
          clear hres hbad
          go_wp2_with fail
          have EQ3 := eq3 x y z x y z
          rw [hnb] at EQ3
          refine wp_calm0 24 (by kernel_rfl) (by kernel_rfl) ?_
          intro J hJ
          simp only [List.take_succ_cons, List.take_zero]
          iterate 3 ((with_reducible apply wpCalm_step); intro M hM; go_simp; first | ((with_reducible apply hM); clear hM M) | (rw [if_neg]; rotate_left; (· intro h; cases h); (with_reducible apply hM); clear hM M) | ((with_reducible apply calm_intro); (· intro wc hw; obtain ⟨hc, hf⟩ := bcell (hJ wc hw); go_simp; first | with_reducible exact HCAN.out _ | with_reducible exact HUN.out wc (hJ wc hw) | exact rfl); (with_reducible apply hM); clear hM M))
          with_reducible apply wpCalm_step
          intro M hM
          go_simp
          with_reducible apply calm_intro (v := .bool false)
          · intro wc hw
            go_simp
          with_reducible apply hM
          clear hM M
          repeat ((with_reducible apply wpCalm_step); intro M hM; go_simp; first | ((with_reducible apply hM); clear hM M) | (rw [if_neg]; rotate_left; (· intro h; cases h); (with_reducible apply hM); clear hM M) | ((with_reducible apply calm_intro); (· intro wc hw; obtain ⟨hc, hf⟩ := bcell (hJ wc hw); go_simp; first | with_reducible exact HCAN.out _ | with_reducible exact HUN.out wc (hJ wc hw) | exact rfl); (with_reducible apply hM); clear hM M))
          with_reducible apply wpCalm_nil
          clear hJ J
          intro V hX
          have k2 := (hX.block _ z1).trans k1
          replace hB := after hB hX
          clear hX
          simp only [List.drop_succ_cons, List.drop_zero]
          clear EQ3
          go_wp2
          go_returns
          exact retP HRES.out hB
        | true =>
          have hgood : badF n A B C sv 0 = false := by
            unfold badF
            rw [HCC.out, ← EA.out, ← EB.out, ← EC.out, ← HUU.out]
            simp
          go_wp2_with fail
          have EQ3 := eq3 x y z x y z
          rw [hnb] at EQ3
          refine wp_calm0 24 (by kernel_rfl) (by kernel_rfl) ?_
          intro J hJ
          simp only [List.take_succ_cons, List.take_zero]
          iterate 3 ((with_reducible apply wpCalm_step); intro M hM; go_simp; first | ((with_reducible apply hM); clear hM M) | (rw [if_neg]; rotate_left; (· intro h; cases h); (with_reducible apply hM); clear hM M) | ((with_reducible apply calm_intro); (· intro wc hw; obtain ⟨hc, hf⟩ := bcell (hJ wc hw); go_simp; first | with_reducible exact HCAN.out _ | with_reducible exact HUN.out wc (hJ wc hw) | exact rfl); (with_reducible apply hM); clear hM M))
          with_reducible apply wpCalm_step
          intro M hM
          go_simp
          with_reducible apply calm_intro (v := .bool false)
          · intro wc hw
            go_simp
          with_reducible apply hM
          clear hM M
          repeat ((with_reducible apply wpCalm_step); intro M hM; go_simp; first | ((with_reducible apply hM); clear hM M) | (rw [if_neg]; rotate_left; (· intro h; cases h); (with_reducible apply hM); clear hM M) | ((with_reducible apply calm_intro); (· intro wc hw; obtain ⟨hc, hf⟩ := bcell (hJ wc hw); go_simp; first | with_reducible exact HCAN.out _ | with_reducible exact HUN.out wc (hJ wc hw) | exact rfl); (with_reducible apply hM); clear hM M))
          with_reducible apply wpCalm_nil
          clear hJ J
          intro V hX
          have k2 := (hX.block _ z1).trans k1
          replace hB := after hB hX
          clear hX
          simp only [List.drop_succ_cons, List.drop_zero]
          clear EQ3
          go_wp2_with fail
          go_roundw
          case rel => exact ⟨0 + 1, by omega, by go_num, fac_on hlt (by rw [← EA.out, ← EB.out, ← EC.out]; exact HPL.out) hgood HF.out, hB⟩
          case measure => simp [intOf]; omega
      obtain ⟨j, rfl⟩ : ∃ j, k = j + 1 := ⟨k - 1, by omega⟩
      have hjm : j < m := by omega
      obtain ⟨g1, g2, g3⟩ := (hq0.mono hB htw).2 j hjm
      have hqr1 := (hq0.mono hB htw).1
      obtain ⟨a', ha⟩ : ∃ a', a' = A j := ⟨_, rfl⟩
      obtain ⟨b', hb1⟩ : ∃ b', b' = B j := ⟨_, rfl⟩
      obtain ⟨c', hc1⟩ : ∃ c', c' = C j := ⟨_, rfl⟩
      rw [← ha] at g1; rw [← hb1] at g2; rw [← hc1] at g3
      have EA' := Lib.hid ha; have EB' := Lib.hid hb1; have EC' := Lib.hid hc1
      clear ha hb1 hc1
      have hle := facet_less (a', b', c') (x, y, z)
      unfold tri at hle
      dsimp only at hle
      have HLE := Lib.hid hle
      clear hle
      obtain ⟨lt, hlt'⟩ : ∃ lt, lt = ltB (a', b', c') (x, y, z) := ⟨_, rfl⟩
      rw [← hlt'] at HLE
      have HLT := Lib.hid hlt'
      clear hlt'
      have hw1 : IntKind.i64.wrap (j : Int) = j := by rw [IntKind.wrap_i64]; omega
      cases lt with
      | false =>
        have hbad : badF n A B C sv (j + 1) = true := by
          unfold badF
          rw [HCC.out, ← EA.out, ← EB.out, ← EC.out]
          simp only [Nat.add_sub_cancel]
          rw [← EA'.out, ← EB'.out, ← EC'.out, ← HLT.out]
          simp
        have hres := HR2.out
        rw [fac_bad hlt (by rw [← EA.out, ← EB.out, ← EC.out]; exact HPL.out) hbad HF.out] at hres
        have HRES := Lib.hid hres
        clear hres hbad
        go_wp2_with fail
        have EQ3 := eq3 x y z x y z
        rw [hnb] at EQ3
        refine wp_calm0 24 (by kernel_rfl) (by kernel_rfl) ?_
        intro J hJ
        simp only [List.take_succ_cons, List.take_zero]
        iterate 3 ((with_reducible apply wpCalm_step); intro M hM; go_simp; first | ((with_reducible apply hM); clear hM M) | (rw [if_neg]; rotate_left; (· intro h; cases h); (with_reducible apply hM); clear hM M) | ((with_reducible apply calm_intro); (· intro wc hw; obtain ⟨hc, hf⟩ := bcell (hJ wc hw); go_simp; first | with_reducible exact HCAN.out _ | with_reducible exact HLE.out wc | exact rfl); (with_reducible apply hM); clear hM M))
        with_reducible apply wpCalm_step
        intro M hM
        go_simp
        with_reducible apply calm_intro (v := .bool false)
        · intro wc hw
          go_simp
        with_reducible apply hM
        clear hM M
        repeat ((with_reducible apply wpCalm_step); intro M hM; go_simp; first | ((with_reducible apply hM); clear hM M) | (rw [if_neg]; rotate_left; (· intro h; cases h); (with_reducible apply hM); clear hM M) | ((with_reducible apply calm_intro); (· intro wc hw; obtain ⟨hc, hf⟩ := bcell (hJ wc hw); go_simp; first | with_reducible exact HCAN.out _ | with_reducible exact HLE.out wc | exact rfl); (with_reducible apply hM); clear hM M))
        with_reducible apply wpCalm_nil
        clear hJ J
        intro V hX
        have k2 := (hX.block _ z1).trans k1
        replace hB := after hB hX
        clear hX
        simp only [List.drop_succ_cons, List.drop_zero]
        clear EQ3
        go_wp2
        go_returns
        exact retP HRES.out hB
      | true =>
        cases uu with
        | false =>
          have hbad : badF n A B C sv (j + 1) = true := by
            unfold badF
            rw [← EA.out, ← EB.out, ← EC.out, ← HUU.out]
            simp
          have hres := HR2.out
          rw [fac_bad hlt (by rw [← EA.out, ← EB.out, ← EC.out]; exact HPL.out) hbad HF.out] at hres
          have HRES := Lib.hid hres
          clear hres hbad
          go_wp2_with fail
          have EQ3 := eq3 x y z x y z
          rw [hnb] at EQ3
          refine wp_calm0 24 (by kernel_rfl) (by kernel_rfl) ?_
          intro J hJ
          simp only [List.take_succ_cons, List.take_zero]
          iterate 3 ((with_reducible apply wpCalm_step); intro M hM; go_simp; first | ((with_reducible apply hM); clear hM M) | (rw [if_neg]; rotate_left; (· intro h; cases h); (with_reducible apply hM); clear hM M) | ((with_reducible apply calm_intro); (· intro wc hw; obtain ⟨hc, hf⟩ := bcell (hJ wc hw); go_simp; first | with_reducible exact HCAN.out _ | with_reducible exact HLE.out wc | with_reducible exact HUN.out wc (hJ wc hw) | exact rfl); (with_reducible apply hM); clear hM M))
          with_reducible apply wpCalm_step
          intro M hM
          go_simp
          with_reducible apply calm_intro (v := .bool false)
          · intro wc hw
            go_simp
          with_reducible apply hM
          clear hM M
          repeat ((with_reducible apply wpCalm_step); intro M hM; go_simp; first | ((with_reducible apply hM); clear hM M) | (rw [if_neg]; rotate_left; (· intro h; cases h); (with_reducible apply hM); clear hM M) | ((with_reducible apply calm_intro); (· intro wc hw; obtain ⟨hc, hf⟩ := bcell (hJ wc hw); go_simp; first | with_reducible exact HCAN.out _ | with_reducible exact HLE.out wc | with_reducible exact HUN.out wc (hJ wc hw) | exact rfl); (with_reducible apply hM); clear hM M))
          with_reducible apply wpCalm_nil
          clear hJ J
          intro V hX
          have k2 := (hX.block _ z1).trans k1
          replace hB := after hB hX
          clear hX
          simp only [List.drop_succ_cons, List.drop_zero]
          clear EQ3
          go_wp2
          go_returns
          exact retP HRES.out hB
        | true =>
          have hgood : badF n A B C sv (j + 1) = false := by
            unfold badF
            rw [HCC.out, ← EA.out, ← EB.out, ← EC.out, ← HUU.out]
            simp only [Nat.add_sub_cancel]; rw [← EA'.out, ← EB'.out, ← EC'.out, ← HLT.out]; simp
          go_wp2_with fail
          have EQ3 := eq3 x y z x y z
          rw [hnb] at EQ3
          refine wp_calm0 24 (by kernel_rfl) (by kernel_rfl) ?_
          intro J hJ
          simp only [List.take_succ_cons, List.take_zero]
          iterate 3 ((with_reducible apply wpCalm_step); intro M hM; go_simp; first | ((with_reducible apply hM); clear hM M) | (rw [if_neg]; rotate_left; (· intro h; cases h); (with_reducible apply hM); clear hM M) | ((with_reducible apply calm_intro); (· intro wc hw; obtain ⟨hc, hf⟩ := bcell (hJ wc hw); go_simp; first | with_reducible exact HCAN.out _ | with_reducible exact HLE.out wc | with_reducible exact HUN.out wc (hJ wc hw) | exact rfl); (with_reducible apply hM); clear hM M))
          with_reducible apply wpCalm_step
          intro M hM
          go_simp
          with_reducible apply calm_intro (v := .bool false)
          · intro wc hw
            go_simp
          with_reducible apply hM
          clear hM M
          repeat ((with_reducible apply wpCalm_step); intro M hM; go_simp; first | ((with_reducible apply hM); clear hM M) | (rw [if_neg]; rotate_left; (· intro h; cases h); (with_reducible apply hM); clear hM M) | ((with_reducible apply calm_intro); (· intro wc hw; obtain ⟨hc, hf⟩ := bcell (hJ wc hw); go_simp; first | with_reducible exact HCAN.out _ | with_reducible exact HLE.out wc | with_reducible exact HUN.out wc (hJ wc hw) | exact rfl); (with_reducible apply hM); clear hM M))
          with_reducible apply wpCalm_nil
          clear hJ J
          intro V hX
          have k2 := (hX.block _ z1).trans k1
          replace hB := after hB hX
          clear hX
          simp only [List.drop_succ_cons, List.drop_zero]
          clear EQ3
          go_wp2_with fail
          go_roundw
          case rel => exact ⟨(j + 1) + 1, by omega, by go_num, fac_on hlt (by rw [← EA.out, ← EB.out, ← EC.out]; exact HPL.out) hgood HF.out, hB⟩
          case measure => simp [intOf]; omega
end Go.Proofs.Ytdglijdiiggdgaa
namespace Go.Proofs.Ytdglijdiiggdgaa
open Go.RowKit Go.Maps

def l4 (a b c d : Int) : Nat → Int
  | 0 => a
  | 1 => b
  | 2 => c
  | 3 => d
  | _ => 0
def uX : Nat → Int := l4 0 1 0 0
def uY : Nat → Int := l4 0 0 1 0
def uZ : Nat → Int := l4 0 0 0 1
theorem pts4 (w : World) (b : Nat) (a0 a1 a2 b0 b1 b2 c0 c1 c2 d0 d1 d2 : Int) (T : TypeId)
    (h : w.heap[b]? = some (.cells #[.int .i64 a0, .int .i64 a1, .int .i64 a2, .int .i64 b0, .int .i64 b1, .int .i64 b2, .int .i64 c0, .int .i64 c1, .int .i64 c2, .int .i64 d0, .int .i64 d1, .int .i64 d2] T (0, 0))) :
    PtsAt w b 0 4 (l4 a0 b0 c0 d0) (l4 a1 b1 c1 d1) (l4 a2 b2 c2 d2) := by
  have hb : b < w.heap.size := (Array.getElem?_eq_some_iff.1 h).1
  obtain ⟨kq, kr⟩ := cellB h
  refine ⟨hb, fun i hi => ?_⟩
  match i, hi with
  | 0, _ => exact ⟨kq _, kq _, kq _⟩
  | 1, _ => exact ⟨kq _, kq _, kq _⟩
  | 2, _ => exact ⟨kq _, kq _, kq _⟩
  | 3, _ => exact ⟨kq _, kq _, kq _⟩
set_option maxRecDepth 100000 in
theorem law5_unit (w : World) :
    Calls Try.prog 18 #[] w fun e w' => ∃ b, e = .returned (.slice (some ⟨b, 0, none⟩) 4 4) ∧ w.heap.size ≤ b ∧ PtsAt w' b 0 4 uX uY uZ ∧ Below w.heap.size w w' := by
  go_enter Try.func18, Try.ntmps18
  go_wp2
  go_returns
  refine ⟨_, rfl, Nat.le_refl _, pts4 _ _ _ _ _ _ _ _ _ _ _ _ _ _ _ (heap_at rfl), ?_⟩
  go_grown

theorem unit_sign (w : World) : Calls Try.prog 52 #[.agg #[.int .i64 (uX 0), .int .i64 (uY 0), .int .i64 (uZ 0), .int .i64 (uX 1), .int .i64 (uY 1), .int .i64 (uZ 1), .int .i64 (uX 2), .int .i64 (uY 2), .int .i64 (uZ 2), .int .i64 (uX 3), .int .i64 (uY 3), .int .i64 (uZ 3)]] w fun e w' => e = .returned (.int .i64 (-1)) ∧ Below w.heap.size w w' := by
  have h0 : Co 0 := by unfold Co; omega
  have h1 : Co 1 := by unfold Co; omega
  have h := sign_any 0 0 0 1 0 0 0 1 0 0 0 1 (fun _ => 0) (fun _ => false) ⟨h0, h0, h0⟩ ⟨h1, h0, h0⟩ ⟨h0, h1, h0⟩ ⟨h0, h0, h1⟩
    (Lib.hid (fun m _ hd => absurd hd (by decide))) w
  exact h
theorem unit_sees (i j k m : Nat) (hi : i < 4) (hj : j < 4) (hk : k < 4) (hm : m < 4) (h1 : i ≠ j) (h2 : i ≠ k) (h3 : i ≠ m) (h4 : j ≠ k) (h5 : j ≠ m) (h6 : k ≠ m)
    (hb : bub 9 0 ⟨i, j, k, m, 1⟩ = ⟨0, 1, 2, 3, -1⟩) (b : Nat) (w : World) (hp : PtsAt w b 0 4 uX uY uZ) :
    Calls Try.prog 34 #[.slice (some ⟨b, 0, none⟩) 4 4, .agg #[.int .i64 i, .int .i64 j, .int .i64 k], .int .i64 m] w fun e w' => e = .returned (.tuple #[.bool (decide ((1 : Int) = -1)), .int .i64 0]) ∧ Below w.heap.size w w' := by
  have hco : ∀ i, i < 4 → Co (uX i) ∧ Co (uY i) ∧ Co (uZ i) := by
    intro i hi
    match i, hi with
    | 0, _ => decide
    | 1, _ => decide
    | 2, _ => decide
    | 3, _ => decide
  exact sees_walk b 0 4 4 i j k m 1 w (fun w' hB => sign_good b 0 4 4 uX uY uZ i j k m 0 1 2 3 (-1) (-1) (by decide) hi hj hk hm h1 h2 h3 h4 h5 h6 hb (.inr rfl) (by decide) (by decide) (by decide) (by decide) (by decide) (by decide) (Lib.hid hco) (Lib.hid unit_sign) w' (Lib.hid (hp.mono hB hp.1)))
def tA : Nat → Int := l4 0 0 0 1
def tB : Nat → Int := l4 1 2 3 2
def tC : Nat → Int := l4 3 1 2 3
def one2 : Nat → Nat → Int := fun _ _ => 1
theorem unit_HS (b m : Nat) (hm : m ≤ 4) : ∀ k, k < m → (chk 4 uX uY uZ).1 = 0 → plcB 4 (tA k) (tB k) (tC k) = true → ∀ v : Nat, v < 4 → ownB (tA k) (tB k) (tC k) v = false → ∀ w', PtsO w' (some ⟨b, 0, none⟩) 4 uX uY uZ →
    Calls Try.prog 34 #[.slice (some ⟨b, 0, none⟩) 4 4, .agg #[.int .i64 (tA k), .int .i64 (tB k), .int .i64 (tC k)], .int .i64 v] w' fun e w'' => e = .returned (.tuple #[.bool (decide (one2 k v = -1)), .int .i64 0]) ∧ Below w'.heap.size w' w'' := by
  intro k hk _ _ v hv ho w' hp
  obtain ⟨b', off', e, hp⟩ := hp.at (k := 0) (by decide)
  injection e with e
  injection e with e1 e2
  subst e1 e2
  have hk4 : k < 4 := by omega
  have hk5 : k = 0 ∨ k = 1 ∨ k = 2 ∨ k = 3 := by omega
  have hv5 : v = 0 ∨ v = 1 ∨ v = 2 ∨ v = 3 := by omega
  clear hk hv hk4
  rcases hk5 with rfl | rfl | rfl | rfl <;> rcases hv5 with rfl | rfl | rfl | rfl
  · exact absurd ho (by decide)
  · exact absurd ho (by decide)
  · exact unit_sees 0 1 3 2 (by decide) (by decide) (by decide) (by decide) (by decide) (by decide) (by decide) (by decide) (by decide) (by decide) (by kernel_rfl) b w' hp
  · exact absurd ho (by decide)
  · exact absurd ho (by decide)
  · exact absurd ho (by decide)
  · exact absurd ho (by decide)
  · exact unit_sees 0 2 1 3 (by decide) (by decide) (by decide) (by decide) (by decide) (by decide) (by decide) (by decide) (by decide) (by decide) (by kernel_rfl) b w' hp
  · exact absurd ho (by decide)
  · exact unit_sees 0 3 2 1 (by decide) (by decide) (by decide) (by decide) (by decide) (by decide) (by decide) (by decide) (by decide) (by decide) (by kernel_rfl) b w' hp
  · exact absurd ho (by decide)
  · exact absurd ho (by decide)
  · exact unit_sees 1 2 3 0 (by decide) (by decide) (by decide) (by decide) (by decide) (by decide) (by decide) (by decide) (by decide) (by decide) (by kernel_rfl) b w' hp
  · exact absurd ho (by decide)
  · exact absurd ho (by decide)
  · exact absurd ho (by decide)
theorem tri_wf : ∀ k, k < 4 → Wf (tA k) ∧ Wf (tB k) ∧ Wf (tC k) := by
  intro k hk
  have hk5 : k = 0 ∨ k = 1 ∨ k = 2 ∨ k = 3 := by omega
  rcases hk5 with rfl | rfl | rfl | rfl <;> exact ⟨by unfold Wf; decide, by unfold Wf; decide, by unfold Wf; decide⟩
theorem unit_facets (m c : Nat) (r : Int × Int) (hm : m ≤ 4) (hr : facR 4 m uX uY uZ tA tB tC one2 = r) (b q : Nat) (w : World) (hU : PtsAt w b 0 4 uX uY uZ) (hT : PtsAt w q 0 4 tA tB tC) :
    Calls Try.prog 8 #[.slice (some ⟨b, 0, none⟩) 4 4, .slice (some ⟨q, 0, none⟩) m c] w fun e w' => e = .returned (.tuple #[.int .i64 r.1, .int .i64 r.2]) ∧ Below w.heap.size w w' := by
  rw [← hr]
  exact cert_facets (some ⟨b, 0, none⟩) 4 4 (some ⟨q, 0, none⟩) m c uX uY uZ tA tB tC one2 (by omega) (Lib.hid fun k hk => tri_wf k (by omega)) w (Lib.hid (.inr ⟨b, 0, rfl, hU⟩)) (Lib.hid (.inr ⟨q, 0, rfl, ⟨hT.1, fun i hi => hT.2 i (by omega)⟩⟩)) (Lib.hid (unit_HS b m hm))
theorem facR_4 : facR 4 4 uX uY uZ tA tB tC one2 = (0, 0) := by kernel_rfl
theorem facR_3 : facR 4 3 uX uY uZ tA tB tC one2 = (170, 3) := by kernel_rfl
theorem ints_of_row {w : World} {base : Nat} {T : TypeId} {vv : Value} {out : List Int} (h : w.ownsRow base T 1 vv out.length (out.map (Value.int .i64))) :
    ∃ p cap, vv = .slice p out.length cap ∧ IntsAt w p out ∧ out.length ≤ maxLen := by
  have h0 := h
  rcases h.2 with ⟨rfl, hn⟩ | ⟨g, cap, cur, rfl, hb, hg, hle, hmax, hsz, htake⟩
  · exact ⟨none, 0, by rw [hn], fun j hj => by omega, by rw [hn]; exact Nat.zero_le _⟩
  · refine ⟨_, cap, rfl, fun j hj => ⟨g, 0, rfl, (Array.getElem?_eq_some_iff.1 hg).1, ?_⟩, Nat.le_trans hle hmax⟩
    rw [Nat.zero_add, h0.cellAt j (by omega), List.getElem?_map, List.getElem?_eq_getElem hj]
    simp [List.getD, hj]
set_option maxRecDepth 100000 in
set_option maxHeartbeats 2000000 in
theorem law21_awake (w : World) : Calls Try.prog 7 #[] w fun e w' => e = .returned (.bool true) ∧ Below w.heap.size w w' := by
  go_enter Try.func7, Try.ntmps7
  go_wp2_with fail
  first | refine wp_named ?_ | refine calls_named ?_
  intro W hW
  have hT : PtsAt W w.heap.size 0 4 tA tB tC := by rw [hW]; exact pts4 _ _ _ _ _ _ _ _ _ _ _ _ _ _ _ (heap_at rfl)
  have hB : Below w.heap.size w W := by rw [hW]; go_grown
  clear hW
  refine (law5_unit _).mono ?_; rintro e W1 ⟨b, rfl, hb, hU, hX⟩
  have hT1 := hT.mono hX hT.1
  have hB1 := after hB hX
  clear hX hB hT hb
  go_wp2_with fail
  refine (unit_facets 4 4 (0, 0) (by decide) facR_4 b w.heap.size _ hU hT1).mono ?_; rintro e W2 ⟨rfl, hX⟩
  have hT2 := hT1.mono hX hT1.1
  have hB2 := after hB1 hX
  clear hX hB1 hT1 hU
  go_wp2_with fail
  have hT3 : PtsAt W2.drew w.heap.size 0 4 tA tB tC := hT2
  go_region_with (first
    | (go_at_call 18; refine (law5_unit _).mono ?_; rintro e V1 ⟨b2, rfl, hb2, hU2, hX2⟩)
    | (go_at_call 8; refine (unit_facets 3 4 (170, 3) (by decide) facR_3 b2 w.heap.size _ hU2 (hT3.mono hX2 hT3.1)).mono ?_; rintro e V2 ⟨rfl, hY2⟩))
  have hT4 := (hT3.mono hX2 hT3.1).mono hY2 (hT3.mono hX2 hT3.1).1
  have hB4 : Below w.heap.size w V2 := after (after hB2.drew hX2) hY2
  clear hT3 hT2 hX2 hY2 hB2 hb2 hU2
  go_wp2_with fail
  refine (cert_around (some ⟨w.heap.size, 0, none⟩) 4 4 0 tA tB tC _ (by decide) (Lib.hid (by unfold Wf; decide)) (Lib.hid tri_wf) (Lib.hid rfl) V2 (Lib.hid (.inr ⟨_, _, rfl, hT4⟩))).mono ?_; rintro e W5 ⟨hX, hE⟩
  have ha : arR (ringF 0 tA tB tC (4 - 0) 0 []) = some [1, 3, 2] := by kernel_rfl
  rw [ha] at hE
  rcases hE with ⟨h, _⟩ | ⟨out, vv, h, hrow, rfl⟩
  · cases h
  injection h with h
  subst h
  obtain ⟨p, cap, rfl, hI, hl⟩ := ints_of_row hrow
  replace hB4 := after hB4 hX
  clear hX hrow ha hT4 hl
  have HI := Lib.hid hI
  clear hI
  go_wp2_with fail
  first | refine wp_named ?_ | refine calls_named ?_
  intro W6 hW
  have hJ : IntsAt W6 (some ⟨W5.heap.size, 0, none⟩) [1, 3, 2] := by
    have k0 : W6.heap[W5.heap.size]? = some (.cells #[.int .i64 1, .int .i64 3, .int .i64 2] 3 (0, 0)) := by rw [hW]; exact heap_at rfl
    obtain ⟨kq, kr⟩ := cellB k0
    intro j hj
    refine ⟨_, _, rfl, (Array.getElem?_eq_some_iff.1 k0).1, ?_⟩
    have hj3 : j = 0 ∨ j = 1 ∨ j = 2 := by simp at hj; omega
    rcases hj3 with rfl | rfl | rfl <;> exact kq _
  have hI6 : IntsAt W6 p [1, 3, 2] := HI.out.below (by rw [hW]; go_grown)
  have hB6 : Below w.heap.size w W6 := by rw [hW]; have := hB4.size; go_grown
  clear hW HI hB4
  refine (ref3_same p (some ⟨W5.heap.size, 0, none⟩) cap 3 [1, 3, 2] [1, 3, 2] _ 3 rfl rfl (by decide) (by decide) _ (Lib.hid hI6) (Lib.hid hJ)).mono ?_; rintro e W7 ⟨rfl, hX⟩
  have hB7 := after hB6 hX
  go_wp2_with fail
  go_returns
  exact ⟨by simp, hB7⟩
end Go.Proofs.Ytdglijdiiggdgaa
namespace Go.Proofs.Ytdglijdiiggdgaa
open Go.RowKit Go.Maps

def outR : Option (List Int) → List Int × Int
  | none => ([], 170)
  | some o => (o, 0)
theorem walk_len {L : List (Int × Int)} {m : Int} : ∀ (f : Nat) (out : List Int) (a : Int) (o : List Int), walkF L m f out a = some o → out.length ≤ L.length → o.length ≤ L.length
  | 0, _, _, _, h, _ => by cases h
  | f + 1, out, a, o, h, hl => by
    unfold walkF at h
    split at h
    · split at h
      · cases h
      · injection h with h
        rw [← h]; exact hl
    · split at h
      · cases h
      · split at h
        · cases h
        · exact walk_len f _ _ o h (by simp; omega)
theorem pairs_len {v : Int} {A B C : Nat → Int} : ∀ (f k : Nat) (M L : List (Int × Int)), pairsF v A B C f k M = some L → L.length ≤ M.length + f
  | 0, k, M, L, h => by
    unfold pairsF at h
    injection h with h
    rw [h]; omega
  | f + 1, k, M, L, h => by
    unfold pairsF at h
    split at h
    · cases h
    · have := pairs_len f (k + 1) M L h; omega
    · have := pairs_len f (k + 1) _ L h
      simp at this; omega
theorem out_len {v : Int} {A B C : Nat → Int} {n : Nat} : (outR (refR (pairsF v A B C n 0 []))).1.length ≤ n := by
  cases h : pairsF v A B C n 0 [] with
  | none => exact Nat.zero_le _
  | some L =>
    have h1 := pairs_len _ _ _ _ h
    unfold refR
    simp only
    split
    · cases h2 : arR (some L) with
      | none => exact Nat.zero_le _
      | some o =>
        unfold arR at h2
        simp only at h2
        split at h2
        · cases h2
        · have := walk_len _ _ _ _ h2 (by simp)
          show o.length ≤ n
          simp at h1
          omega
    · exact Nat.zero_le _
theorem around_told (pa : Option Addr) (n cp : Nat) (v : Int) (A B C : Nat → Int) (hn : n < 1048576) (hv : Wf v) (hwf : ∀ k, k < n → Wf (A k) ∧ Wf (B k) ∧ Wf (C k)) (w : World) (hp : PtsO w pa n A B C) :
    Calls Try.prog 10 #[.slice pa n cp, .int .i64 v] w fun e w' => ∃ p cap xs c, outR (refR (pairsF v A B C n 0 [])) = (xs, c) ∧ e = .returned (.tuple #[.slice p xs.length cap, .int .i64 c]) ∧ IntsAt w' p xs ∧ xs.length ≤ maxLen ∧ Below w.heap.size w w' := by
  refine (cert_around pa n cp v A B C _ hn (Lib.hid hv) (Lib.hid hwf) (Lib.hid rfl) w (Lib.hid hp)).mono ?_
  rintro e w' ⟨hX, hE⟩
  rw [around_same]
  rcases hE with ⟨h, rfl⟩ | ⟨out, vv, h, hrow, rfl⟩
  · refine ⟨none, 0, [], 170, ?_, rfl, fun j hj => by simp at hj, Nat.zero_le _, hX⟩
    rw [show ringF v A B C n 0 [] = ringF v A B C (n - 0) 0 [] from rfl, h]; rfl
  · obtain ⟨p, cap, rfl, hI, hl⟩ := ints_of_row hrow
    refine ⟨p, cap, out, 0, ?_, rfl, hI, hl, hX⟩
    rw [show ringF v A B C n 0 [] = ringF v A B C (n - 0) 0 [] from rfl, h]; rfl
theorem ref21_told (pa : Option Addr) (n cp : Nat) (v : Int) (A B C : Nat → Int) (hn : n < 1048576) (w : World) (hp : PtsO w pa n A B C) :
    Calls Try.prog 11 #[.slice pa n cp, .int .i64 v] w fun e w' => ∃ p cap xs c, outR (refR (pairsF v A B C n 0 [])) = (xs, c) ∧ e = .returned (.tuple #[.slice p xs.length cap, .int .i64 c]) ∧ IntsAt w' p xs ∧ xs.length ≤ maxLen ∧ Below w.heap.size w w' := by
  refine (ref21_around pa n cp v A B C _ hn (Lib.hid rfl) w (Lib.hid hp)).mono ?_
  rintro e w' ⟨hX, hE⟩
  rcases hE with ⟨h, rfl⟩ | ⟨out, vv, h, hrow, rfl⟩
  · refine ⟨none, 0, [], 170, ?_, rfl, fun j hj => by simp at hj, Nat.zero_le _, hX⟩
    rw [show pairsF v A B C n 0 [] = pairsF v A B C (n - 0) 0 [] from rfl, h]; rfl
  · obtain ⟨p, cap, rfl, hI, hl⟩ := ints_of_row hrow
    refine ⟨p, cap, out, 0, ?_, rfl, hI, hl, hX⟩
    rw [show pairsF v A B C n 0 [] = pairsF v A B C (n - 0) 0 [] from rfl, h]; rfl
set_option maxRecDepth 100000 in
set_option maxHeartbeats 2000000 in
theorem law21_around (pa : Option Addr) (n cp : Nat) (v : Int) (A B C : Nat → Int) (hn : n ≤ maxLen) (hv : Wf v) (hwf : ∀ k, k < n → Wf (A k) ∧ Wf (B k) ∧ Wf (C k)) (w : World) (hp : Hid (PtsO w pa n A B C)) :
    Calls Try.prog 4 #[.slice pa n cp, .int .i64 v] w fun e w' => e = .returned (.bool true) ∧ Below w.heap.size w w' := by
  have HWF := Lib.hid hwf
  clear hwf
  unfold maxLen at hn
  by_cases hbig : 60 < n
  · have hbig' : (60 : Int) < n := by omega
    go_enter Try.func4, Try.ntmps4
    go_wp2_with fail
    refine (law21_awake _).mono ?_; rintro e W1 ⟨rfl, hX⟩
    go_wp2_with fail
    go_returns
    exact ⟨rfl, hX⟩
  have hbig' : ¬ (60 : Int) < n := by omega
  go_enter Try.func4, Try.ntmps4
  go_wp2_with fail
  refine (around_told pa n cp v A B C (by omega) hv HWF.out _ hp.out).mono ?_; rintro e W1 ⟨p, cap, xs, c, hr, rfl, hI, hl, hX⟩
  have hp1 := hp.out.below hX
  have HI := Lib.hid hI
  have HP := Lib.hid hp1
  clear hI hp1
  go_wp2_with fail
  refine (ref21_told pa n cp v A B C (by omega) _ HP.out).mono ?_; rintro e W2 ⟨q, cap2, ys, c2, hr2, rfl, hJ, hl2, hX2⟩
  rw [hr] at hr2
  injection hr2 with e1 e2
  subst e1 e2
  have hI2 := HI.out.below hX2
  have hB := after hX hX2
  have HI2 := Lib.hid hI2
  have HJ := Lib.hid hJ
  clear hI2 hJ hX hX2 HP HI
  have hl3 : xs.length < 4611686018427387904 := by have := @out_len v A B C n; rw [hr] at this; simp only at this; omega
  have HL := Lib.hid hl3
  clear hl hl2 hl3 hr
  go_wp2_with fail
  refine (ref3_same p q cap cap2 xs xs _ _ rfl rfl HL.out HL.out _ HI2 HJ).mono ?_; rintro e W3 ⟨rfl, hX⟩
  replace hB := after hB hX
  clear hX
  have hd : decide (xs = xs) = true := by simp
  rw [hd]
  clear hd
  go_wp2_with fail
  refine (law21_awake _).mono ?_; rintro e W4 ⟨rfl, hX⟩
  replace hB := after hB hX
  go_wp2_with fail
  go_returns
  exact ⟨by simp, hB⟩
end Go.Proofs.Ytdglijdiiggdgaa
namespace Go.Proofs.Ytdglijdiiggdgaa
open Go.ChangeShapes Go.WideShapes Go.RowKit Go.Deep

section
variable {H : Type} {enc : TypeId × Value → H} {W : World} {sp : Nat → Bool} {fuel base : Nat}
theorem cellsTri : Try.prog.cellsOf 45 = 3 := by kernel_rfl
theorem cellsInt : Try.prog.cellsOf 3 = 1 := by kernel_rfl
theorem uTris : Try.prog.underlying 23 = some (.slice 45) := by kernel_rfl
theorem own0 : ownKnob Try.prog.godebug = none := by kernel_rfl
theorem laid0 : laidOutB Try.prog = true := by kernel_rfl
set_option maxRecDepth 100000 in
theorem spot_of {e : TypeId} {b off : Nat} {s} {len cap : Nat} {t : TypeId} (ht : Try.prog.underlying t = some (.slice e)) (hv : Value.okWide Try.prog W .any base t (.slice (some ⟨b, off, s⟩) len cap)) : s = none ∧ b < W.heap.size := by
  simp only [Value.okWide, ht, Cell.okWide, Cell.ok, World.has] at hv
  obtain ⟨_, _, _, h1, row, cells, h2, _⟩ := hv
  refine ⟨h1, ?_⟩
  unfold World.shape? at h2
  by_cases hb : b < W.heap.size
  · exact hb
  · rw [Array.getElem?_eq_none (by simpa using hb)] at h2
    cases h2
set_option maxRecDepth 100000 in
theorem pts_of_trod {t e : TypeId} (ht : Try.prog.underlying t = some (.slice e)) (hc : Try.prog.cellsOf e = 3)
    (he : ∀ (n : Nat) (cs : List Value) (y : DataW H × List MemPlace), cs.length = 3 → DataW.trod enc Try.prog W 0 sp true n e cs = some y → ∃ a b c : Int, cs = [.int .i64 a, .int .i64 b, .int .i64 c] ∧ Wf a ∧ Wf b ∧ Wf c)
    {pa : Option Addr} {len cap : Nat} {x : DataW H × List MemPlace} (hv : Value.okWide Try.prog W .any base t (.slice pa len cap)) (h : DataW.trod enc Try.prog W 0 sp true fuel t [.slice pa len cap] = some x) :
    len ≤ maxLen ∧ ∃ A B C : Nat → Int, PtsO W pa len A B C ∧ ∀ k, k < len → Wf (A k) ∧ Wf (B k) ∧ Wf (C k) := by
  rcases open_slice ht h with ⟨h0, _⟩ | ⟨a, len', cap', m, n, D, Pl, h1, hb, hl, hm, hmm, rfl, hx⟩
  · simp at h0
    obtain ⟨rfl, rfl, rfl⟩ := h0
    exact ⟨Nat.zero_le _, fun _ => 0, fun _ => 0, fun _ => 0, .inl ⟨rfl, rfl⟩, fun k hk => absurd hk (Nat.not_lt_zero k)⟩
  simp at h1
  obtain ⟨rfl, rfl, rfl⟩ := h1
  obtain ⟨b, off, s⟩ := a
  obtain ⟨rfl, hbs⟩ := spot_of ht hv
  have hlm : len ≤ m := by rw [hmm]; split <;> omega
  have each : ∀ i, i < m → ∃ q : Int × Int × Int, W.cell? ⟨b, off + i * 3, none⟩ = some (.int .i64 q.1) ∧ W.cell? ⟨b, off + i * 3 + 1, none⟩ = some (.int .i64 q.2.1) ∧ W.cell? ⟨b, off + i * 3 + 2, none⟩ = some (.int .i64 q.2.2) ∧ Wf q.1 ∧ Wf q.2.1 ∧ Wf q.2.2 := by
    intro i hi
    obtain ⟨cs', h1, h2⟩ := hx i hi
    rw [hc] at h1
    obtain ⟨_, hlen, hcell⟩ := World.cells?_some h1
    obtain ⟨a, b', c, rfl, w1, w2, w3⟩ := he _ _ _ hlen h2
    have c0 := hcell 0 (by omega)
    have c1 := hcell 1 (by omega)
    have c2 := hcell 2 (by omega)
    rw [add_add] at c0 c1 c2
    simp only [add_plain] at c0 c1 c2
    exact ⟨(a, b', c), by simpa using c0, by simpa [Nat.add_assoc] using c1, by simpa [Nat.add_assoc] using c2, w1, w2, w3⟩
  obtain ⟨q, hq⟩ := choose_lt each
  exact ⟨Nat.le_trans hl hm, fun k => (q k).1, fun k => (q k).2.1, fun k => (q k).2.2, .inr ⟨b, off, rfl, hbs, fun i hi => ⟨(hq i (by omega)).1, (hq i (by omega)).2.1, (hq i (by omega)).2.2.1⟩⟩, fun k hk => (hq k (by omega)).2.2.2⟩
theorem tri_of_trod (n : Nat) (cs : List Value) (y : DataW H × List MemPlace) (hl : cs.length = 3) (h : DataW.trod enc Try.prog W 0 sp true n 45 cs = some y) : ∃ a b c : Int, cs = [.int .i64 a, .int .i64 b, .int .i64 c] ∧ Wf a ∧ Wf b ∧ Wf c := by
  match cs, hl with
  | [v0, v1, v2], _ =>
    obtain ⟨y0, y1, y2, k, _, u0, u1, u2⟩ := trod_array3 uTri cellsInt h
    obtain ⟨a, e0, _, w0⟩ := DataW.trod_int uInt u0
    obtain ⟨b, e1, _, w1⟩ := DataW.trod_int uInt u1
    obtain ⟨c, e2, _, w2⟩ := DataW.trod_int uInt u2
    simp only [List.cons.injEq, and_true] at e0 e1 e2
    subst e0; subst e1; subst e2
    exact ⟨a, b, c, rfl, w0, w1, w2⟩
end
/-- The last step of a row: behind a call that leaves all that was there alone and hands back values alone. -/
theorem post_below {H : Type} {enc : TypeId × Value → H} {P : Program} {f : Func} {s : ChangeSpec} {apart fresh handsOn again : Bool} {W W' : World} {args : Array Value} {v : Value} {ds gs : List (DataW H)} {before : List MemPlace}
    (whole : DataW.Whole enc P f.params.toList s.vars apart W args.toList ds gs before) (hB : Below W.heap.size W W')
    (told : ∀ (b : Nat) (sp : Nat → Bool) (hd : Bool), DataW.TrodAll enc P W' b sp hd f.resultTypes.toList (v.resultList f.resultTypes.size) (s.fn H (ds ++ gs)).results [])
    (given : ∀ sp : Nat → Bool, (∀ p ∈ before, sp p.block = true) → DataW.TrodAll enc P W' 0 sp true f.params.toList args.toList (s.fn H (ds ++ gs)).args before)
    (vars : ∀ sp : Nat → Bool, DataW.TrodVars enc P W' sp s.vars (s.fn H (ds ++ gs)).vars [])
    (outer : ∀ (j : Nat) (t : TypeId) (r : Value), f.resultTypes[j]? = some t → (v.resultList f.resultTypes.size)[j]? = some r → Value.okWide P W' .any 0 t r) :
    s.post enc P f apart fresh handsOn again W args v W' := by
  have old : ∀ p ∈ before, p.block < W.heap.size := fun p hp => by simpa using whole.lt p hp
  have lay : ∀ sp : Nat → Bool, (∀ p ∈ before, sp p.block = true) → DataW.TrodAll enc P W' 0 sp true (f.resultTypes.toList ++ f.params.toList) (v.resultList f.resultTypes.size ++ args.toList) ((s.fn H (ds ++ gs)).results ++ (s.fn H (ds ++ gs)).args) before := fun sp hs => trodAll_append (given sp hs) (told 0 sp true)
  obtain ⟨_, _, _, _, _, still, nodup⟩ := id whole
  refine ⟨ds, gs, before, [], before, [], whole, told _ _ _, given _ (fun p hp => by simpa using old p hp), vars _, World.keptBut_mono (fun p hp => ⟨hp, .inr (by simpa using hp)⟩) (hB.frame (· ∈ before)), fun _ => ⟨outer, _, _, before, ⟨before, [], lay _ (fun _ _ => rfl), vars _, by simp, fun b off hp => ?_, nodup⟩, fun p hp _ => by simpa using hp⟩⟩
  rw [hB.frozen (p := ⟨b, off, none⟩) (old _ hp)]
  exact still b off hp
end Go.Proofs.Ytdglijdiiggdgaa
/- Plain geometry: four-dimensional determinants of whole numbers, facets of the first k points of a list in general position; no Go here. -/
namespace Geo

structure V4 where
  x : Int
  y : Int
  z : Int
  w : Int

def d3 (a1 a2 a3 b1 b2 b3 c1 c2 c3 : Int) : Int := a1 * (b2 * c3 - b3 * c2) - a2 * (b1 * c3 - b3 * c1) + a3 * (b1 * c2 - b2 * c1)

def det (a b c d : V4) : Int :=
  a.x * d3 b.y b.z b.w c.y c.z c.w d.y d.z d.w - a.y * d3 b.x b.z b.w c.x c.z c.w d.x d.z d.w
    + a.z * d3 b.x b.y b.w c.x c.y c.w d.x d.y d.w - a.w * d3 b.x b.y b.z c.x c.y c.z d.x d.y d.z

theorem det_swap12 (a b c d : V4) : det b a c d = - det a b c d := by unfold det d3; grind
theorem det_swap23 (a b c d : V4) : det a c b d = - det a b c d := by unfold det d3; grind
theorem det_swap34 (a b c d : V4) : det a b d c = - det a b c d := by unfold det d3; grind
theorem det_rot (a b c d : V4) : det b c a d = det a b c d := by unfold det d3; grind

set_option maxRecDepth 100000 in
set_option maxHeartbeats 4000000 in
theorem gp (a b c d e f : V4) : det a b c d * det a b e f - det a b c e * det a b d f + det a b c f * det a b d e = 0 := by
  unfold det d3; grind

theorem det_self12 (a c d : V4) : det a a c d = 0 := by have := det_swap12 a a c d; omega
theorem det_self23 (a b d : V4) : det a b b d = 0 := by have := det_swap23 a b b d; omega
theorem det_self34 (a b c : V4) : det a b c c = 0 := by have := det_swap34 a b c c; omega
theorem det_self14 (a b c : V4) : det a b c a = 0 := by
  have h1 := det_swap34 a b c a
  have h2 := det_swap23 a b a c
  have h3 := det_self12 a b c
  omega
theorem det_self24 (a b c : V4) : det a b c b = 0 := by
  have h1 := det_swap34 a b c b
  have h3 := det_self23 a b c
  omega

/-! ### Facets of the first k points -/
section
variable (V : Nat → V4)

def D (i j k l : Nat) : Int := det (V i) (V j) (V k) (V l)

def General (n : Nat) : Prop := ∀ i j k l, i < n → j < n → k < n → l < n → i ≠ j → i ≠ k → i ≠ l → j ≠ k → j ≠ l → k ≠ l → D V i j k l ≠ 0

structure Facet (k a b c : Nat) : Prop where
  la : a < k
  lb : b < k
  lc : c < k
  ab : a ≠ b
  bc : b ≠ c
  ac : a ≠ c
  side : ∀ v, v < k → v ≠ a → v ≠ b → v ≠ c → 0 < D V a b c v
end

variable {V : Nat → V4}

theorem D_swap12 (a b c d : Nat) : D V b a c d = - D V a b c d := det_swap12 _ _ _ _
theorem D_swap23 (a b c d : Nat) : D V a c b d = - D V a b c d := det_swap23 _ _ _ _
theorem D_swap34 (a b c d : Nat) : D V a b d c = - D V a b c d := det_swap34 _ _ _ _
theorem D_rot (a b c d : Nat) : D V b c a d = D V a b c d := det_rot _ _ _ _
theorem D_gp (a b c d e f : Nat) : D V a b c d * D V a b e f - D V a b c e * D V a b d f + D V a b c f * D V a b d e = 0 := gp _ _ _ _ _ _

theorem Facet.rot {k a b c : Nat} (h : Facet V k a b c) : Facet V k b c a :=
  ⟨h.lb, h.lc, h.la, h.bc, fun e => h.ac e.symm, fun e => h.ab e.symm, fun v hv h1 h2 h3 => by rw [D_rot]; exact h.side v hv h3 h1 h2⟩

theorem Facet.unique {k a b c d : Nat} (h : Facet V k a b c) (h' : Facet V k a b d) : c = d := by
  apply Classical.byContradiction
  intro hne
  have h1 := h.side d h'.lc (Ne.symm h'.ac) (Ne.symm h'.bc) (Ne.symm hne)
  have h2 := h'.side c h.lc (Ne.symm h.ac) (Ne.symm h.bc) hne
  have := D_swap34 (V := V) a b c d
  omega

theorem exists_other {k : Nat} (hk : 4 ≤ k) (a b c : Nat) : ∃ v, v < k ∧ v ≠ a ∧ v ≠ b ∧ v ≠ c := by
  by_cases h0 : 0 ≠ a ∧ 0 ≠ b ∧ 0 ≠ c
  · exact ⟨0, by omega, h0.1, h0.2.1, h0.2.2⟩
  by_cases h1 : 1 ≠ a ∧ 1 ≠ b ∧ 1 ≠ c
  · exact ⟨1, by omega, h1.1, h1.2.1, h1.2.2⟩
  by_cases h2 : 2 ≠ a ∧ 2 ≠ b ∧ 2 ≠ c
  · exact ⟨2, by omega, h2.1, h2.2.1, h2.2.2⟩
  exact ⟨3, by omega, by omega, by omega, by omega⟩

theorem Facet.no_back {k a b c : Nat} (hk : 4 ≤ k) (h : Facet V k a b c) : ¬ Facet V k b a c := by
  intro h'
  obtain ⟨v, hv, h1, h2, h3⟩ := exists_other hk a b c
  have e1 := h.side v hv h1 h2 h3
  have e2 := h'.side v hv h2 h1 h3
  have := D_swap12 (V := V) a b c v
  omega

theorem pos_of_mul {h x y : Int} (hh : 0 < h) (e : h * x = y) (hy : 0 < y) : 0 < x := by
  apply Classical.byContradiction
  intro hx
  have : h * x ≤ 0 := Int.mul_nonpos_of_nonneg_of_nonpos (by omega) (by omega)
  omega

/-- Of the places that P names, the one that turns farthest round the line of a and b. -/
theorem rotmax {a b r : Nat} (P : Nat → Prop) [DecidablePred P] (k : Nat) (hP : ∃ v, v < k ∧ P v) (hpos : ∀ v, v < k → P v → 0 < D V a b r v)
    (hne : ∀ u t, u < k → t < k → P u → P t → u ≠ t → D V a b u t ≠ 0) :
    ∃ d, d < k ∧ P d ∧ ∀ u, u < k → P u → u ≠ d → 0 < D V a b u d := by
  induction k with
  | zero => obtain ⟨v, hv, _⟩ := hP; omega
  | succ k ih =>
    by_cases hex : ∃ v, v < k ∧ P v
    · obtain ⟨d, hd, hPd, hmax⟩ := ih hex (fun v hv => hpos v (by omega)) (fun u t hu ht => hne u t (by omega) (by omega))
      by_cases hPk : P k
      · rcases Int.lt_trichotomy 0 (D V a b d k) with hlt | heq | hgt
        · refine ⟨k, by omega, hPk, fun u hu hPu huk => ?_⟩
          by_cases hud : u = d
          · rw [hud]; exact hlt
          · have h1 := hmax u (by omega) hPu hud
            have g := D_gp (V := V) a b r u d k
            have p1 : 0 < D V a b r u * D V a b d k := Int.mul_pos (hpos u (by omega) hPu) hlt
            have p2 : 0 < D V a b r k * D V a b u d := Int.mul_pos (hpos k (by omega) hPk) h1
            exact pos_of_mul (hpos d (by omega) hPd) (y := D V a b r u * D V a b d k + D V a b r k * D V a b u d) (by omega) (by omega)
        · exact absurd heq.symm (hne d k (by omega) (by omega) hPd hPk (by omega))
        · refine ⟨d, by omega, hPd, fun u hu hPu hud => ?_⟩
          by_cases huk : u = k
          · rw [huk]; have := D_swap34 (V := V) a b d k; omega
          · exact hmax u (by omega) hPu hud
      · refine ⟨d, by omega, hPd, fun u hu hPu hud => hmax u ?_ hPu hud⟩
        have : u ≠ k := fun e => hPk (e ▸ hPu)
        omega
    · obtain ⟨v, hv, hPv⟩ := hP
      have hvk : v = k := by
        apply Classical.byContradiction
        intro h
        exact hex ⟨v, by omega, hPv⟩
      subst hvk
      refine ⟨v, by omega, hPv, fun u hu hPu huv => ?_⟩
      exact absurd ⟨u, by omega, hPu⟩ hex

/-- The other facet at an edge. -/
theorem Facet.across {k a b c : Nat} (hk : 4 ≤ k) (hg : General V k) (h : Facet V k a b c) : ∃ d, Facet V k b a d := by
  obtain ⟨v0, hv0, h01, h02, h03⟩ := exists_other hk a b c
  have hla := h.la; have hlb := h.lb; have hlc := h.lc; have hab := h.ab; have hbc := h.bc; have hac := h.ac
  obtain ⟨d, hd, ⟨hda, hdb, hdc⟩, hmax⟩ := rotmax (V := V) (a := a) (b := b) (r := c) (fun v => v ≠ a ∧ v ≠ b ∧ v ≠ c) k ⟨v0, hv0, h01, h02, h03⟩
    (fun v hv hP => h.side v hv hP.1 hP.2.1 hP.2.2)
    (fun u t hu ht hPu hPt hut => hg a b u t hla hlb hu ht hab (Ne.symm hPu.1) (Ne.symm hPt.1) (Ne.symm hPu.2.1) (Ne.symm hPt.2.1) hut)
  refine ⟨d, h.lb, h.la, hd, Ne.symm hab, Ne.symm hda, Ne.symm hdb, fun v hv h1 h2 h3 => ?_⟩
  have e1 := D_swap12 (V := V) a b d v
  have e2 := D_swap34 (V := V) a b v d
  by_cases hvc : v = c
  · subst hvc
    have := h.side d hd hda hdb hdc
    omega
  · have := hmax v hv ⟨h2, h1, hvc⟩ h3
    omega

/-! ### One point more -/

theorem facet_succ {k a b c : Nat} (ha : a < k) (hb : b < k) (hc : c < k) : Facet V (k + 1) a b c ↔ Facet V k a b c ∧ 0 < D V a b c k := by
  constructor
  · intro h
    exact ⟨⟨ha, hb, hc, h.ab, h.bc, h.ac, fun v hv => h.side v (by omega)⟩, h.side k (by omega) (by omega) (by omega) (by omega)⟩
  · rintro ⟨h, hk⟩
    refine ⟨by omega, by omega, by omega, h.ab, h.bc, h.ac, fun v hv h1 h2 h3 => ?_⟩
    by_cases hvk : v = k
    · rw [hvk]; exact hk
    · exact h.side v (by omega) h1 h2 h3

theorem neg_mul_neg' {x y : Int} (hx : x < 0) (hy : y < 0) : 0 < x * y := Int.mul_pos_of_neg_of_neg hx hy

/-- A facet with the new point stands over each edge between a facet that the point sees and one that it doesn't. -/
theorem facet_new {k a b c d : Nat} (hk4 : 4 ≤ k) (h1 : Facet V k a b c) (s1 : D V a b c k < 0) (h2 : Facet V k b a d) (s2 : 0 < D V b a d k) : Facet V (k + 1) a b k := by
  have hla := h1.la; have hlb := h1.lb; have hlc := h1.lc; have hab := h1.ab; have hbc := h1.bc; have hac := h1.ac
  have hld := h2.lc; have hda := h2.bc; have hdb := h2.ac
  have t2 := D_swap12 (V := V) a b d k
  have hcd : c ≠ d := by
    rintro rfl
    exact h1.no_back hk4 h2
  have hp : 0 < D V a b c d := h1.side d hld (Ne.symm hda) (Ne.symm hdb) (Ne.symm hcd)
  refine ⟨by omega, by omega, by omega, hab, by omega, by omega, fun v hv hva hvb hvk => ?_⟩
  have hv' : v < k := by omega
  have f1 := D_swap34 (V := V) a b c k
  have f2 := D_swap34 (V := V) a b d k
  by_cases hvc : v = c
  · subst hvc; omega
  by_cases hvd : v = d
  · subst hvd; omega
  have e1 := h1.side v hv' hva hvb hvc
  have e2 := h2.side v hv' hvb hva hvd
  have e3 := D_swap12 (V := V) a b d v
  have g := D_gp (V := V) a b c d k v
  have p1 : 0 < D V a b c k * D V a b d v := neg_mul_neg' s1 (by omega)
  have p2 : D V a b c v * D V a b d k < 0 := Int.mul_neg_of_pos_of_neg e1 (by omega)
  exact pos_of_mul hp (y := D V a b c k * D V a b d v - D V a b c v * D V a b d k) (by omega) (by omega)

/-- And those are all. -/
theorem facet_parents {k a b : Nat} (hk : 4 ≤ k) (hg : General V k) (h : Facet V (k + 1) a b k) :
    ∃ c d, Facet V k a b c ∧ D V a b c k < 0 ∧ Facet V k b a d ∧ 0 < D V b a d k := by
  have hab := h.ab; have hak := h.ac; have hbk := h.bc
  have hla : a < k := by have := h.la; omega
  have hlb : b < k := by have := h.lb; omega
  obtain ⟨v0, hv0, h01, h02, _⟩ := exists_other hk a b b
  have hpos : ∀ v, v < k → v ≠ a → v ≠ b → 0 < D V a b k v := fun v hv h1 h2 => h.side v (by omega) h1 h2 (by omega)
  obtain ⟨d, hd, ⟨hda, hdb⟩, hmax⟩ := rotmax (V := V) (a := a) (b := b) (r := k) (fun v => v ≠ a ∧ v ≠ b) k ⟨v0, hv0, h01, h02⟩
    (fun v hv hP => hpos v hv hP.1 hP.2)
    (fun u t hu ht hPu hPt hut => hg a b u t hla hlb hu ht hab (Ne.symm hPu.1) (Ne.symm hPt.1) (Ne.symm hPu.2) (Ne.symm hPt.2) hut)
  -- the other end: the facet (b, a, d)
  have hF2 : Facet V k b a d := by
    refine ⟨hlb, hla, hd, Ne.symm hab, Ne.symm hda, Ne.symm hdb, fun v hv h1 h2 h3 => ?_⟩
    have := hmax v hv ⟨h2, h1⟩ h3
    have e1 := D_swap12 (V := V) a b d v
    have e2 := D_swap34 (V := V) a b v d
    omega
  obtain ⟨c, hF1⟩ := hF2.across hk hg
  have hca := hF1.ac; have hcb := hF1.bc; have hlc := hF1.lc
  refine ⟨c, d, hF1, ?_, hF2, ?_⟩
  · have := hpos c hlc (Ne.symm hca) (Ne.symm hcb)
    have e2 := D_swap34 (V := V) a b k c
    omega
  · have := hpos d hd hda hdb
    have e1 := D_swap12 (V := V) a b d k
    have e2 := D_swap34 (V := V) a b k d
    omega

/-- Whoever sees the new facet sees one of the two that it is made of. -/
theorem sees_parent {k a b c d v : Nat} (hk4 : 4 ≤ k) (h1 : Facet V k a b c) (s1 : D V a b c k < 0) (h2 : Facet V k b a d) (s2 : 0 < D V b a d k)
    (hv : D V a b k v < 0) : D V a b c v < 0 ∨ D V b a d v < 0 := by
  apply Classical.byContradiction
  intro hn
  have n1 : 0 ≤ D V a b c v := by omega
  have n2 : 0 ≤ D V b a d v := by omega
  have hld := h2.lc; have hda := h2.bc; have hdb := h2.ac
  have t2 := D_swap12 (V := V) a b d k
  have hcd : c ≠ d := by
    rintro rfl
    exact h1.no_back hk4 h2
  have hp : 0 < D V a b c d := h1.side d hld (Ne.symm hda) (Ne.symm hdb) (Ne.symm hcd)
  have e3 := D_swap12 (V := V) a b d v
  have g := D_gp (V := V) a b c d k v
  have p0 : D V a b c d * D V a b k v < 0 := Int.mul_neg_of_pos_of_neg hp hv
  have p1 : 0 ≤ D V a b c k * D V a b d v := Int.mul_nonneg_of_nonpos_of_nonpos (by omega) (by omega)
  have p2 : D V a b c v * D V a b d k ≤ 0 := Int.mul_nonpos_of_nonneg_of_nonpos n1 (by omega)
  omega

end Geo
/- Plain geometry: the perturbed signs of four places are the signs of true determinants of moved whole points. No Go here. -/
namespace Geo

theorem ipow_le {B : Int} (hB : 1 ≤ B) {m n : Nat} (h : m ≤ n) : B ^ m ≤ B ^ n := by
  obtain ⟨d, rfl⟩ := Nat.exists_eq_add_of_le h
  rw [Int.pow_add]
  have h1 : 0 < B ^ m := Int.pow_pos (by omega)
  have h2 : 0 < B ^ d := Int.pow_pos (by omega)
  have := Int.mul_le_mul_of_nonneg_left (show (1 : Int) ≤ B ^ d by omega) (show 0 ≤ B ^ m by omega)
  omega

/-- The first that is not 0. -/
def fz : List Int → Int
  | [] => 0
  | x :: r => if x = 0 then fz r else x

theorem fz_append (a b : List Int) : fz (a ++ b) = if fz a = 0 then fz b else fz a := by
  induction a with
  | nil => simp [fz]
  | cons x r ih =>
    simp only [List.cons_append, fz]
    by_cases hx : x = 0
    · simp [hx, ih]
    · simp [hx]

theorem sign_cases (x : Int) : (x = 0 ∧ x.sign = 0) ∨ (0 < x ∧ x.sign = 1) ∨ (x < 0 ∧ x.sign = -1) := by
  rcases Int.lt_trichotomy x 0 with h | h | h
  · exact .inr (.inr ⟨h, Int.sign_eq_neg_one_of_neg h⟩)
  · exact .inl ⟨h, by rw [h]; rfl⟩
  · exact .inr (.inl ⟨h, Int.sign_eq_one_of_pos h⟩)

theorem dom0 {p0 p1 p2 p3 P0 P1 P2 P3 q0 q1 q2 q3 x0 x1 x2 x3 r : Int}
    (u0 : -P0 ≤ p0 ∧ p0 ≤ P0) (u1 : -P1 ≤ p1 ∧ p1 ≤ P1) (u2 : -P2 ≤ p2 ∧ p2 ≤ P2) (u3 : -P3 ≤ p3 ∧ p3 ≤ P3)
    (l0 : (x0 = 0 ∧ p0 = 0) ∨ (0 < x0 ∧ q0 ≤ p0) ∨ (x0 < 0 ∧ p0 ≤ -q0)) (l1 : (x1 = 0 ∧ p1 = 0) ∨ (0 < x1 ∧ q1 ≤ p1) ∨ (x1 < 0 ∧ p1 ≤ -q1))
    (l2 : (x2 = 0 ∧ p2 = 0) ∨ (0 < x2 ∧ q2 ≤ p2) ∨ (x2 < 0 ∧ p2 ≤ -q2)) (l3 : (x3 = 0 ∧ p3 = 0) ∨ (0 < x3 ∧ q3 ≤ p3) ∨ (x3 < 0 ∧ p3 ≤ -q3))
    (c1 : 6 * P1 ≤ q0) (c2 : 6 * P2 ≤ q1) (c3 : 6 * P3 ≤ q2) (d1 : P1 ≤ P0) (d2 : P2 ≤ P1) (d3 : P3 ≤ P2) (e1 : q1 ≤ q0) (e2 : q2 ≤ q1) (e3 : q3 ≤ q2)
    (hr : 0 < r) (hq : 2 * r ≤ q3) :
    (p0 + p1 + p2 + p3).sign = fz [x0.sign, x1.sign, x2.sign, x3.sign] ∧ (-(4 * P0) ≤ p0 + p1 + p2 + p3 ∧ p0 + p1 + p2 + p3 ≤ 4 * P0) ∧
      (p0 + p1 + p2 + p3 ≠ 0 → r ≤ p0 + p1 + p2 + p3 ∨ p0 + p1 + p2 + p3 ≤ -r) := by
  have s0 := sign_cases x0
  have s1 := sign_cases x1
  have s2 := sign_cases x2
  have s3 := sign_cases x3
  have sE := sign_cases (p0 + p1 + p2 + p3)
  refine ⟨?_, by omega, by omega⟩
  simp only [fz]
  rcases s0 with ⟨z0, s0⟩ | ⟨z0, s0⟩ | ⟨z0, s0⟩
  · rw [if_pos s0]
    rcases s1 with ⟨z1, s1⟩ | ⟨z1, s1⟩ | ⟨z1, s1⟩
    · rw [if_pos s1]
      rcases s2 with ⟨z2, s2⟩ | ⟨z2, s2⟩ | ⟨z2, s2⟩
      · rw [if_pos s2]
        rcases s3 with ⟨z3, s3⟩ | ⟨z3, s3⟩ | ⟨z3, s3⟩
        · rw [if_pos s3]; omega
        · rw [if_neg (by omega)]; omega
        · rw [if_neg (by omega)]; omega
      · rw [if_neg (by omega)]; omega
      · rw [if_neg (by omega)]; omega
    · rw [if_neg (by omega)]; omega
    · rw [if_neg (by omega)]; omega
  · rw [if_neg (by omega)]; omega
  · rw [if_neg (by omega)]; omega

theorem dom {B u : Int} (hB : 2 ≤ B) (hu0 : 0 ≤ u) (hu : 6 * u ≤ B) {g h f0 f1 f2 f3 : Nat} {x0 x1 x2 x3 : Int}
    (b0 : -(u * B ^ g) ≤ x0 ∧ x0 ≤ u * B ^ g) (b1 : -(u * B ^ g) ≤ x1 ∧ x1 ≤ u * B ^ g) (b2 : -(u * B ^ g) ≤ x2 ∧ x2 ≤ u * B ^ g) (b3 : -(u * B ^ g) ≤ x3 ∧ x3 ≤ u * B ^ g)
    (l0 : x0 ≠ 0 → B ^ h ≤ x0 ∨ x0 ≤ -B ^ h) (l1 : x1 ≠ 0 → B ^ h ≤ x1 ∨ x1 ≤ -B ^ h) (l2 : x2 ≠ 0 → B ^ h ≤ x2 ∨ x2 ≤ -B ^ h) (l3 : x3 ≠ 0 → B ^ h ≤ x3 ∨ x3 ≤ -B ^ h)
    (c1 : f1 + g + 1 ≤ f0 + h) (c2 : f2 + g + 1 ≤ f1 + h) (c3 : f3 + g + 1 ≤ f2 + h) (d1 : f1 ≤ f0) (d2 : f2 ≤ f1) (d3 : f3 ≤ f2) (hf : 1 ≤ h + f3) :
    (B ^ f0 * x0 + B ^ f1 * x1 + B ^ f2 * x2 + B ^ f3 * x3).sign = fz [x0.sign, x1.sign, x2.sign, x3.sign] ∧
      (-(4 * u * B ^ (g + f0)) ≤ B ^ f0 * x0 + B ^ f1 * x1 + B ^ f2 * x2 + B ^ f3 * x3 ∧ B ^ f0 * x0 + B ^ f1 * x1 + B ^ f2 * x2 + B ^ f3 * x3 ≤ 4 * u * B ^ (g + f0)) ∧
      (B ^ f0 * x0 + B ^ f1 * x1 + B ^ f2 * x2 + B ^ f3 * x3 ≠ 0 → B ^ (h + f3 - 1) ≤ B ^ f0 * x0 + B ^ f1 * x1 + B ^ f2 * x2 + B ^ f3 * x3 ∨ B ^ f0 * x0 + B ^ f1 * x1 + B ^ f2 * x2 + B ^ f3 * x3 ≤ -B ^ (h + f3 - 1)) := by
  have pos : ∀ n, 0 < B ^ n := fun n => Int.pow_pos (by omega)
  have up : ∀ f x, (-(u * B ^ g) ≤ x ∧ x ≤ u * B ^ g) → -(u * B ^ (g + f)) ≤ B ^ f * x ∧ B ^ f * x ≤ u * B ^ (g + f) := by
    intro f x ⟨ha, hb⟩
    have h1 := Int.mul_le_mul_of_nonneg_left ha (Int.le_of_lt (pos f))
    have h2 := Int.mul_le_mul_of_nonneg_left hb (Int.le_of_lt (pos f))
    have e : u * B ^ (g + f) = B ^ f * (u * B ^ g) := by rw [Int.pow_add]; grind
    rw [Int.mul_neg] at h1
    omega
  have low : ∀ f x, (x ≠ 0 → B ^ h ≤ x ∨ x ≤ -B ^ h) → (x = 0 ∧ B ^ f * x = 0) ∨ (0 < x ∧ B ^ (f + h) ≤ B ^ f * x) ∨ (x < 0 ∧ B ^ f * x ≤ -B ^ (f + h)) := by
    intro f x hx
    by_cases h0 : x = 0
    · exact .inl ⟨h0, by rw [h0, Int.mul_zero]⟩
    · rw [Int.pow_add]
      have hp := pos h
      rcases hx h0 with h1 | h1
      · exact .inr (.inl ⟨by omega, Int.mul_le_mul_of_nonneg_left h1 (Int.le_of_lt (pos f))⟩)
      · have := Int.mul_le_mul_of_nonneg_left h1 (Int.le_of_lt (pos f))
        rw [Int.mul_neg] at this
        exact .inr (.inr ⟨by omega, this⟩)
  have six : ∀ f f', f + g + 1 ≤ f' + h → 6 * (u * B ^ (g + f)) ≤ B ^ (f' + h) := by
    intro f f' hle
    have h1 : B ^ (f + g + 1) ≤ B ^ (f' + h) := ipow_le (by omega) hle
    have h2 : B ^ (f + g + 1) = B * B ^ (g + f) := by rw [show f + g + 1 = 1 + (g + f) by omega, Int.pow_add, Int.pow_one]
    have h3 := Int.mul_le_mul_of_nonneg_right hu (Int.le_of_lt (pos (g + f)))
    rw [Int.mul_assoc] at h3
    omega
  have mono : ∀ f f', f ≤ f' → u * B ^ (g + f) ≤ u * B ^ (g + f') := fun f f' hle => Int.mul_le_mul_of_nonneg_left (ipow_le (by omega) (by omega)) hu0
  have mono2 : ∀ f f', f ≤ f' → B ^ (f + h) ≤ B ^ (f' + h) := fun f f' hle => ipow_le (by omega) (by omega)
  have hr : 2 * B ^ (h + f3 - 1) ≤ B ^ (f3 + h) := by
    rw [show f3 + h = 1 + (h + f3 - 1) by omega, Int.pow_add, Int.pow_one]
    exact Int.mul_le_mul_of_nonneg_right hB (Int.le_of_lt (pos (h + f3 - 1)))
  have key := dom0 (up f0 x0 b0) (up f1 x1 b1) (up f2 x2 b2) (up f3 x3 b3) (low f0 x0 l0) (low f1 x1 l1) (low f2 x2 l2) (low f3 x3 l3)
    (six _ _ c1) (six _ _ c2) (six _ _ c3) (mono _ _ d1) (mono _ _ d2) (mono _ _ d3) (mono2 _ _ d1) (mono2 _ _ d2) (mono2 _ _ d3) (pos _) hr
  rw [Int.mul_assoc]
  exact key

/-! ### The rows and their changes -/

structure Pt where
  x : Int
  y : Int
  z : Int
  deriving DecidableEq, Inhabited

/-- A point's row, or what the change c (the bit 0, 1 or 2: 1, 2 or 4) makes of it. -/
def R (p : Pt) (c : Nat) : V4 :=
  if c = 1 then ⟨0, 0, 1, 0⟩ else if c = 2 then ⟨0, 1, 0, 0⟩ else if c = 4 then ⟨1, 0, 0, 0⟩ else ⟨p.x, p.y, p.z, 1⟩

/-- A point, moved. -/
def mv (s a b c : Int) (p : Pt) : V4 := ⟨s * p.x + c, s * p.y + b, s * p.z + a, s⟩

theorem det_lin1 (s a b c : Int) (p : Pt) (q r t : V4) : det (mv s a b c p) q r t = s * det (R p 0) q r t + a * det (R p 1) q r t + b * det (R p 2) q r t + c * det (R p 4) q r t := by
  simp only [mv, R, if_pos, reduceIte, show ((0 : Nat) = 1) = False by simp, show ((0 : Nat) = 2) = False by simp, show ((0 : Nat) = 4) = False by simp, show ((2 : Nat) = 1) = False by simp, show ((4 : Nat) = 1) = False by simp, show ((4 : Nat) = 2) = False by simp]
  unfold det; grind
theorem det_lin2 (s a b c : Int) (p : Pt) (q r t : V4) : det q (mv s a b c p) r t = s * det q (R p 0) r t + a * det q (R p 1) r t + b * det q (R p 2) r t + c * det q (R p 4) r t := by
  have h := det_lin1 s a b c p q r t
  have e := fun x => det_swap12 q x r t
  simp only [e] at h
  grind
theorem det_lin3 (s a b c : Int) (p : Pt) (q r t : V4) : det q r (mv s a b c p) t = s * det q r (R p 0) t + a * det q r (R p 1) t + b * det q r (R p 2) t + c * det q r (R p 4) t := by
  have h := det_lin2 s a b c p q r t
  have e := fun x => det_swap23 q r x t
  simp only [e] at h
  grind
theorem det_lin4 (s a b c : Int) (p : Pt) (q r t : V4) : det q r t (mv s a b c p) = s * det q r t (R p 0) + a * det q r t (R p 1) + b * det q r t (R p 2) + c * det q r t (R p 4) := by
  have h := det_lin3 s a b c p q r t
  have e := fun x => det_swap34 q r t x
  simp only [e] at h
  grind

/-! ### Bounds -/
def bnd (A x : Int) : Prop := -A ≤ x ∧ x ≤ A
theorem bnd_mul {A B x y : Int} (_hA : 0 ≤ A) (_hB : 0 ≤ B) (hx : bnd A x) (hy : bnd B y) : bnd (A * B) (x * y) := by
  obtain ⟨x1, x2⟩ := hx
  obtain ⟨y1, y2⟩ := hy
  have h1 := Int.mul_nonneg (show 0 ≤ A - x by omega) (show 0 ≤ B - y by omega)
  have h2 := Int.mul_nonneg (show 0 ≤ A + x by omega) (show 0 ≤ B + y by omega)
  have h3 := Int.mul_nonneg (show 0 ≤ A - x by omega) (show 0 ≤ B + y by omega)
  have h4 := Int.mul_nonneg (show 0 ≤ A + x by omega) (show 0 ≤ B - y by omega)
  rw [Int.sub_mul, Int.mul_sub, Int.mul_sub] at h1
  rw [Int.add_mul, Int.mul_add, Int.mul_add] at h2
  rw [Int.sub_mul, Int.mul_add, Int.mul_add] at h3
  rw [Int.add_mul, Int.mul_sub, Int.mul_sub] at h4
  exact ⟨by omega, by omega⟩
theorem bnd_add {A B x y : Int} (hx : bnd A x) (hy : bnd B y) : bnd (A + B) (x + y) := ⟨by have := hx.1; have := hy.1; omega, by have := hx.2; have := hy.2; omega⟩
theorem bnd_sub {A B x y : Int} (hx : bnd A x) (hy : bnd B y) : bnd (A + B) (x - y) := ⟨by have := hx.1; have := hy.2; omega, by have := hx.2; have := hy.1; omega⟩
theorem bnd_mono {A B x : Int} (h : A ≤ B) (hx : bnd A x) : bnd B x := ⟨by have := hx.1; omega, by have := hx.2; omega⟩

def BV (M : Int) (v : V4) : Prop := bnd M v.x ∧ bnd M v.y ∧ bnd M v.z ∧ bnd M v.w

theorem d3_bnd {M a1 a2 a3 b1 b2 b3 c1 c2 c3 : Int} (hM : 0 ≤ M) (ha1 : bnd M a1) (ha2 : bnd M a2) (ha3 : bnd M a3) (hb1 : bnd M b1) (hb2 : bnd M b2) (hb3 : bnd M b3)
    (hc1 : bnd M c1) (hc2 : bnd M c2) (hc3 : bnd M c3) : bnd (6 * (M * (M * M))) (d3 a1 a2 a3 b1 b2 b3 c1 c2 c3) := by
  have hMM := Int.mul_nonneg hM hM
  have m : ∀ {x y u v : Int}, bnd M x → bnd M y → bnd M u → bnd M v → bnd (M * M + M * M) (x * y - u * v) := fun hx hy hu hv => bnd_sub (bnd_mul hM hM hx hy) (bnd_mul hM hM hu hv)
  unfold d3
  have t1 := bnd_mul hM (by omega) ha1 (m hb2 hc3 hb3 hc2)
  have t2 := bnd_mul hM (by omega) ha2 (m hb1 hc3 hb3 hc1)
  have t3 := bnd_mul hM (by omega) ha3 (m hb1 hc2 hb2 hc1)
  refine bnd_mono ?_ (bnd_add (bnd_sub t1 t2) t3)
  rw [Int.mul_add]
  omega

theorem det_bnd {M : Int} (hM : 0 ≤ M) {a b c d : V4} (ha : BV M a) (hb : BV M b) (hc : BV M c) (hd : BV M d) : bnd (24 * (M * (M * (M * M)))) (det a b c d) := by
  obtain ⟨a1, a2, a3, a4⟩ := ha
  obtain ⟨b1, b2, b3, b4⟩ := hb
  obtain ⟨c1, c2, c3, c4⟩ := hc
  obtain ⟨e1, e2, e3, e4⟩ := hd
  have hMMM : 0 ≤ M * (M * M) := Int.mul_nonneg hM (Int.mul_nonneg hM hM)
  unfold det
  have t1 := bnd_mul hM (by omega) a1 (d3_bnd hM b2 b3 b4 c2 c3 c4 e2 e3 e4)
  have t2 := bnd_mul hM (by omega) a2 (d3_bnd hM b1 b3 b4 c1 c3 c4 e1 e3 e4)
  have t3 := bnd_mul hM (by omega) a3 (d3_bnd hM b1 b2 b4 c1 c2 c4 e1 e2 e4)
  have t4 := bnd_mul hM (by omega) a4 (d3_bnd hM b1 b2 b3 c1 c2 c3 e1 e2 e3)
  refine bnd_mono ?_ (bnd_sub (bnd_add (bnd_sub t1 t2) t3) t4)
  have e : M * (6 * (M * (M * M))) = 6 * (M * (M * (M * M))) := by grind
  omega

theorem R_bnd {M : Int} (hM : 1 ≤ M) {p : Pt} (hp : bnd M p.x ∧ bnd M p.y ∧ bnd M p.z) (c : Nat) : BV M (R p c) := by
  have h0 : bnd M 0 := ⟨by omega, by omega⟩
  have h1 : bnd M 1 := ⟨by omega, by omega⟩
  unfold R
  split
  · exact ⟨h0, h0, h1, h0⟩
  split
  · exact ⟨h0, h1, h0, h0⟩
  split
  · exact ⟨h1, h0, h0, h0⟩
  · exact ⟨hp.1, hp.2.1, hp.2.2, h1⟩

/-! ### The levels -/
def Lev (B u : Int) (g h : Nat) (X : Int) : Prop := (-(u * B ^ g) ≤ X ∧ X ≤ u * B ^ g) ∧ (X ≠ 0 → B ^ h ≤ X ∨ X ≤ -B ^ h)

/-- One row more. -/
theorem lev_step {B u : Int} (hB : 2 ≤ B) (hu0 : 0 ≤ u) (hu : 6 * u ≤ B) {g h K e : Nat} (he : 1 ≤ e) (hK : 4 * e + 1 ≤ K) {x0 x1 x2 x3 : Int} (c : g + 1 ≤ e + h)
    (l0 : Lev B u g h x0) (l1 : Lev B u g h x1) (l2 : Lev B u g h x2) (l3 : Lev B u g h x3) :
    (B ^ K * x0 + B ^ (K - e) * x1 + B ^ (K - 2 * e) * x2 + B ^ (K - 4 * e) * x3).sign = fz [x0.sign, x1.sign, x2.sign, x3.sign] ∧
      Lev B (4 * u) (g + K) (h + (K - 4 * e) - 1) (B ^ K * x0 + B ^ (K - e) * x1 + B ^ (K - 2 * e) * x2 + B ^ (K - 4 * e) * x3) := by
  have h := dom hB hu0 hu l0.1 l1.1 l2.1 l3.1 l0.2 l1.2 l2.2 l3.2 (f0 := K) (f1 := K - e) (f2 := K - 2 * e) (f3 := K - 4 * e) (by omega) (by omega) (by omega) (by omega) (by omega) (by omega) (by omega)
  exact ⟨h.1, h.2.1, h.2.2⟩

/-! ### The sign of four points whose places rise -/
def dm (p q r t : Pt) (a b c : Nat) : Int := (det (R p a) (R q b) (R r c) (R t 0)).sign

def sg4 (p q r t : Pt) : Int :=
  fz [dm p q r t 0 0 0, dm p q r t 1 0 0, dm p q r t 2 0 0, dm p q r t 4 0 0, dm p q r t 0 1 0, dm p q r t 2 1 0, dm p q r t 4 1 0,
    dm p q r t 0 2 0, dm p q r t 1 2 0, dm p q r t 4 2 0, dm p q r t 0 4 0, dm p q r t 1 4 0, dm p q r t 2 4 0,
    dm p q r t 0 0 1, dm p q r t 2 0 1, dm p q r t 4 0 1, dm p q r t 0 2 1, dm p q r t 4 2 1]

theorem R_eq {c : Nat} (h : c = 1 ∨ c = 2 ∨ c = 4) (p q : Pt) : R p c = R q c := by rcases h with rfl | rfl | rfl <;> rfl
theorem dm_self12 (p q r t : Pt) (b : Nat) {a : Nat} (h : a = 1 ∨ a = 2 ∨ a = 4) : dm p q r t a a b = 0 := by
  unfold dm; rw [R_eq h p q, det_self12]; rfl
theorem dm_self23 (p q r t : Pt) (b : Nat) {a : Nat} (h : a = 1 ∨ a = 2 ∨ a = 4) : dm p q r t b a a = 0 := by
  unfold dm; rw [R_eq h q r, det_self23]; rfl
theorem dm_self13 (p q r t : Pt) (b : Nat) {a : Nat} (h : a = 1 ∨ a = 2 ∨ a = 4) : dm p q r t a b a = 0 := by
  have h1 := det_swap23 (R p a) (R q b) (R p a) (R t 0)
  rw [det_self12] at h1
  unfold dm; rw [R_eq h r p, show det (R p a) (R q b) (R p a) (R t 0) = 0 by omega]; rfl
theorem dm_last (p q r t : Pt) : dm p q r t 4 2 1 = 1 := by
  unfold dm R det d3; simp

theorem sg4_cases (p q r t : Pt) : sg4 p q r t = 1 ∨ sg4 p q r t = -1 := by
  have hs : ∀ l : List Int, (∀ x ∈ l, x = 0 ∨ x = 1 ∨ x = -1) → (∃ x ∈ l, x ≠ 0) → fz l = 1 ∨ fz l = -1 := by
    intro l
    induction l with
    | nil => intro _ h; obtain ⟨x, hx, _⟩ := h; simp at hx
    | cons y r ih =>
      intro h1 h2
      have hy := h1 y (by simp)
      simp only [fz]
      by_cases h0 : y = 0
      · rw [if_pos h0]
        refine ih (fun x hx => h1 x (by simp [hx])) ?_
        obtain ⟨x, hx, hne⟩ := h2
        rcases List.mem_cons.1 hx with rfl | hx
        · exact absurd h0 hne
        · exact ⟨x, hx, hne⟩
      · rw [if_neg h0]; omega
  have hd : ∀ a b c, dm p q r t a b c = 0 ∨ dm p q r t a b c = 1 ∨ dm p q r t a b c = -1 := by
    intro a b c
    have := sign_cases (det (R p a) (R q b) (R r c) (R t 0))
    unfold dm
    omega
  refine hs _ ?_ ⟨dm p q r t 4 2 1, by simp, by rw [dm_last]; decide⟩
  intro x hx
  simp only [List.mem_cons, List.not_mem_nil, or_false] at hx
  rcases hx with h | h | h | h | h | h | h | h | h | h | h | h | h | h | h | h | h | h <;> (rw [h]; exact hd _ _ _)

/-- The sixteen, and then those with the third row changed, tell what 'sg4' tells. -/
theorem fz_sg4 (p q r t : Pt) (s00 s01 s02 s04 s10 s11 s12 s14 z2 z4 x1 x2 x4 : Int)
    (h00 : s00 = fz [dm p q r t 0 0 0, dm p q r t 1 0 0, dm p q r t 2 0 0, dm p q r t 4 0 0])
    (h01 : s01 = fz [dm p q r t 0 1 0, dm p q r t 1 1 0, dm p q r t 2 1 0, dm p q r t 4 1 0])
    (h02 : s02 = fz [dm p q r t 0 2 0, dm p q r t 1 2 0, dm p q r t 2 2 0, dm p q r t 4 2 0])
    (h04 : s04 = fz [dm p q r t 0 4 0, dm p q r t 1 4 0, dm p q r t 2 4 0, dm p q r t 4 4 0])
    (h10 : s10 = fz [dm p q r t 0 0 1, dm p q r t 1 0 1, dm p q r t 2 0 1, dm p q r t 4 0 1])
    (h11 : s11 = fz [dm p q r t 0 1 1, dm p q r t 1 1 1, dm p q r t 2 1 1, dm p q r t 4 1 1])
    (h12 : s12 = fz [dm p q r t 0 2 1, dm p q r t 1 2 1, dm p q r t 2 2 1, dm p q r t 4 2 1]) :
    fz [fz [fz [s00, s01, s02, s04], fz [s10, s11, s12, s14], z2, z4], x1, x2, x4] = sg4 p q r t := by
  have t1 : (1 : Nat) = 1 ∨ (1 : Nat) = 2 ∨ (1 : Nat) = 4 := by omega
  have t2 : (2 : Nat) = 1 ∨ (2 : Nat) = 2 ∨ (2 : Nat) = 4 := by omega
  have t4 : (4 : Nat) = 1 ∨ (4 : Nat) = 2 ∨ (4 : Nat) = 4 := by omega
  rw [dm_self12 _ _ _ _ _ t1] at h01
  rw [dm_self12 _ _ _ _ _ t2] at h02
  rw [dm_self12 _ _ _ _ _ t4] at h04
  rw [dm_self13 _ _ _ _ _ t1] at h10
  rw [dm_self12 _ _ _ _ _ t1, dm_self23 _ _ _ _ _ t1, dm_self23 _ _ _ _ _ t1, dm_self23 _ _ _ _ _ t1] at h11
  rw [dm_self13 _ _ _ _ _ t1, dm_self12 _ _ _ _ _ t2, dm_last] at h12
  have e11 : s11 = 0 := by rw [h11]; rfl
  have e12 : fz [s12] ≠ 0 := by
    rw [h12]
    simp only [fz, reduceIte]
    by_cases h : dm p q r t 0 2 1 = 0 <;> simp [h]
  have hne : fz [s10, s11, s12, s14] = fz [s10, s12] := by
    rw [e11]
    simp only [fz, reduceIte] at e12 ⊢
    by_cases h : s12 = 0
    · rw [h] at e12; simp at e12
    · simp [h]
  have hz : fz [s10, s12] ≠ 0 := by
    simp only [fz] at e12 ⊢
    by_cases h : s12 = 0
    · rw [h] at e12; simp at e12
    · by_cases h' : s10 = 0 <;> simp [h, h']
  have hin : fz [fz [s00, s01, s02, s04], fz [s10, s11, s12, s14], z2, z4] = fz [fz [s00, s01, s02, s04], fz [s10, s12]] := by
    rw [hne]
    generalize fz [s10, s12] = y at hz
    generalize fz [s00, s01, s02, s04] = x
    simp only [fz]
    by_cases h : x = 0 <;> simp [h, hz]
  have hin0 : fz [fz [s00, s01, s02, s04], fz [s10, s12]] ≠ 0 := by
    generalize fz [s10, s12] = y at hz
    generalize fz [s00, s01, s02, s04] = x
    simp only [fz]
    by_cases h : x = 0 <;> simp [h, hz]
  rw [hin]
  have hout : fz [fz [fz [s00, s01, s02, s04], fz [s10, s12]], x1, x2, x4] = fz [fz [s00, s01, s02, s04], fz [s10, s12]] := by
    generalize fz [fz [s00, s01, s02, s04], fz [s10, s12]] = y at hin0
    simp [fz, hin0]
  rw [hout]
  have flat : ∀ a b c d e f : List Int, fz [fz [fz a, fz b, fz c, fz d], fz [fz e, fz f]] = fz (a ++ b ++ c ++ d ++ e ++ f) := by
    intro a b c d e f
    simp only [fz_append]
    generalize fz a = a
    generalize fz b = b
    generalize fz c = c
    generalize fz d = d
    generalize fz e = e
    generalize fz f = f
    simp only [fz]
    by_cases ha : a = 0 <;> by_cases hb : b = 0 <;> by_cases hc : c = 0 <;> by_cases hd : d = 0 <;> by_cases he : e = 0 <;> by_cases hf : f = 0 <;> simp [ha, hb, hc, hd, he, hf]
  rw [h00, h01, h02, h04, h10, h12, flat]
  unfold sg4
  rw [dm_last]
  simp only [List.cons_append, List.nil_append, fz, reduceIte]

theorem eight_lt {i j : Nat} (h : i < j) : 8 * 8 ^ i ≤ 8 ^ j := by
  have : 8 * 8 ^ i = 8 ^ (i + 1) := by rw [Nat.pow_succ, Nat.mul_comm]
  rw [this]
  exact Nat.pow_le_pow_right (by omega) h

def mvd (B : Int) (K : Nat) (l : Nat → Pt) (i : Nat) : V4 := mv (B ^ K) (B ^ (K - 8 ^ i)) (B ^ (K - 2 * 8 ^ i)) (B ^ (K - 4 * 8 ^ i)) (l i)

/-- A moved point's sign is the perturbed one. -/
theorem sign_mvd {B M : Int} (hM : 1 ≤ M) (hB : 384 * (24 * (M * (M * (M * M)))) ≤ B) {l : Nat → Pt} {K n : Nat} (hK : 8 ^ n ≤ K)
    (hl : ∀ i, i < n → bnd M (l i).x ∧ bnd M (l i).y ∧ bnd M (l i).z) {i0 i1 i2 i3 : Nat} (h01 : i0 < i1) (h12 : i1 < i2) (h23 : i2 < i3) (h3 : i3 < n) :
    (det (mvd B K l i0) (mvd B K l i1) (mvd B K l i2) (mvd B K l i3)).sign = sg4 (l i0) (l i1) (l i2) (l i3) := by
  have hM4 : 1 ≤ M * (M * (M * M)) := by
    have a1 := Int.mul_le_mul hM hM (by omega) (by omega)
    have a2 := Int.mul_le_mul hM a1 (by omega) (by omega)
    have a3 := Int.mul_le_mul hM a2 (by omega) (by omega)
    omega
  generalize hC : 24 * (M * (M * (M * M))) = C at hB
  have hC1 : 24 ≤ C := by omega
  have g01 := eight_lt h01
  have g12 := eight_lt h12
  have g23 := eight_lt h23
  have g3 := eight_lt h3
  have p0 : 1 ≤ 8 ^ i0 := Nat.pow_pos (by omega)
  generalize he0 : 8 ^ i0 = e0 at *
  generalize he1 : 8 ^ i1 = e1 at *
  generalize he2 : 8 ^ i2 = e2 at *
  generalize he3 : 8 ^ i3 = e3 at *
  have m0 : mvd B K l i0 = mv (B ^ K) (B ^ (K - e0)) (B ^ (K - 2 * e0)) (B ^ (K - 4 * e0)) (l i0) := by rw [mvd, he0]
  have m1 : mvd B K l i1 = mv (B ^ K) (B ^ (K - e1)) (B ^ (K - 2 * e1)) (B ^ (K - 4 * e1)) (l i1) := by rw [mvd, he1]
  have m2 : mvd B K l i2 = mv (B ^ K) (B ^ (K - e2)) (B ^ (K - 2 * e2)) (B ^ (K - 4 * e2)) (l i2) := by rw [mvd, he2]
  have m3 : mvd B K l i3 = mv (B ^ K) (B ^ (K - e3)) (B ^ (K - 2 * e3)) (B ^ (K - 4 * e3)) (l i3) := by rw [mvd, he3]
  -- level 0
  have L0 : ∀ a b c d, Lev B C 0 0 (det (R (l i0) a) (R (l i1) b) (R (l i2) c) (R (l i3) d)) := by
    intro a b c d
    have hb := det_bnd (show 0 ≤ M by omega) (R_bnd hM (hl i0 (by omega)) a) (R_bnd hM (hl i1 (by omega)) b) (R_bnd hM (hl i2 (by omega)) c) (R_bnd hM (hl i3 (by omega)) d)
    rw [hC] at hb
    refine ⟨⟨?_, ?_⟩, fun hne => ?_⟩
    · have := hb.1; simpa using this
    · have := hb.2; simpa using this
    · simp only [Int.pow_zero]; omega
  -- level 1
  have S1 : ∀ q r t : V4, (∀ a, Lev B C 0 0 (det (R (l i0) a) q r t)) →
      (det (mvd B K l i0) q r t).sign = fz [(det (R (l i0) 0) q r t).sign, (det (R (l i0) 1) q r t).sign, (det (R (l i0) 2) q r t).sign, (det (R (l i0) 4) q r t).sign] ∧
        Lev B (4 * C) (0 + K) (0 + (K - 4 * e0) - 1) (det (mvd B K l i0) q r t) := by
    intro q r t h
    rw [m0, det_lin1]
    exact lev_step (by omega) (by omega) (by omega) (by omega) (by omega) (by omega) (h 0) (h 1) (h 2) (h 4)
  have S2 : ∀ r t : V4, (∀ a, Lev B (4 * C) (0 + K) (0 + (K - 4 * e0) - 1) (det (mvd B K l i0) (R (l i1) a) r t)) →
      (det (mvd B K l i0) (mvd B K l i1) r t).sign = fz [(det (mvd B K l i0) (R (l i1) 0) r t).sign, (det (mvd B K l i0) (R (l i1) 1) r t).sign, (det (mvd B K l i0) (R (l i1) 2) r t).sign, (det (mvd B K l i0) (R (l i1) 4) r t).sign] ∧
        Lev B (4 * (4 * C)) (0 + K + K) (0 + (K - 4 * e0) - 1 + (K - 4 * e1) - 1) (det (mvd B K l i0) (mvd B K l i1) r t) := by
    intro r t h
    rw [m1, det_lin2]
    exact lev_step (by omega) (by omega) (by omega) (by omega) (by omega) (by omega) (h 0) (h 1) (h 2) (h 4)
  have S3 : ∀ t : V4, (∀ a, Lev B (4 * (4 * C)) (0 + K + K) (0 + (K - 4 * e0) - 1 + (K - 4 * e1) - 1) (det (mvd B K l i0) (mvd B K l i1) (R (l i2) a) t)) →
      (det (mvd B K l i0) (mvd B K l i1) (mvd B K l i2) t).sign = fz [(det (mvd B K l i0) (mvd B K l i1) (R (l i2) 0) t).sign, (det (mvd B K l i0) (mvd B K l i1) (R (l i2) 1) t).sign, (det (mvd B K l i0) (mvd B K l i1) (R (l i2) 2) t).sign, (det (mvd B K l i0) (mvd B K l i1) (R (l i2) 4) t).sign] ∧
        Lev B (4 * (4 * (4 * C))) (0 + K + K + K) (0 + (K - 4 * e0) - 1 + (K - 4 * e1) - 1 + (K - 4 * e2) - 1) (det (mvd B K l i0) (mvd B K l i1) (mvd B K l i2) t) := by
    intro t h
    rw [m2, det_lin3]
    exact lev_step (by omega) (by omega) (by omega) (by omega) (by omega) (by omega) (h 0) (h 1) (h 2) (h 4)
  have A1 : ∀ b c d, _ := fun b c d => S1 (R (l i1) b) (R (l i2) c) (R (l i3) d) (fun a => L0 a b c d)
  have A2 : ∀ c d, _ := fun c d => S2 (R (l i2) c) (R (l i3) d) (fun b => (A1 b c d).2)
  have A3 : ∀ d, _ := fun d => S3 (R (l i3) d) (fun c => (A2 c d).2)
  have A4 : (det (mvd B K l i0) (mvd B K l i1) (mvd B K l i2) (mvd B K l i3)).sign = fz [(det (mvd B K l i0) (mvd B K l i1) (mvd B K l i2) (R (l i3) 0)).sign, (det (mvd B K l i0) (mvd B K l i1) (mvd B K l i2) (R (l i3) 1)).sign, (det (mvd B K l i0) (mvd B K l i1) (mvd B K l i2) (R (l i3) 2)).sign, (det (mvd B K l i0) (mvd B K l i1) (mvd B K l i2) (R (l i3) 4)).sign] := by
    rw [m3, det_lin4]
    exact (lev_step (by omega) (by omega) (by omega) (by omega) (by omega) (by omega) (A3 0).2 (A3 1).2 (A3 2).2 (A3 4).2).1
  rw [A4, (A3 0).1, (A2 0 0).1, (A2 1 0).1]
  exact fz_sg4 (l i0) (l i1) (l i2) (l i3) _ _ _ _ _ _ _ _ _ _ _ _ _ (A1 0 0 0).1 (A1 1 0 0).1 (A1 2 0 0).1 (A1 4 0 0).1 (A1 0 1 0).1 (A1 1 1 0).1 (A1 2 1 0).1

end Geo
namespace Geo
/-- The codes of the four rows (0: as it was; 1, 2, 4: changed) when the first j bits of m have been looked at. -/
def cR (m j s : Nat) : Nat := m % 2 ^ j / 8 ^ s % 8
def cOk (c : Nat) : Bool := c == 0 || c == 1 || c == 2 || c == 4
def hV (m j k : Nat) : Nat := if cR m j 0 / 2 ^ k % 2 = 1 ∨ cR m j 1 / 2 ^ k % 2 = 1 ∨ cR m j 2 / 2 ^ k % 2 = 1 ∨ cR m j 3 / 2 ^ k % 2 = 1 then 1 else 0
def apart (a b : Nat) : Bool := a == 0 || b == 0 || a != b
def good (m j : Nat) : Bool :=
  cOk (cR m j 0) && cOk (cR m j 1) && cOk (cR m j 2) && cOk (cR m j 3) && apart (cR m j 0) (cR m j 1) && apart (cR m j 0) (cR m j 2) && apart (cR m j 0) (cR m j 3) &&
    apart (cR m j 1) (cR m j 2) && apart (cR m j 1) (cR m j 3) && apart (cR m j 2) (cR m j 3)
/-- One bit more: m's bit 3 * r + k. -/
def stepOk (m r k : Nat) : Bool :=
  let j := 3 * r + k
  !good m j ||
    (if m / 2 ^ j % 2 = 1 then
      (if cR m j r ≠ 0 ∨ hV m j k = 1 then !good m 12
        else good m (j + 1) && cR m (j + 1) r == 2 ^ k && (List.range 4).all (fun s => s == r || cR m (j + 1) s == cR m j s) && (List.range 3).all (fun i => hV m (j + 1) i == (if i = k then 1 else hV m j i)))
    else good m (j + 1) && (List.range 4).all (fun s => cR m (j + 1) s == cR m j s) && (List.range 3).all (fun i => hV m (j + 1) i == hV m j i))
theorem steps_ok : ((List.range 85).all fun m => (List.range 4).all fun r => (List.range 3).all fun k => stepOk m r k) = true := by decide +kernel
theorem step_ok {m r k : Nat} (hm : m < 85) (hr : r < 4) (hk : k < 3) : stepOk m r k = true := by
  have h := List.all_eq_true.1 (List.all_eq_true.1 (List.all_eq_true.1 steps_ok m (List.mem_range.2 hm)) r (List.mem_range.2 hr)) k (List.mem_range.2 hk)
  exact h
theorem good0 (m : Nat) : good m 0 = true := by
  have : ∀ s, cR m 0 s = 0 := fun s => by unfold cR; rw [show m % 2 ^ 0 = 0 from Nat.mod_one m]; simp
  unfold good; simp [this, cOk, apart]
section
variable {m r k : Nat} (hm : m < 85) (hr : r < 4) (hk : k < 3) (hg : good m (3 * r + k) = true)
include hm hr hk hg
theorem mask_no (hb : m / 2 ^ (3 * r + k) % 2 ≠ 1) : good m (3 * r + k + 1) = true ∧ (∀ s, s < 4 → cR m (3 * r + k + 1) s = cR m (3 * r + k) s) ∧ ∀ i, i < 3 → hV m (3 * r + k + 1) i = hV m (3 * r + k) i := by
  have h := step_ok hm hr hk
  unfold stepOk at h
  simp only [hg, Bool.not_true, Bool.false_or, if_neg hb, Bool.and_eq_true, List.all_eq_true, List.mem_range, beq_iff_eq] at h
  exact ⟨h.1.1, h.1.2, h.2⟩
theorem mask_bad (hb : m / 2 ^ (3 * r + k) % 2 = 1) (h2 : cR m (3 * r + k) r ≠ 0 ∨ hV m (3 * r + k) k = 1) : good m 12 = false := by
  have h := step_ok hm hr hk
  unfold stepOk at h
  simp only [hg, Bool.not_true, Bool.false_or, if_pos hb, if_pos h2, Bool.not_eq_true'] at h
  exact h
theorem mask_yes (hb : m / 2 ^ (3 * r + k) % 2 = 1) (h1 : cR m (3 * r + k) r = 0) (h2 : hV m (3 * r + k) k ≠ 1) : good m (3 * r + k + 1) = true ∧ cR m (3 * r + k + 1) r = 2 ^ k ∧
    (∀ s, s < 4 → s ≠ r → cR m (3 * r + k + 1) s = cR m (3 * r + k) s) ∧ ∀ i, i < 3 → hV m (3 * r + k + 1) i = if i = k then 1 else hV m (3 * r + k) i := by
  have h := step_ok hm hr hk
  unfold stepOk at h
  simp only [hg, Bool.not_true, Bool.false_or, if_pos hb, if_neg (show ¬ (cR m (3 * r + k) r ≠ 0 ∨ hV m (3 * r + k) k = 1) by rintro (h | h) <;> contradiction), Bool.and_eq_true, List.all_eq_true, List.mem_range, beq_iff_eq, Bool.or_eq_true] at h
  refine ⟨h.1.1.1, h.1.1.2, fun s hs hsr => (h.1.2 s hs).resolve_left hsr, h.2⟩
end
/-- The codes of a good mask. -/
theorem good_codes {m : Nat} (hg : good m 12 = true) (s : Nat) (hs : s < 4) : cR m 12 s = 0 ∨ cR m 12 s = 1 ∨ cR m 12 s = 2 ∨ cR m 12 s = 4 := by
  unfold good cOk at hg
  simp only [Bool.and_eq_true, Bool.or_eq_true, beq_iff_eq] at hg
  have hs4 : s = 0 ∨ s = 1 ∨ s = 2 ∨ s = 3 := by omega
  rcases hs4 with rfl | rfl | rfl | rfl <;> omega
/-- A row's number i behind the code c. -/
def rv (x y z : Int) (c i : Nat) : Int :=
  if c = 0 then (if i = 0 then x else if i = 1 then y else if i = 2 then z else 1) else if (c = 1 ∧ i = 2) ∨ (c = 2 ∧ i = 1) ∨ (c = 4 ∧ i = 0) then 1 else 0
theorem R_rv (p : Pt) {c : Nat} (h : c = 0 ∨ c = 1 ∨ c = 2 ∨ c = 4) : R p c = ⟨rv p.x p.y p.z c 0, rv p.x p.y p.z c 1, rv p.x p.y p.z c 2, rv p.x p.y p.z c 3⟩ := by
  rcases h with rfl | rfl | rfl | rfl <;> rfl

/-- The sign at a mask. -/
def smV (p q r t : Pt) (m : Nat) : Int := (det (R p (cR m 12 0)) (R q (cR m 12 1)) (R r (cR m 12 2)) (R t (cR m 12 3))).sign
def firstG (s : Nat → Int) (ok : Nat → Bool) : Nat → Nat → Int
  | 0, _ => 1
  | n + 1, k => if ok k = true ∧ s k ≠ 0 then s k else firstG s ok n (k + 1)
theorem firstG_fz (s : Nat → Int) (ok : Nat → Bool) : ∀ n k, firstG s ok n k = if fz (((List.range' k n).filter ok).map s) = 0 then 1 else fz (((List.range' k n).filter ok).map s)
  | 0, k => rfl
  | n + 1, k => by
    rw [firstG, List.range'_succ, List.filter_cons]
    by_cases h : ok k = true
    · rw [if_pos h, List.map_cons]
      by_cases h0 : s k = 0
      · rw [if_neg (by simp [h0]), firstG_fz s ok n (k + 1)]
        have : fz (s k :: ((List.range' (k + 1) n).filter ok).map s) = fz (((List.range' (k + 1) n).filter ok).map s) := by rw [fz]; simp [h0]
        rw [this]
      · rw [if_pos ⟨h, h0⟩]
        have : fz (s k :: ((List.range' (k + 1) n).filter ok).map s) = s k := by rw [fz]; simp [h0]
        rw [this, if_neg h0]
    · rw [if_neg h, if_neg (by simp [h]), firstG_fz s ok n (k + 1)]
theorem good_list : (List.range' 0 85).filter (fun m => good m 12) = [0, 1, 2, 4, 8, 10, 12, 16, 17, 20, 32, 33, 34, 64, 66, 68, 80, 84] := by decide +kernel
theorem first_sg4 (p q r t : Pt) : firstG (smV p q r t) (fun m => good m 12) 85 0 = sg4 p q r t := by
  rw [firstG_fz, good_list]
  have e : fz ([0, 1, 2, 4, 8, 10, 12, 16, 17, 20, 32, 33, 34, 64, 66, 68, 80, 84].map (smV p q r t)) = sg4 p q r t := rfl
  rw [e]
  rcases sg4_cases p q r t with h | h <;> rw [h] <;> rfl
end Geo
namespace Go.Proofs.Ytdglijdiiggdgaa
open Go.RowKit Go.Maps Geo
def rowC (X Y Z : Nat → Int) (m j r s i : Nat) : Value := .int .i64 (if s < r then rv (X s) (Y s) (Z s) (cR m j s) i else 0)
def rowsA (X Y Z : Nat → Int) (m j r : Nat) : Array Value := #[rowC X Y Z m j r 0 0, rowC X Y Z m j r 0 1, rowC X Y Z m j r 0 2, rowC X Y Z m j r 0 3, rowC X Y Z m j r 1 0, rowC X Y Z m j r 1 1, rowC X Y Z m j r 1 2, rowC X Y Z m j r 1 3,
  rowC X Y Z m j r 2 0, rowC X Y Z m j r 2 1, rowC X Y Z m j r 2 2, rowC X Y Z m j r 2 3, rowC X Y Z m j r 3 0, rowC X Y Z m j r 3 1, rowC X Y Z m j r 3 2, rowC X Y Z m j r 3 3]
def hasA (m j : Nat) : Array Value := #[.int .i64 (hV m j 0 : Nat), .int .i64 (hV m j 1 : Nat), .int .i64 (hV m j 2 : Nat)]
theorem and1s : ((List.range 85).all fun x => bits BinOp.and IntKind.i64 ((x : Nat) : Int) 1 == ((x % 2 : Nat) : Int)) = true := by decide +kernel
theorem and1 {x : Nat} (h : x < 85) : bits BinOp.and IntKind.i64 ((x : Nat) : Int) 1 = ((x % 2 : Nat) : Int) := by simpa using List.all_eq_true.1 and1s x (List.mem_range.2 h)
theorem bit_of {m d : Nat} (hm : m < 85) (y : Int) (hy : y = ((m / d : Nat) : Int)) (b : Bool) (hb : (m / d % 2 == 1) = b) : (bits BinOp.and IntKind.i64 y 1 == 1) = b := by
  rw [hy, and1 (Nat.lt_of_le_of_lt (Nat.div_le_self m d) hm), ← hb]
  have : m / d % 2 = 0 ∨ m / d % 2 = 1 := by omega
  rcases this with h | h <;> rw [h] <;> rfl
theorem rv3 {x y z : Int} {c : Nat} (h : c = 0) : rv x y z c 3 = 1 := by subst h; rfl
theorem rv3n {x y z : Int} {c : Nat} (h : c ≠ 0) : rv x y z c 3 = 0 := by unfold rv; rw [if_neg h, if_neg (by omega)]
theorem code0 {m j s : Nat} (h : j ≤ 3 * s) : cR m j s = 0 := by
  unfold cR
  have h1 : m % 2 ^ j < 2 ^ j := Nat.mod_lt _ (Nat.pow_pos (by decide))
  have h2 : 2 ^ j ≤ 8 ^ s := by rw [show (8 : Nat) = 2 ^ 3 from rfl, ← Nat.pow_mul]; exact Nat.pow_le_pow_right (by decide) h
  rw [Nat.div_eq_of_lt (by omega)]
theorem hV_cases (m j k : Nat) : hV m j k = 0 ∨ hV m j k = 1 := by unfold hV; split <;> simp

def d3R (X Y Z : Nat → Int) (m : Nat) : Nat → Int
  | 0 => det3 (rv (X 1) (Y 1) (Z 1) (cR m 12 1) 0) (rv (X 1) (Y 1) (Z 1) (cR m 12 1) 1) (rv (X 1) (Y 1) (Z 1) (cR m 12 1) 2) (rv (X 2) (Y 2) (Z 2) (cR m 12 2) 0) (rv (X 2) (Y 2) (Z 2) (cR m 12 2) 1) (rv (X 2) (Y 2) (Z 2) (cR m 12 2) 2) (rv (X 3) (Y 3) (Z 3) (cR m 12 3) 0) (rv (X 3) (Y 3) (Z 3) (cR m 12 3) 1) (rv (X 3) (Y 3) (Z 3) (cR m 12 3) 2)
  | 1 => det3 (rv (X 0) (Y 0) (Z 0) (cR m 12 0) 0) (rv (X 0) (Y 0) (Z 0) (cR m 12 0) 1) (rv (X 0) (Y 0) (Z 0) (cR m 12 0) 2) (rv (X 2) (Y 2) (Z 2) (cR m 12 2) 0) (rv (X 2) (Y 2) (Z 2) (cR m 12 2) 1) (rv (X 2) (Y 2) (Z 2) (cR m 12 2) 2) (rv (X 3) (Y 3) (Z 3) (cR m 12 3) 0) (rv (X 3) (Y 3) (Z 3) (cR m 12 3) 1) (rv (X 3) (Y 3) (Z 3) (cR m 12 3) 2)
  | 2 => det3 (rv (X 0) (Y 0) (Z 0) (cR m 12 0) 0) (rv (X 0) (Y 0) (Z 0) (cR m 12 0) 1) (rv (X 0) (Y 0) (Z 0) (cR m 12 0) 2) (rv (X 1) (Y 1) (Z 1) (cR m 12 1) 0) (rv (X 1) (Y 1) (Z 1) (cR m 12 1) 1) (rv (X 1) (Y 1) (Z 1) (cR m 12 1) 2) (rv (X 3) (Y 3) (Z 3) (cR m 12 3) 0) (rv (X 3) (Y 3) (Z 3) (cR m 12 3) 1) (rv (X 3) (Y 3) (Z 3) (cR m 12 3) 2)
  | _ => det3 (rv (X 0) (Y 0) (Z 0) (cR m 12 0) 0) (rv (X 0) (Y 0) (Z 0) (cR m 12 0) 1) (rv (X 0) (Y 0) (Z 0) (cR m 12 0) 2) (rv (X 1) (Y 1) (Z 1) (cR m 12 1) 0) (rv (X 1) (Y 1) (Z 1) (cR m 12 1) 1) (rv (X 1) (Y 1) (Z 1) (cR m 12 1) 2) (rv (X 2) (Y 2) (Z 2) (cR m 12 2) 0) (rv (X 2) (Y 2) (Z 2) (cR m 12 2) 1) (rv (X 2) (Y 2) (Z 2) (cR m 12 2) 2)
def parS (X Y Z : Nat → Int) (m : Nat) : Nat → Int
  | 0 => 0
  | r + 1 => parS X Y Z m r + (if cR m 12 r = 0 then (if r % 2 = 0 then -d3R X Y Z m r else d3R X Y Z m r) else 0)
theorem det_last (a b c d : V4) : det a b c d = -(a.w * det3 b.x b.y b.z c.x c.y c.z d.x d.y d.z) + b.w * det3 a.x a.y a.z c.x c.y c.z d.x d.y d.z - c.w * det3 a.x a.y a.z b.x b.y b.z d.x d.y d.z + d.w * det3 a.x a.y a.z b.x b.y b.z c.x c.y c.z := by
  unfold det d3 det3; grind
theorem wterm {x y z : Int} {c : Nat} {e : Int} : rv x y z c 3 * e = if c = 0 then e else 0 := by
  by_cases h : c = 0
  · rw [rv3 h, if_pos h, Int.one_mul]
  · rw [rv3n h, if_neg h, Int.zero_mul]
theorem smV_par (X Y Z : Nat → Int) (m : Nat) (hg : good m 12 = true) : smV ⟨X 0, Y 0, Z 0⟩ ⟨X 1, Y 1, Z 1⟩ ⟨X 2, Y 2, Z 2⟩ ⟨X 3, Y 3, Z 3⟩ m = (parS X Y Z m 4).sign := by
  unfold smV
  rw [R_rv _ (good_codes hg 0 (by decide)), R_rv _ (good_codes hg 1 (by decide)), R_rv _ (good_codes hg 2 (by decide)), R_rv _ (good_codes hg 3 (by decide)), det_last]
  congr 1
  simp only [wterm, parS, d3R]
  simp only [Nat.reduceMod, if_true, Nat.one_ne_zero, if_false]
  (repeat' split) <;> omega
theorem det3_bnd {p0 p1 p2 q0 q1 q2 r0 r1 r2 : Int} (h1 : p0.natAbs ≤ 2147483648) (h2 : p1.natAbs ≤ 2147483648) (h3 : p2.natAbs ≤ 2147483648) (h4 : q0.natAbs ≤ 2147483648) (h5 : q1.natAbs ≤ 2147483648) (h6 : q2.natAbs ≤ 2147483648) (h7 : r0.natAbs ≤ 2147483648) (h8 : r1.natAbs ≤ 2147483648) (h9 : r2.natAbs ≤ 2147483648) :
    (det3 p0 p1 p2 q0 q1 q2 r0 r1 r2).natAbs ≤ 59421121885698253195157962752 := by
  have k1 := mulN h5 h9; have k2 := mulN h6 h8; have k3 := mulN h6 h7; have k4 := mulN h4 h9; have k5 := mulN h4 h8; have k6 := mulN h5 h7
  have s1 : (q1 * r2 - q2 * r1).natAbs ≤ 9223372036854775808 := by omega
  have s2 : (q2 * r0 - q0 * r2).natAbs ≤ 9223372036854775808 := by omega
  have s3 : (q0 * r1 - q1 * r0).natAbs ≤ 9223372036854775808 := by omega
  have t1 := mulN h1 s1; have t2 := mulN h2 s2; have t3 := mulN h3 s3
  unfold det3
  omega
theorem rv_bnd {x y z : Int} (hx : Co x ∧ Co y ∧ Co z) (c i : Nat) : (rv x y z c i).natAbs ≤ 2147483648 := by
  unfold Co at hx
  unfold rv
  (repeat' split) <;> omega
theorem rv_I64 {x y z : Int} (hx : Co x ∧ Co y ∧ Co z) (c i : Nat) : I64 (rv x y z c i) := by
  have := rv_bnd hx c i
  unfold I64; omega
theorem parS_128 (X Y Z : Nat → Int) (m : Nat) (hco : ∀ s, s < 4 → Co (X s) ∧ Co (Y s) ∧ Co (Z s)) : In128 (parS X Y Z m 4) := by
  have h0 := fun i => rv_bnd (hco 0 (by decide)) (cR m 12 0) i
  have h1 := fun i => rv_bnd (hco 1 (by decide)) (cR m 12 1) i
  have h2 := fun i => rv_bnd (hco 2 (by decide)) (cR m 12 2) i
  have h3 := fun i => rv_bnd (hco 3 (by decide)) (cR m 12 3) i
  have e0 : (d3R X Y Z m 0).natAbs ≤ _ := det3_bnd (h1 0) (h1 1) (h1 2) (h2 0) (h2 1) (h2 2) (h3 0) (h3 1) (h3 2)
  have e1 : (d3R X Y Z m 1).natAbs ≤ _ := det3_bnd (h0 0) (h0 1) (h0 2) (h2 0) (h2 1) (h2 2) (h3 0) (h3 1) (h3 2)
  have e2 : (d3R X Y Z m 2).natAbs ≤ _ := det3_bnd (h0 0) (h0 1) (h0 2) (h1 0) (h1 1) (h1 2) (h3 0) (h3 1) (h3 2)
  have e3 : (d3R X Y Z m 3).natAbs ≤ _ := det3_bnd (h0 0) (h0 1) (h0 2) (h1 0) (h1 1) (h1 2) (h2 0) (h2 1) (h2 2)
  unfold In128
  simp only [parS]
  (repeat' split) <;> omega
theorem infoRow : (Try.prog.info? 44).map (fun i => (i.zero, i.size, i.bytes)) = some (some (.agg #[.int .i64 0, .int .i64 0, .int .i64 0]), 3, 24) := by kernel_rfl
theorem uRows : Try.prog.underlying 123 = some (.slice 44) := by kernel_rfl
theorem row3_new (w : World) (a b c : Value) (T : TypeId) : ∀ j u, [a, b, c][j]? = some u → (w.alloc (.cells #[a, b, c] T (0, 0))).cell? ((⟨w.heap.size, 0, none⟩ : Addr).add j) = some u := by
  intro j u h
  obtain ⟨kq, kr⟩ := cellB (w := w.alloc (.cells #[a, b, c] T (0, 0))) (b := w.heap.size) (heap_at rfl)
  rw [show (⟨w.heap.size, 0, none⟩ : Addr).add j = ⟨w.heap.size, j, none⟩ by unfold Addr.add; split <;> simp_all, kq]
  simpa using h
theorem ints3 (a b c : Int) : ∀ u ∈ [Value.int .i64 a, .int .i64 b, .int .i64 c], u.oneCell' = true := by
  intro u hu
  simp only [List.mem_cons, List.not_mem_nil, or_false] at hu
  rcases hu with rfl | rfl | rfl <;> rfl
end Go.Proofs.Ytdglijdiiggdgaa
