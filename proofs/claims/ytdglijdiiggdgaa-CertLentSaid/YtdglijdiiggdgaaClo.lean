import Derived.Test.YtdglijdiiggdgaaR21
import Derived.Test.YtdglijdiiggdgaaEnt
import Derived.DeepKeys4
import Derived.WideKeyPair
namespace Go.Proofs.Ytdglijdiiggdgaa
open Go.RowKit Go.Maps Go.WideMaps

theorem uPair : Try.prog.underlying 78 = some (.array 2 3) := by kernel_rfl
theorem uPM : Try.prog.underlying 77 = some (.map 78 3) := by kernel_rfl
set_option maxRecDepth 100000 in
theorem laidOut : laidOutB Try.prog = true := by kernel_rfl
theorem rowPair : (78 : TypeId) < Try.prog.types.size := of_decide_eq_true (by kernel_rfl)
theorem widePair : (match Try.prog.underlying 78 with | some (.array _ _) | some (.struct _) => true | _ => false) = true := by rw [uPair]
set_option maxRecDepth 100000 in
theorem lawPair : Keyed Try.prog 78 := Keyed.of_law (deep_law_laid laidOut (m := 2) (by omega) rowPair (by kernel_rfl) widePair)
theorem arrPair : ArrKey Try.prog 78 3 2 := ⟨uPair, by kernel_rfl, by kernel_rfl, by kernel_rfl⟩
theorem sizeTypes : ∃ m, Try.prog.types.size = m + 1 := ⟨Try.prog.types.size - 1, by kernel_rfl⟩
def lk (x y : Int) : Lit := .string (keyBytes [.int .i64 x, .int .i64 y])
theorem keyPair {x y : Int} (hx : Wf x) (hy : Wf y) : keyOf Try.prog 78 (.agg #[.int .i64 x, .int .i64 y]) = some (lk x y) := keyOf_pair arrPair uInt sizeTypes hx hy
theorem lk_inj {x y x' y' : Int} (hx : Wf x) (hy : Wf y) (hx' : Wf x') (hy' : Wf y') (h : lk x y = lk x' y') : x = x' ∧ y = y' := by
  have h1 := keyPair hx hy
  rw [h] at h1
  have := lawPair.inj h1 (keyPair hx' hy')
  simpa using this
structure MapC (D : DataW Unit) (E : List (Int × Int)) : Prop where
  isMap : IsMap D
  at_ : ∀ x y, Wf x → Wf y → D.atKey (lk x y) (.lit (.int .i64 0)) = .lit (.int .i64 (E.count (x, y) : Nat))
theorem mapC_nil : MapC (.map []) [] := ⟨isMap_empty, fun x y _ _ => rfl⟩
theorem MapC.snoc {D : DataW Unit} {E : List (Int × Int)} (h : MapC D E) {a b : Int} (ha : Wf a) (hb : Wf b) : MapC (D.put (lk a b) (.lit (.int .i64 ((E.count (a, b) : Nat) + 1)))) (E ++ [(a, b)]) := by
  refine ⟨h.isMap.put _ _, fun x y hx hy => ?_⟩
  by_cases he : x = a ∧ y = b
  · obtain ⟨rfl, rfl⟩ := he
    rw [atKey_put_same h.isMap (by simp [lk, WideAt.IsKeyLit])]
    simp [List.count_append]
  · rw [atKey_put_other (fun e => he (lk_inj hx hy ha hb e)), h.at_ x y hx hy]
    have : ¬ (a, b) = (x, y) := fun e => he ⟨by injection e with e1 e2; exact e1.symm, by injection e with e1 e2; exact e2.symm⟩
    simp [List.count_append, List.count_singleton, this]
def edgesTo (A B C : Nat → Int) : Nat → List (Int × Int)
  | 0 => []
  | k + 1 => edgesTo A B C k ++ [(A k, B k), (B k, C k), (C k, A k)]
theorem edgesTo_length (A B C : Nat → Int) : ∀ k, (edgesTo A B C k).length = 3 * k
  | 0 => rfl
  | k + 1 => by unfold edgesTo; rw [List.length_append, edgesTo_length]; simp; omega
theorem edgesTo_mono {A B C : Nat → Int} {k m : Nat} (h : k ≤ m) {e : Int × Int} (he : e ∈ edgesTo A B C k) : e ∈ edgesTo A B C m := by
  induction m with
  | zero =>
    have : k = 0 := by omega
    rw [this] at he; exact he
  | succ m ih =>
    rcases Nat.lt_or_ge k (m + 1) with h1 | h1
    · exact List.mem_append_left _ (ih (by omega))
    · have : k = m + 1 := by omega
      rw [this] at he; exact he
def closB (A B C : Nat → Int) (n : Nat) : Bool := decide (0 < n) && decide (∀ e ∈ edgesTo A B C n, (edgesTo A B C n).count (e.2, e.1) = 1)

set_option maxRecDepth 100000 in
set_option maxHeartbeats 8000000 in
theorem cert_closed (pa : Option Addr) (n cp : Nat) (A B C : Nat → Int) (hn : n < 1048576) (hwf : Hid (∀ k, k < n → Wf (A k) ∧ Wf (B k) ∧ Wf (C k))) (w : World) (hp : Hid (PtsO w pa n A B C)) :
    Calls Try.prog 24 #[.slice pa n cp] w fun e w' => e = .returned (.bool (closB A B C n)) ∧ Below w.heap.size w w' := by
  have hmm := @run_makeMap Try.prog
  go_enter Try.func24, Try.ntmps24
  go_wp2_with fail
  first | refine wp_named ?_ | refine calls_named ?_
  intro W hW
  clear hmm
  have hown : W.ownsMap Try.prog 78 (plainElem (H := Unit) Try.prog 3) w.heap.size 0 (.map []) := by rw [hW]; exact World.ownsMap_made _ _ _ _
  have hB : Below w.heap.size w W := by rw [hW]; go_grown
  have hz : w.heap.size < W.heap.size := by rw [hW]; simp
  clear hW
  go_loopw [13] (fun u wr => ∃ (k : Nat) (D : DataW Unit), k ≤ n ∧ u = .int .i64 k ∧ Hid (MapC D (edgesTo A B C k)) ∧ Hid (wr.ownsMap Try.prog 78 (plainElem Try.prog 3) w.heap.size (3 * k) D) ∧ Below w.heap.size w wr ∧ w.heap.size < wr.heap.size)
    (fun u _ => n - (intOf u).toNat)
  case atStart => exact ⟨0, .map [], Nat.zero_le _, rfl, mapC_nil, hown, hB, hz⟩
  case round =>
    clear hown hB hz
    obtain ⟨k, D, hk, rfl, HM, hown, hB, hz⟩ := hrel
    by_cases hlt : k < n
    case neg =>
      have hkn : k = n := by omega
      subst hkn
      clear hlt hk
      go_wp2_with fail
      go_loopw [38] (fun u wr => ∃ j : Nat, j ≤ k ∧ u = .int .i64 j ∧ Hid (∀ e ∈ edgesTo A B C j, (edgesTo A B C k).count (e.2, e.1) = 1) ∧ Hid (wr.ownsMap Try.prog 78 (plainElem Try.prog 3) w.heap.size (3 * k) D) ∧ Below w.heap.size w wr ∧ w.heap.size < wr.heap.size)
        (fun u _ => k - (intOf u).toNat)
      case atStart => exact ⟨0, Nat.zero_le _, rfl, (fun e he => by cases he), hown, hB, hz⟩
      case round =>
        clear hown hB hz
        obtain ⟨j, hj, rfl, HC, hown, hB, hz⟩ := hrel
        by_cases hlt2 : j < k
        case neg =>
          have hjk : j = k := by omega
          subst hjk
          have hb0 : closB A B C j = decide (0 < j) := by unfold closB; rw [decide_eq_true (p := ∀ e ∈ edgesTo A B C j, _) HC.out, Bool.and_true]
          have HB0 := Lib.hid hb0
          clear hb0
          go_wp2
          go_returns
          refine retB ?_ hB
          rw [HB0.out]
          try simp
        obtain ⟨b, off, rfl, hq⟩ := hp.out.at hlt2
        have hbw := hq.1
        have hpr := hq.mono hB hbw
        clear hq
        obtain ⟨g1, g2, g3⟩ := hpr.2 j hlt2
        have hbr := hpr.1
        clear hpr
        obtain ⟨w1, w2, w3⟩ := hwf.out j hlt2
        obtain ⟨a, ha⟩ : ∃ a, a = A j := ⟨_, rfl⟩
        obtain ⟨b1, hb1⟩ : ∃ b1, b1 = B j := ⟨_, rfl⟩
        obtain ⟨c, hc1⟩ : ∃ c, c = C j := ⟨_, rfl⟩
        rw [← ha] at g1 w1; rw [← hb1] at g2 w2; rw [← hc1] at g3 w3
        have EA := Lib.hid ha; have EB := Lib.hid hb1; have EC := Lib.hid hc1
        have Wa := Lib.hid w1; have Wb := Lib.hid w2; have Wc := Lib.hid w3
        clear ha hb1 hc1 w1 w2 w3
        have hlast : ∀ e ∈ edgesTo A B C (j + 1), e ∈ edgesTo A B C j ∨ e = (a, b1) ∨ e = (b1, c) ∨ e = (c, a) := by
          intro e he
          rw [EA.out, EB.out, EC.out]
          simpa [edgesTo] using he
        have hsub : ∀ x y, ((x, y) = (a, b1) ∨ (x, y) = (b1, c) ∨ (x, y) = (c, a)) → (x, y) ∈ edgesTo A B C k := by
          intro x y h
          refine edgesTo_mono (k := j + 1) (by omega) ?_
          rw [EA.out, EB.out, EC.out] at h
          exact List.mem_append_right _ (by simpa using h)
        have HLAST := Lib.hid hlast; have HSUB := Lib.hid hsub
        clear hlast hsub
        go_wp2_with fail
        refine wp_loop_rounds 4 ?_
        rw [rounds_succ]
        first | refine wp_named ?_ | refine calls_named ?_
        intro V0 hW
        have k1 : V0.heap[wr.heap.size]? = some (.cells #[.int .i64 a, .int .i64 b1, .int .i64 c] 45 (0, 0)) := by rw [hW]; exact heap_at rfl
        have z1 : wr.heap.size < V0.heap.size := by rw [hW]; simp
        have hgr : wr.grownBy V0 Option.none := by rw [hW]; exact World.grownBy_alloc _ _ _
        replace hown := Lib.hid (hown.out.kept hgr (by simp))
        replace hB : Below w.heap.size w V0 := by rw [hW]; have := hB.size; go_grown
        clear hgr hW g1 g2 g3
        obtain ⟨kq, kr⟩ := cellB k1
        obtain ⟨cc0, l1, hat, hwc⟩ := hown.out.drew.lookup_int lawPair uPM uInt (zeroInt _) (keyPair Wb.out Wa.out)
        have hce := (HM.out.at_ b1 a Wb.out Wa.out).symm.trans hat
        injection hce with hce
        injection hce with _ hce
        have HCE0 := Lib.hid hce
        clear hat hwc hce
        have y1 : IntKind.i64.wrap 1 = 1 := by decide
        have u1 : Int.tmod 1 3 = 1 := by decide
        go_wp2_with fail
        go_region
        clear l1 y1 u1 kq kr
        by_cases hone0 : cc0 = 1
        case neg =>
          have hbad : closB A B C k = false := by
            unfold closB
            rw [Bool.and_eq_false_iff]
            refine .inr (decide_eq_false fun hall => ?_)
            have := hall _ (HSUB.out a b1 (by simp))
            have h2 := HCE0.out
            simp only at this
            omega
          have HBAD := Lib.hid hbad
          clear hbad
          go_wp2
          go_returns
          exact retB HBAD.out (Below.drew hB)
        go_wp2_with fail
        rw [rounds_succ]
        first | refine wp_named ?_ | refine calls_named ?_
        intro V1 hW
        replace k1 : V1.heap[wr.heap.size]? = some (.cells #[.int .i64 a, .int .i64 b1, .int .i64 c] 45 (0, 0)) := by rw [hW]; exact k1
        replace z1 : wr.heap.size < V1.heap.size := by rw [hW]; exact z1
        replace hown : Hid (V1.ownsMap Try.prog 78 (plainElem Try.prog 3) w.heap.size (3 * k) D) := by rw [hW]; exact hown.out.drew
        replace hB : Below w.heap.size w V1 := by rw [hW]; exact Below.drew hB
        clear hW
        obtain ⟨kq, kr⟩ := cellB k1
        obtain ⟨cc1, l1, hat, hwc⟩ := hown.out.drew.lookup_int lawPair uPM uInt (zeroInt _) (keyPair Wc.out Wb.out)
        have hce := (HM.out.at_ c b1 Wc.out Wb.out).symm.trans hat
        injection hce with hce
        injection hce with _ hce
        have HCE1 := Lib.hid hce
        clear hat hwc hce
        have y1 : IntKind.i64.wrap 2 = 2 := by decide
        have u1 : Int.tmod 2 3 = 2 := by decide
        go_wp2_with fail
        go_region
        clear l1 y1 u1 kq kr
        by_cases hone1 : cc1 = 1
        case neg =>
          have hbad : closB A B C k = false := by
            unfold closB
            rw [Bool.and_eq_false_iff]
            refine .inr (decide_eq_false fun hall => ?_)
            have := hall _ (HSUB.out b1 c (by simp))
            have h2 := HCE1.out
            simp only at this
            omega
          have HBAD := Lib.hid hbad
          clear hbad
          go_wp2
          go_returns
          exact retB HBAD.out (Below.drew hB)
        go_wp2_with fail
        rw [rounds_succ]
        first | refine wp_named ?_ | refine calls_named ?_
        intro V2 hW
        replace k1 : V2.heap[wr.heap.size]? = some (.cells #[.int .i64 a, .int .i64 b1, .int .i64 c] 45 (0, 0)) := by rw [hW]; exact k1
        replace z1 : wr.heap.size < V2.heap.size := by rw [hW]; exact z1
        replace hown : Hid (V2.ownsMap Try.prog 78 (plainElem Try.prog 3) w.heap.size (3 * k) D) := by rw [hW]; exact hown.out.drew
        replace hB : Below w.heap.size w V2 := by rw [hW]; exact Below.drew hB
        clear hW
        obtain ⟨kq, kr⟩ := cellB k1
        obtain ⟨cc2, l1, hat, hwc⟩ := hown.out.drew.lookup_int lawPair uPM uInt (zeroInt _) (keyPair Wa.out Wc.out)
        have hce := (HM.out.at_ a c Wa.out Wc.out).symm.trans hat
        injection hce with hce
        injection hce with _ hce
        have HCE2 := Lib.hid hce
        clear hat hwc hce
        have y1 : IntKind.i64.wrap 3 = 3 := by decide
        have u1 : Int.tmod 3 3 = 0 := by decide
        go_wp2_with fail
        go_region
        clear l1 y1 u1 kq kr
        by_cases hone2 : cc2 = 1
        case neg =>
          have hbad : closB A B C k = false := by
            unfold closB
            rw [Bool.and_eq_false_iff]
            refine .inr (decide_eq_false fun hall => ?_)
            have := hall _ (HSUB.out c a (by simp))
            have h2 := HCE2.out
            simp only at this
            omega
          have HBAD := Lib.hid hbad
          clear hbad
          go_wp2
          go_returns
          exact retB HBAD.out (Below.drew hB)
        go_wp2_with fail
        rw [rounds_succ]
        go_wp2_with fail
        refine ⟨⟨j + 1, by omega, by go_num, ?_, hown.out.drew, Below.drew hB, by show w.heap.size < V2.heap.size; omega⟩, by simp [intOf]; omega⟩
        intro e he
        rcases HLAST.out e he with h | rfl | rfl | rfl
        · exact HC.out e h
        · have := HCE0.out; show List.count (b1, a) _ = 1; omega
        · have := HCE1.out; show List.count (c, b1) _ = 1; omega
        · have := HCE2.out; show List.count (a, c) _ = 1; omega
    obtain ⟨b, off, rfl, hq⟩ := hp.out.at hlt
    have hbw := hq.1
    have hpr := hq.mono hB hbw
    clear hq
    obtain ⟨g1, g2, g3⟩ := hpr.2 k hlt
    have hbr := hpr.1
    clear hpr
    obtain ⟨w1, w2, w3⟩ := hwf.out k hlt
    obtain ⟨a, ha⟩ : ∃ a, a = A k := ⟨_, rfl⟩
    obtain ⟨b1, hb1⟩ : ∃ b1, b1 = B k := ⟨_, rfl⟩
    obtain ⟨c, hc1⟩ : ∃ c, c = C k := ⟨_, rfl⟩
    rw [← ha] at g1 w1; rw [← hb1] at g2 w2; rw [← hc1] at g3 w3
    have EA := Lib.hid ha; have EB := Lib.hid hb1; have EC := Lib.hid hc1
    have Wa := Lib.hid w1; have Wb := Lib.hid w2; have Wc := Lib.hid w3
    clear ha hb1 hc1 w1 w2 w3
    go_wp2_with fail
    refine wp_loop_rounds 4 ?_
    rw [rounds_succ]
    first | refine wp_named ?_ | refine calls_named ?_
    intro W0 hW
    have k1 : W0.heap[wr.heap.size]? = some (.cells #[.int .i64 a, .int .i64 b1, .int .i64 c] 45 (0, 0)) := by rw [hW]; exact heap_at rfl
    have z1 : wr.heap.size < W0.heap.size := by rw [hW]; simp
    have hgr : wr.grownBy W0 Option.none := by rw [hW]; exact World.grownBy_alloc _ _ _
    replace hown := Lib.hid (hown.out.kept hgr (by simp))
    replace hB : Below w.heap.size w W0 := by rw [hW]; have := hB.size; go_grown
    clear hgr hW g1 g2 g3
    obtain ⟨E, hE⟩ : ∃ E, E = edgesTo A B C k := ⟨_, rfl⟩
    have hEl : E.length = 3 * k := by rw [hE, edgesTo_length]
    rw [← hE] at HM
    have HE := Lib.hid hE; have HEL := Lib.hid hEl
    clear hE hEl
    have hne : some wr.heap.size ≠ some w.heap.size := fun e => by injection e; omega
    have HN := Lib.hid hne
    clear hne
    obtain ⟨kq, kr⟩ := cellB k1
    obtain ⟨cc, st, w1, l1, hat, hwc, l2, l3, hg1, hstore⟩ := entry_law hown.out.drew lawPair uPM uInt zeroInt (by unfold maxLen; omega) (keyPair Wa.out Wb.out)
    have hce := (HM.out.at_ a b1 Wa.out Wb.out).symm.trans hat
    injection hce with hce
    injection hce with _ hce
    have hcl := List.count_le_length (a := (a, b1)) (l := E)
    have hcl2 : (E).length ≤ 3 * k + 0 := by have := HEL.out; simp; omega
    have hcc0 : 0 ≤ cc := by omega
    have hcc1 : cc ≤ 4000000 := by omega
    obtain ⟨V1, l4, hown2, hg2⟩ := hstore (cc + 1) (WalkArith.wf_i64 (by omega))
    have hM2 := HM.out.snoc Wa.out Wb.out
    rw [hce] at hM2
    replace HM := Lib.hid hM2
    clear hstore hat hwc hce hcl hcl2 hM2
    have y1 : IntKind.i64.wrap 1 = 1 := by decide
    have y2 : IntKind.i64.wrap (cc + 1) = cc + 1 := by rw [IntKind.wrap_i64]; omega
    have u1 : Int.tmod 1 3 = 1 := by decide
    go_wp2_with fail
    go_region
    clear l1 l2 l3 l4 y1 y2 u1 kq kr hcc0 hcc1 hg1
    replace k1 := (hg2.block _ z1 HN.out).trans k1
    replace z1 := Nat.lt_of_lt_of_le z1 hg2.size
    replace hB := (Below.drew hB).grown hg2 hB.size (fun j hj => by cases hj; exact Nat.le_refl _)
    replace hown := Lib.hid hown2
    clear hg2 hown2
    go_wp2_with fail
    rw [rounds_succ]
    obtain ⟨kq, kr⟩ := cellB k1
    obtain ⟨cc, st, w1, l1, hat, hwc, l2, l3, hg1, hstore⟩ := entry_law hown.out.drew lawPair uPM uInt zeroInt (by unfold maxLen; omega) (keyPair Wb.out Wc.out)
    have hce := (HM.out.at_ b1 c Wb.out Wc.out).symm.trans hat
    injection hce with hce
    injection hce with _ hce
    have hcl := List.count_le_length (a := (b1, c)) (l := E ++ [(a, b1)])
    have hcl2 : (E ++ [(a, b1)]).length ≤ 3 * k + 1 := by have := HEL.out; simp; omega
    have hcc0 : 0 ≤ cc := by omega
    have hcc1 : cc ≤ 4000000 := by omega
    obtain ⟨V2, l4, hown2, hg2⟩ := hstore (cc + 1) (WalkArith.wf_i64 (by omega))
    have hM2 := HM.out.snoc Wb.out Wc.out
    rw [hce] at hM2
    replace HM := Lib.hid hM2
    clear hstore hat hwc hce hcl hcl2 hM2
    have y1 : IntKind.i64.wrap 2 = 2 := by decide
    have y2 : IntKind.i64.wrap (cc + 1) = cc + 1 := by rw [IntKind.wrap_i64]; omega
    have u1 : Int.tmod 2 3 = 2 := by decide
    go_wp2_with fail
    go_region
    clear l1 l2 l3 l4 y1 y2 u1 kq kr hcc0 hcc1 hg1
    replace k1 := (hg2.block _ z1 HN.out).trans k1
    replace z1 := Nat.lt_of_lt_of_le z1 hg2.size
    replace hB := (Below.drew hB).grown hg2 hB.size (fun j hj => by cases hj; exact Nat.le_refl _)
    replace hown := Lib.hid hown2
    clear hg2 hown2
    go_wp2_with fail
    rw [rounds_succ]
    obtain ⟨kq, kr⟩ := cellB k1
    obtain ⟨cc, st, w1, l1, hat, hwc, l2, l3, hg1, hstore⟩ := entry_law hown.out.drew lawPair uPM uInt zeroInt (by unfold maxLen; omega) (keyPair Wc.out Wa.out)
    have hce := (HM.out.at_ c a Wc.out Wa.out).symm.trans hat
    injection hce with hce
    injection hce with _ hce
    have hcl := List.count_le_length (a := (c, a)) (l := E ++ [(a, b1)] ++ [(b1, c)])
    have hcl2 : (E ++ [(a, b1)] ++ [(b1, c)]).length ≤ 3 * k + 2 := by have := HEL.out; simp; omega
    have hcc0 : 0 ≤ cc := by omega
    have hcc1 : cc ≤ 4000000 := by omega
    obtain ⟨V3, l4, hown2, hg2⟩ := hstore (cc + 1) (WalkArith.wf_i64 (by omega))
    have hM2 := HM.out.snoc Wc.out Wa.out
    rw [hce] at hM2
    replace HM := Lib.hid hM2
    clear hstore hat hwc hce hcl hcl2 hM2
    have y1 : IntKind.i64.wrap 3 = 3 := by decide
    have y2 : IntKind.i64.wrap (cc + 1) = cc + 1 := by rw [IntKind.wrap_i64]; omega
    have u1 : Int.tmod 3 3 = 0 := by decide
    go_wp2_with fail
    go_region
    clear l1 l2 l3 l4 y1 y2 u1 kq kr hcc0 hcc1 hg1
    replace k1 := (hg2.block _ z1 HN.out).trans k1
    replace z1 := Nat.lt_of_lt_of_le z1 hg2.size
    replace hB := (Below.drew hB).grown hg2 hB.size (fun j hj => by cases hj; exact Nat.le_refl _)
    replace hown := Lib.hid hown2
    clear hg2 hown2
    go_wp2_with fail
    rw [rounds_succ]
    go_wp2_with fail
    have hM3 := HM.out
    rw [HE.out, EA.out, EB.out, EC.out] at hM3
    have hE3 : edgesTo A B C k ++ [(A k, B k)] ++ [(B k, C k)] ++ [(C k, A k)] = edgesTo A B C (k + 1) := by simp [edgesTo]
    rw [hE3] at hM3
    have hown3 := hown.out
    rw [show 3 * k + 1 + 1 + 1 = 3 * (k + 1) by omega] at hown3
    rw [EA.out, EB.out, EC.out] at hown3
    exact ⟨⟨k + 1, _, by omega, by go_num, hM3, hown3, hB, by omega⟩, by simp [intOf]; omega⟩
end Go.Proofs.Ytdglijdiiggdgaa
