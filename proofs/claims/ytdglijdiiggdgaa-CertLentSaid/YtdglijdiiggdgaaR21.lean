import Derived.Test.YtdglijdiiggdgaaSam
namespace Go.Proofs.Ytdglijdiiggdgaa
open Go.RowKit Go.Maps

/-- Two rows of ints of the call's own, in blocks apart. -/
structure Two (w0 w : World) (u : Value) (xs : List Int) (u' : Value) (ys : List Int) : Prop where
  one : w.ownsRow w0.heap.size 3 1 u xs.length (xs.map (Value.int .i64))
  two : w.ownsRow w0.heap.size 3 1 u' ys.length (ys.map (Value.int .i64))
  apart : ∀ k, u.ownBlock = some k → u'.ownBlock ≠ some k
  below : Below w0.heap.size w0 w
section
variable {w0 w w' : World} {u u' v' : Value} {xs ys : List Int} {x : Int} {o : Obj}
theorem Two.swap (h : Two w0 w u xs u' ys) : Two w0 w u' ys u xs := ⟨h.two, h.one, fun k h1 h2 => h.apart k h2 h1, h.below⟩
theorem Two.more (h : Two w0 w u xs u' ys) (h1 : w'.ownsRow w0.heap.size 3 1 v' (xs.length + 1) (xs.map (Value.int .i64) ++ [.int .i64 x])) (h2 : (w.alloc o).grownBy w' u.ownBlock)
    (h4 : v'.ownBlock = u.ownBlock ∨ v'.ownBlock = some (w.alloc o).heap.size) : Two w0 w' v' (xs ++ [x]) u' ys := by
  have hsz := h.below.size
  refine ⟨by simpa using h1, (h.two.alloc o).kept h2 ?_, ?_, (h.below.alloc hsz o).grown h2 (by simp; omega) (fun j hj => (h.one.lt j hj).1)⟩
  · cases e : u'.ownBlock with
    | none => exact .inl rfl
    | some k => exact .inr (fun e2 => h.apart k e2.symm e)
  · intro k hk
    rcases h4 with h4 | h4
    · exact h.apart k (h4 ▸ hk)
    · intro e
      have := (h.two.lt k e).2
      rw [h4] at hk
      injection hk with hk
      simp at hk
      omega
theorem Two.cells (h : Two w0 w u xs u' ys) {b : Nat} (hb : b < w0.heap.size) : (∀ o, w.cell? ⟨b, o, none⟩ = w0.cell? ⟨b, o, none⟩) ∧ b < w.heap.size :=
  ⟨fun o => h.below.cell (p := ⟨b, o, none⟩) hb, Nat.lt_of_lt_of_le hb h.below.size⟩
end

def refR (r : Option (List (Int × Int))) : Option (List Int) := match r with
  | none => none
  | some M => if (M.map Prod.fst).Nodup then arR (some M) else none
theorem nextOf_at : ∀ {M : List (Int × Int)} {j : Nat}, (M.map Prod.fst).Nodup → (h : j < M.length) → nextOf M (M[j]).1 = some (M[j]).2
  | [], _, _, h => absurd h (Nat.not_lt_zero _)
  | p :: M, 0, _, _ => by unfold nextOf; simp
  | p :: M, j + 1, hn, h => by
    rw [List.map_cons, List.nodup_cons] at hn
    have hj : j < M.length := by simpa using h
    have ih := nextOf_at hn.2 hj
    have hne : ¬ p.1 = (M[j]).1 := fun e => hn.1 (e ▸ List.mem_map_of_mem (List.getElem_mem hj))
    unfold nextOf at *
    rw [List.getElem_cons_succ, List.find?_cons_of_neg (by simpa using hne)]
    exact ih
def pairsF (v : Int) (A B C : Nat → Int) : Nat → Nat → List (Int × Int) → Option (List (Int × Int))
  | 0, _, M => some M
  | f + 1, k, M => match hit v (A k) (B k) (C k) with
    | none => none
    | some none => pairsF v A B C f (k + 1) M
    | some (some p) => pairsF v A B C f (k + 1) (M ++ [p])
section
variable {v : Int} {A B C : Nat → Int} {n k : Nat} {M : List (Int × Int)} {r : Option (List (Int × Int))}
theorem pairs_end (hk : n ≤ k) (h : pairsF v A B C (n - k) k M = r) : r = some M := by
  rw [show n - k = 0 by omega] at h; exact h.symm
theorem pairs_many (hk : k < n) (hh : hit v (A k) (B k) (C k) = none) (h : pairsF v A B C (n - k) k M = r) : r = none := by
  rw [show n - k = (n - (k + 1)) + 1 by omega, pairsF, hh] at h; exact h.symm
theorem pairs_zero (hk : k < n) (hh : hit v (A k) (B k) (C k) = some none) (h : pairsF v A B C (n - k) k M = r) : pairsF v A B C (n - (k + 1)) (k + 1) M = r := by
  rw [show n - k = (n - (k + 1)) + 1 by omega, pairsF, hh] at h; exact h
theorem pairs_one (hk : k < n) {p : Int × Int} (hh : hit v (A k) (B k) (C k) = some (some p)) (h : pairsF v A B C (n - k) k M = r) : pairsF v A B C (n - (k + 1)) (k + 1) (M ++ [p]) = r := by
  rw [show n - k = (n - (k + 1)) + 1 by omega, pairsF, hh] at h; exact h
end

set_option maxRecDepth 100000 in
set_option maxHeartbeats 8000000 in
theorem ref21_around (pa : Option Addr) (n cp : Nat) (v : Int) (A B C : Nat → Int) (r : Option (List (Int × Int))) (hn : n < 1048576) (hr : Hid (pairsF v A B C (n - 0) 0 [] = r))
    (w : World) (hp : Hid (PtsO w pa n A B C)) :
    Calls Try.prog 11 #[.slice pa n cp, .int .i64 v] w fun e w' => Below w.heap.size w w' ∧
      ((refR r = none ∧ e = .returned (.tuple #[.slice none 0 0, .int .i64 170])) ∨ (∃ out vv, refR r = some out ∧ w'.ownsRow w.heap.size 3 1 vv out.length (out.map (Value.int .i64)) ∧ e = .returned (.tuple #[vv, .int .i64 0]))) := by
  obtain ⟨i0, hi, hz0, hz1, hz2⟩ := info_parts infoInt
  have HI := Lib.hid hi; have HZ0 := Lib.hid hz0; have HZ1 := Lib.hid hz1; have HZ2 := Lib.hid hz2
  clear hi hz0 hz1 hz2
  go_enter Try.func11, Try.ntmps11
  go_wp2_with fail
  go_loopw [6, 7, 8] (fun u u' i wr => ∃ (k : Nat) (M : List (Int × Int)), k ≤ n ∧ i = .int .i64 k ∧ Hid (pairsF v A B C (n - k) k M = r) ∧ Hid (M.length ≤ k) ∧ Hid (Two w wr u (M.map Prod.fst) u' (M.map Prod.snd)))
    (fun _ _ i _ => n - (intOf i).toNat)
  case atStart => exact ⟨0, [], Nat.zero_le _, rfl, hr, Nat.le_refl _, World.ownsRow_nil _ _ _ _, World.ownsRow_nil _ _ _ _, (fun k hk => by cases hk), Below.refl _ _⟩
  case round =>
    clear hr
    obtain ⟨k, M, hk, rfl, HF, HL, hT⟩ := hrel
    by_cases hlt : k < n
    case neg =>
      have hr := pairs_end (by omega) HF.out
      subst hr
      have hqn : M.length < 1048576 := by have := HL.out; omega
      obtain ⟨h6, h7, hap, hB⟩ := hT.out
      clear hT HF HL
      by_cases hM0 : M = []
      · subst hM0
        have hno : refR (some []) = none := rfl
        have HNO := Lib.hid hno
        clear hno
        obtain ⟨_, ⟨rfl, _⟩ | ⟨g, cap, cur, rfl, _⟩⟩ := h6
        · go_wp2
          go_returns
          exact ⟨hB, .inl ⟨HNO.out, rfl⟩⟩
        · go_wp2
          go_returns
          exact ⟨hB, .inl ⟨HNO.out, rfl⟩⟩
      have hpos : 0 < M.length := List.length_pos_iff.2 hM0
      have h6' := h6.2.resolve_left (fun h => by have := h.2; rw [List.length_map] at this; omega)
      have h7' := h7.2.resolve_left (fun h => by have := h.2; rw [List.length_map] at this; omega)
      obtain ⟨g6, c6, cur6, rfl, h6b⟩ := h6'
      obtain ⟨g7, c7, cur7, rfl, h7b⟩ := h7'
      have h6l := (h6.lt g6 rfl)
      have h7l := (h7.lt g7 rfl)
      rw [List.length_map] at h6 h7
      have HA : Hid (∀ j, j < M.length → wr.cell? ⟨g6, j, none⟩ = some (.int .i64 ((M.map Prod.fst).getD j 0))) := fun j hj => by
        rw [h6.cellAt j (by omega)]; simp [List.getD, hj]
      have HV : Hid (∀ j, j < M.length → wr.cell? ⟨g7, j, none⟩ = some (.int .i64 ((M.map Prod.snd).getD j 0))) := fun j hj => by
        rw [h7.cellAt j (by omega)]; simp [List.getD, hj]
      clear h6 h7 hap h6b h7b
      simp only [List.length_map]
      obtain ⟨q, hq⟩ : ∃ q, q = M.length := ⟨_, rfl⟩
      rw [← hq] at hpos hqn HA HV ⊢
      have HQ := Lib.hid hq
      clear hq
      go_wp2_with fail
      obtain ⟨S, rfl⟩ : ∃ S, S = wr := ⟨_, rfl⟩
      obtain ⟨K, hK⟩ : ∃ K : Nat → Int, K = fun j => (M.map Prod.fst).getD j 0 := ⟨_, rfl⟩
      obtain ⟨V, hV⟩ : ∃ V : Nat → Int, V = fun j => (M.map Prod.snd).getD j 0 := ⟨_, rfl⟩
      replace HA : Hid (∀ j, j < q → S.cell? ⟨g6, j, none⟩ = some (.int .i64 (K j))) := by rw [hK]; exact HA
      replace HV : Hid (∀ j, j < q → S.cell? ⟨g7, j, none⟩ = some (.int .i64 (V j))) := by rw [hV]; exact HV
      have HKE := Lib.hid hK; have HVE := Lib.hid hV
      clear hK hV
      have h6w := h6l.2
      have h7w := h7l.2
      have hBw := hB.size
      clear h6l h7l
      have HB := Lib.hid hB
      clear hB
      have d0 : ((q : Int) == 0) = false := by simp; omega
      try simp only [d0]
      clear d0
      go_loopw [11, 12] (fun u i wx => ∃ (at_ k2 : Nat), u = .int .i64 at_ ∧ i = .int .i64 k2 ∧ k2 ≤ q ∧ at_ < q ∧ Hid (at_ ≤ k2) ∧ Hid (∀ j, j < k2 → K at_ ≤ K j) ∧ Hid (∀ j, j < k2 → ∀ l, l < j → ¬ K j = K l) ∧ Below S.heap.size S wx)
        (fun _ i _ => q - (intOf i).toNat)
      case atStart => exact ⟨0, 0, rfl, rfl, Nat.zero_le _, hpos, Nat.le_refl _, (fun j hj => by omega), (fun j hj => by omega), Below.refl _ _⟩
      case round =>
        obtain ⟨at_, k2, rfl, rfl, hk2, hat, hatk, HMIN, HNO, hBW⟩ := hrel
        by_cases hlt2 : k2 < q
        case neg =>
          have hkq : k2 = q := by omega
          have c2 := (hBW.cell (p := ⟨g6, at_, none⟩) h6w).trans (HA.out at_ hat)
          have hwx := Nat.lt_of_lt_of_le h6w hBW.size
          have hML : q = M.length := HQ.out
          have hnd : (M.map Prod.fst).Nodup := by
            refine List.pairwise_iff_getElem.2 fun i j hi hj hij e => ?_
            have hj' : j < q := by rw [HQ.out]; simpa using hj
            have := HNO.out j (by omega) i hij
            rw [HKE.out] at this
            simp only [List.getD, hi, hj, List.getElem?_eq_getElem, Option.getD_some] at this
            exact this e.symm
          have hne : M ≠ [] := fun e => by rw [e] at hML; simp at hML; omega
          have hleast : K at_ = leastOf M := by
            have hlen : (M.map Prod.fst).length = q := by rw [List.length_map]; exact HQ.out.symm
            obtain ⟨j, hj, ej⟩ := leastTo_mem (M.map Prod.fst) (M.length - 1)
            have h1 := leastTo_le (M.map Prod.fst) (M.length - 1) at_ (by omega)
            have h2 := HMIN.out j (by omega)
            rw [HKE.out] at h2 ⊢
            unfold leastOf
            rw [ej] at h1 ⊢
            have h1' : (M.map Prod.fst).getD j 0 ≤ (M.map Prod.fst).getD at_ 0 := h1
            have h2' : (M.map Prod.fst).getD at_ 0 ≤ (M.map Prod.fst).getD j 0 := h2
            show (M.map Prod.fst).getD at_ 0 = _
            omega
          have hnx : ∀ j, j < q → nextOf M (K j) = some (V j) := by
            intro j hj
            have hj1 : j < M.length := by omega
            have hK : K j = (M[j]).1 := by rw [HKE.out]; simp [List.getD, hj1]
            have hV : V j = (M[j]).2 := by rw [HVE.out]; simp [List.getD, hj1]
            rw [hK, hV]
            exact nextOf_at hnd hj1
          have hnone : ∀ z, (∀ j, j < q → ¬ K j = z) → nextOf M z = none := by
            intro z hz
            unfold nextOf
            rw [List.find?_eq_none.2]
            · rfl
            · intro p hp
              obtain ⟨j, hj, e⟩ := List.getElem_of_mem hp
              have := hz j (by omega)
              rw [HKE.out] at this
              simp only [List.getD, List.getElem?_map, hj, List.getElem?_eq_getElem, Option.map_some, Option.getD_some] at this
              rw [← e]; simpa using this
          have hres : refR (some M) = walkF M (leastOf M) (q + 2) [] (leastOf M) := by
            unfold refR arR; simp [hnd, hne, ← hML]
          have hfirst : walkF M (leastOf M) (q + 2 - 1) [leastOf M] (V at_) = refR (some M) := by
            rw [hres]
            conv => rhs; rw [show q + 2 = (q + 1) + 1 from rfl, walkF]
            have := hnx at_ hat
            rw [hleast] at this
            simp only [ne_eq, not_true_eq_false, false_and, if_false, this]
            rw [if_neg (by rw [← hML]; simp; omega)]
            rfl
          generalize hrr : refR (some M) = res at hfirst ⊢
          have HRR := Lib.hid hrr; have HNX := Lib.hid hnx; have HNONE := Lib.hid hnone; have HFIRST := Lib.hid hfirst; have HLEAST := Lib.hid hleast
          clear hrr hnx hnone hfirst hres hnd hne hleast hML HNO HMIN
          obtain ⟨m, hm⟩ : ∃ m, m = leastOf M := ⟨_, rfl⟩
          obtain ⟨y, hy⟩ : ∃ y, y = K at_ := ⟨_, rfl⟩
          rw [← hy] at c2
          have hym : y = m := by rw [hy, hm]; exact HLEAST.out
          subst hym
          clear hy
          have HM := Lib.hid hm
          clear hm
          clear hkq
          go_wp2_with fail
          first | refine wp_named ?_ | refine calls_named ?_
          intro W3 hW3
          have hBX0 : Below S.heap.size S W3 := by rw [hW3]; have := hBW.size; exact hBW.alloc this _
          have hrow0 : W3.ownsRow S.heap.size 3 1 (.slice (some ⟨wr.heap.size, 0, none⟩) 1 1) 1 [.int .i64 y] := by
            rw [hW3]; exact World.ownsRow_lit _ #[.int .i64 y] 1 hBW.size (by decide) rfl
          clear hW3 hBW c2 hwx hlt2
          have HF3 : Hid (walkF M y (q + 2 - 1) [y] (V at_) = res) := by have := HFIRST.out; rw [← HM.out] at this; exact this
          clear HFIRST
          go_loopw [11, 14] (fun u u' wx => ∃ (at_ : Nat) (out : List Int) (g cap p : Nat), u = .int .i64 at_ ∧ u' = .slice (some ⟨g, 0, none⟩) p cap ∧ at_ < q ∧ p ≤ q ∧ 0 < p ∧ Hid (p = out.length) ∧ Hid (out.getD 0 0 = y) ∧ Hid (walkF M y (q + 2 - p) out (V at_) = res) ∧
              Hid (wx.ownsRow S.heap.size 3 1 (.slice (some ⟨g, 0, none⟩) p cap) p (out.map (Value.int .i64))) ∧ Hid (Below S.heap.size S wx))
            (fun _ u' _ => q + 1 - lenV u')
          case atStart => exact ⟨at_, [y], _, _, 1, rfl, rfl, hat, hpos, Nat.zero_lt_one, rfl, rfl, HF3, hrow0, hBX0⟩
          case round =>
            clear hrow0 hBX0 HF3 hat
            obtain ⟨at_, out, g8, c8, p, rfl, rfl, hat, hpq, hp0, hpl, hfirst, HF3, hrow, hBX⟩ := hrel
            have d1 := (hBX.out.cell (p := ⟨g7, at_, none⟩) h7w).trans (HV.out at_ hat)
            have d2 := Nat.lt_of_lt_of_le h7w hBX.out.size
            have d3 : _ = some (Value.int .i64 y) := (hrow.out.cellAt 0 (by omega)).trans (by
              have h1 := hfirst.out; have h2 := hpl.out
              cases out with
              | nil => simp at h2; omega
              | cons o os => simp at h1; subst h1; rfl)
            obtain ⟨z, hz⟩ : ∃ z, z = V at_ := ⟨_, rfl⟩
            rw [← hz] at d1
            have HF4 : Hid (walkF M y ((q + 1 - p) + 1) out z = res) := by have := HF3.out; rw [← hz, show q + 2 - p = (q + 1 - p) + 1 by omega] at this; exact this
            have HZE := Lib.hid hz
            clear hz HF3
            have hne : out ≠ [] := fun e => by have := hpl.out; rw [e] at this; simp at this; omega
            have HNE := Lib.hid hne
            clear hne
            by_cases hzy : z = y
            · subst hzy
              have hend := walk_end HNE.out rfl HF4.out
              rw [← hpl.out, ← HQ.out] at hend
              by_cases hpe : p = q
              · rw [if_neg (by omega)] at hend
                have HEND := Lib.hid hend
                clear hend
                go_wp2
                go_returns
                exact ⟨HB.out.trans (hBX.out.mono hBw), .inr ⟨out, _, HRR.out.trans HEND.out, (by rw [← hpl.out]; exact ownsRow_base hrow.out hBw), rfl⟩⟩
              · rw [if_pos (by omega)] at hend
                have HEND := Lib.hid hend
                clear hend
                go_wp2
                go_returns
                exact ⟨HB.out.trans (hBX.out.mono hBw), .inl ⟨HRR.out.trans HEND.out, rfl⟩⟩
            have hcond : Hid (¬ (out ≠ [] ∧ z = y)) := fun h => hzy h.2
            go_wp2_with fail
            go_loop [11, 16] (fun u i => ∃ (a2 : Int) (l : Nat), u = .int .i64 a2 ∧ i = .int .i64 l ∧ l ≤ q ∧ Hid ((a2 = -1 ∧ ∀ j, j < l → ¬ K j = z) ∨ (∃ t : Nat, a2 = t ∧ t < q ∧ K t = z)))
              (fun _ i => q - (intOf i).toNat)
            case atStart => exact ⟨-1, 0, rfl, rfl, Nat.zero_le _, .inl ⟨rfl, fun j hj => by omega⟩⟩
            case round =>
              obtain ⟨a2, l, rfl, rfl, hl, hfind⟩ := hrel
              by_cases hlt5 : l < q
              case neg =>
                rcases hfind.out with ⟨rfl, hno⟩ | ⟨t, rfl, htq, hKt⟩
                · have hmiss := walk_miss hcond.out (HNONE.out z (fun j hj => hno j (by omega))) HF4.out
                  have HMISS := Lib.hid hmiss
                  clear hmiss hno
                  go_wp2
                  go_returns
                  exact ⟨HB.out.trans (hBX.out.mono hBw), .inl ⟨HRR.out.trans HMISS.out, rfl⟩⟩
                · have hnext := HNX.out t htq
                  rw [hKt] at hnext
                  have HNEXT := Lib.hid hnext
                  have HKT := Lib.hid hKt
                  clear hnext hKt
                  by_cases hpe : p = q
                  · have hfull := walk_full hcond.out HNEXT.out (hpl.out.symm.trans (hpe.trans HQ.out)) HF4.out
                    have HFULL := Lib.hid hfull
                    clear hfull
                    go_wp2
                    go_returns
                    exact ⟨HB.out.trans (hBX.out.mono hBw), .inl ⟨HRR.out.trans HFULL.out, rfl⟩⟩
                  · have ht0 : ¬ (t : Int) < 0 := by omega
                    have hpe2 : ((p : Int) == (q : Int)) = false := by simp; omega
                    go_wp2_with (first | (at_builtin; refine wpList_append_own _ rfl (.tmp 130) (.tmp 132) 31 rfl S.heap.size 3 i0 (.int .i64 0) 1 8 uInts HI.out HZ0.out HZ1.out HZ2.out rfl (by decide) _ _ _ rfl (hrow.out.alloc _) ⟨_, 0, none⟩ 1 1 [.int .i64 z] rfl rfl (cell_one_new _ _ _) (ints_oneCell .i64 [z]) (by unfold maxLen; omega) (by omega) (by have := hBX.out.size; simp; omega) ?_; intro v' w3 hrow3 hgr3 hnil3) | fail)
                    obtain ⟨_, h00⟩ := id hrow3
                    replace h00 := h00.resolve_left (fun h => by have := h.2; omega)
                    obtain ⟨g3, cap3, cur3, rfl, h3⟩ := h00
                    have hg8 := (hrow.out.lt g8 rfl).1
                    have hon := walk_on hcond.out HNEXT.out (fun e => hpe (hpl.out.trans (e.trans HQ.out.symm))) HF4.out
                    go_roundw
                    case rel =>
                      refine ⟨t, out ++ [z], g3, cap3, p + 1, rfl, rfl, htq, by omega, by omega, ?_, ?_, ?_, ?_, ?_⟩
                      · have := hpl.out; show p + 1 = (out ++ [z]).length; rw [List.length_append]; show p + 1 = out.length + 1; omega
                      · have h1 := hfirst.out; have h2 := hpl.out
                        show (out ++ [z]).getD 0 0 = y
                        cases out with
                        | nil => simp at h2; omega
                        | cons o os => simpa using h1
                      · show walkF _ _ _ _ _ = _
                        rw [show q + 2 - (p + 1) = q + 1 - p by omega]; exact hon
                      · show World.ownsRow _ _ _ _ _ _ _
                        simpa using hrow3
                      · exact (hBX.out.alloc hBX.out.size _).grown hgr3 (by have := hBX.out.size; simp; omega) (fun j hj => by have e2 : g8 = j := (by injection hj); omega)
                    case measure => simp only [lenV]; omega
              have e1 := (hBX.out.cell (p := ⟨g6, l, none⟩) h6w).trans (HA.out l hlt5)
              have e2 := Nat.lt_of_lt_of_le h6w hBX.out.size
              obtain ⟨x, hx⟩ : ∃ x, x = K l := ⟨_, rfl⟩
              rw [← hx] at e1
              have HX := Lib.hid hx
              clear hx
              by_cases hxz : x = z
              · go_wp2
                go_round
                case rel => exact ⟨l, l + 1, rfl, by go_num, by omega, .inr ⟨l, rfl, hlt5, by rw [← HX.out]; exact hxz⟩⟩
                case measure => simp [intOf]; omega
              · go_wp2
                go_round
                case rel =>
                  refine ⟨a2, l + 1, rfl, by go_num, by omega, ?_⟩
                  rcases hfind.out with ⟨h1, hno⟩ | h
                  · refine .inl ⟨h1, fun j hj => ?_⟩
                    rcases Nat.lt_or_ge j l with h | h
                    · exact hno j h
                    · have : j = l := by omega
                      subst this; rw [← HX.out]; exact hxz
                  · exact .inr h
                case measure => simp [intOf]; omega
        have c1 := (hBW.cell (p := ⟨g6, k2, none⟩) h6w).trans (HA.out k2 hlt2)
        have c2 := (hBW.cell (p := ⟨g6, at_, none⟩) h6w).trans (HA.out at_ hat)
        have hwx := Nat.lt_of_lt_of_le h6w hBW.size
        obtain ⟨x, hx⟩ : ∃ x, x = K k2 := ⟨_, rfl⟩
        obtain ⟨y, hy⟩ : ∃ y, y = K at_ := ⟨_, rfl⟩
        rw [← hx] at c1; rw [← hy] at c2
        have HX := Lib.hid hx; have HY := Lib.hid hy
        clear hx hy
        go_wp2_with fail
        refine wp_calm0 9 (by kernel_rfl) (by kernel_rfl) ?_
        intro C hC
        repeat (refine wpCalm_step (fun J hJ => ?_); go_simp; first | (refine hJ _ ?_; clear hJ J) | (apply Exists.intro; refine ⟨fun wc hw => ?_, hJ _ ?_⟩; (obtain ⟨hcc, hff⟩ := bcell (hC wc hw); go_simp; first | exact rfl); clear hJ J))
        refine wpCalm_nil ?_
        clear hC C
        intro W1 hX
        replace hBW := after hBW hX
        clear hX c1 c2 hwx
        simp only [List.drop_succ_cons, List.drop_zero]
        by_cases hxy : x < y
        · go_wp2_with fail
          have hmin2 : ∀ j, j < k2 + 1 → K k2 ≤ K j := by
            intro j hj
            have h1 := HX.out; have h2 := HY.out
            rcases Nat.lt_or_ge j k2 with h | h
            · have := HMIN.out j h; omega
            · have : j = k2 := by omega
              subst this; exact Int.le_refl _
          have HMIN2 := Lib.hid hmin2
          clear hmin2
          have d1 : decide (x < y) = true := by simp [hxy]
          try simp only [d1]
          clear d1
          go_loopw [13] (fun u wx => ∃ l : Nat, u = .int .i64 l ∧ l ≤ k2 ∧ Hid (∀ j, j < l → ¬ K k2 = K j) ∧ Below S.heap.size S wx)
            (fun u _ => k2 - (intOf u).toNat)
          case atStart => exact ⟨0, rfl, Nat.zero_le _, (fun j hj => by omega), hBW⟩
          case round =>
            clear hBW
            obtain ⟨l, rfl, hl, HN2, hBW⟩ := hrel
            by_cases hlt3 : l < k2
            case neg =>
              have hlk : l = k2 := by omega
              have hno2 : ∀ j, j < k2 + 1 → ∀ l, l < j → ¬ K j = K l := by
                intro j hj l' hl'
                rcases Nat.lt_or_ge j k2 with h | h
                · exact HNO.out j h l' hl'
                · have : j = k2 := by omega
                  subst this; exact HN2.out l' (by omega)
              have HNO2 := Lib.hid hno2
              clear hno2 hlk
              go_wp2
              go_roundw
              case rel => first | exact ⟨k2, k2 + 1, rfl, by go_num, by omega, hlt2, Nat.le_succ _, HMIN2, HNO2, hBW⟩ | ((repeat apply Exists.intro); exact ⟨⟨k2, k2 + 1, rfl, by go_num, by omega, hlt2, Nat.le_succ _, HMIN2, HNO2, hBW⟩, rfl⟩)
              case measure => simp [intOf]; omega
            have c1 := (hBW.cell (p := ⟨g6, k2, none⟩) h6w).trans (HA.out k2 hlt2)
            have c2 := (hBW.cell (p := ⟨g6, l, none⟩) h6w).trans (HA.out l (by omega))
            have hwx := Nat.lt_of_lt_of_le h6w hBW.size
            have hlq : l < q := by omega
            obtain ⟨z, hz⟩ : ∃ z, z = K l := ⟨_, rfl⟩
            rw [← HX.out] at c1; rw [← hz] at c2
            have HZ := Lib.hid hz
            clear hz
            go_wp2_with fail
            refine wp_calm0 9 (by kernel_rfl) (by kernel_rfl) ?_
            intro C hC
            repeat (refine wpCalm_step (fun J hJ => ?_); go_simp; first | (refine hJ _ ?_; clear hJ J) | (apply Exists.intro; refine ⟨fun wc hw => ?_, hJ _ ?_⟩; (obtain ⟨hcc, hff⟩ := bcell (hC wc hw); go_simp; first | exact rfl); clear hJ J))
            refine wpCalm_nil ?_
            clear hC C
            intro W2 hX
            replace hBW := after hBW hX
            clear hX c1 c2 hwx
            simp only [List.drop_succ_cons, List.drop_zero]
            by_cases hxz : x = z
            · have hdup : ¬ (M.map Prod.fst).Nodup := by
                intro hnd
                have e1 := HX.out; have e2 := HZ.out
                have e3 : K k2 = K l := by rw [← e1, ← e2]; exact hxz
                rw [HKE.out] at e3
                have q1 : k2 < (M.map Prod.fst).length := by rw [List.length_map, ← HQ.out]; exact hlt2
                have q2 : l < (M.map Prod.fst).length := by rw [List.length_map, ← HQ.out]; exact hlq
                simp only [List.getD, q1, q2, List.getElem?_eq_getElem, Option.getD_some] at e3
                exact (List.pairwise_iff_getElem.1 hnd) l k2 q2 q1 hlt3 e3.symm
              have hres : refR (some M) = none := by unfold refR; simp [hdup]
              have HR := Lib.hid hres
              clear hres hdup
              go_wp2
              go_returns
              exact ⟨HB.out.trans (hBW.mono hBw), .inl ⟨HR.out, rfl⟩⟩
            · go_wp2
              go_roundw
              case rel =>
                refine ⟨l + 1, by go_num, by omega, ?_, hBW⟩
                intro j hj
                have e1 := HX.out; have e2 := HZ.out
                rcases Nat.lt_or_ge j l with h | h
                · exact HN2.out j h
                · have : j = l := by omega
                  subst this; rw [← e1, ← e2]; exact hxz
              case measure => simp [intOf]; omega
        · go_wp2_with fail
          have hmin2 : ∀ j, j < k2 + 1 → K at_ ≤ K j := by
            intro j hj
            have h1 := HX.out; have h2 := HY.out
            rcases Nat.lt_or_ge j k2 with h | h
            · exact HMIN.out j h
            · have : j = k2 := by omega
              subst this; omega
          have HMIN2 := Lib.hid hmin2
          clear hmin2
          have d1 : decide (x < y) = false := by simp; omega
          try simp only [d1]
          clear d1
          go_loopw [13] (fun u wx => ∃ l : Nat, u = .int .i64 l ∧ l ≤ k2 ∧ Hid (∀ j, j < l → ¬ K k2 = K j) ∧ Below S.heap.size S wx)
            (fun u _ => k2 - (intOf u).toNat)
          case atStart => exact ⟨0, rfl, Nat.zero_le _, (fun j hj => by omega), hBW⟩
          case round =>
            clear hBW
            obtain ⟨l, rfl, hl, HN2, hBW⟩ := hrel
            by_cases hlt3 : l < k2
            case neg =>
              have hlk : l = k2 := by omega
              have hno2 : ∀ j, j < k2 + 1 → ∀ l, l < j → ¬ K j = K l := by
                intro j hj l' hl'
                rcases Nat.lt_or_ge j k2 with h | h
                · exact HNO.out j h l' hl'
                · have : j = k2 := by omega
                  subst this; exact HN2.out l' (by omega)
              have HNO2 := Lib.hid hno2
              clear hno2 hlk
              go_wp2
              go_roundw
              case rel => first | exact ⟨at_, k2 + 1, rfl, by go_num, by omega, hat, Nat.le_succ_of_le hatk.out, HMIN2, HNO2, hBW⟩ | ((repeat apply Exists.intro); exact ⟨⟨at_, k2 + 1, rfl, by go_num, by omega, hat, Nat.le_succ_of_le hatk.out, HMIN2, HNO2, hBW⟩, rfl⟩)
              case measure => simp [intOf]; omega
            have c1 := (hBW.cell (p := ⟨g6, k2, none⟩) h6w).trans (HA.out k2 hlt2)
            have c2 := (hBW.cell (p := ⟨g6, l, none⟩) h6w).trans (HA.out l (by omega))
            have hwx := Nat.lt_of_lt_of_le h6w hBW.size
            have hlq : l < q := by omega
            obtain ⟨z, hz⟩ : ∃ z, z = K l := ⟨_, rfl⟩
            rw [← HX.out] at c1; rw [← hz] at c2
            have HZ := Lib.hid hz
            clear hz
            go_wp2_with fail
            refine wp_calm0 9 (by kernel_rfl) (by kernel_rfl) ?_
            intro C hC
            repeat (refine wpCalm_step (fun J hJ => ?_); go_simp; first | (refine hJ _ ?_; clear hJ J) | (apply Exists.intro; refine ⟨fun wc hw => ?_, hJ _ ?_⟩; (obtain ⟨hcc, hff⟩ := bcell (hC wc hw); go_simp; first | exact rfl); clear hJ J))
            refine wpCalm_nil ?_
            clear hC C
            intro W2 hX
            replace hBW := after hBW hX
            clear hX c1 c2 hwx
            simp only [List.drop_succ_cons, List.drop_zero]
            by_cases hxz : x = z
            · have hdup : ¬ (M.map Prod.fst).Nodup := by
                intro hnd
                have e1 := HX.out; have e2 := HZ.out
                have e3 : K k2 = K l := by rw [← e1, ← e2]; exact hxz
                rw [HKE.out] at e3
                have q1 : k2 < (M.map Prod.fst).length := by rw [List.length_map, ← HQ.out]; exact hlt2
                have q2 : l < (M.map Prod.fst).length := by rw [List.length_map, ← HQ.out]; exact hlq
                simp only [List.getD, q1, q2, List.getElem?_eq_getElem, Option.getD_some] at e3
                exact (List.pairwise_iff_getElem.1 hnd) l k2 q2 q1 hlt3 e3.symm
              have hres : refR (some M) = none := by unfold refR; simp [hdup]
              have HR := Lib.hid hres
              clear hres hdup
              go_wp2
              go_returns
              exact ⟨HB.out.trans (hBW.mono hBw), .inl ⟨HR.out, rfl⟩⟩
            · go_wp2
              go_roundw
              case rel =>
                refine ⟨l + 1, by go_num, by omega, ?_, hBW⟩
                intro j hj
                have e1 := HX.out; have e2 := HZ.out
                rcases Nat.lt_or_ge j l with h | h
                · exact HN2.out j h
                · have : j = l := by omega
                  subst this; rw [← e1, ← e2]; exact hxz
              case measure => simp [intOf]; omega
    have hML : M.length < 1048576 := by have := HL.out; omega
    obtain ⟨b, off, rfl, hq⟩ := hp.out.at hlt
    have hbw := hq.1
    obtain ⟨hcl, hbl⟩ := hT.out.cells hbw
    obtain ⟨g1, g2, g3⟩ := hq.2 k hlt
    clear hq
    obtain ⟨a, ha⟩ : ∃ a, a = A k := ⟨_, rfl⟩
    obtain ⟨b1, hb1⟩ : ∃ b1, b1 = B k := ⟨_, rfl⟩
    obtain ⟨c, hc1⟩ : ∃ c, c = C k := ⟨_, rfl⟩
    rw [← ha] at g1; rw [← hb1] at g2; rw [← hc1] at g3
    have EA := Lib.hid ha; have EB := Lib.hid hb1; have EC := Lib.hid hc1
    clear ha hb1 hc1
    by_cases ea : a = v <;> by_cases eb : b1 = v <;> by_cases ec : c = v
    all_goals (go_wp2_with fail; refine wp_loop_rounds 4 ?_; rw [rounds_succ]; go_wp2_with (first | (at_builtin; refine wpList_append_own_at _ rfl (.tmp 37) (.tmp 46) 31 rfl w.heap.size 3 i0 (.int .i64 0) 1 8 uInts HI.out HZ0.out HZ1.out HZ2.out rfl (by decide) _ _ _ rfl (hT.out.one.alloc _) ⟨_, 0, none⟩ 1 1 [.int .i64 _] rfl rfl (cell_one_new _ _ _) (ints_oneCell .i64 [_]) (by unfold maxLen; simp; omega) (by simp; omega) (by have := hT.out.below.size; simp; omega) ?_; intro v' w1 hq1 hq2 hq3 hq4; replace hT := Lib.hid (hT.out.more hq1 hq2 hq4); clear hq1 hq2 hq3 hq4; obtain ⟨hcl, hbl⟩ := hT.out.cells hbw) | (at_builtin; refine wpList_append_own_at _ rfl (.tmp 48) (.tmp 57) 31 rfl w.heap.size 3 i0 (.int .i64 0) 1 8 uInts HI.out HZ0.out HZ1.out HZ2.out rfl (by decide) _ _ _ rfl (hT.out.two.alloc _) ⟨_, 0, none⟩ 1 1 [.int .i64 _] rfl rfl (cell_one_new _ _ _) (ints_oneCell .i64 [_]) (by unfold maxLen; simp; omega) (by simp; omega) (by have := hT.out.below.size; simp; omega) ?_; intro v' w1 hq1 hq2 hq3 hq4; replace hT := Lib.hid ((hT.out.swap.more hq1 hq2 hq4).swap); clear hq1 hq2 hq3 hq4; obtain ⟨hcl, hbl⟩ := hT.out.cells hbw) | fail); rw [rounds_succ]; go_wp2_with (first | (at_builtin; refine wpList_append_own_at _ rfl (.tmp 37) (.tmp 46) 31 rfl w.heap.size 3 i0 (.int .i64 0) 1 8 uInts HI.out HZ0.out HZ1.out HZ2.out rfl (by decide) _ _ _ rfl (hT.out.one.alloc _) ⟨_, 0, none⟩ 1 1 [.int .i64 _] rfl rfl (cell_one_new _ _ _) (ints_oneCell .i64 [_]) (by unfold maxLen; simp; omega) (by simp; omega) (by have := hT.out.below.size; simp; omega) ?_; intro v' w1 hq1 hq2 hq3 hq4; replace hT := Lib.hid (hT.out.more hq1 hq2 hq4); clear hq1 hq2 hq3 hq4; obtain ⟨hcl, hbl⟩ := hT.out.cells hbw) | (at_builtin; refine wpList_append_own_at _ rfl (.tmp 48) (.tmp 57) 31 rfl w.heap.size 3 i0 (.int .i64 0) 1 8 uInts HI.out HZ0.out HZ1.out HZ2.out rfl (by decide) _ _ _ rfl (hT.out.two.alloc _) ⟨_, 0, none⟩ 1 1 [.int .i64 _] rfl rfl (cell_one_new _ _ _) (ints_oneCell .i64 [_]) (by unfold maxLen; simp; omega) (by simp; omega) (by have := hT.out.below.size; simp; omega) ?_; intro v' w1 hq1 hq2 hq3 hq4; replace hT := Lib.hid ((hT.out.swap.more hq1 hq2 hq4).swap); clear hq1 hq2 hq3 hq4; obtain ⟨hcl, hbl⟩ := hT.out.cells hbw) | fail); rw [rounds_succ]; go_wp2_with (first | (at_builtin; refine wpList_append_own_at _ rfl (.tmp 37) (.tmp 46) 31 rfl w.heap.size 3 i0 (.int .i64 0) 1 8 uInts HI.out HZ0.out HZ1.out HZ2.out rfl (by decide) _ _ _ rfl (hT.out.one.alloc _) ⟨_, 0, none⟩ 1 1 [.int .i64 _] rfl rfl (cell_one_new _ _ _) (ints_oneCell .i64 [_]) (by unfold maxLen; simp; omega) (by simp; omega) (by have := hT.out.below.size; simp; omega) ?_; intro v' w1 hq1 hq2 hq3 hq4; replace hT := Lib.hid (hT.out.more hq1 hq2 hq4); clear hq1 hq2 hq3 hq4; obtain ⟨hcl, hbl⟩ := hT.out.cells hbw) | (at_builtin; refine wpList_append_own_at _ rfl (.tmp 48) (.tmp 57) 31 rfl w.heap.size 3 i0 (.int .i64 0) 1 8 uInts HI.out HZ0.out HZ1.out HZ2.out rfl (by decide) _ _ _ rfl (hT.out.two.alloc _) ⟨_, 0, none⟩ 1 1 [.int .i64 _] rfl rfl (cell_one_new _ _ _) (ints_oneCell .i64 [_]) (by unfold maxLen; simp; omega) (by simp; omega) (by have := hT.out.below.size; simp; omega) ?_; intro v' w1 hq1 hq2 hq3 hq4; replace hT := Lib.hid ((hT.out.swap.more hq1 hq2 hq4).swap); clear hq1 hq2 hq3 hq4; obtain ⟨hcl, hbl⟩ := hT.out.cells hbw) | fail); rw [rounds_succ]; go_wp2_with (first | (at_builtin; refine wpList_append_own_at _ rfl (.tmp 37) (.tmp 46) 31 rfl w.heap.size 3 i0 (.int .i64 0) 1 8 uInts HI.out HZ0.out HZ1.out HZ2.out rfl (by decide) _ _ _ rfl (hT.out.one.alloc _) ⟨_, 0, none⟩ 1 1 [.int .i64 _] rfl rfl (cell_one_new _ _ _) (ints_oneCell .i64 [_]) (by unfold maxLen; simp; omega) (by simp; omega) (by have := hT.out.below.size; simp; omega) ?_; intro v' w1 hq1 hq2 hq3 hq4; replace hT := Lib.hid (hT.out.more hq1 hq2 hq4); clear hq1 hq2 hq3 hq4; obtain ⟨hcl, hbl⟩ := hT.out.cells hbw) | (at_builtin; refine wpList_append_own_at _ rfl (.tmp 48) (.tmp 57) 31 rfl w.heap.size 3 i0 (.int .i64 0) 1 8 uInts HI.out HZ0.out HZ1.out HZ2.out rfl (by decide) _ _ _ rfl (hT.out.two.alloc _) ⟨_, 0, none⟩ 1 1 [.int .i64 _] rfl rfl (cell_one_new _ _ _) (ints_oneCell .i64 [_]) (by unfold maxLen; simp; omega) (by simp; omega) (by have := hT.out.below.size; simp; omega) ?_; intro v' w1 hq1 hq2 hq3 hq4; replace hT := Lib.hid ((hT.out.swap.more hq1 hq2 hq4).swap); clear hq1 hq2 hq3 hq4; obtain ⟨hcl, hbl⟩ := hT.out.cells hbw) | fail))
    · go_returns
      exact ⟨hT.out.below, .inl ⟨by rw [pairs_many hlt (by rw [← EA.out, ← EB.out, ← EC.out]; simp [hit, ea, eb, ec]) HF.out]; rfl, rfl⟩⟩
    · go_returns
      exact ⟨hT.out.below, .inl ⟨by rw [pairs_many hlt (by rw [← EA.out, ← EB.out, ← EC.out]; simp [hit, ea, eb, ec]) HF.out]; rfl, rfl⟩⟩
    · go_returns
      exact ⟨hT.out.below, .inl ⟨by rw [pairs_many hlt (by rw [← EA.out, ← EB.out, ← EC.out]; simp [hit, ea, eb, ec]) HF.out]; rfl, rfl⟩⟩
    · have hL := HL.out
      refine ⟨⟨k + 1, M ++ [(b1, c)], by omega, by go_num, pairs_one (p := (b1, c)) hlt (by rw [← EA.out, ← EB.out, ← EC.out]; simp [hit, ea, eb, ec]) HF.out, by show (M ++ _).length ≤ _; simp; omega, ?_⟩, by simp [intOf]; omega⟩
      show Two _ _ _ _ _ _
      simpa using hT.out
    · go_returns
      exact ⟨hT.out.below, .inl ⟨by rw [pairs_many hlt (by rw [← EA.out, ← EB.out, ← EC.out]; simp [hit, ea, eb, ec]) HF.out]; rfl, rfl⟩⟩
    · have hL := HL.out
      refine ⟨⟨k + 1, M ++ [(c, a)], by omega, by go_num, pairs_one (p := (c, a)) hlt (by rw [← EA.out, ← EB.out, ← EC.out]; simp [hit, ea, eb, ec]) HF.out, by show (M ++ _).length ≤ _; simp; omega, ?_⟩, by simp [intOf]; omega⟩
      show Two _ _ _ _ _ _
      simpa using hT.out
    · have hL := HL.out
      refine ⟨⟨k + 1, M ++ [(a, b1)], by omega, by go_num, pairs_one (p := (a, b1)) hlt (by rw [← EA.out, ← EB.out, ← EC.out]; simp [hit, ea, eb, ec]) HF.out, by show (M ++ _).length ≤ _; simp; omega, ?_⟩, by simp [intOf]; omega⟩
      show Two _ _ _ _ _ _
      simpa using hT.out
    · have hL := HL.out
      refine ⟨⟨k + 1, M, by omega, by go_num, pairs_zero hlt (by rw [← EA.out, ← EB.out, ← EC.out]; simp [hit, ea, eb, ec]) HF.out, Nat.le_succ_of_le hL, hT⟩, by simp [intOf]; omega⟩
end Go.Proofs.Ytdglijdiiggdgaa
