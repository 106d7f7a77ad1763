import Derived.Test.YtdglijdiiggdgaaLLe
namespace Go.Proofs.Ytdglijdiiggdgaa
open Go.RowKit Go.Maps Geo
def listT (m : Nat) (A B C : Nat → Int) : List T3 := (List.range m).map fun k => (A k, B k, C k)
theorem listT_len (m : Nat) (A B C : Nat → Int) : (listT m A B C).length = m := by unfold listT; simp
theorem listT_get {m k : Nat} {A B C : Nat → Int} (h : k < m) (L : List T3) : (listT m A B C ++ L).getD k (0, 0, 0) = (A k, B k, C k) := by
  unfold listT
  rw [List.getD_eq_getElem?_getD, List.getElem?_append_left (by simpa using h)]
  simp [h]
theorem pts_listT {w : World} {b off m n : Nat} {A B C : Nat → Int} {L : List T3} (h : PtsAt w b off n (fA (listT m A B C ++ L)) (fB (listT m A B C ++ L)) (fC (listT m A B C ++ L))) (hn : m ≤ n) : PtsAt w b off m A B C := by
  refine ⟨h.1, fun i hi => ?_⟩
  have e := @listT_get m i A B C hi L
  have h2 := h.2 i (by omega)
  unfold fA fB fC at h2
  rw [e] at h2
  exact h2
theorem listT_last {m : Nat} {A B C : Nat → Int} {t : T3} : (listT m A B C ++ [t]).getD m (0, 0, 0) = t := by
  rw [List.getD_eq_getElem?_getD, List.getElem?_append_right (by rw [listT_len]; omega), listT_len]
  simp
theorem aptR_code {n m : Nat} {X Y Z A B C : Nat → Int} {v : Int} (h : (chk n X Y Z).1 ≠ 0) : (aptR n m X Y Z A B C v).2 = (chk n X Y Z).1 := by
  unfold aptR; rw [if_pos h]
theorem same_true (m : Nat) (A B C : Nat → Int) : (decide (m = m) && sameF A B C A B C m 0) = true := by rw [same_self]; simp
theorem news_listT {w : World} {b off m : Nat} {A B C : Nat → Int} (h : PtsAt w b off m A B C) : ∀ j u, (cells3 (listT m A B C))[j]? = some u → w.cell? ((⟨b, off, none⟩ : Addr).add j) = some u := by
  intro j u hj
  have hlt : j < m * 3 := by
    have := (List.getElem?_eq_some_iff.1 hj).1
    rw [cells3_len, listT_len] at this
    exact this
  have hk : j / 3 < m := by omega
  obtain ⟨c0, c1, c2⟩ := cells3_at (listT m A B C) (j / 3) (by rw [listT_len]; exact hk)
  have e := @listT_get m (j / 3) A B C hk []
  rw [List.append_nil] at e
  unfold fA at c0; unfold fB at c1; unfold fC at c2
  rw [e] at c0 c1 c2
  obtain ⟨h0, h1, h2⟩ := h.2 (j / 3) hk
  have e2 : (⟨b, off, none⟩ : Addr).add j = ⟨b, off + j, none⟩ := by unfold Addr.add; split <;> simp_all
  rw [e2]
  have h3 : j % 3 = 0 ∨ j % 3 = 1 ∨ j % 3 = 2 := by omega
  obtain ⟨q, hq⟩ : ∃ q, q = j / 3 := ⟨_, rfl⟩
  rw [← hq] at c0 c1 c2 h0 h1 h2
  rcases h3 with h3 | h3 | h3
  · have ej : j = q * 3 := by omega
    subst ej
    rw [c0] at hj; rw [h0, hj]
  · have ej : j = q * 3 + 1 := by omega
    subst ej
    rw [c1] at hj; rw [← hj, ← h1]; congr 1
  · have ej : j = q * 3 + 2 := by omega
    subst ej
    rw [c2] at hj; rw [← hj, ← h2]; congr 1
theorem cells3_one (L : List T3) : ∀ u ∈ cells3 L, u.oneCell' = true := by
  intro u hu
  unfold cells3 at hu
  obtain ⟨t, _, ht⟩ := List.mem_flatMap.1 hu
  simp only [List.mem_cons, List.not_mem_nil, or_false] at ht
  rcases ht with rfl | rfl | rfl <;> rfl
theorem cells3_app (L M : List T3) : cells3 L ++ cells3 M = cells3 (L ++ M) := by unfold cells3; rw [List.flatMap_append]
def RowI (w : World) (base : Nat) (p : Option Addr) (L : List Int) : Prop := (L = [] ∧ p = none) ∨ ∃ g cur, p = some ⟨g, 0, none⟩ ∧ base ≤ g ∧ w.heap[g]? = some (.cells cur 3 (0, 0)) ∧ cur.toList.take L.length = L.map (Value.int .i64)
theorem RowI.ints {w : World} {base : Nat} {p : Option Addr} {L : List Int} (h : RowI w base p L) : IntsAt w p L := by
  rcases h with ⟨rfl, rfl⟩ | ⟨g, cur, rfl, hb, hg, htake⟩
  · intro j hj; simp at hj
  · intro j hj
    refine ⟨g, 0, rfl, (Array.getElem?_eq_some_iff.1 hg).1, ?_⟩
    have at_ : w.cell? ⟨g, j, none⟩ = (L.map (Value.int .i64))[j]? := by
      rw [← htake, List.getElem?_take_of_lt hj]
      simp [World.cell?, hg]
    rw [Nat.zero_add, at_, List.getElem?_map, List.getElem?_eq_getElem hj]
    simp [List.getD, hj]
theorem RowI.below {w w' : World} {base : Nat} {p : Option Addr} {L : List Int} (h : RowI w base p L) (hB : Below w.heap.size w w') : RowI w' base p L := by
  rcases h with h | ⟨g, cur, e, hb, hg, htake⟩
  · exact .inl h
  · exact .inr ⟨g, cur, e, hb, (hB.block _ (Array.getElem?_eq_some_iff.1 hg).1).trans hg, htake⟩
theorem RowI.besides {w w' : World} {base b : Nat} {p : Option Addr} {L : List Int} (h : RowI w base p L) (hne : ∀ g, p = some ⟨g, 0, none⟩ → g ≠ b) (hB : Besides b w w') : RowI w' base p L := by
  rcases h with h | ⟨g, cur, e, hb, hg, htake⟩
  · exact .inl h
  · exact .inr ⟨g, cur, e, hb, (hB.same _ (hne g e)).trans hg, htake⟩
theorem RowAt.besides {w w' : World} {base b : Nat} {p : Option Addr} {L : List T3} (h : RowAt w base p L) (hne : ∀ g, p = some ⟨g, 0, none⟩ → g ≠ b) (hB : Besides b w w') : RowAt w' base p L := by
  rcases h with h | ⟨g, cur, e, hb, hg, htake⟩
  · exact .inl h
  · exact .inr ⟨g, cur, e, hb, (hB.same _ (hne g e)).trans hg, htake⟩
theorem RowAt.blk {w : World} {base : Nat} {p : Option Addr} {L : List T3} (h : RowAt w base p L) : ∀ g, p = some ⟨g, 0, none⟩ → base ≤ g ∧ g < w.heap.size := by
  intro g e
  rcases h with ⟨_, rfl⟩ | ⟨g', cur, e', hb, hg, htake⟩
  · cases e
  · rw [e'] at e
    injection e with e
    injection e with e1 e2
    subst e1
    exact ⟨hb, (Array.getElem?_eq_some_iff.1 hg).1⟩
theorem RowI.blk {w : World} {base : Nat} {p : Option Addr} {L : List Int} (h : RowI w base p L) : ∀ g, p = some ⟨g, 0, none⟩ → base ≤ g ∧ g < w.heap.size := by
  intro g e
  rcases h with ⟨_, rfl⟩ | ⟨g', cur, e', hb, hg, htake⟩
  · cases e
  · rw [e'] at e
    injection e with e
    injection e with e1 e2
    subst e1
    exact ⟨hb, (Array.getElem?_eq_some_iff.1 hg).1⟩
theorem blk_at (W : World) (b : Nat) (p : Option Addr) (h : ∀ g, p = some ⟨g, 0, none⟩ → b ≤ g ∧ g < W.heap.size) (hb : b ≤ W.heap.size) (hs : ∀ a, p = some a → a = ⟨a.block, 0, none⟩) : b ≤ blkOf p W.heap.size := by
  cases p with
  | none => exact hb
  | some a => exact (h a.block (by rw [← hs a rfl])).1
theorem blk_ne {p : Option Addr} {d lo hi g : Nat} (hp : ∀ g, p = some ⟨g, 0, none⟩ → lo ≤ g ∧ g < hi) (hs : ∀ a, p = some a → a = ⟨a.block, 0, none⟩) (h : (g < lo ∨ hi ≤ g) ∧ g < d) : g ≠ blkOf p d := by
  cases p with
  | none => intro e; have : g = d := e; omega
  | some a => intro e; have h2 := hp a.block (by rw [← hs a rfl]); have : g = a.block := e; omega
theorem rowI_of_own {w : World} {base : Nat} {vv : Value} {L : List Int} (h : w.ownsRow base 3 1 vv L.length (L.map (Value.int .i64))) : ∃ p cap, vv = .slice p L.length cap ∧ RowI w base p L := by
  rcases h.2 with ⟨rfl, hn⟩ | ⟨g, cap, cur, rfl, hb, hg, hle, hmax, hsz, htake⟩
  · exact ⟨none, 0, by rw [hn], .inl ⟨List.length_eq_zero_iff.1 hn, rfl⟩⟩
  · exact ⟨_, cap, rfl, .inr ⟨g, cur, rfl, hb, hg, by simpa using htake⟩⟩
theorem around_own (pa : Option Addr) (n cp : Nat) (v : Int) (A B C : Nat → Int) (xs : List Int) (c : Int) (hr : Hid (outR (refR (pairsF v A B C n 0 [])) = (xs, c))) (hn : n < 1048576) (hv : Hid (Wf v)) (hwf : Hid (∀ k, k < n → Wf (A k) ∧ Wf (B k) ∧ Wf (C k))) (w : World) (hp : Hid (PtsO w pa n A B C)) :
    Calls Try.prog 10 #[.slice pa n cp, .int .i64 v] w fun e w' => ∃ p cap, e = .returned (.tuple #[.slice p xs.length cap, .int .i64 c]) ∧ RowI w' w.heap.size p xs ∧ Below w.heap.size w w' := by
  refine (cert_around pa n cp v A B C _ hn hv hwf (Lib.hid rfl) w hp).mono ?_
  rintro e w' ⟨hX, hE⟩
  have hr2 := hr.out
  rw [around_same] at hr2
  rcases hE with ⟨h, rfl⟩ | ⟨out, vv, h, hrow, rfl⟩
  · rw [show ringF v A B C n 0 [] = ringF v A B C (n - 0) 0 [] from rfl, h] at hr2
    injection hr2 with r1 r2
    subst r1 r2
    exact ⟨none, 0, rfl, .inl ⟨rfl, rfl⟩, hX⟩
  · rw [show ringF v A B C n 0 [] = ringF v A B C (n - 0) 0 [] from rfl, h] at hr2
    injection hr2 with r1 r2
    subst r1 r2
    obtain ⟨p, cap, rfl, hI⟩ := rowI_of_own hrow
    exact ⟨p, cap, rfl, hI, hX⟩
theorem row_spot {w : World} {base : Nat} {p : Option Addr} {L : List T3} (h : RowAt w base p L) : ∀ a, p = some a → a = ⟨a.block, 0, none⟩ := by
  intro a e
  rcases h with ⟨_, rfl⟩ | ⟨g, cur, e', _⟩
  · cases e
  · rw [e'] at e; injection e with e; rw [← e]
theorem rowI_spot {w : World} {base : Nat} {p : Option Addr} {L : List Int} (h : RowI w base p L) : ∀ a, p = some a → a = ⟨a.block, 0, none⟩ := by
  intro a e
  rcases h with ⟨_, rfl⟩ | ⟨g, cur, e', _⟩
  · cases e
  · rw [e'] at e; injection e with e; rw [← e]
set_option maxRecDepth 100000 in
set_option maxHeartbeats 16000000 in
theorem law21_lent0 (pl : Option Addr) (n cp tb toff m cp2 : Nat) (X Y Z A B C : Nat → Int) (v : Int) (hv : Hid (Wf v)) (hwf : Hid (∀ k, k < m → Wf (A k) ∧ Wf (B k) ∧ Wf (C k))) (hn : n ≤ 40) (hm : m ≤ 40) (w : World) (hp : Hid (PtsO w pl n X Y Z)) (ht : Hid (PtsAt w tb toff m A B C)) :
    Calls Try.prog 6 #[.slice pl n cp, .slice (some ⟨tb, toff, none⟩) m cp2, .int .i64 v] w fun e w' => e = .returned (.bool true) ∧ Below w.heap.size w w' := by
  have hn' : ¬ (40 : Int) < n := by omega
  have hm' : ¬ (40 : Int) < m := by omega
  obtain ⟨i0, hi0, hiz0, hiz1, hiz2⟩ := info_parts infoTri
  have HI := Lib.hid hi0; have HZ0 := Lib.hid hiz0; have HZ1 := Lib.hid hiz1; have HZ2 := Lib.hid hiz2
  clear hi0 hiz0 hiz1 hiz2
  go_enter Try.func6, Try.ntmps6
  go_wp2_with (first
    | (at_builtin; refine wpList_append_own _ rfl (.tmp 33) (.tmp 34) 23 rfl w.heap.size 45 i0 (.agg #[.int .i64 0, .int .i64 0, .int .i64 0]) 3 24 uTris0 HI.out HZ0.out HZ1.out HZ2.out rfl (by decide) _ 0 [] (by rfl) (World.ownsRow_made _ _ 0 (Nat.le_refl _) (Nat.zero_le _) rfl) ⟨tb, toff, none⟩ m cp2 (cells3 (listT m A B C)) (by rfl) (by rw [cells3_len, listT_len]) (news_listT (ht.out.mono (B := w.heap.size) (by go_grown) ht.out.1)) (cells3_one _) (by unfold maxLen; omega) (by omega) (by simp) ?_; intro v1 x1 ha1 ha2 ha3)
    | (at_builtin; refine wpList_append_own _ rfl (.tmp 35) (.tmp 37) 23 rfl w.heap.size 45 i0 (.agg #[.int .i64 0, .int .i64 0, .int .i64 0]) 3 24 uTris0 HI.out HZ0.out HZ1.out HZ2.out rfl (by decide) _ (0 + m) ([] ++ cells3 (listT m A B C)) (by rfl) (ha1.alloc _) ⟨_, 0, none⟩ 1 1 [.int .i64 77, .int .i64 77, .int .i64 77] (by rfl) (by rfl) (row3_new _ _ _ _ _) (ints3 _ _ _) (by unfold maxLen; omega) (by omega) (by have := ha2.size; simp at this; simp; omega) ?_; intro v2 x2 hb1 hb2 hb3; rcases hb1.2 with ⟨_, h9⟩ | ⟨go, capo, curo, rfl, hg1, hg2, hg3, hg4, hg5, hg6⟩; (· exact absurd h9 (by omega)))
    | fail)
  have hO : RowAt x2 w.heap.size (some ⟨go, 0, none⟩) (listT m A B C ++ [(77, 77, 77)]) := by
    refine .inr ⟨go, curo, rfl, hg1, hg2, ?_⟩
    rw [← cells3_app, List.length_append, listT_len, show cells3 [(77, 77, 77)] = [.int .i64 77, .int .i64 77, .int .i64 77] from rfl]
    simpa using hg6
  have hB0 : Below w.heap.size w x2 := by
    have h1 : Below w.heap.size w x1 := ((Below.refl _ _).alloc (Nat.le_refl _) _).grown ha2 (by simp) (fun k hk => by simp [Value.ownBlock] at hk; omega)
    exact (h1.alloc h1.size _).grown hb2 (by have := h1.size; simp; omega) (fun k hk => (ha1.lt k hk).1)
  have hq : ∀ W' : World, RowAt W' w.heap.size (some ⟨go, 0, none⟩) (listT m A B C ++ [(77, 77, 77)]) → PtsO W' (some ⟨go, 0, none⟩) m A B C := by
    intro W' h
    obtain ⟨g, off, e, h2⟩ := h.pts.at (k := 0) (by simp)
    injection e with e
    injection e with e1 e2
    subst e1 e2
    exact .inr ⟨go, 0, rfl, pts_listT h2 (by simp [listT_len])⟩
  have HQ := Lib.hid hq
  have HO := Lib.hid hO
  have HB0 := Lib.hid hB0
  have gz : go < x2.heap.size := (Array.getElem?_eq_some_iff.1 hg2).1
  have GZ := Lib.hid gz
  have mc : m ≤ capo := by omega
  have mc2 : m + 1 ≤ capo := by omega
  clear ha1 ha2 ha3 hb1 hb2 hb3 hg2 hg3 hg5 hg6 hO hB0 hq gz
  obtain ⟨R, code, hR⟩ : ∃ R code, aptR n m X Y Z A B C v = (R, code) := ⟨_, _, rfl⟩
  have hlen : R.length ≤ m := by have := @aptR_len n m X Y Z A B C v; rw [hR] at this; exact this
  have HR := Lib.hid hR
  obtain ⟨xs, c, hxs⟩ : ∃ xs c, outR (refR (pairsF v A B C m 0 [])) = (xs, c) := ⟨_, _, rfl⟩
  have hlen2 : xs.length ≤ m := by have := @out_len v A B C m; rw [hxs] at this; exact this
  have HXS := Lib.hid hxs
  have HRL := Lib.hid hlen
  have HXL := Lib.hid hlen2
  clear hR hxs hlen hlen2
  refine (cert_apart pl (some ⟨go, 0, none⟩) n cp m capo X Y Z A B C v (by omega) R code HR x2 (hp.out.below HB0.out) (HQ.out _ HO.out)).mono ?_; rintro e W1 ⟨hX, pa, capa, rfl, hRA⟩
  have HA := Lib.hid hRA
  have NA := Lib.hid hRA.blk; have SA := Lib.hid (row_spot hRA)
  replace HO := Lib.hid (HO.out.below hX)
  have HB := Lib.hid (after HB0.out hX)
  have S1 := Lib.hid hX.size
  clear hX hRA HB0
  go_wp2_with fail
  refine (cert_apart pl (some ⟨go, 0, none⟩) n cp m capo X Y Z A B C v (by omega) R code HR W1 (hp.out.below HB.out) (HQ.out _ HO.out)).mono ?_; rintro e W2 ⟨hX, pb, capb, rfl, hRA⟩
  have HBb := Lib.hid hRA
  have NB := Lib.hid hRA.blk
  replace HO := Lib.hid (HO.out.below hX)
  replace HA := Lib.hid (HA.out.below hX)
  replace HB := Lib.hid (after HB.out hX)
  have S2 := Lib.hid hX.size
  clear hX hRA
  go_wp2_with fail
  refine (around_own (some ⟨go, 0, none⟩) m capo v A B C xs c HXS (by omega) hv hwf W2 (HQ.out _ HO.out)).mono ?_; rintro e W3 ⟨pp, capp, rfl, hRI, hX⟩
  have HP := Lib.hid hRI
  have NP := Lib.hid hRI.blk; have SP := Lib.hid (rowI_spot hRI)
  replace HO := Lib.hid (HO.out.below hX)
  replace HA := Lib.hid (HA.out.below hX)
  replace HBb := Lib.hid (HBb.out.below hX)
  replace HB := Lib.hid (after HB.out hX)
  have S3 := Lib.hid hX.size
  clear hX hRI
  go_wp2_with fail
  refine (around_own (some ⟨go, 0, none⟩) m capo v A B C xs c HXS (by omega) hv hwf W3 (HQ.out _ HO.out)).mono ?_; rintro e W4 ⟨pq, capq, rfl, hRI, hX⟩
  have HQQ := Lib.hid hRI
  have NQ := Lib.hid hRI.blk
  replace HO := Lib.hid (HO.out.below hX)
  replace HA := Lib.hid (HA.out.below hX)
  replace HBb := Lib.hid (HBb.out.below hX)
  replace HP := Lib.hid (HP.out.below hX)
  replace HB := Lib.hid (after HB.out hX)
  have S4 := Lib.hid hX.size
  clear hX hRI
  go_wp2_with fail
  go_loopw [16] (fun u wr => ∃ i : Nat, i ≤ R.length ∧ u = .int .i64 i ∧ Hid (Besides (blkOf pa W4.heap.size) W4 wr) ∧ Hid (Below w.heap.size w wr))
    (fun u _ => R.length - (intOf u).toNat)
  case atStart => exact ⟨0, Nat.zero_le _, rfl, Besides.refl _ _, HB⟩
  clear HB
  obtain ⟨i, hi, rfl, HBS, HB⟩ := hrel
  by_cases hlt : i < R.length
  case pos =>
    rcases HA.out with ⟨e, _⟩ | ⟨ga, cur, rfl, hgb, hga, htake⟩
    · rw [e] at hlt; simp at hlt
    obtain ⟨cur', hc', hs'⟩ := HBS.out.cells cur _ hga
    have hsz := cells_of_take htake (cells3_len R)
    obtain ⟨kq, kr⟩ := cellB (b := ga) hc'
    have gl : ga < wr.heap.size := (Array.getElem?_eq_some_iff.1 hc').1
    obtain ⟨u0, c0⟩ : ∃ u, wr.cell? ⟨ga, i * 3, none⟩ = some u := ⟨_, by rw [kq]; exact Array.getElem?_eq_getElem (by omega)⟩
    obtain ⟨u1, c1⟩ : ∃ u, wr.cell? ⟨ga, i * 3 + 1, none⟩ = some u := ⟨_, by rw [kq]; exact Array.getElem?_eq_getElem (by omega)⟩
    obtain ⟨u2, c2⟩ : ∃ u, wr.cell? ⟨ga, i * 3 + 2, none⟩ = some u := ⟨_, by rw [kq]; exact Array.getElem?_eq_getElem (by omega)⟩
    have hRl := HRL.out
    have wg : w.heap.size ≤ ga := by have := (NA.out ga rfl).1; have := GZ.out; omega
    have WG := Lib.hid wg
    clear kq hga htake hc' hs' hsz hgb wg
    go_wp2_with fail
    go_roundw
    case rel => exact ⟨i + 1, by omega, by go_num, ((HBS.out.setCell _ _).setCell _ _).setCell _ _, ((HB.out.setCell WG.out _).setCell WG.out _).setCell WG.out _⟩
    case measure => simp [intOf]; omega
  obtain ⟨W5, rfl⟩ : ∃ S, S = wr := ⟨_, rfl⟩
  have hz5 := HBS.out.size
  have s1 := S1.out; have s2 := S2.out; have s3 := S3.out; have s4 := S4.out; have gz := GZ.out
  have hO5 := HO.out.besides (fun g e => by injection e with e; injection e with e1 e2; exact blk_ne NA.out SA.out ⟨.inl (by omega), by omega⟩) HBS.out
  have hb5 := HBb.out.besides (fun g e => blk_ne NA.out SA.out ⟨.inr (NB.out g e).1, by have := (NB.out g e).2; omega⟩) HBS.out
  have hp5 := HP.out.besides (fun g e => blk_ne NA.out SA.out ⟨.inr (by have := (NP.out g e).1; omega), by have := (NP.out g e).2; omega⟩) HBS.out
  have hq5 := HQQ.out.besides (fun g e => blk_ne NA.out SA.out ⟨.inr (by have := (NQ.out g e).1; omega), by have := (NQ.out g e).2; omega⟩) HBS.out
  replace HO := Lib.hid hO5
  replace HBb := Lib.hid hb5
  replace HP := Lib.hid hp5
  replace HQQ := Lib.hid hq5
  have HZ5 := Lib.hid hz5
  clear hO5 hb5 hp5 hq5 HBS HA NA SA hz5 s1 s2 s3 s4 gz
  go_wp2_with fail
  clear hlt hi
  go_loopw [17] (fun u wr => ∃ i : Nat, i ≤ xs.length ∧ u = .int .i64 i ∧ Hid (Besides (blkOf pp W5.heap.size) W5 wr) ∧ Hid (Below w.heap.size w wr))
    (fun u _ => xs.length - (intOf u).toNat)
  case atStart => exact ⟨0, Nat.zero_le _, rfl, Besides.refl _ _, HB⟩
  clear HB
  obtain ⟨i, hi, rfl, HBS, HB⟩ := hrel
  by_cases hlt : i < xs.length
  case pos =>
    rcases HP.out with ⟨e, _⟩ | ⟨ga, cur, rfl, hgb, hga, htake⟩
    · rw [e] at hlt; simp at hlt
    obtain ⟨cur', hc', hs'⟩ := HBS.out.cells cur _ hga
    have hsz := cells_of_take htake (by simp)
    obtain ⟨kq, kr⟩ := cellB (b := ga) hc'
    have gl : ga < wr.heap.size := (Array.getElem?_eq_some_iff.1 hc').1
    obtain ⟨u0, c0⟩ : ∃ u, wr.cell? ⟨ga, i, none⟩ = some u := ⟨_, by rw [kq]; exact Array.getElem?_eq_getElem (by omega)⟩
    have hRl := HXL.out
    have wg : w.heap.size ≤ ga := by have := (NP.out ga rfl).1; have := GZ.out; have := S1.out; have := S2.out; have := HB.out.size; omega
    have WG := Lib.hid wg
    clear kq hga htake hc' hs' hsz hgb wg
    go_wp2_with fail
    go_roundw
    case rel => exact ⟨i + 1, by omega, by go_num, HBS.out.setCell _ _, HB.out.setCell WG.out _⟩
    case measure => simp [intOf]; omega
  obtain ⟨W6, rfl⟩ : ∃ S, S = wr := ⟨_, rfl⟩
  have hz6 := HBS.out.size
  have s1 := S1.out; have s2 := S2.out; have s3 := S3.out; have s4 := S4.out; have gz := GZ.out; have hz5 := HZ5.out
  have hO5 := HO.out.besides (fun g e => by injection e with e; injection e with e1 e2; exact blk_ne NP.out SP.out ⟨.inl (by omega), by omega⟩) HBS.out
  have hb5 := HBb.out.besides (fun g e => blk_ne NP.out SP.out ⟨.inl (by have := (NB.out g e).2; omega), by have := (NB.out g e).2; omega⟩) HBS.out
  have hq5 := HQQ.out.besides (fun g e => blk_ne NP.out SP.out ⟨.inr (by have := (NQ.out g e).1; omega), by have := (NQ.out g e).2; omega⟩) HBS.out
  replace HO := Lib.hid hO5
  replace HBb := Lib.hid hb5
  replace HQQ := Lib.hid hq5
  clear hO5 hb5 hq5 HBS HP NP SP hz6 hz5 HZ5 NB NQ s1 s2 s3 s4 gz GZ S1 S2 S3 S4
  go_wp2_with fail
  clear hlt hi
  have htO : ∀ W', Below w.heap.size w W' → PtsO W' (some ⟨tb, toff, none⟩) m A B C := fun W' h => .inr ⟨tb, toff, rfl, ht.out.mono h ht.out.1⟩
  have HTO := Lib.hid htO
  clear htO
  refine (ref21_apart pl (some ⟨tb, toff, none⟩) n cp m cp2 X Y Z A B C v (by omega) R code HR W6 (hp.out.below HB.out) (HTO.out _ HB.out)).mono ?_; rintro e W7 ⟨hX, px, capx, rfl, hRX⟩
  have HX := Lib.hid hRX
  replace HO := Lib.hid (HO.out.below hX)
  replace HBb := Lib.hid (HBb.out.below hX)
  replace HQQ := Lib.hid (HQQ.out.below hX)
  replace HB := Lib.hid (after HB.out hX)
  clear hX hRX
  go_wp2_with fail
  refine (ref21_told (some ⟨tb, toff, none⟩) m cp2 v A B C (by omega) W7 (HTO.out _ HB.out)).mono ?_; rintro e W8 ⟨py, capy, xs', c', hr', rfl, hI, _, hX⟩
  rw [HXS.out] at hr'
  injection hr' with r1 r2
  subst r1 r2
  have HY := Lib.hid hI
  replace HO := Lib.hid (HO.out.below hX)
  replace HBb := Lib.hid (HBb.out.below hX)
  replace HQQ := Lib.hid (HQQ.out.below hX)
  replace HX := Lib.hid (HX.out.below hX)
  replace HB := Lib.hid (after HB.out hX)
  clear hX hI
  go_wp2_with fail
  refine (ref6_check pl n cp X Y Z W8 (hp.out.below HB.out)).mono ?_; rintro e W9 ⟨rfl, hX⟩
  replace HO := Lib.hid (HO.out.below hX)
  replace HBb := Lib.hid (HBb.out.below hX)
  replace HQQ := Lib.hid (HQQ.out.below hX)
  replace HX := Lib.hid (HX.out.below hX)
  replace HY := Lib.hid (HY.out.below hX)
  replace HB := Lib.hid (after HB.out hX)
  clear hX
  obtain ⟨k1, hk1⟩ : ∃ k1, k1 = (chk n X Y Z).1 := ⟨_, rfl⟩
  have hcode : k1 = 0 ∨ k1 ≠ 0 ∧ code = k1 := by
    by_cases h : k1 = 0
    · exact .inl h
    · refine .inr ⟨h, ?_⟩
      have := @aptR_code n m X Y Z A B C v (by rw [← hk1]; exact h)
      rw [HR.out] at this
      rw [hk1]; exact this
  rw [← hk1]
  have h77 : ∃ cur : Array Value, True := ⟨#[], trivial⟩
  clear hk1 h77
  obtain ⟨g77, o77, e77, hq77⟩ := HO.out.pts.at (k := m) (by simp [listT_len])
  injection e77 with e77
  injection e77 with e771 e772
  subst e771 e772
  obtain ⟨y0, y1, y2⟩ := hq77.2 m (by simp [listT_len])
  have gW := hq77.1
  unfold fA at y0; unfold fB at y1; unfold fC at y2
  rw [listT_last] at y0 y1 y2
  rw [Nat.zero_add] at y0 y1 y2
  have EQ7 := eq3 77 77 77 77 77 77
  rw [show ((77 : Int) == 77 && ((77 : Int) == 77 && (77 : Int) == 77)) = true from rfl] at EQ7
  clear hq77
  have hfin : Hid (∀ W, Below W9.heap.size W9 W → PtsO W (some ⟨go, 0, none⟩) m A B C) := by
    intro W hX
    exact HQ.out W (HO.out.below hX)
  have hRL := HRL.out; have hXL := HXL.out
  have HL1 := Lib.hid (show R.length < 4611686018427387904 by omega)
  have HL2 := Lib.hid (show xs.length < 4611686018427387904 by omega)
  clear hRL hXL
  have HPO := Lib.hid (hfin.out W9 (Below.refl _ _))
  have HPT := Lib.hid (HTO.out W9 HB.out)
  clear hfin HTO HQ HO hp ht HR HXS HI HZ0 HZ1 HZ2 hv hwf HRL HXL
  rcases hcode with hc0 | ⟨hne, hc0⟩
  · subst hc0
    go_wp2_with fail
    refine (ref5_sameTris (some ⟨go, 0, none⟩) (some ⟨tb, toff, none⟩) m m capo cp2 A B C A B C (by omega) W9 HPO HPT).mono ?_; rintro e U1 ⟨rfl, hX⟩
    rw [same_true]
    replace HBb := Lib.hid (HBb.out.below hX); replace HQQ := Lib.hid (HQQ.out.below hX); replace HX := Lib.hid (HX.out.below hX); replace HY := Lib.hid (HY.out.below hX); replace HB := Lib.hid (after HB.out hX)
    clear hX EQ7 y0 y1 y2 gW HPO HPT
    go_wp2_with fail
    refine (ref5_sameTris pb px R.length R.length capb capx (fA R) (fB R) (fC R) (fA R) (fB R) (fC R) HL1.out U1 (Lib.hid HBb.out.pts) (Lib.hid HX.out.pts)).mono ?_; rintro e U2 ⟨rfl, hX⟩
    rw [same_true]
    replace HQQ := Lib.hid (HQQ.out.below hX); replace HY := Lib.hid (HY.out.below hX); replace HB := Lib.hid (after HB.out hX)
    clear hX HBb HX
    go_wp2_with fail
    refine (ref3_same pq py capq capy xs xs _ _ rfl rfl HL2.out HL2.out U2 (Lib.hid HQQ.out.ints) HY).mono ?_; rintro e U3 ⟨rfl, hX⟩
    rw [show decide (xs = xs) = true by simp]
    replace HB := Lib.hid (after HB.out hX)
    clear hX HQQ HY
    go_wp2_with fail
    refine (ref9_same0 _).mono ?_; rintro e U4 ⟨rfl, hX⟩
    replace HB := Lib.hid (after HB.out hX)
    clear hX
    go_wp2_with fail
    refine (law21_awake _).mono ?_; rintro e U5 ⟨rfl, hX⟩
    replace HB := Lib.hid (after HB.out hX)
    clear hX
    go_wp2_with fail
    go_returns
    exact ⟨by simp, HB.out⟩
  · subst hc0
    have hn1 : (code != 0) = true := by simpa using hne
    have hn2 : (code == 0) = false := by simpa using hne
    clear hne
    go_wp2_with fail
    clear hn1 hn2
    refine (ref5_sameTris (some ⟨go, 0, none⟩) (some ⟨tb, toff, none⟩) m m capo cp2 A B C A B C (by omega) W9 HPO HPT).mono ?_; rintro e U1 ⟨rfl, hX⟩
    rw [same_true]
    replace HBb := Lib.hid (HBb.out.below hX); replace HQQ := Lib.hid (HQQ.out.below hX); replace HX := Lib.hid (HX.out.below hX); replace HY := Lib.hid (HY.out.below hX); replace HB := Lib.hid (after HB.out hX)
    clear hX EQ7 y0 y1 y2 gW HPO HPT
    go_wp2_with fail
    refine (ref5_sameTris pb px R.length R.length capb capx (fA R) (fB R) (fC R) (fA R) (fB R) (fC R) HL1.out U1 (Lib.hid HBb.out.pts) (Lib.hid HX.out.pts)).mono ?_; rintro e U2 ⟨rfl, hX⟩
    rw [same_true]
    replace HQQ := Lib.hid (HQQ.out.below hX); replace HY := Lib.hid (HY.out.below hX); replace HB := Lib.hid (after HB.out hX)
    clear hX HBb HX
    go_wp2_with fail
    refine (ref3_same pq py capq capy xs xs _ _ rfl rfl HL2.out HL2.out U2 (Lib.hid HQQ.out.ints) HY).mono ?_; rintro e U3 ⟨rfl, hX⟩
    rw [show decide (xs = xs) = true by simp]
    replace HB := Lib.hid (after HB.out hX)
    clear hX HQQ HY
    go_wp2_with fail
    refine (ref9_same0 _).mono ?_; rintro e U4 ⟨rfl, hX⟩
    replace HB := Lib.hid (after HB.out hX)
    clear hX
    go_wp2_with fail
    refine (law21_awake _).mono ?_; rintro e U5 ⟨rfl, hX⟩
    replace HB := Lib.hid (after HB.out hX)
    clear hX
    go_wp2_with fail
    go_returns
    exact ⟨by simp, HB.out⟩
end Go.Proofs.Ytdglijdiiggdgaa
