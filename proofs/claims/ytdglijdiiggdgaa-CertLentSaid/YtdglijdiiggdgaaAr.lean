import Derived.Test.YtdglijdiiggdgaaMin
import Derived.Maps.RangeWalk
import Derived.Maps.OwnRows
import Derived.OwnWalk
namespace Go.Proofs.Ytdglijdiiggdgaa
open Go.RowKit Go.Maps

theorem infoInt : (Try.prog.info? 3).map (fun i => (i.zero, i.size, i.bytes)) = some (some (.int .i64 0), 1, 8) := by kernel_rfl
theorem uInts : Try.prog.underlying 31 = some (.slice 3) := by kernel_rfl

def lenV : Value → Nat
  | .slice _ n _ => n
  | _ => 0
def nextOf (L : List (Int × Int)) (a : Int) : Option Int := (L.find? (fun p => p.1 == a)).map Prod.snd
def leastOf (L : List (Int × Int)) : Int := leastTo (L.map Prod.fst) (L.length - 1)
def walkF (L : List (Int × Int)) (m : Int) : Nat → List Int → Int → Option (List Int)
  | 0, _, _ => none
  | f + 1, out, a => if out ≠ [] ∧ a = m then (if out.length < L.length then none else some out) else match nextOf L a with
    | none => none
    | some b => if out.length = L.length then none else walkF L m f (out ++ [a]) b
def arR (r : Option (List (Int × Int))) : Option (List Int) := match r with
  | none => none
  | some L => if L = [] then none else walkF L (leastOf L) (L.length + 2) [] (leastOf L)

theorem mem_getD {zs : List Int} {x : Int} (h : x ∈ zs) : ∃ j, j < zs.length ∧ zs.getD j 0 = x := by
  obtain ⟨j, hj, e⟩ := List.getElem_of_mem h
  exact ⟨j, hj, by simp [List.getD, hj, e]⟩
theorem getD_mem {zs : List Int} {j : Nat} (h : j < zs.length) : zs.getD j 0 ∈ zs := by
  simp [List.getD, h]
theorem least_same {zs ys : List Int} (hz : zs ≠ []) (h : ∀ a, a ∈ zs ↔ a ∈ ys) : leastTo zs (zs.length - 1) = leastTo ys (ys.length - 1) := by
  have l1 : 0 < zs.length := List.length_pos_iff.2 hz
  obtain ⟨x, hx⟩ := List.exists_mem_of_length_pos l1
  have l2 : 0 < ys.length := List.length_pos_of_mem ((h x).1 hx)
  obtain ⟨i, hi, ei⟩ := leastTo_mem zs (zs.length - 1)
  obtain ⟨j, hj, ej⟩ := leastTo_mem ys (ys.length - 1)
  have m1 : leastTo zs (zs.length - 1) ∈ ys := (h _).1 (ei ▸ getD_mem (by omega))
  have m2 : leastTo ys (ys.length - 1) ∈ zs := (h _).2 (ej ▸ getD_mem (by omega))
  obtain ⟨p, hp, ep⟩ := mem_getD m1
  obtain ⟨q, hq, eq⟩ := mem_getD m2
  have a1 := leastTo_le ys (ys.length - 1) p (by omega)
  have a2 := leastTo_le zs (zs.length - 1) q (by omega)
  omega
theorem ownsRow_base {w : World} {base base' : Nat} {e : TypeId} {size n : Nat} {v : Value} {xs : List Value} (h : w.ownsRow base e size v n xs) (hb : base' ≤ base) : w.ownsRow base' e size v n xs := by
  obtain ⟨h1, h2 | ⟨g, cap, cur, h3, h4, h5⟩⟩ := h
  · exact ⟨h1, .inl h2⟩
  · exact ⟨h1, .inr ⟨g, cap, cur, h3, Nat.le_trans hb h4, h5⟩⟩
theorem MapIs.mem {D : DataW Unit} {L : List (Int × Int)} (h : MapIs D L) (a : Int) : Maps.has D (.int .i64 a) = true ↔ a ∈ L.map Prod.fst := by
  rw [h.has]; simp
theorem nextOf_none {D : DataW Unit} {L : List (Int × Int)} (h : MapIs D L) {a : Int} (hn : Maps.has D (.int .i64 a) = false) : nextOf L a = none := by
  have h1 := h.has a
  rw [hn] at h1
  unfold nextOf
  rw [List.find?_eq_none.2]
  · rfl
  · intro p hp
    have := List.any_eq_false.1 h1.symm p hp
    simpa using this
theorem nextOf_some {D : DataW Unit} {L : List (Int × Int)} (h : MapIs D L) {a c : Int} (hn : Maps.has D (.int .i64 a) = true) (hc : D.atKey (.int .i64 a) (.lit (.int .i64 0)) = .lit (.int .i64 c)) : nextOf L a = some c ∧ Wf c := by
  have h1 := h.has a
  rw [hn] at h1
  unfold nextOf
  cases hf : L.find? (fun p => p.1 == a) with
  | none =>
    rw [List.find?_eq_none] at hf
    obtain ⟨p, hp, hq⟩ := List.any_eq_true.1 h1.symm
    exact absurd hq (hf p hp)
  | some p =>
    have hp := List.mem_of_find?_eq_some hf
    have hk := List.find?_some hf
    simp only [beq_iff_eq] at hk
    have h2 := h.at_ p hp
    rw [hk] at h2
    have h3 := hc.symm.trans h2
    unfold i64v at h3
    injection h3 with h3
    injection h3 with _ h3
    subst h3
    exact ⟨rfl, (h.wf p hp).2⟩
section
variable {L : List (Int × Int)} {m a b : Int} {out : List Int} {res : Option (List Int)} {f : Nat}
theorem walk_end (ho : out ≠ []) (ha : a = m) (h : walkF L m (f + 1) out a = res) : res = if out.length < L.length then none else some out := by
  rw [walkF, if_pos ⟨ho, ha⟩] at h; exact h.symm
theorem walk_miss (hc : ¬ (out ≠ [] ∧ a = m)) (hn : nextOf L a = none) (h : walkF L m (f + 1) out a = res) : res = none := by
  rw [walkF, if_neg hc, hn] at h; exact h.symm
theorem walk_full (hc : ¬ (out ≠ [] ∧ a = m)) (hn : nextOf L a = some b) (hl : out.length = L.length) (h : walkF L m (f + 1) out a = res) : res = none := by
  rw [walkF, if_neg hc, hn] at h; simp only [hl, if_true] at h; exact h.symm
theorem walk_on (hc : ¬ (out ≠ [] ∧ a = m)) (hn : nextOf L a = some b) (hl : ¬ out.length = L.length) (h : walkF L m (f + 1) out a = res) : walkF L m f (out ++ [a]) b = res := by
  rw [walkF, if_neg hc, hn] at h; simpa [hl] using h
end

set_option maxRecDepth 100000 in
set_option maxHeartbeats 8000000 in
theorem cert_around (pa : Option Addr) (n cp : Nat) (v : Int) (A B C : Nat → Int) (r : Option (List (Int × Int))) (hn : n < 1048576) (hv : Hid (Wf v)) (hwf : Hid (∀ k, k < n → Wf (A k) ∧ Wf (B k) ∧ Wf (C k))) (hr : Hid (ringF v A B C (n - 0) 0 [] = r))
    (w : World) (hp : Hid (PtsO w pa n A B C)) :
    Calls Try.prog 10 #[.slice pa n cp, .int .i64 v] w fun e w' => Below w.heap.size w w' ∧
      ((arR r = none ∧ e = .returned (.tuple #[.slice none 0 0, .int .i64 170])) ∨ (∃ out vv, arR r = some out ∧ w'.ownsRow w.heap.size 3 1 vv out.length (out.map (Value.int .i64)) ∧ e = .returned (.tuple #[vv, .int .i64 0]))) := by
  obtain ⟨i0, hi, hz0, hz1, hz2⟩ := info_parts infoInt
  have HI := Lib.hid hi; have HZ0 := Lib.hid hz0; have HZ1 := Lib.hid hz1; have HZ2 := Lib.hid hz2
  clear hi hz0 hz1 hz2
  go_enter Try.func10, Try.ntmps10
  go_wp2_with fail
  refine (cert_ring pa n cp v A B C r hn hv hwf hr w hp).mono ?_
  rintro e W ⟨hB, h⟩
  rcases h with ⟨rfl, rfl⟩ | ⟨L, D, rfl, HM, hLn, hown, rfl⟩
  · go_wp2
    go_returns
    exact ⟨hB, .inl ⟨rfl, rfl⟩⟩
  have hM := Lib.hid HM; have hO := Lib.hid hown; have hL := Lib.hid hLn
  have hbl := hown.lt
  clear HM hown hLn
  by_cases hL0 : L = []
  · subst hL0
    go_wp2
    go_returns
    exact ⟨hB, .inl ⟨rfl, rfl⟩⟩
  have hpos : 0 < L.length := List.length_pos_iff.2 hL0
  go_wp2_with (first
    | (at_range; refine wpList_range_own _ rfl _ 60 rfl 3 3 lawInt uMap _ w.heap.size n D rfl hO.out ?_; intro w0 hrg0 hg0 hs0)
    | fail)
  go_frame
  go_loopw [8] (fun u wr => ∃ (left : Lit → Bool) (cnt : Nat) (zs : List Int), Hid (wr.ranges Try.prog 3 (plainElem Try.prog 3) w.heap.size W.heap.size n D left cnt) ∧ Hid (zs.length + cnt ≤ Maps.size D) ∧
      Hid (∀ a, a ∈ zs ↔ (Maps.has D (.int .i64 a) = true ∧ left (.int .i64 a) = false)) ∧ Hid (wr.ownsRow (W.heap.size + 1) 3 1 u zs.length (zs.map (Value.int .i64))) ∧ Hid (Below w.heap.size w wr) ∧ Hid (W.heap.size + 1 ≤ wr.heap.size))
    (fun _ wr => wr.rangeLeft w.heap.size W.heap.size)
  case atStart =>
    exact ⟨_, _, [], hrg0, (by show 0 + _ ≤ _; omega), (by intro a; simp), World.ownsRow_nil _ _ _ _, hB.grown hg0 hB.size (fun j hj => by cases hj), Nat.le_of_eq hs0.symm⟩
  case round =>
    have hWw := hB.size
    clear hrg0 hg0 hs0 hB
    obtain ⟨left, cnt, zs, hrg, hcs, hzs, hrow, hnx, hws⟩ := hrel
    go_wp2_with (first
      | (at_next; refine wpList_next_ranges_ii _ rfl _ rfl 3 3 .i64 .i64 lawInt uInt uInt w.heap.size W.heap.size n _ _ _ rfl hrg.out ?_ ?_)
      | fail)
    · intro hc0 hl0
      have hsame : ∀ a, a ∈ zs ↔ a ∈ L.map Prod.fst := fun a => by
        rw [hzs.out a, ← hM.out.mem a]; simp [hl0]
      have hz0 : zs ≠ [] := by
        intro e
        obtain ⟨p, hp⟩ := List.exists_mem_of_length_pos hpos
        have := (hsame p.1).2 (List.mem_map_of_mem hp)
        rw [e] at this; cases this
      have hlz : 0 < zs.length := List.length_pos_iff.2 hz0
      have hlz2 : zs.length < 1048576 := by have := hcs.out; have := hM.out.size; have := hL.out; omega
      have hm : leastTo zs (zs.length - 1) = leastOf L := by
        have := least_same hz0 hsame
        rw [this, List.length_map]; rfl
      obtain ⟨_, hform⟩ := hrow.out
      rcases hform with ⟨_, hzero⟩ | ⟨g, cap, cur, rfl, hform2⟩
      · omega
      have hcell : Hid (∀ j, j < zs.length → wr.cell? ⟨g, 0 + j, none⟩ = some (.int .i64 (zs.getD j 0))) := fun j hj => by rw [Nat.zero_add, hrow.out.cellAt j (by omega), List.getElem?_map, List.getElem?_eq_getElem hj]; simp [List.getD, hj]
      have hcap := Lib.hid hform2
      have HM2 := Lib.hid hm
      have hmp : Hid (wr.ownsMap Try.prog 3 (plainElem Try.prog 3) w.heap.size n D) := hrg.out.owns
      clear hm hform2 hsame hz0 hl0 hrg hzs hrow hcs hc0
      go_wp2_with fail
      refine (slices_min g 0 zs.length cap zs hlz (by omega) _ hcell).mono ?_; rintro e W1 ⟨rfl, rfl⟩
      rw [HM2.out]
      clear HM2 hcell
      go_wp2_with (first
        | (at_len; refine wpList_len_own _ rfl _ 60 rfl 3 3 uMap _ w.heap.size n D rfl hmp.out ?_; rw [hM.out.size])
        | (at_make; refine wpList_make_own _ rfl _ _ 31 rfl (W.heap.size + 1) 3 i0 (.int .i64 0) 1 uInts HI.out HZ0.out HZ1.out _ _ _ L.length rfl rfl rfl (by rw [HZ2.out]; have := hL.out; omega) (by have := hL.out; unfold maxLen; omega) hws.out ?_; intro w2 hrow2 hgr2)
        | fail)
      first | refine wp_named ?_ | refine calls_named ?_
      intro W2 hW2
      subst hW2
      have hwfm : Wf (leastOf L) := by
        obtain ⟨j, hj, ej⟩ := leastTo_mem (L.map Prod.fst) (L.length - 1)
        have : leastOf L ∈ L.map Prod.fst := by unfold leastOf; rw [ej]; exact getD_mem (by rw [List.length_map]; omega)
        obtain ⟨p, hp, ep⟩ := List.mem_map.1 this
        rw [← ep]; exact (hM.out.wf p hp).1
      have hF0 : walkF L (leastOf L) (L.length + 2 - 0) [] (leastOf L) = arR (some L) := by unfold arR; simp [hL0]
      have HF0 := Lib.hid hF0
      clear hF0
      have HW := Lib.hid hwfm
      clear hwfm
      have hnxg := hnx.out.grown hgr2 hnx.out.size (fun j hj => by cases hj)
      have hmpg := hmp.out.kept hgr2 (by simp)
      have hwsg : W.heap.size + 1 ≤ W2.heap.size := Nat.le_trans hws.out hgr2.size
      generalize hres : arR (some L) = res at *
      have HRES := Lib.hid hres
      clear hres
      go_loopw [11, 12] (fun u i wr => ∃ (out : List Int) (a : Int) (g cap q : Nat), u = .slice (some ⟨g, 0, none⟩) q cap ∧ i = .int .i64 a ∧ Hid (q = out.length) ∧ Hid (walkF L (leastOf L) (L.length + 2 - q) out a = res) ∧ Hid (q ≤ L.length) ∧
          Hid (wr.ownsRow (W.heap.size + 1) 3 1 (.slice (some ⟨g, 0, none⟩) q cap) q (out.map (Value.int .i64))) ∧ Hid (wr.ownsMap Try.prog 3 (plainElem Try.prog 3) w.heap.size n D) ∧ Hid (Below w.heap.size w wr) ∧ Hid (W.heap.size + 1 ≤ wr.heap.size) ∧ Hid (Wf a))
        (fun u _ _ => L.length + 1 - lenV u)
      case atStart => exact ⟨[], leastOf L, _, _, 0, rfl, rfl, rfl, HF0, Nat.zero_le _, hrow2, hmpg, hnxg, hwsg, HW⟩
      case round =>
        clear hnxg hmpg hwsg HF0 HW hgr2 hrow2 hmp hnx hws hcap
        obtain ⟨out, a, g2, cap2, q, rfl, rfl, hq, hF, hqL, hrow, hmp, hnx, hws, hwa⟩ := hrel
        have hqn : q < 1048576 := by have := hqL.out; have := hL.out; omega
        have hlen := fun ty => hmp.out.len uMap ty
        rw [hM.out.size] at hlen
        have hf1 : L.length + 2 - q = (L.length + 1 - q) + 1 := by have := hqL.out; omega
        have hF1 := hF.out
        rw [hf1] at hF1
        have HF1 := Lib.hid hF1
        clear hF1 hf1 hF
        by_cases hend : ¬ q = 0 ∧ a = leastOf L
        · obtain ⟨hq0, rfl⟩ := hend
          have hres2 := walk_end (by intro e; rw [hq.out, e] at hq0; exact hq0 rfl) rfl HF1.out
          have hqe := hq.out
          by_cases hshort : q < L.length
          · rw [if_pos (by omega)] at hres2
            clear hqe
            go_wp2
            go_returns
            exact ⟨hnx.out, .inl ⟨HRES.out.trans hres2, rfl⟩⟩
          · rw [if_neg (by omega)] at hres2
            clear hqe
            go_wp2
            go_returns
            exact ⟨hnx.out, .inr ⟨out, _, HRES.out.trans hres2, (by rw [← hq.out]; exact ownsRow_base hrow.out (Nat.le_trans (Nat.le_of_lt hbl) (Nat.le_succ _))), rfl⟩⟩
        have hc : ¬ (out ≠ [] ∧ a = leastOf L) := fun h => hend ⟨fun e => h.1 (List.eq_nil_of_length_eq_zero (by rw [← hq.out]; exact e)), h.2⟩
        have hcond : Hid (¬ (out ≠ [] ∧ a = leastOf L)) := hc
        clear hc
        have hkey := keyOf_int_mk (P := Try.prog) uInt hwa.out
        have HKEY := Lib.hid hkey
        clear hkey
        have HEND := Lib.hid hend
        clear hend
        by_cases hq0 : q = 0
        · subst hq0
          cases hh : Maps.has D (.int .i64 a) with
          | false =>
            go_wp2_with (first | (at_lookup; refine wpList_lookup_own_ok_int _ rfl _ _ 60 rfl 3 3 .i64 lawInt uMap uInt (zeroInt _) w.heap.size n D rfl hmp.out _ _ rfl HKEY.out ?_; intro cc hat hwc) | fail)
            go_returns
            exact ⟨hnx.out, .inl ⟨HRES.out.trans (walk_miss hcond.out (nextOf_none hM.out hh) HF1.out), rfl⟩⟩
          | true =>
            by_cases hfull : 0 = L.length
            · exact absurd hfull (by omega)
            · go_wp2_with (first | (at_lookup; refine wpList_lookup_own_ok_int _ rfl _ _ 60 rfl 3 3 .i64 lawInt uMap uInt (zeroInt _) w.heap.size n D rfl hmp.out _ _ rfl HKEY.out ?_; intro cc hat hwc) | (at_builtin; refine wpList_append_own _ rfl _ _ 31 rfl (W.heap.size + 1) 3 i0 (.int .i64 0) 1 8 uInts HI.out HZ0.out HZ1.out HZ2.out rfl (by decide) _ _ _ rfl (hrow.out.alloc _) ⟨wr.heap.size, 0, none⟩ 1 1 [.int .i64 a] rfl rfl (cell_one_new _ _ _) (ints_oneCell .i64 [a]) (by unfold maxLen; omega) (by omega) (by have := hws.out; simp; omega) ?_; intro v' w3 hrow3 hgr3 hnil3) | fail)
              obtain ⟨_, h00⟩ := id hrow3
              replace h00 := h00.resolve_left (fun h => by have := h.2; omega)
              obtain ⟨g3, cap3, cur3, rfl, h3⟩ := h00
              have hg2 := (hrow.out.lt g2 rfl).1
              have hqq := hq.out
              have hql := hqL.out
              go_roundw
              case rel =>
                refine ⟨out ++ [a], cc, g3, cap3, 0 + 1, rfl, rfl, ?_, ?_, ?_, ?_, ?_, ?_, ?_, (nextOf_some hM.out hh hat).2⟩
                · show 0 + 1 = (out ++ [a]).length; rw [List.length_append]; show 0 + 1 = out.length + 1; omega
                · show walkF _ _ _ _ _ = _
                  rw [show L.length + 2 - (0 + 1) = L.length + 1 - 0 by omega]
                  exact walk_on hcond.out (nextOf_some hM.out hh hat).1 (by omega) HF1.out
                · show 0 + 1 ≤ _; omega
                · show World.ownsRow _ _ _ _ _ _ _
                  simpa using hrow3
                · exact (hmp.out.alloc _).kept hgr3 (by intro e; have e2 : w.heap.size = g2 := (by injection e); omega)
                · exact (hnx.out.alloc hnx.out.size _).grown hgr3 (by have := hnx.out.size; simp; omega) (fun j hj => by have e2 : g2 = j := (by injection hj); omega)
                · have h1 := hgr3.size; have h2 := hws.out; simp only [World.size_alloc] at h1; show _ ≤ _; omega
              case measure => simp only [lenV]; omega
        · have ha : (a != leastOf L) = true := by simp; exact fun e => HEND.out ⟨hq0, e⟩
          cases hh : Maps.has D (.int .i64 a) with
          | false =>
            go_wp2_with (first | (at_lookup; refine wpList_lookup_own_ok_int _ rfl _ _ 60 rfl 3 3 .i64 lawInt uMap uInt (zeroInt _) w.heap.size n D rfl hmp.out _ _ rfl HKEY.out ?_; intro cc hat hwc) | fail)
            go_returns
            exact ⟨hnx.out, .inl ⟨HRES.out.trans (walk_miss hcond.out (nextOf_none hM.out hh) HF1.out), rfl⟩⟩
          | true =>
            by_cases hfull : q = L.length
            · go_wp2_with (first | (at_lookup; refine wpList_lookup_own_ok_int _ rfl _ _ 60 rfl 3 3 .i64 lawInt uMap uInt (zeroInt _) w.heap.size n D rfl hmp.out _ _ rfl HKEY.out ?_; intro cc hat hwc) | fail)
              go_returns
              exact ⟨hnx.out, .inl ⟨HRES.out.trans (walk_full hcond.out (nextOf_some hM.out hh hat).1 (hq.out.symm.trans hfull) HF1.out), rfl⟩⟩
            · go_wp2_with (first | (at_lookup; refine wpList_lookup_own_ok_int _ rfl _ _ 60 rfl 3 3 .i64 lawInt uMap uInt (zeroInt _) w.heap.size n D rfl hmp.out _ _ rfl HKEY.out ?_; intro cc hat hwc) | (at_builtin; refine wpList_append_own _ rfl _ _ 31 rfl (W.heap.size + 1) 3 i0 (.int .i64 0) 1 8 uInts HI.out HZ0.out HZ1.out HZ2.out rfl (by decide) _ _ _ rfl (hrow.out.alloc _) ⟨wr.heap.size, 0, none⟩ 1 1 [.int .i64 a] rfl rfl (cell_one_new _ _ _) (ints_oneCell .i64 [a]) (by unfold maxLen; omega) (by omega) (by have := hws.out; simp; omega) ?_; intro v' w3 hrow3 hgr3 hnil3) | fail)
              obtain ⟨_, h00⟩ := id hrow3
              replace h00 := h00.resolve_left (fun h => by have := h.2; omega)
              obtain ⟨g3, cap3, cur3, rfl, h3⟩ := h00
              have hg2 := (hrow.out.lt g2 rfl).1
              have hqq := hq.out
              have hql := hqL.out
              go_roundw
              case rel =>
                refine ⟨out ++ [a], cc, g3, cap3, q + 1, rfl, rfl, ?_, ?_, ?_, ?_, ?_, ?_, ?_, (nextOf_some hM.out hh hat).2⟩
                · show q + 1 = (out ++ [a]).length; rw [List.length_append]; show q + 1 = out.length + 1; omega
                · show walkF _ _ _ _ _ = _
                  rw [show L.length + 2 - (q + 1) = L.length + 1 - q by omega]
                  exact walk_on hcond.out (nextOf_some hM.out hh hat).1 (by omega) HF1.out
                · show q + 1 ≤ _; omega
                · show World.ownsRow _ _ _ _ _ _ _
                  simpa using hrow3
                · exact (hmp.out.alloc _).kept hgr3 (by intro e; have e2 : w.heap.size = g2 := (by injection e); omega)
                · exact (hnx.out.alloc hnx.out.size _).grown hgr3 (by have := hnx.out.size; simp; omega) (fun j hj => by have e2 : g2 = j := (by injection hj); omega)
                · have h1 := hgr3.size; have h2 := hws.out; simp only [World.size_alloc] at h1; show _ ≤ _; omega
              case measure => simp only [lenV]; omega
    · intro x c w1 cnt1 hwx hwc hlx hat hrg1 hlt hg1 hs1 hen
      have hob : ∀ k, Value.ownBlock u8 = some k → W.heap.size + 1 ≤ k := fun k h => (hrow.out.lt k h).1
      have hne1 : Value.ownBlock u8 = none ∨ Value.ownBlock u8 ≠ some W.heap.size := by
        cases h : Value.ownBlock u8 with
        | none => exact .inl rfl
        | some k => exact .inr (fun e => by have := hob k h; injection e with e; omega)
      have hrow1 := Lib.hid (hrow.out.kept hg1 hne1)
      have hmne : ∀ q, q ≤ W.heap.size → some q ≠ Value.ownBlock u8 := fun q hq e => by have := hob q e.symm; omega
      have hlz : zs.length < 1048576 := by have := hcs.out; have := hM.out.size; have := hL.out; omega
      have hs1' : W.heap.size + 1 ≤ w1.heap.size := Nat.le_trans hws.out (Nat.le_of_eq hs1.symm)
      have HMN := Lib.hid hmne; have HOB := Lib.hid hob; have HG1 := Lib.hid hg1; have HR1 := Lib.hid hrg1; have HAT := Lib.hid hat
      clear hne1 hob hs1 hmne hg1 hrg1 hat
      go_wp2_with (first
        | (at_builtin; refine wpList_append_own _ rfl _ _ 31 rfl (W.heap.size + 1) 3 i0 (.int .i64 0) 1 8 uInts HI.out HZ0.out HZ1.out HZ2.out rfl (by decide) _ _ _ rfl (hrow1.out.alloc _) ⟨w1.heap.size, 0, none⟩ 1 1 [.int .i64 x] rfl rfl (cell_one_new _ _ _) (ints_oneCell .i64 [x]) (by unfold maxLen; omega) (by omega) (by simp; omega) ?_; intro v' w2 hrow2 hgr2 hnil2; go_frame)
        | fail)
      go_roundw
      case rel =>
        refine ⟨_, cnt1, zs ++ [x], (HR1.out.alloc _).kept hgr2 (HMN.out _ hWw) (HMN.out _ (Nat.le_refl _)), ?_, ?_, ?_, ?_, ?_⟩
        · have := hcs.out; show (zs ++ [x]).length + cnt1 ≤ _; simp; omega
        · have hhx : Maps.has D (.int .i64 x) = true := has_true_of_atKey HAT.out
          intro a
          rw [List.mem_append, hzs.out a, List.mem_singleton]
          by_cases hax : a = x
          · subst hax; simp [hhx, Lit.sameKey]
          · simp [hax, Lit.sameKey]
        · show World.ownsRow _ _ _ _ _ _ _
          simpa using hrow2
        · exact ((hnx.out.grown HG1.out hnx.out.size (fun j hj => by cases hj; exact hWw)).alloc (by omega) _).grown hgr2 (by simp; omega) (fun j hj => by have := HOB.out j hj; omega)
        · have := hgr2.size; simp at this; show _ ≤ _; omega
      case measure =>
        have := ((HR1.out.alloc _).kept hgr2 (HMN.out _ hWw) (HMN.out _ (Nat.le_refl _))).left_eq
        rw [this, hrg.out.left_eq]; exact hlt
end Go.Proofs.Ytdglijdiiggdgaa
