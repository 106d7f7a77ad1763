import Derived.Test.YtdglijdiiggdgaaChg
namespace Go.Proofs.Ytdglijdiiggdgaa
open Go.RowKit Go.Maps Geo
theorem infoRw : (Try.prog.info? 92).map (fun i => (i.zero, i.size, i.bytes)) = some (some (.agg #[.int .i64 0, .int .i64 0, .int .i64 0, .int .i64 0]), 4, 32) := by kernel_rfl
theorem uRws : Try.prog.underlying 94 = some (.slice 92) := by kernel_rfl
theorem row4_new (w : World) (a b c d : Value) (T : TypeId) : ∀ j u, [a, b, c, d][j]? = some u → (w.alloc (.cells #[a, b, c, d] T (0, 0))).cell? ((⟨w.heap.size, 0, none⟩ : Addr).add j) = some u := by
  intro j u h
  obtain ⟨kq, kr⟩ := cellB (w := w.alloc (.cells #[a, b, c, d] T (0, 0))) (b := w.heap.size) (heap_at rfl)
  rw [show (⟨w.heap.size, 0, none⟩ : Addr).add j = ⟨w.heap.size, j, none⟩ by unfold Addr.add; split <;> simp_all, kq]
  simpa using h
theorem ints4 (a b c d : Int) : ∀ u ∈ [Value.int .i64 a, .int .i64 b, .int .i64 c, .int .i64 d], u.oneCell' = true := by
  intro u hu
  simp only [List.mem_cons, List.not_mem_nil, or_false] at hu
  rcases hu with rfl | rfl | rfl | rfl <;> rfl
theorem rv_co {x y z : Int} (hx : Co x ∧ Co y ∧ Co z) (c i : Nat) : Co (rv x y z c i) := by
  unfold Co at hx ⊢
  unfold rv
  (repeat' split) <;> omega
set_option maxRecDepth 100000 in
set_option maxHeartbeats 16000000 in
theorem ref2_four (X Y Z : Nat → Int) (m ob c0 : Nat) (hco : Hid (∀ s, s < 4 → Co (X s) ∧ Co (Y s) ∧ Co (Z s))) (w : World) (hl : Hid (w.heap[ob]? = some (.cells (rowsA X Y Z m 12 4) 92 (0, 0)))) :
    Calls Try.prog 56 #[.slice (some ⟨ob, 0, none⟩) 4 c0] w fun e w' => e = .returned (w2 (parS X Y Z m 4)) ∧ Below w.heap.size w w' := by
  have kl : w.heap[ob]? = some (.cells #[Value.int .i64 (rv (X 0) (Y 0) (Z 0) (cR m 12 0) 0), Value.int .i64 (rv (X 0) (Y 0) (Z 0) (cR m 12 0) 1), Value.int .i64 (rv (X 0) (Y 0) (Z 0) (cR m 12 0) 2), Value.int .i64 (rv (X 0) (Y 0) (Z 0) (cR m 12 0) 3), Value.int .i64 (rv (X 1) (Y 1) (Z 1) (cR m 12 1) 0), Value.int .i64 (rv (X 1) (Y 1) (Z 1) (cR m 12 1) 1), Value.int .i64 (rv (X 1) (Y 1) (Z 1) (cR m 12 1) 2), Value.int .i64 (rv (X 1) (Y 1) (Z 1) (cR m 12 1) 3), Value.int .i64 (rv (X 2) (Y 2) (Z 2) (cR m 12 2) 0), Value.int .i64 (rv (X 2) (Y 2) (Z 2) (cR m 12 2) 1), Value.int .i64 (rv (X 2) (Y 2) (Z 2) (cR m 12 2) 2), Value.int .i64 (rv (X 2) (Y 2) (Z 2) (cR m 12 2) 3), Value.int .i64 (rv (X 3) (Y 3) (Z 3) (cR m 12 3) 0), Value.int .i64 (rv (X 3) (Y 3) (Z 3) (cR m 12 3) 1), Value.int .i64 (rv (X 3) (Y 3) (Z 3) (cR m 12 3) 2), Value.int .i64 (rv (X 3) (Y 3) (Z 3) (cR m 12 3) 3)] 92 (0, 0)) := hl.out
  have hob : ob < w.heap.size := (Array.getElem?_eq_some_iff.1 kl).1
  have KL0 := Lib.hid kl
  unfold w2
  clear kl
  go_enter Try.func56, Try.ntmps56
  go_wp2_with fail
  first | refine wp_named ?_ | refine calls_named ?_
  intro W hW
  have k3 : W.heap[w.heap.size + 1]? = some (.cells #[.int .u64 (uh (parS X Y Z m 0)), .int .u64 (lo (parS X Y Z m 0))] 100 (0, 0)) := by rw [hW]; exact heap_at (by simp)
  have k2 : W.heap[w.heap.size]? = some (.cells #[.int .u64 0, .int .u64 0] 100 (0, 0)) := by rw [hW]; exact (heap_old (by simp)).trans (heap_at rfl)
  have hB : Below w.heap.size w W := by rw [hW]; go_grown
  have hz : w.heap.size + 1 < W.heap.size := by rw [hW]; simp
  clear hW
  obtain ⟨i0, hi0, hiz0, hiz1, hiz2⟩ := info_parts infoRw
  have HI := Lib.hid hi0; have HZ0 := Lib.hid hiz0; have HZ1 := Lib.hid hiz1; have HZ2 := Lib.hid hiz2
  clear hi0 hiz0 hiz1 hiz2
  go_loopw [4] (fun u wx => ∃ r : Nat, r ≤ 4 ∧ u = .int .i64 r ∧ Hid (wx.heap[w.heap.size + 1]? = some (.cells #[.int .u64 (uh (parS X Y Z m r)), .int .u64 (lo (parS X Y Z m r))] 100 (0, 0))) ∧ Hid (wx.heap[w.heap.size]? = some (.cells #[.int .u64 0, .int .u64 0] 100 (0, 0))) ∧ Hid (Below w.heap.size w wx) ∧ Hid (w.heap.size + 1 < wx.heap.size))
    (fun u _ => 4 - (intOf u).toNat)
  case atStart => exact ⟨0, by decide, rfl, k3, k2, hB, hz⟩
  clear k3 k2 hB hz
  obtain ⟨r, hr, rfl, H3, H2, HB, HZ⟩ := hrel
  have hr4 : r = 4 ∨ r = 0 ∨ r = 1 ∨ r = 2 ∨ r = 3 := by omega
  clear hr
  rcases hr4 with rfl | rfl | rfl | rfl | rfl
  · have k3 := H3.out; have k2 := H2.out
    obtain ⟨kq, kr⟩ := cellB k3
    obtain ⟨mq, mr⟩ := cellB k2
    have hz := HZ.out; have hB := HB.out
    clear k3 k2 H3 H2 HZ HB
    go_wp2_with fail
    refine bodyPost_ret (v := .agg #[.int .u64 (uh (parS X Y Z m 4)), .int .u64 (lo (parS X Y Z m 4))]) (by simp [results, Try.results56, go_sem, mq]) rfl ⟨rfl, by go_grown⟩
  · have k1 := (HB.out.block _ hob).trans KL0.out
    have hz := HZ.out
    by_cases hc : cR m 12 0 = 0
    case neg =>
      have q : parS X Y Z m (0 + 1) = parS X Y Z m 0 := by show parS X Y Z m 0 + (if cR m 12 0 = 0 then _ else 0) = _; rw [if_neg hc]; omega
      have Q := Lib.hid q
      replace k1 : wr.heap[ob]? = some (.cells #[Value.int .i64 (rv (X 0) (Y 0) (Z 0) (cR m 12 0) 0), Value.int .i64 (rv (X 0) (Y 0) (Z 0) (cR m 12 0) 1), Value.int .i64 (rv (X 0) (Y 0) (Z 0) (cR m 12 0) 2), Value.int .i64 0, Value.int .i64 (rv (X 1) (Y 1) (Z 1) (cR m 12 1) 0), Value.int .i64 (rv (X 1) (Y 1) (Z 1) (cR m 12 1) 1), Value.int .i64 (rv (X 1) (Y 1) (Z 1) (cR m 12 1) 2), Value.int .i64 (rv (X 1) (Y 1) (Z 1) (cR m 12 1) 3), Value.int .i64 (rv (X 2) (Y 2) (Z 2) (cR m 12 2) 0), Value.int .i64 (rv (X 2) (Y 2) (Z 2) (cR m 12 2) 1), Value.int .i64 (rv (X 2) (Y 2) (Z 2) (cR m 12 2) 2), Value.int .i64 (rv (X 2) (Y 2) (Z 2) (cR m 12 2) 3), Value.int .i64 (rv (X 3) (Y 3) (Z 3) (cR m 12 3) 0), Value.int .i64 (rv (X 3) (Y 3) (Z 3) (cR m 12 3) 1), Value.int .i64 (rv (X 3) (Y 3) (Z 3) (cR m 12 3) 2), Value.int .i64 (rv (X 3) (Y 3) (Z 3) (cR m 12 3) 3)] 92 (0, 0)) := by rw [rv3n (x := X 0) (y := Y 0) (z := Z 0) hc] at k1; exact k1
      obtain ⟨kq, kr⟩ := cellB k1
      clear k1 q hc hco
      go_wp2_with fail
      go_roundw
      case rel => exact ⟨0 + 1, by decide, by go_num, (by rw [Q.out]; exact H3.out), H2, HB, hz⟩
      case measure => simp [intOf]
    replace k1 : wr.heap[ob]? = some (.cells #[Value.int .i64 (rv (X 0) (Y 0) (Z 0) (cR m 12 0) 0), Value.int .i64 (rv (X 0) (Y 0) (Z 0) (cR m 12 0) 1), Value.int .i64 (rv (X 0) (Y 0) (Z 0) (cR m 12 0) 2), Value.int .i64 1, Value.int .i64 (rv (X 1) (Y 1) (Z 1) (cR m 12 1) 0), Value.int .i64 (rv (X 1) (Y 1) (Z 1) (cR m 12 1) 1), Value.int .i64 (rv (X 1) (Y 1) (Z 1) (cR m 12 1) 2), Value.int .i64 (rv (X 1) (Y 1) (Z 1) (cR m 12 1) 3), Value.int .i64 (rv (X 2) (Y 2) (Z 2) (cR m 12 2) 0), Value.int .i64 (rv (X 2) (Y 2) (Z 2) (cR m 12 2) 1), Value.int .i64 (rv (X 2) (Y 2) (Z 2) (cR m 12 2) 2), Value.int .i64 (rv (X 2) (Y 2) (Z 2) (cR m 12 2) 3), Value.int .i64 (rv (X 3) (Y 3) (Z 3) (cR m 12 3) 0), Value.int .i64 (rv (X 3) (Y 3) (Z 3) (cR m 12 3) 1), Value.int .i64 (rv (X 3) (Y 3) (Z 3) (cR m 12 3) 2), Value.int .i64 (rv (X 3) (Y 3) (Z 3) (cR m 12 3) 3)] 92 (0, 0)) := by rw [rv3 (x := X 0) (y := Y 0) (z := Z 0) hc] at k1; exact k1
    have KL := Lib.hid k1
    have q : parS X Y Z m (0 + 1) = parS X Y Z m 0 + -(det3 (rv (X 1) (Y 1) (Z 1) (cR m 12 1) 0) (rv (X 1) (Y 1) (Z 1) (cR m 12 1) 1) (rv (X 1) (Y 1) (Z 1) (cR m 12 1) 2) (rv (X 2) (Y 2) (Z 2) (cR m 12 2) 0) (rv (X 2) (Y 2) (Z 2) (cR m 12 2) 1) (rv (X 2) (Y 2) (Z 2) (cR m 12 2) 2) (rv (X 3) (Y 3) (Z 3) (cR m 12 3) 0) (rv (X 3) (Y 3) (Z 3) (cR m 12 3) 1) (rv (X 3) (Y 3) (Z 3) (cR m 12 3) 2)) := by show parS X Y Z m 0 + (if cR m 12 0 = 0 then _ else 0) = _; rw [if_pos hc]; rfl
    have Q := Lib.hid q
    have ht3 := ref2_three (rv (X 1) (Y 1) (Z 1) (cR m 12 1) 0) (rv (X 1) (Y 1) (Z 1) (cR m 12 1) 1) (rv (X 1) (Y 1) (Z 1) (cR m 12 1) 2) (rv (X 1) (Y 1) (Z 1) (cR m 12 1) 3) (rv (X 2) (Y 2) (Z 2) (cR m 12 2) 0) (rv (X 2) (Y 2) (Z 2) (cR m 12 2) 1) (rv (X 2) (Y 2) (Z 2) (cR m 12 2) 2) (rv (X 2) (Y 2) (Z 2) (cR m 12 2) 3) (rv (X 3) (Y 3) (Z 3) (cR m 12 3) 0) (rv (X 3) (Y 3) (Z 3) (cR m 12 3) 1) (rv (X 3) (Y 3) (Z 3) (cR m 12 3) 2) (rv (X 3) (Y 3) (Z 3) (cR m 12 3) 3) ⟨rv_co (hco.out 1 (by decide)) _ _, rv_co (hco.out 1 (by decide)) _ _, rv_co (hco.out 1 (by decide)) _ _⟩ ⟨rv_co (hco.out 2 (by decide)) _ _, rv_co (hco.out 2 (by decide)) _ _, rv_co (hco.out 2 (by decide)) _ _⟩ ⟨rv_co (hco.out 3 (by decide)) _ _, rv_co (hco.out 3 (by decide)) _ _, rv_co (hco.out 3 (by decide)) _ _⟩
    unfold w2 at ht3
    have HT3 := Lib.hid ht3
    obtain ⟨kq, kr⟩ := cellB k1
    obtain ⟨S5, rfl⟩ : ∃ S, S = wr := ⟨_, rfl⟩
    have zb : ob < S5.heap.size := Nat.lt_of_lt_of_le hob HB.out.size
    clear q hc k1 ht3
    go_wp2_with fail
    refine wp_loop_rounds 5 ?_
    rw [rounds_succ]
    go_wp2_with fail
    rw [rounds_succ]
    go_wp2_with (first | (at_builtin; refine wpList_append_own _ rfl (.tmp 25) (.tmp 30) 94 rfl S5.heap.size 92 i0 (.agg #[.int .i64 0, .int .i64 0, .int .i64 0, .int .i64 0]) 4 32 uRws HI.out HZ0.out HZ1.out HZ2.out rfl (by decide) _ 0 [] (by rfl) (World.ownsRow_nil _ _ _ _) ⟨_, 0, none⟩ 1 1 [Value.int .i64 (rv (X 1) (Y 1) (Z 1) (cR m 12 1) 0), Value.int .i64 (rv (X 1) (Y 1) (Z 1) (cR m 12 1) 1), Value.int .i64 (rv (X 1) (Y 1) (Z 1) (cR m 12 1) 2), Value.int .i64 (rv (X 1) (Y 1) (Z 1) (cR m 12 1) 3)] (by rfl) (by rfl) (row4_new _ _ _ _ _ _) (ints4 _ _ _ _) (by decide) (by decide) (by simp) ?_; intro v1 xw1 hq1 hq2 hq3) | fail)
    have hb1 : Hid (Below S5.heap.size S5 xw1) := ((Below.refl _ _).alloc (Nat.le_refl _) _).grown hq2 (by simp) (fun k hk => by cases hk)
    have R1 : Hid (xw1.ownsRow S5.heap.size 92 4 v1 1 [Value.int .i64 (rv (X 1) (Y 1) (Z 1) (cR m 12 1) 0), Value.int .i64 (rv (X 1) (Y 1) (Z 1) (cR m 12 1) 1), Value.int .i64 (rv (X 1) (Y 1) (Z 1) (cR m 12 1) 2), Value.int .i64 (rv (X 1) (Y 1) (Z 1) (cR m 12 1) 3)]) := hq1
    clear hq1 hq2 hq3 kq kr
    obtain ⟨kq, kr⟩ := cellB ((hb1.out.block _ zb).trans KL.out)
    have hs1 := hb1.out.size
    rw [rounds_succ]
    go_wp2_with (first | (at_builtin; refine wpList_append_own _ rfl (.tmp 25) (.tmp 30) 94 rfl S5.heap.size 92 i0 (.agg #[.int .i64 0, .int .i64 0, .int .i64 0, .int .i64 0]) 4 32 uRws HI.out HZ0.out HZ1.out HZ2.out rfl (by decide) _ 1 [Value.int .i64 (rv (X 1) (Y 1) (Z 1) (cR m 12 1) 0), Value.int .i64 (rv (X 1) (Y 1) (Z 1) (cR m 12 1) 1), Value.int .i64 (rv (X 1) (Y 1) (Z 1) (cR m 12 1) 2), Value.int .i64 (rv (X 1) (Y 1) (Z 1) (cR m 12 1) 3)] (by rfl) (R1.out.alloc _) ⟨_, 0, none⟩ 1 1 [Value.int .i64 (rv (X 2) (Y 2) (Z 2) (cR m 12 2) 0), Value.int .i64 (rv (X 2) (Y 2) (Z 2) (cR m 12 2) 1), Value.int .i64 (rv (X 2) (Y 2) (Z 2) (cR m 12 2) 2), Value.int .i64 (rv (X 2) (Y 2) (Z 2) (cR m 12 2) 3)] (by rfl) (by rfl) (row4_new _ _ _ _ _ _) (ints4 _ _ _ _) (by decide) (by decide) (by have := hb1.out.size; simp; omega) ?_; intro v2 xw2 hq1 hq2 hq3) | fail)
    have hb2 : Hid (Below S5.heap.size S5 xw2) := (hb1.out.alloc hb1.out.size _).grown hq2 (by have := hb1.out.size; simp; omega) (fun k hk => (R1.out.lt k hk).1)
    have R2 : Hid (xw2.ownsRow S5.heap.size 92 4 v2 2 [Value.int .i64 (rv (X 1) (Y 1) (Z 1) (cR m 12 1) 0), Value.int .i64 (rv (X 1) (Y 1) (Z 1) (cR m 12 1) 1), Value.int .i64 (rv (X 1) (Y 1) (Z 1) (cR m 12 1) 2), Value.int .i64 (rv (X 1) (Y 1) (Z 1) (cR m 12 1) 3), Value.int .i64 (rv (X 2) (Y 2) (Z 2) (cR m 12 2) 0), Value.int .i64 (rv (X 2) (Y 2) (Z 2) (cR m 12 2) 1), Value.int .i64 (rv (X 2) (Y 2) (Z 2) (cR m 12 2) 2), Value.int .i64 (rv (X 2) (Y 2) (Z 2) (cR m 12 2) 3)]) := hq1
    clear hb1 R1
    clear hq1 hq2 hq3 kq kr
    obtain ⟨kq, kr⟩ := cellB ((hb2.out.block _ zb).trans KL.out)
    have hs2 := hb2.out.size
    rw [rounds_succ]
    go_wp2_with (first | (at_builtin; refine wpList_append_own _ rfl (.tmp 25) (.tmp 30) 94 rfl S5.heap.size 92 i0 (.agg #[.int .i64 0, .int .i64 0, .int .i64 0, .int .i64 0]) 4 32 uRws HI.out HZ0.out HZ1.out HZ2.out rfl (by decide) _ 2 [Value.int .i64 (rv (X 1) (Y 1) (Z 1) (cR m 12 1) 0), Value.int .i64 (rv (X 1) (Y 1) (Z 1) (cR m 12 1) 1), Value.int .i64 (rv (X 1) (Y 1) (Z 1) (cR m 12 1) 2), Value.int .i64 (rv (X 1) (Y 1) (Z 1) (cR m 12 1) 3), Value.int .i64 (rv (X 2) (Y 2) (Z 2) (cR m 12 2) 0), Value.int .i64 (rv (X 2) (Y 2) (Z 2) (cR m 12 2) 1), Value.int .i64 (rv (X 2) (Y 2) (Z 2) (cR m 12 2) 2), Value.int .i64 (rv (X 2) (Y 2) (Z 2) (cR m 12 2) 3)] (by rfl) (R2.out.alloc _) ⟨_, 0, none⟩ 1 1 [Value.int .i64 (rv (X 3) (Y 3) (Z 3) (cR m 12 3) 0), Value.int .i64 (rv (X 3) (Y 3) (Z 3) (cR m 12 3) 1), Value.int .i64 (rv (X 3) (Y 3) (Z 3) (cR m 12 3) 2), Value.int .i64 (rv (X 3) (Y 3) (Z 3) (cR m 12 3) 3)] (by rfl) (by rfl) (row4_new _ _ _ _ _ _) (ints4 _ _ _ _) (by decide) (by decide) (by have := hb2.out.size; simp; omega) ?_; intro v3 xw3 hq1 hq2 hq3) | fail)
    have hb3 : Hid (Below S5.heap.size S5 xw3) := (hb2.out.alloc hb2.out.size _).grown hq2 (by have := hb2.out.size; simp; omega) (fun k hk => (R2.out.lt k hk).1)
    have R3 : Hid (xw3.ownsRow S5.heap.size 92 4 v3 3 [Value.int .i64 (rv (X 1) (Y 1) (Z 1) (cR m 12 1) 0), Value.int .i64 (rv (X 1) (Y 1) (Z 1) (cR m 12 1) 1), Value.int .i64 (rv (X 1) (Y 1) (Z 1) (cR m 12 1) 2), Value.int .i64 (rv (X 1) (Y 1) (Z 1) (cR m 12 1) 3), Value.int .i64 (rv (X 2) (Y 2) (Z 2) (cR m 12 2) 0), Value.int .i64 (rv (X 2) (Y 2) (Z 2) (cR m 12 2) 1), Value.int .i64 (rv (X 2) (Y 2) (Z 2) (cR m 12 2) 2), Value.int .i64 (rv (X 2) (Y 2) (Z 2) (cR m 12 2) 3), Value.int .i64 (rv (X 3) (Y 3) (Z 3) (cR m 12 3) 0), Value.int .i64 (rv (X 3) (Y 3) (Z 3) (cR m 12 3) 1), Value.int .i64 (rv (X 3) (Y 3) (Z 3) (cR m 12 3) 2), Value.int .i64 (rv (X 3) (Y 3) (Z 3) (cR m 12 3) 3)]) := hq1
    clear hb2 R2
    clear hq1 hq2 hq3 kq kr
    obtain ⟨kq, kr⟩ := cellB ((hb3.out.block _ zb).trans KL.out)
    have hs3 := hb3.out.size
    rw [rounds_succ]
    go_wp2_with fail
    rcases R3.out.2 with ⟨_, h9⟩ | ⟨gg, cap, cur, rfl, hg1, hg2, hg3, hg4, hg5, hg6⟩
    · exact absurd h9 (by decide)
    have hgl : gg < xw3.heap.size := (Array.getElem?_eq_some_iff.1 hg2).1
    have c0 : xw3.cell? ⟨gg, 0, none⟩ = some (Value.int .i64 (rv (X 1) (Y 1) (Z 1) (cR m 12 1) 0)) := (R3.out.cellAt 0 (by decide)).trans rfl
    have c1 : xw3.cell? ⟨gg, 1, none⟩ = some (Value.int .i64 (rv (X 1) (Y 1) (Z 1) (cR m 12 1) 1)) := (R3.out.cellAt 1 (by decide)).trans rfl
    have c2 : xw3.cell? ⟨gg, 2, none⟩ = some (Value.int .i64 (rv (X 1) (Y 1) (Z 1) (cR m 12 1) 2)) := (R3.out.cellAt 2 (by decide)).trans rfl
    have c3 : xw3.cell? ⟨gg, 3, none⟩ = some (Value.int .i64 (rv (X 1) (Y 1) (Z 1) (cR m 12 1) 3)) := (R3.out.cellAt 3 (by decide)).trans rfl
    have c4 : xw3.cell? ⟨gg, 4, none⟩ = some (Value.int .i64 (rv (X 2) (Y 2) (Z 2) (cR m 12 2) 0)) := (R3.out.cellAt 4 (by decide)).trans rfl
    have c5 : xw3.cell? ⟨gg, 5, none⟩ = some (Value.int .i64 (rv (X 2) (Y 2) (Z 2) (cR m 12 2) 1)) := (R3.out.cellAt 5 (by decide)).trans rfl
    have c6 : xw3.cell? ⟨gg, 6, none⟩ = some (Value.int .i64 (rv (X 2) (Y 2) (Z 2) (cR m 12 2) 2)) := (R3.out.cellAt 6 (by decide)).trans rfl
    have c7 : xw3.cell? ⟨gg, 7, none⟩ = some (Value.int .i64 (rv (X 2) (Y 2) (Z 2) (cR m 12 2) 3)) := (R3.out.cellAt 7 (by decide)).trans rfl
    have c8 : xw3.cell? ⟨gg, 8, none⟩ = some (Value.int .i64 (rv (X 3) (Y 3) (Z 3) (cR m 12 3) 0)) := (R3.out.cellAt 8 (by decide)).trans rfl
    have c9 : xw3.cell? ⟨gg, 9, none⟩ = some (Value.int .i64 (rv (X 3) (Y 3) (Z 3) (cR m 12 3) 1)) := (R3.out.cellAt 9 (by decide)).trans rfl
    have c10 : xw3.cell? ⟨gg, 10, none⟩ = some (Value.int .i64 (rv (X 3) (Y 3) (Z 3) (cR m 12 3) 2)) := (R3.out.cellAt 10 (by decide)).trans rfl
    have c11 : xw3.cell? ⟨gg, 11, none⟩ = some (Value.int .i64 (rv (X 3) (Y 3) (Z 3) (cR m 12 3) 3)) := (R3.out.cellAt 11 (by decide)).trans rfl
    clear hg2 hg3 hg4 hg5 hg6 kq kr
    refine wp_calm1 10 (.cells #[.int .u64 0, .int .u64 0] 100) (some 7) (by kernel_rfl) (by kernel_rfl) rfl (fun o ho a w => by cases ho; go_simp) ?_
    intro C hC
    repeat (refine wpCalm_step (fun K hK => ?_); go_simp; first | (refine hK _ ?_; clear hK K) | (apply Exists.intro; refine ⟨fun wc hw => ?_, hK _ ?_⟩; (obtain ⟨hc, hf⟩ := bcell (hC wc hw); go_simp; first | with_reducible exact HT3.out wc | exact rfl); clear hK K))
    refine wpCalm_nil ?_
    clear hC C c0 c1 c2 c3 c4 c5 c6 c7 c8 c9 c10 c11
    intro V b hX hb hblk
    simp only [List.drop_succ_cons, List.drop_zero]
    have hX5 : Below S5.heap.size S5 V := after' hb3.out hX hs3
    have n3 : w.heap.size + 1 ≠ b := by omega
    have n2 : w.heap.size ≠ b := by omega
    have kb := hblk
    have y1 : b < V.heap.size := (Array.getElem?_eq_some_iff.1 hblk).1
    have ks : V.heap[w.heap.size + 1]? = some (.cells #[.int .u64 (uh (parS X Y Z m 0)), .int .u64 (lo (parS X Y Z m 0))] 100 (0, 0)) := (hX5.block _ hz).trans H3.out
    have k2 : V.heap[w.heap.size]? = some (.cells #[.int .u64 0, .int .u64 0] 100 (0, 0)) := (hX5.block _ (by omega)).trans H2.out
    have y2 : w.heap.size + 1 < V.heap.size := Nat.lt_of_lt_of_le hz hX5.size
    have hBV : Hid (Below w.heap.size w V) := after HB.out hX5
    have wb : w.heap.size ≤ b := by omega
    clear hblk hX hX5 hb hgl hg1 R3 hb3 HT3 H3 H2 HB KL hz zb hs1 hs2 hs3
    obtain ⟨lq, lr⟩ := cellB kb
    obtain ⟨mq, mr⟩ := cellB ks
    have KB := Lib.hid kb; have KS := Lib.hid ks; have K2 := Lib.hid k2
    clear kb ks k2
    go_wp2_with fail
    first | refine wp_named ?_ | refine calls_named ?_
    intro V1 hV
    have kb : V1.heap[b]? = some (.cells #[.int .u64 (uh (det3 (rv (X 1) (Y 1) (Z 1) (cR m 12 1) 0) (rv (X 1) (Y 1) (Z 1) (cR m 12 1) 1) (rv (X 1) (Y 1) (Z 1) (cR m 12 1) 2) (rv (X 2) (Y 2) (Z 2) (cR m 12 2) 0) (rv (X 2) (Y 2) (Z 2) (cR m 12 2) 1) (rv (X 2) (Y 2) (Z 2) (cR m 12 2) 2) (rv (X 3) (Y 3) (Z 3) (cR m 12 3) 0) (rv (X 3) (Y 3) (Z 3) (cR m 12 3) 1) (rv (X 3) (Y 3) (Z 3) (cR m 12 3) 2))), .int .u64 (lo (det3 (rv (X 1) (Y 1) (Z 1) (cR m 12 1) 0) (rv (X 1) (Y 1) (Z 1) (cR m 12 1) 1) (rv (X 1) (Y 1) (Z 1) (cR m 12 1) 2) (rv (X 2) (Y 2) (Z 2) (cR m 12 2) 0) (rv (X 2) (Y 2) (Z 2) (cR m 12 2) 1) (rv (X 2) (Y 2) (Z 2) (cR m 12 2) 2) (rv (X 3) (Y 3) (Z 3) (cR m 12 3) 0) (rv (X 3) (Y 3) (Z 3) (cR m 12 3) 1) (rv (X 3) (Y 3) (Z 3) (cR m 12 3) 2)))] 100 (0, 0)) := by rw [hV]; refine Eq.trans (set_own (set_own KB.out _) _) ?_; simp
    have ks : V1.heap[w.heap.size + 1]? = some (.cells #[.int .u64 (uh (parS X Y Z m 0)), .int .u64 (lo (parS X Y Z m 0))] 100 (0, 0)) := by rw [hV]; exact (other_block n3).trans ((other_block n3).trans KS.out)
    have k2 : V1.heap[w.heap.size]? = some (.cells #[.int .u64 0, .int .u64 0] 100 (0, 0)) := by rw [hV]; exact (other_block n2).trans ((other_block n2).trans K2.out)
    have hB : Below w.heap.size w V1 := by rw [hV]; exact (hBV.out.setCell wb _).setCell wb _
    replace y1 : b < V1.heap.size := by rw [hV]; simpa using y1
    replace y2 : w.heap.size + 1 < V1.heap.size := by rw [hV]; simpa using y2
    clear hV lq lr mq mr KB KS K2 hBV HZ
    have hng := ref1_neg (det3 (rv (X 1) (Y 1) (Z 1) (cR m 12 1) 0) (rv (X 1) (Y 1) (Z 1) (cR m 12 1) 1) (rv (X 1) (Y 1) (Z 1) (cR m 12 1) 2) (rv (X 2) (Y 2) (Z 2) (cR m 12 2) 0) (rv (X 2) (Y 2) (Z 2) (cR m 12 2) 1) (rv (X 2) (Y 2) (Z 2) (cR m 12 2) 2) (rv (X 3) (Y 3) (Z 3) (cR m 12 3) 0) (rv (X 3) (Y 3) (Z 3) (cR m 12 3) 1) (rv (X 3) (Y 3) (Z 3) (cR m 12 3) 2))
    unfold w2 at hng
    refine (hng _).mono ?_; rintro e V2 ⟨rfl, hX⟩
    clear hng
    replace kb := (hX.block _ y1).trans kb; replace ks := (hX.block _ y2).trans ks; replace k2 := (hX.block _ (by omega)).trans k2; replace hB := after hB hX
    replace y1 := Nat.lt_of_lt_of_le y1 hX.size; replace y2 := Nat.lt_of_lt_of_le y2 hX.size
    clear hX
    obtain ⟨lq, lr⟩ := cellB kb
    obtain ⟨mq, mr⟩ := cellB ks
    go_wp2_with fail
    first | refine wp_named ?_ | refine calls_named ?_
    intro V3 hV
    replace ks : V3.heap[w.heap.size + 1]? = some (.cells #[.int .u64 (uh (parS X Y Z m 0)), .int .u64 (lo (parS X Y Z m 0))] 100 (0, 0)) := by rw [hV]; exact (other_block n3).trans ((other_block n3).trans ks)
    replace k2 : V3.heap[w.heap.size]? = some (.cells #[.int .u64 0, .int .u64 0] 100 (0, 0)) := by rw [hV]; exact (other_block n2).trans ((other_block n2).trans k2)
    replace kb : V3.heap[b]? = some (.cells #[.int .u64 (uh (-(det3 (rv (X 1) (Y 1) (Z 1) (cR m 12 1) 0) (rv (X 1) (Y 1) (Z 1) (cR m 12 1) 1) (rv (X 1) (Y 1) (Z 1) (cR m 12 1) 2) (rv (X 2) (Y 2) (Z 2) (cR m 12 2) 0) (rv (X 2) (Y 2) (Z 2) (cR m 12 2) 1) (rv (X 2) (Y 2) (Z 2) (cR m 12 2) 2) (rv (X 3) (Y 3) (Z 3) (cR m 12 3) 0) (rv (X 3) (Y 3) (Z 3) (cR m 12 3) 1) (rv (X 3) (Y 3) (Z 3) (cR m 12 3) 2)))), .int .u64 (lo (-(det3 (rv (X 1) (Y 1) (Z 1) (cR m 12 1) 0) (rv (X 1) (Y 1) (Z 1) (cR m 12 1) 1) (rv (X 1) (Y 1) (Z 1) (cR m 12 1) 2) (rv (X 2) (Y 2) (Z 2) (cR m 12 2) 0) (rv (X 2) (Y 2) (Z 2) (cR m 12 2) 1) (rv (X 2) (Y 2) (Z 2) (cR m 12 2) 2) (rv (X 3) (Y 3) (Z 3) (cR m 12 3) 0) (rv (X 3) (Y 3) (Z 3) (cR m 12 3) 1) (rv (X 3) (Y 3) (Z 3) (cR m 12 3) 2))))] 100 (0, 0)) := by rw [hV]; refine Eq.trans (set_own (set_own kb _) _) ?_; simp
    replace hB : Below w.heap.size w V3 := by rw [hV]; exact (hB.setCell wb _).setCell wb _
    replace y1 : b < V3.heap.size := by rw [hV]; simpa using y1
    replace y2 : w.heap.size + 1 < V3.heap.size := by rw [hV]; simpa using y2
    clear hV lq lr mq mr
    have hadd := ref1_add (parS X Y Z m 0) (-(det3 (rv (X 1) (Y 1) (Z 1) (cR m 12 1) 0) (rv (X 1) (Y 1) (Z 1) (cR m 12 1) 1) (rv (X 1) (Y 1) (Z 1) (cR m 12 1) 2) (rv (X 2) (Y 2) (Z 2) (cR m 12 2) 0) (rv (X 2) (Y 2) (Z 2) (cR m 12 2) 1) (rv (X 2) (Y 2) (Z 2) (cR m 12 2) 2) (rv (X 3) (Y 3) (Z 3) (cR m 12 3) 0) (rv (X 3) (Y 3) (Z 3) (cR m 12 3) 1) (rv (X 3) (Y 3) (Z 3) (cR m 12 3) 2)))
    unfold w2 at hadd
    refine (hadd _).mono ?_; rintro e V4 ⟨rfl, hX⟩
    clear hadd
    replace kb := (hX.block _ y1).trans kb; replace ks := (hX.block _ y2).trans ks; replace k2 := (hX.block _ (by omega)).trans k2; replace hB := after hB hX
    replace y1 := Nat.lt_of_lt_of_le y1 hX.size; replace y2 := Nat.lt_of_lt_of_le y2 hX.size
    clear hX
    obtain ⟨mq, mr⟩ := cellB ks
    have KS := Lib.hid ks; have K2 := Lib.hid k2; have HB := Lib.hid hB
    clear ks k2 hB kb
    go_wp2_with fail
    go_roundw
    case rel => first | exact ⟨0 + 1, by decide, by go_num, (by rw [Q.out]; refine Eq.trans (set_own (set_own KS.out _) _) ?_; simp), (other_block (by simp)).trans ((other_block (by simp)).trans K2.out), (HB.out.setCell (by simp) _).setCell (by simp) _, (by refine Lib.hid ?_; simpa using y2)⟩ | ((repeat apply Exists.intro); exact ⟨⟨0 + 1, by decide, by go_num, (by rw [Q.out]; refine Eq.trans (set_own (set_own KS.out _) _) ?_; simp), (other_block (by simp)).trans ((other_block (by simp)).trans K2.out), (HB.out.setCell (by simp) _).setCell (by simp) _, (by refine Lib.hid ?_; simpa using y2)⟩, rfl⟩)
    case measure => simp [intOf]
  · have k1 := (HB.out.block _ hob).trans KL0.out
    have hz := HZ.out
    by_cases hc : cR m 12 1 = 0
    case neg =>
      have q : parS X Y Z m (1 + 1) = parS X Y Z m 1 := by show parS X Y Z m 1 + (if cR m 12 1 = 0 then _ else 0) = _; rw [if_neg hc]; omega
      have Q := Lib.hid q
      replace k1 : wr.heap[ob]? = some (.cells #[Value.int .i64 (rv (X 0) (Y 0) (Z 0) (cR m 12 0) 0), Value.int .i64 (rv (X 0) (Y 0) (Z 0) (cR m 12 0) 1), Value.int .i64 (rv (X 0) (Y 0) (Z 0) (cR m 12 0) 2), Value.int .i64 (rv (X 0) (Y 0) (Z 0) (cR m 12 0) 3), Value.int .i64 (rv (X 1) (Y 1) (Z 1) (cR m 12 1) 0), Value.int .i64 (rv (X 1) (Y 1) (Z 1) (cR m 12 1) 1), Value.int .i64 (rv (X 1) (Y 1) (Z 1) (cR m 12 1) 2), Value.int .i64 0, Value.int .i64 (rv (X 2) (Y 2) (Z 2) (cR m 12 2) 0), Value.int .i64 (rv (X 2) (Y 2) (Z 2) (cR m 12 2) 1), Value.int .i64 (rv (X 2) (Y 2) (Z 2) (cR m 12 2) 2), Value.int .i64 (rv (X 2) (Y 2) (Z 2) (cR m 12 2) 3), Value.int .i64 (rv (X 3) (Y 3) (Z 3) (cR m 12 3) 0), Value.int .i64 (rv (X 3) (Y 3) (Z 3) (cR m 12 3) 1), Value.int .i64 (rv (X 3) (Y 3) (Z 3) (cR m 12 3) 2), Value.int .i64 (rv (X 3) (Y 3) (Z 3) (cR m 12 3) 3)] 92 (0, 0)) := by rw [rv3n (x := X 1) (y := Y 1) (z := Z 1) hc] at k1; exact k1
      obtain ⟨kq, kr⟩ := cellB k1
      clear k1 q hc hco
      go_wp2_with fail
      go_roundw
      case rel => exact ⟨1 + 1, by decide, by go_num, (by rw [Q.out]; exact H3.out), H2, HB, hz⟩
      case measure => simp [intOf]
    replace k1 : wr.heap[ob]? = some (.cells #[Value.int .i64 (rv (X 0) (Y 0) (Z 0) (cR m 12 0) 0), Value.int .i64 (rv (X 0) (Y 0) (Z 0) (cR m 12 0) 1), Value.int .i64 (rv (X 0) (Y 0) (Z 0) (cR m 12 0) 2), Value.int .i64 (rv (X 0) (Y 0) (Z 0) (cR m 12 0) 3), Value.int .i64 (rv (X 1) (Y 1) (Z 1) (cR m 12 1) 0), Value.int .i64 (rv (X 1) (Y 1) (Z 1) (cR m 12 1) 1), Value.int .i64 (rv (X 1) (Y 1) (Z 1) (cR m 12 1) 2), Value.int .i64 1, Value.int .i64 (rv (X 2) (Y 2) (Z 2) (cR m 12 2) 0), Value.int .i64 (rv (X 2) (Y 2) (Z 2) (cR m 12 2) 1), Value.int .i64 (rv (X 2) (Y 2) (Z 2) (cR m 12 2) 2), Value.int .i64 (rv (X 2) (Y 2) (Z 2) (cR m 12 2) 3), Value.int .i64 (rv (X 3) (Y 3) (Z 3) (cR m 12 3) 0), Value.int .i64 (rv (X 3) (Y 3) (Z 3) (cR m 12 3) 1), Value.int .i64 (rv (X 3) (Y 3) (Z 3) (cR m 12 3) 2), Value.int .i64 (rv (X 3) (Y 3) (Z 3) (cR m 12 3) 3)] 92 (0, 0)) := by rw [rv3 (x := X 1) (y := Y 1) (z := Z 1) hc] at k1; exact k1
    have KL := Lib.hid k1
    have q : parS X Y Z m (1 + 1) = parS X Y Z m 1 + det3 (rv (X 0) (Y 0) (Z 0) (cR m 12 0) 0) (rv (X 0) (Y 0) (Z 0) (cR m 12 0) 1) (rv (X 0) (Y 0) (Z 0) (cR m 12 0) 2) (rv (X 2) (Y 2) (Z 2) (cR m 12 2) 0) (rv (X 2) (Y 2) (Z 2) (cR m 12 2) 1) (rv (X 2) (Y 2) (Z 2) (cR m 12 2) 2) (rv (X 3) (Y 3) (Z 3) (cR m 12 3) 0) (rv (X 3) (Y 3) (Z 3) (cR m 12 3) 1) (rv (X 3) (Y 3) (Z 3) (cR m 12 3) 2) := by show parS X Y Z m 1 + (if cR m 12 1 = 0 then _ else 0) = _; rw [if_pos hc]; rfl
    have Q := Lib.hid q
    have ht3 := ref2_three (rv (X 0) (Y 0) (Z 0) (cR m 12 0) 0) (rv (X 0) (Y 0) (Z 0) (cR m 12 0) 1) (rv (X 0) (Y 0) (Z 0) (cR m 12 0) 2) (rv (X 0) (Y 0) (Z 0) (cR m 12 0) 3) (rv (X 2) (Y 2) (Z 2) (cR m 12 2) 0) (rv (X 2) (Y 2) (Z 2) (cR m 12 2) 1) (rv (X 2) (Y 2) (Z 2) (cR m 12 2) 2) (rv (X 2) (Y 2) (Z 2) (cR m 12 2) 3) (rv (X 3) (Y 3) (Z 3) (cR m 12 3) 0) (rv (X 3) (Y 3) (Z 3) (cR m 12 3) 1) (rv (X 3) (Y 3) (Z 3) (cR m 12 3) 2) (rv (X 3) (Y 3) (Z 3) (cR m 12 3) 3) ⟨rv_co (hco.out 0 (by decide)) _ _, rv_co (hco.out 0 (by decide)) _ _, rv_co (hco.out 0 (by decide)) _ _⟩ ⟨rv_co (hco.out 2 (by decide)) _ _, rv_co (hco.out 2 (by decide)) _ _, rv_co (hco.out 2 (by decide)) _ _⟩ ⟨rv_co (hco.out 3 (by decide)) _ _, rv_co (hco.out 3 (by decide)) _ _, rv_co (hco.out 3 (by decide)) _ _⟩
    unfold w2 at ht3
    have HT3 := Lib.hid ht3
    obtain ⟨kq, kr⟩ := cellB k1
    obtain ⟨S5, rfl⟩ : ∃ S, S = wr := ⟨_, rfl⟩
    have zb : ob < S5.heap.size := Nat.lt_of_lt_of_le hob HB.out.size
    clear q hc k1 ht3
    go_wp2_with fail
    refine wp_loop_rounds 5 ?_
    rw [rounds_succ]
    go_wp2_with (first | (at_builtin; refine wpList_append_own _ rfl (.tmp 25) (.tmp 30) 94 rfl S5.heap.size 92 i0 (.agg #[.int .i64 0, .int .i64 0, .int .i64 0, .int .i64 0]) 4 32 uRws HI.out HZ0.out HZ1.out HZ2.out rfl (by decide) _ 0 [] (by rfl) (World.ownsRow_nil _ _ _ _) ⟨_, 0, none⟩ 1 1 [Value.int .i64 (rv (X 0) (Y 0) (Z 0) (cR m 12 0) 0), Value.int .i64 (rv (X 0) (Y 0) (Z 0) (cR m 12 0) 1), Value.int .i64 (rv (X 0) (Y 0) (Z 0) (cR m 12 0) 2), Value.int .i64 (rv (X 0) (Y 0) (Z 0) (cR m 12 0) 3)] (by rfl) (by rfl) (row4_new _ _ _ _ _ _) (ints4 _ _ _ _) (by decide) (by decide) (by simp) ?_; intro v1 xw1 hq1 hq2 hq3) | fail)
    have hb1 : Hid (Below S5.heap.size S5 xw1) := ((Below.refl _ _).alloc (Nat.le_refl _) _).grown hq2 (by simp) (fun k hk => by cases hk)
    have R1 : Hid (xw1.ownsRow S5.heap.size 92 4 v1 1 [Value.int .i64 (rv (X 0) (Y 0) (Z 0) (cR m 12 0) 0), Value.int .i64 (rv (X 0) (Y 0) (Z 0) (cR m 12 0) 1), Value.int .i64 (rv (X 0) (Y 0) (Z 0) (cR m 12 0) 2), Value.int .i64 (rv (X 0) (Y 0) (Z 0) (cR m 12 0) 3)]) := hq1
    clear hq1 hq2 hq3 kq kr
    obtain ⟨kq, kr⟩ := cellB ((hb1.out.block _ zb).trans KL.out)
    have hs1 := hb1.out.size
    rw [rounds_succ]
    go_wp2_with fail
    rw [rounds_succ]
    go_wp2_with (first | (at_builtin; refine wpList_append_own _ rfl (.tmp 25) (.tmp 30) 94 rfl S5.heap.size 92 i0 (.agg #[.int .i64 0, .int .i64 0, .int .i64 0, .int .i64 0]) 4 32 uRws HI.out HZ0.out HZ1.out HZ2.out rfl (by decide) _ 1 [Value.int .i64 (rv (X 0) (Y 0) (Z 0) (cR m 12 0) 0), Value.int .i64 (rv (X 0) (Y 0) (Z 0) (cR m 12 0) 1), Value.int .i64 (rv (X 0) (Y 0) (Z 0) (cR m 12 0) 2), Value.int .i64 (rv (X 0) (Y 0) (Z 0) (cR m 12 0) 3)] (by rfl) (R1.out.alloc _) ⟨_, 0, none⟩ 1 1 [Value.int .i64 (rv (X 2) (Y 2) (Z 2) (cR m 12 2) 0), Value.int .i64 (rv (X 2) (Y 2) (Z 2) (cR m 12 2) 1), Value.int .i64 (rv (X 2) (Y 2) (Z 2) (cR m 12 2) 2), Value.int .i64 (rv (X 2) (Y 2) (Z 2) (cR m 12 2) 3)] (by rfl) (by rfl) (row4_new _ _ _ _ _ _) (ints4 _ _ _ _) (by decide) (by decide) (by have := hb1.out.size; simp; omega) ?_; intro v2 xw2 hq1 hq2 hq3) | fail)
    have hb2 : Hid (Below S5.heap.size S5 xw2) := (hb1.out.alloc hb1.out.size _).grown hq2 (by have := hb1.out.size; simp; omega) (fun k hk => (R1.out.lt k hk).1)
    have R2 : Hid (xw2.ownsRow S5.heap.size 92 4 v2 2 [Value.int .i64 (rv (X 0) (Y 0) (Z 0) (cR m 12 0) 0), Value.int .i64 (rv (X 0) (Y 0) (Z 0) (cR m 12 0) 1), Value.int .i64 (rv (X 0) (Y 0) (Z 0) (cR m 12 0) 2), Value.int .i64 (rv (X 0) (Y 0) (Z 0) (cR m 12 0) 3), Value.int .i64 (rv (X 2) (Y 2) (Z 2) (cR m 12 2) 0), Value.int .i64 (rv (X 2) (Y 2) (Z 2) (cR m 12 2) 1), Value.int .i64 (rv (X 2) (Y 2) (Z 2) (cR m 12 2) 2), Value.int .i64 (rv (X 2) (Y 2) (Z 2) (cR m 12 2) 3)]) := hq1
    clear hb1 R1
    clear hq1 hq2 hq3 kq kr
    obtain ⟨kq, kr⟩ := cellB ((hb2.out.block _ zb).trans KL.out)
    have hs2 := hb2.out.size
    rw [rounds_succ]
    go_wp2_with (first | (at_builtin; refine wpList_append_own _ rfl (.tmp 25) (.tmp 30) 94 rfl S5.heap.size 92 i0 (.agg #[.int .i64 0, .int .i64 0, .int .i64 0, .int .i64 0]) 4 32 uRws HI.out HZ0.out HZ1.out HZ2.out rfl (by decide) _ 2 [Value.int .i64 (rv (X 0) (Y 0) (Z 0) (cR m 12 0) 0), Value.int .i64 (rv (X 0) (Y 0) (Z 0) (cR m 12 0) 1), Value.int .i64 (rv (X 0) (Y 0) (Z 0) (cR m 12 0) 2), Value.int .i64 (rv (X 0) (Y 0) (Z 0) (cR m 12 0) 3), Value.int .i64 (rv (X 2) (Y 2) (Z 2) (cR m 12 2) 0), Value.int .i64 (rv (X 2) (Y 2) (Z 2) (cR m 12 2) 1), Value.int .i64 (rv (X 2) (Y 2) (Z 2) (cR m 12 2) 2), Value.int .i64 (rv (X 2) (Y 2) (Z 2) (cR m 12 2) 3)] (by rfl) (R2.out.alloc _) ⟨_, 0, none⟩ 1 1 [Value.int .i64 (rv (X 3) (Y 3) (Z 3) (cR m 12 3) 0), Value.int .i64 (rv (X 3) (Y 3) (Z 3) (cR m 12 3) 1), Value.int .i64 (rv (X 3) (Y 3) (Z 3) (cR m 12 3) 2), Value.int .i64 (rv (X 3) (Y 3) (Z 3) (cR m 12 3) 3)] (by rfl) (by rfl) (row4_new _ _ _ _ _ _) (ints4 _ _ _ _) (by decide) (by decide) (by have := hb2.out.size; simp; omega) ?_; intro v3 xw3 hq1 hq2 hq3) | fail)
    have hb3 : Hid (Below S5.heap.size S5 xw3) := (hb2.out.alloc hb2.out.size _).grown hq2 (by have := hb2.out.size; simp; omega) (fun k hk => (R2.out.lt k hk).1)
    have R3 : Hid (xw3.ownsRow S5.heap.size 92 4 v3 3 [Value.int .i64 (rv (X 0) (Y 0) (Z 0) (cR m 12 0) 0), Value.int .i64 (rv (X 0) (Y 0) (Z 0) (cR m 12 0) 1), Value.int .i64 (rv (X 0) (Y 0) (Z 0) (cR m 12 0) 2), Value.int .i64 (rv (X 0) (Y 0) (Z 0) (cR m 12 0) 3), Value.int .i64 (rv (X 2) (Y 2) (Z 2) (cR m 12 2) 0), Value.int .i64 (rv (X 2) (Y 2) (Z 2) (cR m 12 2) 1), Value.int .i64 (rv (X 2) (Y 2) (Z 2) (cR m 12 2) 2), Value.int .i64 (rv (X 2) (Y 2) (Z 2) (cR m 12 2) 3), Value.int .i64 (rv (X 3) (Y 3) (Z 3) (cR m 12 3) 0), Value.int .i64 (rv (X 3) (Y 3) (Z 3) (cR m 12 3) 1), Value.int .i64 (rv (X 3) (Y 3) (Z 3) (cR m 12 3) 2), Value.int .i64 (rv (X 3) (Y 3) (Z 3) (cR m 12 3) 3)]) := hq1
    clear hb2 R2
    clear hq1 hq2 hq3 kq kr
    obtain ⟨kq, kr⟩ := cellB ((hb3.out.block _ zb).trans KL.out)
    have hs3 := hb3.out.size
    rw [rounds_succ]
    go_wp2_with fail
    rcases R3.out.2 with ⟨_, h9⟩ | ⟨gg, cap, cur, rfl, hg1, hg2, hg3, hg4, hg5, hg6⟩
    · exact absurd h9 (by decide)
    have hgl : gg < xw3.heap.size := (Array.getElem?_eq_some_iff.1 hg2).1
    have c0 : xw3.cell? ⟨gg, 0, none⟩ = some (Value.int .i64 (rv (X 0) (Y 0) (Z 0) (cR m 12 0) 0)) := (R3.out.cellAt 0 (by decide)).trans rfl
    have c1 : xw3.cell? ⟨gg, 1, none⟩ = some (Value.int .i64 (rv (X 0) (Y 0) (Z 0) (cR m 12 0) 1)) := (R3.out.cellAt 1 (by decide)).trans rfl
    have c2 : xw3.cell? ⟨gg, 2, none⟩ = some (Value.int .i64 (rv (X 0) (Y 0) (Z 0) (cR m 12 0) 2)) := (R3.out.cellAt 2 (by decide)).trans rfl
    have c3 : xw3.cell? ⟨gg, 3, none⟩ = some (Value.int .i64 (rv (X 0) (Y 0) (Z 0) (cR m 12 0) 3)) := (R3.out.cellAt 3 (by decide)).trans rfl
    have c4 : xw3.cell? ⟨gg, 4, none⟩ = some (Value.int .i64 (rv (X 2) (Y 2) (Z 2) (cR m 12 2) 0)) := (R3.out.cellAt 4 (by decide)).trans rfl
    have c5 : xw3.cell? ⟨gg, 5, none⟩ = some (Value.int .i64 (rv (X 2) (Y 2) (Z 2) (cR m 12 2) 1)) := (R3.out.cellAt 5 (by decide)).trans rfl
    have c6 : xw3.cell? ⟨gg, 6, none⟩ = some (Value.int .i64 (rv (X 2) (Y 2) (Z 2) (cR m 12 2) 2)) := (R3.out.cellAt 6 (by decide)).trans rfl
    have c7 : xw3.cell? ⟨gg, 7, none⟩ = some (Value.int .i64 (rv (X 2) (Y 2) (Z 2) (cR m 12 2) 3)) := (R3.out.cellAt 7 (by decide)).trans rfl
    have c8 : xw3.cell? ⟨gg, 8, none⟩ = some (Value.int .i64 (rv (X 3) (Y 3) (Z 3) (cR m 12 3) 0)) := (R3.out.cellAt 8 (by decide)).trans rfl
    have c9 : xw3.cell? ⟨gg, 9, none⟩ = some (Value.int .i64 (rv (X 3) (Y 3) (Z 3) (cR m 12 3) 1)) := (R3.out.cellAt 9 (by decide)).trans rfl
    have c10 : xw3.cell? ⟨gg, 10, none⟩ = some (Value.int .i64 (rv (X 3) (Y 3) (Z 3) (cR m 12 3) 2)) := (R3.out.cellAt 10 (by decide)).trans rfl
    have c11 : xw3.cell? ⟨gg, 11, none⟩ = some (Value.int .i64 (rv (X 3) (Y 3) (Z 3) (cR m 12 3) 3)) := (R3.out.cellAt 11 (by decide)).trans rfl
    clear hg2 hg3 hg4 hg5 hg6 kq kr
    refine wp_calm1 10 (.cells #[.int .u64 0, .int .u64 0] 100) (some 7) (by kernel_rfl) (by kernel_rfl) rfl (fun o ho a w => by cases ho; go_simp) ?_
    intro C hC
    repeat (refine wpCalm_step (fun K hK => ?_); go_simp; first | (refine hK _ ?_; clear hK K) | (apply Exists.intro; refine ⟨fun wc hw => ?_, hK _ ?_⟩; (obtain ⟨hc, hf⟩ := bcell (hC wc hw); go_simp; first | with_reducible exact HT3.out wc | exact rfl); clear hK K))
    refine wpCalm_nil ?_
    clear hC C c0 c1 c2 c3 c4 c5 c6 c7 c8 c9 c10 c11
    intro V b hX hb hblk
    simp only [List.drop_succ_cons, List.drop_zero]
    have hX5 : Below S5.heap.size S5 V := after' hb3.out hX hs3
    have n3 : w.heap.size + 1 ≠ b := by omega
    have n2 : w.heap.size ≠ b := by omega
    have kb := hblk
    have y1 : b < V.heap.size := (Array.getElem?_eq_some_iff.1 hblk).1
    have ks : V.heap[w.heap.size + 1]? = some (.cells #[.int .u64 (uh (parS X Y Z m 1)), .int .u64 (lo (parS X Y Z m 1))] 100 (0, 0)) := (hX5.block _ hz).trans H3.out
    have k2 : V.heap[w.heap.size]? = some (.cells #[.int .u64 0, .int .u64 0] 100 (0, 0)) := (hX5.block _ (by omega)).trans H2.out
    have y2 : w.heap.size + 1 < V.heap.size := Nat.lt_of_lt_of_le hz hX5.size
    have hBV : Hid (Below w.heap.size w V) := after HB.out hX5
    have wb : w.heap.size ≤ b := by omega
    clear hblk hX hX5 hb hgl hg1 R3 hb3 HT3 H3 H2 HB KL hz zb hs1 hs2 hs3
    obtain ⟨lq, lr⟩ := cellB kb
    obtain ⟨mq, mr⟩ := cellB ks
    have KB := Lib.hid kb; have KS := Lib.hid ks; have K2 := Lib.hid k2
    clear kb ks k2
    go_wp2_with fail
    first | refine wp_named ?_ | refine calls_named ?_
    intro V1 hV
    have kb : V1.heap[b]? = some (.cells #[.int .u64 (uh (det3 (rv (X 0) (Y 0) (Z 0) (cR m 12 0) 0) (rv (X 0) (Y 0) (Z 0) (cR m 12 0) 1) (rv (X 0) (Y 0) (Z 0) (cR m 12 0) 2) (rv (X 2) (Y 2) (Z 2) (cR m 12 2) 0) (rv (X 2) (Y 2) (Z 2) (cR m 12 2) 1) (rv (X 2) (Y 2) (Z 2) (cR m 12 2) 2) (rv (X 3) (Y 3) (Z 3) (cR m 12 3) 0) (rv (X 3) (Y 3) (Z 3) (cR m 12 3) 1) (rv (X 3) (Y 3) (Z 3) (cR m 12 3) 2))), .int .u64 (lo (det3 (rv (X 0) (Y 0) (Z 0) (cR m 12 0) 0) (rv (X 0) (Y 0) (Z 0) (cR m 12 0) 1) (rv (X 0) (Y 0) (Z 0) (cR m 12 0) 2) (rv (X 2) (Y 2) (Z 2) (cR m 12 2) 0) (rv (X 2) (Y 2) (Z 2) (cR m 12 2) 1) (rv (X 2) (Y 2) (Z 2) (cR m 12 2) 2) (rv (X 3) (Y 3) (Z 3) (cR m 12 3) 0) (rv (X 3) (Y 3) (Z 3) (cR m 12 3) 1) (rv (X 3) (Y 3) (Z 3) (cR m 12 3) 2)))] 100 (0, 0)) := by rw [hV]; refine Eq.trans (set_own (set_own KB.out _) _) ?_; simp
    have ks : V1.heap[w.heap.size + 1]? = some (.cells #[.int .u64 (uh (parS X Y Z m 1)), .int .u64 (lo (parS X Y Z m 1))] 100 (0, 0)) := by rw [hV]; exact (other_block n3).trans ((other_block n3).trans KS.out)
    have k2 : V1.heap[w.heap.size]? = some (.cells #[.int .u64 0, .int .u64 0] 100 (0, 0)) := by rw [hV]; exact (other_block n2).trans ((other_block n2).trans K2.out)
    have hB : Below w.heap.size w V1 := by rw [hV]; exact (hBV.out.setCell wb _).setCell wb _
    replace y1 : b < V1.heap.size := by rw [hV]; simpa using y1
    replace y2 : w.heap.size + 1 < V1.heap.size := by rw [hV]; simpa using y2
    clear hV lq lr mq mr KB KS K2 hBV HZ
    have hadd := ref1_add (parS X Y Z m 1) (det3 (rv (X 0) (Y 0) (Z 0) (cR m 12 0) 0) (rv (X 0) (Y 0) (Z 0) (cR m 12 0) 1) (rv (X 0) (Y 0) (Z 0) (cR m 12 0) 2) (rv (X 2) (Y 2) (Z 2) (cR m 12 2) 0) (rv (X 2) (Y 2) (Z 2) (cR m 12 2) 1) (rv (X 2) (Y 2) (Z 2) (cR m 12 2) 2) (rv (X 3) (Y 3) (Z 3) (cR m 12 3) 0) (rv (X 3) (Y 3) (Z 3) (cR m 12 3) 1) (rv (X 3) (Y 3) (Z 3) (cR m 12 3) 2))
    unfold w2 at hadd
    refine (hadd _).mono ?_; rintro e V4 ⟨rfl, hX⟩
    clear hadd
    replace kb := (hX.block _ y1).trans kb; replace ks := (hX.block _ y2).trans ks; replace k2 := (hX.block _ (by omega)).trans k2; replace hB := after hB hX
    replace y1 := Nat.lt_of_lt_of_le y1 hX.size; replace y2 := Nat.lt_of_lt_of_le y2 hX.size
    clear hX
    obtain ⟨mq, mr⟩ := cellB ks
    have KS := Lib.hid ks; have K2 := Lib.hid k2; have HB := Lib.hid hB
    clear ks k2 hB kb
    go_wp2_with fail
    go_roundw
    case rel => first | exact ⟨1 + 1, by decide, by go_num, (by rw [Q.out]; refine Eq.trans (set_own (set_own KS.out _) _) ?_; simp), (other_block (by simp)).trans ((other_block (by simp)).trans K2.out), (HB.out.setCell (by simp) _).setCell (by simp) _, (by refine Lib.hid ?_; simpa using y2)⟩ | ((repeat apply Exists.intro); exact ⟨⟨1 + 1, by decide, by go_num, (by rw [Q.out]; refine Eq.trans (set_own (set_own KS.out _) _) ?_; simp), (other_block (by simp)).trans ((other_block (by simp)).trans K2.out), (HB.out.setCell (by simp) _).setCell (by simp) _, (by refine Lib.hid ?_; simpa using y2)⟩, rfl⟩)
    case measure => simp [intOf]
  · have k1 := (HB.out.block _ hob).trans KL0.out
    have hz := HZ.out
    by_cases hc : cR m 12 2 = 0
    case neg =>
      have q : parS X Y Z m (2 + 1) = parS X Y Z m 2 := by show parS X Y Z m 2 + (if cR m 12 2 = 0 then _ else 0) = _; rw [if_neg hc]; omega
      have Q := Lib.hid q
      replace k1 : wr.heap[ob]? = some (.cells #[Value.int .i64 (rv (X 0) (Y 0) (Z 0) (cR m 12 0) 0), Value.int .i64 (rv (X 0) (Y 0) (Z 0) (cR m 12 0) 1), Value.int .i64 (rv (X 0) (Y 0) (Z 0) (cR m 12 0) 2), Value.int .i64 (rv (X 0) (Y 0) (Z 0) (cR m 12 0) 3), Value.int .i64 (rv (X 1) (Y 1) (Z 1) (cR m 12 1) 0), Value.int .i64 (rv (X 1) (Y 1) (Z 1) (cR m 12 1) 1), Value.int .i64 (rv (X 1) (Y 1) (Z 1) (cR m 12 1) 2), Value.int .i64 (rv (X 1) (Y 1) (Z 1) (cR m 12 1) 3), Value.int .i64 (rv (X 2) (Y 2) (Z 2) (cR m 12 2) 0), Value.int .i64 (rv (X 2) (Y 2) (Z 2) (cR m 12 2) 1), Value.int .i64 (rv (X 2) (Y 2) (Z 2) (cR m 12 2) 2), Value.int .i64 0, Value.int .i64 (rv (X 3) (Y 3) (Z 3) (cR m 12 3) 0), Value.int .i64 (rv (X 3) (Y 3) (Z 3) (cR m 12 3) 1), Value.int .i64 (rv (X 3) (Y 3) (Z 3) (cR m 12 3) 2), Value.int .i64 (rv (X 3) (Y 3) (Z 3) (cR m 12 3) 3)] 92 (0, 0)) := by rw [rv3n (x := X 2) (y := Y 2) (z := Z 2) hc] at k1; exact k1
      obtain ⟨kq, kr⟩ := cellB k1
      clear k1 q hc hco
      go_wp2_with fail
      go_roundw
      case rel => exact ⟨2 + 1, by decide, by go_num, (by rw [Q.out]; exact H3.out), H2, HB, hz⟩
      case measure => simp [intOf]
    replace k1 : wr.heap[ob]? = some (.cells #[Value.int .i64 (rv (X 0) (Y 0) (Z 0) (cR m 12 0) 0), Value.int .i64 (rv (X 0) (Y 0) (Z 0) (cR m 12 0) 1), Value.int .i64 (rv (X 0) (Y 0) (Z 0) (cR m 12 0) 2), Value.int .i64 (rv (X 0) (Y 0) (Z 0) (cR m 12 0) 3), Value.int .i64 (rv (X 1) (Y 1) (Z 1) (cR m 12 1) 0), Value.int .i64 (rv (X 1) (Y 1) (Z 1) (cR m 12 1) 1), Value.int .i64 (rv (X 1) (Y 1) (Z 1) (cR m 12 1) 2), Value.int .i64 (rv (X 1) (Y 1) (Z 1) (cR m 12 1) 3), Value.int .i64 (rv (X 2) (Y 2) (Z 2) (cR m 12 2) 0), Value.int .i64 (rv (X 2) (Y 2) (Z 2) (cR m 12 2) 1), Value.int .i64 (rv (X 2) (Y 2) (Z 2) (cR m 12 2) 2), Value.int .i64 1, Value.int .i64 (rv (X 3) (Y 3) (Z 3) (cR m 12 3) 0), Value.int .i64 (rv (X 3) (Y 3) (Z 3) (cR m 12 3) 1), Value.int .i64 (rv (X 3) (Y 3) (Z 3) (cR m 12 3) 2), Value.int .i64 (rv (X 3) (Y 3) (Z 3) (cR m 12 3) 3)] 92 (0, 0)) := by rw [rv3 (x := X 2) (y := Y 2) (z := Z 2) hc] at k1; exact k1
    have KL := Lib.hid k1
    have q : parS X Y Z m (2 + 1) = parS X Y Z m 2 + -(det3 (rv (X 0) (Y 0) (Z 0) (cR m 12 0) 0) (rv (X 0) (Y 0) (Z 0) (cR m 12 0) 1) (rv (X 0) (Y 0) (Z 0) (cR m 12 0) 2) (rv (X 1) (Y 1) (Z 1) (cR m 12 1) 0) (rv (X 1) (Y 1) (Z 1) (cR m 12 1) 1) (rv (X 1) (Y 1) (Z 1) (cR m 12 1) 2) (rv (X 3) (Y 3) (Z 3) (cR m 12 3) 0) (rv (X 3) (Y 3) (Z 3) (cR m 12 3) 1) (rv (X 3) (Y 3) (Z 3) (cR m 12 3) 2)) := by show parS X Y Z m 2 + (if cR m 12 2 = 0 then _ else 0) = _; rw [if_pos hc]; rfl
    have Q := Lib.hid q
    have ht3 := ref2_three (rv (X 0) (Y 0) (Z 0) (cR m 12 0) 0) (rv (X 0) (Y 0) (Z 0) (cR m 12 0) 1) (rv (X 0) (Y 0) (Z 0) (cR m 12 0) 2) (rv (X 0) (Y 0) (Z 0) (cR m 12 0) 3) (rv (X 1) (Y 1) (Z 1) (cR m 12 1) 0) (rv (X 1) (Y 1) (Z 1) (cR m 12 1) 1) (rv (X 1) (Y 1) (Z 1) (cR m 12 1) 2) (rv (X 1) (Y 1) (Z 1) (cR m 12 1) 3) (rv (X 3) (Y 3) (Z 3) (cR m 12 3) 0) (rv (X 3) (Y 3) (Z 3) (cR m 12 3) 1) (rv (X 3) (Y 3) (Z 3) (cR m 12 3) 2) (rv (X 3) (Y 3) (Z 3) (cR m 12 3) 3) ⟨rv_co (hco.out 0 (by decide)) _ _, rv_co (hco.out 0 (by decide)) _ _, rv_co (hco.out 0 (by decide)) _ _⟩ ⟨rv_co (hco.out 1 (by decide)) _ _, rv_co (hco.out 1 (by decide)) _ _, rv_co (hco.out 1 (by decide)) _ _⟩ ⟨rv_co (hco.out 3 (by decide)) _ _, rv_co (hco.out 3 (by decide)) _ _, rv_co (hco.out 3 (by decide)) _ _⟩
    unfold w2 at ht3
    have HT3 := Lib.hid ht3
    obtain ⟨kq, kr⟩ := cellB k1
    obtain ⟨S5, rfl⟩ : ∃ S, S = wr := ⟨_, rfl⟩
    have zb : ob < S5.heap.size := Nat.lt_of_lt_of_le hob HB.out.size
    clear q hc k1 ht3
    go_wp2_with fail
    refine wp_loop_rounds 5 ?_
    rw [rounds_succ]
    go_wp2_with (first | (at_builtin; refine wpList_append_own _ rfl (.tmp 25) (.tmp 30) 94 rfl S5.heap.size 92 i0 (.agg #[.int .i64 0, .int .i64 0, .int .i64 0, .int .i64 0]) 4 32 uRws HI.out HZ0.out HZ1.out HZ2.out rfl (by decide) _ 0 [] (by rfl) (World.ownsRow_nil _ _ _ _) ⟨_, 0, none⟩ 1 1 [Value.int .i64 (rv (X 0) (Y 0) (Z 0) (cR m 12 0) 0), Value.int .i64 (rv (X 0) (Y 0) (Z 0) (cR m 12 0) 1), Value.int .i64 (rv (X 0) (Y 0) (Z 0) (cR m 12 0) 2), Value.int .i64 (rv (X 0) (Y 0) (Z 0) (cR m 12 0) 3)] (by rfl) (by rfl) (row4_new _ _ _ _ _ _) (ints4 _ _ _ _) (by decide) (by decide) (by simp) ?_; intro v1 xw1 hq1 hq2 hq3) | fail)
    have hb1 : Hid (Below S5.heap.size S5 xw1) := ((Below.refl _ _).alloc (Nat.le_refl _) _).grown hq2 (by simp) (fun k hk => by cases hk)
    have R1 : Hid (xw1.ownsRow S5.heap.size 92 4 v1 1 [Value.int .i64 (rv (X 0) (Y 0) (Z 0) (cR m 12 0) 0), Value.int .i64 (rv (X 0) (Y 0) (Z 0) (cR m 12 0) 1), Value.int .i64 (rv (X 0) (Y 0) (Z 0) (cR m 12 0) 2), Value.int .i64 (rv (X 0) (Y 0) (Z 0) (cR m 12 0) 3)]) := hq1
    clear hq1 hq2 hq3 kq kr
    obtain ⟨kq, kr⟩ := cellB ((hb1.out.block _ zb).trans KL.out)
    have hs1 := hb1.out.size
    rw [rounds_succ]
    go_wp2_with (first | (at_builtin; refine wpList_append_own _ rfl (.tmp 25) (.tmp 30) 94 rfl S5.heap.size 92 i0 (.agg #[.int .i64 0, .int .i64 0, .int .i64 0, .int .i64 0]) 4 32 uRws HI.out HZ0.out HZ1.out HZ2.out rfl (by decide) _ 1 [Value.int .i64 (rv (X 0) (Y 0) (Z 0) (cR m 12 0) 0), Value.int .i64 (rv (X 0) (Y 0) (Z 0) (cR m 12 0) 1), Value.int .i64 (rv (X 0) (Y 0) (Z 0) (cR m 12 0) 2), Value.int .i64 (rv (X 0) (Y 0) (Z 0) (cR m 12 0) 3)] (by rfl) (R1.out.alloc _) ⟨_, 0, none⟩ 1 1 [Value.int .i64 (rv (X 1) (Y 1) (Z 1) (cR m 12 1) 0), Value.int .i64 (rv (X 1) (Y 1) (Z 1) (cR m 12 1) 1), Value.int .i64 (rv (X 1) (Y 1) (Z 1) (cR m 12 1) 2), Value.int .i64 (rv (X 1) (Y 1) (Z 1) (cR m 12 1) 3)] (by rfl) (by rfl) (row4_new _ _ _ _ _ _) (ints4 _ _ _ _) (by decide) (by decide) (by have := hb1.out.size; simp; omega) ?_; intro v2 xw2 hq1 hq2 hq3) | fail)
    have hb2 : Hid (Below S5.heap.size S5 xw2) := (hb1.out.alloc hb1.out.size _).grown hq2 (by have := hb1.out.size; simp; omega) (fun k hk => (R1.out.lt k hk).1)
    have R2 : Hid (xw2.ownsRow S5.heap.size 92 4 v2 2 [Value.int .i64 (rv (X 0) (Y 0) (Z 0) (cR m 12 0) 0), Value.int .i64 (rv (X 0) (Y 0) (Z 0) (cR m 12 0) 1), Value.int .i64 (rv (X 0) (Y 0) (Z 0) (cR m 12 0) 2), Value.int .i64 (rv (X 0) (Y 0) (Z 0) (cR m 12 0) 3), Value.int .i64 (rv (X 1) (Y 1) (Z 1) (cR m 12 1) 0), Value.int .i64 (rv (X 1) (Y 1) (Z 1) (cR m 12 1) 1), Value.int .i64 (rv (X 1) (Y 1) (Z 1) (cR m 12 1) 2), Value.int .i64 (rv (X 1) (Y 1) (Z 1) (cR m 12 1) 3)]) := hq1
    clear hb1 R1
    clear hq1 hq2 hq3 kq kr
    obtain ⟨kq, kr⟩ := cellB ((hb2.out.block _ zb).trans KL.out)
    have hs2 := hb2.out.size
    rw [rounds_succ]
    go_wp2_with fail
    rw [rounds_succ]
    go_wp2_with (first | (at_builtin; refine wpList_append_own _ rfl (.tmp 25) (.tmp 30) 94 rfl S5.heap.size 92 i0 (.agg #[.int .i64 0, .int .i64 0, .int .i64 0, .int .i64 0]) 4 32 uRws HI.out HZ0.out HZ1.out HZ2.out rfl (by decide) _ 2 [Value.int .i64 (rv (X 0) (Y 0) (Z 0) (cR m 12 0) 0), Value.int .i64 (rv (X 0) (Y 0) (Z 0) (cR m 12 0) 1), Value.int .i64 (rv (X 0) (Y 0) (Z 0) (cR m 12 0) 2), Value.int .i64 (rv (X 0) (Y 0) (Z 0) (cR m 12 0) 3), Value.int .i64 (rv (X 1) (Y 1) (Z 1) (cR m 12 1) 0), Value.int .i64 (rv (X 1) (Y 1) (Z 1) (cR m 12 1) 1), Value.int .i64 (rv (X 1) (Y 1) (Z 1) (cR m 12 1) 2), Value.int .i64 (rv (X 1) (Y 1) (Z 1) (cR m 12 1) 3)] (by rfl) (R2.out.alloc _) ⟨_, 0, none⟩ 1 1 [Value.int .i64 (rv (X 3) (Y 3) (Z 3) (cR m 12 3) 0), Value.int .i64 (rv (X 3) (Y 3) (Z 3) (cR m 12 3) 1), Value.int .i64 (rv (X 3) (Y 3) (Z 3) (cR m 12 3) 2), Value.int .i64 (rv (X 3) (Y 3) (Z 3) (cR m 12 3) 3)] (by rfl) (by rfl) (row4_new _ _ _ _ _ _) (ints4 _ _ _ _) (by decide) (by decide) (by have := hb2.out.size; simp; omega) ?_; intro v3 xw3 hq1 hq2 hq3) | fail)
    have hb3 : Hid (Below S5.heap.size S5 xw3) := (hb2.out.alloc hb2.out.size _).grown hq2 (by have := hb2.out.size; simp; omega) (fun k hk => (R2.out.lt k hk).1)
    have R3 : Hid (xw3.ownsRow S5.heap.size 92 4 v3 3 [Value.int .i64 (rv (X 0) (Y 0) (Z 0) (cR m 12 0) 0), Value.int .i64 (rv (X 0) (Y 0) (Z 0) (cR m 12 0) 1), Value.int .i64 (rv (X 0) (Y 0) (Z 0) (cR m 12 0) 2), Value.int .i64 (rv (X 0) (Y 0) (Z 0) (cR m 12 0) 3), Value.int .i64 (rv (X 1) (Y 1) (Z 1) (cR m 12 1) 0), Value.int .i64 (rv (X 1) (Y 1) (Z 1) (cR m 12 1) 1), Value.int .i64 (rv (X 1) (Y 1) (Z 1) (cR m 12 1) 2), Value.int .i64 (rv (X 1) (Y 1) (Z 1) (cR m 12 1) 3), Value.int .i64 (rv (X 3) (Y 3) (Z 3) (cR m 12 3) 0), Value.int .i64 (rv (X 3) (Y 3) (Z 3) (cR m 12 3) 1), Value.int .i64 (rv (X 3) (Y 3) (Z 3) (cR m 12 3) 2), Value.int .i64 (rv (X 3) (Y 3) (Z 3) (cR m 12 3) 3)]) := hq1
    clear hb2 R2
    clear hq1 hq2 hq3 kq kr
    obtain ⟨kq, kr⟩ := cellB ((hb3.out.block _ zb).trans KL.out)
    have hs3 := hb3.out.size
    rw [rounds_succ]
    go_wp2_with fail
    rcases R3.out.2 with ⟨_, h9⟩ | ⟨gg, cap, cur, rfl, hg1, hg2, hg3, hg4, hg5, hg6⟩
    · exact absurd h9 (by decide)
    have hgl : gg < xw3.heap.size := (Array.getElem?_eq_some_iff.1 hg2).1
    have c0 : xw3.cell? ⟨gg, 0, none⟩ = some (Value.int .i64 (rv (X 0) (Y 0) (Z 0) (cR m 12 0) 0)) := (R3.out.cellAt 0 (by decide)).trans rfl
    have c1 : xw3.cell? ⟨gg, 1, none⟩ = some (Value.int .i64 (rv (X 0) (Y 0) (Z 0) (cR m 12 0) 1)) := (R3.out.cellAt 1 (by decide)).trans rfl
    have c2 : xw3.cell? ⟨gg, 2, none⟩ = some (Value.int .i64 (rv (X 0) (Y 0) (Z 0) (cR m 12 0) 2)) := (R3.out.cellAt 2 (by decide)).trans rfl
    have c3 : xw3.cell? ⟨gg, 3, none⟩ = some (Value.int .i64 (rv (X 0) (Y 0) (Z 0) (cR m 12 0) 3)) := (R3.out.cellAt 3 (by decide)).trans rfl
    have c4 : xw3.cell? ⟨gg, 4, none⟩ = some (Value.int .i64 (rv (X 1) (Y 1) (Z 1) (cR m 12 1) 0)) := (R3.out.cellAt 4 (by decide)).trans rfl
    have c5 : xw3.cell? ⟨gg, 5, none⟩ = some (Value.int .i64 (rv (X 1) (Y 1) (Z 1) (cR m 12 1) 1)) := (R3.out.cellAt 5 (by decide)).trans rfl
    have c6 : xw3.cell? ⟨gg, 6, none⟩ = some (Value.int .i64 (rv (X 1) (Y 1) (Z 1) (cR m 12 1) 2)) := (R3.out.cellAt 6 (by decide)).trans rfl
    have c7 : xw3.cell? ⟨gg, 7, none⟩ = some (Value.int .i64 (rv (X 1) (Y 1) (Z 1) (cR m 12 1) 3)) := (R3.out.cellAt 7 (by decide)).trans rfl
    have c8 : xw3.cell? ⟨gg, 8, none⟩ = some (Value.int .i64 (rv (X 3) (Y 3) (Z 3) (cR m 12 3) 0)) := (R3.out.cellAt 8 (by decide)).trans rfl
    have c9 : xw3.cell? ⟨gg, 9, none⟩ = some (Value.int .i64 (rv (X 3) (Y 3) (Z 3) (cR m 12 3) 1)) := (R3.out.cellAt 9 (by decide)).trans rfl
    have c10 : xw3.cell? ⟨gg, 10, none⟩ = some (Value.int .i64 (rv (X 3) (Y 3) (Z 3) (cR m 12 3) 2)) := (R3.out.cellAt 10 (by decide)).trans rfl
    have c11 : xw3.cell? ⟨gg, 11, none⟩ = some (Value.int .i64 (rv (X 3) (Y 3) (Z 3) (cR m 12 3) 3)) := (R3.out.cellAt 11 (by decide)).trans rfl
    clear hg2 hg3 hg4 hg5 hg6 kq kr
    refine wp_calm1 10 (.cells #[.int .u64 0, .int .u64 0] 100) (some 7) (by kernel_rfl) (by kernel_rfl) rfl (fun o ho a w => by cases ho; go_simp) ?_
    intro C hC
    repeat (refine wpCalm_step (fun K hK => ?_); go_simp; first | (refine hK _ ?_; clear hK K) | (apply Exists.intro; refine ⟨fun wc hw => ?_, hK _ ?_⟩; (obtain ⟨hc, hf⟩ := bcell (hC wc hw); go_simp; first | with_reducible exact HT3.out wc | exact rfl); clear hK K))
    refine wpCalm_nil ?_
    clear hC C c0 c1 c2 c3 c4 c5 c6 c7 c8 c9 c10 c11
    intro V b hX hb hblk
    simp only [List.drop_succ_cons, List.drop_zero]
    have hX5 : Below S5.heap.size S5 V := after' hb3.out hX hs3
    have n3 : w.heap.size + 1 ≠ b := by omega
    have n2 : w.heap.size ≠ b := by omega
    have kb := hblk
    have y1 : b < V.heap.size := (Array.getElem?_eq_some_iff.1 hblk).1
    have ks : V.heap[w.heap.size + 1]? = some (.cells #[.int .u64 (uh (parS X Y Z m 2)), .int .u64 (lo (parS X Y Z m 2))] 100 (0, 0)) := (hX5.block _ hz).trans H3.out
    have k2 : V.heap[w.heap.size]? = some (.cells #[.int .u64 0, .int .u64 0] 100 (0, 0)) := (hX5.block _ (by omega)).trans H2.out
    have y2 : w.heap.size + 1 < V.heap.size := Nat.lt_of_lt_of_le hz hX5.size
    have hBV : Hid (Below w.heap.size w V) := after HB.out hX5
    have wb : w.heap.size ≤ b := by omega
    clear hblk hX hX5 hb hgl hg1 R3 hb3 HT3 H3 H2 HB KL hz zb hs1 hs2 hs3
    obtain ⟨lq, lr⟩ := cellB kb
    obtain ⟨mq, mr⟩ := cellB ks
    have KB := Lib.hid kb; have KS := Lib.hid ks; have K2 := Lib.hid k2
    clear kb ks k2
    go_wp2_with fail
    first | refine wp_named ?_ | refine calls_named ?_
    intro V1 hV
    have kb : V1.heap[b]? = some (.cells #[.int .u64 (uh (det3 (rv (X 0) (Y 0) (Z 0) (cR m 12 0) 0) (rv (X 0) (Y 0) (Z 0) (cR m 12 0) 1) (rv (X 0) (Y 0) (Z 0) (cR m 12 0) 2) (rv (X 1) (Y 1) (Z 1) (cR m 12 1) 0) (rv (X 1) (Y 1) (Z 1) (cR m 12 1) 1) (rv (X 1) (Y 1) (Z 1) (cR m 12 1) 2) (rv (X 3) (Y 3) (Z 3) (cR m 12 3) 0) (rv (X 3) (Y 3) (Z 3) (cR m 12 3) 1) (rv (X 3) (Y 3) (Z 3) (cR m 12 3) 2))), .int .u64 (lo (det3 (rv (X 0) (Y 0) (Z 0) (cR m 12 0) 0) (rv (X 0) (Y 0) (Z 0) (cR m 12 0) 1) (rv (X 0) (Y 0) (Z 0) (cR m 12 0) 2) (rv (X 1) (Y 1) (Z 1) (cR m 12 1) 0) (rv (X 1) (Y 1) (Z 1) (cR m 12 1) 1) (rv (X 1) (Y 1) (Z 1) (cR m 12 1) 2) (rv (X 3) (Y 3) (Z 3) (cR m 12 3) 0) (rv (X 3) (Y 3) (Z 3) (cR m 12 3) 1) (rv (X 3) (Y 3) (Z 3) (cR m 12 3) 2)))] 100 (0, 0)) := by rw [hV]; refine Eq.trans (set_own (set_own KB.out _) _) ?_; simp
    have ks : V1.heap[w.heap.size + 1]? = some (.cells #[.int .u64 (uh (parS X Y Z m 2)), .int .u64 (lo (parS X Y Z m 2))] 100 (0, 0)) := by rw [hV]; exact (other_block n3).trans ((other_block n3).trans KS.out)
    have k2 : V1.heap[w.heap.size]? = some (.cells #[.int .u64 0, .int .u64 0] 100 (0, 0)) := by rw [hV]; exact (other_block n2).trans ((other_block n2).trans K2.out)
    have hB : Below w.heap.size w V1 := by rw [hV]; exact (hBV.out.setCell wb _).setCell wb _
    replace y1 : b < V1.heap.size := by rw [hV]; simpa using y1
    replace y2 : w.heap.size + 1 < V1.heap.size := by rw [hV]; simpa using y2
    clear hV lq lr mq mr KB KS K2 hBV HZ
    have hng := ref1_neg (det3 (rv (X 0) (Y 0) (Z 0) (cR m 12 0) 0) (rv (X 0) (Y 0) (Z 0) (cR m 12 0) 1) (rv (X 0) (Y 0) (Z 0) (cR m 12 0) 2) (rv (X 1) (Y 1) (Z 1) (cR m 12 1) 0) (rv (X 1) (Y 1) (Z 1) (cR m 12 1) 1) (rv (X 1) (Y 1) (Z 1) (cR m 12 1) 2) (rv (X 3) (Y 3) (Z 3) (cR m 12 3) 0) (rv (X 3) (Y 3) (Z 3) (cR m 12 3) 1) (rv (X 3) (Y 3) (Z 3) (cR m 12 3) 2))
    unfold w2 at hng
    refine (hng _).mono ?_; rintro e V2 ⟨rfl, hX⟩
    clear hng
    replace kb := (hX.block _ y1).trans kb; replace ks := (hX.block _ y2).trans ks; replace k2 := (hX.block _ (by omega)).trans k2; replace hB := after hB hX
    replace y1 := Nat.lt_of_lt_of_le y1 hX.size; replace y2 := Nat.lt_of_lt_of_le y2 hX.size
    clear hX
    obtain ⟨lq, lr⟩ := cellB kb
    obtain ⟨mq, mr⟩ := cellB ks
    go_wp2_with fail
    first | refine wp_named ?_ | refine calls_named ?_
    intro V3 hV
    replace ks : V3.heap[w.heap.size + 1]? = some (.cells #[.int .u64 (uh (parS X Y Z m 2)), .int .u64 (lo (parS X Y Z m 2))] 100 (0, 0)) := by rw [hV]; exact (other_block n3).trans ((other_block n3).trans ks)
    replace k2 : V3.heap[w.heap.size]? = some (.cells #[.int .u64 0, .int .u64 0] 100 (0, 0)) := by rw [hV]; exact (other_block n2).trans ((other_block n2).trans k2)
    replace kb : V3.heap[b]? = some (.cells #[.int .u64 (uh (-(det3 (rv (X 0) (Y 0) (Z 0) (cR m 12 0) 0) (rv (X 0) (Y 0) (Z 0) (cR m 12 0) 1) (rv (X 0) (Y 0) (Z 0) (cR m 12 0) 2) (rv (X 1) (Y 1) (Z 1) (cR m 12 1) 0) (rv (X 1) (Y 1) (Z 1) (cR m 12 1) 1) (rv (X 1) (Y 1) (Z 1) (cR m 12 1) 2) (rv (X 3) (Y 3) (Z 3) (cR m 12 3) 0) (rv (X 3) (Y 3) (Z 3) (cR m 12 3) 1) (rv (X 3) (Y 3) (Z 3) (cR m 12 3) 2)))), .int .u64 (lo (-(det3 (rv (X 0) (Y 0) (Z 0) (cR m 12 0) 0) (rv (X 0) (Y 0) (Z 0) (cR m 12 0) 1) (rv (X 0) (Y 0) (Z 0) (cR m 12 0) 2) (rv (X 1) (Y 1) (Z 1) (cR m 12 1) 0) (rv (X 1) (Y 1) (Z 1) (cR m 12 1) 1) (rv (X 1) (Y 1) (Z 1) (cR m 12 1) 2) (rv (X 3) (Y 3) (Z 3) (cR m 12 3) 0) (rv (X 3) (Y 3) (Z 3) (cR m 12 3) 1) (rv (X 3) (Y 3) (Z 3) (cR m 12 3) 2))))] 100 (0, 0)) := by rw [hV]; refine Eq.trans (set_own (set_own kb _) _) ?_; simp
    replace hB : Below w.heap.size w V3 := by rw [hV]; exact (hB.setCell wb _).setCell wb _
    replace y1 : b < V3.heap.size := by rw [hV]; simpa using y1
    replace y2 : w.heap.size + 1 < V3.heap.size := by rw [hV]; simpa using y2
    clear hV lq lr mq mr
    have hadd := ref1_add (parS X Y Z m 2) (-(det3 (rv (X 0) (Y 0) (Z 0) (cR m 12 0) 0) (rv (X 0) (Y 0) (Z 0) (cR m 12 0) 1) (rv (X 0) (Y 0) (Z 0) (cR m 12 0) 2) (rv (X 1) (Y 1) (Z 1) (cR m 12 1) 0) (rv (X 1) (Y 1) (Z 1) (cR m 12 1) 1) (rv (X 1) (Y 1) (Z 1) (cR m 12 1) 2) (rv (X 3) (Y 3) (Z 3) (cR m 12 3) 0) (rv (X 3) (Y 3) (Z 3) (cR m 12 3) 1) (rv (X 3) (Y 3) (Z 3) (cR m 12 3) 2)))
    unfold w2 at hadd
    refine (hadd _).mono ?_; rintro e V4 ⟨rfl, hX⟩
    clear hadd
    replace kb := (hX.block _ y1).trans kb; replace ks := (hX.block _ y2).trans ks; replace k2 := (hX.block _ (by omega)).trans k2; replace hB := after hB hX
    replace y1 := Nat.lt_of_lt_of_le y1 hX.size; replace y2 := Nat.lt_of_lt_of_le y2 hX.size
    clear hX
    obtain ⟨mq, mr⟩ := cellB ks
    have KS := Lib.hid ks; have K2 := Lib.hid k2; have HB := Lib.hid hB
    clear ks k2 hB kb
    go_wp2_with fail
    go_roundw
    case rel => first | exact ⟨2 + 1, by decide, by go_num, (by rw [Q.out]; refine Eq.trans (set_own (set_own KS.out _) _) ?_; simp), (other_block (by simp)).trans ((other_block (by simp)).trans K2.out), (HB.out.setCell (by simp) _).setCell (by simp) _, (by refine Lib.hid ?_; simpa using y2)⟩ | ((repeat apply Exists.intro); exact ⟨⟨2 + 1, by decide, by go_num, (by rw [Q.out]; refine Eq.trans (set_own (set_own KS.out _) _) ?_; simp), (other_block (by simp)).trans ((other_block (by simp)).trans K2.out), (HB.out.setCell (by simp) _).setCell (by simp) _, (by refine Lib.hid ?_; simpa using y2)⟩, rfl⟩)
    case measure => simp [intOf]
  · have k1 := (HB.out.block _ hob).trans KL0.out
    have hz := HZ.out
    by_cases hc : cR m 12 3 = 0
    case neg =>
      have q : parS X Y Z m (3 + 1) = parS X Y Z m 3 := by show parS X Y Z m 3 + (if cR m 12 3 = 0 then _ else 0) = _; rw [if_neg hc]; omega
      have Q := Lib.hid q
      replace k1 : wr.heap[ob]? = some (.cells #[Value.int .i64 (rv (X 0) (Y 0) (Z 0) (cR m 12 0) 0), Value.int .i64 (rv (X 0) (Y 0) (Z 0) (cR m 12 0) 1), Value.int .i64 (rv (X 0) (Y 0) (Z 0) (cR m 12 0) 2), Value.int .i64 (rv (X 0) (Y 0) (Z 0) (cR m 12 0) 3), Value.int .i64 (rv (X 1) (Y 1) (Z 1) (cR m 12 1) 0), Value.int .i64 (rv (X 1) (Y 1) (Z 1) (cR m 12 1) 1), Value.int .i64 (rv (X 1) (Y 1) (Z 1) (cR m 12 1) 2), Value.int .i64 (rv (X 1) (Y 1) (Z 1) (cR m 12 1) 3), Value.int .i64 (rv (X 2) (Y 2) (Z 2) (cR m 12 2) 0), Value.int .i64 (rv (X 2) (Y 2) (Z 2) (cR m 12 2) 1), Value.int .i64 (rv (X 2) (Y 2) (Z 2) (cR m 12 2) 2), Value.int .i64 (rv (X 2) (Y 2) (Z 2) (cR m 12 2) 3), Value.int .i64 (rv (X 3) (Y 3) (Z 3) (cR m 12 3) 0), Value.int .i64 (rv (X 3) (Y 3) (Z 3) (cR m 12 3) 1), Value.int .i64 (rv (X 3) (Y 3) (Z 3) (cR m 12 3) 2), Value.int .i64 0] 92 (0, 0)) := by rw [rv3n (x := X 3) (y := Y 3) (z := Z 3) hc] at k1; exact k1
      obtain ⟨kq, kr⟩ := cellB k1
      clear k1 q hc hco
      go_wp2_with fail
      go_roundw
      case rel => exact ⟨3 + 1, by decide, by go_num, (by rw [Q.out]; exact H3.out), H2, HB, hz⟩
      case measure => simp [intOf]
    replace k1 : wr.heap[ob]? = some (.cells #[Value.int .i64 (rv (X 0) (Y 0) (Z 0) (cR m 12 0) 0), Value.int .i64 (rv (X 0) (Y 0) (Z 0) (cR m 12 0) 1), Value.int .i64 (rv (X 0) (Y 0) (Z 0) (cR m 12 0) 2), Value.int .i64 (rv (X 0) (Y 0) (Z 0) (cR m 12 0) 3), Value.int .i64 (rv (X 1) (Y 1) (Z 1) (cR m 12 1) 0), Value.int .i64 (rv (X 1) (Y 1) (Z 1) (cR m 12 1) 1), Value.int .i64 (rv (X 1) (Y 1) (Z 1) (cR m 12 1) 2), Value.int .i64 (rv (X 1) (Y 1) (Z 1) (cR m 12 1) 3), Value.int .i64 (rv (X 2) (Y 2) (Z 2) (cR m 12 2) 0), Value.int .i64 (rv (X 2) (Y 2) (Z 2) (cR m 12 2) 1), Value.int .i64 (rv (X 2) (Y 2) (Z 2) (cR m 12 2) 2), Value.int .i64 (rv (X 2) (Y 2) (Z 2) (cR m 12 2) 3), Value.int .i64 (rv (X 3) (Y 3) (Z 3) (cR m 12 3) 0), Value.int .i64 (rv (X 3) (Y 3) (Z 3) (cR m 12 3) 1), Value.int .i64 (rv (X 3) (Y 3) (Z 3) (cR m 12 3) 2), Value.int .i64 1] 92 (0, 0)) := by rw [rv3 (x := X 3) (y := Y 3) (z := Z 3) hc] at k1; exact k1
    have KL := Lib.hid k1
    have q : parS X Y Z m (3 + 1) = parS X Y Z m 3 + det3 (rv (X 0) (Y 0) (Z 0) (cR m 12 0) 0) (rv (X 0) (Y 0) (Z 0) (cR m 12 0) 1) (rv (X 0) (Y 0) (Z 0) (cR m 12 0) 2) (rv (X 1) (Y 1) (Z 1) (cR m 12 1) 0) (rv (X 1) (Y 1) (Z 1) (cR m 12 1) 1) (rv (X 1) (Y 1) (Z 1) (cR m 12 1) 2) (rv (X 2) (Y 2) (Z 2) (cR m 12 2) 0) (rv (X 2) (Y 2) (Z 2) (cR m 12 2) 1) (rv (X 2) (Y 2) (Z 2) (cR m 12 2) 2) := by show parS X Y Z m 3 + (if cR m 12 3 = 0 then _ else 0) = _; rw [if_pos hc]; rfl
    have Q := Lib.hid q
    have ht3 := ref2_three (rv (X 0) (Y 0) (Z 0) (cR m 12 0) 0) (rv (X 0) (Y 0) (Z 0) (cR m 12 0) 1) (rv (X 0) (Y 0) (Z 0) (cR m 12 0) 2) (rv (X 0) (Y 0) (Z 0) (cR m 12 0) 3) (rv (X 1) (Y 1) (Z 1) (cR m 12 1) 0) (rv (X 1) (Y 1) (Z 1) (cR m 12 1) 1) (rv (X 1) (Y 1) (Z 1) (cR m 12 1) 2) (rv (X 1) (Y 1) (Z 1) (cR m 12 1) 3) (rv (X 2) (Y 2) (Z 2) (cR m 12 2) 0) (rv (X 2) (Y 2) (Z 2) (cR m 12 2) 1) (rv (X 2) (Y 2) (Z 2) (cR m 12 2) 2) (rv (X 2) (Y 2) (Z 2) (cR m 12 2) 3) ⟨rv_co (hco.out 0 (by decide)) _ _, rv_co (hco.out 0 (by decide)) _ _, rv_co (hco.out 0 (by decide)) _ _⟩ ⟨rv_co (hco.out 1 (by decide)) _ _, rv_co (hco.out 1 (by decide)) _ _, rv_co (hco.out 1 (by decide)) _ _⟩ ⟨rv_co (hco.out 2 (by decide)) _ _, rv_co (hco.out 2 (by decide)) _ _, rv_co (hco.out 2 (by decide)) _ _⟩
    unfold w2 at ht3
    have HT3 := Lib.hid ht3
    obtain ⟨kq, kr⟩ := cellB k1
    obtain ⟨S5, rfl⟩ : ∃ S, S = wr := ⟨_, rfl⟩
    have zb : ob < S5.heap.size := Nat.lt_of_lt_of_le hob HB.out.size
    clear q hc k1 ht3
    go_wp2_with fail
    refine wp_loop_rounds 5 ?_
    rw [rounds_succ]
    go_wp2_with (first | (at_builtin; refine wpList_append_own _ rfl (.tmp 25) (.tmp 30) 94 rfl S5.heap.size 92 i0 (.agg #[.int .i64 0, .int .i64 0, .int .i64 0, .int .i64 0]) 4 32 uRws HI.out HZ0.out HZ1.out HZ2.out rfl (by decide) _ 0 [] (by rfl) (World.ownsRow_nil _ _ _ _) ⟨_, 0, none⟩ 1 1 [Value.int .i64 (rv (X 0) (Y 0) (Z 0) (cR m 12 0) 0), Value.int .i64 (rv (X 0) (Y 0) (Z 0) (cR m 12 0) 1), Value.int .i64 (rv (X 0) (Y 0) (Z 0) (cR m 12 0) 2), Value.int .i64 (rv (X 0) (Y 0) (Z 0) (cR m 12 0) 3)] (by rfl) (by rfl) (row4_new _ _ _ _ _ _) (ints4 _ _ _ _) (by decide) (by decide) (by simp) ?_; intro v1 xw1 hq1 hq2 hq3) | fail)
    have hb1 : Hid (Below S5.heap.size S5 xw1) := ((Below.refl _ _).alloc (Nat.le_refl _) _).grown hq2 (by simp) (fun k hk => by cases hk)
    have R1 : Hid (xw1.ownsRow S5.heap.size 92 4 v1 1 [Value.int .i64 (rv (X 0) (Y 0) (Z 0) (cR m 12 0) 0), Value.int .i64 (rv (X 0) (Y 0) (Z 0) (cR m 12 0) 1), Value.int .i64 (rv (X 0) (Y 0) (Z 0) (cR m 12 0) 2), Value.int .i64 (rv (X 0) (Y 0) (Z 0) (cR m 12 0) 3)]) := hq1
    clear hq1 hq2 hq3 kq kr
    obtain ⟨kq, kr⟩ := cellB ((hb1.out.block _ zb).trans KL.out)
    have hs1 := hb1.out.size
    rw [rounds_succ]
    go_wp2_with (first | (at_builtin; refine wpList_append_own _ rfl (.tmp 25) (.tmp 30) 94 rfl S5.heap.size 92 i0 (.agg #[.int .i64 0, .int .i64 0, .int .i64 0, .int .i64 0]) 4 32 uRws HI.out HZ0.out HZ1.out HZ2.out rfl (by decide) _ 1 [Value.int .i64 (rv (X 0) (Y 0) (Z 0) (cR m 12 0) 0), Value.int .i64 (rv (X 0) (Y 0) (Z 0) (cR m 12 0) 1), Value.int .i64 (rv (X 0) (Y 0) (Z 0) (cR m 12 0) 2), Value.int .i64 (rv (X 0) (Y 0) (Z 0) (cR m 12 0) 3)] (by rfl) (R1.out.alloc _) ⟨_, 0, none⟩ 1 1 [Value.int .i64 (rv (X 1) (Y 1) (Z 1) (cR m 12 1) 0), Value.int .i64 (rv (X 1) (Y 1) (Z 1) (cR m 12 1) 1), Value.int .i64 (rv (X 1) (Y 1) (Z 1) (cR m 12 1) 2), Value.int .i64 (rv (X 1) (Y 1) (Z 1) (cR m 12 1) 3)] (by rfl) (by rfl) (row4_new _ _ _ _ _ _) (ints4 _ _ _ _) (by decide) (by decide) (by have := hb1.out.size; simp; omega) ?_; intro v2 xw2 hq1 hq2 hq3) | fail)
    have hb2 : Hid (Below S5.heap.size S5 xw2) := (hb1.out.alloc hb1.out.size _).grown hq2 (by have := hb1.out.size; simp; omega) (fun k hk => (R1.out.lt k hk).1)
    have R2 : Hid (xw2.ownsRow S5.heap.size 92 4 v2 2 [Value.int .i64 (rv (X 0) (Y 0) (Z 0) (cR m 12 0) 0), Value.int .i64 (rv (X 0) (Y 0) (Z 0) (cR m 12 0) 1), Value.int .i64 (rv (X 0) (Y 0) (Z 0) (cR m 12 0) 2), Value.int .i64 (rv (X 0) (Y 0) (Z 0) (cR m 12 0) 3), Value.int .i64 (rv (X 1) (Y 1) (Z 1) (cR m 12 1) 0), Value.int .i64 (rv (X 1) (Y 1) (Z 1) (cR m 12 1) 1), Value.int .i64 (rv (X 1) (Y 1) (Z 1) (cR m 12 1) 2), Value.int .i64 (rv (X 1) (Y 1) (Z 1) (cR m 12 1) 3)]) := hq1
    clear hb1 R1
    clear hq1 hq2 hq3 kq kr
    obtain ⟨kq, kr⟩ := cellB ((hb2.out.block _ zb).trans KL.out)
    have hs2 := hb2.out.size
    rw [rounds_succ]
    go_wp2_with (first | (at_builtin; refine wpList_append_own _ rfl (.tmp 25) (.tmp 30) 94 rfl S5.heap.size 92 i0 (.agg #[.int .i64 0, .int .i64 0, .int .i64 0, .int .i64 0]) 4 32 uRws HI.out HZ0.out HZ1.out HZ2.out rfl (by decide) _ 2 [Value.int .i64 (rv (X 0) (Y 0) (Z 0) (cR m 12 0) 0), Value.int .i64 (rv (X 0) (Y 0) (Z 0) (cR m 12 0) 1), Value.int .i64 (rv (X 0) (Y 0) (Z 0) (cR m 12 0) 2), Value.int .i64 (rv (X 0) (Y 0) (Z 0) (cR m 12 0) 3), Value.int .i64 (rv (X 1) (Y 1) (Z 1) (cR m 12 1) 0), Value.int .i64 (rv (X 1) (Y 1) (Z 1) (cR m 12 1) 1), Value.int .i64 (rv (X 1) (Y 1) (Z 1) (cR m 12 1) 2), Value.int .i64 (rv (X 1) (Y 1) (Z 1) (cR m 12 1) 3)] (by rfl) (R2.out.alloc _) ⟨_, 0, none⟩ 1 1 [Value.int .i64 (rv (X 2) (Y 2) (Z 2) (cR m 12 2) 0), Value.int .i64 (rv (X 2) (Y 2) (Z 2) (cR m 12 2) 1), Value.int .i64 (rv (X 2) (Y 2) (Z 2) (cR m 12 2) 2), Value.int .i64 (rv (X 2) (Y 2) (Z 2) (cR m 12 2) 3)] (by rfl) (by rfl) (row4_new _ _ _ _ _ _) (ints4 _ _ _ _) (by decide) (by decide) (by have := hb2.out.size; simp; omega) ?_; intro v3 xw3 hq1 hq2 hq3) | fail)
    have hb3 : Hid (Below S5.heap.size S5 xw3) := (hb2.out.alloc hb2.out.size _).grown hq2 (by have := hb2.out.size; simp; omega) (fun k hk => (R2.out.lt k hk).1)
    have R3 : Hid (xw3.ownsRow S5.heap.size 92 4 v3 3 [Value.int .i64 (rv (X 0) (Y 0) (Z 0) (cR m 12 0) 0), Value.int .i64 (rv (X 0) (Y 0) (Z 0) (cR m 12 0) 1), Value.int .i64 (rv (X 0) (Y 0) (Z 0) (cR m 12 0) 2), Value.int .i64 (rv (X 0) (Y 0) (Z 0) (cR m 12 0) 3), Value.int .i64 (rv (X 1) (Y 1) (Z 1) (cR m 12 1) 0), Value.int .i64 (rv (X 1) (Y 1) (Z 1) (cR m 12 1) 1), Value.int .i64 (rv (X 1) (Y 1) (Z 1) (cR m 12 1) 2), Value.int .i64 (rv (X 1) (Y 1) (Z 1) (cR m 12 1) 3), Value.int .i64 (rv (X 2) (Y 2) (Z 2) (cR m 12 2) 0), Value.int .i64 (rv (X 2) (Y 2) (Z 2) (cR m 12 2) 1), Value.int .i64 (rv (X 2) (Y 2) (Z 2) (cR m 12 2) 2), Value.int .i64 (rv (X 2) (Y 2) (Z 2) (cR m 12 2) 3)]) := hq1
    clear hb2 R2
    clear hq1 hq2 hq3 kq kr
    obtain ⟨kq, kr⟩ := cellB ((hb3.out.block _ zb).trans KL.out)
    have hs3 := hb3.out.size
    rw [rounds_succ]
    go_wp2_with fail
    rw [rounds_succ]
    go_wp2_with fail
    rcases R3.out.2 with ⟨_, h9⟩ | ⟨gg, cap, cur, rfl, hg1, hg2, hg3, hg4, hg5, hg6⟩
    · exact absurd h9 (by decide)
    have hgl : gg < xw3.heap.size := (Array.getElem?_eq_some_iff.1 hg2).1
    have c0 : xw3.cell? ⟨gg, 0, none⟩ = some (Value.int .i64 (rv (X 0) (Y 0) (Z 0) (cR m 12 0) 0)) := (R3.out.cellAt 0 (by decide)).trans rfl
    have c1 : xw3.cell? ⟨gg, 1, none⟩ = some (Value.int .i64 (rv (X 0) (Y 0) (Z 0) (cR m 12 0) 1)) := (R3.out.cellAt 1 (by decide)).trans rfl
    have c2 : xw3.cell? ⟨gg, 2, none⟩ = some (Value.int .i64 (rv (X 0) (Y 0) (Z 0) (cR m 12 0) 2)) := (R3.out.cellAt 2 (by decide)).trans rfl
    have c3 : xw3.cell? ⟨gg, 3, none⟩ = some (Value.int .i64 (rv (X 0) (Y 0) (Z 0) (cR m 12 0) 3)) := (R3.out.cellAt 3 (by decide)).trans rfl
    have c4 : xw3.cell? ⟨gg, 4, none⟩ = some (Value.int .i64 (rv (X 1) (Y 1) (Z 1) (cR m 12 1) 0)) := (R3.out.cellAt 4 (by decide)).trans rfl
    have c5 : xw3.cell? ⟨gg, 5, none⟩ = some (Value.int .i64 (rv (X 1) (Y 1) (Z 1) (cR m 12 1) 1)) := (R3.out.cellAt 5 (by decide)).trans rfl
    have c6 : xw3.cell? ⟨gg, 6, none⟩ = some (Value.int .i64 (rv (X 1) (Y 1) (Z 1) (cR m 12 1) 2)) := (R3.out.cellAt 6 (by decide)).trans rfl
    have c7 : xw3.cell? ⟨gg, 7, none⟩ = some (Value.int .i64 (rv (X 1) (Y 1) (Z 1) (cR m 12 1) 3)) := (R3.out.cellAt 7 (by decide)).trans rfl
    have c8 : xw3.cell? ⟨gg, 8, none⟩ = some (Value.int .i64 (rv (X 2) (Y 2) (Z 2) (cR m 12 2) 0)) := (R3.out.cellAt 8 (by decide)).trans rfl
    have c9 : xw3.cell? ⟨gg, 9, none⟩ = some (Value.int .i64 (rv (X 2) (Y 2) (Z 2) (cR m 12 2) 1)) := (R3.out.cellAt 9 (by decide)).trans rfl
    have c10 : xw3.cell? ⟨gg, 10, none⟩ = some (Value.int .i64 (rv (X 2) (Y 2) (Z 2) (cR m 12 2) 2)) := (R3.out.cellAt 10 (by decide)).trans rfl
    have c11 : xw3.cell? ⟨gg, 11, none⟩ = some (Value.int .i64 (rv (X 2) (Y 2) (Z 2) (cR m 12 2) 3)) := (R3.out.cellAt 11 (by decide)).trans rfl
    clear hg2 hg3 hg4 hg5 hg6 kq kr
    refine wp_calm1 10 (.cells #[.int .u64 0, .int .u64 0] 100) (some 7) (by kernel_rfl) (by kernel_rfl) rfl (fun o ho a w => by cases ho; go_simp) ?_
    intro C hC
    repeat (refine wpCalm_step (fun K hK => ?_); go_simp; first | (refine hK _ ?_; clear hK K) | (apply Exists.intro; refine ⟨fun wc hw => ?_, hK _ ?_⟩; (obtain ⟨hc, hf⟩ := bcell (hC wc hw); go_simp; first | with_reducible exact HT3.out wc | exact rfl); clear hK K))
    refine wpCalm_nil ?_
    clear hC C c0 c1 c2 c3 c4 c5 c6 c7 c8 c9 c10 c11
    intro V b hX hb hblk
    simp only [List.drop_succ_cons, List.drop_zero]
    have hX5 : Below S5.heap.size S5 V := after' hb3.out hX hs3
    have n3 : w.heap.size + 1 ≠ b := by omega
    have n2 : w.heap.size ≠ b := by omega
    have kb := hblk
    have y1 : b < V.heap.size := (Array.getElem?_eq_some_iff.1 hblk).1
    have ks : V.heap[w.heap.size + 1]? = some (.cells #[.int .u64 (uh (parS X Y Z m 3)), .int .u64 (lo (parS X Y Z m 3))] 100 (0, 0)) := (hX5.block _ hz).trans H3.out
    have k2 : V.heap[w.heap.size]? = some (.cells #[.int .u64 0, .int .u64 0] 100 (0, 0)) := (hX5.block _ (by omega)).trans H2.out
    have y2 : w.heap.size + 1 < V.heap.size := Nat.lt_of_lt_of_le hz hX5.size
    have hBV : Hid (Below w.heap.size w V) := after HB.out hX5
    have wb : w.heap.size ≤ b := by omega
    clear hblk hX hX5 hb hgl hg1 R3 hb3 HT3 H3 H2 HB KL hz zb hs1 hs2 hs3
    obtain ⟨lq, lr⟩ := cellB kb
    obtain ⟨mq, mr⟩ := cellB ks
    have KB := Lib.hid kb; have KS := Lib.hid ks; have K2 := Lib.hid k2
    clear kb ks k2
    go_wp2_with fail
    first | refine wp_named ?_ | refine calls_named ?_
    intro V1 hV
    have kb : V1.heap[b]? = some (.cells #[.int .u64 (uh (det3 (rv (X 0) (Y 0) (Z 0) (cR m 12 0) 0) (rv (X 0) (Y 0) (Z 0) (cR m 12 0) 1) (rv (X 0) (Y 0) (Z 0) (cR m 12 0) 2) (rv (X 1) (Y 1) (Z 1) (cR m 12 1) 0) (rv (X 1) (Y 1) (Z 1) (cR m 12 1) 1) (rv (X 1) (Y 1) (Z 1) (cR m 12 1) 2) (rv (X 2) (Y 2) (Z 2) (cR m 12 2) 0) (rv (X 2) (Y 2) (Z 2) (cR m 12 2) 1) (rv (X 2) (Y 2) (Z 2) (cR m 12 2) 2))), .int .u64 (lo (det3 (rv (X 0) (Y 0) (Z 0) (cR m 12 0) 0) (rv (X 0) (Y 0) (Z 0) (cR m 12 0) 1) (rv (X 0) (Y 0) (Z 0) (cR m 12 0) 2) (rv (X 1) (Y 1) (Z 1) (cR m 12 1) 0) (rv (X 1) (Y 1) (Z 1) (cR m 12 1) 1) (rv (X 1) (Y 1) (Z 1) (cR m 12 1) 2) (rv (X 2) (Y 2) (Z 2) (cR m 12 2) 0) (rv (X 2) (Y 2) (Z 2) (cR m 12 2) 1) (rv (X 2) (Y 2) (Z 2) (cR m 12 2) 2)))] 100 (0, 0)) := by rw [hV]; refine Eq.trans (set_own (set_own KB.out _) _) ?_; simp
    have ks : V1.heap[w.heap.size + 1]? = some (.cells #[.int .u64 (uh (parS X Y Z m 3)), .int .u64 (lo (parS X Y Z m 3))] 100 (0, 0)) := by rw [hV]; exact (other_block n3).trans ((other_block n3).trans KS.out)
    have k2 : V1.heap[w.heap.size]? = some (.cells #[.int .u64 0, .int .u64 0] 100 (0, 0)) := by rw [hV]; exact (other_block n2).trans ((other_block n2).trans K2.out)
    have hB : Below w.heap.size w V1 := by rw [hV]; exact (hBV.out.setCell wb _).setCell wb _
    replace y1 : b < V1.heap.size := by rw [hV]; simpa using y1
    replace y2 : w.heap.size + 1 < V1.heap.size := by rw [hV]; simpa using y2
    clear hV lq lr mq mr KB KS K2 hBV HZ
    have hadd := ref1_add (parS X Y Z m 3) (det3 (rv (X 0) (Y 0) (Z 0) (cR m 12 0) 0) (rv (X 0) (Y 0) (Z 0) (cR m 12 0) 1) (rv (X 0) (Y 0) (Z 0) (cR m 12 0) 2) (rv (X 1) (Y 1) (Z 1) (cR m 12 1) 0) (rv (X 1) (Y 1) (Z 1) (cR m 12 1) 1) (rv (X 1) (Y 1) (Z 1) (cR m 12 1) 2) (rv (X 2) (Y 2) (Z 2) (cR m 12 2) 0) (rv (X 2) (Y 2) (Z 2) (cR m 12 2) 1) (rv (X 2) (Y 2) (Z 2) (cR m 12 2) 2))
    unfold w2 at hadd
    refine (hadd _).mono ?_; rintro e V4 ⟨rfl, hX⟩
    clear hadd
    replace kb := (hX.block _ y1).trans kb; replace ks := (hX.block _ y2).trans ks; replace k2 := (hX.block _ (by omega)).trans k2; replace hB := after hB hX
    replace y1 := Nat.lt_of_lt_of_le y1 hX.size; replace y2 := Nat.lt_of_lt_of_le y2 hX.size
    clear hX
    obtain ⟨mq, mr⟩ := cellB ks
    have KS := Lib.hid ks; have K2 := Lib.hid k2; have HB := Lib.hid hB
    clear ks k2 hB kb
    go_wp2_with fail
    go_roundw
    case rel => first | exact ⟨3 + 1, by decide, by go_num, (by rw [Q.out]; refine Eq.trans (set_own (set_own KS.out _) _) ?_; simp), (other_block (by simp)).trans ((other_block (by simp)).trans K2.out), (HB.out.setCell (by simp) _).setCell (by simp) _, (by refine Lib.hid ?_; simpa using y2)⟩ | ((repeat apply Exists.intro); exact ⟨⟨3 + 1, by decide, by go_num, (by rw [Q.out]; refine Eq.trans (set_own (set_own KS.out _) _) ?_; simp), (other_block (by simp)).trans ((other_block (by simp)).trans K2.out), (HB.out.setCell (by simp) _).setCell (by simp) _, (by refine Lib.hid ?_; simpa using y2)⟩, rfl⟩)
    case measure => simp [intOf]
end Go.Proofs.Ytdglijdiiggdgaa
