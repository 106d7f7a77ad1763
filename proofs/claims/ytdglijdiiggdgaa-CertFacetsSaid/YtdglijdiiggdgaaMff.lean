import Derived.Test.YtdglijdiiggdgaaMfe
namespace Go.Proofs.Ytdglijdiiggdgaa
open Go.RowKit Go.Maps Geo
theorem infoRw : (Try.prog.info? 92).map (fun i => (i.zero, i.size, i.bytes)) = some (some (.agg #[.int .i64 0, .int .i64 0, .int .i64 0, .int .i64 0]), 4, 32) := by kernel_rfl
theorem uRws : Try.prog.underlying 94 = some (.slice 92) := by kernel_rfl
theorem row4_new (w : World) (a b c d : Value) (T : TypeId) : ∀ j u, [a, b, c, d][j]? = some u → (w.alloc (.cells #[a, b, c, d] T (0, 0))).cell? ((⟨w.heap.size, 0, none⟩ : Addr).add j) = some u := by
  intro j u h
  obtain ⟨kq, kr⟩ := cellB (w := w.alloc (.cells #[a, b, c, d] T (0, 0))) (b := w.heap.size) (heap_at rfl)
  rw [show (⟨w.heap.size, 0, none⟩ : Addr).add j = ⟨w.heap.size, j, none⟩ by unfold Addr.add; split <;> simp_all, kq]
  simpa using h
theorem ints4 (a b c d : Int) : ∀ u ∈ [Value.int .i64 a, .int .i64 b, .int .i64 c, .int .i64 d], u.oneCell' = true := by
  intro u hu
  simp only [List.mem_cons, List.not_mem_nil, or_false] at hu
  rcases hu with rfl | rfl | rfl | rfl <;> rfl
theorem rv_co {x y z : Int} (hx : Co x ∧ Co y ∧ Co z) (c i : Nat) : Co (rv x y z c i) := by
  unfold Co at hx ⊢
  unfold rv
  (repeat' split) <;> omega
set_option maxRecDepth 100000 in
set_option maxHeartbeats 16000000 in
theorem ref2_four (X Y Z : Nat → Int) (m ob c0 : Nat) (hco : Hid (∀ s, s < 4 → Co (X s) ∧ Co (Y s) ∧ Co (Z s))) (w : World) (hl : Hid (w.heap[ob]? = some (.cells (rowsA X Y Z m 12 4) 92 (0, 0)))) :
    Calls Try.prog 56 #[.slice (some ⟨ob, 0, none⟩) 4 c0] w fun e w' => e = .returned (w2 (parS X Y Z m 4)) ∧ Below w.heap.size w w' := by
  have kl : w.heap[ob]? = some (.cells #[Value.int .i64 (rv (X 0) (Y 0) (Z 0) (cR m 12 0) 0), Value.int .i64 (rv (X 0) (Y 0) (Z 0) (cR m 12 0) 1), Value.int .i64 (rv (X 0) (Y 0) (Z 0) (cR m 12 0) 2), Value.int .i64 (rv (X 0) (Y 0) (Z 0) (cR m 12 0) 3), Value.int .i64 (rv (X 1) (Y 1) (Z 1) (cR m 12 1) 0), Value.int .i64 (rv (X 1) (Y 1) (Z 1) (cR m 12 1) 1), Value.int .i64 (rv (X 1) (Y 1) (Z 1) (cR m 12 1) 2), Value.int .i64 (rv (X 1) (Y 1) (Z 1) (cR m 12 1) 3), Value.int .i64 (rv (X 2) (Y 2) (Z 2) (cR m 12 2) 0), Value.int .i64 (rv (X 2) (Y 2) (Z 2) (cR m 12 2) 1), Value.int .i64 (rv (X 2) (Y 2) (Z 2) (cR m 12 2) 2), Value.int .i64 (rv (X 2) (Y 2) (Z 2) (cR m 12 2) 3), Value.int .i64 (rv (X 3) (Y 3) (Z 3) (cR m 12 3) 0), Value.int .i64 (rv (X 3) (Y 3) (Z 3) (cR m 12 3) 1), Value.int .i64 (rv (X 3) (Y 3) (Z 3) (cR m 12 3) 2), Value.int .i64 (rv (X 3) (Y 3) (Z 3) (cR m 12 3) 3)] 92 (0, 0)) := hl.out
  have hob : ob < w.heap.size := (Array.getElem?_eq_some_iff.1 kl).1
  have KL0 := Lib.hid kl
  unfold w2
  clear kl
  go_enter Try.func56, Try.ntmps56
  go_wp2_with fail
  first | refine wp_named ?_ | refine calls_named ?_
  intro W hW
  have k3 : W.heap[w.heap.size + 1]? = some (.cells #[.int .u64 (uh (parS X Y Z m 0)), .int .u64 (lo (parS X Y Z m 0))] 100 (0, 0)) := by rw [hW]; exact heap_at (by simp)
  have k2 : W.heap[w.heap.size]? = some (.cells #[.int .u64 0, .int .u64 0] 100 (0, 0)) := by rw [hW]; exact (heap_old (by simp)).trans (heap_at rfl)
  have hB : Below w.heap.size w W := by rw [hW]; go_grown
  have hz : w.heap.size + 1 < W.heap.size := by rw [hW]; simp
  clear hW
  obtain ⟨i0, hi0, hiz0, hiz1, hiz2⟩ := info_parts infoRw
  have HI := Lib.hid hi0; have HZ0 := Lib.hid hiz0; have HZ1 := Lib.hid hiz1; have HZ2 := Lib.hid hiz2
  clear hi0 hiz0 hiz1 hiz2
  go_loopw [4] (fun u wx => ∃ r : Nat, r ≤ 4 ∧ u = .int .i64 r ∧ Hid (wx.heap[w.heap.size + 1]? = some (.cells #[.int .u64 (uh (parS X Y Z m r)), .int .u64 (lo (parS X Y Z m r))] 100 (0, 0))) ∧ Hid (wx.heap[w.heap.size]? = some (.cells #[.int .u64 0, .int .u64 0] 100 (0, 0))) ∧ Hid (Below w.heap.size w wx) ∧ Hid (w.heap.size + 1 < wx.heap.size))
    (fun u _ => 4 - (intOf u).toNat)
  case atStart => exact ⟨0, by decide, rfl, k3, k2, hB, hz⟩
  clear k3 k2 hB hz
  obtain ⟨r, hr, rfl, H3, H2, HB, HZ⟩ := hrel
  have hr4 : r = 4 ∨ r = 0 ∨ r = 1 ∨ r = 2 ∨ r = 3 := by omega
  clear hr
  rcases hr4 with rfl | rfl | rfl | rfl | rfl
  · have k3 := H3.out; have k2 := H2.out
    obtain ⟨kq, kr⟩ := cellB k3
    obtain ⟨mq, mr⟩ := cellB k2
    have hz := HZ.out; have hB := HB.out
    clear k3 k2 H3 H2 HZ HB
    go_wp2_with fail
    refine bodyPost_ret (v := .agg #[.int .u64 (uh (parS X Y Z m 4)), .int .u64 (lo (parS X Y Z m 4))]) (by simp [results, Try.results56, go_sem, mq]) rfl ⟨rfl, by go_grown⟩
  · have k1 := (HB.out.block _ hob).trans KL0.out
    have hz := HZ.out
    by_cases hc : cR m 12 0 = 0
    case neg =>
      have q : parS X Y Z m (0 + 1) = parS X Y Z m 0 := by show parS X Y Z m 0 + (if cR m 12 0 = 0 then _ else 0) = _; rw [if_neg hc]; omega
      have Q := Lib.hid q
      replace k1 : wr.heap[ob]? = some (.cells #[Value.int .i64 (rv (X 0) (Y 0) (Z 0) (cR m 12 0) 0), Value.int .i64 (rv (X 0) (Y 0) (Z 0) (cR m 12 0) 1), Value.int .i64 (rv (X 0) (Y 0) (Z 0) (cR m 12 0) 2), Value.int .i64 0, Value.int .i64 (rv (X 1) (Y 1) (Z 1) (cR m 12 1) 0), Value.int .i64 (rv (X 1) (Y 1) (Z 1) (cR m 12 1) 1), Value.int .i64 (rv (X 1) (Y 1) (Z 1) (cR m 12 1) 2), Value.int .i64 (rv (X 1) (Y 1) (Z 1) (cR m 12 1) 3), Value.int .i64 (rv (X 2) (Y 2) (Z 2) (cR m 12 2) 0), Value.int .i64 (rv (X 2) (Y 2) (Z 2) (cR m 12 2) 1), Value.int .i64 (rv (X 2) (Y 2) (Z 2) (cR m 12 2) 2), Value.int .i64 (rv (X 2) (Y 2) (Z 2) (cR m 12 2) 3), Value.int .i64 (rv (X 3) (Y 3) (Z 3) (cR m 12 3) 0), Value.int .i64 (rv (X 3) (Y 3) (Z 3) (cR m 12 3) 1), Value.int .i64 (rv (X 3) (Y 3) (Z 3) (cR m 12 3) 2), Value.int .i64 (rv (X 3) (Y 3) (Z 3) (cR m 12 3) 3)] 92 (0, 0)) := by rw [rv3n (x := X 0) (y := Y 0) (z := Z 0) hc] at k1; exact k1
      obtain ⟨kq, kr⟩ := cellB k1
      clear k1 q hc hco
      go_wp2_with fail
      go_roundw
      case rel => exact ⟨0 + 1, by decide, by go_num, (by rw [Q.out]; exact H3.out), H2, HB, hz⟩
      case measure => simp [intOf]
    replace k1 : wr.heap[ob]? = some (.cells #[Value.int .i64 (rv (X 0) (Y 0) (Z 0) (cR m 12 0) 0), Value.int .i64 (rv (X 0) (Y 0) (Z 0) (cR m 12 0) 1), Value.int .i64 (rv (X 0) (Y 0) (Z 0) (cR m 12 0) 2), Value.int .i64 1, Value.int .i64 (rv (X 1) (Y 1) (Z 1) (cR m 12 1) 0), Value.int .i64 (rv (X 1) (Y 1) (Z 1) (cR m 12 1) 1), Value.int .i64 (rv (X 1) (Y 1) (Z 1) (cR m 12 1) 2), Value.int .i64 (rv (X 1) (Y 1) (Z 1) (cR m 12 1) 3), Value.int .i64 (rv (X 2) (Y 2) (Z 2) (cR m 12 2) 0), Value.int .i64 (rv (X 2) (Y 2) (Z 2) (cR m 12 2) 1), Value.int .i64 (rv (X 2) (Y 2) (Z 2) (cR m 12 2) 2), Value.int .i64 (rv (X 2) (Y 2) (Z 2) (cR m 12 2) 3), Value.int .i64 (rv (X 3) (Y 3) (Z 3) (cR m 12 3) 0), Value.int .i64 (rv (X 3) (Y 3) (Z 3) (cR m 12 3) 1), Value.int .i64 (rv (X 3) (Y 3) (Z 3) (cR m 12 3) 2), Value.int .i64 (rv (X 3) (Y 3) (Z 3) (cR m 12 3) 3)] 92 (0, 0)) := by rw [rv3 (x := X 0) (y := Y 0) (z := Z 0) hc] at k1; exact k1
    have KL := Lib.hid k1
    have q : parS X Y Z m (0 + 1) = parS X Y Z m 0 + -(det3 (rv (X 1) (Y 1) (Z 1) (cR m 12 1) 0) (rv (X 1) (Y 1) (Z 1) (cR m 12 1) 1) (rv (X 1) (Y 1) (Z 1) (cR m 12 1) 2) (rv (X 2) (Y 2) (Z 2) (cR m 12 2) 0) (rv (X 2) (Y 2) (Z 2) (cR m 12 2) 1) (rv (X 2) (Y 2) (Z 2) (cR m 12 2) 2) (rv (X 3) (Y 3) (Z 3) (cR m 12 3) 0) (rv (X 3) (Y 3) (Z 3) (cR m 12 3) 1) (rv (X 3) (Y 3) (Z 3) (cR m 12 3) 2)) := by show parS X Y Z m 0 + (if cR m 12 0 = 0 then _ else 0) = _; rw [if_pos hc]; rfl
    have Q := Lib.hid q
    have ht3 := ref2_three (rv (X 1) (Y 1) (Z 1) (cR m 12 1) 0) (rv (X 1) (Y 1) (Z 1) (cR m 12 1) 1) (rv (X 1) (Y 1) (Z 1) (cR m 12 1) 2) (rv (X 1) (Y 1) (Z 1) (cR m 12 1) 3) (rv (X 2) (Y 2) (Z 2) (cR m 12 2) 0) (rv (X 2) (Y 2) (Z 2) (cR m 12 2) 1) (rv (X 2) (Y 2) (Z 2) (cR m 12 2) 2) (rv (X 2) (Y 2) (Z 2) (cR m 12 2) 3) (rv (X 3) (Y 3) (Z 3) (cR m 12 3) 0) (rv (X 3) (Y 3) (Z 3) (cR m 12 3) 1) (rv (X 3) (Y 3) (Z 3) (cR m 12 3) 2) (rv (X 3) (Y 3) (Z 3) (cR m 12 3) 3) ⟨rv_co (hco.out 1 (by decide)) _ _, rv_co (hco.out 1 (by decide)) _ _, rv_co (hco.out 1 (by decide)) _ _⟩ ⟨rv_co (hco.out 2 (by decide)) _ _, rv_co (hco.out 2 (by decide)) _ _, rv_co (hco.out 2 (by decide)) _ _⟩ ⟨rv_co (hco.out 3 (by decide)) _ _, rv_co (hco.out 3 (by decide)) _ _, rv_co (hco.out 3 (by decide)) _ _⟩
    unfold w2 at ht3
    have HT3 := Lib.hid ht3
    obtain ⟨kq, kr⟩ := cellB k1
    obtain ⟨S5, rfl⟩ : ∃ S, S = wr := ⟨_, rfl⟩
    have zb : ob < S5.heap.size := Nat.lt_of_lt_of_le hob HB.out.size
    clear q hc k1 ht3
    go_wp2_with fail
    refine wp_loop_rounds 5 ?_
    rw [rounds_succ]
    go_wp2_with fail
    rw [rounds_succ]
    go_wp2_with (first | (at_builtin; refine wpList_append_own _ rfl (.tmp 25) (.tmp 30) 94 rfl S5.heap.size 92 i0 (.agg #[.int .i64 0, .int .i64 0, .int .i64 0, .int .i64 0]) 4 32 uRws HI.out HZ0.out HZ1.out HZ2.out rfl (by decide) _ 0 [] (by rfl) (World.ownsRow_nil _ _ _ _) ⟨_, 0, none⟩ 1 1 [Value.int .i64 (rv (X 1) (Y 1) (Z 1) (cR m 12 1) 0), Value.int .i64 (rv (X 1) (Y 1) (Z 1) (cR m 12 1) 1), Value.int .i64 (rv (X 1) (Y 1) (Z 1) (cR m 12 1) 2), Value.int .i64 (rv (X 1) (Y 1) (Z 1) (cR m 12 1) 3)] (by rfl) (by rfl) (row4_new _ _ _ _ _ _) (ints4 _ _ _ _) (by decide) (by decide) (by simp) ?_; intro v1 xw1 hq1 hq2 hq3) | fail)
    have hb1 : Hid (Below S5.heap.size S5 xw1) := ((Below.refl _ _).alloc (Nat.le_refl _) _).grown hq2 (by simp) (fun k hk => by cases hk)
    have R1 : Hid (xw1.ownsRow S5.heap.size 92 4 v1 1 [Value.int .i64 (rv (X 1) (Y 1) (Z 1) (cR m 12 1) 0), Value.int .i64 (rv (X 1) (Y 1) (Z 1) (cR m 12 1) 1), Value.int .i64 (rv (X 1) (Y 1) (Z 1) (cR m 12 1) 2), Value.int .i64 (rv (X 1) (Y 1) (Z 1) (cR m 12 1) 3)]) := hq1
    clear hq1 hq2 hq3 kq kr
    obtain ⟨kq, kr⟩ := cellB ((hb1.out.block _ zb).trans KL.out)
    have hs1 := hb1.out.size
    rw [rounds_succ]
    go_wp2_with (first | (at_builtin; refine wpList_append_own _ rfl (.tmp 25) (.tmp 30) 94 rfl S5.heap.size 92 i0 (.agg #[.int .i64 0, .int .i64 0, .int .i64 0, .int .i64 0]) 4 32 uRws HI.out HZ0.out HZ1.out HZ2.out rfl (by decide) _ 1 [Value.int .i64 (rv (X 1) (Y 1) (Z 1) (cR m 12 1) 0), Value.int .i64 (rv (X 1) (Y 1) (Z 1) (cR m 12 1) 1), Value.int .i64 (rv (X 1) (Y 1) (Z 1) (cR m 12 1) 2), Value.int .i64 (rv (X 1) (Y 1) (Z 1) (cR m 12 1) 3)] (by rfl) (R1.out.alloc _) ⟨_, 0, none⟩ 1 1 [Value.int .i64 (rv (X 2) (Y 2) (Z 2) (cR m 12 2) 0), Value.int .i64 (rv (X 2) (Y 2) (Z 2) (cR m 12 2) 1), Value.int .i64 (rv (X 2) (Y 2) (Z 2) (cR m 12 2) 2), Value.int .i64 (rv (X 2) (Y 2) (Z 2) (cR m 12 2) 3)] (by rfl) (by rfl) (row4_new _ _ _ _ _ _) (ints4 _ _ _ _) (by decide) (by decide) (by have := hb1.out.size; simp; omega) ?_; intro v2 xw2 hq1 hq2 hq3) | fail)
    have hb2 : Hid (Below S5.heap.size S5 xw2) := (hb1.out.alloc hb1.out.size _).grown hq2 (by have := hb1.out.size; simp; omega) (fun k hk => (R1.out.lt k hk).1)
    have R2 : Hid (xw2.ownsRow S5.heap.size 92 4 v2 2 [Value.int .i64 (rv (X 1) (Y 1) (Z 1) (cR m 12 1) 0), Value.int .i64 (rv (X 1) (Y 1) (Z 1) (cR m 12 1) 1), Value.int .i64 (rv (X 1) (Y 1) (Z 1) (cR m 12 1) 2), Value.int .i64 (rv (X 1) (Y 1) (Z 1) (cR m 12 1) 3), Value.int .i64 (rv (X 2) (Y 2) (Z 2) (cR m 12 2) 0), Value.int .i64 (rv (X 2) (Y 2) (Z 2) (cR m 12 2) 1), Value.int .i64 (rv (X 2) (Y 2) (Z 2) (cR m 12 2) 2), Value.int .i64 (rv (X 2) (Y 2) (Z 2) (cR m 12 2) 3)]) := hq1
    clear hb1 R1
    clear hq1 hq2 hq3 kq kr
    obtain ⟨kq, kr⟩ := cellB ((hb2.out.block _ zb).trans KL.out)
    have hs2 := hb2.out.size
    rw [rounds_succ]
    go_wp2_with (first | (at_builtin; refine wpList_append_own _ rfl (.tmp 25) (.tmp 30) 94 rfl S5.heap.size 92 i0 (.agg #[.int .i64 0, .int .i64 0, .int .i64 0, .int .i64 0]) 4 32 uRws HI.out HZ0.out HZ1.out HZ2.out rfl (by decide) _ 2 [Value.int .i64 (rv (X 1) (Y 1) (Z 1) (cR m 12 1) 0), Value.int .i64 (rv (X 1) (Y 1) (Z 1) (cR m 12 1) 1), Value.int .i64 (rv (X 1) (Y 1) (Z 1) (cR m 12 1) 2), Value.int .i64 (rv (X 1) (Y 1) (Z 1) (cR m 12 1) 3), Value.int .i64 (rv (X 2) (Y 2) (Z 2) (cR m 12 2) 0), Value.int .i64 (rv (X 2) (Y 2) (Z 2) (cR m 12 2) 1), Value.int .i64 (rv (X 2) (Y 2) (Z 2) (cR m 12 2) 2), Value.int .i64 (rv (X 2) (Y 2) (Z 2) (cR m 12 2) 3)] (by rfl) (R2.out.alloc _) ⟨_, 0, none⟩ 1 1 [Value.int .i64 (rv (X 3) (Y 3) (Z 3) (cR m 12 3) 0), Value.int .i64 (rv (X 3) (Y 3) (Z 3) (cR m 12 3) 1), Value.int .i64 (rv (X 3) (Y 3) (Z 3) (cR m 12 3) 2), Value.int .i64 (rv (X 3) (Y 3) (Z 3) (cR m 12 3) 3)] (by rfl) (by rfl) (row4_new _ _ _ _ _ _) (ints4 _ _ _ _) (by decide) (by decide) (by have := hb2.out.size; simp; omega) ?_; intro v3 xw3 hq1 hq2 hq3) | fail)
    have hb3 : Hid (Below S5.heap.size S5 xw3) := (hb2.out.alloc hb2.out.size _).grown hq2 (by have := hb2.out.size; simp; omega) (fun k hk => (R2.out.lt k hk).1)
    have R3 : Hid (xw3.ownsRow S5.heap.size 92 4 v3 3 [Value.int .i64 (rv (X 1) (Y 1) (Z 1) (cR m 12 1) 0), Value.int .i64 (rv (X 1) (Y 1) (Z 1) (cR m 12 1) 1), Value.int .i64 (rv (X 1) (Y 1) (Z 1) (cR m 12 1) 2), Value.int .i64 (rv (X 1) (Y 1) (Z 1) (cR m 12 1) 3), Value.int .i64 (rv (X 2) (Y 2) (Z 2) (cR m 12 2) 0), Value.int .i64 (rv (X 2) (Y 2) (Z 2) (cR m 12 2) 1), Value.int .i64 (rv (X 2) (Y 2) (Z 2) (cR m 12 2) 2), Value.int .i64 (rv (X 2) (Y 2) (Z 2) (cR m 12 2) 3), Value.int .i64 (rv (X 3) (Y 3) (Z 3) (cR m 12 3) 0), Value.int .i64 (rv (X 3) (Y 3) (Z 3) (cR m 12 3) 1), Value.int .i64 (rv (X 3) (Y 3) (Z 3) (cR m 12 3) 2), Value.int .i64 (rv (X 3) (Y 3) (Z 3) (cR m 12 3) 3)]) := hq1
    clear hb2 R2
    clear hq1 hq2 hq3 kq kr
    obtain ⟨kq, kr⟩ := cellB ((hb3.out.block _ zb).trans KL.out)
    have hs3 := hb3.out.size
    rw [rounds_succ]
    go_wp2_with fail
    rcases R3.out.2 with ⟨_, h9⟩ | ⟨gg, cap, cur, rfl, hg1, hg2, hg3, hg4, hg5, hg6⟩
    · exact absurd h9 (by decide)
    have hgl : gg < xw3.heap.size := (Array.getElem?_eq_some_iff.1 hg2).1
    have c0 : xw3.cell? ⟨gg, 0, none⟩ = some (Value.int .i64 (rv (X 1) (Y 1) (Z 1) (cR m 12 1) 0)) := (R3.out.cellAt 0 (by decide)).trans rfl
    have c1 : xw3.cell? ⟨gg, 1, none⟩ = some (Value.int .i64 (rv (X 1) (Y 1) (Z 1) (cR m 12 1) 1)) := (R3.out.cellAt 1 (by decide)).trans rfl
    have c2 : xw3.cell? ⟨gg, 2, none⟩ = some (Value.int .i64 (rv (X 1) (Y 1) (Z 1) (cR m 12 1) 2)) := (R3.out.cellAt 2 (by decide)).trans rfl
    have c3 : xw3.cell? ⟨gg, 3, none⟩ = some (Value.int .i64 (rv (X 1) (Y 1) (Z 1) (cR m 12 1) 3)) := (R3.out.cellAt 3 (by decide)).trans rfl
    have c4 : xw3.cell? ⟨gg, 4, none⟩ = some (Value.int .i64 (rv (X 2) (Y 2) (Z 2) (cR m 12 2) 0)) := (R3.out.cellAt 4 (by decide)).trans rfl
    have c5 : xw3.cell? ⟨gg, 5, none⟩ = some (Value.int .i64 (rv (X 2) (Y 2) (Z 2) (cR m 12 2) 1)) := (R3.out.cellAt 5 (by decide)).trans rfl
    have c6 : xw3.cell? ⟨gg, 6, none⟩ = some (Value.int .i64 (rv (X 2) (Y 2) (Z 2) (cR m 12 2) 2)) := (R3.out.cellAt 6 (by decide)).trans rfl
    have c7 : xw3.cell? ⟨gg, 7, none⟩ = some (Value.int .i64 (rv (X 2) (Y 2) (Z 2) (cR m 12 2) 3)) := (R3.out.cellAt 7 (by decide)).trans rfl
    have c8 : xw3.cell? ⟨gg, 8, none⟩ = some (Value.int .i64 (rv (X 3) (Y 3) (Z 3) (cR m 12 3) 0)) := (R3.out.cellAt 8 (by decide)).trans rfl
    have c9 : xw3.cell? ⟨gg, 9, none⟩ = some (Value.int .i64 (rv (X 3) (Y 3) (Z 3) (cR m 12 3) 1)) := (R3.out.cellAt 9 (by decide)).trans rfl
    have c10 : xw3.cell? ⟨gg, 10, none⟩ = some (Value.int .i64 (rv (X 3) (Y 3) (Z 3) (cR m 12 3) 2)) := (R3.out.cellAt 10 (by decide)).trans rfl
    have c11 : xw3.cell? ⟨gg, 11, none⟩ = some (Value.int .i64 (rv (X 3) (Y 3) (Z 3) (cR m 12 3) 3)) := (R3.out.cellAt 11 (by decide)).trans rfl
    clear hg2 hg3 hg4 hg5 hg6 kq kr
    refine wp_calm1 10 (.cells #[.int .u64 0, .int .u64 0] 100) (some 7) (by kernel_rfl) (by kernel_rfl) rfl (fun o ho a w => by cases ho; go_simp) ?_
    intro C hC
    repeat (refine wpCalm_step (fun K hK => ?_); go_simp; first | (refine hK _ ?_; clear hK K) | (apply Exists.intro; refine ⟨fun wc hw => ?_, hK _ ?_⟩; (obtain ⟨hc, hf⟩ := bcell (hC wc hw); go_simp; first | with_reducible exact HT3.out wc | exact rfl); clear hK K))
    refine wpCalm_nil ?_
    clear hC C c0 c1 c2 c3 c4 c5 c6 c7 c8 c9 c10 c11
    intro V b hX hb hblk
    simp only [List.drop_succ_cons, List.drop_zero]
    have hX5 : Below S5.heap.size S5 V := after' hb3.out hX hs3
    have n3 : w.heap.size + 1 ≠ b := by omega
    have n2 : w.heap.size ≠ b := by omega
    have kb := hblk
    have y1 : b < V.heap.size := (Array.getElem?_eq_some_iff.1 hblk).1
    have ks : V.heap[w.heap.size + 1]? = some (.cells #[.int .u64 (uh (parS X Y Z m 0)), .int .u64 (lo (parS X Y Z m 0))] 100 (0, 0)) := (hX5.block _ hz).trans H3.out
    have k2 : V.heap[w.heap.size]? = some (.cells #[.int .u64 0, .int .u64 0] 100 (0, 0)) := (hX5.block _ (by omega)).trans H2.out
    have y2 : w.heap.size + 1 < V.heap.size := Nat.lt_of_lt_of_le hz hX5.size
    have hBV : Hid (Below w.heap.size w V) := after HB.out hX5
    have wb : w.heap.size ≤ b := by omega
    clear hblk hX hX5 hb hgl hg1 R3 hb3 HT3 H3 H2 HB KL hz zb hs1 hs2 hs3
    obtain ⟨lq, lr⟩ := cellB kb
    obtain ⟨mq, mr⟩ := cellB ks
    have KB := Lib.hid kb; have KS := Lib.hid ks; have K2 := Lib.hid k2
    clear kb ks k2
    go_wp2_with fail
    first | refine wp_named ?_ | refine calls_named ?_
    intro V1 hV
    have kb : V1.heap[b]? = some (.cells #[.int .u64 (uh (det3 (rv (X 1) (Y 1) (Z 1) (cR m 12 1) 0) (rv (X 1) (Y 1) (Z 1) (cR m 12 1) 1) (rv (X 1) (Y 1) (Z 1) (cR m 12 1) 2) (rv (X 2) (Y 2) (Z 2) (cR m 12 2) 0) (rv (X 2) (Y 2) (Z 2) (cR m 12 2) 1) (rv (X 2) (Y 2) (Z 2) (cR m 12 2) 2) (rv (X 3) (Y 3) (Z 3) (cR m 12 3) 0) (rv (X 3) (Y 3) (Z 3) (cR m 12 3) 1) (rv (X 3) (Y 3) (Z 3) (cR m 12 3) 2))), .int .u64 (lo (det3 (rv (X 1) (Y 1) (Z 1) (cR m 12 1) 0) (rv (X 1) (Y 1) (Z 1) (cR m 12 1) 1) (rv (X 1) (Y 1) (Z 1) (cR m 12 1) 2) (rv (X 2) (Y 2) (Z 2) (cR m 12 2) 0) (rv (X 2) (Y 2) (Z 2) (cR m 12 2) 1) (rv (X 2) (Y 2) (Z 2) (cR m 12 2) 2) (rv (X 3) (Y 3) (Z 3) (cR m 12 3) 0) (rv (X 3) (Y 3) (Z 3) (cR m 12 3) 1) (rv (X 3) (Y 3) (Z 3) (cR m 12 3) 2)))] 100 (0, 0)) := by rw [hV]; refine Eq.trans (set_own (set_own KB.out _) _) ?_; simp
    have ks : V1.heap[w.heap.size + 1]? = some (.cells #[.int .u64 (uh (parS X Y Z m 0)), .int .u64 (lo (parS X Y Z m 0))] 100 (0, 0)) := by rw [hV]; exact (other_block n3).trans ((other_block n3).trans KS.out)
    have k2 : V1.heap[w.heap.size]? = some (.cells #[.int .u64 0, .int .u64 0] 100 (0, 0)) := by rw [hV]; exact (other_block n2).trans ((other_block n2).trans K2.out)
    have hB : Below w.heap.size w V1 := by rw [hV]; exact (hBV.out.setCell wb _).setCell wb _
    replace y1 : b < V1.heap.size := by rw [hV]; simpa using y1
    replace y2 : w.heap.size + 1 < V1.heap.size := by rw [hV]; simpa using y2
    clear hV lq lr mq mr KB KS K2 hBV HZ
    have hng := ref1_neg (det3 (rv (X 1) (Y 1) (Z 1) (cR m 12 1) 0) (rv (X 1) (Y 1) (Z 1) (cR m 12 1) 1) (rv (X 1) (Y 1) (Z 1) (cR m 12 1) 2) (rv (X 2) (Y 2) (Z 2) (cR m 12 2) 0) (rv (X 2) (Y 2) (Z 2) (cR m 12 2) 1) (rv (X 2) (Y 2) (Z 2) (cR m 12 2) 2) (rv (X 3) (Y 3) (Z 3) (cR m 12 3) 0) (rv (X 3) (Y 3) (Z 3) (cR m 12 3) 1) (rv (X 3) (Y 3) (Z 3) (cR m 12 3) 2))
    unfold w2 at hng
    refine (hng _).mono ?_; rintro e V2 ⟨rfl, hX⟩
    clear hng
    replace kb := (hX.block _ y1).trans kb; replace ks := (hX.block _ y2).trans ks; replace k2 := (hX.block _ (by omega)).trans k2; replace hB := after hB hX
    replace y1 := Nat.lt_of_lt_of_le y1 hX.size; replace y2 := Nat.lt_of_lt_of_le y2 hX.size
    clear hX
    obtain ⟨lq, lr⟩ := cellB kb
    obtain ⟨mq, mr⟩ := cellB ks
    go_wp2_with fail
    first | refine wp_named ?_ | refine calls_named ?_
    intro V3 hV
    replace ks : V3.heap[w.heap.size + 1]? = some (.cells #[.int .u64 (uh (parS X Y Z m 0)), .int .u64 (lo (parS X Y Z m 0))] 100 (0, 0)) := by rw [hV]; exact (other_block n3).trans ((other_block n3).trans ks)
    replace k2 : V3.heap[w.heap.size]? = some (.cells #[.int .u64 0, .int .u64 0] 100 (0, 0)) := by rw [hV]; exact (other_block n2).trans ((other_block n2).trans k2)
    replace kb : V3.heap[b]? = some (.cells #[.int .u64 (uh (-(det3 (rv (X 1) (Y 1) (Z 1) (cR m 12 1) 0) (rv (X 1) (Y 1) (Z 1) (cR m 12 1) 1) (rv (X 1) (Y 1) (Z 1) (cR m 12 1) 2) (rv (X 2) (Y 2) (Z 2) (cR m 12 2) 0) (rv (X 2) (Y 2) (Z 2) (cR m 12 2) 1) (rv (X 2) (Y 2) (Z 2) (cR m 12 2) 2) (rv (X 3) (Y 3) (Z 3) (cR m 12 3) 0) (rv (X 3) (Y 3) (Z 3) (cR m 12 3) 1) (rv (X 3) (Y 3) (Z 3) (cR m 12 3) 2)))), .int .u64 (lo (-(det3 (rv (X 1) (Y 1) (Z 1) (cR m 12 1) 0) (rv (X 1) (Y 1) (Z 1) (cR m 12 1) 1) (rv (X 1) (Y 1) (Z 1) (cR m 12 1) 2) (rv (X 2) (Y 2) (Z 2) (cR m 12 2) 0) (rv (X 2) (Y 2) (Z 2) (cR m 12 2) 1) (rv (X 2) (Y 2) (Z 2) (cR m 12 2) 2) (rv (X 3) (Y 3) (Z 3) (cR m 12 3) 0) (rv (X 3) (Y 3) (Z 3) (cR m 12 3) 1) (rv (X 3) (Y 3) (Z 3) (cR m 12 3) 2))))] 100 (0, 0)) := by rw [hV]; refine Eq.trans (set_own (set_own kb _) _) ?_; simp
    replace hB : Below w.heap.size w V3 := by rw [hV]; exact (hB.setCell wb _).setCell wb _
    replace y1 : b < V3.heap.size := by rw [hV]; simpa using y1
    replace y2 : w.heap.size + 1 < V3.heap.size := by rw [hV]; simpa using y2
    clear hV lq lr mq mr
    have hadd := ref1_add (parS X Y Z m 0) (-(det3 (rv (X 1) (Y 1) (Z 1) (cR m 12 1) 0) (rv (X 1) (Y 1) (Z 1) (cR m 12 1) 1) (rv (X 1) (Y 1) (Z 1) (cR m 12 1) 2) (rv (X 2) (Y 2) (Z 2) (cR m 12 2) 0) (rv (X 2) (Y 2) (Z 2) (cR m 12 2) 1) (rv (X 2) (Y 2) (Z 2) (cR m 12 2) 2) (rv (X 3) (Y 3) (Z 3) (cR m 12 3) 0) (rv (X 3) (Y 3) (Z 3) (cR m 12 3) 1) (rv (X 3) (Y 3) (Z 3) (cR m 12 3) 2)))
    unfold w2 at hadd
    refine (hadd _).mono ?_; rintro e V4 ⟨rfl, hX⟩
    clear hadd
    replace kb := (hX.block _ y1).trans kb; replace ks := (hX.block _ y2).trans ks; replace k2 := (hX.block _ (by omega)).trans k2; replace hB := after hB hX
    replace y1 := Nat.lt_of_lt_of_le y1 hX.size; replace y2 := Nat.lt_of_lt_of_le y2 hX.size
    clear hX
    obtain ⟨mq, mr⟩ := cellB ks
    have KS := Lib.hid ks; have K2 := Lib.hid k2; have HB := Lib.hid hB
    clear ks k2 hB kb
    go_wp2_with fail
    go_roundw
    case rel => first | exact ⟨0 + 1, by decide, by go_num, (by rw [Q.out]; refine Eq.trans (set_own (set_own KS.out _) _) ?_; simp), (other_block (by simp)).trans ((other_block (by simp)).trans K2.out), (HB.out.setCell (by simp) _).setCell (by simp) _, (by refine Lib.hid ?_; simpa using y2)⟩ | ((repeat apply Exists.intro); exact ⟨⟨0 + 1, by decide, by go_num, (by rw [Q.out]; refine Eq.trans (set_own (set_own KS.out _) _) ?_; simp), (other_block (by simp)).trans ((other_block (by simp)).trans K2.out), (HB.out.setCell (by simp) _).setCell (by simp) _, (by refine Lib.hid ?_; simpa using y2)⟩, rfl⟩)
    case measure => simp [intOf]
  · have k1 := (HB.out.block _ hob).trans KL0.out
    have hz := HZ.out
    by_cases hc : cR m 12 1 = 0
    case neg =>
      have q : parS X Y Z m (1 + 1) = parS X Y Z m 1 := by show parS X Y Z m 1 + (if cR m 12 1 = 0 then _ else 0) = _; rw [if_neg hc]; omega
      have Q := Lib.hid q
      replace k1 : wr.heap[ob]? = some (.cells #[Value.int .i64 (rv (X 0) (Y 0) (Z 0) (cR m 12 0) 0), Value.int .i64 (rv (X 0) (Y 0) (Z 0) (cR m 12 0) 1), Value.int .i64 (rv (X 0) (Y 0) (Z 0) (cR m 12 0) 2), Value.int .i64 (rv (X 0) (Y 0) (Z 0) (cR m 12 0) 3), Value.int .i64 (rv (X 1) (Y 1) (Z 1) (cR m 12 1) 0), Value.int .i64 (rv (X 1) (Y 1) (Z 1) (cR m 12 1) 1), Value.int .i64 (rv (X 1) (Y 1) (Z 1) (cR m 12 1) 2), Value.int .i64 0, Value.int .i64 (rv (X 2) (Y 2) (Z 2) (cR m 12 2) 0), Value.int .i64 (rv (X 2) (Y 2) (Z 2) (cR m 12 2) 1), Value.int .i64 (rv (X 2) (Y 2) (Z 2) (cR m 12 2) 2), Value.int .i64 (rv (X 2) (Y 2) (Z 2) (cR m 12 2) 3), Value.int .i64 (rv (X 3) (Y 3) (Z 3) (cR m 12 3) 0), Value.int .i64 (rv (X 3) (Y 3) (Z 3) (cR m 12 3) 1), Value.int .i64 (rv (X 3) (Y 3) (Z 3) (cR m 12 3) 2), Value.int .i64 (rv (X 3) (Y 3) (Z 3) (cR m 12 3) 3)] 92 (0, 0)) := by rw [rv3n (x := X 1) (y := Y 1) (z := Z 1) hc] at k1; exact k1
      obtain ⟨kq, kr⟩ := cellB k1
      clear k1 q hc hco
      go_wp2_with fail
      go_roundw
      case rel => exact ⟨1 + 1, by decide, by go_num, (by rw [Q.out]; exact H3.out), H2, HB, hz⟩
      case measure => simp [intOf]
    replace k1 : wr.heap[ob]? = some (.cells #[Value.int .i64 (rv (X 0) (Y 0) (Z 0) (cR m 12 0) 0), Value.int .i64 (rv (X 0) (Y 0) (Z 0) (cR m 12 0) 1), Value.int .i64 (rv (X 0) (Y 0) (Z 0) (cR m 12 0) 2), Value.int .i64 (rv (X 0) (Y 0) (Z 0) (cR m 12 0) 3), Value.int .i64 (rv (X 1) (Y 1) (Z 1) (cR m 12 1) 0), Value.int .i64 (rv (X 1) (Y 1) (Z 1) (cR m 12 1) 1), Value.int .i64 (rv (X 1) (Y 1) (Z 1) (cR m 12 1) 2), Value.int .i64 1, Value.int .i64 (rv (X 2) (Y 2) (Z 2) (cR m 12 2) 0), Value.int .i64 (rv (X 2) (Y 2) (Z 2) (cR m 12 2) 1), Value.int .i64 (rv (X 2) (Y 2) (Z 2) (cR m 12 2) 2), Value.int .i64 (rv (X 2) (Y 2) (Z 2) (cR m 12 2) 3), Value.int .i64 (rv (X 3) (Y 3) (Z 3) (cR m 12 3) 0), Value.int .i64 (rv (X 3) (Y 3) (Z 3) (cR m 12 3) 1), Value.int .i64 (rv (X 3) (Y 3) (Z 3) (cR m 12 3) 2), Value.int .i64 (rv (X 3) (Y 3) (Z 3) (cR m 12 3) 3)] 92 (0, 0)) := by rw [rv3 (x := X 1) (y := Y 1) (z := Z 1) hc] at k1; exact k1
    have KL := Lib.hid k1
    have q : parS X Y Z m (1 + 1) = parS X Y Z m 1 + det3 (rv (X 0) (Y 0) (Z 0) (cR m 12 0) 0) (rv (X 0) (Y 0) (Z 0) (cR m 12 0) 1) (rv (X 0) (Y 0) (Z 0) (cR m 12 0) 2) (rv (X 2) (Y 2) (Z 2) (cR m 12 2) 0) (rv (X 2) (Y 2) (Z 2) (cR m 12 2) 1) (rv (X 2) (Y 2) (Z 2) (cR m 12 2) 2) (rv (X 3) (Y 3) (Z 3) (cR m 12 3) 0) (rv (X 3) (Y 3) (Z 3) (cR m 12 3) 1) (rv (X 3) (Y 3) (Z 3) (cR m 12 3) 2) := by show parS X Y Z m 1 + (if cR m 12 1 = 0 then _ else 0) = _; rw [if_pos hc]; rfl
    have Q := Lib.hid q
    have ht3 := ref2_three (rv (X 0) (Y 0) (Z 0) (cR m 12 0) 0) (rv (X 0) (Y 0) (Z 0) (cR m 12 0) 1) (rv (X 0) (Y 0) (Z 0) (cR m 12 0) 2) (rv (X 0) (Y 0) (Z 0) (cR m 12 0) 3) (rv (X 2) (Y 2) (Z 2) (cR m 12 2) 0) (rv (X 2) (Y 2) (Z 2) (cR m 12 2) 1) (rv (X 2) (Y 2) (Z 2) (cR m 12 2) 2) (rv (X 2) (Y 2) (Z 2) (cR m 12 2) 3) (rv (X 3) (Y 3) (Z 3) (cR m 12 3) 0) (rv (X 3) (Y 3) (Z 3) (cR m 12 3) 1) (rv (X 3) (Y 3) (Z 3) (cR m 12 3) 2) (rv (X 3) (Y 3) (Z 3) (cR m 12 3) 3) ⟨rv_co (hco.out 0 (by decide)) _ _, rv_co (hco.out 0 (by decide)) _ _, rv_co (hco.out 0 (by decide)) _ _⟩ ⟨rv_co (hco.out 2 (by decide)) _ _, rv_co (hco.out 2 (by decide)) _ _, rv_co (hco.out 2 (by decide)) _ _⟩ ⟨rv_co (hco.out 3 (by decide)) _ _, rv_co (hco.out 3 (by decide)) _ _, rv_co (hco.out 3 (by decide)) _ _⟩
    unfold w2 at ht3
    have HT3 := Lib.hid ht3
    obtain ⟨kq, kr⟩ := cellB k1
    obtain ⟨S5, rfl⟩ : ∃ S, S = wr := ⟨_, rfl⟩
    have zb : ob < S5.heap.size := Nat.lt_of_lt_of_le hob HB.out.size
    clear q hc k1 ht3
    go_wp2_with fail
    refine wp_loop_rounds 5 ?_
    rw [rounds_succ]
    go_wp2_with (first | (at_builtin; refine wpList_append_own _ rfl (.tmp 25) (.tmp 30) 94 rfl S5.heap.size 92 i0 (.agg #[.int .i64 0, .int .i64 0, .int .i64 0, .int .i64 0]) 4 32 uRws HI.out HZ0.out HZ1.out HZ2.out rfl (by decide) _ 0 [] (by rfl) (World.ownsRow_nil _ _ _ _) ⟨_, 0, none⟩ 1 1 [Value.int .i64 (rv (X 0) (Y 0) (Z 0) (cR m 12 0) 0), Value.int .i64 (rv (X 0) (Y 0) (Z 0) (cR m 12 0) 1), Value.int .i64 (rv (X 0) (Y 0) (Z 0) (cR m 12 0) 2), Value.int .i64 (rv (X 0) (Y 0) (Z 0) (cR m 12 0) 3)] (by rfl) (by rfl) (row4_new _ _ _ _ _ _) (ints4 _ _ _ _) (by decide) (by decide) (by simp) ?_; intro v1 xw1 hq1 hq2 hq3) | fail)
    have hb1 : Hid (Below S5.heap.size S5 xw1) := ((Below.refl _ _).alloc (Nat.le_refl _) _).grown hq2 (by simp) (fun k hk => by cases hk)
    have R1 : Hid (xw1.ownsRow S5.heap.size 92 4 v1 1 [Value.int .i64 (rv (X 0) (Y 0) (Z 0) (cR m 12 0) 0), Value.int .i64 (rv (X 0) (Y 0) (Z 0) (cR m 12 0) 1), Value.int .i64 (rv (X 0) (Y 0) (Z 0) (cR m 12 0) 2), Value.int .i64 (rv (X 0) (Y 0) (Z 0) (cR m 12 0) 3)]) := hq1
    clear hq1 hq2 hq3 kq kr
    obtain ⟨kq, kr⟩ := cellB ((hb1.out.block _ zb).trans KL.out)
    have hs1 := hb1.out.size
    rw [rounds_succ]
    go_wp2_with fail
    rw [rounds_succ]
    go_wp2_with (first | (at_builtin; refine wpList_append_own _ rfl (.tmp 25) (.tmp 30) 94 rfl S5.heap.size 92 i0 (.agg #[.int .i64 0, .int .i64 0, .int .i64 0, .int .i64 0]) 4 32 uRws HI.out HZ0.out HZ1.out HZ2.out rfl (by decide) _ 1 [Value.int .i64 (rv (X 0) (Y 0) (Z 0) (cR m 12 0) 0), Value.int .i64 (rv (X 0) (Y 0) (Z 0) (cR m 12 0) 1), Value.int .i64 (rv (X 0) (Y 0) (Z 0) (cR m 12 0) 2), Value.int .i64 (rv (X 0) (Y 0) (Z 0) (cR m 12 0) 3)] (by rfl) (R1.out.alloc _) ⟨_, 0, none⟩ 1 1 [Value.int .i64 (rv (X 2) (Y 2) (Z 2) (cR m 12 2) 0), Value.int .i64 (rv (X 2) (Y 2) (Z 2) (cR m 12 2) 1), Value.int .i64 (rv (X 2) (Y 2) (Z 2) (cR m 12 2) 2), Value.int .i64 (rv (X 2) (Y 2) (Z 2) (cR m 12 2) 3)] (by rfl) (by rfl) (row4_new _ _ _ _ _ _) (ints4 _ _ _ _) (by decide) (by decide) (by have := hb1.out.size; simp; omega) ?_; intro v2 xw2 hq1 hq2 hq3) | fail)
    have hb2 : Hid (Below S5.heap.size S5 xw2) := (hb1.out.alloc hb1.out.size _).grown hq2 (by have := hb1.out.size; simp; omega) (fun k hk => (R1.out.lt k hk).1)
    have R2 : Hid (xw2.ownsRow S5.heap.size 92 4 v2 2 [Value.int .i64 (rv (X 0) (Y 0) (Z 0) (cR m 12 0) 0), Value.int .i64 (rv (X 0) (Y 0) (Z 0) (cR m 12 0) 1), Value.int .i64 (rv (X 0) (Y 0) (Z 0) (cR m 12 0) 2), Value.int .i64 (rv (X 0) (Y 0) (Z 0) (cR m 12 0) 3), Value.int .i64 (rv (X 2) (Y 2) (Z 2) (cR m 12 2) 0), Value.int .i64 (rv (X 2) (Y 2) (Z 2) (cR m 12 2) 1), Value.int .i64 (rv (X 2) (Y 2) (Z 2) (cR m 12 2) 2), Value.int .i64 (rv (X 2) (Y 2) (Z 2) (cR m 12 2) 3)]) := hq1
    clear hb1 R1
    clear hq1 hq2 hq3 kq kr
    obtain ⟨kq, kr⟩ := cellB ((hb2.out.block _ zb).trans KL.out)
    have hs2 := hb2.out.size
    rw [rounds_succ]
    go_wp2_with (first | (at_builtin; refine wpList_append_own _ rfl (.tmp 25) (.tmp 30) 94 rfl S5.heap.size 92 i0 (.agg #[.int .i64 0, .int .i64 0, .int .i64 0, .int .i64 0]) 4 32 uRws HI.out HZ0.out HZ1.out HZ2.out rfl (by decide) _ 2 [Value.int .i64 (rv (X 0) (Y 0) (Z 0) (cR m 12 0) 0), Value.int .i64 (rv (X 0) (Y 0) (Z 0) (cR m 12 0) 1), Value.int .i64 (rv (X 0) (Y 0) (Z 0) (cR m 12 0) 2), Value.int .i64 (rv (X 0) (Y 0) (Z 0) (cR m 12 0) 3), Value.int .i64 (rv (X 2) (Y 2) (Z 2) (cR m 12 2) 0), Value.int .i64 (rv (X 2) (Y 2) (Z 2) (cR m 12 2) 1), Value.int .i64 (rv (X 2) (Y 2) (Z 2) (cR m 12 2) 2), Value.int .i64 (rv (X 2) (Y 2) (Z 2) (cR m 12 2) 3)] (by rfl) (R2.out.alloc _) ⟨_, 0, none⟩ 1 1 [Value.int .i64 (rv (X 3) (Y 3) (Z 3) (cR m 12 3) 0), Value.int .i64 (rv (X 3) (Y 3) (Z 3) (cR m 12 3) 1), Value.int .i64 (rv (X 3) (Y 3) (Z 3) (cR m 12 3) 2), Value.int .i64 (rv (X 3) (Y 3) (Z 3) (cR m 12 3) 3)] (by rfl) (by rfl) (row4_new _ _ _ _ _ _) (ints4 _ _ _ _) (by decide) (by decide) (by have := hb2.out.size; simp; omega) ?_; intro v3 xw3 hq1 hq2 hq3) | fail)
    have hb3 : Hid (Below S5.heap.size S5 xw3) := (hb2.out.alloc hb2.out.size _).grown hq2 (by have := hb2.out.size; simp; omega) (fun k hk => (R2.out.lt k hk).1)
    have R3 : Hid (xw3.ownsRow S5.heap.size 92 4 v3 3 [Value.int .i64 (rv (X 0) (Y 0) (Z 0) (cR m 12 0) 0), Value.int .i64 (rv (X 0) (Y 0) (Z 0) (cR m 12 0) 1), Value.int .i64 (rv (X 0) (Y 0) (Z 0) (cR m 12 0) 2), Value.int .i64 (rv (X 0) (Y 0) (Z 0) (cR m 12 0) 3), Value.int .i64 (rv (X 2) (Y 2) (Z 2) (cR m 12 2) 0), Value.int .i64 (rv (X 2) (Y 2) (Z 2) (cR m 12 2) 1), Value.int .i64 (rv (X 2) (Y 2) (Z 2) (cR m 12 2) 2), Value.int .i64 (rv (X 2) (Y 2) (Z 2) (cR m 12 2) 3), Value.int .i64 (rv (X 3) (Y 3) (Z 3) (cR m 12 3) 0), Value.int .i64 (rv (X 3) (Y 3) (Z 3) (cR m 12 3) 1), Value.int .i64 (rv (X 3) (Y 3) (Z 3) (cR m 12 3) 2), Value.int .i64 (rv (X 3) (Y 3) (Z 3) (cR m 12 3) 3)]) := hq1
    clear hb2 R2
    clear hq1 hq2 hq3 kq kr
    obtain ⟨kq, kr⟩ := cellB ((hb3.out.block _ zb).trans KL.out)
    have hs3 := hb3.out.size
    rw [rounds_succ]
    go_wp2_with fail
    rcases R3.out.2 with ⟨_, h9⟩ | ⟨gg, cap, cur, rfl, hg1, hg2, hg3, hg4, hg5, hg6⟩
    · exact absurd h9 (by decide)
    have hgl : gg < xw3.heap.size := (Array.getElem?_eq_some_iff.1 hg2).1
    have c0 : xw3.cell? ⟨gg, 0, none⟩ = some (Value.int .i64 (rv (X 0) (Y 0) (Z 0) (cR m 12 0) 0)) := (R3.out.cellAt 0 (by decide)).trans rfl
    have c1 : xw3.cell? ⟨gg, 1, none⟩ = some (Value.int .i64 (rv (X 0) (Y 0) (Z 0) (cR m 12 0) 1)) := (R3.out.cellAt 1 (by decide)).trans rfl
    have c2 : xw3.cell? ⟨gg, 2, none⟩ = some (Value.int .i64 (rv (X 0) (Y 0) (Z 0) (cR m 12 0) 2)) := (R3.out.cellAt 2 (by decide)).trans rfl
    have c3 : xw3.cell? ⟨gg, 3, none⟩ = some (Value.int .i64 (rv (X 0) (Y 0) (Z 0) (cR m 12 0) 3)) := (R3.out.cellAt 3 (by decide)).trans rfl
    have c4 : xw3.cell? ⟨gg, 4, none⟩ = some (Value.int .i64 (rv (X 2) (Y 2) (Z 2) (cR m 12 2) 0)) := (R3.out.cellAt 4 (by decide)).trans rfl
    have c5 : xw3.cell? ⟨gg, 5, none⟩ = some (Value.int .i64 (rv (X 2) (Y 2) (Z 2) (cR m 12 2) 1)) := (R3.out.cellAt 5 (by decide)).trans rfl
    have c6 : xw3.cell? ⟨gg, 6, none⟩ = some (Value.int .i64 (rv (X 2) (Y 2) (Z 2) (cR m 12 2) 2)) := (R3.out.cellAt 6 (by decide)).trans rfl
    have c7 : xw3.cell? ⟨gg, 7, none⟩ = some (Value.int .i64 (rv (X 2) (Y 2) (Z 2) (cR m 12 2) 3)) := (R3.out.cellAt 7 (by decide)).trans rfl
    have c8 : xw3.cell? ⟨gg, 8, none⟩ = some (Value.int .i64 (rv (X 3) (Y 3) (Z 3) (cR m 12 3) 0)) := (R3.out.cellAt 8 (by decide)).trans rfl
    have c9 : xw3.cell? ⟨gg, 9, none⟩ = some (Value.int .i64 (rv (X 3) (Y 3) (Z 3) (cR m 12 3) 1)) := (R3.out.cellAt 9 (by decide)).trans rfl
    have c10 : xw3.cell? ⟨gg, 10, none⟩ = some (Value.int .i64 (rv (X 3) (Y 3) (Z 3) (cR m 12 3) 2)) := (R3.out.cellAt 10 (by decide)).trans rfl
    have c11 : xw3.cell? ⟨gg, 11, none⟩ = some (Value.int .i64 (rv (X 3) (Y 3) (Z 3) (cR m 12 3) 3)) := (R3.out.cellAt 11 (by decide)).trans rfl
    clear hg2 hg3 hg4 hg5 hg6 kq kr
    refine wp_calm1 10 (.cells #[.int .u64 0, .int .u64 0] 100) (some 7) (by kernel_rfl) (by kernel_rfl) rfl (fun o ho a w => by cases ho; go_simp) ?_
    intro C hC
    repeat (refine wpCalm_step (fun K hK => ?_); go_simp; first | (refine hK _ ?_; clear hK K) | (apply Exists.intro; refine ⟨fun wc hw => ?_, hK _ ?_⟩; (obtain ⟨hc, hf⟩ := bcell (hC wc hw); go_simp; first | with_reducible exact HT3.out wc | exact rfl); clear hK K))
    refine wpCalm_nil ?_
    clear hC C c0 c1 c2 c3 c4 c5 c6 c7 c8 c9 c10 c11
    intro V b hX hb hblk
    simp only [List.drop_succ_cons, List.drop_zero]
    have hX5 : Below S5.heap.size S5 V := after' hb3.out hX hs3
    have n3 : w.heap.size + 1 ≠ b := by omega
    have n2 : w.heap.size ≠ b := by omega
    have kb := hblk
    have y1 : b < V.heap.size := (Array.getElem?_eq_some_iff.1 hblk).1
    have ks : V.heap[w.heap.size + 1]? = some (.cells #[.int .u64 (uh (parS X Y Z m 1)), .int .u64 (lo (parS X Y Z m 1))] 100 (0, 0)) := (hX5.block _ hz).trans H3.out
    have k2 : V.heap[w.heap.size]? = some (.cells #[.int .u64 0, .int .u64 0] 100 (0, 0)) := (hX5.block _ (by omega)).trans H2.out
    have y2 : w.heap.size + 1 < V.heap.size := Nat.lt_of_lt_of_le hz hX5.size
    have hBV : Hid (Below w.heap.size w V) := after HB.out hX5
    have wb : w.heap.size ≤ b := by omega
    clear hblk hX hX5 hb hgl hg1 R3 hb3 HT3 H3 H2 HB KL hz zb hs1 hs2 hs3
    obtain ⟨lq, lr⟩ := cellB kb
    obtain ⟨mq, mr⟩ := cellB ks
    have KB := Lib.hid kb; have KS := Lib.hid ks; have K2 := Lib.hid k2
    clear kb ks k2
    go_wp2_with fail
    first | refine wp_named ?_ | refine calls_named ?_
    intro V1 hV
    have kb : V1.heap[b]? = some (.cells #[.int .u64 (uh (det3 (rv (X 0) (Y 0) (Z 0) (cR m 12 0) 0) (rv (X 0) (Y 0) (Z 0) (cR m 12 0) 1) (rv (X 0) (Y 0) (Z 0) (cR m 12 0) 2) (rv (X 2) (Y 2) (Z 2) (cR m 12 2) 0) (rv (X 2) (Y 2) (Z 2) (cR m 12 2) 1) (rv (X 2) (Y 2) (Z 2) (cR m 12 2) 2) (rv (X 3) (Y 3) (Z 3) (cR m 12 3) 0) (rv (X 3) (Y 3) (Z 3) (cR m 12 3) 1) (rv (X 3) (Y 3) (Z 3) (cR m 12 3) 2))), .int .u64 (lo (det3 (rv (X 0) (Y 0) (Z 0) (cR m 12 0) 0) (rv (X 0) (Y 0) (Z 0) (cR m 12 0) 1) (rv (X 0) (Y 0) (Z 0) (cR m 12 0) 2) (rv (X 2) (Y 2) (Z 2) (cR m 12 2) 0) (rv (X 2) (Y 2) (Z 2) (cR m 12 2) 1) (rv (X 2) (Y 2) (Z 2) (cR m 12 2) 2) (rv (X 3) (Y 3) (Z 3) (cR m 12 3) 0) (rv (X 3) (Y 3) (Z 3) (cR m 12 3) 1) (rv (X 3) (Y 3) (Z 3) (cR m 12 3) 2)))] 100 (0, 0)) := by rw [hV]; refine Eq.trans (set_own (set_own KB.out _) _) ?_; simp
    have ks : V1.heap[w.heap.size + 1]? = some (.cells #[.int .u64 (uh (parS X Y Z m 1)), .int .u64 (lo (parS X Y Z m 1))] 100 (0, 0)) := by rw [hV]; exact (other_block n3).trans ((other_block n3).trans KS.out)
    have k2 : V1.heap[w.heap.size]? = some (.cells #[.int .u64 0, .int .u64 0] 100 (0, 0)) := by rw [hV]; exact (other_block n2).trans ((other_block n2).trans K2.out)
    have hB : Below w.heap.size w V1 := by rw [hV]; exact (hBV.out.setCell wb _).setCell wb _
    replace y1 : b < V1.heap.size := by rw [hV]; simpa using y1
    replace y2 : w.heap.size + 1 < V1.heap.size := by rw [hV]; simpa using y2
    clear hV lq lr mq mr KB KS K2 hBV HZ
    have hadd := ref1_add (parS X Y Z m 1) (det3 (rv (X 0) (Y 0) (Z 0) (cR m 12 0) 0) (rv (X 0) (Y 0) (Z 0) (cR m 12 0) 1) (rv (X 0) (Y 0) (Z 0) (cR m 12 0) 2) (rv (X 2) (Y 2) (Z 2) (cR m 12 2) 0) (rv (X 2) (Y 2) (Z 2) (cR m 12 2) 1) (rv (X 2) (Y 2) (Z 2) (cR m 12 2) 2) (rv (X 3) (Y 3) (Z 3) (cR m 12 3) 0) (rv (X 3) (Y 3) (Z 3) (cR m 12 3) 1) (rv (X 3) (Y 3) (Z 3) (cR m 12 3) 2))
    unfold w2 at hadd
    refine (hadd _).mono ?_; rintro e V4 ⟨rfl, hX⟩
    clear hadd
    replace kb := (hX.block _ y1).trans kb; replace ks := (hX.block _ y2).trans ks; replace k2 := (hX.block _ (by omega)).trans k2; replace hB := after hB hX
    replace y1 := Nat.lt_of_lt_of_le y1 hX.size; replace y2 := Nat.lt_of_lt_of_le y2 hX.size
    clear hX
    obtain ⟨mq, mr⟩ := cellB ks
    have KS := Lib.hid ks; have K2 := Lib.hid k2; have HB := Lib.hid hB
    clear ks k2 hB kb
    go_wp2_with fail
    go_roundw
    case rel => first | exact ⟨1 + 1, by decide, by go_num, (by rw [Q.out]; refine Eq.trans (set_own (set_own KS.out _) _) ?_; simp), (other_block (by simp)).trans ((other_block (by simp)).trans K2.out), (HB.out.setCell (by simp) _).setCell (by simp) _, (by refine Lib.hid ?_; simpa using y2)⟩ | ((repeat apply Exists.intro); exact ⟨⟨1 + 1, by decide, by go_num, (by rw [Q.out]; refine Eq.trans (set_own (set_own KS.out _) _) ?_; simp), (other_block (by simp)).trans ((other_block (by simp)).trans K2.out), (HB.out.setCell (by simp) _).setCell (by simp) _, (by refine Lib.hid ?_; simpa using y2)⟩, rfl⟩)
    case measure => simp [intOf]
  · have k1 := (HB.out.block _ hob).trans KL0.out
    have hz := HZ.out
    by_cases hc : cR m 12 2 = 0
    case neg =>
      have q : parS X Y Z m (2 + 1) = parS X Y Z m 2 := by show parS X Y Z m 2 + (if cR m 12 2 = 0 then _ else 0) = _; rw [if_neg hc]; omega
      have Q := Lib.hid q
      replace k1 : wr.heap[ob]? = some (.cells #[Value.int .i64 (rv (X 0) (Y 0) (Z 0) (cR m 12 0) 0), Value.int .i64 (rv (X 0) (Y 0) (Z 0) (cR m 12 0) 1), Value.int .i64 (rv (X 0) (Y 0) (Z 0) (cR m 12 0) 2), Value.int .i64 (rv (X 0) (Y 0) (Z 0) (cR m 12 0) 3), Value.int .i64 (rv (X 1) (Y 1) (Z 1) (cR m 12 1) 0), Value.int .i64 (rv (X 1) (Y 1) (Z 1) (cR m 12 1) 1), Value.int .i64 (rv (X 1) (Y 1) (Z 1) (cR m 12 1) 2), Value.int .i64 (rv (X 1) (Y 1) (Z 1) (cR m 12 1) 3), Value.int .i64 (rv (X 2) (Y 2) (Z 2) (cR m 12 2) 0), Value.int .i64 (rv (X 2) (Y 2) (Z 2) (cR m 12 2) 1), Value.int .i64 (rv (X 2) (Y 2) (Z 2) (cR m 12 2) 2), Value.int .i64 0, Value.int .i64 (rv (X 3) (Y 3) (Z 3) (cR m 12 3) 0), Value.int .i64 (rv (X 3) (Y 3) (Z 3) (cR m 12 3) 1), Value.int .i64 (rv (X 3) (Y 3) (Z 3) (cR m 12 3) 2), Value.int .i64 (rv (X 3) (Y 3) (Z 3) (cR m 12 3) 3)] 92 (0, 0)) := by rw [rv3n (x := X 2) (y := Y 2) (z := Z 2) hc] at k1; exact k1
      obtain ⟨kq, kr⟩ := cellB k1
      clear k1 q hc hco
      go_wp2_with fail
      go_roundw
      case rel => exact ⟨2 + 1, by decide, by go_num, (by rw [Q.out]; exact H3.out), H2, HB, hz⟩
      case measure => simp [intOf]
    replace k1 : wr.heap[ob]? = some (.cells #[Value.int .i64 (rv (X 0) (Y 0) (Z 0) (cR m 12 0) 0), Value.int .i64 (rv (X 0) (Y 0) (Z 0) (cR m 12 0) 1), Value.int .i64 (rv (X 0) (Y 0) (Z 0) (cR m 12 0) 2), Value.int .i64 (rv (X 0) (Y 0) (Z 0) (cR m 12 0) 3), Value.int .i64 (rv (X 1) (Y 1) (Z 1) (cR m 12 1) 0), Value.int .i64 (rv (X 1) (Y 1) (Z 1) (cR m 12 1) 1), Value.int .i64 (rv (X 1) (Y 1) (Z 1) (cR m 12 1) 2), Value.int .i64 (rv (X 1) (Y 1) (Z 1) (cR m 12 1) 3), Value.int .i64 (rv (X 2) (Y 2) (Z 2) (cR m 12 2) 0), Value.int .i64 (rv (X 2) (Y 2) (Z 2) (cR m 12 2) 1), Value.int .i64 (rv (X 2) (Y 2) (Z 2) (cR m 12 2) 2), Value.int .i64 1, Value.int .i64 (rv (X 3) (Y 3) (Z 3) (cR m 12 3) 0), Value.int .i64 (rv (X 3) (Y 3) (Z 3) (cR m 12 3) 1), Value.int .i64 (rv (X 3) (Y 3) (Z 3) (cR m 12 3) 2), Value.int .i64 (rv (X 3) (Y 3) (Z 3) (cR m 12 3) 3)] 92 (0, 0)) := by rw [rv3 (x := X 2) (y := Y 2) (z := Z 2) hc] at k1; exact k1
    have KL := Lib.hid k1
    have q : parS X Y Z m (2 + 1) = parS X Y Z m 2 + -(det3 (rv (X 0) (Y 0) (Z 0) (cR m 12 0) 0) (rv (X 0) (Y 0) (Z 0) (cR m 12 0) 1) (rv (X 0) (Y 0) (Z 0) (cR m 12 0) 2) (rv (X 1) (Y 1) (Z 1) (cR m 12 1) 0) (rv (X 1) (Y 1) (Z 1) (cR m 12 1) 1) (rv (X 1) (Y 1) (Z 1) (cR m 12 1) 2) (rv (X 3) (Y 3) (Z 3) (cR m 12 3) 0) (rv (X 3) (Y 3) (Z 3) (cR m 12 3) 1) (rv (X 3) (Y 3) (Z 3) (cR m 12 3) 2)) := by show parS X Y Z m 2 + (if cR m 12 2 = 0 then _ else 0) = _; rw [if_pos hc]; rfl
    have Q := Lib.hid q
    have ht3 := ref2_three (rv (X 0) (Y 0) (Z 0) (cR m 12 0) 0) (rv (X 0) (Y 0) (Z 0) (cR m 12 0) 1) (rv (X 0) (Y 0) (Z 0) (cR m 12 0) 2) (rv (X 0) (Y 0) (Z 0) (cR m 12 0) 3) (rv (X 1) (Y 1) (Z 1) (cR m 12 1) 0) (rv (X 1) (Y 1) (Z 1) (cR m 12 1) 1) (rv (X 1) (Y 1) (Z 1) (cR m 12 1) 2) (rv (X 1) (Y 1) (Z 1) (cR m 12 1) 3) (rv (X 3) (Y 3) (Z 3) (cR m 12 3) 0) (rv (X 3) (Y 3) (Z 3) (cR m 12 3) 1) (rv (X 3) (Y 3) (Z 3) (cR m 12 3) 2) (rv (X 3) (Y 3) (Z 3) (cR m 12 3) 3) ⟨rv_co (hco.out 0 (by decide)) _ _, rv_co (hco.out 0 (by decide)) _ _, rv_co (hco.out 0 (by decide)) _ _⟩ ⟨rv_co (hco.out 1 (by decide)) _ _, rv_co (hco.out 1 (by decide)) _ _, rv_co (hco.out 1 (by decide)) _ _⟩ ⟨rv_co (hco.out 3 (by decide)) _ _, rv_co (hco.out 3 (by decide)) _ _, rv_co (hco.out 3 (by decide)) _ _⟩
    unfold w2 at ht3
    have HT3 := Lib.hid ht3
    obtain ⟨kq, kr⟩ := cellB k1
    obtain ⟨S5, rfl⟩ : ∃ S, S = wr := ⟨_, rfl⟩
    have zb : ob < S5.heap.size := Nat.lt_of_lt_of_le hob HB.out.size
    clear q hc k1 ht3
    go_wp2_with fail
    refine wp_loop_rounds 5 ?_
    rw [rounds_succ]
    go_wp2_with (first | (at_builtin; refine wpList_append_own _ rfl (.tmp 25) (.tmp 30) 94 rfl S5.heap.size 92 i0 (.agg #[.int .i64 0, .int .i64 0, .int .i64 0, .int .i64 0]) 4 32 uRws HI.out HZ0.out HZ1.out HZ2.out rfl (by decide) _ 0 [] (by rfl) (World.ownsRow_nil _ _ _ _) ⟨_, 0, none⟩ 1 1 [Value.int .i64 (rv (X 0) (Y 0) (Z 0) (cR m 12 0) 0), Value.int .i64 (rv (X 0) (Y 0) (Z 0) (cR m 12 0) 1), Value.int .i64 (rv (X 0) (Y 0) (Z 0) (cR m 12 0) 2), Value.int .i64 (rv (X 0) (Y 0) (Z 0) (cR m 12 0) 3)] (by rfl) (by rfl) (row4_new _ _ _ _ _ _) (ints4 _ _ _ _) (by decide) (by decide) (by simp) ?_; intro v1 xw1 hq1 hq2 hq3) | fail)
    have hb1 : Hid (Below S5.heap.size S5 xw1) := ((Below.refl _ _).alloc (Nat.le_refl _) _).grown hq2 (by simp) (fun k hk => by cases hk)
    have R1 : Hid (xw1.ownsRow S5.heap.size 92 4 v1 1 [Value.int .i64 (rv (X 0) (Y 0) (Z 0) (cR m 12 0) 0), Value.int .i64 (rv (X 0) (Y 0) (Z 0) (cR m 12 0) 1), Value.int .i64 (rv (X 0) (Y 0) (Z 0) (cR m 12 0) 2), Value.int .i64 (rv (X 0) (Y 0) (Z 0) (cR m 12 0) 3)]) := hq1
    clear hq1 hq2 hq3 kq kr
    obtain ⟨kq, kr⟩ := cellB ((hb1.out.block _ zb).trans KL.out)
    have hs1 := hb1.out.size
    rw [rounds_succ]
    go_wp2_with (first | (at_builtin; refine wpList_append_own _ rfl (.tmp 25) (.tmp 30) 94 rfl S5.heap.size 92 i0 (.agg #[.int .i64 0, .int .i64 0, .int .i64 0, .int .i64 0]) 4 32 uRws HI.out HZ0.out HZ1.out HZ2.out rfl (by decide) _ 1 [Value.int .i64 (rv (X 0) (Y 0) (Z 0) (cR m 12 0) 0), Value.int .i64 (rv (X 0) (Y 0) (Z 0) (cR m 12 0) 1), Value.int .i64 (rv (X 0) (Y 0) (Z 0) (cR m 12 0) 2), Value.int .i64 (rv (X 0) (Y 0) (Z 0) (cR m 12 0) 3)] (by rfl) (R1.out.alloc _) ⟨_, 0, none⟩ 1 1 [Value.int .i64 (rv (X 1) (Y 1) (Z 1) (cR m 12 1) 0), Value.int .i64 (rv (X 1) (Y 1) (Z 1) (cR m 12 1) 1), Value.int .i64 (rv (X 1) (Y 1) (Z 1) (cR m 12 1) 2), Value.int .i64 (rv (X 1) (Y 1) (Z 1) (cR m 12 1) 3)] (by rfl) (by rfl) (row4_new _ _ _ _ _ _) (ints4 _ _ _ _) (by decide) (by decide) (by have := hb1.out.size; simp; omega) ?_; intro v2 xw2 hq1 hq2 hq3) | fail)
    have hb2 : Hid (Below S5.heap.size S5 xw2) := (hb1.out.alloc hb1.out.size _).grown hq2 (by have := hb1.out.size; simp; omega) (fun k hk => (R1.out.lt k hk).1)
    have R2 : Hid (xw2.ownsRow S5.heap.size 92 4 v2 2 [Value.int .i64 (rv (X 0) (Y 0) (Z 0) (cR m 12 0) 0), Value.int .i64 (rv (X 0) (Y 0) (Z 0) (cR m 12 0) 1), Value.int .i64 (rv (X 0) (Y 0) (Z 0) (cR m 12 0) 2), Value.int .i64 (rv (X 0) (Y 0) (Z 0) (cR m 12 0) 3), Value.int .i64 (rv (X 1) (Y 1) (Z 1) (cR m 12 1) 0), Value.int .i64 (rv (X 1) (Y 1) (Z 1) (cR m 12 1) 1), Value.int .i64 (rv (X 1) (Y 1) (Z 1) (cR m 12 1) 2), Value.int .i64 (rv (X 1) (Y 1) (Z 1) (cR m 12 1) 3)]) := hq1
    clear hb1 R1
    clear hq1 hq2 hq3 kq kr
    obtain ⟨kq, kr⟩ := cellB ((hb2.out.block _ zb).trans KL.out)
    have hs2 := hb2.out.size
    rw [rounds_succ]
    go_wp2_with fail
    rw [rounds_succ]
    go_wp2_with (first | (at_builtin; refine wpList_append_own _ rfl (.tmp 25) (.tmp 30) 94 rfl S5.heap.size 92 i0 (.agg #[.int .i64 0, .int .i64 0, .int .i64 0, .int .i64 0]) 4 32 uRws HI.out HZ0.out HZ1.out HZ2.out rfl (by decide) _ 2 [Value.int .i64 (rv (X 0) (Y 0) (Z 0) (cR m 12 0) 0), Value.int .i64 (rv (X 0) (Y 0) (Z 0) (cR m 12 0) 1), Value.int .i64 (rv (X 0) (Y 0) (Z 0) (cR m 12 0) 2), Value.int .i64 (rv (X 0) (Y 0) (Z 0) (cR m 12 0) 3), Value.int .i64 (rv (X 1) (Y 1) (Z 1) (cR m 12 1) 0), Value.int .i64 (rv (X 1) (Y 1) (Z 1) (cR m 12 1) 1), Value.int .i64 (rv (X 1) (Y 1) (Z 1) (cR m 12 1) 2), Value.int .i64 (rv (X 1) (Y 1) (Z 1) (cR m 12 1) 3)] (by rfl) (R2.out.alloc _) ⟨_, 0, none⟩ 1 1 [Value.int .i64 (rv (X 3) (Y 3) (Z 3) (cR m 12 3) 0), Value.int .i64 (rv (X 3) (Y 3) (Z 3) (cR m 12 3) 1), Value.int .i64 (rv (X 3) (Y 3) (Z 3) (cR m 12 3) 2), Value.int .i64 (rv (X 3) (Y 3) (Z 3) (cR m 12 3) 3)] (by rfl) (by rfl) (row4_new _ _ _ _ _ _) (ints4 _ _ _ _) (by decide) (by decide) (by have := hb2.out.size; simp; omega) ?_; intro v3 xw3 hq1 hq2 hq3) | fail)
    have hb3 : Hid (Below S5.heap.size S5 xw3) := (hb2.out.alloc hb2.out.size _).grown hq2 (by have := hb2.out.size; simp; omega) (fun k hk => (R2.out.lt k hk).1)
    have R3 : Hid (xw3.ownsRow S5.heap.size 92 4 v3 3 [Value.int .i64 (rv (X 0) (Y 0) (Z 0) (cR m 12 0) 0), Value.int .i64 (rv (X 0) (Y 0) (Z 0) (cR m 12 0) 1), Value.int .i64 (rv (X 0) (Y 0) (Z 0) (cR m 12 0) 2), Value.int .i64 (rv (X 0) (Y 0) (Z 0) (cR m 12 0) 3), Value.int .i64 (rv (X 1) (Y 1) (Z 1) (cR m 12 1) 0), Value.int .i64 (rv (X 1) (Y 1) (Z 1) (cR m 12 1) 1), Value.int .i64 (rv (X 1) (Y 1) (Z 1) (cR m 12 1) 2), Value.int .i64 (rv (X 1) (Y 1) (Z 1) (cR m 12 1) 3), Value.int .i64 (rv (X 3) (Y 3) (Z 3) (cR m 12 3) 0), Value.int .i64 (rv (X 3) (Y 3) (Z 3) (cR m 12 3) 1), Value.int .i64 (rv (X 3) (Y 3) (Z 3) (cR m 12 3) 2), Value.int .i64 (rv (X 3) (Y 3) (Z 3) (cR m 12 3) 3)]) := hq1
    clear hb2 R2
    clear hq1 hq2 hq3 kq kr
    obtain ⟨kq, kr⟩ := cellB ((hb3.out.block _ zb).trans KL.out)
    have hs3 := hb3.out.size
    rw [rounds_succ]
    go_wp2_with fail
    rcases R3.out.2 with ⟨_, h9⟩ | ⟨gg, cap, cur, rfl, hg1, hg2, hg3, hg4, hg5, hg6⟩
    · exact absurd h9 (by decide)
    have hgl : gg < xw3.heap.size := (Array.getElem?_eq_some_iff.1 hg2).1
    have c0 : xw3.cell? ⟨gg, 0, none⟩ = some (Value.int .i64 (rv (X 0) (Y 0) (Z 0) (cR m 12 0) 0)) := (R3.out.cellAt 0 (by decide)).trans rfl
    have c1 : xw3.cell? ⟨gg, 1, none⟩ = some (Value.int .i64 (rv (X 0) (Y 0) (Z 0) (cR m 12 0) 1)) := (R3.out.cellAt 1 (by decide)).trans rfl
    have c2 : xw3.cell? ⟨gg, 2, none⟩ = some (Value.int .i64 (rv (X 0) (Y 0) (Z 0) (cR m 12 0) 2)) := (R3.out.cellAt 2 (by decide)).trans rfl
    have c3 : xw3.cell? ⟨gg, 3, none⟩ = some (Value.int .i64 (rv (X 0) (Y 0) (Z 0) (cR m 12 0) 3)) := (R3.out.cellAt 3 (by decide)).trans rfl
    have c4 : xw3.cell? ⟨gg, 4, none⟩ = some (Value.int .i64 (rv (X 1) (Y 1) (Z 1) (cR m 12 1) 0)) := (R3.out.cellAt 4 (by decide)).trans rfl
    have c5 : xw3.cell? ⟨gg, 5, none⟩ = some (Value.int .i64 (rv (X 1) (Y 1) (Z 1) (cR m 12 1) 1)) := (R3.out.cellAt 5 (by decide)).trans rfl
    have c6 : xw3.cell? ⟨gg, 6, none⟩ = some (Value.int .i64 (rv (X 1) (Y 1) (Z 1) (cR m 12 1) 2)) := (R3.out.cellAt 6 (by decide)).trans rfl
    have c7 : xw3.cell? ⟨gg, 7, none⟩ = some (Value.int .i64 (rv (X 1) (Y 1) (Z 1) (cR m 12 1) 3)) := (R3.out.cellAt 7 (by decide)).trans rfl
    have c8 : xw3.cell? ⟨gg, 8, none⟩ = some (Value.int .i64 (rv (X 3) (Y 3) (Z 3) (cR m 12 3) 0)) := (R3.out.cellAt 8 (by decide)).trans rfl
    have c9 : xw3.cell? ⟨gg, 9, none⟩ = some (Value.int .i64 (rv (X 3) (Y 3) (Z 3) (cR m 12 3) 1)) := (R3.out.cellAt 9 (by decide)).trans rfl
    have c10 : xw3.cell? ⟨gg, 10, none⟩ = some (Value.int .i64 (rv (X 3) (Y 3) (Z 3) (cR m 12 3) 2)) := (R3.out.cellAt 10 (by decide)).trans rfl
    have c11 : xw3.cell? ⟨gg, 11, none⟩ = some (Value.int .i64 (rv (X 3) (Y 3) (Z 3) (cR m 12 3) 3)) := (R3.out.cellAt 11 (by decide)).trans rfl
    clear hg2 hg3 hg4 hg5 hg6 kq kr
    refine wp_calm1 10 (.cells #[.int .u64 0, .int .u64 0] 100) (some 7) (by kernel_rfl) (by kernel_rfl) rfl (fun o ho a w => by cases ho; go_simp) ?_
    intro C hC
    repeat (refine wpCalm_step (fun K hK => ?_); go_simp; first | (refine hK _ ?_; clear hK K) | (apply Exists.intro; refine ⟨fun wc hw => ?_, hK _ ?_⟩; (obtain ⟨hc, hf⟩ := bcell (hC wc hw); go_simp; first | with_reducible exact HT3.out wc | exact rfl); clear hK K))
    refine wpCalm_nil ?_
    clear hC C c0 c1 c2 c3 c4 c5 c6 c7 c8 c9 c10 c11
    intro V b hX hb hblk
    simp only [List.drop_succ_cons, List.drop_zero]
    have hX5 : Below S5.heap.size S5 V := after' hb3.out hX hs3
    have n3 : w.heap.size + 1 ≠ b := by omega
    have n2 : w.heap.size ≠ b := by omega
    have kb := hblk
    have y1 : b < V.heap.size := (Array.getElem?_eq_some_iff.1 hblk).1
    have ks : V.heap[w.heap.size + 1]? = some (.cells #[.int .u64 (uh (parS X Y Z m 2)), .int .u64 (lo (parS X Y Z m 2))] 100 (0, 0)) := (hX5.block _ hz).trans H3.out
    have k2 : V.heap[w.heap.size]? = some (.cells #[.int .u64 0, .int .u64 0] 100 (0, 0)) := (hX5.block _ (by omega)).trans H2.out
    have y2 : w.heap.size + 1 < V.heap.size := Nat.lt_of_lt_of_le hz hX5.size
    have hBV : Hid (Below w.heap.size w V) := after HB.out hX5
    have wb : w.heap.size ≤ b := by omega
    clear hblk hX hX5 hb hgl hg1 R3 hb3 HT3 H3 H2 HB KL hz zb hs1 hs2 hs3
    obtain ⟨lq, lr⟩ := cellB kb
    obtain ⟨mq, mr⟩ := cellB ks
    have KB := Lib.hid kb; have KS := Lib.hid ks; have K2 := Lib.hid k2
    clear kb ks k2
    go_wp2_with fail
    first | refine wp_named ?_ | refine calls_named ?_
    intro V1 hV
    have kb : V1.heap[b]? = some (.cells #[.int .u64 (uh (det3 (rv (X 0) (Y 0) (Z 0) (cR m 12 0) 0) (rv (X 0) (Y 0) (Z 0) (cR m 12 0) 1) (rv (X 0) (Y 0) (Z 0) (cR m 12 0) 2) (rv (X 1) (Y 1) (Z 1) (cR m 12 1) 0) (rv (X 1) (Y 1) (Z 1) (cR m 12 1) 1) (rv (X 1) (Y 1) (Z 1) (cR m 12 1) 2) (rv (X 3) (Y 3) (Z 3) (cR m 12 3) 0) (rv (X 3) (Y 3) (Z 3) (cR m 12 3) 1) (rv (X 3) (Y 3) (Z 3) (cR m 12 3) 2))), .int .u64 (lo (det3 (rv (X 0) (Y 0) (Z 0) (cR m 12 0) 0) (rv (X 0) (Y 0) (Z 0) (cR m 12 0) 1) (rv (X 0) (Y 0) (Z 0) (cR m 12 0) 2) (rv (X 1) (Y 1) (Z 1) (cR m 12 1) 0) (rv (X 1) (Y 1) (Z 1) (cR m 12 1) 1) (rv (X 1) (Y 1) (Z 1) (cR m 12 1) 2) (rv (X 3) (Y 3) (Z 3) (cR m 12 3) 0) (rv (X 3) (Y 3) (Z 3) (cR m 12 3) 1) (rv (X 3) (Y 3) (Z 3) (cR m 12 3) 2)))] 100 (0, 0)) := by rw [hV]; refine Eq.trans (set_own (set_own KB.out _) _) ?_; simp
    have ks : V1.heap[w.heap.size + 1]? = some (.cells #[.int .u64 (uh (parS X Y Z m 2)), .int .u64 (lo (parS X Y Z m 2))] 100 (0, 0)) := by rw [hV]; exact (other_block n3).trans ((other_block n3).trans KS.out)
    have k2 : V1.heap[w.heap.size]? = some (.cells #[.int .u64 0, .int .u64 0] 100 (0, 0)) := by rw [hV]; exact (other_block n2).trans ((other_block n2).trans K2.out)
    have hB : Below w.heap.size w V1 := by rw [hV]; exact (hBV.out.setCell wb _).setCell wb _
    replace y1 : b < V1.heap.size := by rw [hV]; simpa using y1
    replace y2 : w.heap.size + 1 < V1.heap.size := by rw [hV]; simpa using y2
    clear hV lq lr mq mr KB KS K2 hBV HZ
    have hng := ref1_neg (det3 (rv (X 0) (Y 0) (Z 0) (cR m 12 0) 0) (rv (X 0) (Y 0) (Z 0) (cR m 12 0) 1) (rv (X 0) (Y 0) (Z 0) (cR m 12 0) 2) (rv (X 1) (Y 1) (Z 1) (cR m 12 1) 0) (rv (X 1) (Y 1) (Z 1) (cR m 12 1) 1) (rv (X 1) (Y 1) (Z 1) (cR m 12 1) 2) (rv (X 3) (Y 3) (Z 3) (cR m 12 3) 0) (rv (X 3) (Y 3) (Z 3) (cR m 12 3) 1) (rv (X 3) (Y 3) (Z 3) (cR m 12 3) 2))
    unfold w2 at hng
    refine (hng _).mono ?_; rintro e V2 ⟨rfl, hX⟩
    clear hng
    replace kb := (hX.block _ y1).trans kb; replace ks := (hX.block _ y2).trans ks; replace k2 := (hX.block _ (by omega)).trans k2; replace hB := after hB hX
    replace y1 := Nat.lt_of_lt_of_le y1 hX.size; replace y2 := Nat.lt_of_lt_of_le y2 hX.size
    clear hX
    obtain ⟨lq, lr⟩ := cellB kb
    obtain ⟨mq, mr⟩ := cellB ks
    go_wp2_with fail
    first | refine wp_named ?_ | refine calls_named ?_
    intro V3 hV
    replace ks : V3.heap[w.heap.size + 1]? = some (.cells #[.int .u64 (uh (parS X Y Z m 2)), .int .u64 (lo (parS X Y Z m 2))] 100 (0, 0)) := by rw [hV]; exact (other_block n3).trans ((other_block n3).trans ks)
    replace k2 : V3.heap[w.heap.size]? = some (.cells #[.int .u64 0, .int .u64 0] 100 (0, 0)) := by rw [hV]; exact (other_block n2).trans ((other_block n2).trans k2)
    replace kb : V3.heap[b]? = some (.cells #[.int .u64 (uh (-(det3 (rv (X 0) (Y 0) (Z 0) (cR m 12 0) 0) (rv (X 0) (Y 0) (Z 0) (cR m 12 0) 1) (rv (X 0) (Y 0) (Z 0) (cR m 12 0) 2) (rv (X 1) (Y 1) (Z 1) (cR m 12 1) 0) (rv (X 1) (Y 1) (Z 1) (cR m 12 1) 1) (rv (X 1) (Y 1) (Z 1) (cR m 12 1) 2) (rv (X 3) (Y 3) (Z 3) (cR m 12 3) 0) (rv (X 3) (Y 3) (Z 3) (cR m 12 3) 1) (rv (X 3) (Y 3) (Z 3) (cR m 12 3) 2)))), .int .u64 (lo (-(det3 (rv (X 0) (Y 0) (Z 0) (cR m 12 0) 0) (rv (X 0) (Y 0) (Z 0) (cR m 12 0) 1) (rv (X 0) (Y 0) (Z 0) (cR m 12 0) 2) (rv (X 1) (Y 1) (Z 1) (cR m 12 1) 0) (rv (X 1) (Y 1) (Z 1) (cR m 12 1) 1) (rv (X 1) (Y 1) (Z 1) (cR m 12 1) 2) (rv (X 3) (Y 3) (Z 3) (cR m 12 3) 0) (rv (X 3) (Y 3) (Z 3) (cR m 12 3) 1) (rv (X 3) (Y 3) (Z 3) (cR m 12 3) 2))))] 100 (0, 0)) := by rw [hV]; refine Eq.trans (set_own (set_own kb _) _) ?_; simp
    replace hB : Below w.heap.size w V3 := by rw [hV]; exact (hB.setCell wb _).setCell wb _
    replace y1 : b < V3.heap.size := by rw [hV]; simpa using y1
    replace y2 : w.heap.size + 1 < V3.heap.size := by rw [hV]; simpa using y2
    clear hV lq lr mq mr
    have hadd := ref1_add (parS X Y Z m 2) (-(det3 (rv (X 0) (Y 0) (Z 0) (cR m 12 0) 0) (rv (X 0) (Y 0) (Z 0) (cR m 12 0) 1) (rv (X 0) (Y 0) (Z 0) (cR m 12 0) 2) (rv (X 1) (Y 1) (Z 1) (cR m 12 1) 0) (rv (X 1) (Y 1) (Z 1) (cR m 12 1) 1) (rv (X 1) (Y 1) (Z 1) (cR m 12 1) 2) (rv (X 3) (Y 3) (Z 3) (cR m 12 3) 0) (rv (X 3) (Y 3) (Z 3) (cR m 12 3) 1) (rv (X 3) (Y 3) (Z 3) (cR m 12 3) 2)))
    unfold w2 at hadd
    refine (hadd _).mono ?_; rintro e V4 ⟨rfl, hX⟩
    clear hadd
    replace kb := (hX.block _ y1).trans kb; replace ks := (hX.block _ y2).trans ks; replace k2 := (hX.block _ (by omega)).trans k2; replace hB := after hB hX
    replace y1 := Nat.lt_of_lt_of_le y1 hX.size; replace y2 := Nat.lt_of_lt_of_le y2 hX.size
    clear hX
    obtain ⟨mq, mr⟩ := cellB ks
    have KS := Lib.hid ks; have K2 := Lib.hid k2; have HB := Lib.hid hB
    clear ks k2 hB kb
    go_wp2_with fail
    go_roundw
    case rel => first | exact ⟨2 + 1, by decide, by go_num, (by rw [Q.out]; refine Eq.trans (set_own (set_own KS.out _) _) ?_; simp), (other_block (by simp)).trans ((other_block (by simp)).trans K2.out), (HB.out.setCell (by simp) _).setCell (by simp) _, (by refine Lib.hid ?_; simpa using y2)⟩ | ((repeat apply Exists.intro); exact ⟨⟨2 + 1, by decide, by go_num, (by rw [Q.out]; refine Eq.trans (set_own (set_own KS.out _) _) ?_; simp), (other_block (by simp)).trans ((other_block (by simp)).trans K2.out), (HB.out.setCell (by simp) _).setCell (by simp) _, (by refine Lib.hid ?_; simpa using y2)⟩, rfl⟩)
    case measure => simp [intOf]
  · have k1 := (HB.out.block _ hob).trans KL0.out
    have hz := HZ.out
    by_cases hc : cR m 12 3 = 0
    case neg =>
      have q : parS X Y Z m (3 + 1) = parS X Y Z m 3 := by show parS X Y Z m 3 + (if cR m 12 3 = 0 then _ else 0) = _; rw [if_neg hc]; omega
      have Q := Lib.hid q
      replace k1 : wr.heap[ob]? = some (.cells #[Value.int .i64 (rv (X 0) (Y 0) (Z 0) (cR m 12 0) 0), Value.int .i64 (rv (X 0) (Y 0) (Z 0) (cR m 12 0) 1), Value.int .i64 (rv (X 0) (Y 0) (Z 0) (cR m 12 0) 2), Value.int .i64 (rv (X 0) (Y 0) (Z 0) (cR m 12 0) 3), Value.int .i64 (rv (X 1) (Y 1) (Z 1) (cR m 12 1) 0), Value.int .i64 (rv (X 1) (Y 1) (Z 1) (cR m 12 1) 1), Value.int .i64 (rv (X 1) (Y 1) (Z 1) (cR m 12 1) 2), Value.int .i64 (rv (X 1) (Y 1) (Z 1) (cR m 12 1) 3), Value.int .i64 (rv (X 2) (Y 2) (Z 2) (cR m 12 2) 0), Value.int .i64 (rv (X 2) (Y 2) (Z 2) (cR m 12 2) 1), Value.int .i64 (rv (X 2) (Y 2) (Z 2) (cR m 12 2) 2), Value.int .i64 (rv (X 2) (Y 2) (Z 2) (cR m 12 2) 3), Value.int .i64 (rv (X 3) (Y 3) (Z 3) (cR m 12 3) 0), Value.int .i64 (rv (X 3) (Y 3) (Z 3) (cR m 12 3) 1), Value.int .i64 (rv (X 3) (Y 3) (Z 3) (cR m 12 3) 2), Value.int .i64 0] 92 (0, 0)) := by rw [rv3n (x := X 3) (y := Y 3) (z := Z 3) hc] at k1; exact k1
      obtain ⟨kq, kr⟩ := cellB k1
      clear k1 q hc hco
      go_wp2_with fail
      go_roundw
      case rel => exact ⟨3 + 1, by decide, by go_num, (by rw [Q.out]; exact H3.out), H2, HB, hz⟩
      case measure => simp [intOf]
    replace k1 : wr.heap[ob]? = some (.cells #[Value.int .i64 (rv (X 0) (Y 0) (Z 0) (cR m 12 0) 0), Value.int .i64 (rv (X 0) (Y 0) (Z 0) (cR m 12 0) 1), Value.int .i64 (rv (X 0) (Y 0) (Z 0) (cR m 12 0) 2), Value.int .i64 (rv (X 0) (Y 0) (Z 0) (cR m 12 0) 3), Value.int .i64 (rv (X 1) (Y 1) (Z 1) (cR m 12 1) 0), Value.int .i64 (rv (X 1) (Y 1) (Z 1) (cR m 12 1) 1), Value.int .i64 (rv (X 1) (Y 1) (Z 1) (cR m 12 1) 2), Value.int .i64 (rv (X 1) (Y 1) (Z 1) (cR m 12 1) 3), Value.int .i64 (rv (X 2) (Y 2) (Z 2) (cR m 12 2) 0), Value.int .i64 (rv (X 2) (Y 2) (Z 2) (cR m 12 2) 1), Value.int .i64 (rv (X 2) (Y 2) (Z 2) (cR m 12 2) 2), Value.int .i64 (rv (X 2) (Y 2) (Z 2) (cR m 12 2) 3), Value.int .i64 (rv (X 3) (Y 3) (Z 3) (cR m 12 3) 0), Value.int .i64 (rv (X 3) (Y 3) (Z 3) (cR m 12 3) 1), Value.int .i64 (rv (X 3) (Y 3) (Z 3) (cR m 12 3) 2), Value.int .i64 1] 92 (0, 0)) := by rw [rv3 (x := X 3) (y := Y 3) (z := Z 3) hc] at k1; exact k1
    have KL := Lib.hid k1
    have q : parS X Y Z m (3 + 1) = parS X Y Z m 3 + det3 (rv (X 0) (Y 0) (Z 0) (cR m 12 0) 0) (rv (X 0) (Y 0) (Z 0) (cR m 12 0) 1) (rv (X 0) (Y 0) (Z 0) (cR m 12 0) 2) (rv (X 1) (Y 1) (Z 1) (cR m 12 1) 0) (rv (X 1) (Y 1) (Z 1) (cR m 12 1) 1) (rv (X 1) (Y 1) (Z 1) (cR m 12 1) 2) (rv (X 2) (Y 2) (Z 2) (cR m 12 2) 0) (rv (X 2) (Y 2) (Z 2) (cR m 12 2) 1) (rv (X 2) (Y 2) (Z 2) (cR m 12 2) 2) := by show parS X Y Z m 3 + (if cR m 12 3 = 0 then _ else 0) = _; rw [if_pos hc]; rfl
    have Q := Lib.hid q
    have ht3 := ref2_three (rv (X 0) (Y 0) (Z 0) (cR m 12 0) 0) (rv (X 0) (Y 0) (Z 0) (cR m 12 0) 1) (rv (X 0) (Y 0) (Z 0) (cR m 12 0) 2) (rv (X 0) (Y 0) (Z 0) (cR m 12 0) 3) (rv (X 1) (Y 1) (Z 1) (cR m 12 1) 0) (rv (X 1) (Y 1) (Z 1) (cR m 12 1) 1) (rv (X 1) (Y 1) (Z 1) (cR m 12 1) 2) (rv (X 1) (Y 1) (Z 1) (cR m 12 1) 3) (rv (X 2) (Y 2) (Z 2) (cR m 12 2) 0) (rv (X 2) (Y 2) (Z 2) (cR m 12 2) 1) (rv (X 2) (Y 2) (Z 2) (cR m 12 2) 2) (rv (X 2) (Y 2) (Z 2) (cR m 12 2) 3) ⟨rv_co (hco.out 0 (by decide)) _ _, rv_co (hco.out 0 (by decide)) _ _, rv_co (hco.out 0 (by decide)) _ _⟩ ⟨rv_co (hco.out 1 (by decide)) _ _, rv_co (hco.out 1 (by decide)) _ _, rv_co (hco.out 1 (by decide)) _ _⟩ ⟨rv_co (hco.out 2 (by decide)) _ _, rv_co (hco.out 2 (by decide)) _ _, rv_co (hco.out 2 (by decide)) _ _⟩
    unfold w2 at ht3
    have HT3 := Lib.hid ht3
    obtain ⟨kq, kr⟩ := cellB k1
    obtain ⟨S5, rfl⟩ : ∃ S, S = wr := ⟨_, rfl⟩
    have zb : ob < S5.heap.size := Nat.lt_of_lt_of_le hob HB.out.size
    clear q hc k1 ht3
    go_wp2_with fail
    refine wp_loop_rounds 5 ?_
    rw [rounds_succ]
    go_wp2_with (first | (at_builtin; refine wpList_append_own _ rfl (.tmp 25) (.tmp 30) 94 rfl S5.heap.size 92 i0 (.agg #[.int .i64 0, .int .i64 0, .int .i64 0, .int .i64 0]) 4 32 uRws HI.out HZ0.out HZ1.out HZ2.out rfl (by decide) _ 0 [] (by rfl) (World.ownsRow_nil _ _ _ _) ⟨_, 0, none⟩ 1 1 [Value.int .i64 (rv (X 0) (Y 0) (Z 0) (cR m 12 0) 0), Value.int .i64 (rv (X 0) (Y 0) (Z 0) (cR m 12 0) 1), Value.int .i64 (rv (X 0) (Y 0) (Z 0) (cR m 12 0) 2), Value.int .i64 (rv (X 0) (Y 0) (Z 0) (cR m 12 0) 3)] (by rfl) (by rfl) (row4_new _ _ _ _ _ _) (ints4 _ _ _ _) (by decide) (by decide) (by simp) ?_; intro v1 xw1 hq1 hq2 hq3) | fail)
    have hb1 : Hid (Below S5.heap.size S5 xw1) := ((Below.refl _ _).alloc (Nat.le_refl _) _).grown hq2 (by simp) (fun k hk => by cases hk)
    have R1 : Hid (xw1.ownsRow S5.heap.size 92 4 v1 1 [Value.int .i64 (rv (X 0) (Y 0) (Z 0) (cR m 12 0) 0), Value.int .i64 (rv (X 0) (Y 0) (Z 0) (cR m 12 0) 1), Value.int .i64 (rv (X 0) (Y 0) (Z 0) (cR m 12 0) 2), Value.int .i64 (rv (X 0) (Y 0) (Z 0) (cR m 12 0) 3)]) := hq1
    clear hq1 hq2 hq3 kq kr
    obtain ⟨kq, kr⟩ := cellB ((hb1.out.block _ zb).trans KL.out)
    have hs1 := hb1.out.size
    rw [rounds_succ]
    go_wp2_with (first | (at_builtin; refine wpList_append_own _ rfl (.tmp 25) (.tmp 30) 94 rfl S5.heap.size 92 i0 (.agg #[.int .i64 0, .int .i64 0, .int .i64 0, .int .i64 0]) 4 32 uRws HI.out HZ0.out HZ1.out HZ2.out rfl (by decide) _ 1 [Value.int .i64 (rv (X 0) (Y 0) (Z 0) (cR m 12 0) 0), Value.int .i64 (rv (X 0) (Y 0) (Z 0) (cR m 12 0) 1), Value.int .i64 (rv (X 0) (Y 0) (Z 0) (cR m 12 0) 2), Value.int .i64 (rv (X 0) (Y 0) (Z 0) (cR m 12 0) 3)] (by rfl) (R1.out.alloc _) ⟨_, 0, none⟩ 1 1 [Value.int .i64 (rv (X 1) (Y 1) (Z 1) (cR m 12 1) 0), Value.int .i64 (rv (X 1) (Y 1) (Z 1) (cR m 12 1) 1), Value.int .i64 (rv (X 1) (Y 1) (Z 1) (cR m 12 1) 2), Value.int .i64 (rv (X 1) (Y 1) (Z 1) (cR m 12 1) 3)] (by rfl) (by rfl) (row4_new _ _ _ _ _ _) (ints4 _ _ _ _) (by decide) (by decide) (by have := hb1.out.size; simp; omega) ?_; intro v2 xw2 hq1 hq2 hq3) | fail)
    have hb2 : Hid (Below S5.heap.size S5 xw2) := (hb1.out.alloc hb1.out.size _).grown hq2 (by have := hb1.out.size; simp; omega) (fun k hk => (R1.out.lt k hk).1)
    have R2 : Hid (xw2.ownsRow S5.heap.size 92 4 v2 2 [Value.int .i64 (rv (X 0) (Y 0) (Z 0) (cR m 12 0) 0), Value.int .i64 (rv (X 0) (Y 0) (Z 0) (cR m 12 0) 1), Value.int .i64 (rv (X 0) (Y 0) (Z 0) (cR m 12 0) 2), Value.int .i64 (rv (X 0) (Y 0) (Z 0) (cR m 12 0) 3), Value.int .i64 (rv (X 1) (Y 1) (Z 1) (cR m 12 1) 0), Value.int .i64 (rv (X 1) (Y 1) (Z 1) (cR m 12 1) 1), Value.int .i64 (rv (X 1) (Y 1) (Z 1) (cR m 12 1) 2), Value.int .i64 (rv (X 1) (Y 1) (Z 1) (cR m 12 1) 3)]) := hq1
    clear hb1 R1
    clear hq1 hq2 hq3 kq kr
    obtain ⟨kq, kr⟩ := cellB ((hb2.out.block _ zb).trans KL.out)
    have hs2 := hb2.out.size
    rw [rounds_succ]
    go_wp2_with (first | (at_builtin; refine wpList_append_own _ rfl (.tmp 25) (.tmp 30) 94 rfl S5.heap.size 92 i0 (.agg #[.int .i64 0, .int .i64 0, .int .i64 0, .int .i64 0]) 4 32 uRws HI.out HZ0.out HZ1.out HZ2.out rfl (by decide) _ 2 [Value.int .i64 (rv (X 0) (Y 0) (Z 0) (cR m 12 0) 0), Value.int .i64 (rv (X 0) (Y 0) (Z 0) (cR m 12 0) 1), Value.int .i64 (rv (X 0) (Y 0) (Z 0) (cR m 12 0) 2), Value.int .i64 (rv (X 0) (Y 0) (Z 0) (cR m 12 0) 3), Value.int .i64 (rv (X 1) (Y 1) (Z 1) (cR m 12 1) 0), Value.int .i64 (rv (X 1) (Y 1) (Z 1) (cR m 12 1) 1), Value.int .i64 (rv (X 1) (Y 1) (Z 1) (cR m 12 1) 2), Value.int .i64 (rv (X 1) (Y 1) (Z 1) (cR m 12 1) 3)] (by rfl) (R2.out.alloc _) ⟨_, 0, none⟩ 1 1 [Value.int .i64 (rv (X 2) (Y 2) (Z 2) (cR m 12 2) 0), Value.int .i64 (rv (X 2) (Y 2) (Z 2) (cR m 12 2) 1), Value.int .i64 (rv (X 2) (Y 2) (Z 2) (cR m 12 2) 2), Value.int .i64 (rv (X 2) (Y 2) (Z 2) (cR m 12 2) 3)] (by rfl) (by rfl) (row4_new _ _ _ _ _ _) (ints4 _ _ _ _) (by decide) (by decide) (by have := hb2.out.size; simp; omega) ?_; intro v3 xw3 hq1 hq2 hq3) | fail)
    have hb3 : Hid (Below S5.heap.size S5 xw3) := (hb2.out.alloc hb2.out.size _).grown hq2 (by have := hb2.out.size; simp; omega) (fun k hk => (R2.out.lt k hk).1)
    have R3 : Hid (xw3.ownsRow S5.heap.size 92 4 v3 3 [Value.int .i64 (rv (X 0) (Y 0) (Z 0) (cR m 12 0) 0), Value.int .i64 (rv (X 0) (Y 0) (Z 0) (cR m 12 0) 1), Value.int .i64 (rv (X 0) (Y 0) (Z 0) (cR m 12 0) 2), Value.int .i64 (rv (X 0) (Y 0) (Z 0) (cR m 12 0) 3), Value.int .i64 (rv (X 1) (Y 1) (Z 1) (cR m 12 1) 0), Value.int .i64 (rv (X 1) (Y 1) (Z 1) (cR m 12 1) 1), Value.int .i64 (rv (X 1) (Y 1) (Z 1) (cR m 12 1) 2), Value.int .i64 (rv (X 1) (Y 1) (Z 1) (cR m 12 1) 3), Value.int .i64 (rv (X 2) (Y 2) (Z 2) (cR m 12 2) 0), Value.int .i64 (rv (X 2) (Y 2) (Z 2) (cR m 12 2) 1), Value.int .i64 (rv (X 2) (Y 2) (Z 2) (cR m 12 2) 2), Value.int .i64 (rv (X 2) (Y 2) (Z 2) (cR m 12 2) 3)]) := hq1
    clear hb2 R2
    clear hq1 hq2 hq3 kq kr
    obtain ⟨kq, kr⟩ := cellB ((hb3.out.block _ zb).trans KL.out)
    have hs3 := hb3.out.size
    rw [rounds_succ]
    go_wp2_with fail
    rw [rounds_succ]
    go_wp2_with fail
    rcases R3.out.2 with ⟨_, h9⟩ | ⟨gg, cap, cur, rfl, hg1, hg2, hg3, hg4, hg5, hg6⟩
    · exact absurd h9 (by decide)
    have hgl : gg < xw3.heap.size := (Array.getElem?_eq_some_iff.1 hg2).1
    have c0 : xw3.cell? ⟨gg, 0, none⟩ = some (Value.int .i64 (rv (X 0) (Y 0) (Z 0) (cR m 12 0) 0)) := (R3.out.cellAt 0 (by decide)).trans rfl
    have c1 : xw3.cell? ⟨gg, 1, none⟩ = some (Value.int .i64 (rv (X 0) (Y 0) (Z 0) (cR m 12 0) 1)) := (R3.out.cellAt 1 (by decide)).trans rfl
    have c2 : xw3.cell? ⟨gg, 2, none⟩ = some (Value.int .i64 (rv (X 0) (Y 0) (Z 0) (cR m 12 0) 2)) := (R3.out.cellAt 2 (by decide)).trans rfl
    have c3 : xw3.cell? ⟨gg, 3, none⟩ = some (Value.int .i64 (rv (X 0) (Y 0) (Z 0) (cR m 12 0) 3)) := (R3.out.cellAt 3 (by decide)).trans rfl
    have c4 : xw3.cell? ⟨gg, 4, none⟩ = some (Value.int .i64 (rv (X 1) (Y 1) (Z 1) (cR m 12 1) 0)) := (R3.out.cellAt 4 (by decide)).trans rfl
    have c5 : xw3.cell? ⟨gg, 5, none⟩ = some (Value.int .i64 (rv (X 1) (Y 1) (Z 1) (cR m 12 1) 1)) := (R3.out.cellAt 5 (by decide)).trans rfl
    have c6 : xw3.cell? ⟨gg, 6, none⟩ = some (Value.int .i64 (rv (X 1) (Y 1) (Z 1) (cR m 12 1) 2)) := (R3.out.cellAt 6 (by decide)).trans rfl
    have c7 : xw3.cell? ⟨gg, 7, none⟩ = some (Value.int .i64 (rv (X 1) (Y 1) (Z 1) (cR m 12 1) 3)) := (R3.out.cellAt 7 (by decide)).trans rfl
    have c8 : xw3.cell? ⟨gg, 8, none⟩ = some (Value.int .i64 (rv (X 2) (Y 2) (Z 2) (cR m 12 2) 0)) := (R3.out.cellAt 8 (by decide)).trans rfl
    have c9 : xw3.cell? ⟨gg, 9, none⟩ = some (Value.int .i64 (rv (X 2) (Y 2) (Z 2) (cR m 12 2) 1)) := (R3.out.cellAt 9 (by decide)).trans rfl
    have c10 : xw3.cell? ⟨gg, 10, none⟩ = some (Value.int .i64 (rv (X 2) (Y 2) (Z 2) (cR m 12 2) 2)) := (R3.out.cellAt 10 (by decide)).trans rfl
    have c11 : xw3.cell? ⟨gg, 11, none⟩ = some (Value.int .i64 (rv (X 2) (Y 2) (Z 2) (cR m 12 2) 3)) := (R3.out.cellAt 11 (by decide)).trans rfl
    clear hg2 hg3 hg4 hg5 hg6 kq kr
    refine wp_calm1 10 (.cells #[.int .u64 0, .int .u64 0] 100) (some 7) (by kernel_rfl) (by kernel_rfl) rfl (fun o ho a w => by cases ho; go_simp) ?_
    intro C hC
    repeat (refine wpCalm_step (fun K hK => ?_); go_simp; first | (refine hK _ ?_; clear hK K) | (apply Exists.intro; refine ⟨fun wc hw => ?_, hK _ ?_⟩; (obtain ⟨hc, hf⟩ := bcell (hC wc hw); go_simp; first | with_reducible exact HT3.out wc | exact rfl); clear hK K))
    refine wpCalm_nil ?_
    clear hC C c0 c1 c2 c3 c4 c5 c6 c7 c8 c9 c10 c11
    intro V b hX hb hblk
    simp only [List.drop_succ_cons, List.drop_zero]
    have hX5 : Below S5.heap.size S5 V := after' hb3.out hX hs3
    have n3 : w.heap.size + 1 ≠ b := by omega
    have n2 : w.heap.size ≠ b := by omega
    have kb := hblk
    have y1 : b < V.heap.size := (Array.getElem?_eq_some_iff.1 hblk).1
    have ks : V.heap[w.heap.size + 1]? = some (.cells #[.int .u64 (uh (parS X Y Z m 3)), .int .u64 (lo (parS X Y Z m 3))] 100 (0, 0)) := (hX5.block _ hz).trans H3.out
    have k2 : V.heap[w.heap.size]? = some (.cells #[.int .u64 0, .int .u64 0] 100 (0, 0)) := (hX5.block _ (by omega)).trans H2.out
    have y2 : w.heap.size + 1 < V.heap.size := Nat.lt_of_lt_of_le hz hX5.size
    have hBV : Hid (Below w.heap.size w V) := after HB.out hX5
    have wb : w.heap.size ≤ b := by omega
    clear hblk hX hX5 hb hgl hg1 R3 hb3 HT3 H3 H2 HB KL hz zb hs1 hs2 hs3
    obtain ⟨lq, lr⟩ := cellB kb
    obtain ⟨mq, mr⟩ := cellB ks
    have KB := Lib.hid kb; have KS := Lib.hid ks; have K2 := Lib.hid k2
    clear kb ks k2
    go_wp2_with fail
    first | refine wp_named ?_ | refine calls_named ?_
    intro V1 hV
    have kb : V1.heap[b]? = some (.cells #[.int .u64 (uh (det3 (rv (X 0) (Y 0) (Z 0) (cR m 12 0) 0) (rv (X 0) (Y 0) (Z 0) (cR m 12 0) 1) (rv (X 0) (Y 0) (Z 0) (cR m 12 0) 2) (rv (X 1) (Y 1) (Z 1) (cR m 12 1) 0) (rv (X 1) (Y 1) (Z 1) (cR m 12 1) 1) (rv (X 1) (Y 1) (Z 1) (cR m 12 1) 2) (rv (X 2) (Y 2) (Z 2) (cR m 12 2) 0) (rv (X 2) (Y 2) (Z 2) (cR m 12 2) 1) (rv (X 2) (Y 2) (Z 2) (cR m 12 2) 2))), .int .u64 (lo (det3 (rv (X 0) (Y 0) (Z 0) (cR m 12 0) 0) (rv (X 0) (Y 0) (Z 0) (cR m 12 0) 1) (rv (X 0) (Y 0) (Z 0) (cR m 12 0) 2) (rv (X 1) (Y 1) (Z 1) (cR m 12 1) 0) (rv (X 1) (Y 1) (Z 1) (cR m 12 1) 1) (rv (X 1) (Y 1) (Z 1) (cR m 12 1) 2) (rv (X 2) (Y 2) (Z 2) (cR m 12 2) 0) (rv (X 2) (Y 2) (Z 2) (cR m 12 2) 1) (rv (X 2) (Y 2) (Z 2) (cR m 12 2) 2)))] 100 (0, 0)) := by rw [hV]; refine Eq.trans (set_own (set_own KB.out _) _) ?_; simp
    have ks : V1.heap[w.heap.size + 1]? = some (.cells #[.int .u64 (uh (parS X Y Z m 3)), .int .u64 (lo (parS X Y Z m 3))] 100 (0, 0)) := by rw [hV]; exact (other_block n3).trans ((other_block n3).trans KS.out)
    have k2 : V1.heap[w.heap.size]? = some (.cells #[.int .u64 0, .int .u64 0] 100 (0, 0)) := by rw [hV]; exact (other_block n2).trans ((other_block n2).trans K2.out)
    have hB : Below w.heap.size w V1 := by rw [hV]; exact (hBV.out.setCell wb _).setCell wb _
    replace y1 : b < V1.heap.size := by rw [hV]; simpa using y1
    replace y2 : w.heap.size + 1 < V1.heap.size := by rw [hV]; simpa using y2
    clear hV lq lr mq mr KB KS K2 hBV HZ
    have hadd := ref1_add (parS X Y Z m 3) (det3 (rv (X 0) (Y 0) (Z 0) (cR m 12 0) 0) (rv (X 0) (Y 0) (Z 0) (cR m 12 0) 1) (rv (X 0) (Y 0) (Z 0) (cR m 12 0) 2) (rv (X 1) (Y 1) (Z 1) (cR m 12 1) 0) (rv (X 1) (Y 1) (Z 1) (cR m 12 1) 1) (rv (X 1) (Y 1) (Z 1) (cR m 12 1) 2) (rv (X 2) (Y 2) (Z 2) (cR m 12 2) 0) (rv (X 2) (Y 2) (Z 2) (cR m 12 2) 1) (rv (X 2) (Y 2) (Z 2) (cR m 12 2) 2))
    unfold w2 at hadd
    refine (hadd _).mono ?_; rintro e V4 ⟨rfl, hX⟩
    clear hadd
    replace kb := (hX.block _ y1).trans kb; replace ks := (hX.block _ y2).trans ks; replace k2 := (hX.block _ (by omega)).trans k2; replace hB := after hB hX
    replace y1 := Nat.lt_of_lt_of_le y1 hX.size; replace y2 := Nat.lt_of_lt_of_le y2 hX.size
    clear hX
    obtain ⟨mq, mr⟩ := cellB ks
    have KS := Lib.hid ks; have K2 := Lib.hid k2; have HB := Lib.hid hB
    clear ks k2 hB kb
    go_wp2_with fail
    go_roundw
    case rel => first | exact ⟨3 + 1, by decide, by go_num, (by rw [Q.out]; refine Eq.trans (set_own (set_own KS.out _) _) ?_; simp), (other_block (by simp)).trans ((other_block (by simp)).trans K2.out), (HB.out.setCell (by simp) _).setCell (by simp) _, (by refine Lib.hid ?_; simpa using y2)⟩ | ((repeat apply Exists.intro); exact ⟨⟨3 + 1, by decide, by go_num, (by rw [Q.out]; refine Eq.trans (set_own (set_own KS.out _) _) ?_; simp), (other_block (by simp)).trans ((other_block (by simp)).trans K2.out), (HB.out.setCell (by simp) _).setCell (by simp) _, (by refine Lib.hid ?_; simpa using y2)⟩, rfl⟩)
    case measure => simp [intOf]
end Go.Proofs.Ytdglijdiiggdgaa
namespace Go.Proofs.Ytdglijdiiggdgaa
open Go.RowKit Go.Maps Geo
theorem bub_step4 {r p : Nat} {s z : St4} (hr : r < 4) (hp : p < 3) (h : bub (12 - 3 * r - p) (3 * r + p) s = z) : bub (12 - 3 * r - (p + 1)) (3 * r + (p + 1)) (swp (3 * r + p) s) = z := by
  rw [show 12 - 3 * r - p = (12 - 3 * r - (p + 1)) + 1 by omega, bub] at h
  exact h
theorem bub_next4 {r : Nat} {s z : St4} (h : bub (12 - 3 * r - 3) (3 * r + 3) s = z) : bub (12 - 3 * (r + 1) - 0) (3 * (r + 1) + 0) s = z := by
  rw [show 12 - 3 * (r + 1) - 0 = 12 - 3 * r - 3 by omega, show 3 * (r + 1) + 0 = 3 * r + 3 by omega]; exact h
theorem good84 : good 84 12 = true := by decide
theorem smV_84 (p q r t : Pt) : smV p q r t 84 = 1 := dm_last p q r t
theorem sign_cases3 (n : Int) : n.sign = 0 ∨ n.sign = 1 ∨ n.sign = -1 := by
  rcases sign_cases n with h | h | h <;> simp [h.2]
theorem firstG_step {s : Nat → Int} {ok : Nat → Bool} {k : Nat} {z : Int} (hk : k < 85) (h : firstG s ok (85 - k) k = z) : z = if ok k = true ∧ s k ≠ 0 then s k else firstG s ok (85 - (k + 1)) (k + 1) := by
  rw [show 85 - k = (85 - (k + 1)) + 1 by omega, firstG] at h
  exact h.symm
set_option maxRecDepth 100000 in
set_option maxHeartbeats 16000000 in
theorem ref2_sign0 (pb off n cp : Nat) (X Y Z : Nat → Int) (i j k m : Nat) (_hn : n < 4611686018427387904) (za zb zc zd : Nat) (zt sg : Int) (hz : Hid (bub (12 - 3 * 0 - 0) (3 * 0 + 0) ⟨i, j, k, m, 1⟩ = ⟨za, zb, zc, zd, zt⟩)) (hzt : Hid (zt = 1 ∨ zt = -1)) (ha : za < n) (hb : zb < n) (hc : zc < n) (hd : zd < n)
    (hsg : Hid (sg4 (ptOf X Y Z za) (ptOf X Y Z zb) (ptOf X Y Z zc) (ptOf X Y Z zd) = sg)) (hco : Hid (∀ i, i < n → Co (X i) ∧ Co (Y i) ∧ Co (Z i))) (w : World) (hp : Hid (PtsAt w pb off n X Y Z)) :
    Calls Try.prog 45 #[.slice (some ⟨pb, off, none⟩) n cp, .int .i64 i, .int .i64 j, .int .i64 k, .int .i64 m] w fun e w' => e = .returned (.int .i64 (zt * sg)) ∧ Below w.heap.size w w' := by
  go_enter Try.func45, Try.ntmps45
  go_wp2_with fail
  first | refine wp_named ?_ | refine calls_named ?_
  intro W hW
  have k0 : W.heap[w.heap.size]? = some (.cells #[.int .i64 i, .int .i64 j, .int .i64 k, .int .i64 m] 3 (0, 0)) := by rw [hW]; exact heap_at rfl
  have hB : Below w.heap.size w W := by rw [hW]; go_grown
  have z0 : w.heap.size < W.heap.size := by rw [hW]; simp
  clear hW
  go_loopw [12, 13] (fun u v wr => ∃ r : Nat, r ≤ 4 ∧ v = .int .i64 r ∧ ∃ (a b1 c d : Nat) (tt : Int), u = .int .i64 tt ∧ Hid (bub (12 - 3 * r - 0) (3 * r + 0) ⟨a, b1, c, d, tt⟩ = ⟨za, zb, zc, zd, zt⟩) ∧ Hid (tt = 1 ∨ tt = -1) ∧ Hid (wr.heap[w.heap.size]? = some (.cells #[.int .i64 a, .int .i64 b1, .int .i64 c, .int .i64 d] 3 (0, 0))) ∧ Hid (Below w.heap.size w wr) ∧ Hid (w.heap.size < wr.heap.size))
    (fun _ v _ => 4 - (intOf v).toNat)
  case atStart => exact ⟨0, by decide, rfl, i, j, k, m, 1, rfl, hz, .inl rfl, k0, hB, z0⟩
  case round =>
    clear k0 hB z0 hz
    obtain ⟨r, hr, rfl, a, b1, c, d, tt, rfl, HB0, HT', K0, HB, Z0⟩ := hrel
    by_cases hlt : r < 4
    case pos =>
      have hlt' : (r : Int) < 4 := by omega
      go_wp2_with fail
      obtain ⟨S0, rfl⟩ : ∃ S, S = wr := ⟨_, rfl⟩
      go_loopw [12, 14] (fun u v wr => ∃ p : Nat, p ≤ 3 ∧ v = .int .i64 p ∧ ∃ (a b1 c d : Nat) (tt : Int), u = .int .i64 tt ∧ Hid (bub (12 - 3 * r - p) (3 * r + p) ⟨a, b1, c, d, tt⟩ = ⟨za, zb, zc, zd, zt⟩) ∧ Hid (tt = 1 ∨ tt = -1) ∧ wr.heap[w.heap.size]? = some (.cells #[.int .i64 a, .int .i64 b1, .int .i64 c, .int .i64 d] 3 (0, 0)) ∧ Below w.heap.size w wr ∧ w.heap.size < wr.heap.size)
        (fun _ v _ => 3 - (intOf v).toNat)
      case atStart => exact ⟨0, by decide, rfl, a, b1, c, d, tt, rfl, HB0, HT', K0.out, HB.out, Z0.out⟩
      case round =>
        clear K0 HB Z0 HB0 HT'
        obtain ⟨p, hp3, rfl, a, b1, c, d, tt, rfl, HB, HT', k0, hB, z0⟩ := hrel
        obtain ⟨kq, kr⟩ := cellB k0
        have y1 : IntKind.i64.wrap 1 = 1 := by decide
        have y2 : IntKind.i64.wrap 2 = 2 := by decide
        have y3 : IntKind.i64.wrap 3 = 3 := by decide
        have hp4 : p = 0 ∨ p = 1 ∨ p = 2 ∨ p = 3 := by omega
        rcases hp4 with rfl | rfl | rfl | rfl
        · go_wp2_with fail
          refine wp_calm0 10 (by kernel_rfl) (by kernel_rfl) ?_
          intro K hK
          repeat (refine wpCalm_step (fun M hM => ?_); go_simp; first | (refine hM _ ?_; clear hM M) | (apply Exists.intro; refine ⟨fun wc hw => ?_, hM _ ?_⟩; (obtain ⟨hc, hf⟩ := bcell (hK wc hw); go_simp; first | exact rfl); clear hM M))
          refine wpCalm_nil ?_
          clear hK K kq kr
          intro WX hX
          replace k0 := (hX.block _ z0).trans k0
          replace z0 := Nat.lt_of_lt_of_le z0 hX.size
          replace hB := after hB hX
          clear hX
          simp only [List.drop_succ_cons, List.drop_zero]
          obtain ⟨kq, kr⟩ := cellB k0
          by_cases hsw : b1 < a
          · have t1 : -1 ≤ tt := by have := HT'.out; omega
            have t2 : tt ≤ 1 := by have := HT'.out; omega
            go_wp2_with fail
            go_region
            all_goals clear kq kr
            all_goals go_wp2
            all_goals go_roundw
            all_goals first | (simp [intOf]; done) | exact ⟨0 + 1, by decide, by go_num, b1, a, c, d, _, rfl, (by have := bub_step4 hlt (by decide) HB.out; rw [swp_y0 hsw] at this; exact this), (by have := HT'.out; show _ ∨ _; omega), set_own (set_own k0 _) _, by go_grown, by simpa using z0⟩ | ((repeat apply Exists.intro); exact ⟨⟨0 + 1, by decide, by go_num, b1, a, c, d, _, rfl, (by have := bub_step4 hlt (by decide) HB.out; rw [swp_y0 hsw] at this; exact this), (by have := HT'.out; show _ ∨ _; omega), set_own (set_own k0 _) _, by go_grown, by simpa using z0⟩, rfl⟩)
          · go_wp2
            go_roundw
            case rel => first | exact ⟨0 + 1, by decide, by go_num, a, b1, c, d, tt, rfl, (by have := bub_step4 hlt (by decide) HB.out; rw [swp_n0 hsw] at this; exact this), HT', k0, hB, z0⟩ | ((repeat apply Exists.intro); exact ⟨⟨0 + 1, by decide, by go_num, a, b1, c, d, tt, rfl, (by have := bub_step4 hlt (by decide) HB.out; rw [swp_n0 hsw] at this; exact this), HT', k0, hB, z0⟩, rfl⟩)
            case measure => simp [intOf]
        · go_wp2_with fail
          refine wp_calm0 10 (by kernel_rfl) (by kernel_rfl) ?_
          intro K hK
          repeat (refine wpCalm_step (fun M hM => ?_); go_simp; first | (refine hM _ ?_; clear hM M) | (apply Exists.intro; refine ⟨fun wc hw => ?_, hM _ ?_⟩; (obtain ⟨hc, hf⟩ := bcell (hK wc hw); go_simp; first | exact rfl); clear hM M))
          refine wpCalm_nil ?_
          clear hK K kq kr
          intro WX hX
          replace k0 := (hX.block _ z0).trans k0
          replace z0 := Nat.lt_of_lt_of_le z0 hX.size
          replace hB := after hB hX
          clear hX
          simp only [List.drop_succ_cons, List.drop_zero]
          obtain ⟨kq, kr⟩ := cellB k0
          by_cases hsw : c < b1
          · have t1 : -1 ≤ tt := by have := HT'.out; omega
            have t2 : tt ≤ 1 := by have := HT'.out; omega
            go_wp2_with fail
            go_region
            all_goals clear kq kr
            all_goals go_wp2
            all_goals go_roundw
            all_goals first | (simp [intOf]; done) | exact ⟨1 + 1, by decide, by go_num, a, c, b1, d, _, rfl, (by have := bub_step4 hlt (by decide) HB.out; rw [swp_y1 hsw] at this; exact this), (by have := HT'.out; show _ ∨ _; omega), set_own (set_own k0 _) _, by go_grown, by simpa using z0⟩ | ((repeat apply Exists.intro); exact ⟨⟨1 + 1, by decide, by go_num, a, c, b1, d, _, rfl, (by have := bub_step4 hlt (by decide) HB.out; rw [swp_y1 hsw] at this; exact this), (by have := HT'.out; show _ ∨ _; omega), set_own (set_own k0 _) _, by go_grown, by simpa using z0⟩, rfl⟩)
          · go_wp2
            go_roundw
            case rel => first | exact ⟨1 + 1, by decide, by go_num, a, b1, c, d, tt, rfl, (by have := bub_step4 hlt (by decide) HB.out; rw [swp_n1 hsw] at this; exact this), HT', k0, hB, z0⟩ | ((repeat apply Exists.intro); exact ⟨⟨1 + 1, by decide, by go_num, a, b1, c, d, tt, rfl, (by have := bub_step4 hlt (by decide) HB.out; rw [swp_n1 hsw] at this; exact this), HT', k0, hB, z0⟩, rfl⟩)
            case measure => simp [intOf]
        · go_wp2_with fail
          refine wp_calm0 10 (by kernel_rfl) (by kernel_rfl) ?_
          intro K hK
          repeat (refine wpCalm_step (fun M hM => ?_); go_simp; first | (refine hM _ ?_; clear hM M) | (apply Exists.intro; refine ⟨fun wc hw => ?_, hM _ ?_⟩; (obtain ⟨hc, hf⟩ := bcell (hK wc hw); go_simp; first | exact rfl); clear hM M))
          refine wpCalm_nil ?_
          clear hK K kq kr
          intro WX hX
          replace k0 := (hX.block _ z0).trans k0
          replace z0 := Nat.lt_of_lt_of_le z0 hX.size
          replace hB := after hB hX
          clear hX
          simp only [List.drop_succ_cons, List.drop_zero]
          obtain ⟨kq, kr⟩ := cellB k0
          by_cases hsw : d < c
          · have t1 : -1 ≤ tt := by have := HT'.out; omega
            have t2 : tt ≤ 1 := by have := HT'.out; omega
            go_wp2_with fail
            go_region
            all_goals clear kq kr
            all_goals go_wp2
            all_goals go_roundw
            all_goals first | (simp [intOf]; done) | exact ⟨2 + 1, by decide, by go_num, a, b1, d, c, _, rfl, (by have := bub_step4 hlt (by decide) HB.out; rw [swp_y2 hsw] at this; exact this), (by have := HT'.out; show _ ∨ _; omega), set_own (set_own k0 _) _, by go_grown, by simpa using z0⟩ | ((repeat apply Exists.intro); exact ⟨⟨2 + 1, by decide, by go_num, a, b1, d, c, _, rfl, (by have := bub_step4 hlt (by decide) HB.out; rw [swp_y2 hsw] at this; exact this), (by have := HT'.out; show _ ∨ _; omega), set_own (set_own k0 _) _, by go_grown, by simpa using z0⟩, rfl⟩)
          · go_wp2
            go_roundw
            case rel => first | exact ⟨2 + 1, by decide, by go_num, a, b1, c, d, tt, rfl, (by have := bub_step4 hlt (by decide) HB.out; rw [swp_n2 hsw] at this; exact this), HT', k0, hB, z0⟩ | ((repeat apply Exists.intro); exact ⟨⟨2 + 1, by decide, by go_num, a, b1, c, d, tt, rfl, (by have := bub_step4 hlt (by decide) HB.out; rw [swp_n2 hsw] at this; exact this), HT', k0, hB, z0⟩, rfl⟩)
            case measure => simp [intOf]
        clear kq kr y1 y2 y3
        go_wp2_with fail
        go_roundw
        case rel => first | exact ⟨r + 1, by omega, by go_num, a, b1, c, d, tt, rfl, bub_next4 HB.out, HT', k0, hB, z0⟩ | ((repeat apply Exists.intro); exact ⟨⟨r + 1, by omega, by go_num, a, b1, c, d, tt, rfl, bub_next4 HB.out, HT', k0, hB, z0⟩, rfl⟩)
        case measure => simp [intOf]; omega
    have hr4 : r = 4 := by omega
    subst hr4
    have e := HB0.out
    have e2 : (⟨a, b1, c, d, tt⟩ : St4) = ⟨za, zb, zc, zd, zt⟩ := by
      rw [show 12 - 3 * 4 - 0 = 0 by decide, bub_end] at e; exact e
    injection e2 with e1 e2 e3 e4 e5
    subst e1 e2 e3 e4 e5
    clear e hlt hr HB0
    have hpw : Hid (PtsAt wr pb off n X Y Z) := hp.out.mono HB.out hp.out.1
    obtain ⟨ga1, ga2, ga3⟩ := hpw.out.2 a ha
    obtain ⟨gb1, gb2, gb3⟩ := hpw.out.2 b1 hb
    obtain ⟨gc1, gc2, gc3⟩ := hpw.out.2 c hc
    obtain ⟨gd1, gd2, gd3⟩ := hpw.out.2 d hd
    have gw := hpw.out.1
    have z0 := Z0.out
    obtain ⟨kq, kr⟩ := cellB K0.out
    have HR0 := Lib.hid (ref2_row (X a) (Y a) (Z a))
    have HR1 := Lib.hid (ref2_row (X b1) (Y b1) (Z b1))
    have HR2 := Lib.hid (ref2_row (X c) (Y c) (Z c))
    have HR3 := Lib.hid (ref2_row (X d) (Y d) (Z d))
    go_wp2_with fail
    refine wp_calm0 28 (by kernel_rfl) (by kernel_rfl) ?_
    intro K hK
    repeat (refine wpCalm_step (fun M hM => ?_); go_simp; first | (refine hM _ ?_; clear hM M) | (apply Exists.intro; refine ⟨fun wc hw => ?_, hM _ ?_⟩; (obtain ⟨hc, hf⟩ := bcell (hK wc hw); go_simp; first | with_reducible exact HR0.out wc | with_reducible exact HR1.out wc | with_reducible exact HR2.out wc | with_reducible exact HR3.out wc | exact rfl); clear hM M))
    refine wpCalm_nil ?_
    clear hK K kq kr ga1 ga2 ga3 gb1 gb2 gb3 gc1 gc2 gc3 gd1 gd2 gd3 HR0 HR1 HR2 HR3
    intro V hX
    simp only [List.drop_succ_cons, List.drop_zero]
    have hBV := after HB.out hX
    clear hX hpw K0 HB Z0 z0 gw
    go_wp2_with fail
    first | refine wp_named ?_ | refine calls_named ?_
    intro V1 hV
    have kb : V1.heap[V.heap.size]? = some (.cells (raw16 (l4 (X a) (X b1) (X c) (X d)) (l4 (Y a) (Y b1) (Y c) (Y d)) (l4 (Z a) (Z b1) (Z c) (Z d))) 92 (0, 0)) := by rw [hV]; exact heap_at rfl
    have hB1 : Below w.heap.size w V1 := by rw [hV]; have := hBV.size; go_grown
    clear hV
    have hc4 : Hid (∀ s, s < 4 → Co (l4 (X a) (X b1) (X c) (X d) s) ∧ Co (l4 (Y a) (Y b1) (Y c) (Y d) s) ∧ Co (l4 (Z a) (Z b1) (Z c) (Z d) s)) := by
      intro s hs
      match s, hs with
      | 0, _ => exact hco.out _ ha
      | 1, _ => exact hco.out _ hb
      | 2, _ => exact hco.out _ hc
      | 3, _ => exact hco.out _ hd
    obtain ⟨sm, hsm⟩ : ∃ sm, sm = smV (ptOf X Y Z a) (ptOf X Y Z b1) (ptOf X Y Z c) (ptOf X Y Z d) := ⟨_, rfl⟩
    have HSM := Lib.hid hsm
    have hf0 : firstG sm (fun m => good m 12) (85 - 0) 0 = sg := by rw [hsm, ← hsg.out]; exact first_sg4 _ _ _ _
    have HF0 := Lib.hid hf0
    clear hf0 hsm hsg ha hb hc hd hco hp
    go_loopw [16] (fun u wx => ∃ mk : Nat, mk ≤ 84 ∧ u = .int .i64 mk ∧ Hid (firstG sm (fun m => good m 12) (85 - mk) mk = sg) ∧ Hid (wx.heap[V.heap.size]? = some (.cells (raw16 (l4 (X a) (X b1) (X c) (X d)) (l4 (Y a) (Y b1) (Y c) (Y d)) (l4 (Z a) (Z b1) (Z c) (Z d))) 92 (0, 0))) ∧ Hid (Below w.heap.size w wx))
      (fun u _ => 85 - (intOf u).toNat)
    case atStart => exact ⟨0, by decide, rfl, HF0, kb, hB1⟩
    clear kb hB1 HF0 hBV
    obtain ⟨mk, hmk, rfl, HF, HK, HB⟩ := hrel
    have h84 : mk = 84 → good mk 12 = true ∧ sm mk = 1 := by intro e; rw [e]; exact ⟨good84, by rw [HSM.out]; exact smV_84 _ _ _ _⟩
    have H84 := Lib.hid h84
    clear h84
    go_wp2_with fail
    refine (ref2_changed _ _ _ mk (by omega) V.heap.size 4 _ HK).mono ?_; rintro e W1 ⟨hX, hE⟩
    have hlb : V.heap.size < wr.heap.size := (Array.getElem?_eq_some_iff.1 HK.out).1
    have hk1 : Hid (W1.heap[V.heap.size]? = some (.cells (raw16 (l4 (X a) (X b1) (X c) (X d)) (l4 (Y a) (Y b1) (Y c) (Y d)) (l4 (Z a) (Z b1) (Z c) (Z d))) 92 (0, 0))) := (hX.block _ hlb).trans HK.out
    have hB1 : Hid (Below w.heap.size w W1) := after HB.out hX
    have HZ := Lib.hid hlb
    have HXS := Lib.hid hX
    clear HK HB hlb hX
    rcases hE with ⟨hg, rfl⟩ | ⟨hg, ob, hob, hkb, rfl⟩
    · have hm84 : mk ≠ 84 := fun e => by have := (H84.out e).1; rw [hg] at this; cases this
      have hf := firstG_step (by omega) HF.out
      rw [if_neg (by simp [hg])] at hf
      have HF2 := Lib.hid hf.symm
      clear hf HF hg
      go_wp2_with fail
      go_roundw
      case rel => first | exact ⟨mk + 1, by omega, by go_num, HF2, hk1, hB1⟩ | ((repeat apply Exists.intro); exact ⟨⟨mk + 1, by omega, by go_num, HF2, hk1, hB1⟩, rfl⟩)
      case measure => simp [intOf]; omega
    have HKB := Lib.hid hkb
    have HG := Lib.hid hg
    clear hkb hg
    go_wp2_with fail
    refine (ref2_four _ _ _ mk ob 4 hc4 _ HKB).mono ?_; rintro e W2 ⟨rfl, hX⟩
    have hB2 : Hid (Below w.heap.size w W2) := after hB1.out hX
    have hk2 : Hid (W2.heap[V.heap.size]? = some (.cells (raw16 (l4 (X a) (X b1) (X c) (X d)) (l4 (Y a) (Y b1) (Y c) (Y d)) (l4 (Z a) (Z b1) (Z c) (Z d))) 92 (0, 0))) := (hX.block _ (Nat.lt_of_lt_of_le HZ.out HXS.out.size)).trans hk1.out
    clear hX hB1 hk1 HKB HZ HXS
    go_wp2_with fail
    refine (ref1_sign _ (parS_128 _ _ _ mk hc4.out) _).mono ?_; rintro e W3 ⟨rfl, hX⟩
    have hB3 : Hid (Below w.heap.size w W3) := after hB2.out hX
    have hk3 : Hid (W3.heap[V.heap.size]? = some (.cells (raw16 (l4 (X a) (X b1) (X c) (X d)) (l4 (Y a) (Y b1) (Y c) (Y d)) (l4 (Z a) (Z b1) (Z c) (Z d))) 92 (0, 0))) := (hX.block _ (Array.getElem?_eq_some_iff.1 hk2.out).1).trans hk2.out
    clear hX hB2 hk2
    have hs : (parS (l4 (X a) (X b1) (X c) (X d)) (l4 (Y a) (Y b1) (Y c) (Y d)) (l4 (Z a) (Z b1) (Z c) (Z d)) mk 4).sign = sm mk := by rw [HSM.out]; exact (smV_par _ _ _ mk HG.out).symm
    rw [hs]
    have hsb : sm mk = 0 ∨ sm mk = 1 ∨ sm mk = -1 := by rw [← hs]; exact sign_cases3 _
    clear hs
    obtain ⟨x, hx⟩ : ∃ x, x = sm mk := ⟨_, rfl⟩
    rw [← hx] at hsb ⊢
    have HX := Lib.hid hx
    clear hx
    by_cases hx0 : x = 0
    · have hm84 : mk ≠ 84 := fun e => by have := (H84.out e).2; rw [← HX.out, hx0] at this; cases this
      have hf := firstG_step (by omega) HF.out
      rw [if_neg (by rw [← HX.out]; simp [hx0])] at hf
      have HF2 := Lib.hid hf.symm
      clear hf HF hsb HX
      subst hx0
      go_wp2_with fail
      go_roundw
      case rel => first | exact ⟨mk + 1, by omega, by go_num, HF2, hk3, hB3⟩ | ((repeat apply Exists.intro); exact ⟨⟨mk + 1, by omega, by go_num, HF2, hk3, hB3⟩, rfl⟩)
      case measure => simp [intOf]; omega
    have hf := firstG_step (by omega) HF.out
    rw [if_pos ⟨HG.out, by rw [← HX.out]; exact hx0⟩, ← HX.out] at hf
    subst hf
    have hx1 : (sg != 0) = true := by simpa using hx0
    have t1 := hzt.out
    have t2 : -9223372036854775808 ≤ tt * sg := by rcases t1 with rfl | rfl <;> omega
    have t3 : tt * sg ≤ 9223372036854775807 := by rcases t1 with rfl | rfl <;> omega
    clear t1 hsb HF HX
    go_wp2_with fail
    go_returns
    exact ⟨rfl, hB3.out⟩
end Go.Proofs.Ytdglijdiiggdgaa
namespace Go.Proofs.Ytdglijdiiggdgaa
open Go.RowKit Geo
theorem ref2_fit (n : Int) (w : World) : Calls Try.prog 46 #[.int .i64 n] w fun e w' => e = .returned (.bool (co n)) ∧ Below w.heap.size w w' := by
  by_cases h1 : -1073741824 ≤ n <;> by_cases h2 : n ≤ 1073741824
  all_goals
    go_enter Try.func46, Try.ntmps46
    go_wp2
    go_returns
    exact ⟨by unfold co; simp [h1, h2], by go_grown⟩
set_option maxHeartbeats 1000000 in
theorem ref2_Fit (a b c : Int) (w : World) : Calls Try.prog 37 #[.agg #[.int .i64 a, .int .i64 b, .int .i64 c]] w fun e w' => e = .returned (.bool (co a && co b && co c)) ∧ Below w.heap.size w w' := by
  obtain ⟨x, hx⟩ : ∃ x, x = co a := ⟨_, rfl⟩
  obtain ⟨y, hy⟩ : ∃ y, y = co b := ⟨_, rfl⟩
  obtain ⟨z, hz⟩ : ∃ z, z = co c := ⟨_, rfl⟩
  have HA := ref2_fit a; rw [← hx] at HA
  have HB := ref2_fit b; rw [← hy] at HB
  have HC := ref2_fit c; rw [← hz] at HC
  rw [← hx, ← hy, ← hz]
  clear hx hy hz
  have HA := Lib.hid HA; have HB := Lib.hid HB; have HC := Lib.hid HC
  go_enter Try.func37, Try.ntmps37
  go_wp2_with fail
  first | refine wp_named ?_ | refine calls_named ?_
  intro W hW
  have k0 : W.heap[w.heap.size]? = some (.cells #[.int .i64 a, .int .i64 b, .int .i64 c] 73 (0, 0)) := by rw [hW]; exact heap_at rfl
  have z0 : w.heap.size < W.heap.size := by rw [hW]; simp
  have hB : Below w.heap.size w W := by rw [hW]; go_grown
  clear hW
  refine (HA.out _).mono ?_; rintro e W1 ⟨rfl, hX⟩
  replace k0 := (hX.block _ z0).trans k0; replace z0 := Nat.lt_of_lt_of_le z0 hX.size; replace hB := after hB hX; clear hX
  obtain ⟨kq, kr⟩ := cellB k0
  cases x
  · go_wp2_with fail
    go_returns
    exact ⟨by simp, hB⟩
  go_wp2_with fail
  refine (HB.out _).mono ?_; rintro e W2 ⟨rfl, hX⟩
  replace k0 := (hX.block _ z0).trans k0; replace z0 := Nat.lt_of_lt_of_le z0 hX.size; replace hB := after hB hX; clear hX kq kr
  obtain ⟨kq, kr⟩ := cellB k0
  cases y
  · go_wp2_with fail
    go_returns
    exact ⟨by simp, hB⟩
  go_wp2_with fail
  refine (HC.out _).mono ?_; rintro e W3 ⟨rfl, hX⟩
  replace hB := after hB hX
  go_wp2_with fail
  go_returns
  exact ⟨by simp, hB⟩
set_option maxRecDepth 100000 in
set_option maxHeartbeats 4000000 in
theorem ref6_check (pa : Option Addr) (n cp : Nat) (X Y Z : Nat → Int) (w : World) (hp : Hid (PtsO w pa n X Y Z)) :
    Calls Try.prog 16 #[.slice pa n cp] w fun e w' => e = .returned (.tuple #[.int .i64 (chk n X Y Z).1, .int .i64 (chk n X Y Z).2]) ∧ Below w.heap.size w w' := by
  by_cases hn : 512 < n
  · have hn' : (512 : Int) < n := by omega
    go_enter Try.func16, Try.ntmps16
    go_wp2
    go_returns
    exact retP (by unfold chk; rw [if_pos hn]) (by go_grown)
  have hn' : ¬ (512 : Int) < n := by omega
  obtain ⟨r, hr⟩ : ∃ r, r = chk n X Y Z := ⟨_, rfl⟩
  have hF : chkF X Y Z (n - 0) 0 = r := by rw [hr]; unfold chk; rw [if_neg hn]; rfl
  rw [← hr]
  have HF := Lib.hid hF
  clear hF hr
  go_enter Try.func16, Try.ntmps16
  go_wp2_with fail
  go_loopw [4] (fun v wr => ∃ k : Nat, k ≤ n ∧ v = .int .i64 k ∧ Hid (chkF X Y Z (n - k) k = r) ∧ Hid (PtsO wr pa n X Y Z) ∧ Below w.heap.size w wr)
    (fun v _ => n - (intOf v).toNat)
  case atStart => exact ⟨0, Nat.zero_le _, rfl, HF, hp, Below.refl _ _⟩
  case round =>
    clear hp HF
    obtain ⟨k, hk, rfl, HF, hp, hB⟩ := hrel
    by_cases hlt : k < n
    case neg =>
      go_wp2
      go_returns
      exact retP (chk_end (by omega) HF.out) hB
    obtain ⟨b, off, rfl, hq⟩ := hp.out.at hlt
    obtain ⟨g1, g2, g3⟩ := hq.2 k hlt
    have hbw := hq.1
    clear hq
    go_wp2_with fail
    refine (ref2_Fit (X k) (Y k) (Z k) _).mono ?_; rintro e W1 ⟨rfl, hX⟩
    have hp1 := hp.out.below hX
    have HP := Lib.hid hp1
    replace hB := after hB hX
    clear hX hp1 hp g1 g2 g3
    obtain ⟨f, hf⟩ : ∃ f, f = (co (X k) && co (Y k) && co (Z k)) := ⟨_, rfl⟩
    rw [← hf]
    have hiff : f = true ↔ (Co (X k) ∧ Co (Y k) ∧ Co (Z k)) := by rw [hf]; simp only [Bool.and_eq_true, co_iff]; exact ⟨fun h => ⟨h.1.1, h.1.2, h.2⟩, fun h => ⟨⟨h.1, h.2.1⟩, h.2.2⟩⟩
    have HI := Lib.hid hiff
    clear hf hiff
    cases f
    · have hbad := chk_bad hlt (fun h => by have := HI.out.2 h; cases this) HF.out
      have HBAD := Lib.hid hbad
      clear hbad
      go_wp2_with fail
      go_returns
      exact retP HBAD.out hB
    · have hok := chk_ok hlt (HI.out.1 rfl) HF.out
      have HOK := Lib.hid hok
      clear hok
      go_wp2_with fail
      go_roundw
      case rel => exact ⟨k + 1, by omega, by go_num, HOK, HP, hB⟩
      case measure => simp [intOf]; omega
end Go.Proofs.Ytdglijdiiggdgaa
namespace Go.Proofs.Ytdglijdiiggdgaa
open Go.RowKit Geo
def plc (n : Nat) (a b c : Int) : Int := if plcB n a b c = true then 0 else 21
theorem plc_no {n : Nat} {a b c : Int} (h : plcB n a b c = false) : plc n a b c = 21 := if_neg (by rw [h]; decide)
theorem plcB_out {n : Nat} {a b c : Int} (h : ¬ (0 ≤ a ∧ a < n ∧ 0 ≤ b ∧ b < n ∧ 0 ≤ c ∧ c < n ∧ a ≠ b ∧ b ≠ c ∧ c ≠ a)) : plcB n a b c = false := by
  cases hp : plcB n a b c with
  | false => rfl
  | true =>
    unfold plcB inN at hp
    simp at hp
    exact absurd ⟨by omega, by omega, by omega, by omega, by omega, by omega, by omega, by omega, by omega⟩ h
theorem plcB_in {n : Nat} {a b c : Int} (h : 0 ≤ a ∧ a < n ∧ 0 ≤ b ∧ b < n ∧ 0 ≤ c ∧ c < n ∧ a ≠ b ∧ b ≠ c ∧ c ≠ a) : plcB n a b c = true := by
  unfold plcB inN
  simp
  omega
set_option maxRecDepth 100000 in
set_option maxHeartbeats 8000000 in
theorem ref2_places (pa : Option Addr) (n cp pb c0 : Nat) (a b c : Int) (w : World) (hl : Hid (w.heap[pb]? = some (.cells #[.int .i64 a, .int .i64 b, .int .i64 c] 3 (0, 0)))) :
    Calls Try.prog 25 #[.slice pa n cp, .slice (some ⟨pb, 0, none⟩) 3 c0] w fun e w' => e = .returned (.int .i64 (plc n a b c)) ∧ Below w.heap.size w w' := by
  have kl := hl.out
  have z0 : pb < w.heap.size := (Array.getElem?_eq_some_iff.1 kl).1
  obtain ⟨kq, kr⟩ := cellB kl
  have hB : Below w.heap.size w w := Below.refl _ _
  go_enter Try.func25, Try.ntmps25
  go_wp2_with fail
  refine wp_loop_rounds 4 ?_
  have y1 : IntKind.i64.wrap 1 = 1 := by decide
  rw [rounds_succ]
  by_cases h0 : a < 0
  case pos =>
    have hno := plc_no (plcB_out (n := n) (a := a) (b := b) (c := c) (by omega))
    have HNO := Lib.hid hno
    clear hno
    go_wp2_with fail
    go_returns
    exact ⟨by rw [HNO.out]; rfl, hB⟩
  by_cases g0 : (n : Int) ≤ a
  case pos =>
    have g' : ¬ a < (n : Int) := by omega
    have hno := plc_no (plcB_out (n := n) (a := a) (b := b) (c := c) (by omega))
    have HNO := Lib.hid hno
    clear hno
    go_wp2_with fail
    go_returns
    exact ⟨by rw [HNO.out]; rfl, hB⟩
  have g'0 : a < (n : Int) := by omega
  go_wp2_with fail
  refine wp_loop_rounds 1 ?_
  rw [rounds_succ]
  go_wp2_with fail
  rw [rounds_succ]
  by_cases h1 : b < 0
  case pos =>
    have hno := plc_no (plcB_out (n := n) (a := a) (b := b) (c := c) (by omega))
    have HNO := Lib.hid hno
    clear hno
    go_wp2_with fail
    go_returns
    exact ⟨by rw [HNO.out]; rfl, hB⟩
  by_cases g1 : (n : Int) ≤ b
  case pos =>
    have g' : ¬ b < (n : Int) := by omega
    have hno := plc_no (plcB_out (n := n) (a := a) (b := b) (c := c) (by omega))
    have HNO := Lib.hid hno
    clear hno
    go_wp2_with fail
    go_returns
    exact ⟨by rw [HNO.out]; rfl, hB⟩
  have g'1 : b < (n : Int) := by omega
  go_wp2_with fail
  refine wp_loop_rounds 2 ?_
  rw [rounds_succ]
  go_wp2_with fail
  refine wp_calm0 9 (by kernel_rfl) (by kernel_rfl) ?_
  intro K hK
  repeat (refine wpCalm_step (fun M hM => ?_); go_simp; first | (refine hM _ ?_; clear hM M) | (apply Exists.intro; refine ⟨fun wc hw => ?_, hM _ ?_⟩; (obtain ⟨hc, hf⟩ := bcell (hK wc hw); go_simp; first | exact rfl); clear hM M))
  refine wpCalm_nil ?_
  clear hK K kq kr
  intro V0 hX
  replace kl := (hX.block _ z0).trans kl; replace z0 := Nat.lt_of_lt_of_le z0 hX.size; replace hB := after hB hX
  clear hX
  obtain ⟨kq, kr⟩ := cellB kl
  simp only [List.drop_succ_cons, List.drop_zero]
  by_cases e10 : b = a
  case pos =>
    have e' : (b == a) = true := by simpa using e10
    have hno := plc_no (plcB_out (n := n) (a := a) (b := b) (c := c) (by omega))
    have HNO := Lib.hid hno
    clear hno
    go_wp2_with fail
    go_returns
    exact ⟨by rw [HNO.out]; rfl, hB⟩
  have e'10 : (b == a) = false := by simpa using e10
  go_wp2_with fail
  rw [rounds_succ]
  go_wp2_with fail
  rw [rounds_succ]
  by_cases h2 : c < 0
  case pos =>
    have hno := plc_no (plcB_out (n := n) (a := a) (b := b) (c := c) (by omega))
    have HNO := Lib.hid hno
    clear hno
    go_wp2_with fail
    go_returns
    exact ⟨by rw [HNO.out]; rfl, hB⟩
  by_cases g2 : (n : Int) ≤ c
  case pos =>
    have g' : ¬ c < (n : Int) := by omega
    have hno := plc_no (plcB_out (n := n) (a := a) (b := b) (c := c) (by omega))
    have HNO := Lib.hid hno
    clear hno
    go_wp2_with fail
    go_returns
    exact ⟨by rw [HNO.out]; rfl, hB⟩
  have g'2 : c < (n : Int) := by omega
  go_wp2_with fail
  refine wp_loop_rounds 3 ?_
  rw [rounds_succ]
  go_wp2_with fail
  refine wp_calm0 9 (by kernel_rfl) (by kernel_rfl) ?_
  intro K hK
  repeat (refine wpCalm_step (fun M hM => ?_); go_simp; first | (refine hM _ ?_; clear hM M) | (apply Exists.intro; refine ⟨fun wc hw => ?_, hM _ ?_⟩; (obtain ⟨hc, hf⟩ := bcell (hK wc hw); go_simp; first | exact rfl); clear hM M))
  refine wpCalm_nil ?_
  clear hK K kq kr
  intro V1 hX
  replace kl := (hX.block _ z0).trans kl; replace z0 := Nat.lt_of_lt_of_le z0 hX.size; replace hB := after hB hX
  clear hX
  obtain ⟨kq, kr⟩ := cellB kl
  simp only [List.drop_succ_cons, List.drop_zero]
  by_cases e20 : c = a
  case pos =>
    have e' : (c == a) = true := by simpa using e20
    have hno := plc_no (plcB_out (n := n) (a := a) (b := b) (c := c) (by omega))
    have HNO := Lib.hid hno
    clear hno
    go_wp2_with fail
    go_returns
    exact ⟨by rw [HNO.out]; rfl, hB⟩
  have e'20 : (c == a) = false := by simpa using e20
  go_wp2_with fail
  rw [rounds_succ]
  go_wp2_with fail
  refine wp_calm0 9 (by kernel_rfl) (by kernel_rfl) ?_
  intro K hK
  repeat (refine wpCalm_step (fun M hM => ?_); go_simp; first | (refine hM _ ?_; clear hM M) | (apply Exists.intro; refine ⟨fun wc hw => ?_, hM _ ?_⟩; (obtain ⟨hc, hf⟩ := bcell (hK wc hw); go_simp; first | exact rfl); clear hM M))
  refine wpCalm_nil ?_
  clear hK K kq kr
  intro V2 hX
  replace kl := (hX.block _ z0).trans kl; replace z0 := Nat.lt_of_lt_of_le z0 hX.size; replace hB := after hB hX
  clear hX
  obtain ⟨kq, kr⟩ := cellB kl
  simp only [List.drop_succ_cons, List.drop_zero]
  by_cases e21 : c = b
  case pos =>
    have e' : (c == b) = true := by simpa using e21
    have hno := plc_no (plcB_out (n := n) (a := a) (b := b) (c := c) (by omega))
    have HNO := Lib.hid hno
    clear hno
    go_wp2_with fail
    go_returns
    exact ⟨by rw [HNO.out]; rfl, hB⟩
  have e'21 : (c == b) = false := by simpa using e21
  go_wp2_with fail
  rw [rounds_succ]
  go_wp2_with fail
  rw [rounds_succ]
  have hyes : plc n a b c = 0 := if_pos (plcB_in ⟨by omega, by omega, by omega, by omega, by omega, by omega, by omega, by omega, by omega⟩)
  have HY := Lib.hid hyes
  clear hyes
  go_wp2_with fail
  go_returns
  exact ⟨by rw [HY.out]; rfl, hB⟩
end Go.Proofs.Ytdglijdiiggdgaa
namespace Go.Proofs.Ytdglijdiiggdgaa
open Go.RowKit Go.Maps Geo
abbrev T3 := Int × Int × Int
def fA (L : List T3) (k : Nat) : Int := (L.getD k (0, 0, 0)).1
def fB (L : List T3) (k : Nat) : Int := (L.getD k (0, 0, 0)).2.1
def fC (L : List T3) (k : Nat) : Int := (L.getD k (0, 0, 0)).2.2
def cells3 (L : List T3) : List Value := L.flatMap fun t => [.int .i64 t.1, .int .i64 t.2.1, .int .i64 t.2.2]
theorem cells3_len (L : List T3) : (cells3 L).length = L.length * 3 := by
  unfold cells3
  induction L with
  | nil => rfl
  | cons t L ih => rw [List.flatMap_cons, List.length_append, ih]; simp; omega
theorem cells3_at : ∀ (L : List T3) (k : Nat), k < L.length → (cells3 L)[k * 3]? = some (.int .i64 (fA L k)) ∧ (cells3 L)[k * 3 + 1]? = some (.int .i64 (fB L k)) ∧ (cells3 L)[k * 3 + 2]? = some (.int .i64 (fC L k))
  | [], k, h => by simp at h
  | t :: L, 0, _ => ⟨rfl, rfl, rfl⟩
  | t :: L, k + 1, h => by
    have ih := cells3_at L k (by simpa using h)
    have e : cells3 (t :: L) = [.int .i64 t.1, .int .i64 t.2.1, .int .i64 t.2.2] ++ cells3 L := by unfold cells3; rw [List.flatMap_cons]
    rw [e]
    have g : ∀ i, ([Value.int .i64 t.1, .int .i64 t.2.1, .int .i64 t.2.2] ++ cells3 L)[(k + 1) * 3 + i]? = (cells3 L)[k * 3 + i]? := fun i => by
      rw [List.getElem?_append_right (by simp; omega)]
      congr 1
      simp; omega
    exact ⟨(g 0).trans ih.1, (g 1).trans ih.2.1, (g 2).trans ih.2.2⟩
theorem tris_of_row {w : World} {base : Nat} {T : TypeId} {vv : Value} {L : List T3} (h : w.ownsRow base T 3 vv L.length (cells3 L)) :
    ∃ p cap, vv = .slice p L.length cap ∧ PtsO w p L.length (fA L) (fB L) (fC L) := by
  have h0 := h
  rcases h.2 with ⟨rfl, hn⟩ | ⟨g, cap, cur, rfl, hb, hg, hle, hmax, hsz, htake⟩
  · exact ⟨none, 0, by rw [hn], .inl ⟨hn, rfl⟩⟩
  · refine ⟨_, cap, rfl, .inr ⟨g, 0, rfl, (Array.getElem?_eq_some_iff.1 hg).1, fun j hj => ?_⟩⟩
    obtain ⟨c0, c1, c2⟩ := cells3_at L j hj
    rw [Nat.zero_add]
    exact ⟨(h0.cellAt _ (by omega)).trans c0, (h0.cellAt _ (by omega)).trans c1, (h0.cellAt _ (by omega)).trans c2⟩
/-- Two lists of triples, compared from the place k on. -/
def sameF (A B C A' B' C' : Nat → Int) : Nat → Nat → Bool
  | 0, _ => true
  | f + 1, k => (A k == A' k && (B k == B' k && C k == C' k)) && sameF A B C A' B' C' f (k + 1)
theorem same_end {A B C A' B' C' : Nat → Int} {n k : Nat} {r : Bool} (hk : n ≤ k) (h : sameF A B C A' B' C' (n - k) k = r) : r = true := by
  rw [show n - k = 0 by omega] at h; exact h.symm
theorem same_bad {A B C A' B' C' : Nat → Int} {n k : Nat} {r : Bool} (hk : k < n) (he : (A k == A' k && (B k == B' k && C k == C' k)) = false) (h : sameF A B C A' B' C' (n - k) k = r) : r = false := by
  rw [show n - k = (n - (k + 1)) + 1 by omega, sameF, he] at h; exact h.symm
theorem same_on {A B C A' B' C' : Nat → Int} {n k : Nat} {r : Bool} (hk : k < n) (he : (A k == A' k && (B k == B' k && C k == C' k)) = true) (h : sameF A B C A' B' C' (n - k) k = r) : sameF A B C A' B' C' (n - (k + 1)) (k + 1) = r := by
  rw [show n - k = (n - (k + 1)) + 1 by omega, sameF, he] at h; exact h
theorem sameF_iff {A B C A' B' C' : Nat → Int} : ∀ f k, sameF A B C A' B' C' f k = true ↔ ∀ j, k ≤ j → j < k + f → A j = A' j ∧ B j = B' j ∧ C j = C' j
  | 0, k => ⟨fun _ j h1 h2 => by omega, fun _ => rfl⟩
  | f + 1, k => by
    unfold sameF
    simp only [Bool.and_eq_true, beq_iff_eq]
    rw [sameF_iff f (k + 1)]
    constructor
    · intro ⟨h1, h2⟩ j hj hj2
      rcases Nat.eq_or_lt_of_le hj with rfl | hlt
      · exact h1
      · exact h2 j hlt (by omega)
    · intro h
      exact ⟨h k (Nat.le_refl _) (by omega), fun j h1 h2 => h j (by omega) (by omega)⟩
attribute [local irreducible] wpCalm
set_option maxRecDepth 100000 in
set_option maxHeartbeats 4000000 in
theorem ref5_sameTris (pa pb : Option Addr) (n m c1 c2 : Nat) (A B C A' B' C' : Nat → Int) (hn : n < 4611686018427387904) (w : World) (ha : Hid (PtsO w pa n A B C)) (hb : Hid (PtsO w pb m A' B' C')) :
    Calls Try.prog 15 #[.slice pa n c1, .slice pb m c2] w fun e w' => e = .returned (.bool (decide (n = m) && sameF A B C A' B' C' n 0)) ∧ Below w.heap.size w w' := by
  by_cases hnm : n = m
  case neg =>
    have h1 : ((n : Int) != (m : Int)) = true := by simp; omega
    go_enter Try.func15, Try.ntmps15
    go_wp2
    go_returns
    exact ⟨by simp [hnm], Below.refl _ _⟩
  subst hnm
  obtain ⟨r, hr⟩ : ∃ r, r = sameF A B C A' B' C' n 0 := ⟨_, rfl⟩
  have HF0 : Hid (sameF A B C A' B' C' (n - 0) 0 = r) := hr.symm
  rw [← hr, show decide (n = n) = true by simp]
  clear hr
  go_enter Try.func15, Try.ntmps15
  go_wp2_with fail
  go_loopw [5] (fun v wr => ∃ k : Nat, k ≤ n ∧ v = .int .i64 k ∧ Hid (sameF A B C A' B' C' (n - k) k = r) ∧ Hid (PtsO wr pa n A B C) ∧ Hid (PtsO wr pb n A' B' C') ∧ Below w.heap.size w wr)
    (fun v _ => n - (intOf v).toNat)
  case atStart => exact ⟨0, Nat.zero_le _, rfl, HF0, ha, hb, Below.refl _ _⟩
  case round =>
    clear ha hb HF0
    obtain ⟨k, hk, rfl, HF, ha, hb, hB⟩ := hrel
    by_cases hlt : k < n
    case neg =>
      have he := same_end (by omega) HF.out
      subst he
      go_wp2
      go_returns
      exact ⟨rfl, hB⟩
    obtain ⟨g, off, rfl, hq⟩ := ha.out.at hlt
    obtain ⟨g', off', rfl, hq'⟩ := hb.out.at hlt
    obtain ⟨d1, d2, d3⟩ := hq.2 k hlt
    obtain ⟨e1, e2, e3⟩ := hq'.2 k hlt
    have hg := hq.1
    have hg' := hq'.1
    clear hq hq'
    obtain ⟨x, hx⟩ : ∃ x, x = A k := ⟨_, rfl⟩
    obtain ⟨y, hy⟩ : ∃ y, y = B k := ⟨_, rfl⟩
    obtain ⟨z, hz⟩ : ∃ z, z = C k := ⟨_, rfl⟩
    obtain ⟨x', hx'⟩ : ∃ x, x = A' k := ⟨_, rfl⟩
    obtain ⟨y', hy'⟩ : ∃ y, y = B' k := ⟨_, rfl⟩
    obtain ⟨z', hz'⟩ : ∃ z, z = C' k := ⟨_, rfl⟩
    obtain ⟨q, hq⟩ : ∃ q, q = (x == x' && (y == y' && z == z')) := ⟨_, rfl⟩
    have hq2 : (A k == A' k && (B k == B' k && C k == C' k)) = q := by rw [hq, hx, hy, hz, hx', hy', hz']
    have HQ := Lib.hid hq2
    have EQ3 := eq3 x y z x' y' z'
    rw [← hq] at EQ3
    rw [← hx] at d1; rw [← hy] at d2; rw [← hz] at d3; rw [← hx'] at e1; rw [← hy'] at e2; rw [← hz'] at e3
    clear hx hy hz hx' hy' hz' hq hq2
    go_wp2_with fail
    refine wp_calm0 9 (by kernel_rfl) (by kernel_rfl) ?_
    intro J hJ
    simp only [List.take_succ_cons, List.take_zero]
    iterate 8 ((with_reducible apply wpCalm_step); intro M hM; go_simp; first | ((with_reducible apply hM); clear hM M) | ((with_reducible apply calm_intro); (· intro wc hw; obtain ⟨hc, hf⟩ := bcell (hJ wc hw); go_simp; first | exact rfl); (with_reducible apply hM); clear hM M))
    cases q
    · with_reducible apply wpCalm_step
      intro M hM
      go_simp
      with_reducible apply calm_intro (v := .bool true)
      · intro wc hw
        go_simp
      with_reducible apply hM
      clear hM M
      with_reducible apply wpCalm_nil
      clear hJ J EQ3
      intro V hX
      simp only [List.drop_succ_cons, List.drop_zero]
      replace hB := after hB hX
      have hno := same_bad hlt HQ.out HF.out
      subst hno
      clear HQ HF hX
      go_wp2_with fail
      go_returns
      exact ⟨rfl, hB⟩
    · with_reducible apply wpCalm_step
      intro M hM
      go_simp
      with_reducible apply calm_intro (v := .bool false)
      · intro wc hw
        go_simp
      with_reducible apply hM
      clear hM M
      with_reducible apply wpCalm_nil
      clear hJ J EQ3
      intro V hX
      simp only [List.drop_succ_cons, List.drop_zero]
      have hon := Lib.hid (same_on hlt HQ.out HF.out)
      have ha' := Lib.hid (ha.out.below hX)
      have hb' := Lib.hid (hb.out.below hX)
      replace hB := after hB hX
      clear HQ HF hX ha hb
      go_wp2_with fail
      go_roundw
      case rel => exact ⟨k + 1, by omega, by go_num, hon, ha', hb', hB⟩
      case measure => simp [intOf]; omega
end Go.Proofs.Ytdglijdiiggdgaa
namespace Go.Proofs.Ytdglijdiiggdgaa
open Go.RowKit Go.Maps Geo
def sgI (X Y Z : Nat → Int) (a b c v : Int) : Int := sgP X Y Z a.toNat b.toNat c.toNat v.toNat
theorem sgP_cases (X Y Z : Nat → Int) (i j k m : Nat) : sgP X Y Z i j k m = 1 ∨ sgP X Y Z i j k m = -1 := by
  have h1 := (perm_bub 9 0 ⟨i, j, k, m, 1⟩).sign (.inl rfl)
  unfold sgP
  rcases h1 with h | h <;> rcases sg4_cases (ptOf X Y Z (bub 9 0 ⟨i, j, k, m, 1⟩).a) (ptOf X Y Z (bub 9 0 ⟨i, j, k, m, 1⟩).b) (ptOf X Y Z (bub 9 0 ⟨i, j, k, m, 1⟩).c) (ptOf X Y Z (bub 9 0 ⟨i, j, k, m, 1⟩).d) with h2 | h2 <;> rw [h, h2] <;> simp
theorem plcB_facts {n : Nat} {a b c : Int} (h : plcB n a b c = true) : 0 ≤ a ∧ a < n ∧ 0 ≤ b ∧ b < n ∧ 0 ≤ c ∧ c < n ∧ a ≠ b ∧ b ≠ c ∧ c ≠ a := by
  unfold plcB inN at h
  simp at h
  omega
theorem ownB_facts {a b c v : Int} (h : ownB a b c v = false) : v ≠ a ∧ v ≠ b ∧ v ≠ c := by
  unfold ownB at h
  simp at h
  exact ⟨h.1.1, h.1.2, h.2⟩
theorem sees_prog (pl : Option Addr) (n cp : Nat) (X Y Z : Nat → Int) (a b c v : Int) (hn : n < 4611686018427387904) (hco : ∀ i, i < n → Co (X i) ∧ Co (Y i) ∧ Co (Z i)) (hpl : plcB n a b c = true) (hv0 : 0 ≤ v) (hv1 : v < n) (hown : ownB a b c v = false) (w : World) (hp : PtsO w pl n X Y Z) :
    Calls Try.prog 34 #[.slice pl n cp, .agg #[.int .i64 a, .int .i64 b, .int .i64 c], .int .i64 v] w fun e w' => e = .returned (.tuple #[.bool (decide (sgI X Y Z a b c v = -1)), .int .i64 0]) ∧ Below w.heap.size w w' := by
  obtain ⟨p1, p2, p3, p4, p5, p6, p7, p8, p9⟩ := plcB_facts hpl
  obtain ⟨o1, o2, o3⟩ := ownB_facts hown
  obtain ⟨bk, off, rfl, hq⟩ := hp.at (k := v.toNat) (by omega)
  have main := sees_walk bk off n cp a.toNat b.toNat c.toNat v.toNat (sgP X Y Z a.toNat b.toNat c.toNat v.toNat) w (fun w' hB => orient_sign_at bk off n cp X Y Z a.toNat b.toNat c.toNat v.toNat hn (by omega) (by omega) (by omega) (by omega) (by omega) (by omega) (by omega) (by omega) (by omega) (by omega) hco w' (hq.mono hB hq.1))
  rw [Int.toNat_of_nonneg p1, Int.toNat_of_nonneg p3, Int.toNat_of_nonneg p5, Int.toNat_of_nonneg hv0] at main
  exact main
theorem ref2_sign_at (pb off n cp : Nat) (X Y Z : Nat → Int) (i j k m : Nat) (hn : n < 4611686018427387904) (hi : i < n) (hj : j < n) (hk : k < n) (hm : m < n) (hco : ∀ i, i < n → Co (X i) ∧ Co (Y i) ∧ Co (Z i)) (w : World) (hp : PtsAt w pb off n X Y Z) :
    Calls Try.prog 45 #[.slice (some ⟨pb, off, none⟩) n cp, .int .i64 i, .int .i64 j, .int .i64 k, .int .i64 m] w fun e w' => e = .returned (.int .i64 (sgP X Y Z i j k m)) ∧ Below w.heap.size w w' := by
  obtain ⟨z, hz⟩ : ∃ z, z = bub 9 0 ⟨i, j, k, m, 1⟩ := ⟨_, rfl⟩
  have hp4 := perm_bub 9 0 ⟨i, j, k, m, 1⟩
  rw [← hz] at hp4
  obtain ⟨ha, hb, hc, hd⟩ := hp4.all (· < n) hi hj hk hm
  have ht := hp4.sign (.inl rfl)
  have h12 : bub (12 - 3 * 0 - 0) (3 * 0 + 0) ⟨i, j, k, m, 1⟩ = ⟨z.a, z.b, z.c, z.d, z.t⟩ := by
    show bub 12 0 _ = z
    rw [bub_12, hz]
  have main := ref2_sign0 pb off n cp X Y Z i j k m hn z.a z.b z.c z.d z.t _ (Lib.hid h12) (Lib.hid ht) ha hb hc hd (Lib.hid rfl) (Lib.hid hco) w (Lib.hid hp)
  have e : z.t * sg4 (ptOf X Y Z z.a) (ptOf X Y Z z.b) (ptOf X Y Z z.c) (ptOf X Y Z z.d) = sgP X Y Z i j k m := by unfold sgP; rw [← hz]
  rw [e] at main
  exact main
set_option maxHeartbeats 1000000 in
theorem ref2_sees (pl : Option Addr) (n cp : Nat) (X Y Z : Nat → Int) (a b c v : Int) (hn : n < 4611686018427387904) (hco : ∀ i, i < n → Co (X i) ∧ Co (Y i) ∧ Co (Z i)) (hpl : plcB n a b c = true) (hv0 : 0 ≤ v) (hv1 : v < n) (w : World) (hp : PtsO w pl n X Y Z) :
    Calls Try.prog 36 #[.slice pl n cp, .agg #[.int .i64 a, .int .i64 b, .int .i64 c], .int .i64 v] w fun e w' => e = .returned (.bool (decide (sgI X Y Z a b c v = -1))) ∧ Below w.heap.size w w' := by
  obtain ⟨p1, p2, p3, p4, p5, p6, p7, p8, p9⟩ := plcB_facts hpl
  obtain ⟨bk, off, rfl, hq⟩ := hp.at (k := v.toNat) (by omega)
  have main := fun w' (hB : Below w.heap.size w w') => ref2_sign_at bk off n cp X Y Z a.toNat b.toNat c.toNat v.toNat hn (by omega) (by omega) (by omega) (by omega) hco w' (hq.mono hB hq.1)
  rw [Int.toNat_of_nonneg p1, Int.toNat_of_nonneg p3, Int.toNat_of_nonneg p5, Int.toNat_of_nonneg hv0] at main
  have hcs := sgP_cases X Y Z a.toNat b.toNat c.toNat v.toNat
  unfold sgI
  obtain ⟨s, hs⟩ : ∃ s, s = sgP X Y Z a.toNat b.toNat c.toNat v.toNat := ⟨_, rfl⟩
  rw [← hs] at main hcs ⊢
  have HM := Lib.hid main
  clear main hs hq hp p1 p2 p3 p4 p5 p6 p7 p8 p9 hpl hco hv0 hv1 hn
  go_enter Try.func36, Try.ntmps36
  go_wp2_with fail
  first | refine wp_named ?_ | refine calls_named ?_
  intro W hW
  have hB : Below w.heap.size w W := by rw [hW]; go_grown
  clear hW
  refine (HM.out _ hB).mono ?_; rintro e W1 ⟨rfl, hX⟩
  replace hB := after hB hX
  rcases hcs with rfl | rfl
  · go_wp2_with fail
    go_returns
    exact ⟨rfl, hB⟩
  · go_wp2_with fail
    go_returns
    exact ⟨rfl, hB⟩
end Go.Proofs.Ytdglijdiiggdgaa
namespace Go.Proofs.Ytdglijdiiggdgaa
open Go.RowKit Go.Maps Geo
set_option maxRecDepth 100000 in
set_option maxHeartbeats 4000000 in
theorem ref5_canon (a b c : Int) (w : World) : Calls Try.prog 26 #[.agg #[.int .i64 a, .int .i64 b, .int .i64 c]] w fun e w' => e = .returned (tri (canF a b c)) ∧ Below w.heap.size w w' := by
  by_cases h1 : b < a
  · by_cases h2 : c < b
    · have e : canF a b c = (c, a, b) := by unfold canF; rw [if_pos h1, if_pos h2]
      have x1 : ¬ a = c := by omega
      have x2 : ¬ b = c := by omega
      rw [e]; unfold tri; clear e
      go_enter Try.func26, Try.ntmps26
      go_wp2
      all_goals go_returns
      all_goals exact ⟨rfl, by go_grown⟩
    · have e : canF a b c = (b, c, a) := by unfold canF; rw [if_pos h1, if_neg h2]
      have x1 : ¬ a = b := by omega
      rw [e]; unfold tri; clear e
      go_enter Try.func26, Try.ntmps26
      go_wp2
      all_goals go_returns
      all_goals exact ⟨rfl, by go_grown⟩
  · by_cases h2 : c < a
    · have e : canF a b c = (c, a, b) := by unfold canF; rw [if_neg h1, if_pos h2]
      have x1 : ¬ a = c := by omega
      have x2 : ¬ b = c := by omega
      rw [e]; unfold tri; clear e
      go_enter Try.func26, Try.ntmps26
      go_wp2
      all_goals go_returns
      all_goals exact ⟨rfl, by go_grown⟩
    · have e : canF a b c = (a, b, c) := by unfold canF; rw [if_neg h1, if_neg h2]
      rw [e]; unfold tri; clear e
      go_enter Try.func26, Try.ntmps26
      go_wp2
      all_goals go_returns
      all_goals exact ⟨rfl, by go_grown⟩
def canT (t : T3) : T3 := canF t.1 t.2.1 t.2.2
set_option maxRecDepth 100000 in
set_option maxHeartbeats 2000000 in
theorem ref5_turn (a b c : Int) (w : World) : Calls Try.prog 48 #[.agg #[.int .i64 a, .int .i64 b, .int .i64 c]] w fun e w' => e = .returned (tri (canF a c b)) ∧ Below w.heap.size w w' := by
  have hc := ref5_canon a c b
  unfold tri at hc ⊢
  have HC := Lib.hid hc
  clear hc
  go_enter Try.func48, Try.ntmps48
  go_wp2_with fail
  first | refine wp_named ?_ | refine calls_named ?_
  intro W hW
  have k1 : W.heap[w.heap.size + 1]? = some (.cells #[.int .i64 0, .int .i64 0, .int .i64 0] 45 (0, 0)) := by rw [hW]; exact heap_at (by simp)
  have z1 : w.heap.size + 1 < W.heap.size := by rw [hW]; simp
  have hB : Below w.heap.size w W := by rw [hW]; go_grown
  clear hW
  refine (HC.out _).mono ?_; rintro e W1 ⟨rfl, hX⟩
  replace k1 := (hX.block _ z1).trans k1; replace z1 := Nat.lt_of_lt_of_le z1 hX.size; replace hB := after hB hX; clear hX
  obtain ⟨p1, q1⟩ := cellB k1
  clear k1
  go_wp2_with fail
  refine bodyPost_ret (v := .agg #[.int .i64 (canF a c b).1, .int .i64 (canF a c b).2.1, .int .i64 (canF a c b).2.2]) (by simp [results, Try.results48, go_sem, p1]) rfl ⟨rfl, by go_grown⟩
end Go.Proofs.Ytdglijdiiggdgaa
namespace Go.Proofs.Ytdglijdiiggdgaa
open Go.RowKit Go.Maps Geo
theorem lt_0 {a b : T3} (h : a.1 ≠ b.1) : ltB a b = decide (a.1 < b.1) := by
  obtain ⟨a0, a1, a2⟩ := a; obtain ⟨b0, b1, b2⟩ := b
  simp only at h
  unfold ltB cmp3 cmpI
  simp only
  by_cases h1 : a0 < b0
  · simp [h1]
  · have h2 : b0 < a0 := by omega
    simp [h1, h2]
theorem lt_1 {a b : T3} (h0 : a.1 = b.1) (h : a.2.1 ≠ b.2.1) : ltB a b = decide (a.2.1 < b.2.1) := by
  obtain ⟨a0, a1, a2⟩ := a; obtain ⟨b0, b1, b2⟩ := b
  simp only at h h0
  subst h0
  unfold ltB cmp3 cmpI
  simp only
  by_cases h1 : a1 < b1
  · simp [h1]
  · have h2 : b1 < a1 := by omega
    simp [h1, h2]
theorem lt_2 {a b : T3} (h0 : a.1 = b.1) (h1 : a.2.1 = b.2.1) (h : a.2.2 ≠ b.2.2) : ltB a b = decide (a.2.2 < b.2.2) := by
  obtain ⟨a0, a1, a2⟩ := a; obtain ⟨b0, b1, b2⟩ := b
  simp only at h h0 h1
  subst h0 h1
  unfold ltB cmp3 cmpI
  simp only
  by_cases h1 : a2 < b2
  · simp [h1]
  · have h2 : b2 < a2 := by omega
    simp [h1, h2]
theorem lt_same {a b : T3} (h0 : a.1 = b.1) (h1 : a.2.1 = b.2.1) (h : a.2.2 = b.2.2) : ltB a b = false := by
  obtain ⟨a0, a1, a2⟩ := a; obtain ⟨b0, b1, b2⟩ := b
  simp only at h h0 h1
  subst h0 h1 h
  unfold ltB cmp3 cmpI
  simp
set_option maxRecDepth 100000 in
set_option maxHeartbeats 4000000 in
theorem ref5_less (a0 a1 a2 b0 b1 b2 : Int) (w : World) : Calls Try.prog 27 #[.agg #[.int .i64 a0, .int .i64 a1, .int .i64 a2], .agg #[.int .i64 b0, .int .i64 b1, .int .i64 b2]] w fun e w' => e = .returned (.bool (ltB (a0, a1, a2) (b0, b1, b2))) ∧ Below w.heap.size w w' := by
  obtain ⟨r, hr⟩ : ∃ r, r = ltB (a0, a1, a2) (b0, b1, b2) := ⟨_, rfl⟩
  rw [← hr]
  have HR := Lib.hid hr
  clear hr
  go_enter Try.func27, Try.ntmps27
  go_wp2_with fail
  refine wp_loop_rounds 4 ?_
  rw [rounds_succ]
  go_wp2_with fail
  first | refine wp_named ?_ | refine calls_named ?_
  intro W hW
  have k0 : W.heap[w.heap.size]? = some (.cells #[.int .i64 a0, .int .i64 a1, .int .i64 a2] 45 (0, 0)) := by rw [hW]; exact (heap_old (by simp)).trans (heap_at rfl)
  have k1 : W.heap[w.heap.size + 1]? = some (.cells #[.int .i64 b0, .int .i64 b1, .int .i64 b2] 45 (0, 0)) := by rw [hW]; exact heap_at (by simp)
  have z1 : w.heap.size + 1 < W.heap.size := by rw [hW]; simp
  have hB : Below w.heap.size w W := by rw [hW]; go_grown
  clear hW
  obtain ⟨p0, q0⟩ := cellB k0
  obtain ⟨p1, q1⟩ := cellB k1
  have z0 : w.heap.size < W.heap.size := by omega
  refine wp_calm0 7 (by kernel_rfl) (by kernel_rfl) ?_
  intro K hK
  repeat (refine wpCalm_step (fun M hM => ?_); go_simp; first | (refine hM _ ?_; clear hM M) | (apply Exists.intro; refine ⟨fun wc hw => ?_, hM _ ?_⟩; (obtain ⟨hc, hf⟩ := bcell (hK wc hw); go_simp; first | exact rfl); clear hM M))
  refine wpCalm_nil ?_
  clear hK K p0 q0 p1 q1 z0
  intro V0 hX
  replace k0 := (hX.block _ (by omega)).trans k0; replace k1 := (hX.block _ z1).trans k1; replace z1 := Nat.lt_of_lt_of_le z1 hX.size; replace hB := after hB hX
  clear hX
  simp only [List.drop_succ_cons, List.drop_zero]
  by_cases e0 : a0 = b0
  case neg =>
    have hl := HR.out
    rw [lt_0 (by exact e0)] at hl
    have e' : (a0 != b0) = true := by simpa using e0
    simp only at hl
    subst hl
    clear HR
    go_wp2_with fail
    obtain ⟨p0, q0⟩ := cellB k0
    obtain ⟨p1, q1⟩ := cellB k1
    have z0 : w.heap.size < V0.heap.size := by omega
    refine wp_calm0 7 (by kernel_rfl) (by kernel_rfl) ?_
    intro K hK
    repeat (refine wpCalm_step (fun M hM => ?_); go_simp; first | (refine hM _ ?_; clear hM M) | (apply Exists.intro; refine ⟨fun wc hw => ?_, hM _ ?_⟩; (obtain ⟨hc, hf⟩ := bcell (hK wc hw); go_simp; first | exact rfl); clear hM M))
    refine wpCalm_nil ?_
    clear hK K p0 q0 p1 q1 z0
    intro U0 hX
    replace k0 := (hX.block _ (by omega)).trans k0; replace k1 := (hX.block _ z1).trans k1; replace z1 := Nat.lt_of_lt_of_le z1 hX.size; replace hB := after hB hX
    clear hX
    simp only [List.drop_succ_cons, List.drop_zero]
    go_wp2_with fail
    go_returns
    exact ⟨rfl, hB⟩
  have e'0 : (a0 != b0) = false := by simpa using e0
  go_wp2_with fail
  rw [rounds_succ]
  go_wp2_with fail
  obtain ⟨p0, q0⟩ := cellB k0
  obtain ⟨p1, q1⟩ := cellB k1
  have z0 : w.heap.size < V0.heap.size := by omega
  refine wp_calm0 7 (by kernel_rfl) (by kernel_rfl) ?_
  intro K hK
  repeat (refine wpCalm_step (fun M hM => ?_); go_simp; first | (refine hM _ ?_; clear hM M) | (apply Exists.intro; refine ⟨fun wc hw => ?_, hM _ ?_⟩; (obtain ⟨hc, hf⟩ := bcell (hK wc hw); go_simp; first | exact rfl); clear hM M))
  refine wpCalm_nil ?_
  clear hK K p0 q0 p1 q1 z0
  intro V1 hX
  replace k0 := (hX.block _ (by omega)).trans k0; replace k1 := (hX.block _ z1).trans k1; replace z1 := Nat.lt_of_lt_of_le z1 hX.size; replace hB := after hB hX
  clear hX
  simp only [List.drop_succ_cons, List.drop_zero]
  by_cases e1 : a1 = b1
  case neg =>
    have hl := HR.out
    rw [lt_1 (by exact e0) (by exact e1)] at hl
    have e' : (a1 != b1) = true := by simpa using e1
    simp only at hl
    subst hl
    clear HR
    go_wp2_with fail
    obtain ⟨p0, q0⟩ := cellB k0
    obtain ⟨p1, q1⟩ := cellB k1
    have z0 : w.heap.size < V1.heap.size := by omega
    refine wp_calm0 7 (by kernel_rfl) (by kernel_rfl) ?_
    intro K hK
    repeat (refine wpCalm_step (fun M hM => ?_); go_simp; first | (refine hM _ ?_; clear hM M) | (apply Exists.intro; refine ⟨fun wc hw => ?_, hM _ ?_⟩; (obtain ⟨hc, hf⟩ := bcell (hK wc hw); go_simp; first | exact rfl); clear hM M))
    refine wpCalm_nil ?_
    clear hK K p0 q0 p1 q1 z0
    intro U1 hX
    replace k0 := (hX.block _ (by omega)).trans k0; replace k1 := (hX.block _ z1).trans k1; replace z1 := Nat.lt_of_lt_of_le z1 hX.size; replace hB := after hB hX
    clear hX
    simp only [List.drop_succ_cons, List.drop_zero]
    go_wp2_with fail
    go_returns
    exact ⟨rfl, hB⟩
  have e'1 : (a1 != b1) = false := by simpa using e1
  go_wp2_with fail
  rw [rounds_succ]
  go_wp2_with fail
  obtain ⟨p0, q0⟩ := cellB k0
  obtain ⟨p1, q1⟩ := cellB k1
  have z0 : w.heap.size < V1.heap.size := by omega
  refine wp_calm0 7 (by kernel_rfl) (by kernel_rfl) ?_
  intro K hK
  repeat (refine wpCalm_step (fun M hM => ?_); go_simp; first | (refine hM _ ?_; clear hM M) | (apply Exists.intro; refine ⟨fun wc hw => ?_, hM _ ?_⟩; (obtain ⟨hc, hf⟩ := bcell (hK wc hw); go_simp; first | exact rfl); clear hM M))
  refine wpCalm_nil ?_
  clear hK K p0 q0 p1 q1 z0
  intro V2 hX
  replace k0 := (hX.block _ (by omega)).trans k0; replace k1 := (hX.block _ z1).trans k1; replace z1 := Nat.lt_of_lt_of_le z1 hX.size; replace hB := after hB hX
  clear hX
  simp only [List.drop_succ_cons, List.drop_zero]
  by_cases e2 : a2 = b2
  case neg =>
    have hl := HR.out
    rw [lt_2 (by exact e0) (by exact e1) (by exact e2)] at hl
    have e' : (a2 != b2) = true := by simpa using e2
    simp only at hl
    subst hl
    clear HR
    go_wp2_with fail
    obtain ⟨p0, q0⟩ := cellB k0
    obtain ⟨p1, q1⟩ := cellB k1
    have z0 : w.heap.size < V2.heap.size := by omega
    refine wp_calm0 7 (by kernel_rfl) (by kernel_rfl) ?_
    intro K hK
    repeat (refine wpCalm_step (fun M hM => ?_); go_simp; first | (refine hM _ ?_; clear hM M) | (apply Exists.intro; refine ⟨fun wc hw => ?_, hM _ ?_⟩; (obtain ⟨hc, hf⟩ := bcell (hK wc hw); go_simp; first | exact rfl); clear hM M))
    refine wpCalm_nil ?_
    clear hK K p0 q0 p1 q1 z0
    intro U2 hX
    replace k0 := (hX.block _ (by omega)).trans k0; replace k1 := (hX.block _ z1).trans k1; replace z1 := Nat.lt_of_lt_of_le z1 hX.size; replace hB := after hB hX
    clear hX
    simp only [List.drop_succ_cons, List.drop_zero]
    go_wp2_with fail
    go_returns
    exact ⟨rfl, hB⟩
  have e'2 : (a2 != b2) = false := by simpa using e2
  go_wp2_with fail
  rw [rounds_succ]
  have hl := HR.out
  rw [lt_same (by exact e0) (by exact e1) (by exact e2)] at hl
  subst hl
  clear HR
  go_wp2_with fail
  go_returns
  exact ⟨rfl, hB⟩
end Go.Proofs.Ytdglijdiiggdgaa
namespace Go.Proofs.Ytdglijdiiggdgaa
open Go.RowKit Go.Maps Geo
def svI (X Y Z : Nat → Int) (a b c : Int) (v : Nat) : Int := sgI X Y Z a b c v
set_option maxRecDepth 100000 in
set_option maxHeartbeats 8000000 in
theorem ref21_seen (pl : Option Addr) (n cp : Nat) (X Y Z : Nat → Int) (a b c : Int) (hn : n < 1048576) (hco : Hid (∀ i, i < n → Co (X i) ∧ Co (Y i) ∧ Co (Z i))) (hpl : Hid (plcB n a b c = true)) (w : World) (hp : Hid (PtsO w pl n X Y Z)) :
    Calls Try.prog 28 #[.slice pl n cp, .agg #[.int .i64 a, .int .i64 b, .int .i64 c]] w fun e w' => e = .returned (.bool (!unsF a b c (svI X Y Z a b c) n 0)) ∧ Below w.heap.size w w' := by
  obtain ⟨r, hr⟩ : ∃ r, r = unsF a b c (svI X Y Z a b c) n 0 := ⟨_, rfl⟩
  have HF0 : Hid (unsF a b c (svI X Y Z a b c) (n - 0) 0 = r) := hr.symm
  rw [← hr]
  clear hr
  go_enter Try.func28, Try.ntmps28
  go_wp2_with fail
  first | refine wp_named ?_ | refine calls_named ?_
  intro W hW
  have k0 : W.heap[w.heap.size]? = some (.cells #[.int .i64 a, .int .i64 b, .int .i64 c] 45 (0, 0)) := by rw [hW]; exact heap_at rfl
  have z0 : w.heap.size < W.heap.size := by rw [hW]; simp
  have hB : Below w.heap.size w W := by rw [hW]; go_grown
  clear hW
  go_loopw [5] (fun u wr => ∃ k : Nat, k ≤ n ∧ u = .int .i64 k ∧ Hid (unsF a b c (svI X Y Z a b c) (n - k) k = r) ∧ wr.heap[w.heap.size]? = some (.cells #[.int .i64 a, .int .i64 b, .int .i64 c] 45 (0, 0)) ∧ w.heap.size < wr.heap.size ∧ Below w.heap.size w wr)
    (fun u _ => n - (intOf u).toNat)
  case atStart => exact ⟨0, Nat.zero_le _, rfl, HF0, k0, z0, hB⟩
  clear k0 z0 hB HF0
  obtain ⟨k, hk, rfl, HF, k0, z0, hB⟩ := hrel
  by_cases hlt : k < n
  case neg =>
    have hat := uns_end (by omega) HF.out
    subst hat
    go_wp2_with fail
    go_returns
    exact ⟨rfl, hB⟩
  obtain ⟨kq, kr⟩ := cellB k0
  cases hown : ownB a b c k with
  | true =>
    have hno := Lib.hid (uns_own hlt hown HF.out)
    have h3 : (k : Int) = a ∨ (k : Int) = b ∨ (k : Int) = c := by unfold ownB at hown; simpa [or_assoc] using hown
    clear hown HF
    by_cases e1 : (k : Int) = a
    · have x1 : ((k : Int) != a) = false := by simp [e1]
      clear h3 e1
      go_wp2_with fail
      go_roundw
      case rel => exact ⟨k + 1, by omega, by go_num, hno, k0, z0, hB⟩
      case measure => simp [intOf]; omega
    have x1 : ((k : Int) != a) = true := by simpa using e1
    by_cases e2 : (k : Int) = b
    · have x2 : ((k : Int) != b) = false := by simp [e2]
      clear h3 e1 e2
      go_wp2_with fail
      go_roundw
      case rel => exact ⟨k + 1, by omega, by go_num, hno, k0, z0, hB⟩
      case measure => simp [intOf]; omega
    have x2 : ((k : Int) != b) = true := by simpa using e2
    have x3 : ((k : Int) != c) = false := by
      have : (k : Int) = c := by omega
      simp [this]
    clear h3 e1 e2
    go_wp2_with fail
    go_roundw
    case rel => exact ⟨k + 1, by omega, by go_num, hno, k0, z0, hB⟩
    case measure => simp [intOf]; omega
  | false =>
    obtain ⟨o1, o2, o3⟩ := ownB_facts hown
    have x1 : ((k : Int) != a) = true := by simpa using o1
    have x2 : ((k : Int) != b) = true := by simpa using o2
    have x3 : ((k : Int) != c) = true := by simpa using o3
    clear o1 o2 o3
    go_wp2_with fail
    refine (ref2_sees pl n cp X Y Z a b c k (by omega) hco.out hpl.out (by omega) (by omega) _ (hp.out.below hB)).mono ?_; rintro e W2 ⟨rfl, hX⟩
    replace k0 := (hX.block _ z0).trans k0; replace z0 := Nat.lt_of_lt_of_le z0 hX.size; replace hB := after hB hX
    clear hX kq kr x1 x2 x3
    by_cases hs : sgI X Y Z a b c k = -1
    · have hsd : decide (sgI X Y Z a b c k = -1) = true := by simpa using hs
      rw [hsd]
      have hy := uns_yes hlt hown hs HF.out
      subst hy
      clear HF hsd hs hown
      go_wp2_with fail
      go_returns
      exact ⟨rfl, hB⟩
    · have hsd : decide (sgI X Y Z a b c k = -1) = false := by simpa using hs
      rw [hsd]
      have hno := Lib.hid (uns_no hlt hown hs HF.out)
      clear HF hsd hs hown
      go_wp2_with fail
      go_roundw
      case rel => exact ⟨k + 1, by omega, by go_num, hno, k0, z0, hB⟩
      case measure => simp [intOf]; omega
end Go.Proofs.Ytdglijdiiggdgaa
namespace Go.Proofs.Ytdglijdiiggdgaa
open Go.RowKit Go.Maps Geo
def ownN (a b c k : Nat) : Bool := k == a || k == b || k == c
def sideF (X Y Z : Nat → Int) (a b c : Nat) : Nat → Nat → Int → Int
  | 0, _, s => s
  | f + 1, k, s => if ownN a b c k = true then sideF X Y Z a b c f (k + 1) s else if s ≠ 0 ∧ sgP X Y Z a b c k ≠ s then 0 else sideF X Y Z a b c f (k + 1) (sgP X Y Z a b c k)
section
variable {X Y Z : Nat → Int} {a b c q k : Nat} {s r : Int}
theorem side_end (hk : q ≤ k) (h : sideF X Y Z a b c (q - k) k s = r) : r = s := by rw [show q - k = 0 by omega] at h; exact h.symm
theorem side_own (hk : k < q) (ho : ownN a b c k = true) (h : sideF X Y Z a b c (q - k) k s = r) : sideF X Y Z a b c (q - (k + 1)) (k + 1) s = r := by
  rw [show q - k = (q - (k + 1)) + 1 by omega, sideF, if_pos ho] at h; exact h
theorem side_bad (hk : k < q) (ho : ownN a b c k = false) (hb : s ≠ 0 ∧ sgP X Y Z a b c k ≠ s) (h : sideF X Y Z a b c (q - k) k s = r) : r = 0 := by
  rw [show q - k = (q - (k + 1)) + 1 by omega, sideF, if_neg (by rw [ho]; decide), if_pos hb] at h; exact h.symm
theorem side_on (hk : k < q) (ho : ownN a b c k = false) (hb : ¬ (s ≠ 0 ∧ sgP X Y Z a b c k ≠ s)) (h : sideF X Y Z a b c (q - k) k s = r) : sideF X Y Z a b c (q - (k + 1)) (k + 1) (sgP X Y Z a b c k) = r := by
  rw [show q - k = (q - (k + 1)) + 1 by omega, sideF, if_neg (by rw [ho]; decide), if_neg hb] at h; exact h
end
set_option maxRecDepth 100000 in
set_option maxHeartbeats 8000000 in
theorem ref9_side (pb off n cp : Nat) (X Y Z : Nat → Int) (a b c q : Nat) (hn : n < 1048576) (ha : a < n) (hb : b < n) (hc : c < n) (hq : q ≤ n) (hco : Hid (∀ i, i < n → Co (X i) ∧ Co (Y i) ∧ Co (Z i))) (w : World) (hp : Hid (PtsAt w pb off n X Y Z)) :
    Calls Try.prog 40 #[.slice (some ⟨pb, off, none⟩) n cp, .int .i64 a, .int .i64 b, .int .i64 c, .int .i64 q] w fun e w' => e = .returned (.int .i64 (sideF X Y Z a b c q 0 0)) ∧ Below w.heap.size w w' := by
  obtain ⟨r, hr⟩ : ∃ r, r = sideF X Y Z a b c q 0 0 := ⟨_, rfl⟩
  have HF0 : Hid (sideF X Y Z a b c (q - 0) 0 0 = r) := hr.symm
  rw [← hr]
  clear hr
  go_enter Try.func40, Try.ntmps40
  go_wp2_with fail
  go_loopw [11, 12] (fun v u wr => ∃ (k : Nat) (s : Int), k ≤ q ∧ u = .int .i64 k ∧ v = .int .i64 s ∧ Hid (sideF X Y Z a b c (q - k) k s = r) ∧ Hid (s = 0 ∨ s = 1 ∨ s = -1) ∧ Below w.heap.size w wr)
    (fun _ u _ => q - (intOf u).toNat)
  case atStart => exact ⟨0, 0, Nat.zero_le _, rfl, rfl, HF0, .inl rfl, Below.refl _ _⟩
  clear HF0
  obtain ⟨k, s, hk, rfl, rfl, HF, HS, hB⟩ := hrel
  by_cases hlt : k < q
  case neg =>
    have hat := side_end (by omega) HF.out
    subst hat
    go_wp2_with fail
    go_returns
    exact ⟨rfl, hB⟩
  cases hown : ownN a b c k with
  | true =>
    have hno := Lib.hid (side_own hlt hown HF.out)
    have h3 : k = a ∨ k = b ∨ k = c := by unfold ownN at hown; simpa [or_assoc] using hown
    clear hown HF
    by_cases e1 : k = a
    · have x1 : ((k : Int) == (a : Int)) = true := by simp [e1]
      clear h3 e1
      go_wp2_with fail
      go_roundw
      case rel => exact ⟨k + 1, s, by omega, by go_num, rfl, hno, HS, hB⟩
      case measure => simp [intOf]; omega
    have x1 : ((k : Int) == (a : Int)) = false := by simp; omega
    by_cases e2 : k = b
    · have x2 : ((k : Int) == (b : Int)) = true := by simp [e2]
      clear h3 e1 e2
      go_wp2_with fail
      go_roundw
      case rel => exact ⟨k + 1, s, by omega, by go_num, rfl, hno, HS, hB⟩
      case measure => simp [intOf]; omega
    have x2 : ((k : Int) == (b : Int)) = false := by simp; omega
    have x3 : ((k : Int) == (c : Int)) = true := by
      have : k = c := by omega
      simp [this]
    clear h3 e1 e2
    go_wp2_with fail
    go_roundw
    case rel => exact ⟨k + 1, s, by omega, by go_num, rfl, hno, HS, hB⟩
    case measure => simp [intOf]; omega
  | false =>
    have h3 : k ≠ a ∧ k ≠ b ∧ k ≠ c := by unfold ownN at hown; simp at hown; exact ⟨hown.1.1, hown.1.2, hown.2⟩
    have x1 : ((k : Int) == (a : Int)) = false := by simp; omega
    have x2 : ((k : Int) == (b : Int)) = false := by simp; omega
    have x3 : ((k : Int) == (c : Int)) = false := by simp; omega
    clear h3
    go_wp2_with fail
    refine (ref2_sign_at pb off n cp X Y Z a b c k (by omega) ha hb hc (by omega) hco.out _ (hp.out.mono hB hp.out.1)).mono ?_; rintro e W2 ⟨rfl, hX⟩
    replace hB := after hB hX
    clear hX x1 x2 x3
    have hg := sgP_cases X Y Z a b c k
    obtain ⟨g, hgd⟩ : ∃ g, g = sgP X Y Z a b c k := ⟨_, rfl⟩
    rw [← hgd] at hg ⊢
    have HG := Lib.hid hgd
    clear hgd
    by_cases h0 : s = 0
    · have hon := side_on hlt hown (by simp [h0]) HF.out
      rw [← HG.out] at hon
      have HON := Lib.hid hon
      have hgs : Hid (g = 0 ∨ g = 1 ∨ g = -1) := .inr hg
      subst h0
      clear HF hon hown hg HG
      go_wp2_with fail
      go_roundw
      case rel => first | exact ⟨k + 1, g, by omega, by go_num, rfl, HON, hgs, hB⟩ | ((repeat apply Exists.intro); exact ⟨⟨k + 1, g, by omega, by go_num, rfl, HON, hgs, hB⟩, rfl⟩)
      case measure => simp [intOf]; omega
    have x0 : (s != 0) = true := by simpa using h0
    by_cases hgs : g = s
    · have hon := side_on hlt hown (by rw [← HG.out]; simp [hgs]) HF.out
      rw [← HG.out] at hon
      have HON := Lib.hid hon
      have x1 : (g != s) = false := by simp [hgs]
      have hgs2 : Hid (g = 0 ∨ g = 1 ∨ g = -1) := .inr hg
      clear HF hon hown hg HG hgs h0
      go_wp2_with fail
      go_roundw
      case rel => first | exact ⟨k + 1, g, by omega, by go_num, rfl, HON, hgs2, hB⟩ | ((repeat apply Exists.intro); exact ⟨⟨k + 1, g, by omega, by go_num, rfl, HON, hgs2, hB⟩, rfl⟩)
      case measure => simp [intOf]; omega
    · have hbad := side_bad hlt hown ⟨h0, by rw [← HG.out]; exact hgs⟩ HF.out
      have x1 : (g != s) = true := by simpa using hgs
      subst hbad
      clear HF hown hg HG hgs h0
      go_wp2_with fail
      go_returns
      exact ⟨rfl, hB⟩
set_option maxRecDepth 100000 in
set_option maxHeartbeats 2000000 in
theorem ref9_facet (a b c s : Int) (w : World) : Calls Try.prog 41 #[.int .i64 a, .int .i64 b, .int .i64 c, .int .i64 s] w fun e w' => e = .returned (tri (if 0 < s then canF a b c else canF a c b)) ∧ Below w.heap.size w w' := by
  have hc := ref5_canon a b c
  have ht := ref5_turn a b c
  unfold tri at hc ht ⊢
  have HC := Lib.hid hc
  have HT := Lib.hid ht
  clear hc ht
  by_cases hs : 0 < s
  · rw [if_pos hs]
    go_enter Try.func41, Try.ntmps41
    go_wp2_with fail
    first | refine wp_named ?_ | refine calls_named ?_
    intro W hW
    have k1 : W.heap[w.heap.size]? = some (.cells #[.int .i64 0, .int .i64 0, .int .i64 0] 45 (0, 0)) := by rw [hW]; exact heap_at rfl
    have z1 : w.heap.size < W.heap.size := by rw [hW]; simp
    have hB : Below w.heap.size w W := by rw [hW]; go_grown
    clear hW
    refine (HC.out _).mono ?_; rintro e W1 ⟨rfl, hX⟩
    replace k1 := (hX.block _ z1).trans k1; replace z1 := Nat.lt_of_lt_of_le z1 hX.size; replace hB := after hB hX; clear hX
    obtain ⟨p1, q1⟩ := cellB k1
    clear k1
    go_wp2_with fail
    refine bodyPost_ret (v := .agg #[.int .i64 (canF a b c).1, .int .i64 (canF a b c).2.1, .int .i64 (canF a b c).2.2]) (by simp [results, Try.results41, go_sem, p1]) rfl ⟨rfl, by go_grown⟩
  · rw [if_neg hs]
    go_enter Try.func41, Try.ntmps41
    go_wp2_with fail
    first | refine wp_named ?_ | refine calls_named ?_
    intro W hW
    have k1 : W.heap[w.heap.size]? = some (.cells #[.int .i64 0, .int .i64 0, .int .i64 0] 45 (0, 0)) := by rw [hW]; exact heap_at rfl
    have z1 : w.heap.size < W.heap.size := by rw [hW]; simp
    have hB : Below w.heap.size w W := by rw [hW]; go_grown
    clear hW
    refine (HT.out _).mono ?_; rintro e W1 ⟨rfl, hX⟩
    replace k1 := (hX.block _ z1).trans k1; replace z1 := Nat.lt_of_lt_of_le z1 hX.size; replace hB := after hB hX; clear hX
    obtain ⟨p1, q1⟩ := cellB k1
    clear k1
    go_wp2_with fail
    refine bodyPost_ret (v := .agg #[.int .i64 (canF a c b).1, .int .i64 (canF a c b).2.1, .int .i64 (canF a c b).2.2]) (by simp [results, Try.results41, go_sem, p1]) rfl ⟨rfl, by go_grown⟩
end Go.Proofs.Ytdglijdiiggdgaa
namespace Go.Proofs.Ytdglijdiiggdgaa
open Go.RowKit Go.Maps Geo
abbrev E2 := Int × Int
def edg (a b : Int) : E2 := (min a b, max a b)
def edgV (e : E2) : Value := .agg #[.int .i64 e.1, .int .i64 e.2]
set_option maxRecDepth 100000 in
set_option maxHeartbeats 2000000 in
theorem ref5_edge (a b : Int) (w : World) : Calls Try.prog 58 #[.int .i64 a, .int .i64 b] w fun e w' => e = .returned (edgV (edg a b)) ∧ Below w.heap.size w w' := by
  unfold edgV edg
  rcases Int.lt_trichotomy a b with h | h | h
  · have x1 : a ≤ b := by omega
    have x2 : ¬ b ≤ a := by omega
    have e1 : min a b = a := by omega
    have e2 : max a b = b := by omega
    rw [e1, e2]
    clear e1 e2
    go_enter Try.func58, Try.ntmps58
    go_wp2
    refine bodyPost_ret (v := .agg #[.int .i64 a, .int .i64 b]) (by simp [results, Try.results58, go_sem]) rfl ⟨rfl, by go_grown⟩
  · subst h
    have e1 : min a a = a := by omega
    have e2 : max a a = a := by omega
    rw [e1, e2]
    clear e1 e2
    go_enter Try.func58, Try.ntmps58
    go_wp2
    refine bodyPost_ret (v := .agg #[.int .i64 a, .int .i64 a]) (by simp [results, Try.results58, go_sem]) rfl ⟨rfl, by go_grown⟩
  · have x1 : b ≤ a := by omega
    have x2 : ¬ a ≤ b := by omega
    have e1 : min a b = b := by omega
    have e2 : max a b = a := by omega
    rw [e1, e2]
    clear e1 e2
    go_enter Try.func58, Try.ntmps58
    go_wp2
    refine bodyPost_ret (v := .agg #[.int .i64 b, .int .i64 a]) (by simp [results, Try.results58, go_sem]) rfl ⟨rfl, by go_grown⟩
def cells2 (L : List E2) : List Value := L.flatMap fun t => [.int .i64 t.1, .int .i64 t.2]
def edgsF (a b c : Int) : List E2 := [edg a b, edg b c, edg c a]
attribute [local irreducible] wpCalm
set_option maxRecDepth 100000 in
set_option maxHeartbeats 4000000 in
theorem ref5_edges (a b c : Int) (w : World) : Calls Try.prog 49 #[.agg #[.int .i64 a, .int .i64 b, .int .i64 c]] w fun e w' => ∃ q, w.heap.size ≤ q ∧ e = .returned (.slice (some ⟨q, 0, none⟩) 3 3) ∧ w'.heap[q]? = some (.cells #[.int .i64 (edg a b).1, .int .i64 (edg a b).2, .int .i64 (edg b c).1, .int .i64 (edg b c).2, .int .i64 (edg c a).1, .int .i64 (edg c a).2] 85 (0, 0)) ∧ Below w.heap.size w w' := by
  have h1 := ref5_edge a b
  have h2 := ref5_edge b c
  have h3 := ref5_edge c a
  unfold edgV at h1 h2 h3
  obtain ⟨p1, hp1⟩ : ∃ p, p = (edg a b).1 := ⟨_, rfl⟩
  obtain ⟨p2, hp2⟩ : ∃ p, p = (edg a b).2 := ⟨_, rfl⟩
  obtain ⟨q1, hq1⟩ : ∃ p, p = (edg b c).1 := ⟨_, rfl⟩
  obtain ⟨q2, hq2⟩ : ∃ p, p = (edg b c).2 := ⟨_, rfl⟩
  obtain ⟨r1, hr1⟩ : ∃ p, p = (edg c a).1 := ⟨_, rfl⟩
  obtain ⟨r2, hr2⟩ : ∃ p, p = (edg c a).2 := ⟨_, rfl⟩
  rw [← hp1, ← hp2] at h1 ⊢
  rw [← hq1, ← hq2] at h2 ⊢
  rw [← hr1, ← hr2] at h3 ⊢
  have H1 := Lib.hid h1; have H2 := Lib.hid h2; have H3 := Lib.hid h3
  clear h1 h2 h3 hp1 hp2 hq1 hq2 hr1 hr2
  go_enter Try.func49, Try.ntmps49
  go_wp2_with fail
  first | refine wp_named ?_ | refine calls_named ?_
  intro W hW
  have k1 : W.heap[w.heap.size]? = some (.cells #[.int .i64 a, .int .i64 b, .int .i64 c] 45 (0, 0)) := by rw [hW]; exact heap_at rfl
  have z1 : w.heap.size < W.heap.size := by rw [hW]; simp
  have hB : Below w.heap.size w W := by rw [hW]; go_grown
  clear hW
  obtain ⟨kq, kr⟩ := cellB k1
  refine wp_calm0 15 (by kernel_rfl) (by kernel_rfl) ?_
  intro J hJ
  simp only [List.take_succ_cons, List.take_zero]
  repeat ((with_reducible apply wpCalm_step); intro M hM; go_simp; first | ((with_reducible apply hM); clear hM M) | ((with_reducible apply calm_intro); (· intro wc hw; obtain ⟨hc, hf⟩ := bcell (hJ wc hw); go_simp; first | with_reducible exact H1.out _ | with_reducible exact H2.out _ | with_reducible exact H3.out _ | exact rfl); (with_reducible apply hM); clear hM M))
  with_reducible apply wpCalm_nil
  clear hJ J kq kr
  intro V hX
  simp only [List.drop_succ_cons, List.drop_zero]
  replace hB := after hB hX
  have hs := hB.size
  clear hX k1
  go_wp2_with fail
  go_returns
  exact ⟨_, hs, rfl, heap_at rfl, hB.alloc hs _⟩
end Go.Proofs.Ytdglijdiiggdgaa
namespace Go.Proofs.Ytdglijdiiggdgaa
theorem ltB_iff (a b : T3) : ltB a b = true ↔ a.1 < b.1 ∨ a.1 = b.1 ∧ (a.2.1 < b.2.1 ∨ a.2.1 = b.2.1 ∧ a.2.2 < b.2.2) := by
  obtain ⟨a0, a1, a2⟩ := a; obtain ⟨b0, b1, b2⟩ := b
  unfold ltB cmp3 cmpI
  simp only [decide_eq_true_eq]
  repeat' split
  all_goals first | omega | (constructor <;> intro h <;> omega)
theorem ltB_irr (a : T3) : ltB a a = false := by
  have := ltB_iff a a
  cases h : ltB a a
  · rfl
  · rw [h] at this; simp at this
theorem ltB_trans {a b c : T3} (h1 : ltB a b = true) (h2 : ltB b c = true) : ltB a c = true := by
  rw [ltB_iff] at *; omega
theorem ltB_total {a b : T3} (h1 : ltB a b = false) (h2 : a ≠ b) : ltB b a = true := by
  have h3 : ¬ (ltB a b = true) := by rw [h1]; decide
  rw [ltB_iff] at *
  obtain ⟨a0, a1, a2⟩ := a; obtain ⟨b0, b1, b2⟩ := b
  have : ¬ (a0 = b0 ∧ a1 = b1 ∧ a2 = b2) := fun ⟨e0, e1, e2⟩ => h2 (by rw [e0, e1, e2])
  simp only at *
  omega
theorem ltB_asymm {a b : T3} (h1 : ltB a b = true) : ltB b a = false := by
  cases h : ltB b a
  · rfl
  · have := ltB_trans h1 h; rw [ltB_irr] at this; cases this
/-- How many leading triples are less. -/
def posF (t : T3) : List T3 → Nat
  | [] => 0
  | x :: L => if ltB x t = true then posF t L + 1 else 0
def insT (out : List T3) (t : T3) : List T3 := if out[posF t out]? = some t then out else out.take (posF t out) ++ t :: out.drop (posF t out)
def sortF (A B C : Nat → Int) : Nat → Nat → List T3 → List T3
  | 0, _, out => out
  | f + 1, k, out => sortF A B C f (k + 1) (insT out (canF (A k) (B k) (C k)))
theorem posF_le (t : T3) : ∀ L : List T3, posF t L ≤ L.length
  | [] => Nat.le_refl _
  | x :: L => by
    unfold posF
    split
    · have := posF_le t L; simp; omega
    · exact Nat.zero_le _
theorem posF_lt (t : T3) : ∀ (L : List T3) (k : Nat), k < posF t L → ∃ x, L[k]? = some x ∧ ltB x t = true
  | [], k, h => by simp [posF] at h
  | x :: L, k, h => by
    unfold posF at h
    by_cases hx : ltB x t = true
    · rw [if_pos hx] at h
      cases k with
      | zero => exact ⟨x, rfl, hx⟩
      | succ k => exact posF_lt t L k (by omega)
    · rw [if_neg hx] at h; omega
theorem posF_at (t : T3) : ∀ (L : List T3) (x : T3), L[posF t L]? = some x → ltB x t = false
  | [], x, h => by simp at h
  | y :: L, x, h => by
    unfold posF at h
    by_cases hx : ltB y t = true
    · rw [if_pos hx] at h; exact posF_at t L x h
    · rw [if_neg hx] at h
      injection h with h
      rw [← h]; simpa using hx
theorem insT_len (out : List T3) (t : T3) : (insT out t).length ≤ out.length + 1 := by
  unfold insT
  split
  · omega
  · have := posF_le t out
    simp; omega
theorem insT_nil (t : T3) : insT [] t = [t] := rfl
theorem insT_cons (x : T3) (L : List T3) (t : T3) : insT (x :: L) t = if ltB x t = true then x :: insT L t else if x = t then x :: L else t :: x :: L := by
  unfold insT
  rw [posF]
  by_cases h : ltB x t = true
  · rw [if_pos h, if_pos h]
    simp only [List.getElem?_cons_succ, List.take_succ_cons, List.drop_succ_cons, List.cons_append]
    by_cases h2 : L[posF t L]? = some t
    · rw [if_pos h2, if_pos h2]
    · rw [if_neg h2, if_neg h2]
  · rw [if_neg h, if_neg h]
    simp only [List.getElem?_cons_zero, List.take_zero, List.drop_zero, List.nil_append, Option.some.injEq]
def SortedT (L : List T3) : Prop := L.Pairwise (fun a b => ltB a b = true)
theorem mem_insT {x t : T3} : ∀ {L : List T3}, x ∈ insT L t ↔ x ∈ L ∨ x = t
  | [] => by rw [insT_nil]; simp
  | y :: L => by
    rw [insT_cons]
    split
    · rw [List.mem_cons, mem_insT, List.mem_cons, or_assoc]
    · split
      · rename_i h
        subst h
        simp only [List.mem_cons]
        constructor
        · intro h; exact .inl h
        · rintro (h | h)
          · exact h
          · exact .inl h
      · simp only [List.mem_cons]
        constructor
        · rintro (h | h | h)
          · exact .inr h
          · exact .inl (.inl h)
          · exact .inl (.inr h)
        · rintro ((h | h) | h)
          · exact .inr (.inl h)
          · exact .inr (.inr h)
          · exact .inl h
theorem sorted_insT {t : T3} : ∀ {L : List T3}, SortedT L → SortedT (insT L t)
  | [], _ => by rw [insT_nil]; exact List.pairwise_singleton _ _
  | y :: L, h => by
    obtain ⟨h1, h2⟩ := List.pairwise_cons.1 h
    rw [insT_cons]
    split
    · rename_i hy
      refine List.pairwise_cons.2 ⟨fun z hz => ?_, sorted_insT h2⟩
      rcases mem_insT.1 hz with hz | rfl
      · exact h1 z hz
      · exact hy
    · rename_i hy
      split
      · exact h
      · rename_i hne
        have hty := ltB_total (by simpa using hy) hne
        refine List.pairwise_cons.2 ⟨fun z hz => ?_, h⟩
        rcases List.mem_cons.1 hz with rfl | hz
        · exact hty
        · exact ltB_trans hty (h1 z hz)
theorem mem_sortF {A B C : Nat → Int} {x : T3} : ∀ (f k : Nat) (out : List T3), x ∈ sortF A B C f k out ↔ x ∈ out ∨ ∃ j, k ≤ j ∧ j < k + f ∧ x = canF (A j) (B j) (C j)
  | 0, k, out => by
    unfold sortF
    constructor
    · exact .inl
    · rintro (h | ⟨j, h1, h2, _⟩)
      · exact h
      · omega
  | f + 1, k, out => by
    unfold sortF
    rw [mem_sortF f (k + 1), mem_insT]
    constructor
    · rintro ((h | h) | ⟨j, h1, h2, h3⟩)
      · exact .inl h
      · exact .inr ⟨k, Nat.le_refl _, by omega, h⟩
      · exact .inr ⟨j, by omega, by omega, h3⟩
    · rintro (h | ⟨j, h1, h2, h3⟩)
      · exact .inl (.inl h)
      · rcases Nat.lt_or_ge k j with h | h
        · exact .inr ⟨j, by omega, by omega, h3⟩
        · have : j = k := by omega
          subst this
          exact .inl (.inr h3)
theorem sorted_sortF {A B C : Nat → Int} : ∀ (f k : Nat) (out : List T3), SortedT out → SortedT (sortF A B C f k out)
  | 0, k, out, h => h
  | f + 1, k, out, h => by unfold sortF; exact sorted_sortF f (k + 1) _ (sorted_insT h)
theorem sorted_ext : ∀ {L M : List T3}, SortedT L → SortedT M → (∀ t, t ∈ L ↔ t ∈ M) → L = M
  | [], [], _, _, _ => rfl
  | [], y :: M, _, _, h => by have := (h y).2 (by simp); cases this
  | x :: L, [], _, _, h => by have := (h x).1 (by simp); cases this
  | x :: L, y :: M, hL, hM, h => by
    obtain ⟨l1, l2⟩ := List.pairwise_cons.1 hL
    obtain ⟨m1, m2⟩ := List.pairwise_cons.1 hM
    have hxy : x = y := by
      rcases List.mem_cons.1 ((h x).1 (by simp)) with e | hx
      · exact e
      · rcases List.mem_cons.1 ((h y).2 (by simp)) with e | hy
        · exact e.symm
        · have a1 := m1 x hx
          have a2 := l1 y hy
          have := ltB_trans a1 a2
          rw [ltB_irr] at this; cases this
    subst hxy
    congr 1
    refine sorted_ext l2 m2 fun t => ?_
    constructor
    · intro ht
      rcases List.mem_cons.1 ((h t).1 (List.mem_cons_of_mem _ ht)) with rfl | h2
      · have := l1 _ ht; rw [ltB_irr] at this; cases this
      · exact h2
    · intro ht
      rcases List.mem_cons.1 ((h t).2 (List.mem_cons_of_mem _ ht)) with rfl | h2
      · have := m1 _ ht; rw [ltB_irr] at this; cases this
      · exact h2
section
variable {n k : Nat} {A B C : Nat → Int} {out R : List T3}
theorem sort_end (hk : n ≤ k) (h : sortF A B C (n - k) k out = R) : R = out := by rw [show n - k = 0 by omega] at h; exact h.symm
theorem sort_on (hk : k < n) (h : sortF A B C (n - k) k out = R) : sortF A B C (n - (k + 1)) (k + 1) (insT out (canF (A k) (B k) (C k))) = R := by
  rw [show n - k = (n - (k + 1)) + 1 by omega, sortF] at h; exact h
end
theorem sortF_self {A B C : Nat → Int} {L : List T3} (hs : SortedT L) (hc : ∀ t ∈ L, canF t.1 t.2.1 t.2.2 = t) (hA : A = fA L) (hB : B = fB L) (hC : C = fC L) : sortF A B C L.length 0 [] = L := by
  subst hA hB hC
  refine sorted_ext (sorted_sortF _ _ _ List.Pairwise.nil) hs fun t => ?_
  rw [mem_sortF]
  constructor
  · rintro (h | ⟨j, _, h2, h3⟩)
    · cases h
    · have hj : j < L.length := by omega
      have hm : (fA L j, fB L j, fC L j) = L[j] := by unfold fA fB fC; simp [List.getD_eq_getElem?_getD, hj]
      have h4 := hc (L[j]) (List.getElem_mem hj)
      rw [← hm] at h4
      rw [h3, h4, hm]
      exact List.getElem_mem hj
  · intro ht
    obtain ⟨j, hj, e⟩ := List.mem_iff_getElem.1 ht
    refine .inr ⟨j, Nat.zero_le _, by omega, ?_⟩
    have hm : (fA L j, fB L j, fC L j) = L[j] := by unfold fA fB fC; simp [List.getD_eq_getElem?_getD, hj]
    have h4 := hc t ht
    rw [← e, ← hm] at h4
    rw [← e, ← hm]
    exact h4.symm
end Go.Proofs.Ytdglijdiiggdgaa
namespace Go.Proofs.Ytdglijdiiggdgaa
open Go.RowKit Go.Maps Geo
theorem uEdge : Try.prog.underlying 85 = some (.array 2 3) := by kernel_rfl
theorem part20 (x y : Int) (w : World) : (Go.part 3 #[.int .i64 x, .int .i64 y] 0).run Try.prog w = .ok (.int .i64 x) w := by kernel_rfl
theorem part21 (x y : Int) (w : World) : (Go.part 3 #[.int .i64 x, .int .i64 y] 1).run Try.prog w = .ok (.int .i64 y) w := by kernel_rfl
theorem eq2 (x y a b : Int) (w : World) : (Op.equalIn 10000 85 (.agg #[.int .i64 x, .int .i64 y]) (.agg #[.int .i64 a, .int .i64 b])).run Try.prog w = .ok (x == a && y == b) w := by
  show (Op.equalIn (9999 + 1) _ _ _).run _ w = _
  rw [Op.equalIn]
  have e1 : ∀ (p q : Int) (w : World), (Op.equalIn 9999 3 (.int .i64 p) (.int .i64 q)).run Try.prog w = .ok (p == q) w := fun p q w => run_equalIn_int w 9998 _ .i64 .i64 p q uInt
  by_cases h1 : x = a <;> by_cases h2 : y = b <;>
    simp [run_underlying uEdge, szInt, part20, part21, e1, Result.andThen, h1, h2, Std.Legacy.Range.forIn_eq_forIn_range', Std.Legacy.Range.size, (show List.range' 0 2 = [0, 1] from rfl), List.forIn_cons, List.forIn_nil]
def gP (L : List E2) (k : Nat) : Int := (L.getD k (0, 0)).1
def gQ (L : List E2) (k : Nat) : Int := (L.getD k (0, 0)).2
theorem cells2_len (L : List E2) : (cells2 L).length = L.length * 2 := by
  induction L with
  | nil => rfl
  | cons t L ih => unfold cells2 at *; rw [List.flatMap_cons, List.length_append, ih]; simp; omega
theorem cells2_at : ∀ (L : List E2) (k : Nat), k < L.length → (cells2 L)[k * 2]? = some (.int .i64 (gP L k)) ∧ (cells2 L)[k * 2 + 1]? = some (.int .i64 (gQ L k))
  | [], k, h => by simp at h
  | t :: L, 0, _ => ⟨rfl, rfl⟩
  | t :: L, k + 1, h => by
    have ih := cells2_at L k (by simpa using h)
    unfold cells2 gP gQ at *
    rw [List.flatMap_cons, show (k + 1) * 2 = 2 + k * 2 by omega, show 2 + k * 2 + 1 = 2 + (k * 2 + 1) by omega]
    simp only [List.getD_cons_succ]
    rw [List.getElem?_append_right (by simp), List.getElem?_append_right (by simp)]
    simp only [List.length_cons, List.length_nil]
    rw [show 2 + k * 2 - (0 + 1 + 1) = k * 2 by omega, show 2 + (k * 2 + 1) - (0 + 1 + 1) = k * 2 + 1 by omega]
    exact ih
/-- A list of pairs in memory. -/
def PrsAt (w : World) (b off n : Nat) (P Q : Nat → Int) : Prop := b < w.heap.size ∧ ∀ k, k < n → w.cell? ⟨b, off + k * 2, none⟩ = some (.int .i64 (P k)) ∧ w.cell? ⟨b, off + k * 2 + 1, none⟩ = some (.int .i64 (Q k))
def PrsO (w : World) (pa : Option Addr) (n : Nat) (P Q : Nat → Int) : Prop := (n = 0 ∧ pa = none) ∨ ∃ b off, pa = some ⟨b, off, none⟩ ∧ PrsAt w b off n P Q
theorem PrsAt.mono {w w' : World} {b off n B : Nat} {P Q : Nat → Int} (h : PrsAt w b off n P Q) (hB : Below B w w') (hb : b < B) : PrsAt w' b off n P Q :=
  ⟨Nat.lt_of_lt_of_le h.1 hB.size, fun k hk => ⟨(hB.cell (p := ⟨b, _, none⟩) hb).trans (h.2 k hk).1, (hB.cell (p := ⟨b, _, none⟩) hb).trans (h.2 k hk).2⟩⟩
theorem PrsO.at {w : World} {pa : Option Addr} {n : Nat} {P Q : Nat → Int} (h : PrsO w pa n P Q) {k : Nat} (hk : k < n) : ∃ b off, pa = some ⟨b, off, none⟩ ∧ PrsAt w b off n P Q := by
  rcases h with ⟨h, _⟩ | h
  · omega
  · exact h
theorem PrsO.below {w w' : World} {pa : Option Addr} {n : Nat} {P Q : Nat → Int} (h : PrsO w pa n P Q) (hB : Below w.heap.size w w') : PrsO w' pa n P Q := by
  rcases h with h | ⟨b, off, e, h⟩
  · exact .inl h
  · exact .inr ⟨b, off, e, h.mono hB h.1⟩
theorem prs_of_row {w : World} {base : Nat} {T : TypeId} {vv : Value} {L : List E2} (h : w.ownsRow base T 2 vv L.length (cells2 L)) :
    ∃ p cap, vv = .slice p L.length cap ∧ PrsO w p L.length (gP L) (gQ L) := by
  have h0 := h
  rcases h.2 with ⟨rfl, hn⟩ | ⟨g, cap, cur, rfl, hb, hg, hle, hmax, hsz, htake⟩
  · exact ⟨none, 0, by rw [hn], .inl ⟨hn, rfl⟩⟩
  · refine ⟨_, cap, rfl, .inr ⟨g, 0, rfl, (Array.getElem?_eq_some_iff.1 hg).1, fun j hj => ?_⟩⟩
    obtain ⟨c0, c1⟩ := cells2_at L j hj
    rw [Nat.zero_add]
    exact ⟨(h0.cellAt _ (by omega)).trans c0, (h0.cellAt _ (by omega)).trans c1⟩
def hasF (P Q : Nat → Int) (x y : Int) : Nat → Nat → Bool
  | 0, _ => false
  | f + 1, k => if (P k == x && Q k == y) = true then true else hasF P Q x y f (k + 1)
section
variable {P Q : Nat → Int} {x y : Int} {n k : Nat} {r : Bool}
theorem has_end (hk : n ≤ k) (h : hasF P Q x y (n - k) k = r) : r = false := by rw [show n - k = 0 by omega] at h; exact h.symm
theorem has_yes (hk : k < n) (he : (P k == x && Q k == y) = true) (h : hasF P Q x y (n - k) k = r) : r = true := by
  rw [show n - k = (n - (k + 1)) + 1 by omega, hasF, if_pos he] at h; exact h.symm
theorem has_on (hk : k < n) (he : (P k == x && Q k == y) = false) (h : hasF P Q x y (n - k) k = r) : hasF P Q x y (n - (k + 1)) (k + 1) = r := by
  rw [show n - k = (n - (k + 1)) + 1 by omega, hasF, if_neg (by rw [he]; decide)] at h; exact h
end
theorem hasF_iff {P Q : Nat → Int} {x y : Int} : ∀ f k, hasF P Q x y f k = true ↔ ∃ j, k ≤ j ∧ j < k + f ∧ P j = x ∧ Q j = y
  | 0, k => by
    unfold hasF
    constructor
    · intro h; cases h
    · rintro ⟨j, h1, h2, _⟩; omega
  | f + 1, k => by
    unfold hasF
    by_cases h : (P k == x && Q k == y) = true
    · rw [if_pos h]
      simp at h
      exact ⟨fun _ => ⟨k, Nat.le_refl _, by omega, h.1, h.2⟩, fun _ => rfl⟩
    · rw [if_neg h, hasF_iff f (k + 1)]
      simp at h
      constructor
      · rintro ⟨j, h1, h2, h3⟩; exact ⟨j, by omega, by omega, h3⟩
      · rintro ⟨j, h1, h2, h3, h4⟩
        rcases Nat.lt_or_ge k j with h' | h'
        · exact ⟨j, by omega, by omega, h3, h4⟩
        · have : j = k := by omega
          subst this
          exact absurd h4 (h h3)
attribute [local irreducible] wpCalm
set_option maxRecDepth 100000 in
set_option maxHeartbeats 4000000 in
theorem ref9_has (pa : Option Addr) (n c1 : Nat) (P Q : Nat → Int) (x y : Int) (hn : n < 4611686018427387904) (w : World) (ha : Hid (PrsO w pa n P Q)) :
    Calls Try.prog 50 #[.slice pa n c1, .agg #[.int .i64 x, .int .i64 y]] w fun e w' => e = .returned (.bool (hasF P Q x y n 0)) ∧ Below w.heap.size w w' := by
  obtain ⟨r, hr⟩ : ∃ r, r = hasF P Q x y n 0 := ⟨_, rfl⟩
  have HF0 : Hid (hasF P Q x y (n - 0) 0 = r) := hr.symm
  rw [← hr]
  clear hr
  go_enter Try.func50, Try.ntmps50
  go_wp2_with fail
  first | refine wp_named ?_ | refine calls_named ?_
  intro W hW
  have k0 : W.heap[w.heap.size]? = some (.cells #[.int .i64 x, .int .i64 y] 85 (0, 0)) := by rw [hW]; exact heap_at rfl
  have z0 : w.heap.size < W.heap.size := by rw [hW]; simp
  have hB : Below w.heap.size w W := by rw [hW]; go_grown
  clear hW
  have ha2 := Lib.hid (ha.out.below hB)
  clear ha
  go_loopw [5] (fun v wr => ∃ k : Nat, k ≤ n ∧ v = .int .i64 k ∧ Hid (hasF P Q x y (n - k) k = r) ∧ Hid (PrsO wr pa n P Q) ∧ wr.heap[w.heap.size]? = some (.cells #[.int .i64 x, .int .i64 y] 85 (0, 0)) ∧ w.heap.size < wr.heap.size ∧ Below w.heap.size w wr)
    (fun v _ => n - (intOf v).toNat)
  case atStart => exact ⟨0, Nat.zero_le _, rfl, HF0, ha2, k0, z0, hB⟩
  case round =>
    clear ha2 HF0 k0 z0 hB
    obtain ⟨k, hk, rfl, HF, ha, k0, z0, hB⟩ := hrel
    by_cases hlt : k < n
    case neg =>
      have he := has_end (by omega) HF.out
      subst he
      go_wp2
      go_returns
      exact ⟨rfl, hB⟩
    obtain ⟨g, off, rfl, hq⟩ := ha.out.at hlt
    obtain ⟨d1, d2⟩ := hq.2 k hlt
    have hg := hq.1
    clear hq
    obtain ⟨p, hp⟩ : ∃ x, x = P k := ⟨_, rfl⟩
    obtain ⟨q, hq⟩ : ∃ y, y = Q k := ⟨_, rfl⟩
    obtain ⟨t, ht⟩ : ∃ t, t = (p == x && q == y) := ⟨_, rfl⟩
    have ht2 : (P k == x && Q k == y) = t := by rw [ht, hp, hq]
    have HQ := Lib.hid ht2
    have EQ2 := eq2 p q x y
    rw [← ht] at EQ2
    rw [← hp] at d1; rw [← hq] at d2
    clear hp hq ht ht2
    obtain ⟨kq, kr⟩ := cellB k0
    go_wp2_with fail
    refine wp_calm0 6 (by kernel_rfl) (by kernel_rfl) ?_
    intro J hJ
    simp only [List.take_succ_cons, List.take_zero]
    iterate 5 ((with_reducible apply wpCalm_step); intro M hM; go_simp; first | ((with_reducible apply hM); clear hM M) | ((with_reducible apply calm_intro); (· intro wc hw; obtain ⟨hc, hf⟩ := bcell (hJ wc hw); go_simp; first | exact rfl); (with_reducible apply hM); clear hM M))
    cases t
    · with_reducible apply wpCalm_step
      intro M hM
      go_simp
      with_reducible apply calm_intro (v := .bool false)
      · intro wc hw
        go_simp
      with_reducible apply hM
      clear hM M
      with_reducible apply wpCalm_nil
      clear hJ J EQ2 kq kr
      intro V hX
      simp only [List.drop_succ_cons, List.drop_zero]
      have hon := Lib.hid (has_on hlt HQ.out HF.out)
      have ha' := Lib.hid (ha.out.below hX)
      replace k0 := (hX.block _ z0).trans k0; replace z0 := Nat.lt_of_lt_of_le z0 hX.size; replace hB := after hB hX
      clear HQ HF hX ha
      go_wp2_with fail
      go_roundw
      case rel => exact ⟨k + 1, by omega, by go_num, hon, ha', k0, z0, hB⟩
      case measure => simp [intOf]; omega
    · with_reducible apply wpCalm_step
      intro M hM
      go_simp
      with_reducible apply calm_intro (v := .bool true)
      · intro wc hw
        go_simp
      with_reducible apply hM
      clear hM M
      with_reducible apply wpCalm_nil
      clear hJ J EQ2 kq kr
      intro V hX
      simp only [List.drop_succ_cons, List.drop_zero]
      replace hB := after hB hX
      have hno := has_yes hlt HQ.out HF.out
      subst hno
      clear HQ HF hX
      go_wp2_with fail
      go_returns
      exact ⟨rfl, hB⟩
end Go.Proofs.Ytdglijdiiggdgaa
namespace Go.Proofs.Ytdglijdiiggdgaa
open Go.RowKit Go.Maps Geo
def listT (m : Nat) (A B C : Nat → Int) : List T3 := (List.range m).map fun k => (A k, B k, C k)
theorem listT_len (m : Nat) (A B C : Nat → Int) : (listT m A B C).length = m := by unfold listT; simp
theorem listT_get {m k : Nat} {A B C : Nat → Int} (h : k < m) (L : List T3) : (listT m A B C ++ L).getD k (0, 0, 0) = (A k, B k, C k) := by
  unfold listT
  rw [List.getD_eq_getElem?_getD, List.getElem?_append_left (by simpa using h)]
  simp [h]
theorem cells3_one (L : List T3) : ∀ u ∈ cells3 L, u.oneCell' = true := by
  intro u hu
  unfold cells3 at hu
  obtain ⟨t, _, ht⟩ := List.mem_flatMap.1 hu
  simp only [List.mem_cons, List.not_mem_nil, or_false] at ht
  rcases ht with rfl | rfl | rfl <;> rfl
theorem cells3_app (L M : List T3) : cells3 L ++ cells3 M = cells3 (L ++ M) := by unfold cells3; rw [List.flatMap_append]
end Go.Proofs.Ytdglijdiiggdgaa
