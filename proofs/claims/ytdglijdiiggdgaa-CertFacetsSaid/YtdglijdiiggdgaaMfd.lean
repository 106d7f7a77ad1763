import Derived.Test.YtdglijdiiggdgaaMfc
namespace Go.Proofs.Ytdglijdiiggdgaa
open Go.RowKit Go.Maps Geo
theorem h0_1 {w : World} {a b c d : Obj} {k : Nat} (h : k = w.heap.size) : ((((w.alloc a).alloc b).alloc c).alloc d).heap[k + 1]? = some b := by
  subst h
  exact (heap_old (by simp)).trans ((heap_old (by simp)).trans (heap_at (by simp)))
theorem h0_2 {w : World} {a b c d : Obj} {k : Nat} (h : k = w.heap.size) : ((((w.alloc a).alloc b).alloc c).alloc d).heap[k + 2]? = some c := by
  subst h
  exact (heap_old (by simp)).trans (heap_at (by simp))
theorem after' {a b c : World} {n : Nat} (h : Below n a b) (k : Below b.heap.size b c) (hs : n ≤ b.heap.size) : Below n a c := h.trans (k.mono hs)
set_option maxRecDepth 100000 in
set_option maxHeartbeats 16000000 in
theorem orient_moved (X Y Z : Nat → Int) (m : Nat) (hm : m < 85) (g : Bool) (sm : Int) (hgm : Hid (g = good m 12)) (hsm : Hid (good m 12 = true → sm = smV ⟨X 0, Y 0, Z 0⟩ ⟨X 1, Y 1, Z 1⟩ ⟨X 2, Y 2, Z 2⟩ ⟨X 3, Y 3, Z 3⟩ m)) (hs0 : Hid (good m 12 = false → sm = 0)) (hco : Hid (∀ s, s < 4 → Co (X s) ∧ Co (Y s) ∧ Co (Z s))) (w : World) :
    Calls Try.prog 64 #[.agg #[.int .i64 (X 0), .int .i64 (Y 0), .int .i64 (Z 0), .int .i64 (X 1), .int .i64 (Y 1), .int .i64 (Z 1), .int .i64 (X 2), .int .i64 (Y 2), .int .i64 (Z 2), .int .i64 (X 3), .int .i64 (Y 3), .int .i64 (Z 3)], .int .i64 m] w fun e w' => e = .returned (.tuple #[.int .i64 sm, .bool g]) ∧ Below w.heap.size w w' := by
  have x0 : ∀ w, (Instr.index 89 (.agg #[.int .i64 (X 0), .int .i64 (Y 0), .int .i64 (Z 0), .int .i64 (X 1), .int .i64 (Y 1), .int .i64 (Z 1), .int .i64 (X 2), .int .i64 (Y 2), .int .i64 (Z 2), .int .i64 (X 3), .int .i64 (Y 3), .int .i64 (Z 3)]) (.int .i64 0)).run Try.prog w = .ok (.agg #[.int .i64 (X 0), .int .i64 (Y 0), .int .i64 (Z 0)]) w := fun _ => by kernel_rfl
  have x1 : ∀ w, (Instr.index 89 (.agg #[.int .i64 (X 0), .int .i64 (Y 0), .int .i64 (Z 0), .int .i64 (X 1), .int .i64 (Y 1), .int .i64 (Z 1), .int .i64 (X 2), .int .i64 (Y 2), .int .i64 (Z 2), .int .i64 (X 3), .int .i64 (Y 3), .int .i64 (Z 3)]) (.int .i64 1)).run Try.prog w = .ok (.agg #[.int .i64 (X 1), .int .i64 (Y 1), .int .i64 (Z 1)]) w := fun _ => by kernel_rfl
  have x2 : ∀ w, (Instr.index 89 (.agg #[.int .i64 (X 0), .int .i64 (Y 0), .int .i64 (Z 0), .int .i64 (X 1), .int .i64 (Y 1), .int .i64 (Z 1), .int .i64 (X 2), .int .i64 (Y 2), .int .i64 (Z 2), .int .i64 (X 3), .int .i64 (Y 3), .int .i64 (Z 3)]) (.int .i64 2)).run Try.prog w = .ok (.agg #[.int .i64 (X 2), .int .i64 (Y 2), .int .i64 (Z 2)]) w := fun _ => by kernel_rfl
  have x3 : ∀ w, (Instr.index 89 (.agg #[.int .i64 (X 0), .int .i64 (Y 0), .int .i64 (Z 0), .int .i64 (X 1), .int .i64 (Y 1), .int .i64 (Z 1), .int .i64 (X 2), .int .i64 (Y 2), .int .i64 (Z 2), .int .i64 (X 3), .int .i64 (Y 3), .int .i64 (Z 3)]) (.int .i64 3)).run Try.prog w = .ok (.agg #[.int .i64 (X 3), .int .i64 (Y 3), .int .i64 (Z 3)]) w := fun _ => by kernel_rfl
  go_enter Try.func64, Try.ntmps64
  go_wp2_with fail
  refine wp_loop_rounds 5 ?_
  rw [rounds_succ]
  go_wp2_with fail
  first | refine wp_named ?_ | refine calls_named ?_
  intro W hW
  have k1 : W.heap[w.heap.size + 1]? = some (.cells (rowsA X Y Z m (3 * 0 + 0) (0 + 1)) 122 (0, 0)) := by
    have e : rowsA X Y Z m (3 * 0 + 0) (0 + 1) = #[.int .i64 (X 0), .int .i64 (Y 0), .int .i64 (Z 0), .int .i64 1, .int .i64 0, .int .i64 0, .int .i64 0, .int .i64 0, .int .i64 0, .int .i64 0, .int .i64 0, .int .i64 0, .int .i64 0, .int .i64 0, .int .i64 0, .int .i64 0] := by
      show #[Value.int .i64 (rv (X 0) (Y 0) (Z 0) (cR m 0 0) 0), Value.int .i64 (rv (X 0) (Y 0) (Z 0) (cR m 0 0) 1), Value.int .i64 (rv (X 0) (Y 0) (Z 0) (cR m 0 0) 2), Value.int .i64 (rv (X 0) (Y 0) (Z 0) (cR m 0 0) 3), Value.int .i64 0, Value.int .i64 0, Value.int .i64 0, Value.int .i64 0, Value.int .i64 0, Value.int .i64 0, Value.int .i64 0, Value.int .i64 0, Value.int .i64 0, Value.int .i64 0, Value.int .i64 0, Value.int .i64 0] = _
      rw [code0 (m := m) (j := 0) (s := 0) (by decide)]; rfl
    rw [hW, e]; exact h0_1 rfl
  have k2 : W.heap[w.heap.size + 2]? = some (.cells (hasA m (3 * 0 + 0)) 44 (0, 0)) := by
    have e : hasA m (3 * 0 + 0) = #[.int .i64 0, .int .i64 0, .int .i64 0] := by
      have h : ∀ s, cR m 0 s = 0 := fun s => code0 (Nat.zero_le _)
      have h2 : ∀ k, hV m 0 k = 0 := fun k => by unfold hV; rw [h, h, h, h, if_neg (by simp)]
      show #[Value.int .i64 (hV m 0 0 : Nat), .int .i64 (hV m 0 1 : Nat), .int .i64 (hV m 0 2 : Nat)] = _
      rw [h2, h2, h2]; rfl
    rw [hW, e]; exact h0_2 rfl
  have hB : Below w.heap.size w W := by rw [hW]; go_grown
  have hz : w.heap.size + 3 ≤ W.heap.size := by rw [hW]; simp
  have HG : Hid (good m (3 * 0 + 0) = true) := good0 m
  clear hW
  go_loopw [30] (fun u wx => ∃ k : Nat, k ≤ 3 ∧ u = .int .i64 k ∧ Hid (good m (3 * 0 + k) = true) ∧ Hid (wx.heap[w.heap.size + 1]? = some (.cells (rowsA X Y Z m (3 * 0 + k) (0 + 1)) 122 (0, 0))) ∧ Hid (wx.heap[w.heap.size + 2]? = some (.cells (hasA m (3 * 0 + k)) 44 (0, 0))) ∧ Hid (Below w.heap.size w wx) ∧ Hid (w.heap.size + 3 ≤ wx.heap.size))
    (fun u _ => 3 - (intOf u).toNat)
  case atStart => exact ⟨0, by decide, rfl, HG, k1, k2, hB, hz⟩
  clear k1 k2 hB hz HG
  obtain ⟨k, hk, rfl, HG, H1, H2, HB, HZ⟩ := hrel
  have hk3 : k = 0 ∨ k = 1 ∨ k = 2 ∨ k = 3 := by omega
  clear hk
  rcases hk3 with rfl | rfl | rfl | rfl
  · have k1 : wr.heap[w.heap.size + 1]? = some (.cells #[Value.int .i64 (rv (X 0) (Y 0) (Z 0) (cR m 0 0) 0), Value.int .i64 (rv (X 0) (Y 0) (Z 0) (cR m 0 0) 1), Value.int .i64 (rv (X 0) (Y 0) (Z 0) (cR m 0 0) 2), Value.int .i64 (rv (X 0) (Y 0) (Z 0) (cR m 0 0) 3), Value.int .i64 0, Value.int .i64 0, Value.int .i64 0, Value.int .i64 0, Value.int .i64 0, Value.int .i64 0, Value.int .i64 0, Value.int .i64 0, Value.int .i64 0, Value.int .i64 0, Value.int .i64 0, Value.int .i64 0] 122 (0, 0)) := H1.out
    have k2 : wr.heap[w.heap.size + 2]? = some (.cells #[Value.int .i64 (hV m 0 0 : Nat), .int .i64 (hV m 0 1 : Nat), .int .i64 (hV m 0 2 : Nat)] 44 (0, 0)) := H2.out
    have hz := HZ.out
    clear H1 H2
    by_cases hb : m / 2 ^ (3 * 0 + 0) % 2 = 1
    case neg =>
      have hb' := bit_of (d := 1) hm ((m : Int)) (by omega) false (by simpa using hb)
      obtain ⟨n1, n2, n3⟩ := mask_no hm (r := 0) (k := 0) (by decide) (by decide) HG.out hb
      have q1 : rowsA X Y Z m (3 * 0 + (0 + 1)) (0 + 1) = #[Value.int .i64 (rv (X 0) (Y 0) (Z 0) (cR m 0 0) 0), Value.int .i64 (rv (X 0) (Y 0) (Z 0) (cR m 0 0) 1), Value.int .i64 (rv (X 0) (Y 0) (Z 0) (cR m 0 0) 2), Value.int .i64 (rv (X 0) (Y 0) (Z 0) (cR m 0 0) 3), Value.int .i64 0, Value.int .i64 0, Value.int .i64 0, Value.int .i64 0, Value.int .i64 0, Value.int .i64 0, Value.int .i64 0, Value.int .i64 0, Value.int .i64 0, Value.int .i64 0, Value.int .i64 0, Value.int .i64 0] := by
        show #[Value.int .i64 (rv (X 0) (Y 0) (Z 0) (cR m 1 0) 0), Value.int .i64 (rv (X 0) (Y 0) (Z 0) (cR m 1 0) 1), Value.int .i64 (rv (X 0) (Y 0) (Z 0) (cR m 1 0) 2), Value.int .i64 (rv (X 0) (Y 0) (Z 0) (cR m 1 0) 3), Value.int .i64 0, Value.int .i64 0, Value.int .i64 0, Value.int .i64 0, Value.int .i64 0, Value.int .i64 0, Value.int .i64 0, Value.int .i64 0, Value.int .i64 0, Value.int .i64 0, Value.int .i64 0, Value.int .i64 0] = _
        rw [show cR m 1 0 = cR m 0 0 from n2 0 (by decide)]
      have q2 : hasA m (3 * 0 + (0 + 1)) = #[Value.int .i64 (hV m 0 0 : Nat), .int .i64 (hV m 0 1 : Nat), .int .i64 (hV m 0 2 : Nat)] := by
        show #[Value.int .i64 (hV m 1 0 : Nat), .int .i64 (hV m 1 1 : Nat), .int .i64 (hV m 1 2 : Nat)] = _
        rw [show hV m 1 0 = hV m 0 0 from n3 0 (by decide), show hV m 1 1 = hV m 0 1 from n3 1 (by decide), show hV m 1 2 = hV m 0 2 from n3 2 (by decide)]
      have N1 := Lib.hid n1; have Q1 := Lib.hid q1; have Q2 := Lib.hid q2; have K1 := Lib.hid k1; have K2 := Lib.hid k2
      clear n1 n2 n3 q1 q2 k1 k2
      go_wp2_with fail
      go_roundw
      case rel => exact ⟨0 + 1, by decide, by go_num, N1.out, (by rw [Q1.out]; exact K1.out), (by rw [Q2.out]; exact K2.out), HB, HZ⟩
      case measure => simp [intOf]
    have hb' := bit_of (d := 1) hm ((m : Int)) (by omega) true (by simpa using hb)
    by_cases hc : cR m 0 0 = 0
    case neg =>
      rw [rv3n (x := X 0) (y := Y 0) (z := Z 0) hc] at k1
      have hng := mask_bad hm (r := 0) (k := 0) (by decide) (by decide) HG.out hb (.inl hc)
      obtain ⟨kq, kr⟩ := cellB k1
      obtain ⟨hq, hr⟩ := cellB k2
      have E1 := Lib.hid (hgm.out.trans hng); have E2 := Lib.hid (hs0.out hng)
      clear k1 k2 hng
      go_wp2_with fail
      go_returns
      exact ⟨by rw [E1.out, E2.out]; rfl, HB.out⟩
    replace k1 : wr.heap[w.heap.size + 1]? = some (.cells #[Value.int .i64 (X 0), Value.int .i64 (Y 0), Value.int .i64 (Z 0), Value.int .i64 1, Value.int .i64 0, Value.int .i64 0, Value.int .i64 0, Value.int .i64 0, Value.int .i64 0, Value.int .i64 0, Value.int .i64 0, Value.int .i64 0, Value.int .i64 0, Value.int .i64 0, Value.int .i64 0, Value.int .i64 0] 122 (0, 0)) := by rw [hc] at k1; exact k1
    by_cases hu : hV m 0 0 = 1
    case pos =>
      replace k2 : wr.heap[w.heap.size + 2]? = some (.cells #[Value.int .i64 1, Value.int .i64 (hV m 0 1 : Nat), Value.int .i64 (hV m 0 2 : Nat)] 44 (0, 0)) := by rw [hu] at k2; exact k2
      have hng := mask_bad hm (r := 0) (k := 0) (by decide) (by decide) HG.out hb (.inr hu)
      obtain ⟨kq, kr⟩ := cellB k1
      obtain ⟨hq, hr⟩ := cellB k2
      have E1 := Lib.hid (hgm.out.trans hng); have E2 := Lib.hid (hs0.out hng)
      clear k1 k2 hng
      go_wp2_with fail
      go_returns
      exact ⟨by rw [E1.out, E2.out]; rfl, HB.out⟩
    replace k2 : wr.heap[w.heap.size + 2]? = some (.cells #[Value.int .i64 0, Value.int .i64 (hV m 0 1 : Nat), Value.int .i64 (hV m 0 2 : Nat)] 44 (0, 0)) := by rw [show hV m 0 0 = 0 by have := hV_cases m 0 0; omega] at k2; exact k2
    obtain ⟨n1, n4, n2, n3⟩ := mask_yes hm (r := 0) (k := 0) (by decide) (by decide) HG.out hb hc hu
    have q1 : rowsA X Y Z m (3 * 0 + (0 + 1)) (0 + 1) = #[.int .i64 0, .int .i64 0, .int .i64 1, .int .i64 0, Value.int .i64 0, Value.int .i64 0, Value.int .i64 0, Value.int .i64 0, Value.int .i64 0, Value.int .i64 0, Value.int .i64 0, Value.int .i64 0, Value.int .i64 0, Value.int .i64 0, Value.int .i64 0, Value.int .i64 0] := by
      show #[Value.int .i64 (rv (X 0) (Y 0) (Z 0) (cR m 1 0) 0), Value.int .i64 (rv (X 0) (Y 0) (Z 0) (cR m 1 0) 1), Value.int .i64 (rv (X 0) (Y 0) (Z 0) (cR m 1 0) 2), Value.int .i64 (rv (X 0) (Y 0) (Z 0) (cR m 1 0) 3), Value.int .i64 0, Value.int .i64 0, Value.int .i64 0, Value.int .i64 0, Value.int .i64 0, Value.int .i64 0, Value.int .i64 0, Value.int .i64 0, Value.int .i64 0, Value.int .i64 0, Value.int .i64 0, Value.int .i64 0] = _
      rw [show cR m 1 0 = 1 from n4]; rfl
    have q2 : hasA m (3 * 0 + (0 + 1)) = #[.int .i64 1, .int .i64 (hV m 0 1 : Nat), .int .i64 (hV m 0 2 : Nat)] := by
      show #[Value.int .i64 (hV m 1 0 : Nat), .int .i64 (hV m 1 1 : Nat), .int .i64 (hV m 1 2 : Nat)] = _
      rw [show hV m 1 0 = 1 from n3 0 (by decide), show hV m 1 1 = hV m 0 1 from n3 1 (by decide), show hV m 1 2 = hV m 0 2 from n3 2 (by decide)]; rfl
    have N1 := Lib.hid n1; have Q1 := Lib.hid q1; have Q2 := Lib.hid q2; have K1 := Lib.hid k1; have K2 := Lib.hid k2
    obtain ⟨kq, kr⟩ := cellB k1
    obtain ⟨hq, hr⟩ := cellB k2
    clear n1 n2 n3 n4 q1 q2 k1 k2
    go_wp2_with fail
    go_roundw
    case rel => exact ⟨0 + 1, by decide, by go_num, N1.out, (by rw [Q1.out]; refine (other_block (by simp)).trans (Eq.trans (set_own (set_own (set_own (set_own (set_own K1.out _) _) _) _) _) ?_); simp), (by rw [Q2.out]; refine Eq.trans (set_own ((other_block (by simp)).trans ((other_block (by simp)).trans ((other_block (by simp)).trans ((other_block (by simp)).trans ((other_block (by simp)).trans K2.out))))) _) ?_; simp), (by have := HB.out; refine Lib.hid ?_; go_grown), (by have := HZ.out; refine Lib.hid ?_; simpa using this)⟩
    case measure => simp [intOf]
  · have k1 : wr.heap[w.heap.size + 1]? = some (.cells #[Value.int .i64 (rv (X 0) (Y 0) (Z 0) (cR m 1 0) 0), Value.int .i64 (rv (X 0) (Y 0) (Z 0) (cR m 1 0) 1), Value.int .i64 (rv (X 0) (Y 0) (Z 0) (cR m 1 0) 2), Value.int .i64 (rv (X 0) (Y 0) (Z 0) (cR m 1 0) 3), Value.int .i64 0, Value.int .i64 0, Value.int .i64 0, Value.int .i64 0, Value.int .i64 0, Value.int .i64 0, Value.int .i64 0, Value.int .i64 0, Value.int .i64 0, Value.int .i64 0, Value.int .i64 0, Value.int .i64 0] 122 (0, 0)) := H1.out
    have k2 : wr.heap[w.heap.size + 2]? = some (.cells #[Value.int .i64 (hV m 1 0 : Nat), .int .i64 (hV m 1 1 : Nat), .int .i64 (hV m 1 2 : Nat)] 44 (0, 0)) := H2.out
    have hz := HZ.out
    clear H1 H2
    by_cases hb : m / 2 ^ (3 * 0 + 1) % 2 = 1
    case neg =>
      have hb' := bit_of (d := 2) hm ((m : Int) / 2) (by omega) false (by simpa using hb)
      obtain ⟨n1, n2, n3⟩ := mask_no hm (r := 0) (k := 1) (by decide) (by decide) HG.out hb
      have q1 : rowsA X Y Z m (3 * 0 + (1 + 1)) (0 + 1) = #[Value.int .i64 (rv (X 0) (Y 0) (Z 0) (cR m 1 0) 0), Value.int .i64 (rv (X 0) (Y 0) (Z 0) (cR m 1 0) 1), Value.int .i64 (rv (X 0) (Y 0) (Z 0) (cR m 1 0) 2), Value.int .i64 (rv (X 0) (Y 0) (Z 0) (cR m 1 0) 3), Value.int .i64 0, Value.int .i64 0, Value.int .i64 0, Value.int .i64 0, Value.int .i64 0, Value.int .i64 0, Value.int .i64 0, Value.int .i64 0, Value.int .i64 0, Value.int .i64 0, Value.int .i64 0, Value.int .i64 0] := by
        show #[Value.int .i64 (rv (X 0) (Y 0) (Z 0) (cR m 2 0) 0), Value.int .i64 (rv (X 0) (Y 0) (Z 0) (cR m 2 0) 1), Value.int .i64 (rv (X 0) (Y 0) (Z 0) (cR m 2 0) 2), Value.int .i64 (rv (X 0) (Y 0) (Z 0) (cR m 2 0) 3), Value.int .i64 0, Value.int .i64 0, Value.int .i64 0, Value.int .i64 0, Value.int .i64 0, Value.int .i64 0, Value.int .i64 0, Value.int .i64 0, Value.int .i64 0, Value.int .i64 0, Value.int .i64 0, Value.int .i64 0] = _
        rw [show cR m 2 0 = cR m 1 0 from n2 0 (by decide)]
      have q2 : hasA m (3 * 0 + (1 + 1)) = #[Value.int .i64 (hV m 1 0 : Nat), .int .i64 (hV m 1 1 : Nat), .int .i64 (hV m 1 2 : Nat)] := by
        show #[Value.int .i64 (hV m 2 0 : Nat), .int .i64 (hV m 2 1 : Nat), .int .i64 (hV m 2 2 : Nat)] = _
        rw [show hV m 2 0 = hV m 1 0 from n3 0 (by decide), show hV m 2 1 = hV m 1 1 from n3 1 (by decide), show hV m 2 2 = hV m 1 2 from n3 2 (by decide)]
      have N1 := Lib.hid n1; have Q1 := Lib.hid q1; have Q2 := Lib.hid q2; have K1 := Lib.hid k1; have K2 := Lib.hid k2
      clear n1 n2 n3 q1 q2 k1 k2
      go_wp2_with fail
      go_roundw
      case rel => exact ⟨1 + 1, by decide, by go_num, N1.out, (by rw [Q1.out]; exact K1.out), (by rw [Q2.out]; exact K2.out), HB, HZ⟩
      case measure => simp [intOf]
    have hb' := bit_of (d := 2) hm ((m : Int) / 2) (by omega) true (by simpa using hb)
    by_cases hc : cR m 1 0 = 0
    case neg =>
      rw [rv3n (x := X 0) (y := Y 0) (z := Z 0) hc] at k1
      have hng := mask_bad hm (r := 0) (k := 1) (by decide) (by decide) HG.out hb (.inl hc)
      obtain ⟨kq, kr⟩ := cellB k1
      obtain ⟨hq, hr⟩ := cellB k2
      have E1 := Lib.hid (hgm.out.trans hng); have E2 := Lib.hid (hs0.out hng)
      clear k1 k2 hng
      go_wp2_with fail
      go_returns
      exact ⟨by rw [E1.out, E2.out]; rfl, HB.out⟩
    replace k1 : wr.heap[w.heap.size + 1]? = some (.cells #[Value.int .i64 (X 0), Value.int .i64 (Y 0), Value.int .i64 (Z 0), Value.int .i64 1, Value.int .i64 0, Value.int .i64 0, Value.int .i64 0, Value.int .i64 0, Value.int .i64 0, Value.int .i64 0, Value.int .i64 0, Value.int .i64 0, Value.int .i64 0, Value.int .i64 0, Value.int .i64 0, Value.int .i64 0] 122 (0, 0)) := by rw [hc] at k1; exact k1
    by_cases hu : hV m 1 1 = 1
    case pos =>
      replace k2 : wr.heap[w.heap.size + 2]? = some (.cells #[Value.int .i64 (hV m 1 0 : Nat), Value.int .i64 1, Value.int .i64 (hV m 1 2 : Nat)] 44 (0, 0)) := by rw [hu] at k2; exact k2
      have hng := mask_bad hm (r := 0) (k := 1) (by decide) (by decide) HG.out hb (.inr hu)
      obtain ⟨kq, kr⟩ := cellB k1
      obtain ⟨hq, hr⟩ := cellB k2
      have E1 := Lib.hid (hgm.out.trans hng); have E2 := Lib.hid (hs0.out hng)
      clear k1 k2 hng
      go_wp2_with fail
      go_returns
      exact ⟨by rw [E1.out, E2.out]; rfl, HB.out⟩
    replace k2 : wr.heap[w.heap.size + 2]? = some (.cells #[Value.int .i64 (hV m 1 0 : Nat), Value.int .i64 0, Value.int .i64 (hV m 1 2 : Nat)] 44 (0, 0)) := by rw [show hV m 1 1 = 0 by have := hV_cases m 1 1; omega] at k2; exact k2
    obtain ⟨n1, n4, n2, n3⟩ := mask_yes hm (r := 0) (k := 1) (by decide) (by decide) HG.out hb hc hu
    have q1 : rowsA X Y Z m (3 * 0 + (1 + 1)) (0 + 1) = #[.int .i64 0, .int .i64 1, .int .i64 0, .int .i64 0, Value.int .i64 0, Value.int .i64 0, Value.int .i64 0, Value.int .i64 0, Value.int .i64 0, Value.int .i64 0, Value.int .i64 0, Value.int .i64 0, Value.int .i64 0, Value.int .i64 0, Value.int .i64 0, Value.int .i64 0] := by
      show #[Value.int .i64 (rv (X 0) (Y 0) (Z 0) (cR m 2 0) 0), Value.int .i64 (rv (X 0) (Y 0) (Z 0) (cR m 2 0) 1), Value.int .i64 (rv (X 0) (Y 0) (Z 0) (cR m 2 0) 2), Value.int .i64 (rv (X 0) (Y 0) (Z 0) (cR m 2 0) 3), Value.int .i64 0, Value.int .i64 0, Value.int .i64 0, Value.int .i64 0, Value.int .i64 0, Value.int .i64 0, Value.int .i64 0, Value.int .i64 0, Value.int .i64 0, Value.int .i64 0, Value.int .i64 0, Value.int .i64 0] = _
      rw [show cR m 2 0 = 2 from n4]; rfl
    have q2 : hasA m (3 * 0 + (1 + 1)) = #[.int .i64 (hV m 1 0 : Nat), .int .i64 1, .int .i64 (hV m 1 2 : Nat)] := by
      show #[Value.int .i64 (hV m 2 0 : Nat), .int .i64 (hV m 2 1 : Nat), .int .i64 (hV m 2 2 : Nat)] = _
      rw [show hV m 2 0 = hV m 1 0 from n3 0 (by decide), show hV m 2 1 = 1 from n3 1 (by decide), show hV m 2 2 = hV m 1 2 from n3 2 (by decide)]; rfl
    have N1 := Lib.hid n1; have Q1 := Lib.hid q1; have Q2 := Lib.hid q2; have K1 := Lib.hid k1; have K2 := Lib.hid k2
    obtain ⟨kq, kr⟩ := cellB k1
    obtain ⟨hq, hr⟩ := cellB k2
    clear n1 n2 n3 n4 q1 q2 k1 k2
    go_wp2_with fail
    go_roundw
    case rel => exact ⟨1 + 1, by decide, by go_num, N1.out, (by rw [Q1.out]; refine (other_block (by simp)).trans (Eq.trans (set_own (set_own (set_own (set_own (set_own K1.out _) _) _) _) _) ?_); simp), (by rw [Q2.out]; refine Eq.trans (set_own ((other_block (by simp)).trans ((other_block (by simp)).trans ((other_block (by simp)).trans ((other_block (by simp)).trans ((other_block (by simp)).trans K2.out))))) _) ?_; simp), (by have := HB.out; refine Lib.hid ?_; go_grown), (by have := HZ.out; refine Lib.hid ?_; simpa using this)⟩
    case measure => simp [intOf]
  · have k1 : wr.heap[w.heap.size + 1]? = some (.cells #[Value.int .i64 (rv (X 0) (Y 0) (Z 0) (cR m 2 0) 0), Value.int .i64 (rv (X 0) (Y 0) (Z 0) (cR m 2 0) 1), Value.int .i64 (rv (X 0) (Y 0) (Z 0) (cR m 2 0) 2), Value.int .i64 (rv (X 0) (Y 0) (Z 0) (cR m 2 0) 3), Value.int .i64 0, Value.int .i64 0, Value.int .i64 0, Value.int .i64 0, Value.int .i64 0, Value.int .i64 0, Value.int .i64 0, Value.int .i64 0, Value.int .i64 0, Value.int .i64 0, Value.int .i64 0, Value.int .i64 0] 122 (0, 0)) := H1.out
    have k2 : wr.heap[w.heap.size + 2]? = some (.cells #[Value.int .i64 (hV m 2 0 : Nat), .int .i64 (hV m 2 1 : Nat), .int .i64 (hV m 2 2 : Nat)] 44 (0, 0)) := H2.out
    have hz := HZ.out
    clear H1 H2
    by_cases hb : m / 2 ^ (3 * 0 + 2) % 2 = 1
    case neg =>
      have hb' := bit_of (d := 4) hm ((m : Int) / 4) (by omega) false (by simpa using hb)
      obtain ⟨n1, n2, n3⟩ := mask_no hm (r := 0) (k := 2) (by decide) (by decide) HG.out hb
      have q1 : rowsA X Y Z m (3 * 0 + (2 + 1)) (0 + 1) = #[Value.int .i64 (rv (X 0) (Y 0) (Z 0) (cR m 2 0) 0), Value.int .i64 (rv (X 0) (Y 0) (Z 0) (cR m 2 0) 1), Value.int .i64 (rv (X 0) (Y 0) (Z 0) (cR m 2 0) 2), Value.int .i64 (rv (X 0) (Y 0) (Z 0) (cR m 2 0) 3), Value.int .i64 0, Value.int .i64 0, Value.int .i64 0, Value.int .i64 0, Value.int .i64 0, Value.int .i64 0, Value.int .i64 0, Value.int .i64 0, Value.int .i64 0, Value.int .i64 0, Value.int .i64 0, Value.int .i64 0] := by
        show #[Value.int .i64 (rv (X 0) (Y 0) (Z 0) (cR m 3 0) 0), Value.int .i64 (rv (X 0) (Y 0) (Z 0) (cR m 3 0) 1), Value.int .i64 (rv (X 0) (Y 0) (Z 0) (cR m 3 0) 2), Value.int .i64 (rv (X 0) (Y 0) (Z 0) (cR m 3 0) 3), Value.int .i64 0, Value.int .i64 0, Value.int .i64 0, Value.int .i64 0, Value.int .i64 0, Value.int .i64 0, Value.int .i64 0, Value.int .i64 0, Value.int .i64 0, Value.int .i64 0, Value.int .i64 0, Value.int .i64 0] = _
        rw [show cR m 3 0 = cR m 2 0 from n2 0 (by decide)]
      have q2 : hasA m (3 * 0 + (2 + 1)) = #[Value.int .i64 (hV m 2 0 : Nat), .int .i64 (hV m 2 1 : Nat), .int .i64 (hV m 2 2 : Nat)] := by
        show #[Value.int .i64 (hV m 3 0 : Nat), .int .i64 (hV m 3 1 : Nat), .int .i64 (hV m 3 2 : Nat)] = _
        rw [show hV m 3 0 = hV m 2 0 from n3 0 (by decide), show hV m 3 1 = hV m 2 1 from n3 1 (by decide), show hV m 3 2 = hV m 2 2 from n3 2 (by decide)]
      have N1 := Lib.hid n1; have Q1 := Lib.hid q1; have Q2 := Lib.hid q2; have K1 := Lib.hid k1; have K2 := Lib.hid k2
      clear n1 n2 n3 q1 q2 k1 k2
      go_wp2_with fail
      go_roundw
      case rel => exact ⟨2 + 1, by decide, by go_num, N1.out, (by rw [Q1.out]; exact K1.out), (by rw [Q2.out]; exact K2.out), HB, HZ⟩
      case measure => simp [intOf]
    have hb' := bit_of (d := 4) hm ((m : Int) / 4) (by omega) true (by simpa using hb)
    by_cases hc : cR m 2 0 = 0
    case neg =>
      rw [rv3n (x := X 0) (y := Y 0) (z := Z 0) hc] at k1
      have hng := mask_bad hm (r := 0) (k := 2) (by decide) (by decide) HG.out hb (.inl hc)
      obtain ⟨kq, kr⟩ := cellB k1
      obtain ⟨hq, hr⟩ := cellB k2
      have E1 := Lib.hid (hgm.out.trans hng); have E2 := Lib.hid (hs0.out hng)
      clear k1 k2 hng
      go_wp2_with fail
      go_returns
      exact ⟨by rw [E1.out, E2.out]; rfl, HB.out⟩
    replace k1 : wr.heap[w.heap.size + 1]? = some (.cells #[Value.int .i64 (X 0), Value.int .i64 (Y 0), Value.int .i64 (Z 0), Value.int .i64 1, Value.int .i64 0, Value.int .i64 0, Value.int .i64 0, Value.int .i64 0, Value.int .i64 0, Value.int .i64 0, Value.int .i64 0, Value.int .i64 0, Value.int .i64 0, Value.int .i64 0, Value.int .i64 0, Value.int .i64 0] 122 (0, 0)) := by rw [hc] at k1; exact k1
    by_cases hu : hV m 2 2 = 1
    case pos =>
      replace k2 : wr.heap[w.heap.size + 2]? = some (.cells #[Value.int .i64 (hV m 2 0 : Nat), Value.int .i64 (hV m 2 1 : Nat), Value.int .i64 1] 44 (0, 0)) := by rw [hu] at k2; exact k2
      have hng := mask_bad hm (r := 0) (k := 2) (by decide) (by decide) HG.out hb (.inr hu)
      obtain ⟨kq, kr⟩ := cellB k1
      obtain ⟨hq, hr⟩ := cellB k2
      have E1 := Lib.hid (hgm.out.trans hng); have E2 := Lib.hid (hs0.out hng)
      clear k1 k2 hng
      go_wp2_with fail
      go_returns
      exact ⟨by rw [E1.out, E2.out]; rfl, HB.out⟩
    replace k2 : wr.heap[w.heap.size + 2]? = some (.cells #[Value.int .i64 (hV m 2 0 : Nat), Value.int .i64 (hV m 2 1 : Nat), Value.int .i64 0] 44 (0, 0)) := by rw [show hV m 2 2 = 0 by have := hV_cases m 2 2; omega] at k2; exact k2
    obtain ⟨n1, n4, n2, n3⟩ := mask_yes hm (r := 0) (k := 2) (by decide) (by decide) HG.out hb hc hu
    have q1 : rowsA X Y Z m (3 * 0 + (2 + 1)) (0 + 1) = #[.int .i64 1, .int .i64 0, .int .i64 0, .int .i64 0, Value.int .i64 0, Value.int .i64 0, Value.int .i64 0, Value.int .i64 0, Value.int .i64 0, Value.int .i64 0, Value.int .i64 0, Value.int .i64 0, Value.int .i64 0, Value.int .i64 0, Value.int .i64 0, Value.int .i64 0] := by
      show #[Value.int .i64 (rv (X 0) (Y 0) (Z 0) (cR m 3 0) 0), Value.int .i64 (rv (X 0) (Y 0) (Z 0) (cR m 3 0) 1), Value.int .i64 (rv (X 0) (Y 0) (Z 0) (cR m 3 0) 2), Value.int .i64 (rv (X 0) (Y 0) (Z 0) (cR m 3 0) 3), Value.int .i64 0, Value.int .i64 0, Value.int .i64 0, Value.int .i64 0, Value.int .i64 0, Value.int .i64 0, Value.int .i64 0, Value.int .i64 0, Value.int .i64 0, Value.int .i64 0, Value.int .i64 0, Value.int .i64 0] = _
      rw [show cR m 3 0 = 4 from n4]; rfl
    have q2 : hasA m (3 * 0 + (2 + 1)) = #[.int .i64 (hV m 2 0 : Nat), .int .i64 (hV m 2 1 : Nat), .int .i64 1] := by
      show #[Value.int .i64 (hV m 3 0 : Nat), .int .i64 (hV m 3 1 : Nat), .int .i64 (hV m 3 2 : Nat)] = _
      rw [show hV m 3 0 = hV m 2 0 from n3 0 (by decide), show hV m 3 1 = hV m 2 1 from n3 1 (by decide), show hV m 3 2 = 1 from n3 2 (by decide)]; rfl
    have N1 := Lib.hid n1; have Q1 := Lib.hid q1; have Q2 := Lib.hid q2; have K1 := Lib.hid k1; have K2 := Lib.hid k2
    obtain ⟨kq, kr⟩ := cellB k1
    obtain ⟨hq, hr⟩ := cellB k2
    clear n1 n2 n3 n4 q1 q2 k1 k2
    go_wp2_with fail
    go_roundw
    case rel => exact ⟨2 + 1, by decide, by go_num, N1.out, (by rw [Q1.out]; refine (other_block (by simp)).trans (Eq.trans (set_own (set_own (set_own (set_own (set_own K1.out _) _) _) _) _) ?_); simp), (by rw [Q2.out]; refine Eq.trans (set_own ((other_block (by simp)).trans ((other_block (by simp)).trans ((other_block (by simp)).trans ((other_block (by simp)).trans ((other_block (by simp)).trans K2.out))))) _) ?_; simp), (by have := HB.out; refine Lib.hid ?_; go_grown), (by have := HZ.out; refine Lib.hid ?_; simpa using this)⟩
    case measure => simp [intOf]
  have k1 : wr.heap[w.heap.size + 1]? = some (.cells #[Value.int .i64 (rv (X 0) (Y 0) (Z 0) (cR m 3 0) 0), Value.int .i64 (rv (X 0) (Y 0) (Z 0) (cR m 3 0) 1), Value.int .i64 (rv (X 0) (Y 0) (Z 0) (cR m 3 0) 2), Value.int .i64 (rv (X 0) (Y 0) (Z 0) (cR m 3 0) 3), Value.int .i64 0, Value.int .i64 0, Value.int .i64 0, Value.int .i64 0, Value.int .i64 0, Value.int .i64 0, Value.int .i64 0, Value.int .i64 0, Value.int .i64 0, Value.int .i64 0, Value.int .i64 0, Value.int .i64 0] 122 (0, 0)) := H1.out
  have k2 : wr.heap[w.heap.size + 2]? = some (.cells (hasA m (3 * 1 + 0)) 44 (0, 0)) := H2.out
  have K1 := Lib.hid k1; have K2 := Lib.hid k2
  replace HG : Hid (good m (3 * 1 + 0) = true) := HG.out
  have hz0 := HZ.out
  have hz1 : w.heap.size + 1 < wr.heap.size := by omega
  obtain ⟨kq, kr⟩ := cellB k1
  clear H1 H2 k1 k2
  go_wp2_with fail
  rw [rounds_succ]
  go_wp2_with fail
  first | refine wp_named ?_ | refine calls_named ?_
  intro W hW
  have k1 : W.heap[w.heap.size + 1]? = some (.cells (rowsA X Y Z m (3 * 1 + 0) (1 + 1)) 122 (0, 0)) := by
    have e : rowsA X Y Z m (3 * 1 + 0) (1 + 1) = #[Value.int .i64 (rv (X 0) (Y 0) (Z 0) (cR m 3 0) 0), Value.int .i64 (rv (X 0) (Y 0) (Z 0) (cR m 3 0) 1), Value.int .i64 (rv (X 0) (Y 0) (Z 0) (cR m 3 0) 2), Value.int .i64 (rv (X 0) (Y 0) (Z 0) (cR m 3 0) 3), Value.int .i64 (X 1), Value.int .i64 (Y 1), Value.int .i64 (Z 1), Value.int .i64 1, Value.int .i64 0, Value.int .i64 0, Value.int .i64 0, Value.int .i64 0, Value.int .i64 0, Value.int .i64 0, Value.int .i64 0, Value.int .i64 0] := by
      show #[Value.int .i64 (rv (X 0) (Y 0) (Z 0) (cR m 3 0) 0), Value.int .i64 (rv (X 0) (Y 0) (Z 0) (cR m 3 0) 1), Value.int .i64 (rv (X 0) (Y 0) (Z 0) (cR m 3 0) 2), Value.int .i64 (rv (X 0) (Y 0) (Z 0) (cR m 3 0) 3), Value.int .i64 (rv (X 1) (Y 1) (Z 1) (cR m 3 1) 0), Value.int .i64 (rv (X 1) (Y 1) (Z 1) (cR m 3 1) 1), Value.int .i64 (rv (X 1) (Y 1) (Z 1) (cR m 3 1) 2), Value.int .i64 (rv (X 1) (Y 1) (Z 1) (cR m 3 1) 3), Value.int .i64 0, Value.int .i64 0, Value.int .i64 0, Value.int .i64 0, Value.int .i64 0, Value.int .i64 0, Value.int .i64 0, Value.int .i64 0] = _
      rw [code0 (m := m) (j := 3) (s := 1) (by decide)]; rfl
    rw [hW, e]; refine (heap_old (by simp; omega)).trans (Eq.trans (set_own (set_own (set_own (set_own K1.out _) _) _) _) ?_); simp
  have k2 : W.heap[w.heap.size + 2]? = some (.cells (hasA m (3 * 1 + 0)) 44 (0, 0)) := by rw [hW]; exact (heap_old (by simp; omega)).trans ((other_block (by simp)).trans ((other_block (by simp)).trans ((other_block (by simp)).trans ((other_block (by simp)).trans K2.out))))
  have hB : Below w.heap.size w W := by rw [hW]; have := HB.out; go_grown
  have hz : w.heap.size + 3 ≤ W.heap.size := by rw [hW]; simp; omega
  clear hW HB HZ K1 K2 hz0 hz1 kq kr
  obtain ⟨S1, rfl⟩ : ∃ S, S = wr := ⟨_, rfl⟩
  go_loopw [30] (fun u wx => ∃ k : Nat, k ≤ 3 ∧ u = .int .i64 k ∧ Hid (good m (3 * 1 + k) = true) ∧ Hid (wx.heap[w.heap.size + 1]? = some (.cells (rowsA X Y Z m (3 * 1 + k) (1 + 1)) 122 (0, 0))) ∧ Hid (wx.heap[w.heap.size + 2]? = some (.cells (hasA m (3 * 1 + k)) 44 (0, 0))) ∧ Hid (Below w.heap.size w wx) ∧ Hid (w.heap.size + 3 ≤ wx.heap.size))
    (fun u _ => 3 - (intOf u).toNat)
  case atStart => exact ⟨0, by decide, rfl, HG, k1, k2, hB, hz⟩
  clear k1 k2 hB hz HG
  obtain ⟨k, hk, rfl, HG, H1, H2, HB, HZ⟩ := hrel
  have hk3 : k = 0 ∨ k = 1 ∨ k = 2 ∨ k = 3 := by omega
  clear hk
  rcases hk3 with rfl | rfl | rfl | rfl
  · have k1 : wr.heap[w.heap.size + 1]? = some (.cells #[Value.int .i64 (rv (X 0) (Y 0) (Z 0) (cR m 3 0) 0), Value.int .i64 (rv (X 0) (Y 0) (Z 0) (cR m 3 0) 1), Value.int .i64 (rv (X 0) (Y 0) (Z 0) (cR m 3 0) 2), Value.int .i64 (rv (X 0) (Y 0) (Z 0) (cR m 3 0) 3), Value.int .i64 (rv (X 1) (Y 1) (Z 1) (cR m 3 1) 0), Value.int .i64 (rv (X 1) (Y 1) (Z 1) (cR m 3 1) 1), Value.int .i64 (rv (X 1) (Y 1) (Z 1) (cR m 3 1) 2), Value.int .i64 (rv (X 1) (Y 1) (Z 1) (cR m 3 1) 3), Value.int .i64 0, Value.int .i64 0, Value.int .i64 0, Value.int .i64 0, Value.int .i64 0, Value.int .i64 0, Value.int .i64 0, Value.int .i64 0] 122 (0, 0)) := H1.out
    have k2 : wr.heap[w.heap.size + 2]? = some (.cells #[Value.int .i64 (hV m 3 0 : Nat), .int .i64 (hV m 3 1 : Nat), .int .i64 (hV m 3 2 : Nat)] 44 (0, 0)) := H2.out
    have hz := HZ.out
    clear H1 H2
    by_cases hb : m / 2 ^ (3 * 1 + 0) % 2 = 1
    case neg =>
      have hb' := bit_of (d := 8) hm ((m : Int) / 8) (by omega) false (by simpa using hb)
      obtain ⟨n1, n2, n3⟩ := mask_no hm (r := 1) (k := 0) (by decide) (by decide) HG.out hb
      have q1 : rowsA X Y Z m (3 * 1 + (0 + 1)) (1 + 1) = #[Value.int .i64 (rv (X 0) (Y 0) (Z 0) (cR m 3 0) 0), Value.int .i64 (rv (X 0) (Y 0) (Z 0) (cR m 3 0) 1), Value.int .i64 (rv (X 0) (Y 0) (Z 0) (cR m 3 0) 2), Value.int .i64 (rv (X 0) (Y 0) (Z 0) (cR m 3 0) 3), Value.int .i64 (rv (X 1) (Y 1) (Z 1) (cR m 3 1) 0), Value.int .i64 (rv (X 1) (Y 1) (Z 1) (cR m 3 1) 1), Value.int .i64 (rv (X 1) (Y 1) (Z 1) (cR m 3 1) 2), Value.int .i64 (rv (X 1) (Y 1) (Z 1) (cR m 3 1) 3), Value.int .i64 0, Value.int .i64 0, Value.int .i64 0, Value.int .i64 0, Value.int .i64 0, Value.int .i64 0, Value.int .i64 0, Value.int .i64 0] := by
        show #[Value.int .i64 (rv (X 0) (Y 0) (Z 0) (cR m 4 0) 0), Value.int .i64 (rv (X 0) (Y 0) (Z 0) (cR m 4 0) 1), Value.int .i64 (rv (X 0) (Y 0) (Z 0) (cR m 4 0) 2), Value.int .i64 (rv (X 0) (Y 0) (Z 0) (cR m 4 0) 3), Value.int .i64 (rv (X 1) (Y 1) (Z 1) (cR m 4 1) 0), Value.int .i64 (rv (X 1) (Y 1) (Z 1) (cR m 4 1) 1), Value.int .i64 (rv (X 1) (Y 1) (Z 1) (cR m 4 1) 2), Value.int .i64 (rv (X 1) (Y 1) (Z 1) (cR m 4 1) 3), Value.int .i64 0, Value.int .i64 0, Value.int .i64 0, Value.int .i64 0, Value.int .i64 0, Value.int .i64 0, Value.int .i64 0, Value.int .i64 0] = _
        rw [show cR m 4 0 = cR m 3 0 from n2 0 (by decide), show cR m 4 1 = cR m 3 1 from n2 1 (by decide)]
      have q2 : hasA m (3 * 1 + (0 + 1)) = #[Value.int .i64 (hV m 3 0 : Nat), .int .i64 (hV m 3 1 : Nat), .int .i64 (hV m 3 2 : Nat)] := by
        show #[Value.int .i64 (hV m 4 0 : Nat), .int .i64 (hV m 4 1 : Nat), .int .i64 (hV m 4 2 : Nat)] = _
        rw [show hV m 4 0 = hV m 3 0 from n3 0 (by decide), show hV m 4 1 = hV m 3 1 from n3 1 (by decide), show hV m 4 2 = hV m 3 2 from n3 2 (by decide)]
      have N1 := Lib.hid n1; have Q1 := Lib.hid q1; have Q2 := Lib.hid q2; have K1 := Lib.hid k1; have K2 := Lib.hid k2
      clear n1 n2 n3 q1 q2 k1 k2
      go_wp2_with fail
      go_roundw
      case rel => exact ⟨0 + 1, by decide, by go_num, N1.out, (by rw [Q1.out]; exact K1.out), (by rw [Q2.out]; exact K2.out), HB, HZ⟩
      case measure => simp [intOf]
    have hb' := bit_of (d := 8) hm ((m : Int) / 8) (by omega) true (by simpa using hb)
    by_cases hc : cR m 3 1 = 0
    case neg =>
      rw [rv3n (x := X 1) (y := Y 1) (z := Z 1) hc] at k1
      have hng := mask_bad hm (r := 1) (k := 0) (by decide) (by decide) HG.out hb (.inl hc)
      obtain ⟨kq, kr⟩ := cellB k1
      obtain ⟨hq, hr⟩ := cellB k2
      have E1 := Lib.hid (hgm.out.trans hng); have E2 := Lib.hid (hs0.out hng)
      clear k1 k2 hng
      go_wp2_with fail
      go_returns
      exact ⟨by rw [E1.out, E2.out]; rfl, HB.out⟩
    replace k1 : wr.heap[w.heap.size + 1]? = some (.cells #[Value.int .i64 (rv (X 0) (Y 0) (Z 0) (cR m 3 0) 0), Value.int .i64 (rv (X 0) (Y 0) (Z 0) (cR m 3 0) 1), Value.int .i64 (rv (X 0) (Y 0) (Z 0) (cR m 3 0) 2), Value.int .i64 (rv (X 0) (Y 0) (Z 0) (cR m 3 0) 3), Value.int .i64 (X 1), Value.int .i64 (Y 1), Value.int .i64 (Z 1), Value.int .i64 1, Value.int .i64 0, Value.int .i64 0, Value.int .i64 0, Value.int .i64 0, Value.int .i64 0, Value.int .i64 0, Value.int .i64 0, Value.int .i64 0] 122 (0, 0)) := by rw [hc] at k1; exact k1
    by_cases hu : hV m 3 0 = 1
    case pos =>
      replace k2 : wr.heap[w.heap.size + 2]? = some (.cells #[Value.int .i64 1, Value.int .i64 (hV m 3 1 : Nat), Value.int .i64 (hV m 3 2 : Nat)] 44 (0, 0)) := by rw [hu] at k2; exact k2
      have hng := mask_bad hm (r := 1) (k := 0) (by decide) (by decide) HG.out hb (.inr hu)
      obtain ⟨kq, kr⟩ := cellB k1
      obtain ⟨hq, hr⟩ := cellB k2
      have E1 := Lib.hid (hgm.out.trans hng); have E2 := Lib.hid (hs0.out hng)
      clear k1 k2 hng
      go_wp2_with fail
      go_returns
      exact ⟨by rw [E1.out, E2.out]; rfl, HB.out⟩
    replace k2 : wr.heap[w.heap.size + 2]? = some (.cells #[Value.int .i64 0, Value.int .i64 (hV m 3 1 : Nat), Value.int .i64 (hV m 3 2 : Nat)] 44 (0, 0)) := by rw [show hV m 3 0 = 0 by have := hV_cases m 3 0; omega] at k2; exact k2
    obtain ⟨n1, n4, n2, n3⟩ := mask_yes hm (r := 1) (k := 0) (by decide) (by decide) HG.out hb hc hu
    have q1 : rowsA X Y Z m (3 * 1 + (0 + 1)) (1 + 1) = #[Value.int .i64 (rv (X 0) (Y 0) (Z 0) (cR m 3 0) 0), Value.int .i64 (rv (X 0) (Y 0) (Z 0) (cR m 3 0) 1), Value.int .i64 (rv (X 0) (Y 0) (Z 0) (cR m 3 0) 2), Value.int .i64 (rv (X 0) (Y 0) (Z 0) (cR m 3 0) 3), .int .i64 0, .int .i64 0, .int .i64 1, .int .i64 0, Value.int .i64 0, Value.int .i64 0, Value.int .i64 0, Value.int .i64 0, Value.int .i64 0, Value.int .i64 0, Value.int .i64 0, Value.int .i64 0] := by
      show #[Value.int .i64 (rv (X 0) (Y 0) (Z 0) (cR m 4 0) 0), Value.int .i64 (rv (X 0) (Y 0) (Z 0) (cR m 4 0) 1), Value.int .i64 (rv (X 0) (Y 0) (Z 0) (cR m 4 0) 2), Value.int .i64 (rv (X 0) (Y 0) (Z 0) (cR m 4 0) 3), Value.int .i64 (rv (X 1) (Y 1) (Z 1) (cR m 4 1) 0), Value.int .i64 (rv (X 1) (Y 1) (Z 1) (cR m 4 1) 1), Value.int .i64 (rv (X 1) (Y 1) (Z 1) (cR m 4 1) 2), Value.int .i64 (rv (X 1) (Y 1) (Z 1) (cR m 4 1) 3), Value.int .i64 0, Value.int .i64 0, Value.int .i64 0, Value.int .i64 0, Value.int .i64 0, Value.int .i64 0, Value.int .i64 0, Value.int .i64 0] = _
      rw [show cR m 4 0 = cR m 3 0 from n2 0 (by decide) (by decide), show cR m 4 1 = 1 from n4]; rfl
    have q2 : hasA m (3 * 1 + (0 + 1)) = #[.int .i64 1, .int .i64 (hV m 3 1 : Nat), .int .i64 (hV m 3 2 : Nat)] := by
      show #[Value.int .i64 (hV m 4 0 : Nat), .int .i64 (hV m 4 1 : Nat), .int .i64 (hV m 4 2 : Nat)] = _
      rw [show hV m 4 0 = 1 from n3 0 (by decide), show hV m 4 1 = hV m 3 1 from n3 1 (by decide), show hV m 4 2 = hV m 3 2 from n3 2 (by decide)]; rfl
    have N1 := Lib.hid n1; have Q1 := Lib.hid q1; have Q2 := Lib.hid q2; have K1 := Lib.hid k1; have K2 := Lib.hid k2
    obtain ⟨kq, kr⟩ := cellB k1
    obtain ⟨hq, hr⟩ := cellB k2
    clear n1 n2 n3 n4 q1 q2 k1 k2
    go_wp2_with fail
    go_roundw
    case rel => exact ⟨0 + 1, by decide, by go_num, N1.out, (by rw [Q1.out]; refine (other_block (by simp)).trans (Eq.trans (set_own (set_own (set_own (set_own (set_own K1.out _) _) _) _) _) ?_); simp), (by rw [Q2.out]; refine Eq.trans (set_own ((other_block (by simp)).trans ((other_block (by simp)).trans ((other_block (by simp)).trans ((other_block (by simp)).trans ((other_block (by simp)).trans K2.out))))) _) ?_; simp), (by have := HB.out; refine Lib.hid ?_; go_grown), (by have := HZ.out; refine Lib.hid ?_; simpa using this)⟩
    case measure => simp [intOf]
  · have k1 : wr.heap[w.heap.size + 1]? = some (.cells #[Value.int .i64 (rv (X 0) (Y 0) (Z 0) (cR m 4 0) 0), Value.int .i64 (rv (X 0) (Y 0) (Z 0) (cR m 4 0) 1), Value.int .i64 (rv (X 0) (Y 0) (Z 0) (cR m 4 0) 2), Value.int .i64 (rv (X 0) (Y 0) (Z 0) (cR m 4 0) 3), Value.int .i64 (rv (X 1) (Y 1) (Z 1) (cR m 4 1) 0), Value.int .i64 (rv (X 1) (Y 1) (Z 1) (cR m 4 1) 1), Value.int .i64 (rv (X 1) (Y 1) (Z 1) (cR m 4 1) 2), Value.int .i64 (rv (X 1) (Y 1) (Z 1) (cR m 4 1) 3), Value.int .i64 0, Value.int .i64 0, Value.int .i64 0, Value.int .i64 0, Value.int .i64 0, Value.int .i64 0, Value.int .i64 0, Value.int .i64 0] 122 (0, 0)) := H1.out
    have k2 : wr.heap[w.heap.size + 2]? = some (.cells #[Value.int .i64 (hV m 4 0 : Nat), .int .i64 (hV m 4 1 : Nat), .int .i64 (hV m 4 2 : Nat)] 44 (0, 0)) := H2.out
    have hz := HZ.out
    clear H1 H2
    by_cases hb : m / 2 ^ (3 * 1 + 1) % 2 = 1
    case neg =>
      have hb' := bit_of (d := 16) hm ((m : Int) / 16) (by omega) false (by simpa using hb)
      obtain ⟨n1, n2, n3⟩ := mask_no hm (r := 1) (k := 1) (by decide) (by decide) HG.out hb
      have q1 : rowsA X Y Z m (3 * 1 + (1 + 1)) (1 + 1) = #[Value.int .i64 (rv (X 0) (Y 0) (Z 0) (cR m 4 0) 0), Value.int .i64 (rv (X 0) (Y 0) (Z 0) (cR m 4 0) 1), Value.int .i64 (rv (X 0) (Y 0) (Z 0) (cR m 4 0) 2), Value.int .i64 (rv (X 0) (Y 0) (Z 0) (cR m 4 0) 3), Value.int .i64 (rv (X 1) (Y 1) (Z 1) (cR m 4 1) 0), Value.int .i64 (rv (X 1) (Y 1) (Z 1) (cR m 4 1) 1), Value.int .i64 (rv (X 1) (Y 1) (Z 1) (cR m 4 1) 2), Value.int .i64 (rv (X 1) (Y 1) (Z 1) (cR m 4 1) 3), Value.int .i64 0, Value.int .i64 0, Value.int .i64 0, Value.int .i64 0, Value.int .i64 0, Value.int .i64 0, Value.int .i64 0, Value.int .i64 0] := by
        show #[Value.int .i64 (rv (X 0) (Y 0) (Z 0) (cR m 5 0) 0), Value.int .i64 (rv (X 0) (Y 0) (Z 0) (cR m 5 0) 1), Value.int .i64 (rv (X 0) (Y 0) (Z 0) (cR m 5 0) 2), Value.int .i64 (rv (X 0) (Y 0) (Z 0) (cR m 5 0) 3), Value.int .i64 (rv (X 1) (Y 1) (Z 1) (cR m 5 1) 0), Value.int .i64 (rv (X 1) (Y 1) (Z 1) (cR m 5 1) 1), Value.int .i64 (rv (X 1) (Y 1) (Z 1) (cR m 5 1) 2), Value.int .i64 (rv (X 1) (Y 1) (Z 1) (cR m 5 1) 3), Value.int .i64 0, Value.int .i64 0, Value.int .i64 0, Value.int .i64 0, Value.int .i64 0, Value.int .i64 0, Value.int .i64 0, Value.int .i64 0] = _
        rw [show cR m 5 0 = cR m 4 0 from n2 0 (by decide), show cR m 5 1 = cR m 4 1 from n2 1 (by decide)]
      have q2 : hasA m (3 * 1 + (1 + 1)) = #[Value.int .i64 (hV m 4 0 : Nat), .int .i64 (hV m 4 1 : Nat), .int .i64 (hV m 4 2 : Nat)] := by
        show #[Value.int .i64 (hV m 5 0 : Nat), .int .i64 (hV m 5 1 : Nat), .int .i64 (hV m 5 2 : Nat)] = _
        rw [show hV m 5 0 = hV m 4 0 from n3 0 (by decide), show hV m 5 1 = hV m 4 1 from n3 1 (by decide), show hV m 5 2 = hV m 4 2 from n3 2 (by decide)]
      have N1 := Lib.hid n1; have Q1 := Lib.hid q1; have Q2 := Lib.hid q2; have K1 := Lib.hid k1; have K2 := Lib.hid k2
      clear n1 n2 n3 q1 q2 k1 k2
      go_wp2_with fail
      go_roundw
      case rel => exact ⟨1 + 1, by decide, by go_num, N1.out, (by rw [Q1.out]; exact K1.out), (by rw [Q2.out]; exact K2.out), HB, HZ⟩
      case measure => simp [intOf]
    have hb' := bit_of (d := 16) hm ((m : Int) / 16) (by omega) true (by simpa using hb)
    by_cases hc : cR m 4 1 = 0
    case neg =>
      rw [rv3n (x := X 1) (y := Y 1) (z := Z 1) hc] at k1
      have hng := mask_bad hm (r := 1) (k := 1) (by decide) (by decide) HG.out hb (.inl hc)
      obtain ⟨kq, kr⟩ := cellB k1
      obtain ⟨hq, hr⟩ := cellB k2
      have E1 := Lib.hid (hgm.out.trans hng); have E2 := Lib.hid (hs0.out hng)
      clear k1 k2 hng
      go_wp2_with fail
      go_returns
      exact ⟨by rw [E1.out, E2.out]; rfl, HB.out⟩
    replace k1 : wr.heap[w.heap.size + 1]? = some (.cells #[Value.int .i64 (rv (X 0) (Y 0) (Z 0) (cR m 4 0) 0), Value.int .i64 (rv (X 0) (Y 0) (Z 0) (cR m 4 0) 1), Value.int .i64 (rv (X 0) (Y 0) (Z 0) (cR m 4 0) 2), Value.int .i64 (rv (X 0) (Y 0) (Z 0) (cR m 4 0) 3), Value.int .i64 (X 1), Value.int .i64 (Y 1), Value.int .i64 (Z 1), Value.int .i64 1, Value.int .i64 0, Value.int .i64 0, Value.int .i64 0, Value.int .i64 0, Value.int .i64 0, Value.int .i64 0, Value.int .i64 0, Value.int .i64 0] 122 (0, 0)) := by rw [hc] at k1; exact k1
    by_cases hu : hV m 4 1 = 1
    case pos =>
      replace k2 : wr.heap[w.heap.size + 2]? = some (.cells #[Value.int .i64 (hV m 4 0 : Nat), Value.int .i64 1, Value.int .i64 (hV m 4 2 : Nat)] 44 (0, 0)) := by rw [hu] at k2; exact k2
      have hng := mask_bad hm (r := 1) (k := 1) (by decide) (by decide) HG.out hb (.inr hu)
      obtain ⟨kq, kr⟩ := cellB k1
      obtain ⟨hq, hr⟩ := cellB k2
      have E1 := Lib.hid (hgm.out.trans hng); have E2 := Lib.hid (hs0.out hng)
      clear k1 k2 hng
      go_wp2_with fail
      go_returns
      exact ⟨by rw [E1.out, E2.out]; rfl, HB.out⟩
    replace k2 : wr.heap[w.heap.size + 2]? = some (.cells #[Value.int .i64 (hV m 4 0 : Nat), Value.int .i64 0, Value.int .i64 (hV m 4 2 : Nat)] 44 (0, 0)) := by rw [show hV m 4 1 = 0 by have := hV_cases m 4 1; omega] at k2; exact k2
    obtain ⟨n1, n4, n2, n3⟩ := mask_yes hm (r := 1) (k := 1) (by decide) (by decide) HG.out hb hc hu
    have q1 : rowsA X Y Z m (3 * 1 + (1 + 1)) (1 + 1) = #[Value.int .i64 (rv (X 0) (Y 0) (Z 0) (cR m 4 0) 0), Value.int .i64 (rv (X 0) (Y 0) (Z 0) (cR m 4 0) 1), Value.int .i64 (rv (X 0) (Y 0) (Z 0) (cR m 4 0) 2), Value.int .i64 (rv (X 0) (Y 0) (Z 0) (cR m 4 0) 3), .int .i64 0, .int .i64 1, .int .i64 0, .int .i64 0, Value.int .i64 0, Value.int .i64 0, Value.int .i64 0, Value.int .i64 0, Value.int .i64 0, Value.int .i64 0, Value.int .i64 0, Value.int .i64 0] := by
      show #[Value.int .i64 (rv (X 0) (Y 0) (Z 0) (cR m 5 0) 0), Value.int .i64 (rv (X 0) (Y 0) (Z 0) (cR m 5 0) 1), Value.int .i64 (rv (X 0) (Y 0) (Z 0) (cR m 5 0) 2), Value.int .i64 (rv (X 0) (Y 0) (Z 0) (cR m 5 0) 3), Value.int .i64 (rv (X 1) (Y 1) (Z 1) (cR m 5 1) 0), Value.int .i64 (rv (X 1) (Y 1) (Z 1) (cR m 5 1) 1), Value.int .i64 (rv (X 1) (Y 1) (Z 1) (cR m 5 1) 2), Value.int .i64 (rv (X 1) (Y 1) (Z 1) (cR m 5 1) 3), Value.int .i64 0, Value.int .i64 0, Value.int .i64 0, Value.int .i64 0, Value.int .i64 0, Value.int .i64 0, Value.int .i64 0, Value.int .i64 0] = _
      rw [show cR m 5 0 = cR m 4 0 from n2 0 (by decide) (by decide), show cR m 5 1 = 2 from n4]; rfl
    have q2 : hasA m (3 * 1 + (1 + 1)) = #[.int .i64 (hV m 4 0 : Nat), .int .i64 1, .int .i64 (hV m 4 2 : Nat)] := by
      show #[Value.int .i64 (hV m 5 0 : Nat), .int .i64 (hV m 5 1 : Nat), .int .i64 (hV m 5 2 : Nat)] = _
      rw [show hV m 5 0 = hV m 4 0 from n3 0 (by decide), show hV m 5 1 = 1 from n3 1 (by decide), show hV m 5 2 = hV m 4 2 from n3 2 (by decide)]; rfl
    have N1 := Lib.hid n1; have Q1 := Lib.hid q1; have Q2 := Lib.hid q2; have K1 := Lib.hid k1; have K2 := Lib.hid k2
    obtain ⟨kq, kr⟩ := cellB k1
    obtain ⟨hq, hr⟩ := cellB k2
    clear n1 n2 n3 n4 q1 q2 k1 k2
    go_wp2_with fail
    go_roundw
    case rel => exact ⟨1 + 1, by decide, by go_num, N1.out, (by rw [Q1.out]; refine (other_block (by simp)).trans (Eq.trans (set_own (set_own (set_own (set_own (set_own K1.out _) _) _) _) _) ?_); simp), (by rw [Q2.out]; refine Eq.trans (set_own ((other_block (by simp)).trans ((other_block (by simp)).trans ((other_block (by simp)).trans ((other_block (by simp)).trans ((other_block (by simp)).trans K2.out))))) _) ?_; simp), (by have := HB.out; refine Lib.hid ?_; go_grown), (by have := HZ.out; refine Lib.hid ?_; simpa using this)⟩
    case measure => simp [intOf]
  · have k1 : wr.heap[w.heap.size + 1]? = some (.cells #[Value.int .i64 (rv (X 0) (Y 0) (Z 0) (cR m 5 0) 0), Value.int .i64 (rv (X 0) (Y 0) (Z 0) (cR m 5 0) 1), Value.int .i64 (rv (X 0) (Y 0) (Z 0) (cR m 5 0) 2), Value.int .i64 (rv (X 0) (Y 0) (Z 0) (cR m 5 0) 3), Value.int .i64 (rv (X 1) (Y 1) (Z 1) (cR m 5 1) 0), Value.int .i64 (rv (X 1) (Y 1) (Z 1) (cR m 5 1) 1), Value.int .i64 (rv (X 1) (Y 1) (Z 1) (cR m 5 1) 2), Value.int .i64 (rv (X 1) (Y 1) (Z 1) (cR m 5 1) 3), Value.int .i64 0, Value.int .i64 0, Value.int .i64 0, Value.int .i64 0, Value.int .i64 0, Value.int .i64 0, Value.int .i64 0, Value.int .i64 0] 122 (0, 0)) := H1.out
    have k2 : wr.heap[w.heap.size + 2]? = some (.cells #[Value.int .i64 (hV m 5 0 : Nat), .int .i64 (hV m 5 1 : Nat), .int .i64 (hV m 5 2 : Nat)] 44 (0, 0)) := H2.out
    have hz := HZ.out
    clear H1 H2
    by_cases hb : m / 2 ^ (3 * 1 + 2) % 2 = 1
    case neg =>
      have hb' := bit_of (d := 32) hm ((m : Int) / 32) (by omega) false (by simpa using hb)
      obtain ⟨n1, n2, n3⟩ := mask_no hm (r := 1) (k := 2) (by decide) (by decide) HG.out hb
      have q1 : rowsA X Y Z m (3 * 1 + (2 + 1)) (1 + 1) = #[Value.int .i64 (rv (X 0) (Y 0) (Z 0) (cR m 5 0) 0), Value.int .i64 (rv (X 0) (Y 0) (Z 0) (cR m 5 0) 1), Value.int .i64 (rv (X 0) (Y 0) (Z 0) (cR m 5 0) 2), Value.int .i64 (rv (X 0) (Y 0) (Z 0) (cR m 5 0) 3), Value.int .i64 (rv (X 1) (Y 1) (Z 1) (cR m 5 1) 0), Value.int .i64 (rv (X 1) (Y 1) (Z 1) (cR m 5 1) 1), Value.int .i64 (rv (X 1) (Y 1) (Z 1) (cR m 5 1) 2), Value.int .i64 (rv (X 1) (Y 1) (Z 1) (cR m 5 1) 3), Value.int .i64 0, Value.int .i64 0, Value.int .i64 0, Value.int .i64 0, Value.int .i64 0, Value.int .i64 0, Value.int .i64 0, Value.int .i64 0] := by
        show #[Value.int .i64 (rv (X 0) (Y 0) (Z 0) (cR m 6 0) 0), Value.int .i64 (rv (X 0) (Y 0) (Z 0) (cR m 6 0) 1), Value.int .i64 (rv (X 0) (Y 0) (Z 0) (cR m 6 0) 2), Value.int .i64 (rv (X 0) (Y 0) (Z 0) (cR m 6 0) 3), Value.int .i64 (rv (X 1) (Y 1) (Z 1) (cR m 6 1) 0), Value.int .i64 (rv (X 1) (Y 1) (Z 1) (cR m 6 1) 1), Value.int .i64 (rv (X 1) (Y 1) (Z 1) (cR m 6 1) 2), Value.int .i64 (rv (X 1) (Y 1) (Z 1) (cR m 6 1) 3), Value.int .i64 0, Value.int .i64 0, Value.int .i64 0, Value.int .i64 0, Value.int .i64 0, Value.int .i64 0, Value.int .i64 0, Value.int .i64 0] = _
        rw [show cR m 6 0 = cR m 5 0 from n2 0 (by decide), show cR m 6 1 = cR m 5 1 from n2 1 (by decide)]
      have q2 : hasA m (3 * 1 + (2 + 1)) = #[Value.int .i64 (hV m 5 0 : Nat), .int .i64 (hV m 5 1 : Nat), .int .i64 (hV m 5 2 : Nat)] := by
        show #[Value.int .i64 (hV m 6 0 : Nat), .int .i64 (hV m 6 1 : Nat), .int .i64 (hV m 6 2 : Nat)] = _
        rw [show hV m 6 0 = hV m 5 0 from n3 0 (by decide), show hV m 6 1 = hV m 5 1 from n3 1 (by decide), show hV m 6 2 = hV m 5 2 from n3 2 (by decide)]
      have N1 := Lib.hid n1; have Q1 := Lib.hid q1; have Q2 := Lib.hid q2; have K1 := Lib.hid k1; have K2 := Lib.hid k2
      clear n1 n2 n3 q1 q2 k1 k2
      go_wp2_with fail
      go_roundw
      case rel => exact ⟨2 + 1, by decide, by go_num, N1.out, (by rw [Q1.out]; exact K1.out), (by rw [Q2.out]; exact K2.out), HB, HZ⟩
      case measure => simp [intOf]
    have hb' := bit_of (d := 32) hm ((m : Int) / 32) (by omega) true (by simpa using hb)
    by_cases hc : cR m 5 1 = 0
    case neg =>
      rw [rv3n (x := X 1) (y := Y 1) (z := Z 1) hc] at k1
      have hng := mask_bad hm (r := 1) (k := 2) (by decide) (by decide) HG.out hb (.inl hc)
      obtain ⟨kq, kr⟩ := cellB k1
      obtain ⟨hq, hr⟩ := cellB k2
      have E1 := Lib.hid (hgm.out.trans hng); have E2 := Lib.hid (hs0.out hng)
      clear k1 k2 hng
      go_wp2_with fail
      go_returns
      exact ⟨by rw [E1.out, E2.out]; rfl, HB.out⟩
    replace k1 : wr.heap[w.heap.size + 1]? = some (.cells #[Value.int .i64 (rv (X 0) (Y 0) (Z 0) (cR m 5 0) 0), Value.int .i64 (rv (X 0) (Y 0) (Z 0) (cR m 5 0) 1), Value.int .i64 (rv (X 0) (Y 0) (Z 0) (cR m 5 0) 2), Value.int .i64 (rv (X 0) (Y 0) (Z 0) (cR m 5 0) 3), Value.int .i64 (X 1), Value.int .i64 (Y 1), Value.int .i64 (Z 1), Value.int .i64 1, Value.int .i64 0, Value.int .i64 0, Value.int .i64 0, Value.int .i64 0, Value.int .i64 0, Value.int .i64 0, Value.int .i64 0, Value.int .i64 0] 122 (0, 0)) := by rw [hc] at k1; exact k1
    by_cases hu : hV m 5 2 = 1
    case pos =>
      replace k2 : wr.heap[w.heap.size + 2]? = some (.cells #[Value.int .i64 (hV m 5 0 : Nat), Value.int .i64 (hV m 5 1 : Nat), Value.int .i64 1] 44 (0, 0)) := by rw [hu] at k2; exact k2
      have hng := mask_bad hm (r := 1) (k := 2) (by decide) (by decide) HG.out hb (.inr hu)
      obtain ⟨kq, kr⟩ := cellB k1
      obtain ⟨hq, hr⟩ := cellB k2
      have E1 := Lib.hid (hgm.out.trans hng); have E2 := Lib.hid (hs0.out hng)
      clear k1 k2 hng
      go_wp2_with fail
      go_returns
      exact ⟨by rw [E1.out, E2.out]; rfl, HB.out⟩
    replace k2 : wr.heap[w.heap.size + 2]? = some (.cells #[Value.int .i64 (hV m 5 0 : Nat), Value.int .i64 (hV m 5 1 : Nat), Value.int .i64 0] 44 (0, 0)) := by rw [show hV m 5 2 = 0 by have := hV_cases m 5 2; omega] at k2; exact k2
    obtain ⟨n1, n4, n2, n3⟩ := mask_yes hm (r := 1) (k := 2) (by decide) (by decide) HG.out hb hc hu
    have q1 : rowsA X Y Z m (3 * 1 + (2 + 1)) (1 + 1) = #[Value.int .i64 (rv (X 0) (Y 0) (Z 0) (cR m 5 0) 0), Value.int .i64 (rv (X 0) (Y 0) (Z 0) (cR m 5 0) 1), Value.int .i64 (rv (X 0) (Y 0) (Z 0) (cR m 5 0) 2), Value.int .i64 (rv (X 0) (Y 0) (Z 0) (cR m 5 0) 3), .int .i64 1, .int .i64 0, .int .i64 0, .int .i64 0, Value.int .i64 0, Value.int .i64 0, Value.int .i64 0, Value.int .i64 0, Value.int .i64 0, Value.int .i64 0, Value.int .i64 0, Value.int .i64 0] := by
      show #[Value.int .i64 (rv (X 0) (Y 0) (Z 0) (cR m 6 0) 0), Value.int .i64 (rv (X 0) (Y 0) (Z 0) (cR m 6 0) 1), Value.int .i64 (rv (X 0) (Y 0) (Z 0) (cR m 6 0) 2), Value.int .i64 (rv (X 0) (Y 0) (Z 0) (cR m 6 0) 3), Value.int .i64 (rv (X 1) (Y 1) (Z 1) (cR m 6 1) 0), Value.int .i64 (rv (X 1) (Y 1) (Z 1) (cR m 6 1) 1), Value.int .i64 (rv (X 1) (Y 1) (Z 1) (cR m 6 1) 2), Value.int .i64 (rv (X 1) (Y 1) (Z 1) (cR m 6 1) 3), Value.int .i64 0, Value.int .i64 0, Value.int .i64 0, Value.int .i64 0, Value.int .i64 0, Value.int .i64 0, Value.int .i64 0, Value.int .i64 0] = _
      rw [show cR m 6 0 = cR m 5 0 from n2 0 (by decide) (by decide), show cR m 6 1 = 4 from n4]; rfl
    have q2 : hasA m (3 * 1 + (2 + 1)) = #[.int .i64 (hV m 5 0 : Nat), .int .i64 (hV m 5 1 : Nat), .int .i64 1] := by
      show #[Value.int .i64 (hV m 6 0 : Nat), .int .i64 (hV m 6 1 : Nat), .int .i64 (hV m 6 2 : Nat)] = _
      rw [show hV m 6 0 = hV m 5 0 from n3 0 (by decide), show hV m 6 1 = hV m 5 1 from n3 1 (by decide), show hV m 6 2 = 1 from n3 2 (by decide)]; rfl
    have N1 := Lib.hid n1; have Q1 := Lib.hid q1; have Q2 := Lib.hid q2; have K1 := Lib.hid k1; have K2 := Lib.hid k2
    obtain ⟨kq, kr⟩ := cellB k1
    obtain ⟨hq, hr⟩ := cellB k2
    clear n1 n2 n3 n4 q1 q2 k1 k2
    go_wp2_with fail
    go_roundw
    case rel => exact ⟨2 + 1, by decide, by go_num, N1.out, (by rw [Q1.out]; refine (other_block (by simp)).trans (Eq.trans (set_own (set_own (set_own (set_own (set_own K1.out _) _) _) _) _) ?_); simp), (by rw [Q2.out]; refine Eq.trans (set_own ((other_block (by simp)).trans ((other_block (by simp)).trans ((other_block (by simp)).trans ((other_block (by simp)).trans ((other_block (by simp)).trans K2.out))))) _) ?_; simp), (by have := HB.out; refine Lib.hid ?_; go_grown), (by have := HZ.out; refine Lib.hid ?_; simpa using this)⟩
    case measure => simp [intOf]
  have k1 : wr.heap[w.heap.size + 1]? = some (.cells #[Value.int .i64 (rv (X 0) (Y 0) (Z 0) (cR m 6 0) 0), Value.int .i64 (rv (X 0) (Y 0) (Z 0) (cR m 6 0) 1), Value.int .i64 (rv (X 0) (Y 0) (Z 0) (cR m 6 0) 2), Value.int .i64 (rv (X 0) (Y 0) (Z 0) (cR m 6 0) 3), Value.int .i64 (rv (X 1) (Y 1) (Z 1) (cR m 6 1) 0), Value.int .i64 (rv (X 1) (Y 1) (Z 1) (cR m 6 1) 1), Value.int .i64 (rv (X 1) (Y 1) (Z 1) (cR m 6 1) 2), Value.int .i64 (rv (X 1) (Y 1) (Z 1) (cR m 6 1) 3), Value.int .i64 0, Value.int .i64 0, Value.int .i64 0, Value.int .i64 0, Value.int .i64 0, Value.int .i64 0, Value.int .i64 0, Value.int .i64 0] 122 (0, 0)) := H1.out
  have k2 : wr.heap[w.heap.size + 2]? = some (.cells (hasA m (3 * 2 + 0)) 44 (0, 0)) := H2.out
  have K1 := Lib.hid k1; have K2 := Lib.hid k2
  replace HG : Hid (good m (3 * 2 + 0) = true) := HG.out
  have hz0 := HZ.out
  have hz1 : w.heap.size + 1 < wr.heap.size := by omega
  obtain ⟨kq, kr⟩ := cellB k1
  clear H1 H2 k1 k2
  go_wp2_with fail
  rw [rounds_succ]
  go_wp2_with fail
  first | refine wp_named ?_ | refine calls_named ?_
  intro W hW
  have k1 : W.heap[w.heap.size + 1]? = some (.cells (rowsA X Y Z m (3 * 2 + 0) (2 + 1)) 122 (0, 0)) := by
    have e : rowsA X Y Z m (3 * 2 + 0) (2 + 1) = #[Value.int .i64 (rv (X 0) (Y 0) (Z 0) (cR m 6 0) 0), Value.int .i64 (rv (X 0) (Y 0) (Z 0) (cR m 6 0) 1), Value.int .i64 (rv (X 0) (Y 0) (Z 0) (cR m 6 0) 2), Value.int .i64 (rv (X 0) (Y 0) (Z 0) (cR m 6 0) 3), Value.int .i64 (rv (X 1) (Y 1) (Z 1) (cR m 6 1) 0), Value.int .i64 (rv (X 1) (Y 1) (Z 1) (cR m 6 1) 1), Value.int .i64 (rv (X 1) (Y 1) (Z 1) (cR m 6 1) 2), Value.int .i64 (rv (X 1) (Y 1) (Z 1) (cR m 6 1) 3), Value.int .i64 (X 2), Value.int .i64 (Y 2), Value.int .i64 (Z 2), Value.int .i64 1, Value.int .i64 0, Value.int .i64 0, Value.int .i64 0, Value.int .i64 0] := by
      show #[Value.int .i64 (rv (X 0) (Y 0) (Z 0) (cR m 6 0) 0), Value.int .i64 (rv (X 0) (Y 0) (Z 0) (cR m 6 0) 1), Value.int .i64 (rv (X 0) (Y 0) (Z 0) (cR m 6 0) 2), Value.int .i64 (rv (X 0) (Y 0) (Z 0) (cR m 6 0) 3), Value.int .i64 (rv (X 1) (Y 1) (Z 1) (cR m 6 1) 0), Value.int .i64 (rv (X 1) (Y 1) (Z 1) (cR m 6 1) 1), Value.int .i64 (rv (X 1) (Y 1) (Z 1) (cR m 6 1) 2), Value.int .i64 (rv (X 1) (Y 1) (Z 1) (cR m 6 1) 3), Value.int .i64 (rv (X 2) (Y 2) (Z 2) (cR m 6 2) 0), Value.int .i64 (rv (X 2) (Y 2) (Z 2) (cR m 6 2) 1), Value.int .i64 (rv (X 2) (Y 2) (Z 2) (cR m 6 2) 2), Value.int .i64 (rv (X 2) (Y 2) (Z 2) (cR m 6 2) 3), Value.int .i64 0, Value.int .i64 0, Value.int .i64 0, Value.int .i64 0] = _
      rw [code0 (m := m) (j := 6) (s := 2) (by decide)]; rfl
    rw [hW, e]; refine (heap_old (by simp; omega)).trans (Eq.trans (set_own (set_own (set_own (set_own K1.out _) _) _) _) ?_); simp
  have k2 : W.heap[w.heap.size + 2]? = some (.cells (hasA m (3 * 2 + 0)) 44 (0, 0)) := by rw [hW]; exact (heap_old (by simp; omega)).trans ((other_block (by simp)).trans ((other_block (by simp)).trans ((other_block (by simp)).trans ((other_block (by simp)).trans K2.out))))
  have hB : Below w.heap.size w W := by rw [hW]; have := HB.out; go_grown
  have hz : w.heap.size + 3 ≤ W.heap.size := by rw [hW]; simp; omega
  clear hW HB HZ K1 K2 hz0 hz1 kq kr
  obtain ⟨S2, rfl⟩ : ∃ S, S = wr := ⟨_, rfl⟩
  go_loopw [30] (fun u wx => ∃ k : Nat, k ≤ 3 ∧ u = .int .i64 k ∧ Hid (good m (3 * 2 + k) = true) ∧ Hid (wx.heap[w.heap.size + 1]? = some (.cells (rowsA X Y Z m (3 * 2 + k) (2 + 1)) 122 (0, 0))) ∧ Hid (wx.heap[w.heap.size + 2]? = some (.cells (hasA m (3 * 2 + k)) 44 (0, 0))) ∧ Hid (Below w.heap.size w wx) ∧ Hid (w.heap.size + 3 ≤ wx.heap.size))
    (fun u _ => 3 - (intOf u).toNat)
  case atStart => exact ⟨0, by decide, rfl, HG, k1, k2, hB, hz⟩
  clear k1 k2 hB hz HG
  obtain ⟨k, hk, rfl, HG, H1, H2, HB, HZ⟩ := hrel
  have hk3 : k = 0 ∨ k = 1 ∨ k = 2 ∨ k = 3 := by omega
  clear hk
  rcases hk3 with rfl | rfl | rfl | rfl
  · have k1 : wr.heap[w.heap.size + 1]? = some (.cells #[Value.int .i64 (rv (X 0) (Y 0) (Z 0) (cR m 6 0) 0), Value.int .i64 (rv (X 0) (Y 0) (Z 0) (cR m 6 0) 1), Value.int .i64 (rv (X 0) (Y 0) (Z 0) (cR m 6 0) 2), Value.int .i64 (rv (X 0) (Y 0) (Z 0) (cR m 6 0) 3), Value.int .i64 (rv (X 1) (Y 1) (Z 1) (cR m 6 1) 0), Value.int .i64 (rv (X 1) (Y 1) (Z 1) (cR m 6 1) 1), Value.int .i64 (rv (X 1) (Y 1) (Z 1) (cR m 6 1) 2), Value.int .i64 (rv (X 1) (Y 1) (Z 1) (cR m 6 1) 3), Value.int .i64 (rv (X 2) (Y 2) (Z 2) (cR m 6 2) 0), Value.int .i64 (rv (X 2) (Y 2) (Z 2) (cR m 6 2) 1), Value.int .i64 (rv (X 2) (Y 2) (Z 2) (cR m 6 2) 2), Value.int .i64 (rv (X 2) (Y 2) (Z 2) (cR m 6 2) 3), Value.int .i64 0, Value.int .i64 0, Value.int .i64 0, Value.int .i64 0] 122 (0, 0)) := H1.out
    have k2 : wr.heap[w.heap.size + 2]? = some (.cells #[Value.int .i64 (hV m 6 0 : Nat), .int .i64 (hV m 6 1 : Nat), .int .i64 (hV m 6 2 : Nat)] 44 (0, 0)) := H2.out
    have hz := HZ.out
    clear H1 H2
    by_cases hb : m / 2 ^ (3 * 2 + 0) % 2 = 1
    case neg =>
      have hb' := bit_of (d := 64) hm ((m : Int) / 64) (by omega) false (by simpa using hb)
      obtain ⟨n1, n2, n3⟩ := mask_no hm (r := 2) (k := 0) (by decide) (by decide) HG.out hb
      have q1 : rowsA X Y Z m (3 * 2 + (0 + 1)) (2 + 1) = #[Value.int .i64 (rv (X 0) (Y 0) (Z 0) (cR m 6 0) 0), Value.int .i64 (rv (X 0) (Y 0) (Z 0) (cR m 6 0) 1), Value.int .i64 (rv (X 0) (Y 0) (Z 0) (cR m 6 0) 2), Value.int .i64 (rv (X 0) (Y 0) (Z 0) (cR m 6 0) 3), Value.int .i64 (rv (X 1) (Y 1) (Z 1) (cR m 6 1) 0), Value.int .i64 (rv (X 1) (Y 1) (Z 1) (cR m 6 1) 1), Value.int .i64 (rv (X 1) (Y 1) (Z 1) (cR m 6 1) 2), Value.int .i64 (rv (X 1) (Y 1) (Z 1) (cR m 6 1) 3), Value.int .i64 (rv (X 2) (Y 2) (Z 2) (cR m 6 2) 0), Value.int .i64 (rv (X 2) (Y 2) (Z 2) (cR m 6 2) 1), Value.int .i64 (rv (X 2) (Y 2) (Z 2) (cR m 6 2) 2), Value.int .i64 (rv (X 2) (Y 2) (Z 2) (cR m 6 2) 3), Value.int .i64 0, Value.int .i64 0, Value.int .i64 0, Value.int .i64 0] := by
        show #[Value.int .i64 (rv (X 0) (Y 0) (Z 0) (cR m 7 0) 0), Value.int .i64 (rv (X 0) (Y 0) (Z 0) (cR m 7 0) 1), Value.int .i64 (rv (X 0) (Y 0) (Z 0) (cR m 7 0) 2), Value.int .i64 (rv (X 0) (Y 0) (Z 0) (cR m 7 0) 3), Value.int .i64 (rv (X 1) (Y 1) (Z 1) (cR m 7 1) 0), Value.int .i64 (rv (X 1) (Y 1) (Z 1) (cR m 7 1) 1), Value.int .i64 (rv (X 1) (Y 1) (Z 1) (cR m 7 1) 2), Value.int .i64 (rv (X 1) (Y 1) (Z 1) (cR m 7 1) 3), Value.int .i64 (rv (X 2) (Y 2) (Z 2) (cR m 7 2) 0), Value.int .i64 (rv (X 2) (Y 2) (Z 2) (cR m 7 2) 1), Value.int .i64 (rv (X 2) (Y 2) (Z 2) (cR m 7 2) 2), Value.int .i64 (rv (X 2) (Y 2) (Z 2) (cR m 7 2) 3), Value.int .i64 0, Value.int .i64 0, Value.int .i64 0, Value.int .i64 0] = _
        rw [show cR m 7 0 = cR m 6 0 from n2 0 (by decide), show cR m 7 1 = cR m 6 1 from n2 1 (by decide), show cR m 7 2 = cR m 6 2 from n2 2 (by decide)]
      have q2 : hasA m (3 * 2 + (0 + 1)) = #[Value.int .i64 (hV m 6 0 : Nat), .int .i64 (hV m 6 1 : Nat), .int .i64 (hV m 6 2 : Nat)] := by
        show #[Value.int .i64 (hV m 7 0 : Nat), .int .i64 (hV m 7 1 : Nat), .int .i64 (hV m 7 2 : Nat)] = _
        rw [show hV m 7 0 = hV m 6 0 from n3 0 (by decide), show hV m 7 1 = hV m 6 1 from n3 1 (by decide), show hV m 7 2 = hV m 6 2 from n3 2 (by decide)]
      have N1 := Lib.hid n1; have Q1 := Lib.hid q1; have Q2 := Lib.hid q2; have K1 := Lib.hid k1; have K2 := Lib.hid k2
      clear n1 n2 n3 q1 q2 k1 k2
      go_wp2_with fail
      go_roundw
      case rel => exact ⟨0 + 1, by decide, by go_num, N1.out, (by rw [Q1.out]; exact K1.out), (by rw [Q2.out]; exact K2.out), HB, HZ⟩
      case measure => simp [intOf]
    have hb' := bit_of (d := 64) hm ((m : Int) / 64) (by omega) true (by simpa using hb)
    by_cases hc : cR m 6 2 = 0
    case neg =>
      rw [rv3n (x := X 2) (y := Y 2) (z := Z 2) hc] at k1
      have hng := mask_bad hm (r := 2) (k := 0) (by decide) (by decide) HG.out hb (.inl hc)
      obtain ⟨kq, kr⟩ := cellB k1
      obtain ⟨hq, hr⟩ := cellB k2
      have E1 := Lib.hid (hgm.out.trans hng); have E2 := Lib.hid (hs0.out hng)
      clear k1 k2 hng
      go_wp2_with fail
      go_returns
      exact ⟨by rw [E1.out, E2.out]; rfl, HB.out⟩
    replace k1 : wr.heap[w.heap.size + 1]? = some (.cells #[Value.int .i64 (rv (X 0) (Y 0) (Z 0) (cR m 6 0) 0), Value.int .i64 (rv (X 0) (Y 0) (Z 0) (cR m 6 0) 1), Value.int .i64 (rv (X 0) (Y 0) (Z 0) (cR m 6 0) 2), Value.int .i64 (rv (X 0) (Y 0) (Z 0) (cR m 6 0) 3), Value.int .i64 (rv (X 1) (Y 1) (Z 1) (cR m 6 1) 0), Value.int .i64 (rv (X 1) (Y 1) (Z 1) (cR m 6 1) 1), Value.int .i64 (rv (X 1) (Y 1) (Z 1) (cR m 6 1) 2), Value.int .i64 (rv (X 1) (Y 1) (Z 1) (cR m 6 1) 3), Value.int .i64 (X 2), Value.int .i64 (Y 2), Value.int .i64 (Z 2), Value.int .i64 1, Value.int .i64 0, Value.int .i64 0, Value.int .i64 0, Value.int .i64 0] 122 (0, 0)) := by rw [hc] at k1; exact k1
    by_cases hu : hV m 6 0 = 1
    case pos =>
      replace k2 : wr.heap[w.heap.size + 2]? = some (.cells #[Value.int .i64 1, Value.int .i64 (hV m 6 1 : Nat), Value.int .i64 (hV m 6 2 : Nat)] 44 (0, 0)) := by rw [hu] at k2; exact k2
      have hng := mask_bad hm (r := 2) (k := 0) (by decide) (by decide) HG.out hb (.inr hu)
      obtain ⟨kq, kr⟩ := cellB k1
      obtain ⟨hq, hr⟩ := cellB k2
      have E1 := Lib.hid (hgm.out.trans hng); have E2 := Lib.hid (hs0.out hng)
      clear k1 k2 hng
      go_wp2_with fail
      go_returns
      exact ⟨by rw [E1.out, E2.out]; rfl, HB.out⟩
    replace k2 : wr.heap[w.heap.size + 2]? = some (.cells #[Value.int .i64 0, Value.int .i64 (hV m 6 1 : Nat), Value.int .i64 (hV m 6 2 : Nat)] 44 (0, 0)) := by rw [show hV m 6 0 = 0 by have := hV_cases m 6 0; omega] at k2; exact k2
    obtain ⟨n1, n4, n2, n3⟩ := mask_yes hm (r := 2) (k := 0) (by decide) (by decide) HG.out hb hc hu
    have q1 : rowsA X Y Z m (3 * 2 + (0 + 1)) (2 + 1) = #[Value.int .i64 (rv (X 0) (Y 0) (Z 0) (cR m 6 0) 0), Value.int .i64 (rv (X 0) (Y 0) (Z 0) (cR m 6 0) 1), Value.int .i64 (rv (X 0) (Y 0) (Z 0) (cR m 6 0) 2), Value.int .i64 (rv (X 0) (Y 0) (Z 0) (cR m 6 0) 3), Value.int .i64 (rv (X 1) (Y 1) (Z 1) (cR m 6 1) 0), Value.int .i64 (rv (X 1) (Y 1) (Z 1) (cR m 6 1) 1), Value.int .i64 (rv (X 1) (Y 1) (Z 1) (cR m 6 1) 2), Value.int .i64 (rv (X 1) (Y 1) (Z 1) (cR m 6 1) 3), .int .i64 0, .int .i64 0, .int .i64 1, .int .i64 0, Value.int .i64 0, Value.int .i64 0, Value.int .i64 0, Value.int .i64 0] := by
      show #[Value.int .i64 (rv (X 0) (Y 0) (Z 0) (cR m 7 0) 0), Value.int .i64 (rv (X 0) (Y 0) (Z 0) (cR m 7 0) 1), Value.int .i64 (rv (X 0) (Y 0) (Z 0) (cR m 7 0) 2), Value.int .i64 (rv (X 0) (Y 0) (Z 0) (cR m 7 0) 3), Value.int .i64 (rv (X 1) (Y 1) (Z 1) (cR m 7 1) 0), Value.int .i64 (rv (X 1) (Y 1) (Z 1) (cR m 7 1) 1), Value.int .i64 (rv (X 1) (Y 1) (Z 1) (cR m 7 1) 2), Value.int .i64 (rv (X 1) (Y 1) (Z 1) (cR m 7 1) 3), Value.int .i64 (rv (X 2) (Y 2) (Z 2) (cR m 7 2) 0), Value.int .i64 (rv (X 2) (Y 2) (Z 2) (cR m 7 2) 1), Value.int .i64 (rv (X 2) (Y 2) (Z 2) (cR m 7 2) 2), Value.int .i64 (rv (X 2) (Y 2) (Z 2) (cR m 7 2) 3), Value.int .i64 0, Value.int .i64 0, Value.int .i64 0, Value.int .i64 0] = _
      rw [show cR m 7 0 = cR m 6 0 from n2 0 (by decide) (by decide), show cR m 7 1 = cR m 6 1 from n2 1 (by decide) (by decide), show cR m 7 2 = 1 from n4]; rfl
    have q2 : hasA m (3 * 2 + (0 + 1)) = #[.int .i64 1, .int .i64 (hV m 6 1 : Nat), .int .i64 (hV m 6 2 : Nat)] := by
      show #[Value.int .i64 (hV m 7 0 : Nat), .int .i64 (hV m 7 1 : Nat), .int .i64 (hV m 7 2 : Nat)] = _
      rw [show hV m 7 0 = 1 from n3 0 (by decide), show hV m 7 1 = hV m 6 1 from n3 1 (by decide), show hV m 7 2 = hV m 6 2 from n3 2 (by decide)]; rfl
    have N1 := Lib.hid n1; have Q1 := Lib.hid q1; have Q2 := Lib.hid q2; have K1 := Lib.hid k1; have K2 := Lib.hid k2
    obtain ⟨kq, kr⟩ := cellB k1
    obtain ⟨hq, hr⟩ := cellB k2
    clear n1 n2 n3 n4 q1 q2 k1 k2
    go_wp2_with fail
    go_roundw
    case rel => exact ⟨0 + 1, by decide, by go_num, N1.out, (by rw [Q1.out]; refine (other_block (by simp)).trans (Eq.trans (set_own (set_own (set_own (set_own (set_own K1.out _) _) _) _) _) ?_); simp), (by rw [Q2.out]; refine Eq.trans (set_own ((other_block (by simp)).trans ((other_block (by simp)).trans ((other_block (by simp)).trans ((other_block (by simp)).trans ((other_block (by simp)).trans K2.out))))) _) ?_; simp), (by have := HB.out; refine Lib.hid ?_; go_grown), (by have := HZ.out; refine Lib.hid ?_; simpa using this)⟩
    case measure => simp [intOf]
  · have k1 : wr.heap[w.heap.size + 1]? = some (.cells #[Value.int .i64 (rv (X 0) (Y 0) (Z 0) (cR m 7 0) 0), Value.int .i64 (rv (X 0) (Y 0) (Z 0) (cR m 7 0) 1), Value.int .i64 (rv (X 0) (Y 0) (Z 0) (cR m 7 0) 2), Value.int .i64 (rv (X 0) (Y 0) (Z 0) (cR m 7 0) 3), Value.int .i64 (rv (X 1) (Y 1) (Z 1) (cR m 7 1) 0), Value.int .i64 (rv (X 1) (Y 1) (Z 1) (cR m 7 1) 1), Value.int .i64 (rv (X 1) (Y 1) (Z 1) (cR m 7 1) 2), Value.int .i64 (rv (X 1) (Y 1) (Z 1) (cR m 7 1) 3), Value.int .i64 (rv (X 2) (Y 2) (Z 2) (cR m 7 2) 0), Value.int .i64 (rv (X 2) (Y 2) (Z 2) (cR m 7 2) 1), Value.int .i64 (rv (X 2) (Y 2) (Z 2) (cR m 7 2) 2), Value.int .i64 (rv (X 2) (Y 2) (Z 2) (cR m 7 2) 3), Value.int .i64 0, Value.int .i64 0, Value.int .i64 0, Value.int .i64 0] 122 (0, 0)) := H1.out
    have k2 : wr.heap[w.heap.size + 2]? = some (.cells #[Value.int .i64 (hV m 7 0 : Nat), .int .i64 (hV m 7 1 : Nat), .int .i64 (hV m 7 2 : Nat)] 44 (0, 0)) := H2.out
    have hz := HZ.out
    clear H1 H2
    have hb : ¬ m / 2 ^ (3 * 2 + 1) % 2 = 1 := by rw [Nat.div_eq_of_lt (show m < 2 ^ (3 * 2 + 1) by omega)]; decide
    have hb' := bit_of (d := 128) hm ((m : Int) / 128) (by omega) false (by simpa using hb)
    obtain ⟨n1, n2, n3⟩ := mask_no hm (r := 2) (k := 1) (by decide) (by decide) HG.out hb
    have q1 : rowsA X Y Z m (3 * 2 + (1 + 1)) (2 + 1) = #[Value.int .i64 (rv (X 0) (Y 0) (Z 0) (cR m 7 0) 0), Value.int .i64 (rv (X 0) (Y 0) (Z 0) (cR m 7 0) 1), Value.int .i64 (rv (X 0) (Y 0) (Z 0) (cR m 7 0) 2), Value.int .i64 (rv (X 0) (Y 0) (Z 0) (cR m 7 0) 3), Value.int .i64 (rv (X 1) (Y 1) (Z 1) (cR m 7 1) 0), Value.int .i64 (rv (X 1) (Y 1) (Z 1) (cR m 7 1) 1), Value.int .i64 (rv (X 1) (Y 1) (Z 1) (cR m 7 1) 2), Value.int .i64 (rv (X 1) (Y 1) (Z 1) (cR m 7 1) 3), Value.int .i64 (rv (X 2) (Y 2) (Z 2) (cR m 7 2) 0), Value.int .i64 (rv (X 2) (Y 2) (Z 2) (cR m 7 2) 1), Value.int .i64 (rv (X 2) (Y 2) (Z 2) (cR m 7 2) 2), Value.int .i64 (rv (X 2) (Y 2) (Z 2) (cR m 7 2) 3), Value.int .i64 0, Value.int .i64 0, Value.int .i64 0, Value.int .i64 0] := by
      show #[Value.int .i64 (rv (X 0) (Y 0) (Z 0) (cR m 8 0) 0), Value.int .i64 (rv (X 0) (Y 0) (Z 0) (cR m 8 0) 1), Value.int .i64 (rv (X 0) (Y 0) (Z 0) (cR m 8 0) 2), Value.int .i64 (rv (X 0) (Y 0) (Z 0) (cR m 8 0) 3), Value.int .i64 (rv (X 1) (Y 1) (Z 1) (cR m 8 1) 0), Value.int .i64 (rv (X 1) (Y 1) (Z 1) (cR m 8 1) 1), Value.int .i64 (rv (X 1) (Y 1) (Z 1) (cR m 8 1) 2), Value.int .i64 (rv (X 1) (Y 1) (Z 1) (cR m 8 1) 3), Value.int .i64 (rv (X 2) (Y 2) (Z 2) (cR m 8 2) 0), Value.int .i64 (rv (X 2) (Y 2) (Z 2) (cR m 8 2) 1), Value.int .i64 (rv (X 2) (Y 2) (Z 2) (cR m 8 2) 2), Value.int .i64 (rv (X 2) (Y 2) (Z 2) (cR m 8 2) 3), Value.int .i64 0, Value.int .i64 0, Value.int .i64 0, Value.int .i64 0] = _
      rw [show cR m 8 0 = cR m 7 0 from n2 0 (by decide), show cR m 8 1 = cR m 7 1 from n2 1 (by decide), show cR m 8 2 = cR m 7 2 from n2 2 (by decide)]
    have q2 : hasA m (3 * 2 + (1 + 1)) = #[Value.int .i64 (hV m 7 0 : Nat), .int .i64 (hV m 7 1 : Nat), .int .i64 (hV m 7 2 : Nat)] := by
      show #[Value.int .i64 (hV m 8 0 : Nat), .int .i64 (hV m 8 1 : Nat), .int .i64 (hV m 8 2 : Nat)] = _
      rw [show hV m 8 0 = hV m 7 0 from n3 0 (by decide), show hV m 8 1 = hV m 7 1 from n3 1 (by decide), show hV m 8 2 = hV m 7 2 from n3 2 (by decide)]
    have N1 := Lib.hid n1; have Q1 := Lib.hid q1; have Q2 := Lib.hid q2; have K1 := Lib.hid k1; have K2 := Lib.hid k2
    clear n1 n2 n3 q1 q2 k1 k2
    go_wp2_with fail
    go_roundw
    case rel => exact ⟨1 + 1, by decide, by go_num, N1.out, (by rw [Q1.out]; exact K1.out), (by rw [Q2.out]; exact K2.out), HB, HZ⟩
    case measure => simp [intOf]
  · have k1 : wr.heap[w.heap.size + 1]? = some (.cells #[Value.int .i64 (rv (X 0) (Y 0) (Z 0) (cR m 8 0) 0), Value.int .i64 (rv (X 0) (Y 0) (Z 0) (cR m 8 0) 1), Value.int .i64 (rv (X 0) (Y 0) (Z 0) (cR m 8 0) 2), Value.int .i64 (rv (X 0) (Y 0) (Z 0) (cR m 8 0) 3), Value.int .i64 (rv (X 1) (Y 1) (Z 1) (cR m 8 1) 0), Value.int .i64 (rv (X 1) (Y 1) (Z 1) (cR m 8 1) 1), Value.int .i64 (rv (X 1) (Y 1) (Z 1) (cR m 8 1) 2), Value.int .i64 (rv (X 1) (Y 1) (Z 1) (cR m 8 1) 3), Value.int .i64 (rv (X 2) (Y 2) (Z 2) (cR m 8 2) 0), Value.int .i64 (rv (X 2) (Y 2) (Z 2) (cR m 8 2) 1), Value.int .i64 (rv (X 2) (Y 2) (Z 2) (cR m 8 2) 2), Value.int .i64 (rv (X 2) (Y 2) (Z 2) (cR m 8 2) 3), Value.int .i64 0, Value.int .i64 0, Value.int .i64 0, Value.int .i64 0] 122 (0, 0)) := H1.out
    have k2 : wr.heap[w.heap.size + 2]? = some (.cells #[Value.int .i64 (hV m 8 0 : Nat), .int .i64 (hV m 8 1 : Nat), .int .i64 (hV m 8 2 : Nat)] 44 (0, 0)) := H2.out
    have hz := HZ.out
    clear H1 H2
    have hb : ¬ m / 2 ^ (3 * 2 + 2) % 2 = 1 := by rw [Nat.div_eq_of_lt (show m < 2 ^ (3 * 2 + 2) by omega)]; decide
    have hb' := bit_of (d := 256) hm ((m : Int) / 256) (by omega) false (by simpa using hb)
    obtain ⟨n1, n2, n3⟩ := mask_no hm (r := 2) (k := 2) (by decide) (by decide) HG.out hb
    have q1 : rowsA X Y Z m (3 * 2 + (2 + 1)) (2 + 1) = #[Value.int .i64 (rv (X 0) (Y 0) (Z 0) (cR m 8 0) 0), Value.int .i64 (rv (X 0) (Y 0) (Z 0) (cR m 8 0) 1), Value.int .i64 (rv (X 0) (Y 0) (Z 0) (cR m 8 0) 2), Value.int .i64 (rv (X 0) (Y 0) (Z 0) (cR m 8 0) 3), Value.int .i64 (rv (X 1) (Y 1) (Z 1) (cR m 8 1) 0), Value.int .i64 (rv (X 1) (Y 1) (Z 1) (cR m 8 1) 1), Value.int .i64 (rv (X 1) (Y 1) (Z 1) (cR m 8 1) 2), Value.int .i64 (rv (X 1) (Y 1) (Z 1) (cR m 8 1) 3), Value.int .i64 (rv (X 2) (Y 2) (Z 2) (cR m 8 2) 0), Value.int .i64 (rv (X 2) (Y 2) (Z 2) (cR m 8 2) 1), Value.int .i64 (rv (X 2) (Y 2) (Z 2) (cR m 8 2) 2), Value.int .i64 (rv (X 2) (Y 2) (Z 2) (cR m 8 2) 3), Value.int .i64 0, Value.int .i64 0, Value.int .i64 0, Value.int .i64 0] := by
      show #[Value.int .i64 (rv (X 0) (Y 0) (Z 0) (cR m 9 0) 0), Value.int .i64 (rv (X 0) (Y 0) (Z 0) (cR m 9 0) 1), Value.int .i64 (rv (X 0) (Y 0) (Z 0) (cR m 9 0) 2), Value.int .i64 (rv (X 0) (Y 0) (Z 0) (cR m 9 0) 3), Value.int .i64 (rv (X 1) (Y 1) (Z 1) (cR m 9 1) 0), Value.int .i64 (rv (X 1) (Y 1) (Z 1) (cR m 9 1) 1), Value.int .i64 (rv (X 1) (Y 1) (Z 1) (cR m 9 1) 2), Value.int .i64 (rv (X 1) (Y 1) (Z 1) (cR m 9 1) 3), Value.int .i64 (rv (X 2) (Y 2) (Z 2) (cR m 9 2) 0), Value.int .i64 (rv (X 2) (Y 2) (Z 2) (cR m 9 2) 1), Value.int .i64 (rv (X 2) (Y 2) (Z 2) (cR m 9 2) 2), Value.int .i64 (rv (X 2) (Y 2) (Z 2) (cR m 9 2) 3), Value.int .i64 0, Value.int .i64 0, Value.int .i64 0, Value.int .i64 0] = _
      rw [show cR m 9 0 = cR m 8 0 from n2 0 (by decide), show cR m 9 1 = cR m 8 1 from n2 1 (by decide), show cR m 9 2 = cR m 8 2 from n2 2 (by decide)]
    have q2 : hasA m (3 * 2 + (2 + 1)) = #[Value.int .i64 (hV m 8 0 : Nat), .int .i64 (hV m 8 1 : Nat), .int .i64 (hV m 8 2 : Nat)] := by
      show #[Value.int .i64 (hV m 9 0 : Nat), .int .i64 (hV m 9 1 : Nat), .int .i64 (hV m 9 2 : Nat)] = _
      rw [show hV m 9 0 = hV m 8 0 from n3 0 (by decide), show hV m 9 1 = hV m 8 1 from n3 1 (by decide), show hV m 9 2 = hV m 8 2 from n3 2 (by decide)]
    have N1 := Lib.hid n1; have Q1 := Lib.hid q1; have Q2 := Lib.hid q2; have K1 := Lib.hid k1; have K2 := Lib.hid k2
    clear n1 n2 n3 q1 q2 k1 k2
    go_wp2_with fail
    go_roundw
    case rel => exact ⟨2 + 1, by decide, by go_num, N1.out, (by rw [Q1.out]; exact K1.out), (by rw [Q2.out]; exact K2.out), HB, HZ⟩
    case measure => simp [intOf]
  have k1 : wr.heap[w.heap.size + 1]? = some (.cells #[Value.int .i64 (rv (X 0) (Y 0) (Z 0) (cR m 9 0) 0), Value.int .i64 (rv (X 0) (Y 0) (Z 0) (cR m 9 0) 1), Value.int .i64 (rv (X 0) (Y 0) (Z 0) (cR m 9 0) 2), Value.int .i64 (rv (X 0) (Y 0) (Z 0) (cR m 9 0) 3), Value.int .i64 (rv (X 1) (Y 1) (Z 1) (cR m 9 1) 0), Value.int .i64 (rv (X 1) (Y 1) (Z 1) (cR m 9 1) 1), Value.int .i64 (rv (X 1) (Y 1) (Z 1) (cR m 9 1) 2), Value.int .i64 (rv (X 1) (Y 1) (Z 1) (cR m 9 1) 3), Value.int .i64 (rv (X 2) (Y 2) (Z 2) (cR m 9 2) 0), Value.int .i64 (rv (X 2) (Y 2) (Z 2) (cR m 9 2) 1), Value.int .i64 (rv (X 2) (Y 2) (Z 2) (cR m 9 2) 2), Value.int .i64 (rv (X 2) (Y 2) (Z 2) (cR m 9 2) 3), Value.int .i64 0, Value.int .i64 0, Value.int .i64 0, Value.int .i64 0] 122 (0, 0)) := H1.out
  have k2 : wr.heap[w.heap.size + 2]? = some (.cells (hasA m (3 * 3 + 0)) 44 (0, 0)) := H2.out
  have K1 := Lib.hid k1; have K2 := Lib.hid k2
  replace HG : Hid (good m (3 * 3 + 0) = true) := HG.out
  have hz0 := HZ.out
  have hz1 : w.heap.size + 1 < wr.heap.size := by omega
  obtain ⟨kq, kr⟩ := cellB k1
  clear H1 H2 k1 k2
  go_wp2_with fail
  rw [rounds_succ]
  go_wp2_with fail
  first | refine wp_named ?_ | refine calls_named ?_
  intro W hW
  have k1 : W.heap[w.heap.size + 1]? = some (.cells (rowsA X Y Z m (3 * 3 + 0) (3 + 1)) 122 (0, 0)) := by
    have e : rowsA X Y Z m (3 * 3 + 0) (3 + 1) = #[Value.int .i64 (rv (X 0) (Y 0) (Z 0) (cR m 9 0) 0), Value.int .i64 (rv (X 0) (Y 0) (Z 0) (cR m 9 0) 1), Value.int .i64 (rv (X 0) (Y 0) (Z 0) (cR m 9 0) 2), Value.int .i64 (rv (X 0) (Y 0) (Z 0) (cR m 9 0) 3), Value.int .i64 (rv (X 1) (Y 1) (Z 1) (cR m 9 1) 0), Value.int .i64 (rv (X 1) (Y 1) (Z 1) (cR m 9 1) 1), Value.int .i64 (rv (X 1) (Y 1) (Z 1) (cR m 9 1) 2), Value.int .i64 (rv (X 1) (Y 1) (Z 1) (cR m 9 1) 3), Value.int .i64 (rv (X 2) (Y 2) (Z 2) (cR m 9 2) 0), Value.int .i64 (rv (X 2) (Y 2) (Z 2) (cR m 9 2) 1), Value.int .i64 (rv (X 2) (Y 2) (Z 2) (cR m 9 2) 2), Value.int .i64 (rv (X 2) (Y 2) (Z 2) (cR m 9 2) 3), Value.int .i64 (X 3), Value.int .i64 (Y 3), Value.int .i64 (Z 3), Value.int .i64 1] := by
      show #[Value.int .i64 (rv (X 0) (Y 0) (Z 0) (cR m 9 0) 0), Value.int .i64 (rv (X 0) (Y 0) (Z 0) (cR m 9 0) 1), Value.int .i64 (rv (X 0) (Y 0) (Z 0) (cR m 9 0) 2), Value.int .i64 (rv (X 0) (Y 0) (Z 0) (cR m 9 0) 3), Value.int .i64 (rv (X 1) (Y 1) (Z 1) (cR m 9 1) 0), Value.int .i64 (rv (X 1) (Y 1) (Z 1) (cR m 9 1) 1), Value.int .i64 (rv (X 1) (Y 1) (Z 1) (cR m 9 1) 2), Value.int .i64 (rv (X 1) (Y 1) (Z 1) (cR m 9 1) 3), Value.int .i64 (rv (X 2) (Y 2) (Z 2) (cR m 9 2) 0), Value.int .i64 (rv (X 2) (Y 2) (Z 2) (cR m 9 2) 1), Value.int .i64 (rv (X 2) (Y 2) (Z 2) (cR m 9 2) 2), Value.int .i64 (rv (X 2) (Y 2) (Z 2) (cR m 9 2) 3), Value.int .i64 (rv (X 3) (Y 3) (Z 3) (cR m 9 3) 0), Value.int .i64 (rv (X 3) (Y 3) (Z 3) (cR m 9 3) 1), Value.int .i64 (rv (X 3) (Y 3) (Z 3) (cR m 9 3) 2), Value.int .i64 (rv (X 3) (Y 3) (Z 3) (cR m 9 3) 3)] = _
      rw [code0 (m := m) (j := 9) (s := 3) (by decide)]; rfl
    rw [hW, e]; refine (heap_old (by simp; omega)).trans (Eq.trans (set_own (set_own (set_own (set_own K1.out _) _) _) _) ?_); simp
  have k2 : W.heap[w.heap.size + 2]? = some (.cells (hasA m (3 * 3 + 0)) 44 (0, 0)) := by rw [hW]; exact (heap_old (by simp; omega)).trans ((other_block (by simp)).trans ((other_block (by simp)).trans ((other_block (by simp)).trans ((other_block (by simp)).trans K2.out))))
  have hB : Below w.heap.size w W := by rw [hW]; have := HB.out; go_grown
  have hz : w.heap.size + 3 ≤ W.heap.size := by rw [hW]; simp; omega
  clear hW HB HZ K1 K2 hz0 hz1 kq kr
  obtain ⟨S3, rfl⟩ : ∃ S, S = wr := ⟨_, rfl⟩
  go_loopw [30] (fun u wx => ∃ k : Nat, k ≤ 3 ∧ u = .int .i64 k ∧ Hid (good m (3 * 3 + k) = true) ∧ Hid (wx.heap[w.heap.size + 1]? = some (.cells (rowsA X Y Z m (3 * 3 + k) (3 + 1)) 122 (0, 0))) ∧ Hid (wx.heap[w.heap.size + 2]? = some (.cells (hasA m (3 * 3 + k)) 44 (0, 0))) ∧ Hid (Below w.heap.size w wx) ∧ Hid (w.heap.size + 3 ≤ wx.heap.size))
    (fun u _ => 3 - (intOf u).toNat)
  case atStart => exact ⟨0, by decide, rfl, HG, k1, k2, hB, hz⟩
  clear k1 k2 hB hz HG
  obtain ⟨k, hk, rfl, HG, H1, H2, HB, HZ⟩ := hrel
  have hk3 : k = 0 ∨ k = 1 ∨ k = 2 ∨ k = 3 := by omega
  clear hk
  rcases hk3 with rfl | rfl | rfl | rfl
  · have k1 : wr.heap[w.heap.size + 1]? = some (.cells #[Value.int .i64 (rv (X 0) (Y 0) (Z 0) (cR m 9 0) 0), Value.int .i64 (rv (X 0) (Y 0) (Z 0) (cR m 9 0) 1), Value.int .i64 (rv (X 0) (Y 0) (Z 0) (cR m 9 0) 2), Value.int .i64 (rv (X 0) (Y 0) (Z 0) (cR m 9 0) 3), Value.int .i64 (rv (X 1) (Y 1) (Z 1) (cR m 9 1) 0), Value.int .i64 (rv (X 1) (Y 1) (Z 1) (cR m 9 1) 1), Value.int .i64 (rv (X 1) (Y 1) (Z 1) (cR m 9 1) 2), Value.int .i64 (rv (X 1) (Y 1) (Z 1) (cR m 9 1) 3), Value.int .i64 (rv (X 2) (Y 2) (Z 2) (cR m 9 2) 0), Value.int .i64 (rv (X 2) (Y 2) (Z 2) (cR m 9 2) 1), Value.int .i64 (rv (X 2) (Y 2) (Z 2) (cR m 9 2) 2), Value.int .i64 (rv (X 2) (Y 2) (Z 2) (cR m 9 2) 3), Value.int .i64 (rv (X 3) (Y 3) (Z 3) (cR m 9 3) 0), Value.int .i64 (rv (X 3) (Y 3) (Z 3) (cR m 9 3) 1), Value.int .i64 (rv (X 3) (Y 3) (Z 3) (cR m 9 3) 2), Value.int .i64 (rv (X 3) (Y 3) (Z 3) (cR m 9 3) 3)] 122 (0, 0)) := H1.out
    have k2 : wr.heap[w.heap.size + 2]? = some (.cells #[Value.int .i64 (hV m 9 0 : Nat), .int .i64 (hV m 9 1 : Nat), .int .i64 (hV m 9 2 : Nat)] 44 (0, 0)) := H2.out
    have hz := HZ.out
    clear H1 H2
    have hb : ¬ m / 2 ^ (3 * 3 + 0) % 2 = 1 := by rw [Nat.div_eq_of_lt (show m < 2 ^ (3 * 3 + 0) by omega)]; decide
    have hb' := bit_of (d := 512) hm ((m : Int) / 512) (by omega) false (by simpa using hb)
    obtain ⟨n1, n2, n3⟩ := mask_no hm (r := 3) (k := 0) (by decide) (by decide) HG.out hb
    have q1 : rowsA X Y Z m (3 * 3 + (0 + 1)) (3 + 1) = #[Value.int .i64 (rv (X 0) (Y 0) (Z 0) (cR m 9 0) 0), Value.int .i64 (rv (X 0) (Y 0) (Z 0) (cR m 9 0) 1), Value.int .i64 (rv (X 0) (Y 0) (Z 0) (cR m 9 0) 2), Value.int .i64 (rv (X 0) (Y 0) (Z 0) (cR m 9 0) 3), Value.int .i64 (rv (X 1) (Y 1) (Z 1) (cR m 9 1) 0), Value.int .i64 (rv (X 1) (Y 1) (Z 1) (cR m 9 1) 1), Value.int .i64 (rv (X 1) (Y 1) (Z 1) (cR m 9 1) 2), Value.int .i64 (rv (X 1) (Y 1) (Z 1) (cR m 9 1) 3), Value.int .i64 (rv (X 2) (Y 2) (Z 2) (cR m 9 2) 0), Value.int .i64 (rv (X 2) (Y 2) (Z 2) (cR m 9 2) 1), Value.int .i64 (rv (X 2) (Y 2) (Z 2) (cR m 9 2) 2), Value.int .i64 (rv (X 2) (Y 2) (Z 2) (cR m 9 2) 3), Value.int .i64 (rv (X 3) (Y 3) (Z 3) (cR m 9 3) 0), Value.int .i64 (rv (X 3) (Y 3) (Z 3) (cR m 9 3) 1), Value.int .i64 (rv (X 3) (Y 3) (Z 3) (cR m 9 3) 2), Value.int .i64 (rv (X 3) (Y 3) (Z 3) (cR m 9 3) 3)] := by
      show #[Value.int .i64 (rv (X 0) (Y 0) (Z 0) (cR m 10 0) 0), Value.int .i64 (rv (X 0) (Y 0) (Z 0) (cR m 10 0) 1), Value.int .i64 (rv (X 0) (Y 0) (Z 0) (cR m 10 0) 2), Value.int .i64 (rv (X 0) (Y 0) (Z 0) (cR m 10 0) 3), Value.int .i64 (rv (X 1) (Y 1) (Z 1) (cR m 10 1) 0), Value.int .i64 (rv (X 1) (Y 1) (Z 1) (cR m 10 1) 1), Value.int .i64 (rv (X 1) (Y 1) (Z 1) (cR m 10 1) 2), Value.int .i64 (rv (X 1) (Y 1) (Z 1) (cR m 10 1) 3), Value.int .i64 (rv (X 2) (Y 2) (Z 2) (cR m 10 2) 0), Value.int .i64 (rv (X 2) (Y 2) (Z 2) (cR m 10 2) 1), Value.int .i64 (rv (X 2) (Y 2) (Z 2) (cR m 10 2) 2), Value.int .i64 (rv (X 2) (Y 2) (Z 2) (cR m 10 2) 3), Value.int .i64 (rv (X 3) (Y 3) (Z 3) (cR m 10 3) 0), Value.int .i64 (rv (X 3) (Y 3) (Z 3) (cR m 10 3) 1), Value.int .i64 (rv (X 3) (Y 3) (Z 3) (cR m 10 3) 2), Value.int .i64 (rv (X 3) (Y 3) (Z 3) (cR m 10 3) 3)] = _
      rw [show cR m 10 0 = cR m 9 0 from n2 0 (by decide), show cR m 10 1 = cR m 9 1 from n2 1 (by decide), show cR m 10 2 = cR m 9 2 from n2 2 (by decide), show cR m 10 3 = cR m 9 3 from n2 3 (by decide)]
    have q2 : hasA m (3 * 3 + (0 + 1)) = #[Value.int .i64 (hV m 9 0 : Nat), .int .i64 (hV m 9 1 : Nat), .int .i64 (hV m 9 2 : Nat)] := by
      show #[Value.int .i64 (hV m 10 0 : Nat), .int .i64 (hV m 10 1 : Nat), .int .i64 (hV m 10 2 : Nat)] = _
      rw [show hV m 10 0 = hV m 9 0 from n3 0 (by decide), show hV m 10 1 = hV m 9 1 from n3 1 (by decide), show hV m 10 2 = hV m 9 2 from n3 2 (by decide)]
    have N1 := Lib.hid n1; have Q1 := Lib.hid q1; have Q2 := Lib.hid q2; have K1 := Lib.hid k1; have K2 := Lib.hid k2
    clear n1 n2 n3 q1 q2 k1 k2
    go_wp2_with fail
    go_roundw
    case rel => exact ⟨0 + 1, by decide, by go_num, N1.out, (by rw [Q1.out]; exact K1.out), (by rw [Q2.out]; exact K2.out), HB, HZ⟩
    case measure => simp [intOf]
  · have k1 : wr.heap[w.heap.size + 1]? = some (.cells #[Value.int .i64 (rv (X 0) (Y 0) (Z 0) (cR m 10 0) 0), Value.int .i64 (rv (X 0) (Y 0) (Z 0) (cR m 10 0) 1), Value.int .i64 (rv (X 0) (Y 0) (Z 0) (cR m 10 0) 2), Value.int .i64 (rv (X 0) (Y 0) (Z 0) (cR m 10 0) 3), Value.int .i64 (rv (X 1) (Y 1) (Z 1) (cR m 10 1) 0), Value.int .i64 (rv (X 1) (Y 1) (Z 1) (cR m 10 1) 1), Value.int .i64 (rv (X 1) (Y 1) (Z 1) (cR m 10 1) 2), Value.int .i64 (rv (X 1) (Y 1) (Z 1) (cR m 10 1) 3), Value.int .i64 (rv (X 2) (Y 2) (Z 2) (cR m 10 2) 0), Value.int .i64 (rv (X 2) (Y 2) (Z 2) (cR m 10 2) 1), Value.int .i64 (rv (X 2) (Y 2) (Z 2) (cR m 10 2) 2), Value.int .i64 (rv (X 2) (Y 2) (Z 2) (cR m 10 2) 3), Value.int .i64 (rv (X 3) (Y 3) (Z 3) (cR m 10 3) 0), Value.int .i64 (rv (X 3) (Y 3) (Z 3) (cR m 10 3) 1), Value.int .i64 (rv (X 3) (Y 3) (Z 3) (cR m 10 3) 2), Value.int .i64 (rv (X 3) (Y 3) (Z 3) (cR m 10 3) 3)] 122 (0, 0)) := H1.out
    have k2 : wr.heap[w.heap.size + 2]? = some (.cells #[Value.int .i64 (hV m 10 0 : Nat), .int .i64 (hV m 10 1 : Nat), .int .i64 (hV m 10 2 : Nat)] 44 (0, 0)) := H2.out
    have hz := HZ.out
    clear H1 H2
    have hb : ¬ m / 2 ^ (3 * 3 + 1) % 2 = 1 := by rw [Nat.div_eq_of_lt (show m < 2 ^ (3 * 3 + 1) by omega)]; decide
    have hb' := bit_of (d := 1024) hm ((m : Int) / 1024) (by omega) false (by simpa using hb)
    obtain ⟨n1, n2, n3⟩ := mask_no hm (r := 3) (k := 1) (by decide) (by decide) HG.out hb
    have q1 : rowsA X Y Z m (3 * 3 + (1 + 1)) (3 + 1) = #[Value.int .i64 (rv (X 0) (Y 0) (Z 0) (cR m 10 0) 0), Value.int .i64 (rv (X 0) (Y 0) (Z 0) (cR m 10 0) 1), Value.int .i64 (rv (X 0) (Y 0) (Z 0) (cR m 10 0) 2), Value.int .i64 (rv (X 0) (Y 0) (Z 0) (cR m 10 0) 3), Value.int .i64 (rv (X 1) (Y 1) (Z 1) (cR m 10 1) 0), Value.int .i64 (rv (X 1) (Y 1) (Z 1) (cR m 10 1) 1), Value.int .i64 (rv (X 1) (Y 1) (Z 1) (cR m 10 1) 2), Value.int .i64 (rv (X 1) (Y 1) (Z 1) (cR m 10 1) 3), Value.int .i64 (rv (X 2) (Y 2) (Z 2) (cR m 10 2) 0), Value.int .i64 (rv (X 2) (Y 2) (Z 2) (cR m 10 2) 1), Value.int .i64 (rv (X 2) (Y 2) (Z 2) (cR m 10 2) 2), Value.int .i64 (rv (X 2) (Y 2) (Z 2) (cR m 10 2) 3), Value.int .i64 (rv (X 3) (Y 3) (Z 3) (cR m 10 3) 0), Value.int .i64 (rv (X 3) (Y 3) (Z 3) (cR m 10 3) 1), Value.int .i64 (rv (X 3) (Y 3) (Z 3) (cR m 10 3) 2), Value.int .i64 (rv (X 3) (Y 3) (Z 3) (cR m 10 3) 3)] := by
      show #[Value.int .i64 (rv (X 0) (Y 0) (Z 0) (cR m 11 0) 0), Value.int .i64 (rv (X 0) (Y 0) (Z 0) (cR m 11 0) 1), Value.int .i64 (rv (X 0) (Y 0) (Z 0) (cR m 11 0) 2), Value.int .i64 (rv (X 0) (Y 0) (Z 0) (cR m 11 0) 3), Value.int .i64 (rv (X 1) (Y 1) (Z 1) (cR m 11 1) 0), Value.int .i64 (rv (X 1) (Y 1) (Z 1) (cR m 11 1) 1), Value.int .i64 (rv (X 1) (Y 1) (Z 1) (cR m 11 1) 2), Value.int .i64 (rv (X 1) (Y 1) (Z 1) (cR m 11 1) 3), Value.int .i64 (rv (X 2) (Y 2) (Z 2) (cR m 11 2) 0), Value.int .i64 (rv (X 2) (Y 2) (Z 2) (cR m 11 2) 1), Value.int .i64 (rv (X 2) (Y 2) (Z 2) (cR m 11 2) 2), Value.int .i64 (rv (X 2) (Y 2) (Z 2) (cR m 11 2) 3), Value.int .i64 (rv (X 3) (Y 3) (Z 3) (cR m 11 3) 0), Value.int .i64 (rv (X 3) (Y 3) (Z 3) (cR m 11 3) 1), Value.int .i64 (rv (X 3) (Y 3) (Z 3) (cR m 11 3) 2), Value.int .i64 (rv (X 3) (Y 3) (Z 3) (cR m 11 3) 3)] = _
      rw [show cR m 11 0 = cR m 10 0 from n2 0 (by decide), show cR m 11 1 = cR m 10 1 from n2 1 (by decide), show cR m 11 2 = cR m 10 2 from n2 2 (by decide), show cR m 11 3 = cR m 10 3 from n2 3 (by decide)]
    have q2 : hasA m (3 * 3 + (1 + 1)) = #[Value.int .i64 (hV m 10 0 : Nat), .int .i64 (hV m 10 1 : Nat), .int .i64 (hV m 10 2 : Nat)] := by
      show #[Value.int .i64 (hV m 11 0 : Nat), .int .i64 (hV m 11 1 : Nat), .int .i64 (hV m 11 2 : Nat)] = _
      rw [show hV m 11 0 = hV m 10 0 from n3 0 (by decide), show hV m 11 1 = hV m 10 1 from n3 1 (by decide), show hV m 11 2 = hV m 10 2 from n3 2 (by decide)]
    have N1 := Lib.hid n1; have Q1 := Lib.hid q1; have Q2 := Lib.hid q2; have K1 := Lib.hid k1; have K2 := Lib.hid k2
    clear n1 n2 n3 q1 q2 k1 k2
    go_wp2_with fail
    go_roundw
    case rel => exact ⟨1 + 1, by decide, by go_num, N1.out, (by rw [Q1.out]; exact K1.out), (by rw [Q2.out]; exact K2.out), HB, HZ⟩
    case measure => simp [intOf]
  · have k1 : wr.heap[w.heap.size + 1]? = some (.cells #[Value.int .i64 (rv (X 0) (Y 0) (Z 0) (cR m 11 0) 0), Value.int .i64 (rv (X 0) (Y 0) (Z 0) (cR m 11 0) 1), Value.int .i64 (rv (X 0) (Y 0) (Z 0) (cR m 11 0) 2), Value.int .i64 (rv (X 0) (Y 0) (Z 0) (cR m 11 0) 3), Value.int .i64 (rv (X 1) (Y 1) (Z 1) (cR m 11 1) 0), Value.int .i64 (rv (X 1) (Y 1) (Z 1) (cR m 11 1) 1), Value.int .i64 (rv (X 1) (Y 1) (Z 1) (cR m 11 1) 2), Value.int .i64 (rv (X 1) (Y 1) (Z 1) (cR m 11 1) 3), Value.int .i64 (rv (X 2) (Y 2) (Z 2) (cR m 11 2) 0), Value.int .i64 (rv (X 2) (Y 2) (Z 2) (cR m 11 2) 1), Value.int .i64 (rv (X 2) (Y 2) (Z 2) (cR m 11 2) 2), Value.int .i64 (rv (X 2) (Y 2) (Z 2) (cR m 11 2) 3), Value.int .i64 (rv (X 3) (Y 3) (Z 3) (cR m 11 3) 0), Value.int .i64 (rv (X 3) (Y 3) (Z 3) (cR m 11 3) 1), Value.int .i64 (rv (X 3) (Y 3) (Z 3) (cR m 11 3) 2), Value.int .i64 (rv (X 3) (Y 3) (Z 3) (cR m 11 3) 3)] 122 (0, 0)) := H1.out
    have k2 : wr.heap[w.heap.size + 2]? = some (.cells #[Value.int .i64 (hV m 11 0 : Nat), .int .i64 (hV m 11 1 : Nat), .int .i64 (hV m 11 2 : Nat)] 44 (0, 0)) := H2.out
    have hz := HZ.out
    clear H1 H2
    have hb : ¬ m / 2 ^ (3 * 3 + 2) % 2 = 1 := by rw [Nat.div_eq_of_lt (show m < 2 ^ (3 * 3 + 2) by omega)]; decide
    have hb' := bit_of (d := 2048) hm ((m : Int) / 2048) (by omega) false (by simpa using hb)
    obtain ⟨n1, n2, n3⟩ := mask_no hm (r := 3) (k := 2) (by decide) (by decide) HG.out hb
    have q1 : rowsA X Y Z m (3 * 3 + (2 + 1)) (3 + 1) = #[Value.int .i64 (rv (X 0) (Y 0) (Z 0) (cR m 11 0) 0), Value.int .i64 (rv (X 0) (Y 0) (Z 0) (cR m 11 0) 1), Value.int .i64 (rv (X 0) (Y 0) (Z 0) (cR m 11 0) 2), Value.int .i64 (rv (X 0) (Y 0) (Z 0) (cR m 11 0) 3), Value.int .i64 (rv (X 1) (Y 1) (Z 1) (cR m 11 1) 0), Value.int .i64 (rv (X 1) (Y 1) (Z 1) (cR m 11 1) 1), Value.int .i64 (rv (X 1) (Y 1) (Z 1) (cR m 11 1) 2), Value.int .i64 (rv (X 1) (Y 1) (Z 1) (cR m 11 1) 3), Value.int .i64 (rv (X 2) (Y 2) (Z 2) (cR m 11 2) 0), Value.int .i64 (rv (X 2) (Y 2) (Z 2) (cR m 11 2) 1), Value.int .i64 (rv (X 2) (Y 2) (Z 2) (cR m 11 2) 2), Value.int .i64 (rv (X 2) (Y 2) (Z 2) (cR m 11 2) 3), Value.int .i64 (rv (X 3) (Y 3) (Z 3) (cR m 11 3) 0), Value.int .i64 (rv (X 3) (Y 3) (Z 3) (cR m 11 3) 1), Value.int .i64 (rv (X 3) (Y 3) (Z 3) (cR m 11 3) 2), Value.int .i64 (rv (X 3) (Y 3) (Z 3) (cR m 11 3) 3)] := by
      show #[Value.int .i64 (rv (X 0) (Y 0) (Z 0) (cR m 12 0) 0), Value.int .i64 (rv (X 0) (Y 0) (Z 0) (cR m 12 0) 1), Value.int .i64 (rv (X 0) (Y 0) (Z 0) (cR m 12 0) 2), Value.int .i64 (rv (X 0) (Y 0) (Z 0) (cR m 12 0) 3), Value.int .i64 (rv (X 1) (Y 1) (Z 1) (cR m 12 1) 0), Value.int .i64 (rv (X 1) (Y 1) (Z 1) (cR m 12 1) 1), Value.int .i64 (rv (X 1) (Y 1) (Z 1) (cR m 12 1) 2), Value.int .i64 (rv (X 1) (Y 1) (Z 1) (cR m 12 1) 3), Value.int .i64 (rv (X 2) (Y 2) (Z 2) (cR m 12 2) 0), Value.int .i64 (rv (X 2) (Y 2) (Z 2) (cR m 12 2) 1), Value.int .i64 (rv (X 2) (Y 2) (Z 2) (cR m 12 2) 2), Value.int .i64 (rv (X 2) (Y 2) (Z 2) (cR m 12 2) 3), Value.int .i64 (rv (X 3) (Y 3) (Z 3) (cR m 12 3) 0), Value.int .i64 (rv (X 3) (Y 3) (Z 3) (cR m 12 3) 1), Value.int .i64 (rv (X 3) (Y 3) (Z 3) (cR m 12 3) 2), Value.int .i64 (rv (X 3) (Y 3) (Z 3) (cR m 12 3) 3)] = _
      rw [show cR m 12 0 = cR m 11 0 from n2 0 (by decide), show cR m 12 1 = cR m 11 1 from n2 1 (by decide), show cR m 12 2 = cR m 11 2 from n2 2 (by decide), show cR m 12 3 = cR m 11 3 from n2 3 (by decide)]
    have q2 : hasA m (3 * 3 + (2 + 1)) = #[Value.int .i64 (hV m 11 0 : Nat), .int .i64 (hV m 11 1 : Nat), .int .i64 (hV m 11 2 : Nat)] := by
      show #[Value.int .i64 (hV m 12 0 : Nat), .int .i64 (hV m 12 1 : Nat), .int .i64 (hV m 12 2 : Nat)] = _
      rw [show hV m 12 0 = hV m 11 0 from n3 0 (by decide), show hV m 12 1 = hV m 11 1 from n3 1 (by decide), show hV m 12 2 = hV m 11 2 from n3 2 (by decide)]
    have N1 := Lib.hid n1; have Q1 := Lib.hid q1; have Q2 := Lib.hid q2; have K1 := Lib.hid k1; have K2 := Lib.hid k2
    clear n1 n2 n3 q1 q2 k1 k2
    go_wp2_with fail
    go_roundw
    case rel => exact ⟨2 + 1, by decide, by go_num, N1.out, (by rw [Q1.out]; exact K1.out), (by rw [Q2.out]; exact K2.out), HB, HZ⟩
    case measure => simp [intOf]
  have k1 : wr.heap[w.heap.size + 1]? = some (.cells #[Value.int .i64 (rv (X 0) (Y 0) (Z 0) (cR m 12 0) 0), Value.int .i64 (rv (X 0) (Y 0) (Z 0) (cR m 12 0) 1), Value.int .i64 (rv (X 0) (Y 0) (Z 0) (cR m 12 0) 2), Value.int .i64 (rv (X 0) (Y 0) (Z 0) (cR m 12 0) 3), Value.int .i64 (rv (X 1) (Y 1) (Z 1) (cR m 12 1) 0), Value.int .i64 (rv (X 1) (Y 1) (Z 1) (cR m 12 1) 1), Value.int .i64 (rv (X 1) (Y 1) (Z 1) (cR m 12 1) 2), Value.int .i64 (rv (X 1) (Y 1) (Z 1) (cR m 12 1) 3), Value.int .i64 (rv (X 2) (Y 2) (Z 2) (cR m 12 2) 0), Value.int .i64 (rv (X 2) (Y 2) (Z 2) (cR m 12 2) 1), Value.int .i64 (rv (X 2) (Y 2) (Z 2) (cR m 12 2) 2), Value.int .i64 (rv (X 2) (Y 2) (Z 2) (cR m 12 2) 3), Value.int .i64 (rv (X 3) (Y 3) (Z 3) (cR m 12 3) 0), Value.int .i64 (rv (X 3) (Y 3) (Z 3) (cR m 12 3) 1), Value.int .i64 (rv (X 3) (Y 3) (Z 3) (cR m 12 3) 2), Value.int .i64 (rv (X 3) (Y 3) (Z 3) (cR m 12 3) 3)] 122 (0, 0)) := H1.out
  have HR : Hid (g = true ∧ sm = (parS X Y Z m 4).sign) := ⟨hgm.out.trans HG.out, (hsm.out HG.out).trans (smV_par X Y Z m HG.out)⟩
  have K1 := Lib.hid k1
  have hz0 := HZ.out
  have hB0 := HB.out
  have hz1 : w.heap.size + 1 < wr.heap.size := by omega
  clear k1 H1 H2 HG hgm hsm hs0 HB HZ x0 x1 x2 x3
  go_wp2_with fail
  rw [rounds_succ]
  go_wp2_with fail
  first | refine wp_named ?_ | refine calls_named ?_
  intro W hW
  obtain ⟨S4, rfl⟩ : ∃ S, S = wr := ⟨_, rfl⟩
  have k3 : W.heap[S4.heap.size]? = some (.cells #[.int .i64 (hi (parS X Y Z m 0)), .int .u64 (lo (parS X Y Z m 0))] 108 (0, 0)) := by rw [hW]; exact heap_at rfl
  have k1 : W.heap[w.heap.size + 1]? = some (.cells #[Value.int .i64 (rv (X 0) (Y 0) (Z 0) (cR m 12 0) 0), Value.int .i64 (rv (X 0) (Y 0) (Z 0) (cR m 12 0) 1), Value.int .i64 (rv (X 0) (Y 0) (Z 0) (cR m 12 0) 2), Value.int .i64 (rv (X 0) (Y 0) (Z 0) (cR m 12 0) 3), Value.int .i64 (rv (X 1) (Y 1) (Z 1) (cR m 12 1) 0), Value.int .i64 (rv (X 1) (Y 1) (Z 1) (cR m 12 1) 1), Value.int .i64 (rv (X 1) (Y 1) (Z 1) (cR m 12 1) 2), Value.int .i64 (rv (X 1) (Y 1) (Z 1) (cR m 12 1) 3), Value.int .i64 (rv (X 2) (Y 2) (Z 2) (cR m 12 2) 0), Value.int .i64 (rv (X 2) (Y 2) (Z 2) (cR m 12 2) 1), Value.int .i64 (rv (X 2) (Y 2) (Z 2) (cR m 12 2) 2), Value.int .i64 (rv (X 2) (Y 2) (Z 2) (cR m 12 2) 3), Value.int .i64 (rv (X 3) (Y 3) (Z 3) (cR m 12 3) 0), Value.int .i64 (rv (X 3) (Y 3) (Z 3) (cR m 12 3) 1), Value.int .i64 (rv (X 3) (Y 3) (Z 3) (cR m 12 3) 2), Value.int .i64 (rv (X 3) (Y 3) (Z 3) (cR m 12 3) 3)] 122 (0, 0)) := by rw [hW]; exact (heap_old hz1).trans K1.out
  have hB : Below w.heap.size w W := by rw [hW]; go_grown
  have hz3 : S4.heap.size < W.heap.size := by rw [hW]; simp
  have Z1 : Hid (w.heap.size + 1 < S4.heap.size) := hz1
  clear hW K1 hz0 hz1 hB0
  obtain ⟨i0, hi0, hiz0, hiz1, hiz2⟩ := info_parts infoRow
  have HI := Lib.hid hi0; have HZ0 := Lib.hid hiz0; have HZ1 := Lib.hid hiz1; have HZ2 := Lib.hid hiz2
  clear hi0 hiz0 hiz1 hiz2
  have SA : ∀ a c w, (Instr.arrayAt 44 (.slice (some a) 3 c)).run Try.prog w = .ok (.pointer (some a)) w := fun _ _ _ => by kernel_rfl
  go_loopw [65] (fun u wx => ∃ r : Nat, r ≤ 4 ∧ u = .int .i64 r ∧ Hid (wx.heap[S4.heap.size]? = some (.cells #[.int .i64 (hi (parS X Y Z m r)), .int .u64 (lo (parS X Y Z m r))] 108 (0, 0))) ∧ Hid (wx.heap[w.heap.size + 1]? = some (.cells #[Value.int .i64 (rv (X 0) (Y 0) (Z 0) (cR m 12 0) 0), Value.int .i64 (rv (X 0) (Y 0) (Z 0) (cR m 12 0) 1), Value.int .i64 (rv (X 0) (Y 0) (Z 0) (cR m 12 0) 2), Value.int .i64 (rv (X 0) (Y 0) (Z 0) (cR m 12 0) 3), Value.int .i64 (rv (X 1) (Y 1) (Z 1) (cR m 12 1) 0), Value.int .i64 (rv (X 1) (Y 1) (Z 1) (cR m 12 1) 1), Value.int .i64 (rv (X 1) (Y 1) (Z 1) (cR m 12 1) 2), Value.int .i64 (rv (X 1) (Y 1) (Z 1) (cR m 12 1) 3), Value.int .i64 (rv (X 2) (Y 2) (Z 2) (cR m 12 2) 0), Value.int .i64 (rv (X 2) (Y 2) (Z 2) (cR m 12 2) 1), Value.int .i64 (rv (X 2) (Y 2) (Z 2) (cR m 12 2) 2), Value.int .i64 (rv (X 2) (Y 2) (Z 2) (cR m 12 2) 3), Value.int .i64 (rv (X 3) (Y 3) (Z 3) (cR m 12 3) 0), Value.int .i64 (rv (X 3) (Y 3) (Z 3) (cR m 12 3) 1), Value.int .i64 (rv (X 3) (Y 3) (Z 3) (cR m 12 3) 2), Value.int .i64 (rv (X 3) (Y 3) (Z 3) (cR m 12 3) 3)] 122 (0, 0))) ∧ Hid (Below w.heap.size w wx) ∧ Hid (S4.heap.size < wx.heap.size))
    (fun u _ => 4 - (intOf u).toNat)
  case atStart => exact ⟨0, by decide, rfl, k3, k1, hB, hz3⟩
  clear k1 k3 hB hz3
  obtain ⟨r, hr, rfl, H3, H1, HB, HZ⟩ := hrel
  have hr4 : r = 4 ∨ r = 0 ∨ r = 1 ∨ r = 2 ∨ r = 3 := by omega
  clear hr
  rcases hr4 with rfl | rfl | rfl | rfl | rfl
  · have k3 := H3.out
    obtain ⟨kq, kr⟩ := cellB k3
    have hz := HZ.out
    have HP := Lib.hid (parS_128 X Y Z m hco.out)
    clear k3 H1 H3 HZ
    go_wp2_with fail
    refine (limb_sign _ HP.out _).mono ?_; rintro e V ⟨rfl, hX⟩
    have hB := after HB.out hX
    go_wp2_with fail
    go_returns
    exact ⟨by rw [HR.out.1, HR.out.2]; rfl, hB⟩
  · have k3 := H3.out
    have k1 := H1.out
    have hz := HZ.out
    have z1 := Z1.out
    clear H1 H3 HZ
    by_cases hc : cR m 12 0 = 0
    case neg =>
      have q : parS X Y Z m (0 + 1) = parS X Y Z m 0 := by show parS X Y Z m 0 + (if cR m 12 0 = 0 then _ else 0) = _; rw [if_neg hc]; omega
      have K1 := Lib.hid k1; have K3 := Lib.hid k3; have Q := Lib.hid q
      replace k1 : wr.heap[w.heap.size + 1]? = some (.cells #[Value.int .i64 (rv (X 0) (Y 0) (Z 0) (cR m 12 0) 0), Value.int .i64 (rv (X 0) (Y 0) (Z 0) (cR m 12 0) 1), Value.int .i64 (rv (X 0) (Y 0) (Z 0) (cR m 12 0) 2), Value.int .i64 0, Value.int .i64 (rv (X 1) (Y 1) (Z 1) (cR m 12 1) 0), Value.int .i64 (rv (X 1) (Y 1) (Z 1) (cR m 12 1) 1), Value.int .i64 (rv (X 1) (Y 1) (Z 1) (cR m 12 1) 2), Value.int .i64 (rv (X 1) (Y 1) (Z 1) (cR m 12 1) 3), Value.int .i64 (rv (X 2) (Y 2) (Z 2) (cR m 12 2) 0), Value.int .i64 (rv (X 2) (Y 2) (Z 2) (cR m 12 2) 1), Value.int .i64 (rv (X 2) (Y 2) (Z 2) (cR m 12 2) 2), Value.int .i64 (rv (X 2) (Y 2) (Z 2) (cR m 12 2) 3), Value.int .i64 (rv (X 3) (Y 3) (Z 3) (cR m 12 3) 0), Value.int .i64 (rv (X 3) (Y 3) (Z 3) (cR m 12 3) 1), Value.int .i64 (rv (X 3) (Y 3) (Z 3) (cR m 12 3) 2), Value.int .i64 (rv (X 3) (Y 3) (Z 3) (cR m 12 3) 3)] 122 (0, 0)) := by rw [rv3n (x := X 0) (y := Y 0) (z := Z 0) hc] at k1; exact k1
      obtain ⟨kq, kr⟩ := cellB k1
      clear k1 k3 q hc hco
      go_wp2_with fail
      go_roundw
      case rel => exact ⟨0 + 1, by decide, by go_num, (by rw [Q.out]; exact K3.out), K1.out, HB, hz⟩
      case measure => simp [intOf]
    have K1 := Lib.hid k1
    replace k1 : wr.heap[w.heap.size + 1]? = some (.cells #[Value.int .i64 (rv (X 0) (Y 0) (Z 0) (cR m 12 0) 0), Value.int .i64 (rv (X 0) (Y 0) (Z 0) (cR m 12 0) 1), Value.int .i64 (rv (X 0) (Y 0) (Z 0) (cR m 12 0) 2), Value.int .i64 1, Value.int .i64 (rv (X 1) (Y 1) (Z 1) (cR m 12 1) 0), Value.int .i64 (rv (X 1) (Y 1) (Z 1) (cR m 12 1) 1), Value.int .i64 (rv (X 1) (Y 1) (Z 1) (cR m 12 1) 2), Value.int .i64 (rv (X 1) (Y 1) (Z 1) (cR m 12 1) 3), Value.int .i64 (rv (X 2) (Y 2) (Z 2) (cR m 12 2) 0), Value.int .i64 (rv (X 2) (Y 2) (Z 2) (cR m 12 2) 1), Value.int .i64 (rv (X 2) (Y 2) (Z 2) (cR m 12 2) 2), Value.int .i64 (rv (X 2) (Y 2) (Z 2) (cR m 12 2) 3), Value.int .i64 (rv (X 3) (Y 3) (Z 3) (cR m 12 3) 0), Value.int .i64 (rv (X 3) (Y 3) (Z 3) (cR m 12 3) 1), Value.int .i64 (rv (X 3) (Y 3) (Z 3) (cR m 12 3) 2), Value.int .i64 (rv (X 3) (Y 3) (Z 3) (cR m 12 3) 3)] 122 (0, 0)) := by rw [rv3 (x := X 0) (y := Y 0) (z := Z 0) hc] at k1; exact k1
    have KL := Lib.hid k1
    have K3 := Lib.hid k3
    have q : parS X Y Z m (0 + 1) = parS X Y Z m 0 + -(det3 (rv (X 1) (Y 1) (Z 1) (cR m 12 1) 0) (rv (X 1) (Y 1) (Z 1) (cR m 12 1) 1) (rv (X 1) (Y 1) (Z 1) (cR m 12 1) 2) (rv (X 2) (Y 2) (Z 2) (cR m 12 2) 0) (rv (X 2) (Y 2) (Z 2) (cR m 12 2) 1) (rv (X 2) (Y 2) (Z 2) (cR m 12 2) 2) (rv (X 3) (Y 3) (Z 3) (cR m 12 3) 0) (rv (X 3) (Y 3) (Z 3) (cR m 12 3) 1) (rv (X 3) (Y 3) (Z 3) (cR m 12 3) 2)) := by show parS X Y Z m 0 + (if cR m 12 0 = 0 then _ else 0) = _; rw [if_pos hc]; rfl
    have Q := Lib.hid q
    have HT3 := Lib.hid (orient_three (rv (X 1) (Y 1) (Z 1) (cR m 12 1) 0) (rv (X 1) (Y 1) (Z 1) (cR m 12 1) 1) (rv (X 1) (Y 1) (Z 1) (cR m 12 1) 2) (rv (X 2) (Y 2) (Z 2) (cR m 12 2) 0) (rv (X 2) (Y 2) (Z 2) (cR m 12 2) 1) (rv (X 2) (Y 2) (Z 2) (cR m 12 2) 2) (rv (X 3) (Y 3) (Z 3) (cR m 12 3) 0) (rv (X 3) (Y 3) (Z 3) (cR m 12 3) 1) (rv (X 3) (Y 3) (Z 3) (cR m 12 3) 2) (rv_I64 (hco.out 1 (by decide)) _ _) (rv_I64 (hco.out 1 (by decide)) _ _) (rv_I64 (hco.out 1 (by decide)) _ _) (rv_I64 (hco.out 2 (by decide)) _ _) (rv_I64 (hco.out 2 (by decide)) _ _) (rv_I64 (hco.out 2 (by decide)) _ _) (rv_I64 (hco.out 3 (by decide)) _ _) (rv_I64 (hco.out 3 (by decide)) _ _) (rv_I64 (hco.out 3 (by decide)) _ _))
    obtain ⟨kq, kr⟩ := cellB k1
    obtain ⟨S5, rfl⟩ : ∃ S, S = wr := ⟨_, rfl⟩
    have zb : w.heap.size + 1 < S5.heap.size := by omega
    clear q hc k1 k3
    go_wp2_with fail
    refine wp_loop_rounds 5 ?_
    rw [rounds_succ]
    go_wp2_with fail
    rw [rounds_succ]
    go_wp2_with (first | (at_builtin; refine wpList_append_own _ rfl (.tmp 79) (.tmp 85) 123 rfl S5.heap.size 44 i0 (.agg #[.int .i64 0, .int .i64 0, .int .i64 0]) 3 24 uRows HI.out HZ0.out HZ1.out HZ2.out rfl (by decide) _ 0 [] (by rfl) (World.ownsRow_nil _ _ _ _) ⟨_, 0, none⟩ 1 1 [Value.int .i64 (rv (X 1) (Y 1) (Z 1) (cR m 12 1) 0), Value.int .i64 (rv (X 1) (Y 1) (Z 1) (cR m 12 1) 1), Value.int .i64 (rv (X 1) (Y 1) (Z 1) (cR m 12 1) 2)] (by rfl) (by rfl) (row3_new _ _ _ _ _) (ints3 _ _ _) (by decide) (by decide) (by simp) ?_; intro v1 w1 hq1 hq2 hq3) | fail)
    have hb1 : Hid (Below S5.heap.size S5 w1) := ((Below.refl _ _).alloc (Nat.le_refl _) _).grown hq2 (by simp) (fun k hk => by cases hk)
    have R1 : Hid (w1.ownsRow S5.heap.size 44 3 v1 1 [Value.int .i64 (rv (X 1) (Y 1) (Z 1) (cR m 12 1) 0), Value.int .i64 (rv (X 1) (Y 1) (Z 1) (cR m 12 1) 1), Value.int .i64 (rv (X 1) (Y 1) (Z 1) (cR m 12 1) 2)]) := hq1
    clear hq1 hq2 hq3 kq kr
    obtain ⟨kq, kr⟩ := cellB ((hb1.out.block _ zb).trans KL.out)
    have hs1 := hb1.out.size
    rw [rounds_succ]
    go_wp2_with (first | (at_builtin; refine wpList_append_own _ rfl (.tmp 79) (.tmp 85) 123 rfl S5.heap.size 44 i0 (.agg #[.int .i64 0, .int .i64 0, .int .i64 0]) 3 24 uRows HI.out HZ0.out HZ1.out HZ2.out rfl (by decide) _ 1 [Value.int .i64 (rv (X 1) (Y 1) (Z 1) (cR m 12 1) 0), Value.int .i64 (rv (X 1) (Y 1) (Z 1) (cR m 12 1) 1), Value.int .i64 (rv (X 1) (Y 1) (Z 1) (cR m 12 1) 2)] (by rfl) (R1.out.alloc _) ⟨_, 0, none⟩ 1 1 [Value.int .i64 (rv (X 2) (Y 2) (Z 2) (cR m 12 2) 0), Value.int .i64 (rv (X 2) (Y 2) (Z 2) (cR m 12 2) 1), Value.int .i64 (rv (X 2) (Y 2) (Z 2) (cR m 12 2) 2)] (by rfl) (by rfl) (row3_new _ _ _ _ _) (ints3 _ _ _) (by decide) (by decide) (by have := hb1.out.size; simp; omega) ?_; intro v2 w2 hq1 hq2 hq3) | fail)
    have hb2 : Hid (Below S5.heap.size S5 w2) := (hb1.out.alloc hb1.out.size _).grown hq2 (by have := hb1.out.size; simp; omega) (fun k hk => (R1.out.lt k hk).1)
    have R2 : Hid (w2.ownsRow S5.heap.size 44 3 v2 2 [Value.int .i64 (rv (X 1) (Y 1) (Z 1) (cR m 12 1) 0), Value.int .i64 (rv (X 1) (Y 1) (Z 1) (cR m 12 1) 1), Value.int .i64 (rv (X 1) (Y 1) (Z 1) (cR m 12 1) 2), Value.int .i64 (rv (X 2) (Y 2) (Z 2) (cR m 12 2) 0), Value.int .i64 (rv (X 2) (Y 2) (Z 2) (cR m 12 2) 1), Value.int .i64 (rv (X 2) (Y 2) (Z 2) (cR m 12 2) 2)]) := hq1
    clear hb1 R1
    clear hq1 hq2 hq3 kq kr
    obtain ⟨kq, kr⟩ := cellB ((hb2.out.block _ zb).trans KL.out)
    have hs2 := hb2.out.size
    rw [rounds_succ]
    go_wp2_with (first | (at_builtin; refine wpList_append_own _ rfl (.tmp 79) (.tmp 85) 123 rfl S5.heap.size 44 i0 (.agg #[.int .i64 0, .int .i64 0, .int .i64 0]) 3 24 uRows HI.out HZ0.out HZ1.out HZ2.out rfl (by decide) _ 2 [Value.int .i64 (rv (X 1) (Y 1) (Z 1) (cR m 12 1) 0), Value.int .i64 (rv (X 1) (Y 1) (Z 1) (cR m 12 1) 1), Value.int .i64 (rv (X 1) (Y 1) (Z 1) (cR m 12 1) 2), Value.int .i64 (rv (X 2) (Y 2) (Z 2) (cR m 12 2) 0), Value.int .i64 (rv (X 2) (Y 2) (Z 2) (cR m 12 2) 1), Value.int .i64 (rv (X 2) (Y 2) (Z 2) (cR m 12 2) 2)] (by rfl) (R2.out.alloc _) ⟨_, 0, none⟩ 1 1 [Value.int .i64 (rv (X 3) (Y 3) (Z 3) (cR m 12 3) 0), Value.int .i64 (rv (X 3) (Y 3) (Z 3) (cR m 12 3) 1), Value.int .i64 (rv (X 3) (Y 3) (Z 3) (cR m 12 3) 2)] (by rfl) (by rfl) (row3_new _ _ _ _ _) (ints3 _ _ _) (by decide) (by decide) (by have := hb2.out.size; simp; omega) ?_; intro v3 w3 hq1 hq2 hq3) | fail)
    have hb3 : Hid (Below S5.heap.size S5 w3) := (hb2.out.alloc hb2.out.size _).grown hq2 (by have := hb2.out.size; simp; omega) (fun k hk => (R2.out.lt k hk).1)
    have R3 : Hid (w3.ownsRow S5.heap.size 44 3 v3 3 [Value.int .i64 (rv (X 1) (Y 1) (Z 1) (cR m 12 1) 0), Value.int .i64 (rv (X 1) (Y 1) (Z 1) (cR m 12 1) 1), Value.int .i64 (rv (X 1) (Y 1) (Z 1) (cR m 12 1) 2), Value.int .i64 (rv (X 2) (Y 2) (Z 2) (cR m 12 2) 0), Value.int .i64 (rv (X 2) (Y 2) (Z 2) (cR m 12 2) 1), Value.int .i64 (rv (X 2) (Y 2) (Z 2) (cR m 12 2) 2), Value.int .i64 (rv (X 3) (Y 3) (Z 3) (cR m 12 3) 0), Value.int .i64 (rv (X 3) (Y 3) (Z 3) (cR m 12 3) 1), Value.int .i64 (rv (X 3) (Y 3) (Z 3) (cR m 12 3) 2)]) := hq1
    clear hb2 R2
    clear hq1 hq2 hq3 kq kr
    obtain ⟨kq, kr⟩ := cellB ((hb3.out.block _ zb).trans KL.out)
    have hs3 := hb3.out.size
    rw [rounds_succ]
    go_wp2_with fail
    rcases R3.out.2 with ⟨_, h9⟩ | ⟨gg, cap, cur, rfl, hg1, hg2, hg3, hg4, hg5, hg6⟩
    · exact absurd h9 (by decide)
    have hgl : gg < w3.heap.size := (Array.getElem?_eq_some_iff.1 hg2).1
    have c0 : w3.cell? ⟨gg, 0, none⟩ = some (Value.int .i64 (rv (X 1) (Y 1) (Z 1) (cR m 12 1) 0)) := (R3.out.cellAt 0 (by decide)).trans rfl
    have c1 : w3.cell? ⟨gg, 1, none⟩ = some (Value.int .i64 (rv (X 1) (Y 1) (Z 1) (cR m 12 1) 1)) := (R3.out.cellAt 1 (by decide)).trans rfl
    have c2 : w3.cell? ⟨gg, 2, none⟩ = some (Value.int .i64 (rv (X 1) (Y 1) (Z 1) (cR m 12 1) 2)) := (R3.out.cellAt 2 (by decide)).trans rfl
    have c3 : w3.cell? ⟨gg, 3, none⟩ = some (Value.int .i64 (rv (X 2) (Y 2) (Z 2) (cR m 12 2) 0)) := (R3.out.cellAt 3 (by decide)).trans rfl
    have c4 : w3.cell? ⟨gg, 4, none⟩ = some (Value.int .i64 (rv (X 2) (Y 2) (Z 2) (cR m 12 2) 1)) := (R3.out.cellAt 4 (by decide)).trans rfl
    have c5 : w3.cell? ⟨gg, 5, none⟩ = some (Value.int .i64 (rv (X 2) (Y 2) (Z 2) (cR m 12 2) 2)) := (R3.out.cellAt 5 (by decide)).trans rfl
    have c6 : w3.cell? ⟨gg, 6, none⟩ = some (Value.int .i64 (rv (X 3) (Y 3) (Z 3) (cR m 12 3) 0)) := (R3.out.cellAt 6 (by decide)).trans rfl
    have c7 : w3.cell? ⟨gg, 7, none⟩ = some (Value.int .i64 (rv (X 3) (Y 3) (Z 3) (cR m 12 3) 1)) := (R3.out.cellAt 7 (by decide)).trans rfl
    have c8 : w3.cell? ⟨gg, 8, none⟩ = some (Value.int .i64 (rv (X 3) (Y 3) (Z 3) (cR m 12 3) 2)) := (R3.out.cellAt 8 (by decide)).trans rfl
    clear hg2 hg3 hg4 hg5 hg6 kq kr
    refine wp_calm1 10 (.cells #[.int .i64 0, .int .u64 0] 108) (some 15) (by kernel_rfl) (by kernel_rfl) rfl (fun o ho a w => by cases ho; go_simp) ?_
    intro C hC
    repeat (refine wpCalm_step (fun K hK => ?_); go_simp; first | (refine hK _ ?_; clear hK K) | (apply Exists.intro; refine ⟨fun wc hw => ?_, hK _ ?_⟩; (obtain ⟨hc, hf⟩ := bcell (hC wc hw); go_simp; first | with_reducible exact HT3.out wc | exact rfl); clear hK K))
    refine wpCalm_nil ?_
    clear hC C c0 c1 c2 c3 c4 c5 c6 c7 c8
    intro V b hX hb hblk
    simp only [List.drop_succ_cons, List.drop_zero]
    have hX5 : Below S5.heap.size S5 V := after' hb3.out hX hs3
    have n1 : w.heap.size + 1 ≠ b := by omega
    have n3 : S4.heap.size ≠ b := by omega
    have kb := hblk
    have zv : b < V.heap.size := (Array.getElem?_eq_some_iff.1 hblk).1
    have k3 : V.heap[S4.heap.size]? = some (.cells #[.int .i64 (hi (parS X Y Z m 0)), .int .u64 (lo (parS X Y Z m 0))] 108 (0, 0)) := (hX5.block _ hz).trans K3.out
    have hz5 : S4.heap.size < V.heap.size := Nat.lt_of_lt_of_le hz hX5.size
    have HX5 := Lib.hid hX5
    have bs : S5.heap.size ≤ b := by omega
    clear hblk hX hX5 hb hgl hg1 R3 hb3 HT3
    obtain ⟨lq, lr⟩ := cellB kb
    obtain ⟨mq, mr⟩ := cellB k3
    have KB := Lib.hid kb; have KS := Lib.hid k3
    clear kb k3
    go_wp2_with fail
    have zsb : w.heap.size ≤ S4.heap.size := by omega
    have hBV : Hid (Below w.heap.size w V) := after HB.out HX5.out
    have K1V : Hid (V.heap[w.heap.size + 1]? = some (.cells #[Value.int .i64 (rv (X 0) (Y 0) (Z 0) (cR m 12 0) 0), Value.int .i64 (rv (X 0) (Y 0) (Z 0) (cR m 12 0) 1), Value.int .i64 (rv (X 0) (Y 0) (Z 0) (cR m 12 0) 2), Value.int .i64 (rv (X 0) (Y 0) (Z 0) (cR m 12 0) 3), Value.int .i64 (rv (X 1) (Y 1) (Z 1) (cR m 12 1) 0), Value.int .i64 (rv (X 1) (Y 1) (Z 1) (cR m 12 1) 1), Value.int .i64 (rv (X 1) (Y 1) (Z 1) (cR m 12 1) 2), Value.int .i64 (rv (X 1) (Y 1) (Z 1) (cR m 12 1) 3), Value.int .i64 (rv (X 2) (Y 2) (Z 2) (cR m 12 2) 0), Value.int .i64 (rv (X 2) (Y 2) (Z 2) (cR m 12 2) 1), Value.int .i64 (rv (X 2) (Y 2) (Z 2) (cR m 12 2) 2), Value.int .i64 (rv (X 2) (Y 2) (Z 2) (cR m 12 2) 3), Value.int .i64 (rv (X 3) (Y 3) (Z 3) (cR m 12 3) 0), Value.int .i64 (rv (X 3) (Y 3) (Z 3) (cR m 12 3) 1), Value.int .i64 (rv (X 3) (Y 3) (Z 3) (cR m 12 3) 2), Value.int .i64 (rv (X 3) (Y 3) (Z 3) (cR m 12 3) 3)] 122 (0, 0))) := (HX5.out.block _ zb).trans K1.out
    have z1v : w.heap.size + 1 < V.heap.size := Nat.lt_of_lt_of_le zb HX5.out.size
    have wb : w.heap.size ≤ b := by omega
    first | refine wp_named ?_ | refine calls_named ?_
    intro V1 hV
    have kb : V1.heap[b]? = some (.cells #[.int .i64 (hi (det3 (rv (X 1) (Y 1) (Z 1) (cR m 12 1) 0) (rv (X 1) (Y 1) (Z 1) (cR m 12 1) 1) (rv (X 1) (Y 1) (Z 1) (cR m 12 1) 2) (rv (X 2) (Y 2) (Z 2) (cR m 12 2) 0) (rv (X 2) (Y 2) (Z 2) (cR m 12 2) 1) (rv (X 2) (Y 2) (Z 2) (cR m 12 2) 2) (rv (X 3) (Y 3) (Z 3) (cR m 12 3) 0) (rv (X 3) (Y 3) (Z 3) (cR m 12 3) 1) (rv (X 3) (Y 3) (Z 3) (cR m 12 3) 2))), .int .u64 (lo (det3 (rv (X 1) (Y 1) (Z 1) (cR m 12 1) 0) (rv (X 1) (Y 1) (Z 1) (cR m 12 1) 1) (rv (X 1) (Y 1) (Z 1) (cR m 12 1) 2) (rv (X 2) (Y 2) (Z 2) (cR m 12 2) 0) (rv (X 2) (Y 2) (Z 2) (cR m 12 2) 1) (rv (X 2) (Y 2) (Z 2) (cR m 12 2) 2) (rv (X 3) (Y 3) (Z 3) (cR m 12 3) 0) (rv (X 3) (Y 3) (Z 3) (cR m 12 3) 1) (rv (X 3) (Y 3) (Z 3) (cR m 12 3) 2)))] 108 (0, 0)) := by rw [hV]; refine Eq.trans (set_own (set_own KB.out _) _) ?_; simp
    have ks : V1.heap[S4.heap.size]? = some (.cells #[.int .i64 (hi (parS X Y Z m 0)), .int .u64 (lo (parS X Y Z m 0))] 108 (0, 0)) := by rw [hV]; exact (other_block n3).trans ((other_block n3).trans KS.out)
    have k1 : V1.heap[w.heap.size + 1]? = some (.cells #[Value.int .i64 (rv (X 0) (Y 0) (Z 0) (cR m 12 0) 0), Value.int .i64 (rv (X 0) (Y 0) (Z 0) (cR m 12 0) 1), Value.int .i64 (rv (X 0) (Y 0) (Z 0) (cR m 12 0) 2), Value.int .i64 (rv (X 0) (Y 0) (Z 0) (cR m 12 0) 3), Value.int .i64 (rv (X 1) (Y 1) (Z 1) (cR m 12 1) 0), Value.int .i64 (rv (X 1) (Y 1) (Z 1) (cR m 12 1) 1), Value.int .i64 (rv (X 1) (Y 1) (Z 1) (cR m 12 1) 2), Value.int .i64 (rv (X 1) (Y 1) (Z 1) (cR m 12 1) 3), Value.int .i64 (rv (X 2) (Y 2) (Z 2) (cR m 12 2) 0), Value.int .i64 (rv (X 2) (Y 2) (Z 2) (cR m 12 2) 1), Value.int .i64 (rv (X 2) (Y 2) (Z 2) (cR m 12 2) 2), Value.int .i64 (rv (X 2) (Y 2) (Z 2) (cR m 12 2) 3), Value.int .i64 (rv (X 3) (Y 3) (Z 3) (cR m 12 3) 0), Value.int .i64 (rv (X 3) (Y 3) (Z 3) (cR m 12 3) 1), Value.int .i64 (rv (X 3) (Y 3) (Z 3) (cR m 12 3) 2), Value.int .i64 (rv (X 3) (Y 3) (Z 3) (cR m 12 3) 3)] 122 (0, 0)) := by rw [hV]; exact (other_block n1).trans ((other_block n1).trans K1V.out)
    have hB : Below w.heap.size w V1 := by rw [hV]; exact (hBV.out.setCell wb _).setCell wb _
    have y1 : b < V1.heap.size := by rw [hV]; simpa using zv
    have y2 : S4.heap.size < V1.heap.size := by rw [hV]; simpa using hz5
    have y3 : w.heap.size + 1 < V1.heap.size := by rw [hV]; simpa using z1v
    clear hV lq lr mq mr KB KS K1V hBV HX5 z1v zv hz5 HB K1 KL K3 hz zb hs1 hs2 hs3
    refine (limb_Neg (det3 (rv (X 1) (Y 1) (Z 1) (cR m 12 1) 0) (rv (X 1) (Y 1) (Z 1) (cR m 12 1) 1) (rv (X 1) (Y 1) (Z 1) (cR m 12 1) 2) (rv (X 2) (Y 2) (Z 2) (cR m 12 2) 0) (rv (X 2) (Y 2) (Z 2) (cR m 12 2) 1) (rv (X 2) (Y 2) (Z 2) (cR m 12 2) 2) (rv (X 3) (Y 3) (Z 3) (cR m 12 3) 0) (rv (X 3) (Y 3) (Z 3) (cR m 12 3) 1) (rv (X 3) (Y 3) (Z 3) (cR m 12 3) 2)) _).mono ?_; rintro e V2 ⟨rfl, hX⟩
    replace kb := (hX.block _ y1).trans kb; replace ks := (hX.block _ y2).trans ks; replace k1 := (hX.block _ y3).trans k1; replace hB := after hB hX
    replace y1 := Nat.lt_of_lt_of_le y1 hX.size; replace y2 := Nat.lt_of_lt_of_le y2 hX.size; replace y3 := Nat.lt_of_lt_of_le y3 hX.size
    clear hX
    obtain ⟨lq, lr⟩ := cellB kb
    obtain ⟨mq, mr⟩ := cellB ks
    go_wp2_with fail
    first | refine wp_named ?_ | refine calls_named ?_
    intro V3 hV
    replace ks : V3.heap[S4.heap.size]? = some (.cells #[.int .i64 (hi (parS X Y Z m 0)), .int .u64 (lo (parS X Y Z m 0))] 108 (0, 0)) := by rw [hV]; exact (other_block n3).trans ((other_block n3).trans ks)
    replace k1 : V3.heap[w.heap.size + 1]? = some (.cells #[Value.int .i64 (rv (X 0) (Y 0) (Z 0) (cR m 12 0) 0), Value.int .i64 (rv (X 0) (Y 0) (Z 0) (cR m 12 0) 1), Value.int .i64 (rv (X 0) (Y 0) (Z 0) (cR m 12 0) 2), Value.int .i64 (rv (X 0) (Y 0) (Z 0) (cR m 12 0) 3), Value.int .i64 (rv (X 1) (Y 1) (Z 1) (cR m 12 1) 0), Value.int .i64 (rv (X 1) (Y 1) (Z 1) (cR m 12 1) 1), Value.int .i64 (rv (X 1) (Y 1) (Z 1) (cR m 12 1) 2), Value.int .i64 (rv (X 1) (Y 1) (Z 1) (cR m 12 1) 3), Value.int .i64 (rv (X 2) (Y 2) (Z 2) (cR m 12 2) 0), Value.int .i64 (rv (X 2) (Y 2) (Z 2) (cR m 12 2) 1), Value.int .i64 (rv (X 2) (Y 2) (Z 2) (cR m 12 2) 2), Value.int .i64 (rv (X 2) (Y 2) (Z 2) (cR m 12 2) 3), Value.int .i64 (rv (X 3) (Y 3) (Z 3) (cR m 12 3) 0), Value.int .i64 (rv (X 3) (Y 3) (Z 3) (cR m 12 3) 1), Value.int .i64 (rv (X 3) (Y 3) (Z 3) (cR m 12 3) 2), Value.int .i64 (rv (X 3) (Y 3) (Z 3) (cR m 12 3) 3)] 122 (0, 0)) := by rw [hV]; exact (other_block n1).trans ((other_block n1).trans k1)
    replace kb : V3.heap[b]? = some (.cells #[.int .i64 (hi (-(det3 (rv (X 1) (Y 1) (Z 1) (cR m 12 1) 0) (rv (X 1) (Y 1) (Z 1) (cR m 12 1) 1) (rv (X 1) (Y 1) (Z 1) (cR m 12 1) 2) (rv (X 2) (Y 2) (Z 2) (cR m 12 2) 0) (rv (X 2) (Y 2) (Z 2) (cR m 12 2) 1) (rv (X 2) (Y 2) (Z 2) (cR m 12 2) 2) (rv (X 3) (Y 3) (Z 3) (cR m 12 3) 0) (rv (X 3) (Y 3) (Z 3) (cR m 12 3) 1) (rv (X 3) (Y 3) (Z 3) (cR m 12 3) 2)))), .int .u64 (lo (-(det3 (rv (X 1) (Y 1) (Z 1) (cR m 12 1) 0) (rv (X 1) (Y 1) (Z 1) (cR m 12 1) 1) (rv (X 1) (Y 1) (Z 1) (cR m 12 1) 2) (rv (X 2) (Y 2) (Z 2) (cR m 12 2) 0) (rv (X 2) (Y 2) (Z 2) (cR m 12 2) 1) (rv (X 2) (Y 2) (Z 2) (cR m 12 2) 2) (rv (X 3) (Y 3) (Z 3) (cR m 12 3) 0) (rv (X 3) (Y 3) (Z 3) (cR m 12 3) 1) (rv (X 3) (Y 3) (Z 3) (cR m 12 3) 2))))] 108 (0, 0)) := by rw [hV]; refine Eq.trans (set_own (set_own kb _) _) ?_; simp
    replace hB : Below w.heap.size w V3 := by rw [hV]; exact (hB.setCell wb _).setCell wb _
    replace y1 : b < V3.heap.size := by rw [hV]; simpa using y1
    replace y2 : S4.heap.size < V3.heap.size := by rw [hV]; simpa using y2
    replace y3 : w.heap.size + 1 < V3.heap.size := by rw [hV]; simpa using y3
    clear hV lq lr mq mr
    refine (limb_Add (parS X Y Z m 0) (-(det3 (rv (X 1) (Y 1) (Z 1) (cR m 12 1) 0) (rv (X 1) (Y 1) (Z 1) (cR m 12 1) 1) (rv (X 1) (Y 1) (Z 1) (cR m 12 1) 2) (rv (X 2) (Y 2) (Z 2) (cR m 12 2) 0) (rv (X 2) (Y 2) (Z 2) (cR m 12 2) 1) (rv (X 2) (Y 2) (Z 2) (cR m 12 2) 2) (rv (X 3) (Y 3) (Z 3) (cR m 12 3) 0) (rv (X 3) (Y 3) (Z 3) (cR m 12 3) 1) (rv (X 3) (Y 3) (Z 3) (cR m 12 3) 2))) _).mono ?_; rintro e V4 ⟨rfl, hX⟩
    replace kb := (hX.block _ y1).trans kb; replace ks := (hX.block _ y2).trans ks; replace k1 := (hX.block _ y3).trans k1; replace hB := after hB hX
    replace y1 := Nat.lt_of_lt_of_le y1 hX.size; replace y2 := Nat.lt_of_lt_of_le y2 hX.size; replace y3 := Nat.lt_of_lt_of_le y3 hX.size
    clear hX
    obtain ⟨mq, mr⟩ := cellB ks
    have KS := Lib.hid ks; have K1 := Lib.hid k1; have HB := Lib.hid hB
    clear ks k1 hB kb
    go_wp2_with fail
    go_roundw
    case rel => first | exact ⟨0 + 1, by decide, by go_num, (by rw [Q.out]; refine Eq.trans (set_own (set_own KS.out _) _) ?_; simp), (other_block (by simp; omega)).trans ((other_block (by simp; omega)).trans K1.out), (HB.out.setCell zsb _).setCell zsb _, (by refine Lib.hid ?_; simpa using y2)⟩ | ((repeat apply Exists.intro); exact ⟨⟨0 + 1, by decide, by go_num, (by rw [Q.out]; refine Eq.trans (set_own (set_own KS.out _) _) ?_; simp), (other_block (by simp; omega)).trans ((other_block (by simp; omega)).trans K1.out), (HB.out.setCell zsb _).setCell zsb _, (by refine Lib.hid ?_; simpa using y2)⟩, rfl⟩)
    case measure => simp [intOf]
  · have k3 := H3.out
    have k1 := H1.out
    have hz := HZ.out
    have z1 := Z1.out
    clear H1 H3 HZ
    by_cases hc : cR m 12 1 = 0
    case neg =>
      have q : parS X Y Z m (1 + 1) = parS X Y Z m 1 := by show parS X Y Z m 1 + (if cR m 12 1 = 0 then _ else 0) = _; rw [if_neg hc]; omega
      have K1 := Lib.hid k1; have K3 := Lib.hid k3; have Q := Lib.hid q
      replace k1 : wr.heap[w.heap.size + 1]? = some (.cells #[Value.int .i64 (rv (X 0) (Y 0) (Z 0) (cR m 12 0) 0), Value.int .i64 (rv (X 0) (Y 0) (Z 0) (cR m 12 0) 1), Value.int .i64 (rv (X 0) (Y 0) (Z 0) (cR m 12 0) 2), Value.int .i64 (rv (X 0) (Y 0) (Z 0) (cR m 12 0) 3), Value.int .i64 (rv (X 1) (Y 1) (Z 1) (cR m 12 1) 0), Value.int .i64 (rv (X 1) (Y 1) (Z 1) (cR m 12 1) 1), Value.int .i64 (rv (X 1) (Y 1) (Z 1) (cR m 12 1) 2), Value.int .i64 0, Value.int .i64 (rv (X 2) (Y 2) (Z 2) (cR m 12 2) 0), Value.int .i64 (rv (X 2) (Y 2) (Z 2) (cR m 12 2) 1), Value.int .i64 (rv (X 2) (Y 2) (Z 2) (cR m 12 2) 2), Value.int .i64 (rv (X 2) (Y 2) (Z 2) (cR m 12 2) 3), Value.int .i64 (rv (X 3) (Y 3) (Z 3) (cR m 12 3) 0), Value.int .i64 (rv (X 3) (Y 3) (Z 3) (cR m 12 3) 1), Value.int .i64 (rv (X 3) (Y 3) (Z 3) (cR m 12 3) 2), Value.int .i64 (rv (X 3) (Y 3) (Z 3) (cR m 12 3) 3)] 122 (0, 0)) := by rw [rv3n (x := X 1) (y := Y 1) (z := Z 1) hc] at k1; exact k1
      obtain ⟨kq, kr⟩ := cellB k1
      clear k1 k3 q hc hco
      go_wp2_with fail
      go_roundw
      case rel => exact ⟨1 + 1, by decide, by go_num, (by rw [Q.out]; exact K3.out), K1.out, HB, hz⟩
      case measure => simp [intOf]
    have K1 := Lib.hid k1
    replace k1 : wr.heap[w.heap.size + 1]? = some (.cells #[Value.int .i64 (rv (X 0) (Y 0) (Z 0) (cR m 12 0) 0), Value.int .i64 (rv (X 0) (Y 0) (Z 0) (cR m 12 0) 1), Value.int .i64 (rv (X 0) (Y 0) (Z 0) (cR m 12 0) 2), Value.int .i64 (rv (X 0) (Y 0) (Z 0) (cR m 12 0) 3), Value.int .i64 (rv (X 1) (Y 1) (Z 1) (cR m 12 1) 0), Value.int .i64 (rv (X 1) (Y 1) (Z 1) (cR m 12 1) 1), Value.int .i64 (rv (X 1) (Y 1) (Z 1) (cR m 12 1) 2), Value.int .i64 1, Value.int .i64 (rv (X 2) (Y 2) (Z 2) (cR m 12 2) 0), Value.int .i64 (rv (X 2) (Y 2) (Z 2) (cR m 12 2) 1), Value.int .i64 (rv (X 2) (Y 2) (Z 2) (cR m 12 2) 2), Value.int .i64 (rv (X 2) (Y 2) (Z 2) (cR m 12 2) 3), Value.int .i64 (rv (X 3) (Y 3) (Z 3) (cR m 12 3) 0), Value.int .i64 (rv (X 3) (Y 3) (Z 3) (cR m 12 3) 1), Value.int .i64 (rv (X 3) (Y 3) (Z 3) (cR m 12 3) 2), Value.int .i64 (rv (X 3) (Y 3) (Z 3) (cR m 12 3) 3)] 122 (0, 0)) := by rw [rv3 (x := X 1) (y := Y 1) (z := Z 1) hc] at k1; exact k1
    have KL := Lib.hid k1
    have K3 := Lib.hid k3
    have q : parS X Y Z m (1 + 1) = parS X Y Z m 1 + det3 (rv (X 0) (Y 0) (Z 0) (cR m 12 0) 0) (rv (X 0) (Y 0) (Z 0) (cR m 12 0) 1) (rv (X 0) (Y 0) (Z 0) (cR m 12 0) 2) (rv (X 2) (Y 2) (Z 2) (cR m 12 2) 0) (rv (X 2) (Y 2) (Z 2) (cR m 12 2) 1) (rv (X 2) (Y 2) (Z 2) (cR m 12 2) 2) (rv (X 3) (Y 3) (Z 3) (cR m 12 3) 0) (rv (X 3) (Y 3) (Z 3) (cR m 12 3) 1) (rv (X 3) (Y 3) (Z 3) (cR m 12 3) 2) := by show parS X Y Z m 1 + (if cR m 12 1 = 0 then _ else 0) = _; rw [if_pos hc]; rfl
    have Q := Lib.hid q
    have HT3 := Lib.hid (orient_three (rv (X 0) (Y 0) (Z 0) (cR m 12 0) 0) (rv (X 0) (Y 0) (Z 0) (cR m 12 0) 1) (rv (X 0) (Y 0) (Z 0) (cR m 12 0) 2) (rv (X 2) (Y 2) (Z 2) (cR m 12 2) 0) (rv (X 2) (Y 2) (Z 2) (cR m 12 2) 1) (rv (X 2) (Y 2) (Z 2) (cR m 12 2) 2) (rv (X 3) (Y 3) (Z 3) (cR m 12 3) 0) (rv (X 3) (Y 3) (Z 3) (cR m 12 3) 1) (rv (X 3) (Y 3) (Z 3) (cR m 12 3) 2) (rv_I64 (hco.out 0 (by decide)) _ _) (rv_I64 (hco.out 0 (by decide)) _ _) (rv_I64 (hco.out 0 (by decide)) _ _) (rv_I64 (hco.out 2 (by decide)) _ _) (rv_I64 (hco.out 2 (by decide)) _ _) (rv_I64 (hco.out 2 (by decide)) _ _) (rv_I64 (hco.out 3 (by decide)) _ _) (rv_I64 (hco.out 3 (by decide)) _ _) (rv_I64 (hco.out 3 (by decide)) _ _))
    obtain ⟨kq, kr⟩ := cellB k1
    obtain ⟨S5, rfl⟩ : ∃ S, S = wr := ⟨_, rfl⟩
    have zb : w.heap.size + 1 < S5.heap.size := by omega
    clear q hc k1 k3
    go_wp2_with fail
    refine wp_loop_rounds 5 ?_
    rw [rounds_succ]
    go_wp2_with (first | (at_builtin; refine wpList_append_own _ rfl (.tmp 79) (.tmp 85) 123 rfl S5.heap.size 44 i0 (.agg #[.int .i64 0, .int .i64 0, .int .i64 0]) 3 24 uRows HI.out HZ0.out HZ1.out HZ2.out rfl (by decide) _ 0 [] (by rfl) (World.ownsRow_nil _ _ _ _) ⟨_, 0, none⟩ 1 1 [Value.int .i64 (rv (X 0) (Y 0) (Z 0) (cR m 12 0) 0), Value.int .i64 (rv (X 0) (Y 0) (Z 0) (cR m 12 0) 1), Value.int .i64 (rv (X 0) (Y 0) (Z 0) (cR m 12 0) 2)] (by rfl) (by rfl) (row3_new _ _ _ _ _) (ints3 _ _ _) (by decide) (by decide) (by simp) ?_; intro v1 w1 hq1 hq2 hq3) | fail)
    have hb1 : Hid (Below S5.heap.size S5 w1) := ((Below.refl _ _).alloc (Nat.le_refl _) _).grown hq2 (by simp) (fun k hk => by cases hk)
    have R1 : Hid (w1.ownsRow S5.heap.size 44 3 v1 1 [Value.int .i64 (rv (X 0) (Y 0) (Z 0) (cR m 12 0) 0), Value.int .i64 (rv (X 0) (Y 0) (Z 0) (cR m 12 0) 1), Value.int .i64 (rv (X 0) (Y 0) (Z 0) (cR m 12 0) 2)]) := hq1
    clear hq1 hq2 hq3 kq kr
    obtain ⟨kq, kr⟩ := cellB ((hb1.out.block _ zb).trans KL.out)
    have hs1 := hb1.out.size
    rw [rounds_succ]
    go_wp2_with fail
    rw [rounds_succ]
    go_wp2_with (first | (at_builtin; refine wpList_append_own _ rfl (.tmp 79) (.tmp 85) 123 rfl S5.heap.size 44 i0 (.agg #[.int .i64 0, .int .i64 0, .int .i64 0]) 3 24 uRows HI.out HZ0.out HZ1.out HZ2.out rfl (by decide) _ 1 [Value.int .i64 (rv (X 0) (Y 0) (Z 0) (cR m 12 0) 0), Value.int .i64 (rv (X 0) (Y 0) (Z 0) (cR m 12 0) 1), Value.int .i64 (rv (X 0) (Y 0) (Z 0) (cR m 12 0) 2)] (by rfl) (R1.out.alloc _) ⟨_, 0, none⟩ 1 1 [Value.int .i64 (rv (X 2) (Y 2) (Z 2) (cR m 12 2) 0), Value.int .i64 (rv (X 2) (Y 2) (Z 2) (cR m 12 2) 1), Value.int .i64 (rv (X 2) (Y 2) (Z 2) (cR m 12 2) 2)] (by rfl) (by rfl) (row3_new _ _ _ _ _) (ints3 _ _ _) (by decide) (by decide) (by have := hb1.out.size; simp; omega) ?_; intro v2 w2 hq1 hq2 hq3) | fail)
    have hb2 : Hid (Below S5.heap.size S5 w2) := (hb1.out.alloc hb1.out.size _).grown hq2 (by have := hb1.out.size; simp; omega) (fun k hk => (R1.out.lt k hk).1)
    have R2 : Hid (w2.ownsRow S5.heap.size 44 3 v2 2 [Value.int .i64 (rv (X 0) (Y 0) (Z 0) (cR m 12 0) 0), Value.int .i64 (rv (X 0) (Y 0) (Z 0) (cR m 12 0) 1), Value.int .i64 (rv (X 0) (Y 0) (Z 0) (cR m 12 0) 2), Value.int .i64 (rv (X 2) (Y 2) (Z 2) (cR m 12 2) 0), Value.int .i64 (rv (X 2) (Y 2) (Z 2) (cR m 12 2) 1), Value.int .i64 (rv (X 2) (Y 2) (Z 2) (cR m 12 2) 2)]) := hq1
    clear hb1 R1
    clear hq1 hq2 hq3 kq kr
    obtain ⟨kq, kr⟩ := cellB ((hb2.out.block _ zb).trans KL.out)
    have hs2 := hb2.out.size
    rw [rounds_succ]
    go_wp2_with (first | (at_builtin; refine wpList_append_own _ rfl (.tmp 79) (.tmp 85) 123 rfl S5.heap.size 44 i0 (.agg #[.int .i64 0, .int .i64 0, .int .i64 0]) 3 24 uRows HI.out HZ0.out HZ1.out HZ2.out rfl (by decide) _ 2 [Value.int .i64 (rv (X 0) (Y 0) (Z 0) (cR m 12 0) 0), Value.int .i64 (rv (X 0) (Y 0) (Z 0) (cR m 12 0) 1), Value.int .i64 (rv (X 0) (Y 0) (Z 0) (cR m 12 0) 2), Value.int .i64 (rv (X 2) (Y 2) (Z 2) (cR m 12 2) 0), Value.int .i64 (rv (X 2) (Y 2) (Z 2) (cR m 12 2) 1), Value.int .i64 (rv (X 2) (Y 2) (Z 2) (cR m 12 2) 2)] (by rfl) (R2.out.alloc _) ⟨_, 0, none⟩ 1 1 [Value.int .i64 (rv (X 3) (Y 3) (Z 3) (cR m 12 3) 0), Value.int .i64 (rv (X 3) (Y 3) (Z 3) (cR m 12 3) 1), Value.int .i64 (rv (X 3) (Y 3) (Z 3) (cR m 12 3) 2)] (by rfl) (by rfl) (row3_new _ _ _ _ _) (ints3 _ _ _) (by decide) (by decide) (by have := hb2.out.size; simp; omega) ?_; intro v3 w3 hq1 hq2 hq3) | fail)
    have hb3 : Hid (Below S5.heap.size S5 w3) := (hb2.out.alloc hb2.out.size _).grown hq2 (by have := hb2.out.size; simp; omega) (fun k hk => (R2.out.lt k hk).1)
    have R3 : Hid (w3.ownsRow S5.heap.size 44 3 v3 3 [Value.int .i64 (rv (X 0) (Y 0) (Z 0) (cR m 12 0) 0), Value.int .i64 (rv (X 0) (Y 0) (Z 0) (cR m 12 0) 1), Value.int .i64 (rv (X 0) (Y 0) (Z 0) (cR m 12 0) 2), Value.int .i64 (rv (X 2) (Y 2) (Z 2) (cR m 12 2) 0), Value.int .i64 (rv (X 2) (Y 2) (Z 2) (cR m 12 2) 1), Value.int .i64 (rv (X 2) (Y 2) (Z 2) (cR m 12 2) 2), Value.int .i64 (rv (X 3) (Y 3) (Z 3) (cR m 12 3) 0), Value.int .i64 (rv (X 3) (Y 3) (Z 3) (cR m 12 3) 1), Value.int .i64 (rv (X 3) (Y 3) (Z 3) (cR m 12 3) 2)]) := hq1
    clear hb2 R2
    clear hq1 hq2 hq3 kq kr
    obtain ⟨kq, kr⟩ := cellB ((hb3.out.block _ zb).trans KL.out)
    have hs3 := hb3.out.size
    rw [rounds_succ]
    go_wp2_with fail
    rcases R3.out.2 with ⟨_, h9⟩ | ⟨gg, cap, cur, rfl, hg1, hg2, hg3, hg4, hg5, hg6⟩
    · exact absurd h9 (by decide)
    have hgl : gg < w3.heap.size := (Array.getElem?_eq_some_iff.1 hg2).1
    have c0 : w3.cell? ⟨gg, 0, none⟩ = some (Value.int .i64 (rv (X 0) (Y 0) (Z 0) (cR m 12 0) 0)) := (R3.out.cellAt 0 (by decide)).trans rfl
    have c1 : w3.cell? ⟨gg, 1, none⟩ = some (Value.int .i64 (rv (X 0) (Y 0) (Z 0) (cR m 12 0) 1)) := (R3.out.cellAt 1 (by decide)).trans rfl
    have c2 : w3.cell? ⟨gg, 2, none⟩ = some (Value.int .i64 (rv (X 0) (Y 0) (Z 0) (cR m 12 0) 2)) := (R3.out.cellAt 2 (by decide)).trans rfl
    have c3 : w3.cell? ⟨gg, 3, none⟩ = some (Value.int .i64 (rv (X 2) (Y 2) (Z 2) (cR m 12 2) 0)) := (R3.out.cellAt 3 (by decide)).trans rfl
    have c4 : w3.cell? ⟨gg, 4, none⟩ = some (Value.int .i64 (rv (X 2) (Y 2) (Z 2) (cR m 12 2) 1)) := (R3.out.cellAt 4 (by decide)).trans rfl
    have c5 : w3.cell? ⟨gg, 5, none⟩ = some (Value.int .i64 (rv (X 2) (Y 2) (Z 2) (cR m 12 2) 2)) := (R3.out.cellAt 5 (by decide)).trans rfl
    have c6 : w3.cell? ⟨gg, 6, none⟩ = some (Value.int .i64 (rv (X 3) (Y 3) (Z 3) (cR m 12 3) 0)) := (R3.out.cellAt 6 (by decide)).trans rfl
    have c7 : w3.cell? ⟨gg, 7, none⟩ = some (Value.int .i64 (rv (X 3) (Y 3) (Z 3) (cR m 12 3) 1)) := (R3.out.cellAt 7 (by decide)).trans rfl
    have c8 : w3.cell? ⟨gg, 8, none⟩ = some (Value.int .i64 (rv (X 3) (Y 3) (Z 3) (cR m 12 3) 2)) := (R3.out.cellAt 8 (by decide)).trans rfl
    clear hg2 hg3 hg4 hg5 hg6 kq kr
    refine wp_calm1 10 (.cells #[.int .i64 0, .int .u64 0] 108) (some 15) (by kernel_rfl) (by kernel_rfl) rfl (fun o ho a w => by cases ho; go_simp) ?_
    intro C hC
    repeat (refine wpCalm_step (fun K hK => ?_); go_simp; first | (refine hK _ ?_; clear hK K) | (apply Exists.intro; refine ⟨fun wc hw => ?_, hK _ ?_⟩; (obtain ⟨hc, hf⟩ := bcell (hC wc hw); go_simp; first | with_reducible exact HT3.out wc | exact rfl); clear hK K))
    refine wpCalm_nil ?_
    clear hC C c0 c1 c2 c3 c4 c5 c6 c7 c8
    intro V b hX hb hblk
    simp only [List.drop_succ_cons, List.drop_zero]
    have hX5 : Below S5.heap.size S5 V := after' hb3.out hX hs3
    have n1 : w.heap.size + 1 ≠ b := by omega
    have n3 : S4.heap.size ≠ b := by omega
    have kb := hblk
    have zv : b < V.heap.size := (Array.getElem?_eq_some_iff.1 hblk).1
    have k3 : V.heap[S4.heap.size]? = some (.cells #[.int .i64 (hi (parS X Y Z m 1)), .int .u64 (lo (parS X Y Z m 1))] 108 (0, 0)) := (hX5.block _ hz).trans K3.out
    have hz5 : S4.heap.size < V.heap.size := Nat.lt_of_lt_of_le hz hX5.size
    have HX5 := Lib.hid hX5
    have bs : S5.heap.size ≤ b := by omega
    clear hblk hX hX5 hb hgl hg1 R3 hb3 HT3
    obtain ⟨lq, lr⟩ := cellB kb
    obtain ⟨mq, mr⟩ := cellB k3
    have KB := Lib.hid kb; have KS := Lib.hid k3
    clear kb k3
    go_wp2_with fail
    have zsb : w.heap.size ≤ S4.heap.size := by omega
    have hBV : Hid (Below w.heap.size w V) := after HB.out HX5.out
    have K1V : Hid (V.heap[w.heap.size + 1]? = some (.cells #[Value.int .i64 (rv (X 0) (Y 0) (Z 0) (cR m 12 0) 0), Value.int .i64 (rv (X 0) (Y 0) (Z 0) (cR m 12 0) 1), Value.int .i64 (rv (X 0) (Y 0) (Z 0) (cR m 12 0) 2), Value.int .i64 (rv (X 0) (Y 0) (Z 0) (cR m 12 0) 3), Value.int .i64 (rv (X 1) (Y 1) (Z 1) (cR m 12 1) 0), Value.int .i64 (rv (X 1) (Y 1) (Z 1) (cR m 12 1) 1), Value.int .i64 (rv (X 1) (Y 1) (Z 1) (cR m 12 1) 2), Value.int .i64 (rv (X 1) (Y 1) (Z 1) (cR m 12 1) 3), Value.int .i64 (rv (X 2) (Y 2) (Z 2) (cR m 12 2) 0), Value.int .i64 (rv (X 2) (Y 2) (Z 2) (cR m 12 2) 1), Value.int .i64 (rv (X 2) (Y 2) (Z 2) (cR m 12 2) 2), Value.int .i64 (rv (X 2) (Y 2) (Z 2) (cR m 12 2) 3), Value.int .i64 (rv (X 3) (Y 3) (Z 3) (cR m 12 3) 0), Value.int .i64 (rv (X 3) (Y 3) (Z 3) (cR m 12 3) 1), Value.int .i64 (rv (X 3) (Y 3) (Z 3) (cR m 12 3) 2), Value.int .i64 (rv (X 3) (Y 3) (Z 3) (cR m 12 3) 3)] 122 (0, 0))) := (HX5.out.block _ zb).trans K1.out
    have z1v : w.heap.size + 1 < V.heap.size := Nat.lt_of_lt_of_le zb HX5.out.size
    have wb : w.heap.size ≤ b := by omega
    first | refine wp_named ?_ | refine calls_named ?_
    intro V1 hV
    have kb : V1.heap[b]? = some (.cells #[.int .i64 (hi (det3 (rv (X 0) (Y 0) (Z 0) (cR m 12 0) 0) (rv (X 0) (Y 0) (Z 0) (cR m 12 0) 1) (rv (X 0) (Y 0) (Z 0) (cR m 12 0) 2) (rv (X 2) (Y 2) (Z 2) (cR m 12 2) 0) (rv (X 2) (Y 2) (Z 2) (cR m 12 2) 1) (rv (X 2) (Y 2) (Z 2) (cR m 12 2) 2) (rv (X 3) (Y 3) (Z 3) (cR m 12 3) 0) (rv (X 3) (Y 3) (Z 3) (cR m 12 3) 1) (rv (X 3) (Y 3) (Z 3) (cR m 12 3) 2))), .int .u64 (lo (det3 (rv (X 0) (Y 0) (Z 0) (cR m 12 0) 0) (rv (X 0) (Y 0) (Z 0) (cR m 12 0) 1) (rv (X 0) (Y 0) (Z 0) (cR m 12 0) 2) (rv (X 2) (Y 2) (Z 2) (cR m 12 2) 0) (rv (X 2) (Y 2) (Z 2) (cR m 12 2) 1) (rv (X 2) (Y 2) (Z 2) (cR m 12 2) 2) (rv (X 3) (Y 3) (Z 3) (cR m 12 3) 0) (rv (X 3) (Y 3) (Z 3) (cR m 12 3) 1) (rv (X 3) (Y 3) (Z 3) (cR m 12 3) 2)))] 108 (0, 0)) := by rw [hV]; refine Eq.trans (set_own (set_own KB.out _) _) ?_; simp
    have ks : V1.heap[S4.heap.size]? = some (.cells #[.int .i64 (hi (parS X Y Z m 1)), .int .u64 (lo (parS X Y Z m 1))] 108 (0, 0)) := by rw [hV]; exact (other_block n3).trans ((other_block n3).trans KS.out)
    have k1 : V1.heap[w.heap.size + 1]? = some (.cells #[Value.int .i64 (rv (X 0) (Y 0) (Z 0) (cR m 12 0) 0), Value.int .i64 (rv (X 0) (Y 0) (Z 0) (cR m 12 0) 1), Value.int .i64 (rv (X 0) (Y 0) (Z 0) (cR m 12 0) 2), Value.int .i64 (rv (X 0) (Y 0) (Z 0) (cR m 12 0) 3), Value.int .i64 (rv (X 1) (Y 1) (Z 1) (cR m 12 1) 0), Value.int .i64 (rv (X 1) (Y 1) (Z 1) (cR m 12 1) 1), Value.int .i64 (rv (X 1) (Y 1) (Z 1) (cR m 12 1) 2), Value.int .i64 (rv (X 1) (Y 1) (Z 1) (cR m 12 1) 3), Value.int .i64 (rv (X 2) (Y 2) (Z 2) (cR m 12 2) 0), Value.int .i64 (rv (X 2) (Y 2) (Z 2) (cR m 12 2) 1), Value.int .i64 (rv (X 2) (Y 2) (Z 2) (cR m 12 2) 2), Value.int .i64 (rv (X 2) (Y 2) (Z 2) (cR m 12 2) 3), Value.int .i64 (rv (X 3) (Y 3) (Z 3) (cR m 12 3) 0), Value.int .i64 (rv (X 3) (Y 3) (Z 3) (cR m 12 3) 1), Value.int .i64 (rv (X 3) (Y 3) (Z 3) (cR m 12 3) 2), Value.int .i64 (rv (X 3) (Y 3) (Z 3) (cR m 12 3) 3)] 122 (0, 0)) := by rw [hV]; exact (other_block n1).trans ((other_block n1).trans K1V.out)
    have hB : Below w.heap.size w V1 := by rw [hV]; exact (hBV.out.setCell wb _).setCell wb _
    have y1 : b < V1.heap.size := by rw [hV]; simpa using zv
    have y2 : S4.heap.size < V1.heap.size := by rw [hV]; simpa using hz5
    have y3 : w.heap.size + 1 < V1.heap.size := by rw [hV]; simpa using z1v
    clear hV lq lr mq mr KB KS K1V hBV HX5 z1v zv hz5 HB K1 KL K3 hz zb hs1 hs2 hs3
    refine (limb_Add (parS X Y Z m 1) (det3 (rv (X 0) (Y 0) (Z 0) (cR m 12 0) 0) (rv (X 0) (Y 0) (Z 0) (cR m 12 0) 1) (rv (X 0) (Y 0) (Z 0) (cR m 12 0) 2) (rv (X 2) (Y 2) (Z 2) (cR m 12 2) 0) (rv (X 2) (Y 2) (Z 2) (cR m 12 2) 1) (rv (X 2) (Y 2) (Z 2) (cR m 12 2) 2) (rv (X 3) (Y 3) (Z 3) (cR m 12 3) 0) (rv (X 3) (Y 3) (Z 3) (cR m 12 3) 1) (rv (X 3) (Y 3) (Z 3) (cR m 12 3) 2)) _).mono ?_; rintro e V4 ⟨rfl, hX⟩
    replace kb := (hX.block _ y1).trans kb; replace ks := (hX.block _ y2).trans ks; replace k1 := (hX.block _ y3).trans k1; replace hB := after hB hX
    replace y1 := Nat.lt_of_lt_of_le y1 hX.size; replace y2 := Nat.lt_of_lt_of_le y2 hX.size; replace y3 := Nat.lt_of_lt_of_le y3 hX.size
    clear hX
    obtain ⟨mq, mr⟩ := cellB ks
    have KS := Lib.hid ks; have K1 := Lib.hid k1; have HB := Lib.hid hB
    clear ks k1 hB kb
    go_wp2_with fail
    go_roundw
    case rel => first | exact ⟨1 + 1, by decide, by go_num, (by rw [Q.out]; refine Eq.trans (set_own (set_own KS.out _) _) ?_; simp), (other_block (by simp; omega)).trans ((other_block (by simp; omega)).trans K1.out), (HB.out.setCell zsb _).setCell zsb _, (by refine Lib.hid ?_; simpa using y2)⟩ | ((repeat apply Exists.intro); exact ⟨⟨1 + 1, by decide, by go_num, (by rw [Q.out]; refine Eq.trans (set_own (set_own KS.out _) _) ?_; simp), (other_block (by simp; omega)).trans ((other_block (by simp; omega)).trans K1.out), (HB.out.setCell zsb _).setCell zsb _, (by refine Lib.hid ?_; simpa using y2)⟩, rfl⟩)
    case measure => simp [intOf]
  · have k3 := H3.out
    have k1 := H1.out
    have hz := HZ.out
    have z1 := Z1.out
    clear H1 H3 HZ
    by_cases hc : cR m 12 2 = 0
    case neg =>
      have q : parS X Y Z m (2 + 1) = parS X Y Z m 2 := by show parS X Y Z m 2 + (if cR m 12 2 = 0 then _ else 0) = _; rw [if_neg hc]; omega
      have K1 := Lib.hid k1; have K3 := Lib.hid k3; have Q := Lib.hid q
      replace k1 : wr.heap[w.heap.size + 1]? = some (.cells #[Value.int .i64 (rv (X 0) (Y 0) (Z 0) (cR m 12 0) 0), Value.int .i64 (rv (X 0) (Y 0) (Z 0) (cR m 12 0) 1), Value.int .i64 (rv (X 0) (Y 0) (Z 0) (cR m 12 0) 2), Value.int .i64 (rv (X 0) (Y 0) (Z 0) (cR m 12 0) 3), Value.int .i64 (rv (X 1) (Y 1) (Z 1) (cR m 12 1) 0), Value.int .i64 (rv (X 1) (Y 1) (Z 1) (cR m 12 1) 1), Value.int .i64 (rv (X 1) (Y 1) (Z 1) (cR m 12 1) 2), Value.int .i64 (rv (X 1) (Y 1) (Z 1) (cR m 12 1) 3), Value.int .i64 (rv (X 2) (Y 2) (Z 2) (cR m 12 2) 0), Value.int .i64 (rv (X 2) (Y 2) (Z 2) (cR m 12 2) 1), Value.int .i64 (rv (X 2) (Y 2) (Z 2) (cR m 12 2) 2), Value.int .i64 0, Value.int .i64 (rv (X 3) (Y 3) (Z 3) (cR m 12 3) 0), Value.int .i64 (rv (X 3) (Y 3) (Z 3) (cR m 12 3) 1), Value.int .i64 (rv (X 3) (Y 3) (Z 3) (cR m 12 3) 2), Value.int .i64 (rv (X 3) (Y 3) (Z 3) (cR m 12 3) 3)] 122 (0, 0)) := by rw [rv3n (x := X 2) (y := Y 2) (z := Z 2) hc] at k1; exact k1
      obtain ⟨kq, kr⟩ := cellB k1
      clear k1 k3 q hc hco
      go_wp2_with fail
      go_roundw
      case rel => exact ⟨2 + 1, by decide, by go_num, (by rw [Q.out]; exact K3.out), K1.out, HB, hz⟩
      case measure => simp [intOf]
    have K1 := Lib.hid k1
    replace k1 : wr.heap[w.heap.size + 1]? = some (.cells #[Value.int .i64 (rv (X 0) (Y 0) (Z 0) (cR m 12 0) 0), Value.int .i64 (rv (X 0) (Y 0) (Z 0) (cR m 12 0) 1), Value.int .i64 (rv (X 0) (Y 0) (Z 0) (cR m 12 0) 2), Value.int .i64 (rv (X 0) (Y 0) (Z 0) (cR m 12 0) 3), Value.int .i64 (rv (X 1) (Y 1) (Z 1) (cR m 12 1) 0), Value.int .i64 (rv (X 1) (Y 1) (Z 1) (cR m 12 1) 1), Value.int .i64 (rv (X 1) (Y 1) (Z 1) (cR m 12 1) 2), Value.int .i64 (rv (X 1) (Y 1) (Z 1) (cR m 12 1) 3), Value.int .i64 (rv (X 2) (Y 2) (Z 2) (cR m 12 2) 0), Value.int .i64 (rv (X 2) (Y 2) (Z 2) (cR m 12 2) 1), Value.int .i64 (rv (X 2) (Y 2) (Z 2) (cR m 12 2) 2), Value.int .i64 1, Value.int .i64 (rv (X 3) (Y 3) (Z 3) (cR m 12 3) 0), Value.int .i64 (rv (X 3) (Y 3) (Z 3) (cR m 12 3) 1), Value.int .i64 (rv (X 3) (Y 3) (Z 3) (cR m 12 3) 2), Value.int .i64 (rv (X 3) (Y 3) (Z 3) (cR m 12 3) 3)] 122 (0, 0)) := by rw [rv3 (x := X 2) (y := Y 2) (z := Z 2) hc] at k1; exact k1
    have KL := Lib.hid k1
    have K3 := Lib.hid k3
    have q : parS X Y Z m (2 + 1) = parS X Y Z m 2 + -(det3 (rv (X 0) (Y 0) (Z 0) (cR m 12 0) 0) (rv (X 0) (Y 0) (Z 0) (cR m 12 0) 1) (rv (X 0) (Y 0) (Z 0) (cR m 12 0) 2) (rv (X 1) (Y 1) (Z 1) (cR m 12 1) 0) (rv (X 1) (Y 1) (Z 1) (cR m 12 1) 1) (rv (X 1) (Y 1) (Z 1) (cR m 12 1) 2) (rv (X 3) (Y 3) (Z 3) (cR m 12 3) 0) (rv (X 3) (Y 3) (Z 3) (cR m 12 3) 1) (rv (X 3) (Y 3) (Z 3) (cR m 12 3) 2)) := by show parS X Y Z m 2 + (if cR m 12 2 = 0 then _ else 0) = _; rw [if_pos hc]; rfl
    have Q := Lib.hid q
    have HT3 := Lib.hid (orient_three (rv (X 0) (Y 0) (Z 0) (cR m 12 0) 0) (rv (X 0) (Y 0) (Z 0) (cR m 12 0) 1) (rv (X 0) (Y 0) (Z 0) (cR m 12 0) 2) (rv (X 1) (Y 1) (Z 1) (cR m 12 1) 0) (rv (X 1) (Y 1) (Z 1) (cR m 12 1) 1) (rv (X 1) (Y 1) (Z 1) (cR m 12 1) 2) (rv (X 3) (Y 3) (Z 3) (cR m 12 3) 0) (rv (X 3) (Y 3) (Z 3) (cR m 12 3) 1) (rv (X 3) (Y 3) (Z 3) (cR m 12 3) 2) (rv_I64 (hco.out 0 (by decide)) _ _) (rv_I64 (hco.out 0 (by decide)) _ _) (rv_I64 (hco.out 0 (by decide)) _ _) (rv_I64 (hco.out 1 (by decide)) _ _) (rv_I64 (hco.out 1 (by decide)) _ _) (rv_I64 (hco.out 1 (by decide)) _ _) (rv_I64 (hco.out 3 (by decide)) _ _) (rv_I64 (hco.out 3 (by decide)) _ _) (rv_I64 (hco.out 3 (by decide)) _ _))
    obtain ⟨kq, kr⟩ := cellB k1
    obtain ⟨S5, rfl⟩ : ∃ S, S = wr := ⟨_, rfl⟩
    have zb : w.heap.size + 1 < S5.heap.size := by omega
    clear q hc k1 k3
    go_wp2_with fail
    refine wp_loop_rounds 5 ?_
    rw [rounds_succ]
    go_wp2_with (first | (at_builtin; refine wpList_append_own _ rfl (.tmp 79) (.tmp 85) 123 rfl S5.heap.size 44 i0 (.agg #[.int .i64 0, .int .i64 0, .int .i64 0]) 3 24 uRows HI.out HZ0.out HZ1.out HZ2.out rfl (by decide) _ 0 [] (by rfl) (World.ownsRow_nil _ _ _ _) ⟨_, 0, none⟩ 1 1 [Value.int .i64 (rv (X 0) (Y 0) (Z 0) (cR m 12 0) 0), Value.int .i64 (rv (X 0) (Y 0) (Z 0) (cR m 12 0) 1), Value.int .i64 (rv (X 0) (Y 0) (Z 0) (cR m 12 0) 2)] (by rfl) (by rfl) (row3_new _ _ _ _ _) (ints3 _ _ _) (by decide) (by decide) (by simp) ?_; intro v1 w1 hq1 hq2 hq3) | fail)
    have hb1 : Hid (Below S5.heap.size S5 w1) := ((Below.refl _ _).alloc (Nat.le_refl _) _).grown hq2 (by simp) (fun k hk => by cases hk)
    have R1 : Hid (w1.ownsRow S5.heap.size 44 3 v1 1 [Value.int .i64 (rv (X 0) (Y 0) (Z 0) (cR m 12 0) 0), Value.int .i64 (rv (X 0) (Y 0) (Z 0) (cR m 12 0) 1), Value.int .i64 (rv (X 0) (Y 0) (Z 0) (cR m 12 0) 2)]) := hq1
    clear hq1 hq2 hq3 kq kr
    obtain ⟨kq, kr⟩ := cellB ((hb1.out.block _ zb).trans KL.out)
    have hs1 := hb1.out.size
    rw [rounds_succ]
    go_wp2_with (first | (at_builtin; refine wpList_append_own _ rfl (.tmp 79) (.tmp 85) 123 rfl S5.heap.size 44 i0 (.agg #[.int .i64 0, .int .i64 0, .int .i64 0]) 3 24 uRows HI.out HZ0.out HZ1.out HZ2.out rfl (by decide) _ 1 [Value.int .i64 (rv (X 0) (Y 0) (Z 0) (cR m 12 0) 0), Value.int .i64 (rv (X 0) (Y 0) (Z 0) (cR m 12 0) 1), Value.int .i64 (rv (X 0) (Y 0) (Z 0) (cR m 12 0) 2)] (by rfl) (R1.out.alloc _) ⟨_, 0, none⟩ 1 1 [Value.int .i64 (rv (X 1) (Y 1) (Z 1) (cR m 12 1) 0), Value.int .i64 (rv (X 1) (Y 1) (Z 1) (cR m 12 1) 1), Value.int .i64 (rv (X 1) (Y 1) (Z 1) (cR m 12 1) 2)] (by rfl) (by rfl) (row3_new _ _ _ _ _) (ints3 _ _ _) (by decide) (by decide) (by have := hb1.out.size; simp; omega) ?_; intro v2 w2 hq1 hq2 hq3) | fail)
    have hb2 : Hid (Below S5.heap.size S5 w2) := (hb1.out.alloc hb1.out.size _).grown hq2 (by have := hb1.out.size; simp; omega) (fun k hk => (R1.out.lt k hk).1)
    have R2 : Hid (w2.ownsRow S5.heap.size 44 3 v2 2 [Value.int .i64 (rv (X 0) (Y 0) (Z 0) (cR m 12 0) 0), Value.int .i64 (rv (X 0) (Y 0) (Z 0) (cR m 12 0) 1), Value.int .i64 (rv (X 0) (Y 0) (Z 0) (cR m 12 0) 2), Value.int .i64 (rv (X 1) (Y 1) (Z 1) (cR m 12 1) 0), Value.int .i64 (rv (X 1) (Y 1) (Z 1) (cR m 12 1) 1), Value.int .i64 (rv (X 1) (Y 1) (Z 1) (cR m 12 1) 2)]) := hq1
    clear hb1 R1
    clear hq1 hq2 hq3 kq kr
    obtain ⟨kq, kr⟩ := cellB ((hb2.out.block _ zb).trans KL.out)
    have hs2 := hb2.out.size
    rw [rounds_succ]
    go_wp2_with fail
    rw [rounds_succ]
    go_wp2_with (first | (at_builtin; refine wpList_append_own _ rfl (.tmp 79) (.tmp 85) 123 rfl S5.heap.size 44 i0 (.agg #[.int .i64 0, .int .i64 0, .int .i64 0]) 3 24 uRows HI.out HZ0.out HZ1.out HZ2.out rfl (by decide) _ 2 [Value.int .i64 (rv (X 0) (Y 0) (Z 0) (cR m 12 0) 0), Value.int .i64 (rv (X 0) (Y 0) (Z 0) (cR m 12 0) 1), Value.int .i64 (rv (X 0) (Y 0) (Z 0) (cR m 12 0) 2), Value.int .i64 (rv (X 1) (Y 1) (Z 1) (cR m 12 1) 0), Value.int .i64 (rv (X 1) (Y 1) (Z 1) (cR m 12 1) 1), Value.int .i64 (rv (X 1) (Y 1) (Z 1) (cR m 12 1) 2)] (by rfl) (R2.out.alloc _) ⟨_, 0, none⟩ 1 1 [Value.int .i64 (rv (X 3) (Y 3) (Z 3) (cR m 12 3) 0), Value.int .i64 (rv (X 3) (Y 3) (Z 3) (cR m 12 3) 1), Value.int .i64 (rv (X 3) (Y 3) (Z 3) (cR m 12 3) 2)] (by rfl) (by rfl) (row3_new _ _ _ _ _) (ints3 _ _ _) (by decide) (by decide) (by have := hb2.out.size; simp; omega) ?_; intro v3 w3 hq1 hq2 hq3) | fail)
    have hb3 : Hid (Below S5.heap.size S5 w3) := (hb2.out.alloc hb2.out.size _).grown hq2 (by have := hb2.out.size; simp; omega) (fun k hk => (R2.out.lt k hk).1)
    have R3 : Hid (w3.ownsRow S5.heap.size 44 3 v3 3 [Value.int .i64 (rv (X 0) (Y 0) (Z 0) (cR m 12 0) 0), Value.int .i64 (rv (X 0) (Y 0) (Z 0) (cR m 12 0) 1), Value.int .i64 (rv (X 0) (Y 0) (Z 0) (cR m 12 0) 2), Value.int .i64 (rv (X 1) (Y 1) (Z 1) (cR m 12 1) 0), Value.int .i64 (rv (X 1) (Y 1) (Z 1) (cR m 12 1) 1), Value.int .i64 (rv (X 1) (Y 1) (Z 1) (cR m 12 1) 2), Value.int .i64 (rv (X 3) (Y 3) (Z 3) (cR m 12 3) 0), Value.int .i64 (rv (X 3) (Y 3) (Z 3) (cR m 12 3) 1), Value.int .i64 (rv (X 3) (Y 3) (Z 3) (cR m 12 3) 2)]) := hq1
    clear hb2 R2
    clear hq1 hq2 hq3 kq kr
    obtain ⟨kq, kr⟩ := cellB ((hb3.out.block _ zb).trans KL.out)
    have hs3 := hb3.out.size
    rw [rounds_succ]
    go_wp2_with fail
    rcases R3.out.2 with ⟨_, h9⟩ | ⟨gg, cap, cur, rfl, hg1, hg2, hg3, hg4, hg5, hg6⟩
    · exact absurd h9 (by decide)
    have hgl : gg < w3.heap.size := (Array.getElem?_eq_some_iff.1 hg2).1
    have c0 : w3.cell? ⟨gg, 0, none⟩ = some (Value.int .i64 (rv (X 0) (Y 0) (Z 0) (cR m 12 0) 0)) := (R3.out.cellAt 0 (by decide)).trans rfl
    have c1 : w3.cell? ⟨gg, 1, none⟩ = some (Value.int .i64 (rv (X 0) (Y 0) (Z 0) (cR m 12 0) 1)) := (R3.out.cellAt 1 (by decide)).trans rfl
    have c2 : w3.cell? ⟨gg, 2, none⟩ = some (Value.int .i64 (rv (X 0) (Y 0) (Z 0) (cR m 12 0) 2)) := (R3.out.cellAt 2 (by decide)).trans rfl
    have c3 : w3.cell? ⟨gg, 3, none⟩ = some (Value.int .i64 (rv (X 1) (Y 1) (Z 1) (cR m 12 1) 0)) := (R3.out.cellAt 3 (by decide)).trans rfl
    have c4 : w3.cell? ⟨gg, 4, none⟩ = some (Value.int .i64 (rv (X 1) (Y 1) (Z 1) (cR m 12 1) 1)) := (R3.out.cellAt 4 (by decide)).trans rfl
    have c5 : w3.cell? ⟨gg, 5, none⟩ = some (Value.int .i64 (rv (X 1) (Y 1) (Z 1) (cR m 12 1) 2)) := (R3.out.cellAt 5 (by decide)).trans rfl
    have c6 : w3.cell? ⟨gg, 6, none⟩ = some (Value.int .i64 (rv (X 3) (Y 3) (Z 3) (cR m 12 3) 0)) := (R3.out.cellAt 6 (by decide)).trans rfl
    have c7 : w3.cell? ⟨gg, 7, none⟩ = some (Value.int .i64 (rv (X 3) (Y 3) (Z 3) (cR m 12 3) 1)) := (R3.out.cellAt 7 (by decide)).trans rfl
    have c8 : w3.cell? ⟨gg, 8, none⟩ = some (Value.int .i64 (rv (X 3) (Y 3) (Z 3) (cR m 12 3) 2)) := (R3.out.cellAt 8 (by decide)).trans rfl
    clear hg2 hg3 hg4 hg5 hg6 kq kr
    refine wp_calm1 10 (.cells #[.int .i64 0, .int .u64 0] 108) (some 15) (by kernel_rfl) (by kernel_rfl) rfl (fun o ho a w => by cases ho; go_simp) ?_
    intro C hC
    repeat (refine wpCalm_step (fun K hK => ?_); go_simp; first | (refine hK _ ?_; clear hK K) | (apply Exists.intro; refine ⟨fun wc hw => ?_, hK _ ?_⟩; (obtain ⟨hc, hf⟩ := bcell (hC wc hw); go_simp; first | with_reducible exact HT3.out wc | exact rfl); clear hK K))
    refine wpCalm_nil ?_
    clear hC C c0 c1 c2 c3 c4 c5 c6 c7 c8
    intro V b hX hb hblk
    simp only [List.drop_succ_cons, List.drop_zero]
    have hX5 : Below S5.heap.size S5 V := after' hb3.out hX hs3
    have n1 : w.heap.size + 1 ≠ b := by omega
    have n3 : S4.heap.size ≠ b := by omega
    have kb := hblk
    have zv : b < V.heap.size := (Array.getElem?_eq_some_iff.1 hblk).1
    have k3 : V.heap[S4.heap.size]? = some (.cells #[.int .i64 (hi (parS X Y Z m 2)), .int .u64 (lo (parS X Y Z m 2))] 108 (0, 0)) := (hX5.block _ hz).trans K3.out
    have hz5 : S4.heap.size < V.heap.size := Nat.lt_of_lt_of_le hz hX5.size
    have HX5 := Lib.hid hX5
    have bs : S5.heap.size ≤ b := by omega
    clear hblk hX hX5 hb hgl hg1 R3 hb3 HT3
    obtain ⟨lq, lr⟩ := cellB kb
    obtain ⟨mq, mr⟩ := cellB k3
    have KB := Lib.hid kb; have KS := Lib.hid k3
    clear kb k3
    go_wp2_with fail
    have zsb : w.heap.size ≤ S4.heap.size := by omega
    have hBV : Hid (Below w.heap.size w V) := after HB.out HX5.out
    have K1V : Hid (V.heap[w.heap.size + 1]? = some (.cells #[Value.int .i64 (rv (X 0) (Y 0) (Z 0) (cR m 12 0) 0), Value.int .i64 (rv (X 0) (Y 0) (Z 0) (cR m 12 0) 1), Value.int .i64 (rv (X 0) (Y 0) (Z 0) (cR m 12 0) 2), Value.int .i64 (rv (X 0) (Y 0) (Z 0) (cR m 12 0) 3), Value.int .i64 (rv (X 1) (Y 1) (Z 1) (cR m 12 1) 0), Value.int .i64 (rv (X 1) (Y 1) (Z 1) (cR m 12 1) 1), Value.int .i64 (rv (X 1) (Y 1) (Z 1) (cR m 12 1) 2), Value.int .i64 (rv (X 1) (Y 1) (Z 1) (cR m 12 1) 3), Value.int .i64 (rv (X 2) (Y 2) (Z 2) (cR m 12 2) 0), Value.int .i64 (rv (X 2) (Y 2) (Z 2) (cR m 12 2) 1), Value.int .i64 (rv (X 2) (Y 2) (Z 2) (cR m 12 2) 2), Value.int .i64 (rv (X 2) (Y 2) (Z 2) (cR m 12 2) 3), Value.int .i64 (rv (X 3) (Y 3) (Z 3) (cR m 12 3) 0), Value.int .i64 (rv (X 3) (Y 3) (Z 3) (cR m 12 3) 1), Value.int .i64 (rv (X 3) (Y 3) (Z 3) (cR m 12 3) 2), Value.int .i64 (rv (X 3) (Y 3) (Z 3) (cR m 12 3) 3)] 122 (0, 0))) := (HX5.out.block _ zb).trans K1.out
    have z1v : w.heap.size + 1 < V.heap.size := Nat.lt_of_lt_of_le zb HX5.out.size
    have wb : w.heap.size ≤ b := by omega
    first | refine wp_named ?_ | refine calls_named ?_
    intro V1 hV
    have kb : V1.heap[b]? = some (.cells #[.int .i64 (hi (det3 (rv (X 0) (Y 0) (Z 0) (cR m 12 0) 0) (rv (X 0) (Y 0) (Z 0) (cR m 12 0) 1) (rv (X 0) (Y 0) (Z 0) (cR m 12 0) 2) (rv (X 1) (Y 1) (Z 1) (cR m 12 1) 0) (rv (X 1) (Y 1) (Z 1) (cR m 12 1) 1) (rv (X 1) (Y 1) (Z 1) (cR m 12 1) 2) (rv (X 3) (Y 3) (Z 3) (cR m 12 3) 0) (rv (X 3) (Y 3) (Z 3) (cR m 12 3) 1) (rv (X 3) (Y 3) (Z 3) (cR m 12 3) 2))), .int .u64 (lo (det3 (rv (X 0) (Y 0) (Z 0) (cR m 12 0) 0) (rv (X 0) (Y 0) (Z 0) (cR m 12 0) 1) (rv (X 0) (Y 0) (Z 0) (cR m 12 0) 2) (rv (X 1) (Y 1) (Z 1) (cR m 12 1) 0) (rv (X 1) (Y 1) (Z 1) (cR m 12 1) 1) (rv (X 1) (Y 1) (Z 1) (cR m 12 1) 2) (rv (X 3) (Y 3) (Z 3) (cR m 12 3) 0) (rv (X 3) (Y 3) (Z 3) (cR m 12 3) 1) (rv (X 3) (Y 3) (Z 3) (cR m 12 3) 2)))] 108 (0, 0)) := by rw [hV]; refine Eq.trans (set_own (set_own KB.out _) _) ?_; simp
    have ks : V1.heap[S4.heap.size]? = some (.cells #[.int .i64 (hi (parS X Y Z m 2)), .int .u64 (lo (parS X Y Z m 2))] 108 (0, 0)) := by rw [hV]; exact (other_block n3).trans ((other_block n3).trans KS.out)
    have k1 : V1.heap[w.heap.size + 1]? = some (.cells #[Value.int .i64 (rv (X 0) (Y 0) (Z 0) (cR m 12 0) 0), Value.int .i64 (rv (X 0) (Y 0) (Z 0) (cR m 12 0) 1), Value.int .i64 (rv (X 0) (Y 0) (Z 0) (cR m 12 0) 2), Value.int .i64 (rv (X 0) (Y 0) (Z 0) (cR m 12 0) 3), Value.int .i64 (rv (X 1) (Y 1) (Z 1) (cR m 12 1) 0), Value.int .i64 (rv (X 1) (Y 1) (Z 1) (cR m 12 1) 1), Value.int .i64 (rv (X 1) (Y 1) (Z 1) (cR m 12 1) 2), Value.int .i64 (rv (X 1) (Y 1) (Z 1) (cR m 12 1) 3), Value.int .i64 (rv (X 2) (Y 2) (Z 2) (cR m 12 2) 0), Value.int .i64 (rv (X 2) (Y 2) (Z 2) (cR m 12 2) 1), Value.int .i64 (rv (X 2) (Y 2) (Z 2) (cR m 12 2) 2), Value.int .i64 (rv (X 2) (Y 2) (Z 2) (cR m 12 2) 3), Value.int .i64 (rv (X 3) (Y 3) (Z 3) (cR m 12 3) 0), Value.int .i64 (rv (X 3) (Y 3) (Z 3) (cR m 12 3) 1), Value.int .i64 (rv (X 3) (Y 3) (Z 3) (cR m 12 3) 2), Value.int .i64 (rv (X 3) (Y 3) (Z 3) (cR m 12 3) 3)] 122 (0, 0)) := by rw [hV]; exact (other_block n1).trans ((other_block n1).trans K1V.out)
    have hB : Below w.heap.size w V1 := by rw [hV]; exact (hBV.out.setCell wb _).setCell wb _
    have y1 : b < V1.heap.size := by rw [hV]; simpa using zv
    have y2 : S4.heap.size < V1.heap.size := by rw [hV]; simpa using hz5
    have y3 : w.heap.size + 1 < V1.heap.size := by rw [hV]; simpa using z1v
    clear hV lq lr mq mr KB KS K1V hBV HX5 z1v zv hz5 HB K1 KL K3 hz zb hs1 hs2 hs3
    refine (limb_Neg (det3 (rv (X 0) (Y 0) (Z 0) (cR m 12 0) 0) (rv (X 0) (Y 0) (Z 0) (cR m 12 0) 1) (rv (X 0) (Y 0) (Z 0) (cR m 12 0) 2) (rv (X 1) (Y 1) (Z 1) (cR m 12 1) 0) (rv (X 1) (Y 1) (Z 1) (cR m 12 1) 1) (rv (X 1) (Y 1) (Z 1) (cR m 12 1) 2) (rv (X 3) (Y 3) (Z 3) (cR m 12 3) 0) (rv (X 3) (Y 3) (Z 3) (cR m 12 3) 1) (rv (X 3) (Y 3) (Z 3) (cR m 12 3) 2)) _).mono ?_; rintro e V2 ⟨rfl, hX⟩
    replace kb := (hX.block _ y1).trans kb; replace ks := (hX.block _ y2).trans ks; replace k1 := (hX.block _ y3).trans k1; replace hB := after hB hX
    replace y1 := Nat.lt_of_lt_of_le y1 hX.size; replace y2 := Nat.lt_of_lt_of_le y2 hX.size; replace y3 := Nat.lt_of_lt_of_le y3 hX.size
    clear hX
    obtain ⟨lq, lr⟩ := cellB kb
    obtain ⟨mq, mr⟩ := cellB ks
    go_wp2_with fail
    first | refine wp_named ?_ | refine calls_named ?_
    intro V3 hV
    replace ks : V3.heap[S4.heap.size]? = some (.cells #[.int .i64 (hi (parS X Y Z m 2)), .int .u64 (lo (parS X Y Z m 2))] 108 (0, 0)) := by rw [hV]; exact (other_block n3).trans ((other_block n3).trans ks)
    replace k1 : V3.heap[w.heap.size + 1]? = some (.cells #[Value.int .i64 (rv (X 0) (Y 0) (Z 0) (cR m 12 0) 0), Value.int .i64 (rv (X 0) (Y 0) (Z 0) (cR m 12 0) 1), Value.int .i64 (rv (X 0) (Y 0) (Z 0) (cR m 12 0) 2), Value.int .i64 (rv (X 0) (Y 0) (Z 0) (cR m 12 0) 3), Value.int .i64 (rv (X 1) (Y 1) (Z 1) (cR m 12 1) 0), Value.int .i64 (rv (X 1) (Y 1) (Z 1) (cR m 12 1) 1), Value.int .i64 (rv (X 1) (Y 1) (Z 1) (cR m 12 1) 2), Value.int .i64 (rv (X 1) (Y 1) (Z 1) (cR m 12 1) 3), Value.int .i64 (rv (X 2) (Y 2) (Z 2) (cR m 12 2) 0), Value.int .i64 (rv (X 2) (Y 2) (Z 2) (cR m 12 2) 1), Value.int .i64 (rv (X 2) (Y 2) (Z 2) (cR m 12 2) 2), Value.int .i64 (rv (X 2) (Y 2) (Z 2) (cR m 12 2) 3), Value.int .i64 (rv (X 3) (Y 3) (Z 3) (cR m 12 3) 0), Value.int .i64 (rv (X 3) (Y 3) (Z 3) (cR m 12 3) 1), Value.int .i64 (rv (X 3) (Y 3) (Z 3) (cR m 12 3) 2), Value.int .i64 (rv (X 3) (Y 3) (Z 3) (cR m 12 3) 3)] 122 (0, 0)) := by rw [hV]; exact (other_block n1).trans ((other_block n1).trans k1)
    replace kb : V3.heap[b]? = some (.cells #[.int .i64 (hi (-(det3 (rv (X 0) (Y 0) (Z 0) (cR m 12 0) 0) (rv (X 0) (Y 0) (Z 0) (cR m 12 0) 1) (rv (X 0) (Y 0) (Z 0) (cR m 12 0) 2) (rv (X 1) (Y 1) (Z 1) (cR m 12 1) 0) (rv (X 1) (Y 1) (Z 1) (cR m 12 1) 1) (rv (X 1) (Y 1) (Z 1) (cR m 12 1) 2) (rv (X 3) (Y 3) (Z 3) (cR m 12 3) 0) (rv (X 3) (Y 3) (Z 3) (cR m 12 3) 1) (rv (X 3) (Y 3) (Z 3) (cR m 12 3) 2)))), .int .u64 (lo (-(det3 (rv (X 0) (Y 0) (Z 0) (cR m 12 0) 0) (rv (X 0) (Y 0) (Z 0) (cR m 12 0) 1) (rv (X 0) (Y 0) (Z 0) (cR m 12 0) 2) (rv (X 1) (Y 1) (Z 1) (cR m 12 1) 0) (rv (X 1) (Y 1) (Z 1) (cR m 12 1) 1) (rv (X 1) (Y 1) (Z 1) (cR m 12 1) 2) (rv (X 3) (Y 3) (Z 3) (cR m 12 3) 0) (rv (X 3) (Y 3) (Z 3) (cR m 12 3) 1) (rv (X 3) (Y 3) (Z 3) (cR m 12 3) 2))))] 108 (0, 0)) := by rw [hV]; refine Eq.trans (set_own (set_own kb _) _) ?_; simp
    replace hB : Below w.heap.size w V3 := by rw [hV]; exact (hB.setCell wb _).setCell wb _
    replace y1 : b < V3.heap.size := by rw [hV]; simpa using y1
    replace y2 : S4.heap.size < V3.heap.size := by rw [hV]; simpa using y2
    replace y3 : w.heap.size + 1 < V3.heap.size := by rw [hV]; simpa using y3
    clear hV lq lr mq mr
    refine (limb_Add (parS X Y Z m 2) (-(det3 (rv (X 0) (Y 0) (Z 0) (cR m 12 0) 0) (rv (X 0) (Y 0) (Z 0) (cR m 12 0) 1) (rv (X 0) (Y 0) (Z 0) (cR m 12 0) 2) (rv (X 1) (Y 1) (Z 1) (cR m 12 1) 0) (rv (X 1) (Y 1) (Z 1) (cR m 12 1) 1) (rv (X 1) (Y 1) (Z 1) (cR m 12 1) 2) (rv (X 3) (Y 3) (Z 3) (cR m 12 3) 0) (rv (X 3) (Y 3) (Z 3) (cR m 12 3) 1) (rv (X 3) (Y 3) (Z 3) (cR m 12 3) 2))) _).mono ?_; rintro e V4 ⟨rfl, hX⟩
    replace kb := (hX.block _ y1).trans kb; replace ks := (hX.block _ y2).trans ks; replace k1 := (hX.block _ y3).trans k1; replace hB := after hB hX
    replace y1 := Nat.lt_of_lt_of_le y1 hX.size; replace y2 := Nat.lt_of_lt_of_le y2 hX.size; replace y3 := Nat.lt_of_lt_of_le y3 hX.size
    clear hX
    obtain ⟨mq, mr⟩ := cellB ks
    have KS := Lib.hid ks; have K1 := Lib.hid k1; have HB := Lib.hid hB
    clear ks k1 hB kb
    go_wp2_with fail
    go_roundw
    case rel => first | exact ⟨2 + 1, by decide, by go_num, (by rw [Q.out]; refine Eq.trans (set_own (set_own KS.out _) _) ?_; simp), (other_block (by simp; omega)).trans ((other_block (by simp; omega)).trans K1.out), (HB.out.setCell zsb _).setCell zsb _, (by refine Lib.hid ?_; simpa using y2)⟩ | ((repeat apply Exists.intro); exact ⟨⟨2 + 1, by decide, by go_num, (by rw [Q.out]; refine Eq.trans (set_own (set_own KS.out _) _) ?_; simp), (other_block (by simp; omega)).trans ((other_block (by simp; omega)).trans K1.out), (HB.out.setCell zsb _).setCell zsb _, (by refine Lib.hid ?_; simpa using y2)⟩, rfl⟩)
    case measure => simp [intOf]
  · have k3 := H3.out
    have k1 := H1.out
    have hz := HZ.out
    have z1 := Z1.out
    clear H1 H3 HZ
    by_cases hc : cR m 12 3 = 0
    case neg =>
      have q : parS X Y Z m (3 + 1) = parS X Y Z m 3 := by show parS X Y Z m 3 + (if cR m 12 3 = 0 then _ else 0) = _; rw [if_neg hc]; omega
      have K1 := Lib.hid k1; have K3 := Lib.hid k3; have Q := Lib.hid q
      replace k1 : wr.heap[w.heap.size + 1]? = some (.cells #[Value.int .i64 (rv (X 0) (Y 0) (Z 0) (cR m 12 0) 0), Value.int .i64 (rv (X 0) (Y 0) (Z 0) (cR m 12 0) 1), Value.int .i64 (rv (X 0) (Y 0) (Z 0) (cR m 12 0) 2), Value.int .i64 (rv (X 0) (Y 0) (Z 0) (cR m 12 0) 3), Value.int .i64 (rv (X 1) (Y 1) (Z 1) (cR m 12 1) 0), Value.int .i64 (rv (X 1) (Y 1) (Z 1) (cR m 12 1) 1), Value.int .i64 (rv (X 1) (Y 1) (Z 1) (cR m 12 1) 2), Value.int .i64 (rv (X 1) (Y 1) (Z 1) (cR m 12 1) 3), Value.int .i64 (rv (X 2) (Y 2) (Z 2) (cR m 12 2) 0), Value.int .i64 (rv (X 2) (Y 2) (Z 2) (cR m 12 2) 1), Value.int .i64 (rv (X 2) (Y 2) (Z 2) (cR m 12 2) 2), Value.int .i64 (rv (X 2) (Y 2) (Z 2) (cR m 12 2) 3), Value.int .i64 (rv (X 3) (Y 3) (Z 3) (cR m 12 3) 0), Value.int .i64 (rv (X 3) (Y 3) (Z 3) (cR m 12 3) 1), Value.int .i64 (rv (X 3) (Y 3) (Z 3) (cR m 12 3) 2), Value.int .i64 0] 122 (0, 0)) := by rw [rv3n (x := X 3) (y := Y 3) (z := Z 3) hc] at k1; exact k1
      obtain ⟨kq, kr⟩ := cellB k1
      clear k1 k3 q hc hco
      go_wp2_with fail
      go_roundw
      case rel => exact ⟨3 + 1, by decide, by go_num, (by rw [Q.out]; exact K3.out), K1.out, HB, hz⟩
      case measure => simp [intOf]
    have K1 := Lib.hid k1
    replace k1 : wr.heap[w.heap.size + 1]? = some (.cells #[Value.int .i64 (rv (X 0) (Y 0) (Z 0) (cR m 12 0) 0), Value.int .i64 (rv (X 0) (Y 0) (Z 0) (cR m 12 0) 1), Value.int .i64 (rv (X 0) (Y 0) (Z 0) (cR m 12 0) 2), Value.int .i64 (rv (X 0) (Y 0) (Z 0) (cR m 12 0) 3), Value.int .i64 (rv (X 1) (Y 1) (Z 1) (cR m 12 1) 0), Value.int .i64 (rv (X 1) (Y 1) (Z 1) (cR m 12 1) 1), Value.int .i64 (rv (X 1) (Y 1) (Z 1) (cR m 12 1) 2), Value.int .i64 (rv (X 1) (Y 1) (Z 1) (cR m 12 1) 3), Value.int .i64 (rv (X 2) (Y 2) (Z 2) (cR m 12 2) 0), Value.int .i64 (rv (X 2) (Y 2) (Z 2) (cR m 12 2) 1), Value.int .i64 (rv (X 2) (Y 2) (Z 2) (cR m 12 2) 2), Value.int .i64 (rv (X 2) (Y 2) (Z 2) (cR m 12 2) 3), Value.int .i64 (rv (X 3) (Y 3) (Z 3) (cR m 12 3) 0), Value.int .i64 (rv (X 3) (Y 3) (Z 3) (cR m 12 3) 1), Value.int .i64 (rv (X 3) (Y 3) (Z 3) (cR m 12 3) 2), Value.int .i64 1] 122 (0, 0)) := by rw [rv3 (x := X 3) (y := Y 3) (z := Z 3) hc] at k1; exact k1
    have KL := Lib.hid k1
    have K3 := Lib.hid k3
    have q : parS X Y Z m (3 + 1) = parS X Y Z m 3 + det3 (rv (X 0) (Y 0) (Z 0) (cR m 12 0) 0) (rv (X 0) (Y 0) (Z 0) (cR m 12 0) 1) (rv (X 0) (Y 0) (Z 0) (cR m 12 0) 2) (rv (X 1) (Y 1) (Z 1) (cR m 12 1) 0) (rv (X 1) (Y 1) (Z 1) (cR m 12 1) 1) (rv (X 1) (Y 1) (Z 1) (cR m 12 1) 2) (rv (X 2) (Y 2) (Z 2) (cR m 12 2) 0) (rv (X 2) (Y 2) (Z 2) (cR m 12 2) 1) (rv (X 2) (Y 2) (Z 2) (cR m 12 2) 2) := by show parS X Y Z m 3 + (if cR m 12 3 = 0 then _ else 0) = _; rw [if_pos hc]; rfl
    have Q := Lib.hid q
    have HT3 := Lib.hid (orient_three (rv (X 0) (Y 0) (Z 0) (cR m 12 0) 0) (rv (X 0) (Y 0) (Z 0) (cR m 12 0) 1) (rv (X 0) (Y 0) (Z 0) (cR m 12 0) 2) (rv (X 1) (Y 1) (Z 1) (cR m 12 1) 0) (rv (X 1) (Y 1) (Z 1) (cR m 12 1) 1) (rv (X 1) (Y 1) (Z 1) (cR m 12 1) 2) (rv (X 2) (Y 2) (Z 2) (cR m 12 2) 0) (rv (X 2) (Y 2) (Z 2) (cR m 12 2) 1) (rv (X 2) (Y 2) (Z 2) (cR m 12 2) 2) (rv_I64 (hco.out 0 (by decide)) _ _) (rv_I64 (hco.out 0 (by decide)) _ _) (rv_I64 (hco.out 0 (by decide)) _ _) (rv_I64 (hco.out 1 (by decide)) _ _) (rv_I64 (hco.out 1 (by decide)) _ _) (rv_I64 (hco.out 1 (by decide)) _ _) (rv_I64 (hco.out 2 (by decide)) _ _) (rv_I64 (hco.out 2 (by decide)) _ _) (rv_I64 (hco.out 2 (by decide)) _ _))
    obtain ⟨kq, kr⟩ := cellB k1
    obtain ⟨S5, rfl⟩ : ∃ S, S = wr := ⟨_, rfl⟩
    have zb : w.heap.size + 1 < S5.heap.size := by omega
    clear q hc k1 k3
    go_wp2_with fail
    refine wp_loop_rounds 5 ?_
    rw [rounds_succ]
    go_wp2_with (first | (at_builtin; refine wpList_append_own _ rfl (.tmp 79) (.tmp 85) 123 rfl S5.heap.size 44 i0 (.agg #[.int .i64 0, .int .i64 0, .int .i64 0]) 3 24 uRows HI.out HZ0.out HZ1.out HZ2.out rfl (by decide) _ 0 [] (by rfl) (World.ownsRow_nil _ _ _ _) ⟨_, 0, none⟩ 1 1 [Value.int .i64 (rv (X 0) (Y 0) (Z 0) (cR m 12 0) 0), Value.int .i64 (rv (X 0) (Y 0) (Z 0) (cR m 12 0) 1), Value.int .i64 (rv (X 0) (Y 0) (Z 0) (cR m 12 0) 2)] (by rfl) (by rfl) (row3_new _ _ _ _ _) (ints3 _ _ _) (by decide) (by decide) (by simp) ?_; intro v1 w1 hq1 hq2 hq3) | fail)
    have hb1 : Hid (Below S5.heap.size S5 w1) := ((Below.refl _ _).alloc (Nat.le_refl _) _).grown hq2 (by simp) (fun k hk => by cases hk)
    have R1 : Hid (w1.ownsRow S5.heap.size 44 3 v1 1 [Value.int .i64 (rv (X 0) (Y 0) (Z 0) (cR m 12 0) 0), Value.int .i64 (rv (X 0) (Y 0) (Z 0) (cR m 12 0) 1), Value.int .i64 (rv (X 0) (Y 0) (Z 0) (cR m 12 0) 2)]) := hq1
    clear hq1 hq2 hq3 kq kr
    obtain ⟨kq, kr⟩ := cellB ((hb1.out.block _ zb).trans KL.out)
    have hs1 := hb1.out.size
    rw [rounds_succ]
    go_wp2_with (first | (at_builtin; refine wpList_append_own _ rfl (.tmp 79) (.tmp 85) 123 rfl S5.heap.size 44 i0 (.agg #[.int .i64 0, .int .i64 0, .int .i64 0]) 3 24 uRows HI.out HZ0.out HZ1.out HZ2.out rfl (by decide) _ 1 [Value.int .i64 (rv (X 0) (Y 0) (Z 0) (cR m 12 0) 0), Value.int .i64 (rv (X 0) (Y 0) (Z 0) (cR m 12 0) 1), Value.int .i64 (rv (X 0) (Y 0) (Z 0) (cR m 12 0) 2)] (by rfl) (R1.out.alloc _) ⟨_, 0, none⟩ 1 1 [Value.int .i64 (rv (X 1) (Y 1) (Z 1) (cR m 12 1) 0), Value.int .i64 (rv (X 1) (Y 1) (Z 1) (cR m 12 1) 1), Value.int .i64 (rv (X 1) (Y 1) (Z 1) (cR m 12 1) 2)] (by rfl) (by rfl) (row3_new _ _ _ _ _) (ints3 _ _ _) (by decide) (by decide) (by have := hb1.out.size; simp; omega) ?_; intro v2 w2 hq1 hq2 hq3) | fail)
    have hb2 : Hid (Below S5.heap.size S5 w2) := (hb1.out.alloc hb1.out.size _).grown hq2 (by have := hb1.out.size; simp; omega) (fun k hk => (R1.out.lt k hk).1)
    have R2 : Hid (w2.ownsRow S5.heap.size 44 3 v2 2 [Value.int .i64 (rv (X 0) (Y 0) (Z 0) (cR m 12 0) 0), Value.int .i64 (rv (X 0) (Y 0) (Z 0) (cR m 12 0) 1), Value.int .i64 (rv (X 0) (Y 0) (Z 0) (cR m 12 0) 2), Value.int .i64 (rv (X 1) (Y 1) (Z 1) (cR m 12 1) 0), Value.int .i64 (rv (X 1) (Y 1) (Z 1) (cR m 12 1) 1), Value.int .i64 (rv (X 1) (Y 1) (Z 1) (cR m 12 1) 2)]) := hq1
    clear hb1 R1
    clear hq1 hq2 hq3 kq kr
    obtain ⟨kq, kr⟩ := cellB ((hb2.out.block _ zb).trans KL.out)
    have hs2 := hb2.out.size
    rw [rounds_succ]
    go_wp2_with (first | (at_builtin; refine wpList_append_own _ rfl (.tmp 79) (.tmp 85) 123 rfl S5.heap.size 44 i0 (.agg #[.int .i64 0, .int .i64 0, .int .i64 0]) 3 24 uRows HI.out HZ0.out HZ1.out HZ2.out rfl (by decide) _ 2 [Value.int .i64 (rv (X 0) (Y 0) (Z 0) (cR m 12 0) 0), Value.int .i64 (rv (X 0) (Y 0) (Z 0) (cR m 12 0) 1), Value.int .i64 (rv (X 0) (Y 0) (Z 0) (cR m 12 0) 2), Value.int .i64 (rv (X 1) (Y 1) (Z 1) (cR m 12 1) 0), Value.int .i64 (rv (X 1) (Y 1) (Z 1) (cR m 12 1) 1), Value.int .i64 (rv (X 1) (Y 1) (Z 1) (cR m 12 1) 2)] (by rfl) (R2.out.alloc _) ⟨_, 0, none⟩ 1 1 [Value.int .i64 (rv (X 2) (Y 2) (Z 2) (cR m 12 2) 0), Value.int .i64 (rv (X 2) (Y 2) (Z 2) (cR m 12 2) 1), Value.int .i64 (rv (X 2) (Y 2) (Z 2) (cR m 12 2) 2)] (by rfl) (by rfl) (row3_new _ _ _ _ _) (ints3 _ _ _) (by decide) (by decide) (by have := hb2.out.size; simp; omega) ?_; intro v3 w3 hq1 hq2 hq3) | fail)
    have hb3 : Hid (Below S5.heap.size S5 w3) := (hb2.out.alloc hb2.out.size _).grown hq2 (by have := hb2.out.size; simp; omega) (fun k hk => (R2.out.lt k hk).1)
    have R3 : Hid (w3.ownsRow S5.heap.size 44 3 v3 3 [Value.int .i64 (rv (X 0) (Y 0) (Z 0) (cR m 12 0) 0), Value.int .i64 (rv (X 0) (Y 0) (Z 0) (cR m 12 0) 1), Value.int .i64 (rv (X 0) (Y 0) (Z 0) (cR m 12 0) 2), Value.int .i64 (rv (X 1) (Y 1) (Z 1) (cR m 12 1) 0), Value.int .i64 (rv (X 1) (Y 1) (Z 1) (cR m 12 1) 1), Value.int .i64 (rv (X 1) (Y 1) (Z 1) (cR m 12 1) 2), Value.int .i64 (rv (X 2) (Y 2) (Z 2) (cR m 12 2) 0), Value.int .i64 (rv (X 2) (Y 2) (Z 2) (cR m 12 2) 1), Value.int .i64 (rv (X 2) (Y 2) (Z 2) (cR m 12 2) 2)]) := hq1
    clear hb2 R2
    clear hq1 hq2 hq3 kq kr
    obtain ⟨kq, kr⟩ := cellB ((hb3.out.block _ zb).trans KL.out)
    have hs3 := hb3.out.size
    rw [rounds_succ]
    go_wp2_with fail
    rw [rounds_succ]
    go_wp2_with fail
    rcases R3.out.2 with ⟨_, h9⟩ | ⟨gg, cap, cur, rfl, hg1, hg2, hg3, hg4, hg5, hg6⟩
    · exact absurd h9 (by decide)
    have hgl : gg < w3.heap.size := (Array.getElem?_eq_some_iff.1 hg2).1
    have c0 : w3.cell? ⟨gg, 0, none⟩ = some (Value.int .i64 (rv (X 0) (Y 0) (Z 0) (cR m 12 0) 0)) := (R3.out.cellAt 0 (by decide)).trans rfl
    have c1 : w3.cell? ⟨gg, 1, none⟩ = some (Value.int .i64 (rv (X 0) (Y 0) (Z 0) (cR m 12 0) 1)) := (R3.out.cellAt 1 (by decide)).trans rfl
    have c2 : w3.cell? ⟨gg, 2, none⟩ = some (Value.int .i64 (rv (X 0) (Y 0) (Z 0) (cR m 12 0) 2)) := (R3.out.cellAt 2 (by decide)).trans rfl
    have c3 : w3.cell? ⟨gg, 3, none⟩ = some (Value.int .i64 (rv (X 1) (Y 1) (Z 1) (cR m 12 1) 0)) := (R3.out.cellAt 3 (by decide)).trans rfl
    have c4 : w3.cell? ⟨gg, 4, none⟩ = some (Value.int .i64 (rv (X 1) (Y 1) (Z 1) (cR m 12 1) 1)) := (R3.out.cellAt 4 (by decide)).trans rfl
    have c5 : w3.cell? ⟨gg, 5, none⟩ = some (Value.int .i64 (rv (X 1) (Y 1) (Z 1) (cR m 12 1) 2)) := (R3.out.cellAt 5 (by decide)).trans rfl
    have c6 : w3.cell? ⟨gg, 6, none⟩ = some (Value.int .i64 (rv (X 2) (Y 2) (Z 2) (cR m 12 2) 0)) := (R3.out.cellAt 6 (by decide)).trans rfl
    have c7 : w3.cell? ⟨gg, 7, none⟩ = some (Value.int .i64 (rv (X 2) (Y 2) (Z 2) (cR m 12 2) 1)) := (R3.out.cellAt 7 (by decide)).trans rfl
    have c8 : w3.cell? ⟨gg, 8, none⟩ = some (Value.int .i64 (rv (X 2) (Y 2) (Z 2) (cR m 12 2) 2)) := (R3.out.cellAt 8 (by decide)).trans rfl
    clear hg2 hg3 hg4 hg5 hg6 kq kr
    refine wp_calm1 10 (.cells #[.int .i64 0, .int .u64 0] 108) (some 15) (by kernel_rfl) (by kernel_rfl) rfl (fun o ho a w => by cases ho; go_simp) ?_
    intro C hC
    repeat (refine wpCalm_step (fun K hK => ?_); go_simp; first | (refine hK _ ?_; clear hK K) | (apply Exists.intro; refine ⟨fun wc hw => ?_, hK _ ?_⟩; (obtain ⟨hc, hf⟩ := bcell (hC wc hw); go_simp; first | with_reducible exact HT3.out wc | exact rfl); clear hK K))
    refine wpCalm_nil ?_
    clear hC C c0 c1 c2 c3 c4 c5 c6 c7 c8
    intro V b hX hb hblk
    simp only [List.drop_succ_cons, List.drop_zero]
    have hX5 : Below S5.heap.size S5 V := after' hb3.out hX hs3
    have n1 : w.heap.size + 1 ≠ b := by omega
    have n3 : S4.heap.size ≠ b := by omega
    have kb := hblk
    have zv : b < V.heap.size := (Array.getElem?_eq_some_iff.1 hblk).1
    have k3 : V.heap[S4.heap.size]? = some (.cells #[.int .i64 (hi (parS X Y Z m 3)), .int .u64 (lo (parS X Y Z m 3))] 108 (0, 0)) := (hX5.block _ hz).trans K3.out
    have hz5 : S4.heap.size < V.heap.size := Nat.lt_of_lt_of_le hz hX5.size
    have HX5 := Lib.hid hX5
    have bs : S5.heap.size ≤ b := by omega
    clear hblk hX hX5 hb hgl hg1 R3 hb3 HT3
    obtain ⟨lq, lr⟩ := cellB kb
    obtain ⟨mq, mr⟩ := cellB k3
    have KB := Lib.hid kb; have KS := Lib.hid k3
    clear kb k3
    go_wp2_with fail
    have zsb : w.heap.size ≤ S4.heap.size := by omega
    have hBV : Hid (Below w.heap.size w V) := after HB.out HX5.out
    have K1V : Hid (V.heap[w.heap.size + 1]? = some (.cells #[Value.int .i64 (rv (X 0) (Y 0) (Z 0) (cR m 12 0) 0), Value.int .i64 (rv (X 0) (Y 0) (Z 0) (cR m 12 0) 1), Value.int .i64 (rv (X 0) (Y 0) (Z 0) (cR m 12 0) 2), Value.int .i64 (rv (X 0) (Y 0) (Z 0) (cR m 12 0) 3), Value.int .i64 (rv (X 1) (Y 1) (Z 1) (cR m 12 1) 0), Value.int .i64 (rv (X 1) (Y 1) (Z 1) (cR m 12 1) 1), Value.int .i64 (rv (X 1) (Y 1) (Z 1) (cR m 12 1) 2), Value.int .i64 (rv (X 1) (Y 1) (Z 1) (cR m 12 1) 3), Value.int .i64 (rv (X 2) (Y 2) (Z 2) (cR m 12 2) 0), Value.int .i64 (rv (X 2) (Y 2) (Z 2) (cR m 12 2) 1), Value.int .i64 (rv (X 2) (Y 2) (Z 2) (cR m 12 2) 2), Value.int .i64 (rv (X 2) (Y 2) (Z 2) (cR m 12 2) 3), Value.int .i64 (rv (X 3) (Y 3) (Z 3) (cR m 12 3) 0), Value.int .i64 (rv (X 3) (Y 3) (Z 3) (cR m 12 3) 1), Value.int .i64 (rv (X 3) (Y 3) (Z 3) (cR m 12 3) 2), Value.int .i64 (rv (X 3) (Y 3) (Z 3) (cR m 12 3) 3)] 122 (0, 0))) := (HX5.out.block _ zb).trans K1.out
    have z1v : w.heap.size + 1 < V.heap.size := Nat.lt_of_lt_of_le zb HX5.out.size
    have wb : w.heap.size ≤ b := by omega
    first | refine wp_named ?_ | refine calls_named ?_
    intro V1 hV
    have kb : V1.heap[b]? = some (.cells #[.int .i64 (hi (det3 (rv (X 0) (Y 0) (Z 0) (cR m 12 0) 0) (rv (X 0) (Y 0) (Z 0) (cR m 12 0) 1) (rv (X 0) (Y 0) (Z 0) (cR m 12 0) 2) (rv (X 1) (Y 1) (Z 1) (cR m 12 1) 0) (rv (X 1) (Y 1) (Z 1) (cR m 12 1) 1) (rv (X 1) (Y 1) (Z 1) (cR m 12 1) 2) (rv (X 2) (Y 2) (Z 2) (cR m 12 2) 0) (rv (X 2) (Y 2) (Z 2) (cR m 12 2) 1) (rv (X 2) (Y 2) (Z 2) (cR m 12 2) 2))), .int .u64 (lo (det3 (rv (X 0) (Y 0) (Z 0) (cR m 12 0) 0) (rv (X 0) (Y 0) (Z 0) (cR m 12 0) 1) (rv (X 0) (Y 0) (Z 0) (cR m 12 0) 2) (rv (X 1) (Y 1) (Z 1) (cR m 12 1) 0) (rv (X 1) (Y 1) (Z 1) (cR m 12 1) 1) (rv (X 1) (Y 1) (Z 1) (cR m 12 1) 2) (rv (X 2) (Y 2) (Z 2) (cR m 12 2) 0) (rv (X 2) (Y 2) (Z 2) (cR m 12 2) 1) (rv (X 2) (Y 2) (Z 2) (cR m 12 2) 2)))] 108 (0, 0)) := by rw [hV]; refine Eq.trans (set_own (set_own KB.out _) _) ?_; simp
    have ks : V1.heap[S4.heap.size]? = some (.cells #[.int .i64 (hi (parS X Y Z m 3)), .int .u64 (lo (parS X Y Z m 3))] 108 (0, 0)) := by rw [hV]; exact (other_block n3).trans ((other_block n3).trans KS.out)
    have k1 : V1.heap[w.heap.size + 1]? = some (.cells #[Value.int .i64 (rv (X 0) (Y 0) (Z 0) (cR m 12 0) 0), Value.int .i64 (rv (X 0) (Y 0) (Z 0) (cR m 12 0) 1), Value.int .i64 (rv (X 0) (Y 0) (Z 0) (cR m 12 0) 2), Value.int .i64 (rv (X 0) (Y 0) (Z 0) (cR m 12 0) 3), Value.int .i64 (rv (X 1) (Y 1) (Z 1) (cR m 12 1) 0), Value.int .i64 (rv (X 1) (Y 1) (Z 1) (cR m 12 1) 1), Value.int .i64 (rv (X 1) (Y 1) (Z 1) (cR m 12 1) 2), Value.int .i64 (rv (X 1) (Y 1) (Z 1) (cR m 12 1) 3), Value.int .i64 (rv (X 2) (Y 2) (Z 2) (cR m 12 2) 0), Value.int .i64 (rv (X 2) (Y 2) (Z 2) (cR m 12 2) 1), Value.int .i64 (rv (X 2) (Y 2) (Z 2) (cR m 12 2) 2), Value.int .i64 (rv (X 2) (Y 2) (Z 2) (cR m 12 2) 3), Value.int .i64 (rv (X 3) (Y 3) (Z 3) (cR m 12 3) 0), Value.int .i64 (rv (X 3) (Y 3) (Z 3) (cR m 12 3) 1), Value.int .i64 (rv (X 3) (Y 3) (Z 3) (cR m 12 3) 2), Value.int .i64 (rv (X 3) (Y 3) (Z 3) (cR m 12 3) 3)] 122 (0, 0)) := by rw [hV]; exact (other_block n1).trans ((other_block n1).trans K1V.out)
    have hB : Below w.heap.size w V1 := by rw [hV]; exact (hBV.out.setCell wb _).setCell wb _
    have y1 : b < V1.heap.size := by rw [hV]; simpa using zv
    have y2 : S4.heap.size < V1.heap.size := by rw [hV]; simpa using hz5
    have y3 : w.heap.size + 1 < V1.heap.size := by rw [hV]; simpa using z1v
    clear hV lq lr mq mr KB KS K1V hBV HX5 z1v zv hz5 HB K1 KL K3 hz zb hs1 hs2 hs3
    refine (limb_Add (parS X Y Z m 3) (det3 (rv (X 0) (Y 0) (Z 0) (cR m 12 0) 0) (rv (X 0) (Y 0) (Z 0) (cR m 12 0) 1) (rv (X 0) (Y 0) (Z 0) (cR m 12 0) 2) (rv (X 1) (Y 1) (Z 1) (cR m 12 1) 0) (rv (X 1) (Y 1) (Z 1) (cR m 12 1) 1) (rv (X 1) (Y 1) (Z 1) (cR m 12 1) 2) (rv (X 2) (Y 2) (Z 2) (cR m 12 2) 0) (rv (X 2) (Y 2) (Z 2) (cR m 12 2) 1) (rv (X 2) (Y 2) (Z 2) (cR m 12 2) 2)) _).mono ?_; rintro e V4 ⟨rfl, hX⟩
    replace kb := (hX.block _ y1).trans kb; replace ks := (hX.block _ y2).trans ks; replace k1 := (hX.block _ y3).trans k1; replace hB := after hB hX
    replace y1 := Nat.lt_of_lt_of_le y1 hX.size; replace y2 := Nat.lt_of_lt_of_le y2 hX.size; replace y3 := Nat.lt_of_lt_of_le y3 hX.size
    clear hX
    obtain ⟨mq, mr⟩ := cellB ks
    have KS := Lib.hid ks; have K1 := Lib.hid k1; have HB := Lib.hid hB
    clear ks k1 hB kb
    go_wp2_with fail
    go_roundw
    case rel => first | exact ⟨3 + 1, by decide, by go_num, (by rw [Q.out]; refine Eq.trans (set_own (set_own KS.out _) _) ?_; simp), (other_block (by simp; omega)).trans ((other_block (by simp; omega)).trans K1.out), (HB.out.setCell zsb _).setCell zsb _, (by refine Lib.hid ?_; simpa using y2)⟩ | ((repeat apply Exists.intro); exact ⟨⟨3 + 1, by decide, by go_num, (by rw [Q.out]; refine Eq.trans (set_own (set_own KS.out _) _) ?_; simp), (other_block (by simp; omega)).trans ((other_block (by simp; omega)).trans K1.out), (HB.out.setCell zsb _).setCell zsb _, (by refine Lib.hid ?_; simpa using y2)⟩, rfl⟩)
    case measure => simp [intOf]
end Go.Proofs.Ytdglijdiiggdgaa
