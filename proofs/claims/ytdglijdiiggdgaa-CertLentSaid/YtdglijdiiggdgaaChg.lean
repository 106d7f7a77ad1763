import Derived.Test.YtdglijdiiggdgaaRf3
namespace Go.Proofs.Ytdglijdiiggdgaa
open Go.RowKit Geo
def usedV (m j : Nat) : Nat := hV m j 0 + 2 * hV m j 1 + 4 * hV m j 2
def cntV (m j r : Nat) : Nat := if cR m j r = 0 then 0 else 1
theorem ors : ((List.range 8).all fun u => (List.range 3).all fun k => !(u / 2 ^ k % 2 == 0) || bits BinOp.or IntKind.i64 ((u : Nat) : Int) ((2 ^ k : Nat) : Int) == ((u + 2 ^ k : Nat) : Int)) = true := by decide +kernel
theorem or_of {u k : Nat} (hu : u < 8) (hk : k < 3) (h : u / 2 ^ k % 2 = 0) : bits BinOp.or IntKind.i64 ((u : Nat) : Int) ((2 ^ k : Nat) : Int) = ((u + 2 ^ k : Nat) : Int) := by
  have h1 := List.all_eq_true.1 (List.all_eq_true.1 ors u (List.mem_range.2 hu)) k (List.mem_range.2 hk)
  simpa [h] using h1
theorem bit0_of {m d : Nat} (hm : m < 85) (y : Int) (hy : y = ((m / d : Nat) : Int)) (b : Bool) (hb : (m / d % 2 == 0) = b) : (bits BinOp.and IntKind.i64 y 1 == 0) = b := by
  rw [hy, and1 (Nat.lt_of_le_of_lt (Nat.div_le_self m d) hm), ← hb]
  have : m / d % 2 = 0 ∨ m / d % 2 = 1 := by omega
  rcases this with h | h <;> rw [h] <;> rfl
theorem used_lt (m j : Nat) : usedV m j < 8 := by
  have := hV_cases m j 0; have := hV_cases m j 1; have := hV_cases m j 2
  unfold usedV; omega
def raw16 (X Y Z : Nat → Int) : Array Value := #[Value.int .i64 (X 0), Value.int .i64 (Y 0), Value.int .i64 (Z 0), Value.int .i64 1, Value.int .i64 (X 1), Value.int .i64 (Y 1), Value.int .i64 (Z 1), Value.int .i64 1, Value.int .i64 (X 2), Value.int .i64 (Y 2), Value.int .i64 (Z 2), Value.int .i64 1, Value.int .i64 (X 3), Value.int .i64 (Y 3), Value.int .i64 (Z 3), Value.int .i64 1]
set_option maxRecDepth 100000 in
set_option maxHeartbeats 16000000 in
theorem ref2_changed (X Y Z : Nat → Int) (m : Nat) (hm : m < 85) (lb c0 : Nat) (w : World) (hl : Hid (w.heap[lb]? = some (.cells (raw16 X Y Z) 92 (0, 0)))) :
    Calls Try.prog 54 #[.slice (some ⟨lb, 0, none⟩) 4 c0, .int .i64 m] w fun e w' => Below w.heap.size w w' ∧
      ((good m 12 = false ∧ e = .returned (.tuple #[.slice none 0 0, .bool false])) ∨ (good m 12 = true ∧ ∃ ob, w.heap.size ≤ ob ∧ w'.heap[ob]? = some (.cells (rowsA X Y Z m 12 4) 92 (0, 0)) ∧ e = .returned (.tuple #[.slice (some ⟨ob, 0, none⟩) 4 4, .bool true]))) := by
  have kl : w.heap[lb]? = some (.cells #[Value.int .i64 (X 0), Value.int .i64 (Y 0), Value.int .i64 (Z 0), Value.int .i64 1, Value.int .i64 (X 1), Value.int .i64 (Y 1), Value.int .i64 (Z 1), Value.int .i64 1, Value.int .i64 (X 2), Value.int .i64 (Y 2), Value.int .i64 (Z 2), Value.int .i64 1, Value.int .i64 (X 3), Value.int .i64 (Y 3), Value.int .i64 (Z 3), Value.int .i64 1] 92 (0, 0)) := hl.out
  have hlb : lb < w.heap.size := (Array.getElem?_eq_some_iff.1 kl).1
  obtain ⟨lq, lr⟩ := cellB kl
  go_enter Try.func54, Try.ntmps54
  go_wp2_with fail
  refine wp_calm0 12 (by kernel_rfl) (by kernel_rfl) ?_
  intro C hC
  repeat (refine wpCalm_step (fun K hK => ?_); go_simp; first | (refine hK _ ?_; clear hK K) | (apply Exists.intro; refine ⟨fun wc hw => ?_, hK _ ?_⟩; (obtain ⟨hc, hf⟩ := bcell (hC wc hw); go_simp; first | exact rfl); clear hK K))
  refine wpCalm_nil ?_
  clear hC C
  intro V hX
  simp only [List.drop_succ_cons, List.drop_zero]
  clear lq lr kl
  go_wp2_with fail
  refine wp_loop_rounds 5 ?_
  rw [rounds_succ]
  go_wp2_with fail
  first | refine wp_named ?_ | refine calls_named ?_
  intro W hW
  have k1 : W.heap[V.heap.size]? = some (.cells (rowsA X Y Z m (3 * 0 + 0) 4) 92 (0, 0)) := by
    have e : rowsA X Y Z m (3 * 0 + 0) 4 = #[Value.int .i64 (X 0), Value.int .i64 (Y 0), Value.int .i64 (Z 0), Value.int .i64 1, Value.int .i64 (X 1), Value.int .i64 (Y 1), Value.int .i64 (Z 1), Value.int .i64 1, Value.int .i64 (X 2), Value.int .i64 (Y 2), Value.int .i64 (Z 2), Value.int .i64 1, Value.int .i64 (X 3), Value.int .i64 (Y 3), Value.int .i64 (Z 3), Value.int .i64 1] := by
      show #[Value.int .i64 (rv (X 0) (Y 0) (Z 0) (cR m 0 0) 0), Value.int .i64 (rv (X 0) (Y 0) (Z 0) (cR m 0 0) 1), Value.int .i64 (rv (X 0) (Y 0) (Z 0) (cR m 0 0) 2), Value.int .i64 (rv (X 0) (Y 0) (Z 0) (cR m 0 0) 3), Value.int .i64 (rv (X 1) (Y 1) (Z 1) (cR m 0 1) 0), Value.int .i64 (rv (X 1) (Y 1) (Z 1) (cR m 0 1) 1), Value.int .i64 (rv (X 1) (Y 1) (Z 1) (cR m 0 1) 2), Value.int .i64 (rv (X 1) (Y 1) (Z 1) (cR m 0 1) 3), Value.int .i64 (rv (X 2) (Y 2) (Z 2) (cR m 0 2) 0), Value.int .i64 (rv (X 2) (Y 2) (Z 2) (cR m 0 2) 1), Value.int .i64 (rv (X 2) (Y 2) (Z 2) (cR m 0 2) 2), Value.int .i64 (rv (X 2) (Y 2) (Z 2) (cR m 0 2) 3), Value.int .i64 (rv (X 3) (Y 3) (Z 3) (cR m 0 3) 0), Value.int .i64 (rv (X 3) (Y 3) (Z 3) (cR m 0 3) 1), Value.int .i64 (rv (X 3) (Y 3) (Z 3) (cR m 0 3) 2), Value.int .i64 (rv (X 3) (Y 3) (Z 3) (cR m 0 3) 3)] = _
      rw [code0 (m := m) (j := 0) (s := 0) (by decide), code0 (m := m) (j := 0) (s := 1) (by decide), code0 (m := m) (j := 0) (s := 2) (by decide), code0 (m := m) (j := 0) (s := 3) (by decide)]; rfl
    rw [hW, e]; exact heap_at rfl
  have hB : Below w.heap.size w W := by rw [hW]; have := hX.size; go_grown
  have hz : V.heap.size < W.heap.size := by rw [hW]; simp
  have HVS : Hid (w.heap.size ≤ V.heap.size) := hX.size
  clear hW hX
  have HG : Hid (good m (3 * 0 + 0) = true) := good0 m
  have hu0 : usedV m (3 * 0 + 0) = 0 := by
    have h : ∀ s, cR m 0 s = 0 := fun s => code0 (Nat.zero_le _)
    have h2 : ∀ k, hV m 0 k = 0 := fun k => by unfold hV; rw [h, h, h, h, if_neg (by simp)]
    show hV m 0 0 + 2 * hV m 0 1 + 4 * hV m 0 2 = 0
    rw [h2, h2, h2]
  have hu : Value.int .i64 0 = .int .i64 (usedV m (3 * 0 + 0) : Nat) := by rw [hu0]; rfl
  have hn : Value.int .i64 0 = .int .i64 (cntV m (3 * 0 + 0) 0 : Nat) := by unfold cntV; rw [if_pos (code0 (by decide))]; rfl
  go_loopw [7, 9, 10] (fun u n kk wx => ∃ k : Nat, k ≤ 3 ∧ kk = .int .i64 k ∧ u = .int .i64 (usedV m (3 * 0 + k) : Nat) ∧ n = .int .i64 (cntV m (3 * 0 + k) 0 : Nat) ∧ Hid (good m (3 * 0 + k) = true) ∧ Hid (wx.heap[V.heap.size]? = some (.cells (rowsA X Y Z m (3 * 0 + k) 4) 92 (0, 0))) ∧ Hid (Below w.heap.size w wx) ∧ Hid (V.heap.size < wx.heap.size))
    (fun _ _ kk _ => 3 - (intOf kk).toNat)
  case atStart => exact ⟨0, by decide, rfl, hu, hn, HG, k1, hB, hz⟩
  clear k1 hB hz HG hn hu hu0
  obtain ⟨k, hk, rfl, rfl, rfl, HG, H1, HB, HZ⟩ := hrel
  have hk3 : k = 0 ∨ k = 1 ∨ k = 2 ∨ k = 3 := by omega
  clear hk
  rcases hk3 with rfl | rfl | rfl | rfl
  · have k1 : wr.heap[V.heap.size]? = some (.cells #[Value.int .i64 (rv (X 0) (Y 0) (Z 0) (cR m 0 0) 0), Value.int .i64 (rv (X 0) (Y 0) (Z 0) (cR m 0 0) 1), Value.int .i64 (rv (X 0) (Y 0) (Z 0) (cR m 0 0) 2), Value.int .i64 (rv (X 0) (Y 0) (Z 0) (cR m 0 0) 3), Value.int .i64 (rv (X 1) (Y 1) (Z 1) (cR m 0 1) 0), Value.int .i64 (rv (X 1) (Y 1) (Z 1) (cR m 0 1) 1), Value.int .i64 (rv (X 1) (Y 1) (Z 1) (cR m 0 1) 2), Value.int .i64 (rv (X 1) (Y 1) (Z 1) (cR m 0 1) 3), Value.int .i64 (rv (X 2) (Y 2) (Z 2) (cR m 0 2) 0), Value.int .i64 (rv (X 2) (Y 2) (Z 2) (cR m 0 2) 1), Value.int .i64 (rv (X 2) (Y 2) (Z 2) (cR m 0 2) 2), Value.int .i64 (rv (X 2) (Y 2) (Z 2) (cR m 0 2) 3), Value.int .i64 (rv (X 3) (Y 3) (Z 3) (cR m 0 3) 0), Value.int .i64 (rv (X 3) (Y 3) (Z 3) (cR m 0 3) 1), Value.int .i64 (rv (X 3) (Y 3) (Z 3) (cR m 0 3) 2), Value.int .i64 (rv (X 3) (Y 3) (Z 3) (cR m 0 3) 3)] 92 (0, 0)) := H1.out
    have hz := HZ.out
    clear H1
    by_cases hb : m / 2 ^ (3 * 0 + 0) % 2 = 1
    case neg =>
      have hb' := bit0_of (d := 1) hm ((m : Int)) (by omega) true (by simpa using hb)
      obtain ⟨n1, n2, n3⟩ := mask_no hm (r := 0) (k := 0) (by decide) (by decide) HG.out hb
      have q1 : rowsA X Y Z m (3 * 0 + (0 + 1)) 4 = #[Value.int .i64 (rv (X 0) (Y 0) (Z 0) (cR m 0 0) 0), Value.int .i64 (rv (X 0) (Y 0) (Z 0) (cR m 0 0) 1), Value.int .i64 (rv (X 0) (Y 0) (Z 0) (cR m 0 0) 2), Value.int .i64 (rv (X 0) (Y 0) (Z 0) (cR m 0 0) 3), Value.int .i64 (rv (X 1) (Y 1) (Z 1) (cR m 0 1) 0), Value.int .i64 (rv (X 1) (Y 1) (Z 1) (cR m 0 1) 1), Value.int .i64 (rv (X 1) (Y 1) (Z 1) (cR m 0 1) 2), Value.int .i64 (rv (X 1) (Y 1) (Z 1) (cR m 0 1) 3), Value.int .i64 (rv (X 2) (Y 2) (Z 2) (cR m 0 2) 0), Value.int .i64 (rv (X 2) (Y 2) (Z 2) (cR m 0 2) 1), Value.int .i64 (rv (X 2) (Y 2) (Z 2) (cR m 0 2) 2), Value.int .i64 (rv (X 2) (Y 2) (Z 2) (cR m 0 2) 3), Value.int .i64 (rv (X 3) (Y 3) (Z 3) (cR m 0 3) 0), Value.int .i64 (rv (X 3) (Y 3) (Z 3) (cR m 0 3) 1), Value.int .i64 (rv (X 3) (Y 3) (Z 3) (cR m 0 3) 2), Value.int .i64 (rv (X 3) (Y 3) (Z 3) (cR m 0 3) 3)] := by
        show #[Value.int .i64 (rv (X 0) (Y 0) (Z 0) (cR m 1 0) 0), Value.int .i64 (rv (X 0) (Y 0) (Z 0) (cR m 1 0) 1), Value.int .i64 (rv (X 0) (Y 0) (Z 0) (cR m 1 0) 2), Value.int .i64 (rv (X 0) (Y 0) (Z 0) (cR m 1 0) 3), Value.int .i64 (rv (X 1) (Y 1) (Z 1) (cR m 1 1) 0), Value.int .i64 (rv (X 1) (Y 1) (Z 1) (cR m 1 1) 1), Value.int .i64 (rv (X 1) (Y 1) (Z 1) (cR m 1 1) 2), Value.int .i64 (rv (X 1) (Y 1) (Z 1) (cR m 1 1) 3), Value.int .i64 (rv (X 2) (Y 2) (Z 2) (cR m 1 2) 0), Value.int .i64 (rv (X 2) (Y 2) (Z 2) (cR m 1 2) 1), Value.int .i64 (rv (X 2) (Y 2) (Z 2) (cR m 1 2) 2), Value.int .i64 (rv (X 2) (Y 2) (Z 2) (cR m 1 2) 3), Value.int .i64 (rv (X 3) (Y 3) (Z 3) (cR m 1 3) 0), Value.int .i64 (rv (X 3) (Y 3) (Z 3) (cR m 1 3) 1), Value.int .i64 (rv (X 3) (Y 3) (Z 3) (cR m 1 3) 2), Value.int .i64 (rv (X 3) (Y 3) (Z 3) (cR m 1 3) 3)] = _
        rw [show cR m 1 0 = cR m 0 0 from n2 0 (by decide), show cR m 1 1 = cR m 0 1 from n2 1 (by decide), show cR m 1 2 = cR m 0 2 from n2 2 (by decide), show cR m 1 3 = cR m 0 3 from n2 3 (by decide)]
      have q2 : usedV m (3 * 0 + (0 + 1)) = usedV m (3 * 0 + 0) := by show hV m 1 0 + 2 * hV m 1 1 + 4 * hV m 1 2 = _; rw [show hV m 1 0 = hV m 0 0 from n3 0 (by decide), show hV m 1 1 = hV m 0 1 from n3 1 (by decide), show hV m 1 2 = hV m 0 2 from n3 2 (by decide)]; rfl
      have q3 : cntV m (3 * 0 + (0 + 1)) 0 = cntV m (3 * 0 + 0) 0 := by show (if cR m 1 0 = 0 then 0 else 1) = _; rw [show cR m 1 0 = cR m 0 0 from n2 0 (by decide)]; rfl
      have N1 := Lib.hid n1; have Q1 := Lib.hid q1; have Q2 := Lib.hid q2; have Q3 := Lib.hid q3; have K1 := Lib.hid k1
      clear n1 n2 n3 q1 q2 q3 k1
      go_wp2_with fail
      go_roundw
      case rel => exact ⟨0 + 1, by decide, by go_num, by rw [Q2.out], by rw [Q3.out], N1.out, (by rw [Q1.out]; exact K1.out), HB, HZ⟩
      case measure => simp [intOf]
    have hb' := bit0_of (d := 1) hm ((m : Int)) (by omega) false (by simpa using hb)
    by_cases hc : cR m 0 0 = 0
    case neg =>
      have hn1 : cntV m (3 * 0 + 0) 0 = 1 := if_neg hc
      rw [hn1]
      clear hn1
      have hng := mask_bad hm (r := 0) (k := 0) (by decide) (by decide) HG.out hb (.inl hc)
      have HNG := Lib.hid hng
      clear k1 hng
      go_wp2_with fail
      go_returns
      exact ⟨HB.out, .inl ⟨HNG.out, rfl⟩⟩
    have hn1 : cntV m (3 * 0 + 0) 0 = 0 := if_pos hc
    rw [hn1]
    clear hn1
    obtain ⟨u, hu⟩ : ∃ u, u = usedV m (3 * 0 + 0) := ⟨_, rfl⟩
    rw [← hu]
    have hu8 : u < 8 := by rw [hu]; exact used_lt _ _
    have hub : u / 2 ^ 0 % 2 = hV m 0 0 := by rw [hu]; show (hV m 0 0 + 2 * hV m 0 1 + 4 * hV m 0 2) / _ % 2 = _; have := hV_cases m 0 0; have := hV_cases m 0 1; have := hV_cases m 0 2; omega
    by_cases hd : hV m 0 0 = 1
    case pos =>
      have hs := bit_of (m := u) (d := 1) (by omega) ((u : Int)) (by omega) true (by rw [hd] at hub; simpa using hub)
      have hu9 : (u : Int) ≤ 7 := by omega
      clear hu hub hu8
      have hng := mask_bad hm (r := 0) (k := 0) (by decide) (by decide) HG.out hb (.inr hd)
      have HNG := Lib.hid hng
      clear k1 hng
      go_wp2_with fail
      go_returns
      exact ⟨HB.out, .inl ⟨HNG.out, rfl⟩⟩
    have hd0 : hV m 0 0 = 0 := by have := hV_cases m 0 0; omega
    have hs := bit_of (m := u) (d := 1) (by omega) ((u : Int)) (by omega) false (by rw [hd0] at hub; simpa using hub)
    have ho := or_of (k := 0) hu8 (by decide) (hub.trans hd0)
    obtain ⟨n1, n4, n2, n3⟩ := mask_yes hm (r := 0) (k := 0) (by decide) (by decide) HG.out hb hc hd
    have q1 : rowsA X Y Z m (3 * 0 + (0 + 1)) 4 = #[Value.int .i64 0, Value.int .i64 0, Value.int .i64 1, Value.int .i64 0, Value.int .i64 (rv (X 1) (Y 1) (Z 1) (cR m 0 1) 0), Value.int .i64 (rv (X 1) (Y 1) (Z 1) (cR m 0 1) 1), Value.int .i64 (rv (X 1) (Y 1) (Z 1) (cR m 0 1) 2), Value.int .i64 (rv (X 1) (Y 1) (Z 1) (cR m 0 1) 3), Value.int .i64 (rv (X 2) (Y 2) (Z 2) (cR m 0 2) 0), Value.int .i64 (rv (X 2) (Y 2) (Z 2) (cR m 0 2) 1), Value.int .i64 (rv (X 2) (Y 2) (Z 2) (cR m 0 2) 2), Value.int .i64 (rv (X 2) (Y 2) (Z 2) (cR m 0 2) 3), Value.int .i64 (rv (X 3) (Y 3) (Z 3) (cR m 0 3) 0), Value.int .i64 (rv (X 3) (Y 3) (Z 3) (cR m 0 3) 1), Value.int .i64 (rv (X 3) (Y 3) (Z 3) (cR m 0 3) 2), Value.int .i64 (rv (X 3) (Y 3) (Z 3) (cR m 0 3) 3)] := by
      show #[Value.int .i64 (rv (X 0) (Y 0) (Z 0) (cR m 1 0) 0), Value.int .i64 (rv (X 0) (Y 0) (Z 0) (cR m 1 0) 1), Value.int .i64 (rv (X 0) (Y 0) (Z 0) (cR m 1 0) 2), Value.int .i64 (rv (X 0) (Y 0) (Z 0) (cR m 1 0) 3), Value.int .i64 (rv (X 1) (Y 1) (Z 1) (cR m 1 1) 0), Value.int .i64 (rv (X 1) (Y 1) (Z 1) (cR m 1 1) 1), Value.int .i64 (rv (X 1) (Y 1) (Z 1) (cR m 1 1) 2), Value.int .i64 (rv (X 1) (Y 1) (Z 1) (cR m 1 1) 3), Value.int .i64 (rv (X 2) (Y 2) (Z 2) (cR m 1 2) 0), Value.int .i64 (rv (X 2) (Y 2) (Z 2) (cR m 1 2) 1), Value.int .i64 (rv (X 2) (Y 2) (Z 2) (cR m 1 2) 2), Value.int .i64 (rv (X 2) (Y 2) (Z 2) (cR m 1 2) 3), Value.int .i64 (rv (X 3) (Y 3) (Z 3) (cR m 1 3) 0), Value.int .i64 (rv (X 3) (Y 3) (Z 3) (cR m 1 3) 1), Value.int .i64 (rv (X 3) (Y 3) (Z 3) (cR m 1 3) 2), Value.int .i64 (rv (X 3) (Y 3) (Z 3) (cR m 1 3) 3)] = _
      rw [show cR m 1 0 = 1 from n4, show cR m 1 1 = cR m 0 1 from n2 1 (by decide) (by decide), show cR m 1 2 = cR m 0 2 from n2 2 (by decide) (by decide), show cR m 1 3 = cR m 0 3 from n2 3 (by decide) (by decide)]; rfl
    have q2 : usedV m (3 * 0 + (0 + 1)) = u + 1 := by rw [hu]; show hV m 1 0 + 2 * hV m 1 1 + 4 * hV m 1 2 = hV m 0 0 + 2 * hV m 0 1 + 4 * hV m 0 2 + 1; rw [show hV m 1 0 = 1 from n3 0 (by decide), show hV m 1 1 = hV m 0 1 from n3 1 (by decide), show hV m 1 2 = hV m 0 2 from n3 2 (by decide)]; omega
    have q3 : cntV m (3 * 0 + (0 + 1)) 0 = 1 := by show (if cR m 1 0 = 0 then 0 else 1) = 1; rw [show cR m 1 0 = 1 from n4]; rfl
    have N1 := Lib.hid n1; have Q1 := Lib.hid q1; have Q2 := Lib.hid q2; have Q3 := Lib.hid q3; have K1 := Lib.hid k1
    obtain ⟨kq, kr⟩ := cellB k1
    have hu9 : (u : Int) ≤ 7 := by omega
    clear n1 n2 n3 n4 q1 q2 q3 k1 hu hub hd hd0 hu8
    have HO := Lib.hid (show bits BinOp.or IntKind.i64 (u : Int) 1 = ((u + 1 : Nat) : Int) from ho)
    clear ho
    go_wp2_with fail
    go_roundw
    case rel => exact ⟨0 + 1, by decide, by go_num, by rw [Q2.out]; exact congrArg (Value.int IntKind.i64) HO.out, by rw [Q3.out]; rfl, N1.out, (by rw [Q1.out]; refine Eq.trans (set_own (set_own (set_own (set_own K1.out _) _) _) _) ?_; simp), (by have := HB.out; have := HVS.out; refine Lib.hid ?_; go_grown), (by have := HZ.out; refine Lib.hid ?_; simpa using this)⟩
    case measure => simp [intOf]
  · have k1 : wr.heap[V.heap.size]? = some (.cells #[Value.int .i64 (rv (X 0) (Y 0) (Z 0) (cR m 1 0) 0), Value.int .i64 (rv (X 0) (Y 0) (Z 0) (cR m 1 0) 1), Value.int .i64 (rv (X 0) (Y 0) (Z 0) (cR m 1 0) 2), Value.int .i64 (rv (X 0) (Y 0) (Z 0) (cR m 1 0) 3), Value.int .i64 (rv (X 1) (Y 1) (Z 1) (cR m 1 1) 0), Value.int .i64 (rv (X 1) (Y 1) (Z 1) (cR m 1 1) 1), Value.int .i64 (rv (X 1) (Y 1) (Z 1) (cR m 1 1) 2), Value.int .i64 (rv (X 1) (Y 1) (Z 1) (cR m 1 1) 3), Value.int .i64 (rv (X 2) (Y 2) (Z 2) (cR m 1 2) 0), Value.int .i64 (rv (X 2) (Y 2) (Z 2) (cR m 1 2) 1), Value.int .i64 (rv (X 2) (Y 2) (Z 2) (cR m 1 2) 2), Value.int .i64 (rv (X 2) (Y 2) (Z 2) (cR m 1 2) 3), Value.int .i64 (rv (X 3) (Y 3) (Z 3) (cR m 1 3) 0), Value.int .i64 (rv (X 3) (Y 3) (Z 3) (cR m 1 3) 1), Value.int .i64 (rv (X 3) (Y 3) (Z 3) (cR m 1 3) 2), Value.int .i64 (rv (X 3) (Y 3) (Z 3) (cR m 1 3) 3)] 92 (0, 0)) := H1.out
    have hz := HZ.out
    clear H1
    by_cases hb : m / 2 ^ (3 * 0 + 1) % 2 = 1
    case neg =>
      have hb' := bit0_of (d := 2) hm ((m : Int) / 2) (by omega) true (by simpa using hb)
      obtain ⟨n1, n2, n3⟩ := mask_no hm (r := 0) (k := 1) (by decide) (by decide) HG.out hb
      have q1 : rowsA X Y Z m (3 * 0 + (1 + 1)) 4 = #[Value.int .i64 (rv (X 0) (Y 0) (Z 0) (cR m 1 0) 0), Value.int .i64 (rv (X 0) (Y 0) (Z 0) (cR m 1 0) 1), Value.int .i64 (rv (X 0) (Y 0) (Z 0) (cR m 1 0) 2), Value.int .i64 (rv (X 0) (Y 0) (Z 0) (cR m 1 0) 3), Value.int .i64 (rv (X 1) (Y 1) (Z 1) (cR m 1 1) 0), Value.int .i64 (rv (X 1) (Y 1) (Z 1) (cR m 1 1) 1), Value.int .i64 (rv (X 1) (Y 1) (Z 1) (cR m 1 1) 2), Value.int .i64 (rv (X 1) (Y 1) (Z 1) (cR m 1 1) 3), Value.int .i64 (rv (X 2) (Y 2) (Z 2) (cR m 1 2) 0), Value.int .i64 (rv (X 2) (Y 2) (Z 2) (cR m 1 2) 1), Value.int .i64 (rv (X 2) (Y 2) (Z 2) (cR m 1 2) 2), Value.int .i64 (rv (X 2) (Y 2) (Z 2) (cR m 1 2) 3), Value.int .i64 (rv (X 3) (Y 3) (Z 3) (cR m 1 3) 0), Value.int .i64 (rv (X 3) (Y 3) (Z 3) (cR m 1 3) 1), Value.int .i64 (rv (X 3) (Y 3) (Z 3) (cR m 1 3) 2), Value.int .i64 (rv (X 3) (Y 3) (Z 3) (cR m 1 3) 3)] := by
        show #[Value.int .i64 (rv (X 0) (Y 0) (Z 0) (cR m 2 0) 0), Value.int .i64 (rv (X 0) (Y 0) (Z 0) (cR m 2 0) 1), Value.int .i64 (rv (X 0) (Y 0) (Z 0) (cR m 2 0) 2), Value.int .i64 (rv (X 0) (Y 0) (Z 0) (cR m 2 0) 3), Value.int .i64 (rv (X 1) (Y 1) (Z 1) (cR m 2 1) 0), Value.int .i64 (rv (X 1) (Y 1) (Z 1) (cR m 2 1) 1), Value.int .i64 (rv (X 1) (Y 1) (Z 1) (cR m 2 1) 2), Value.int .i64 (rv (X 1) (Y 1) (Z 1) (cR m 2 1) 3), Value.int .i64 (rv (X 2) (Y 2) (Z 2) (cR m 2 2) 0), Value.int .i64 (rv (X 2) (Y 2) (Z 2) (cR m 2 2) 1), Value.int .i64 (rv (X 2) (Y 2) (Z 2) (cR m 2 2) 2), Value.int .i64 (rv (X 2) (Y 2) (Z 2) (cR m 2 2) 3), Value.int .i64 (rv (X 3) (Y 3) (Z 3) (cR m 2 3) 0), Value.int .i64 (rv (X 3) (Y 3) (Z 3) (cR m 2 3) 1), Value.int .i64 (rv (X 3) (Y 3) (Z 3) (cR m 2 3) 2), Value.int .i64 (rv (X 3) (Y 3) (Z 3) (cR m 2 3) 3)] = _
        rw [show cR m 2 0 = cR m 1 0 from n2 0 (by decide), show cR m 2 1 = cR m 1 1 from n2 1 (by decide), show cR m 2 2 = cR m 1 2 from n2 2 (by decide), show cR m 2 3 = cR m 1 3 from n2 3 (by decide)]
      have q2 : usedV m (3 * 0 + (1 + 1)) = usedV m (3 * 0 + 1) := by show hV m 2 0 + 2 * hV m 2 1 + 4 * hV m 2 2 = _; rw [show hV m 2 0 = hV m 1 0 from n3 0 (by decide), show hV m 2 1 = hV m 1 1 from n3 1 (by decide), show hV m 2 2 = hV m 1 2 from n3 2 (by decide)]; rfl
      have q3 : cntV m (3 * 0 + (1 + 1)) 0 = cntV m (3 * 0 + 1) 0 := by show (if cR m 2 0 = 0 then 0 else 1) = _; rw [show cR m 2 0 = cR m 1 0 from n2 0 (by decide)]; rfl
      have N1 := Lib.hid n1; have Q1 := Lib.hid q1; have Q2 := Lib.hid q2; have Q3 := Lib.hid q3; have K1 := Lib.hid k1
      clear n1 n2 n3 q1 q2 q3 k1
      go_wp2_with fail
      go_roundw
      case rel => exact ⟨1 + 1, by decide, by go_num, by rw [Q2.out], by rw [Q3.out], N1.out, (by rw [Q1.out]; exact K1.out), HB, HZ⟩
      case measure => simp [intOf]
    have hb' := bit0_of (d := 2) hm ((m : Int) / 2) (by omega) false (by simpa using hb)
    by_cases hc : cR m 1 0 = 0
    case neg =>
      have hn1 : cntV m (3 * 0 + 1) 0 = 1 := if_neg hc
      rw [hn1]
      clear hn1
      have hng := mask_bad hm (r := 0) (k := 1) (by decide) (by decide) HG.out hb (.inl hc)
      have HNG := Lib.hid hng
      clear k1 hng
      go_wp2_with fail
      go_returns
      exact ⟨HB.out, .inl ⟨HNG.out, rfl⟩⟩
    have hn1 : cntV m (3 * 0 + 1) 0 = 0 := if_pos hc
    rw [hn1]
    clear hn1
    obtain ⟨u, hu⟩ : ∃ u, u = usedV m (3 * 0 + 1) := ⟨_, rfl⟩
    rw [← hu]
    have hu8 : u < 8 := by rw [hu]; exact used_lt _ _
    have hub : u / 2 ^ 1 % 2 = hV m 1 1 := by rw [hu]; show (hV m 1 0 + 2 * hV m 1 1 + 4 * hV m 1 2) / _ % 2 = _; have := hV_cases m 1 0; have := hV_cases m 1 1; have := hV_cases m 1 2; omega
    by_cases hd : hV m 1 1 = 1
    case pos =>
      have hs := bit_of (m := u) (d := 2) (by omega) ((u : Int) / 2) (by omega) true (by rw [hd] at hub; simpa using hub)
      have hu9 : (u : Int) ≤ 7 := by omega
      clear hu hub hu8
      have hng := mask_bad hm (r := 0) (k := 1) (by decide) (by decide) HG.out hb (.inr hd)
      have HNG := Lib.hid hng
      clear k1 hng
      go_wp2_with fail
      go_returns
      exact ⟨HB.out, .inl ⟨HNG.out, rfl⟩⟩
    have hd0 : hV m 1 1 = 0 := by have := hV_cases m 1 1; omega
    have hs := bit_of (m := u) (d := 2) (by omega) ((u : Int) / 2) (by omega) false (by rw [hd0] at hub; simpa using hub)
    have ho := or_of (k := 1) hu8 (by decide) (hub.trans hd0)
    obtain ⟨n1, n4, n2, n3⟩ := mask_yes hm (r := 0) (k := 1) (by decide) (by decide) HG.out hb hc hd
    have q1 : rowsA X Y Z m (3 * 0 + (1 + 1)) 4 = #[Value.int .i64 0, Value.int .i64 1, Value.int .i64 0, Value.int .i64 0, Value.int .i64 (rv (X 1) (Y 1) (Z 1) (cR m 1 1) 0), Value.int .i64 (rv (X 1) (Y 1) (Z 1) (cR m 1 1) 1), Value.int .i64 (rv (X 1) (Y 1) (Z 1) (cR m 1 1) 2), Value.int .i64 (rv (X 1) (Y 1) (Z 1) (cR m 1 1) 3), Value.int .i64 (rv (X 2) (Y 2) (Z 2) (cR m 1 2) 0), Value.int .i64 (rv (X 2) (Y 2) (Z 2) (cR m 1 2) 1), Value.int .i64 (rv (X 2) (Y 2) (Z 2) (cR m 1 2) 2), Value.int .i64 (rv (X 2) (Y 2) (Z 2) (cR m 1 2) 3), Value.int .i64 (rv (X 3) (Y 3) (Z 3) (cR m 1 3) 0), Value.int .i64 (rv (X 3) (Y 3) (Z 3) (cR m 1 3) 1), Value.int .i64 (rv (X 3) (Y 3) (Z 3) (cR m 1 3) 2), Value.int .i64 (rv (X 3) (Y 3) (Z 3) (cR m 1 3) 3)] := by
      show #[Value.int .i64 (rv (X 0) (Y 0) (Z 0) (cR m 2 0) 0), Value.int .i64 (rv (X 0) (Y 0) (Z 0) (cR m 2 0) 1), Value.int .i64 (rv (X 0) (Y 0) (Z 0) (cR m 2 0) 2), Value.int .i64 (rv (X 0) (Y 0) (Z 0) (cR m 2 0) 3), Value.int .i64 (rv (X 1) (Y 1) (Z 1) (cR m 2 1) 0), Value.int .i64 (rv (X 1) (Y 1) (Z 1) (cR m 2 1) 1), Value.int .i64 (rv (X 1) (Y 1) (Z 1) (cR m 2 1) 2), Value.int .i64 (rv (X 1) (Y 1) (Z 1) (cR m 2 1) 3), Value.int .i64 (rv (X 2) (Y 2) (Z 2) (cR m 2 2) 0), Value.int .i64 (rv (X 2) (Y 2) (Z 2) (cR m 2 2) 1), Value.int .i64 (rv (X 2) (Y 2) (Z 2) (cR m 2 2) 2), Value.int .i64 (rv (X 2) (Y 2) (Z 2) (cR m 2 2) 3), Value.int .i64 (rv (X 3) (Y 3) (Z 3) (cR m 2 3) 0), Value.int .i64 (rv (X 3) (Y 3) (Z 3) (cR m 2 3) 1), Value.int .i64 (rv (X 3) (Y 3) (Z 3) (cR m 2 3) 2), Value.int .i64 (rv (X 3) (Y 3) (Z 3) (cR m 2 3) 3)] = _
      rw [show cR m 2 0 = 2 from n4, show cR m 2 1 = cR m 1 1 from n2 1 (by decide) (by decide), show cR m 2 2 = cR m 1 2 from n2 2 (by decide) (by decide), show cR m 2 3 = cR m 1 3 from n2 3 (by decide) (by decide)]; rfl
    have q2 : usedV m (3 * 0 + (1 + 1)) = u + 2 := by rw [hu]; show hV m 2 0 + 2 * hV m 2 1 + 4 * hV m 2 2 = hV m 1 0 + 2 * hV m 1 1 + 4 * hV m 1 2 + 2; rw [show hV m 2 0 = hV m 1 0 from n3 0 (by decide), show hV m 2 1 = 1 from n3 1 (by decide), show hV m 2 2 = hV m 1 2 from n3 2 (by decide)]; omega
    have q3 : cntV m (3 * 0 + (1 + 1)) 0 = 1 := by show (if cR m 2 0 = 0 then 0 else 1) = 1; rw [show cR m 2 0 = 2 from n4]; rfl
    have N1 := Lib.hid n1; have Q1 := Lib.hid q1; have Q2 := Lib.hid q2; have Q3 := Lib.hid q3; have K1 := Lib.hid k1
    obtain ⟨kq, kr⟩ := cellB k1
    have hu9 : (u : Int) ≤ 7 := by omega
    clear n1 n2 n3 n4 q1 q2 q3 k1 hu hub hd hd0 hu8
    have HO := Lib.hid (show bits BinOp.or IntKind.i64 (u : Int) 2 = ((u + 2 : Nat) : Int) from ho)
    clear ho
    go_wp2_with fail
    go_roundw
    case rel => exact ⟨1 + 1, by decide, by go_num, by rw [Q2.out]; exact congrArg (Value.int IntKind.i64) HO.out, by rw [Q3.out]; rfl, N1.out, (by rw [Q1.out]; refine Eq.trans (set_own (set_own (set_own (set_own K1.out _) _) _) _) ?_; simp), (by have := HB.out; have := HVS.out; refine Lib.hid ?_; go_grown), (by have := HZ.out; refine Lib.hid ?_; simpa using this)⟩
    case measure => simp [intOf]
  · have k1 : wr.heap[V.heap.size]? = some (.cells #[Value.int .i64 (rv (X 0) (Y 0) (Z 0) (cR m 2 0) 0), Value.int .i64 (rv (X 0) (Y 0) (Z 0) (cR m 2 0) 1), Value.int .i64 (rv (X 0) (Y 0) (Z 0) (cR m 2 0) 2), Value.int .i64 (rv (X 0) (Y 0) (Z 0) (cR m 2 0) 3), Value.int .i64 (rv (X 1) (Y 1) (Z 1) (cR m 2 1) 0), Value.int .i64 (rv (X 1) (Y 1) (Z 1) (cR m 2 1) 1), Value.int .i64 (rv (X 1) (Y 1) (Z 1) (cR m 2 1) 2), Value.int .i64 (rv (X 1) (Y 1) (Z 1) (cR m 2 1) 3), Value.int .i64 (rv (X 2) (Y 2) (Z 2) (cR m 2 2) 0), Value.int .i64 (rv (X 2) (Y 2) (Z 2) (cR m 2 2) 1), Value.int .i64 (rv (X 2) (Y 2) (Z 2) (cR m 2 2) 2), Value.int .i64 (rv (X 2) (Y 2) (Z 2) (cR m 2 2) 3), Value.int .i64 (rv (X 3) (Y 3) (Z 3) (cR m 2 3) 0), Value.int .i64 (rv (X 3) (Y 3) (Z 3) (cR m 2 3) 1), Value.int .i64 (rv (X 3) (Y 3) (Z 3) (cR m 2 3) 2), Value.int .i64 (rv (X 3) (Y 3) (Z 3) (cR m 2 3) 3)] 92 (0, 0)) := H1.out
    have hz := HZ.out
    clear H1
    by_cases hb : m / 2 ^ (3 * 0 + 2) % 2 = 1
    case neg =>
      have hb' := bit0_of (d := 4) hm ((m : Int) / 4) (by omega) true (by simpa using hb)
      obtain ⟨n1, n2, n3⟩ := mask_no hm (r := 0) (k := 2) (by decide) (by decide) HG.out hb
      have q1 : rowsA X Y Z m (3 * 0 + (2 + 1)) 4 = #[Value.int .i64 (rv (X 0) (Y 0) (Z 0) (cR m 2 0) 0), Value.int .i64 (rv (X 0) (Y 0) (Z 0) (cR m 2 0) 1), Value.int .i64 (rv (X 0) (Y 0) (Z 0) (cR m 2 0) 2), Value.int .i64 (rv (X 0) (Y 0) (Z 0) (cR m 2 0) 3), Value.int .i64 (rv (X 1) (Y 1) (Z 1) (cR m 2 1) 0), Value.int .i64 (rv (X 1) (Y 1) (Z 1) (cR m 2 1) 1), Value.int .i64 (rv (X 1) (Y 1) (Z 1) (cR m 2 1) 2), Value.int .i64 (rv (X 1) (Y 1) (Z 1) (cR m 2 1) 3), Value.int .i64 (rv (X 2) (Y 2) (Z 2) (cR m 2 2) 0), Value.int .i64 (rv (X 2) (Y 2) (Z 2) (cR m 2 2) 1), Value.int .i64 (rv (X 2) (Y 2) (Z 2) (cR m 2 2) 2), Value.int .i64 (rv (X 2) (Y 2) (Z 2) (cR m 2 2) 3), Value.int .i64 (rv (X 3) (Y 3) (Z 3) (cR m 2 3) 0), Value.int .i64 (rv (X 3) (Y 3) (Z 3) (cR m 2 3) 1), Value.int .i64 (rv (X 3) (Y 3) (Z 3) (cR m 2 3) 2), Value.int .i64 (rv (X 3) (Y 3) (Z 3) (cR m 2 3) 3)] := by
        show #[Value.int .i64 (rv (X 0) (Y 0) (Z 0) (cR m 3 0) 0), Value.int .i64 (rv (X 0) (Y 0) (Z 0) (cR m 3 0) 1), Value.int .i64 (rv (X 0) (Y 0) (Z 0) (cR m 3 0) 2), Value.int .i64 (rv (X 0) (Y 0) (Z 0) (cR m 3 0) 3), Value.int .i64 (rv (X 1) (Y 1) (Z 1) (cR m 3 1) 0), Value.int .i64 (rv (X 1) (Y 1) (Z 1) (cR m 3 1) 1), Value.int .i64 (rv (X 1) (Y 1) (Z 1) (cR m 3 1) 2), Value.int .i64 (rv (X 1) (Y 1) (Z 1) (cR m 3 1) 3), Value.int .i64 (rv (X 2) (Y 2) (Z 2) (cR m 3 2) 0), Value.int .i64 (rv (X 2) (Y 2) (Z 2) (cR m 3 2) 1), Value.int .i64 (rv (X 2) (Y 2) (Z 2) (cR m 3 2) 2), Value.int .i64 (rv (X 2) (Y 2) (Z 2) (cR m 3 2) 3), Value.int .i64 (rv (X 3) (Y 3) (Z 3) (cR m 3 3) 0), Value.int .i64 (rv (X 3) (Y 3) (Z 3) (cR m 3 3) 1), Value.int .i64 (rv (X 3) (Y 3) (Z 3) (cR m 3 3) 2), Value.int .i64 (rv (X 3) (Y 3) (Z 3) (cR m 3 3) 3)] = _
        rw [show cR m 3 0 = cR m 2 0 from n2 0 (by decide), show cR m 3 1 = cR m 2 1 from n2 1 (by decide), show cR m 3 2 = cR m 2 2 from n2 2 (by decide), show cR m 3 3 = cR m 2 3 from n2 3 (by decide)]
      have q2 : usedV m (3 * 0 + (2 + 1)) = usedV m (3 * 0 + 2) := by show hV m 3 0 + 2 * hV m 3 1 + 4 * hV m 3 2 = _; rw [show hV m 3 0 = hV m 2 0 from n3 0 (by decide), show hV m 3 1 = hV m 2 1 from n3 1 (by decide), show hV m 3 2 = hV m 2 2 from n3 2 (by decide)]; rfl
      have q3 : cntV m (3 * 0 + (2 + 1)) 0 = cntV m (3 * 0 + 2) 0 := by show (if cR m 3 0 = 0 then 0 else 1) = _; rw [show cR m 3 0 = cR m 2 0 from n2 0 (by decide)]; rfl
      have N1 := Lib.hid n1; have Q1 := Lib.hid q1; have Q2 := Lib.hid q2; have Q3 := Lib.hid q3; have K1 := Lib.hid k1
      clear n1 n2 n3 q1 q2 q3 k1
      go_wp2_with fail
      go_roundw
      case rel => exact ⟨2 + 1, by decide, by go_num, by rw [Q2.out], by rw [Q3.out], N1.out, (by rw [Q1.out]; exact K1.out), HB, HZ⟩
      case measure => simp [intOf]
    have hb' := bit0_of (d := 4) hm ((m : Int) / 4) (by omega) false (by simpa using hb)
    by_cases hc : cR m 2 0 = 0
    case neg =>
      have hn1 : cntV m (3 * 0 + 2) 0 = 1 := if_neg hc
      rw [hn1]
      clear hn1
      have hng := mask_bad hm (r := 0) (k := 2) (by decide) (by decide) HG.out hb (.inl hc)
      have HNG := Lib.hid hng
      clear k1 hng
      go_wp2_with fail
      go_returns
      exact ⟨HB.out, .inl ⟨HNG.out, rfl⟩⟩
    have hn1 : cntV m (3 * 0 + 2) 0 = 0 := if_pos hc
    rw [hn1]
    clear hn1
    obtain ⟨u, hu⟩ : ∃ u, u = usedV m (3 * 0 + 2) := ⟨_, rfl⟩
    rw [← hu]
    have hu8 : u < 8 := by rw [hu]; exact used_lt _ _
    have hub : u / 2 ^ 2 % 2 = hV m 2 2 := by rw [hu]; show (hV m 2 0 + 2 * hV m 2 1 + 4 * hV m 2 2) / _ % 2 = _; have := hV_cases m 2 0; have := hV_cases m 2 1; have := hV_cases m 2 2; omega
    by_cases hd : hV m 2 2 = 1
    case pos =>
      have hs := bit_of (m := u) (d := 4) (by omega) ((u : Int) / 4) (by omega) true (by rw [hd] at hub; simpa using hub)
      have hu9 : (u : Int) ≤ 7 := by omega
      clear hu hub hu8
      have hng := mask_bad hm (r := 0) (k := 2) (by decide) (by decide) HG.out hb (.inr hd)
      have HNG := Lib.hid hng
      clear k1 hng
      go_wp2_with fail
      go_returns
      exact ⟨HB.out, .inl ⟨HNG.out, rfl⟩⟩
    have hd0 : hV m 2 2 = 0 := by have := hV_cases m 2 2; omega
    have hs := bit_of (m := u) (d := 4) (by omega) ((u : Int) / 4) (by omega) false (by rw [hd0] at hub; simpa using hub)
    have ho := or_of (k := 2) hu8 (by decide) (hub.trans hd0)
    obtain ⟨n1, n4, n2, n3⟩ := mask_yes hm (r := 0) (k := 2) (by decide) (by decide) HG.out hb hc hd
    have q1 : rowsA X Y Z m (3 * 0 + (2 + 1)) 4 = #[Value.int .i64 1, Value.int .i64 0, Value.int .i64 0, Value.int .i64 0, Value.int .i64 (rv (X 1) (Y 1) (Z 1) (cR m 2 1) 0), Value.int .i64 (rv (X 1) (Y 1) (Z 1) (cR m 2 1) 1), Value.int .i64 (rv (X 1) (Y 1) (Z 1) (cR m 2 1) 2), Value.int .i64 (rv (X 1) (Y 1) (Z 1) (cR m 2 1) 3), Value.int .i64 (rv (X 2) (Y 2) (Z 2) (cR m 2 2) 0), Value.int .i64 (rv (X 2) (Y 2) (Z 2) (cR m 2 2) 1), Value.int .i64 (rv (X 2) (Y 2) (Z 2) (cR m 2 2) 2), Value.int .i64 (rv (X 2) (Y 2) (Z 2) (cR m 2 2) 3), Value.int .i64 (rv (X 3) (Y 3) (Z 3) (cR m 2 3) 0), Value.int .i64 (rv (X 3) (Y 3) (Z 3) (cR m 2 3) 1), Value.int .i64 (rv (X 3) (Y 3) (Z 3) (cR m 2 3) 2), Value.int .i64 (rv (X 3) (Y 3) (Z 3) (cR m 2 3) 3)] := by
      show #[Value.int .i64 (rv (X 0) (Y 0) (Z 0) (cR m 3 0) 0), Value.int .i64 (rv (X 0) (Y 0) (Z 0) (cR m 3 0) 1), Value.int .i64 (rv (X 0) (Y 0) (Z 0) (cR m 3 0) 2), Value.int .i64 (rv (X 0) (Y 0) (Z 0) (cR m 3 0) 3), Value.int .i64 (rv (X 1) (Y 1) (Z 1) (cR m 3 1) 0), Value.int .i64 (rv (X 1) (Y 1) (Z 1) (cR m 3 1) 1), Value.int .i64 (rv (X 1) (Y 1) (Z 1) (cR m 3 1) 2), Value.int .i64 (rv (X 1) (Y 1) (Z 1) (cR m 3 1) 3), Value.int .i64 (rv (X 2) (Y 2) (Z 2) (cR m 3 2) 0), Value.int .i64 (rv (X 2) (Y 2) (Z 2) (cR m 3 2) 1), Value.int .i64 (rv (X 2) (Y 2) (Z 2) (cR m 3 2) 2), Value.int .i64 (rv (X 2) (Y 2) (Z 2) (cR m 3 2) 3), Value.int .i64 (rv (X 3) (Y 3) (Z 3) (cR m 3 3) 0), Value.int .i64 (rv (X 3) (Y 3) (Z 3) (cR m 3 3) 1), Value.int .i64 (rv (X 3) (Y 3) (Z 3) (cR m 3 3) 2), Value.int .i64 (rv (X 3) (Y 3) (Z 3) (cR m 3 3) 3)] = _
      rw [show cR m 3 0 = 4 from n4, show cR m 3 1 = cR m 2 1 from n2 1 (by decide) (by decide), show cR m 3 2 = cR m 2 2 from n2 2 (by decide) (by decide), show cR m 3 3 = cR m 2 3 from n2 3 (by decide) (by decide)]; rfl
    have q2 : usedV m (3 * 0 + (2 + 1)) = u + 4 := by rw [hu]; show hV m 3 0 + 2 * hV m 3 1 + 4 * hV m 3 2 = hV m 2 0 + 2 * hV m 2 1 + 4 * hV m 2 2 + 4; rw [show hV m 3 0 = hV m 2 0 from n3 0 (by decide), show hV m 3 1 = hV m 2 1 from n3 1 (by decide), show hV m 3 2 = 1 from n3 2 (by decide)]; omega
    have q3 : cntV m (3 * 0 + (2 + 1)) 0 = 1 := by show (if cR m 3 0 = 0 then 0 else 1) = 1; rw [show cR m 3 0 = 4 from n4]; rfl
    have N1 := Lib.hid n1; have Q1 := Lib.hid q1; have Q2 := Lib.hid q2; have Q3 := Lib.hid q3; have K1 := Lib.hid k1
    obtain ⟨kq, kr⟩ := cellB k1
    have hu9 : (u : Int) ≤ 7 := by omega
    clear n1 n2 n3 n4 q1 q2 q3 k1 hu hub hd hd0 hu8
    have HO := Lib.hid (show bits BinOp.or IntKind.i64 (u : Int) 4 = ((u + 4 : Nat) : Int) from ho)
    clear ho
    go_wp2_with fail
    go_roundw
    case rel => exact ⟨2 + 1, by decide, by go_num, by rw [Q2.out]; exact congrArg (Value.int IntKind.i64) HO.out, by rw [Q3.out]; rfl, N1.out, (by rw [Q1.out]; refine Eq.trans (set_own (set_own (set_own (set_own K1.out _) _) _) _) ?_; simp), (by have := HB.out; have := HVS.out; refine Lib.hid ?_; go_grown), (by have := HZ.out; refine Lib.hid ?_; simpa using this)⟩
    case measure => simp [intOf]
  obtain ⟨S0, rfl⟩ : ∃ S, S = wr := ⟨_, rfl⟩
  have k1 : S0.heap[V.heap.size]? = some (.cells (rowsA X Y Z m (3 * 1 + 0) 4) 92 (0, 0)) := H1.out
  replace HG : Hid (good m (3 * 1 + 0) = true) := HG.out
  have hB := HB.out; have hz := HZ.out
  have K1 := Lib.hid k1
  clear H1 HB HZ k1
  go_wp2_with fail
  rw [rounds_succ]
  go_wp2_with fail
  have k1 := K1.out
  clear K1
  have hn : Value.int .i64 0 = .int .i64 (cntV m (3 * 1 + 0) 1 : Nat) := by unfold cntV; rw [if_pos (code0 (by decide))]; rfl
  go_loopw [7, 9, 10] (fun u n kk wx => ∃ k : Nat, k ≤ 3 ∧ kk = .int .i64 k ∧ u = .int .i64 (usedV m (3 * 1 + k) : Nat) ∧ n = .int .i64 (cntV m (3 * 1 + k) 1 : Nat) ∧ Hid (good m (3 * 1 + k) = true) ∧ Hid (wx.heap[V.heap.size]? = some (.cells (rowsA X Y Z m (3 * 1 + k) 4) 92 (0, 0))) ∧ Hid (Below w.heap.size w wx) ∧ Hid (V.heap.size < wx.heap.size))
    (fun _ _ kk _ => 3 - (intOf kk).toNat)
  case atStart => exact ⟨0, by decide, rfl, rfl, hn, HG, k1, hB, hz⟩
  clear k1 hB hz HG hn
  obtain ⟨k, hk, rfl, rfl, rfl, HG, H1, HB, HZ⟩ := hrel
  have hk3 : k = 0 ∨ k = 1 ∨ k = 2 ∨ k = 3 := by omega
  clear hk
  rcases hk3 with rfl | rfl | rfl | rfl
  · have k1 : wr.heap[V.heap.size]? = some (.cells #[Value.int .i64 (rv (X 0) (Y 0) (Z 0) (cR m 3 0) 0), Value.int .i64 (rv (X 0) (Y 0) (Z 0) (cR m 3 0) 1), Value.int .i64 (rv (X 0) (Y 0) (Z 0) (cR m 3 0) 2), Value.int .i64 (rv (X 0) (Y 0) (Z 0) (cR m 3 0) 3), Value.int .i64 (rv (X 1) (Y 1) (Z 1) (cR m 3 1) 0), Value.int .i64 (rv (X 1) (Y 1) (Z 1) (cR m 3 1) 1), Value.int .i64 (rv (X 1) (Y 1) (Z 1) (cR m 3 1) 2), Value.int .i64 (rv (X 1) (Y 1) (Z 1) (cR m 3 1) 3), Value.int .i64 (rv (X 2) (Y 2) (Z 2) (cR m 3 2) 0), Value.int .i64 (rv (X 2) (Y 2) (Z 2) (cR m 3 2) 1), Value.int .i64 (rv (X 2) (Y 2) (Z 2) (cR m 3 2) 2), Value.int .i64 (rv (X 2) (Y 2) (Z 2) (cR m 3 2) 3), Value.int .i64 (rv (X 3) (Y 3) (Z 3) (cR m 3 3) 0), Value.int .i64 (rv (X 3) (Y 3) (Z 3) (cR m 3 3) 1), Value.int .i64 (rv (X 3) (Y 3) (Z 3) (cR m 3 3) 2), Value.int .i64 (rv (X 3) (Y 3) (Z 3) (cR m 3 3) 3)] 92 (0, 0)) := H1.out
    have hz := HZ.out
    clear H1
    by_cases hb : m / 2 ^ (3 * 1 + 0) % 2 = 1
    case neg =>
      have hb' := bit0_of (d := 8) hm ((m : Int) / 8) (by omega) true (by simpa using hb)
      obtain ⟨n1, n2, n3⟩ := mask_no hm (r := 1) (k := 0) (by decide) (by decide) HG.out hb
      have q1 : rowsA X Y Z m (3 * 1 + (0 + 1)) 4 = #[Value.int .i64 (rv (X 0) (Y 0) (Z 0) (cR m 3 0) 0), Value.int .i64 (rv (X 0) (Y 0) (Z 0) (cR m 3 0) 1), Value.int .i64 (rv (X 0) (Y 0) (Z 0) (cR m 3 0) 2), Value.int .i64 (rv (X 0) (Y 0) (Z 0) (cR m 3 0) 3), Value.int .i64 (rv (X 1) (Y 1) (Z 1) (cR m 3 1) 0), Value.int .i64 (rv (X 1) (Y 1) (Z 1) (cR m 3 1) 1), Value.int .i64 (rv (X 1) (Y 1) (Z 1) (cR m 3 1) 2), Value.int .i64 (rv (X 1) (Y 1) (Z 1) (cR m 3 1) 3), Value.int .i64 (rv (X 2) (Y 2) (Z 2) (cR m 3 2) 0), Value.int .i64 (rv (X 2) (Y 2) (Z 2) (cR m 3 2) 1), Value.int .i64 (rv (X 2) (Y 2) (Z 2) (cR m 3 2) 2), Value.int .i64 (rv (X 2) (Y 2) (Z 2) (cR m 3 2) 3), Value.int .i64 (rv (X 3) (Y 3) (Z 3) (cR m 3 3) 0), Value.int .i64 (rv (X 3) (Y 3) (Z 3) (cR m 3 3) 1), Value.int .i64 (rv (X 3) (Y 3) (Z 3) (cR m 3 3) 2), Value.int .i64 (rv (X 3) (Y 3) (Z 3) (cR m 3 3) 3)] := by
        show #[Value.int .i64 (rv (X 0) (Y 0) (Z 0) (cR m 4 0) 0), Value.int .i64 (rv (X 0) (Y 0) (Z 0) (cR m 4 0) 1), Value.int .i64 (rv (X 0) (Y 0) (Z 0) (cR m 4 0) 2), Value.int .i64 (rv (X 0) (Y 0) (Z 0) (cR m 4 0) 3), Value.int .i64 (rv (X 1) (Y 1) (Z 1) (cR m 4 1) 0), Value.int .i64 (rv (X 1) (Y 1) (Z 1) (cR m 4 1) 1), Value.int .i64 (rv (X 1) (Y 1) (Z 1) (cR m 4 1) 2), Value.int .i64 (rv (X 1) (Y 1) (Z 1) (cR m 4 1) 3), Value.int .i64 (rv (X 2) (Y 2) (Z 2) (cR m 4 2) 0), Value.int .i64 (rv (X 2) (Y 2) (Z 2) (cR m 4 2) 1), Value.int .i64 (rv (X 2) (Y 2) (Z 2) (cR m 4 2) 2), Value.int .i64 (rv (X 2) (Y 2) (Z 2) (cR m 4 2) 3), Value.int .i64 (rv (X 3) (Y 3) (Z 3) (cR m 4 3) 0), Value.int .i64 (rv (X 3) (Y 3) (Z 3) (cR m 4 3) 1), Value.int .i64 (rv (X 3) (Y 3) (Z 3) (cR m 4 3) 2), Value.int .i64 (rv (X 3) (Y 3) (Z 3) (cR m 4 3) 3)] = _
        rw [show cR m 4 0 = cR m 3 0 from n2 0 (by decide), show cR m 4 1 = cR m 3 1 from n2 1 (by decide), show cR m 4 2 = cR m 3 2 from n2 2 (by decide), show cR m 4 3 = cR m 3 3 from n2 3 (by decide)]
      have q2 : usedV m (3 * 1 + (0 + 1)) = usedV m (3 * 1 + 0) := by show hV m 4 0 + 2 * hV m 4 1 + 4 * hV m 4 2 = _; rw [show hV m 4 0 = hV m 3 0 from n3 0 (by decide), show hV m 4 1 = hV m 3 1 from n3 1 (by decide), show hV m 4 2 = hV m 3 2 from n3 2 (by decide)]; rfl
      have q3 : cntV m (3 * 1 + (0 + 1)) 1 = cntV m (3 * 1 + 0) 1 := by show (if cR m 4 1 = 0 then 0 else 1) = _; rw [show cR m 4 1 = cR m 3 1 from n2 1 (by decide)]; rfl
      have N1 := Lib.hid n1; have Q1 := Lib.hid q1; have Q2 := Lib.hid q2; have Q3 := Lib.hid q3; have K1 := Lib.hid k1
      clear n1 n2 n3 q1 q2 q3 k1
      go_wp2_with fail
      go_roundw
      case rel => exact ⟨0 + 1, by decide, by go_num, by rw [Q2.out], by rw [Q3.out], N1.out, (by rw [Q1.out]; exact K1.out), HB, HZ⟩
      case measure => simp [intOf]
    have hb' := bit0_of (d := 8) hm ((m : Int) / 8) (by omega) false (by simpa using hb)
    by_cases hc : cR m 3 1 = 0
    case neg =>
      have hn1 : cntV m (3 * 1 + 0) 1 = 1 := if_neg hc
      rw [hn1]
      clear hn1
      have hng := mask_bad hm (r := 1) (k := 0) (by decide) (by decide) HG.out hb (.inl hc)
      have HNG := Lib.hid hng
      clear k1 hng
      go_wp2_with fail
      go_returns
      exact ⟨HB.out, .inl ⟨HNG.out, rfl⟩⟩
    have hn1 : cntV m (3 * 1 + 0) 1 = 0 := if_pos hc
    rw [hn1]
    clear hn1
    obtain ⟨u, hu⟩ : ∃ u, u = usedV m (3 * 1 + 0) := ⟨_, rfl⟩
    rw [← hu]
    have hu8 : u < 8 := by rw [hu]; exact used_lt _ _
    have hub : u / 2 ^ 0 % 2 = hV m 3 0 := by rw [hu]; show (hV m 3 0 + 2 * hV m 3 1 + 4 * hV m 3 2) / _ % 2 = _; have := hV_cases m 3 0; have := hV_cases m 3 1; have := hV_cases m 3 2; omega
    by_cases hd : hV m 3 0 = 1
    case pos =>
      have hs := bit_of (m := u) (d := 1) (by omega) ((u : Int)) (by omega) true (by rw [hd] at hub; simpa using hub)
      have hu9 : (u : Int) ≤ 7 := by omega
      clear hu hub hu8
      have hng := mask_bad hm (r := 1) (k := 0) (by decide) (by decide) HG.out hb (.inr hd)
      have HNG := Lib.hid hng
      clear k1 hng
      go_wp2_with fail
      go_returns
      exact ⟨HB.out, .inl ⟨HNG.out, rfl⟩⟩
    have hd0 : hV m 3 0 = 0 := by have := hV_cases m 3 0; omega
    have hs := bit_of (m := u) (d := 1) (by omega) ((u : Int)) (by omega) false (by rw [hd0] at hub; simpa using hub)
    have ho := or_of (k := 0) hu8 (by decide) (hub.trans hd0)
    obtain ⟨n1, n4, n2, n3⟩ := mask_yes hm (r := 1) (k := 0) (by decide) (by decide) HG.out hb hc hd
    have q1 : rowsA X Y Z m (3 * 1 + (0 + 1)) 4 = #[Value.int .i64 (rv (X 0) (Y 0) (Z 0) (cR m 3 0) 0), Value.int .i64 (rv (X 0) (Y 0) (Z 0) (cR m 3 0) 1), Value.int .i64 (rv (X 0) (Y 0) (Z 0) (cR m 3 0) 2), Value.int .i64 (rv (X 0) (Y 0) (Z 0) (cR m 3 0) 3), Value.int .i64 0, Value.int .i64 0, Value.int .i64 1, Value.int .i64 0, Value.int .i64 (rv (X 2) (Y 2) (Z 2) (cR m 3 2) 0), Value.int .i64 (rv (X 2) (Y 2) (Z 2) (cR m 3 2) 1), Value.int .i64 (rv (X 2) (Y 2) (Z 2) (cR m 3 2) 2), Value.int .i64 (rv (X 2) (Y 2) (Z 2) (cR m 3 2) 3), Value.int .i64 (rv (X 3) (Y 3) (Z 3) (cR m 3 3) 0), Value.int .i64 (rv (X 3) (Y 3) (Z 3) (cR m 3 3) 1), Value.int .i64 (rv (X 3) (Y 3) (Z 3) (cR m 3 3) 2), Value.int .i64 (rv (X 3) (Y 3) (Z 3) (cR m 3 3) 3)] := by
      show #[Value.int .i64 (rv (X 0) (Y 0) (Z 0) (cR m 4 0) 0), Value.int .i64 (rv (X 0) (Y 0) (Z 0) (cR m 4 0) 1), Value.int .i64 (rv (X 0) (Y 0) (Z 0) (cR m 4 0) 2), Value.int .i64 (rv (X 0) (Y 0) (Z 0) (cR m 4 0) 3), Value.int .i64 (rv (X 1) (Y 1) (Z 1) (cR m 4 1) 0), Value.int .i64 (rv (X 1) (Y 1) (Z 1) (cR m 4 1) 1), Value.int .i64 (rv (X 1) (Y 1) (Z 1) (cR m 4 1) 2), Value.int .i64 (rv (X 1) (Y 1) (Z 1) (cR m 4 1) 3), Value.int .i64 (rv (X 2) (Y 2) (Z 2) (cR m 4 2) 0), Value.int .i64 (rv (X 2) (Y 2) (Z 2) (cR m 4 2) 1), Value.int .i64 (rv (X 2) (Y 2) (Z 2) (cR m 4 2) 2), Value.int .i64 (rv (X 2) (Y 2) (Z 2) (cR m 4 2) 3), Value.int .i64 (rv (X 3) (Y 3) (Z 3) (cR m 4 3) 0), Value.int .i64 (rv (X 3) (Y 3) (Z 3) (cR m 4 3) 1), Value.int .i64 (rv (X 3) (Y 3) (Z 3) (cR m 4 3) 2), Value.int .i64 (rv (X 3) (Y 3) (Z 3) (cR m 4 3) 3)] = _
      rw [show cR m 4 0 = cR m 3 0 from n2 0 (by decide) (by decide), show cR m 4 1 = 1 from n4, show cR m 4 2 = cR m 3 2 from n2 2 (by decide) (by decide), show cR m 4 3 = cR m 3 3 from n2 3 (by decide) (by decide)]; rfl
    have q2 : usedV m (3 * 1 + (0 + 1)) = u + 1 := by rw [hu]; show hV m 4 0 + 2 * hV m 4 1 + 4 * hV m 4 2 = hV m 3 0 + 2 * hV m 3 1 + 4 * hV m 3 2 + 1; rw [show hV m 4 0 = 1 from n3 0 (by decide), show hV m 4 1 = hV m 3 1 from n3 1 (by decide), show hV m 4 2 = hV m 3 2 from n3 2 (by decide)]; omega
    have q3 : cntV m (3 * 1 + (0 + 1)) 1 = 1 := by show (if cR m 4 1 = 0 then 0 else 1) = 1; rw [show cR m 4 1 = 1 from n4]; rfl
    have N1 := Lib.hid n1; have Q1 := Lib.hid q1; have Q2 := Lib.hid q2; have Q3 := Lib.hid q3; have K1 := Lib.hid k1
    obtain ⟨kq, kr⟩ := cellB k1
    have hu9 : (u : Int) ≤ 7 := by omega
    clear n1 n2 n3 n4 q1 q2 q3 k1 hu hub hd hd0 hu8
    have HO := Lib.hid (show bits BinOp.or IntKind.i64 (u : Int) 1 = ((u + 1 : Nat) : Int) from ho)
    clear ho
    go_wp2_with fail
    go_roundw
    case rel => exact ⟨0 + 1, by decide, by go_num, by rw [Q2.out]; exact congrArg (Value.int IntKind.i64) HO.out, by rw [Q3.out]; rfl, N1.out, (by rw [Q1.out]; refine Eq.trans (set_own (set_own (set_own (set_own K1.out _) _) _) _) ?_; simp), (by have := HB.out; have := HVS.out; refine Lib.hid ?_; go_grown), (by have := HZ.out; refine Lib.hid ?_; simpa using this)⟩
    case measure => simp [intOf]
  · have k1 : wr.heap[V.heap.size]? = some (.cells #[Value.int .i64 (rv (X 0) (Y 0) (Z 0) (cR m 4 0) 0), Value.int .i64 (rv (X 0) (Y 0) (Z 0) (cR m 4 0) 1), Value.int .i64 (rv (X 0) (Y 0) (Z 0) (cR m 4 0) 2), Value.int .i64 (rv (X 0) (Y 0) (Z 0) (cR m 4 0) 3), Value.int .i64 (rv (X 1) (Y 1) (Z 1) (cR m 4 1) 0), Value.int .i64 (rv (X 1) (Y 1) (Z 1) (cR m 4 1) 1), Value.int .i64 (rv (X 1) (Y 1) (Z 1) (cR m 4 1) 2), Value.int .i64 (rv (X 1) (Y 1) (Z 1) (cR m 4 1) 3), Value.int .i64 (rv (X 2) (Y 2) (Z 2) (cR m 4 2) 0), Value.int .i64 (rv (X 2) (Y 2) (Z 2) (cR m 4 2) 1), Value.int .i64 (rv (X 2) (Y 2) (Z 2) (cR m 4 2) 2), Value.int .i64 (rv (X 2) (Y 2) (Z 2) (cR m 4 2) 3), Value.int .i64 (rv (X 3) (Y 3) (Z 3) (cR m 4 3) 0), Value.int .i64 (rv (X 3) (Y 3) (Z 3) (cR m 4 3) 1), Value.int .i64 (rv (X 3) (Y 3) (Z 3) (cR m 4 3) 2), Value.int .i64 (rv (X 3) (Y 3) (Z 3) (cR m 4 3) 3)] 92 (0, 0)) := H1.out
    have hz := HZ.out
    clear H1
    by_cases hb : m / 2 ^ (3 * 1 + 1) % 2 = 1
    case neg =>
      have hb' := bit0_of (d := 16) hm ((m : Int) / 16) (by omega) true (by simpa using hb)
      obtain ⟨n1, n2, n3⟩ := mask_no hm (r := 1) (k := 1) (by decide) (by decide) HG.out hb
      have q1 : rowsA X Y Z m (3 * 1 + (1 + 1)) 4 = #[Value.int .i64 (rv (X 0) (Y 0) (Z 0) (cR m 4 0) 0), Value.int .i64 (rv (X 0) (Y 0) (Z 0) (cR m 4 0) 1), Value.int .i64 (rv (X 0) (Y 0) (Z 0) (cR m 4 0) 2), Value.int .i64 (rv (X 0) (Y 0) (Z 0) (cR m 4 0) 3), Value.int .i64 (rv (X 1) (Y 1) (Z 1) (cR m 4 1) 0), Value.int .i64 (rv (X 1) (Y 1) (Z 1) (cR m 4 1) 1), Value.int .i64 (rv (X 1) (Y 1) (Z 1) (cR m 4 1) 2), Value.int .i64 (rv (X 1) (Y 1) (Z 1) (cR m 4 1) 3), Value.int .i64 (rv (X 2) (Y 2) (Z 2) (cR m 4 2) 0), Value.int .i64 (rv (X 2) (Y 2) (Z 2) (cR m 4 2) 1), Value.int .i64 (rv (X 2) (Y 2) (Z 2) (cR m 4 2) 2), Value.int .i64 (rv (X 2) (Y 2) (Z 2) (cR m 4 2) 3), Value.int .i64 (rv (X 3) (Y 3) (Z 3) (cR m 4 3) 0), Value.int .i64 (rv (X 3) (Y 3) (Z 3) (cR m 4 3) 1), Value.int .i64 (rv (X 3) (Y 3) (Z 3) (cR m 4 3) 2), Value.int .i64 (rv (X 3) (Y 3) (Z 3) (cR m 4 3) 3)] := by
        show #[Value.int .i64 (rv (X 0) (Y 0) (Z 0) (cR m 5 0) 0), Value.int .i64 (rv (X 0) (Y 0) (Z 0) (cR m 5 0) 1), Value.int .i64 (rv (X 0) (Y 0) (Z 0) (cR m 5 0) 2), Value.int .i64 (rv (X 0) (Y 0) (Z 0) (cR m 5 0) 3), Value.int .i64 (rv (X 1) (Y 1) (Z 1) (cR m 5 1) 0), Value.int .i64 (rv (X 1) (Y 1) (Z 1) (cR m 5 1) 1), Value.int .i64 (rv (X 1) (Y 1) (Z 1) (cR m 5 1) 2), Value.int .i64 (rv (X 1) (Y 1) (Z 1) (cR m 5 1) 3), Value.int .i64 (rv (X 2) (Y 2) (Z 2) (cR m 5 2) 0), Value.int .i64 (rv (X 2) (Y 2) (Z 2) (cR m 5 2) 1), Value.int .i64 (rv (X 2) (Y 2) (Z 2) (cR m 5 2) 2), Value.int .i64 (rv (X 2) (Y 2) (Z 2) (cR m 5 2) 3), Value.int .i64 (rv (X 3) (Y 3) (Z 3) (cR m 5 3) 0), Value.int .i64 (rv (X 3) (Y 3) (Z 3) (cR m 5 3) 1), Value.int .i64 (rv (X 3) (Y 3) (Z 3) (cR m 5 3) 2), Value.int .i64 (rv (X 3) (Y 3) (Z 3) (cR m 5 3) 3)] = _
        rw [show cR m 5 0 = cR m 4 0 from n2 0 (by decide), show cR m 5 1 = cR m 4 1 from n2 1 (by decide), show cR m 5 2 = cR m 4 2 from n2 2 (by decide), show cR m 5 3 = cR m 4 3 from n2 3 (by decide)]
      have q2 : usedV m (3 * 1 + (1 + 1)) = usedV m (3 * 1 + 1) := by show hV m 5 0 + 2 * hV m 5 1 + 4 * hV m 5 2 = _; rw [show hV m 5 0 = hV m 4 0 from n3 0 (by decide), show hV m 5 1 = hV m 4 1 from n3 1 (by decide), show hV m 5 2 = hV m 4 2 from n3 2 (by decide)]; rfl
      have q3 : cntV m (3 * 1 + (1 + 1)) 1 = cntV m (3 * 1 + 1) 1 := by show (if cR m 5 1 = 0 then 0 else 1) = _; rw [show cR m 5 1 = cR m 4 1 from n2 1 (by decide)]; rfl
      have N1 := Lib.hid n1; have Q1 := Lib.hid q1; have Q2 := Lib.hid q2; have Q3 := Lib.hid q3; have K1 := Lib.hid k1
      clear n1 n2 n3 q1 q2 q3 k1
      go_wp2_with fail
      go_roundw
      case rel => exact ⟨1 + 1, by decide, by go_num, by rw [Q2.out], by rw [Q3.out], N1.out, (by rw [Q1.out]; exact K1.out), HB, HZ⟩
      case measure => simp [intOf]
    have hb' := bit0_of (d := 16) hm ((m : Int) / 16) (by omega) false (by simpa using hb)
    by_cases hc : cR m 4 1 = 0
    case neg =>
      have hn1 : cntV m (3 * 1 + 1) 1 = 1 := if_neg hc
      rw [hn1]
      clear hn1
      have hng := mask_bad hm (r := 1) (k := 1) (by decide) (by decide) HG.out hb (.inl hc)
      have HNG := Lib.hid hng
      clear k1 hng
      go_wp2_with fail
      go_returns
      exact ⟨HB.out, .inl ⟨HNG.out, rfl⟩⟩
    have hn1 : cntV m (3 * 1 + 1) 1 = 0 := if_pos hc
    rw [hn1]
    clear hn1
    obtain ⟨u, hu⟩ : ∃ u, u = usedV m (3 * 1 + 1) := ⟨_, rfl⟩
    rw [← hu]
    have hu8 : u < 8 := by rw [hu]; exact used_lt _ _
    have hub : u / 2 ^ 1 % 2 = hV m 4 1 := by rw [hu]; show (hV m 4 0 + 2 * hV m 4 1 + 4 * hV m 4 2) / _ % 2 = _; have := hV_cases m 4 0; have := hV_cases m 4 1; have := hV_cases m 4 2; omega
    by_cases hd : hV m 4 1 = 1
    case pos =>
      have hs := bit_of (m := u) (d := 2) (by omega) ((u : Int) / 2) (by omega) true (by rw [hd] at hub; simpa using hub)
      have hu9 : (u : Int) ≤ 7 := by omega
      clear hu hub hu8
      have hng := mask_bad hm (r := 1) (k := 1) (by decide) (by decide) HG.out hb (.inr hd)
      have HNG := Lib.hid hng
      clear k1 hng
      go_wp2_with fail
      go_returns
      exact ⟨HB.out, .inl ⟨HNG.out, rfl⟩⟩
    have hd0 : hV m 4 1 = 0 := by have := hV_cases m 4 1; omega
    have hs := bit_of (m := u) (d := 2) (by omega) ((u : Int) / 2) (by omega) false (by rw [hd0] at hub; simpa using hub)
    have ho := or_of (k := 1) hu8 (by decide) (hub.trans hd0)
    obtain ⟨n1, n4, n2, n3⟩ := mask_yes hm (r := 1) (k := 1) (by decide) (by decide) HG.out hb hc hd
    have q1 : rowsA X Y Z m (3 * 1 + (1 + 1)) 4 = #[Value.int .i64 (rv (X 0) (Y 0) (Z 0) (cR m 4 0) 0), Value.int .i64 (rv (X 0) (Y 0) (Z 0) (cR m 4 0) 1), Value.int .i64 (rv (X 0) (Y 0) (Z 0) (cR m 4 0) 2), Value.int .i64 (rv (X 0) (Y 0) (Z 0) (cR m 4 0) 3), Value.int .i64 0, Value.int .i64 1, Value.int .i64 0, Value.int .i64 0, Value.int .i64 (rv (X 2) (Y 2) (Z 2) (cR m 4 2) 0), Value.int .i64 (rv (X 2) (Y 2) (Z 2) (cR m 4 2) 1), Value.int .i64 (rv (X 2) (Y 2) (Z 2) (cR m 4 2) 2), Value.int .i64 (rv (X 2) (Y 2) (Z 2) (cR m 4 2) 3), Value.int .i64 (rv (X 3) (Y 3) (Z 3) (cR m 4 3) 0), Value.int .i64 (rv (X 3) (Y 3) (Z 3) (cR m 4 3) 1), Value.int .i64 (rv (X 3) (Y 3) (Z 3) (cR m 4 3) 2), Value.int .i64 (rv (X 3) (Y 3) (Z 3) (cR m 4 3) 3)] := by
      show #[Value.int .i64 (rv (X 0) (Y 0) (Z 0) (cR m 5 0) 0), Value.int .i64 (rv (X 0) (Y 0) (Z 0) (cR m 5 0) 1), Value.int .i64 (rv (X 0) (Y 0) (Z 0) (cR m 5 0) 2), Value.int .i64 (rv (X 0) (Y 0) (Z 0) (cR m 5 0) 3), Value.int .i64 (rv (X 1) (Y 1) (Z 1) (cR m 5 1) 0), Value.int .i64 (rv (X 1) (Y 1) (Z 1) (cR m 5 1) 1), Value.int .i64 (rv (X 1) (Y 1) (Z 1) (cR m 5 1) 2), Value.int .i64 (rv (X 1) (Y 1) (Z 1) (cR m 5 1) 3), Value.int .i64 (rv (X 2) (Y 2) (Z 2) (cR m 5 2) 0), Value.int .i64 (rv (X 2) (Y 2) (Z 2) (cR m 5 2) 1), Value.int .i64 (rv (X 2) (Y 2) (Z 2) (cR m 5 2) 2), Value.int .i64 (rv (X 2) (Y 2) (Z 2) (cR m 5 2) 3), Value.int .i64 (rv (X 3) (Y 3) (Z 3) (cR m 5 3) 0), Value.int .i64 (rv (X 3) (Y 3) (Z 3) (cR m 5 3) 1), Value.int .i64 (rv (X 3) (Y 3) (Z 3) (cR m 5 3) 2), Value.int .i64 (rv (X 3) (Y 3) (Z 3) (cR m 5 3) 3)] = _
      rw [show cR m 5 0 = cR m 4 0 from n2 0 (by decide) (by decide), show cR m 5 1 = 2 from n4, show cR m 5 2 = cR m 4 2 from n2 2 (by decide) (by decide), show cR m 5 3 = cR m 4 3 from n2 3 (by decide) (by decide)]; rfl
    have q2 : usedV m (3 * 1 + (1 + 1)) = u + 2 := by rw [hu]; show hV m 5 0 + 2 * hV m 5 1 + 4 * hV m 5 2 = hV m 4 0 + 2 * hV m 4 1 + 4 * hV m 4 2 + 2; rw [show hV m 5 0 = hV m 4 0 from n3 0 (by decide), show hV m 5 1 = 1 from n3 1 (by decide), show hV m 5 2 = hV m 4 2 from n3 2 (by decide)]; omega
    have q3 : cntV m (3 * 1 + (1 + 1)) 1 = 1 := by show (if cR m 5 1 = 0 then 0 else 1) = 1; rw [show cR m 5 1 = 2 from n4]; rfl
    have N1 := Lib.hid n1; have Q1 := Lib.hid q1; have Q2 := Lib.hid q2; have Q3 := Lib.hid q3; have K1 := Lib.hid k1
    obtain ⟨kq, kr⟩ := cellB k1
    have hu9 : (u : Int) ≤ 7 := by omega
    clear n1 n2 n3 n4 q1 q2 q3 k1 hu hub hd hd0 hu8
    have HO := Lib.hid (show bits BinOp.or IntKind.i64 (u : Int) 2 = ((u + 2 : Nat) : Int) from ho)
    clear ho
    go_wp2_with fail
    go_roundw
    case rel => exact ⟨1 + 1, by decide, by go_num, by rw [Q2.out]; exact congrArg (Value.int IntKind.i64) HO.out, by rw [Q3.out]; rfl, N1.out, (by rw [Q1.out]; refine Eq.trans (set_own (set_own (set_own (set_own K1.out _) _) _) _) ?_; simp), (by have := HB.out; have := HVS.out; refine Lib.hid ?_; go_grown), (by have := HZ.out; refine Lib.hid ?_; simpa using this)⟩
    case measure => simp [intOf]
  · have k1 : wr.heap[V.heap.size]? = some (.cells #[Value.int .i64 (rv (X 0) (Y 0) (Z 0) (cR m 5 0) 0), Value.int .i64 (rv (X 0) (Y 0) (Z 0) (cR m 5 0) 1), Value.int .i64 (rv (X 0) (Y 0) (Z 0) (cR m 5 0) 2), Value.int .i64 (rv (X 0) (Y 0) (Z 0) (cR m 5 0) 3), Value.int .i64 (rv (X 1) (Y 1) (Z 1) (cR m 5 1) 0), Value.int .i64 (rv (X 1) (Y 1) (Z 1) (cR m 5 1) 1), Value.int .i64 (rv (X 1) (Y 1) (Z 1) (cR m 5 1) 2), Value.int .i64 (rv (X 1) (Y 1) (Z 1) (cR m 5 1) 3), Value.int .i64 (rv (X 2) (Y 2) (Z 2) (cR m 5 2) 0), Value.int .i64 (rv (X 2) (Y 2) (Z 2) (cR m 5 2) 1), Value.int .i64 (rv (X 2) (Y 2) (Z 2) (cR m 5 2) 2), Value.int .i64 (rv (X 2) (Y 2) (Z 2) (cR m 5 2) 3), Value.int .i64 (rv (X 3) (Y 3) (Z 3) (cR m 5 3) 0), Value.int .i64 (rv (X 3) (Y 3) (Z 3) (cR m 5 3) 1), Value.int .i64 (rv (X 3) (Y 3) (Z 3) (cR m 5 3) 2), Value.int .i64 (rv (X 3) (Y 3) (Z 3) (cR m 5 3) 3)] 92 (0, 0)) := H1.out
    have hz := HZ.out
    clear H1
    by_cases hb : m / 2 ^ (3 * 1 + 2) % 2 = 1
    case neg =>
      have hb' := bit0_of (d := 32) hm ((m : Int) / 32) (by omega) true (by simpa using hb)
      obtain ⟨n1, n2, n3⟩ := mask_no hm (r := 1) (k := 2) (by decide) (by decide) HG.out hb
      have q1 : rowsA X Y Z m (3 * 1 + (2 + 1)) 4 = #[Value.int .i64 (rv (X 0) (Y 0) (Z 0) (cR m 5 0) 0), Value.int .i64 (rv (X 0) (Y 0) (Z 0) (cR m 5 0) 1), Value.int .i64 (rv (X 0) (Y 0) (Z 0) (cR m 5 0) 2), Value.int .i64 (rv (X 0) (Y 0) (Z 0) (cR m 5 0) 3), Value.int .i64 (rv (X 1) (Y 1) (Z 1) (cR m 5 1) 0), Value.int .i64 (rv (X 1) (Y 1) (Z 1) (cR m 5 1) 1), Value.int .i64 (rv (X 1) (Y 1) (Z 1) (cR m 5 1) 2), Value.int .i64 (rv (X 1) (Y 1) (Z 1) (cR m 5 1) 3), Value.int .i64 (rv (X 2) (Y 2) (Z 2) (cR m 5 2) 0), Value.int .i64 (rv (X 2) (Y 2) (Z 2) (cR m 5 2) 1), Value.int .i64 (rv (X 2) (Y 2) (Z 2) (cR m 5 2) 2), Value.int .i64 (rv (X 2) (Y 2) (Z 2) (cR m 5 2) 3), Value.int .i64 (rv (X 3) (Y 3) (Z 3) (cR m 5 3) 0), Value.int .i64 (rv (X 3) (Y 3) (Z 3) (cR m 5 3) 1), Value.int .i64 (rv (X 3) (Y 3) (Z 3) (cR m 5 3) 2), Value.int .i64 (rv (X 3) (Y 3) (Z 3) (cR m 5 3) 3)] := by
        show #[Value.int .i64 (rv (X 0) (Y 0) (Z 0) (cR m 6 0) 0), Value.int .i64 (rv (X 0) (Y 0) (Z 0) (cR m 6 0) 1), Value.int .i64 (rv (X 0) (Y 0) (Z 0) (cR m 6 0) 2), Value.int .i64 (rv (X 0) (Y 0) (Z 0) (cR m 6 0) 3), Value.int .i64 (rv (X 1) (Y 1) (Z 1) (cR m 6 1) 0), Value.int .i64 (rv (X 1) (Y 1) (Z 1) (cR m 6 1) 1), Value.int .i64 (rv (X 1) (Y 1) (Z 1) (cR m 6 1) 2), Value.int .i64 (rv (X 1) (Y 1) (Z 1) (cR m 6 1) 3), Value.int .i64 (rv (X 2) (Y 2) (Z 2) (cR m 6 2) 0), Value.int .i64 (rv (X 2) (Y 2) (Z 2) (cR m 6 2) 1), Value.int .i64 (rv (X 2) (Y 2) (Z 2) (cR m 6 2) 2), Value.int .i64 (rv (X 2) (Y 2) (Z 2) (cR m 6 2) 3), Value.int .i64 (rv (X 3) (Y 3) (Z 3) (cR m 6 3) 0), Value.int .i64 (rv (X 3) (Y 3) (Z 3) (cR m 6 3) 1), Value.int .i64 (rv (X 3) (Y 3) (Z 3) (cR m 6 3) 2), Value.int .i64 (rv (X 3) (Y 3) (Z 3) (cR m 6 3) 3)] = _
        rw [show cR m 6 0 = cR m 5 0 from n2 0 (by decide), show cR m 6 1 = cR m 5 1 from n2 1 (by decide), show cR m 6 2 = cR m 5 2 from n2 2 (by decide), show cR m 6 3 = cR m 5 3 from n2 3 (by decide)]
      have q2 : usedV m (3 * 1 + (2 + 1)) = usedV m (3 * 1 + 2) := by show hV m 6 0 + 2 * hV m 6 1 + 4 * hV m 6 2 = _; rw [show hV m 6 0 = hV m 5 0 from n3 0 (by decide), show hV m 6 1 = hV m 5 1 from n3 1 (by decide), show hV m 6 2 = hV m 5 2 from n3 2 (by decide)]; rfl
      have q3 : cntV m (3 * 1 + (2 + 1)) 1 = cntV m (3 * 1 + 2) 1 := by show (if cR m 6 1 = 0 then 0 else 1) = _; rw [show cR m 6 1 = cR m 5 1 from n2 1 (by decide)]; rfl
      have N1 := Lib.hid n1; have Q1 := Lib.hid q1; have Q2 := Lib.hid q2; have Q3 := Lib.hid q3; have K1 := Lib.hid k1
      clear n1 n2 n3 q1 q2 q3 k1
      go_wp2_with fail
      go_roundw
      case rel => exact ⟨2 + 1, by decide, by go_num, by rw [Q2.out], by rw [Q3.out], N1.out, (by rw [Q1.out]; exact K1.out), HB, HZ⟩
      case measure => simp [intOf]
    have hb' := bit0_of (d := 32) hm ((m : Int) / 32) (by omega) false (by simpa using hb)
    by_cases hc : cR m 5 1 = 0
    case neg =>
      have hn1 : cntV m (3 * 1 + 2) 1 = 1 := if_neg hc
      rw [hn1]
      clear hn1
      have hng := mask_bad hm (r := 1) (k := 2) (by decide) (by decide) HG.out hb (.inl hc)
      have HNG := Lib.hid hng
      clear k1 hng
      go_wp2_with fail
      go_returns
      exact ⟨HB.out, .inl ⟨HNG.out, rfl⟩⟩
    have hn1 : cntV m (3 * 1 + 2) 1 = 0 := if_pos hc
    rw [hn1]
    clear hn1
    obtain ⟨u, hu⟩ : ∃ u, u = usedV m (3 * 1 + 2) := ⟨_, rfl⟩
    rw [← hu]
    have hu8 : u < 8 := by rw [hu]; exact used_lt _ _
    have hub : u / 2 ^ 2 % 2 = hV m 5 2 := by rw [hu]; show (hV m 5 0 + 2 * hV m 5 1 + 4 * hV m 5 2) / _ % 2 = _; have := hV_cases m 5 0; have := hV_cases m 5 1; have := hV_cases m 5 2; omega
    by_cases hd : hV m 5 2 = 1
    case pos =>
      have hs := bit_of (m := u) (d := 4) (by omega) ((u : Int) / 4) (by omega) true (by rw [hd] at hub; simpa using hub)
      have hu9 : (u : Int) ≤ 7 := by omega
      clear hu hub hu8
      have hng := mask_bad hm (r := 1) (k := 2) (by decide) (by decide) HG.out hb (.inr hd)
      have HNG := Lib.hid hng
      clear k1 hng
      go_wp2_with fail
      go_returns
      exact ⟨HB.out, .inl ⟨HNG.out, rfl⟩⟩
    have hd0 : hV m 5 2 = 0 := by have := hV_cases m 5 2; omega
    have hs := bit_of (m := u) (d := 4) (by omega) ((u : Int) / 4) (by omega) false (by rw [hd0] at hub; simpa using hub)
    have ho := or_of (k := 2) hu8 (by decide) (hub.trans hd0)
    obtain ⟨n1, n4, n2, n3⟩ := mask_yes hm (r := 1) (k := 2) (by decide) (by decide) HG.out hb hc hd
    have q1 : rowsA X Y Z m (3 * 1 + (2 + 1)) 4 = #[Value.int .i64 (rv (X 0) (Y 0) (Z 0) (cR m 5 0) 0), Value.int .i64 (rv (X 0) (Y 0) (Z 0) (cR m 5 0) 1), Value.int .i64 (rv (X 0) (Y 0) (Z 0) (cR m 5 0) 2), Value.int .i64 (rv (X 0) (Y 0) (Z 0) (cR m 5 0) 3), Value.int .i64 1, Value.int .i64 0, Value.int .i64 0, Value.int .i64 0, Value.int .i64 (rv (X 2) (Y 2) (Z 2) (cR m 5 2) 0), Value.int .i64 (rv (X 2) (Y 2) (Z 2) (cR m 5 2) 1), Value.int .i64 (rv (X 2) (Y 2) (Z 2) (cR m 5 2) 2), Value.int .i64 (rv (X 2) (Y 2) (Z 2) (cR m 5 2) 3), Value.int .i64 (rv (X 3) (Y 3) (Z 3) (cR m 5 3) 0), Value.int .i64 (rv (X 3) (Y 3) (Z 3) (cR m 5 3) 1), Value.int .i64 (rv (X 3) (Y 3) (Z 3) (cR m 5 3) 2), Value.int .i64 (rv (X 3) (Y 3) (Z 3) (cR m 5 3) 3)] := by
      show #[Value.int .i64 (rv (X 0) (Y 0) (Z 0) (cR m 6 0) 0), Value.int .i64 (rv (X 0) (Y 0) (Z 0) (cR m 6 0) 1), Value.int .i64 (rv (X 0) (Y 0) (Z 0) (cR m 6 0) 2), Value.int .i64 (rv (X 0) (Y 0) (Z 0) (cR m 6 0) 3), Value.int .i64 (rv (X 1) (Y 1) (Z 1) (cR m 6 1) 0), Value.int .i64 (rv (X 1) (Y 1) (Z 1) (cR m 6 1) 1), Value.int .i64 (rv (X 1) (Y 1) (Z 1) (cR m 6 1) 2), Value.int .i64 (rv (X 1) (Y 1) (Z 1) (cR m 6 1) 3), Value.int .i64 (rv (X 2) (Y 2) (Z 2) (cR m 6 2) 0), Value.int .i64 (rv (X 2) (Y 2) (Z 2) (cR m 6 2) 1), Value.int .i64 (rv (X 2) (Y 2) (Z 2) (cR m 6 2) 2), Value.int .i64 (rv (X 2) (Y 2) (Z 2) (cR m 6 2) 3), Value.int .i64 (rv (X 3) (Y 3) (Z 3) (cR m 6 3) 0), Value.int .i64 (rv (X 3) (Y 3) (Z 3) (cR m 6 3) 1), Value.int .i64 (rv (X 3) (Y 3) (Z 3) (cR m 6 3) 2), Value.int .i64 (rv (X 3) (Y 3) (Z 3) (cR m 6 3) 3)] = _
      rw [show cR m 6 0 = cR m 5 0 from n2 0 (by decide) (by decide), show cR m 6 1 = 4 from n4, show cR m 6 2 = cR m 5 2 from n2 2 (by decide) (by decide), show cR m 6 3 = cR m 5 3 from n2 3 (by decide) (by decide)]; rfl
    have q2 : usedV m (3 * 1 + (2 + 1)) = u + 4 := by rw [hu]; show hV m 6 0 + 2 * hV m 6 1 + 4 * hV m 6 2 = hV m 5 0 + 2 * hV m 5 1 + 4 * hV m 5 2 + 4; rw [show hV m 6 0 = hV m 5 0 from n3 0 (by decide), show hV m 6 1 = hV m 5 1 from n3 1 (by decide), show hV m 6 2 = 1 from n3 2 (by decide)]; omega
    have q3 : cntV m (3 * 1 + (2 + 1)) 1 = 1 := by show (if cR m 6 1 = 0 then 0 else 1) = 1; rw [show cR m 6 1 = 4 from n4]; rfl
    have N1 := Lib.hid n1; have Q1 := Lib.hid q1; have Q2 := Lib.hid q2; have Q3 := Lib.hid q3; have K1 := Lib.hid k1
    obtain ⟨kq, kr⟩ := cellB k1
    have hu9 : (u : Int) ≤ 7 := by omega
    clear n1 n2 n3 n4 q1 q2 q3 k1 hu hub hd hd0 hu8
    have HO := Lib.hid (show bits BinOp.or IntKind.i64 (u : Int) 4 = ((u + 4 : Nat) : Int) from ho)
    clear ho
    go_wp2_with fail
    go_roundw
    case rel => exact ⟨2 + 1, by decide, by go_num, by rw [Q2.out]; exact congrArg (Value.int IntKind.i64) HO.out, by rw [Q3.out]; rfl, N1.out, (by rw [Q1.out]; refine Eq.trans (set_own (set_own (set_own (set_own K1.out _) _) _) _) ?_; simp), (by have := HB.out; have := HVS.out; refine Lib.hid ?_; go_grown), (by have := HZ.out; refine Lib.hid ?_; simpa using this)⟩
    case measure => simp [intOf]
  obtain ⟨S1, rfl⟩ : ∃ S, S = wr := ⟨_, rfl⟩
  have k1 : S1.heap[V.heap.size]? = some (.cells (rowsA X Y Z m (3 * 2 + 0) 4) 92 (0, 0)) := H1.out
  replace HG : Hid (good m (3 * 2 + 0) = true) := HG.out
  have hB := HB.out; have hz := HZ.out
  have K1 := Lib.hid k1
  clear H1 HB HZ k1
  go_wp2_with fail
  rw [rounds_succ]
  go_wp2_with fail
  have k1 := K1.out
  clear K1
  have hn : Value.int .i64 0 = .int .i64 (cntV m (3 * 2 + 0) 2 : Nat) := by unfold cntV; rw [if_pos (code0 (by decide))]; rfl
  go_loopw [7, 9, 10] (fun u n kk wx => ∃ k : Nat, k ≤ 3 ∧ kk = .int .i64 k ∧ u = .int .i64 (usedV m (3 * 2 + k) : Nat) ∧ n = .int .i64 (cntV m (3 * 2 + k) 2 : Nat) ∧ Hid (good m (3 * 2 + k) = true) ∧ Hid (wx.heap[V.heap.size]? = some (.cells (rowsA X Y Z m (3 * 2 + k) 4) 92 (0, 0))) ∧ Hid (Below w.heap.size w wx) ∧ Hid (V.heap.size < wx.heap.size))
    (fun _ _ kk _ => 3 - (intOf kk).toNat)
  case atStart => exact ⟨0, by decide, rfl, rfl, hn, HG, k1, hB, hz⟩
  clear k1 hB hz HG hn
  obtain ⟨k, hk, rfl, rfl, rfl, HG, H1, HB, HZ⟩ := hrel
  have hk3 : k = 0 ∨ k = 1 ∨ k = 2 ∨ k = 3 := by omega
  clear hk
  rcases hk3 with rfl | rfl | rfl | rfl
  · have k1 : wr.heap[V.heap.size]? = some (.cells #[Value.int .i64 (rv (X 0) (Y 0) (Z 0) (cR m 6 0) 0), Value.int .i64 (rv (X 0) (Y 0) (Z 0) (cR m 6 0) 1), Value.int .i64 (rv (X 0) (Y 0) (Z 0) (cR m 6 0) 2), Value.int .i64 (rv (X 0) (Y 0) (Z 0) (cR m 6 0) 3), Value.int .i64 (rv (X 1) (Y 1) (Z 1) (cR m 6 1) 0), Value.int .i64 (rv (X 1) (Y 1) (Z 1) (cR m 6 1) 1), Value.int .i64 (rv (X 1) (Y 1) (Z 1) (cR m 6 1) 2), Value.int .i64 (rv (X 1) (Y 1) (Z 1) (cR m 6 1) 3), Value.int .i64 (rv (X 2) (Y 2) (Z 2) (cR m 6 2) 0), Value.int .i64 (rv (X 2) (Y 2) (Z 2) (cR m 6 2) 1), Value.int .i64 (rv (X 2) (Y 2) (Z 2) (cR m 6 2) 2), Value.int .i64 (rv (X 2) (Y 2) (Z 2) (cR m 6 2) 3), Value.int .i64 (rv (X 3) (Y 3) (Z 3) (cR m 6 3) 0), Value.int .i64 (rv (X 3) (Y 3) (Z 3) (cR m 6 3) 1), Value.int .i64 (rv (X 3) (Y 3) (Z 3) (cR m 6 3) 2), Value.int .i64 (rv (X 3) (Y 3) (Z 3) (cR m 6 3) 3)] 92 (0, 0)) := H1.out
    have hz := HZ.out
    clear H1
    by_cases hb : m / 2 ^ (3 * 2 + 0) % 2 = 1
    case neg =>
      have hb' := bit0_of (d := 64) hm ((m : Int) / 64) (by omega) true (by simpa using hb)
      obtain ⟨n1, n2, n3⟩ := mask_no hm (r := 2) (k := 0) (by decide) (by decide) HG.out hb
      have q1 : rowsA X Y Z m (3 * 2 + (0 + 1)) 4 = #[Value.int .i64 (rv (X 0) (Y 0) (Z 0) (cR m 6 0) 0), Value.int .i64 (rv (X 0) (Y 0) (Z 0) (cR m 6 0) 1), Value.int .i64 (rv (X 0) (Y 0) (Z 0) (cR m 6 0) 2), Value.int .i64 (rv (X 0) (Y 0) (Z 0) (cR m 6 0) 3), Value.int .i64 (rv (X 1) (Y 1) (Z 1) (cR m 6 1) 0), Value.int .i64 (rv (X 1) (Y 1) (Z 1) (cR m 6 1) 1), Value.int .i64 (rv (X 1) (Y 1) (Z 1) (cR m 6 1) 2), Value.int .i64 (rv (X 1) (Y 1) (Z 1) (cR m 6 1) 3), Value.int .i64 (rv (X 2) (Y 2) (Z 2) (cR m 6 2) 0), Value.int .i64 (rv (X 2) (Y 2) (Z 2) (cR m 6 2) 1), Value.int .i64 (rv (X 2) (Y 2) (Z 2) (cR m 6 2) 2), Value.int .i64 (rv (X 2) (Y 2) (Z 2) (cR m 6 2) 3), Value.int .i64 (rv (X 3) (Y 3) (Z 3) (cR m 6 3) 0), Value.int .i64 (rv (X 3) (Y 3) (Z 3) (cR m 6 3) 1), Value.int .i64 (rv (X 3) (Y 3) (Z 3) (cR m 6 3) 2), Value.int .i64 (rv (X 3) (Y 3) (Z 3) (cR m 6 3) 3)] := by
        show #[Value.int .i64 (rv (X 0) (Y 0) (Z 0) (cR m 7 0) 0), Value.int .i64 (rv (X 0) (Y 0) (Z 0) (cR m 7 0) 1), Value.int .i64 (rv (X 0) (Y 0) (Z 0) (cR m 7 0) 2), Value.int .i64 (rv (X 0) (Y 0) (Z 0) (cR m 7 0) 3), Value.int .i64 (rv (X 1) (Y 1) (Z 1) (cR m 7 1) 0), Value.int .i64 (rv (X 1) (Y 1) (Z 1) (cR m 7 1) 1), Value.int .i64 (rv (X 1) (Y 1) (Z 1) (cR m 7 1) 2), Value.int .i64 (rv (X 1) (Y 1) (Z 1) (cR m 7 1) 3), Value.int .i64 (rv (X 2) (Y 2) (Z 2) (cR m 7 2) 0), Value.int .i64 (rv (X 2) (Y 2) (Z 2) (cR m 7 2) 1), Value.int .i64 (rv (X 2) (Y 2) (Z 2) (cR m 7 2) 2), Value.int .i64 (rv (X 2) (Y 2) (Z 2) (cR m 7 2) 3), Value.int .i64 (rv (X 3) (Y 3) (Z 3) (cR m 7 3) 0), Value.int .i64 (rv (X 3) (Y 3) (Z 3) (cR m 7 3) 1), Value.int .i64 (rv (X 3) (Y 3) (Z 3) (cR m 7 3) 2), Value.int .i64 (rv (X 3) (Y 3) (Z 3) (cR m 7 3) 3)] = _
        rw [show cR m 7 0 = cR m 6 0 from n2 0 (by decide), show cR m 7 1 = cR m 6 1 from n2 1 (by decide), show cR m 7 2 = cR m 6 2 from n2 2 (by decide), show cR m 7 3 = cR m 6 3 from n2 3 (by decide)]
      have q2 : usedV m (3 * 2 + (0 + 1)) = usedV m (3 * 2 + 0) := by show hV m 7 0 + 2 * hV m 7 1 + 4 * hV m 7 2 = _; rw [show hV m 7 0 = hV m 6 0 from n3 0 (by decide), show hV m 7 1 = hV m 6 1 from n3 1 (by decide), show hV m 7 2 = hV m 6 2 from n3 2 (by decide)]; rfl
      have q3 : cntV m (3 * 2 + (0 + 1)) 2 = cntV m (3 * 2 + 0) 2 := by show (if cR m 7 2 = 0 then 0 else 1) = _; rw [show cR m 7 2 = cR m 6 2 from n2 2 (by decide)]; rfl
      have N1 := Lib.hid n1; have Q1 := Lib.hid q1; have Q2 := Lib.hid q2; have Q3 := Lib.hid q3; have K1 := Lib.hid k1
      clear n1 n2 n3 q1 q2 q3 k1
      go_wp2_with fail
      go_roundw
      case rel => exact ⟨0 + 1, by decide, by go_num, by rw [Q2.out], by rw [Q3.out], N1.out, (by rw [Q1.out]; exact K1.out), HB, HZ⟩
      case measure => simp [intOf]
    have hb' := bit0_of (d := 64) hm ((m : Int) / 64) (by omega) false (by simpa using hb)
    by_cases hc : cR m 6 2 = 0
    case neg =>
      have hn1 : cntV m (3 * 2 + 0) 2 = 1 := if_neg hc
      rw [hn1]
      clear hn1
      have hng := mask_bad hm (r := 2) (k := 0) (by decide) (by decide) HG.out hb (.inl hc)
      have HNG := Lib.hid hng
      clear k1 hng
      go_wp2_with fail
      go_returns
      exact ⟨HB.out, .inl ⟨HNG.out, rfl⟩⟩
    have hn1 : cntV m (3 * 2 + 0) 2 = 0 := if_pos hc
    rw [hn1]
    clear hn1
    obtain ⟨u, hu⟩ : ∃ u, u = usedV m (3 * 2 + 0) := ⟨_, rfl⟩
    rw [← hu]
    have hu8 : u < 8 := by rw [hu]; exact used_lt _ _
    have hub : u / 2 ^ 0 % 2 = hV m 6 0 := by rw [hu]; show (hV m 6 0 + 2 * hV m 6 1 + 4 * hV m 6 2) / _ % 2 = _; have := hV_cases m 6 0; have := hV_cases m 6 1; have := hV_cases m 6 2; omega
    by_cases hd : hV m 6 0 = 1
    case pos =>
      have hs := bit_of (m := u) (d := 1) (by omega) ((u : Int)) (by omega) true (by rw [hd] at hub; simpa using hub)
      have hu9 : (u : Int) ≤ 7 := by omega
      clear hu hub hu8
      have hng := mask_bad hm (r := 2) (k := 0) (by decide) (by decide) HG.out hb (.inr hd)
      have HNG := Lib.hid hng
      clear k1 hng
      go_wp2_with fail
      go_returns
      exact ⟨HB.out, .inl ⟨HNG.out, rfl⟩⟩
    have hd0 : hV m 6 0 = 0 := by have := hV_cases m 6 0; omega
    have hs := bit_of (m := u) (d := 1) (by omega) ((u : Int)) (by omega) false (by rw [hd0] at hub; simpa using hub)
    have ho := or_of (k := 0) hu8 (by decide) (hub.trans hd0)
    obtain ⟨n1, n4, n2, n3⟩ := mask_yes hm (r := 2) (k := 0) (by decide) (by decide) HG.out hb hc hd
    have q1 : rowsA X Y Z m (3 * 2 + (0 + 1)) 4 = #[Value.int .i64 (rv (X 0) (Y 0) (Z 0) (cR m 6 0) 0), Value.int .i64 (rv (X 0) (Y 0) (Z 0) (cR m 6 0) 1), Value.int .i64 (rv (X 0) (Y 0) (Z 0) (cR m 6 0) 2), Value.int .i64 (rv (X 0) (Y 0) (Z 0) (cR m 6 0) 3), Value.int .i64 (rv (X 1) (Y 1) (Z 1) (cR m 6 1) 0), Value.int .i64 (rv (X 1) (Y 1) (Z 1) (cR m 6 1) 1), Value.int .i64 (rv (X 1) (Y 1) (Z 1) (cR m 6 1) 2), Value.int .i64 (rv (X 1) (Y 1) (Z 1) (cR m 6 1) 3), Value.int .i64 0, Value.int .i64 0, Value.int .i64 1, Value.int .i64 0, Value.int .i64 (rv (X 3) (Y 3) (Z 3) (cR m 6 3) 0), Value.int .i64 (rv (X 3) (Y 3) (Z 3) (cR m 6 3) 1), Value.int .i64 (rv (X 3) (Y 3) (Z 3) (cR m 6 3) 2), Value.int .i64 (rv (X 3) (Y 3) (Z 3) (cR m 6 3) 3)] := by
      show #[Value.int .i64 (rv (X 0) (Y 0) (Z 0) (cR m 7 0) 0), Value.int .i64 (rv (X 0) (Y 0) (Z 0) (cR m 7 0) 1), Value.int .i64 (rv (X 0) (Y 0) (Z 0) (cR m 7 0) 2), Value.int .i64 (rv (X 0) (Y 0) (Z 0) (cR m 7 0) 3), Value.int .i64 (rv (X 1) (Y 1) (Z 1) (cR m 7 1) 0), Value.int .i64 (rv (X 1) (Y 1) (Z 1) (cR m 7 1) 1), Value.int .i64 (rv (X 1) (Y 1) (Z 1) (cR m 7 1) 2), Value.int .i64 (rv (X 1) (Y 1) (Z 1) (cR m 7 1) 3), Value.int .i64 (rv (X 2) (Y 2) (Z 2) (cR m 7 2) 0), Value.int .i64 (rv (X 2) (Y 2) (Z 2) (cR m 7 2) 1), Value.int .i64 (rv (X 2) (Y 2) (Z 2) (cR m 7 2) 2), Value.int .i64 (rv (X 2) (Y 2) (Z 2) (cR m 7 2) 3), Value.int .i64 (rv (X 3) (Y 3) (Z 3) (cR m 7 3) 0), Value.int .i64 (rv (X 3) (Y 3) (Z 3) (cR m 7 3) 1), Value.int .i64 (rv (X 3) (Y 3) (Z 3) (cR m 7 3) 2), Value.int .i64 (rv (X 3) (Y 3) (Z 3) (cR m 7 3) 3)] = _
      rw [show cR m 7 0 = cR m 6 0 from n2 0 (by decide) (by decide), show cR m 7 1 = cR m 6 1 from n2 1 (by decide) (by decide), show cR m 7 2 = 1 from n4, show cR m 7 3 = cR m 6 3 from n2 3 (by decide) (by decide)]; rfl
    have q2 : usedV m (3 * 2 + (0 + 1)) = u + 1 := by rw [hu]; show hV m 7 0 + 2 * hV m 7 1 + 4 * hV m 7 2 = hV m 6 0 + 2 * hV m 6 1 + 4 * hV m 6 2 + 1; rw [show hV m 7 0 = 1 from n3 0 (by decide), show hV m 7 1 = hV m 6 1 from n3 1 (by decide), show hV m 7 2 = hV m 6 2 from n3 2 (by decide)]; omega
    have q3 : cntV m (3 * 2 + (0 + 1)) 2 = 1 := by show (if cR m 7 2 = 0 then 0 else 1) = 1; rw [show cR m 7 2 = 1 from n4]; rfl
    have N1 := Lib.hid n1; have Q1 := Lib.hid q1; have Q2 := Lib.hid q2; have Q3 := Lib.hid q3; have K1 := Lib.hid k1
    obtain ⟨kq, kr⟩ := cellB k1
    have hu9 : (u : Int) ≤ 7 := by omega
    clear n1 n2 n3 n4 q1 q2 q3 k1 hu hub hd hd0 hu8
    have HO := Lib.hid (show bits BinOp.or IntKind.i64 (u : Int) 1 = ((u + 1 : Nat) : Int) from ho)
    clear ho
    go_wp2_with fail
    go_roundw
    case rel => exact ⟨0 + 1, by decide, by go_num, by rw [Q2.out]; exact congrArg (Value.int IntKind.i64) HO.out, by rw [Q3.out]; rfl, N1.out, (by rw [Q1.out]; refine Eq.trans (set_own (set_own (set_own (set_own K1.out _) _) _) _) ?_; simp), (by have := HB.out; have := HVS.out; refine Lib.hid ?_; go_grown), (by have := HZ.out; refine Lib.hid ?_; simpa using this)⟩
    case measure => simp [intOf]
  · have k1 : wr.heap[V.heap.size]? = some (.cells #[Value.int .i64 (rv (X 0) (Y 0) (Z 0) (cR m 7 0) 0), Value.int .i64 (rv (X 0) (Y 0) (Z 0) (cR m 7 0) 1), Value.int .i64 (rv (X 0) (Y 0) (Z 0) (cR m 7 0) 2), Value.int .i64 (rv (X 0) (Y 0) (Z 0) (cR m 7 0) 3), Value.int .i64 (rv (X 1) (Y 1) (Z 1) (cR m 7 1) 0), Value.int .i64 (rv (X 1) (Y 1) (Z 1) (cR m 7 1) 1), Value.int .i64 (rv (X 1) (Y 1) (Z 1) (cR m 7 1) 2), Value.int .i64 (rv (X 1) (Y 1) (Z 1) (cR m 7 1) 3), Value.int .i64 (rv (X 2) (Y 2) (Z 2) (cR m 7 2) 0), Value.int .i64 (rv (X 2) (Y 2) (Z 2) (cR m 7 2) 1), Value.int .i64 (rv (X 2) (Y 2) (Z 2) (cR m 7 2) 2), Value.int .i64 (rv (X 2) (Y 2) (Z 2) (cR m 7 2) 3), Value.int .i64 (rv (X 3) (Y 3) (Z 3) (cR m 7 3) 0), Value.int .i64 (rv (X 3) (Y 3) (Z 3) (cR m 7 3) 1), Value.int .i64 (rv (X 3) (Y 3) (Z 3) (cR m 7 3) 2), Value.int .i64 (rv (X 3) (Y 3) (Z 3) (cR m 7 3) 3)] 92 (0, 0)) := H1.out
    have hz := HZ.out
    clear H1
    have hb : ¬ m / 2 ^ (3 * 2 + 1) % 2 = 1 := by rw [Nat.div_eq_of_lt (show m < 2 ^ (3 * 2 + 1) by omega)]; decide
    have hb' := bit0_of (d := 128) hm ((m : Int) / 128) (by omega) true (by simpa using hb)
    obtain ⟨n1, n2, n3⟩ := mask_no hm (r := 2) (k := 1) (by decide) (by decide) HG.out hb
    have q1 : rowsA X Y Z m (3 * 2 + (1 + 1)) 4 = #[Value.int .i64 (rv (X 0) (Y 0) (Z 0) (cR m 7 0) 0), Value.int .i64 (rv (X 0) (Y 0) (Z 0) (cR m 7 0) 1), Value.int .i64 (rv (X 0) (Y 0) (Z 0) (cR m 7 0) 2), Value.int .i64 (rv (X 0) (Y 0) (Z 0) (cR m 7 0) 3), Value.int .i64 (rv (X 1) (Y 1) (Z 1) (cR m 7 1) 0), Value.int .i64 (rv (X 1) (Y 1) (Z 1) (cR m 7 1) 1), Value.int .i64 (rv (X 1) (Y 1) (Z 1) (cR m 7 1) 2), Value.int .i64 (rv (X 1) (Y 1) (Z 1) (cR m 7 1) 3), Value.int .i64 (rv (X 2) (Y 2) (Z 2) (cR m 7 2) 0), Value.int .i64 (rv (X 2) (Y 2) (Z 2) (cR m 7 2) 1), Value.int .i64 (rv (X 2) (Y 2) (Z 2) (cR m 7 2) 2), Value.int .i64 (rv (X 2) (Y 2) (Z 2) (cR m 7 2) 3), Value.int .i64 (rv (X 3) (Y 3) (Z 3) (cR m 7 3) 0), Value.int .i64 (rv (X 3) (Y 3) (Z 3) (cR m 7 3) 1), Value.int .i64 (rv (X 3) (Y 3) (Z 3) (cR m 7 3) 2), Value.int .i64 (rv (X 3) (Y 3) (Z 3) (cR m 7 3) 3)] := by
      show #[Value.int .i64 (rv (X 0) (Y 0) (Z 0) (cR m 8 0) 0), Value.int .i64 (rv (X 0) (Y 0) (Z 0) (cR m 8 0) 1), Value.int .i64 (rv (X 0) (Y 0) (Z 0) (cR m 8 0) 2), Value.int .i64 (rv (X 0) (Y 0) (Z 0) (cR m 8 0) 3), Value.int .i64 (rv (X 1) (Y 1) (Z 1) (cR m 8 1) 0), Value.int .i64 (rv (X 1) (Y 1) (Z 1) (cR m 8 1) 1), Value.int .i64 (rv (X 1) (Y 1) (Z 1) (cR m 8 1) 2), Value.int .i64 (rv (X 1) (Y 1) (Z 1) (cR m 8 1) 3), Value.int .i64 (rv (X 2) (Y 2) (Z 2) (cR m 8 2) 0), Value.int .i64 (rv (X 2) (Y 2) (Z 2) (cR m 8 2) 1), Value.int .i64 (rv (X 2) (Y 2) (Z 2) (cR m 8 2) 2), Value.int .i64 (rv (X 2) (Y 2) (Z 2) (cR m 8 2) 3), Value.int .i64 (rv (X 3) (Y 3) (Z 3) (cR m 8 3) 0), Value.int .i64 (rv (X 3) (Y 3) (Z 3) (cR m 8 3) 1), Value.int .i64 (rv (X 3) (Y 3) (Z 3) (cR m 8 3) 2), Value.int .i64 (rv (X 3) (Y 3) (Z 3) (cR m 8 3) 3)] = _
      rw [show cR m 8 0 = cR m 7 0 from n2 0 (by decide), show cR m 8 1 = cR m 7 1 from n2 1 (by decide), show cR m 8 2 = cR m 7 2 from n2 2 (by decide), show cR m 8 3 = cR m 7 3 from n2 3 (by decide)]
    have q2 : usedV m (3 * 2 + (1 + 1)) = usedV m (3 * 2 + 1) := by show hV m 8 0 + 2 * hV m 8 1 + 4 * hV m 8 2 = _; rw [show hV m 8 0 = hV m 7 0 from n3 0 (by decide), show hV m 8 1 = hV m 7 1 from n3 1 (by decide), show hV m 8 2 = hV m 7 2 from n3 2 (by decide)]; rfl
    have q3 : cntV m (3 * 2 + (1 + 1)) 2 = cntV m (3 * 2 + 1) 2 := by show (if cR m 8 2 = 0 then 0 else 1) = _; rw [show cR m 8 2 = cR m 7 2 from n2 2 (by decide)]; rfl
    have N1 := Lib.hid n1; have Q1 := Lib.hid q1; have Q2 := Lib.hid q2; have Q3 := Lib.hid q3; have K1 := Lib.hid k1
    clear n1 n2 n3 q1 q2 q3 k1
    go_wp2_with fail
    go_roundw
    case rel => exact ⟨1 + 1, by decide, by go_num, by rw [Q2.out], by rw [Q3.out], N1.out, (by rw [Q1.out]; exact K1.out), HB, HZ⟩
    case measure => simp [intOf]
  · have k1 : wr.heap[V.heap.size]? = some (.cells #[Value.int .i64 (rv (X 0) (Y 0) (Z 0) (cR m 8 0) 0), Value.int .i64 (rv (X 0) (Y 0) (Z 0) (cR m 8 0) 1), Value.int .i64 (rv (X 0) (Y 0) (Z 0) (cR m 8 0) 2), Value.int .i64 (rv (X 0) (Y 0) (Z 0) (cR m 8 0) 3), Value.int .i64 (rv (X 1) (Y 1) (Z 1) (cR m 8 1) 0), Value.int .i64 (rv (X 1) (Y 1) (Z 1) (cR m 8 1) 1), Value.int .i64 (rv (X 1) (Y 1) (Z 1) (cR m 8 1) 2), Value.int .i64 (rv (X 1) (Y 1) (Z 1) (cR m 8 1) 3), Value.int .i64 (rv (X 2) (Y 2) (Z 2) (cR m 8 2) 0), Value.int .i64 (rv (X 2) (Y 2) (Z 2) (cR m 8 2) 1), Value.int .i64 (rv (X 2) (Y 2) (Z 2) (cR m 8 2) 2), Value.int .i64 (rv (X 2) (Y 2) (Z 2) (cR m 8 2) 3), Value.int .i64 (rv (X 3) (Y 3) (Z 3) (cR m 8 3) 0), Value.int .i64 (rv (X 3) (Y 3) (Z 3) (cR m 8 3) 1), Value.int .i64 (rv (X 3) (Y 3) (Z 3) (cR m 8 3) 2), Value.int .i64 (rv (X 3) (Y 3) (Z 3) (cR m 8 3) 3)] 92 (0, 0)) := H1.out
    have hz := HZ.out
    clear H1
    have hb : ¬ m / 2 ^ (3 * 2 + 2) % 2 = 1 := by rw [Nat.div_eq_of_lt (show m < 2 ^ (3 * 2 + 2) by omega)]; decide
    have hb' := bit0_of (d := 256) hm ((m : Int) / 256) (by omega) true (by simpa using hb)
    obtain ⟨n1, n2, n3⟩ := mask_no hm (r := 2) (k := 2) (by decide) (by decide) HG.out hb
    have q1 : rowsA X Y Z m (3 * 2 + (2 + 1)) 4 = #[Value.int .i64 (rv (X 0) (Y 0) (Z 0) (cR m 8 0) 0), Value.int .i64 (rv (X 0) (Y 0) (Z 0) (cR m 8 0) 1), Value.int .i64 (rv (X 0) (Y 0) (Z 0) (cR m 8 0) 2), Value.int .i64 (rv (X 0) (Y 0) (Z 0) (cR m 8 0) 3), Value.int .i64 (rv (X 1) (Y 1) (Z 1) (cR m 8 1) 0), Value.int .i64 (rv (X 1) (Y 1) (Z 1) (cR m 8 1) 1), Value.int .i64 (rv (X 1) (Y 1) (Z 1) (cR m 8 1) 2), Value.int .i64 (rv (X 1) (Y 1) (Z 1) (cR m 8 1) 3), Value.int .i64 (rv (X 2) (Y 2) (Z 2) (cR m 8 2) 0), Value.int .i64 (rv (X 2) (Y 2) (Z 2) (cR m 8 2) 1), Value.int .i64 (rv (X 2) (Y 2) (Z 2) (cR m 8 2) 2), Value.int .i64 (rv (X 2) (Y 2) (Z 2) (cR m 8 2) 3), Value.int .i64 (rv (X 3) (Y 3) (Z 3) (cR m 8 3) 0), Value.int .i64 (rv (X 3) (Y 3) (Z 3) (cR m 8 3) 1), Value.int .i64 (rv (X 3) (Y 3) (Z 3) (cR m 8 3) 2), Value.int .i64 (rv (X 3) (Y 3) (Z 3) (cR m 8 3) 3)] := by
      show #[Value.int .i64 (rv (X 0) (Y 0) (Z 0) (cR m 9 0) 0), Value.int .i64 (rv (X 0) (Y 0) (Z 0) (cR m 9 0) 1), Value.int .i64 (rv (X 0) (Y 0) (Z 0) (cR m 9 0) 2), Value.int .i64 (rv (X 0) (Y 0) (Z 0) (cR m 9 0) 3), Value.int .i64 (rv (X 1) (Y 1) (Z 1) (cR m 9 1) 0), Value.int .i64 (rv (X 1) (Y 1) (Z 1) (cR m 9 1) 1), Value.int .i64 (rv (X 1) (Y 1) (Z 1) (cR m 9 1) 2), Value.int .i64 (rv (X 1) (Y 1) (Z 1) (cR m 9 1) 3), Value.int .i64 (rv (X 2) (Y 2) (Z 2) (cR m 9 2) 0), Value.int .i64 (rv (X 2) (Y 2) (Z 2) (cR m 9 2) 1), Value.int .i64 (rv (X 2) (Y 2) (Z 2) (cR m 9 2) 2), Value.int .i64 (rv (X 2) (Y 2) (Z 2) (cR m 9 2) 3), Value.int .i64 (rv (X 3) (Y 3) (Z 3) (cR m 9 3) 0), Value.int .i64 (rv (X 3) (Y 3) (Z 3) (cR m 9 3) 1), Value.int .i64 (rv (X 3) (Y 3) (Z 3) (cR m 9 3) 2), Value.int .i64 (rv (X 3) (Y 3) (Z 3) (cR m 9 3) 3)] = _
      rw [show cR m 9 0 = cR m 8 0 from n2 0 (by decide), show cR m 9 1 = cR m 8 1 from n2 1 (by decide), show cR m 9 2 = cR m 8 2 from n2 2 (by decide), show cR m 9 3 = cR m 8 3 from n2 3 (by decide)]
    have q2 : usedV m (3 * 2 + (2 + 1)) = usedV m (3 * 2 + 2) := by show hV m 9 0 + 2 * hV m 9 1 + 4 * hV m 9 2 = _; rw [show hV m 9 0 = hV m 8 0 from n3 0 (by decide), show hV m 9 1 = hV m 8 1 from n3 1 (by decide), show hV m 9 2 = hV m 8 2 from n3 2 (by decide)]; rfl
    have q3 : cntV m (3 * 2 + (2 + 1)) 2 = cntV m (3 * 2 + 2) 2 := by show (if cR m 9 2 = 0 then 0 else 1) = _; rw [show cR m 9 2 = cR m 8 2 from n2 2 (by decide)]; rfl
    have N1 := Lib.hid n1; have Q1 := Lib.hid q1; have Q2 := Lib.hid q2; have Q3 := Lib.hid q3; have K1 := Lib.hid k1
    clear n1 n2 n3 q1 q2 q3 k1
    go_wp2_with fail
    go_roundw
    case rel => exact ⟨2 + 1, by decide, by go_num, by rw [Q2.out], by rw [Q3.out], N1.out, (by rw [Q1.out]; exact K1.out), HB, HZ⟩
    case measure => simp [intOf]
  obtain ⟨S2, rfl⟩ : ∃ S, S = wr := ⟨_, rfl⟩
  have k1 : S2.heap[V.heap.size]? = some (.cells (rowsA X Y Z m (3 * 3 + 0) 4) 92 (0, 0)) := H1.out
  replace HG : Hid (good m (3 * 3 + 0) = true) := HG.out
  have hB := HB.out; have hz := HZ.out
  have K1 := Lib.hid k1
  clear H1 HB HZ k1
  go_wp2_with fail
  rw [rounds_succ]
  go_wp2_with fail
  have k1 := K1.out
  clear K1
  have hn : Value.int .i64 0 = .int .i64 (cntV m (3 * 3 + 0) 3 : Nat) := by unfold cntV; rw [if_pos (code0 (by decide))]; rfl
  go_loopw [7, 9, 10] (fun u n kk wx => ∃ k : Nat, k ≤ 3 ∧ kk = .int .i64 k ∧ u = .int .i64 (usedV m (3 * 3 + k) : Nat) ∧ n = .int .i64 (cntV m (3 * 3 + k) 3 : Nat) ∧ Hid (good m (3 * 3 + k) = true) ∧ Hid (wx.heap[V.heap.size]? = some (.cells (rowsA X Y Z m (3 * 3 + k) 4) 92 (0, 0))) ∧ Hid (Below w.heap.size w wx) ∧ Hid (V.heap.size < wx.heap.size))
    (fun _ _ kk _ => 3 - (intOf kk).toNat)
  case atStart => exact ⟨0, by decide, rfl, rfl, hn, HG, k1, hB, hz⟩
  clear k1 hB hz HG hn
  obtain ⟨k, hk, rfl, rfl, rfl, HG, H1, HB, HZ⟩ := hrel
  have hk3 : k = 0 ∨ k = 1 ∨ k = 2 ∨ k = 3 := by omega
  clear hk
  rcases hk3 with rfl | rfl | rfl | rfl
  · have k1 : wr.heap[V.heap.size]? = some (.cells #[Value.int .i64 (rv (X 0) (Y 0) (Z 0) (cR m 9 0) 0), Value.int .i64 (rv (X 0) (Y 0) (Z 0) (cR m 9 0) 1), Value.int .i64 (rv (X 0) (Y 0) (Z 0) (cR m 9 0) 2), Value.int .i64 (rv (X 0) (Y 0) (Z 0) (cR m 9 0) 3), Value.int .i64 (rv (X 1) (Y 1) (Z 1) (cR m 9 1) 0), Value.int .i64 (rv (X 1) (Y 1) (Z 1) (cR m 9 1) 1), Value.int .i64 (rv (X 1) (Y 1) (Z 1) (cR m 9 1) 2), Value.int .i64 (rv (X 1) (Y 1) (Z 1) (cR m 9 1) 3), Value.int .i64 (rv (X 2) (Y 2) (Z 2) (cR m 9 2) 0), Value.int .i64 (rv (X 2) (Y 2) (Z 2) (cR m 9 2) 1), Value.int .i64 (rv (X 2) (Y 2) (Z 2) (cR m 9 2) 2), Value.int .i64 (rv (X 2) (Y 2) (Z 2) (cR m 9 2) 3), Value.int .i64 (rv (X 3) (Y 3) (Z 3) (cR m 9 3) 0), Value.int .i64 (rv (X 3) (Y 3) (Z 3) (cR m 9 3) 1), Value.int .i64 (rv (X 3) (Y 3) (Z 3) (cR m 9 3) 2), Value.int .i64 (rv (X 3) (Y 3) (Z 3) (cR m 9 3) 3)] 92 (0, 0)) := H1.out
    have hz := HZ.out
    clear H1
    have hb : ¬ m / 2 ^ (3 * 3 + 0) % 2 = 1 := by rw [Nat.div_eq_of_lt (show m < 2 ^ (3 * 3 + 0) by omega)]; decide
    have hb' := bit0_of (d := 512) hm ((m : Int) / 512) (by omega) true (by simpa using hb)
    obtain ⟨n1, n2, n3⟩ := mask_no hm (r := 3) (k := 0) (by decide) (by decide) HG.out hb
    have q1 : rowsA X Y Z m (3 * 3 + (0 + 1)) 4 = #[Value.int .i64 (rv (X 0) (Y 0) (Z 0) (cR m 9 0) 0), Value.int .i64 (rv (X 0) (Y 0) (Z 0) (cR m 9 0) 1), Value.int .i64 (rv (X 0) (Y 0) (Z 0) (cR m 9 0) 2), Value.int .i64 (rv (X 0) (Y 0) (Z 0) (cR m 9 0) 3), Value.int .i64 (rv (X 1) (Y 1) (Z 1) (cR m 9 1) 0), Value.int .i64 (rv (X 1) (Y 1) (Z 1) (cR m 9 1) 1), Value.int .i64 (rv (X 1) (Y 1) (Z 1) (cR m 9 1) 2), Value.int .i64 (rv (X 1) (Y 1) (Z 1) (cR m 9 1) 3), Value.int .i64 (rv (X 2) (Y 2) (Z 2) (cR m 9 2) 0), Value.int .i64 (rv (X 2) (Y 2) (Z 2) (cR m 9 2) 1), Value.int .i64 (rv (X 2) (Y 2) (Z 2) (cR m 9 2) 2), Value.int .i64 (rv (X 2) (Y 2) (Z 2) (cR m 9 2) 3), Value.int .i64 (rv (X 3) (Y 3) (Z 3) (cR m 9 3) 0), Value.int .i64 (rv (X 3) (Y 3) (Z 3) (cR m 9 3) 1), Value.int .i64 (rv (X 3) (Y 3) (Z 3) (cR m 9 3) 2), Value.int .i64 (rv (X 3) (Y 3) (Z 3) (cR m 9 3) 3)] := by
      show #[Value.int .i64 (rv (X 0) (Y 0) (Z 0) (cR m 10 0) 0), Value.int .i64 (rv (X 0) (Y 0) (Z 0) (cR m 10 0) 1), Value.int .i64 (rv (X 0) (Y 0) (Z 0) (cR m 10 0) 2), Value.int .i64 (rv (X 0) (Y 0) (Z 0) (cR m 10 0) 3), Value.int .i64 (rv (X 1) (Y 1) (Z 1) (cR m 10 1) 0), Value.int .i64 (rv (X 1) (Y 1) (Z 1) (cR m 10 1) 1), Value.int .i64 (rv (X 1) (Y 1) (Z 1) (cR m 10 1) 2), Value.int .i64 (rv (X 1) (Y 1) (Z 1) (cR m 10 1) 3), Value.int .i64 (rv (X 2) (Y 2) (Z 2) (cR m 10 2) 0), Value.int .i64 (rv (X 2) (Y 2) (Z 2) (cR m 10 2) 1), Value.int .i64 (rv (X 2) (Y 2) (Z 2) (cR m 10 2) 2), Value.int .i64 (rv (X 2) (Y 2) (Z 2) (cR m 10 2) 3), Value.int .i64 (rv (X 3) (Y 3) (Z 3) (cR m 10 3) 0), Value.int .i64 (rv (X 3) (Y 3) (Z 3) (cR m 10 3) 1), Value.int .i64 (rv (X 3) (Y 3) (Z 3) (cR m 10 3) 2), Value.int .i64 (rv (X 3) (Y 3) (Z 3) (cR m 10 3) 3)] = _
      rw [show cR m 10 0 = cR m 9 0 from n2 0 (by decide), show cR m 10 1 = cR m 9 1 from n2 1 (by decide), show cR m 10 2 = cR m 9 2 from n2 2 (by decide), show cR m 10 3 = cR m 9 3 from n2 3 (by decide)]
    have q2 : usedV m (3 * 3 + (0 + 1)) = usedV m (3 * 3 + 0) := by show hV m 10 0 + 2 * hV m 10 1 + 4 * hV m 10 2 = _; rw [show hV m 10 0 = hV m 9 0 from n3 0 (by decide), show hV m 10 1 = hV m 9 1 from n3 1 (by decide), show hV m 10 2 = hV m 9 2 from n3 2 (by decide)]; rfl
    have q3 : cntV m (3 * 3 + (0 + 1)) 3 = cntV m (3 * 3 + 0) 3 := by show (if cR m 10 3 = 0 then 0 else 1) = _; rw [show cR m 10 3 = cR m 9 3 from n2 3 (by decide)]; rfl
    have N1 := Lib.hid n1; have Q1 := Lib.hid q1; have Q2 := Lib.hid q2; have Q3 := Lib.hid q3; have K1 := Lib.hid k1
    clear n1 n2 n3 q1 q2 q3 k1
    go_wp2_with fail
    go_roundw
    case rel => exact ⟨0 + 1, by decide, by go_num, by rw [Q2.out], by rw [Q3.out], N1.out, (by rw [Q1.out]; exact K1.out), HB, HZ⟩
    case measure => simp [intOf]
  · have k1 : wr.heap[V.heap.size]? = some (.cells #[Value.int .i64 (rv (X 0) (Y 0) (Z 0) (cR m 10 0) 0), Value.int .i64 (rv (X 0) (Y 0) (Z 0) (cR m 10 0) 1), Value.int .i64 (rv (X 0) (Y 0) (Z 0) (cR m 10 0) 2), Value.int .i64 (rv (X 0) (Y 0) (Z 0) (cR m 10 0) 3), Value.int .i64 (rv (X 1) (Y 1) (Z 1) (cR m 10 1) 0), Value.int .i64 (rv (X 1) (Y 1) (Z 1) (cR m 10 1) 1), Value.int .i64 (rv (X 1) (Y 1) (Z 1) (cR m 10 1) 2), Value.int .i64 (rv (X 1) (Y 1) (Z 1) (cR m 10 1) 3), Value.int .i64 (rv (X 2) (Y 2) (Z 2) (cR m 10 2) 0), Value.int .i64 (rv (X 2) (Y 2) (Z 2) (cR m 10 2) 1), Value.int .i64 (rv (X 2) (Y 2) (Z 2) (cR m 10 2) 2), Value.int .i64 (rv (X 2) (Y 2) (Z 2) (cR m 10 2) 3), Value.int .i64 (rv (X 3) (Y 3) (Z 3) (cR m 10 3) 0), Value.int .i64 (rv (X 3) (Y 3) (Z 3) (cR m 10 3) 1), Value.int .i64 (rv (X 3) (Y 3) (Z 3) (cR m 10 3) 2), Value.int .i64 (rv (X 3) (Y 3) (Z 3) (cR m 10 3) 3)] 92 (0, 0)) := H1.out
    have hz := HZ.out
    clear H1
    have hb : ¬ m / 2 ^ (3 * 3 + 1) % 2 = 1 := by rw [Nat.div_eq_of_lt (show m < 2 ^ (3 * 3 + 1) by omega)]; decide
    have hb' := bit0_of (d := 1024) hm ((m : Int) / 1024) (by omega) true (by simpa using hb)
    obtain ⟨n1, n2, n3⟩ := mask_no hm (r := 3) (k := 1) (by decide) (by decide) HG.out hb
    have q1 : rowsA X Y Z m (3 * 3 + (1 + 1)) 4 = #[Value.int .i64 (rv (X 0) (Y 0) (Z 0) (cR m 10 0) 0), Value.int .i64 (rv (X 0) (Y 0) (Z 0) (cR m 10 0) 1), Value.int .i64 (rv (X 0) (Y 0) (Z 0) (cR m 10 0) 2), Value.int .i64 (rv (X 0) (Y 0) (Z 0) (cR m 10 0) 3), Value.int .i64 (rv (X 1) (Y 1) (Z 1) (cR m 10 1) 0), Value.int .i64 (rv (X 1) (Y 1) (Z 1) (cR m 10 1) 1), Value.int .i64 (rv (X 1) (Y 1) (Z 1) (cR m 10 1) 2), Value.int .i64 (rv (X 1) (Y 1) (Z 1) (cR m 10 1) 3), Value.int .i64 (rv (X 2) (Y 2) (Z 2) (cR m 10 2) 0), Value.int .i64 (rv (X 2) (Y 2) (Z 2) (cR m 10 2) 1), Value.int .i64 (rv (X 2) (Y 2) (Z 2) (cR m 10 2) 2), Value.int .i64 (rv (X 2) (Y 2) (Z 2) (cR m 10 2) 3), Value.int .i64 (rv (X 3) (Y 3) (Z 3) (cR m 10 3) 0), Value.int .i64 (rv (X 3) (Y 3) (Z 3) (cR m 10 3) 1), Value.int .i64 (rv (X 3) (Y 3) (Z 3) (cR m 10 3) 2), Value.int .i64 (rv (X 3) (Y 3) (Z 3) (cR m 10 3) 3)] := by
      show #[Value.int .i64 (rv (X 0) (Y 0) (Z 0) (cR m 11 0) 0), Value.int .i64 (rv (X 0) (Y 0) (Z 0) (cR m 11 0) 1), Value.int .i64 (rv (X 0) (Y 0) (Z 0) (cR m 11 0) 2), Value.int .i64 (rv (X 0) (Y 0) (Z 0) (cR m 11 0) 3), Value.int .i64 (rv (X 1) (Y 1) (Z 1) (cR m 11 1) 0), Value.int .i64 (rv (X 1) (Y 1) (Z 1) (cR m 11 1) 1), Value.int .i64 (rv (X 1) (Y 1) (Z 1) (cR m 11 1) 2), Value.int .i64 (rv (X 1) (Y 1) (Z 1) (cR m 11 1) 3), Value.int .i64 (rv (X 2) (Y 2) (Z 2) (cR m 11 2) 0), Value.int .i64 (rv (X 2) (Y 2) (Z 2) (cR m 11 2) 1), Value.int .i64 (rv (X 2) (Y 2) (Z 2) (cR m 11 2) 2), Value.int .i64 (rv (X 2) (Y 2) (Z 2) (cR m 11 2) 3), Value.int .i64 (rv (X 3) (Y 3) (Z 3) (cR m 11 3) 0), Value.int .i64 (rv (X 3) (Y 3) (Z 3) (cR m 11 3) 1), Value.int .i64 (rv (X 3) (Y 3) (Z 3) (cR m 11 3) 2), Value.int .i64 (rv (X 3) (Y 3) (Z 3) (cR m 11 3) 3)] = _
      rw [show cR m 11 0 = cR m 10 0 from n2 0 (by decide), show cR m 11 1 = cR m 10 1 from n2 1 (by decide), show cR m 11 2 = cR m 10 2 from n2 2 (by decide), show cR m 11 3 = cR m 10 3 from n2 3 (by decide)]
    have q2 : usedV m (3 * 3 + (1 + 1)) = usedV m (3 * 3 + 1) := by show hV m 11 0 + 2 * hV m 11 1 + 4 * hV m 11 2 = _; rw [show hV m 11 0 = hV m 10 0 from n3 0 (by decide), show hV m 11 1 = hV m 10 1 from n3 1 (by decide), show hV m 11 2 = hV m 10 2 from n3 2 (by decide)]; rfl
    have q3 : cntV m (3 * 3 + (1 + 1)) 3 = cntV m (3 * 3 + 1) 3 := by show (if cR m 11 3 = 0 then 0 else 1) = _; rw [show cR m 11 3 = cR m 10 3 from n2 3 (by decide)]; rfl
    have N1 := Lib.hid n1; have Q1 := Lib.hid q1; have Q2 := Lib.hid q2; have Q3 := Lib.hid q3; have K1 := Lib.hid k1
    clear n1 n2 n3 q1 q2 q3 k1
    go_wp2_with fail
    go_roundw
    case rel => exact ⟨1 + 1, by decide, by go_num, by rw [Q2.out], by rw [Q3.out], N1.out, (by rw [Q1.out]; exact K1.out), HB, HZ⟩
    case measure => simp [intOf]
  · have k1 : wr.heap[V.heap.size]? = some (.cells #[Value.int .i64 (rv (X 0) (Y 0) (Z 0) (cR m 11 0) 0), Value.int .i64 (rv (X 0) (Y 0) (Z 0) (cR m 11 0) 1), Value.int .i64 (rv (X 0) (Y 0) (Z 0) (cR m 11 0) 2), Value.int .i64 (rv (X 0) (Y 0) (Z 0) (cR m 11 0) 3), Value.int .i64 (rv (X 1) (Y 1) (Z 1) (cR m 11 1) 0), Value.int .i64 (rv (X 1) (Y 1) (Z 1) (cR m 11 1) 1), Value.int .i64 (rv (X 1) (Y 1) (Z 1) (cR m 11 1) 2), Value.int .i64 (rv (X 1) (Y 1) (Z 1) (cR m 11 1) 3), Value.int .i64 (rv (X 2) (Y 2) (Z 2) (cR m 11 2) 0), Value.int .i64 (rv (X 2) (Y 2) (Z 2) (cR m 11 2) 1), Value.int .i64 (rv (X 2) (Y 2) (Z 2) (cR m 11 2) 2), Value.int .i64 (rv (X 2) (Y 2) (Z 2) (cR m 11 2) 3), Value.int .i64 (rv (X 3) (Y 3) (Z 3) (cR m 11 3) 0), Value.int .i64 (rv (X 3) (Y 3) (Z 3) (cR m 11 3) 1), Value.int .i64 (rv (X 3) (Y 3) (Z 3) (cR m 11 3) 2), Value.int .i64 (rv (X 3) (Y 3) (Z 3) (cR m 11 3) 3)] 92 (0, 0)) := H1.out
    have hz := HZ.out
    clear H1
    have hb : ¬ m / 2 ^ (3 * 3 + 2) % 2 = 1 := by rw [Nat.div_eq_of_lt (show m < 2 ^ (3 * 3 + 2) by omega)]; decide
    have hb' := bit0_of (d := 2048) hm ((m : Int) / 2048) (by omega) true (by simpa using hb)
    obtain ⟨n1, n2, n3⟩ := mask_no hm (r := 3) (k := 2) (by decide) (by decide) HG.out hb
    have q1 : rowsA X Y Z m (3 * 3 + (2 + 1)) 4 = #[Value.int .i64 (rv (X 0) (Y 0) (Z 0) (cR m 11 0) 0), Value.int .i64 (rv (X 0) (Y 0) (Z 0) (cR m 11 0) 1), Value.int .i64 (rv (X 0) (Y 0) (Z 0) (cR m 11 0) 2), Value.int .i64 (rv (X 0) (Y 0) (Z 0) (cR m 11 0) 3), Value.int .i64 (rv (X 1) (Y 1) (Z 1) (cR m 11 1) 0), Value.int .i64 (rv (X 1) (Y 1) (Z 1) (cR m 11 1) 1), Value.int .i64 (rv (X 1) (Y 1) (Z 1) (cR m 11 1) 2), Value.int .i64 (rv (X 1) (Y 1) (Z 1) (cR m 11 1) 3), Value.int .i64 (rv (X 2) (Y 2) (Z 2) (cR m 11 2) 0), Value.int .i64 (rv (X 2) (Y 2) (Z 2) (cR m 11 2) 1), Value.int .i64 (rv (X 2) (Y 2) (Z 2) (cR m 11 2) 2), Value.int .i64 (rv (X 2) (Y 2) (Z 2) (cR m 11 2) 3), Value.int .i64 (rv (X 3) (Y 3) (Z 3) (cR m 11 3) 0), Value.int .i64 (rv (X 3) (Y 3) (Z 3) (cR m 11 3) 1), Value.int .i64 (rv (X 3) (Y 3) (Z 3) (cR m 11 3) 2), Value.int .i64 (rv (X 3) (Y 3) (Z 3) (cR m 11 3) 3)] := by
      show #[Value.int .i64 (rv (X 0) (Y 0) (Z 0) (cR m 12 0) 0), Value.int .i64 (rv (X 0) (Y 0) (Z 0) (cR m 12 0) 1), Value.int .i64 (rv (X 0) (Y 0) (Z 0) (cR m 12 0) 2), Value.int .i64 (rv (X 0) (Y 0) (Z 0) (cR m 12 0) 3), Value.int .i64 (rv (X 1) (Y 1) (Z 1) (cR m 12 1) 0), Value.int .i64 (rv (X 1) (Y 1) (Z 1) (cR m 12 1) 1), Value.int .i64 (rv (X 1) (Y 1) (Z 1) (cR m 12 1) 2), Value.int .i64 (rv (X 1) (Y 1) (Z 1) (cR m 12 1) 3), Value.int .i64 (rv (X 2) (Y 2) (Z 2) (cR m 12 2) 0), Value.int .i64 (rv (X 2) (Y 2) (Z 2) (cR m 12 2) 1), Value.int .i64 (rv (X 2) (Y 2) (Z 2) (cR m 12 2) 2), Value.int .i64 (rv (X 2) (Y 2) (Z 2) (cR m 12 2) 3), Value.int .i64 (rv (X 3) (Y 3) (Z 3) (cR m 12 3) 0), Value.int .i64 (rv (X 3) (Y 3) (Z 3) (cR m 12 3) 1), Value.int .i64 (rv (X 3) (Y 3) (Z 3) (cR m 12 3) 2), Value.int .i64 (rv (X 3) (Y 3) (Z 3) (cR m 12 3) 3)] = _
      rw [show cR m 12 0 = cR m 11 0 from n2 0 (by decide), show cR m 12 1 = cR m 11 1 from n2 1 (by decide), show cR m 12 2 = cR m 11 2 from n2 2 (by decide), show cR m 12 3 = cR m 11 3 from n2 3 (by decide)]
    have q2 : usedV m (3 * 3 + (2 + 1)) = usedV m (3 * 3 + 2) := by show hV m 12 0 + 2 * hV m 12 1 + 4 * hV m 12 2 = _; rw [show hV m 12 0 = hV m 11 0 from n3 0 (by decide), show hV m 12 1 = hV m 11 1 from n3 1 (by decide), show hV m 12 2 = hV m 11 2 from n3 2 (by decide)]; rfl
    have q3 : cntV m (3 * 3 + (2 + 1)) 3 = cntV m (3 * 3 + 2) 3 := by show (if cR m 12 3 = 0 then 0 else 1) = _; rw [show cR m 12 3 = cR m 11 3 from n2 3 (by decide)]; rfl
    have N1 := Lib.hid n1; have Q1 := Lib.hid q1; have Q2 := Lib.hid q2; have Q3 := Lib.hid q3; have K1 := Lib.hid k1
    clear n1 n2 n3 q1 q2 q3 k1
    go_wp2_with fail
    go_roundw
    case rel => exact ⟨2 + 1, by decide, by go_num, by rw [Q2.out], by rw [Q3.out], N1.out, (by rw [Q1.out]; exact K1.out), HB, HZ⟩
    case measure => simp [intOf]
  obtain ⟨S3, rfl⟩ : ∃ S, S = wr := ⟨_, rfl⟩
  have k1 : S3.heap[V.heap.size]? = some (.cells (rowsA X Y Z m (3 * 4 + 0) 4) 92 (0, 0)) := H1.out
  replace HG : Hid (good m (3 * 4 + 0) = true) := HG.out
  have hB := HB.out; have hz := HZ.out
  have K1 := Lib.hid k1
  clear H1 HB HZ k1
  go_wp2_with fail
  rw [rounds_succ]
  go_wp2_with fail
  go_returns
  exact ⟨hB, .inr ⟨HG.out, _, HVS.out, K1.out, rfl⟩⟩
end Go.Proofs.Ytdglijdiiggdgaa
