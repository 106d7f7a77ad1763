import Derived.Test.YtdglijdiiggdgaaRck
namespace Go.Proofs.Ytdglijdiiggdgaa
open Go.RowKit Geo
def plc (n : Nat) (a b c : Int) : Int := if plcB n a b c = true then 0 else 21
theorem plc_no {n : Nat} {a b c : Int} (h : plcB n a b c = false) : plc n a b c = 21 := if_neg (by rw [h]; decide)
theorem plcB_out {n : Nat} {a b c : Int} (h : ¬ (0 ≤ a ∧ a < n ∧ 0 ≤ b ∧ b < n ∧ 0 ≤ c ∧ c < n ∧ a ≠ b ∧ b ≠ c ∧ c ≠ a)) : plcB n a b c = false := by
  cases hp : plcB n a b c with
  | false => rfl
  | true =>
    unfold plcB inN at hp
    simp at hp
    exact absurd ⟨by omega, by omega, by omega, by omega, by omega, by omega, by omega, by omega, by omega⟩ h
theorem plcB_in {n : Nat} {a b c : Int} (h : 0 ≤ a ∧ a < n ∧ 0 ≤ b ∧ b < n ∧ 0 ≤ c ∧ c < n ∧ a ≠ b ∧ b ≠ c ∧ c ≠ a) : plcB n a b c = true := by
  unfold plcB inN
  simp
  omega
set_option maxRecDepth 100000 in
set_option maxHeartbeats 8000000 in
theorem ref2_places (pa : Option Addr) (n cp pb c0 : Nat) (a b c : Int) (w : World) (hl : Hid (w.heap[pb]? = some (.cells #[.int .i64 a, .int .i64 b, .int .i64 c] 3 (0, 0)))) :
    Calls Try.prog 25 #[.slice pa n cp, .slice (some ⟨pb, 0, none⟩) 3 c0] w fun e w' => e = .returned (.int .i64 (plc n a b c)) ∧ Below w.heap.size w w' := by
  have kl := hl.out
  have z0 : pb < w.heap.size := (Array.getElem?_eq_some_iff.1 kl).1
  obtain ⟨kq, kr⟩ := cellB kl
  have hB : Below w.heap.size w w := Below.refl _ _
  go_enter Try.func25, Try.ntmps25
  go_wp2_with fail
  refine wp_loop_rounds 4 ?_
  have y1 : IntKind.i64.wrap 1 = 1 := by decide
  rw [rounds_succ]
  by_cases h0 : a < 0
  case pos =>
    have hno := plc_no (plcB_out (n := n) (a := a) (b := b) (c := c) (by omega))
    have HNO := Lib.hid hno
    clear hno
    go_wp2_with fail
    go_returns
    exact ⟨by rw [HNO.out]; rfl, hB⟩
  by_cases g0 : (n : Int) ≤ a
  case pos =>
    have g' : ¬ a < (n : Int) := by omega
    have hno := plc_no (plcB_out (n := n) (a := a) (b := b) (c := c) (by omega))
    have HNO := Lib.hid hno
    clear hno
    go_wp2_with fail
    go_returns
    exact ⟨by rw [HNO.out]; rfl, hB⟩
  have g'0 : a < (n : Int) := by omega
  go_wp2_with fail
  refine wp_loop_rounds 1 ?_
  rw [rounds_succ]
  go_wp2_with fail
  rw [rounds_succ]
  by_cases h1 : b < 0
  case pos =>
    have hno := plc_no (plcB_out (n := n) (a := a) (b := b) (c := c) (by omega))
    have HNO := Lib.hid hno
    clear hno
    go_wp2_with fail
    go_returns
    exact ⟨by rw [HNO.out]; rfl, hB⟩
  by_cases g1 : (n : Int) ≤ b
  case pos =>
    have g' : ¬ b < (n : Int) := by omega
    have hno := plc_no (plcB_out (n := n) (a := a) (b := b) (c := c) (by omega))
    have HNO := Lib.hid hno
    clear hno
    go_wp2_with fail
    go_returns
    exact ⟨by rw [HNO.out]; rfl, hB⟩
  have g'1 : b < (n : Int) := by omega
  go_wp2_with fail
  refine wp_loop_rounds 2 ?_
  rw [rounds_succ]
  go_wp2_with fail
  refine wp_calm0 9 (by kernel_rfl) (by kernel_rfl) ?_
  intro K hK
  repeat (refine wpCalm_step (fun M hM => ?_); go_simp; first | (refine hM _ ?_; clear hM M) | (apply Exists.intro; refine ⟨fun wc hw => ?_, hM _ ?_⟩; (obtain ⟨hc, hf⟩ := bcell (hK wc hw); go_simp; first | exact rfl); clear hM M))
  refine wpCalm_nil ?_
  clear hK K kq kr
  intro V0 hX
  replace kl := (hX.block _ z0).trans kl; replace z0 := Nat.lt_of_lt_of_le z0 hX.size; replace hB := after hB hX
  clear hX
  obtain ⟨kq, kr⟩ := cellB kl
  simp only [List.drop_succ_cons, List.drop_zero]
  by_cases e10 : b = a
  case pos =>
    have e' : (b == a) = true := by simpa using e10
    have hno := plc_no (plcB_out (n := n) (a := a) (b := b) (c := c) (by omega))
    have HNO := Lib.hid hno
    clear hno
    go_wp2_with fail
    go_returns
    exact ⟨by rw [HNO.out]; rfl, hB⟩
  have e'10 : (b == a) = false := by simpa using e10
  go_wp2_with fail
  rw [rounds_succ]
  go_wp2_with fail
  rw [rounds_succ]
  by_cases h2 : c < 0
  case pos =>
    have hno := plc_no (plcB_out (n := n) (a := a) (b := b) (c := c) (by omega))
    have HNO := Lib.hid hno
    clear hno
    go_wp2_with fail
    go_returns
    exact ⟨by rw [HNO.out]; rfl, hB⟩
  by_cases g2 : (n : Int) ≤ c
  case pos =>
    have g' : ¬ c < (n : Int) := by omega
    have hno := plc_no (plcB_out (n := n) (a := a) (b := b) (c := c) (by omega))
    have HNO := Lib.hid hno
    clear hno
    go_wp2_with fail
    go_returns
    exact ⟨by rw [HNO.out]; rfl, hB⟩
  have g'2 : c < (n : Int) := by omega
  go_wp2_with fail
  refine wp_loop_rounds 3 ?_
  rw [rounds_succ]
  go_wp2_with fail
  refine wp_calm0 9 (by kernel_rfl) (by kernel_rfl) ?_
  intro K hK
  repeat (refine wpCalm_step (fun M hM => ?_); go_simp; first | (refine hM _ ?_; clear hM M) | (apply Exists.intro; refine ⟨fun wc hw => ?_, hM _ ?_⟩; (obtain ⟨hc, hf⟩ := bcell (hK wc hw); go_simp; first | exact rfl); clear hM M))
  refine wpCalm_nil ?_
  clear hK K kq kr
  intro V1 hX
  replace kl := (hX.block _ z0).trans kl; replace z0 := Nat.lt_of_lt_of_le z0 hX.size; replace hB := after hB hX
  clear hX
  obtain ⟨kq, kr⟩ := cellB kl
  simp only [List.drop_succ_cons, List.drop_zero]
  by_cases e20 : c = a
  case pos =>
    have e' : (c == a) = true := by simpa using e20
    have hno := plc_no (plcB_out (n := n) (a := a) (b := b) (c := c) (by omega))
    have HNO := Lib.hid hno
    clear hno
    go_wp2_with fail
    go_returns
    exact ⟨by rw [HNO.out]; rfl, hB⟩
  have e'20 : (c == a) = false := by simpa using e20
  go_wp2_with fail
  rw [rounds_succ]
  go_wp2_with fail
  refine wp_calm0 9 (by kernel_rfl) (by kernel_rfl) ?_
  intro K hK
  repeat (refine wpCalm_step (fun M hM => ?_); go_simp; first | (refine hM _ ?_; clear hM M) | (apply Exists.intro; refine ⟨fun wc hw => ?_, hM _ ?_⟩; (obtain ⟨hc, hf⟩ := bcell (hK wc hw); go_simp; first | exact rfl); clear hM M))
  refine wpCalm_nil ?_
  clear hK K kq kr
  intro V2 hX
  replace kl := (hX.block _ z0).trans kl; replace z0 := Nat.lt_of_lt_of_le z0 hX.size; replace hB := after hB hX
  clear hX
  obtain ⟨kq, kr⟩ := cellB kl
  simp only [List.drop_succ_cons, List.drop_zero]
  by_cases e21 : c = b
  case pos =>
    have e' : (c == b) = true := by simpa using e21
    have hno := plc_no (plcB_out (n := n) (a := a) (b := b) (c := c) (by omega))
    have HNO := Lib.hid hno
    clear hno
    go_wp2_with fail
    go_returns
    exact ⟨by rw [HNO.out]; rfl, hB⟩
  have e'21 : (c == b) = false := by simpa using e21
  go_wp2_with fail
  rw [rounds_succ]
  go_wp2_with fail
  rw [rounds_succ]
  have hyes : plc n a b c = 0 := if_pos (plcB_in ⟨by omega, by omega, by omega, by omega, by omega, by omega, by omega, by omega, by omega⟩)
  have HY := Lib.hid hyes
  clear hyes
  go_wp2_with fail
  go_returns
  exact ⟨by rw [HY.out]; rfl, hB⟩
end Go.Proofs.Ytdglijdiiggdgaa
