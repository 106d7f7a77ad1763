import Derived.Test.YtdglijdiiggdgaaRpt
namespace Go.Proofs.Ytdglijdiiggdgaa
open Go.RowKit Go.Maps Geo
theorem selL_len {A B C : Nat → Int} {v : Int} {X Y Z : Nat → Int} : ∀ f k, (selL A B C v X Y Z f k).length ≤ f
  | 0, _ => Nat.le_refl _
  | f + 1, k => by
    unfold selL
    have := selL_len (A := A) (B := B) (C := C) (v := v) (X := X) (Y := Y) (Z := Z) f (k + 1)
    split
    · simp; omega
    · omega
theorem aptR_len {n m : Nat} {X Y Z A B C : Nat → Int} {v : Int} : (aptR n m X Y Z A B C v).1.length ≤ m := by
  unfold aptR
  split
  · exact Nat.zero_le _
  · split
    · exact Nat.zero_le _
    · split
      · exact Nat.zero_le _
      · exact selL_len m 0
theorem same_self (A B C : Nat → Int) : ∀ f k, sameF A B C A B C f k = true := fun f k => (sameF_iff f k).2 fun _ _ _ => ⟨rfl, rfl, rfl⟩
set_option maxRecDepth 100000 in
set_option maxHeartbeats 2000000 in
theorem law21_apart (pl pt : Option Addr) (n cp m cp2 : Nat) (X Y Z A B C : Nat → Int) (v : Int) (hn : n ≤ maxLen) (hm : m ≤ maxLen) (w : World) (hp : Hid (PtsO w pl n X Y Z)) (ht : Hid (PtsO w pt m A B C)) :
    Calls Try.prog 5 #[.slice pl n cp, .slice pt m cp2, .int .i64 v] w fun e w' => e = .returned (.bool true) ∧ Below w.heap.size w w' := by
  unfold maxLen at hn hm
  by_cases hbig : 60 < n
  · have hbig' : (60 : Int) < n := by omega
    go_enter Try.func5, Try.ntmps5
    go_wp2_with fail
    refine (law21_awake _).mono ?_; rintro e W1 ⟨rfl, hX⟩
    go_wp2_with fail
    go_returns
    exact ⟨rfl, hX⟩
  have hbig' : ¬ (60 : Int) < n := by omega
  by_cases hbig2 : 60 < m
  · have hbig2' : (60 : Int) < m := by omega
    go_enter Try.func5, Try.ntmps5
    go_wp2_with fail
    refine (law21_awake _).mono ?_; rintro e W1 ⟨rfl, hX⟩
    go_wp2_with fail
    go_returns
    exact ⟨rfl, hX⟩
  have hbig2' : ¬ (60 : Int) < m := by omega
  obtain ⟨R, code, hR⟩ : ∃ R code, aptR n m X Y Z A B C v = (R, code) := ⟨_, _, rfl⟩
  have hlen : R.length ≤ m := by have := @aptR_len n m X Y Z A B C v; rw [hR] at this; exact this
  have HR := Lib.hid hR
  have HL := Lib.hid (show R.length < 4611686018427387904 by omega)
  clear hR hlen
  go_enter Try.func5, Try.ntmps5
  go_wp2_with fail
  refine (cert_apart pl pt n cp m cp2 X Y Z A B C v (by omega) R code HR _ hp ht).mono ?_; rintro e W1 ⟨hX, p, cap, rfl, hRA⟩
  have hp1 := Lib.hid (hp.out.below hX)
  have ht1 := Lib.hid (ht.out.below hX)
  have HRA := Lib.hid hRA
  have HB := Lib.hid hX
  clear hX hRA
  go_wp2_with fail
  refine (ref21_apart pl pt n cp m cp2 X Y Z A B C v (by omega) R code HR _ hp1 ht1).mono ?_; rintro e W2 ⟨hX, q, cap2, rfl, hRB⟩
  have hRA2 := HRA.out.below hX
  have HPA := Lib.hid hRA2.pts
  have HPB := Lib.hid hRB.pts
  have HB2 := Lib.hid (after HB.out hX)
  clear hX hRA2 hRB HB HRA hp1 ht1 HR
  go_wp2_with fail
  refine (ref5_sameTris p q R.length R.length cap cap2 (fA R) (fB R) (fC R) (fA R) (fB R) (fC R) HL.out _ HPA HPB).mono ?_; rintro e W3 ⟨rfl, hX⟩
  have HB3 := Lib.hid (after HB2.out hX)
  have hd : (decide (R.length = R.length) && sameF (fA R) (fB R) (fC R) (fA R) (fB R) (fC R) R.length 0) = true := by rw [same_self]; simp
  rw [hd]
  clear hd hX HB2 HPA HPB
  go_wp2_with fail
  refine (law21_awake _).mono ?_; rintro e W4 ⟨rfl, hX⟩
  have HB4 := Lib.hid (after HB3.out hX)
  go_wp2_with fail
  go_returns
  exact ⟨by simp, HB4.out⟩
end Go.Proofs.Ytdglijdiiggdgaa
