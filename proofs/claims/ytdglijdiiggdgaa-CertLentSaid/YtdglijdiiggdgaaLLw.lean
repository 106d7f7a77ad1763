import Derived.Test.YtdglijdiiggdgaaLLn
namespace Go.Proofs.Ytdglijdiiggdgaa
open Go.RowKit Go.Maps Geo
set_option maxRecDepth 100000 in
set_option maxHeartbeats 2000000 in
theorem law21_lent (pl pt : Option Addr) (n cp m cp2 : Nat) (X Y Z A B C : Nat → Int) (v : Int) (hv : Wf v) (hwf : ∀ k, k < m → Wf (A k) ∧ Wf (B k) ∧ Wf (C k)) (hn : n ≤ maxLen) (hm : m ≤ maxLen) (hc : pt = none → cp2 = 0) (w : World) (hp : Hid (PtsO w pl n X Y Z)) (ht : Hid (PtsO w pt m A B C)) :
    Calls Try.prog 6 #[.slice pl n cp, .slice pt m cp2, .int .i64 v] w fun e w' => e = .returned (.bool true) ∧ Below w.heap.size w w' := by
  unfold maxLen at hn hm
  by_cases hbig : 40 < n
  · have hbig' : (40 : Int) < n := by omega
    clear hwf hc
    go_enter Try.func6, Try.ntmps6
    go_wp2_with fail
    refine (law21_awake _).mono ?_; rintro e W1 ⟨rfl, hX⟩
    go_wp2_with fail
    go_returns
    exact ⟨rfl, hX⟩
  by_cases hbig2 : 40 < m
  · have hbig' : ¬ (40 : Int) < n := by omega
    have hbig2' : (40 : Int) < m := by omega
    clear hwf hc
    go_enter Try.func6, Try.ntmps6
    go_wp2_with fail
    refine (law21_awake _).mono ?_; rintro e W1 ⟨rfl, hX⟩
    go_wp2_with fail
    go_returns
    exact ⟨rfl, hX⟩
  rcases ht.out with ⟨rfl, rfl⟩ | ⟨tb, toff, rfl, hT⟩
  · have h0 := hc rfl
    subst h0
    exact law21_lentN pl n cp X Y Z A B C v (Lib.hid hv) (by omega) w hp
  · exact law21_lent0 pl n cp tb toff m cp2 X Y Z A B C v (Lib.hid hv) (Lib.hid hwf) (by omega) (by omega) w hp (Lib.hid hT)
end Go.Proofs.Ytdglijdiiggdgaa
