import Derived.Test.YtdglijdiiggdgaaSig
namespace Go.Proofs.Ytdglijdiiggdgaa
open Go.RowKit

set_option maxRecDepth 100000 in
set_option maxHeartbeats 1000000 in
theorem sees_walk (b off n cp : Nat) (i j k m : Nat) (s : Int) (w : World)
    (h : ∀ w', Below w.heap.size w w' → Calls Try.prog 44 #[.slice (some ⟨b, off, none⟩) n cp, .int .i64 i, .int .i64 j, .int .i64 k, .int .i64 m] w' fun e w'' => e = .returned (.tuple #[.int .i64 s, .int .i64 0]) ∧ Below w'.heap.size w' w'') :
    Calls Try.prog 34 #[.slice (some ⟨b, off, none⟩) n cp, .agg #[.int .i64 i, .int .i64 j, .int .i64 k], .int .i64 m] w fun e w' => e = .returned (.tuple #[.bool (decide (s = -1)), .int .i64 0]) ∧ Below w.heap.size w w' := by
  have H := Lib.hid h
  clear h
  go_enter Try.func34, Try.ntmps34
  go_wp2_with fail
  refine (H.out _ (by go_grown)).mono ?_; rintro e W1 ⟨rfl, hX⟩
  have hB := after (w := w) (by go_grown) hX
  clear hX
  go_wp2
  go_returns
  exact ⟨rfl, hB⟩
end Go.Proofs.Ytdglijdiiggdgaa
