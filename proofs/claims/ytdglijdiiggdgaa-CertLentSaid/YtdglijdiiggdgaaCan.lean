import Derived.Test.YtdglijdiiggdgaaChk
namespace Go.Proofs.Ytdglijdiiggdgaa
open Go.RowKit

def tri (t : Int × Int × Int) : Value := .agg #[.int .i64 t.1, .int .i64 t.2.1, .int .i64 t.2.2]
def canF (a b c : Int) : Int × Int × Int := if b < a then (if c < b then (c, a, b) else (b, c, a)) else (if c < a then (c, a, b) else (a, b, c))

set_option maxRecDepth 100000 in
set_option maxHeartbeats 2000000 in
theorem facet_canon (a b c : Int) (w : World) :
    Calls Try.prog 21 #[.agg #[.int .i64 a, .int .i64 b, .int .i64 c]] w fun e w' => e = .returned (tri (canF a b c)) ∧ Below w.heap.size w w' := by
  have x0 : ∀ w, (Instr.index 75 (.agg #[.int .i64 b, .int .i64 c, .int .i64 a, .int .i64 c, .int .i64 a, .int .i64 b]) (.int .i64 0)).run Try.prog w = .ok (.agg #[.int .i64 b, .int .i64 c, .int .i64 a]) w := fun _ => by kernel_rfl
  have x1 : ∀ w, (Instr.index 75 (.agg #[.int .i64 b, .int .i64 c, .int .i64 a, .int .i64 c, .int .i64 a, .int .i64 b]) (.int .i64 1)).run Try.prog w = .ok (.agg #[.int .i64 c, .int .i64 a, .int .i64 b]) w := fun _ => by kernel_rfl
  go_enter Try.func21, Try.ntmps21
  go_wp2_with fail
  go_rounds 3

  all_goals refine bodyPost_ret (v := tri (canF a b c)) (by unfold tri canF; simp [*, results, Try.results21, go_sem]; try grind) rfl ⟨rfl, by go_grown⟩
end Go.Proofs.Ytdglijdiiggdgaa
