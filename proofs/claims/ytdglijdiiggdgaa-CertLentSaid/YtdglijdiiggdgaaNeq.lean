import Derived.Test.YtdglijdiiggdgaaPl
namespace Go.Proofs.Ytdglijdiiggdgaa
open Go.RowKit
theorem uTri : Try.prog.underlying 45 = some (.array 3 3) := by kernel_rfl
theorem szInt (w : World) : (sizeOf 3).run Try.prog w = .ok 1 w := by kernel_rfl
theorem part0 (x y z : Int) (w : World) : (Go.part 3 #[.int .i64 x, .int .i64 y, .int .i64 z] 0).run Try.prog w = .ok (.int .i64 x) w := by kernel_rfl
theorem part1 (x y z : Int) (w : World) : (Go.part 3 #[.int .i64 x, .int .i64 y, .int .i64 z] 1).run Try.prog w = .ok (.int .i64 y) w := by kernel_rfl
theorem part2 (x y z : Int) (w : World) : (Go.part 3 #[.int .i64 x, .int .i64 y, .int .i64 z] 2).run Try.prog w = .ok (.int .i64 z) w := by kernel_rfl
theorem eq3 (x y z a b c : Int) (w : World) : (Op.equalIn 10000 45 (.agg #[.int .i64 x, .int .i64 y, .int .i64 z]) (.agg #[.int .i64 a, .int .i64 b, .int .i64 c])).run Try.prog w = .ok (x == a && (y == b && z == c)) w := by
  show (Op.equalIn (9999 + 1) _ _ _).run _ w = _
  rw [Op.equalIn]
  have e1 : ∀ (p q : Int) (w : World), (Op.equalIn 9999 3 (.int .i64 p) (.int .i64 q)).run Try.prog w = .ok (p == q) w := fun p q w => run_equalIn_int w 9998 _ .i64 .i64 p q uInt
  by_cases h1 : x = a <;> by_cases h2 : y = b <;> by_cases h3 : z = c <;>
    simp [run_underlying uTri, szInt, part0, part1, part2, e1, Result.andThen, h1, h2, h3, Std.Legacy.Range.forIn_eq_forIn_range', Std.Legacy.Range.size, (show List.range' 0 3 = [0, 1, 2] from rfl), List.forIn_cons, List.forIn_nil]
end Go.Proofs.Ytdglijdiiggdgaa
