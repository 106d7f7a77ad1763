import Derived.Test.YtdglijdiiggdgaaSee
namespace Go.Proofs.Ytdglijdiiggdgaa
open Go.RowKit

theorem retB {a b : Bool} {R : Prop} (h : b = a) (hR : R) : Ending.returned (Value.bool a) = Ending.returned (Value.bool b) ∧ R := ⟨by rw [h], hR⟩
def ownB (a b c v : Int) : Bool := v == a || v == b || v == c

set_option maxHeartbeats 1000000 in
theorem cert_own (a b c v : Int) (w : World) :
    Calls Try.prog 33 #[.agg #[.int .i64 a, .int .i64 b, .int .i64 c], .int .i64 v] w fun e w' => e = .returned (.bool (ownB a b c v)) ∧ Below w.heap.size w w' := by
  go_enter Try.func33, Try.ntmps33
  go_wp2
  all_goals go_returns
  all_goals refine retB ?_ (by go_grown)
  all_goals (unfold ownB; simp_all)

def inN (n : Nat) (a : Int) : Bool := decide (0 ≤ a) && decide (a < n)
def plcB (n : Nat) (a b c : Int) : Bool := inN n a && inN n b && inN n c && !decide (a = b) && !decide (b = c) && !decide (c = a)
section
variable (x : Value) (n : Nat) (a b c : Int)
set_option maxRecDepth 100000 in
set_option maxHeartbeats 2000000 in
theorem cert_places (p : Option Addr) (cp : Nat) (w : World) :
    Calls Try.prog 20 #[.slice p n cp, .agg #[.int .i64 a, .int .i64 b, .int .i64 c]] w fun e w' => e = .returned (.bool (plcB n a b c)) ∧ Below w.heap.size w w' := by
  have x0 : ∀ w, (Instr.index 45 (.agg #[.int .i64 a, .int .i64 b, .int .i64 c]) (.int .i64 0)).run Try.prog w = .ok (.int .i64 a) w := fun _ => by kernel_rfl
  have x1 : ∀ w, (Instr.index 45 (.agg #[.int .i64 a, .int .i64 b, .int .i64 c]) (.int .i64 1)).run Try.prog w = .ok (.int .i64 b) w := fun _ => by kernel_rfl
  have x2 : ∀ w, (Instr.index 45 (.agg #[.int .i64 a, .int .i64 b, .int .i64 c]) (.int .i64 2)).run Try.prog w = .ok (.int .i64 c) w := fun _ => by kernel_rfl
  go_enter Try.func20, Try.ntmps20
  go_wp2_with fail
  go_rounds 4
  all_goals go_returns
  all_goals refine retB ?_ (by go_grown)
  all_goals (unfold plcB inN; simp [*]; try first | omega | (by_cases hca : c = a <;> simp_all))
end
/-- A list of triples of whole numbers, or none at all. -/
def PtsO (w : World) (pa : Option Addr) (n : Nat) (X Y Z : Nat → Int) : Prop := (n = 0 ∧ pa = none) ∨ ∃ b off, pa = some ⟨b, off, none⟩ ∧ PtsAt w b off n X Y Z
theorem PtsO.at {w : World} {pa : Option Addr} {n : Nat} {X Y Z : Nat → Int} (h : PtsO w pa n X Y Z) {k : Nat} (hk : k < n) : ∃ b off, pa = some ⟨b, off, none⟩ ∧ PtsAt w b off n X Y Z := by
  rcases h with ⟨rfl, _⟩ | h
  · omega
  · exact h
theorem PtsO.below {w w' : World} {pa : Option Addr} {n : Nat} {X Y Z : Nat → Int} (h : PtsO w pa n X Y Z) (hB : Below w.heap.size w w') : PtsO w' pa n X Y Z := by
  rcases h with h | ⟨b, off, e, h⟩
  · exact .inl h
  · exact .inr ⟨b, off, e, h.mono hB h.1⟩
end Go.Proofs.Ytdglijdiiggdgaa
