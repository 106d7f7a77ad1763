import Derived.Test.YtdglijdiiggdgaaLAr
import Derived.Test.YtdglijdiiggdgaaMsk
namespace Go.Proofs.Ytdglijdiiggdgaa
open Go.RowKit Go.Maps Geo
def rowC (X Y Z : Nat → Int) (m j r s i : Nat) : Value := .int .i64 (if s < r then rv (X s) (Y s) (Z s) (cR m j s) i else 0)
def rowsA (X Y Z : Nat → Int) (m j r : Nat) : Array Value := #[rowC X Y Z m j r 0 0, rowC X Y Z m j r 0 1, rowC X Y Z m j r 0 2, rowC X Y Z m j r 0 3, rowC X Y Z m j r 1 0, rowC X Y Z m j r 1 1, rowC X Y Z m j r 1 2, rowC X Y Z m j r 1 3,
  rowC X Y Z m j r 2 0, rowC X Y Z m j r 2 1, rowC X Y Z m j r 2 2, rowC X Y Z m j r 2 3, rowC X Y Z m j r 3 0, rowC X Y Z m j r 3 1, rowC X Y Z m j r 3 2, rowC X Y Z m j r 3 3]
def hasA (m j : Nat) : Array Value := #[.int .i64 (hV m j 0 : Nat), .int .i64 (hV m j 1 : Nat), .int .i64 (hV m j 2 : Nat)]
theorem and1s : ((List.range 85).all fun x => bits BinOp.and IntKind.i64 ((x : Nat) : Int) 1 == ((x % 2 : Nat) : Int)) = true := by decide +kernel
theorem and1 {x : Nat} (h : x < 85) : bits BinOp.and IntKind.i64 ((x : Nat) : Int) 1 = ((x % 2 : Nat) : Int) := by simpa using List.all_eq_true.1 and1s x (List.mem_range.2 h)
theorem bit_of {m d : Nat} (hm : m < 85) (y : Int) (hy : y = ((m / d : Nat) : Int)) (b : Bool) (hb : (m / d % 2 == 1) = b) : (bits BinOp.and IntKind.i64 y 1 == 1) = b := by
  rw [hy, and1 (Nat.lt_of_le_of_lt (Nat.div_le_self m d) hm), ← hb]
  have : m / d % 2 = 0 ∨ m / d % 2 = 1 := by omega
  rcases this with h | h <;> rw [h] <;> rfl
theorem rv3 {x y z : Int} {c : Nat} (h : c = 0) : rv x y z c 3 = 1 := by subst h; rfl
theorem rv3n {x y z : Int} {c : Nat} (h : c ≠ 0) : rv x y z c 3 = 0 := by unfold rv; rw [if_neg h, if_neg (by omega)]
theorem code0 {m j s : Nat} (h : j ≤ 3 * s) : cR m j s = 0 := by
  unfold cR
  have h1 : m % 2 ^ j < 2 ^ j := Nat.mod_lt _ (Nat.pow_pos (by decide))
  have h2 : 2 ^ j ≤ 8 ^ s := by rw [show (8 : Nat) = 2 ^ 3 from rfl, ← Nat.pow_mul]; exact Nat.pow_le_pow_right (by decide) h
  rw [Nat.div_eq_of_lt (by omega)]
theorem hV_cases (m j k : Nat) : hV m j k = 0 ∨ hV m j k = 1 := by unfold hV; split <;> simp

def d3R (X Y Z : Nat → Int) (m : Nat) : Nat → Int
  | 0 => det3 (rv (X 1) (Y 1) (Z 1) (cR m 12 1) 0) (rv (X 1) (Y 1) (Z 1) (cR m 12 1) 1) (rv (X 1) (Y 1) (Z 1) (cR m 12 1) 2) (rv (X 2) (Y 2) (Z 2) (cR m 12 2) 0) (rv (X 2) (Y 2) (Z 2) (cR m 12 2) 1) (rv (X 2) (Y 2) (Z 2) (cR m 12 2) 2) (rv (X 3) (Y 3) (Z 3) (cR m 12 3) 0) (rv (X 3) (Y 3) (Z 3) (cR m 12 3) 1) (rv (X 3) (Y 3) (Z 3) (cR m 12 3) 2)
  | 1 => det3 (rv (X 0) (Y 0) (Z 0) (cR m 12 0) 0) (rv (X 0) (Y 0) (Z 0) (cR m 12 0) 1) (rv (X 0) (Y 0) (Z 0) (cR m 12 0) 2) (rv (X 2) (Y 2) (Z 2) (cR m 12 2) 0) (rv (X 2) (Y 2) (Z 2) (cR m 12 2) 1) (rv (X 2) (Y 2) (Z 2) (cR m 12 2) 2) (rv (X 3) (Y 3) (Z 3) (cR m 12 3) 0) (rv (X 3) (Y 3) (Z 3) (cR m 12 3) 1) (rv (X 3) (Y 3) (Z 3) (cR m 12 3) 2)
  | 2 => det3 (rv (X 0) (Y 0) (Z 0) (cR m 12 0) 0) (rv (X 0) (Y 0) (Z 0) (cR m 12 0) 1) (rv (X 0) (Y 0) (Z 0) (cR m 12 0) 2) (rv (X 1) (Y 1) (Z 1) (cR m 12 1) 0) (rv (X 1) (Y 1) (Z 1) (cR m 12 1) 1) (rv (X 1) (Y 1) (Z 1) (cR m 12 1) 2) (rv (X 3) (Y 3) (Z 3) (cR m 12 3) 0) (rv (X 3) (Y 3) (Z 3) (cR m 12 3) 1) (rv (X 3) (Y 3) (Z 3) (cR m 12 3) 2)
  | _ => det3 (rv (X 0) (Y 0) (Z 0) (cR m 12 0) 0) (rv (X 0) (Y 0) (Z 0) (cR m 12 0) 1) (rv (X 0) (Y 0) (Z 0) (cR m 12 0) 2) (rv (X 1) (Y 1) (Z 1) (cR m 12 1) 0) (rv (X 1) (Y 1) (Z 1) (cR m 12 1) 1) (rv (X 1) (Y 1) (Z 1) (cR m 12 1) 2) (rv (X 2) (Y 2) (Z 2) (cR m 12 2) 0) (rv (X 2) (Y 2) (Z 2) (cR m 12 2) 1) (rv (X 2) (Y 2) (Z 2) (cR m 12 2) 2)
def parS (X Y Z : Nat → Int) (m : Nat) : Nat → Int
  | 0 => 0
  | r + 1 => parS X Y Z m r + (if cR m 12 r = 0 then (if r % 2 = 0 then -d3R X Y Z m r else d3R X Y Z m r) else 0)
theorem det_last (a b c d : V4) : det a b c d = -(a.w * det3 b.x b.y b.z c.x c.y c.z d.x d.y d.z) + b.w * det3 a.x a.y a.z c.x c.y c.z d.x d.y d.z - c.w * det3 a.x a.y a.z b.x b.y b.z d.x d.y d.z + d.w * det3 a.x a.y a.z b.x b.y b.z c.x c.y c.z := by
  unfold det d3 det3; grind
theorem wterm {x y z : Int} {c : Nat} {e : Int} : rv x y z c 3 * e = if c = 0 then e else 0 := by
  by_cases h : c = 0
  · rw [rv3 h, if_pos h, Int.one_mul]
  · rw [rv3n h, if_neg h, Int.zero_mul]
theorem smV_par (X Y Z : Nat → Int) (m : Nat) (hg : good m 12 = true) : smV ⟨X 0, Y 0, Z 0⟩ ⟨X 1, Y 1, Z 1⟩ ⟨X 2, Y 2, Z 2⟩ ⟨X 3, Y 3, Z 3⟩ m = (parS X Y Z m 4).sign := by
  unfold smV
  rw [R_rv _ (good_codes hg 0 (by decide)), R_rv _ (good_codes hg 1 (by decide)), R_rv _ (good_codes hg 2 (by decide)), R_rv _ (good_codes hg 3 (by decide)), det_last]
  congr 1
  simp only [wterm, parS, d3R]
  simp only [Nat.reduceMod, if_true, Nat.one_ne_zero, if_false]
  (repeat' split) <;> omega
theorem det3_bnd {p0 p1 p2 q0 q1 q2 r0 r1 r2 : Int} (h1 : p0.natAbs ≤ 2147483648) (h2 : p1.natAbs ≤ 2147483648) (h3 : p2.natAbs ≤ 2147483648) (h4 : q0.natAbs ≤ 2147483648) (h5 : q1.natAbs ≤ 2147483648) (h6 : q2.natAbs ≤ 2147483648) (h7 : r0.natAbs ≤ 2147483648) (h8 : r1.natAbs ≤ 2147483648) (h9 : r2.natAbs ≤ 2147483648) :
    (det3 p0 p1 p2 q0 q1 q2 r0 r1 r2).natAbs ≤ 59421121885698253195157962752 := by
  have k1 := mulN h5 h9; have k2 := mulN h6 h8; have k3 := mulN h6 h7; have k4 := mulN h4 h9; have k5 := mulN h4 h8; have k6 := mulN h5 h7
  have s1 : (q1 * r2 - q2 * r1).natAbs ≤ 9223372036854775808 := by omega
  have s2 : (q2 * r0 - q0 * r2).natAbs ≤ 9223372036854775808 := by omega
  have s3 : (q0 * r1 - q1 * r0).natAbs ≤ 9223372036854775808 := by omega
  have t1 := mulN h1 s1; have t2 := mulN h2 s2; have t3 := mulN h3 s3
  unfold det3
  omega
theorem rv_bnd {x y z : Int} (hx : Co x ∧ Co y ∧ Co z) (c i : Nat) : (rv x y z c i).natAbs ≤ 2147483648 := by
  unfold Co at hx
  unfold rv
  (repeat' split) <;> omega
theorem rv_I64 {x y z : Int} (hx : Co x ∧ Co y ∧ Co z) (c i : Nat) : I64 (rv x y z c i) := by
  have := rv_bnd hx c i
  unfold I64; omega
theorem parS_128 (X Y Z : Nat → Int) (m : Nat) (hco : ∀ s, s < 4 → Co (X s) ∧ Co (Y s) ∧ Co (Z s)) : In128 (parS X Y Z m 4) := by
  have h0 := fun i => rv_bnd (hco 0 (by decide)) (cR m 12 0) i
  have h1 := fun i => rv_bnd (hco 1 (by decide)) (cR m 12 1) i
  have h2 := fun i => rv_bnd (hco 2 (by decide)) (cR m 12 2) i
  have h3 := fun i => rv_bnd (hco 3 (by decide)) (cR m 12 3) i
  have e0 : (d3R X Y Z m 0).natAbs ≤ _ := det3_bnd (h1 0) (h1 1) (h1 2) (h2 0) (h2 1) (h2 2) (h3 0) (h3 1) (h3 2)
  have e1 : (d3R X Y Z m 1).natAbs ≤ _ := det3_bnd (h0 0) (h0 1) (h0 2) (h2 0) (h2 1) (h2 2) (h3 0) (h3 1) (h3 2)
  have e2 : (d3R X Y Z m 2).natAbs ≤ _ := det3_bnd (h0 0) (h0 1) (h0 2) (h1 0) (h1 1) (h1 2) (h3 0) (h3 1) (h3 2)
  have e3 : (d3R X Y Z m 3).natAbs ≤ _ := det3_bnd (h0 0) (h0 1) (h0 2) (h1 0) (h1 1) (h1 2) (h2 0) (h2 1) (h2 2)
  unfold In128
  simp only [parS]
  (repeat' split) <;> omega
theorem infoRow : (Try.prog.info? 44).map (fun i => (i.zero, i.size, i.bytes)) = some (some (.agg #[.int .i64 0, .int .i64 0, .int .i64 0]), 3, 24) := by kernel_rfl
theorem uRows : Try.prog.underlying 123 = some (.slice 44) := by kernel_rfl
theorem row3_new (w : World) (a b c : Value) (T : TypeId) : ∀ j u, [a, b, c][j]? = some u → (w.alloc (.cells #[a, b, c] T (0, 0))).cell? ((⟨w.heap.size, 0, none⟩ : Addr).add j) = some u := by
  intro j u h
  obtain ⟨kq, kr⟩ := cellB (w := w.alloc (.cells #[a, b, c] T (0, 0))) (b := w.heap.size) (heap_at rfl)
  rw [show (⟨w.heap.size, 0, none⟩ : Addr).add j = ⟨w.heap.size, j, none⟩ by unfold Addr.add; split <;> simp_all, kq]
  simpa using h
theorem ints3 (a b c : Int) : ∀ u ∈ [Value.int .i64 a, .int .i64 b, .int .i64 c], u.oneCell' = true := by
  intro u hu
  simp only [List.mem_cons, List.not_mem_nil, or_false] at hu
  rcases hu with rfl | rfl | rfl <;> rfl
end Go.Proofs.Ytdglijdiiggdgaa
