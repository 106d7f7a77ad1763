import Derived.Test.YtdglijdiiggdgaaLAp
namespace Go.Proofs.Ytdglijdiiggdgaa
open Go.RowKit Go.Maps Geo
/-- Nothing but the cells of one block has turned. -/
structure Besides (b : Nat) (W W' : World) : Prop where
  size : W'.heap.size = W.heap.size
  same : ∀ k, k ≠ b → W'.heap[k]? = W.heap[k]?
  cells : ∀ cur T, W.heap[b]? = some (.cells cur T (0, 0)) → ∃ cur', W'.heap[b]? = some (.cells cur' T (0, 0)) ∧ cur'.size = cur.size
theorem Besides.refl (b : Nat) (W : World) : Besides b W W := ⟨rfl, fun _ _ => rfl, fun cur _ h => ⟨cur, h, rfl⟩⟩
theorem Besides.setCell {b : Nat} {W W' : World} (h : Besides b W W') (o : Nat) (v : Value) : Besides b W (W'.setCell ⟨b, o, none⟩ v) :=
  ⟨by simpa using h.size, fun k hk => (other_block hk).trans (h.same k hk), fun cur T hc => by
    obtain ⟨c1, h1, h2⟩ := h.cells cur T hc
    exact ⟨_, set_own h1 v, by simpa using h2⟩⟩
def blkOf (p : Option Addr) (d : Nat) : Nat := match p with
  | some a => a.block
  | none => d
theorem cells_of_take {cur : Array Value} {xs : List Value} {n : Nat} (h : cur.toList.take n = xs) (hl : xs.length = n) : n ≤ cur.size := by
  have : (cur.toList.take n).length = n := by rw [h, hl]
  rw [List.length_take, Array.length_toList] at this
  omega
set_option maxRecDepth 100000 in
set_option maxHeartbeats 1000000 in
theorem ref5_sameEdges0 (w : World) : Calls Try.prog 38 #[.slice none 0 0, .slice none 0 0] w fun e w' => e = .returned (.bool true) ∧ Below w.heap.size w w' := by
  go_enter Try.func38, Try.ntmps38
  go_wp2_with fail
  refine wp_loop_rounds 1 ?_
  rw [rounds_succ]
  go_wp2_with fail
  go_returns
  exact ⟨rfl, Below.refl _ _⟩
set_option maxRecDepth 100000 in
set_option maxHeartbeats 2000000 in
theorem ref9_same0 (w : World) : Calls Try.prog 17 #[.agg #[.slice none 0 0, .slice none 0 0, .slice none 0 0, .int .i64 0], .agg #[.slice none 0 0, .slice none 0 0, .slice none 0 0, .int .i64 0]] w fun e w' => e = .returned (.bool true) ∧ Below w.heap.size w w' := by
  have HS : Hid (∀ w, Calls Try.prog 15 #[.slice none 0 0, .slice none 0 0] w fun e w' => e = .returned (.bool true) ∧ Below w.heap.size w w') := by
    intro w
    exact ref5_sameTris none none 0 0 0 0 (fun _ => 0) (fun _ => 0) (fun _ => 0) (fun _ => 0) (fun _ => 0) (fun _ => 0) (by decide) w (Lib.hid (.inl ⟨rfl, rfl⟩)) (Lib.hid (.inl ⟨rfl, rfl⟩))
  go_enter Try.func17, Try.ntmps17
  go_wp2_with fail
  first | refine wp_named ?_ | refine calls_named ?_
  intro W hW
  have k0 : W.heap[w.heap.size]? = some (.cells #[.slice none 0 0, .slice none 0 0, .slice none 0 0, .int .i64 0] 50 (0, 0)) := by rw [hW]; exact (heap_old (by simp)).trans (heap_at rfl)
  have k1 : W.heap[w.heap.size + 1]? = some (.cells #[.slice none 0 0, .slice none 0 0, .slice none 0 0, .int .i64 0] 50 (0, 0)) := by rw [hW]; exact heap_at (by simp)
  have z1 : w.heap.size + 1 < W.heap.size := by rw [hW]; simp
  have hB : Below w.heap.size w W := by rw [hW]; go_grown
  clear hW
  refine (HS.out _).mono ?_; rintro e W1 ⟨rfl, hX⟩
  replace k0 := (hX.block _ (by omega)).trans k0; replace k1 := (hX.block _ z1).trans k1; replace z1 := Nat.lt_of_lt_of_le z1 hX.size; replace hB := after hB hX; clear hX
  obtain ⟨p0, q0⟩ := cellB k0
  obtain ⟨p1, q1⟩ := cellB k1
  go_wp2_with fail
  refine (HS.out _).mono ?_; rintro e W2 ⟨rfl, hX⟩
  replace k0 := (hX.block _ (by omega)).trans k0; replace k1 := (hX.block _ z1).trans k1; replace z1 := Nat.lt_of_lt_of_le z1 hX.size; replace hB := after hB hX; clear hX p0 q0 p1 q1
  obtain ⟨p0, q0⟩ := cellB k0
  obtain ⟨p1, q1⟩ := cellB k1
  go_wp2_with fail
  refine (ref5_sameEdges0 _).mono ?_; rintro e W3 ⟨rfl, hX⟩
  replace k0 := (hX.block _ (by omega)).trans k0; replace k1 := (hX.block _ z1).trans k1; replace z1 := Nat.lt_of_lt_of_le z1 hX.size; replace hB := after hB hX; clear hX p0 q0 p1 q1
  obtain ⟨p0, q0⟩ := cellB k0
  obtain ⟨p1, q1⟩ := cellB k1
  go_wp2_with fail
  go_returns
  exact ⟨rfl, hB⟩
end Go.Proofs.Ytdglijdiiggdgaa
