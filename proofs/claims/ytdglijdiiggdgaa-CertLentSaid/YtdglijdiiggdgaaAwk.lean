import Derived.Test.YtdglijdiiggdgaaFac
import Derived.Deep.RegionWith
namespace Go.Proofs.Ytdglijdiiggdgaa
open Go.RowKit Go.Maps

def l4 (a b c d : Int) : Nat → Int
  | 0 => a
  | 1 => b
  | 2 => c
  | 3 => d
  | _ => 0
def uX : Nat → Int := l4 0 1 0 0
def uY : Nat → Int := l4 0 0 1 0
def uZ : Nat → Int := l4 0 0 0 1
theorem pts4 (w : World) (b : Nat) (a0 a1 a2 b0 b1 b2 c0 c1 c2 d0 d1 d2 : Int) (T : TypeId)
    (h : w.heap[b]? = some (.cells #[.int .i64 a0, .int .i64 a1, .int .i64 a2, .int .i64 b0, .int .i64 b1, .int .i64 b2, .int .i64 c0, .int .i64 c1, .int .i64 c2, .int .i64 d0, .int .i64 d1, .int .i64 d2] T (0, 0))) :
    PtsAt w b 0 4 (l4 a0 b0 c0 d0) (l4 a1 b1 c1 d1) (l4 a2 b2 c2 d2) := by
  have hb : b < w.heap.size := (Array.getElem?_eq_some_iff.1 h).1
  obtain ⟨kq, kr⟩ := cellB h
  refine ⟨hb, fun i hi => ?_⟩
  match i, hi with
  | 0, _ => exact ⟨kq _, kq _, kq _⟩
  | 1, _ => exact ⟨kq _, kq _, kq _⟩
  | 2, _ => exact ⟨kq _, kq _, kq _⟩
  | 3, _ => exact ⟨kq _, kq _, kq _⟩
set_option maxRecDepth 100000 in
theorem law5_unit (w : World) :
    Calls Try.prog 18 #[] w fun e w' => ∃ b, e = .returned (.slice (some ⟨b, 0, none⟩) 4 4) ∧ w.heap.size ≤ b ∧ PtsAt w' b 0 4 uX uY uZ ∧ Below w.heap.size w w' := by
  go_enter Try.func18, Try.ntmps18
  go_wp2
  go_returns
  refine ⟨_, rfl, Nat.le_refl _, pts4 _ _ _ _ _ _ _ _ _ _ _ _ _ _ _ (heap_at rfl), ?_⟩
  go_grown

theorem unit_sign (w : World) : Calls Try.prog 52 #[.agg #[.int .i64 (uX 0), .int .i64 (uY 0), .int .i64 (uZ 0), .int .i64 (uX 1), .int .i64 (uY 1), .int .i64 (uZ 1), .int .i64 (uX 2), .int .i64 (uY 2), .int .i64 (uZ 2), .int .i64 (uX 3), .int .i64 (uY 3), .int .i64 (uZ 3)]] w fun e w' => e = .returned (.int .i64 (-1)) ∧ Below w.heap.size w w' := by
  have h0 : Co 0 := by unfold Co; omega
  have h1 : Co 1 := by unfold Co; omega
  have h := sign_any 0 0 0 1 0 0 0 1 0 0 0 1 (fun _ => 0) (fun _ => false) ⟨h0, h0, h0⟩ ⟨h1, h0, h0⟩ ⟨h0, h1, h0⟩ ⟨h0, h0, h1⟩
    (Lib.hid (fun m _ hd => absurd hd (by decide))) w
  exact h
theorem unit_sees (i j k m : Nat) (hi : i < 4) (hj : j < 4) (hk : k < 4) (hm : m < 4) (h1 : i ≠ j) (h2 : i ≠ k) (h3 : i ≠ m) (h4 : j ≠ k) (h5 : j ≠ m) (h6 : k ≠ m)
    (hb : bub 9 0 ⟨i, j, k, m, 1⟩ = ⟨0, 1, 2, 3, -1⟩) (b : Nat) (w : World) (hp : PtsAt w b 0 4 uX uY uZ) :
    Calls Try.prog 34 #[.slice (some ⟨b, 0, none⟩) 4 4, .agg #[.int .i64 i, .int .i64 j, .int .i64 k], .int .i64 m] w fun e w' => e = .returned (.tuple #[.bool (decide ((1 : Int) = -1)), .int .i64 0]) ∧ Below w.heap.size w w' := by
  have hco : ∀ i, i < 4 → Co (uX i) ∧ Co (uY i) ∧ Co (uZ i) := by
    intro i hi
    match i, hi with
    | 0, _ => decide
    | 1, _ => decide
    | 2, _ => decide
    | 3, _ => decide
  exact sees_walk b 0 4 4 i j k m 1 w (fun w' hB => sign_good b 0 4 4 uX uY uZ i j k m 0 1 2 3 (-1) (-1) (by decide) hi hj hk hm h1 h2 h3 h4 h5 h6 hb (.inr rfl) (by decide) (by decide) (by decide) (by decide) (by decide) (by decide) (Lib.hid hco) (Lib.hid unit_sign) w' (Lib.hid (hp.mono hB hp.1)))
def tA : Nat → Int := l4 0 0 0 1
def tB : Nat → Int := l4 1 2 3 2
def tC : Nat → Int := l4 3 1 2 3
def one2 : Nat → Nat → Int := fun _ _ => 1
theorem unit_HS (b m : Nat) (hm : m ≤ 4) : ∀ k, k < m → (chk 4 uX uY uZ).1 = 0 → plcB 4 (tA k) (tB k) (tC k) = true → ∀ v : Nat, v < 4 → ownB (tA k) (tB k) (tC k) v = false → ∀ w', PtsO w' (some ⟨b, 0, none⟩) 4 uX uY uZ →
    Calls Try.prog 34 #[.slice (some ⟨b, 0, none⟩) 4 4, .agg #[.int .i64 (tA k), .int .i64 (tB k), .int .i64 (tC k)], .int .i64 v] w' fun e w'' => e = .returned (.tuple #[.bool (decide (one2 k v = -1)), .int .i64 0]) ∧ Below w'.heap.size w' w'' := by
  intro k hk _ _ v hv ho w' hp
  obtain ⟨b', off', e, hp⟩ := hp.at (k := 0) (by decide)
  injection e with e
  injection e with e1 e2
  subst e1 e2
  have hk4 : k < 4 := by omega
  have hk5 : k = 0 ∨ k = 1 ∨ k = 2 ∨ k = 3 := by omega
  have hv5 : v = 0 ∨ v = 1 ∨ v = 2 ∨ v = 3 := by omega
  clear hk hv hk4
  rcases hk5 with rfl | rfl | rfl | rfl <;> rcases hv5 with rfl | rfl | rfl | rfl
  · exact absurd ho (by decide)
  · exact absurd ho (by decide)
  · exact unit_sees 0 1 3 2 (by decide) (by decide) (by decide) (by decide) (by decide) (by decide) (by decide) (by decide) (by decide) (by decide) (by kernel_rfl) b w' hp
  · exact absurd ho (by decide)
  · exact absurd ho (by decide)
  · exact absurd ho (by decide)
  · exact absurd ho (by decide)
  · exact unit_sees 0 2 1 3 (by decide) (by decide) (by decide) (by decide) (by decide) (by decide) (by decide) (by decide) (by decide) (by decide) (by kernel_rfl) b w' hp
  · exact absurd ho (by decide)
  · exact unit_sees 0 3 2 1 (by decide) (by decide) (by decide) (by decide) (by decide) (by decide) (by decide) (by decide) (by decide) (by decide) (by kernel_rfl) b w' hp
  · exact absurd ho (by decide)
  · exact absurd ho (by decide)
  · exact unit_sees 1 2 3 0 (by decide) (by decide) (by decide) (by decide) (by decide) (by decide) (by decide) (by decide) (by decide) (by decide) (by kernel_rfl) b w' hp
  · exact absurd ho (by decide)
  · exact absurd ho (by decide)
  · exact absurd ho (by decide)
theorem tri_wf : ∀ k, k < 4 → Wf (tA k) ∧ Wf (tB k) ∧ Wf (tC k) := by
  intro k hk
  have hk5 : k = 0 ∨ k = 1 ∨ k = 2 ∨ k = 3 := by omega
  rcases hk5 with rfl | rfl | rfl | rfl <;> exact ⟨by unfold Wf; decide, by unfold Wf; decide, by unfold Wf; decide⟩
theorem unit_facets (m c : Nat) (r : Int × Int) (hm : m ≤ 4) (hr : facR 4 m uX uY uZ tA tB tC one2 = r) (b q : Nat) (w : World) (hU : PtsAt w b 0 4 uX uY uZ) (hT : PtsAt w q 0 4 tA tB tC) :
    Calls Try.prog 8 #[.slice (some ⟨b, 0, none⟩) 4 4, .slice (some ⟨q, 0, none⟩) m c] w fun e w' => e = .returned (.tuple #[.int .i64 r.1, .int .i64 r.2]) ∧ Below w.heap.size w w' := by
  rw [← hr]
  exact cert_facets (some ⟨b, 0, none⟩) 4 4 (some ⟨q, 0, none⟩) m c uX uY uZ tA tB tC one2 (by decide) (by omega) (Lib.hid fun k hk => tri_wf k (by omega)) w (Lib.hid (.inr ⟨b, 0, rfl, hU⟩)) (Lib.hid (.inr ⟨q, 0, rfl, ⟨hT.1, fun i hi => hT.2 i (by omega)⟩⟩)) (Lib.hid (unit_HS b m hm))
theorem facR_4 : facR 4 4 uX uY uZ tA tB tC one2 = (0, 0) := by kernel_rfl
theorem facR_3 : facR 4 3 uX uY uZ tA tB tC one2 = (170, 3) := by kernel_rfl
theorem ints_of_row {w : World} {base : Nat} {T : TypeId} {vv : Value} {out : List Int} (h : w.ownsRow base T 1 vv out.length (out.map (Value.int .i64))) :
    ∃ p cap, vv = .slice p out.length cap ∧ IntsAt w p out ∧ out.length ≤ maxLen := by
  have h0 := h
  rcases h.2 with ⟨rfl, hn⟩ | ⟨g, cap, cur, rfl, hb, hg, hle, hmax, hsz, htake⟩
  · exact ⟨none, 0, by rw [hn], fun j hj => by omega, by rw [hn]; exact Nat.zero_le _⟩
  · refine ⟨_, cap, rfl, fun j hj => ⟨g, 0, rfl, (Array.getElem?_eq_some_iff.1 hg).1, ?_⟩, Nat.le_trans hle hmax⟩
    rw [Nat.zero_add, h0.cellAt j (by omega), List.getElem?_map, List.getElem?_eq_getElem hj]
    simp [List.getD, hj]
set_option maxRecDepth 100000 in
set_option maxHeartbeats 2000000 in
theorem law21_awake (w : World) : Calls Try.prog 7 #[] w fun e w' => e = .returned (.bool true) ∧ Below w.heap.size w w' := by
  go_enter Try.func7, Try.ntmps7
  go_wp2_with fail
  first | refine wp_named ?_ | refine calls_named ?_
  intro W hW
  have hT : PtsAt W w.heap.size 0 4 tA tB tC := by rw [hW]; exact pts4 _ _ _ _ _ _ _ _ _ _ _ _ _ _ _ (heap_at rfl)
  have hB : Below w.heap.size w W := by rw [hW]; go_grown
  clear hW
  refine (law5_unit _).mono ?_; rintro e W1 ⟨b, rfl, hb, hU, hX⟩
  have hT1 := hT.mono hX hT.1
  have hB1 := after hB hX
  clear hX hB hT hb
  go_wp2_with fail
  refine (unit_facets 4 4 (0, 0) (by decide) facR_4 b w.heap.size _ hU hT1).mono ?_; rintro e W2 ⟨rfl, hX⟩
  have hT2 := hT1.mono hX hT1.1
  have hB2 := after hB1 hX
  clear hX hB1 hT1 hU
  go_wp2_with fail
  have hT3 : PtsAt W2.drew w.heap.size 0 4 tA tB tC := hT2
  go_region_with (first
    | (go_at_call 18; refine (law5_unit _).mono ?_; rintro e V1 ⟨b2, rfl, hb2, hU2, hX2⟩)
    | (go_at_call 8; refine (unit_facets 3 4 (170, 3) (by decide) facR_3 b2 w.heap.size _ hU2 (hT3.mono hX2 hT3.1)).mono ?_; rintro e V2 ⟨rfl, hY2⟩))
  have hT4 := (hT3.mono hX2 hT3.1).mono hY2 (hT3.mono hX2 hT3.1).1
  have hB4 : Below w.heap.size w V2 := after (after hB2.drew hX2) hY2
  clear hT3 hT2 hX2 hY2 hB2 hb2 hU2
  go_wp2_with fail
  refine (cert_around (some ⟨w.heap.size, 0, none⟩) 4 4 0 tA tB tC _ (by decide) (Lib.hid (by unfold Wf; decide)) (Lib.hid tri_wf) (Lib.hid rfl) V2 (Lib.hid (.inr ⟨_, _, rfl, hT4⟩))).mono ?_; rintro e W5 ⟨hX, hE⟩
  have ha : arR (ringF 0 tA tB tC (4 - 0) 0 []) = some [1, 3, 2] := by kernel_rfl
  rw [ha] at hE
  rcases hE with ⟨h, _⟩ | ⟨out, vv, h, hrow, rfl⟩
  · cases h
  injection h with h
  subst h
  obtain ⟨p, cap, rfl, hI, hl⟩ := ints_of_row hrow
  replace hB4 := after hB4 hX
  clear hX hrow ha hT4 hl
  have HI := Lib.hid hI
  clear hI
  go_wp2_with fail
  first | refine wp_named ?_ | refine calls_named ?_
  intro W6 hW
  have hJ : IntsAt W6 (some ⟨W5.heap.size, 0, none⟩) [1, 3, 2] := by
    have k0 : W6.heap[W5.heap.size]? = some (.cells #[.int .i64 1, .int .i64 3, .int .i64 2] 3 (0, 0)) := by rw [hW]; exact heap_at rfl
    obtain ⟨kq, kr⟩ := cellB k0
    intro j hj
    refine ⟨_, _, rfl, (Array.getElem?_eq_some_iff.1 k0).1, ?_⟩
    have hj3 : j = 0 ∨ j = 1 ∨ j = 2 := by simp at hj; omega
    rcases hj3 with rfl | rfl | rfl <;> exact kq _
  have hI6 : IntsAt W6 p [1, 3, 2] := HI.out.below (by rw [hW]; go_grown)
  have hB6 : Below w.heap.size w W6 := by rw [hW]; have := hB4.size; go_grown
  clear hW HI hB4
  refine (ref3_same p (some ⟨W5.heap.size, 0, none⟩) cap 3 [1, 3, 2] [1, 3, 2] _ 3 rfl rfl (by decide) (by decide) _ (Lib.hid hI6) (Lib.hid hJ)).mono ?_; rintro e W7 ⟨rfl, hX⟩
  have hB7 := after hB6 hX
  go_wp2_with fail
  go_returns
  exact ⟨by simp, hB7⟩
end Go.Proofs.Ytdglijdiiggdgaa
