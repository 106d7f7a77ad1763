import Derived.Test.YtdglijdiiggdgaaUns
import Derived.Maps.OwnSet
namespace Go.Proofs.Ytdglijdiiggdgaa
open Go.RowKit Go.Maps

theorem uInt : Try.prog.underlying 3 = some (.int .i64) := by kernel_rfl
theorem uMap : Try.prog.underlying 60 = some (.map 3 3) := by kernel_rfl
theorem lawInt : Keyed Try.prog 3 := int_keyed uInt
theorem zeroInt (w : World) : (zeroValue 3).run Try.prog w = .ok (.int .i64 0) w := by kernel_rfl

def i64v (n : Int) : DataW Unit := .lit (.int .i64 n)
def Wf (n : Int) : Prop := (Lit.int .i64 n).wf = true
/-- A map as read is that list of pairs, keys and what they lead to. -/
structure MapIs (D : DataW Unit) (L : List (Int × Int)) : Prop where
  has : ∀ a : Int, Maps.has D (.int .i64 a) = L.any (fun p => p.1 == a)
  at_ : ∀ p ∈ L, D.atKey (.int .i64 p.1) (i64v 0) = i64v p.2
  size : Maps.size D = L.length
  once : L.Pairwise (fun p q => p.1 ≠ q.1)
  tidy : Tidy D
  wf : ∀ p ∈ L, Wf p.1 ∧ Wf p.2
theorem mapIs_nil : MapIs (.map []) [] := ⟨fun a => rfl, (fun p hp => by cases hp), rfl, List.Pairwise.nil, tidy_empty, (fun p hp => by cases hp)⟩
theorem MapIs.snoc {D : DataW Unit} {L : List (Int × Int)} (h : MapIs D L) {a b : Int} (hno : Maps.has D (.int .i64 a) = false) (ha : Wf a) (hb : Wf b) : MapIs (D.put (.int .i64 a) (i64v b)) (L ++ [(a, b)]) := by
  have hkl : WideAt.IsKeyLit (.int .i64 a) := by simp [WideAt.IsKeyLit]
  refine ⟨fun x => ?_, fun p hp => ?_, ?_, ?_, h.tidy.put hkl _, fun p hp => ?_⟩
  · by_cases hx : x = a
    · subst hx
      rw [has_put_same h.tidy.isMap hkl]; simp
    · rw [has_put_other (by intro e; injection e with _ e; exact hx e), h.has]
      simp [List.any_append, Ne.symm hx]
  · rcases List.mem_append.1 hp with hp | hp
    · have hne : p.1 ≠ a := fun e => by
        have h1 := h.has a
        rw [hno] at h1
        have h2 : L.any (fun q => q.1 == a) = true := List.any_eq_true.2 ⟨p, hp, by simp [e]⟩
        rw [h2] at h1; cases h1
      rw [atKey_put_other (by intro e; injection e with _ e; exact hne e)]
      exact h.at_ p hp
    · simp only [List.mem_singleton] at hp
      subst hp
      exact atKey_put_same h.tidy.isMap hkl _ _
  · rw [size_put h.tidy, hno]; simp [h.size]
  · refine List.pairwise_append.2 ⟨h.once, by simp, fun p hp q hq => ?_⟩
    simp only [List.mem_singleton] at hq
    subst hq
    intro e
    have h1 := h.has a
    rw [hno] at h1
    have h2 : L.any (fun q => q.1 == a) = true := List.any_eq_true.2 ⟨p, hp, by simp [e]⟩
    rw [h2] at h1; cases h1
  · rcases List.mem_append.1 hp with hp | hp
    · exact h.wf p hp
    · simp only [List.mem_singleton] at hp
      subst hp
      exact ⟨ha, hb⟩

theorem ownsMap_below {P : Program} {K : TypeId} {R : Value → Option (DataW Unit × List MemPlace)} {w w' : World} {b n : Nat} {D : DataW Unit} (h : w.ownsMap P K R b n D) (hB : Below w.heap.size w w') (hb : b < w.heap.size) : w'.ownsMap P K R b n D := by
  obtain ⟨es, cl, h1, h2⟩ := h
  exact ⟨es, cl, (hB.block _ hb).trans h1, h2⟩

/-- What follows on v in a triple: none: v comes more than once. -/
def hit (v a b c : Int) : Option (Option (Int × Int)) :=
  if a = v then (if b = v ∨ c = v then none else some (some (b, c))) else if b = v then (if c = v then none else some (some (c, a))) else if c = v then some (some (a, b)) else some none
def ringF (v : Int) (A B C : Nat → Int) : Nat → Nat → List (Int × Int) → Option (List (Int × Int))
  | 0, _, L => some L
  | f + 1, k, L => match hit v (A k) (B k) (C k) with
    | none => none
    | some none => ringF v A B C f (k + 1) L
    | some (some p) => if L.any (fun q => q.1 == p.1) then none else ringF v A B C f (k + 1) (L ++ [p])
section
variable {v : Int} {A B C : Nat → Int} {n k : Nat} {L : List (Int × Int)} {r : Option (List (Int × Int))}
theorem Below.map_kept {w w' : World} {B b : Nat} {es : Array MapEntry} {cl : Nat} (h : Below B w w') (hb : b < B) (he : w.heap[b]? = some (.map es cl)) : w'.heap[b]? = some (.map es cl) := (h.block _ hb).trans he
theorem ring_end (hk : n ≤ k) (h : ringF v A B C (n - k) k L = r) : r = some L := by
  rw [show n - k = 0 by omega] at h; exact h.symm
theorem ring_many (hk : k < n) (hh : hit v (A k) (B k) (C k) = none) (h : ringF v A B C (n - k) k L = r) : r = none := by
  rw [show n - k = (n - (k + 1)) + 1 by omega, ringF, hh] at h; exact h.symm
theorem ring_zero (hk : k < n) (hh : hit v (A k) (B k) (C k) = some none) (h : ringF v A B C (n - k) k L = r) : ringF v A B C (n - (k + 1)) (k + 1) L = r := by
  rw [show n - k = (n - (k + 1)) + 1 by omega, ringF, hh] at h; exact h
theorem ring_twice (hk : k < n) {p : Int × Int} (hh : hit v (A k) (B k) (C k) = some (some p)) (ht : L.any (fun q => q.1 == p.1) = true) (h : ringF v A B C (n - k) k L = r) : r = none := by
  rw [show n - k = (n - (k + 1)) + 1 by omega, ringF, hh] at h
  simp only [ht, if_true] at h
  exact h.symm
theorem ring_one (hk : k < n) {p : Int × Int} (hh : hit v (A k) (B k) (C k) = some (some p)) (ht : L.any (fun q => q.1 == p.1) = false) (h : ringF v A B C (n - k) k L = r) : ringF v A B C (n - (k + 1)) (k + 1) (L ++ [p]) = r := by
  rw [show n - k = (n - (k + 1)) + 1 by omega, ringF, hh] at h
  simpa [ht] using h
end

def W3 (t : Int × Int × Int) : Prop := Wf t.1 ∧ Wf t.2.1 ∧ Wf t.2.2
set_option maxRecDepth 100000 in
set_option maxHeartbeats 8000000 in
theorem cert_ring (pa : Option Addr) (n cp : Nat) (v : Int) (A B C : Nat → Int) (r : Option (List (Int × Int))) (hn : n < 1048576) (hv : Hid (Wf v)) (hwf : Hid (∀ k, k < n → Wf (A k) ∧ Wf (B k) ∧ Wf (C k))) (hr : Hid (ringF v A B C (n - 0) 0 [] = r))
    (w : World) (hp : Hid (PtsO w pa n A B C)) :
    Calls Try.prog 30 #[.slice pa n cp, .int .i64 v] w fun e w' => Below w.heap.size w w' ∧
      ((r = none ∧ e = .returned (.tuple #[.map none, .bool false])) ∨ (∃ L D, r = some L ∧ MapIs D L ∧ L.length ≤ n ∧ w'.ownsMap Try.prog 3 (plainElem Try.prog 3) w.heap.size n D ∧ e = .returned (.tuple #[.map (some w.heap.size), .bool (decide (0 < L.length))]))) := by
  have hmm := @run_makeMap Try.prog
  go_enter Try.func30, Try.ntmps30
  go_wp2_with fail
  first | refine wp_named ?_ | refine calls_named ?_
  intro W hW
  clear hmm
  have hown : W.ownsMap Try.prog 3 (plainElem (H := Unit) Try.prog 3) w.heap.size 0 (.map []) := by rw [hW]; exact World.ownsMap_made _ _ _ _
  have hB : Below w.heap.size w W := by rw [hW]; go_grown
  have hz : w.heap.size < W.heap.size := by rw [hW]; simp
  clear hW
  go_loopw [20] (fun u wr => ∃ (k : Nat) (L : List (Int × Int)) (D : DataW Unit), k ≤ n ∧ u = .int .i64 k ∧ Hid (ringF v A B C (n - k) k L = r) ∧ Hid (MapIs D L) ∧ Hid (L.length ≤ k) ∧ Hid (wr.ownsMap Try.prog 3 (plainElem Try.prog 3) w.heap.size k D) ∧ Below w.heap.size w wr ∧ w.heap.size < wr.heap.size)
    (fun u _ => n - (intOf u).toNat)
  case atStart => exact ⟨0, [], .map [], Nat.zero_le _, rfl, hr, mapIs_nil, Nat.le_refl _, hown, hB, hz⟩
  case round =>
    clear hown hB hr hz
    obtain ⟨k, L, D, hk, rfl, HF, HM, HL, hown, hB, hz⟩ := hrel
    by_cases hlt : k < n
    case neg =>
      go_wp2_with (first | (at_len; refine wpList_len_own _ rfl _ 60 rfl 3 3 uMap _ w.heap.size k D rfl hown.out ?_) | fail)
      go_returns
      have hs := HM.out.size
      refine ⟨hB, .inr ⟨L, D, ring_end (by omega) HF.out, HM.out, Nat.le_trans HL.out hk, hown.out.mono hk, ?_⟩⟩
      rw [← hs]
      rfl
    obtain ⟨b, off, rfl, hq⟩ := hp.out.at hlt
    have hbw := hq.1
    have hpr := hq.mono hB hbw
    clear hq
    obtain ⟨g1, g2, g3⟩ := hpr.2 k hlt
    clear hpr
    obtain ⟨w1, w2, w3⟩ := hwf.out k hlt
    have W1 := Lib.hid w1; have W2 := Lib.hid w2; have W3' := Lib.hid w3
    clear w1 w2 w3
    obtain ⟨a, ha⟩ : ∃ a, a = A k := ⟨_, rfl⟩
    obtain ⟨b1, hb1⟩ : ∃ b1, b1 = B k := ⟨_, rfl⟩
    obtain ⟨c, hc1⟩ : ∃ c, c = C k := ⟨_, rfl⟩
    rw [← ha] at g1 W1; rw [← hb1] at g2 W2; rw [← hc1] at g3 W3'
    have EA := Lib.hid ha; have EB := Lib.hid hb1; have EC := Lib.hid hc1
    clear ha hb1 hc1
    have x0 : ∀ (a b1 c : Int) w, (Instr.index 45 (.agg #[.int .i64 a, .int .i64 b1, .int .i64 c]) (.int .i64 0)).run Try.prog w = .ok (.int .i64 a) w := fun _ _ _ _ => by kernel_rfl
    have x1 : ∀ (a b1 c : Int) w, (Instr.index 45 (.agg #[.int .i64 a, .int .i64 b1, .int .i64 c]) (.int .i64 1)).run Try.prog w = .ok (.int .i64 b1) w := fun _ _ _ _ => by kernel_rfl
    have x2 : ∀ (a b1 c : Int) w, (Instr.index 45 (.agg #[.int .i64 a, .int .i64 b1, .int .i64 c]) (.int .i64 2)).run Try.prog w = .ok (.int .i64 c) w := fun _ _ _ _ => by kernel_rfl
    by_cases ea : a = v <;> by_cases eb : b1 = v <;> by_cases ec : c = v
    all_goals (go_wp2_with fail; refine wp_loop_rounds 4 ?_; rw [rounds_succ]; go_wp2_with fail; rw [rounds_succ]; go_wp2_with fail; rw [rounds_succ]; go_wp2_with fail; rw [rounds_succ]; go_wp2_with fail)
    case roundEnd =>
      have hsz := hB.size
      have hh : hit v (A k) (B k) (C k) = some Option.none := by rw [← EA.out, ← EB.out, ← EC.out]; simp [hit, ea, eb, ec]
      refine ⟨⟨k + 1, L, D, by omega, by go_num, ring_zero hlt hh HF.out, HM, Nat.le_succ_of_le HL.out, (hown.out.kept (World.grownBy_alloc _ _ Option.none) (by simp)).mono (Nat.le_succ k), by go_grown, by simp; omega⟩, ?_⟩
      simp [intOf]; omega
    all_goals (
      first | refine wp_named ?_ | refine calls_named ?_
      intro W hW
      have k1 : W.heap[wr.heap.size]? = some (.cells #[.int .i64 a, .int .i64 b1, .int .i64 c] 45 (0, 0)) := by rw [hW]; refine (heap_at rfl).trans ?_; simp [ea, eb, ec]
      have z1 : wr.heap.size < W.heap.size := by rw [hW]; simp
      have hgr : wr.grownBy W Option.none := by rw [hW]; exact World.grownBy_alloc _ _ _
      replace hown := Lib.hid (hown.out.kept hgr (by simp))
      replace hB : Below w.heap.size w W := by rw [hW]; have := hB.size; go_grown
      replace hz : w.heap.size < W.heap.size := by omega
      clear hgr hW x0 x1 x2 g1 g2 g3
      obtain ⟨kq, kr⟩ := cellB k1
      have y1 : IntKind.i64.wrap 1 = 1 := by decide
      have y2 : IntKind.i64.wrap 2 = 2 := by decide
      have y3 : IntKind.i64.wrap 3 = 3 := by decide
      have y4 : IntKind.i64.wrap 4 = 4 := by decide
      have y0 : IntKind.i64.wrap 0 = 0 := by decide
      have u1 : Int.tmod 1 3 = 1 := by decide
      have u2 : Int.tmod 2 3 = 2 := by decide
      have u3 : Int.tmod 3 3 = 0 := by decide
      have u4' : Int.tmod 4 3 = 1 := by decide
      refine wp_calm0 12 (by kernel_rfl) (by kernel_rfl) ?_
      intro K hK
      repeat (refine wpCalm_step (fun M hM => ?_); go_simp; first | (refine hM _ ?_; clear hM M) | (apply Exists.intro; refine ⟨fun wc hw => ?_, hM _ ?_⟩; (obtain ⟨hc, hf⟩ := bcell (hK wc hw); go_simp; first | exact rfl); clear hM M))
      refine wpCalm_nil ?_
      clear hK K kq kr y0 y1 y2 y3 y4 u1 u2 u3 u4'
      intro V hX
      replace hown : Hid (V.ownsMap Try.prog 3 (plainElem Try.prog 3) w.heap.size k D) := ownsMap_below hown.out hX hz
      replace hB := after hB hX
      replace hz := Nat.lt_of_lt_of_le hz hX.size
      clear hX k1 z1
      simp only [List.drop_succ_cons, List.drop_zero]
      go_wp2_with (first | (at_lookup; refine wpList_lookup_own_ok_int _ rfl _ _ 60 rfl 3 3 .i64 lawInt uMap uInt (zeroInt _) w.heap.size k D rfl hown.out _ _ rfl (keyOf_int_mk uInt (by first | exact W1.out | exact W2.out | exact W3'.out | exact hv.out)) ?_; intro cc hat hwc) | (at_mapUpdate; refine wpList_mapUpdate_own _ rfl _ _ _ 60 rfl 3 3 lawInt uMap _ w.heap.size k D rfl hown.out (by unfold maxLen; omega) _ _ _ rfl rfl (keyOf_int_mk uInt (by first | exact W1.out | exact W2.out | exact W3'.out | exact hv.out)) _ [] (plainElem_int uInt (by first | exact W1.out | exact W2.out | exact W3'.out | exact hv.out)) ?_; intro w1 hown1 hgrow1) | fail))
    · go_returns
      exact ⟨hB, .inl ⟨ring_many hlt (by rw [← EA.out, ← EB.out, ← EC.out]; simp [hit, ea, eb, ec]) HF.out, rfl⟩⟩
    · go_returns
      exact ⟨hB, .inl ⟨ring_many hlt (by rw [← EA.out, ← EB.out, ← EC.out]; simp [hit, ea, eb, ec]) HF.out, rfl⟩⟩
    · go_returns
      exact ⟨hB, .inl ⟨ring_many hlt (by rw [← EA.out, ← EB.out, ← EC.out]; simp [hit, ea, eb, ec]) HF.out, rfl⟩⟩
    · go_returns
      exact ⟨hB, .inl ⟨ring_many hlt (by rw [← EA.out, ← EB.out, ← EC.out]; simp [hit, ea, eb, ec]) HF.out, rfl⟩⟩
    · go_returns
      exact ⟨hB, .inl ⟨ring_many hlt (by rw [← EA.out, ← EB.out, ← EC.out]; simp [hit, ea, eb, ec]) HF.out, rfl⟩⟩
    · go_returns
      exact ⟨hB, .inl ⟨ring_many hlt (by rw [← EA.out, ← EB.out, ← EC.out]; simp [hit, ea, eb, ec]) HF.out, rfl⟩⟩
    · have hh : Maps.has D (.int .i64 b1) = true := by assumption
      go_returns
      exact ⟨hB, .inl ⟨ring_twice (p := (b1, c)) hlt (by rw [← EA.out, ← EB.out, ← EC.out]; simp [hit, ea, eb, ec]) (by rw [← HM.out.has]; exact hh) HF.out, rfl⟩⟩
    · have hh : Maps.has D (.int .i64 b1) = false := (Bool.not_eq_true _).mp (by assumption)
      have hL := HL.out
      refine ⟨⟨k + 1, L ++ [(b1, c)], D.put (.int .i64 b1) (i64v c), by omega, by go_num, ring_one (p := (b1, c)) hlt (by rw [← EA.out, ← EB.out, ← EC.out]; simp [hit, ea, eb, ec]) (by rw [← HM.out.has]; exact hh) HF.out, HM.out.snoc hh W2.out W3'.out, by show (L ++ _).length ≤ _; simp; omega, hown1, hB.grown hgrow1 hB.size (fun j hj => by cases hj; exact Nat.le_refl _), Nat.lt_of_lt_of_le hz hgrow1.size⟩, ?_⟩
      simp [intOf]; omega
    · go_returns
      exact ⟨hB, .inl ⟨ring_many hlt (by rw [← EA.out, ← EB.out, ← EC.out]; simp [hit, ea, eb, ec]) HF.out, rfl⟩⟩
    · go_returns
      exact ⟨hB, .inl ⟨ring_many hlt (by rw [← EA.out, ← EB.out, ← EC.out]; simp [hit, ea, eb, ec]) HF.out, rfl⟩⟩
    · have hh : Maps.has D (.int .i64 c) = true := by assumption
      go_returns
      exact ⟨hB, .inl ⟨ring_twice (p := (c, a)) hlt (by rw [← EA.out, ← EB.out, ← EC.out]; simp [hit, ea, eb, ec]) (by rw [← HM.out.has]; exact hh) HF.out, rfl⟩⟩
    · have hh : Maps.has D (.int .i64 c) = false := (Bool.not_eq_true _).mp (by assumption)
      have hL := HL.out
      refine ⟨⟨k + 1, L ++ [(c, a)], D.put (.int .i64 c) (i64v a), by omega, by go_num, ring_one (p := (c, a)) hlt (by rw [← EA.out, ← EB.out, ← EC.out]; simp [hit, ea, eb, ec]) (by rw [← HM.out.has]; exact hh) HF.out, HM.out.snoc hh W3'.out W1.out, by show (L ++ _).length ≤ _; simp; omega, hown1, hB.grown hgrow1 hB.size (fun j hj => by cases hj; exact Nat.le_refl _), Nat.lt_of_lt_of_le hz hgrow1.size⟩, ?_⟩
      simp [intOf]; omega
    · have hh : Maps.has D (.int .i64 a) = true := by assumption
      go_returns
      exact ⟨hB, .inl ⟨ring_twice (p := (a, b1)) hlt (by rw [← EA.out, ← EB.out, ← EC.out]; simp [hit, ea, eb, ec]) (by rw [← HM.out.has]; exact hh) HF.out, rfl⟩⟩
    · have hh : Maps.has D (.int .i64 a) = false := (Bool.not_eq_true _).mp (by assumption)
      have hL := HL.out
      refine ⟨⟨k + 1, L ++ [(a, b1)], D.put (.int .i64 a) (i64v b1), by omega, by go_num, ring_one (p := (a, b1)) hlt (by rw [← EA.out, ← EB.out, ← EC.out]; simp [hit, ea, eb, ec]) (by rw [← HM.out.has]; exact hh) HF.out, HM.out.snoc hh W1.out W2.out, by show (L ++ _).length ≤ _; simp; omega, hown1, hB.grown hgrow1 hB.size (fun j hj => by cases hj; exact Nat.le_refl _), Nat.lt_of_lt_of_le hz hgrow1.size⟩, ?_⟩
      simp [intOf]; omega
end Go.Proofs.Ytdglijdiiggdgaa
