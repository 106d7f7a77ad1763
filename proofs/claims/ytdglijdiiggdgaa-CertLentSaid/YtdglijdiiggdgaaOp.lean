import Derived.Test.YtdglijdiiggdgaaLAr
import Derived.ProofKit
import Derived.Deep.Slices
import Derived.Deep.Strs
import Derived.Laws.IdiomArrays
namespace Go.Proofs.Ytdglijdiiggdgaa
open Go.ChangeShapes Go.WideShapes Go.RowKit Go.Deep

section
variable {H : Type} {enc : TypeId × Value → H} {W : World} {sp : Nat → Bool} {fuel base : Nat}
theorem cellsTri : Try.prog.cellsOf 45 = 3 := by kernel_rfl
theorem cellsInt : Try.prog.cellsOf 3 = 1 := by kernel_rfl
theorem uTris : Try.prog.underlying 23 = some (.slice 45) := by kernel_rfl
theorem own0 : ownKnob Try.prog.godebug = none := by kernel_rfl
theorem laid0 : laidOutB Try.prog = true := by kernel_rfl
set_option maxRecDepth 100000 in
theorem spot_of {e : TypeId} {b off : Nat} {s} {len cap : Nat} {t : TypeId} (ht : Try.prog.underlying t = some (.slice e)) (hv : Value.okWide Try.prog W .any base t (.slice (some ⟨b, off, s⟩) len cap)) : s = none ∧ b < W.heap.size := by
  simp only [Value.okWide, ht, Cell.okWide, Cell.ok, World.has] at hv
  obtain ⟨_, _, _, h1, row, cells, h2, _⟩ := hv
  refine ⟨h1, ?_⟩
  unfold World.shape? at h2
  by_cases hb : b < W.heap.size
  · exact hb
  · rw [Array.getElem?_eq_none (by simpa using hb)] at h2
    cases h2
set_option maxRecDepth 100000 in
theorem pts_of_trod {t e : TypeId} (ht : Try.prog.underlying t = some (.slice e)) (hc : Try.prog.cellsOf e = 3)
    (he : ∀ (n : Nat) (cs : List Value) (y : DataW H × List MemPlace), cs.length = 3 → DataW.trod enc Try.prog W 0 sp true n e cs = some y → ∃ a b c : Int, cs = [.int .i64 a, .int .i64 b, .int .i64 c] ∧ Wf a ∧ Wf b ∧ Wf c)
    {pa : Option Addr} {len cap : Nat} {x : DataW H × List MemPlace} (hv : Value.okWide Try.prog W .any base t (.slice pa len cap)) (h : DataW.trod enc Try.prog W 0 sp true fuel t [.slice pa len cap] = some x) :
    len ≤ maxLen ∧ ∃ A B C : Nat → Int, PtsO W pa len A B C ∧ ∀ k, k < len → Wf (A k) ∧ Wf (B k) ∧ Wf (C k) := by
  rcases open_slice ht h with ⟨h0, _⟩ | ⟨a, len', cap', m, n, D, Pl, h1, hb, hl, hm, hmm, rfl, hx⟩
  · simp at h0
    obtain ⟨rfl, rfl, rfl⟩ := h0
    exact ⟨Nat.zero_le _, fun _ => 0, fun _ => 0, fun _ => 0, .inl ⟨rfl, rfl⟩, fun k hk => absurd hk (Nat.not_lt_zero k)⟩
  simp at h1
  obtain ⟨rfl, rfl, rfl⟩ := h1
  obtain ⟨b, off, s⟩ := a
  obtain ⟨rfl, hbs⟩ := spot_of ht hv
  have hlm : len ≤ m := by rw [hmm]; split <;> omega
  have each : ∀ i, i < m → ∃ q : Int × Int × Int, W.cell? ⟨b, off + i * 3, none⟩ = some (.int .i64 q.1) ∧ W.cell? ⟨b, off + i * 3 + 1, none⟩ = some (.int .i64 q.2.1) ∧ W.cell? ⟨b, off + i * 3 + 2, none⟩ = some (.int .i64 q.2.2) ∧ Wf q.1 ∧ Wf q.2.1 ∧ Wf q.2.2 := by
    intro i hi
    obtain ⟨cs', h1, h2⟩ := hx i hi
    rw [hc] at h1
    obtain ⟨_, hlen, hcell⟩ := World.cells?_some h1
    obtain ⟨a, b', c, rfl, w1, w2, w3⟩ := he _ _ _ hlen h2
    have c0 := hcell 0 (by omega)
    have c1 := hcell 1 (by omega)
    have c2 := hcell 2 (by omega)
    rw [add_add] at c0 c1 c2
    simp only [add_plain] at c0 c1 c2
    exact ⟨(a, b', c), by simpa using c0, by simpa [Nat.add_assoc] using c1, by simpa [Nat.add_assoc] using c2, w1, w2, w3⟩
  obtain ⟨q, hq⟩ := choose_lt each
  exact ⟨Nat.le_trans hl hm, fun k => (q k).1, fun k => (q k).2.1, fun k => (q k).2.2, .inr ⟨b, off, rfl, hbs, fun i hi => ⟨(hq i (by omega)).1, (hq i (by omega)).2.1, (hq i (by omega)).2.2.1⟩⟩, fun k hk => (hq k (by omega)).2.2.2⟩
theorem tri_of_trod (n : Nat) (cs : List Value) (y : DataW H × List MemPlace) (hl : cs.length = 3) (h : DataW.trod enc Try.prog W 0 sp true n 45 cs = some y) : ∃ a b c : Int, cs = [.int .i64 a, .int .i64 b, .int .i64 c] ∧ Wf a ∧ Wf b ∧ Wf c := by
  match cs, hl with
  | [v0, v1, v2], _ =>
    obtain ⟨y0, y1, y2, k, _, u0, u1, u2⟩ := trod_array3 uTri cellsInt h
    obtain ⟨a, e0, _, w0⟩ := DataW.trod_int uInt u0
    obtain ⟨b, e1, _, w1⟩ := DataW.trod_int uInt u1
    obtain ⟨c, e2, _, w2⟩ := DataW.trod_int uInt u2
    simp only [List.cons.injEq, and_true] at e0 e1 e2
    subst e0; subst e1; subst e2
    exact ⟨a, b, c, rfl, w0, w1, w2⟩
end
/-- The last step of a row: behind a call that leaves all that was there alone and hands back values alone. -/
theorem post_below {H : Type} {enc : TypeId × Value → H} {P : Program} {f : Func} {s : ChangeSpec} {apart fresh handsOn again : Bool} {W W' : World} {args : Array Value} {v : Value} {ds gs : List (DataW H)} {before : List MemPlace}
    (whole : DataW.Whole enc P f.params.toList s.vars apart W args.toList ds gs before) (hB : Below W.heap.size W W')
    (told : ∀ (b : Nat) (sp : Nat → Bool) (hd : Bool), DataW.TrodAll enc P W' b sp hd f.resultTypes.toList (v.resultList f.resultTypes.size) (s.fn H (ds ++ gs)).results [])
    (given : ∀ sp : Nat → Bool, (∀ p ∈ before, sp p.block = true) → DataW.TrodAll enc P W' 0 sp true f.params.toList args.toList (s.fn H (ds ++ gs)).args before)
    (vars : ∀ sp : Nat → Bool, DataW.TrodVars enc P W' sp s.vars (s.fn H (ds ++ gs)).vars [])
    (outer : ∀ (j : Nat) (t : TypeId) (r : Value), f.resultTypes[j]? = some t → (v.resultList f.resultTypes.size)[j]? = some r → Value.okWide P W' .any 0 t r) :
    s.post enc P f apart fresh handsOn again W args v W' := by
  have old : ∀ p ∈ before, p.block < W.heap.size := fun p hp => by simpa using whole.lt p hp
  have lay : ∀ sp : Nat → Bool, (∀ p ∈ before, sp p.block = true) → DataW.TrodAll enc P W' 0 sp true (f.resultTypes.toList ++ f.params.toList) (v.resultList f.resultTypes.size ++ args.toList) ((s.fn H (ds ++ gs)).results ++ (s.fn H (ds ++ gs)).args) before := fun sp hs => trodAll_append (given sp hs) (told 0 sp true)
  obtain ⟨_, _, _, _, _, still, nodup⟩ := id whole
  refine ⟨ds, gs, before, [], before, [], whole, told _ _ _, given _ (fun p hp => by simpa using old p hp), vars _, World.keptBut_mono (fun p hp => ⟨hp, .inr (by simpa using hp)⟩) (hB.frame (· ∈ before)), fun _ => ⟨outer, _, _, before, ⟨before, [], lay _ (fun _ _ => rfl), vars _, by simp, fun b off hp => ?_, nodup⟩, fun p hp _ => by simpa using hp⟩⟩
  rw [hB.frozen (p := ⟨b, off, none⟩) (old _ hp)]
  exact still b off hp
end Go.Proofs.Ytdglijdiiggdgaa
