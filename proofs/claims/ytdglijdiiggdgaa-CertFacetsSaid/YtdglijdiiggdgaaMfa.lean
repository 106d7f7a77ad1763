import Derived.Test.YtdglijdiiggdgaaRows
import Derived.WalkKit
import Derived.StillTail
import Derived.Below
import Derived.WalkSpells
import Derived.WalkLawsBesides
import Derived.Handy
import Derived.Lib.Hide
import Derived.Shelf.Spec.BitsCarry
import Derived.Shelf.Bits.Mul64
import Ieee.Arith
import Derived.Laws.FloatArith
/- Numbers of 128 bits as two words; plain laws, no walk. -/
namespace Go.Proofs.Ytdglijdiiggdgaa
open Go.RowKit

def lo (n : Int) : Int := n % 18446744073709551616
def uh (n : Int) : Int := n / 18446744073709551616 % 18446744073709551616
def hi (n : Int) : Int := (n / 18446744073709551616 + 9223372036854775808) % 18446744073709551616 - 9223372036854775808

theorem lo_0 (n : Int) : 0 ≤ lo n := by unfold lo; omega
theorem lo_1 (n : Int) : lo n ≤ 18446744073709551615 := by unfold lo; omega
theorem uh_0 (n : Int) : 0 ≤ uh n := by unfold uh; omega
theorem uh_1 (n : Int) : uh n ≤ 18446744073709551615 := by unfold uh; omega
theorem hi_0 (n : Int) : -9223372036854775808 ≤ hi n := by unfold hi; omega
theorem hi_1 (n : Int) : hi n ≤ 9223372036854775807 := by unfold hi; omega
theorem uh_hi (n : Int) : IntKind.u64.wrap (hi n) = uh n := by unfold uh hi; rw [IntKind.wrap_u64]; omega
theorem hi_uh (n : Int) : IntKind.i64.wrap (uh n) = hi n := by unfold uh hi; rw [IntKind.wrap_i64]; omega
theorem lo_add (a b : Int) : (lo a + lo b) % 18446744073709551616 = lo (a + b) := by unfold lo; omega
theorem uh_add (a b : Int) : (uh a + uh b + (lo a + lo b) / 18446744073709551616) % 18446744073709551616 = uh (a + b) := by unfold lo uh; omega
theorem lo_sub (a b : Int) : (lo a - lo b) % 18446744073709551616 = lo (a - b) := by unfold lo; omega
/-- The borrow. -/
def bor (x y : Int) : Int := if x < y then 1 else 0
theorem bor_0 (x y : Int) : 0 ≤ bor x y := by unfold bor; split <;> decide
theorem bor_1 (x y : Int) : bor x y ≤ 1 := by unfold bor; split <;> decide
theorem uh_sub (a b : Int) : (uh a - uh b - bor (lo a) (lo b)) % 18446744073709551616 = uh (a - b) := by unfold lo uh bor; split <;> omega
theorem lo_small {n : Int} (h : 0 ≤ n) (h' : n ≤ 18446744073709551615) : lo n = n := by unfold lo; omega
theorem hi_zero : hi 0 = 0 := rfl
theorem lo_zero : lo 0 = 0 := rfl
theorem uh_zero : uh 0 = 0 := rfl
theorem lo_mul (a b : Int) : lo a * lo b % 18446744073709551616 = lo (a * b) := by unfold lo; rw [← Int.mul_emod]
theorem mod_cancel {x y z m : Int} (h : x = y + m * z) : x % m = y % m := by rw [h, Int.add_mul_emod_self_left]
theorem uh_mul (a b : Int) : (lo a * lo b / 18446744073709551616 + (uh a * lo b + lo a * uh b)) % 18446744073709551616 = uh (a * b) := by
  have ea : a = a / 18446744073709551616 * 18446744073709551616 + lo a := by unfold lo; omega
  have eb : b = b / 18446744073709551616 * 18446744073709551616 + lo b := by unfold lo; omega
  have eu : uh a = a / 18446744073709551616 % 18446744073709551616 := rfl
  have ev : uh b = b / 18446744073709551616 % 18446744073709551616 := rfl
  generalize lo a = x at *
  generalize lo b = y at *
  generalize a / 18446744073709551616 = p at *
  generalize b / 18446744073709551616 = q at *
  have eq1 : uh a = p - 18446744073709551616 * (p / 18446744073709551616) := by rw [eu]; omega
  have eq2 : uh b = q - 18446744073709551616 * (q / 18446744073709551616) := by rw [ev]; omega
  generalize p / 18446744073709551616 = p' at *
  generalize q / 18446744073709551616 = q' at *
  unfold uh at *
  have ed : a * b / 18446744073709551616 = x * y / 18446744073709551616 + (p * y + x * q + p * q * 18446744073709551616) := by
    rw [ea, eb, show (p * 18446744073709551616 + x) * (q * 18446744073709551616 + y) = x * y + 18446744073709551616 * (p * y + x * q + p * q * 18446744073709551616) by grind,
      Int.add_mul_ediv_left _ _ (by decide)]
  rw [ed, eq1, eq2]
  generalize x * y / 18446744073709551616 = k
  exact mod_cancel (z := - (p' * y) - x * q' - p * q) (by grind)

/-- The range in which a number is its own two words. -/
def In128 (n : Int) : Prop := -170141183460469231731687303715884105728 ≤ n ∧ n < 170141183460469231731687303715884105728
theorem words_of {n : Int} (h : In128 n) : n = hi n * 18446744073709551616 + lo n := by unfold In128 at h; unfold hi lo; omega
end Go.Proofs.Ytdglijdiiggdgaa
/- A region that draws its order, whose operations read, reckon and call functions that leave all that was there alone, then some new variables, then a tail in one order: one walk in the order of the text serves every order. -/
namespace Go.Proofs.Ytdglijdiiggdgaa
open Go.RowKit
section
variable {P : Program} {ops : Array Oper} {w : World}

/-- What is asked of an operation in a world: the value v there and then; or a call that hands back v and leaves alone what was there. -/
def calmUpon (P : Program) (w : World) (v : Value) : Result Next → Prop
  | .ok (.value u) w' => w' = w ∧ u = v
  | .ok .skip w' => w' = w ∧ v = undef
  | .ok (.enter f args) w' => w' = w ∧ Calls P f args w (fun e w'' => e = .returned v ∧ Below w.heap.size w w'')
  | _ => False
def calmAt (P : Program) (o : Oper) (a : Act) (w : World) (v : Value) : Prop := calmUpon P w v ((execOp a.eval o).run P w)
/-- One value, in every world of the class. -/
def calm (P : Program) (o : Oper) (a : Act) (C : World → Prop) (next : Act → Prop) : Prop := ∃ v, (∀ w, C w → calmAt P o a w v) ∧ next (a.put o.dst v)
def wpCalm (P : Program) (ops : Array Oper) (C : World → Prop) (Q : Act → Prop) : List Oper → Act → Prop
  | [], a => Q a
  | o :: rest, a => if Region.wanted o (yielded ops a.tmps) then calm P o a C (wpCalm P ops C Q rest) else wpCalm P ops C Q rest (a.put o.dst undef)
theorem wpCalm_nil {C : World → Prop} {Q : Act → Prop} {a : Act} (h : Q a) : wpCalm P ops C Q [] a := h
theorem wpCalm_step {C : World → Prop} {Q : Act → Prop} {a : Act} {o : Oper} {rest : List Oper}
    (h : ∀ K : Act → Prop, (∀ a, wpCalm P ops C Q rest a → K a) → if Region.wanted o (yielded ops a.tmps) then calm P o a C K else K (a.put o.dst undef)) : wpCalm P ops C Q (o :: rest) a :=
  h _ (fun _ h => h)

/-- It yields v in the state a: wanted, and calm; or not wanted, and v is nothing. -/
def CYields (P : Program) (ops : Array Oper) (C : World → Prop) (o : Oper) (v : Value) (a : Act) : Prop :=
  (Region.wanted o (yielded ops a.tmps) = true ∧ ∀ w, C w → calmAt P o a w v) ∨ (Region.wanted o (yielded ops a.tmps) = false ∧ v = undef)

/-- The frame behind the first operations. -/
def frameOf : List Oper → List Value → Act → Act
  | o :: l, v :: vs, a => frameOf l vs (a.put o.dst v)
  | _, _, a => a

theorem calm_values {C : World → Prop} {Q : Act → Prop} : ∀ (l : List Oper) (a : Act), wpCalm P ops C Q l a →
    ∃ vs : List Value, vs.length = l.length ∧ (∀ j (hj : j < l.length) v, vs[j]? = some v → CYields P ops C l[j] v (frameOf (l.take j) (vs.take j) a)) ∧ Q (frameOf l vs a)
  | [], a, h => ⟨[], rfl, fun j hj => absurd hj (Nat.not_lt_zero j), h⟩
  | o :: l, a, h => by
    unfold wpCalm at h
    have go : ∀ v, CYields P ops C o v a → wpCalm P ops C Q l (a.put o.dst v) → ∃ vs : List Value, vs.length = (o :: l).length ∧
        (∀ j (hj : j < (o :: l).length) u, vs[j]? = some u → CYields P ops C (o :: l)[j] u (frameOf ((o :: l).take j) (vs.take j) a)) ∧ Q (frameOf (o :: l) vs a) := by
      intro v hy hr
      obtain ⟨vs, h1, h2, h3⟩ := calm_values l _ hr
      refine ⟨v :: vs, by simp [h1], fun j hj u hu => ?_, h3⟩
      cases j with
      | zero =>
        simp only [List.getElem?_cons_zero, Option.some.injEq] at hu
        subst hu
        exact hy
      | succ j =>
        simp only [List.getElem?_cons_succ] at hu
        exact h2 j (by simpa using hj) u hu
    split at h
    · rename_i hw
      obtain ⟨v, hv, hr⟩ := h
      exact go v (.inl ⟨hw, hv⟩) hr
    · rename_i hw
      exact go undef (.inr ⟨by simpa using hw, rfl⟩) h

def dstOf (ops : Array Oper) (i : Nat) : Option Tmp := (ops[i]?).bind (·.dst)

/-- A frame in which just the operations that are listed have been carried out. -/
structure Fr (ops : Array Oper) (N : Nat) (vals : Nat → Value) (L : Nat → Bool) (a0 a : Act) : Prop where
  defers : a.defers = a0.defers
  size : a.tmps.size = a0.tmps.size
  done : ∀ i d, i < N → L i = true → dstOf ops i = some d → d < a0.tmps.size → a.tmps.getD d undef = vals i
  rest : ∀ d, (∀ i, i < N → L i = true → dstOf ops i ≠ some d) → a.tmps.getD d undef = a0.tmps.getD d undef

theorem getD_set_self {xs : Array Value} {d : Nat} {v u : Value} (h : d < xs.size) : (xs.setIfInBounds d v).getD d u = v := by
  simp [h]
theorem getD_set_other {xs : Array Value} {d e : Nat} {v u : Value} (h : d ≠ e) : (xs.setIfInBounds d v).getD e u = xs.getD e u := by
  simp [Array.getElem?_setIfInBounds_ne h]

theorem Fr.put {N : Nat} {vals : Nat → Value} {L L' : Nat → Bool} {a0 a : Act} (h : Fr ops N vals L a0 a) {i : Nat} (_hi : i < N)
    (hsingle : ∀ j, j < N → j ≠ i → ∀ d, dstOf ops i = some d → dstOf ops j ≠ some d) (hL : ∀ j, L' j = true ↔ L j = true ∨ j = i) :
    Fr ops N vals L' a0 (a.put (dstOf ops i) (vals i)) := by
  cases hd : dstOf ops i with
  | none =>
    refine ⟨h.defers, h.size, fun j d hj hl hjd hds => ?_, fun d hn => h.rest d (fun j hj hl => hn j hj ((hL j).2 (.inl hl)))⟩
    rcases (hL j).1 hl with hl | rfl
    · exact h.done j d hj hl hjd hds
    · rw [hd] at hjd; cases hjd
  | some e =>
    refine ⟨h.defers, by simpa [Act.put] using h.size, fun j d hj hl hjd hds => ?_, fun d hn => ?_⟩
    · by_cases hji : j = i
      · subst hji
        rw [hd] at hjd
        injection hjd with hjd
        subst hjd
        exact getD_set_self (by rw [h.size]; exact hds)
      · have hne : e ≠ d := fun e' => hsingle j hj hji e hd (by rw [hjd, e'])
        show (a.tmps.setIfInBounds e (vals i)).getD d undef = vals j
        rw [getD_set_other hne]
        rcases (hL j).1 hl with hl | rfl
        · exact h.done j d hj hl hjd hds
        · exact absurd rfl hji
    · have hne : e ≠ d := fun e' => hn i _hi ((hL i).2 (.inr rfl)) (by rw [hd, e'])
      show (a.tmps.setIfInBounds e (vals i)).getD d undef = _
      rw [getD_set_other hne]
      exact h.rest d (fun j hj hl => hn j hj ((hL j).2 (.inl hl)))

theorem Fr.congr {N : Nat} {vals vals' : Nat → Value} {L : Nat → Bool} {a0 a : Act} (h : Fr ops N vals L a0 a) (hv : ∀ i, i < N → L i = true → vals i = vals' i) : Fr ops N vals' L a0 a :=
  ⟨h.defers, h.size, fun i d hi hl hd hs => (h.done i d hi hl hd hs).trans (hv i hi hl), h.rest⟩

theorem Fr.unique {N : Nat} {vals : Nat → Value} {L : Nat → Bool} {a0 a a' : Act} (h : Fr ops N vals L a0 a) (h' : Fr ops N vals L a0 a') : a = a' := by
  have hd : a.defers = a'.defers := h.defers.trans h'.defers.symm
  have ht : a.tmps = a'.tmps := by
    apply Array.ext (h.size.trans h'.size.symm)
    intro d h1 h2
    have e1 : a.tmps.getD d undef = a.tmps[d] := by simp [h1]
    have e2 : a'.tmps.getD d undef = a'.tmps[d] := by simp [h2]
    rw [← e1, ← e2]
    by_cases hex : ∃ i, i < N ∧ L i = true ∧ dstOf ops i = some d
    · obtain ⟨i, hi, hl, hid⟩ := hex
      rw [h.done i d hi hl hid (by rw [← h.size]; exact h1), h'.done i d hi hl hid (by rw [← h.size]; exact h1)]
    · have hn : ∀ i, i < N → L i = true → dstOf ops i ≠ some d := fun i hi hl hid => hex ⟨i, hi, hl, hid⟩
      rw [h.rest d hn, h'.rest d hn]
  cases a; cases a'
  simp only at hd ht
  rw [hd, ht]

/-- Two frames that agree on what an operation looks at. -/
theorem agree_exec {a a' : Act} (o : Oper) (hs : ∀ cs b, o.op ≠ .select cs b) (h : ∀ t ∈ o.looksAt ops, a.tmps.getD t undef = a'.tmps.getD t undef) : execOp a.eval o = execOp a'.eval o :=
  execOp_congr o hs fun x hx => by
    cases x with
    | tmp t => exact h t (List.mem_append_left _ (List.mem_filterMap.2 ⟨.tmp t, by simpa using hx, rfl⟩))
    | _ => rfl
theorem agree_wanted {a a' : Act} (o : Oper) (hz : a.tmps.size = a'.tmps.size) (h : ∀ t ∈ o.looksAt ops, a.tmps.getD t undef = a'.tmps.getD t undef) :
    Region.wanted o (yielded ops a.tmps) = Region.wanted o (yielded ops a'.tmps) := by
  unfold Region.wanted
  cases hg : o.guard with
  | none => rfl
  | some gw =>
    obtain ⟨g, want⟩ := gw
    have hy : yielded ops a.tmps g = yielded ops a'.tmps g := by
      unfold yielded
      cases ht : (ops[g]?).bind (·.dst) with
      | none => rfl
      | some t =>
        have := h t (by simp [Oper.looksAt, hg, ht])
        have hget : a.tmps[t]? = a'.tmps[t]? := by
          rcases Nat.lt_or_ge t a.tmps.size with hlt | hge
          · have hlt' : t < a'.tmps.size := hz ▸ hlt
            simp [hlt, hlt'] at this ⊢
            exact this
          · rw [Array.getElem?_eq_none hge, Array.getElem?_eq_none (by rw [← hz]; exact hge)]
        simp [hget]
    simp only [hy]
theorem CYields.agree {C : World → Prop} {o : Oper} {v : Value} {a a' : Act} (hs : ∀ cs b, o.op ≠ .select cs b) (hz : a.tmps.size = a'.tmps.size)
    (h : ∀ t ∈ o.looksAt ops, a.tmps.getD t undef = a'.tmps.getD t undef) (hy : CYields P ops C o v a) : CYields P ops C o v a' := by
  unfold CYields calmAt at *
  rw [← agree_exec o hs h, ← agree_wanted o hz h]
  exact hy

/-- The order's own look: the head's operations write each a place of its own; what they look at has been written by what they wait for; the tail waits for all, and goes in one order. -/
def calmB (ops : Array Oper) (n m : Nat) : Bool :=
  Region.noSelect ops && decide (n + m ≤ ops.size) && (decide (n + m = ops.size) || (Region.sinkB .any ops (n + m) && Region.chainB .any ops (n + m))) &&
  (List.range (n + m)).all (fun i => match ops[i]? with
    | none => false
    | some o => o.after.all (fun e => !Region.binds .any e || decide (e.on < i)) &&
      (List.range (n + m)).all (fun j => j == i || o.dst.isNone || !(dstOf ops j == o.dst)) &&
      (decide (n ≤ i) || (o.looksAt ops).all (fun t => (List.range (n + m)).all fun j => !(dstOf ops j == some t) || o.after.any (fun e => Region.binds .any e && e.on == j)))) &&
  Region.seqB .any ops (ops.size - (n + m)) (n + m) ((List.range ops.size).map (fun i => decide (i < n + m))).toArray

structure CalmB (ops : Array Oper) (n m : Nat) : Prop where
  sel : Region.noSelect ops = true
  lt : n + m ≤ ops.size
  tail : n + m = ops.size ∨ (Region.sinkB .any ops (n + m) = true ∧ Region.chainB .any ops (n + m) = true)
  op : ∀ i, i < n + m → ∃ o, ops[i]? = some o ∧ (∀ e ∈ o.after, Region.binds .any e = true → e.on < i) ∧
    (∀ j, j < n + m → j ≠ i → ∀ d, dstOf ops i = some d → dstOf ops j ≠ some d) ∧
    (i < n → ∀ t ∈ o.looksAt ops, ∀ j, j < n + m → dstOf ops j = some t → ∃ e ∈ o.after, Region.binds .any e = true ∧ e.on = j)
  seq : Region.seqB .any ops (ops.size - (n + m)) (n + m) ((List.range ops.size).map (fun i => decide (i < n + m))).toArray = true

theorem calmB_spec {n m : Nat} (h : calmB ops n m = true) : CalmB ops n m := by
  simp only [calmB, Bool.and_eq_true, Bool.or_eq_true, decide_eq_true_eq] at h
  obtain ⟨⟨⟨⟨h1, h2⟩, h3⟩, h5⟩, h6⟩ := h
  refine ⟨h1, h2, h3, fun i hi => ?_, h6⟩
  have h7 := List.all_eq_true.1 h5 i (List.mem_range.2 hi)
  split at h7
  · cases h7
  · rename_i o ho
    simp only [Bool.and_eq_true, Bool.or_eq_true, decide_eq_true_eq] at h7
    obtain ⟨⟨h8, h9⟩, h10⟩ := h7
    refine ⟨o, ho, fun e he hb => ?_, fun j hj hji d hd => ?_, fun hin t ht j hj hjt => ?_⟩
    · have := Array.all_eq_true_iff_forall_mem.1 h8 e he
      simp only [hb, Bool.not_true, Bool.false_or, decide_eq_true_eq] at this
      exact this
    · have := List.all_eq_true.1 h9 j (List.mem_range.2 hj)
      have hod : o.dst = some d := by simpa [dstOf, ho] using hd
      simp only [hod, Option.isNone_some, Bool.or_false, Bool.or_eq_true, beq_iff_eq, hji, false_or, Bool.not_eq_true', beq_eq_false_iff_ne] at this
      exact this
    · rcases h10 with h10 | h10
      · omega
      · have h11 := List.all_eq_true.1 (List.all_eq_true.1 h10 t ht) j (List.mem_range.2 hj)
        simp only [hjt, BEq.rfl, Bool.not_true, Bool.false_or] at h11
        obtain ⟨e, he, h12⟩ := Array.any_eq_true'.1 h11
        simp only [Bool.and_eq_true, beq_iff_eq] at h12
        exact ⟨e, he, h12.1, h12.2⟩

/-- What holds while the head is carried out. -/
structure HeadIs (P : Program) (ops : Array Oper) (n m : Nat) (V : Nat → Value) (obj : Nat → Obj) (w0 : World) (a0 : Act) (listed : Array Bool) (a : Act) (w : World) (vals : Nat → Value) : Prop where
  inv : HeadInv .any ops (n + m) listed
  calmV : ∀ i, i < n → vals i = V i
  fr : Fr ops (n + m) vals (fun i => listed.getD i false) a0 a
  below : Below w0.heap.size w0 w
  made : ∀ i, n ≤ i → i < n + m → listed.getD i false = true → ∃ b, vals i = .pointer (some ⟨b, 0, none⟩) ∧ w0.heap.size ≤ b ∧ w.heap[b]? = some (obj i)
  apart : ∀ i j, n ≤ i → i < n + m → n ≤ j → j < n + m → i ≠ j → listed.getD i false = true → listed.getD j false = true → vals i ≠ vals j

theorem listed_set {listed : Array Bool} {i : Nat} (hi : i < listed.size) (j : Nat) : (listed.setIfInBounds i true).getD j false = true ↔ listed.getD j false = true ∨ j = i := by
  by_cases h : i = j
  · subst h; simp [hi]
  · rw [getD_set_ne false h]
    exact ⟨.inl, fun hh => hh.resolve_right (fun e => h e.symm)⟩

theorem wpAny_calm {n m : Nat} {V : Nat → Value} {obj : Nat → Obj} {w0 : World} {a0 : Act} {Q : Exit → Act → World → Prop} (hB : CalmB ops n m)
    (hcalm : ∀ i (_ : i < n) o, ops[i]? = some o → ∃ ai, Fr ops (n + m) V (fun j => decide (j < i)) a0 ai ∧ CYields P ops (fun w => Below w0.heap.size w0 w) o (V i) ai)
    (hmake : ∀ i o, n ≤ i → i < n + m → ops[i]? = some o → o.guard = none ∧ ∀ (a : Act) (w : World), (execOp a.eval o).run P w = .ok (.value (.pointer (some ⟨w.heap.size, 0, none⟩))) (w.alloc (obj i)))
    (hend : ∀ listed a w vals, HeadIs P ops n m V obj w0 a0 listed a w vals → (∀ i, i < n + m → listed.getD i false = true) → wpList P ops Q (ops.toList.drop (n + m)) a w) :
    ∀ (c : Nat) (listed : Array Bool) (a : Act) (w : World) (vals : Nat → Value), HeadIs P ops n m V obj w0 a0 listed a w vals →
      ((List.range (n + m)).filter (fun i => !listed.getD i true)).length = c → wpAny P .any ops Q (c + (ops.size - (n + m))) listed a w := by
  intro c
  induction c with
  | zero =>
    intro listed a w vals H hc
    have hall : ∀ i, i < n + m → listed.getD i true = true := by
      intro i hi
      apply Classical.byContradiction
      intro hne
      have hmem : i ∈ (List.range (n + m)).filter (fun i => !listed.getD i true) := List.mem_filter.2 ⟨List.mem_range.2 hi, by simpa using hne⟩
      rw [List.length_eq_zero_iff.1 hc] at hmem
      cases hmem
    have hall' : ∀ i, i < n + m → listed.getD i false = true := by
      intro i hi
      have h1 := hall i hi
      have hlt : i < listed.size := by rw [H.inv.size]; have := hB.lt; omega
      simp [hlt] at h1 ⊢
      exact h1
    have hlist : listed = ((List.range ops.size).map (fun i => decide (i < n + m))).toArray := by
      apply Array.ext
      · simp [H.inv.size]
      · intro i h1 h2
        have hi : i < ops.size := by rw [← H.inv.size]; exact h1
        simp only [List.getElem_toArray, List.getElem_map, List.getElem_range]
        by_cases hin : i < n + m
        · have := hall i hin
          simp [h1] at this
          simp [this, hin]
        · have := H.inv.tail i (by omega) hi
          simp [h1] at this
          simp [this, hin]
    have hw := hend listed a w vals H hall'
    have hlen : (ops.toList.drop (n + m)).length = ops.size - (n + m) := by simp
    rw [Nat.zero_add, ← hlen]
    refine wpAny_of_seq (ops.toList.drop (n + m)) (n + m) listed a w (fun j => by simp [List.getElem?_drop]) ?_ hw
    rw [hlen, hlist]
    exact hB.seq
  | succ c ih =>
    intro listed a w vals H hc
    rw [show c + 1 + (ops.size - (n + m)) = (c + (ops.size - (n + m))) + 1 by omega]
    -- the first that is not listed yet
    obtain ⟨k, hk, hkl⟩ : ∃ k, k < n + m ∧ listed.getD k true = false := by
      have hne : (List.range (n + m)).filter (fun i => !listed.getD i true) ≠ [] := by
        intro h0
        rw [h0] at hc
        simp at hc
      obtain ⟨k, hk⟩ := List.exists_mem_of_ne_nil _ hne
      obtain ⟨h1, h2⟩ := List.mem_filter.1 hk
      exact ⟨k, List.mem_range.1 h1, by simpa using h2⟩
    have hready : Region.ready .any ops listed ≠ [] := by
      have hex : ∀ k, k < n + m → listed.getD k true = false → ∃ i, i < n + m ∧ listed.getD i true = false ∧ ∀ j, j < i → listed.getD j true = true := by
        intro k
        induction k using Nat.strongRecOn with
        | _ k ihk =>
          intro hk hkl
          by_cases h : ∃ j, j < k ∧ listed.getD j true = false
          · obtain ⟨j, hj, hjl⟩ := h
            exact ihk j hj (by omega) hjl
          · refine ⟨k, hk, hkl, fun j hj => ?_⟩
            cases hjl : listed.getD j true with
            | true => rfl
            | false => exact absurd ⟨j, hj, hjl⟩ h
      obtain ⟨i, hi, hil, hmin⟩ := hex k hk hkl
      obtain ⟨o, ho, hafter, _, _⟩ := hB.op i hi
      have hmem : i ∈ Region.ready .any ops listed := mem_ready.2 ⟨hil, o, ho, fun e he hb => by
        have h1 := hmin e.on (hafter e he hb)
        have hlt : e.on < listed.size := by rw [H.inv.size]; have := hafter e he hb; have := hB.lt; omega
        simp [hlt] at h1 ⊢
        exact h1⟩
      intro h0
      rw [h0] at hmem
      cases hmem
    refine ⟨fun h0 => absurd h0 hready, fun i hi => ?_⟩
    have hin : i < n + m := by
      rcases Nat.lt_or_ge i (n + m) with h | h
      · exact h
      · rcases hB.tail with ht | ⟨ht1, ht2⟩
        · obtain ⟨_, o, ho, _⟩ := mem_ready.1 hi
          have := (Array.getElem?_eq_some_iff.1 ho).1
          omega
        · rcases Nat.lt_or_ge (n + m) ops.size with hlt | hge
          · exact absurd hi (tail_waits ht1 ht2 hlt H.inv _ k rfl hk hkl i h)
          · obtain ⟨_, o, ho, _⟩ := mem_ready.1 hi
            have := (Array.getElem?_eq_some_iff.1 ho).1
            omega
    obtain ⟨hun, o', ho', hafterL⟩ := mem_ready.1 hi
    obtain ⟨o, ho, hafter, hsingle, hlooks⟩ := hB.op i hin
    have hoo : o' = o := Option.some.inj (ho'.symm.trans ho)
    subst hoo
    have hsz : i < listed.size := by rw [H.inv.size]; have := hB.lt; omega
    have hunf := getD_both hun
    have hinv := H.inv.set hi hin
    have hdst : dstOf ops i = o'.dst := by simp [dstOf, ho]
    -- one fewer is left
    have hcount : ((List.range (n + m)).filter (fun j => !(listed.setIfInBounds i true).getD j true)).length = c := by
      have key : ∀ (l : List Nat), l.Nodup → i ∈ l → (l.filter (fun j => !listed.getD j true)).length = (l.filter (fun j => !(listed.setIfInBounds i true).getD j true)).length + 1 := by
        intro l
        induction l with
        | nil => intro _ h; cases h
        | cons x r ihl =>
          intro hnd hmem
          obtain ⟨hx, hr⟩ := List.nodup_cons.1 hnd
          by_cases hxi : x = i
          · subst hxi
            have h1 : (r.filter (fun j => !listed.getD j true)) = (r.filter (fun j => !(listed.setIfInBounds x true).getD j true)) := by
              apply List.filter_congr
              intro y hy
              have hne : x ≠ y := fun e => hx (e ▸ hy)
              rw [getD_set_ne true hne]
            have h2 : (listed.setIfInBounds x true).getD x true = true := by simp [hsz]
            rw [List.filter_cons_of_pos (by simp [hun]), List.filter_cons_of_neg (by simp [h2]), List.length_cons, h1]
          · have hmr : i ∈ r := by
              rcases List.mem_cons.1 hmem with h | h
              · exact absurd h.symm hxi
              · exact h
            have h3 := ihl hr hmr
            have h4 : (listed.setIfInBounds i true).getD x true = listed.getD x true := getD_set_ne true (Ne.symm hxi)
            by_cases h5 : listed.getD x true = true
            · rw [List.filter_cons_of_neg (by simp [h5]), List.filter_cons_of_neg (by rw [h4]; simp [h5])]; exact h3
            · rw [List.filter_cons_of_pos (by simpa using h5), List.filter_cons_of_pos (by rw [h4]; simpa using h5), List.length_cons, List.length_cons, h3]
      have := key (List.range (n + m)) List.nodup_range (List.mem_range.2 hin)
      omega
    -- what comes behind it
    have next : ∀ (v : Value) (w' : World) (vals' : Nat → Value), HeadIs P ops n m V obj w0 a0 (listed.setIfInBounds i true) (a.put o'.dst v) w' vals' →
        wpAny P .any ops Q (c + (ops.size - (n + m))) (listed.setIfInBounds i true) (a.put o'.dst v) w' := fun v w' vals' H' => ih _ _ _ vals' H' hcount
    have madeKeep : ∀ w', Below w.heap.size w w' → ∀ j, n ≤ j → j < n + m → listed.getD j false = true → ∃ b, vals j = .pointer (some ⟨b, 0, none⟩) ∧ w0.heap.size ≤ b ∧ w'.heap[b]? = some (obj j) := by
      intro w' hb j h1 h2 h3
      obtain ⟨b, e1, e2, e3⟩ := H.made j h1 h2 h3
      refine ⟨b, e1, e2, ?_⟩
      rw [hb.block b (Array.getElem?_eq_some_iff.1 e3).1]
      exact e3
    have madeNe : ∀ j, n ≤ j → j < n + m → listed.getD j false = true → vals j ≠ .pointer (some ⟨w.heap.size, 0, none⟩) := by
      intro j h1 h2 h3 e
      obtain ⟨b, e1, e2, e3⟩ := H.made j h1 h2 h3
      rw [e1] at e
      injection e with e
      injection e with e
      injection e with e
      have := (Array.getElem?_eq_some_iff.1 e3).1
      omega
    by_cases hcn : i < n
    · -- a calm one
      obtain ⟨ai, hfi, hy⟩ := hcalm i hcn o' ho
      have hag : ∀ t ∈ o'.looksAt ops, ai.tmps.getD t undef = a.tmps.getD t undef := by
        intro t ht
        rcases Nat.lt_or_ge t a0.tmps.size with htl | htg
        · by_cases hex : ∃ j, j < n + m ∧ dstOf ops j = some t
          · obtain ⟨j, hj, hjt⟩ := hex
            obtain ⟨e, he, hb, hon⟩ := hlooks hcn t ht j hj hjt
            have hji : j < i := by have := hafter e he hb; omega
            have hjl : listed.getD j false = true := by have := hafterL e he hb; rw [hon] at this; exact this
            rw [hfi.done j t hj (by simpa using hji) hjt htl, H.fr.done j t hj hjl hjt htl, H.calmV j (by omega)]
          · have hn : ∀ j, j < n + m → dstOf ops j ≠ some t := fun j hj e => hex ⟨j, hj, e⟩
            rw [hfi.rest t (fun j hj _ => hn j hj), H.fr.rest t (fun j hj _ => hn j hj)]
        · have g1 : ai.tmps.size ≤ t := by rw [hfi.size]; exact htg
          have g2 : a.tmps.size ≤ t := by rw [H.fr.size]; exact htg
          simp [Array.getElem?_eq_none g1, Array.getElem?_eq_none g2]
      have hy' : CYields P ops (fun w => Below w0.heap.size w0 w) o' (V i) a := hy.agree (Region.noSelect_spec hB.sel i o' · · ho) (hfi.size.trans H.fr.size.symm) hag
      have hput : Fr ops (n + m) vals (fun j => (listed.setIfInBounds i true).getD j false) a0 (a.put o'.dst (V i)) := by
        rw [← hdst, ← H.calmV i hcn]
        exact H.fr.put hin hsingle (fun j => listed_set hsz j)
      have fin : ∀ w', Below w.heap.size w w' → HeadIs P ops n m V obj w0 a0 (listed.setIfInBounds i true) (a.put o'.dst (V i)) w' vals := by
        intro w' hb
        refine ⟨hinv, H.calmV, hput, H.below.trans (hb.mono H.below.size), fun j h1 h2 h3 => ?_, fun j k h1 h2 h3 h4 h5 h6 h7 => ?_⟩
        · refine madeKeep w' hb j h1 h2 ?_
          rwa [getD_set_ne false (by omega)] at h3
        · rw [getD_set_ne false (by omega)] at h6 h7
          exact H.apart j k h1 h2 h3 h4 h5 h6 h7
      unfold wpOp
      simp only [ho]
      rcases hy' with ⟨hw, hv⟩ | ⟨hw, hv⟩
      · simp only [hw, if_true]
        refine .inl ?_
        have h3 := hv w H.below
        unfold calmAt at h3
        unfold Oper.wp
        generalize (execOp a.eval o').run P w = r at *
        cases r with
        | ok nx w' =>
          cases nx <;> simp only [calmUpon] at h3 <;> simp only [Oper.upon]
          case value u =>
            obtain ⟨e1, e2⟩ := h3
            subst e1; subst e2
            exact next _ _ vals (fin _ (Below.refl _ _))
          case skip =>
            obtain ⟨e1, e2⟩ := h3
            subst e1
            have f := fin w' (Below.refl _ _)
            rw [e2] at f
            exact next _ _ vals f
          case enter f args =>
            obtain ⟨e1, hcl⟩ := h3
            subst e1
            exact hcl.mono fun e w'' ⟨he, hb⟩ => by subst he; exact next _ _ vals (fin _ hb)
        | halt x w' => simp only [calmUpon] at h3
      · simp only [hw, Bool.false_eq_true, if_false]
        have f := fin w (Below.refl _ _)
        rw [hv] at f
        exact next _ _ vals f
    · -- a new variable
      obtain ⟨hg, hrun⟩ := hmake i o' (by omega) hin ho
      unfold wpOp
      simp only [ho]
      rw [if_pos (by simp [Region.wanted, hg])]
      refine .inl ?_
      unfold Oper.wp
      rw [hrun]
      simp only [Oper.upon]
      have hb : Below w.heap.size w (w.alloc (obj i)) := (Below.refl _ _).alloc (Nat.le_refl _) _
      refine next _ _ (fun j => if j = i then .pointer (some ⟨w.heap.size, 0, none⟩) else vals j) ⟨hinv, fun j hj => ?_, ?_, H.below.trans (hb.mono H.below.size), fun j h1 h2 h3 => ?_, fun j k h1 h2 h3 h4 h5 h6 h7 => ?_⟩
      · rw [if_neg (by omega)]; exact H.calmV j hj
      · have hfr : Fr ops (n + m) (fun j => if j = i then .pointer (some ⟨w.heap.size, 0, none⟩) else vals j) (fun j => listed.getD j false) a0 a :=
          H.fr.congr fun j _ hjl => by
            have hji : j ≠ i := by
              intro e
              have h0 : listed.getD j false = true := hjl
              rw [e, hunf] at h0
              cases h0
            simp only [if_neg hji]
        have := hfr.put hin hsingle (fun j => listed_set hsz j)
        rw [hdst] at this
        simp only [if_pos] at this
        exact this
      · by_cases hji : j = i
        · subst hji
          refine ⟨w.heap.size, by simp, H.below.size, ?_⟩
          show (w.heap.push (obj j))[w.heap.size]? = _
          simp
        · rw [getD_set_ne false (Ne.symm hji)] at h3
          obtain ⟨b, e1, e2, e3⟩ := madeKeep _ hb j h1 h2 h3
          exact ⟨b, by simp only [if_neg hji]; exact e1, e2, e3⟩
      · by_cases hji : j = i
        · subst hji
          rw [getD_set_ne false h5] at h7
          simp only [if_neg (Ne.symm h5), if_pos]
          exact fun e => madeNe k h3 h4 h7 e.symm
        · by_cases hki : k = i
          · subst hki
            rw [getD_set_ne false (Ne.symm hji)] at h6
            simp only [if_neg hji, if_pos]
            exact madeNe j h1 h2 h6
          · rw [getD_set_ne false (Ne.symm hji)] at h6
            rw [getD_set_ne false (Ne.symm hki)] at h7
            simp only [if_neg hji, if_neg hki]
            exact H.apart j k h1 h2 h3 h4 h5 h6 h7

theorem frameOf_snoc : ∀ (l : List Oper) (vs : List Value) (k : Nat) (a : Act) (hk : k < l.length) (v : Value), vs[k]? = some v →
    frameOf (l.take (k + 1)) (vs.take (k + 1)) a = (frameOf (l.take k) (vs.take k) a).put l[k].dst v
  | [], _, _, _, hk, _, _ => absurd hk (Nat.not_lt_zero _)
  | _ :: _, [], _, _, _, _, h => by simp at h
  | o :: l, u :: vs, 0, a, _, v, h => by
    simp only [List.getElem?_cons_zero, Option.some.injEq] at h
    subst h
    cases l <;> simp [frameOf]
  | o :: l, u :: vs, k + 1, a, hk, v, h => by
    simp only [List.getElem?_cons_succ] at h
    simp only [List.take_succ_cons, frameOf, List.getElem_cons_succ]
    exact frameOf_snoc l vs k (a.put o.dst u) (by simpa using hk) v h

theorem frameOf_append : ∀ (l : List Oper) (vs : List Value) (l' : List Oper) (vs' : List Value) (a : Act), vs.length = l.length →
    frameOf (l ++ l') (vs ++ vs') a = frameOf l' vs' (frameOf l vs a)
  | [], [], _, _, _, _ => by simp [frameOf]
  | o :: l, v :: vs, l', vs', a, h => by
    simp only [List.cons_append, frameOf]
    exact frameOf_append l vs l' vs' _ (by simpa using h)
  | [], _ :: _, _, _, _, h => by simp at h
  | _ :: _, [], _, _, _, h => by simp at h

theorem fr_lex {l : List Oper} {n m : Nat} {vs : List Value} {a0 : Act} (hB : CalmB l.toArray n m) (hlen : n ≤ vs.length) : ∀ k, k ≤ n + m → k ≤ vs.length →
    Fr l.toArray (n + m) (fun i => vs.getD i undef) (fun j => decide (j < k)) a0 (frameOf (l.take k) (vs.take k) a0)
  | 0, _, _ => by
    simp only [List.take_zero, frameOf]
    exact ⟨rfl, rfl, fun i d _ h => by simp at h, fun d _ => rfl⟩
  | k + 1, hk, hkv => by
    have ih := fr_lex (a0 := a0) hB hlen k (by omega) (by omega)
    have hlt : n + m ≤ l.length := by simpa using hB.lt
    have hkl : k < l.length := by omega
    have hv : vs[k]? = some (vs.getD k undef) := by
      have : k < vs.length := by omega
      simp [this]
    rw [frameOf_snoc l vs k a0 hkl _ hv]
    obtain ⟨o, ho, _, hsingle, _⟩ := hB.op k (by omega)
    have hd : dstOf l.toArray k = l[k].dst := by simp [dstOf, hkl]
    rw [← hd]
    exact ih.put (by omega) hsingle (fun j => by simp; omega)

theorem alloc_below (w : World) : Below w.heap.size w { w with drawn := w.drawn + 1 } := ⟨rfl, rfl, rfl, Nat.le_refl _, fun _ _ => rfl⟩

def ptrs (bs : List Nat) : List Value := bs.map fun b => .pointer (some ⟨b, 0, none⟩)

theorem wp_calm {id : Nat} {Q : Exit → Act → World → Prop} {a : Act} {l : List Oper} (n m : Nat) (obj : Nat → Obj) (hm : P.follows .mixedOrders = true) (hB0 : calmB l.toArray n m = true)
    (hmake : ∀ i o, n ≤ i → i < n + m → l[i]? = some o → o.guard = none ∧ ∀ (a : Act) (w : World), (execOp a.eval o).run P w = .ok (.value (.pointer (some ⟨w.heap.size, 0, none⟩))) (w.alloc (obj i)))
    (h : wpCalm P l.toArray (fun w' => Below w.heap.size w w') (fun a' => ∀ w' (bs : List Nat), Below w.heap.size w w' → bs.length = m → bs.Nodup →
      (∀ i b, bs[i]? = some b → w.heap.size ≤ b ∧ w'.heap[b]? = some (obj (n + i))) →
      wpList P l.toArray Q (l.drop (n + m)) (frameOf ((l.drop n).take m) (ptrs bs) a') w') (l.take n) a) :
    (Code.region id l.toArray true).wp P Q a w := by
  have hB := calmB_spec hB0
  have hlt : n + m ≤ l.length := by simpa using hB.lt
  obtain ⟨vs, hlen, hy, hQ⟩ := calm_values (l.take n) a h
  have hlen' : vs.length = n := by rw [hlen]; simp; omega
  refine wp_region_any hm ?_
  have inv0 : HeadInv .any l.toArray (n + m) (Array.replicate l.toArray.size false) :=
    ⟨by simp, fun j oj _ hl => (by rw [getD_replicate_false] at hl; cases hl), fun t _ ht => getD_in (by simpa using ht) (getD_replicate_false _ _)⟩
  have nol : ∀ i, (Array.replicate l.toArray.size false).getD i false = true → False := fun i hl => by rw [getD_replicate_false] at hl; cases hl
  have H0 : HeadIs P l.toArray n m (fun i => vs.getD i undef) obj w a (Array.replicate l.toArray.size false) a { w with drawn := w.drawn + 1 } (fun i => vs.getD i undef) :=
    ⟨inv0, fun _ _ => rfl, ⟨rfl, rfl, fun i d _ hl => (nol i hl).elim, fun d _ => rfl⟩, alloc_below w,
      fun i _ _ hl => (nol i hl).elim, fun i j _ _ _ _ _ hl => (nol i hl).elim⟩
  have hlen2 : ((List.range (n + m)).filter (fun i => !(Array.replicate l.toArray.size false).getD i true)).length = n + m := by
    have : (List.range (n + m)).filter (fun i => !(Array.replicate l.toArray.size false).getD i true) = List.range (n + m) := by
      apply List.filter_eq_self.2
      intro i hi
      have := List.mem_range.1 hi
      have h2 : i < l.length := by omega
      simp [h2]
    rw [this, List.length_range]
  have main := wpAny_calm (P := P) (Q := Q) (V := fun i => vs.getD i undef) (obj := obj) (w0 := w) (a0 := a) hB
    (fun i hi o ho => by
      refine ⟨frameOf (l.take i) (vs.take i) a, fr_lex hB (by omega) i (by omega) (by omega), ?_⟩
      have hil : i < (l.take n).length := by simp; omega
      have hv : vs[i]? = some (vs.getD i undef) := by
        have : i < vs.length := by omega
        simp [this]
      have h1 := hy i hil _ hv
      have ho' : (l.take n)[i] = o := by
        have h3 : i < l.length := by omega
        simp [h3] at ho
        simp [ho]
      rw [ho', List.take_take, Nat.min_eq_left (by omega)] at h1
      exact h1)
    (fun i o h1 h2 ho => hmake i o h1 h2 (by simpa using ho))
    (fun listed a' w' vals H hall => by
      have hfr : Fr l.toArray (n + m) vals (fun j => decide (j < n + m)) a a' :=
        ⟨H.fr.defers, H.fr.size, fun i d hi _ => H.fr.done i d hi (hall i hi), fun d hd => H.fr.rest d (fun i hi _ => hd i hi (by simpa using hi))⟩
      have hb : ∀ i, ∃ b, n ≤ i → i < n + m → vals i = .pointer (some ⟨b, 0, none⟩) ∧ w.heap.size ≤ b ∧ w'.heap[b]? = some (obj i) := by
        intro i
        by_cases hi : n ≤ i ∧ i < n + m
        · obtain ⟨b, hb⟩ := H.made i hi.1 hi.2 (hall i hi.2)
          exact ⟨b, fun _ _ => hb⟩
        · exact ⟨0, fun h1 h2 => absurd ⟨h1, h2⟩ hi⟩
      have ⟨blk, hblk⟩ : ∃ blk : Nat → Nat, ∀ i, n ≤ i → i < n + m → vals i = .pointer (some ⟨blk i, 0, none⟩) ∧ w.heap.size ≤ blk i ∧ w'.heap[blk i]? = some (obj i) :=
        ⟨fun i => Classical.choose (hb i), fun i => Classical.choose_spec (hb i)⟩
      have hbs : ((List.range m).map fun i => blk (n + i)).length = m := by simp
      have hres := hQ w' ((List.range m).map fun i => blk (n + i)) H.below hbs ?_ ?_
      · have ha : a' = frameOf ((l.drop n).take m) (ptrs ((List.range m).map fun i => blk (n + i))) (frameOf (l.take n) vs a) := by
          have hsplit : l.take (n + m) = l.take n ++ (l.drop n).take m := List.take_add
          have hL := fr_lex (a0 := a) (vs := vs ++ ptrs ((List.range m).map fun i => blk (n + i))) hB (by simp; omega) (n + m) (Nat.le_refl _) (by simp [ptrs]; omega)
          have htk : (vs ++ ptrs ((List.range m).map fun i => blk (n + i))).take (n + m) = vs ++ ptrs ((List.range m).map fun i => blk (n + i)) := List.take_of_length_le (by simp [ptrs]; omega)
          rw [htk, hsplit, frameOf_append _ _ _ _ _ (by rw [hlen])] at hL
          refine hfr.unique (hL.congr fun i hi _ => ?_)
          by_cases hin : i < n
          · rw [H.calmV i hin]
            have h3 : i < vs.length := by omega
            simp only [List.getD_eq_getElem?_getD, List.getElem?_append_left h3]
          · obtain ⟨e1, _, _⟩ := hblk i (by omega) hi
            rw [e1]
            have h3 : i - n < m := by omega
            have h4 : n + (i - n) = i := by omega
            simp only [List.getD_eq_getElem?_getD, List.getElem?_append_right (show vs.length ≤ i by omega), hlen', ptrs, List.getElem?_map, List.getElem?_range h3, Option.map_some, Option.getD_some, h4]
        rw [ha]
        simpa using hres
      · rw [List.nodup_iff_pairwise_ne, List.pairwise_map]
        refine List.Pairwise.imp_of_mem ?_ List.nodup_range
        intro i j hi hj hne heq
        have hi' := List.mem_range.1 hi
        have hj' := List.mem_range.1 hj
        refine H.apart (n + i) (n + j) (by omega) (by omega) (by omega) (by omega) (by omega) (hall _ (by omega)) (hall _ (by omega)) ?_
        rw [(hblk (n + i) (by omega) (by omega)).1, (hblk (n + j) (by omega) (by omega)).1, heq]
      · intro i b hib
        have hi : i < m := by
          have := (List.getElem?_eq_some_iff.1 hib).1
          simpa using this
        have hb' : b = blk (n + i) := by simpa [hi] using hib.symm
        rw [hb']
        exact (hblk (n + i) (by omega) (by omega)).2)
    (n + m) _ a _ _ H0 hlen2
  have hs : n + m + (l.toArray.size - (n + m)) = l.toArray.size := by simp; omega
  rw [hs] at main
  exact main

/-- No new variable. -/
theorem wp_calm0 {id : Nat} {Q : Exit → Act → World → Prop} {a : Act} {l : List Oper} (n : Nat) (hm : P.follows .mixedOrders = true) (hB0 : calmB l.toArray n 0 = true)
    (hh : ∀ C : World → Prop, (∀ w', C w' → Below w.heap.size w w') → wpCalm P l.toArray C (fun a' => ∀ w', Below w.heap.size w w' → wpList P l.toArray Q (l.drop n) a' w') (l.take n) a) :
    (Code.region id l.toArray true).wp P Q a w := by
  have h := hh (fun w' => Below w.heap.size w w') (fun _ h => h)
  refine wp_calm n 0 (fun _ => .map #[] 0) hm hB0 (fun i o h1 h2 => by omega) ?_
  have mono : ∀ (r : List Oper) (a : Act) (Q1 Q2 : Act → Prop), (∀ a, Q1 a → Q2 a) → wpCalm P l.toArray (fun w' => Below w.heap.size w w') Q1 r a → wpCalm P l.toArray (fun w' => Below w.heap.size w w') Q2 r a := by
    intro r
    induction r with
    | nil => intro a Q1 Q2 hq h; exact hq _ h
    | cons o r ih =>
      intro a Q1 Q2 hq h
      unfold wpCalm at h ⊢
      split
      · rename_i hw
        rw [if_pos hw] at h
        obtain ⟨v, h1, h2⟩ := h
        exact ⟨v, h1, ih _ _ _ hq h2⟩
      · rename_i hw
        rw [if_neg hw] at h
        exact ih _ _ _ hq h
  refine mono _ _ _ _ (fun a' h w' bs hb hl _ _ => ?_) h
  have : (l.drop n).take 0 = [] := by simp
  rw [this]
  exact h w' hb

/-- One new variable. -/
theorem wp_calm1 {id : Nat} {Q : Exit → Act → World → Prop} {a : Act} {l : List Oper} (n : Nat) (ob : Obj) (d : Option Tmp) (hm : P.follows .mixedOrders = true) (hB0 : calmB l.toArray n 1 = true)
    (hd : (l[n]?).map (fun o => (o.dst, o.guard.isNone)) = some (d, true))
    (hmake : ∀ o, l[n]? = some o → ∀ (a : Act) (w : World), (execOp a.eval o).run P w = .ok (.value (.pointer (some ⟨w.heap.size, 0, none⟩))) (w.alloc ob))
    (hh : ∀ C : World → Prop, (∀ w', C w' → Below w.heap.size w w') → wpCalm P l.toArray C (fun a' => ∀ w' b, Below w.heap.size w w' → w.heap.size ≤ b → w'.heap[b]? = some ob →
      wpList P l.toArray Q (l.drop (n + 1)) (a'.put d (.pointer (some ⟨b, 0, none⟩))) w') (l.take n) a) :
    (Code.region id l.toArray true).wp P Q a w := by
  have h := hh (fun w' => Below w.heap.size w w') (fun _ h => h)
  obtain ⟨o, ho, hod⟩ := Option.map_eq_some_iff.1 hd
  simp only [Prod.mk.injEq, Option.isNone_iff_eq_none] at hod
  refine wp_calm n 1 (fun _ => ob) hm hB0 (fun i o' h1 h2 ho' => ?_) ?_
  · have : i = n := by omega
    subst this
    have : o' = o := Option.some.inj (ho'.symm.trans ho)
    subst this
    exact ⟨hod.2, hmake o' ho⟩
  have mono : ∀ (r : List Oper) (a : Act) (Q1 Q2 : Act → Prop), (∀ a, Q1 a → Q2 a) → wpCalm P l.toArray (fun w' => Below w.heap.size w w') Q1 r a → wpCalm P l.toArray (fun w' => Below w.heap.size w w') Q2 r a := by
    intro r
    induction r with
    | nil => intro a Q1 Q2 hq h; exact hq _ h
    | cons o r ih =>
      intro a Q1 Q2 hq h
      unfold wpCalm at h ⊢
      split
      · rename_i hw
        rw [if_pos hw] at h
        obtain ⟨v, h1, h2⟩ := h
        exact ⟨v, h1, ih _ _ _ hq h2⟩
      · rename_i hw
        rw [if_neg hw] at h
        exact ih _ _ _ hq h
  refine mono _ _ _ _ (fun a' h w' bs hb hl _ hob => ?_) h
  obtain ⟨b, rfl⟩ : ∃ b, bs = [b] := List.length_eq_one_iff.1 hl
  have : (l.drop n).take 1 = [o] := by
    have hlt := (List.getElem?_eq_some_iff.1 ho)
    rw [List.drop_eq_getElem_cons hlt.1, hlt.2]
    simp
  rw [this]
  obtain ⟨h1, h2⟩ := hob 0 b rfl
  have := h w' b hb h1 h2
  rw [← hod.1] at this
  exact this
end
theorem calm_intro {P : Program} {o : Oper} {a : Act} {C : World → Prop} {next : Act → Prop} {v : Value} (h1 : ∀ w, C w → calmAt P o a w v) (h2 : next (a.put o.dst v)) : calm P o a C next := ⟨v, h1, h2⟩
attribute [go_sem] calmAt calmUpon
theorem bcell {W w1 : World} (hb : Below W.heap.size W w1) : (∀ b o, b < W.heap.size → w1.cell? ⟨b, o, none⟩ = W.cell? ⟨b, o, none⟩) ∧ (∀ b o, b < W.heap.size → w1.frozen? ⟨b, o, none⟩ = W.frozen? ⟨b, o, none⟩) :=
  ⟨fun b o h => hb.cell (p := ⟨b, o, none⟩) h, fun b o h => hb.frozen (p := ⟨b, o, none⟩) h⟩
theorem cellB {w : World} {b : Nat} {cs : Array Value} {T : TypeId} (h : w.heap[b]? = some (.cells cs T (0, 0))) : (∀ o, w.cell? ⟨b, o, none⟩ = cs[o]?) ∧ (∀ o, w.frozen? ⟨b, o, none⟩ = false) :=
  ⟨fun o => by simp [World.cell?, h], fun o => by simp [World.frozen?, h]⟩
theorem wp_named {P : Program} {c : Code} {Q : Exit → Act → World → Prop} {a : Act} {W : World} (h : ∀ W', W' = W → c.wp P Q a W') : c.wp P Q a W := h W rfl
theorem calls_named {P : Program} {f : FuncId} {args : Array Value} {R : Ending → World → Prop} {W : World} (h : ∀ W', W' = W → Calls P f args W' R) : Calls P f args W R := h W rfl
theorem heap_at {w : World} {o : Obj} {k : Nat} (h : k = w.heap.size) : (w.alloc o).heap[k]? = some o := by
  subst h
  show (w.heap.push o)[w.heap.size]? = _
  simp
theorem heap_old {w : World} {o : Obj} {k : Nat} (h : k < w.heap.size) : (w.alloc o).heap[k]? = w.heap[k]? := Below.heap_alloc _ _ _ h
theorem set_own {w : World} {b o : Nat} {T : TypeId} {cs : Array Value} (h : w.heap[b]? = some (.cells cs T (0, 0))) (v : Value) : (w.setCell ⟨b, o, none⟩ v).heap[b]? = some (.cells (cs.setIfInBounds o v) T (0, 0)) := by
  simp [World.setCell, Array.getElem?_modify, h]
/-- A block of its own, all its cells stored. -/
theorem store2 {w : World} {b : Nat} {T : TypeId} {u0 u1 : Value} (h : w.heap[b]? = some (.cells #[u0, u1] T (0, 0))) (v0 v1 : Value) :
    ((w.setCell ⟨b, 0, none⟩ v0).setCell ⟨b, 1, none⟩ v1).heap[b]? = some (.cells #[v0, v1] T (0, 0)) := set_own (set_own h v0) v1
theorem store3 {w : World} {b : Nat} {T : TypeId} {u0 u1 u2 : Value} (h : w.heap[b]? = some (.cells #[u0, u1, u2] T (0, 0))) (v0 v1 v2 : Value) :
    (((w.setCell ⟨b, 0, none⟩ v0).setCell ⟨b, 1, none⟩ v1).setCell ⟨b, 2, none⟩ v2).heap[b]? = some (.cells #[v0, v1, v2] T (0, 0)) := set_own (set_own (set_own h v0) v1) v2
/-- All cells of a block stored, one behind the other. -/
def storeAll (w : World) (b o : Nat) : List Value → World
  | [] => w
  | v :: vs => storeAll (w.setCell ⟨b, o, none⟩ v) b (o + 1) vs
theorem storeAll_kept {b k : Nat} {ob : Obj} (h : k ≠ b) : ∀ (vs : List Value) (w : World) (o : Nat), w.heap[k]? = some ob → (storeAll w b o vs).heap[k]? = some ob
  | [], _, _, hk => hk
  | _ :: vs, _, o, hk => storeAll_kept h vs _ (o + 1) (by rw [Below.heap_setCell _ _ _ _ h]; exact hk)
theorem storeAll_size {b : Nat} : ∀ (vs : List Value) (w : World) (o : Nat), (storeAll w b o vs).heap.size = w.heap.size
  | [], _, _ => rfl
  | _ :: vs, _, o => by unfold storeAll; rw [storeAll_size vs _ (o + 1)]; simp
theorem storeAll_below {X : World} {b : Nat} (hb : X.heap.size ≤ b) : ∀ (vs : List Value) (w : World) (o : Nat), Below X.heap.size X w → Below X.heap.size X (storeAll w b o vs)
  | [], _, _, h => h
  | _ :: vs, _, o, h => storeAll_below hb vs _ (o + 1) (h.setCell hb _)
theorem set_list (cs : List Value) (o : Nat) (v : Value) (ho : o < cs.length) : (cs.set o v) = cs.take o ++ v :: cs.drop (o + 1) := List.set_eq_take_append_cons_drop.trans (if_pos ho)
theorem storeAll_made {b : Nat} {T : TypeId} : ∀ (vs : List Value) (w : World) (o : Nat) (cs : List Value), w.heap[b]? = some (.cells cs.toArray T (0, 0)) → o + vs.length = cs.length →
    (storeAll w b o vs).heap[b]? = some (.cells (cs.take o ++ vs).toArray T (0, 0))
  | [], w, o, cs, h, hl => by
    simp only [List.length_nil, Nat.add_zero] at hl
    rw [List.append_nil, List.take_of_length_le (by omega)]
    exact h
  | v :: vs, w, o, cs, h, hl => by
    simp only [List.length_cons] at hl
    have h1 := set_own (o := o) h v
    rw [List.setIfInBounds_toArray] at h1
    have h2 := storeAll_made vs _ (o + 1) (cs.set o v) h1 (by simp; omega)
    have e : (cs.set o v).take (o + 1) ++ vs = cs.take o ++ v :: vs := by
      have e2 : cs.take o ++ v :: cs.drop (o + 1) = (cs.take o ++ [v]) ++ cs.drop (o + 1) := by simp
      rw [set_list cs o v (by omega), e2, List.take_left' (by simp; omega)]
      simp
    rw [e] at h2
    exact h2
section
variable {w W X : World} {b k : Nat} {T : TypeId} {ob : Obj} {vs cs : List Value}
theorem kept (hW : W = storeAll w b 0 vs) (h : k ≠ b) (hk : w.heap[k]? = some ob) : W.heap[k]? = some ob := by rw [hW]; exact storeAll_kept h _ _ _ hk
theorem made (hW : W = storeAll w b 0 vs) (h : w.heap[b]? = some (.cells cs.toArray T (0, 0))) (hl : vs.length = cs.length) : W.heap[b]? = some (.cells vs.toArray T (0, 0)) := by
  rw [hW]; exact storeAll_made vs w 0 cs h (by omega)
theorem sized (hW : W = storeAll w b 0 vs) : W.heap.size = w.heap.size := by rw [hW]; exact storeAll_size _ _ _
theorem below (hW : W = storeAll w b 0 vs) (hB : Below X.heap.size X w) (hb : X.heap.size ≤ b) : Below X.heap.size X W := by rw [hW]; exact storeAll_below hb _ _ _ hB
end
theorem other_block {w : World} {a : Addr} {v : Value} {k : Nat} (h : k ≠ a.block) : (w.setCell a v).heap[k]? = w.heap[k]? := Below.heap_setCell _ _ _ _ h
theorem after {w W w1 : World} (h : Below w.heap.size w W) (hb : Below W.heap.size W w1) : Below w.heap.size w w1 := h.trans (hb.mono h.size)
end Go.Proofs.Ytdglijdiiggdgaa
/- What limb's functions answer: numbers of 128 bits as two words. -/
namespace Go.Proofs.Ytdglijdiiggdgaa
open Go.RowKit Go.Shelf

theorem add64 (x y c : Int) (hx : 0 ≤ x) (hy : 0 ≤ y) (hc0 : 0 ≤ c) (hc : c ≤ 1) (w : World) : (callFunc 83 #[.int .u64 x, .int .u64 y, .int .u64 c]).run Try.prog w =
    .ok (.value (.tuple #[.int .u64 ((x + y + c) % 18446744073709551616), .int .u64 ((x + y + c) / 18446744073709551616)])) w := by
  obtain ⟨x, rfl⟩ := Int.eq_ofNat_of_zero_le hx
  obtain ⟨y, rfl⟩ := Int.eq_ofNat_of_zero_le hy
  obtain ⟨c, rfl⟩ := Int.eq_ofNat_of_zero_le hc0
  rw [run_callFunc_extern Try.func83 (by kernel_rfl) (by kernel_rfl) (by kernel_rfl) (e := add64Entry) (by kernel_rfl), run_add64 x y c (by omega) (by omega) (by omega) (by omega)]
  rfl
theorem sub64 (x y b : Int) (hx : 0 ≤ x) (hy : 0 ≤ y) (hy' : y < 18446744073709551616) (hb0 : 0 ≤ b) (hb : b ≤ 1) (w : World) : (callFunc 88 #[.int .u64 x, .int .u64 y, .int .u64 b]).run Try.prog w =
    .ok (.value (.tuple #[.int .u64 ((x - y - b) % 18446744073709551616), .int .u64 (bor x (y + b))])) w := by
  obtain ⟨x, rfl⟩ := Int.eq_ofNat_of_zero_le hx
  obtain ⟨y, rfl⟩ := Int.eq_ofNat_of_zero_le hy
  obtain ⟨b, rfl⟩ := Int.eq_ofNat_of_zero_le hb0
  have e1 : (((x + 18446744073709551616 - y - b) % 18446744073709551616 : Nat) : Int) = ((x : Int) - y - b) % 18446744073709551616 := by omega
  have e2 : ((if x < y + b then 1 else 0 : Nat) : Int) = bor (x : Int) (y + b) := by unfold bor; split <;> split <;> omega
  rw [← e1, ← e2, run_callFunc_extern Try.func88 (by kernel_rfl) (by kernel_rfl) (by kernel_rfl) (e := sub64Entry) (by kernel_rfl), run_sub64 x y b (by omega)]
  rfl
theorem add64_0 (x y : Int) (hx : 0 ≤ x) (hy : 0 ≤ y) (w : World) : (callFunc 83 #[.int .u64 x, .int .u64 y, .int .u64 0]).run Try.prog w =
    .ok (.value (.tuple #[.int .u64 ((x + y) % 18446744073709551616), .int .u64 ((x + y) / 18446744073709551616)])) w := by
  simpa using add64 x y 0 hx hy (Int.le_refl 0) (by decide) w
theorem sub64_0 (x y : Int) (hx : 0 ≤ x) (hy : 0 ≤ y) (hy' : y < 18446744073709551616) (w : World) : (callFunc 88 #[.int .u64 x, .int .u64 y, .int .u64 0]).run Try.prog w =
    .ok (.value (.tuple #[.int .u64 ((x - y) % 18446744073709551616), .int .u64 (bor x y)])) w := by
  simpa using sub64 x y 0 hx hy hy' (Int.le_refl 0) (by decide) w

def mul_lays_ren : Go.Shelf.Ren := ⟨fun | 264 => 86 | n => n, fun | 53 => 98 | 46 => 111 | n => n, fun | n => n⟩
theorem mul_lays : Go.Proofs.Lays.n264 Try.prog mul_lays_ren := {
  mixed := by kernel_rfl
  f264 := Try.func86.trans (congrArg some (by kernel_rfl))
  t46 := Try.underlying111
  a46 := Try.isAgg111
  z46 := Try.sizeOf111
  v46 := Try.zeroValue111
  t53 := Try.underlying98
  a53 := Try.isAgg98
  z53 := Try.sizeOf98
  v53 := Try.zeroValue98 }
theorem mul64 (x y : Int) (hx : 0 ≤ x) (hy : 0 ≤ y) (hx' : x < 18446744073709551616) (hy' : y < 18446744073709551616) (w : World) :
    Calls Try.prog 86 #[.int .u64 x, .int .u64 y] w fun e w' => e = .returned (.tuple #[.int .u64 (x * y / 18446744073709551616), .int .u64 (x * y % 18446744073709551616)]) ∧ w = w' := by
  obtain ⟨x, rfl⟩ := Int.eq_ofNat_of_zero_le hx
  obtain ⟨y, rfl⟩ := Int.eq_ofNat_of_zero_le hy
  refine (Any.bits_Mul64 mul_lays x y (by omega) (by omega) w).mono ?_
  rintro e w' ⟨rfl, rfl⟩
  exact ⟨by simp, rfl⟩

theorem hi_uh64 (n : Int) : wrap64 (uh n) = hi n := by unfold uh hi wrap64; omega
theorem u64w (n : Int) : IntKind.u64.wrap n = n % 18446744073709551616 := by rw [IntKind.wrap_u64]
theorem uh_mul' (a b : Int) : IntKind.u64.wrap (lo a * lo b / 18446744073709551616 + IntKind.u64.wrap (IntKind.u64.wrap (uh a * lo b) + IntKind.u64.wrap (lo a * uh b))) = uh (a * b) := by
  rw [← uh_mul]; simp only [u64w]; omega
theorem ret_two {k l : IntKind} {a b c d : Int} (h : a = c) (h' : b = d) : Ending.returned (.agg #[.int k a, .int l b]) = Ending.returned (.agg #[.int k c, .int l d]) := by rw [h, h']

theorem hi_of {n : Int} (h : -9223372036854775808 ≤ n) (h' : n ≤ 9223372036854775807) : n / 9223372036854775808 = hi n := by unfold hi; omega
theorem lo_wrap (n : Int) : IntKind.u64.wrap n = lo n := by rw [IntKind.wrap_u64]; unfold lo; omega

set_option maxHeartbeats 400000 in
theorem limb_Of (n : Int) (w : World) (h : -9223372036854775808 ≤ n) (h' : n ≤ 9223372036854775807) :
    Calls Try.prog 80 #[.int .i64 n] w fun e w' => e = .returned (.agg #[.int .i64 (hi n), .int .u64 (lo n)]) ∧ Below w.heap.size w w' := by
  have e1 := hi_of h h'; have e2 := lo_wrap n
  go_enter Try.func80, Try.ntmps80
  go_wp2
  go_returns
  exact ⟨rfl, by go_grown⟩
set_option maxHeartbeats 400000 in
theorem limb_Add (a b : Int) (w : World) :
    Calls Try.prog 75 #[.agg #[.int .i64 (hi a), .int .u64 (lo a)], .agg #[.int .i64 (hi b), .int .u64 (lo b)]] w fun e w' => e = .returned (.agg #[.int .i64 (hi (a + b)), .int .u64 (lo (a + b))]) ∧ Below w.heap.size w w' := by
  have a0 := lo_0 a; have a1 := lo_1 a; have b0 := lo_0 b; have b1 := lo_1 b
  have a2 := uh_0 a; have b2 := uh_0 b
  have k0 : 0 ≤ (lo a + lo b) / 18446744073709551616 := by omega
  have k1 : (lo a + lo b) / 18446744073709551616 ≤ 1 := by omega
  have ea := uh_hi a; have eb := uh_hi b; have el := lo_add a b; have eu := uh_add a b; have eh := hi_uh (a + b)
  go_enter Try.func75, Try.ntmps75
  go_wp2_with (first | simp only [add64_0 (lo a) (lo b) a0 b0] | simp only [add64 (uh a) (uh b) _ a2 b2 k0 k1])
  go_returns
  exact ⟨rfl, by go_grown⟩
set_option maxHeartbeats 400000 in
theorem limb_Sub (a b : Int) (w : World) :
    Calls Try.prog 82 #[.agg #[.int .i64 (hi a), .int .u64 (lo a)], .agg #[.int .i64 (hi b), .int .u64 (lo b)]] w fun e w' => e = .returned (.agg #[.int .i64 (hi (a - b)), .int .u64 (lo (a - b))]) ∧ Below w.heap.size w w' := by
  have a0 := lo_0 a; have b0 := lo_0 b; have b1 : lo b < 18446744073709551616 := by have := lo_1 b; omega
  have a2 := uh_0 a; have b2 := uh_0 b; have b3 : uh b < 18446744073709551616 := by have := uh_1 b; omega
  have k0 := bor_0 (lo a) (lo b); have k1 := bor_1 (lo a) (lo b)
  have ea := uh_hi a; have eb := uh_hi b; have el := lo_sub a b; have eu := uh_sub a b; have eh := hi_uh (a - b)
  go_enter Try.func82, Try.ntmps82
  go_wp2_with (first | simp only [sub64_0 (lo a) (lo b) a0 b0 b1] | simp only [sub64 (uh a) (uh b) _ a2 b2 b3 k0 k1])
  go_returns
  exact ⟨rfl, by go_grown⟩
set_option maxHeartbeats 400000 in
theorem limb_Neg (a : Int) (w : World) :
    Calls Try.prog 74 #[.agg #[.int .i64 (hi a), .int .u64 (lo a)]] w fun e w' => e = .returned (.agg #[.int .i64 (hi (-a)), .int .u64 (lo (-a))]) ∧ Below w.heap.size w w' := by
  have h := limb_Sub 0 a
  rw [hi_zero, lo_zero, Int.zero_sub] at h
  have H := Lib.hid h; clear h
  go_enter Try.func74, Try.ntmps74
  go_wp2_with (go_at_call 82; refine (H.out _).mono ?_; rintro e w1 ⟨rfl, hb⟩; obtain ⟨hc, hf⟩ := bcell hb; have hz := hb.size; simp at hz; have hB := after (w := w) (by go_grown) hb)
  refine bodyPost_ret (v := .agg #[.int .i64 (hi (-a)), .int .u64 (lo (-a))]) (by simp [results, Try.results74, go_sem, hc]) rfl ⟨rfl, by go_grown⟩
set_option maxHeartbeats 400000 in
theorem limb_Mul (a b : Int) (w : World) :
    Calls Try.prog 79 #[.agg #[.int .i64 (hi a), .int .u64 (lo a)], .agg #[.int .i64 (hi b), .int .u64 (lo b)]] w fun e w' => e = .returned (.agg #[.int .i64 (hi (a * b)), .int .u64 (lo (a * b))]) ∧ Below w.heap.size w w' := by
  have a0 := lo_0 a; have b0 := lo_0 b; have a1 := lo_1 a; have b1 := lo_1 b
  have hm := mul64 (lo a) (lo b) a0 b0 (by omega) (by omega)
  have H := Lib.hid hm; clear hm
  have ea := uh_hi a; have eb := uh_hi b; have el := lo_mul a b; have eu := uh_mul' a b; have eh := hi_uh64 (a * b)
  go_enter Try.func79, Try.ntmps79
  go_wp2_with (go_at_call 86; refine (H.out _).mono ?_; rintro e w1 ⟨rfl, rfl⟩)
  go_returns
  exact ⟨rfl, by go_grown⟩
end Go.Proofs.Ytdglijdiiggdgaa
/- What orient's reckonings answer. -/
namespace Go.Proofs.Ytdglijdiiggdgaa
open Go.RowKit Go.Shelf

def I64 (n : Int) : Prop := -9223372036854775808 ≤ n ∧ n ≤ 9223372036854775807

set_option maxHeartbeats 400000 in
theorem limb_OfI (a : Int) (ha : I64 a) (w : World) :
    Calls Try.prog 80 #[.int .i64 a] w fun e w' => e = .returned (.agg #[.int .i64 (hi a), .int .u64 (lo a)]) ∧ Below w.heap.size w w' := limb_Of a w ha.1 ha.2
set_option maxHeartbeats 400000 in
theorem limb_Prod (a b : Int) (ha : I64 a) (hb : I64 b) (w : World) :
    Calls Try.prog 87 #[.int .i64 a, .int .i64 b] w fun e w' => e = .returned (.agg #[.int .i64 (hi (a * b)), .int .u64 (lo (a * b))]) ∧ Below w.heap.size w w' := by
  obtain ⟨a0, a1⟩ := ha
  obtain ⟨b0, b1⟩ := hb
  go_enter Try.func87, Try.ntmps87
  go_wp2_with fail
  refine (limb_Of a _ a0 a1).mono ?_; rintro e w1 ⟨rfl, hX⟩
  go_wp2_with fail
  refine (limb_Of b _ b0 b1).mono ?_; rintro e w2 ⟨rfl, hb⟩; replace hX := after hX hb; clear hb
  go_wp2_with fail
  refine (limb_Mul a b _).mono ?_; rintro e w3 ⟨rfl, hb⟩; replace hX := after hX hb; clear hb
  obtain ⟨hc, hf⟩ := bcell hX
  have hz := hX.size; simp at hz
  have hB := after (w := w) (by go_grown) hX
  go_wp2
  refine bodyPost_ret (v := .agg #[.int .i64 (hi (a * b)), .int .u64 (lo (a * b))]) (by simp [results, Try.results87, go_sem, hc]) rfl ⟨rfl, by go_grown⟩

set_option maxHeartbeats 400000 in
theorem orient_minor (a b c d : Int) (ha : I64 a) (hb : I64 b) (hc : I64 c) (hd : I64 d) (w : World) :
    Calls Try.prog 81 #[.int .i64 a, .int .i64 b, .int .i64 c, .int .i64 d] w fun e w' => e = .returned (.agg #[.int .i64 (hi (a * d - b * c)), .int .u64 (lo (a * d - b * c))]) ∧ Below w.heap.size w w' := by
  go_enter Try.func81, Try.ntmps81
  go_wp2_with fail
  refine (limb_Prod a d ha hd _).mono ?_; rintro e w1 ⟨rfl, hX⟩
  go_wp2_with fail
  refine (limb_Prod b c hb hc _).mono ?_; rintro e w2 ⟨rfl, hb⟩; replace hX := after hX hb; clear hb
  go_wp2_with fail
  refine (limb_Sub (a * d) (b * c) _).mono ?_; rintro e w3 ⟨rfl, hb⟩; replace hX := after hX hb; clear hb
  obtain ⟨hc, hf⟩ := bcell hX
  have hz := hX.size; simp at hz
  have hB := after (w := w) (by go_grown) hX
  go_wp2
  refine bodyPost_ret (v := .agg #[.int .i64 (hi (a * d - b * c)), .int .u64 (lo (a * d - b * c))]) (by simp [results, Try.results81, go_sem, hc]) rfl ⟨rfl, by go_grown⟩

def det3 (p0 p1 p2 q0 q1 q2 r0 r1 r2 : Int) : Int := p0 * (q1 * r2 - q2 * r1) + p1 * (q2 * r0 - q0 * r2) + p2 * (q0 * r1 - q1 * r0)

set_option maxRecDepth 100000 in
set_option maxHeartbeats 1000000 in
theorem orient_three0 (p0 p1 p2 q0 q1 q2 r0 r1 r2 : Int) (h1 : I64 p0) (h2 : I64 p1) (h3 : I64 p2) (h4 : I64 q0) (h5 : I64 q1) (h6 : I64 q2) (h7 : I64 r0) (h8 : I64 r1) (h9 : I64 r2) (w : World) :
    Calls Try.prog 72 #[.agg #[.int .i64 p0, .int .i64 p1, .int .i64 p2], .agg #[.int .i64 q0, .int .i64 q1, .int .i64 q2], .agg #[.int .i64 r0, .int .i64 r1, .int .i64 r2]] w fun e w' => e = .returned (.agg #[.int .i64 (hi (p0 * (q1 * r2 - q2 * r1) + p1 * (q2 * r0 - q0 * r2) + p2 * (q0 * r1 - q1 * r0))), .int .u64 (lo (p0 * (q1 * r2 - q2 * r1) + p1 * (q2 * r0 - q0 * r2) + p2 * (q0 * r1 - q1 * r0)))]) ∧ Below w.heap.size w w' := by
  go_enter Try.func72, Try.ntmps72
  go_wp2_with fail
  refine wp_named ?_
  intro W1 hW
  have k0 : W1.heap[w.heap.size]? = some (.cells #[.int .i64 p0, .int .i64 p1, .int .i64 p2] 44 (0, 0)) := by rw [hW]; repeat (first | exact heap_at (by simp <;> omega) | rw [heap_old (by simp <;> omega)])
  have z0 : w.heap.size < W1.heap.size := by rw [hW]; simp <;> omega
  have k1 : W1.heap[w.heap.size + 1]? = some (.cells #[.int .i64 q0, .int .i64 q1, .int .i64 q2] 44 (0, 0)) := by rw [hW]; repeat (first | exact heap_at (by simp <;> omega) | rw [heap_old (by simp <;> omega)])
  have z1 : w.heap.size + 1 < W1.heap.size := by rw [hW]; simp <;> omega
  have k2 : W1.heap[w.heap.size + 1 + 1]? = some (.cells #[.int .i64 r0, .int .i64 r1, .int .i64 r2] 44 (0, 0)) := by rw [hW]; repeat (first | exact heap_at (by simp <;> omega) | rw [heap_old (by simp <;> omega)])
  have z2 : w.heap.size + 1 + 1 < W1.heap.size := by rw [hW]; simp <;> omega
  have k3 : W1.heap[w.heap.size + 1 + 1 + 1]? = some (.cells #[.int .i64 0, .int .u64 0] 108 (0, 0)) := by rw [hW]; repeat (first | exact heap_at (by simp <;> omega) | rw [heap_old (by simp <;> omega)])
  have z3 : w.heap.size + 1 + 1 + 1 < W1.heap.size := by rw [hW]; simp <;> omega
  have hB : Below w.heap.size w W1 := by rw [hW]; go_grown
  clear hW
  obtain ⟨kq0, kr0⟩ := cellB k0
  obtain ⟨kq1, kr1⟩ := cellB k1
  obtain ⟨kq2, kr2⟩ := cellB k2
  obtain ⟨kq3, kr3⟩ := cellB k3
  refine wp_calm1 13 (.cells #[.int .i64 0, .int .u64 0] 108) (some 7) (by kernel_rfl) (by kernel_rfl) rfl (fun o ho a w => by cases ho; go_simp) ?_
  intro C hC
  repeat (refine wpCalm_step (fun K hK => ?_); go_simp; first | (refine hK _ ?_; clear hK K) | (apply Exists.intro; refine ⟨fun wc hw => ?_, hK _ ?_⟩; (obtain ⟨hc, hf⟩ := bcell (hC wc hw); go_simp; first | exact rfl | exact limb_OfI _ (by assumption) _ | exact orient_minor _ _ _ _ (by assumption) (by assumption) (by assumption) (by assumption) _ | exact limb_Mul _ _ _); clear hK K))
  refine wpCalm_nil ?_
  clear hC C
  clear kq0 kr0 kq1 kr1 kq2 kr2 kq3 kr3
  intro W2 b4 hX hb hblk
  have o0_4 : w.heap.size < b4 := Nat.lt_of_lt_of_le z0 hb
  have o1_4 : w.heap.size + 1 < b4 := Nat.lt_of_lt_of_le z1 hb
  have o2_4 : w.heap.size + 1 + 1 < b4 := Nat.lt_of_lt_of_le z2 hb
  have o3_4 : w.heap.size + 1 + 1 + 1 < b4 := Nat.lt_of_lt_of_le z3 hb
  clear hb
  replace k0 := (hX.block _ z0).trans k0
  replace z0 := Nat.lt_of_lt_of_le z0 hX.size
  replace k1 := (hX.block _ z1).trans k1
  replace z1 := Nat.lt_of_lt_of_le z1 hX.size
  replace k2 := (hX.block _ z2).trans k2
  replace z2 := Nat.lt_of_lt_of_le z2 hX.size
  replace k3 := (hX.block _ z3).trans k3
  replace z3 := Nat.lt_of_lt_of_le z3 hX.size
  replace hB := after hB hX
  have k4 := hblk
  have z4 := (Array.getElem?_eq_some_iff.1 hblk).1
  clear hblk
  clear hX
  simp only [List.drop_succ_cons, List.drop_zero]
  obtain ⟨kq0, kr0⟩ := cellB k0
  obtain ⟨kq1, kr1⟩ := cellB k1
  obtain ⟨kq2, kr2⟩ := cellB k2
  obtain ⟨kq3, kr3⟩ := cellB k3
  obtain ⟨kq4, kr4⟩ := cellB k4
  go_wp2_with fail
  clear kq0 kr0 kq1 kr1 kq2 kr2 kq3 kr3 kq4 kr4
  refine wp_named ?_
  intro W3 hW0
  have hW : W3 = storeAll W2 b4 0 [.int .i64 (hi (p0 * (q1 * r2 - q2 * r1))), .int .u64 (lo (p0 * (q1 * r2 - q2 * r1)))] := hW0
  clear hW0
  replace k0 := kept hW (by omega) k0
  replace z0 := Nat.lt_of_lt_of_eq z0 (sized hW).symm
  replace k1 := kept hW (by omega) k1
  replace z1 := Nat.lt_of_lt_of_eq z1 (sized hW).symm
  replace k2 := kept hW (by omega) k2
  replace z2 := Nat.lt_of_lt_of_eq z2 (sized hW).symm
  replace k3 := kept hW (by omega) k3
  replace z3 := Nat.lt_of_lt_of_eq z3 (sized hW).symm
  replace k4 := made (cs := [.int .i64 0, .int .u64 0]) hW k4 rfl
  replace z4 := Nat.lt_of_lt_of_eq z4 (sized hW).symm
  replace hB := below hW hB (by omega)
  clear hW
  obtain ⟨kq0, kr0⟩ := cellB k0
  obtain ⟨kq1, kr1⟩ := cellB k1
  obtain ⟨kq2, kr2⟩ := cellB k2
  obtain ⟨kq3, kr3⟩ := cellB k3
  obtain ⟨kq4, kr4⟩ := cellB k4
  refine wp_calm1 13 (.cells #[.int .i64 0, .int .u64 0] 108) (some 8) (by kernel_rfl) (by kernel_rfl) rfl (fun o ho a w => by cases ho; go_simp) ?_
  intro C hC
  repeat (refine wpCalm_step (fun K hK => ?_); go_simp; first | (refine hK _ ?_; clear hK K) | (apply Exists.intro; refine ⟨fun wc hw => ?_, hK _ ?_⟩; (obtain ⟨hc, hf⟩ := bcell (hC wc hw); go_simp; first | exact rfl | exact limb_OfI _ (by assumption) _ | exact orient_minor _ _ _ _ (by assumption) (by assumption) (by assumption) (by assumption) _ | exact limb_Mul _ _ _); clear hK K))
  refine wpCalm_nil ?_
  clear hC C
  clear kq0 kr0 kq1 kr1 kq2 kr2 kq3 kr3 kq4 kr4
  intro W4 b5 hX hb hblk
  have o0_5 : w.heap.size < b5 := Nat.lt_of_lt_of_le z0 hb
  have o1_5 : w.heap.size + 1 < b5 := Nat.lt_of_lt_of_le z1 hb
  have o2_5 : w.heap.size + 1 + 1 < b5 := Nat.lt_of_lt_of_le z2 hb
  have o3_5 : w.heap.size + 1 + 1 + 1 < b5 := Nat.lt_of_lt_of_le z3 hb
  have o4_5 : b4 < b5 := Nat.lt_of_lt_of_le z4 hb
  clear hb
  replace k0 := (hX.block _ z0).trans k0
  replace z0 := Nat.lt_of_lt_of_le z0 hX.size
  replace k1 := (hX.block _ z1).trans k1
  replace z1 := Nat.lt_of_lt_of_le z1 hX.size
  replace k2 := (hX.block _ z2).trans k2
  replace z2 := Nat.lt_of_lt_of_le z2 hX.size
  replace k3 := (hX.block _ z3).trans k3
  replace z3 := Nat.lt_of_lt_of_le z3 hX.size
  replace k4 := (hX.block _ z4).trans k4
  replace z4 := Nat.lt_of_lt_of_le z4 hX.size
  replace hB := after hB hX
  have k5 := hblk
  have z5 := (Array.getElem?_eq_some_iff.1 hblk).1
  clear hblk
  clear hX
  simp only [List.drop_succ_cons, List.drop_zero]
  obtain ⟨kq0, kr0⟩ := cellB k0
  obtain ⟨kq1, kr1⟩ := cellB k1
  obtain ⟨kq2, kr2⟩ := cellB k2
  obtain ⟨kq3, kr3⟩ := cellB k3
  obtain ⟨kq4, kr4⟩ := cellB k4
  obtain ⟨kq5, kr5⟩ := cellB k5
  go_wp2_with fail
  clear kq0 kr0 kq1 kr1 kq2 kr2 kq3 kr3 kq4 kr4 kq5 kr5
  refine wp_named ?_
  intro W5 hW0
  have hW : W5 = storeAll W4 b5 0 [.int .i64 (hi (p1 * (q2 * r0 - q0 * r2))), .int .u64 (lo (p1 * (q2 * r0 - q0 * r2)))] := hW0
  clear hW0
  replace k0 := kept hW (by omega) k0
  replace z0 := Nat.lt_of_lt_of_eq z0 (sized hW).symm
  replace k1 := kept hW (by omega) k1
  replace z1 := Nat.lt_of_lt_of_eq z1 (sized hW).symm
  replace k2 := kept hW (by omega) k2
  replace z2 := Nat.lt_of_lt_of_eq z2 (sized hW).symm
  replace k3 := kept hW (by omega) k3
  replace z3 := Nat.lt_of_lt_of_eq z3 (sized hW).symm
  replace k4 := kept hW (by omega) k4
  replace z4 := Nat.lt_of_lt_of_eq z4 (sized hW).symm
  replace k5 := made (cs := [.int .i64 0, .int .u64 0]) hW k5 rfl
  replace z5 := Nat.lt_of_lt_of_eq z5 (sized hW).symm
  replace hB := below hW hB (by omega)
  clear hW
  obtain ⟨kq0, kr0⟩ := cellB k0
  obtain ⟨kq1, kr1⟩ := cellB k1
  obtain ⟨kq2, kr2⟩ := cellB k2
  obtain ⟨kq3, kr3⟩ := cellB k3
  obtain ⟨kq4, kr4⟩ := cellB k4
  obtain ⟨kq5, kr5⟩ := cellB k5
  refine wp_calm1 13 (.cells #[.int .i64 0, .int .u64 0] 108) (some 9) (by kernel_rfl) (by kernel_rfl) rfl (fun o ho a w => by cases ho; go_simp) ?_
  intro C hC
  repeat (refine wpCalm_step (fun K hK => ?_); go_simp; first | (refine hK _ ?_; clear hK K) | (apply Exists.intro; refine ⟨fun wc hw => ?_, hK _ ?_⟩; (obtain ⟨hc, hf⟩ := bcell (hC wc hw); go_simp; first | exact rfl | exact limb_OfI _ (by assumption) _ | exact orient_minor _ _ _ _ (by assumption) (by assumption) (by assumption) (by assumption) _ | exact limb_Mul _ _ _); clear hK K))
  refine wpCalm_nil ?_
  clear hC C
  clear kq0 kr0 kq1 kr1 kq2 kr2 kq3 kr3 kq4 kr4 kq5 kr5
  intro W6 b6 hX hb hblk
  have o0_6 : w.heap.size < b6 := Nat.lt_of_lt_of_le z0 hb
  have o1_6 : w.heap.size + 1 < b6 := Nat.lt_of_lt_of_le z1 hb
  have o2_6 : w.heap.size + 1 + 1 < b6 := Nat.lt_of_lt_of_le z2 hb
  have o3_6 : w.heap.size + 1 + 1 + 1 < b6 := Nat.lt_of_lt_of_le z3 hb
  have o4_6 : b4 < b6 := Nat.lt_of_lt_of_le z4 hb
  have o5_6 : b5 < b6 := Nat.lt_of_lt_of_le z5 hb
  clear hb
  replace k0 := (hX.block _ z0).trans k0
  replace z0 := Nat.lt_of_lt_of_le z0 hX.size
  replace k1 := (hX.block _ z1).trans k1
  replace z1 := Nat.lt_of_lt_of_le z1 hX.size
  replace k2 := (hX.block _ z2).trans k2
  replace z2 := Nat.lt_of_lt_of_le z2 hX.size
  replace k3 := (hX.block _ z3).trans k3
  replace z3 := Nat.lt_of_lt_of_le z3 hX.size
  replace k4 := (hX.block _ z4).trans k4
  replace z4 := Nat.lt_of_lt_of_le z4 hX.size
  replace k5 := (hX.block _ z5).trans k5
  replace z5 := Nat.lt_of_lt_of_le z5 hX.size
  replace hB := after hB hX
  have k6 := hblk
  have z6 := (Array.getElem?_eq_some_iff.1 hblk).1
  clear hblk
  clear hX
  simp only [List.drop_succ_cons, List.drop_zero]
  obtain ⟨kq0, kr0⟩ := cellB k0
  obtain ⟨kq1, kr1⟩ := cellB k1
  obtain ⟨kq2, kr2⟩ := cellB k2
  obtain ⟨kq3, kr3⟩ := cellB k3
  obtain ⟨kq4, kr4⟩ := cellB k4
  obtain ⟨kq5, kr5⟩ := cellB k5
  obtain ⟨kq6, kr6⟩ := cellB k6
  go_wp2_with fail
  clear kq0 kr0 kq1 kr1 kq2 kr2 kq3 kr3 kq4 kr4 kq5 kr5 kq6 kr6
  refine wp_named ?_
  intro W7 hW0
  have hW : W7 = storeAll W6 b6 0 [.int .i64 (hi (p2 * (q0 * r1 - q1 * r0))), .int .u64 (lo (p2 * (q0 * r1 - q1 * r0)))] := hW0
  clear hW0
  replace k0 := kept hW (by omega) k0
  replace z0 := Nat.lt_of_lt_of_eq z0 (sized hW).symm
  replace k1 := kept hW (by omega) k1
  replace z1 := Nat.lt_of_lt_of_eq z1 (sized hW).symm
  replace k2 := kept hW (by omega) k2
  replace z2 := Nat.lt_of_lt_of_eq z2 (sized hW).symm
  replace k3 := kept hW (by omega) k3
  replace z3 := Nat.lt_of_lt_of_eq z3 (sized hW).symm
  replace k4 := kept hW (by omega) k4
  replace z4 := Nat.lt_of_lt_of_eq z4 (sized hW).symm
  replace k5 := kept hW (by omega) k5
  replace z5 := Nat.lt_of_lt_of_eq z5 (sized hW).symm
  replace k6 := made (cs := [.int .i64 0, .int .u64 0]) hW k6 rfl
  replace z6 := Nat.lt_of_lt_of_eq z6 (sized hW).symm
  replace hB := below hW hB (by omega)
  clear hW
  obtain ⟨kq0, kr0⟩ := cellB k0
  obtain ⟨kq1, kr1⟩ := cellB k1
  obtain ⟨kq2, kr2⟩ := cellB k2
  obtain ⟨kq3, kr3⟩ := cellB k3
  obtain ⟨kq4, kr4⟩ := cellB k4
  obtain ⟨kq5, kr5⟩ := cellB k5
  obtain ⟨kq6, kr6⟩ := cellB k6
  refine wp_calm0 5 (by kernel_rfl) (by kernel_rfl) ?_
  intro C hC
  repeat (refine wpCalm_step (fun K hK => ?_); go_simp; first | (refine hK _ ?_; clear hK K) | (apply Exists.intro; refine ⟨fun wc hw => ?_, hK _ ?_⟩; (obtain ⟨hc, hf⟩ := bcell (hC wc hw); go_simp; first | exact rfl | exact limb_Add _ _ _); clear hK K))
  refine wpCalm_nil ?_
  clear hC C
  clear kq0 kr0 kq1 kr1 kq2 kr2 kq3 kr3 kq4 kr4 kq5 kr5 kq6 kr6
  intro W8 hX
  replace k0 := (hX.block _ z0).trans k0
  replace z0 := Nat.lt_of_lt_of_le z0 hX.size
  replace k1 := (hX.block _ z1).trans k1
  replace z1 := Nat.lt_of_lt_of_le z1 hX.size
  replace k2 := (hX.block _ z2).trans k2
  replace z2 := Nat.lt_of_lt_of_le z2 hX.size
  replace k3 := (hX.block _ z3).trans k3
  replace z3 := Nat.lt_of_lt_of_le z3 hX.size
  replace k4 := (hX.block _ z4).trans k4
  replace z4 := Nat.lt_of_lt_of_le z4 hX.size
  replace k5 := (hX.block _ z5).trans k5
  replace z5 := Nat.lt_of_lt_of_le z5 hX.size
  replace k6 := (hX.block _ z6).trans k6
  replace z6 := Nat.lt_of_lt_of_le z6 hX.size
  replace hB := after hB hX
  clear hX
  simp only [List.drop_succ_cons, List.drop_zero]
  obtain ⟨kq3, kr3⟩ := cellB k3
  go_wp2
  refine bodyPost_ret (v := .agg #[.int .i64 (hi (p0 * (q1 * r2 - q2 * r1) + p1 * (q2 * r0 - q0 * r2) + p2 * (q0 * r1 - q1 * r0))), .int .u64 (lo (p0 * (q1 * r2 - q2 * r1) + p1 * (q2 * r0 - q0 * r2) + p2 * (q0 * r1 - q1 * r0)))]) (by simp [results, Try.results72, go_sem, kq3]) rfl ⟨rfl, by go_grown⟩

theorem orient_three (p0 p1 p2 q0 q1 q2 r0 r1 r2 : Int) (h1 : I64 p0) (h2 : I64 p1) (h3 : I64 p2) (h4 : I64 q0) (h5 : I64 q1) (h6 : I64 q2) (h7 : I64 r0) (h8 : I64 r1) (h9 : I64 r2) (w : World) :
    Calls Try.prog 72 #[.agg #[.int .i64 p0, .int .i64 p1, .int .i64 p2], .agg #[.int .i64 q0, .int .i64 q1, .int .i64 q2], .agg #[.int .i64 r0, .int .i64 r1, .int .i64 r2]] w fun e w' =>
      e = .returned (.agg #[.int .i64 (hi (det3 p0 p1 p2 q0 q1 q2 r0 r1 r2)), .int .u64 (lo (det3 p0 p1 p2 q0 q1 q2 r0 r1 r2))]) ∧ Below w.heap.size w w' :=
  orient_three0 p0 p1 p2 q0 q1 q2 r0 r1 r2 h1 h2 h3 h4 h5 h6 h7 h8 h9 w
end Go.Proofs.Ytdglijdiiggdgaa
/- What orient's smaller functions answer: differences, rows, bounds, the determinant. -/
namespace Go.Proofs.Ytdglijdiiggdgaa
open Go.RowKit

/-- A coordinate that may be loaded. -/
def Co (n : Int) : Prop := -1073741824 ≤ n ∧ n ≤ 1073741824

set_option maxRecDepth 100000 in
set_option maxHeartbeats 400000 in
theorem orient_less (a b c d e f : Int) (ha : Co a) (hb : Co b) (hc : Co c) (hd : Co d) (he : Co e) (hf : Co f) (w : World) :
    Calls Try.prog 61 #[.agg #[.int .i64 a, .int .i64 b, .int .i64 c], .agg #[.int .i64 d, .int .i64 e, .int .i64 f]] w fun e' w' =>
      e' = .returned (.agg #[.int .i64 (a - d), .int .i64 (b - e), .int .i64 (c - f)]) ∧ Below w.heap.size w w' := by
  obtain ⟨_, _⟩ := ha; obtain ⟨_, _⟩ := hb; obtain ⟨_, _⟩ := hc; obtain ⟨_, _⟩ := hd; obtain ⟨_, _⟩ := he; obtain ⟨_, _⟩ := hf
  go_enter Try.func61, Try.ntmps61
  go_wp2
  go_returns
  exact ⟨rfl, by go_grown⟩

set_option maxRecDepth 100000 in
set_option maxHeartbeats 400000 in
theorem orient_row (a b c : Int) (w : World) :
    Calls Try.prog 73 #[.agg #[.int .i64 a, .int .i64 b, .int .i64 c]] w fun e' w' =>
      e' = .returned (.agg #[.int .i64 a, .int .i64 b, .int .i64 c]) ∧ Below w.heap.size w w' := by
  go_enter Try.func73, Try.ntmps73
  go_wp2
  go_returns
  exact ⟨rfl, by go_grown⟩

/-- May a coordinate be loaded? -/
def co (n : Int) : Bool := decide (-1073741824 ≤ n) && decide (n ≤ 1073741824)
theorem co_iff (n : Int) : co n = true ↔ Co n := by unfold co Co; simp

set_option maxHeartbeats 400000 in
theorem orient_may1 (n : Int) (w : World) :
    Calls Try.prog 59 #[.int .i64 n] w fun e' w' => e' = .returned (.bool (co n)) ∧ w = w' := by
  unfold co
  by_cases h : -1073741824 ≤ n
  · go_enter Try.func59, Try.ntmps59
    go_wp2
    go_ret
    simp [h]
  · have h' : ¬ (-1073741824 ≤ n) := h
    go_enter Try.func59, Try.ntmps59
    go_wp2
    go_ret
    simp
    omega

set_option maxRecDepth 100000 in
set_option maxHeartbeats 400000 in
theorem orient_may (a b c : Int) (w : World) :
    Calls Try.prog 51 #[.agg #[.int .i64 a, .int .i64 b, .int .i64 c]] w fun e' w' => e' = .returned (.bool (co a && co b && co c)) ∧ Below w.heap.size w w' := by
  cases ea : co a with
  | false =>
    have h1 := orient_may1 a; rw [ea] at h1; have H1 := Lib.hid h1; clear h1 ea
    go_enter Try.func51, Try.ntmps51
    go_wp2_with fail
    refine (H1.out _).mono ?_; rintro e' w1 ⟨rfl, rfl⟩
    go_wp2
    go_ret
    exact ⟨by simp, by go_grown⟩
  | true =>
    have h1 := orient_may1 a; rw [ea] at h1; have H1 := Lib.hid h1; clear h1 ea
    cases eb : co b with
    | false =>
      have h2 := orient_may1 b; rw [eb] at h2; have H2 := Lib.hid h2; clear h2 eb
      go_enter Try.func51, Try.ntmps51
      go_wp2_with fail
      refine (H1.out _).mono ?_; rintro e' w1 ⟨rfl, rfl⟩
      go_wp2_with fail
      refine (H2.out _).mono ?_; rintro e' w1 ⟨rfl, rfl⟩
      go_wp2
      go_ret
      exact ⟨by simp, by go_grown⟩
    | true =>
      have h2 := orient_may1 b; rw [eb] at h2; have H2 := Lib.hid h2; clear h2 eb
      have H3 := Lib.hid (orient_may1 c)
      generalize co c = cc at H3 ⊢
      go_enter Try.func51, Try.ntmps51
      go_wp2_with fail
      refine (H1.out _).mono ?_; rintro e' w1 ⟨rfl, rfl⟩
      go_wp2_with fail
      refine (H2.out _).mono ?_; rintro e' w1 ⟨rfl, rfl⟩
      go_wp2_with fail
      refine (H3.out _).mono ?_; rintro e' w1 ⟨rfl, rfl⟩
      go_wp2
      go_ret
      exact ⟨by simp, by go_grown⟩
theorem sub_I64 {a b : Int} (ha : Co a) (hb : Co b) : I64 (a - b) := by unfold Co at ha hb; unfold I64; omega

set_option maxRecDepth 100000 in
set_option maxHeartbeats 1000000 in
theorem orient_det (a0 a1 a2 b0 b1 b2 c0 c1 c2 d0 d1 d2 : Int) (ha0 : Co a0) (ha1 : Co a1) (ha2 : Co a2) (hb0 : Co b0) (hb1 : Co b1) (hb2 : Co b2) (hc0 : Co c0) (hc1 : Co c1) (hc2 : Co c2) (hd0 : Co d0) (hd1 : Co d1) (hd2 : Co d2) (w : World) :
    Calls Try.prog 63 #[.agg #[.int .i64 a0, .int .i64 a1, .int .i64 a2], .agg #[.int .i64 b0, .int .i64 b1, .int .i64 b2], .agg #[.int .i64 c0, .int .i64 c1, .int .i64 c2], .agg #[.int .i64 d0, .int .i64 d1, .int .i64 d2]] w fun e w' => e = .returned (.agg #[.int .i64 (hi (det3 (a0 - d0) (a1 - d1) (a2 - d2) (b0 - d0) (b1 - d1) (b2 - d2) (c0 - d0) (c1 - d1) (c2 - d2))), .int .u64 (lo (det3 (a0 - d0) (a1 - d1) (a2 - d2) (b0 - d0) (b1 - d1) (b2 - d2) (c0 - d0) (c1 - d1) (c2 - d2)))]) ∧ Below w.heap.size w w' := by
  have ia0 := sub_I64 ha0 hd0
  have ia1 := sub_I64 ha1 hd1
  have ia2 := sub_I64 ha2 hd2
  have ib0 := sub_I64 hb0 hd0
  have ib1 := sub_I64 hb1 hd1
  have ib2 := sub_I64 hb2 hd2
  have ic0 := sub_I64 hc0 hd0
  have ic1 := sub_I64 hc1 hd1
  have ic2 := sub_I64 hc2 hd2
  go_enter Try.func63, Try.ntmps63
  go_wp2_with fail
  refine wp_named ?_
  intro W1 hW
  have k0 : W1.heap[w.heap.size]? = some (.cells #[.int .i64 a0, .int .i64 a1, .int .i64 a2] 73 (0, 0)) := by rw [hW]; repeat (first | exact heap_at (by simp <;> omega) | rw [heap_old (by simp <;> omega)])
  have z0 : w.heap.size < W1.heap.size := by rw [hW]; simp <;> omega
  have k1 : W1.heap[w.heap.size + 1]? = some (.cells #[.int .i64 b0, .int .i64 b1, .int .i64 b2] 73 (0, 0)) := by rw [hW]; repeat (first | exact heap_at (by simp <;> omega) | rw [heap_old (by simp <;> omega)])
  have z1 : w.heap.size + 1 < W1.heap.size := by rw [hW]; simp <;> omega
  have k2 : W1.heap[w.heap.size + 1 + 1]? = some (.cells #[.int .i64 c0, .int .i64 c1, .int .i64 c2] 73 (0, 0)) := by rw [hW]; repeat (first | exact heap_at (by simp <;> omega) | rw [heap_old (by simp <;> omega)])
  have z2 : w.heap.size + 1 + 1 < W1.heap.size := by rw [hW]; simp <;> omega
  have k3 : W1.heap[w.heap.size + 1 + 1 + 1]? = some (.cells #[.int .i64 d0, .int .i64 d1, .int .i64 d2] 73 (0, 0)) := by rw [hW]; repeat (first | exact heap_at (by simp <;> omega) | rw [heap_old (by simp <;> omega)])
  have z3 : w.heap.size + 1 + 1 + 1 < W1.heap.size := by rw [hW]; simp <;> omega
  have k4 : W1.heap[w.heap.size + 1 + 1 + 1 + 1]? = some (.cells #[.int .i64 0, .int .u64 0] 108 (0, 0)) := by rw [hW]; repeat (first | exact heap_at (by simp <;> omega) | rw [heap_old (by simp <;> omega)])
  have z4 : w.heap.size + 1 + 1 + 1 + 1 < W1.heap.size := by rw [hW]; simp <;> omega
  have hB : Below w.heap.size w W1 := by rw [hW]; go_grown
  clear hW
  obtain ⟨kq0, kr0⟩ := cellB k0
  obtain ⟨kq1, kr1⟩ := cellB k1
  obtain ⟨kq2, kr2⟩ := cellB k2
  obtain ⟨kq3, kr3⟩ := cellB k3
  obtain ⟨kq4, kr4⟩ := cellB k4
  refine wp_calm0 13 (by kernel_rfl) (by kernel_rfl) ?_
  intro C hC
  repeat (refine wpCalm_step (fun K hK => ?_); go_simp; first | (refine hK _ ?_; clear hK K) | (apply Exists.intro; refine ⟨fun wc hw => ?_, hK _ ?_⟩; (obtain ⟨hc, hf⟩ := bcell (hC wc hw); go_simp; first | exact rfl | exact orient_less _ _ _ _ _ _ (by assumption) (by assumption) (by assumption) (by assumption) (by assumption) (by assumption) _ | exact orient_row _ _ _ _ | exact orient_three _ _ _ _ _ _ _ _ _ (by assumption) (by assumption) (by assumption) (by assumption) (by assumption) (by assumption) (by assumption) (by assumption) (by assumption) _); clear hK K))
  refine wpCalm_nil ?_
  clear hC C
  clear kq0 kr0 kq1 kr1 kq2 kr2 kq3 kr3 kq4 kr4
  intro W2 hX
  replace k0 := (hX.block _ z0).trans k0
  replace z0 := Nat.lt_of_lt_of_le z0 hX.size
  replace k1 := (hX.block _ z1).trans k1
  replace z1 := Nat.lt_of_lt_of_le z1 hX.size
  replace k2 := (hX.block _ z2).trans k2
  replace z2 := Nat.lt_of_lt_of_le z2 hX.size
  replace k3 := (hX.block _ z3).trans k3
  replace z3 := Nat.lt_of_lt_of_le z3 hX.size
  replace k4 := (hX.block _ z4).trans k4
  replace z4 := Nat.lt_of_lt_of_le z4 hX.size
  replace hB := after hB hX
  clear hX
  simp only [List.drop_succ_cons, List.drop_zero]
  obtain ⟨kq4, kr4⟩ := cellB k4
  go_wp2
  refine bodyPost_ret (v := .agg #[.int .i64 (hi (det3 (a0 - d0) (a1 - d1) (a2 - d2) (b0 - d0) (b1 - d1) (b2 - d2) (c0 - d0) (c1 - d1) (c2 - d2))), .int .u64 (lo (det3 (a0 - d0) (a1 - d1) (a2 - d2) (b0 - d0) (b1 - d1) (b2 - d2) (c0 - d0) (c1 - d1) (c2 - d2)))]) (by simp [results, Try.results63, go_sem, kq4]) rfl ⟨rfl, by go_grown⟩

end Go.Proofs.Ytdglijdiiggdgaa
/- Floats of 64 bits that stand for whole numbers (times a power of two): what rounding does to them. No Go here. -/
namespace Go.Proofs.Ytdglijdiiggdgaa
open Ieee

theorem two_pos (n : Nat) : 0 < 2 ^ n := Nat.two_pow_pos n

/-- The word of a rung below infinity is read back. -/
theorem read_word (s : Bool) (rung : Nat) (h : rung < 2047 * 2 ^ 52) :
    double.read (double.word s rung) = if rung < 2 ^ 52 then .number s rung (-1074) else .number s (2 ^ 52 + rung % 2 ^ 52) (-1074 + (rung / 2 ^ 52 - 1 : Nat)) := by
  have hsw : double.signWeight = 2 ^ 63 := rfl
  have hb : double.binade = 2 ^ 52 := rfl
  have hi : double.infRung = 2047 * 2 ^ 52 := rfl
  have hl : double.leastPlace = -1074 := rfl
  have hw : double.word s rung / 2 ^ 63 % 2 = (if s then 1 else 0) ∧ double.word s rung % 2 ^ 63 = rung := by
    unfold Format.word
    rw [hsw]
    cases s
    · simp only [Bool.false_eq_true, if_false]; omega
    · simp only [if_true]; omega
  unfold Format.read
  rw [hsw, hb, hi, hl]
  simp only [hw.2]
  have hneg : (double.word s rung / 2 ^ 63 % 2 == 1) = s := by
    rw [hw.1]; cases s <;> rfl
  rw [hneg]
  by_cases hr : rung < 2 ^ 52
  · rw [if_pos hr, if_pos hr]
  · rw [if_neg hr, if_neg hr, if_pos h]

/-- Round to the nearest whole multiple of 2 ^ drop. -/
theorem cut_spec (s : Bool) (n drop : Nat) (hd : drop ≤ n.log2 + 2) :
    2 * (Toward.even.cut s n drop * 2 ^ drop) ≤ 2 * n + 2 ^ drop ∧ 2 * n ≤ 2 * (Toward.even.cut s n drop * 2 ^ drop) + 2 ^ drop ∧
      (n % 2 ^ drop = 0 → Toward.even.cut s n drop * 2 ^ drop = n) ∧ n / 2 ^ drop ≤ Toward.even.cut s n drop ∧ Toward.even.cut s n drop ≤ n / 2 ^ drop + 1 := by
  unfold Toward.cut
  rw [Nat.min_eq_left hd, Nat.one_shiftLeft]
  dsimp only
  have hp := two_pos drop
  have hdm := Nat.div_add_mod n (2 ^ drop)
  have hml := Nat.mod_lt n hp
  generalize 2 ^ drop = g at *
  generalize hq : n / g = q at *
  generalize hr : n % g = r at *
  have hmul : g * q = q * g := Nat.mul_comm _ _
  by_cases h1 : g < 2 * r
  · simp only [h1, decide_true, Bool.true_or, Bool.toNat_true]
    rw [Nat.add_mul]
    refine ⟨by omega, by omega, fun h => by omega, by omega, by omega⟩
  · by_cases h2 : (g == 2 * r && q % 2 == 1) = true
    · have h3 : g = 2 * r := by simpa using (Bool.and_eq_true_iff.1 h2).1
      simp only [h1, decide_false, Bool.false_or, h2, Bool.toNat_true]
      rw [Nat.add_mul]
      refine ⟨by omega, by omega, fun h => by omega, by omega, by omega⟩
    · have h2' : (g == 2 * r && q % 2 == 1) = false := by simpa using h2
      simp only [h1, decide_false, Bool.false_or, h2', Bool.toNat_false, Nat.add_zero]
      refine ⟨by omega, by omega, fun h => by omega, by omega, by omega⟩

/-- The datum stands for x / 2 ^ k. -/
def Stands (d : Datum) (x : Int) (k : Int) : Prop := ∃ s m e, d = .number s m e ∧ (if s then -(m : Int) else m) * 2 ^ (e + k).toNat = x * 2 ^ (-(e + k)).toNat
def Rep (b : Nat) (x : Int) (k : Int) : Prop := Stands (double.read b) x k

theorem pow_cancel {a b : Int} {n : Nat} (h : a * 2 ^ n = b * 2 ^ n) : a = b := by
  have hp : (2 : Int) ^ n ≠ 0 := Int.ne_of_gt (Int.pow_pos (by decide))
  exact Int.eq_of_mul_eq_mul_right hp h

/-- A rung made of a significand and a place. -/
theorem stands_rung (s : Bool) (kept : Nat) (t : Nat) (h1 : 2 ^ 52 ≤ kept) (h2 : kept ≤ 2 ^ 53) (ht : t < 2000) :
    ∃ m e, double.read (double.word s (t * 2 ^ 52 + kept)) = .number s m e ∧ (m = kept ∧ e = (t : Int) - 1074 ∨ m = 2 ^ 52 ∧ kept = 2 ^ 53 ∧ e = (t : Int) - 1073) := by
  have hlt : t * 2 ^ 52 + kept < 2047 * 2 ^ 52 := by omega
  rw [read_word s _ hlt, if_neg (by omega)]
  by_cases hk : kept = 2 ^ 53
  · refine ⟨_, _, rfl, .inr ⟨by omega, hk, by omega⟩⟩
  · refine ⟨_, _, rfl, .inl ⟨by omega, by omega⟩⟩

theorem nearest_small (s : Bool) (m : Nat) (e : Int) (hm : m ≠ 0) (ht0 : -1074 ≤ e + m.log2 - 52) (ht1 : e + m.log2 - 52 < 220) :
    ∃ kept : Nat, 2 ^ 52 ≤ kept ∧ kept ≤ 2 ^ 53 ∧ double.nearest s m e = double.word s ((e + m.log2 - 52 + 1074).toNat * 2 ^ 52 + kept) ∧
      ((m.log2 ≤ 52 → kept = m * 2 ^ (52 - m.log2)) ∧
       (52 < m.log2 → 2 * (kept * 2 ^ (m.log2 - 52)) ≤ 2 * m + 2 ^ (m.log2 - 52) ∧ 2 * m ≤ 2 * (kept * 2 ^ (m.log2 - 52)) + 2 ^ (m.log2 - 52) ∧ (m % 2 ^ (m.log2 - 52) = 0 → kept * 2 ^ (m.log2 - 52) = m))) := by
  have hlog0 : 2 ^ m.log2 ≤ m := Nat.log2_self_le hm
  have hlog1 : m < 2 ^ (m.log2 + 1) := Nat.lt_log2_self
  generalize hL : m.log2 = L at *
  have hl : double.leastPlace = -1074 := rfl
  have hf : double.fractionBits = 52 := rfl
  have hb : double.binade = 2 ^ 52 := rfl
  have hi : double.infRung = 2047 * 2 ^ 52 := rfl
  have hlast : max (e + (L : Int) - (52 : Nat)) (-1074) = e + L - 52 := by
    have : ((52 : Nat) : Int) = 52 := rfl
    rw [this]; omega
  by_cases hle : L ≤ 52
  · have e1 : (e - (e + L - 52)).toNat = 52 - L := by omega
    have e2 : (e + L - 52 - e).toNat = 0 := by omega
    have hk : Toward.even.cut s (m * 2 ^ (52 - L)) 0 = m * 2 ^ (52 - L) := by
      have := (cut_spec s (m * 2 ^ (52 - L)) 0 (Nat.zero_le _)).2.2.1 (by simp [Nat.mod_one])
      simpa using this
    have hp : 2 ^ L * 2 ^ (52 - L) = 2 ^ 52 := by rw [← Nat.pow_add]; congr 1; omega
    have hp1 : 2 ^ (L + 1) * 2 ^ (52 - L) = 2 ^ 53 := by rw [← Nat.pow_add]; congr 1; omega
    have k1 : 2 ^ 52 ≤ m * 2 ^ (52 - L) := by rw [← hp]; exact Nat.mul_le_mul_right _ hlog0
    have k2 : m * 2 ^ (52 - L) ≤ 2 ^ 53 := by rw [← hp1]; exact Nat.mul_le_mul_right _ (Nat.le_of_lt hlog1)
    refine ⟨m * 2 ^ (52 - L), k1, k2, ?_, fun _ => rfl, fun h => by omega⟩
    unfold Format.nearest
    rw [if_neg hm, hl, hf, hb, hi, hL]
    simp only [hlast, e1, e2, Nat.shiftLeft_eq, hk]
    rw [Nat.min_eq_left (by omega), show (e + (L : Int) - 52 - -1074) = e + L - 52 + 1074 by omega]
  · have e1 : (e - (e + L - 52)).toNat = 0 := by omega
    have e2 : (e + L - 52 - e).toNat = L - 52 := by omega
    obtain ⟨c1, c2, c3, c4, c5⟩ := cut_spec s m (L - 52) (by omega)
    have hp : 2 ^ 52 * 2 ^ (L - 52) = 2 ^ L := by rw [← Nat.pow_add]; congr 1; omega
    have hp1 : 2 ^ 53 * 2 ^ (L - 52) = 2 ^ (L + 1) := by rw [← Nat.pow_add]; congr 1; omega
    have q1 : 2 ^ 52 ≤ m / 2 ^ (L - 52) := by rw [Nat.le_div_iff_mul_le (two_pos _), hp]; exact hlog0
    have q2 : m / 2 ^ (L - 52) < 2 ^ 53 := by rw [Nat.div_lt_iff_lt_mul (two_pos _), hp1]; exact hlog1
    refine ⟨Toward.even.cut s m (L - 52), by omega, by omega, ?_, fun h => by omega, fun _ => ⟨c1, c2, c3⟩⟩
    unfold Format.nearest
    rw [if_neg hm, hl, hf, hb, hi, hL]
    simp only [hlast, e1, e2, Nat.shiftLeft_eq, Nat.pow_zero, Nat.mul_one]
    rw [Nat.min_eq_left (by omega), show (e + (L : Int) - 52 - -1074) = e + L - 52 + 1074 by omega]

theorem ip (a b : Nat) : (2 : Int) ^ (a + b) = 2 ^ a * 2 ^ b := Int.pow_add _ _ _
theorem ipos (a : Nat) : (0 : Int) < 2 ^ a := Int.pow_pos (by decide)
theorem icast (a : Nat) : ((2 ^ a : Nat) : Int) = 2 ^ a := by simp

/-- The magnitude's side of rounding: 'm * 2 ^ b = x * 2 ^ a' says that the number is x / 2 ^ k. -/
theorem near_mag (m : Nat) (e k : Int) (x : Nat) (hm : m ≠ 0) (hk0 : 0 ≤ k) (hk1 : k ≤ 100) (hx : x < 2 ^ 200)
    (h : m * 2 ^ (e + k).toNat = x * 2 ^ (-(e + k)).toNat) (s : Bool) :
    ∃ (y m' : Nat) (e' : Int), double.read (double.nearest s m e) = .number s m' e' ∧ m' * 2 ^ (e' + k).toNat = y * 2 ^ (-(e' + k)).toNat ∧
      2 ^ 53 * y ≤ 2 ^ 53 * x + x ∧ 2 ^ 53 * x ≤ 2 ^ 53 * y + x := by
  have hlog0 : 2 ^ m.log2 ≤ m := Nat.log2_self_le hm
  have hlog1 : m < 2 ^ (m.log2 + 1) := Nat.lt_log2_self
  have hx0 : x ≠ 0 := by
    rintro rfl
    rw [Nat.zero_mul] at h
    have := Nat.mul_pos (Nat.pos_of_ne_zero hm) (two_pos (e + k).toNat)
    omega
  -- the place of the last digit
  have ht0 : -1074 ≤ e + m.log2 - 52 := by
    apply Classical.byContradiction
    intro hn
    have hlt : (m.log2 + 1) ≤ (-(e + k)).toNat := by omega
    have h0 : (e + k).toNat = 0 := by omega
    rw [h0, Nat.pow_zero, Nat.mul_one] at h
    have h1 : 2 ^ (m.log2 + 1) ≤ 2 ^ (-(e + k)).toNat := Nat.pow_le_pow_right (by decide) hlt
    have h2 : 2 ^ (-(e + k)).toNat ≤ x * 2 ^ (-(e + k)).toNat := Nat.le_mul_of_pos_left _ (Nat.pos_of_ne_zero hx0)
    omega
  have ht1 : e + m.log2 - 52 < 220 := by
    apply Classical.byContradiction
    intro hn
    have h1 : 2 ^ (m.log2 + (e + k).toNat) ≤ m * 2 ^ (e + k).toNat := by rw [Nat.pow_add]; exact Nat.mul_le_mul_right _ hlog0
    have h2 : x * 2 ^ (-(e + k)).toNat < 2 ^ (200 + (-(e + k)).toNat) := by rw [Nat.pow_add]; exact Nat.mul_lt_mul_of_pos_right hx (two_pos _)
    have h3 : 2 ^ (200 + (-(e + k)).toNat) ≤ 2 ^ (m.log2 + (e + k).toNat) := Nat.pow_le_pow_right (by decide) (by omega)
    omega
  obtain ⟨kept, k1, k2, hnear, hlow, hhigh⟩ := nearest_small s m e hm ht0 ht1
  rw [hnear]
  obtain ⟨m', e', hread, hme⟩ := stands_rung s kept (e + m.log2 - 52 + 1074).toNat k1 k2 (by omega)
  generalize hL : m.log2 = L at *
  -- what is read is kept * 2 ^ t
  have hval : ∀ y : Nat, kept * 2 ^ (e + L - 52 + k).toNat = y * 2 ^ (-(e + L - 52 + k)).toNat → m' * 2 ^ (e' + k).toNat = y * 2 ^ (-(e' + k)).toNat := by
    intro y hy
    rcases hme with ⟨rfl, he'⟩ | ⟨rfl, hk53, he'⟩
    · have : e' = e + L - 52 := by omega
      rw [this]; exact hy
    · have hee : e' = e + L - 52 + 1 := by omega
      rw [hk53, show (2 : Nat) ^ 53 = 2 ^ 52 * 2 by rfl] at hy
      by_cases hs : 0 ≤ e + L - 52 + k
      · have a1 : (e' + k).toNat = (e + L - 52 + k).toNat + 1 := by omega
        have a2 : (-(e' + k)).toNat = 0 := by omega
        have a3 : (-(e + L - 52 + k)).toNat = 0 := by omega
        rw [a3, Nat.pow_zero, Nat.mul_one] at hy
        have e2 : 2 ^ ((e + (L : Int) - 52 + k).toNat + 1) = 2 ^ (e + (L : Int) - 52 + k).toNat * 2 := Nat.pow_succ ..
        rw [a1, a2, e2, Nat.pow_zero, Nat.mul_one, ← hy]
        generalize 2 ^ (e + (L : Int) - 52 + k).toNat = g
        omega
      · have a1 : (e' + k).toNat = 0 := by omega
        have a2 : (-(e + L - 52 + k)).toNat = (-(e' + k)).toNat + 1 := by omega
        have a3 : (e + L - 52 + k).toNat = 0 := by omega
        have e2 : y * 2 ^ ((-(e' + k)).toNat + 1) = y * 2 ^ (-(e' + k)).toNat * 2 := by rw [Nat.pow_succ, Nat.mul_assoc]
        rw [a2, a3, e2, Nat.pow_zero, Nat.mul_one] at hy
        rw [a1, Nat.pow_zero, Nat.mul_one]
        generalize y * 2 ^ (-(e' + k)).toNat = g at *
        omega
  by_cases hle : L ≤ 52
  · -- nothing is rounded
    have hkept := hlow hle
    refine ⟨x, m', e', hread, hval x ?_, by omega, by omega⟩
    rw [hkept]
    by_cases hs : 0 ≤ e + k
    · have b1 : (-(e + k)).toNat = 0 := by omega
      rw [b1, Nat.pow_zero, Nat.mul_one] at h
      rw [← h]
      by_cases hs2 : 0 ≤ e + L - 52 + k
      · have a1 : (-(e + L - 52 + k)).toNat = 0 := by omega
        have a2 : (e + k).toNat = (52 - L) + (e + L - 52 + k).toNat := by omega
        rw [a1, a2, Nat.pow_add]
        simp only [Nat.mul_assoc, Nat.pow_zero, Nat.mul_one]
      · have a1 : (e + L - 52 + k).toNat = 0 := by omega
        have a2 : 52 - L = (e + k).toNat + (-(e + L - 52 + k)).toNat := by omega
        rw [a1, a2, Nat.pow_add]
        simp only [Nat.mul_assoc, Nat.pow_zero, Nat.mul_one]
    · have b1 : (e + k).toNat = 0 := by omega
      have a1 : (e + L - 52 + k).toNat = 0 := by omega
      have a2 : (-(e + L - 52 + k)).toNat = (-(e + k)).toNat + (52 - L) := by omega
      rw [b1, Nat.pow_zero, Nat.mul_one] at h
      rw [a1, a2, h, Nat.pow_add]
      simp only [Nat.mul_assoc, Nat.pow_zero, Nat.mul_one]
  · obtain ⟨c1, c2, c3⟩ := hhigh (by omega)
    have hg : 2 ^ 52 * 2 ^ (L - 52) = 2 ^ L := by rw [← Nat.pow_add]; congr 1; omega
    by_cases hs2 : 0 ≤ e + L - 52 + k
    · -- a whole number of units
      have a1 : (-(e + L - 52 + k)).toNat = 0 := by omega
      refine ⟨kept * 2 ^ (e + L - 52 + k).toNat, m', e', hread, hval _ (by rw [a1, Nat.pow_zero, Nat.mul_one]), ?_⟩
      have hp : 0 < 2 ^ (-(e + k)).toNat := two_pos _
      have key : kept * 2 ^ (e + L - 52 + k).toNat * 2 ^ (-(e + k)).toNat = kept * 2 ^ (L - 52) * 2 ^ (e + k).toNat := by
        rw [Nat.mul_assoc, Nat.mul_assoc, ← Nat.pow_add, ← Nat.pow_add]
        congr 2
        omega
      have m1 : 2 ^ 53 * (kept * 2 ^ (L - 52)) ≤ 2 ^ 53 * m + m := by omega
      have m2 : 2 ^ 53 * m ≤ 2 ^ 53 * (kept * 2 ^ (L - 52)) + m := by omega
      have n1 := Nat.mul_le_mul_right (2 ^ (e + k).toNat) m1
      have n2 := Nat.mul_le_mul_right (2 ^ (e + k).toNat) m2
      have d1 : 2 ^ 53 * (kept * 2 ^ (L - 52)) * 2 ^ (e + k).toNat = 2 ^ 53 * (kept * 2 ^ (e + L - 52 + k).toNat * 2 ^ (-(e + k)).toNat) := by rw [key, Nat.mul_assoc]
      have d2 : 2 ^ 53 * m * 2 ^ (e + k).toNat = 2 ^ 53 * (x * 2 ^ (-(e + k)).toNat) := by rw [← h, Nat.mul_assoc]
      rw [Nat.add_mul, d1, d2, h] at n1
      rw [Nat.add_mul, d1, d2, h] at n2
      generalize kept * 2 ^ (e + L - 52 + k).toNat = y at *
      generalize 2 ^ (-(e + k)).toNat = g at *
      refine ⟨Nat.le_of_mul_le_mul_right (c := g) ?_ hp, Nat.le_of_mul_le_mul_right (c := g) ?_ hp⟩
      · rw [Nat.add_mul, Nat.mul_assoc, Nat.mul_assoc]; exact n1
      · rw [Nat.add_mul, Nat.mul_assoc, Nat.mul_assoc]; exact n2
    · -- fewer than 53 digits: exact
      have b1 : (e + k).toNat = 0 := by omega
      have a1 : (e + L - 52 + k).toNat = 0 := by omega
      rw [b1, Nat.pow_zero, Nat.mul_one] at h
      have hsplit : (-(e + k)).toNat = (L - 52) + (-(e + L - 52 + k)).toNat := by omega
      have hdiv : m % 2 ^ (L - 52) = 0 := by
        rw [h, hsplit, Nat.pow_add, ← Nat.mul_assoc, Nat.mul_comm x, Nat.mul_assoc, Nat.mul_mod_right]
      have hex := c3 hdiv
      refine ⟨x, m', e', hread, hval x ?_, by omega, by omega⟩
      rw [a1, Nat.pow_zero, Nat.mul_one]
      have h5 : kept * 2 ^ (L - 52) = x * 2 ^ (-(e + L - 52 + k)).toNat * 2 ^ (L - 52) := by
        rw [hex, h, hsplit, Nat.pow_add]
        simp only [Nat.mul_assoc, Nat.mul_comm]
      exact Nat.eq_of_mul_eq_mul_right (two_pos _) h5

theorem pos_of_mul_pos_right' {a b : Int} (h : 0 < a * b) (hb : 0 < b) : 0 < a := by
  apply Classical.byContradiction
  intro hn
  have := Int.mul_nonpos_of_nonpos_of_nonneg (show a ≤ 0 by omega) (Int.le_of_lt hb)
  omega

/-- The nearest word of x / 2 ^ k: some y / 2 ^ k, no farther from it than the 2 ^ 53th part. -/
def Near (x y : Int) : Prop := 2 ^ 53 * y - 2 ^ 53 * x ≤ x.natAbs ∧ 2 ^ 53 * x - 2 ^ 53 * y ≤ x.natAbs

theorem near_nearest {s : Bool} {m : Nat} {e k x : Int} (hk0 : 0 ≤ k) (hk1 : k ≤ 100) (hx : x.natAbs < 2 ^ 200)
    (h : (if s then -(m : Int) else m) * 2 ^ (e + k).toNat = x * 2 ^ (-(e + k)).toNat) : ∃ y, Rep (double.nearest s m e) y k ∧ Near x y := by
  by_cases hm : m = 0
  · subst hm
    have hx0 : x = 0 := by
      have h1 : x * 2 ^ (-(e + k)).toNat = 0 := by rw [← h]; cases s <;> simp
      rcases Int.mul_eq_zero.1 h1 with h2 | h2
      · exact h2
      · exact absurd h2 (Int.ne_of_gt (ipos _))
    subst hx0
    refine ⟨0, ?_, by unfold Near; simp⟩
    have hn : double.nearest s 0 e = double.word s 0 := by unfold Format.nearest; rw [if_pos rfl]
    rw [Rep, hn, read_word s 0 (by decide), if_pos (by decide)]
    exact ⟨s, 0, _, rfl, by cases s <;> simp⟩
  · have hmag : m * 2 ^ (e + k).toNat = x.natAbs * 2 ^ (-(e + k)).toNat := by
      have h1 := congrArg Int.natAbs h
      rw [Int.natAbs_mul, Int.natAbs_mul, Int.natAbs_pow, Int.natAbs_pow] at h1
      cases s <;> simpa using h1
    obtain ⟨y, m', e', hr, hy, n1, n2⟩ := near_mag m e k x.natAbs hm hk0 hk1 hx hmag s
    have hsx : (if s then -(x.natAbs : Int) else x.natAbs) = x := by
      have hp : (0 : Int) < 2 ^ (e + k).toNat := ipos _
      have hq : (0 : Int) < 2 ^ (-(e + k)).toNat := ipos _
      have hm0 : (0 : Int) < m := by omega
      cases s with
      | false =>
        simp only [Bool.false_eq_true, if_false] at h ⊢
        have : 0 < x * 2 ^ (-(e + k)).toNat := by rw [← h]; exact Int.mul_pos hm0 hp
        have : 0 < x := pos_of_mul_pos_right' this hq
        omega
      | true =>
        simp only [if_true] at h ⊢
        have : 0 < -x * 2 ^ (-(e + k)).toNat := by
          rw [Int.neg_mul, ← h, Int.neg_mul, Int.neg_neg]; exact Int.mul_pos hm0 hp
        have : 0 < -x := pos_of_mul_pos_right' this hq
        omega
    refine ⟨if s then -(y : Int) else y, ⟨s, m', e', hr, ?_⟩, ?_⟩
    · have hc := congrArg (Nat.cast (R := Int)) hy
      simp only [Int.natCast_mul, Int.natCast_pow, Int.cast_ofNat_Int] at hc
      cases s with
      | false => simpa using hc
      | true => simp only [if_true, Int.neg_mul]; rw [hc]
    · unfold Near
      have hN : ((2 : Int) ^ 53) = 9007199254740992 := by decide
      have hN2 : (2 : Nat) ^ 53 = 9007199254740992 := by decide
      rw [hN2] at n1 n2
      rw [hN]
      generalize hX : x.natAbs = X at *
      cases s with
      | false =>
        simp only [Bool.false_eq_true, if_false] at hsx ⊢
        omega
      | true =>
        simp only [if_true] at hsx ⊢
        omega

/-- Powers on both sides, moved. -/
theorem rebalance {p q : Int} {a b c d : Nat} (h : p * 2 ^ a = q * 2 ^ b) (e : a + d = b + c) : p * 2 ^ c = q * 2 ^ d := by
  have h1 : p * 2 ^ c * 2 ^ b = q * 2 ^ d * 2 ^ b := by
    rw [Int.mul_assoc, ← ip, show c + b = a + d by omega, ip, ← Int.mul_assoc, h, Int.mul_assoc, Int.mul_assoc, Int.mul_comm (2 ^ b)]
  exact pow_cancel h1

theorem sg_mul (s t : Bool) (m n : Nat) : (if s ^^ t then -((m * n : Nat) : Int) else ((m * n : Nat) : Int)) = (if s then -(m : Int) else m) * (if t then -(n : Int) else n) := by
  cases s <;> cases t <;> simp [Int.neg_mul, Int.mul_neg]

theorem mul_rep {a b : Nat} {x y k l : Int} (ha : Rep a x k) (hb : Rep b y l) (hk0 : 0 ≤ k + l) (hk1 : k + l ≤ 100) (hx : (x * y).natAbs < 2 ^ 200) :
    ∃ r z, double.mul a b = some r ∧ Rep r z (k + l) ∧ Near (x * y) z := by
  obtain ⟨s, m, i, hra, h1⟩ := ha
  obtain ⟨t, n, j, hrb, h2⟩ := hb
  have h3 : (if s ^^ t then -((m * n : Nat) : Int) else ((m * n : Nat) : Int)) * 2 ^ (i + j + (k + l)).toNat = x * y * 2 ^ (-(i + j + (k + l))).toNat := by
    rw [sg_mul]
    generalize (if s then -(m : Int) else m) = p at *
    generalize (if t then -(n : Int) else n) = q at *
    have h4 : p * q * 2 ^ ((i + k).toNat + (j + l).toNat) = x * y * 2 ^ ((-(i + k)).toNat + (-(j + l)).toNat) := by
      rw [ip, ip, show p * q * (2 ^ (i + k).toNat * 2 ^ (j + l).toNat) = (p * 2 ^ (i + k).toNat) * (q * 2 ^ (j + l).toNat) by grind, h1, h2]
      grind
    exact rebalance h4 (by omega)
  obtain ⟨z, hz, hn⟩ := near_nearest hk0 hk1 hx h3
  refine ⟨_, z, ?_, hz, hn⟩
  unfold Format.mul
  rw [hra, hrb]
  rfl

theorem signed_eq (s : Bool) (m up : Nat) : signed s m up = (if s then -(m : Int) else m) * 2 ^ up := by
  unfold signed
  rw [Nat.shiftLeft_eq]
  cases s <;> simp [Int.neg_mul]

theorem sg_abs (s : Bool) (z : Int) (h : z ≠ 0 → s = decide (z < 0)) : (if s then -(z.natAbs : Int) else z.natAbs) = z := by
  by_cases hz : z = 0
  · subst hz; cases s <;> simp
  · rw [h hz]
    by_cases hn : z < 0
    · simp only [hn, decide_true, if_true]; omega
    · simp only [hn, decide_false, Bool.false_eq_true, if_false]; omega

theorem sum_stands {d1 d2 : Datum} {x y k : Int} (h1 : Stands d1 x k) (h2 : Stands d2 y k) : ∃ d, d1.sum d2 = some d ∧ Stands d (x + y) k := by
  obtain ⟨s, m, i, rfl, h1⟩ := h1
  obtain ⟨t, n, j, rfl, h2⟩ := h2
  refine ⟨_, rfl, _, _, _, rfl, ?_⟩
  rw [sg_abs _ _ (fun h => by simp [h]), signed_eq, signed_eq]
  generalize (if s then -(m : Int) else m) = p at *
  generalize (if t then -(n : Int) else n) = q at *
  generalize hb : min i j = b at *
  have hbi : b ≤ i := by omega
  have hbj : b ≤ j := by omega
  have e1 := rebalance h1 (c := (i - b).toNat + (b + k).toNat) (d := (-(b + k)).toNat) (by omega)
  have e2 := rebalance h2 (c := (j - b).toNat + (b + k).toNat) (d := (-(b + k)).toNat) (by omega)
  rw [Int.add_mul, Int.add_mul, Int.mul_assoc, Int.mul_assoc, ← ip, ← ip, e1, e2]

theorem opp_stands {d : Datum} {x k : Int} (h : Stands d x k) : Stands d.opposite (-x) k := by
  obtain ⟨s, m, i, rfl, h1⟩ := h
  refine ⟨!s, m, i, rfl, ?_⟩
  have : (if (!s) = true then -(m : Int) else m) = -(if s = true then -(m : Int) else m) := by cases s <;> simp
  rw [this, Int.neg_mul, h1, Int.neg_mul]

theorem write_near {d : Datum} {x k : Int} (h : Stands d x k) (hk0 : 0 ≤ k) (hk1 : k ≤ 100) (hx : x.natAbs < 2 ^ 200) : ∃ z, Rep (double.write d) z k ∧ Near x z := by
  obtain ⟨s, m, i, rfl, h1⟩ := h
  exact near_nearest hk0 hk1 hx h1

theorem add_rep {a b : Nat} {x y k : Int} (ha : Rep a x k) (hb : Rep b y k) (hk0 : 0 ≤ k) (hk1 : k ≤ 100) (hx : (x + y).natAbs < 2 ^ 200) :
    ∃ r z, double.add a b = some r ∧ Rep r z k ∧ Near (x + y) z := by
  obtain ⟨d, hd, hs⟩ := sum_stands ha hb
  obtain ⟨z, hz, hn⟩ := write_near hs hk0 hk1 hx
  exact ⟨_, z, by unfold Format.add; rw [hd]; rfl, hz, hn⟩
theorem sub_rep {a b : Nat} {x y k : Int} (ha : Rep a x k) (hb : Rep b y k) (hk0 : 0 ≤ k) (hk1 : k ≤ 100) (hx : (x - y).natAbs < 2 ^ 200) :
    ∃ r z, double.sub a b = some r ∧ Rep r z k ∧ Near (x - y) z := by
  obtain ⟨d, hd, hs⟩ := sum_stands ha (opp_stands hb)
  rw [show x + -y = x - y by omega] at hs
  obtain ⟨z, hz, hn⟩ := write_near hs hk0 hk1 hx
  exact ⟨_, z, by unfold Format.sub; rw [hd]; rfl, hz, hn⟩

theorem of_int_rep {n : Int} (h : n.natAbs < 2 ^ 53) : Rep (double.write (.number (n < 0) n.natAbs 0)) n 0 := by
  have hs : Stands (.number (n < 0) n.natAbs 0) n 0 := ⟨_, _, _, rfl, by rw [sg_abs _ _ (fun _ => rfl)]; rfl⟩
  obtain ⟨z, hz, h1, h2⟩ := write_near hs (by omega) (by omega) (Nat.lt_of_lt_of_le h (Nat.pow_le_pow_right (by decide) (by decide)))
  have hN : ((2 : Int) ^ 53) = 9007199254740992 := by decide
  have hN2 : ((2 : Nat) ^ 53) = 9007199254740992 := by decide
  rw [hN] at h1 h2
  rw [hN2] at h
  have : z = n := by omega
  rw [← this]; rw [this]; rw [this] at hz; exact hz

/-- Comparing. -/
theorem order_rep {a b : Nat} {x y k l : Int} (ha : Rep a x k) (hb : Rep b y l) (hk : 0 ≤ k) (hl : 0 ≤ l) : double.order a b = some (compare (x * 2 ^ l.toNat) (y * 2 ^ k.toNat)) := by
  obtain ⟨s, m, i, hra, h1⟩ := ha
  obtain ⟨t, n, j, hrb, h2⟩ := hb
  unfold Format.order
  rw [hra, hrb]
  show some (compare (signed s m (i - min i j).toNat) (signed t n (j - min i j).toNat)) = _
  rw [signed_eq, signed_eq]
  generalize (if s then -(m : Int) else m) = p at *
  generalize (if t then -(n : Int) else n) = q at *
  generalize hb : min i j = b at *
  have hbi : b ≤ i := by omega
  have hbj : b ≤ j := by omega
  have e1 := rebalance h1 (c := (i - b).toNat + (b + k + l).toNat) (d := l.toNat + (-(b + k + l)).toNat) (by omega)
  have e2 := rebalance h2 (c := (j - b).toNat + (b + k + l).toNat) (d := k.toNat + (-(b + k + l)).toNat) (by omega)
  rw [ip, ← Int.mul_assoc, ip, ← Int.mul_assoc] at e1 e2
  generalize p * 2 ^ (i - b).toNat = X at *
  generalize q * 2 ^ (j - b).toNat = Y at *
  generalize x * 2 ^ l.toNat = X' at *
  generalize y * 2 ^ k.toNat = Y' at *
  have g1 : (0 : Int) < 2 ^ (b + k + l).toNat := ipos _
  have g2 : (0 : Int) < 2 ^ (-(b + k + l)).toNat := ipos _
  generalize (2 : Int) ^ (b + k + l).toNat = g at *
  generalize (2 : Int) ^ (-(b + k + l)).toNat = g' at *
  have key : ∀ u v u' v' : Int, u * g = u' * g' → v * g = v' * g' → (u < v ↔ u' < v') := by
    intro u v u' v' hu hv
    constructor
    · intro h
      have h1 := Int.mul_lt_mul_of_pos_right h g1
      rw [hu, hv] at h1
      exact Int.lt_of_mul_lt_mul_right h1 (Int.le_of_lt g2)
    · intro h
      have h1 := Int.mul_lt_mul_of_pos_right h g2
      rw [← hu, ← hv] at h1
      exact Int.lt_of_mul_lt_mul_right h1 (Int.le_of_lt g1)
  have hlt := key X Y X' Y' e1 e2
  have hgt := key Y X Y' X' e2 e1
  congr 1
  rcases Int.lt_trichotomy X' Y' with h | h | h
  · rw [Int.compare_eq_lt.2 h, Int.compare_eq_lt.2 (hlt.2 h)]
  · have : X = Y := by
      have n1 := mt hlt.1 (by omega); have n2 := mt hgt.1 (by omega); omega
    rw [h, this, Int.compare_eq_eq.2 rfl, Int.compare_eq_eq.2 rfl]
  · rw [Int.compare_eq_gt.2 h, Int.compare_eq_gt.2 (hgt.2 h)]

/-- The sign struck, and turned. -/
theorem abs_rep {b : Nat} {x k : Int} (h : Rep b x k) : Rep (b % 2 ^ 63) x.natAbs k := by
  obtain ⟨s, m, e, hr, h1⟩ := h
  have hsw : double.signWeight = 2 ^ 63 := rfl
  have hread : double.read (b % 2 ^ 63) = .number false m e := by
    unfold Format.read at hr ⊢
    rw [hsw] at hr ⊢
    have e1 : b % 2 ^ 63 / 2 ^ 63 % 2 = 0 := by omega
    have e2 : b % 2 ^ 63 % 2 ^ 63 = b % 2 ^ 63 := by omega
    simp only [e1, e2] at hr ⊢
    generalize b % 2 ^ 63 = r at *
    split at hr
    · rename_i hlt
      rw [if_pos hlt]
      injection hr with _ hr1 hr2
      subst hr1; subst hr2; rfl
    · rename_i hlt
      rw [if_neg hlt]
      split at hr
      · rename_i hlt2
        rw [if_pos hlt2]
        injection hr with _ hr1 hr2
        subst hr1; subst hr2; rfl
      · split at hr <;> cases hr
  refine ⟨false, m, e, hread, ?_⟩
  have h2 := congrArg Int.natAbs h1
  rw [Int.natAbs_mul, Int.natAbs_mul, Int.natAbs_pow, Int.natAbs_pow] at h2
  have h3 : m * 2 ^ (e + k).toNat = x.natAbs * 2 ^ (-(e + k)).toNat := by cases s <;> simpa using h2
  have hc := congrArg (Nat.cast (R := Int)) h3
  simpa using hc

theorem xor_parts (b : Nat) : (b ^^^ 2 ^ 63) % 2 ^ 63 = b % 2 ^ 63 ∧ (b ^^^ 2 ^ 63) / 2 ^ 63 % 2 = (b / 2 ^ 63 + 1) % 2 := by
  refine ⟨by rw [Nat.xor_mod_two_pow]; simp, ?_⟩
  have h : (b ^^^ 2 ^ 63) / 2 ^ 63 = (b / 2 ^ 63) ^^^ 1 := by rw [← Nat.shiftRight_eq_div_pow, Nat.shiftRight_xor_distrib, Nat.shiftRight_eq_div_pow]; rfl
  rw [h]
  generalize b / 2 ^ 63 = c
  rw [show (2 : Nat) = 2 ^ 1 from rfl, Nat.xor_mod_two_pow]
  simp only [Nat.pow_one]
  rcases Nat.mod_two_eq_zero_or_one c with h | h <;> simp [h, Nat.add_mod]

theorem neg_rep {b : Nat} {x k : Int} (h : Rep b x k) : Rep (b ^^^ 2 ^ 63) (-x) k := by
  obtain ⟨s, m, e, hr, h1⟩ := h
  have hsw : double.signWeight = 2 ^ 63 := rfl
  obtain ⟨x1, x2⟩ := xor_parts b
  have hread : double.read (b ^^^ 2 ^ 63) = .number (!s) m e := by
    unfold Format.read at hr ⊢
    rw [hsw] at hr ⊢
    simp only [x1, x2] at hr ⊢
    have hneg : ((b / 2 ^ 63 + 1) % 2 == 1) = !(b / 2 ^ 63 % 2 == 1) := by
      rcases Nat.mod_two_eq_zero_or_one (b / 2 ^ 63) with h | h <;> simp [h, Nat.add_mod]
    rw [hneg]
    generalize b % 2 ^ 63 = r at *
    split at hr
    · rename_i hlt
      rw [if_pos hlt]
      injection hr with hr0 hr1 hr2
      subst hr0; subst hr1; subst hr2; rfl
    · rename_i hlt
      rw [if_neg hlt]
      split at hr
      · rename_i hlt2
        rw [if_pos hlt2]
        injection hr with hr0 hr1 hr2
        subst hr0; subst hr1; subst hr2; rfl
      · split at hr <;> cases hr
  exact ⟨!s, m, e, hread, by
    have : (if (!s) = true then -(m : Int) else m) = -(if s = true then -(m : Int) else m) := by cases s <;> simp
    rw [this, Int.neg_mul, h1, Int.neg_mul]⟩
end Go.Proofs.Ytdglijdiiggdgaa
/- What orient's filter answers. -/
namespace Go.Proofs.Ytdglijdiiggdgaa
open Go.RowKit

theorem abs_bits (a : Nat) (ha : a < 18446744073709551616) : (bits BinOp.andNot IntKind.u64 (a : Int) 9223372036854775808).toNat = a % 2 ^ 63 := by
  have h := u64_andNot_nat a 9223372036854775808 ha (by decide)
  rw [show ((9223372036854775808 : Nat) : Int) = 9223372036854775808 from rfl] at h
  rw [h, Int.toNat_natCast, show (18446744073709551615 - 9223372036854775808 : Nat) = 2 ^ 63 - 1 by decide, Nat.and_two_pow_sub_one_eq_mod]
set_option maxHeartbeats 400000 in
theorem abs_any (a : Nat) (w : World) (ha : a < 18446744073709551616) :
    Calls Try.prog 70 #[.float .f64 a] w fun e w' => e = .returned (.float .f64 (a % 2 ^ 63)) ∧ w = w' := by
  have e1 : ∀ w : World, (callFunc 78 #[.float .f64 a]).run Try.prog w = .ok (.value (.int .u64 a)) w := fun w => by
    rw [run_callFunc_extern Try.func78 (by kernel_rfl) (by kernel_rfl) (by kernel_rfl) (e := Extern.MathFloatBits.float64bits) (by kernel_rfl)]
    rfl
  have e2 : ∀ (n : Int) (w : World), (callFunc 77 #[.int .u64 n]).run Try.prog w = .ok (.value (.float .f64 n.toNat)) w := fun n w => by
    rw [run_callFunc_extern Try.func77 (by kernel_rfl) (by kernel_rfl) (by kernel_rfl) (e := Extern.MathFloatBits.float64frombits) (by kernel_rfl)]
    rfl
  go_enter Try.func70, Try.ntmps70
  go_wp2
  go_ret
  rw [abs_bits a ha]
  exact ⟨rfl, rfl⟩

set_option maxRecDepth 100000 in
set_option maxHeartbeats 400000 in
theorem filter_one (a b c : Int) (w : World) :
    Calls Try.prog 69 #[.agg #[.int .i64 a, .int .i64 b, .int .i64 c]] w fun e w' =>
      e = .returned (.tuple #[.float .f64 (floatOfInt .f64 a), .float .f64 (floatOfInt .f64 b), .float .f64 (floatOfInt .f64 c)]) ∧ Below w.heap.size w w' := by
  go_enter Try.func69, Try.ntmps69
  go_wp2_with fail
  refine wp_named ?_
  intro W1 hW
  have k0 : W1.heap[w.heap.size]? = some (.cells #[.int .i64 a, .int .i64 b, .int .i64 c] 73 (0, 0)) := by rw [hW]; exact heap_at (by simp <;> omega)
  have z0 : w.heap.size < W1.heap.size := by rw [hW]; simp
  have hB : Below w.heap.size w W1 := by rw [hW]; go_grown
  clear hW
  obtain ⟨kq0, kr0⟩ := cellB k0
  refine wp_calm0 12 (by kernel_rfl) (by kernel_rfl) ?_
  intro C hC
  repeat (refine wpCalm_step (fun K hK => ?_); go_simp; first | (refine hK _ ?_; clear hK K) | (apply Exists.intro; refine ⟨fun wc hw => ?_, hK _ ?_⟩; (obtain ⟨hc, hf⟩ := bcell (hC wc hw); go_simp; first | exact rfl); clear hK K))
  refine wpCalm_nil ?_
  intro W2 hX
  have hB2 := after hB hX
  simp only [List.drop_succ_cons, List.drop_zero]
  go_wp2
  go_ret3
  exact ⟨rfl, hB2⟩

theorem unary_neg_float (k : FloatKind) (b : Nat) : Op.unary .neg (.float k b) = pure (.float k (Op.negFloat k b)) := rfl
attribute [go_sem] unary_neg_float

theorem ret_int {k : IntKind} {a b : Int} (h : a = b) : Ending.returned (.int k a) = .returned (.int k b) := by rw [h]
/-- The filter's answer out of the two words that it compares. -/
def filR (s e : Nat) : Int := if (FloatKind.f64.format.order s e == some .gt) = true then 1 else if (FloatKind.f64.format.order s (Op.negFloat .f64 e) == some .lt) = true then -1 else 0

set_option maxRecDepth 100000 in
set_option maxHeartbeats 2000000 in
theorem filter_walk (a b c : Int × Int × Int) (px py pz qx qy qz rx ry rz u1 v1 u2 v2 u3 v3 d1 m1 d2 m2 s1 d3 m3 s2 a1 f1 a2 f2 g1 a3 f3 g2 g3 : Nat)
    (w_px : px = floatOfInt .f64 a.1) (w_py : py = floatOfInt .f64 a.2.1) (w_pz : pz = floatOfInt .f64 a.2.2)
    (w_qx : qx = floatOfInt .f64 b.1) (w_qy : qy = floatOfInt .f64 b.2.1) (w_qz : qz = floatOfInt .f64 b.2.2)
    (w_rx : rx = floatOfInt .f64 c.1) (w_ry : ry = floatOfInt .f64 c.2.1) (w_rz : rz = floatOfInt .f64 c.2.2)
    (e_u1 : floatBits .mul .f64 qy rz = some u1)
    (e_v1 : floatBits .mul .f64 qz ry = some v1)
    (e_u2 : floatBits .mul .f64 qz rx = some u2)
    (e_v2 : floatBits .mul .f64 qx rz = some v2)
    (e_u3 : floatBits .mul .f64 qx ry = some u3)
    (e_v3 : floatBits .mul .f64 qy rx = some v3)
    (e_d1 : floatBits .sub .f64 u1 v1 = some d1)
    (e_m1 : floatBits .mul .f64 px d1 = some m1)
    (e_d2 : floatBits .sub .f64 u2 v2 = some d2)
    (e_m2 : floatBits .mul .f64 py d2 = some m2)
    (e_s1 : floatBits .add .f64 m1 m2 = some s1)
    (e_d3 : floatBits .sub .f64 u3 v3 = some d3)
    (e_m3 : floatBits .mul .f64 pz d3 = some m3)
    (e_s2 : floatBits .add .f64 s1 m3 = some s2)
    (e_a1 : floatBits .add .f64 (u1 % 2 ^ 63) (v1 % 2 ^ 63) = some a1)
    (e_f1 : floatBits .mul .f64 (px % 2 ^ 63) a1 = some f1)
    (e_a2 : floatBits .add .f64 (u2 % 2 ^ 63) (v2 % 2 ^ 63) = some a2)
    (e_f2 : floatBits .mul .f64 (py % 2 ^ 63) a2 = some f2)
    (e_g1 : floatBits .add .f64 f1 f2 = some g1)
    (e_a3 : floatBits .add .f64 (u3 % 2 ^ 63) (v3 % 2 ^ 63) = some a3)
    (e_f3 : floatBits .mul .f64 (pz % 2 ^ 63) a3 = some f3)
    (e_g2 : floatBits .add .f64 g1 f3 = some g2)
    (e_g3 : floatBits .mul .f64 g2 4391009636686233600 = some g3)
    (b_px : px < 18446744073709551616) (b_py : py < 18446744073709551616) (b_pz : pz < 18446744073709551616) (b_u1 : u1 < 18446744073709551616) (b_v1 : v1 < 18446744073709551616) (b_u2 : u2 < 18446744073709551616) (b_v2 : v2 < 18446744073709551616) (b_u3 : u3 < 18446744073709551616) (b_v3 : v3 < 18446744073709551616) (w : World) :
    Calls Try.prog 60 #[.agg #[.int .i64 a.1, .int .i64 a.2.1, .int .i64 a.2.2], .agg #[.int .i64 b.1, .int .i64 b.2.1, .int .i64 b.2.2], .agg #[.int .i64 c.1, .int .i64 c.2.1, .int .i64 c.2.2]] w fun e w' =>
      e = .returned (.int .i64 (filR s2 g3)) ∧ Below w.heap.size w w' := by
  obtain ⟨a1', a2', a3'⟩ := a
  obtain ⟨b1', b2', b3'⟩ := b
  obtain ⟨c1', c2', c3'⟩ := c
  have o1 := filter_one a1' a2' a3'
  have o2 := filter_one b1' b2' b3'
  have o3 := filter_one c1' c2' c3'
  dsimp only at w_px w_py w_pz w_qx w_qy w_qz w_rx w_ry w_rz ⊢
  rw [← w_px, ← w_py, ← w_pz] at o1
  rw [← w_qx, ← w_qy, ← w_qz] at o2
  rw [← w_rx, ← w_ry, ← w_rz] at o3
  have O1 := Lib.hid o1; have O2 := Lib.hid o2; have O3 := Lib.hid o3
  clear o1 o2 o3 w_px w_py w_pz w_qx w_qy w_qz w_rx w_ry w_rz
  have r_u1 : ∀ W : World, (binOp .mul 115 (.float .f64 qy) (.float .f64 rz)).run Try.prog W = .ok (.float .f64 u1) W := fun W => run_float_arith W _ _ _ _ _ _ e_u1
  have r_v1 : ∀ W : World, (binOp .mul 115 (.float .f64 qz) (.float .f64 ry)).run Try.prog W = .ok (.float .f64 v1) W := fun W => run_float_arith W _ _ _ _ _ _ e_v1
  have r_u2 : ∀ W : World, (binOp .mul 115 (.float .f64 qz) (.float .f64 rx)).run Try.prog W = .ok (.float .f64 u2) W := fun W => run_float_arith W _ _ _ _ _ _ e_u2
  have r_v2 : ∀ W : World, (binOp .mul 115 (.float .f64 qx) (.float .f64 rz)).run Try.prog W = .ok (.float .f64 v2) W := fun W => run_float_arith W _ _ _ _ _ _ e_v2
  have r_u3 : ∀ W : World, (binOp .mul 115 (.float .f64 qx) (.float .f64 ry)).run Try.prog W = .ok (.float .f64 u3) W := fun W => run_float_arith W _ _ _ _ _ _ e_u3
  have r_v3 : ∀ W : World, (binOp .mul 115 (.float .f64 qy) (.float .f64 rx)).run Try.prog W = .ok (.float .f64 v3) W := fun W => run_float_arith W _ _ _ _ _ _ e_v3
  have r_d1 : ∀ W : World, (binOp .sub 115 (.float .f64 u1) (.float .f64 v1)).run Try.prog W = .ok (.float .f64 d1) W := fun W => run_float_arith W _ _ _ _ _ _ e_d1
  have r_m1 : ∀ W : World, (binOp .mul 115 (.float .f64 px) (.float .f64 d1)).run Try.prog W = .ok (.float .f64 m1) W := fun W => run_float_arith W _ _ _ _ _ _ e_m1
  have r_d2 : ∀ W : World, (binOp .sub 115 (.float .f64 u2) (.float .f64 v2)).run Try.prog W = .ok (.float .f64 d2) W := fun W => run_float_arith W _ _ _ _ _ _ e_d2
  have r_m2 : ∀ W : World, (binOp .mul 115 (.float .f64 py) (.float .f64 d2)).run Try.prog W = .ok (.float .f64 m2) W := fun W => run_float_arith W _ _ _ _ _ _ e_m2
  have r_s1 : ∀ W : World, (binOp .add 115 (.float .f64 m1) (.float .f64 m2)).run Try.prog W = .ok (.float .f64 s1) W := fun W => run_float_arith W _ _ _ _ _ _ e_s1
  have r_d3 : ∀ W : World, (binOp .sub 115 (.float .f64 u3) (.float .f64 v3)).run Try.prog W = .ok (.float .f64 d3) W := fun W => run_float_arith W _ _ _ _ _ _ e_d3
  have r_m3 : ∀ W : World, (binOp .mul 115 (.float .f64 pz) (.float .f64 d3)).run Try.prog W = .ok (.float .f64 m3) W := fun W => run_float_arith W _ _ _ _ _ _ e_m3
  have r_s2 : ∀ W : World, (binOp .add 115 (.float .f64 s1) (.float .f64 m3)).run Try.prog W = .ok (.float .f64 s2) W := fun W => run_float_arith W _ _ _ _ _ _ e_s2
  have r_a1 : ∀ W : World, (binOp .add 115 (.float .f64 (u1 % 2 ^ 63)) (.float .f64 (v1 % 2 ^ 63))).run Try.prog W = .ok (.float .f64 a1) W := fun W => run_float_arith W _ _ _ _ _ _ e_a1
  have r_f1 : ∀ W : World, (binOp .mul 115 (.float .f64 (px % 2 ^ 63)) (.float .f64 a1)).run Try.prog W = .ok (.float .f64 f1) W := fun W => run_float_arith W _ _ _ _ _ _ e_f1
  have r_a2 : ∀ W : World, (binOp .add 115 (.float .f64 (u2 % 2 ^ 63)) (.float .f64 (v2 % 2 ^ 63))).run Try.prog W = .ok (.float .f64 a2) W := fun W => run_float_arith W _ _ _ _ _ _ e_a2
  have r_f2 : ∀ W : World, (binOp .mul 115 (.float .f64 (py % 2 ^ 63)) (.float .f64 a2)).run Try.prog W = .ok (.float .f64 f2) W := fun W => run_float_arith W _ _ _ _ _ _ e_f2
  have r_g1 : ∀ W : World, (binOp .add 115 (.float .f64 f1) (.float .f64 f2)).run Try.prog W = .ok (.float .f64 g1) W := fun W => run_float_arith W _ _ _ _ _ _ e_g1
  have r_a3 : ∀ W : World, (binOp .add 115 (.float .f64 (u3 % 2 ^ 63)) (.float .f64 (v3 % 2 ^ 63))).run Try.prog W = .ok (.float .f64 a3) W := fun W => run_float_arith W _ _ _ _ _ _ e_a3
  have r_f3 : ∀ W : World, (binOp .mul 115 (.float .f64 (pz % 2 ^ 63)) (.float .f64 a3)).run Try.prog W = .ok (.float .f64 f3) W := fun W => run_float_arith W _ _ _ _ _ _ e_f3
  have r_g2 : ∀ W : World, (binOp .add 115 (.float .f64 g1) (.float .f64 f3)).run Try.prog W = .ok (.float .f64 g2) W := fun W => run_float_arith W _ _ _ _ _ _ e_g2
  have r_g3 : ∀ W : World, (binOp .mul 115 (.float .f64 g2) (.float .f64 4391009636686233600)).run Try.prog W = .ok (.float .f64 g3) W := fun W => run_float_arith W _ _ _ _ _ _ e_g3
  clear e_u1 e_v1 e_u2 e_v2 e_u3 e_v3 e_d1 e_m1 e_d2 e_m2 e_s1 e_d3 e_m3 e_s2 e_a1 e_f1 e_a2 e_f2 e_g1 e_a3 e_f3 e_g2 e_g3
  go_enter Try.func60, Try.ntmps60
  go_wp2_with fail
  first | refine wp_named ?_ | refine calls_named ?_
  intro W1 hW
  have k0 : W1.heap[w.heap.size]? = some (.cells #[.int .i64 a1', .int .i64 a2', .int .i64 a3'] 73 (0, 0)) := by rw [hW]; repeat (first | exact heap_at (by simp <;> omega) | rw [heap_old (by simp <;> omega)])
  have z0 : w.heap.size < W1.heap.size := by rw [hW]; simp <;> omega
  have k1 : W1.heap[w.heap.size + 1]? = some (.cells #[.int .i64 b1', .int .i64 b2', .int .i64 b3'] 73 (0, 0)) := by rw [hW]; repeat (first | exact heap_at (by simp <;> omega) | rw [heap_old (by simp <;> omega)])
  have z1 : w.heap.size + 1 < W1.heap.size := by rw [hW]; simp <;> omega
  have k2 : W1.heap[w.heap.size + 1 + 1]? = some (.cells #[.int .i64 c1', .int .i64 c2', .int .i64 c3'] 73 (0, 0)) := by rw [hW]; repeat (first | exact heap_at (by simp <;> omega) | rw [heap_old (by simp <;> omega)])
  have z2 : w.heap.size + 1 + 1 < W1.heap.size := by rw [hW]; simp <;> omega
  have hB : Below w.heap.size w W1 := by rw [hW]; go_grown
  clear hW
  refine ((O1.out _)).mono ?_; rintro e W2 ⟨rfl, hX⟩
  replace k0 := (hX.block _ z0).trans k0
  replace z0 := Nat.lt_of_lt_of_le z0 hX.size
  replace k1 := (hX.block _ z1).trans k1
  replace z1 := Nat.lt_of_lt_of_le z1 hX.size
  replace k2 := (hX.block _ z2).trans k2
  replace z2 := Nat.lt_of_lt_of_le z2 hX.size
  replace hB := after hB hX
  clear hX
  obtain ⟨kq1, kr1⟩ := cellB k1
  go_wp2_with fail
  clear kq1 kr1
  refine ((O2.out _)).mono ?_; rintro e W3 ⟨rfl, hX⟩
  replace k0 := (hX.block _ z0).trans k0
  replace z0 := Nat.lt_of_lt_of_le z0 hX.size
  replace k1 := (hX.block _ z1).trans k1
  replace z1 := Nat.lt_of_lt_of_le z1 hX.size
  replace k2 := (hX.block _ z2).trans k2
  replace z2 := Nat.lt_of_lt_of_le z2 hX.size
  replace hB := after hB hX
  clear hX
  obtain ⟨kq2, kr2⟩ := cellB k2
  go_wp2_with fail
  clear kq2 kr2
  refine ((O3.out _)).mono ?_; rintro e W4 ⟨rfl, hX⟩
  replace k0 := (hX.block _ z0).trans k0
  replace z0 := Nat.lt_of_lt_of_le z0 hX.size
  replace k1 := (hX.block _ z1).trans k1
  replace z1 := Nat.lt_of_lt_of_le z1 hX.size
  replace k2 := (hX.block _ z2).trans k2
  replace z2 := Nat.lt_of_lt_of_le z2 hX.size
  replace hB := after hB hX
  clear hX
  clear O1 O2 O3 k0 z0 k1 z1 k2 z2
  go_wp2_with fail
  refine (abs_any px _ b_px).mono ?_; rintro e W ⟨rfl, rfl⟩
  go_wp2_with fail
  refine (abs_any u1 _ b_u1).mono ?_; rintro e W ⟨rfl, rfl⟩
  go_wp2_with fail
  refine (abs_any v1 _ b_v1).mono ?_; rintro e W ⟨rfl, rfl⟩
  go_wp2_with fail
  refine (abs_any py _ b_py).mono ?_; rintro e W ⟨rfl, rfl⟩
  go_wp2_with fail
  refine (abs_any u2 _ b_u2).mono ?_; rintro e W ⟨rfl, rfl⟩
  go_wp2_with fail
  refine (abs_any v2 _ b_v2).mono ?_; rintro e W ⟨rfl, rfl⟩
  go_wp2_with fail
  refine (abs_any pz _ b_pz).mono ?_; rintro e W ⟨rfl, rfl⟩
  go_wp2_with fail
  refine (abs_any u3 _ b_u3).mono ?_; rintro e W ⟨rfl, rfl⟩
  go_wp2_with fail
  refine (abs_any v3 _ b_v3).mono ?_; rintro e W ⟨rfl, rfl⟩
  have HB := Lib.hid hB
  clear hB
  go_wp2
  · have h1 : (FloatKind.f64.format.order s2 g3 == some .gt) = true := by assumption
    go_ret
    exact ⟨ret_int (by unfold filR; rw [if_pos h1]), HB.out⟩
  · have h1 : (FloatKind.f64.format.order s2 g3 == some .gt) = false := by assumption
    have h2 : (FloatKind.f64.format.order s2 (Op.negFloat .f64 g3) == some .lt) = true := by assumption
    go_ret
    exact ⟨ret_int (by unfold filR; rw [h1, if_neg (by decide), if_pos h2]), HB.out⟩
  · have h1 : (FloatKind.f64.format.order s2 g3 == some .gt) = false := by assumption
    have h2 : (FloatKind.f64.format.order s2 (Op.negFloat .f64 g3) == some .lt) = false := by assumption
    go_ret
    exact ⟨ret_int (by unfold filR; rw [h1, if_neg (by decide), h2, if_neg (by decide)]), HB.out⟩
end Go.Proofs.Ytdglijdiiggdgaa
/- Where the filter is sure it is right: the error of its floats, reckoned. -/
namespace Go.Proofs.Ytdglijdiiggdgaa
open Go.RowKit

theorem near_big {x y : Int} (h : Near x y) : y.natAbs ≤ 2 * x.natAbs := by unfold Near at h; omega

theorem stage1 {A B u v d : Int} (hu : Near A u) (hv : Near B v) (hd : Near (u - v) d) :
    9007199254740992 * (d - (A - B)).natAbs ≤ 3 * (A.natAbs + B.natAbs) := by
  unfold Near at *
  simp only [show (2 : Int) ^ 53 = 9007199254740992 by decide] at *
  omega

theorem stage2 {p d D m : Int} {T : Nat} (h : 9007199254740992 * (d - D).natAbs ≤ 3 * T) (hD : D.natAbs ≤ T) (hm : Near (p * d) m) :
    9007199254740992 * (m - p * D).natAbs ≤ 5 * (p.natAbs * T) ∧ m.natAbs ≤ 2 * (p.natAbs * T) := by
  have hd2 : d.natAbs ≤ 2 * T := by omega
  have e1 : (p * d).natAbs = p.natAbs * d.natAbs := Int.natAbs_mul _ _
  have e2 : (p * (d - D)).natAbs = p.natAbs * (d - D).natAbs := Int.natAbs_mul _ _
  have e3 : p * (d - D) = p * d - p * D := Int.mul_sub _ _ _
  have e4 : (p * D).natAbs = p.natAbs * D.natAbs := Int.natAbs_mul _ _
  have b1 := Nat.mul_le_mul_left p.natAbs hd2
  have b2 := Nat.mul_le_mul_left p.natAbs h
  have b3 := Nat.mul_le_mul_left p.natAbs hD
  have c2 : p.natAbs * (9007199254740992 * (d - D).natAbs) = 9007199254740992 * (p.natAbs * (d - D).natAbs) := Nat.mul_left_comm _ _ _
  have c1 : p.natAbs * (2 * T) = 2 * (p.natAbs * T) := Nat.mul_left_comm _ _ _
  have c3 : p.natAbs * (3 * T) = 3 * (p.natAbs * T) := Nat.mul_left_comm _ _ _
  rw [c2, c3, ← e2, e3] at b2
  rw [← e1, c1] at b1
  rw [← e4] at b3
  unfold Near at hm
  simp only [show (2 : Int) ^ 53 = 9007199254740992 by decide] at hm
  generalize p.natAbs * T = F at *
  generalize p * d = x at *
  generalize p * D = y at *
  omega

theorem stage3 {A B u v a : Int} (hu : Near A u) (hv : Near B v) (ha : Near (u.natAbs + v.natAbs) a) :
    (9007199254740992 : Int) * (A.natAbs + B.natAbs) ≤ 9007199254740992 * a + 2 * (A.natAbs + B.natAbs) ∧ 0 ≤ a := by
  unfold Near at *
  simp only [show (2 : Int) ^ 53 = 9007199254740992 by decide] at *
  omega

theorem stage4 {p a f : Int} {T : Nat} (h : (9007199254740992 : Int) * T ≤ 9007199254740992 * a + 2 * T) (ha0 : 0 ≤ a) (hf : Near (p.natAbs * a) f) :
    (9007199254740992 : Int) * (p.natAbs * T : Nat) ≤ 9007199254740992 * f + 3 * (p.natAbs * T : Nat) ∧ 0 ≤ f := by
  have b1 := Int.mul_le_mul_of_nonneg_left h (show (0 : Int) ≤ p.natAbs by omega)
  have hpa : 0 ≤ (p.natAbs : Int) * a := Int.mul_nonneg (by omega) ha0
  rw [Int.mul_add, Int.mul_left_comm, Int.mul_left_comm (p.natAbs : Int) 9007199254740992, Int.mul_left_comm (p.natAbs : Int) 2] at b1
  have e : ((p.natAbs * T : Nat) : Int) = (p.natAbs : Int) * T := Int.natCast_mul _ _
  rw [← e] at b1
  unfold Near at hf
  simp only [show (2 : Int) ^ 53 = 9007199254740992 by decide] at hf
  generalize (p.natAbs : Int) * a = x at *
  generalize p.natAbs * T = F at *
  omega

theorem near_N {x y : Int} (h : Near x y) : 9007199254740992 * (y - x).natAbs ≤ x.natAbs := by
  unfold Near at h
  simp only [show (2 : Int) ^ 53 = 9007199254740992 by decide] at h
  omega
theorem addN {x y z u v : Int} {a b F G : Nat} (h1 : 9007199254740992 * (x - u).natAbs ≤ a * F) (h2 : 9007199254740992 * (y - v).natAbs ≤ b * G) (hz : Near (x + y) z) (k1 : x.natAbs ≤ 4 * F) (k2 : y.natAbs ≤ 4 * G) :
    9007199254740992 * (z - (u + v)).natAbs ≤ (a * F + 4 * F) + (b * G + 4 * G) := by
  have h3 := near_N hz
  generalize a * F = A at *
  generalize b * G = B at *
  have t1 : (z - (u + v)).natAbs ≤ (z - (x + y)).natAbs + ((x - u).natAbs + (y - v).natAbs) := by omega
  have t2 : (x + y).natAbs ≤ 4 * F + 4 * G := by omega
  omega
theorem big2 {x y z : Int} {F G : Nat} (hz : Near (x + y) z) (k1 : x.natAbs ≤ 2 * F) (k2 : y.natAbs ≤ 2 * G) : z.natAbs ≤ 4 * (F + G) := by
  have := near_big hz
  omega
theorem lowN {f g h : Int} {a b F G : Nat} (l1 : (9007199254740992 : Int) * F ≤ 9007199254740992 * f + (a * F : Nat)) (l2 : (9007199254740992 : Int) * G ≤ 9007199254740992 * g + (b * G : Nat)) (p1 : 0 ≤ f) (p2 : 0 ≤ g)
    (hh : Near (f + g) h) : (9007199254740992 : Int) * (F + G : Nat) ≤ 9007199254740992 * h + ((a * F + F) + (b * G + G) : Nat) ∧ 0 ≤ h := by
  have h3 := near_N hh
  generalize a * F = A at *
  generalize b * G = B at *
  have e : ((f + g).natAbs : Int) = f + g := by omega
  have t : 9007199254740992 * (f + g - h) ≤ f + g := by omega
  constructor
  · rcases Int.lt_or_le (f + g) (F + G) with hlt | hle <;> omega
  · omega

theorem stage5 {d1 d2 d3 m1 m2 m3 s1 s2 f1 f2 f3 g1 g2 g3 : Int} {F1 F2 F3 : Nat}
    (h1 : 9007199254740992 * (m1 - d1).natAbs ≤ 5 * F1) (h2 : 9007199254740992 * (m2 - d2).natAbs ≤ 5 * F2) (h3 : 9007199254740992 * (m3 - d3).natAbs ≤ 5 * F3)
    (k1 : m1.natAbs ≤ 2 * F1) (k2 : m2.natAbs ≤ 2 * F2) (k3 : m3.natAbs ≤ 2 * F3)
    (hs1 : Near (m1 + m2) s1) (hs2 : Near (s1 + m3) s2)
    (l1 : (9007199254740992 : Int) * F1 ≤ 9007199254740992 * f1 + 3 * F1) (l2 : (9007199254740992 : Int) * F2 ≤ 9007199254740992 * f2 + 3 * F2) (l3 : (9007199254740992 : Int) * F3 ≤ 9007199254740992 * f3 + 3 * F3)
    (p1 : 0 ≤ f1) (p2 : 0 ≤ f2) (p3 : 0 ≤ f3) (hg1 : Near (f1 + f2) g1) (hg2 : Near (g1 + f3) g2) (hg3 : Near (g2 * 1) g3) :
    (g3 < s2 * 281474976710656 → 0 < d1 + d2 + d3) ∧ (s2 * 281474976710656 < -g3 → d1 + d2 + d3 < 0) := by
  have q1 := addN (a := 5) (b := 5) h1 h2 hs1 (by omega) (by omega)
  have q1b := big2 hs1 k1 k2
  have q2 := addN (F := F1 + F2) (G := F3) (a := 9) (b := 5) (u := d1 + d2) (v := d3) (by omega) h3 hs2 q1b (by omega)
  have r1 := lowN (a := 3) (b := 3) (by simpa using l1) (by simpa using l2) p1 p2 hg1
  have r2 := lowN (F := F1 + F2) (G := F3) (a := 4) (b := 3) (by have := r1.1; omega) (by simpa using l3) r1.2 p3 hg2
  have r3 := near_N hg3
  clear h1 h2 h3 k1 k2 k3 hs1 hs2 l1 l2 l3 hg1 hg2 hg3 q1 q1b r1 p1 p2 p3
  rw [Int.mul_one] at r3
  obtain ⟨r2, r2p⟩ := r2
  have e : (g2.natAbs : Int) = g2 := by omega
  have w1 : (9007199254740992 : Int) * (F1 + F2 + F3 : Nat) ≤ 9007199254740992 * g3 + 6 * (F1 + F2 + F3 : Nat) := by
    rcases Int.lt_or_le g2 (F1 + F2 + F3) with hlt | hle <;> omega
  have w2 : 9007199254740992 * (s2 - (d1 + d2 + d3)).natAbs ≤ 13 * (F1 + F2 + F3) := by omega
  clear q2 r2 r2p r3 e
  generalize F1 + F2 + F3 = F at *
  generalize d1 + d2 + d3 = d at *
  constructor <;> intro h <;> omega

theorem const_rep : Rep 4391009636686233600 1 48 := by
  have h : (4391009636686233600 : Nat) = Ieee.double.word false 4391009636686233600 := rfl
  unfold Rep
  rw [h, read_word false _ (by decide), if_neg (by decide)]
  exact ⟨_, _, _, rfl, by decide⟩

theorem rep_lt {n : Nat} (d : Ieee.Datum) (h : n = Ieee.double.write d) : n < 18446744073709551616 := by
  rw [h]; exact Ieee.double.write_lt d

theorem lt200 {x : Int} {k : Nat} (h : x.natAbs ≤ 2 ^ k) (hk : k ≤ 150) : x.natAbs < 2 ^ 200 := Nat.lt_of_le_of_lt h (Nat.pow_lt_pow_right (by decide) (by omega))
theorem mul0 {a b : Nat} {x y : Int} {n : Nat} (ha : Rep a x 0) (hb : Rep b y 0) (h : (x * y).natAbs ≤ 2 ^ n) (hn : n ≤ 149) :
    ∃ r z, floatBits .mul .f64 a b = some r ∧ Rep r z 0 ∧ Near (x * y) z ∧ z.natAbs ≤ 2 ^ (n + 1) ∧ r < 18446744073709551616 := by
  obtain ⟨r, z, h1, h2, h3⟩ := mul_rep ha hb (by decide) (by decide) (lt200 h (by omega))
  exact ⟨r, z, h1, h2, h3, by have := near_big h3; rw [Nat.pow_succ]; omega, Ieee.double.mul_lt h1⟩
theorem add0 {a b : Nat} {x y : Int} {n : Nat} (ha : Rep a x 0) (hb : Rep b y 0) (h1 : x.natAbs ≤ 2 ^ n) (h2 : y.natAbs ≤ 2 ^ n) (hn : n ≤ 148) :
    ∃ r z, floatBits .add .f64 a b = some r ∧ Rep r z 0 ∧ Near (x + y) z ∧ z.natAbs ≤ 2 ^ (n + 2) ∧ r < 18446744073709551616 := by
  have h : (x + y).natAbs ≤ 2 ^ (n + 1) := by rw [Nat.pow_succ]; omega
  obtain ⟨r, z, h3, h4, h5⟩ := add_rep ha hb (by decide) (by decide) (lt200 h (by omega))
  exact ⟨r, z, h3, h4, h5, by have := near_big h5; rw [show n + 2 = n + 1 + 1 by omega, Nat.pow_succ]; omega, Ieee.double.add_lt h3⟩
theorem sub0 {a b : Nat} {x y : Int} {n : Nat} (ha : Rep a x 0) (hb : Rep b y 0) (h1 : x.natAbs ≤ 2 ^ n) (h2 : y.natAbs ≤ 2 ^ n) (hn : n ≤ 148) :
    ∃ r z, floatBits .sub .f64 a b = some r ∧ Rep r z 0 ∧ Near (x - y) z ∧ z.natAbs ≤ 2 ^ (n + 2) ∧ r < 18446744073709551616 := by
  have h : (x - y).natAbs ≤ 2 ^ (n + 1) := by rw [Nat.pow_succ]; omega
  obtain ⟨r, z, h3, h4, h5⟩ := sub_rep ha hb (by decide) (by decide) (lt200 h (by omega))
  exact ⟨r, z, h3, h4, h5, by have := near_big h5; rw [show n + 2 = n + 1 + 1 by omega, Nat.pow_succ]; omega, Ieee.double.sub_lt h3⟩
theorem nab {n : Int} {k : Nat} (h : n.natAbs ≤ 2 ^ k) : ((n.natAbs : Int)).natAbs ≤ 2 ^ k := by rwa [Int.natAbs_natCast]
/-- One part: p * (a * b - c * d). -/
theorem part {bp ba bb bc bd : Nat} {p a b c d : Int} (hp : p.natAbs ≤ 2 ^ 31) (ha : a.natAbs ≤ 2 ^ 31) (hb : b.natAbs ≤ 2 ^ 31) (hc : c.natAbs ≤ 2 ^ 31) (hd : d.natAbs ≤ 2 ^ 31)
    (rp : Rep bp p 0) (ra : Rep ba a 0) (rb : Rep bb b 0) (rc : Rep bc c 0) (rd : Rep bd d 0) :
    ∃ (u v e m s f : Nat) (M F : Int) (T : Nat), floatBits .mul .f64 ba bb = some u ∧ floatBits .mul .f64 bc bd = some v ∧ floatBits .sub .f64 u v = some e ∧ floatBits .mul .f64 bp e = some m ∧
      floatBits .add .f64 (u % 2 ^ 63) (v % 2 ^ 63) = some s ∧ floatBits .mul .f64 (bp % 2 ^ 63) s = some f ∧ u < 18446744073709551616 ∧ v < 18446744073709551616 ∧
      Rep m M 0 ∧ Rep f F 0 ∧ M.natAbs ≤ 2 ^ 97 ∧ F.natAbs ≤ 2 ^ 97 ∧ 9007199254740992 * (M - p * (a * b - c * d)).natAbs ≤ 5 * T ∧ M.natAbs ≤ 2 * T ∧
      (9007199254740992 : Int) * T ≤ 9007199254740992 * F + 3 * T ∧ 0 ≤ F := by
  have prod : ∀ a b : Int, a.natAbs ≤ 2 ^ 31 → b.natAbs ≤ 2 ^ 31 → (a * b).natAbs ≤ 2 ^ 62 := by
    intro a b ha hb
    rw [Int.natAbs_mul]
    have h := Nat.mul_le_mul ha hb
    rw [← Nat.pow_add] at h
    exact h
  have prod2 : ∀ a b : Int, a.natAbs ≤ 2 ^ 31 → b.natAbs ≤ 2 ^ 65 → (a * b).natAbs ≤ 2 ^ 96 := by
    intro a b ha hb
    rw [Int.natAbs_mul]
    have h := Nat.mul_le_mul ha hb
    rw [← Nat.pow_add] at h
    exact h
  obtain ⟨u, U, e1, R1, N1, B1, L1⟩ := mul0 ra rb (prod a b ha hb) (by decide)
  obtain ⟨v, V, e2, R2, N2, B2, L2⟩ := mul0 rc rd (prod c d hc hd) (by decide)
  obtain ⟨e, E, e3, R3, N3, B3, _⟩ := sub0 R1 R2 B1 B2 (by decide)
  obtain ⟨m, M, e4, R4, N4, B4, _⟩ := mul0 rp R3 (prod2 p E hp B3) (by decide)
  obtain ⟨s, S, e5, R5, N5, B5, _⟩ := add0 (abs_rep R1) (abs_rep R2) (nab B1) (nab B2) (by decide)
  obtain ⟨f, F, e6, R6, N6, B6, _⟩ := mul0 (abs_rep rp) R5 (prod2 _ S (nab hp) B5) (by decide)
  have s1 := stage1 N1 N2 N3
  have s2 := stage2 s1 (by omega) N4
  have s3 := stage3 N1 N2 N5
  have s4 := stage4 (T := (a * b).natAbs + (c * d).natAbs) (by have := s3.1; omega) s3.2 N6
  exact ⟨u, v, e, m, s, f, M, F, p.natAbs * ((a * b).natAbs + (c * d).natAbs), e1, e2, e3, e4, e5, e6, L1, L2, R4, R6, B4, B6, s2.1, s2.2, s4.1, s4.2⟩

/-- The filter is sure only of what is so. -/
theorem filter_any (p q r : Int × Int × Int) (hp : p.1.natAbs ≤ 2 ^ 31 ∧ p.2.1.natAbs ≤ 2 ^ 31 ∧ p.2.2.natAbs ≤ 2 ^ 31) (hq : q.1.natAbs ≤ 2 ^ 31 ∧ q.2.1.natAbs ≤ 2 ^ 31 ∧ q.2.2.natAbs ≤ 2 ^ 31)
    (hr : r.1.natAbs ≤ 2 ^ 31 ∧ r.2.1.natAbs ≤ 2 ^ 31 ∧ r.2.2.natAbs ≤ 2 ^ 31) : ∃ f : Int, (f = 0 ∨ f = (det3 p.1 p.2.1 p.2.2 q.1 q.2.1 q.2.2 r.1 r.2.1 r.2.2).sign ∧ f ≠ 0) ∧ ∀ w : World,
      Calls Try.prog 60 #[.agg #[.int .i64 p.1, .int .i64 p.2.1, .int .i64 p.2.2], .agg #[.int .i64 q.1, .int .i64 q.2.1, .int .i64 q.2.2], .agg #[.int .i64 r.1, .int .i64 r.2.1, .int .i64 r.2.2]] w fun e w' =>
        e = .returned (.int .i64 f) ∧ Below w.heap.size w w' := by
  have fr : ∀ n : Int, n.natAbs ≤ 2 ^ 31 → Rep (floatOfInt .f64 n) n 0 := fun n hn => of_int_rep (by omega)
  have fl : ∀ n : Int, floatOfInt .f64 n < 18446744073709551616 := fun n => rep_lt (.number (n < 0) n.natAbs 0) rfl
  obtain ⟨px, py, pz⟩ := p
  obtain ⟨qx, qy, qz⟩ := q
  obtain ⟨rx, ry, rz⟩ := r
  obtain ⟨hpx, hpy, hpz⟩ := hp
  obtain ⟨hqx, hqy, hqz⟩ := hq
  obtain ⟨hrx, hry, hrz⟩ := hr
  dsimp only at *
  obtain ⟨u1, v1, d1, m1, a1, f1, M1, F1, T1, e11, e12, e13, e14, e15, e16, L11, L12, R11, R12, B11, B12, S11, S12, S13, S14⟩ := part hpx hqy hrz hqz hry (fr px hpx) (fr qy hqy) (fr rz hrz) (fr qz hqz) (fr ry hry)
  obtain ⟨u2, v2, d2, m2, a2, f2, M2, F2, T2, e21, e22, e23, e24, e25, e26, L21, L22, R21, R22, B21, B22, S21, S22, S23, S24⟩ := part hpy hqz hrx hqx hrz (fr py hpy) (fr qz hqz) (fr rx hrx) (fr qx hqx) (fr rz hrz)
  obtain ⟨u3, v3, d3, m3, a3, f3, M3, F3, T3, e31, e32, e33, e34, e35, e36, L31, L32, R31, R32, B31, B32, S31, S32, S33, S34⟩ := part hpz hqx hry hqy hrx (fr pz hpz) (fr qx hqx) (fr ry hry) (fr qy hqy) (fr rx hrx)
  obtain ⟨s1, X1, es1, RS1, NS1, BS1, _⟩ := add0 R11 R21 B11 B21 (by decide)
  obtain ⟨s2, X2, es2, RS2, NS2, BS2, _⟩ := add0 RS1 R31 BS1 (Nat.le_trans B31 (by decide)) (by decide)
  obtain ⟨g1, G1, eg1, RG1, NG1, BG1, _⟩ := add0 R12 R22 B12 B22 (by decide)
  obtain ⟨g2, G2, eg2, RG2, NG2, BG2, _⟩ := add0 RG1 R32 BG1 (Nat.le_trans B32 (by decide)) (by decide)
  obtain ⟨g3, G3, eg3, RG3, NG3⟩ := mul_rep RG2 const_rep (by decide) (by decide) (lt200 (k := 101) (by rw [Int.mul_one]; exact BG2) (by decide))
  have fin := stage5 S11 S21 S31 S12 S22 S32 NS1 NS2 S13 S23 S33 S14 S24 S34 NG1 NG2 NG3
  refine ⟨filR s2 g3, ?_, fun w => filter_walk (px, py, pz) (qx, qy, qz) (rx, ry, rz) _ _ _ _ _ _ _ _ _ u1 v1 u2 v2 u3 v3 d1 m1 d2 m2 s1 d3 m3 s2 a1 f1 a2 f2 g1 a3 f3 g2 g3
    rfl rfl rfl rfl rfl rfl rfl rfl rfl e11 e12 e21 e22 e31 e32 e13 e14 e23 e24 es1 e33 e34 es2 e15 e16 e25 e26 eg1 e35 e36 eg2 eg3 (fl px) (fl py) (fl pz) L11 L12 L21 L22 L31 L32 w⟩
  have hdet : det3 px py pz qx qy qz rx ry rz = px * (qy * rz - qz * ry) + py * (qz * rx - qx * rz) + pz * (qx * ry - qy * rx) := rfl
  have o1 := order_rep RS2 RG3 (by decide) (by decide)
  have o2 := order_rep RS2 (neg_rep RG3) (by decide) (by decide)
  have hneg : Op.negFloat .f64 g3 = g3 ^^^ 2 ^ 63 := rfl
  have hfmt : FloatKind.f64.format = Ieee.double := rfl
  unfold filR
  rw [hneg, hfmt, o1, o2, hdet]
  have p48 : (2 : Int) ^ ((0 : Int) + 48).toNat = 281474976710656 := by decide
  have p0 : (2 : Int) ^ (0 : Int).toNat = 1 := by decide
  rw [p48, p0, Int.mul_one, Int.mul_one]
  generalize px * (qy * rz - qz * ry) + py * (qz * rx - qx * rz) + pz * (qx * ry - qy * rx) = D at *
  generalize X2 * 281474976710656 = X at *
  obtain ⟨fin1, fin2⟩ := fin
  by_cases h1 : G3 < X
  · have hc : compare X G3 = .gt := Int.compare_eq_gt.2 h1
    right
    rw [hc, if_pos (by decide), Int.sign_eq_one_of_pos (fin1 h1)]
    exact ⟨rfl, by decide⟩
  · have hc : (some (compare X G3) == some .gt) = false := by
      cases h : compare X G3 with
      | gt => exact absurd (Int.compare_eq_gt.1 h) h1
      | lt => rfl
      | eq => rfl
    rw [hc, if_neg (by decide)]
    by_cases h2 : X < -G3
    · have hc2 : compare X (-G3) = .lt := Int.compare_eq_lt.2 h2
      right
      rw [hc2, if_pos (by decide), Int.sign_eq_neg_one_of_neg (fin2 h2)]
      exact ⟨rfl, by decide⟩
    · have hc2 : (some (compare X (-G3)) == some .lt) = false := by
        cases h : compare X (-G3) with
        | lt => exact absurd (Int.compare_eq_lt.1 h) h2
        | gt => rfl
        | eq => rfl
      rw [hc2, if_neg (by decide)]
      exact .inl rfl
end Go.Proofs.Ytdglijdiiggdgaa
namespace Go.Proofs.Ytdglijdiiggdgaa
open Go.RowKit

set_option maxHeartbeats 400000 in
theorem limb_cmp_a (x y : Int) (h : x < 0) (w : World) :
    Calls Try.prog 71 #[.agg #[.int .i64 x, .int .u64 y], .agg #[.int .i64 0, .int .u64 0]] w fun e w' => e = .returned (.int .i64 (-1)) ∧ Below w.heap.size w w' := by
  go_enter Try.func71, Try.ntmps71
  go_wp2
  go_returns
  exact ⟨rfl, by go_grown⟩
set_option maxHeartbeats 400000 in
theorem limb_cmp_b (w : World) :
    Calls Try.prog 71 #[.agg #[.int .i64 0, .int .u64 0], .agg #[.int .i64 0, .int .u64 0]] w fun e w' => e = .returned (.int .i64 0) ∧ Below w.heap.size w w' := by
  go_enter Try.func71, Try.ntmps71
  go_wp2
  go_returns
  exact ⟨rfl, by go_grown⟩
set_option maxHeartbeats 400000 in
theorem limb_cmp_c (x y : Int) (h : 0 < x) (w : World) :
    Calls Try.prog 71 #[.agg #[.int .i64 x, .int .u64 y], .agg #[.int .i64 0, .int .u64 0]] w fun e w' => e = .returned (.int .i64 1) ∧ Below w.heap.size w w' := by
  have h1 : ¬ x < 0 := by omega
  have h2 : ¬ x = 0 := by omega
  go_enter Try.func71, Try.ntmps71
  go_wp2
  go_returns
  exact ⟨rfl, by go_grown⟩
set_option maxHeartbeats 400000 in
theorem limb_cmp_d (y : Int) (h : 0 < y) (w : World) :
    Calls Try.prog 71 #[.agg #[.int .i64 0, .int .u64 y], .agg #[.int .i64 0, .int .u64 0]] w fun e w' => e = .returned (.int .i64 1) ∧ Below w.heap.size w w' := by
  have h1 : ¬ y < 0 := by omega
  have h2 : ¬ y = 0 := by omega
  go_enter Try.func71, Try.ntmps71
  go_wp2
  go_returns
  exact ⟨rfl, by go_grown⟩
theorem limb_cmp (n : Int) (h : In128 n) (w : World) :
    Calls Try.prog 71 #[.agg #[.int .i64 (hi n), .int .u64 (lo n)], .agg #[.int .i64 0, .int .u64 0]] w fun e w' => e = .returned (.int .i64 n.sign) ∧ Below w.heap.size w w' := by
  have hw := words_of h
  have l0 := lo_0 n
  have l1 := lo_1 n
  rcases Int.lt_trichotomy (hi n) 0 with h1 | h1 | h1
  · rw [Int.sign_eq_neg_one_of_neg (by omega)]; exact limb_cmp_a _ _ h1 w
  · rw [h1] at hw ⊢
    rcases Int.lt_or_le 0 (lo n) with h2 | h2
    · rw [Int.sign_eq_one_of_pos (by omega)]; exact limb_cmp_d _ h2 w
    · have e : lo n = 0 := by omega
      rw [e] at hw ⊢
      rw [show n = 0 by omega]; exact limb_cmp_b w
  · rw [Int.sign_eq_one_of_pos (by omega)]; exact limb_cmp_c _ _ h1 w
set_option maxHeartbeats 400000 in
theorem limb_sign (n : Int) (h : In128 n) (w : World) :
    Calls Try.prog 62 #[.agg #[.int .i64 (hi n), .int .u64 (lo n)]] w fun e w' => e = .returned (.int .i64 n.sign) ∧ Below w.heap.size w w' := by
  have H := Lib.hid (limb_cmp n h)
  clear h
  go_enter Try.func62, Try.ntmps62
  go_wp2_with fail
  refine (H.out _).mono ?_; rintro e w1 ⟨rfl, hX⟩
  have hB := after (w := w) (by go_grown) hX
  clear hX
  go_wp2
  go_returns
  exact ⟨rfl, by go_grown⟩
end Go.Proofs.Ytdglijdiiggdgaa
namespace Go.Proofs.Ytdglijdiiggdgaa
open Go.RowKit

/-- The first sign that is none of 0. -/
def firstOf (s : Nat → Int) (ok : Nat → Bool) : Nat → Nat → Int
  | 0, _ => 1
  | n + 1, k => if ok k = true ∧ s k ≠ 0 then s k else firstOf s ok n (k + 1)

theorem firstOf_yes {s : Nat → Int} {ok : Nat → Bool} {k : Nat} (hk : k < 85) (h1 : ok k = true) (h2 : s k ≠ 0) (h : firstOf s ok (85 - k) k = firstOf s ok 85 0) : firstOf s ok 85 0 = s k := by
  rw [← h, show 85 - k = (84 - k) + 1 by omega, firstOf, if_pos ⟨h1, h2⟩]
theorem firstOf_no {s : Nat → Int} {ok : Nat → Bool} {k : Nat} (hk : k < 85) (h1 : ¬ (ok k = true ∧ s k ≠ 0)) (h : firstOf s ok (85 - k) k = firstOf s ok 85 0) : firstOf s ok (85 - (k + 1)) (k + 1) = firstOf s ok 85 0 := by
  rw [← h, show 85 - k = (84 - k) + 1 by omega, firstOf, if_neg h1, show 85 - (k + 1) = 84 - k by omega]
theorem firstOf_end {s : Nat → Int} {ok : Nat → Bool} {k : Nat} (hk : k = 85) (h : firstOf s ok (85 - k) k = firstOf s ok 85 0) : firstOf s ok 85 0 = 1 := by
  rw [← h, hk]; rfl

def sgnR (f s : Int) (sm : Nat → Int) (ok : Nat → Bool) : Int := if f = 0 then (if s = 0 then firstOf sm ok 85 0 else s) else f
theorem ret64 {a b : Int} {R : Prop} (h : b = a) (hR : R) : Ending.returned (Value.int .i64 a) = Ending.returned (Value.int .i64 b) ∧ R := ⟨by rw [h], hR⟩
set_option maxRecDepth 100000 in
set_option maxHeartbeats 2000000 in
theorem sign_walk (a0 a1 a2 b0 b1 b2 c0 c1 c2 d0 d1 d2 : Int) (u v x n : Value) (f s : Int) (sm : Nat → Int) (ok : Nat → Bool)
    (H1 : Hid (∀ w, Calls Try.prog 61 #[.agg #[.int .i64 a0, .int .i64 a1, .int .i64 a2], .agg #[.int .i64 d0, .int .i64 d1, .int .i64 d2]] w fun e w' => e = .returned u ∧ Below w.heap.size w w'))
    (H2 : Hid (∀ w, Calls Try.prog 61 #[.agg #[.int .i64 b0, .int .i64 b1, .int .i64 b2], .agg #[.int .i64 d0, .int .i64 d1, .int .i64 d2]] w fun e w' => e = .returned v ∧ Below w.heap.size w w'))
    (H3 : Hid (∀ w, Calls Try.prog 61 #[.agg #[.int .i64 c0, .int .i64 c1, .int .i64 c2], .agg #[.int .i64 d0, .int .i64 d1, .int .i64 d2]] w fun e w' => e = .returned x ∧ Below w.heap.size w w'))
    (H4 : Hid (∀ w, Calls Try.prog 60 #[u, v, x] w fun e w' => e = .returned (.int .i64 f) ∧ Below w.heap.size w w'))
    (H5 : Hid (∀ w, Calls Try.prog 63 #[.agg #[.int .i64 a0, .int .i64 a1, .int .i64 a2], .agg #[.int .i64 b0, .int .i64 b1, .int .i64 b2], .agg #[.int .i64 c0, .int .i64 c1, .int .i64 c2], .agg #[.int .i64 d0, .int .i64 d1, .int .i64 d2]] w fun e w' => e = .returned n ∧ Below w.heap.size w w'))
    (H6 : Hid (∀ w, Calls Try.prog 62 #[n] w fun e w' => e = .returned (.int .i64 s) ∧ Below w.heap.size w w'))
    (H7 : Hid (∀ m : Nat, m < 85 → f = 0 → s = 0 → ∀ w, Calls Try.prog 64 #[.agg #[.int .i64 a0, .int .i64 a1, .int .i64 a2, .int .i64 b0, .int .i64 b1, .int .i64 b2, .int .i64 c0, .int .i64 c1, .int .i64 c2, .int .i64 d0, .int .i64 d1, .int .i64 d2], .int .i64 m] w fun e w' => e = .returned (.tuple #[.int .i64 (sm m), .bool (ok m)]) ∧ Below w.heap.size w w'))
    (w : World) :
    Calls Try.prog 52 #[.agg #[.int .i64 a0, .int .i64 a1, .int .i64 a2, .int .i64 b0, .int .i64 b1, .int .i64 b2, .int .i64 c0, .int .i64 c1, .int .i64 c2, .int .i64 d0, .int .i64 d1, .int .i64 d2]] w fun e w' => e = .returned (.int .i64 (sgnR f s sm ok)) ∧ Below w.heap.size w w' := by
  go_enter Try.func52, Try.ntmps52
  go_wp2_with fail
  first | refine wp_named ?_ | refine calls_named ?_
  intro W hW
  have k0 : W.heap[w.heap.size]? = some (.cells #[.int .i64 a0, .int .i64 a1, .int .i64 a2, .int .i64 b0, .int .i64 b1, .int .i64 b2, .int .i64 c0, .int .i64 c1, .int .i64 c2, .int .i64 d0, .int .i64 d1, .int .i64 d2] 89 (0, 0)) := by rw [hW]; exact heap_at rfl
  have z0 : w.heap.size < W.heap.size := by rw [hW]; simp
  have hB : Below w.heap.size w W := by rw [hW]; go_grown
  clear hW
  obtain ⟨kq, kr⟩ := cellB k0

  refine wp_calm0 17 (by kernel_rfl) (by kernel_rfl) ?_
  intro K hK
  repeat (refine wpCalm_step (fun M hM => ?_); go_simp; first | (refine hM _ ?_; clear hM M) | (apply Exists.intro; refine ⟨fun wc hw => ?_, hM _ ?_⟩; (obtain ⟨hc, hf⟩ := bcell (hK wc hw); go_simp; first | with_reducible exact (H1).out _ | with_reducible exact (H2).out _ | with_reducible exact (H3).out _ | with_reducible exact (H4).out _ | exact rfl); clear hM M))
  refine wpCalm_nil ?_
  clear hK K kq kr
  intro W1 hX
  replace k0 := (hX.block _ z0).trans k0
  replace z0 := Nat.lt_of_lt_of_le z0 hX.size
  replace hB := after hB hX
  clear hX
  simp only [List.drop_succ_cons, List.drop_zero]
  obtain ⟨kq, kr⟩ := cellB k0
  by_cases hf : f = 0
  case neg =>
    go_wp2
    go_returns
    exact ret64 (by unfold sgnR; rw [if_neg hf]) hB
  go_wp2_with fail
  refine (H5.out _).mono ?_; rintro e W2 ⟨rfl, hX⟩
  replace k0 := (hX.block _ z0).trans k0
  replace z0 := Nat.lt_of_lt_of_le z0 hX.size
  replace hB := after hB hX
  clear hX kq kr
  obtain ⟨kq, kr⟩ := cellB k0
  go_wp2_with fail
  refine (H6.out _).mono ?_; rintro e W3 ⟨rfl, hX⟩
  replace k0 := (hX.block _ z0).trans k0
  replace z0 := Nat.lt_of_lt_of_le z0 hX.size
  replace hB := after hB hX
  clear hX kq kr
  by_cases hs : s = 0
  case neg =>
    go_wp2
    go_returns
    exact ret64 (by unfold sgnR; rw [if_pos hf, if_neg hs]) hB
  go_wp2_with fail
  have e0 : firstOf sm ok (85 - 0) 0 = firstOf sm ok 85 0 := rfl
  have G := Lib.hid e0
  clear e0
  go_loopw [40] (fun i wr => ∃ k : Nat, k ≤ 85 ∧ i = .int .i64 k ∧ Hid (firstOf sm ok (85 - k) k = firstOf sm ok 85 0) ∧ wr.heap[w.heap.size]? = some (.cells #[.int .i64 a0, .int .i64 a1, .int .i64 a2, .int .i64 b0, .int .i64 b1, .int .i64 b2, .int .i64 c0, .int .i64 c1, .int .i64 c2, .int .i64 d0, .int .i64 d1, .int .i64 d2] 89 (0, 0)) ∧ Below w.heap.size w wr ∧ w.heap.size < wr.heap.size)
    (fun i _ => 85 - (intOf i).toNat)
  case atStart => exact ⟨0, by decide, rfl, G, k0, hB, z0⟩
  case round =>
    clear k0 hB z0 G
    obtain ⟨k, hk, rfl, G, k0, hB, z0⟩ := hrel
    obtain ⟨kq, kr⟩ := cellB k0
    by_cases hlt : k < 85
    case neg =>
      have hge : ¬ (k : Int) < 85 := by omega
      go_wp2
      go_returns
      exact ret64 (by unfold sgnR; rw [if_pos (by first | rfl | exact hf), if_pos (by first | rfl | exact hs), firstOf_end (by omega) G.out]) hB
    have hlt' : (k : Int) < 85 := by omega
    go_wp2_with fail
    refine (H7.out _ hlt hf hs _).mono ?_; rintro e W4 ⟨rfl, hX⟩
    replace k0 := (hX.block _ z0).trans k0
    replace z0 := Nat.lt_of_lt_of_le z0 hX.size
    replace hB := after hB hX
    clear hX kq kr
    cases ho : ok k with
    | false =>
      go_wp2
      go_roundw
      case rel => exact ⟨k + 1, by omega, by go_num, firstOf_no hlt (by simp [ho]) G.out, k0, hB, z0⟩
      case measure => simp [intOf]; omega
    | true =>
      by_cases hz : sm k = 0
      · go_wp2
        go_roundw
        case rel => exact ⟨k + 1, by omega, by go_num, firstOf_no hlt (by simp [hz]) G.out, k0, hB, z0⟩
        case measure => simp [intOf]; omega
      · go_wp2
        go_returns
        exact ret64 (by unfold sgnR; rw [if_pos hf, if_pos hs, firstOf_yes hlt ho hz G.out]) hB
end Go.Proofs.Ytdglijdiiggdgaa
