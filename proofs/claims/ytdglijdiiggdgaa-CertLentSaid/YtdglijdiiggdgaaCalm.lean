/- A region that draws its order, whose operations read, reckon and call functions that leave all that was there alone, then some new variables, then a tail in one order: one walk in the order of the text serves every order. -/
import Derived.StillTail
import Derived.Below
import Derived.WalkKit
namespace Go.Proofs.Ytdglijdiiggdgaa
open Go.RowKit
section
variable {P : Program} {ops : Array Oper} {w : World}

/-- What is asked of an operation in a world: the value v there and then; or a call that hands back v and leaves alone what was there. -/
def calmUpon (P : Program) (w : World) (v : Value) : Result Next → Prop
  | .ok (.value u) w' => w' = w ∧ u = v
  | .ok .skip w' => w' = w ∧ v = undef
  | .ok (.enter f args) w' => w' = w ∧ Calls P f args w (fun e w'' => e = .returned v ∧ Below w.heap.size w w'')
  | _ => False
def calmAt (P : Program) (o : Oper) (a : Act) (w : World) (v : Value) : Prop := calmUpon P w v ((execOp a.eval o).run P w)
/-- One value, in every world of the class. -/
def calm (P : Program) (o : Oper) (a : Act) (C : World → Prop) (next : Act → Prop) : Prop := ∃ v, (∀ w, C w → calmAt P o a w v) ∧ next (a.put o.dst v)
def wpCalm (P : Program) (ops : Array Oper) (C : World → Prop) (Q : Act → Prop) : List Oper → Act → Prop
  | [], a => Q a
  | o :: rest, a => if Region.wanted o (yielded ops a.tmps) then calm P o a C (wpCalm P ops C Q rest) else wpCalm P ops C Q rest (a.put o.dst undef)
theorem wpCalm_nil {C : World → Prop} {Q : Act → Prop} {a : Act} (h : Q a) : wpCalm P ops C Q [] a := h
theorem wpCalm_step {C : World → Prop} {Q : Act → Prop} {a : Act} {o : Oper} {rest : List Oper}
    (h : ∀ K : Act → Prop, (∀ a, wpCalm P ops C Q rest a → K a) → if Region.wanted o (yielded ops a.tmps) then calm P o a C K else K (a.put o.dst undef)) : wpCalm P ops C Q (o :: rest) a :=
  h _ (fun _ h => h)

/-- It yields v in the state a: wanted, and calm; or not wanted, and v is nothing. -/
def CYields (P : Program) (ops : Array Oper) (C : World → Prop) (o : Oper) (v : Value) (a : Act) : Prop :=
  (Region.wanted o (yielded ops a.tmps) = true ∧ ∀ w, C w → calmAt P o a w v) ∨ (Region.wanted o (yielded ops a.tmps) = false ∧ v = undef)

/-- The frame behind the first operations. -/
def frameOf : List Oper → List Value → Act → Act
  | o :: l, v :: vs, a => frameOf l vs (a.put o.dst v)
  | _, _, a => a

theorem calm_values {C : World → Prop} {Q : Act → Prop} : ∀ (l : List Oper) (a : Act), wpCalm P ops C Q l a →
    ∃ vs : List Value, vs.length = l.length ∧ (∀ j (hj : j < l.length) v, vs[j]? = some v → CYields P ops C l[j] v (frameOf (l.take j) (vs.take j) a)) ∧ Q (frameOf l vs a)
  | [], a, h => ⟨[], rfl, fun j hj => absurd hj (Nat.not_lt_zero j), h⟩
  | o :: l, a, h => by
    unfold wpCalm at h
    have go : ∀ v, CYields P ops C o v a → wpCalm P ops C Q l (a.put o.dst v) → ∃ vs : List Value, vs.length = (o :: l).length ∧
        (∀ j (hj : j < (o :: l).length) u, vs[j]? = some u → CYields P ops C (o :: l)[j] u (frameOf ((o :: l).take j) (vs.take j) a)) ∧ Q (frameOf (o :: l) vs a) := by
      intro v hy hr
      obtain ⟨vs, h1, h2, h3⟩ := calm_values l _ hr
      refine ⟨v :: vs, by simp [h1], fun j hj u hu => ?_, h3⟩
      cases j with
      | zero =>
        simp only [List.getElem?_cons_zero, Option.some.injEq] at hu
        subst hu
        exact hy
      | succ j =>
        simp only [List.getElem?_cons_succ] at hu
        exact h2 j (by simpa using hj) u hu
    split at h
    · rename_i hw
      obtain ⟨v, hv, hr⟩ := h
      exact go v (.inl ⟨hw, hv⟩) hr
    · rename_i hw
      exact go undef (.inr ⟨by simpa using hw, rfl⟩) h

def dstOf (ops : Array Oper) (i : Nat) : Option Tmp := (ops[i]?).bind (·.dst)

/-- A frame in which just the operations that are listed have been carried out. -/
structure Fr (ops : Array Oper) (N : Nat) (vals : Nat → Value) (L : Nat → Bool) (a0 a : Act) : Prop where
  defers : a.defers = a0.defers
  size : a.tmps.size = a0.tmps.size
  done : ∀ i d, i < N → L i = true → dstOf ops i = some d → d < a0.tmps.size → a.tmps.getD d undef = vals i
  rest : ∀ d, (∀ i, i < N → L i = true → dstOf ops i ≠ some d) → a.tmps.getD d undef = a0.tmps.getD d undef

theorem getD_set_self {xs : Array Value} {d : Nat} {v u : Value} (h : d < xs.size) : (xs.setIfInBounds d v).getD d u = v := by
  simp [h]
theorem getD_set_other {xs : Array Value} {d e : Nat} {v u : Value} (h : d ≠ e) : (xs.setIfInBounds d v).getD e u = xs.getD e u := by
  simp [Array.getElem?_setIfInBounds_ne h]

theorem Fr.put {N : Nat} {vals : Nat → Value} {L L' : Nat → Bool} {a0 a : Act} (h : Fr ops N vals L a0 a) {i : Nat} (_hi : i < N)
    (hsingle : ∀ j, j < N → j ≠ i → ∀ d, dstOf ops i = some d → dstOf ops j ≠ some d) (hL : ∀ j, L' j = true ↔ L j = true ∨ j = i) :
    Fr ops N vals L' a0 (a.put (dstOf ops i) (vals i)) := by
  cases hd : dstOf ops i with
  | none =>
    refine ⟨h.defers, h.size, fun j d hj hl hjd hds => ?_, fun d hn => h.rest d (fun j hj hl => hn j hj ((hL j).2 (.inl hl)))⟩
    rcases (hL j).1 hl with hl | rfl
    · exact h.done j d hj hl hjd hds
    · rw [hd] at hjd; cases hjd
  | some e =>
    refine ⟨h.defers, by simpa [Act.put] using h.size, fun j d hj hl hjd hds => ?_, fun d hn => ?_⟩
    · by_cases hji : j = i
      · subst hji
        rw [hd] at hjd
        injection hjd with hjd
        subst hjd
        exact getD_set_self (by rw [h.size]; exact hds)
      · have hne : e ≠ d := fun e' => hsingle j hj hji e hd (by rw [hjd, e'])
        show (a.tmps.setIfInBounds e (vals i)).getD d undef = vals j
        rw [getD_set_other hne]
        rcases (hL j).1 hl with hl | rfl
        · exact h.done j d hj hl hjd hds
        · exact absurd rfl hji
    · have hne : e ≠ d := fun e' => hn i _hi ((hL i).2 (.inr rfl)) (by rw [hd, e'])
      show (a.tmps.setIfInBounds e (vals i)).getD d undef = _
      rw [getD_set_other hne]
      exact h.rest d (fun j hj hl => hn j hj ((hL j).2 (.inl hl)))

theorem Fr.congr {N : Nat} {vals vals' : Nat → Value} {L : Nat → Bool} {a0 a : Act} (h : Fr ops N vals L a0 a) (hv : ∀ i, i < N → L i = true → vals i = vals' i) : Fr ops N vals' L a0 a :=
  ⟨h.defers, h.size, fun i d hi hl hd hs => (h.done i d hi hl hd hs).trans (hv i hi hl), h.rest⟩

theorem Fr.unique {N : Nat} {vals : Nat → Value} {L : Nat → Bool} {a0 a a' : Act} (h : Fr ops N vals L a0 a) (h' : Fr ops N vals L a0 a') : a = a' := by
  have hd : a.defers = a'.defers := h.defers.trans h'.defers.symm
  have ht : a.tmps = a'.tmps := by
    apply Array.ext (h.size.trans h'.size.symm)
    intro d h1 h2
    have e1 : a.tmps.getD d undef = a.tmps[d] := by simp [h1]
    have e2 : a'.tmps.getD d undef = a'.tmps[d] := by simp [h2]
    rw [← e1, ← e2]
    by_cases hex : ∃ i, i < N ∧ L i = true ∧ dstOf ops i = some d
    · obtain ⟨i, hi, hl, hid⟩ := hex
      rw [h.done i d hi hl hid (by rw [← h.size]; exact h1), h'.done i d hi hl hid (by rw [← h.size]; exact h1)]
    · have hn : ∀ i, i < N → L i = true → dstOf ops i ≠ some d := fun i hi hl hid => hex ⟨i, hi, hl, hid⟩
      rw [h.rest d hn, h'.rest d hn]
  cases a; cases a'
  simp only at hd ht
  rw [hd, ht]

/-- Two frames that agree on what an operation looks at. -/
theorem agree_exec {a a' : Act} (o : Oper) (hs : ∀ cs b, o.op ≠ .select cs b) (h : ∀ t ∈ o.looksAt ops, a.tmps.getD t undef = a'.tmps.getD t undef) : execOp a.eval o = execOp a'.eval o :=
  execOp_congr o hs fun x hx => by
    cases x with
    | tmp t => exact h t (List.mem_append_left _ (List.mem_filterMap.2 ⟨.tmp t, by simpa using hx, rfl⟩))
    | _ => rfl
theorem agree_wanted {a a' : Act} (o : Oper) (hz : a.tmps.size = a'.tmps.size) (h : ∀ t ∈ o.looksAt ops, a.tmps.getD t undef = a'.tmps.getD t undef) :
    Region.wanted o (yielded ops a.tmps) = Region.wanted o (yielded ops a'.tmps) := by
  unfold Region.wanted
  cases hg : o.guard with
  | none => rfl
  | some gw =>
    obtain ⟨g, want⟩ := gw
    have hy : yielded ops a.tmps g = yielded ops a'.tmps g := by
      unfold yielded
      cases ht : (ops[g]?).bind (·.dst) with
      | none => rfl
      | some t =>
        have := h t (by simp [Oper.looksAt, hg, ht])
        have hget : a.tmps[t]? = a'.tmps[t]? := by
          rcases Nat.lt_or_ge t a.tmps.size with hlt | hge
          · have hlt' : t < a'.tmps.size := hz ▸ hlt
            simp [hlt, hlt'] at this ⊢
            exact this
          · rw [Array.getElem?_eq_none hge, Array.getElem?_eq_none (by rw [← hz]; exact hge)]
        simp [hget]
    simp only [hy]
theorem CYields.agree {C : World → Prop} {o : Oper} {v : Value} {a a' : Act} (hs : ∀ cs b, o.op ≠ .select cs b) (hz : a.tmps.size = a'.tmps.size)
    (h : ∀ t ∈ o.looksAt ops, a.tmps.getD t undef = a'.tmps.getD t undef) (hy : CYields P ops C o v a) : CYields P ops C o v a' := by
  unfold CYields calmAt at *
  rw [← agree_exec o hs h, ← agree_wanted o hz h]
  exact hy

/-- The order's own look: the head's operations write each a place of its own; what they look at has been written by what they wait for; the tail waits for all, and goes in one order. -/
def calmB (ops : Array Oper) (n m : Nat) : Bool :=
  Region.noSelect ops && decide (n + m ≤ ops.size) && (decide (n + m = ops.size) || (Region.sinkB .any ops (n + m) && Region.chainB .any ops (n + m))) &&
  (List.range (n + m)).all (fun i => match ops[i]? with
    | none => false
    | some o => o.after.all (fun e => !Region.binds .any e || decide (e.on < i)) &&
      (List.range (n + m)).all (fun j => j == i || o.dst.isNone || !(dstOf ops j == o.dst)) &&
      (decide (n ≤ i) || (o.looksAt ops).all (fun t => (List.range (n + m)).all fun j => !(dstOf ops j == some t) || o.after.any (fun e => Region.binds .any e && e.on == j)))) &&
  Region.seqB .any ops (ops.size - (n + m)) (n + m) ((List.range ops.size).map (fun i => decide (i < n + m))).toArray

structure CalmB (ops : Array Oper) (n m : Nat) : Prop where
  sel : Region.noSelect ops = true
  lt : n + m ≤ ops.size
  tail : n + m = ops.size ∨ (Region.sinkB .any ops (n + m) = true ∧ Region.chainB .any ops (n + m) = true)
  op : ∀ i, i < n + m → ∃ o, ops[i]? = some o ∧ (∀ e ∈ o.after, Region.binds .any e = true → e.on < i) ∧
    (∀ j, j < n + m → j ≠ i → ∀ d, dstOf ops i = some d → dstOf ops j ≠ some d) ∧
    (i < n → ∀ t ∈ o.looksAt ops, ∀ j, j < n + m → dstOf ops j = some t → ∃ e ∈ o.after, Region.binds .any e = true ∧ e.on = j)
  seq : Region.seqB .any ops (ops.size - (n + m)) (n + m) ((List.range ops.size).map (fun i => decide (i < n + m))).toArray = true

theorem calmB_spec {n m : Nat} (h : calmB ops n m = true) : CalmB ops n m := by
  simp only [calmB, Bool.and_eq_true, Bool.or_eq_true, decide_eq_true_eq] at h
  obtain ⟨⟨⟨⟨h1, h2⟩, h3⟩, h5⟩, h6⟩ := h
  refine ⟨h1, h2, h3, fun i hi => ?_, h6⟩
  have h7 := List.all_eq_true.1 h5 i (List.mem_range.2 hi)
  split at h7
  · cases h7
  · rename_i o ho
    simp only [Bool.and_eq_true, Bool.or_eq_true, decide_eq_true_eq] at h7
    obtain ⟨⟨h8, h9⟩, h10⟩ := h7
    refine ⟨o, ho, fun e he hb => ?_, fun j hj hji d hd => ?_, fun hin t ht j hj hjt => ?_⟩
    · have := Array.all_eq_true_iff_forall_mem.1 h8 e he
      simp only [hb, Bool.not_true, Bool.false_or, decide_eq_true_eq] at this
      exact this
    · have := List.all_eq_true.1 h9 j (List.mem_range.2 hj)
      have hod : o.dst = some d := by simpa [dstOf, ho] using hd
      simp only [hod, Option.isNone_some, Bool.or_false, Bool.or_eq_true, beq_iff_eq, hji, false_or, Bool.not_eq_true', beq_eq_false_iff_ne] at this
      exact this
    · rcases h10 with h10 | h10
      · omega
      · have h11 := List.all_eq_true.1 (List.all_eq_true.1 h10 t ht) j (List.mem_range.2 hj)
        simp only [hjt, BEq.rfl, Bool.not_true, Bool.false_or] at h11
        obtain ⟨e, he, h12⟩ := Array.any_eq_true'.1 h11
        simp only [Bool.and_eq_true, beq_iff_eq] at h12
        exact ⟨e, he, h12.1, h12.2⟩

/-- What holds while the head is carried out. -/
structure HeadIs (P : Program) (ops : Array Oper) (n m : Nat) (V : Nat → Value) (obj : Nat → Obj) (w0 : World) (a0 : Act) (listed : Array Bool) (a : Act) (w : World) (vals : Nat → Value) : Prop where
  inv : HeadInv .any ops (n + m) listed
  calmV : ∀ i, i < n → vals i = V i
  fr : Fr ops (n + m) vals (fun i => listed.getD i false) a0 a
  below : Below w0.heap.size w0 w
  made : ∀ i, n ≤ i → i < n + m → listed.getD i false = true → ∃ b, vals i = .pointer (some ⟨b, 0, none⟩) ∧ w0.heap.size ≤ b ∧ w.heap[b]? = some (obj i)
  apart : ∀ i j, n ≤ i → i < n + m → n ≤ j → j < n + m → i ≠ j → listed.getD i false = true → listed.getD j false = true → vals i ≠ vals j

theorem listed_set {listed : Array Bool} {i : Nat} (hi : i < listed.size) (j : Nat) : (listed.setIfInBounds i true).getD j false = true ↔ listed.getD j false = true ∨ j = i := by
  by_cases h : i = j
  · subst h; simp [hi]
  · rw [getD_set_ne false h]
    exact ⟨.inl, fun hh => hh.resolve_right (fun e => h e.symm)⟩

theorem wpAny_calm {n m : Nat} {V : Nat → Value} {obj : Nat → Obj} {w0 : World} {a0 : Act} {Q : Exit → Act → World → Prop} (hB : CalmB ops n m)
    (hcalm : ∀ i (_ : i < n) o, ops[i]? = some o → ∃ ai, Fr ops (n + m) V (fun j => decide (j < i)) a0 ai ∧ CYields P ops (fun w => Below w0.heap.size w0 w) o (V i) ai)
    (hmake : ∀ i o, n ≤ i → i < n + m → ops[i]? = some o → o.guard = none ∧ ∀ (a : Act) (w : World), (execOp a.eval o).run P w = .ok (.value (.pointer (some ⟨w.heap.size, 0, none⟩))) (w.alloc (obj i)))
    (hend : ∀ listed a w vals, HeadIs P ops n m V obj w0 a0 listed a w vals → (∀ i, i < n + m → listed.getD i false = true) → wpList P ops Q (ops.toList.drop (n + m)) a w) :
    ∀ (c : Nat) (listed : Array Bool) (a : Act) (w : World) (vals : Nat → Value), HeadIs P ops n m V obj w0 a0 listed a w vals →
      ((List.range (n + m)).filter (fun i => !listed.getD i true)).length = c → wpAny P .any ops Q (c + (ops.size - (n + m))) listed a w := by
  intro c
  induction c with
  | zero =>
    intro listed a w vals H hc
    have hall : ∀ i, i < n + m → listed.getD i true = true := by
      intro i hi
      apply Classical.byContradiction
      intro hne
      have hmem : i ∈ (List.range (n + m)).filter (fun i => !listed.getD i true) := List.mem_filter.2 ⟨List.mem_range.2 hi, by simpa using hne⟩
      rw [List.length_eq_zero_iff.1 hc] at hmem
      cases hmem
    have hall' : ∀ i, i < n + m → listed.getD i false = true := by
      intro i hi
      have h1 := hall i hi
      have hlt : i < listed.size := by rw [H.inv.size]; have := hB.lt; omega
      simp [hlt] at h1 ⊢
      exact h1
    have hlist : listed = ((List.range ops.size).map (fun i => decide (i < n + m))).toArray := by
      apply Array.ext
      · simp [H.inv.size]
      · intro i h1 h2
        have hi : i < ops.size := by rw [← H.inv.size]; exact h1
        simp only [List.getElem_toArray, List.getElem_map, List.getElem_range]
        by_cases hin : i < n + m
        · have := hall i hin
          simp [h1] at this
          simp [this, hin]
        · have := H.inv.tail i (by omega) hi
          simp [h1] at this
          simp [this, hin]
    have hw := hend listed a w vals H hall'
    have hlen : (ops.toList.drop (n + m)).length = ops.size - (n + m) := by simp
    rw [Nat.zero_add, ← hlen]
    refine wpAny_of_seq (ops.toList.drop (n + m)) (n + m) listed a w (fun j => by simp [List.getElem?_drop]) ?_ hw
    rw [hlen, hlist]
    exact hB.seq
  | succ c ih =>
    intro listed a w vals H hc
    rw [show c + 1 + (ops.size - (n + m)) = (c + (ops.size - (n + m))) + 1 by omega]
    -- the first that is not listed yet
    obtain ⟨k, hk, hkl⟩ : ∃ k, k < n + m ∧ listed.getD k true = false := by
      have hne : (List.range (n + m)).filter (fun i => !listed.getD i true) ≠ [] := by
        intro h0
        rw [h0] at hc
        simp at hc
      obtain ⟨k, hk⟩ := List.exists_mem_of_ne_nil _ hne
      obtain ⟨h1, h2⟩ := List.mem_filter.1 hk
      exact ⟨k, List.mem_range.1 h1, by simpa using h2⟩
    have hready : Region.ready .any ops listed ≠ [] := by
      have hex : ∀ k, k < n + m → listed.getD k true = false → ∃ i, i < n + m ∧ listed.getD i true = false ∧ ∀ j, j < i → listed.getD j true = true := by
        intro k
        induction k using Nat.strongRecOn with
        | _ k ihk =>
          intro hk hkl
          by_cases h : ∃ j, j < k ∧ listed.getD j true = false
          · obtain ⟨j, hj, hjl⟩ := h
            exact ihk j hj (by omega) hjl
          · refine ⟨k, hk, hkl, fun j hj => ?_⟩
            cases hjl : listed.getD j true with
            | true => rfl
            | false => exact absurd ⟨j, hj, hjl⟩ h
      obtain ⟨i, hi, hil, hmin⟩ := hex k hk hkl
      obtain ⟨o, ho, hafter, _, _⟩ := hB.op i hi
      have hmem : i ∈ Region.ready .any ops listed := mem_ready.2 ⟨hil, o, ho, fun e he hb => by
        have h1 := hmin e.on (hafter e he hb)
        have hlt : e.on < listed.size := by rw [H.inv.size]; have := hafter e he hb; have := hB.lt; omega
        simp [hlt] at h1 ⊢
        exact h1⟩
      intro h0
      rw [h0] at hmem
      cases hmem
    refine ⟨fun h0 => absurd h0 hready, fun i hi => ?_⟩
    have hin : i < n + m := by
      rcases Nat.lt_or_ge i (n + m) with h | h
      · exact h
      · rcases hB.tail with ht | ⟨ht1, ht2⟩
        · obtain ⟨_, o, ho, _⟩ := mem_ready.1 hi
          have := (Array.getElem?_eq_some_iff.1 ho).1
          omega
        · rcases Nat.lt_or_ge (n + m) ops.size with hlt | hge
          · exact absurd hi (tail_waits ht1 ht2 hlt H.inv _ k rfl hk hkl i h)
          · obtain ⟨_, o, ho, _⟩ := mem_ready.1 hi
            have := (Array.getElem?_eq_some_iff.1 ho).1
            omega
    obtain ⟨hun, o', ho', hafterL⟩ := mem_ready.1 hi
    obtain ⟨o, ho, hafter, hsingle, hlooks⟩ := hB.op i hin
    have hoo : o' = o := Option.some.inj (ho'.symm.trans ho)
    subst hoo
    have hsz : i < listed.size := by rw [H.inv.size]; have := hB.lt; omega
    have hunf := getD_both hun
    have hinv := H.inv.set hi hin
    have hdst : dstOf ops i = o'.dst := by simp [dstOf, ho]
    -- one fewer is left
    have hcount : ((List.range (n + m)).filter (fun j => !(listed.setIfInBounds i true).getD j true)).length = c := by
      have key : ∀ (l : List Nat), l.Nodup → i ∈ l → (l.filter (fun j => !listed.getD j true)).length = (l.filter (fun j => !(listed.setIfInBounds i true).getD j true)).length + 1 := by
        intro l
        induction l with
        | nil => intro _ h; cases h
        | cons x r ihl =>
          intro hnd hmem
          obtain ⟨hx, hr⟩ := List.nodup_cons.1 hnd
          by_cases hxi : x = i
          · subst hxi
            have h1 : (r.filter (fun j => !listed.getD j true)) = (r.filter (fun j => !(listed.setIfInBounds x true).getD j true)) := by
              apply List.filter_congr
              intro y hy
              have hne : x ≠ y := fun e => hx (e ▸ hy)
              rw [getD_set_ne true hne]
            have h2 : (listed.setIfInBounds x true).getD x true = true := by simp [hsz]
            rw [List.filter_cons_of_pos (by simp [hun]), List.filter_cons_of_neg (by simp [h2]), List.length_cons, h1]
          · have hmr : i ∈ r := by
              rcases List.mem_cons.1 hmem with h | h
              · exact absurd h.symm hxi
              · exact h
            have h3 := ihl hr hmr
            have h4 : (listed.setIfInBounds i true).getD x true = listed.getD x true := getD_set_ne true (Ne.symm hxi)
            by_cases h5 : listed.getD x true = true
            · rw [List.filter_cons_of_neg (by simp [h5]), List.filter_cons_of_neg (by rw [h4]; simp [h5])]; exact h3
            · rw [List.filter_cons_of_pos (by simpa using h5), List.filter_cons_of_pos (by rw [h4]; simpa using h5), List.length_cons, List.length_cons, h3]
      have := key (List.range (n + m)) List.nodup_range (List.mem_range.2 hin)
      omega
    -- what comes behind it
    have next : ∀ (v : Value) (w' : World) (vals' : Nat → Value), HeadIs P ops n m V obj w0 a0 (listed.setIfInBounds i true) (a.put o'.dst v) w' vals' →
        wpAny P .any ops Q (c + (ops.size - (n + m))) (listed.setIfInBounds i true) (a.put o'.dst v) w' := fun v w' vals' H' => ih _ _ _ vals' H' hcount
    have madeKeep : ∀ w', Below w.heap.size w w' → ∀ j, n ≤ j → j < n + m → listed.getD j false = true → ∃ b, vals j = .pointer (some ⟨b, 0, none⟩) ∧ w0.heap.size ≤ b ∧ w'.heap[b]? = some (obj j) := by
      intro w' hb j h1 h2 h3
      obtain ⟨b, e1, e2, e3⟩ := H.made j h1 h2 h3
      refine ⟨b, e1, e2, ?_⟩
      rw [hb.block b (Array.getElem?_eq_some_iff.1 e3).1]
      exact e3
    have madeNe : ∀ j, n ≤ j → j < n + m → listed.getD j false = true → vals j ≠ .pointer (some ⟨w.heap.size, 0, none⟩) := by
      intro j h1 h2 h3 e
      obtain ⟨b, e1, e2, e3⟩ := H.made j h1 h2 h3
      rw [e1] at e
      injection e with e
      injection e with e
      injection e with e
      have := (Array.getElem?_eq_some_iff.1 e3).1
      omega
    by_cases hcn : i < n
    · -- a calm one
      obtain ⟨ai, hfi, hy⟩ := hcalm i hcn o' ho
      have hag : ∀ t ∈ o'.looksAt ops, ai.tmps.getD t undef = a.tmps.getD t undef := by
        intro t ht
        rcases Nat.lt_or_ge t a0.tmps.size with htl | htg
        · by_cases hex : ∃ j, j < n + m ∧ dstOf ops j = some t
          · obtain ⟨j, hj, hjt⟩ := hex
            obtain ⟨e, he, hb, hon⟩ := hlooks hcn t ht j hj hjt
            have hji : j < i := by have := hafter e he hb; omega
            have hjl : listed.getD j false = true := by have := hafterL e he hb; rw [hon] at this; exact this
            rw [hfi.done j t hj (by simpa using hji) hjt htl, H.fr.done j t hj hjl hjt htl, H.calmV j (by omega)]
          · have hn : ∀ j, j < n + m → dstOf ops j ≠ some t := fun j hj e => hex ⟨j, hj, e⟩
            rw [hfi.rest t (fun j hj _ => hn j hj), H.fr.rest t (fun j hj _ => hn j hj)]
        · have g1 : ai.tmps.size ≤ t := by rw [hfi.size]; exact htg
          have g2 : a.tmps.size ≤ t := by rw [H.fr.size]; exact htg
          simp [Array.getElem?_eq_none g1, Array.getElem?_eq_none g2]
      have hy' : CYields P ops (fun w => Below w0.heap.size w0 w) o' (V i) a := hy.agree (Region.noSelect_spec hB.sel i o' · · ho) (hfi.size.trans H.fr.size.symm) hag
      have hput : Fr ops (n + m) vals (fun j => (listed.setIfInBounds i true).getD j false) a0 (a.put o'.dst (V i)) := by
        rw [← hdst, ← H.calmV i hcn]
        exact H.fr.put hin hsingle (fun j => listed_set hsz j)
      have fin : ∀ w', Below w.heap.size w w' → HeadIs P ops n m V obj w0 a0 (listed.setIfInBounds i true) (a.put o'.dst (V i)) w' vals := by
        intro w' hb
        refine ⟨hinv, H.calmV, hput, H.below.trans (hb.mono H.below.size), fun j h1 h2 h3 => ?_, fun j k h1 h2 h3 h4 h5 h6 h7 => ?_⟩
        · refine madeKeep w' hb j h1 h2 ?_
          rwa [getD_set_ne false (by omega)] at h3
        · rw [getD_set_ne false (by omega)] at h6 h7
          exact H.apart j k h1 h2 h3 h4 h5 h6 h7
      unfold wpOp
      simp only [ho]
      rcases hy' with ⟨hw, hv⟩ | ⟨hw, hv⟩
      · simp only [hw, if_true]
        refine .inl ?_
        have h3 := hv w H.below
        unfold calmAt at h3
        unfold Oper.wp
        generalize (execOp a.eval o').run P w = r at *
        cases r with
        | ok nx w' =>
          cases nx <;> simp only [calmUpon] at h3 <;> simp only [Oper.upon]
          case value u =>
            obtain ⟨e1, e2⟩ := h3
            subst e1; subst e2
            exact next _ _ vals (fin _ (Below.refl _ _))
          case skip =>
            obtain ⟨e1, e2⟩ := h3
            subst e1
            have f := fin w' (Below.refl _ _)
            rw [e2] at f
            exact next _ _ vals f
          case enter f args =>
            obtain ⟨e1, hcl⟩ := h3
            subst e1
            exact hcl.mono fun e w'' ⟨he, hb⟩ => by subst he; exact next _ _ vals (fin _ hb)
        | halt x w' => simp only [calmUpon] at h3
      · simp only [hw, Bool.false_eq_true, if_false]
        have f := fin w (Below.refl _ _)
        rw [hv] at f
        exact next _ _ vals f
    · -- a new variable
      obtain ⟨hg, hrun⟩ := hmake i o' (by omega) hin ho
      unfold wpOp
      simp only [ho]
      rw [if_pos (by simp [Region.wanted, hg])]
      refine .inl ?_
      unfold Oper.wp
      rw [hrun]
      simp only [Oper.upon]
      have hb : Below w.heap.size w (w.alloc (obj i)) := (Below.refl _ _).alloc (Nat.le_refl _) _
      refine next _ _ (fun j => if j = i then .pointer (some ⟨w.heap.size, 0, none⟩) else vals j) ⟨hinv, fun j hj => ?_, ?_, H.below.trans (hb.mono H.below.size), fun j h1 h2 h3 => ?_, fun j k h1 h2 h3 h4 h5 h6 h7 => ?_⟩
      · rw [if_neg (by omega)]; exact H.calmV j hj
      · have hfr : Fr ops (n + m) (fun j => if j = i then .pointer (some ⟨w.heap.size, 0, none⟩) else vals j) (fun j => listed.getD j false) a0 a :=
          H.fr.congr fun j _ hjl => by
            have hji : j ≠ i := by
              intro e
              have h0 : listed.getD j false = true := hjl
              rw [e, hunf] at h0
              cases h0
            simp only [if_neg hji]
        have := hfr.put hin hsingle (fun j => listed_set hsz j)
        rw [hdst] at this
        simp only [if_pos] at this
        exact this
      · by_cases hji : j = i
        · subst hji
          refine ⟨w.heap.size, by simp, H.below.size, ?_⟩
          show (w.heap.push (obj j))[w.heap.size]? = _
          simp
        · rw [getD_set_ne false (Ne.symm hji)] at h3
          obtain ⟨b, e1, e2, e3⟩ := madeKeep _ hb j h1 h2 h3
          exact ⟨b, by simp only [if_neg hji]; exact e1, e2, e3⟩
      · by_cases hji : j = i
        · subst hji
          rw [getD_set_ne false h5] at h7
          simp only [if_neg (Ne.symm h5), if_pos]
          exact fun e => madeNe k h3 h4 h7 e.symm
        · by_cases hki : k = i
          · subst hki
            rw [getD_set_ne false (Ne.symm hji)] at h6
            simp only [if_neg hji, if_pos]
            exact madeNe j h1 h2 h6
          · rw [getD_set_ne false (Ne.symm hji)] at h6
            rw [getD_set_ne false (Ne.symm hki)] at h7
            simp only [if_neg hji, if_neg hki]
            exact H.apart j k h1 h2 h3 h4 h5 h6 h7

theorem frameOf_snoc : ∀ (l : List Oper) (vs : List Value) (k : Nat) (a : Act) (hk : k < l.length) (v : Value), vs[k]? = some v →
    frameOf (l.take (k + 1)) (vs.take (k + 1)) a = (frameOf (l.take k) (vs.take k) a).put l[k].dst v
  | [], _, _, _, hk, _, _ => absurd hk (Nat.not_lt_zero _)
  | _ :: _, [], _, _, _, _, h => by simp at h
  | o :: l, u :: vs, 0, a, _, v, h => by
    simp only [List.getElem?_cons_zero, Option.some.injEq] at h
    subst h
    cases l <;> simp [frameOf]
  | o :: l, u :: vs, k + 1, a, hk, v, h => by
    simp only [List.getElem?_cons_succ] at h
    simp only [List.take_succ_cons, frameOf, List.getElem_cons_succ]
    exact frameOf_snoc l vs k (a.put o.dst u) (by simpa using hk) v h

theorem frameOf_append : ∀ (l : List Oper) (vs : List Value) (l' : List Oper) (vs' : List Value) (a : Act), vs.length = l.length →
    frameOf (l ++ l') (vs ++ vs') a = frameOf l' vs' (frameOf l vs a)
  | [], [], _, _, _, _ => by simp [frameOf]
  | o :: l, v :: vs, l', vs', a, h => by
    simp only [List.cons_append, frameOf]
    exact frameOf_append l vs l' vs' _ (by simpa using h)
  | [], _ :: _, _, _, _, h => by simp at h
  | _ :: _, [], _, _, _, h => by simp at h

theorem fr_lex {l : List Oper} {n m : Nat} {vs : List Value} {a0 : Act} (hB : CalmB l.toArray n m) (hlen : n ≤ vs.length) : ∀ k, k ≤ n + m → k ≤ vs.length →
    Fr l.toArray (n + m) (fun i => vs.getD i undef) (fun j => decide (j < k)) a0 (frameOf (l.take k) (vs.take k) a0)
  | 0, _, _ => by
    simp only [List.take_zero, frameOf]
    exact ⟨rfl, rfl, fun i d _ h => by simp at h, fun d _ => rfl⟩
  | k + 1, hk, hkv => by
    have ih := fr_lex (a0 := a0) hB hlen k (by omega) (by omega)
    have hlt : n + m ≤ l.length := by simpa using hB.lt
    have hkl : k < l.length := by omega
    have hv : vs[k]? = some (vs.getD k undef) := by
      have : k < vs.length := by omega
      simp [this]
    rw [frameOf_snoc l vs k a0 hkl _ hv]
    obtain ⟨o, ho, _, hsingle, _⟩ := hB.op k (by omega)
    have hd : dstOf l.toArray k = l[k].dst := by simp [dstOf, hkl]
    rw [← hd]
    exact ih.put (by omega) hsingle (fun j => by simp; omega)

theorem alloc_below (w : World) : Below w.heap.size w { w with drawn := w.drawn + 1 } := ⟨rfl, rfl, rfl, Nat.le_refl _, fun _ _ => rfl⟩

def ptrs (bs : List Nat) : List Value := bs.map fun b => .pointer (some ⟨b, 0, none⟩)

theorem wp_calm {id : Nat} {Q : Exit → Act → World → Prop} {a : Act} {l : List Oper} (n m : Nat) (obj : Nat → Obj) (hm : P.follows .mixedOrders = true) (hB0 : calmB l.toArray n m = true)
    (hmake : ∀ i o, n ≤ i → i < n + m → l[i]? = some o → o.guard = none ∧ ∀ (a : Act) (w : World), (execOp a.eval o).run P w = .ok (.value (.pointer (some ⟨w.heap.size, 0, none⟩))) (w.alloc (obj i)))
    (h : wpCalm P l.toArray (fun w' => Below w.heap.size w w') (fun a' => ∀ w' (bs : List Nat), Below w.heap.size w w' → bs.length = m → bs.Nodup →
      (∀ i b, bs[i]? = some b → w.heap.size ≤ b ∧ w'.heap[b]? = some (obj (n + i))) →
      wpList P l.toArray Q (l.drop (n + m)) (frameOf ((l.drop n).take m) (ptrs bs) a') w') (l.take n) a) :
    (Code.region id l.toArray true).wp P Q a w := by
  have hB := calmB_spec hB0
  have hlt : n + m ≤ l.length := by simpa using hB.lt
  obtain ⟨vs, hlen, hy, hQ⟩ := calm_values (l.take n) a h
  have hlen' : vs.length = n := by rw [hlen]; simp; omega
  refine wp_region_any hm ?_
  have inv0 : HeadInv .any l.toArray (n + m) (Array.replicate l.toArray.size false) :=
    ⟨by simp, fun j oj _ hl => (by rw [getD_replicate_false] at hl; cases hl), fun t _ ht => getD_in (by simpa using ht) (getD_replicate_false _ _)⟩
  have nol : ∀ i, (Array.replicate l.toArray.size false).getD i false = true → False := fun i hl => by rw [getD_replicate_false] at hl; cases hl
  have H0 : HeadIs P l.toArray n m (fun i => vs.getD i undef) obj w a (Array.replicate l.toArray.size false) a { w with drawn := w.drawn + 1 } (fun i => vs.getD i undef) :=
    ⟨inv0, fun _ _ => rfl, ⟨rfl, rfl, fun i d _ hl => (nol i hl).elim, fun d _ => rfl⟩, alloc_below w,
      fun i _ _ hl => (nol i hl).elim, fun i j _ _ _ _ _ hl => (nol i hl).elim⟩
  have hlen2 : ((List.range (n + m)).filter (fun i => !(Array.replicate l.toArray.size false).getD i true)).length = n + m := by
    have : (List.range (n + m)).filter (fun i => !(Array.replicate l.toArray.size false).getD i true) = List.range (n + m) := by
      apply List.filter_eq_self.2
      intro i hi
      have := List.mem_range.1 hi
      have h2 : i < l.length := by omega
      simp [h2]
    rw [this, List.length_range]
  have main := wpAny_calm (P := P) (Q := Q) (V := fun i => vs.getD i undef) (obj := obj) (w0 := w) (a0 := a) hB
    (fun i hi o ho => by
      refine ⟨frameOf (l.take i) (vs.take i) a, fr_lex hB (by omega) i (by omega) (by omega), ?_⟩
      have hil : i < (l.take n).length := by simp; omega
      have hv : vs[i]? = some (vs.getD i undef) := by
        have : i < vs.length := by omega
        simp [this]
      have h1 := hy i hil _ hv
      have ho' : (l.take n)[i] = o := by
        have h3 : i < l.length := by omega
        simp [h3] at ho
        simp [ho]
      rw [ho', List.take_take, Nat.min_eq_left (by omega)] at h1
      exact h1)
    (fun i o h1 h2 ho => hmake i o h1 h2 (by simpa using ho))
    (fun listed a' w' vals H hall => by
      have hfr : Fr l.toArray (n + m) vals (fun j => decide (j < n + m)) a a' :=
        ⟨H.fr.defers, H.fr.size, fun i d hi _ => H.fr.done i d hi (hall i hi), fun d hd => H.fr.rest d (fun i hi _ => hd i hi (by simpa using hi))⟩
      have hb : ∀ i, ∃ b, n ≤ i → i < n + m → vals i = .pointer (some ⟨b, 0, none⟩) ∧ w.heap.size ≤ b ∧ w'.heap[b]? = some (obj i) := by
        intro i
        by_cases hi : n ≤ i ∧ i < n + m
        · obtain ⟨b, hb⟩ := H.made i hi.1 hi.2 (hall i hi.2)
          exact ⟨b, fun _ _ => hb⟩
        · exact ⟨0, fun h1 h2 => absurd ⟨h1, h2⟩ hi⟩
      have ⟨blk, hblk⟩ : ∃ blk : Nat → Nat, ∀ i, n ≤ i → i < n + m → vals i = .pointer (some ⟨blk i, 0, none⟩) ∧ w.heap.size ≤ blk i ∧ w'.heap[blk i]? = some (obj i) :=
        ⟨fun i => Classical.choose (hb i), fun i => Classical.choose_spec (hb i)⟩
      have hbs : ((List.range m).map fun i => blk (n + i)).length = m := by simp
      have hres := hQ w' ((List.range m).map fun i => blk (n + i)) H.below hbs ?_ ?_
      · have ha : a' = frameOf ((l.drop n).take m) (ptrs ((List.range m).map fun i => blk (n + i))) (frameOf (l.take n) vs a) := by
          have hsplit : l.take (n + m) = l.take n ++ (l.drop n).take m := List.take_add
          have hL := fr_lex (a0 := a) (vs := vs ++ ptrs ((List.range m).map fun i => blk (n + i))) hB (by simp; omega) (n + m) (Nat.le_refl _) (by simp [ptrs]; omega)
          have htk : (vs ++ ptrs ((List.range m).map fun i => blk (n + i))).take (n + m) = vs ++ ptrs ((List.range m).map fun i => blk (n + i)) := List.take_of_length_le (by simp [ptrs]; omega)
          rw [htk, hsplit, frameOf_append _ _ _ _ _ (by rw [hlen])] at hL
          refine hfr.unique (hL.congr fun i hi _ => ?_)
          by_cases hin : i < n
          · rw [H.calmV i hin]
            have h3 : i < vs.length := by omega
            simp only [List.getD_eq_getElem?_getD, List.getElem?_append_left h3]
          · obtain ⟨e1, _, _⟩ := hblk i (by omega) hi
            rw [e1]
            have h3 : i - n < m := by omega
            have h4 : n + (i - n) = i := by omega
            simp only [List.getD_eq_getElem?_getD, List.getElem?_append_right (show vs.length ≤ i by omega), hlen', ptrs, List.getElem?_map, List.getElem?_range h3, Option.map_some, Option.getD_some, h4]
        rw [ha]
        simpa using hres
      · rw [List.nodup_iff_pairwise_ne, List.pairwise_map]
        refine List.Pairwise.imp_of_mem ?_ List.nodup_range
        intro i j hi hj hne heq
        have hi' := List.mem_range.1 hi
        have hj' := List.mem_range.1 hj
        refine H.apart (n + i) (n + j) (by omega) (by omega) (by omega) (by omega) (by omega) (hall _ (by omega)) (hall _ (by omega)) ?_
        rw [(hblk (n + i) (by omega) (by omega)).1, (hblk (n + j) (by omega) (by omega)).1, heq]
      · intro i b hib
        have hi : i < m := by
          have := (List.getElem?_eq_some_iff.1 hib).1
          simpa using this
        have hb' : b = blk (n + i) := by simpa [hi] using hib.symm
        rw [hb']
        exact (hblk (n + i) (by omega) (by omega)).2)
    (n + m) _ a _ _ H0 hlen2
  have hs : n + m + (l.toArray.size - (n + m)) = l.toArray.size := by simp; omega
  rw [hs] at main
  exact main

/-- No new variable. -/
theorem wp_calm0 {id : Nat} {Q : Exit → Act → World → Prop} {a : Act} {l : List Oper} (n : Nat) (hm : P.follows .mixedOrders = true) (hB0 : calmB l.toArray n 0 = true)
    (hh : ∀ C : World → Prop, (∀ w', C w' → Below w.heap.size w w') → wpCalm P l.toArray C (fun a' => ∀ w', Below w.heap.size w w' → wpList P l.toArray Q (l.drop n) a' w') (l.take n) a) :
    (Code.region id l.toArray true).wp P Q a w := by
  have h := hh (fun w' => Below w.heap.size w w') (fun _ h => h)
  refine wp_calm n 0 (fun _ => .map #[] 0) hm hB0 (fun i o h1 h2 => by omega) ?_
  have mono : ∀ (r : List Oper) (a : Act) (Q1 Q2 : Act → Prop), (∀ a, Q1 a → Q2 a) → wpCalm P l.toArray (fun w' => Below w.heap.size w w') Q1 r a → wpCalm P l.toArray (fun w' => Below w.heap.size w w') Q2 r a := by
    intro r
    induction r with
    | nil => intro a Q1 Q2 hq h; exact hq _ h
    | cons o r ih =>
      intro a Q1 Q2 hq h
      unfold wpCalm at h ⊢
      split
      · rename_i hw
        rw [if_pos hw] at h
        obtain ⟨v, h1, h2⟩ := h
        exact ⟨v, h1, ih _ _ _ hq h2⟩
      · rename_i hw
        rw [if_neg hw] at h
        exact ih _ _ _ hq h
  refine mono _ _ _ _ (fun a' h w' bs hb hl _ _ => ?_) h
  have : (l.drop n).take 0 = [] := by simp
  rw [this]
  exact h w' hb

/-- One new variable. -/
theorem wp_calm1 {id : Nat} {Q : Exit → Act → World → Prop} {a : Act} {l : List Oper} (n : Nat) (ob : Obj) (d : Option Tmp) (hm : P.follows .mixedOrders = true) (hB0 : calmB l.toArray n 1 = true)
    (hd : (l[n]?).map (fun o => (o.dst, o.guard.isNone)) = some (d, true))
    (hmake : ∀ o, l[n]? = some o → ∀ (a : Act) (w : World), (execOp a.eval o).run P w = .ok (.value (.pointer (some ⟨w.heap.size, 0, none⟩))) (w.alloc ob))
    (hh : ∀ C : World → Prop, (∀ w', C w' → Below w.heap.size w w') → wpCalm P l.toArray C (fun a' => ∀ w' b, Below w.heap.size w w' → w.heap.size ≤ b → w'.heap[b]? = some ob →
      wpList P l.toArray Q (l.drop (n + 1)) (a'.put d (.pointer (some ⟨b, 0, none⟩))) w') (l.take n) a) :
    (Code.region id l.toArray true).wp P Q a w := by
  have h := hh (fun w' => Below w.heap.size w w') (fun _ h => h)
  obtain ⟨o, ho, hod⟩ := Option.map_eq_some_iff.1 hd
  simp only [Prod.mk.injEq, Option.isNone_iff_eq_none] at hod
  refine wp_calm n 1 (fun _ => ob) hm hB0 (fun i o' h1 h2 ho' => ?_) ?_
  · have : i = n := by omega
    subst this
    have : o' = o := Option.some.inj (ho'.symm.trans ho)
    subst this
    exact ⟨hod.2, hmake o' ho⟩
  have mono : ∀ (r : List Oper) (a : Act) (Q1 Q2 : Act → Prop), (∀ a, Q1 a → Q2 a) → wpCalm P l.toArray (fun w' => Below w.heap.size w w') Q1 r a → wpCalm P l.toArray (fun w' => Below w.heap.size w w') Q2 r a := by
    intro r
    induction r with
    | nil => intro a Q1 Q2 hq h; exact hq _ h
    | cons o r ih =>
      intro a Q1 Q2 hq h
      unfold wpCalm at h ⊢
      split
      · rename_i hw
        rw [if_pos hw] at h
        obtain ⟨v, h1, h2⟩ := h
        exact ⟨v, h1, ih _ _ _ hq h2⟩
      · rename_i hw
        rw [if_neg hw] at h
        exact ih _ _ _ hq h
  refine mono _ _ _ _ (fun a' h w' bs hb hl _ hob => ?_) h
  obtain ⟨b, rfl⟩ : ∃ b, bs = [b] := List.length_eq_one_iff.1 hl
  have : (l.drop n).take 1 = [o] := by
    have hlt := (List.getElem?_eq_some_iff.1 ho)
    rw [List.drop_eq_getElem_cons hlt.1, hlt.2]
    simp
  rw [this]
  obtain ⟨h1, h2⟩ := hob 0 b rfl
  have := h w' b hb h1 h2
  rw [← hod.1] at this
  exact this
end
theorem calm_intro {P : Program} {o : Oper} {a : Act} {C : World → Prop} {next : Act → Prop} {v : Value} (h1 : ∀ w, C w → calmAt P o a w v) (h2 : next (a.put o.dst v)) : calm P o a C next := ⟨v, h1, h2⟩
attribute [go_sem] calmAt calmUpon
theorem bcell {W w1 : World} (hb : Below W.heap.size W w1) : (∀ b o, b < W.heap.size → w1.cell? ⟨b, o, none⟩ = W.cell? ⟨b, o, none⟩) ∧ (∀ b o, b < W.heap.size → w1.frozen? ⟨b, o, none⟩ = W.frozen? ⟨b, o, none⟩) :=
  ⟨fun b o h => hb.cell (p := ⟨b, o, none⟩) h, fun b o h => hb.frozen (p := ⟨b, o, none⟩) h⟩
theorem cellB {w : World} {b : Nat} {cs : Array Value} {T : TypeId} (h : w.heap[b]? = some (.cells cs T (0, 0))) : (∀ o, w.cell? ⟨b, o, none⟩ = cs[o]?) ∧ (∀ o, w.frozen? ⟨b, o, none⟩ = false) :=
  ⟨fun o => by simp [World.cell?, h], fun o => by simp [World.frozen?, h]⟩
theorem wp_named {P : Program} {c : Code} {Q : Exit → Act → World → Prop} {a : Act} {W : World} (h : ∀ W', W' = W → c.wp P Q a W') : c.wp P Q a W := h W rfl
theorem calls_named {P : Program} {f : FuncId} {args : Array Value} {R : Ending → World → Prop} {W : World} (h : ∀ W', W' = W → Calls P f args W' R) : Calls P f args W R := h W rfl
theorem heap_at {w : World} {o : Obj} {k : Nat} (h : k = w.heap.size) : (w.alloc o).heap[k]? = some o := by
  subst h
  show (w.heap.push o)[w.heap.size]? = _
  simp
theorem heap_old {w : World} {o : Obj} {k : Nat} (h : k < w.heap.size) : (w.alloc o).heap[k]? = w.heap[k]? := Below.heap_alloc _ _ _ h
theorem set_own {w : World} {b o : Nat} {T : TypeId} {cs : Array Value} (h : w.heap[b]? = some (.cells cs T (0, 0))) (v : Value) : (w.setCell ⟨b, o, none⟩ v).heap[b]? = some (.cells (cs.setIfInBounds o v) T (0, 0)) := by
  simp [World.setCell, Array.getElem?_modify, h]
/-- A block of its own, all its cells stored. -/
theorem store2 {w : World} {b : Nat} {T : TypeId} {u0 u1 : Value} (h : w.heap[b]? = some (.cells #[u0, u1] T (0, 0))) (v0 v1 : Value) :
    ((w.setCell ⟨b, 0, none⟩ v0).setCell ⟨b, 1, none⟩ v1).heap[b]? = some (.cells #[v0, v1] T (0, 0)) := set_own (set_own h v0) v1
theorem store3 {w : World} {b : Nat} {T : TypeId} {u0 u1 u2 : Value} (h : w.heap[b]? = some (.cells #[u0, u1, u2] T (0, 0))) (v0 v1 v2 : Value) :
    (((w.setCell ⟨b, 0, none⟩ v0).setCell ⟨b, 1, none⟩ v1).setCell ⟨b, 2, none⟩ v2).heap[b]? = some (.cells #[v0, v1, v2] T (0, 0)) := set_own (set_own (set_own h v0) v1) v2
/-- All cells of a block stored, one behind the other. -/
def storeAll (w : World) (b o : Nat) : List Value → World
  | [] => w
  | v :: vs => storeAll (w.setCell ⟨b, o, none⟩ v) b (o + 1) vs
theorem storeAll_kept {b k : Nat} {ob : Obj} (h : k ≠ b) : ∀ (vs : List Value) (w : World) (o : Nat), w.heap[k]? = some ob → (storeAll w b o vs).heap[k]? = some ob
  | [], _, _, hk => hk
  | _ :: vs, _, o, hk => storeAll_kept h vs _ (o + 1) (by rw [Below.heap_setCell _ _ _ _ h]; exact hk)
theorem storeAll_size {b : Nat} : ∀ (vs : List Value) (w : World) (o : Nat), (storeAll w b o vs).heap.size = w.heap.size
  | [], _, _ => rfl
  | _ :: vs, _, o => by unfold storeAll; rw [storeAll_size vs _ (o + 1)]; simp
theorem storeAll_below {X : World} {b : Nat} (hb : X.heap.size ≤ b) : ∀ (vs : List Value) (w : World) (o : Nat), Below X.heap.size X w → Below X.heap.size X (storeAll w b o vs)
  | [], _, _, h => h
  | _ :: vs, _, o, h => storeAll_below hb vs _ (o + 1) (h.setCell hb _)
theorem set_list (cs : List Value) (o : Nat) (v : Value) (ho : o < cs.length) : (cs.set o v) = cs.take o ++ v :: cs.drop (o + 1) := List.set_eq_take_append_cons_drop.trans (if_pos ho)
theorem storeAll_made {b : Nat} {T : TypeId} : ∀ (vs : List Value) (w : World) (o : Nat) (cs : List Value), w.heap[b]? = some (.cells cs.toArray T (0, 0)) → o + vs.length = cs.length →
    (storeAll w b o vs).heap[b]? = some (.cells (cs.take o ++ vs).toArray T (0, 0))
  | [], w, o, cs, h, hl => by
    simp only [List.length_nil, Nat.add_zero] at hl
    rw [List.append_nil, List.take_of_length_le (by omega)]
    exact h
  | v :: vs, w, o, cs, h, hl => by
    simp only [List.length_cons] at hl
    have h1 := set_own (o := o) h v
    rw [List.setIfInBounds_toArray] at h1
    have h2 := storeAll_made vs _ (o + 1) (cs.set o v) h1 (by simp; omega)
    have e : (cs.set o v).take (o + 1) ++ vs = cs.take o ++ v :: vs := by
      have e2 : cs.take o ++ v :: cs.drop (o + 1) = (cs.take o ++ [v]) ++ cs.drop (o + 1) := by simp
      rw [set_list cs o v (by omega), e2, List.take_left' (by simp; omega)]
      simp
    rw [e] at h2
    exact h2
section
variable {w W X : World} {b k : Nat} {T : TypeId} {ob : Obj} {vs cs : List Value}
theorem kept (hW : W = storeAll w b 0 vs) (h : k ≠ b) (hk : w.heap[k]? = some ob) : W.heap[k]? = some ob := by rw [hW]; exact storeAll_kept h _ _ _ hk
theorem made (hW : W = storeAll w b 0 vs) (h : w.heap[b]? = some (.cells cs.toArray T (0, 0))) (hl : vs.length = cs.length) : W.heap[b]? = some (.cells vs.toArray T (0, 0)) := by
  rw [hW]; exact storeAll_made vs w 0 cs h (by omega)
theorem sized (hW : W = storeAll w b 0 vs) : W.heap.size = w.heap.size := by rw [hW]; exact storeAll_size _ _ _
theorem below (hW : W = storeAll w b 0 vs) (hB : Below X.heap.size X w) (hb : X.heap.size ≤ b) : Below X.heap.size X W := by rw [hW]; exact storeAll_below hb _ _ _ hB
end
theorem other_block {w : World} {a : Addr} {v : Value} {k : Nat} (h : k ≠ a.block) : (w.setCell a v).heap[k]? = w.heap[k]? := Below.heap_setCell _ _ _ _ h
theorem after {w W w1 : World} (h : Below w.heap.size w W) (hb : Below W.heap.size W w1) : Below w.heap.size w w1 := h.trans (hb.mono h.size)
end Go.Proofs.Ytdglijdiiggdgaa
