/- 'm[k]++' at a map of the call's own: the entry is made or found, then stored: plain laws of the model's operations. -/
import Derived.Test.YtdglijdiiggdgaaMin
import Derived.Maps.OwnOps
namespace Go.Proofs.Ytdglijdiiggdgaa
open Go.RowKit Go.Maps Go.WideMaps Go.WideElems Go.ChangeMaps

theorem find_push {es : Array MapEntry} {x : MapEntry} (h : ∀ e ∈ es.toList, e.born < x.born) : (es.push x).findIdx? (fun e => (e.born : Int) == (x.born : Int)) = some es.size := by
  rw [Array.findIdx?_eq_some_iff_getElem]
  refine ⟨by simp, by simp, fun j hj => ?_⟩
  have := h es[j] (by simp)
  simp [Array.getElem_push_lt hj]
  omega
theorem find_at {es : Array MapEntry} {j : Nat} {e0 : MapEntry} {f : MapEntry → MapEntry} (hj : es[j]? = some e0) (hn : (es.toList.map (·.born)).Nodup) (hf : ∀ e, (f e).born = e.born) :
    (es.modify j f).findIdx? (fun e => (e.born : Int) == (e0.born : Int)) = some j := by
  obtain ⟨hlt, he⟩ := Array.getElem?_eq_some_iff.1 hj
  rw [Array.findIdx?_eq_some_iff_getElem]
  refine ⟨by simpa using hlt, by simp [Array.getElem_modify, hf, he], fun i hi => ?_⟩
  have hi' : i < es.size := by omega
  have hne := (List.pairwise_iff_getElem.1 hn) i j (by simpa using hi') (by simpa using hlt) hi
  simp only [List.getElem_map, Array.getElem_toList, he] at hne
  rw [Array.getElem_modify, if_neg (by omega)]
  simp
  omega
theorem modify_twice {es : Array MapEntry} {j : Nat} {f g h : MapEntry → MapEntry} (hh : ∀ e, g (f e) = h e) : (es.modify j f).modify j g = es.modify j h := by
  apply Array.ext
  · simp
  · intro i h1 h2
    simp only [Array.getElem_modify]
    split <;> simp [hh]
theorem push_modify {es : Array MapEntry} {x : MapEntry} {g : MapEntry → MapEntry} : (es.push x).modify es.size g = es.push (g x) := by
  apply Array.ext
  · simp
  · intro i h1 h2
    simp only [Array.getElem_modify]
    by_cases hi : es.size = i
    · subst hi; simp
    · have : i < es.size := by simp at h2; omega
      rw [if_neg hi, Array.getElem_push_lt this, Array.getElem_push_lt this]

variable {P : Program} {w : World} {b n : Nat} {D : DataW Unit}
theorem entry_law {t k e : TypeId} {q : IntKind} (h : w.ownsMap P k (plainElem P e) b n D) (K : Keyed P k) (ht : P.underlying t = some (.map k e)) (he : P.underlying e = some (.int q)) (hz : ∀ w, (zeroValue e).run P w = .ok (.int q 0) w) (hn : n < maxLen)
    {key : Value} {kl : Lit} (hkey : keyOf P k key = some kl) :
    ∃ c st w1, (Instr.lookup t (.map (some b)) key false).run P w = .ok (.int q c) w ∧ D.atKey kl (.lit (.int q 0)) = .lit (.int q c) ∧ (Lit.int q c).wf = true ∧
      (Instr.mapEntry t (.map (some b)) key).run P w = .ok (.tuple #[.int q c, .int .i64 st]) w1 ∧ (Instr.lookup t (.map (some b)) key false).run P w1 = .ok (.int q c) w1 ∧ w.grownBy w1 (some b) ∧
      ∀ d, (Lit.int q d).wf = true → ∃ w2, (Instr.entryStore t (.map (some b)) (.int .i64 st) (.int q d)).run P w1 = .ok () w2 ∧ w2.ownsMap P k (plainElem P e) b (n + 1) (D.put kl (.lit (.int q d))) ∧ w.grownBy w2 (some b) := by
  obtain ⟨c, hrun, hat, hwc⟩ := h.lookup_int K ht he (hz w) hkey
  obtain ⟨w1, hup1, hown1, hgr1⟩ := h.update K ht hn hkey (plainElem_int (H := Unit) he hwc)
  obtain ⟨es, clock, hb, F, hs, hD⟩ := id h
  have hlook1 : (Instr.lookup t (.map (some b)) key false).run P w1 = .ok (.int q c) w1 := by
    obtain ⟨c', h1, h2, _⟩ := hown1.lookup_int K ht he (hz w1) hkey
    have hc : c' = c := by
      have hkl := K.key hkey
      rw [atKey_put_same h.isMap hkl] at h2
      injection h2 with h2
      injection h2 with _ h2
      exact h2.symm
    rw [← hc]; exact h1
  have hun := run_underlying ht
  have hge := MapKept.run_getObj_map (P := P) hb
  have hset : ∀ o, (setObj b o).run P w = .ok () (setBlock w b o) := fun o => MapKept.run_setObj_map o hb
  have hgrow : ∀ o, w.grownBy (setBlock w b o) (some b) := fun o => ⟨rfl, rfl, rfl, by simp [setBlock], fun i _ hi => heap_setBlock_other hb _ (fun e => hi (by rw [e]))⟩
  rcases K.find w hkey es.toList F.keys with ⟨hf, hnk⟩ | ⟨j, e0, hf, hj, hke⟩
  · have hc0 : c = 0 := by
      simp [Instr.lookup, hun, hge, K.check w _ hkey, hf, hz w, Result.andThen] at hrun
      exact hrun.symm
    subst hc0
    have hw1 : w1 = setBlock w b (.map (es.push ⟨key, .int q 0, clock⟩) (clock + 1)) := by
      simp [Instr.mapUpdate, hun, hge, K.check w _ hkey, hf, hset, Result.andThen] at hup1
      exact hup1.symm
    refine ⟨0, clock, w1, hrun, hat, hwc, ?_, hlook1, hgr1, fun d hd => ?_⟩
    · rw [hw1]
      simp [Instr.mapEntry, hun, hge, K.check w _ hkey, hf, hset, hz w, goInt, Result.andThen]
    · obtain ⟨w2, hup2, hown2, hgr2⟩ := h.update K ht hn hkey (plainElem_int (H := Unit) he hd)
      have hw2 : w2 = setBlock w b (.map (es.push ⟨key, .int q d, clock⟩) (clock + 1)) := by
        simp [Instr.mapUpdate, hun, hge, K.check w _ hkey, hf, hset, Result.andThen] at hup2
        exact hup2.symm
      refine ⟨w2, ?_, hown2, hgr2⟩
      have hb1 : w1.heap[b]? = some (.map (es.push ⟨key, .int q 0, clock⟩) (clock + 1)) := by rw [hw1]; exact heap_setBlock_same hb _
      have hfi := find_push (es := es) (x := ⟨key, .int q 0, clock⟩) F.stamped.1
      have hset1 : ∀ o, (setObj b o).run P w1 = .ok () (setBlock w1 b o) := fun o => MapKept.run_setObj_map o hb1
      have hge1 := MapKept.run_getObj_map (P := P) hb1
      simp [Instr.entryStore, hge1, asInt, asIntOf, hfi, hset1, Result.andThen]
      rw [hw2, hw1, push_modify]
      simp [setBlock]
  · have hja : es[j]? = some e0 := by simpa using hj
    have hv0 : e0.val = .int q c := by
      simp [Instr.lookup, hun, hge, K.check w _ hkey, hf, Result.andThen] at hrun
      exact hrun
    have hw1 : w1 = setBlock w b (.map (es.modify j fun e => { e with key := key, val := .int q c }) clock) := by
      simp [Instr.mapUpdate, hun, hge, K.check w _ hkey, hf, hset, hja, hke, K.stays w hkey, Result.andThen] at hup1
      exact hup1.symm
    have hsame : (es.modify j fun e => { e with key := key }) = es.modify j fun e => { e with key := key, val := .int q c } := by
      obtain ⟨hlt, hej⟩ := Array.getElem?_eq_some_iff.1 hja
      apply Array.ext
      · simp
      · intro i h1 h2
        simp only [Array.getElem_modify]
        by_cases hi : j = i
        · subst hi; simp [hej, hv0]
        · simp [hi]
    refine ⟨c, e0.born, w1, hrun, hat, hwc, ?_, hlook1, hgr1, fun d hd => ?_⟩
    · rw [hw1, ← hsame]
      simp [Instr.mapEntry, hun, hge, K.check w _ hkey, hf, hset, hja, hke, K.stays w hkey, hv0, goInt, Result.andThen]
    · obtain ⟨w2, hup2, hown2, hgr2⟩ := h.update K ht hn hkey (plainElem_int (H := Unit) he hd)
      have hw2 : w2 = setBlock w b (.map (es.modify j fun e => { e with key := key, val := .int q d }) clock) := by
        simp [Instr.mapUpdate, hun, hge, K.check w _ hkey, hf, hset, hja, hke, K.stays w hkey, Result.andThen] at hup2
        exact hup2.symm
      refine ⟨w2, ?_, hown2, hgr2⟩
      have hb1 : w1.heap[b]? = some (.map (es.modify j fun e => { e with key := key, val := .int q c }) clock) := by rw [hw1]; exact heap_setBlock_same hb _
      have hfi := find_at (f := fun e => { e with key := key, val := .int q c }) hja F.stamped.2.1 (fun _ => rfl)
      have hset1 : ∀ o, (setObj b o).run P w1 = .ok () (setBlock w1 b o) := fun o => MapKept.run_setObj_map o hb1
      have hge1 := MapKept.run_getObj_map (P := P) hb1
      simp [Instr.entryStore, hge1, asInt, asIntOf, hfi, hset1, Result.andThen]
      rw [hw2, hw1, modify_twice (h := fun e => { e with key := key, val := .int q d }) (fun _ => rfl)]
      simp [setBlock]
end Go.Proofs.Ytdglijdiiggdgaa
