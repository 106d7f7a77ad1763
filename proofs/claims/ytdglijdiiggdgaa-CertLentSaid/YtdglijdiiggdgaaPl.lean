import Derived.Test.YtdglijdiiggdgaaClo
namespace Go.Proofs.Ytdglijdiiggdgaa
open Go.RowKit Go.Maps
theorem pairs_more {v : Int} {A B C : Nat → Int} : ∀ {f k : Nat} {L M : List (Int × Int)}, pairsF v A B C f k L = some M → ∃ T, M = L ++ T := by
  intro f
  induction f with
  | zero => intro k L M h; unfold pairsF at h; cases h; exact ⟨[], by simp⟩
  | succ f ih =>
    intro k L M h
    unfold pairsF at h
    split at h
    · cases h
    · exact ih h
    · obtain ⟨T, hT⟩ := ih h
      exact ⟨[_] ++ T, by rw [hT, List.append_assoc]⟩
/-- Both ways of gathering what follows on v answer alike. -/
theorem ring_pairs (v : Int) (A B C : Nat → Int) : ∀ (f k : Nat) (L : List (Int × Int)), (L.map Prod.fst).Nodup →
    (ringF v A B C f k L = pairsF v A B C f k L ∧ (∀ M, pairsF v A B C f k L = some M → (M.map Prod.fst).Nodup)) ∨ (ringF v A B C f k L = none ∧ ∀ M, pairsF v A B C f k L = some M → ¬ (M.map Prod.fst).Nodup) := by
  intro f
  induction f with
  | zero => intro k L hL; exact .inl ⟨rfl, fun M hM => by unfold pairsF at hM; cases hM; exact hL⟩
  | succ f ih =>
    intro k L hL
    unfold ringF pairsF
    cases hh : hit v (A k) (B k) (C k) with
    | none => exact .inl ⟨rfl, fun M hM => by simp at hM⟩
    | some o =>
      cases o with
      | none => exact ih (k + 1) L hL
      | some p =>
        simp only
        by_cases hd : L.any (fun q => q.1 == p.1) = true
        · rw [if_pos hd]
          refine .inr ⟨rfl, fun M hM hn => ?_⟩
          obtain ⟨T, rfl⟩ := pairs_more hM
          obtain ⟨q, hq, he⟩ := List.any_eq_true.1 hd
          rw [List.map_append, List.map_append] at hn
          have h1 := (List.nodup_append.1 hn).1
          have h2 := (List.nodup_append.1 h1).2.2 q.1 (List.mem_map_of_mem hq) p.1 (by simp)
          exact h2 (by simpa using he)
        · rw [if_neg hd]
          refine ih (k + 1) (L ++ [p]) ?_
          rw [List.map_append]
          refine List.nodup_append.2 ⟨hL, by simp, fun a ha c hc => ?_⟩
          simp only [List.map_cons, List.map_nil, List.mem_singleton] at hc
          subst hc
          intro e
          obtain ⟨q, hq, hqe⟩ := List.mem_map.1 ha
          exact hd (List.any_eq_true.2 ⟨q, hq, by simp [hqe, e]⟩)
theorem around_same (v : Int) (A B C : Nat → Int) (n : Nat) : refR (pairsF v A B C n 0 []) = arR (ringF v A B C n 0 []) := by
  rcases ring_pairs v A B C n 0 [] (by simp) with ⟨h1, h2⟩ | ⟨h1, h2⟩
  · rw [h1]
    cases hp : pairsF v A B C n 0 [] with
    | none => rfl
    | some M => unfold refR; simp [h2 M hp]
  · rw [h1]
    cases hp : pairsF v A B C n 0 [] with
    | none => rfl
    | some M => unfold refR; simp [h2 M hp]; rfl
end Go.Proofs.Ytdglijdiiggdgaa
