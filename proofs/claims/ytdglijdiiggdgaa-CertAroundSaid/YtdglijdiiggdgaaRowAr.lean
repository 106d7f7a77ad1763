/- What is proved: carapacelaw21.CertAround answers true at any list of triples and any place, and leaves what is handed in as it was. No condition. -/
import Derived.Test.YtdglijdiiggdgaaRows
import Derived.Test.YtdglijdiiggdgaaOp
namespace Go.Proofs.Ytdglijdiiggdgaa
open Go.ChangeShapes Go.WideShapes Go.ChangeAt Go.RowKit Go.Deep

theorem rowTris : Try.prog.readableRec 23 = true := by kernel_rfl
theorem rowLess : 23 < Try.prog.types.size := of_decide_eq_true (by kernel_rfl)
theorem uBool : Try.prog.underlying 4 = some .bool := by kernel_rfl
set_option maxRecDepth 100000 in
theorem certAround_lifted (os : Os) (started : os.Started) (H : Type) (enc : TypeId × Value → H) :
    ReturnsInHanded {} Try.checked os 4 .any (Rows.certAroundSpec.pre6 enc Try.prog Try.f4 Rows.certAroundRow.domain false) (Rows.certAroundSpec.post enc Try.prog Try.f4 false true false false) := by
  refine returnsInHanded_of_change (C := Try.checked) own0 started (by kernel_rfl) Try.func4
    (ChangeSpec.witness6 (enc := enc) (C := Try.checked) false ⟨#[], #[.slice none 0 0, .int .i64 0], []⟩ 8 (by kernel_rfl) (by kernel_rfl) (by kernel_rfl) (by kernel_rfl)) ?_
  intro W base args ds gs before hval0 hW hcnd _
  have hval : ∀ (j : Nat) t v, Try.f4.params[j]? = some t → args[j]? = some v → Value.okWide Try.prog W .any base t v := hval0
  have hW' := hW
  obtain ⟨p, q, hA0, hV, rfl, hfz, hnd⟩ := hW
  have hA : DataW.TrodAll enc Try.prog W 0 (fun _ => true) true Try.f4.params.toList args.toList ds p := hA0
  rw [Try.params4] at hA hval
  obtain ⟨v0, v1, d0, d1, p0, p1, rfl, rfl, rfl, h0, h1⟩ := trodAll_two hA
  obtain ⟨rfl, rfl⟩ := trodVars_none hV
  obtain ⟨v, rfl, rfl, rfl, w1⟩ := open_int uInt (hval 1 3 v1 rfl rfl) h1
  obtain ⟨pa, len, cap, rfl⟩ := okWide_slice uTris (hval 0 23 v0 rfl rfl)
  have h0k := h0
  obtain ⟨fuel, hf⟩ := h0
  clear hA0 hval0
  simp only [List.append_nil] at hW'
  obtain ⟨hlm, A, B, C, hP, hwf⟩ := pts_of_trod uTris cellsTri tri_of_trod (hval 0 23 _ rfl rfl) hf
  have hlt : ∀ x ∈ p0, x.block < W.heap.size := fun x hx => by simpa using hW'.lt x (by simpa using hx)
  refine (law21_around pa len cap v A B C hlm w1 hwf W (Lib.hid hP)).mono fun e W' ⟨he, hB⟩ => ?_
  subst he
  refine ⟨_, rfl, post_below hW' hB (fun _ _ _ => trodAll_mk1 (shut_bool uBool _)) (fun sp hsp => ?_) (fun _ => rfl) (ok_one (by kernel_rfl) rfl (okWide_bool_mk uBool _))⟩
  have h9 := trodAll_mk2 (WideElems.Trod_stays (sp' := sp) laid0 rowTris rowLess h0k (fun x hx => hB.same (hlt x hx)) (fun x hx => hsp x (by simpa using hx))) (shut_int (enc := enc) (P := Try.prog) (w := W') (base := 0) (spare := sp) (held := true) uInt w1)
  rw [List.append_nil] at h9
  exact h9

theorem certAround_holds : Rows.CertAroundSaid :=
  OpenClaim.holds_of_wide 4 Try.f4 rfl rfl rfl rfl rfl rfl rfl ⟨rfl, rfl, rfl, rfl, rfl⟩ rfl rfl rfl rfl rfl (by kernel_rfl) Try.func4 (by kernel_rfl)
    (of_decide_eq_true (by kernel_rfl)) (by unfold Func.isWrapper; first | (rw [if_pos (by decide +kernel)]; kernel_rfl) | (rw [if_neg (by decide +kernel)]; exact ⟨rfl, rfl⟩))
    (fun os started H enc _ => certAround_lifted os started H enc)
#print axioms certAround_holds
end Go.Proofs.Ytdglijdiiggdgaa
