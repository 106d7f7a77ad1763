/- What is proved: carapacelaw21.CertFacets answers true at any list of points and any list of triples, and leaves what is handed in as it was. No condition. -/
import Derived.Test.YtdglijdiiggdgaaMfh
import Derived.Test.YtdglijdiiggdgaaRows
namespace Go.Proofs.Ytdglijdiiggdgaa
open Go.ChangeShapes Go.WideShapes Go.ChangeAt Go.RowKit Go.Deep

section
variable {H : Type} {enc : TypeId × Value → H} {W : World} {sp : Nat → Bool}
theorem cellsPt : Try.prog.cellsOf 73 = 3 := by kernel_rfl
theorem uPts : Try.prog.underlying 22 = some (.slice 73) := by kernel_rfl
theorem pt_of_trod (n : Nat) (cs : List Value) (y : DataW H × List MemPlace) (hl : cs.length = 3) (h : DataW.trod enc Try.prog W 0 sp true n 73 cs = some y) : ∃ a b c : Int, cs = [.int .i64 a, .int .i64 b, .int .i64 c] ∧ Wf a ∧ Wf b ∧ Wf c := by
  match cs, hl with
  | [v0, v1, v2], _ =>
    obtain ⟨y0, y1, y2, k, _, _, u0, u1, u2⟩ := trod_struct3 Try.underlying73 h
    simp only [cellsInt, List.drop, List.take] at u0 u1 u2
    obtain ⟨a, e0, _, w0⟩ := DataW.trod_int uInt u0
    obtain ⟨b, e1, _, w1⟩ := DataW.trod_int uInt u1
    obtain ⟨c, e2, _, w2⟩ := DataW.trod_int uInt u2
    simp only [List.cons.injEq, and_true] at e0 e1 e2
    subst e0; subst e1; subst e2
    exact ⟨a, b, c, rfl, w0, w1, w2⟩
end
theorem rowPts : Try.prog.readableRec 22 = true := by kernel_rfl
theorem lessPts : 22 < Try.prog.types.size := of_decide_eq_true (by kernel_rfl)
theorem rowTris : Try.prog.readableRec 23 = true := by kernel_rfl
theorem rowLess : 23 < Try.prog.types.size := of_decide_eq_true (by kernel_rfl)
theorem uBool : Try.prog.underlying 4 = some .bool := by kernel_rfl
set_option maxRecDepth 100000 in
theorem certFacets_lifted (os : Os) (started : os.Started) (H : Type) (enc : TypeId × Value → H) :
    ReturnsInHanded {} Try.checked os 3 .any (Rows.certFacetsSpec.pre6 enc Try.prog Try.f3 Rows.certFacetsRow.domain false) (Rows.certFacetsSpec.post enc Try.prog Try.f3 false true false false) := by
  refine returnsInHanded_of_change (C := Try.checked) own0 started (by kernel_rfl) Try.func3
    (ChangeSpec.witness6 (enc := enc) (C := Try.checked) false ⟨#[], #[.slice none 0 0, .slice none 0 0], []⟩ 8 (by kernel_rfl) (by kernel_rfl) (by kernel_rfl) (by kernel_rfl)) ?_
  intro W base args ds gs before hval0 hW hcnd _
  have hval : ∀ (j : Nat) t v, Try.f3.params[j]? = some t → args[j]? = some v → Value.okWide Try.prog W .any base t v := hval0
  have hW' := hW
  obtain ⟨p, q, hA0, hV, rfl, hfz, hnd⟩ := hW
  have hA : DataW.TrodAll enc Try.prog W 0 (fun _ => true) true Try.f3.params.toList args.toList ds p := hA0
  rw [Try.params3] at hA hval
  obtain ⟨v0, v1, d0, d1, p0, p1, rfl, rfl, rfl, h0, h1⟩ := trodAll_two hA
  obtain ⟨rfl, rfl⟩ := trodVars_none hV
  obtain ⟨pl, n, cp, rfl⟩ := okWide_slice uPts (hval 0 22 v0 rfl rfl)
  obtain ⟨pt, m, cp2, rfl⟩ := okWide_slice uTris (hval 1 23 v1 rfl rfl)
  have h0k := h0
  have h1k := h1
  obtain ⟨fuel, hf⟩ := h0
  obtain ⟨fuel', hf'⟩ := h1
  clear hA0 hval0
  simp only [List.append_nil] at hW'
  obtain ⟨hln, X, Y, Z, hP, _⟩ := pts_of_trod uPts cellsPt pt_of_trod (hval 0 22 _ rfl rfl) hf
  obtain ⟨hlm, A, B, C, hT, hwf⟩ := pts_of_trod uTris cellsTri tri_of_trod (hval 1 23 _ rfl rfl) hf'
  have hlt0 : ∀ x ∈ p0, x.block < W.heap.size := fun x hx => by simpa using hW'.lt x (by simp [hx])
  have hlt1 : ∀ x ∈ p1, x.block < W.heap.size := fun x hx => by simpa using hW'.lt x (by simp [hx])
  refine (law21_facets pl pt n cp m cp2 X Y Z A B C hln hlm (Lib.hid hwf) W (Lib.hid hP) (Lib.hid hT)).mono fun e W' ⟨he, hB⟩ => ?_
  subst he
  refine ⟨_, rfl, post_below hW' hB (fun _ _ _ => trodAll_mk1 (shut_bool uBool _)) (fun sp hsp => ?_) (fun _ => rfl) (ok_one (by kernel_rfl) rfl (okWide_bool_mk uBool _))⟩
  have h9 := trodAll_mk2 (WideElems.Trod_stays (sp' := sp) laid0 rowPts lessPts h0k (fun x hx => hB.same (hlt0 x hx)) (fun x hx => hsp x (by simp [hx]))) (WideElems.Trod_stays (sp' := sp) laid0 rowTris rowLess h1k (fun x hx => hB.same (hlt1 x hx)) (fun x hx => hsp x (by simp [hx])))
  exact h9

theorem certFacets_holds : Rows.CertFacetsSaid :=
  OpenClaim.holds_of_wide 3 Try.f3 rfl rfl rfl rfl rfl rfl rfl ⟨rfl, rfl, rfl, rfl, rfl⟩ rfl rfl rfl rfl rfl (by kernel_rfl) Try.func3 (by kernel_rfl)
    (of_decide_eq_true (by kernel_rfl)) (by unfold Func.isWrapper; first | (rw [if_pos (by decide +kernel)]; kernel_rfl) | (rw [if_neg (by decide +kernel)]; exact ⟨rfl, rfl⟩))
    (fun os started H enc _ => certFacets_lifted os started H enc)
#print axioms certFacets_holds
end Go.Proofs.Ytdglijdiiggdgaa
