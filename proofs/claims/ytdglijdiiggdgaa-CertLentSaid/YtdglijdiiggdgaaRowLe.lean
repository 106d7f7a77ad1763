/- What is proved: carapacelaw21.CertLent answers true at any list of points, any list of triples and any place, and leaves what is handed in as it was. No condition. -/
import Derived.Test.YtdglijdiiggdgaaRows
import Derived.Test.YtdglijdiiggdgaaOp
import Derived.Test.YtdglijdiiggdgaaLLw
namespace Go.Proofs.Ytdglijdiiggdgaa
open Go.ChangeShapes Go.WideShapes Go.ChangeAt Go.RowKit Go.Deep

section
variable {H : Type} {enc : TypeId × Value → H} {W : World} {sp : Nat → Bool}
theorem cellsPt : Try.prog.cellsOf 73 = 3 := by kernel_rfl
theorem uPts : Try.prog.underlying 22 = some (.slice 73) := by kernel_rfl
theorem pt_of_trod (n : Nat) (cs : List Value) (y : DataW H × List MemPlace) (hl : cs.length = 3) (h : DataW.trod enc Try.prog W 0 sp true n 73 cs = some y) : ∃ a b c : Int, cs = [.int .i64 a, .int .i64 b, .int .i64 c] ∧ Wf a ∧ Wf b ∧ Wf c := by
  match cs, hl with
  | [v0, v1, v2], _ =>
    obtain ⟨y0, y1, y2, k, _, _, u0, u1, u2⟩ := trod_struct3 Try.underlying73 h
    simp only [cellsInt, List.drop, List.take] at u0 u1 u2
    obtain ⟨a, e0, _, w0⟩ := DataW.trod_int uInt u0
    obtain ⟨b, e1, _, w1⟩ := DataW.trod_int uInt u1
    obtain ⟨c, e2, _, w2⟩ := DataW.trod_int uInt u2
    simp only [List.cons.injEq, and_true] at e0 e1 e2
    subst e0; subst e1; subst e2
    exact ⟨a, b, c, rfl, w0, w1, w2⟩
end
theorem rowPts : Try.prog.readableRec 22 = true := by kernel_rfl
theorem lessPts : 22 < Try.prog.types.size := of_decide_eq_true (by kernel_rfl)
theorem rowTris : Try.prog.readableRec 23 = true := by kernel_rfl
theorem rowLess : 23 < Try.prog.types.size := of_decide_eq_true (by kernel_rfl)
theorem uBool : Try.prog.underlying 4 = some .bool := by kernel_rfl
set_option maxRecDepth 100000 in
theorem certLent_lifted (os : Os) (started : os.Started) (H : Type) (enc : TypeId × Value → H) :
    ReturnsInHanded {} Try.checked os 6 .any (Rows.certLentSpec.pre6 enc Try.prog Try.f6 Rows.certLentRow.domain false) (Rows.certLentSpec.post enc Try.prog Try.f6 false true false false) := by
  refine returnsInHanded_of_change (C := Try.checked) own0 started (by kernel_rfl) Try.func6
    (ChangeSpec.witness6 (enc := enc) (C := Try.checked) false ⟨#[], #[.slice none 0 0, .slice none 0 0, .int .i64 0], []⟩ 8 (by kernel_rfl) (by kernel_rfl) (by kernel_rfl) (by kernel_rfl)) ?_
  intro W base args ds gs before hval0 hW hcnd _
  have hval : ∀ (j : Nat) t v, Try.f6.params[j]? = some t → args[j]? = some v → Value.okWide Try.prog W .any base t v := hval0
  have hW' := hW
  obtain ⟨p, q, hA0, hV, rfl, hfz, hnd⟩ := hW
  have hA : DataW.TrodAll enc Try.prog W 0 (fun _ => true) true Try.f6.params.toList args.toList ds p := hA0
  rw [Try.params6] at hA hval
  obtain ⟨v0, v1, v2, d0, d1, d2, p0, p1, p2, rfl, rfl, rfl, h0, h1, h2⟩ := trodAll_three hA
  obtain ⟨rfl, rfl⟩ := trodVars_none hV
  obtain ⟨v, rfl, rfl, rfl, w2⟩ := open_int uInt (hval 2 3 v2 rfl rfl) h2
  obtain ⟨pl, n, cp, rfl⟩ := okWide_slice uPts (hval 0 22 v0 rfl rfl)
  obtain ⟨pt, m, cp2, rfl⟩ := okWide_slice uTris (hval 1 23 v1 rfl rfl)
  have h0k := h0
  have h1k := h1
  obtain ⟨fuel, hf⟩ := h0
  obtain ⟨fuel', hf'⟩ := h1
  clear hA0 hval0
  simp only [List.append_nil] at hW'
  obtain ⟨hln, X, Y, Z, hP, _⟩ := pts_of_trod uPts cellsPt pt_of_trod (hval 0 22 _ rfl rfl) hf
  obtain ⟨hlm, A, B, C, hT, hwf⟩ := pts_of_trod uTris cellsTri tri_of_trod (hval 1 23 _ rfl rfl) hf'
  have hcp : pt = none → cp2 = 0 := by
    rintro rfl
    rcases open_slice (cs := [.slice none m cp2]) uTris hf' with ⟨h0, _⟩ | ⟨a, len', cap', m', n', D, Pl, h1, _⟩
    · simp at h0; exact h0.2
    · simp at h1
  have hlt0 : ∀ x ∈ p0, x.block < W.heap.size := fun x hx => by simpa using hW'.lt x (by simp [hx])
  have hlt1 : ∀ x ∈ p1, x.block < W.heap.size := fun x hx => by simpa using hW'.lt x (by simp [hx])
  refine (law21_lent pl pt n cp m cp2 X Y Z A B C v w2 hwf hln hlm hcp W (Lib.hid hP) (Lib.hid hT)).mono fun e W' ⟨he, hB⟩ => ?_
  subst he
  refine ⟨_, rfl, post_below hW' hB (fun _ _ _ => trodAll_mk1 (shut_bool uBool _)) (fun sp hsp => ?_) (fun _ => rfl) (ok_one (by kernel_rfl) rfl (okWide_bool_mk uBool _))⟩
  have h9 := trodAll_mk3 (WideElems.Trod_stays (sp' := sp) laid0 rowPts lessPts h0k (fun x hx => hB.same (hlt0 x hx)) (fun x hx => hsp x (by simp [hx]))) (WideElems.Trod_stays (sp' := sp) laid0 rowTris rowLess h1k (fun x hx => hB.same (hlt1 x hx)) (fun x hx => hsp x (by simp [hx]))) (shut_int (enc := enc) (P := Try.prog) (w := W') (base := 0) (spare := sp) (held := true) uInt w2)
  simp only [List.append_nil] at h9
  exact h9

theorem certLent_holds : Rows.CertLentSaid :=
  OpenClaim.holds_of_wide 6 Try.f6 rfl rfl rfl rfl rfl rfl rfl ⟨rfl, rfl, rfl, rfl, rfl⟩ rfl rfl rfl rfl rfl (by kernel_rfl) Try.func6 (by kernel_rfl)
    (of_decide_eq_true (by kernel_rfl)) (by unfold Func.isWrapper; first | (rw [if_pos (by decide +kernel)]; kernel_rfl) | (rw [if_neg (by decide +kernel)]; exact ⟨rfl, rfl⟩))
    (fun os started H enc _ => certLent_lifted os started H enc)
#print axioms certLent_holds
end Go.Proofs.Ytdglijdiiggdgaa
