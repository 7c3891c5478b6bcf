/-
  The law ReplyKinds: for every string, the call returns true, and its argument reads afterwards as it read before. No condition.
-/
import Derived.Test.YtaifmmemfmapkaaGreatSi
import Derived.Test.YtaifmmemfmapkaaGreatRows
namespace Go.Proofs.YtaifmmemfmapkaaGreat
open Go.Abs Go.Abs.R Go.RowKit Go.ChangeShapes Go.WideShapes Go.ChangeAt Go.ChangeMaps
theorem kinds_own : ownKnob Tryz.prog.godebug = none := by kernel_rfl
theorem kinds_laid : laidOutB Tryz.prog = true := by kernel_rfl
theorem kinds_read : (Tryz.f4.params.toList.all fun t => Tryz.prog.readableRec t && decide (t < Tryz.prog.types.size)) = true := by kernel_rfl
set_option maxRecDepth 100000 in
theorem kinds_lifted (os : Os) (started : os.Started) (H : Type) (enc : TypeId × Value → H) :
    ReturnsInHanded {} Tryz.checked os 4 .any (Rows.replyKindsSpec.pre6 enc Tryz.prog Tryz.f4 Rows.replyKindsRow.domain false) (Rows.replyKindsSpec.post enc Tryz.prog Tryz.f4 false true false false) := by
  refine returnsInHanded_of_change (C := Tryz.checked) kinds_own started (by kernel_rfl) Tryz.func4
    (ChangeSpec.witness6 (enc := enc) (C := Tryz.checked) false ⟨#[], #[.string ⟨#[]⟩], []⟩ 8 (by kernel_rfl) (by kernel_rfl) (by kernel_rfl) (by kernel_rfl)) ?_
  intro W base args ds gs before hval0 hW hcnd _
  have hval : ∀ (j : Nat) t v, Tryz.f4.params[j]? = some t → args[j]? = some v → Value.okWide Tryz.prog W .any base t v := hval0
  have hW' := hW
  obtain ⟨p, q, hA0, hV, rfl, hfz, hnd⟩ := hW
  have hA : DataW.TrodAll enc Tryz.prog W 0 (fun _ => true) true Tryz.f4.params.toList args.toList ds p := hA0
  rw [Tryz.params4] at hA hval
  obtain ⟨v0, vs0, d0, ds0, p0, q0, hargs, rfl, rfl, h0, r0⟩ := trodAll_cons hA
  obtain ⟨rfl, rfl, rfl⟩ := trodAll_nil r0
  obtain rfl : args = #[v0] := by cases args; simp_all
  obtain ⟨s, rfl, rfl, rfl, ws⟩ := open_string Tryz.underlying9 (hval 0 9 v0 rfl rfl) h0
  have hl : LR (fun _ => none) (fun _ => False) W [.str s.data.toList] (#[Value.string s] : Array Value).toList := by
    unfold LR
    exact ⟨_, _, rfl, by unfold VR; rfl, by unfold LR; rfl⟩
  refine (law_callsq (EY_ok k15) (inl_ok (EY_ok k15) 9) Tryz.func4 ok4 hl (law4 s.data.toList)).mono fun e W' ⟨he, hb⟩ => ?_
  subst he
  exact ⟨_, rfl, law_post kinds_laid Tryz.underlying4 rfl rfl kinds_read (fun ds hd => by
    match ds, hd with
    | [d], _ => rfl) hW' hb⟩

theorem replyKinds_holds : Rows.ReplyKindsSaid :=
  OpenClaim.holds_of_wide 4 Tryz.f4 rfl rfl rfl rfl rfl rfl rfl ⟨rfl, rfl, rfl, rfl, rfl⟩ rfl rfl rfl rfl rfl (by kernel_rfl) Tryz.func4 (by kernel_rfl)
    (of_decide_eq_true (by kernel_rfl)) (by unfold Func.isWrapper; first | (rw [if_pos (by decide +kernel)]; kernel_rfl) | (rw [if_neg (by decide +kernel)]; exact ⟨rfl, rfl⟩))
    (fun os started H enc _ => kinds_lifted os started H enc)
end Go.Proofs.YtaifmmemfmapkaaGreat
