import Derived.Test.YtkolafpgbhpdlaaGreatMT
import Derived.Test.YtkolafpgbhpdlaaGreatRows
/- StripeioNames returns true. No conditions. -/
namespace Go.Proofs.YtkolafpgbhpdlaaGreat
open Go Go.Vc Go.ChangeShapes Go.WideShapes Go.ChangeAt Go.RowKit

theorem stripeioNames_walk (w : World) : Calls Tryz.prog 3 #[] w fun e w' => e = .returned (.bool true) ∧ Ext w w' := by
  refine (F3_calls w (fun v w' => v = .bool true ∧ Ext w w') ?_).mono (by rintro e w' ⟨v, rfl, rfl, h⟩; exact ⟨rfl, h⟩)
  refine (sawake_spec w).mono ?_
  rintro e w1 ⟨rfl, x1⟩
  exact ⟨true, rfl, condB_of (fun _ => ⟨rfl, x1⟩) fun h => by cases h⟩
set_option maxRecDepth 100000 in
theorem stripeioNames_lifted (os : Os) (started : os.Started) (H : Type) (enc : TypeId × Value → H) :
    ReturnsInHanded {} Tryz.checked os 3 .any (Rows.stripeioNamesSpec.pre6 enc Tryz.prog Tryz.f3 Rows.stripeioNamesRow.domain false) (Rows.stripeioNamesSpec.post enc Tryz.prog Tryz.f3 false true false false) := by
  refine returnsInHanded_of_change (C := Tryz.checked) lawOwn started (by kernel_rfl) Tryz.func3
    (ChangeSpec.witness6 (enc := enc) (C := Tryz.checked) false ⟨#[], #[], []⟩ 8 (by kernel_rfl) (by kernel_rfl) (by kernel_rfl) (by kernel_rfl)) ?_
  intro W base args ds gs before hval0 hW hcnd _
  have hval : ∀ (j : Nat) t v, Tryz.f3.params[j]? = some t → args[j]? = some v → Value.okWide Tryz.prog W .any base t v := hval0
  have hW' := hW
  obtain ⟨p, q, hA0, hV, rfl, hfz, hnd⟩ := hW
  have hA : DataW.TrodAll enc Tryz.prog W 0 (fun _ => true) true Tryz.f3.params.toList args.toList ds p := hA0
  rw [Tryz.params3] at hA hval
  obtain ⟨rfl, rfl, rfl⟩ := trodAll_none hA
  obtain ⟨rfl, rfl⟩ := trodVars_none hV
  refine (stripeioNames_walk W ).mono fun e W' ⟨he, hg⟩ => ?_
  subst he
  exact ⟨_, rfl, post_true lawLaid rfl (by kernel_rfl) rfl Tryz.underlying4 hW' rfl hg.below⟩

/-- ████ THE STATEMENT ████ -/
theorem stripeioNames_holds : Rows.StripeioNamesSaid :=
  OpenClaim.holds_of_wide 3 Tryz.f3 rfl rfl rfl rfl rfl rfl rfl ⟨rfl, rfl, rfl, rfl, rfl⟩ rfl rfl rfl rfl rfl (by kernel_rfl) Tryz.func3 (by kernel_rfl)
    (of_decide_eq_true (by kernel_rfl)) (by unfold Func.isWrapper; first | (rw [if_pos (by decide +kernel)]; kernel_rfl) | (rw [if_neg (by decide +kernel)]; exact ⟨rfl, rfl⟩))
    (fun os started H enc _ => stripeioNames_lifted os started H enc)
end Go.Proofs.YtkolafpgbhpdlaaGreat
