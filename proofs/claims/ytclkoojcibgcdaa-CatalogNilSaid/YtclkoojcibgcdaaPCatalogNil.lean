/- CatalogNil returns true, whatever the key and n. No conditions. -/
import Derived.Test.YtclkoojcibgcdaaKL1
import Derived.Test.YtclkoojcibgcdaaRows
namespace Go.Proofs.Ytclkoojcibgcdaa
open Go Go.Vc Go.ChangeShapes Go.WideShapes Go.ChangeAt Go.RowKit

theorem catalogNil_walk (w : World) (k : ByteArray) (n : Int) : Calls Try.prog 8 #[.string k, .int .i64 n] w fun e w' => e = .returned (.bool true) ∧ Ext w w' := by
  refine (F8_calls k n w (fun v w' => v = .bool true ∧ Ext w w') ?_).mono (by rintro e w' ⟨v, rfl, rfl, h⟩; exact ⟨rfl, h⟩)
  refine (awake_spec w).mono ?_
  rintro e w3 ⟨rfl, x3⟩
  refine ⟨true, rfl, condB_of (fun h => by cases h) fun _ => (cplan_nil k n w3).mono ?_⟩
  rintro e w6 ⟨rfl, x6⟩
  refine ⟨_, _, _, _, rfl, (cget_nil k w6).mono ?_⟩
  rintro e w10 ⟨rfl, x10⟩
  refine ⟨_, _, _, _, _, _, _, rfl, fun k17 w18 hk => ?_⟩
  have r18 : RowW w18 k17 _ := ⟨_, hk.at⟩
  refine fill4 hk.ext (by rw [hk.size.1]; exact Nat.le_refl _) r18 fun w22 x22 _ r22 => (cowner_nil n w22).mono ?_
  rintro e w23 ⟨rfl, rfl⟩
  refine ⟨_, _, rfl, condB_of (fun _ => condB_of (fun _ => ⟨_, r22.row.cell rfl, condB_of (fun _ => condB_of (fun _ => condB_of (fun _ => condB_of (fun _ => ?_) fun h => by simp at h) fun h => by simp at h) fun h => by simp at h) fun h => by simp at h⟩) fun h => by simp at h) fun h => by simp at h⟩
  refine (capply_nil _ _ _ _ _ _ _ _).mono ?_
  rintro e w28 ⟨rfl, x28⟩
  refine ⟨_, rfl, condB_of (fun _ => call_nil_w.mono ?_) fun h => by simp at h⟩
  rintro e w31 ⟨rfl, rfl⟩
  refine ⟨_, _, _, rfl, condB_of (fun _ => (cfree_nil _).mono ?_) fun h => by simp at h⟩
  rintro e w34 ⟨rfl, rfl⟩
  exact ⟨_, rfl, rfl, (((x3.trans x6).trans x10).trans x22).trans x28⟩

set_option maxRecDepth 100000 in
theorem catalogNil_lifted (os : Os) (started : os.Started) (H : Type) (enc : TypeId × Value → H) :
    ReturnsInHanded {} Try.checked os 8 .any (Rows.catalogNilSpec.pre6 enc Try.prog Try.f8 Rows.catalogNilRow.domain false) (Rows.catalogNilSpec.post enc Try.prog Try.f8 false true false false) := by
  refine returnsInHanded_of_change (C := Try.checked) lawOwn started (by kernel_rfl) Try.func8
    (ChangeSpec.witness6 (enc := enc) (C := Try.checked) false ⟨#[], #[.string ⟨#[]⟩, .int .i64 0], []⟩ 8 (by kernel_rfl) (by kernel_rfl) (by kernel_rfl) (by kernel_rfl)) ?_
  intro W base args ds gs before hval0 hW hcnd _
  have hval : ∀ (j : Nat) t v, Try.f8.params[j]? = some t → args[j]? = some v → Value.okWide Try.prog W .any base t v := hval0
  have hW' := hW
  obtain ⟨p, q, hA0, hV, rfl, hfz, hnd⟩ := hW
  have hA : DataW.TrodAll enc Try.prog W 0 (fun _ => true) true Try.f8.params.toList args.toList ds p := hA0
  rw [Try.params8] at hA hval
  obtain ⟨v0, vs0, d0, ds0, p0, q0, hargs, rfl, rfl, h0, r0⟩ := trodAll_cons hA
  obtain ⟨v1, vs1, d1, ds1, p1, q1, rfl, rfl, rfl, h1, r1⟩ := trodAll_cons r0
  obtain ⟨rfl, rfl, rfl⟩ := trodAll_nil r1
  obtain rfl : args = #[v0, v1] := by cases args; simp_all
  obtain ⟨rfl, rfl⟩ := trodVars_none hV
  obtain ⟨s0, rfl⟩ := okWide_string Try.underlying9 (hval 0 9 v0 rfl rfl)
  obtain ⟨n1, rfl, rfl, rfl, wn1⟩ := open_int Try.underlying3 (hval 1 3 v1 rfl rfl) h1
  refine (catalogNil_walk W s0 n1).mono fun e W' ⟨he, hg⟩ => ?_
  subst he
  exact ⟨_, rfl, post_true lawLaid rfl (by kernel_rfl) rfl Try.underlying4 hW' rfl hg.below⟩

/-- ████ THE STATEMENT ████ -/
theorem catalogNil_holds : Rows.CatalogNilSaid :=
  OpenClaim.holds_of_wide 8 Try.f8 rfl rfl rfl rfl rfl rfl rfl ⟨rfl, rfl, rfl, rfl, rfl⟩ rfl rfl rfl rfl rfl (by kernel_rfl) Try.func8 (by kernel_rfl)
    (of_decide_eq_true (by kernel_rfl)) (by unfold Func.isWrapper; first | (rw [if_pos (by decide +kernel)]; kernel_rfl) | (rw [if_neg (by decide +kernel)]; exact ⟨rfl, rfl⟩))
    (fun os started H enc _ => catalogNil_lifted os started H enc)
end Go.Proofs.Ytclkoojcibgcdaa
