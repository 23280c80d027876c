/- DiskNil returns true, whatever n and b. No conditions. -/
import Derived.Test.YteglkbmpeelfgaaL3
import Derived.Test.YteglkbmpeelfgaaRows
namespace Go.Proofs.Yteglkbmpeelfgaa
open Go Go.Vc Go.ChangeShapes Go.WideShapes Go.ChangeAt Go.RowKit

theorem diskNil_walk (n : Int) {p : Option Addr} {l c : Nat} {bs : List UInt8} {w : World} (_ : BytesAt w p l bs) : Calls Try.prog 10 #[.int .i64 n, .slice p l c] w fun e w' => e = .returned (.bool true) ∧ Ext w w' := by
  refine (F10_calls n p l c w (fun v w' => v = .bool true ∧ Ext w w') ?_).mono (by rintro e w' ⟨v, rfl, rfl, h⟩; exact ⟨rfl, h⟩)
  refine (awake_spec w).mono ?_
  rintro e w3 ⟨rfl, hx⟩
  refine ⟨true, rfl, condB_of (fun h => by cases h) fun _ => ?_⟩
  refine (read_nil n w3).mono ?_
  rintro e w ⟨rfl, rfl⟩
  refine ⟨_, _, _, _, rfl, ?_⟩
  refine (crash_nil _ _ _ w).mono ?_
  rintro e w ⟨rfl, rfl⟩
  refine ⟨rfl, ?_⟩
  refine (fail_nil w).mono ?_
  rintro e w ⟨rfl, rfl⟩
  refine ⟨rfl, ?_⟩
  refine (replace_nil w).mono ?_
  rintro e w ⟨rfl, rfl⟩
  refine ⟨rfl, condB_of (fun _ => condB_of (fun _ => ?_) fun h => by simp at h) fun h => by simp at h⟩
  refine (write_nil n p l c w).mono ?_
  rintro e w ⟨rfl, rfl⟩
  refine ⟨_, rfl, condB_of (fun _ => ?_) fun h => by simp at h⟩
  refine (flush_nil w).mono ?_
  rintro e w ⟨rfl, rfl⟩
  refine ⟨_, rfl, condB_of (fun _ => ?_) fun h => by simp at h⟩
  refine (corrupt_nil n n 1 w).mono ?_
  rintro e w ⟨rfl, rfl⟩
  refine ⟨_, rfl, condB_of (fun _ => ?_) fun h => by simp at h⟩
  refine (dead_nil w).mono ?_
  rintro e w ⟨rfl, rfl⟩
  refine ⟨_, rfl, condB_of (fun _ => ?_) fun h => by simp at h⟩
  refine (lasts_nil w).mono ?_
  rintro e w ⟨rfl, rfl⟩
  refine ⟨_, _, _, rfl, condB_of (fun _ => ?_) fun h => by simp at h⟩
  refine (waits_nil w).mono ?_
  rintro e w ⟨rfl, rfl⟩
  exact ⟨_, _, _, rfl, rfl, hx⟩

set_option maxRecDepth 100000 in
theorem diskNil_lifted (os : Os) (started : os.Started) (H : Type) (enc : TypeId × Value → H) :
    ReturnsInHanded {} Try.checked os 10 .any (Rows.diskNilSpec.pre6 enc Try.prog Try.f10 Rows.diskNilRow.domain false) (Rows.diskNilSpec.post enc Try.prog Try.f10 false true false false) := by
  refine returnsInHanded_of_change (C := Try.checked) lawOwn started (by kernel_rfl) Try.func10
    (ChangeSpec.witness6 (enc := enc) (C := Try.checked) false ⟨#[], #[.int .i64 0, .slice none 0 0], []⟩ 8 (by kernel_rfl) (by kernel_rfl) (by kernel_rfl) (by kernel_rfl)) ?_
  intro W base args ds gs before hval0 hW hcnd _
  have hval : ∀ (j : Nat) t v, Try.f10.params[j]? = some t → args[j]? = some v → Value.okWide Try.prog W .any base t v := hval0
  have hW' := hW
  obtain ⟨p, q, hA0, hV, rfl, hfz, hnd⟩ := hW
  have hA : DataW.TrodAll enc Try.prog W 0 (fun _ => true) true Try.f10.params.toList args.toList ds p := hA0
  rw [Try.params10] at hA hval
  obtain ⟨v0, vs0, d0, ds0, p0, q0, hargs, rfl, rfl, h0, r0⟩ := trodAll_cons hA
  obtain ⟨v1, vs1, d1, ds1, p1, q1, rfl, rfl, rfl, h1, r1⟩ := trodAll_cons r0
  obtain ⟨rfl, rfl, rfl⟩ := trodAll_nil r1
  obtain rfl : args = #[v0, v1] := by cases args; simp_all
  obtain ⟨rfl, rfl⟩ := trodVars_none hV
  obtain ⟨n0, rfl, rfl, rfl, wn0⟩ := open_int Try.underlying3 (hval 0 3 v0 rfl rfl) h0
  obtain ⟨a1, l1, c1, bs1, rfl, hb1, _, _, _⟩ := open_bs (okWide_slice Try.underlying24 (hval 1 24 v1 rfl rfl)) h1
  refine (diskNil_walk n0 hb1).mono fun e W' ⟨he, hg⟩ => ?_
  subst he
  exact ⟨_, rfl, post_true lawLaid rfl (by kernel_rfl) rfl Try.underlying4 hW' rfl hg.below⟩

/-- ████ THE STATEMENT ████ -/
theorem diskNil_holds : Rows.DiskNilSaid :=
  OpenClaim.holds_of_wide 10 Try.f10 rfl rfl rfl rfl rfl rfl rfl ⟨rfl, rfl, rfl, rfl, rfl⟩ rfl rfl rfl rfl rfl (by kernel_rfl) Try.func10 (by kernel_rfl)
    (of_decide_eq_true (by kernel_rfl)) (by unfold Func.isWrapper; first | (rw [if_pos (by decide +kernel)]; kernel_rfl) | (rw [if_neg (by decide +kernel)]; exact ⟨rfl, rfl⟩))
    (fun os started H enc _ => diskNil_lifted os started H enc)
end Go.Proofs.Yteglkbmpeelfgaa
