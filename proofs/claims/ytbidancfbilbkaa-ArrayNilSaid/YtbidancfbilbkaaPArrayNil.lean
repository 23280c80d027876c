/- ArrayNil returns true, whatever n and b. No conditions. -/
import Derived.Test.YtbidancfbilbkaaAL1
import Derived.Test.YtbidancfbilbkaaRows
namespace Go.Proofs.Ytbidancfbilbkaa
open Go Go.Vc Go.ChangeShapes Go.WideShapes Go.ChangeAt Go.RowKit

theorem open_bs {H : Type} {enc : TypeId × Value → H} {w : World} {base : Nat} {sp : Nat → Bool} {held : Bool} {v : Value} {d : DataW H} {ps : List MemPlace} (hs : ∃ a l c, v = .slice a l c) (h : DataW.Trod enc Try.prog w base sp held 29 v d ps) :
    ∃ p l c bs, v = .slice p l c ∧ BytesAt w p l bs ∧ l ≤ c ∧ c ≤ maxLen ∧ (p = none → l = 0) := by
  obtain ⟨a, l, c, rfl⟩ := hs
  obtain ⟨fuel, h⟩ := h
  obtain ⟨p, l', c', bs, he, h1⟩ := rd_bytes (t := 29) (e := 5) (by kernel_rfl) (by kernel_rfl) (by kernel_rfl) h
  cases he
  exact ⟨_, _, _, bs, rfl, h1⟩

theorem arrayNil_walk (n : Int) {p : Option Addr} {l c : Nat} {bs : List UInt8} {w : World} (_ : BytesAt w p l bs) : Calls Try.prog 7 #[.int .i64 n, .slice p l c] w fun e w' => e = .returned (.bool true) ∧ Ext w w' := by
  refine (F7_calls n p l c w (fun v w' => v = .bool true ∧ Ext w w') ?_).mono (by rintro e w' ⟨v, rfl, rfl, h⟩; exact ⟨rfl, h⟩)
  refine (awake_spec w).mono ?_
  rintro e w3 ⟨rfl, hx⟩
  refine ⟨true, rfl, condB_of (fun h => by cases h) fun _ => ?_⟩
  refine (after_nil n w3).mono ?_
  rintro e w ⟨rfl, rfl⟩
  refine ⟨rfl, ?_⟩
  refine (restart_nil _ _ _ w).mono ?_
  rintro e w ⟨rfl, rfl⟩
  refine ⟨rfl, ?_⟩
  refine (aread_nil n n w).mono ?_
  rintro e w ⟨rfl, rfl⟩
  refine ⟨_, _, _, _, rfl, condB_of (fun _ => condB_of (fun _ => ?_) fun h => by simp at h) fun h => by simp at h⟩
  refine (awrite_nil n n p l c w).mono ?_
  rintro e w ⟨rfl, rfl⟩
  refine ⟨_, rfl, condB_of (fun _ => ?_) fun h => by simp at h⟩
  refine (aflush_nil w).mono ?_
  rintro e w ⟨rfl, rfl⟩
  refine ⟨_, rfl, condB_of (fun _ => ?_) fun h => by simp at h⟩
  refine (afail_nil n w).mono ?_
  rintro e w ⟨rfl, rfl⟩
  refine ⟨_, rfl, condB_of (fun _ => ?_) fun h => by simp at h⟩
  refine (areplace_nil n w).mono ?_
  rintro e w ⟨rfl, rfl⟩
  refine ⟨_, rfl, condB_of (fun _ => ?_) fun h => by simp at h⟩
  refine (acorrupt_nil n n n 1 w).mono ?_
  rintro e w ⟨rfl, rfl⟩
  refine ⟨_, rfl, condB_of (fun _ => ?_) fun h => by simp at h⟩
  refine (adown_nil w).mono ?_
  rintro e w ⟨rfl, rfl⟩
  refine ⟨_, rfl, condB_of (fun _ => ?_) fun h => by simp at h⟩
  refine (live_nil w).mono ?_
  rintro e w ⟨rfl, rfl⟩
  refine ⟨_, _, _, rfl, condB_of (fun _ => ?_) fun h => by simp at h⟩
  refine (births_nil w).mono ?_
  rintro e w ⟨rfl, rfl⟩
  refine ⟨_, _, _, rfl, condB_of (fun _ => ?_) fun h => by simp at h⟩
  refine (alasts_nil n w).mono ?_
  rintro e w ⟨rfl, rfl⟩
  refine ⟨_, _, _, rfl, condB_of (fun _ => ?_) fun h => by simp at h⟩
  refine (awaits_nil n w).mono ?_
  rintro e w ⟨rfl, rfl⟩
  exact ⟨_, _, _, rfl, rfl, hx⟩

set_option maxRecDepth 100000 in
theorem arrayNil_lifted (os : Os) (started : os.Started) (H : Type) (enc : TypeId × Value → H) :
    ReturnsInHanded {} Try.checked os 7 .any (Rows.arrayNilSpec.pre6 enc Try.prog Try.f7 Rows.arrayNilRow.domain false) (Rows.arrayNilSpec.post enc Try.prog Try.f7 false true false false) := by
  refine returnsInHanded_of_change (C := Try.checked) lawOwn started (by kernel_rfl) Try.func7
    (ChangeSpec.witness6 (enc := enc) (C := Try.checked) false ⟨#[], #[.int .i64 0, .slice none 0 0], []⟩ 8 (by kernel_rfl) (by kernel_rfl) (by kernel_rfl) (by kernel_rfl)) ?_
  intro W base args ds gs before hval0 hW hcnd _
  have hval : ∀ (j : Nat) t v, Try.f7.params[j]? = some t → args[j]? = some v → Value.okWide Try.prog W .any base t v := hval0
  have hW' := hW
  obtain ⟨p, q, hA0, hV, rfl, hfz, hnd⟩ := hW
  have hA : DataW.TrodAll enc Try.prog W 0 (fun _ => true) true Try.f7.params.toList args.toList ds p := hA0
  rw [Try.params7] at hA hval
  obtain ⟨v0, vs0, d0, ds0, p0, q0, hargs, rfl, rfl, h0, r0⟩ := trodAll_cons hA
  obtain ⟨v1, vs1, d1, ds1, p1, q1, rfl, rfl, rfl, h1, r1⟩ := trodAll_cons r0
  obtain ⟨rfl, rfl, rfl⟩ := trodAll_nil r1
  obtain rfl : args = #[v0, v1] := by cases args; simp_all
  obtain ⟨rfl, rfl⟩ := trodVars_none hV
  obtain ⟨n0, rfl, rfl, rfl, wn0⟩ := open_int Try.underlying3 (hval 0 3 v0 rfl rfl) h0
  obtain ⟨a1, l1, c1, bs1, rfl, hb1, _, _, _⟩ := open_bs (okWide_slice Try.underlying29 (hval 1 29 v1 rfl rfl)) h1
  refine (arrayNil_walk n0 hb1).mono fun e W' ⟨he, hg⟩ => ?_
  subst he
  exact ⟨_, rfl, post_true lawLaid rfl (by kernel_rfl) rfl Try.underlying4 hW' rfl hg.below⟩

/-- ████ THE STATEMENT ████ -/
theorem arrayNil_holds : Rows.ArrayNilSaid :=
  OpenClaim.holds_of_wide 7 Try.f7 rfl rfl rfl rfl rfl rfl rfl ⟨rfl, rfl, rfl, rfl, rfl⟩ rfl rfl rfl rfl rfl (by kernel_rfl) Try.func7 (by kernel_rfl)
    (of_decide_eq_true (by kernel_rfl)) (by unfold Func.isWrapper; first | (rw [if_pos (by decide +kernel)]; kernel_rfl) | (rw [if_neg (by decide +kernel)]; exact ⟨rfl, rfl⟩))
    (fun os started H enc _ => arrayNil_lifted os started H enc)
end Go.Proofs.Ytbidancfbilbkaa
