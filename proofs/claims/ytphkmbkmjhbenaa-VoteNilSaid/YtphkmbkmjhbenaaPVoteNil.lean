/- VoteNil returns true. No conditions. -/
import Derived.Test.YtphkmbkmjhbenaaV10
import Derived.Test.YtphkmbkmjhbenaaRows
namespace Go.Proofs.Ytphkmbkmjhbenaa
open Go Go.Vc Go.ChangeShapes Go.WideShapes Go.ChangeAt Go.RowKit

theorem voteNil_walk (n : Int) {w : World} {p : Option Addr} {l c : Nat} {bs : List UInt8} (hb : BytesAt w p l bs) :
    Calls Try.prog 3 #[.int .i64 n, .slice p l c] w fun e w' => e = .returned (.bool true) ∧ Ext w w' := by
  refine (F3_calls n p l c w (fun v w' => v = .bool true ∧ Ext w w') ?_).mono (by rintro e w' ⟨v, rfl, rfl, h⟩; exact ⟨rfl, h⟩)
  unfold F3
  refine (awake_spec w).mono ?_
  rintro e w3 ⟨rfl, x3⟩
  refine ⟨true, rfl, ?_⟩
  refine (vread_nil none 0 0 n w3).mono ?_
  rintro e w6 ⟨rfl, x6⟩
  refine ⟨_, _, _, _, _, _, _, _, rfl, vote_cells fun k w20 hk r20 x20 => ?_⟩
  have y20 := (x3.trans x6).trans x20
  refine (vwrite_nil n n w20 (hb.ext y20)).mono ?_
  rintro e w21 ⟨rfl, x21⟩
  refine ⟨_, _, rfl, ?_⟩
  refine (vmend_nil none 0 0 n w21).mono ?_
  rintro e w25 ⟨rfl, x25⟩
  have r25 : RowW w25 k _ := (x21.trans x25).rowW r20 id
  exact ⟨_, _, rfl, condB_t rfl ⟨_, r25.row.cell rfl, condB_t rfl (condB_t rfl (condB_t rfl (condB_t rfl (condB_t rfl ⟨rfl, (y20.trans x21).trans x25⟩))))⟩⟩
set_option maxRecDepth 100000 in
theorem voteNil_lifted (os : Os) (started : os.Started) (H : Type) (enc : TypeId × Value → H) :
    ReturnsInHanded {} Try.checked os 3 .any (Rows.voteNilSpec.pre6 enc Try.prog Try.f3 Rows.voteNilRow.domain false) (Rows.voteNilSpec.post enc Try.prog Try.f3 false true false false) := by
  refine returnsInHanded_of_change (C := Try.checked) lawOwn started (by kernel_rfl) Try.func3
    (ChangeSpec.witness6 (enc := enc) (C := Try.checked) false ⟨#[], #[.int .i64 0, .slice none 0 0], []⟩ 8 (by kernel_rfl) (by kernel_rfl) (by kernel_rfl) (by kernel_rfl)) ?_
  intro W base args ds gs before hval0 hW hcnd _
  have hval : ∀ (j : Nat) t v, Try.f3.params[j]? = some t → args[j]? = some v → Value.okWide Try.prog W .any base t v := hval0
  have hW' := hW
  obtain ⟨p, q, hA0, hV, rfl, hfz, hnd⟩ := hW
  have hA : DataW.TrodAll enc Try.prog W 0 (fun _ => true) true Try.f3.params.toList args.toList ds p := hA0
  rw [Try.params3] at hA hval
  obtain ⟨v0, vs0, d0, ds0, p0, q0, hargs, rfl, rfl, h0, r0⟩ := trodAll_cons hA
  obtain ⟨v1, vs1, d1, ds1, p1, q1, rfl, rfl, rfl, h1, r1⟩ := trodAll_cons r0
  obtain ⟨rfl, rfl, rfl⟩ := trodAll_nil r1
  obtain rfl : args = #[v0, v1] := by cases args; simp_all
  obtain ⟨rfl, rfl⟩ := trodVars_none hV
  obtain ⟨n0, rfl, rfl, rfl, wn0⟩ := open_int Try.underlying3 (hval 0 3 v0 rfl rfl) h0
  obtain ⟨a1, l1, c1, bs1, rfl, hb1, _, _, _⟩ := open_bs (okWide_slice Try.underlying22 (hval 1 22 v1 rfl rfl)) h1
  refine (voteNil_walk n0 hb1).mono fun e W' ⟨he, hg⟩ => ?_
  subst he
  exact ⟨_, rfl, post_true lawLaid rfl (by kernel_rfl) rfl Try.underlying4 hW' rfl hg.below⟩

/-- ████ THE STATEMENT ████ -/
theorem voteNil_holds : Rows.VoteNilSaid :=
  OpenClaim.holds_of_wide 3 Try.f3 rfl rfl rfl rfl rfl rfl rfl ⟨rfl, rfl, rfl, rfl, rfl⟩ rfl rfl rfl rfl rfl (by kernel_rfl) Try.func3 (by kernel_rfl)
    (of_decide_eq_true (by kernel_rfl)) (by unfold Func.isWrapper; first | (rw [if_pos (by decide +kernel)]; kernel_rfl) | (rw [if_neg (by decide +kernel)]; exact ⟨rfl, rfl⟩))
    (fun os started H enc _ => voteNil_lifted os started H enc)
end Go.Proofs.Ytphkmbkmjhbenaa
