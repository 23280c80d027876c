import Derived.Test.YtpmkjpgoekjcfaaMK
import Derived.Test.YtpmkjpgoekjcfaaRows
/- ErrdecWords returns true, whatever the word. No conditions. -/
namespace Go.Proofs.Ytpmkjpgoekjcfaa
open Go Go.Vc Go.Gf Go.ChangeShapes Go.WideShapes Go.ChangeAt Go.RowKit

set_option maxHeartbeats 2000000 in
theorem errdecWords_walk (n1 n2 : Int) {w : World} {p3 : Option Addr} {l3 c3 : Nat} {bs : List UInt8} (hb : BytesAt w p3 l3 bs) {p4 : Option Addr} {l4 c4 : Nat} {ms : List Bool} (hm : FlagsAt w p4 l4 ms) :
    Calls Try.prog 3 #[.int .i64 n1, .int .i64 n2, .slice p3 l3 c3, .slice p4 l4 c4] w fun e w' => e = .returned (.bool true) ∧ Ext w w' := by
  refine (F3_calls n1 n2 p3 l3 c3 p4 l4 c4 w (fun v w' => v = .bool true ∧ Ext w w') ?_).mono (by rintro e w' ⟨v, rfl, rfl, h⟩; exact ⟨rfl, h⟩)
  refine (awake_spec w).mono ?_
  rintro e w5 ⟨rfl, x5⟩
  refine ⟨_, rfl, (fnew_spec w5).mono ?_⟩
  rintro e w8 ⟨kf, rfl, x8, _, hf⟩
  have xw := x5.trans x8
  refine ⟨_, rfl, condB_of (fun h => by cases h) fun _ => condB_of (fun h => by cases h) fun _ => (few_spec n1 n2 w8).mono ?_⟩
  rintro e w11 ⟨b, rfl, rfl⟩
  refine ⟨_, rfl, condB_of (fun h => ⟨rfl, xw⟩) fun _ => ?_⟩
  refine (word_spec (c4 := c3) (c5 := c4) hf (hb.ext xw) (hm.ext xw) n1 n2).mono ?_
  rintro e w14 ⟨v, rfl, hv⟩
  obtain ⟨x14, p1, m1, d1, p2, m2, d2, rfl, b1, i1, hm1, hm2⟩ := hv.ans
  refine ⟨_, _, _, _, _, _, _, rfl, ?_⟩
  have xw14 := xw.trans x14
  refine (rword10_spec (c3 := c3) (c4 := c4) (hb.ext xw14) (hm.ext xw14) n1 n2).mono ?_
  rintro e w19 ⟨v, rfl, hv⟩
  obtain ⟨x19, q1, u1, e1, q2, u2, e2, rfl, b2, i2, _, _⟩ := hv.ans
  refine ⟨_, _, _, _, _, _, _, rfl, ?_⟩
  refine (same_spec (c1 := d1) (c2 := e1) (b1.ext x19) b2 (by omega)).mono ?_
  rintro e w24 ⟨rfl, x24⟩
  refine ⟨_, rfl, ?_⟩
  have x24' : Ext w19 w24 := x24.ext
  refine (ints_spec (c1 := d2) (c2 := e2) ((i1.ext x19).ext x24') (i2.ext x24') (by omega)).mono ?_
  rintro e w27 ⟨rfl, x27⟩
  refine ⟨_, rfl, ?_⟩
  have fin : Ext w w27 := xw14.trans (x19.trans (x24'.trans x27))
  exact condB_of (fun _ => condB_of (fun _ => ⟨by simp, fin⟩) fun h => by simp at h) fun h => by simp at h
set_option maxRecDepth 100000 in
theorem errdecWords_lifted (os : Os) (started : os.Started) (H : Type) (enc : TypeId × Value → H) :
    ReturnsInHanded {} Try.checked os 3 .any (Rows.errdecWordsSpec.pre6 enc Try.prog Try.f3 Rows.errdecWordsRow.domain false) (Rows.errdecWordsSpec.post enc Try.prog Try.f3 false true false false) := by
  refine returnsInHanded_of_change (C := Try.checked) lawOwn started (by kernel_rfl) Try.func3
    (ChangeSpec.witness6 (enc := enc) (C := Try.checked) false ⟨#[], #[.int .i64 0, .int .i64 0, .slice none 0 0, .slice none 0 0], []⟩ 8 (by kernel_rfl) (by kernel_rfl) (by kernel_rfl) (by kernel_rfl)) ?_
  intro W base args ds gs before hval0 hW hcnd _
  have hval : ∀ (j : Nat) t v, Try.f3.params[j]? = some t → args[j]? = some v → Value.okWide Try.prog W .any base t v := hval0
  have hW' := hW
  obtain ⟨p, q, hA0, hV, rfl, hfz, hnd⟩ := hW
  have hA : DataW.TrodAll enc Try.prog W 0 (fun _ => true) true Try.f3.params.toList args.toList ds p := hA0
  rw [Try.params3] at hA hval
  obtain ⟨v0, vs0, d0, ds0, p0, q0, hargs, rfl, rfl, h0, r0⟩ := trodAll_cons hA
  obtain ⟨v1, vs1, d1, ds1, p1, q1, rfl, rfl, rfl, h1, r1⟩ := trodAll_cons r0
  obtain ⟨v2, vs2, d2, ds2, p2, q2, rfl, rfl, rfl, h2, r2⟩ := trodAll_cons r1
  obtain ⟨v3, vs3, d3, ds3, p3, q3, rfl, rfl, rfl, h3, r3⟩ := trodAll_cons r2
  obtain ⟨rfl, rfl, rfl⟩ := trodAll_nil r3
  obtain rfl : args = #[v0, v1, v2, v3] := by cases args; simp_all
  obtain ⟨rfl, rfl⟩ := trodVars_none hV
  obtain ⟨n0, rfl, rfl, rfl, wn0⟩ := open_int Try.underlying3 (hval 0 3 v0 rfl rfl) h0
  obtain ⟨n1, rfl, rfl, rfl, wn1⟩ := open_int Try.underlying3 (hval 1 3 v1 rfl rfl) h1
  obtain ⟨a2, l2, c2, bs2, rfl, hb2, _, _⟩ := open_by (okWide_slice Try.underlying22 (hval 2 22 v2 rfl rfl)) h2
  obtain ⟨a3, l3, c3, ks3, rfl, hk3, _, _⟩ := open_flags (okWide_slice Try.underlying23 (hval 3 23 v3 rfl rfl)) h3
  refine (errdecWords_walk n0 n1 hb2 hk3).mono fun e W' ⟨he, hg⟩ => ?_
  subst he
  exact ⟨_, rfl, post_true lawLaid rfl (by kernel_rfl) rfl Try.underlying4 hW' rfl hg.below⟩

/-- ████ THE STATEMENT ████ -/
theorem errdecWords_holds : Rows.ErrdecWordsSaid :=
  OpenClaim.holds_of_wide 3 Try.f3 rfl rfl rfl rfl rfl rfl rfl ⟨rfl, rfl, rfl, rfl, rfl⟩ rfl rfl rfl rfl rfl (by kernel_rfl) Try.func3 (by kernel_rfl)
    (of_decide_eq_true (by kernel_rfl)) (by unfold Func.isWrapper; first | (rw [if_pos (by decide +kernel)]; kernel_rfl) | (rw [if_neg (by decide +kernel)]; exact ⟨rfl, rfl⟩))
    (fun os started H enc _ => errdecWords_lifted os started H enc)
end Go.Proofs.Ytpmkjpgoekjcfaa
