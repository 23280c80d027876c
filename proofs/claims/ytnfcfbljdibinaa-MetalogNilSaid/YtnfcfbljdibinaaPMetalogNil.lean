import Derived.Test.YtnfcfbljdibinaaMJ
import Derived.Test.YtnfcfbljdibinaaRows
/- MetalogNil returns true, whatever the geometry, the number and the record. No conditions. -/
namespace Go.Proofs.Ytnfcfbljdibinaa
open Go Go.Vc Go.ChangeShapes Go.WideShapes Go.ChangeAt Go.RowKit

set_option maxHeartbeats 1000000 in
theorem metalogNil_walk (g : Geo) (n : Int) (kind : Int) (key : ByteArray) (len : Int) {w : World} {p : Option Addr} {l c : Nat} {st : List Int} (hst : IntsAt w p l st) (hl : l ≤ 9223372036854775807) :
    Calls Try.prog 4 #[gV g, .int .i64 n, .agg #[.int .i64 kind, .string key, .int .i64 len, .slice p l c]] w fun e w' => e = .returned (.bool true) ∧ Ext w w' := by
  refine (F4_calls g.k g.m g.size g.stripes g.slots g.objects n kind key len p l c w (fun v w' => v = .bool true ∧ Ext w w') ?_).mono (by rintro e w' ⟨v, rfl, rfl, h⟩; exact ⟨rfl, h⟩)
  intro k12 w13 hk12 k14 w15 hk14
  have r12 : RowW w15 k12 (gRow g) := hk14.ext.rowW ⟨_, hk12.at⟩ id
  have r14 : RowW w15 k14 #[.int .i64 kind, .string key, .int .i64 len, .slice p l c] := ⟨_, hk14.at⟩
  have x15 := hk12.ext.trans hk14.ext
  refine (awakeM_spec w15).mono ?_
  rintro e w16 ⟨rfl, x16⟩
  refine ⟨true, rfl, (mknows_nil w16).mono ?_⟩
  rintro e w19 ⟨rfl, rfl⟩
  have q12 : RowW w19 k12 (gRow g) := x16.rowW r12 id
  refine ⟨_, _, _, _, rfl, _, q12.row.cell (n := 0) rfl, _, q12.row.cell rfl, _, q12.row.cell rfl, _, q12.row.cell rfl, _, q12.row.cell rfl, _, q12.row.cell rfl, (mreplay_nil g n w19).mono ?_⟩
  rintro e w29 ⟨rfl, x29⟩
  have t12 : RowW w29 k12 (gRow g) := x29.rowW q12 id
  refine ⟨_, _, _, _, rfl, _, t12.row.cell (n := 0) rfl, _, t12.row.cell rfl, _, t12.row.cell rfl, _, t12.row.cell rfl, _, t12.row.cell rfl, _, t12.row.cell rfl, (mlatest_nil g w29).mono ?_⟩
  rintro e w39 ⟨rfl, x39⟩
  refine ⟨_, _, _, _, _, _, rfl, fun k45 w46 hk45 => ?_⟩
  have s45 := hk45.size
  refine fill3 (e := 37) (v0 := .int .i64 0) (v1 := .int .i64 0) (v2 := .slice none 0 0) hk45.at fun w49 u49 r49 => ?_
  have x49 : Ext w39 w49 := upd_new hk45.ext u49 (by omega)
  have y49 : Ext w15 w49 := (x16.trans (x29.trans x39)).trans x49
  refine (mlabel_nil w49).mono ?_
  rintro e w50 ⟨rfl, rfl⟩
  have u12 : RowW w50 k12 (gRow g) := y49.rowW r12 id
  have u14 : RowW w50 k14 _ := y49.rowW r14 id
  refine ⟨_, rfl, condB_t rfl ⟨_, u12.row.cell (n := 0) rfl, _, u12.row.cell rfl, _, u12.row.cell rfl, _, u12.row.cell rfl, _, u12.row.cell rfl, _, u12.row.cell rfl, _, u14.row.cell (n := 0) rfl, _, u14.row.cell rfl, _, u14.row.cell rfl, _, _, _, u14.row.cell rfl, (mappend_nil g n n kind key len (hst.ext (x15.trans y49)) hl).mono ?_⟩⟩
  rintro e w63 ⟨rfl, x63⟩
  have v12 : RowW w63 k12 (gRow g) := x63.rowW u12 id
  have v45 : RowT 37 w63 k45 _ := r49.upd x63 id
  refine ⟨_, rfl, condB_t rfl ⟨_, v12.row.cell (n := 0) rfl, _, v12.row.cell rfl, _, v12.row.cell rfl, _, v12.row.cell rfl, _, v12.row.cell rfl, _, v12.row.cell rfl, _, v45.row.row.cell (n := 0) rfl, _, v45.row.row.cell rfl, _, _, _, v45.row.row.cell rfl, (msave_nil g 0 0 (c10 := 0) (ObsV.nil w63 none) (by omega)).mono ?_⟩⟩
  rintro e w75 ⟨rfl, x75⟩
  have z45 : RowT 37 w75 k45 _ := v45.upd x75 id
  exact ⟨_, rfl, condB_t rfl (condB_t rfl (condB_t rfl (condB_t rfl (condB_t rfl (condB_t rfl (condB_t rfl ⟨_, z45.row.row.cell rfl, condB_t rfl ⟨_, z45.row.row.cell rfl, condB_t rfl ⟨_, _, _, z45.row.row.cell rfl, rfl, (x15.trans y49).trans (x63.trans x75)⟩⟩⟩))))))⟩
set_option maxRecDepth 100000 in
theorem metalogNil_lifted (os : Os) (started : os.Started) (H : Type) (enc : TypeId × Value → H) :
    ReturnsInHanded {} Try.checked os 4 .any (Rows.metalogNilSpec.pre6 enc Try.prog Try.f4 Rows.metalogNilRow.domain false) (Rows.metalogNilSpec.post enc Try.prog Try.f4 false true false false) := by
  refine returnsInHanded_of_change (C := Try.checked) lawOwn started (by kernel_rfl) Try.func4
    (ChangeSpec.witness6 (enc := enc) (C := Try.checked) false ⟨#[], #[.agg #[.int .i64 0, .int .i64 0, .int .i64 0, .int .i64 0, .int .i64 0, .int .i64 0], .int .i64 0, .agg #[.int .i64 0, .string ⟨#[]⟩, .int .i64 0, .slice none 0 0]], []⟩ 8 (by kernel_rfl) (by kernel_rfl) (by kernel_rfl) (by kernel_rfl)) ?_
  intro W base args ds gs before hval0 hW hcnd _
  have hval : ∀ (j : Nat) t v, Try.f4.params[j]? = some t → args[j]? = some v → Value.okWide Try.prog W .any base t v := hval0
  have hW' := hW
  obtain ⟨p, q, hA0, hV, rfl, hfz, hnd⟩ := hW
  have hA : DataW.TrodAll enc Try.prog W 0 (fun _ => true) true Try.f4.params.toList args.toList ds p := hA0
  rw [Try.params4] at hA hval
  obtain ⟨v0, vs0, d0, ds0, p0, q0, hargs, rfl, rfl, h0, r0⟩ := trodAll_cons hA
  obtain ⟨v1, vs1, d1, ds1, p1, q1, rfl, rfl, rfl, h1, r1⟩ := trodAll_cons r0
  obtain ⟨v2, vs2, d2, ds2, p2, q2, rfl, rfl, rfl, h2, r2⟩ := trodAll_cons r1
  obtain ⟨rfl, rfl, rfl⟩ := trodAll_nil r2
  obtain rfl : args = #[v0, v1, v2] := by cases args; simp_all
  obtain ⟨rfl, rfl⟩ := trodVars_none hV
  obtain ⟨g0, rfl⟩ := open_geo (okWide_struct Try.underlying24 (hval 0 24 v0 rfl rfl)) h0
  obtain ⟨n1, rfl, rfl, rfl, wn1⟩ := open_int Try.underlying3 (hval 1 3 v1 rfl rfl) h1
  obtain ⟨rk2, ry2, rn2, rp2, rl2, rc2, rs2, rfl, hr2, hl2⟩ := open_rec (okWide_struct Try.underlying27 (hval 2 27 v2 rfl rfl)) h2
  refine (metalogNil_walk g0 n1 rk2 ry2 rn2 hr2 hl2).mono fun e W' ⟨he, hg⟩ => ?_
  subst he
  exact ⟨_, rfl, post_true lawLaid rfl (by kernel_rfl) rfl Try.underlying4 hW' rfl hg.below⟩

/-- ████ THE STATEMENT ████ -/
theorem metalogNil_holds : Rows.MetalogNilSaid :=
  OpenClaim.holds_of_wide 4 Try.f4 rfl rfl rfl rfl rfl rfl rfl ⟨rfl, rfl, rfl, rfl, rfl⟩ rfl rfl rfl rfl rfl (by kernel_rfl) Try.func4 (by kernel_rfl)
    (of_decide_eq_true (by kernel_rfl)) (by unfold Func.isWrapper; first | (rw [if_pos (by decide +kernel)]; kernel_rfl) | (rw [if_neg (by decide +kernel)]; exact ⟨rfl, rfl⟩))
    (fun os started H enc _ => metalogNil_lifted os started H enc)
end Go.Proofs.Ytnfcfbljdibinaa
