import Derived.Test.YtkolafpgbhpdlaaGreatMT
import Derived.Test.YtkolafpgbhpdlaaGreatRows
/- StripeioEpochs returns true, whatever the geometry, the stripe, the data and the epochs. No conditions. -/
namespace Go.Proofs.YtkolafpgbhpdlaaGreat
open Go Go.Vc Go.Gf Go.ChangeShapes Go.WideShapes Go.ChangeAt Go.RowKit

set_option maxRecDepth 20000 in
set_option maxHeartbeats 4000000 in
theorem stripeioEpochs_walk (g : Geo) (n7 : Int) {w : World} {p8 : Option Addr} {l8 c8 : Nat} {xs : List UInt8} (hx : BytesAt w p8 l8 xs) (hxc : l8 ≤ c8) {p9 : Option Addr} {l9 c9 : Nat} {ys : List UInt8} (hy : BytesAt w p9 l9 ys) (hyc : l9 ≤ c9) (n10 n11 n12 : Int) :
    Calls Tryz.prog 5 #[gV g, .int .i64 n7, .slice p8 l8 c8, .slice p9 l9 c9, .int .i64 n10, .int .i64 n11, .int .i64 n12] w fun e w' => e = .returned (.bool true) ∧ Ext w w' := by
  refine (F5_calls g.k g.m g.size g.stripes g.slots g.objects n7 p8 l8 c8 p9 l9 c9 n10 n11 n12 w (fun v w' => v = .bool true ∧ Ext w w') ?_).mono (by rintro e w' ⟨v, rfl, rfl, h⟩; exact ⟨rfl, h⟩)
  intro k13 w14 h13
  refine (sawake_spec w14).mono ?_
  rintro e w15 ⟨rfl, x15⟩
  refine ⟨_, rfl, (fnew_spec w15).mono ?_⟩
  rintro e w18 ⟨kf, rfl, x18, _, hf⟩
  have y18 := (h13.ext.trans x15).trans x18
  have r18 : RowW w18 k13 (gC g) := (x15.trans x18).rowW ⟨_, h13.at⟩ id
  refine ⟨_, rfl, condB_of (fun h => by cases h) fun _ => condB_of (fun h => by cases h) fun _ => ⟨_, r18.row.cell (n := 0) rfl, _, r18.row.cell rfl, _, r18.row.cell rfl, _, r18.row.cell rfl, _, r18.row.cell rfl, _, r18.row.cell rfl, (small_spec g w18).mono ?_⟩⟩
  rintro e w27 ⟨rfl, x27⟩
  have y27 := y18.trans x27
  have r27 : RowW w27 k13 (gC g) := x27.rowW r18 id
  refine ⟨_, rfl, condB_of (fun _ => ⟨rfl, y27⟩) fun _ => ⟨_, r27.row.cell (n := 0) rfl, _, r27.row.cell rfl, _, r27.row.cell rfl, _, r27.row.cell rfl, _, r27.row.cell rfl, _, r27.row.cell rfl, (check_spec g w27).mono ?_⟩⟩
  rintro e w36 ⟨rfl, x36⟩
  have y36 := y27.trans x36
  refine ⟨_, rfl, condB_of (fun _ => ⟨rfl, y36⟩) fun hc => fun w39 hd39 => ?_⟩
  simp only [Bool.not_eq_false', decide_eq_true_eq] at hc
  have hg := checkG_ok hc
  have hgg := hg
  obtain ⟨g1, g2, g3, g4, g5⟩ := hg
  have y39 := y36.trans hd39.ext
  have r39 : RowW w39 k13 (gC g) := (x36.trans hd39.ext).rowW r27 id
  refine ⟨_, r39.row.cell (n := 0) rfl, _, r39.row.cell rfl, _, r39.row.cell (n := 0) rfl, _, r39.row.cell rfl, _, r39.row.cell rfl, _, r39.row.cell rfl, _, r39.row.cell rfl, _, r39.row.cell rfl, (sectors_spec g w39).mono ?_⟩
  rintro e w48 ⟨rfl, x48⟩
  have y48 := y39.trans x48
  have r48 : RowW w48 k13 (gC g) := x48.rowW r39 id
  rw [w64 (n := g.k + g.m) (by omega)]
  refine ⟨_, rfl, ⟨_, r48.row.cell (n := 0) rfl, rfl⟩, ⟨_, r48.row.cell rfl, rfl⟩, (anew_geo hgg w48).mono ?_⟩
  rintro e w53 ⟨a, F, rfl, R0⟩
  have x1848 : Ext w18 w48 := x27.trans (x36.trans (hd39.ext.trans x48))
  have hf48 := hf.ext x1848
  have rr : ∀ {w' : World} {s : StA} {F : Nat → Prop}, Run w48 w' a s F → RowW w' k13 (gC g) ∧ Ext w w' := fun h => ⟨h.ext.rowW r48 id, y48.trans h.ext⟩
  have r53 := (rr R0).1
  refine ⟨_, _, rfl, condB_of (fun h => by cases h) fun _ => ⟨_, r53.row.cell (n := 0) rfl, _, r53.row.cell rfl, _, r53.row.cell rfl, _, r53.row.cell rfl, _, r53.row.cell rfl, _, r53.row.cell rfl, ?_⟩⟩
  refine (swrite_law R0 hgg (newA_fit _ _) (fun d hd => newA_dead _ hd) hf48 n7 n10 (hx.ext (rr R0).2) hxc).mono ?_
  rintro e w63 (⟨_, rfl, F1, R1⟩ | ⟨_, rfl, F1, s1, R1, _, p1, hb1, f1, d1, st1, _⟩)
  · exact ⟨_, rfl, condB_of (fun _ => ⟨rfl, (rr R1).2⟩) fun h => by simp at h⟩
  have r63 := (rr R1).1
  refine ⟨_, rfl, condB_of (fun h => by simp at h) fun _ => ⟨_, r63.row.cell (n := 0) rfl, _, r63.row.cell rfl, _, r63.row.cell rfl, _, r63.row.cell rfl, _, r63.row.cell rfl, _, r63.row.cell rfl, ?_⟩⟩
  refine (swrite_law R1 hgg f1 (fun d hd => by rw [d1]; exact newA_dead _ hd) hf48 n7 n11 (hy.ext (rr R1).2) hyc).mono ?_
  rintro e w72 (⟨_, rfl, F2, R2⟩ | ⟨_, rfl, F2, s2, R2, _, p2, hb2, f2, d2, st2, _⟩)
  · exact ⟨_, rfl, condB_of (fun _ => ⟨rfl, (rr R2).2⟩) fun h => by simp at h⟩
  have r72 := (rr R2).1
  have ok2 := f2.ok (nG_le hgg)
  refine ⟨_, rfl, condB_of (fun h => by simp at h) fun _ => ⟨_, r72.row.cell (n := 0) rfl, _, r72.row.cell rfl, _, r72.row.cell rfl, _, r72.row.cell rfl, _, r72.row.cell rfl, _, r72.row.cell rfl, (sread_spec R2.isa ok2 (hf48.ext R2.ext) g n7 n11).mono ?_⟩⟩
  rintro e w81 ⟨v, rfl, hv⟩
  obtain ⟨x81, gd, cd, q2, m2, c2, rfl, hgd, hby, hcd, hW⟩ := sread_few hv (lineOk p2) f2 p2 st2 hb2 (lost0 _ _)
  have R81 := R2.more x81
  have ln2 := OwnN.len hW
  have hb0 : (badC s2 g n7 fun _ => false).length = 0 := by simp [badC]
  have hl2 : m2 = 0 := ln2.trans hb0
  subst hl2
  have hyl := hy.1
  have yb : ys.length ≤ 131072 := by
    have : g.k.toNat * g.size.toNat ≤ 32 * 4096 := Nat.mul_le_mul (by omega) (by omega)
    have ekz : g.k * g.size = ((g.k.toNat * g.size.toNat : Nat) : Int) := by rw [Int.natCast_mul, Int.toNat_of_nonneg (by omega), Int.toNat_of_nonneg (by omega)]
    omega
  refine ⟨_, _, _, _, _, _, _, rfl, (same_spec (c1 := cd) (c2 := c9) hby (hy.ext (rr R81).2) (by omega)).mono ?_⟩
  rintro e w86 ⟨rfl, q86⟩
  have R86 := R81.more q86.ext
  have r86 := (rr R86).1
  refine ⟨_, rfl, condB_of (fun h => by simp at h) fun _ => condB_of (fun h => by simp at h) fun _ => condB_of (fun h => by simp at h) fun _ => ⟨_, r86.row.cell (n := 0) rfl, _, r86.row.cell rfl, _, r86.row.cell rfl, _, r86.row.cell rfl, _, r86.row.cell rfl, _, r86.row.cell rfl, (sread_spec R86.isa ok2 (hf48.ext R86.ext) g n7 n12).mono ?_⟩⟩
  rintro e w95 ⟨v2, rfl, hv2⟩
  by_cases he : n12 = n11
  · subst he
    obtain ⟨x95, gd, cd, q2, m2, c2, rfl, _⟩ := sread_few hv2 (lineOk p2) f2 p2 st2 hb2 (lost0 _ _)
    have R95 := R86.more x95
    refine ⟨_, _, _, _, _, _, _, rfl, condB_of (fun _ => ?_) fun h => by simp at h⟩
    exact condB_of (fun _ => ⟨rfl, (rr R95).2⟩) fun h => by simp at h
  · by_cases hl : lineB g n7 n12 = true
    · obtain ⟨x95, rfl⟩ := sread_no hv2 (by rw [lineZ_some hgg, hl]; rfl) f2 (st2.other hgg he)
      have R95 := R86.more x95
      refine ⟨_, _, _, _, _, _, _, rfl, condB_of (fun _ => ?_) fun h => by simp [he] at h⟩
      refine condB_of (fun h => (he (of_decide_eq_true h)).elim) fun _ => ?_
      exact condB_of (fun _ => ⟨rfl, (rr R95).2⟩) fun h => by simp at h
    · obtain ⟨x95, rfl⟩ := sread_arg hv2 (by rw [lineZ_some hgg, if_neg hl])
      have R95 := R86.more x95
      refine ⟨_, _, _, _, _, _, _, rfl, condB_of (fun _ => ?_) fun h => by simp [he] at h⟩
      refine condB_of (fun h => (he (of_decide_eq_true h)).elim) fun _ => ?_
      exact condB_of (fun h => by simp at h) fun _ => ⟨rfl, (rr R95).2⟩
set_option maxRecDepth 100000 in
theorem stripeioEpochs_lifted (os : Os) (started : os.Started) (H : Type) (enc : TypeId × Value → H) :
    ReturnsInHanded {} Tryz.checked os 5 .any (Rows.stripeioEpochsSpec.pre6 enc Tryz.prog Tryz.f5 Rows.stripeioEpochsRow.domain false) (Rows.stripeioEpochsSpec.post enc Tryz.prog Tryz.f5 false true false false) := by
  refine returnsInHanded_of_change (C := Tryz.checked) lawOwn started (by kernel_rfl) Tryz.func5
    (ChangeSpec.witness6 (enc := enc) (C := Tryz.checked) false ⟨#[], #[.agg #[.int .i64 0, .int .i64 0, .int .i64 0, .int .i64 0, .int .i64 0, .int .i64 0], .int .i64 0, .slice none 0 0, .slice none 0 0, .int .i64 0, .int .i64 0, .int .i64 0], []⟩ 8 (by kernel_rfl) (by kernel_rfl) (by kernel_rfl) (by kernel_rfl)) ?_
  intro W base args ds gs before hval0 hW hcnd _
  have hval : ∀ (j : Nat) t v, Tryz.f5.params[j]? = some t → args[j]? = some v → Value.okWide Tryz.prog W .any base t v := hval0
  have hW' := hW
  obtain ⟨p, q, hA0, hV, rfl, hfz, hnd⟩ := hW
  have hA : DataW.TrodAll enc Tryz.prog W 0 (fun _ => true) true Tryz.f5.params.toList args.toList ds p := hA0
  rw [Tryz.params5] at hA hval
  obtain ⟨v0, vs0, d0, ds0, p0, q0, hargs, rfl, rfl, h0, r0⟩ := trodAll_cons hA
  obtain ⟨v1, vs1, d1, ds1, p1, q1, rfl, rfl, rfl, h1, r1⟩ := trodAll_cons r0
  obtain ⟨v2, vs2, d2, ds2, p2, q2, rfl, rfl, rfl, h2, r2⟩ := trodAll_cons r1
  obtain ⟨v3, vs3, d3, ds3, p3, q3, rfl, rfl, rfl, h3, r3⟩ := trodAll_cons r2
  obtain ⟨v4, vs4, d4, ds4, p4, q4, rfl, rfl, rfl, h4, r4⟩ := trodAll_cons r3
  obtain ⟨v5, vs5, d5, ds5, p5, q5, rfl, rfl, rfl, h5, r5⟩ := trodAll_cons r4
  obtain ⟨v6, vs6, d6, ds6, p6, q6, rfl, rfl, rfl, h6, r6⟩ := trodAll_cons r5
  obtain ⟨rfl, rfl, rfl⟩ := trodAll_nil r6
  obtain rfl : args = #[v0, v1, v2, v3, v4, v5, v6] := by cases args; simp_all
  obtain ⟨rfl, rfl⟩ := trodVars_none hV
  obtain ⟨g0, rfl⟩ := open_geo (okWide_struct Tryz.underlying24 (hval 0 24 v0 rfl rfl)) h0
  obtain ⟨n1, rfl, rfl, rfl, wn1⟩ := open_int Tryz.underlying3 (hval 1 3 v1 rfl rfl) h1
  obtain ⟨a2, l2, c2, bs2, rfl, hb2, hc2, _⟩ := open_by (okWide_slice Tryz.underlying25 (hval 2 25 v2 rfl rfl)) h2
  obtain ⟨a3, l3, c3, bs3, rfl, hb3, hc3, _⟩ := open_by (okWide_slice Tryz.underlying25 (hval 3 25 v3 rfl rfl)) h3
  obtain ⟨n4, rfl, rfl, rfl, wn4⟩ := open_int Tryz.underlying3 (hval 4 3 v4 rfl rfl) h4
  obtain ⟨n5, rfl, rfl, rfl, wn5⟩ := open_int Tryz.underlying3 (hval 5 3 v5 rfl rfl) h5
  obtain ⟨n6, rfl, rfl, rfl, wn6⟩ := open_int Tryz.underlying3 (hval 6 3 v6 rfl rfl) h6
  refine (stripeioEpochs_walk g0 n1 hb2 hc2 hb3 hc3 n4 n5 n6).mono fun e W' ⟨he, hg⟩ => ?_
  subst he
  exact ⟨_, rfl, post_true lawLaid rfl (by kernel_rfl) rfl Tryz.underlying4 hW' rfl hg.below⟩

/-- ████ THE STATEMENT ████ -/
theorem stripeioEpochs_holds : Rows.StripeioEpochsSaid :=
  OpenClaim.holds_of_wide 5 Tryz.f5 rfl rfl rfl rfl rfl rfl rfl ⟨rfl, rfl, rfl, rfl, rfl⟩ rfl rfl rfl rfl rfl (by kernel_rfl) Tryz.func5 (by kernel_rfl)
    (of_decide_eq_true (by kernel_rfl)) (by unfold Func.isWrapper; first | (rw [if_pos (by decide +kernel)]; kernel_rfl) | (rw [if_neg (by decide +kernel)]; exact ⟨rfl, rfl⟩))
    (fun os started H enc _ => stripeioEpochs_lifted os started H enc)
end Go.Proofs.YtkolafpgbhpdlaaGreat
