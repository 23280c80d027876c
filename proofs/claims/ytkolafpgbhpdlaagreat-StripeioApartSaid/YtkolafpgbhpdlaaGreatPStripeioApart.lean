import Derived.Test.YtkolafpgbhpdlaaGreatMT
import Derived.Test.YtkolafpgbhpdlaaGreatRows
/- StripeioApart returns true, whatever the geometry, the stripes and the data. No conditions. -/
namespace Go.Proofs.YtkolafpgbhpdlaaGreat
open Go Go.Vc Go.Gf Go.ChangeShapes Go.WideShapes Go.ChangeAt Go.RowKit

set_option maxRecDepth 20000 in
set_option maxHeartbeats 4000000 in
theorem stripeioApart_walk (g : Geo) (n7 n8 : Int) {w : World} {p9 : Option Addr} {l9 c9 : Nat} {xs : List UInt8} (hx : BytesAt w p9 l9 xs) (hxc : l9 ≤ c9) {p10 : Option Addr} {l10 c10 : Nat} {ys : List UInt8} (hy : BytesAt w p10 l10 ys) (hyc : l10 ≤ c10) :
    Calls Tryz.prog 7 #[gV g, .int .i64 n7, .int .i64 n8, .slice p9 l9 c9, .slice p10 l10 c10] w fun e w' => e = .returned (.bool true) ∧ Ext w w' := by
  refine (F7_calls g.k g.m g.size g.stripes g.slots g.objects n7 n8 p9 l9 c9 p10 l10 c10 w (fun v w' => v = .bool true ∧ Ext w w')
    (fun _ _ _ _ _ _ l103 _ w101 p112 l112 c112 n113 w114 => ∃ t : Nat, n113 = t ∧ t ≤ l103 ∧ Ext w101 w114 ∧ l112 = t ∧ ∃ vs, OwnS w114 w101.heap.size 3 1 p112 l112 c112 vs) (fun _ _ _ _ _ _ l103 _ _ _ _ _ n113 _ => (l103 - n113).toNat) ?_).mono (by rintro e w' ⟨v, rfl, rfl, h⟩; exact ⟨rfl, h⟩)
  intro k13 w14 h13
  refine (sawake_spec w14).mono ?_
  rintro e w15 ⟨rfl, x15⟩
  refine ⟨_, rfl, (fnew_spec w15).mono ?_⟩
  rintro e w18 ⟨kf, rfl, x18, _, hf⟩
  have y18 := (h13.ext.trans x15).trans x18
  have r18 : RowW w18 k13 (gC g) := (x15.trans x18).rowW ⟨_, h13.at⟩ id
  refine ⟨_, rfl, condB_of (fun h => by cases h) fun _ => condB_of (fun h => by cases h) fun _ => ⟨_, r18.row.cell (n := 0) rfl, _, r18.row.cell rfl, _, r18.row.cell rfl, _, r18.row.cell rfl, _, r18.row.cell rfl, _, r18.row.cell rfl, (small_spec g w18).mono ?_⟩⟩
  rintro e w27 ⟨rfl, x27⟩
  have y27 := y18.trans x27
  have r27 : RowW w27 k13 (gC g) := x27.rowW r18 id
  refine ⟨_, rfl, condB_of (fun _ => ⟨rfl, y27⟩) fun _ => ⟨_, r27.row.cell (n := 0) rfl, _, r27.row.cell rfl, _, r27.row.cell rfl, _, r27.row.cell rfl, _, r27.row.cell rfl, _, r27.row.cell rfl, (check_spec g w27).mono ?_⟩⟩
  rintro e w36 ⟨rfl, x36⟩
  have y36 := y27.trans x36
  refine ⟨_, rfl, condB_of (fun _ => ⟨rfl, y36⟩) fun hc => condB_of (fun _ => ⟨rfl, y36⟩) fun hne => fun w39 hd39 => ?_⟩
  simp only [Bool.not_eq_false', decide_eq_true_eq] at hc
  simp only [decide_eq_false_iff_not] at hne
  have hg := checkG_ok hc
  have hgg := hg
  obtain ⟨g1, g2, g3, g4, g5⟩ := hg
  have y39 := y36.trans hd39.ext
  have r39 : RowW w39 k13 (gC g) := (x36.trans hd39.ext).rowW r27 id
  refine ⟨_, r39.row.cell (n := 0) rfl, _, r39.row.cell rfl, _, r39.row.cell (n := 0) rfl, _, r39.row.cell rfl, _, r39.row.cell rfl, _, r39.row.cell rfl, _, r39.row.cell rfl, _, r39.row.cell rfl, (sectors_spec g w39).mono ?_⟩
  rintro e w48 ⟨rfl, x48⟩
  have y48 := y39.trans x48
  have r48 : RowW w48 k13 (gC g) := x48.rowW r39 id
  rw [w64 (n := g.k + g.m) (by omega)]
  refine ⟨_, rfl, ⟨_, r48.row.cell (n := 0) rfl, rfl⟩, ⟨_, r48.row.cell rfl, rfl⟩, (anew_geo hgg w48).mono ?_⟩
  rintro e w53 ⟨a, F, rfl, R0⟩
  have x1848 : Ext w18 w48 := x27.trans (x36.trans (hd39.ext.trans x48))
  have hf48 := hf.ext x1848
  have rr : ∀ {w' : World} {s : StA} {F : Nat → Prop}, Run w48 w' a s F → RowW w' k13 (gC g) ∧ Ext w w' := fun h => ⟨h.ext.rowW r48 id, y48.trans h.ext⟩
  have r53 := (rr R0).1
  have f0 := newA_fit (nG g) (sectorsZ g)
  have hd0 : ∀ d, d < nG g → deadA (newA (nG g) (sectorsZ g)) d = false := fun d hd => newA_dead _ hd
  refine ⟨_, _, rfl, condB_of (fun h => by cases h) fun _ => condB_of (fun h => by simp at h) fun _ => ⟨_, r53.row.cell (n := 0) rfl, _, r53.row.cell rfl, _, r53.row.cell rfl, _, r53.row.cell rfl, _, r53.row.cell rfl, _, r53.row.cell rfl, ?_⟩⟩
  refine (swrite_law R0 hgg f0 hd0 hf48 n7 1 (hx.ext (rr R0).2) hxc).mono ?_
  rintro e w61 (⟨_, rfl, F1, R1⟩ | ⟨ok1, rfl, F1, s1, R1, _, p1, hb1, f1, d1, st1, ke1, es1⟩)
  · have r61 := (rr R1).1
    refine ⟨_, rfl, _, r61.row.cell (n := 0) rfl, _, r61.row.cell rfl, _, r61.row.cell rfl, _, r61.row.cell rfl, _, r61.row.cell rfl, _, r61.row.cell rfl, ?_⟩
    refine (swrite_law R1 hgg f0 hd0 hf48 n8 2 (hy.ext (rr R1).2) hyc).mono ?_
    rintro e w70 (⟨_, rfl, F2, R2⟩ | ⟨_, rfl, F2, s2, R2, _⟩)
    · exact ⟨_, rfl, condB_of (fun _ => ⟨rfl, (rr R2).2⟩) fun h => by simp at h⟩
    · exact ⟨_, rfl, condB_of (fun _ => ⟨rfl, (rr R2).2⟩) fun h => by simp at h⟩
  have r61 := (rr R1).1
  have hd1 : ∀ d, d < nG g → deadA s1 d = false := fun d hd => by rw [d1]; exact newA_dead _ hd
  refine ⟨_, rfl, _, r61.row.cell (n := 0) rfl, _, r61.row.cell rfl, _, r61.row.cell rfl, _, r61.row.cell rfl, _, r61.row.cell rfl, _, r61.row.cell rfl, ?_⟩
  refine (swrite_law R1 hgg f1 hd1 hf48 n8 2 (hy.ext (rr R1).2) hyc).mono ?_
  rintro e w70 (⟨_, rfl, F2, R2⟩ | ⟨ok2, rfl, F2, s2, R2, _, p2, hb2, f2, d2, st2, ke2, es2⟩)
  · exact ⟨_, rfl, condB_of (fun h => by simp at h) fun _ => condB_of (fun _ => ⟨rfl, (rr R2).2⟩) fun h => by simp at h⟩
  have r70 := (rr R2).1
  have okA := f2.ok (nG_le hgg)
  have hat : atZ g n7 ≠ atZ g n8 := by
    rw [atZ_eq hgg p1.str, atZ_eq hgg p2.str]; omega
  have st1' : StOk s2 g n7 1 xs fun _ => false := st1.keep f1 f2 p1 d2 fun d => ke2 d _ hat
  refine ⟨_, rfl, condB_of (fun h => by simp at h) fun _ => condB_of (fun h => by simp at h) fun _ => ⟨_, r70.row.cell (n := 0) rfl, _, r70.row.cell rfl, _, r70.row.cell rfl, _, r70.row.cell rfl, _, r70.row.cell rfl, _, r70.row.cell rfl, (sread_spec R2.isa okA (hf48.ext R2.ext) g n7 1).mono ?_⟩⟩
  rintro e w79 ⟨v1, rfl, hv1⟩
  obtain ⟨x79, gd1, cd1, q1, m1, c1, rfl, hgd1, hby1, _, _⟩ := sread_few hv1 (lineOk p1) f2 p1 st1' hb1 (lost0 _ _)
  have R79 := R2.more x79
  have r79 := (rr R79).1
  refine ⟨_, _, _, _, _, _, _, rfl, _, r79.row.cell (n := 0) rfl, _, r79.row.cell rfl, _, r79.row.cell rfl, _, r79.row.cell rfl, _, r79.row.cell rfl, _, r79.row.cell rfl, (sread_spec R79.isa okA (hf48.ext R79.ext) g n8 2).mono ?_⟩
  rintro e w90 ⟨v2, rfl, hv2⟩
  obtain ⟨x90, gd2, cd2, q2, m2, c2, rfl, hgd2, hby2, _, _⟩ := sread_few hv2 (lineOk p2) f2 p2 st2 hb2 (lost0 _ _)
  have R90 := R79.more x90
  have bkz : g.k.toNat * g.size.toNat ≤ 32 * 4096 := Nat.mul_le_mul (by omega) (by omega)
  have ekz : g.k * g.size = ((g.k.toNat * g.size.toNat : Nat) : Int) := by rw [Int.natCast_mul, Int.toNat_of_nonneg (by omega), Int.toNat_of_nonneg (by omega)]
  refine ⟨_, _, _, _, _, _, _, rfl, (same_spec (c1 := cd1) (c2 := c9) (hby1.ext x90) (hx.ext (rr R90).2) (by omega)).mono ?_⟩
  rintro e w95 ⟨rfl, q95⟩
  have R95 := R90.more q95.ext
  refine ⟨_, rfl, (same_spec (c1 := cd2) (c2 := c10) (hby2.ext q95.ext) (hy.ext (rr R95).2) (by omega)).mono ?_⟩
  rintro e w98 ⟨rfl, q98⟩
  have R98 := R95.more q98.ext
  obtain ⟨m0, hm0, _⟩ := f2.at (show 0 < nG g by have := nG_eq hgg; omega)
  have hwt : ∃ b1 b2, (m0.d.waits, m0.d.lasts) = (ins (atZ g n8) b2 (ins (atZ g n7) b1 []), []) := by
    have hN0 : 0 < nG g := by have := nG_eq hgg; omega
    obtain ⟨b1, e1⟩ := swS_wt f0 hd0 p1 ok1 hN0
    obtain ⟨b2, e2⟩ := swS_wt f1 hd1 p2 ok2 hN0
    rw [← es1, newA_wt] at e1
    rw [← es2, e1] at e2
    refine ⟨b1, b2, ?_⟩
    rw [← e2]
    unfold wtA
    rw [hm0]
  obtain ⟨b1, b2, hwt⟩ := hwt
  simp only [Prod.mk.injEq] at hwt
  refine ⟨_, rfl, (awaits_spec R98.isa hm0).mono ?_⟩
  rintro e w101 ⟨p103, l103, c103, rfl, x101, hh⟩
  have R101 := R98.more x101
  have hl103 : l103 = 2 := by rw [hh.length, hwt.1]; exact ins_two hat
  refine ⟨_, _, _, rfl, ⟨0, rfl, Nat.zero_le _, Upd.refl _ _, rfl, [], OwnS.nil _ _ _ _⟩, ?_⟩
  rintro p112 l112 c112 n113 w114 ⟨t, rfl, ht, x114, rfl, vs, ho⟩
  intros
  have R114 := R101.more x114
  refine condB_of (fun hlt => ?_) (fun hge => ?_)
  · simp only [decide_eq_true_eq] at hlt
    obtain ⟨x, hxi⟩ : ∃ x, m0.d.waits[l112]? = some x := ⟨m0.d.waits[l112]'(by rw [← hh.length]; omega), List.getElem?_eq_getElem _⟩
    obtain ⟨ad, v, rfl, hca, _⟩ := hh.at hxi
    have e0 : (ad.add (l112 * 2)).add 0 = ad.add (2 * l112) := by simp [Addr.add, Nat.mul_comm]
    refine ⟨⟨by omega, hlt⟩, _, by rw [Int.toNat_natCast, e0]; exact cellx hca x114, fun k131 w132 h131 => ?_⟩
    obtain ⟨p', c', w2, hr, ho2, x2⟩ := app_one elemInt (by omega) x114 ho h131 rfl (by omega)
    rw [w64 (by omega)]
    exact ⟨_, _, _, _, hr, ⟨l112 + 1, by omega, by omega, x2, rfl, _, ho2⟩, by show (((l103 : Nat) : Int) - ((l112 : Int) + 1)).toNat < (((l103 : Nat) : Int) - l112).toNat; omega⟩
  · simp only [decide_eq_false_iff_not] at hge
    have hl2 : l112 = 2 := by omega
    refine condB_of (fun _ => ?_) (fun h => by simp at h)
    refine condB_of (fun _ => ?_) (fun h => by simp at h)
    refine condB_of (fun _ => ?_) (fun h => by simp at h)
    refine condB_of (fun _ => ?_) (fun h => by simp at h)
    refine condB_of (fun _ => ?_) (fun h => by simp only [decide_eq_false_iff_not] at h; omega)
    refine (alasts_spec R114.isa hm0).mono ?_
    rintro e w135 ⟨p137, l137, c137, rfl, x135, hh2⟩
    have hl137 : l137 = 0 := by rw [hh2.length, hwt.2]; rfl
    subst hl137
    refine ⟨_, _, _, rfl, (none_same p137 c137 w135).mono ?_⟩
    rintro e w138 ⟨rfl, x138⟩
    exact ⟨_, rfl, rfl, (rr ((R114.more x135).more x138)).2⟩
set_option maxRecDepth 100000 in
theorem stripeioApart_lifted (os : Os) (started : os.Started) (H : Type) (enc : TypeId × Value → H) :
    ReturnsInHanded {} Tryz.checked os 7 .any (Rows.stripeioApartSpec.pre6 enc Tryz.prog Tryz.f7 Rows.stripeioApartRow.domain false) (Rows.stripeioApartSpec.post enc Tryz.prog Tryz.f7 false true false false) := by
  refine returnsInHanded_of_change (C := Tryz.checked) lawOwn started (by kernel_rfl) Tryz.func7
    (ChangeSpec.witness6 (enc := enc) (C := Tryz.checked) false ⟨#[], #[.agg #[.int .i64 0, .int .i64 0, .int .i64 0, .int .i64 0, .int .i64 0, .int .i64 0], .int .i64 0, .int .i64 0, .slice none 0 0, .slice none 0 0], []⟩ 8 (by kernel_rfl) (by kernel_rfl) (by kernel_rfl) (by kernel_rfl)) ?_
  intro W base args ds gs before hval0 hW hcnd _
  have hval : ∀ (j : Nat) t v, Tryz.f7.params[j]? = some t → args[j]? = some v → Value.okWide Tryz.prog W .any base t v := hval0
  have hW' := hW
  obtain ⟨p, q, hA0, hV, rfl, hfz, hnd⟩ := hW
  have hA : DataW.TrodAll enc Tryz.prog W 0 (fun _ => true) true Tryz.f7.params.toList args.toList ds p := hA0
  rw [Tryz.params7] at hA hval
  obtain ⟨v0, vs0, d0, ds0, p0, q0, hargs, rfl, rfl, h0, r0⟩ := trodAll_cons hA
  obtain ⟨v1, vs1, d1, ds1, p1, q1, rfl, rfl, rfl, h1, r1⟩ := trodAll_cons r0
  obtain ⟨v2, vs2, d2, ds2, p2, q2, rfl, rfl, rfl, h2, r2⟩ := trodAll_cons r1
  obtain ⟨v3, vs3, d3, ds3, p3, q3, rfl, rfl, rfl, h3, r3⟩ := trodAll_cons r2
  obtain ⟨v4, vs4, d4, ds4, p4, q4, rfl, rfl, rfl, h4, r4⟩ := trodAll_cons r3
  obtain ⟨rfl, rfl, rfl⟩ := trodAll_nil r4
  obtain rfl : args = #[v0, v1, v2, v3, v4] := by cases args; simp_all
  obtain ⟨rfl, rfl⟩ := trodVars_none hV
  obtain ⟨g0, rfl⟩ := open_geo (okWide_struct Tryz.underlying24 (hval 0 24 v0 rfl rfl)) h0
  obtain ⟨n1, rfl, rfl, rfl, wn1⟩ := open_int Tryz.underlying3 (hval 1 3 v1 rfl rfl) h1
  obtain ⟨n2, rfl, rfl, rfl, wn2⟩ := open_int Tryz.underlying3 (hval 2 3 v2 rfl rfl) h2
  obtain ⟨a3, l3, c3, bs3, rfl, hb3, hc3, _⟩ := open_by (okWide_slice Tryz.underlying25 (hval 3 25 v3 rfl rfl)) h3
  obtain ⟨a4, l4, c4, bs4, rfl, hb4, hc4, _⟩ := open_by (okWide_slice Tryz.underlying25 (hval 4 25 v4 rfl rfl)) h4
  refine (stripeioApart_walk g0 n1 n2 hb3 hc3 hb4 hc4).mono fun e W' ⟨he, hg⟩ => ?_
  subst he
  exact ⟨_, rfl, post_true lawLaid rfl (by kernel_rfl) rfl Tryz.underlying4 hW' rfl hg.below⟩

/-- ████ THE STATEMENT ████ -/
theorem stripeioApart_holds : Rows.StripeioApartSaid :=
  OpenClaim.holds_of_wide 7 Tryz.f7 rfl rfl rfl rfl rfl rfl rfl ⟨rfl, rfl, rfl, rfl, rfl⟩ rfl rfl rfl rfl rfl (by kernel_rfl) Tryz.func7 (by kernel_rfl)
    (of_decide_eq_true (by kernel_rfl)) (by unfold Func.isWrapper; first | (rw [if_pos (by decide +kernel)]; kernel_rfl) | (rw [if_neg (by decide +kernel)]; exact ⟨rfl, rfl⟩))
    (fun os started H enc _ => stripeioApart_lifted os started H enc)
end Go.Proofs.YtkolafpgbhpdlaaGreat
