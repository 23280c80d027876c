import Derived.Test.YtkolafpgbhpdlaaGreatMT
import Derived.Test.YtkolafpgbhpdlaaGreatRows
/- StripeioNil returns true, whatever the geometry, the number and the data. No conditions. -/
namespace Go.Proofs.YtkolafpgbhpdlaaGreat
open Go Go.Vc Go.Gf Go.ChangeShapes Go.WideShapes Go.ChangeAt Go.RowKit

set_option maxRecDepth 20000 in
set_option maxHeartbeats 1000000 in
theorem swrite_none {pa pf : Option Addr} (h : pa = none ∨ pf = none) (g : Geo) (i e : Int) (p : Option Addr) (l c : Nat) (w : World) :
    Calls Tryz.prog 14 #[.pointer pa, .pointer pf, gV g, .int .i64 i, .int .i64 e, .slice p l c] w fun e' w' => e' = .returned (.int .i64 1) ∧ Ext w w' := by
  refine (F14_calls pa pf g.k g.m g.size g.stripes g.slots g.objects i e p l c w (fun v w' => v = .int .i64 1 ∧ Ext w w') (fun _ _ => False) (fun _ _ _ _ _ _ _ _ _ => False) (fun _ _ _ _ _ _ _ _ _ => 0) ?_ (fun _ _ hh => hh.elim)).mono (by rintro e w' ⟨v, rfl, rfl, h⟩; exact ⟨rfl, h⟩)
  intro k12 w13 h12
  have r12 : RowW w13 k12 (gC g) := ⟨_, h12.at⟩
  refine ⟨_, r12.row.cell (n := 0) rfl, _, r12.row.cell rfl, _, r12.row.cell rfl, _, r12.row.cell rfl, _, r12.row.cell rfl, _, r12.row.cell rfl, fun k20 w21 h20 => new_line (pa := pa) (pf := pf) (g := g) (i := i) (e := e) h20 fun w31 r31 x31 => ?_⟩
  have y31 := h12.ext.trans x31
  refine ⟨_, r31.row.cell (n := 0) rfl, _, r31.row.cell rfl, _, r31.row.cell rfl, _, r31.row.cell rfl, _, r31.row.cell rfl, _, r31.row.cell rfl, _, r31.row.cell rfl, _, r31.row.cell rfl, _, r31.row.cell rfl, _, r31.row.cell rfl, (scheck_spec pa pf g i e w31).mono ?_⟩
  rintro e' w42 ⟨rfl, x42⟩
  rw [lineZ_none g i e h]
  refine ⟨_, rfl, condB_of (fun _ => fun k52 w53 h52 => ?_) fun h => by simp at h⟩
  refine (sfirst_spec (L := [1, 1]) (ints_new (L := [1, 1]) (w' := w53) ⟨_, h52.at⟩ rfl) (by simp)).mono ?_
  rintro e w54 ⟨rfl, rfl⟩
  exact ⟨_, rfl, rfl, (y31.trans x42).trans h52.ext⟩

set_option maxRecDepth 20000 in
set_option maxHeartbeats 4000000 in
theorem stripeioNil_walk (g : Geo) (n : Int) {w : World} {p : Option Addr} {l c : Nat} {bs : List UInt8} (_hb : BytesAt w p l bs) :
    Calls Tryz.prog 4 #[gV g, .int .i64 n, .slice p l c] w fun e w' => e = .returned (.bool true) ∧ Ext w w' := by
  refine (F4_calls g.k g.m g.size g.stripes g.slots g.objects n p l c w (fun v w' => v = .bool true ∧ Ext w w') ?_).mono (by rintro e w' ⟨v, rfl, rfl, h⟩; exact ⟨rfl, h⟩)
  intro k9 w10 h9
  refine (sawake_spec w10).mono ?_
  rintro e w11 ⟨rfl, x11⟩
  refine ⟨_, rfl, (anew_good (n := 2) (s := 9) (by omega) (by omega) w11).mono ?_⟩
  rintro e w14 ⟨a, F, rfl, x14, hA, hFn⟩
  refine ⟨_, _, rfl, fun w18 hd18 => ?_⟩
  have x18 := (h9.ext.trans x11).trans (x14.trans hd18.ext)
  have r18 : RowW w18 k9 (gC g) := ((x11.trans x14).trans hd18.ext).rowW ⟨_, h9.at⟩ id
  refine ⟨_, r18.row.cell (n := 0) rfl, _, r18.row.cell rfl, _, r18.row.cell rfl, _, r18.row.cell rfl, _, r18.row.cell rfl, _, r18.row.cell rfl, (fnew_spec w18).mono ?_⟩
  rintro e w25 ⟨kf, rfl, x25, _, hf⟩
  have r25 : RowW w25 k9 (gC g) := x25.rowW r18 id
  refine ⟨_, rfl, ⟨_, r25.row.cell (n := 0) rfl, _, r25.row.cell rfl, _, r25.row.cell rfl, _, r25.row.cell rfl, _, r25.row.cell rfl, _, r25.row.cell rfl, rfl⟩, (sread_none (pf := some (at0 kf)) (.inl rfl) g n n w25).mono ?_⟩
  rintro e w34 ⟨rfl, x34⟩
  have r34 : RowW w34 k9 (gC g) := x34.rowW r25 id
  refine ⟨_, _, _, _, _, _, _, rfl, _, r34.row.cell (n := 0) rfl, _, r34.row.cell rfl, _, r34.row.cell rfl, _, r34.row.cell rfl, _, r34.row.cell rfl, _, r34.row.cell rfl, (sread_none (pa := some (at0 a)) (pf := none) (.inr rfl) g n n w34).mono ?_⟩
  rintro e w45 ⟨rfl, x45⟩
  have r45 : RowW w45 k9 (gC g) := x45.rowW r34 id
  refine ⟨_, _, _, _, _, _, _, rfl, _, r45.row.cell (n := 0) rfl, _, r45.row.cell rfl, _, r45.row.cell rfl, _, r45.row.cell rfl, _, r45.row.cell rfl, _, r45.row.cell rfl, (sfix_none (pa := none) (pf := none) (.inr rfl) g n n w45).mono ?_⟩
  rintro e w56 ⟨rfl, x56⟩
  have r56 : RowW w56 k9 (gC g) := x56.rowW r45 id
  refine ⟨_, _, rfl, condB_of (fun _ => ?_) (fun h => by simp at h)⟩
  refine condB_of (fun _ => ?_) (fun h => by simp at h)
  refine condB_of (fun _ => ?_) (fun h => by simp at h)
  refine condB_of (fun _ => ?_) (fun h => by simp at h)
  refine condB_of (fun _ => ?_) (fun h => by simp at h)
  refine condB_of (fun _ => ?_) (fun h => by simp at h)
  refine condB_of (fun _ => ?_) (fun h => by simp at h)
  refine condB_of (fun _ => ?_) (fun h => by simp at h)
  refine condB_of (fun _ => ?_) (fun h => by simp at h)
  refine ⟨_, r56.row.cell (n := 0) rfl, _, r56.row.cell rfl, _, r56.row.cell rfl, _, r56.row.cell rfl, _, r56.row.cell rfl, _, r56.row.cell rfl, (swrite_none (pa := none) (pf := none) (.inr rfl) g n n p l c w56).mono ?_⟩
  rintro e w66 ⟨rfl, x66⟩
  exact ⟨_, rfl, rfl, x18.trans (x25.trans (x34.trans (x45.trans (x56.trans x66))))⟩
set_option maxRecDepth 100000 in
theorem stripeioNil_lifted (os : Os) (started : os.Started) (H : Type) (enc : TypeId × Value → H) :
    ReturnsInHanded {} Tryz.checked os 4 .any (Rows.stripeioNilSpec.pre6 enc Tryz.prog Tryz.f4 Rows.stripeioNilRow.domain false) (Rows.stripeioNilSpec.post enc Tryz.prog Tryz.f4 false true false false) := by
  refine returnsInHanded_of_change (C := Tryz.checked) lawOwn started (by kernel_rfl) Tryz.func4
    (ChangeSpec.witness6 (enc := enc) (C := Tryz.checked) false ⟨#[], #[.agg #[.int .i64 0, .int .i64 0, .int .i64 0, .int .i64 0, .int .i64 0, .int .i64 0], .int .i64 0, .slice none 0 0], []⟩ 8 (by kernel_rfl) (by kernel_rfl) (by kernel_rfl) (by kernel_rfl)) ?_
  intro W base args ds gs before hval0 hW hcnd _
  have hval : ∀ (j : Nat) t v, Tryz.f4.params[j]? = some t → args[j]? = some v → Value.okWide Tryz.prog W .any base t v := hval0
  have hW' := hW
  obtain ⟨p, q, hA0, hV, rfl, hfz, hnd⟩ := hW
  have hA : DataW.TrodAll enc Tryz.prog W 0 (fun _ => true) true Tryz.f4.params.toList args.toList ds p := hA0
  rw [Tryz.params4] at hA hval
  obtain ⟨v0, vs0, d0, ds0, p0, q0, hargs, rfl, rfl, h0, r0⟩ := trodAll_cons hA
  obtain ⟨v1, vs1, d1, ds1, p1, q1, rfl, rfl, rfl, h1, r1⟩ := trodAll_cons r0
  obtain ⟨v2, vs2, d2, ds2, p2, q2, rfl, rfl, rfl, h2, r2⟩ := trodAll_cons r1
  obtain ⟨rfl, rfl, rfl⟩ := trodAll_nil r2
  obtain rfl : args = #[v0, v1, v2] := by cases args; simp_all
  obtain ⟨rfl, rfl⟩ := trodVars_none hV
  obtain ⟨g0, rfl⟩ := open_geo (okWide_struct Tryz.underlying24 (hval 0 24 v0 rfl rfl)) h0
  obtain ⟨n1, rfl, rfl, rfl, wn1⟩ := open_int Tryz.underlying3 (hval 1 3 v1 rfl rfl) h1
  obtain ⟨a2, l2, c2, bs2, rfl, hb2, _, _⟩ := open_by (okWide_slice Tryz.underlying25 (hval 2 25 v2 rfl rfl)) h2
  refine (stripeioNil_walk g0 n1 hb2).mono fun e W' ⟨he, hg⟩ => ?_
  subst he
  exact ⟨_, rfl, post_true lawLaid rfl (by kernel_rfl) rfl Tryz.underlying4 hW' rfl hg.below⟩

/-- ████ THE STATEMENT ████ -/
theorem stripeioNil_holds : Rows.StripeioNilSaid :=
  OpenClaim.holds_of_wide 4 Tryz.f4 rfl rfl rfl rfl rfl rfl rfl ⟨rfl, rfl, rfl, rfl, rfl⟩ rfl rfl rfl rfl rfl (by kernel_rfl) Tryz.func4 (by kernel_rfl)
    (of_decide_eq_true (by kernel_rfl)) (by unfold Func.isWrapper; first | (rw [if_pos (by decide +kernel)]; kernel_rfl) | (rw [if_neg (by decide +kernel)]; exact ⟨rfl, rfl⟩))
    (fun os started H enc _ => stripeioNil_lifted os started H enc)
end Go.Proofs.YtkolafpgbhpdlaaGreat
