import Derived.Test.YtnfcfbljdibinaaMK
import Derived.Test.YtnfcfbljdibinaaRows
/- MetalogLasts returns true, whatever the geometry, the checkpoint, the records, the disk that is kept. No conditions. -/
namespace Go.Proofs.Ytnfcfbljdibinaa
open Go Go.Vc Go.ChangeShapes Go.WideShapes Go.ChangeAt Go.RowKit

set_option maxHeartbeats 8000000 in
theorem metalogLasts_walk (g : Geo) (area epoch : Int) {w : World} {p9 : Option Addr} {l9 c9 : Nat} {L : List ObV} (hL : ObsW w p9 l9 L) {p10 : Option Addr} {l10 c10 : Nat} {R : List RecK} (hR : RecsAt w p10 l10 R) (hl10 : l10 ≤ 9223372036854775807) (keep : Int) (b : Bool) :
    Calls Try.prog 7 #[gV g, .agg #[.int .i64 area, .int .i64 epoch, .slice p9 l9 c9], .slice p10 l10 c10, .int .i64 keep, .bool b] w fun e w' => e = .returned (.bool true) ∧ Ext w w' := by
  refine (F7_calls g.k g.m g.size g.stripes g.slots g.objects area epoch p9 l9 c9 p10 l10 c10 keep b w (fun v w' => v = .bool true ∧ Ext w w')
    (fun _ _ w43 n48 w49 => ∃ i : Nat, n48 = i ∧ i ≤ l10 ∧ Ext w43 w49 ∧ ∀ r ∈ R.take i, r.st.length ≤ 20) (fun _ _ _ n48 _ => (l10 : Nat) - n48.toNat)
    (fun q13 q15 p83 n84 _ n89 w90 => ∃ (i : Nat) (s : StA), n89 = i ∧ (i : Int) ≤ g.k + g.m ∧ n84 = ((keptF g.slots (R.take 20)).length : Int) ∧ OwnL w w90 q13 q15 p83 g area epoch p9 l9 c9 s ∧ svZ area epoch = 0 ∧ MayOk L ∧
      On keep i (5 + g.slots + g.stripes) (g.k + g.m).toNat (laidV area epoch L (keptF g.slots (R.take 20))) s) (fun _ _ _ _ _ n89 _ => 100 - n89.toNat) ?_).mono (by rintro e w' ⟨v, rfl, rfl, h⟩; exact ⟨rfl, h⟩)
  have t : ∀ {w' : World}, Ext w w' → Value.bool true = .bool true ∧ Ext w w' := fun h => ⟨rfl, h⟩
  have hlen := hR.1
  intro k13 w14 hk13 k15 w16 hk15
  have x16 := hk13.ext.trans hk15.ext
  have z16 := x16.size
  have r13 : RowW w16 k13 (gRow g) := hk15.ext.rowW ⟨_, hk13.at⟩ id
  have r15 : RowW w16 k15 (svRow area epoch p9 l9 c9) := ⟨_, hk15.at⟩
  have lt13 := r13.lt
  have lt15 := r15.lt
  refine (awakeM_spec w16).mono ?_
  rintro e w17 ⟨rfl, x17⟩
  have a13 : RowW w17 k13 (gRow g) := x17.rowW r13 id
  refine ⟨true, rfl, condB_f rfl ⟨_, a13.row.cell (n := 0) rfl, _, a13.row.cell rfl, _, a13.row.cell rfl, _, a13.row.cell rfl, _, a13.row.cell rfl, _, a13.row.cell rfl, (smallg_spec g w17).mono ?_⟩⟩
  rintro e w26 ⟨bs, rfl, hbs, x26⟩
  have y26 := x17.trans x26
  have b13 : RowW w26 k13 (gRow g) := y26.rowW r13 id
  refine ⟨_, rfl, condB_of (fun _ => t (x16.trans y26)) fun hs => ⟨_, b13.row.cell (n := 0) rfl, _, b13.row.cell rfl, _, b13.row.cell rfl, _, b13.row.cell rfl, _, b13.row.cell rfl, _, b13.row.cell rfl, (check_spec g w26).mono ?_⟩⟩
  simp only [Bool.not_eq_false'] at hs
  have hsm := hbs.1 hs
  rintro e w35 ⟨rfl, x35⟩
  have y35 := y26.trans x35
  have c13 : RowW w35 k13 (gRow g) := y35.rowW r13 id
  have c15 : RowW w35 k15 (svRow area epoch p9 l9 c9) := y35.rowW r15 id
  refine ⟨_, rfl, condB_of (fun _ => t (x16.trans y35)) fun hc => condB_of (fun _ => t (x16.trans y35)) fun hk0 => ⟨_, c13.row.cell rfl, _, c13.row.cell rfl, condB_of (fun _ => t (x16.trans y35)) fun hk1 => ?_⟩⟩
  simp only [Bool.not_eq_false', decide_eq_true_eq, decide_eq_false_iff_not] at hc hk0 hk1
  have hg : GeoOk g := by
    by_cases hg : GeoOk g
    · exact hg
    · unfold checkG at hc; rw [if_neg hg] at hc; cases hc
  obtain ⟨b1, b2, b3, b4, b5, b6⟩ := geo_bounds hg
  rw [w64 (n := g.k + g.m) (by omega)] at hk1
  have z35 := y35.size
  refine ⟨_, c15.row.cell (n := 0) rfl, _, c15.row.cell rfl, _, _, _, c15.row.cell rfl, (small18_spec 0 0 0 none 0 0 none 0 0 0 ⟨#[]⟩ 0 none 0 0 area epoch (hL.ext (x16.trans y35)) 0 0 0 0 0 none 0 0 none 0 0).mono ?_⟩
  rintro e w43 ⟨bo, rfl, hbo, x43⟩
  have y43 := y35.trans x43
  refine ⟨_, rfl, condB_of (fun _ => t (x16.trans y43)) fun ho => ?_⟩
  simp only [Bool.not_eq_false'] at ho
  obtain ⟨_, _, _, _, hl9, hso⟩ := hbo.1 ho
  have hLV : ObsV w p9 l9 L := hL.v fun o hx => (hso o hx).2
  refine ⟨⟨0, rfl, Nat.zero_le _, Upd.refl _ _, by simp⟩, ?_⟩
  rintro n48 w49 ⟨i, rfl, hi, x49, hsr⟩
  intros
  have y49 := y43.trans x49
  refine condB_of (fun hlt => ?_) (fun hge => ?_)
  · simp only [decide_eq_true_eq] at hlt
    obtain ⟨x, hx⟩ : ∃ x, R[i]? = some x := ⟨R[i]'(by omega), List.getElem?_eq_getElem _⟩
    obtain ⟨ar, qa, na, ca, rfl, a1, a2, a3, a4, a5, a6⟩ := (hR.ext (x16.trans y49)).2 i x hx
    rw [Int.toNat_natCast]
    refine ⟨⟨by omega, hlt⟩, _, a1, _, a2, _, a3, _, _, _, a4, (small18_spec 0 0 0 none 0 0 none 0 0 x.kind x.key x.len qa na ca 0 0 (p12 := none) (l12 := 0) (c12 := 0) (L := []) ⟨rfl, fun i o hi => by simp at hi⟩ 0 0 0 0 0 none 0 0 none 0 0).mono ?_⟩
    rintro e w69 ⟨br, rfl, hbr, x69⟩
    refine ⟨_, rfl, condB_of (fun _ => t (x16.trans (y49.trans x69))) fun hr => ?_⟩
    simp only [Bool.not_eq_false'] at hr
    obtain ⟨_, _, _, hl, _, _⟩ := hbr.1 hr
    have hna := a5.1
    rw [w64 (by omega)]
    refine ⟨⟨i + 1, by omega, by omega, x49.trans x69, fun o ho => ?_⟩, by show l10 - ((i : Int) + 1).toNat < l10 - (i : Int).toNat; omega⟩
    rw [List.take_add_one, hx] at ho
    rcases List.mem_append.1 ho with ho | ho
    · exact hsr o ho
    · simp at ho; subst ho; omega
  simp only [decide_eq_false_iff_not] at hge
  rw [List.take_of_length_le (by omega)] at hsr
  have d13 : RowW w49 k13 (gRow g) := y49.rowW r13 id
  have d15 : RowW w49 k15 (svRow area epoch p9 l9 c9) := y49.rowW r15 id
  refine ⟨_, d13.row.cell (n := 0) rfl, _, d13.row.cell rfl, _, d13.row.cell rfl, _, d13.row.cell rfl, _, d13.row.cell rfl, _, d13.row.cell rfl, _, d15.row.cell (n := 0) rfl, _, d15.row.cell rfl, _, _, _, d15.row.cell rfl, (laid_spec hg area epoch (hLV.ext (x16.trans y49)) (by omega) (hR.ext (x16.trans y49))).mono ?_⟩
  rintro e w81 (⟨_, rfl, x81⟩ | ⟨hsv, hmay, a, F, s0, rfl, x81, hF, h81, hal, hqu⟩)
  · exact ⟨_, _, rfl, condB_t rfl (t (x16.trans (y49.trans x81)))⟩
  have y81 := y49.trans x81
  have e13 : RowW w81 k13 (gRow g) := y81.rowW r13 id
  have e15 : RowW w81 k15 (svRow area epoch p9 l9 c9) := y81.rowW r15 id
  have z49 := y49.size
  have z81 := y81.size
  obtain ⟨ha, hE⟩ := svZ_ok hsv
  have hKl := keptF_len (slots := g.slots) (by omega) (R.take 20)
  have hKo := keptF_ok g.slots (R.take 20)
  have hKs : ∀ r ∈ keptF g.slots (R.take 20), r.st.length ≤ 1000 := fun r hr => Nat.le_trans (hsr r (List.mem_of_mem_take (keptF_sub _ _ r hr))) (by omega)
  have hKL := keptF_le g.slots (R.take 20)
  rw [List.length_take] at hKL
  refine ⟨_, _, rfl, condB_f rfl ⟨⟨0, s0, rfl, by omega, rfl, ⟨a, k13, k15, w16.heap.size, F, rfl, rfl, rfl, lt13, lt15, z16, z81, x16.trans y81, fun x hx => Nat.le_trans z49 (hF x hx), e13, e15, h81⟩, hsv, hmay, hal.on hqu keep⟩, ?_⟩⟩
  clear h81 hal hqu hF x81 y81 e13 e15 z49 z81
  rintro n89 w90 ⟨i, s, rfl, hi, _, ⟨a', k13', k15', B, F', hq1, hq2, hq3, kb13, kb15, hB, hB', x90, hF', f13, f15, h90⟩, _, _, hon⟩
  cases hq1; cases hq2; cases hq3
  intros
  refine ⟨_, f13.row.cell rfl, _, f13.row.cell rfl, ?_⟩
  rw [w64 (n := g.k + g.m) (by omega)]
  have mu : 100 - (IntKind.i64.wrap ((i : Int) + 1)).toNat < 100 - (i : Int).toNat := by rw [w64 (by omega)]; omega
  have wr : IntKind.i64.wrap ((i : Int) + 1) = ((i + 1 : Nat) : Int) := by rw [w64 (by omega)]; omega
  have step : ∀ {F1 : Nat → Prop} {w1 : World} {s1 : StA}, Step F' F1 w90 w1 → IsA w1 a s1 F1 → OwnL w w1 (some (at0 k13)) (some (at0 k15)) (some (at0 a)) g area epoch p9 l9 c9 s1 := fun {F1 w1 s1} st h1 =>
    ⟨a, k13, k15, B, F1, rfl, rfl, rfl, kb13, kb15, hB, Nat.le_trans hB' st.upd.size, (ext_stepA x90 st fun x hx => Nat.le_trans hB (hF' x hx)).1, fun x hx => (st.grow x hx).elim (hF' x) fun h => Nat.le_trans hB' h,
      st.upd.rowW f13 (fun hf => by have := hF' _ hf; omega), st.upd.rowW f15 (fun hf => by have := hF' _ hf; omega), h1⟩
  refine condB_of (fun hlt => condB_of (fun hne => ?_) fun heq => ?_) fun hge2 => ?_
  · simp only [decide_eq_true_eq, Bool.not_eq_true', decide_eq_false_iff_not] at hlt hne
    refine (fail_any h90 (i : Int)).mono ?_
    rintro e w112 ⟨F112, z, rfl, st112, h112⟩
    have on1 := On.gone (s := s) (.inl rfl) hne (.inl hon)
    refine ⟨_, rfl, condB_of (fun _ => ?_) fun _ => ?_⟩
    · refine (replace_any h112 (i : Int)).mono ?_
      rintro e w115 ⟨F115, z2, rfl, st115, h115⟩
      have on2 := On.gone (.inr rfl) hne (.inr on1)
      exact ⟨_, rfl, ⟨i + 1, _, wr, by omega, rfl, step (st112.trans st115) h115, hsv, hmay, on2⟩, mu⟩
    · exact ⟨⟨i + 1, _, wr, by omega, rfl, step st112 h112, hsv, hmay, on1⟩, mu⟩
  · simp only [decide_eq_true_eq, Bool.not_eq_false'] at hlt heq
    exact ⟨⟨i + 1, s, wr, by omega, rfl, ⟨a, k13, k15, B, F', rfl, rfl, rfl, kb13, kb15, hB, hB', x90, hF', f13, f15, h90⟩, hsv, hmay, hon.skip heq⟩, mu⟩
  simp only [decide_eq_false_iff_not] at hge2
  have hin : i = (g.k + g.m).toNat := by omega
  subst hin
  have oks : OkA s := ⟨by rw [hon.len]; omega, by rw [hon.left]; exact Int.le_refl _, by rw [hon.left]; decide⟩
  refine (restart_any (w0 := w) h90 oks x90 (fun x hx => Nat.le_trans hB (hF' x hx)) (KS := []) ⟨rfl, fun i ks hi => by simp at hi⟩ (fun ks hks => by cases hks)).mono ?_
  rintro e w118 ⟨F118, rfl, st118, h118⟩
  have on2 := hon.crash []
  have f13' : RowW w118 k13 (gRow g) := st118.upd.rowW f13 (fun hf => by have := hF' _ hf; omega)
  have f15' : RowW w118 k15 (svRow area epoch p9 l9 c9) := st118.upd.rowW f15 (fun hf => by have := hF' _ hf; omega)
  have x118 := (ext_stepA x90 st118 fun x hx => Nat.le_trans hB (hF' x hx)).1
  generalize hs2 : (⟨crashM [] s.M.length s.M, -1, false⟩ : StA) = s2 at h118 on2
  have ok2 : OkA s2 := ⟨by rw [on2.len]; omega, by rw [on2.left]; exact Int.le_refl _, by rw [on2.left]; decide⟩
  have one2 : 1 ≤ s2.M.length := by rw [on2.len]; omega
  obtain ⟨whole, broken, jou⟩ := on2.told (by omega) hg ha hE hmay hKl hKo
  refine ⟨rfl, (mknows_spec h118 ok2 one2).mono ?_⟩
  rintro e w120 ⟨x120, _, hkn⟩
  obtain ⟨p122, c122, rfl, own122⟩ := hkn on2.down
  have g13 : RowW w120 k13 (gRow g) := x120.rowW f13' id
  have bools : BoolsAt w120 p122 s2.M.length (s2.M.map knowB) := ⟨by simp, own122.cells⟩
  refine ⟨_, _, _, _, rfl, _, g13.row.cell (n := 0) rfl, _, g13.row.cell rfl, _, g13.row.cell rfl, _, g13.row.cell rfl, _, g13.row.cell rfl, _, g13.row.cell rfl, (mlatest_spec (IsArr.ext h118 x120) ok2 one2 g bools).mono ?_⟩
  rintro e w130 ⟨v130, rfl, x130, _, hlat⟩
  obtain ⟨A, hA, _, hlat⟩ := (hlat (checkG_ok hg)).2 on2.down
  have hone := lat_one hA ha whole broken
  rw [hone] at hlat
  obtain ⟨p134, c134, rows134, rfl, own134, rob134⟩ := hlat rfl
  refine ⟨_, _, _, _, _, _, rfl, fun k136 w137 hk136 => ?_⟩
  have s136 := hk136.size
  refine fill3 (e := 37) (v0 := .int .i64 area) (v1 := .int .i64 epoch) (v2 := .slice p134 L.length c134) hk136.at fun w140 u140 r140 => ?_
  have x130140 : Ext w130 w140 := upd_new hk136.ext u140 (by omega)
  have y140 : Ext w118 w140 := (x120.trans x130).trans x130140
  have i13 : RowW w140 k13 (gRow g) := y140.rowW f13' id
  have i15 : RowW w140 k15 (svRow area epoch p9 l9 c9) := y140.rowW f15' id
  refine ⟨_, i13.row.cell (n := 0) rfl, _, i13.row.cell rfl, _, i13.row.cell rfl, _, i13.row.cell rfl, _, i13.row.cell rfl, _, i13.row.cell rfl, _, i15.row.cell rfl, (mreplay_spec (IsArr.ext h118 y140) ok2 one2 g (bools.ext (x130.trans x130140)) epoch).mono ?_⟩
  rintro e w148 ⟨v148, rfl, x148, _, hrep⟩
  have hpre : preR (some (at0 0)) g epoch = 0 := by
    unfold preR mcheckZ okB
    rw [checkG_ok hg, if_pos hE]
    rfl
  obtain ⟨RL, hRL, hcase⟩ := (hrep hpre).2 on2.down
  have key : RL = (keptF g.slots (R.take 20)).map (·.v) ∧ ((RL.length : Int) < g.slots → wit (s2.M.map knowB) (saysM (slotZ g (RL.length : Int)) s2.M) = true) := by
    rcases hcase with ⟨h1, _⟩ | ⟨h1, h2, _⟩
    · rcases h1 with h1 | ⟨h1, h2, _⟩
      · exact jou.told hRL (by omega) (.inl h1)
      · exact jou.told hRL (by omega) (.inr h2)
    · exact jou.told hRL (by omega) (.inr h2)
  obtain ⟨rfl, hw⟩ := key
  rcases hcase with ⟨_, p150, c150, rows150, rfl, own150, rrc150⟩ | ⟨h1, _, h3, _⟩
  rotate_left
  · rw [hw h1] at h3; cases h3
  have y148 : Ext w118 w148 := y140.trans x148
  have j13 : RowW w148 k13 (gRow g) := y148.rowW f13' id
  have x148' := x118.trans y148
  refine ⟨_, _, _, _, rfl, _, j13.row.cell (n := 0) rfl, _, j13.row.cell rfl, _, j13.row.cell rfl, _, j13.row.cell rfl, _, j13.row.cell rfl, _, j13.row.cell rfl, (kept_spec g (hR.ext x148')).mono ?_⟩
  rintro e w158 ⟨p160, l160, c160, rfl, hk160, x158, _⟩
  have x130158 := x130140.trans (x148.trans x158)
  have r158 : RowT 37 w158 k136 _ := r140.upd (x148.trans x158) id
  have y158 : Ext w118 w158 := y148.trans x158
  have l15 : RowW w158 k15 (svRow area epoch p9 l9 c9) := y158.rowW f15' id
  refine ⟨_, _, _, rfl, _, _, _, r158.row.row.cell rfl, _, _, _, l15.row.cell rfl, (objects_spec ((rob134.ext x130158).obs (own134.ext x130158)).w (hL.ext (x118.trans y158)) (show L.length ≤ 1000 by have := hL.1; omega) (fun o ho => Nat.le_trans (hso o ho).2 (by omega))).mono ?_⟩
  rintro e w163 ⟨b165, rfl, hb165, x163⟩
  refine ⟨_, rfl, (records_spec (A := keptF g.slots (R.take 20)) (((rrc150.ext (x158.trans x163)).recs (own150.ext (x158.trans x163)))) (hk160.ext x163) (by rw [List.length_map]; omega) hKs).mono ?_⟩
  rintro e w166 ⟨b168, rfl, hb168, x166⟩
  have m15 : RowW w166 k15 (svRow area epoch p9 l9 c9) := (x163.trans x166).rowW l15 id
  have m136 : RowT 37 w166 k136 _ := r158.upd (x163.trans x166) id
  refine ⟨_, rfl, condB_t rfl (condB_t rfl (condB_t rfl (condB_t (hb165.2 rfl) ⟨_, m136.row.row.cell rfl, _, m15.row.cell rfl, condB_t (by simp) ⟨_, m136.row.row.cell rfl, _, m15.row.cell rfl, condB_t (by simp) (condB_t (hb168.2 rfl) ⟨?_, (x118.trans y158).trans (x163.trans x166)⟩)⟩⟩)))⟩
  rw [decide_eq_true]
  have := hk160.1
  omega
set_option maxRecDepth 100000 in
theorem metalogLasts_lifted (os : Os) (started : os.Started) (H : Type) (enc : TypeId × Value → H) :
    ReturnsInHanded {} Try.checked os 7 .any (Rows.metalogLastsSpec.pre6 enc Try.prog Try.f7 Rows.metalogLastsRow.domain false) (Rows.metalogLastsSpec.post enc Try.prog Try.f7 false true false false) := by
  refine returnsInHanded_of_change (C := Try.checked) lawOwn started (by kernel_rfl) Try.func7
    (ChangeSpec.witness6 (enc := enc) (C := Try.checked) false ⟨#[], #[.agg #[.int .i64 0, .int .i64 0, .int .i64 0, .int .i64 0, .int .i64 0, .int .i64 0], .agg #[.int .i64 0, .int .i64 0, .slice none 0 0], .slice none 0 0, .int .i64 0, .bool false], []⟩ 8 (by kernel_rfl) (by kernel_rfl) (by kernel_rfl) (by kernel_rfl)) ?_
  intro W base args ds gs before hval0 hW hcnd _
  have hval : ∀ (j : Nat) t v, Try.f7.params[j]? = some t → args[j]? = some v → Value.okWide Try.prog W .any base t v := hval0
  have hW' := hW
  obtain ⟨p, q, hA0, hV, rfl, hfz, hnd⟩ := hW
  have hA : DataW.TrodAll enc Try.prog W 0 (fun _ => true) true Try.f7.params.toList args.toList ds p := hA0
  rw [Try.params7] at hA hval
  obtain ⟨v0, vs0, d0, ds0, p0, q0, hargs, rfl, rfl, h0, r0⟩ := trodAll_cons hA
  obtain ⟨v1, vs1, d1, ds1, p1, q1, rfl, rfl, rfl, h1, r1⟩ := trodAll_cons r0
  obtain ⟨v2, vs2, d2, ds2, p2, q2, rfl, rfl, rfl, h2, r2⟩ := trodAll_cons r1
  obtain ⟨v3, vs3, d3, ds3, p3, q3, rfl, rfl, rfl, h3, r3⟩ := trodAll_cons r2
  obtain ⟨v4, vs4, d4, ds4, p4, q4, rfl, rfl, rfl, h4, r4⟩ := trodAll_cons r3
  obtain ⟨rfl, rfl, rfl⟩ := trodAll_nil r4
  obtain rfl : args = #[v0, v1, v2, v3, v4] := by cases args; simp_all
  obtain ⟨rfl, rfl⟩ := trodVars_none hV
  obtain ⟨g0, rfl⟩ := open_geo (okWide_struct Try.underlying24 (hval 0 24 v0 rfl rfl)) h0
  obtain ⟨sa1, se1, sp1, sl1, sc1, sL1, rfl, hs1⟩ := open_saved (okWide_struct Try.underlying37 (hval 1 37 v1 rfl rfl)) h1
  obtain ⟨a2, l2, c2, L2, rfl, hL2, hl2⟩ := open_recs (okWide_slice Try.underlying32 (hval 2 32 v2 rfl rfl)) h2
  obtain ⟨n3, rfl, rfl, rfl, wn3⟩ := open_int Try.underlying3 (hval 3 3 v3 rfl rfl) h3
  obtain ⟨b4, rfl⟩ := okWide_bool Try.underlying4 (hval 4 4 v4 rfl rfl)
  refine (metalogLasts_walk g0 sa1 se1 hs1 hL2 hl2 n3 b4).mono fun e W' ⟨he, hg⟩ => ?_
  subst he
  exact ⟨_, rfl, post_true lawLaid rfl (by kernel_rfl) rfl Try.underlying4 hW' rfl hg.below⟩

/-- ████ THE STATEMENT ████ -/
theorem metalogLasts_holds : Rows.MetalogLastsSaid :=
  OpenClaim.holds_of_wide 7 Try.f7 rfl rfl rfl rfl rfl rfl rfl ⟨rfl, rfl, rfl, rfl, rfl⟩ rfl rfl rfl rfl rfl (by kernel_rfl) Try.func7 (by kernel_rfl)
    (of_decide_eq_true (by kernel_rfl)) (by unfold Func.isWrapper; first | (rw [if_pos (by decide +kernel)]; kernel_rfl) | (rw [if_neg (by decide +kernel)]; exact ⟨rfl, rfl⟩))
    (fun os started H enc _ => metalogLasts_lifted os started H enc)
end Go.Proofs.Ytnfcfbljdibinaa
