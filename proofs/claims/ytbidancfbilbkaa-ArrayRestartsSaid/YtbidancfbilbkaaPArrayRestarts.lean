/- ArrayRestarts returns true, whatever the script and what is kept. No conditions. -/
import Derived.Test.YtbidancfbilbkaaA13
import Derived.Test.YtbidancfbilbkaaRows
namespace Go.Proofs.Ytbidancfbilbkaa
open Go Go.Vc Go.ChangeShapes Go.WideShapes Go.ChangeAt Go.RowKit

set_option maxHeartbeats 4000000 in
theorem arrayRestarts_walk {w : World} {p1 : Option Addr} {l1 c1 : Nat} {L : List CallA} (hL : CallsAAt w p1 l1 L) {p2 : Option Addr} {l2 c2 : Nat} {KS : List (List Int)}
    (hK : l2 = List.length KS ∧ ∀ (i : Nat) (ks : List Int), KS[i]? = some ks → ∃ a q n c, p2 = some a ∧ w.cell? (a.add (i * 1)) = some (.slice q n c) ∧ IntsAt w q n ks) :
    Calls Try.prog 8 #[.slice p1 l1 c1, .slice p2 l2 c2] w fun e w' => e = .returned (.bool true) ∧ Ext w w' := by
  have hlen : (doneA (begA 4 8) (L.take 50)).M.length = 4 := doneA_len _ _
  generalize hs : doneA (begA 4 8) (L.take 50) = s at hlen
  refine (F8_calls p1 l1 c1 p2 l2 c2 w (fun v w' => v = .bool true ∧ Ext w w')
    (fun _ _ _ _ _ _ _ _ w18 p29 l29 c29 p30 l30 c30 n31 w32 => ∃ i : Nat, n31 = i ∧ i ≤ 4 ∧ Ext w18 w32 ∧ Two w32 w18.heap.size p29 l29 c29 p30 l30 c30 ((s.M.take i).map fun m => m.d.lasts) ((s.M.take i).map fun m => m.d.waits))
    (fun _ _ _ _ _ _ _ _ _ _ _ _ _ _ _ n31 _ => 4 - n31.toNat)
    (fun _ _ _ _ _ _ _ _ w77 n88 w89 => ∃ i : Nat, n88 = i ∧ i ≤ 4 ∧ Ext w77 w89) (fun _ _ _ _ _ _ _ _ _ n88 _ => 4 - n88.toNat)
    (fun _ p8 _ n138 w139 => ∃ (i a : Nat) (F : Nat → Prop) (M : List Mem), n138 = i ∧ i ≤ 20 ∧ p8 = some (at0 a) ∧ Ext w w139 ∧ (∀ x, F x → w.heap.size ≤ x) ∧ M.length = 4 ∧ IsArr w139 a M (-1) false F) (fun _ _ _ n138 _ => 20 - n138.toNat) ?_).mono (by rintro e w' ⟨v, rfl, rfl, h⟩; exact ⟨rfl, h⟩)
  refine (awake_spec w).mono ?_
  rintro e w3 ⟨rfl, x3⟩
  refine ⟨true, rfl, ?_⟩
  refine (anew_good (n := 4) (s := 8) ⟨by omega, by omega⟩ ⟨by omega, by omega⟩ w3).mono ?_
  rintro e w6 ⟨a, F, rfl, x6, h6, hF⟩
  replace hF : ∀ x, F x → w.heap.size ≤ x := fun x hx => Nat.le_trans x3.size (hF x hx)
  have y6 := x3.trans x6
  refine ⟨_, _, rfl, condB_of (fun h => by simp at h) fun _ => condB_of (fun h => by simp at h) fun _ => ?_⟩
  have hK6 : l2 = List.length KS ∧ ∀ (i : Nat) (ks : List Int), KS[i]? = some ks → ∃ a q n c, p2 = some a ∧ w6.cell? (a.add (i * 1)) = some (.slice q n c) ∧ IntsAt w6 q n ks :=
    ⟨hK.1, fun i ks hi => by
      obtain ⟨a, q, n, c, g1, g2, g3⟩ := hK.2 i ks hi
      exact ⟨a, q, n, c, g1, cellx g2 y6, g3.1, g3.2.ext y6⟩⟩
  refine (smallA_spec (w := w6) 0 0 0 0 0 (p5 := none) (l5 := 0) (c5 := 0) hK6).mono ?_
  rintro e w10 ⟨rfl, x10⟩
  have y10 := y6.trans x10
  refine ⟨_, rfl, condB_of (fun _ => ⟨rfl, y10⟩) fun hsm => ?_⟩
  simp only [Bool.not_eq_false', decide_eq_true_eq] at hsm
  have h10 : IsA w10 a (begA 4 8) F := IsArr.ext h6 x10
  refine (doneA_spec (w0 := w) h10 (begA_ok (by omega)) y10 hF (hL.two y10) (fun ap hap hne hf => by have := calls_block hL hap hne; have := hF _ hf; omega)).mono ?_
  rintro e w13 ⟨rfl, F13, s13, h13, ho13⟩
  rw [hs] at h13 ho13
  obtain ⟨y13, hF13⟩ := ext_stepA y10 s13 hF
  refine ⟨rfl, (births_spec h13 (by omega)).mono ?_⟩
  rintro e w15 ⟨p17, l17, c17, rfl, x15, hl17, own17⟩
  refine ⟨_, _, _, rfl, (live_spec (IsArr.ext h13 x15) (by omega)).mono ?_⟩
  rintro e w18 ⟨p20, l20, c20, rfl, x18, hl20, own20⟩
  have h18 : IsA w18 a s F13 := IsArr.ext (IsArr.ext h13 x15) x18
  have y18 := (y13.trans x15).trans x18
  refine ⟨_, _, _, rfl, ⟨0, rfl, by omega, Upd.refl _ _, Two.nil _ _⟩, ?_⟩
  rintro p29 l29 c29 p30 l30 c30 n31 w32 ⟨i, rfl, hi, x32, t32⟩
  intros
  have e29 := t32.one.length
  have e30 := t32.two.length
  simp only [List.length_map, List.length_take] at e29 e30
  refine condB_of (fun hlt => ?_) (fun hge => ?_)
  · simp only [decide_eq_true_eq] at hlt
    obtain ⟨m, hm⟩ : ∃ m, s.M[i]? = some m := ⟨s.M[i]'(by omega), List.getElem?_eq_getElem _⟩
    refine (alasts_spec (IsArr.ext h18 x32) hm).mono ?_
    rintro e w49 ⟨p51, l51, c51, rfl, x49, held⟩
    refine ⟨_, _, _, rfl, fun k52 w53 hk52 => ?_⟩
    obtain ⟨p55, c55, w54, hr, t54, k54⟩ := (t32.ext x49).app1 (by omega) (x32.trans x49).size (held.base_le x32.size) hk52
    have x54 : Ext w18 w54 := k54 w18 (x32.trans x49) (Nat.le_refl _)
    refine ⟨p55, l29 + 1, c55, w54, hr, ?_⟩
    refine (awaits_spec (IsArr.ext h18 x54) hm).mono ?_
    rintro e w56 ⟨p58, l58, c58, rfl, x56, held2⟩
    refine ⟨_, _, _, rfl, fun k59 w60 hk59 => ?_⟩
    obtain ⟨p62, c62, w61, hr2, t61, k61⟩ := (t54.ext x56).app2 (by omega) (x54.trans x56).size (held2.base_le x54.size) hk59
    have x61 : Ext w18 w61 := k61 w18 (x54.trans x56) (Nat.le_refl _)
    refine ⟨p62, l30 + 1, c62, w61, hr2, ?_⟩
    rw [w64 (by omega)]
    refine ⟨⟨i + 1, by omega, by omega, x61, ?_⟩, by show 4 - ((i : Int) + 1).toNat < 4 - (i : Int).toNat; omega⟩
    rw [List.take_add_one, hm, List.map_append, List.map_append]
    exact t61
  simp only [decide_eq_false_iff_not] at hge
  have hi4 : i = 4 := by omega
  subst hi4
  have etake : s.M.take 4 = s.M := List.take_of_length_le (by omega)
  rw [etake] at t32
  have h32 : IsA w32 a s F13 := IsArr.ext h18 x32
  refine (restart_any (w0 := w) h32 ho13 (y18.trans x32) hF13 hK hsm.2.2).mono ?_
  rintro e w63 ⟨F63, rfl, s63, h63⟩
  have hlt13 := h13.lt
  have big : ∀ y, w13.heap.size ≤ y → ¬ F13 y := fun y hy hf => by have := hlt13 y hf; omega
  have t63 := t32.upd s63.upd fun y hy _ => big y (by have := x15.size; have := x18.size; omega)
  have o17 := (((own17.ext x18).ext x32).upd s63.upd fun g hg => big g (own_in own17 hg).1)
  have o20 := ((own20.ext x32).upd s63.upd fun g hg => big g (Nat.le_trans x15.size (own_in own20 hg).1))
  obtain ⟨y63, hF63⟩ := ext_stepA (y18.trans x32) s63 hF13
  have hl63 : (crashM KS s.M.length s.M).length = 4 := by rw [crashM_len]; exact hlen
  refine ⟨rfl, (births_spec h63 (Nat.le_trans (Nat.le_of_eq hl63) (by omega))).mono ?_⟩
  rintro e w65 ⟨p67, l67, c67, rfl, x65, hl67, own67⟩
  have hl67' : l67 = 4 := hl67.trans hl63
  have em : ∀ M : List Mem, (M.map fun m => Value.int .i64 m.births) = (M.map (·.births)).map (.int .i64) := fun M => by rw [List.map_map]; rfl
  have el : ∀ M : List Mem, (M.map fun m => Value.bool (!m.d.dead)) = (M.map fun m => !m.d.dead).map .bool := fun M => by rw [List.map_map]; rfl
  refine ⟨_, _, _, rfl, (intsq_spec (A := (crashM KS s.M.length s.M).map (·.births)) (B := s.M.map (·.births)) ⟨by rw [List.length_map]; exact hl67, by have := own67.cells; rw [em] at this; exact this⟩
    ⟨by rw [List.length_map]; exact hl17, by have := (o17.ext x65).cells; rw [em] at this; exact this⟩ (by omega)).mono ?_⟩
  rintro e w68 ⟨rfl, x68⟩
  refine ⟨_, rfl, (live_spec (IsArr.ext (IsArr.ext h63 x65) x68) (Nat.le_trans (Nat.le_of_eq hl63) (by omega))).mono ?_⟩
  rintro e w71 ⟨p73, l73, c73, rfl, x71, hl73, own73⟩
  have hl73' : l73 = 4 := hl73.trans hl63
  have x6371 := (x65.trans x68).trans x71
  refine ⟨_, _, _, rfl, (bools_spec (A := (crashM KS s.M.length s.M).map fun m => !m.d.dead) (B := s.M.map fun m => !m.d.dead) ⟨by rw [List.length_map]; exact hl73, by have := own73.cells; rw [el] at this; exact this⟩
    ⟨by rw [List.length_map]; exact hl20, by have := (o20.ext x6371).cells; rw [el] at this; exact this⟩ (by omega)).mono ?_⟩
  rintro e w74 ⟨rfl, x74⟩
  have x6374 := x6371.trans x74
  have h74 : IsArr w74 a (crashM KS s.M.length s.M) (-1) false F63 := IsArr.ext h63 x6374
  refine ⟨_, rfl, (adown_spec h74).mono ?_⟩
  rintro e w77 ⟨rfl, rfl⟩
  rw [crashM_births, crashM_live]
  have t77 := t63.ext x6374
  refine ⟨_, rfl, condB_of (fun h => by cases h) fun _ => condB_of (fun h => by simp at h) fun _ => condB_of (fun h => by simp at h) fun _ => ⟨⟨0, rfl, by omega, Upd.refl _ _⟩, ?_⟩⟩
  rintro n88 w89 ⟨i, rfl, hi', x89⟩
  intros
  refine condB_of (fun hlt => ?_) (fun hge => ?_)
  · simp only [decide_eq_true_eq] at hlt
    intro w121 d121
    have x121 := x89.trans d121.ext
    obtain ⟨m, hm⟩ : ∃ m, s.M[i]? = some m := ⟨s.M[i]'(by omega), List.getElem?_eq_getElem _⟩
    have hfew := h18.few hm
    have hm' := crashM_get (KS := KS) hm
    obtain ⟨a1, q, n, d, rfl, ca, held⟩ := (t77.one.ext x121).at (i := i) (L := m.d.lasts) (by rw [List.getElem?_map, hm]; rfl)
    refine ⟨⟨by omega, by omega⟩, q, n, d, by rw [Int.toNat_natCast]; exact ca, ?_⟩
    refine (alasts_spec (IsArr.ext h74 x121) hm').mono ?_
    rintro e w124 ⟨p126, l126, c126, rfl, x124, held1⟩
    have few' := h74.few hm'
    refine ⟨_, _, _, rfl, ⟨_, _, _, by rw [Int.toNat_natCast]; exact cellx ca x124, rfl⟩, ?_⟩
    refine (rsame_spec (held1.read few'.1) ((held.ext x124).read hfew.1)).mono ?_
    rintro e w128 ⟨rfl, x128⟩
    refine ⟨_, rfl, (awaits_spec (IsArr.ext (IsArr.ext (IsArr.ext h74 x121) x124) x128) hm').mono ?_⟩
    rintro e w131 ⟨p133, l133, c133, rfl, x131, held2⟩
    have x131' := ((x121.trans x124).trans x128).trans x131
    have hl133 := held2.length
    have hw0 : (crashD m.d (KS.getD i [])).waits = [] := rfl
    refine ⟨_, _, _, rfl, condB_of (fun h => ?_) fun _ => ?_⟩
    · exfalso
      simp only [Bool.not_eq_true', decide_eq_false_iff_not] at h
      rw [hw0] at hl133
      simp only [List.length_nil] at hl133
      omega
    have next : (∃ j : Nat, IntKind.i64.wrap ((i : Int) + 1) = j ∧ j ≤ 4 ∧ Ext w77 w131) ∧ 4 - (IntKind.i64.wrap ((i : Int) + 1)).toNat < 4 - (i : Int).toNat := by
      rw [w64 (by omega)]
      exact ⟨⟨i + 1, by omega, by omega, x131'⟩, by omega⟩
    obtain ⟨a2, q2, n2, d2, rfl, ca2, held3⟩ := (t77.two.ext x131').at (i := i) (L := m.d.waits) (by rw [List.getElem?_map, hm]; rfl)
    refine ⟨⟨by omega, by omega⟩, q2, n2, d2, by rw [Int.toNat_natCast]; exact ca2, condB_of (fun hz => condB_of (fun hb => ?_) fun _ => next) fun _ => next⟩
    exfalso
    simp only [decide_eq_true_eq] at hz
    have hl3 := held3.length
    have : m.d.waits = [] := List.eq_nil_of_length_eq_zero (by omega)
    rw [show ({ m with d := crashD m.d (KS.getD i []) } : Mem).d.lasts = m.d.lasts from crashD_quiet this _] at hb
    simp at hb
  · have y89 := (y63.trans x6374).trans x89
    refine ⟨⟨0, a, F63, _, rfl, by omega, rfl, y89, hF63, hl63, IsArr.ext h74 x89⟩, ?_⟩
    rintro n138 w139 ⟨i, a', F', M', rfl, hi, hp, x139, hF', hM', h139⟩
    cases hp
    intros
    refine condB_of (fun hlt => ?_) (fun hge => ⟨rfl, x139⟩)
    simp only [decide_eq_true_eq] at hlt
    refine ⟨by decide, by decide, fun k155 w156 hk => ?_⟩
    have e4 : (i : Int).tmod 4 = ((i % 4 : Nat) : Int) := by rw [Int.tmod_eq_emod_of_nonneg (by omega)]; omega
    rw [e4]
    obtain ⟨m, hm⟩ : ∃ m, M'[i % 4]? = some m := ⟨M'[i % 4]'(by omega), List.getElem?_eq_getElem _⟩
    refine (awrite_spec (c := 1) (IsArr.ext h139 hk.ext) ⟨by omega, by omega⟩ hm _ (BytesAt.one (b := 1) hk.at)).mono ?_
    rintro e w157 ⟨F2, rfl, s157, h157⟩
    obtain ⟨z1, z2⟩ := ext_stepA (x139.trans hk.ext) s157 hF'
    refine ⟨_, rfl, condB_of (fun h => absurd (of_decide_eq_true h) (writeZ_up _ _ _)) fun _ => ?_⟩
    rw [w64 (by omega)]
    refine ⟨⟨i + 1, a, F2, M'.set (i % 4) { m with d := writeD m.d ((i : Int).tmod 8) [1] }, by omega, by omega, rfl, z1, z2, by rw [List.length_set]; exact hM', ?_⟩, by show 20 - ((i : Int) + 1).toNat < 20 - (i : Int).toNat; omega⟩
    rw [if_neg (by omega), decide_eq_false (by omega)] at h157
    exact h157
set_option maxRecDepth 100000 in
theorem arrayRestarts_lifted (os : Os) (started : os.Started) (H : Type) (enc : TypeId × Value → H) :
    ReturnsInHanded {} Try.checked os 8 .any (Rows.arrayRestartsSpec.pre6 enc Try.prog Try.f8 Rows.arrayRestartsRow.domain false) (Rows.arrayRestartsSpec.post enc Try.prog Try.f8 false true false false) := by
  refine returnsInHanded_of_change (C := Try.checked) lawOwn started (by kernel_rfl) Try.func8
    (ChangeSpec.witness6 (enc := enc) (C := Try.checked) false ⟨#[], #[.slice none 0 0, .slice none 0 0], []⟩ 8 (by kernel_rfl) (by kernel_rfl) (by kernel_rfl) (by kernel_rfl)) ?_
  intro W base args ds gs before hval0 hW hcnd _
  have hval : ∀ (j : Nat) t v, Try.f8.params[j]? = some t → args[j]? = some v → Value.okWide Try.prog W .any base t v := hval0
  have hW' := hW
  obtain ⟨p, q, hA0, hV, rfl, hfz, hnd⟩ := hW
  have hA : DataW.TrodAll enc Try.prog W 0 (fun _ => true) true Try.f8.params.toList args.toList ds p := hA0
  rw [Try.params8] at hA hval
  obtain ⟨v0, vs0, d0, ds0, p0, q0, hargs, rfl, rfl, h0, r0⟩ := trodAll_cons hA
  obtain ⟨v1, vs1, d1, ds1, p1, q1, rfl, rfl, rfl, h1, r1⟩ := trodAll_cons r0
  obtain ⟨rfl, rfl, rfl⟩ := trodAll_nil r1
  obtain rfl : args = #[v0, v1] := by cases args; simp_all
  obtain ⟨rfl, rfl⟩ := trodVars_none hV
  obtain ⟨a0, l0, c0, L0, rfl, hL0⟩ := open_script (okWide_slice Try.underlying37 (hval 0 37 v0 rfl rfl)) h0
  obtain ⟨a1, l1, c1, KS1, rfl, hK1⟩ := open_keep (okWide_slice Try.underlying42 (hval 1 42 v1 rfl rfl)) h1
  refine (arrayRestarts_walk hL0 hK1).mono fun e W' ⟨he, hg⟩ => ?_
  subst he
  exact ⟨_, rfl, post_true lawLaid rfl (by kernel_rfl) rfl Try.underlying4 hW' rfl hg.below⟩

/-- ████ THE STATEMENT ████ -/
theorem arrayRestarts_holds : Rows.ArrayRestartsSaid :=
  OpenClaim.holds_of_wide 8 Try.f8 rfl rfl rfl rfl rfl rfl rfl ⟨rfl, rfl, rfl, rfl, rfl⟩ rfl rfl rfl rfl rfl (by kernel_rfl) Try.func8 (by kernel_rfl)
    (of_decide_eq_true (by kernel_rfl)) (by unfold Func.isWrapper; first | (rw [if_pos (by decide +kernel)]; kernel_rfl) | (rw [if_neg (by decide +kernel)]; exact ⟨rfl, rfl⟩))
    (fun os started H enc _ => arrayRestarts_lifted os started H enc)
end Go.Proofs.Ytbidancfbilbkaa
