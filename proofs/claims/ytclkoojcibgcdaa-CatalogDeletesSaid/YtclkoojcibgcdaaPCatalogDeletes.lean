/- CatalogDeletes returns true, whatever the geometry, the script and the key. No conditions. -/
import Derived.Test.YtclkoojcibgcdaaKA2
import Derived.Test.YtclkoojcibgcdaaRows
namespace Go.Proofs.Ytclkoojcibgcdaa
open Go Go.Vc Go.ChangeShapes Go.WideShapes Go.ChangeAt Go.RowKit

theorem delete_plain {g : Geo} {O : List Ob} {key : ByteArray} (h1 : ¬ 64 < key.size) (h2 : ¬ key.size < 1) :
    applyO g O 2 key 0 [] 1 = (dropO key O, if getO key O = none then 193 else 0) := by
  have hr : RecOk 2 key 0 [] := ⟨⟨.inr rfl, ⟨by omega, by omega⟩, ⟨by omega, by omega⟩, by simp⟩, fun s hs => (by cases hs), fun _ => ⟨rfl, rfl⟩⟩
  unfold applyO
  rw [if_neg (fun h => h hr)]
  by_cases hn : getO key O = none
  · rw [if_pos ⟨rfl, hn⟩, if_pos hn, dropO_none (getO_none.1 hn)]
  · rw [if_neg (fun h => hn h.2), if_pos rfl, if_neg hn]
theorem dropO_take_succ {key : ByteArray} {O : List Ob} {i : Nat} {o : Ob} (h : O[i]? = some o) : dropO key (O.take (i + 1)) = if o.key = key then dropO key (O.take i) else dropO key (O.take i) ++ [o] := by
  rw [List.take_add_one, h]
  unfold dropO
  rw [Option.toList_some, List.filter_append]
  by_cases hk : o.key = key <;> simp [hk]

set_option maxHeartbeats 4000000 in
theorem catalogDeletes_walk {w : World} (g : Geo) {p : Option Addr} {l c : Nat} {L : List CallC} (hL : CallsCAt w p l L) (key : ByteArray) : Calls Try.prog 7 #[gV g, .slice p l c, .string key] w fun e w' => e = .returned (.bool true) ∧ Ext w w' := by
  generalize hO : doneC g [] (L.take 40) = O
  refine (F7_calls g.k g.m g.size g.stripes g.slots g.objects p l c key w (fun v w' => v = .bool true ∧ Ext w w')
    (fun _ _ _ _ _ _ _ _ _ w67 p77 l77 c77 n78 w79 => ∃ i : Nat, n78 = i ∧ i ≤ O.length ∧ Ext w67 w79 ∧ ObsT w79 0 w67.heap.size p77 l77 c77 (dropO key (O.take i)))
    (fun _ _ _ _ _ _ _ _ _ _ _ _ _ n78 _ => O.length - n78.toNat) ?_).mono (by rintro e w' ⟨v, rfl, rfl, h⟩; exact ⟨rfl, h⟩)
  intro k9 w10 hk9
  have r10 : RowW w10 k9 _ := ⟨_, hk9.at⟩
  have x10 := hk9.ext
  refine (awake_spec w10).mono ?_
  rintro e w11 ⟨rfl, x11⟩
  have y11 := x10.trans x11
  have r11 := x11.rowW r10 id
  refine ⟨_, rfl, condB_of (fun h => by cases h) fun _ => ⟨_, r11.row.cell (n := 0) rfl, _, r11.row.cell rfl, _, r11.row.cell rfl, _, r11.row.cell rfl, _, r11.row.cell rfl, _, r11.row.cell rfl, (check_spec g w11).mono ?_⟩⟩
  rintro e w20 ⟨rfl, x20⟩
  have y20 := y11.trans x20
  have r20 := x20.rowW r11 id
  refine ⟨_, rfl, condB_of (fun _ => ⟨rfl, y20⟩) fun h1 => ⟨_, r20.row.cell rfl, condB_of (fun _ => ⟨rfl, y20⟩) fun h2 => condB_of (fun _ => ⟨rfl, y20⟩) fun h3 => condB_of (fun _ => ⟨rfl, y20⟩) fun h4 => ?_⟩⟩
  have hg : GeoOk g := by
    by_cases hg : GeoOk g
    · exact hg
    · simp [checkG, hg] at h1
  simp only [decide_eq_false_iff_not] at h2 h3 h4
  have h4' : ¬ key.size < 1 := fun h => h4 (empty_size.2 h)
  refine ⟨_, r20.row.cell (n := 0) rfl, _, r20.row.cell rfl, _, r20.row.cell rfl, _, r20.row.cell rfl, _, r20.row.cell rfl, _, r20.row.cell rfl, (doneC_spec hg (hL.ext y20)).mono ?_⟩
  rintro e w30 ⟨b, F, rfl, x30, h30, hF⟩
  rw [hO] at h30
  have y30 := y20.trans x30
  refine ⟨_, rfl, condB_of (fun h => by cases h) fun _ => (all_spec h30).mono ?_⟩
  rintro e w33 ⟨p35, l35, c35, rfl, x33, obs33⟩
  refine ⟨_, _, _, rfl, (free_spec (h30.ext x33)).mono ?_⟩
  rintro e w36 ⟨rfl, x36⟩
  have x3036 := x33.trans x36
  refine ⟨_, rfl, (get_spec (h30.ext x3036) key).mono ?_⟩
  rintro e w39 ⟨s41, n42, n43, p44, l44, c44, n45, rfl, x39, hgot⟩
  have hkeys := h30.ok.asc.keys
  have hz : n45 = (if getO key O = none then 193 else 0) ∧ (stripesO O).length = l44 + (stripesO (dropO key O)).length := by
    rcases hgo : getO key O with _ | o
    · rw [hgo] at hgot
      obtain ⟨_, _, _, rfl, _, rfl, _⟩ := hgot
      rw [dropO_none (getO_none.1 hgo)]
      simp
    · rw [hgo] at hgot
      obtain ⟨_, _, _, rfl, own⟩ := hgot
      obtain ⟨hm, rfl⟩ := (getO_some hkeys).1 hgo
      have := (own_ints own).1
      rw [this, stripes_drop_len hkeys hm]
      simp
  refine ⟨_, _, _, _, _, _, _, rfl, fun k46 w47 hk46 => ?_⟩
  have hk46' := hk46.size
  have r47 : RowW w47 k46 _ := ⟨_, hk46.at⟩
  refine fill4 hk46.ext (by omega) r47 fun w51 x51 _ r51 => ?_
  have x3051 := (x3036.trans x39).trans x51
  have h51 := h30.ext x3051
  refine (apply_spec h51 2 key 0 (by omega) 1 (p := none) (l := 0) (c := 0) (st := []) ⟨rfl, CellsAt.nil _ _⟩ (by omega) (by omega) (fun _ => rfl)).mono ?_
  rintro e w52 ⟨F2, rfl, s52, h52⟩
  rw [delete_plain (by omega) h4'] at h52 ⊢
  replace h52 : Cat w52 b g (dropO key O) F2 := h52
  have hF' : ∀ x, F x → w.heap.size ≤ x := fun x hx => Nat.le_trans y20.size (hF x hx)
  have y51 := y30.trans x3051
  obtain ⟨y52, hF2⟩ := up_new y51 hF' s52
  have hlt30 := h30.lt
  have z36 := x3036.size
  have z39 := x39.size
  have r52 := s52.upd.rowW r51 (fun hf => by have := hlt30 _ hf; omega)
  refine ⟨_, rfl, (get_spec h52 key).mono ?_⟩
  rintro e w55 ⟨s57, n58, n59, p60, l60, c60, n61, rfl, x55, hgot2⟩
  rw [getO_drop] at hgot2
  obtain ⟨rfl, rfl, rfl, rfl, rfl, rfl, rfl⟩ := hgot2
  refine ⟨_, _, _, _, _, _, _, rfl, fun k62 w63 hk62 => ?_⟩
  have hk62' := hk62.size
  have r63 : RowW w63 k62 _ := ⟨_, hk62.at⟩
  refine fill4 hk62.ext (by omega) r63 fun w67 x67 _ _ => ?_
  have x5267 := x55.trans x67
  have h67 := h52.ext x5267
  have y67 := y52.trans x5267
  have r67 := x5267.rowW r52 id
  have obs67 : ObsS w67 w30.heap.size p35 l35 c35 O := ((((obs33.ext x36).ext x39).ext x51).upd s52.upd fun y hy _ hf => by have := hlt30 y hf; omega).ext x5267
  have hll := obs67.length
  have hok := h30.ok
  have hfew := hok.few
  have hob := hg.2.2.2.2.2
  have hlen64 : ∀ o ∈ O, o.len ≤ 9223372036854775807 := fun o ho => by have := (hok.obs o ho).1.1.2.2.1.2; omega
  refine ⟨⟨0, rfl, Nat.zero_le _, Upd.refl _ _, ObsT.nil _ _ _⟩, ?_⟩
  rintro p77 l77 c77 n78 w79 ⟨i, rfl, hi, x79, t79⟩
  intros
  have hl77 := t79.length
  have hdl : (dropO key (O.take i)).length ≤ i := by
    have := List.length_filter_le (fun o : Ob => decide (o.key ≠ key)) (O.take i)
    simp only [List.length_take] at this
    unfold dropO
    omega
  refine condB_of (fun hlt => ?_) (fun hge => ?_)
  · simp only [decide_eq_true_eq] at hlt
    obtain ⟨o, ho⟩ : ∃ o, O[i]? = some o := ⟨O[i]'(by omega), List.getElem?_eq_getElem _⟩
    obtain ⟨a, q, n, d, rfl, c0, c1, c2, c3, own⟩ := (obs67.ext x79).at ho
    rw [Int.toNat_natCast]
    refine ⟨⟨by omega, hlt⟩, _, c0, condB_of (fun hne => ?_) fun he => ?_⟩
    · simp only [Bool.not_eq_true', decide_eq_false_iff_not] at hne
      refine ⟨⟨by omega, hlt⟩, _, c0, _, c1, _, c2, _, _, _, c3, fun k107 w108 hk107 => ?_⟩
      obtain ⟨p', c', w2, hr, t2, k2⟩ := t79.app (by omega) x79.size o (own.base_le (Nat.zero_le _)) hk107
      refine ⟨p', l77 + 1, c', w2, hr, ?_⟩
      rw [w64 (n := (i : Int) + 1) (by omega)]
      refine ⟨⟨i + 1, by omega, by omega, k2 _ x79 (Nat.le_refl _), ?_⟩, by show O.length - ((i : Int) + 1).toNat < O.length - (i : Int).toNat; omega⟩
      rw [dropO_take_succ ho, if_neg hne]
      exact t2
    · simp only [Bool.not_eq_false', decide_eq_true_eq] at he
      rw [w64 (n := (i : Int) + 1) (by omega)]
      refine ⟨⟨i + 1, by omega, by omega, x79, ?_⟩, by show O.length - ((i : Int) + 1).toNat < O.length - (i : Int).toNat; omega⟩
      rw [dropO_take_succ ho, if_pos he]
      exact t79
  · simp only [decide_eq_false_iff_not] at hge
    have hi' : i = O.length := by omega
    subst hi'
    rw [List.take_length] at t79 hl77 hdl
    have h79 := h67.ext x79
    have hsub : ∀ o ∈ dropO key O, o ∈ O := fun o ho => (List.mem_filter.1 ho).1
    refine (all_spec h79).mono ?_
    rintro e w111 ⟨p113, l113, c113, rfl, x111, obs111⟩
    have hl113 := obs111.length
    refine ⟨_, _, _, rfl, (objs_spec (obs111.read fun o ho => hlen64 o (hsub o ho)) ((t79.ext x111).read fun o ho => hlen64 o (hsub o ho)) (by omega) (fun o ho => by have := (hok.obs o (hsub o ho)).1.1.2.2.2; omega)).mono ?_⟩
    rintro e w114 ⟨rfl, x114⟩
    refine ⟨_, rfl, fun w117 d117 => condB_t (by simp) ?_⟩
    have x79117 := (x111.trans x114).trans d117.ext
    have h117 := h79.ext x79117
    have r117 := (x79.trans x79117).rowW r67 id
    have y117 := (y67.trans x79).trans x79117
    have fin : F7_A0 193 w117 k46 (some (at0 b)) (IntKind.i64.wrap (g.stripes - ((stripesO O).length : Int))) (fun v w' => v = .bool true ∧ Ext w w')
        (fun _ _ _ _ _ _ _ _ _ w67 p77 l77 c77 n78 w79 => ∃ i : Nat, n78 = i ∧ i ≤ O.length ∧ Ext w67 w79 ∧ ObsT w79 0 w67.heap.size p77 l77 c77 (dropO key (O.take i)))
        (fun _ _ _ _ _ _ _ _ _ _ _ _ _ n78 _ => O.length - n78.toNat) := by
      refine condB_t (by simp) ⟨_, _, _, r117.row.cell rfl, (free_spec h117).mono ?_⟩
      rintro e w119 ⟨rfl, x119⟩
      refine ⟨_, rfl, ⟨_, _, _, (x119.rowW r117 id).row.cell rfl, rfl⟩, ?_, y117.trans x119⟩
      have h2 := hz.2
      have hsl := h30.stripes_len
      have hst := hg.2.2.1
      rw [w64 (n := g.stripes - ((stripesO O).length : Int)) (by omega), w64 (by omega), w64 (by omega)]
      congr 1
      exact decide_eq_true (by omega)
    refine condB_t (by rw [hz.1]; simp) (condB_of (fun _ => fin) fun h0 => condB_t ?_ fin)
    rw [hz.1] at h0 ⊢
    by_cases hn : getO key O = none
    · simp [hn]
    · simp [hn] at h0

set_option maxRecDepth 100000 in
theorem catalogDeletes_lifted (os : Os) (started : os.Started) (H : Type) (enc : TypeId × Value → H) :
    ReturnsInHanded {} Try.checked os 7 .any (Rows.catalogDeletesSpec.pre6 enc Try.prog Try.f7 Rows.catalogDeletesRow.domain false) (Rows.catalogDeletesSpec.post enc Try.prog Try.f7 false true false false) := by
  refine returnsInHanded_of_change (C := Try.checked) lawOwn started (by kernel_rfl) Try.func7
    (ChangeSpec.witness6 (enc := enc) (C := Try.checked) false ⟨#[], #[.agg #[.int .i64 0, .int .i64 0, .int .i64 0, .int .i64 0, .int .i64 0, .int .i64 0], .slice none 0 0, .string ⟨#[]⟩], []⟩ 8 (by kernel_rfl) (by kernel_rfl) (by kernel_rfl) (by kernel_rfl)) ?_
  intro W base args ds gs before hval0 hW hcnd _
  have hval : ∀ (j : Nat) t v, Try.f7.params[j]? = some t → args[j]? = some v → Value.okWide Try.prog W .any base t v := hval0
  have hW' := hW
  obtain ⟨p, q, hA0, hV, rfl, hfz, hnd⟩ := hW
  have hA : DataW.TrodAll enc Try.prog W 0 (fun _ => true) true Try.f7.params.toList args.toList ds p := hA0
  rw [Try.params7] at hA hval
  obtain ⟨v0, vs0, d0, ds0, p0, q0, hargs, rfl, rfl, h0, r0⟩ := trodAll_cons hA
  obtain ⟨v1, vs1, d1, ds1, p1, q1, rfl, rfl, rfl, h1, r1⟩ := trodAll_cons r0
  obtain ⟨v2, vs2, d2, ds2, p2, q2, rfl, rfl, rfl, h2, r2⟩ := trodAll_cons r1
  obtain ⟨rfl, rfl, rfl⟩ := trodAll_nil r2
  obtain rfl : args = #[v0, v1, v2] := by cases args; simp_all
  obtain ⟨rfl, rfl⟩ := trodVars_none hV
  obtain ⟨g0, rfl⟩ := open_geo (okWide_struct Try.underlying24 (hval 0 24 v0 rfl rfl)) h0
  obtain ⟨a1, l1, c1, L1, rfl, hL1⟩ := open_scriptC (okWide_slice Try.underlying26 (hval 1 26 v1 rfl rfl)) h1
  obtain ⟨s2, rfl⟩ := okWide_string Try.underlying9 (hval 2 9 v2 rfl rfl)
  refine (catalogDeletes_walk g0 hL1 s2).mono fun e W' ⟨he, hg⟩ => ?_
  subst he
  exact ⟨_, rfl, post_true lawLaid rfl (by kernel_rfl) rfl Try.underlying4 hW' rfl hg.below⟩

/-- ████ THE STATEMENT ████ -/
theorem catalogDeletes_holds : Rows.CatalogDeletesSaid :=
  OpenClaim.holds_of_wide 7 Try.f7 rfl rfl rfl rfl rfl rfl rfl ⟨rfl, rfl, rfl, rfl, rfl⟩ rfl rfl rfl rfl rfl (by kernel_rfl) Try.func7 (by kernel_rfl)
    (of_decide_eq_true (by kernel_rfl)) (by unfold Func.isWrapper; first | (rw [if_pos (by decide +kernel)]; kernel_rfl) | (rw [if_neg (by decide +kernel)]; exact ⟨rfl, rfl⟩))
    (fun os started H enc _ => catalogDeletes_lifted os started H enc)
end Go.Proofs.Ytclkoojcibgcdaa
