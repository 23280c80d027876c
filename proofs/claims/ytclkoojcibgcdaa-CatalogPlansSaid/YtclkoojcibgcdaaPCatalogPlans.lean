/- CatalogPlans returns true, whatever the geometry, the script, the key, the length and the epoch. No conditions. -/
import Derived.Test.YtclkoojcibgcdaaKA2
import Derived.Test.YtclkoojcibgcdaaRows
namespace Go.Proofs.Ytclkoojcibgcdaa
open Go Go.Vc Go.ChangeShapes Go.WideShapes Go.ChangeAt Go.RowKit

/-- what is planned fits -/
theorem plan_fits {g : Geo} {O : List Ob} (hg : GeoOk g) {key : ByteArray} {n epoch : Int} (h1 : 1 ≤ key.size ∧ key.size ≤ 64) (h2 : 0 ≤ n ∧ n ≤ 1000000) (h3 : 0 ≤ epoch ∧ epoch ≤ 1000000)
    (hfree : ¬ g.stripes - ((stripesO O).length : Int) < needsG g n) : (planL O (needsG g n).toNat g.stripes.toNat).length = (needsG g n).toNat ∧ FitsO g O ⟨key, n, epoch, planL O (needsG g n).toNat g.stripes.toNat⟩ := by
  have hst := hg.2.2.1
  have hnn := (needsG_bound (g := g) (n := n) (by omega)).1
  have hl : (planL O (needsG g n).toNat g.stripes.toNat).length = (needsG g n).toNat := planL_full (by omega)
  have hle := planL_len O (needsG g n).toNat g.stripes.toNat
  refine ⟨hl, ⟨⟨.inl rfl, h1, ⟨h2.1, by show n ≤ _; omega⟩, by show (planL O _ _).length ≤ 256; omega⟩, fun s hs => ?_, fun h => by cases h⟩, ⟨h3.1, by show epoch ≤ _; omega⟩, by show (((planL O (needsG g n).toNat g.stripes.toNat).length : Nat) : Int) = needsG g n; rw [hl]; omega, fun s hs => ?_, planL_nodup _ _ _⟩
  · have := planL_mem hs
    omega
  · have := planL_mem hs
    exact ⟨this.2.2, by omega⟩

set_option maxHeartbeats 4000000 in
theorem catalogPlans_walk {w : World} (g : Geo) {p : Option Addr} {l c : Nat} {L : List CallC} (hL : CallsCAt w p l L) (key : ByteArray) (n epoch : Int) : Calls Try.prog 6 #[gV g, .slice p l c, .string key, .int .i64 n, .int .i64 epoch] w fun e w' => e = .returned (.bool true) ∧ Ext w w' := by
  generalize hO : doneC g [] (L.take 40) = O
  refine (F6_calls g.k g.m g.size g.stripes g.slots g.objects p l c key n epoch w (fun v w' => v = .bool true ∧ Ext w w') ?_).mono (by rintro e w' ⟨v, rfl, rfl, h⟩; exact ⟨rfl, h⟩)
  intro k8 w9 hk8
  have r9 : RowW w9 k8 _ := ⟨_, hk8.at⟩
  have x9 := hk8.ext
  refine (awake_spec w9).mono ?_
  rintro e w10 ⟨rfl, x10⟩
  have y10 := x9.trans x10
  have r10 := x10.rowW r9 id
  refine ⟨_, rfl, condB_of (fun h => by cases h) fun _ => ⟨_, r10.row.cell (n := 0) rfl, _, r10.row.cell rfl, _, r10.row.cell rfl, _, r10.row.cell rfl, _, r10.row.cell rfl, _, r10.row.cell rfl, (check_spec g w10).mono ?_⟩⟩
  rintro e w19 ⟨rfl, x19⟩
  have y19 := y10.trans x19
  have r19 := x19.rowW r10 id
  refine ⟨_, rfl, condB_of (fun _ => ⟨rfl, y19⟩) fun h1 => ⟨_, r19.row.cell rfl, condB_of (fun _ => ⟨rfl, y19⟩) fun h2 => condB_of (fun _ => ⟨rfl, y19⟩) fun h3 => condB_of (fun _ => ⟨rfl, y19⟩) fun h4 => condB_of (fun _ => ⟨rfl, y19⟩) fun h5 => condB_of (fun _ => ⟨rfl, y19⟩) fun h6 => condB_of (fun _ => ⟨rfl, y19⟩) fun h7 => ?_⟩⟩
  have hg : GeoOk g := by
    by_cases hg : GeoOk g
    · exact hg
    · simp [checkG, hg] at h1
  simp only [decide_eq_false_iff_not] at h2 h3 h4 h5 h6 h7
  refine ⟨_, r19.row.cell (n := 0) rfl, _, r19.row.cell rfl, _, r19.row.cell rfl, _, r19.row.cell rfl, _, r19.row.cell rfl, _, r19.row.cell rfl, (doneC_spec hg (hL.ext y19)).mono ?_⟩
  rintro e w29 ⟨b, F, rfl, x29, h29, hF⟩
  rw [hO] at h29
  have y29 := y19.trans x29
  have r29 := x29.rowW r19 id
  have hsl := h29.stripes_len
  have hst := hg.2.2.1
  refine ⟨_, rfl, condB_of (fun h => by cases h) fun _ => (free_spec h29).mono ?_⟩
  rintro e w35 ⟨rfl, x35⟩
  rw [w64 (n := g.stripes - ((stripesO O).length : Int)) (by omega)]
  refine ⟨_, rfl, (all_spec (h29.ext x35)).mono ?_⟩
  rintro e w38 ⟨p40, l40, c40, rfl, x38, obs38⟩
  have hl40 := obs38.length
  have x2938 := x35.trans x38
  refine ⟨_, _, _, rfl, (get_spec (h29.ext x2938) key).mono ?_⟩
  rintro e w41 ⟨s43, n44, n45, p46, l46, c46, n47, rfl, x41, hgot⟩
  have hkeys := h29.ok.asc.keys
  have hz : n47 = (if getO key O = none then 193 else 0) := by
    rcases hgo : getO key O with _ | o
    · rw [hgo] at hgot
      obtain ⟨_, _, _, rfl, _⟩ := hgot
      simp
    · rw [hgo] at hgot
      obtain ⟨_, _, _, rfl, _⟩ := hgot
      simp
  clear hgot
  refine ⟨_, _, _, _, _, _, _, rfl, fun k48 w49 hk48 => ?_⟩
  have hk48' := hk48.size
  have r49 : RowW w49 k48 _ := ⟨_, hk48.at⟩
  refine fill4 hk48.ext (by omega) r49 fun w53 x53 _ _ => ?_
  have x2953 := (x2938.trans x41).trans x53
  have h53 := h29.ext x2953
  have r53 := x2953.rowW r29 id
  refine (plan_spec h53 key n).mono ?_
  rintro e w54 ⟨p56, l56, c56, rfl, x54, own56⟩
  have r54 := x54.rowW r53 id
  refine ⟨_, _, _, _, rfl, _, r54.row.cell (n := 0) rfl, _, r54.row.cell rfl, _, r54.row.cell rfl, _, r54.row.cell rfl, _, r54.row.cell rfl, _, r54.row.cell rfl, (needs_spec g n (by omega) w54).mono ?_⟩
  rintro e w64 ⟨rfl, x64⟩
  have x2964 := (x2953.trans x54).trans x64
  have y64 := y29.trans x2964
  have r64 := x64.rowW r54 id
  have own64 := own56.ext x64
  have hl56 := (own_ints own56).1
  refine ⟨_, rfl, ?_⟩
  have yes : (0 : Int) = 0 → l56 = 0 → (Value.bool (decide (((l56 : Nat) : Int) = (0 : Int))) = .bool true ∧ Ext w w64) := fun _ h => ⟨by rw [h]; rfl, y64⟩
  -- a key that may not be
  by_cases hk1 : key.size < 1
  · have hp : planO g O key n = ([], 190) := by unfold planO; rw [if_pos (.inl hk1)]
    rw [hp] at hl56 ⊢
    have h0 := yes rfl hl56
    refine condB_t (decide_eq_true (empty_size.2 hk1)) (condB_of (fun _ => ⟨_, r64.row.cell rfl, condB_t rfl (condB_t rfl (condB_t rfl h0))⟩) fun _ => condB_t rfl (condB_t rfl (condB_t rfl h0)))
  refine condB_f (decide_eq_false fun h => hk1 (empty_size.1 h)) ?_
  by_cases hk2 : 64 < key.size
  · have hp : planO g O key n = ([], 190) := by unfold planO; rw [if_pos (.inr hk2)]
    rw [hp] at hl56 ⊢
    have h0 := yes rfl hl56
    have d64 : decide ((64 : Int) < ((key.size : Nat) : Int)) = true := decide_eq_true (by omega)
    refine condB_of (fun _ => ⟨_, r64.row.cell rfl, condB_t d64 ?_⟩) fun _ => condB_t d64 ?_
    · unfold F6_A1
      rw [d64]
      exact condB_t rfl (condB_f rfl (condB_t rfl (condB_f rfl (condB_t rfl h0))))
    · unfold F6_A2
      rw [d64]
      exact condB_t rfl (condB_f rfl (condB_t rfl (condB_f rfl (condB_t rfl h0))))
  have d64 : decide ((64 : Int) < ((key.size : Nat) : Int)) = false := decide_eq_false (by omega)
  have hp1 : planO g O key n = if FullO g O key then ([], 191) else if g.stripes - ((stripesO O).length : Int) < needsG g n then ([], 192) else (planL O (needsG g n).toNat g.stripes.toNat, 0) := by
    unfold planO
    rw [if_neg (by omega), if_neg (by omega)]
  rw [hz]
  by_cases hfull : FullO g O key
  · rw [if_pos hfull] at hp1
    rw [hp1] at hl56 ⊢
    have h0 := yes rfl hl56
    have dl : decide (g.objects ≤ ((l40 : Nat) : Int)) = true := decide_eq_true (by rw [hl40]; exact hfull.2)
    rw [if_pos hfull.1]
    refine condB_t rfl ⟨_, r64.row.cell rfl, condB_f d64 (condB_t dl ?_)⟩
    unfold F6_A1
    rw [d64, dl]
    exact condB_t rfl (condB_t rfl (condB_t rfl (condB_t rfl (condB_t rfl h0))))
  rw [if_neg hfull] at hp1
  by_cases hfree : g.stripes - ((stripesO O).length : Int) < needsG g n
  · rw [if_pos hfree] at hp1
    rw [hp1] at hl56 ⊢
    have h0 := yes rfl hl56
    have df : decide (g.stripes - ((stripesO O).length : Int) < needsG g n) = true := decide_eq_true hfree
    by_cases hnone : getO key O = none
    · rw [if_pos hnone]
      have dl : decide (g.objects ≤ ((l40 : Nat) : Int)) = false := decide_eq_false fun h => hfull ⟨hnone, by rw [hl40] at h; exact h⟩
      refine condB_t rfl ⟨_, r64.row.cell rfl, condB_f d64 (condB_f dl (condB_t df ?_))⟩
      unfold F6_A1
      rw [d64, dl]
      exact condB_t rfl (condB_t rfl (condB_t rfl (condB_t rfl (condB_t rfl h0))))
    · rw [if_neg hnone]
      refine condB_f rfl (condB_f d64 (condB_t df ?_))
      unfold F6_A2
      rw [d64]
      exact condB_t rfl (condB_t rfl (condB_t rfl (condB_t rfl (condB_t rfl h0))))
  rw [if_neg hfree] at hp1
  rw [hp1] at own64 hl56 ⊢
  have df : decide (g.stripes - ((stripesO O).length : Int) < needsG g n) = false := decide_eq_false hfree
  obtain ⟨hlen, hfit⟩ := plan_fits (epoch := epoch) hg (key := key) (n := n) (by omega) (by omega) (by omega) hfree
  have hnn := (needsG_bound (g := g) (n := n) (by omega)).1
  replace own64 : OwnS w64 w53.heap.size 3 1 p56 l56 c56 (encI (planL O (needsG g n).toNat g.stripes.toNat)) := own64
  replace hl56 : l56 = (planL O (needsG g n).toNat g.stripes.toNat).length := hl56
  generalize hP : planL O (needsG g n).toNat g.stripes.toNat = P at *
  have happ : applyO g O 1 key n P epoch = (insO ⟨key, n, epoch, P⟩ O, 0) := by
    unfold applyO
    rw [if_neg (fun h => h hfit.1), if_neg (fun h => by have := h.1; omega), if_neg (by omega), if_neg hfull, if_neg (fun h => h hfit)]
  have fin : F6_A0 (some (at0 b)) key n p56 l56 c56 epoch w64 0 (needsG g n) (fun v w' => v = .bool true ∧ Ext w w') := by
    have h64 := h29.ext x2964
    have hlt := h29.lt
    have hP256 := hfit.1.1.2.2.2
    replace hP256 : P.length ≤ 256 := hP256
    refine (apply_spec h64 1 key n (by omega) epoch (own_ints own64) (by omega) (own_le own64).1 (own_le own64).2).mono ?_
    rintro e w69 ⟨F2, rfl, s69, h69⟩
    rw [happ] at h69 ⊢
    replace h69 : Cat w69 b g (insO ⟨key, n, epoch, P⟩ O) F2 := h69
    have hF' : ∀ x, F x → w.heap.size ≤ x := fun x hx => Nat.le_trans y19.size (hF x hx)
    obtain ⟨y69, hF2⟩ := up_new y64 hF' s69
    have z53 := x2953.size
    have own69 := own64.upd s69.upd fun gg hgg hf => by
      have h1 := (own_inK own64 hgg).1
      have h2 := hlt gg hf
      omega
    refine ⟨_, rfl, (get_spec h69 key).mono ?_⟩
    rintro e w72 ⟨s74, n75, n76, p77, l77, c77, n78, rfl, x72, hgot⟩
    rw [show getO key (insO ⟨key, n, epoch, P⟩ O) = some ⟨key, n, epoch, P⟩ from getO_ins (o := ⟨key, n, epoch, P⟩) h29.ok.asc] at hgot
    obtain ⟨rfl, rfl, rfl, rfl, own77⟩ := hgot
    refine ⟨_, _, _, _, _, _, _, rfl, fun k79 w80 hk79 => ?_⟩
    have hk79' := hk79.size
    have r80 : RowW w80 k79 _ := ⟨_, hk79.at⟩
    refine fill4 hk79.ext (by omega) r80 fun w84 x84 _ r84 => ?_
    have i77 := own_ints own77
    have hl77 := i77.1
    replace hl77 : l77 = P.length := hl77
    refine ⟨_, _, _, r84.row.cell rfl, (eqi_spec (i77.ext x84) ((own_ints own69).ext (x72.trans x84)) (by omega)).mono ?_⟩
    rintro e w86 ⟨rfl, x86⟩
    have r86 := x86.rowW r84 id
    refine ⟨_, rfl, condB_t rfl (condB_t (decide_eq_true (by omega)) (condB_t rfl (condB_t rfl (condB_t (by simp) ⟨_, r86.row.cell rfl, condB_t (by simp) ⟨_, r86.row.cell rfl, by simp, ?_⟩⟩))))⟩
    exact ((y69.trans x72).trans x84).trans x86
  by_cases hnone : getO key O = none
  · rw [if_pos hnone]
    have dl : decide (g.objects ≤ ((l40 : Nat) : Int)) = false := decide_eq_false fun h => hfull ⟨hnone, by rw [hl40] at h; exact h⟩
    exact condB_t rfl ⟨_, r64.row.cell rfl, condB_f d64 (condB_f dl (condB_f df fin))⟩
  · rw [if_neg hnone]
    exact condB_f rfl (condB_f d64 (condB_f df fin))

set_option maxRecDepth 100000 in
theorem catalogPlans_lifted (os : Os) (started : os.Started) (H : Type) (enc : TypeId × Value → H) :
    ReturnsInHanded {} Try.checked os 6 .any (Rows.catalogPlansSpec.pre6 enc Try.prog Try.f6 Rows.catalogPlansRow.domain false) (Rows.catalogPlansSpec.post enc Try.prog Try.f6 false true false false) := by
  refine returnsInHanded_of_change (C := Try.checked) lawOwn started (by kernel_rfl) Try.func6
    (ChangeSpec.witness6 (enc := enc) (C := Try.checked) false ⟨#[], #[.agg #[.int .i64 0, .int .i64 0, .int .i64 0, .int .i64 0, .int .i64 0, .int .i64 0], .slice none 0 0, .string ⟨#[]⟩, .int .i64 0, .int .i64 0], []⟩ 8 (by kernel_rfl) (by kernel_rfl) (by kernel_rfl) (by kernel_rfl)) ?_
  intro W base args ds gs before hval0 hW hcnd _
  have hval : ∀ (j : Nat) t v, Try.f6.params[j]? = some t → args[j]? = some v → Value.okWide Try.prog W .any base t v := hval0
  have hW' := hW
  obtain ⟨p, q, hA0, hV, rfl, hfz, hnd⟩ := hW
  have hA : DataW.TrodAll enc Try.prog W 0 (fun _ => true) true Try.f6.params.toList args.toList ds p := hA0
  rw [Try.params6] at hA hval
  obtain ⟨v0, vs0, d0, ds0, p0, q0, hargs, rfl, rfl, h0, r0⟩ := trodAll_cons hA
  obtain ⟨v1, vs1, d1, ds1, p1, q1, rfl, rfl, rfl, h1, r1⟩ := trodAll_cons r0
  obtain ⟨v2, vs2, d2, ds2, p2, q2, rfl, rfl, rfl, h2, r2⟩ := trodAll_cons r1
  obtain ⟨v3, vs3, d3, ds3, p3, q3, rfl, rfl, rfl, h3, r3⟩ := trodAll_cons r2
  obtain ⟨v4, vs4, d4, ds4, p4, q4, rfl, rfl, rfl, h4, r4⟩ := trodAll_cons r3
  obtain ⟨rfl, rfl, rfl⟩ := trodAll_nil r4
  obtain rfl : args = #[v0, v1, v2, v3, v4] := by cases args; simp_all
  obtain ⟨rfl, rfl⟩ := trodVars_none hV
  obtain ⟨g0, rfl⟩ := open_geo (okWide_struct Try.underlying24 (hval 0 24 v0 rfl rfl)) h0
  obtain ⟨a1, l1, c1, L1, rfl, hL1⟩ := open_scriptC (okWide_slice Try.underlying26 (hval 1 26 v1 rfl rfl)) h1
  obtain ⟨s2, rfl⟩ := okWide_string Try.underlying9 (hval 2 9 v2 rfl rfl)
  obtain ⟨n3, rfl, rfl, rfl, wn3⟩ := open_int Try.underlying3 (hval 3 3 v3 rfl rfl) h3
  obtain ⟨n4, rfl, rfl, rfl, wn4⟩ := open_int Try.underlying3 (hval 4 3 v4 rfl rfl) h4
  refine (catalogPlans_walk g0 hL1 s2 n3 n4).mono fun e W' ⟨he, hg⟩ => ?_
  subst he
  exact ⟨_, rfl, post_true lawLaid rfl (by kernel_rfl) rfl Try.underlying4 hW' rfl hg.below⟩

/-- ████ THE STATEMENT ████ -/
theorem catalogPlans_holds : Rows.CatalogPlansSaid :=
  OpenClaim.holds_of_wide 6 Try.f6 rfl rfl rfl rfl rfl rfl rfl ⟨rfl, rfl, rfl, rfl, rfl⟩ rfl rfl rfl rfl rfl (by kernel_rfl) Try.func6 (by kernel_rfl)
    (of_decide_eq_true (by kernel_rfl)) (by unfold Func.isWrapper; first | (rw [if_pos (by decide +kernel)]; kernel_rfl) | (rw [if_neg (by decide +kernel)]; exact ⟨rfl, rfl⟩))
    (fun os started H enc _ => catalogPlans_lifted os started H enc)
end Go.Proofs.Ytclkoojcibgcdaa
