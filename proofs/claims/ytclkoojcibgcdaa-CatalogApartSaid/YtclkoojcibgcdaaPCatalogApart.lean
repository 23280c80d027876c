/- CatalogApart returns true, whatever the geometry and the script. No conditions. -/
import Derived.Test.YtclkoojcibgcdaaKA1
import Derived.Test.YtclkoojcibgcdaaRows
namespace Go.Proofs.Ytclkoojcibgcdaa
open Go Go.Vc Go.ChangeShapes Go.WideShapes Go.ChangeAt Go.RowKit

/-- which stripes were met -/
def UsedAt (w : World) (k : Nat) (S : List Int) : Prop :=
  ∃ bs : List Bool, bs.length = 40 ∧ RowW w k (bs.map Value.bool).toArray ∧ ∀ s : Nat, s < 40 → bs[s]? = some (decide ((s : Int) ∈ S))
theorem UsedAt.upd {S : List Int} {T : Nat → Prop} {w w' : World} {k : Nat} (h : UsedAt w k S) (hu : Upd T w w') (hk : ¬ T k) : UsedAt w' k S := by
  obtain ⟨bs, h1, h2, h3⟩ := h
  exact ⟨bs, h1, hu.rowW h2 hk, h3⟩
theorem UsedAt.get {S : List Int} {w : World} {k : Nat} (h : UsedAt w k S) {s : Nat} (hs : s < 40) : w.cell? ((at0 k).add s) = some (.bool (decide ((s : Int) ∈ S))) := by
  obtain ⟨bs, h1, h2, h3⟩ := h
  refine h2.row.cell ?_
  simp [h3 s hs]
theorem UsedAt.set {S : List Int} {w w' : World} {k : Nat} (h : UsedAt w k S) {s : Nat} (hs : s < 40) (hset : SetC w ((at0 k).add s) (.bool true) w') : UsedAt w' k (S ++ [(s : Int)]) := by
  obtain ⟨bs, h1, h2, h3⟩ := h
  refine ⟨bs.set s true, by simp [h1], ?_, fun t ht => ?_⟩
  · have := hset.row h2
    rw [List.map_set]
    simpa using this
  · rw [List.getElem?_set]
    by_cases he : s = t
    · subst he
      simp [h1, hs]
    · rw [if_neg he, h3 t ht]
      simp only [List.mem_append, List.mem_singleton, Option.some.injEq]
      exact decide_eq_decide.2 ⟨fun h => .inl h, fun h => h.elim id fun h => by omega⟩
theorem UsedAt.live {S : List Int} {w : World} {k : Nat} (h : UsedAt w k S) {s : Nat} (hs : s < 40) : Live w ((at0 k).add s) := by
  obtain ⟨bs, h1, h2, h3⟩ := h
  exact h2.live (by simp [h1, hs])
theorem made40 : madeRow Try.prog 4 (40 : Int).toNat = ((List.replicate 40 false).map Value.bool).toArray := by kernel_rfl

theorem doneC_cat {g : Geo} {w : World} {b : Nat} {O : List Ob} {F : Nat → Prop} (h : Cat w b g O F) {o : Ob} (ho : o ∈ O) {s : Int} (hs : s ∈ o.st) : ownO s O = some o := by
  have hne : ownO s O ≠ none := fun e => ownO_none.1 e (List.mem_flatMap.2 ⟨o, ho, hs⟩)
  obtain ⟨o', ho'⟩ := Option.ne_none_iff_exists'.1 hne
  have : o' = o := own_one h.nodup (ownO_some ho').1 ho (ownO_some ho').2 hs
  rw [ho', this]
theorem stripes_app (A B : List Ob) : stripesO (A ++ B) = stripesO A ++ stripesO B := List.flatMap_append
theorem stripes_take {O : List Ob} {i : Nat} {o : Ob} (h : O[i]? = some o) : stripesO (O.take (i + 1)) = stripesO (O.take i) ++ o.st := by
  rw [List.take_add_one, h]
  unfold stripesO
  simp
theorem stripes_fresh {O : List Ob} (hn : (stripesO O).Nodup) {i j : Nat} {o : Ob} {s : Int} (h : O[i]? = some o) (hj : o.st[j]? = some s) : s ∉ stripesO (O.take i) ++ o.st.take j := by
  have hsplit : O = O.take i ++ o :: O.drop (i + 1) := by
    have hl := (List.getElem?_eq_some_iff.1 h).1
    have he := (List.getElem?_eq_some_iff.1 h).2
    rw [← he, List.getElem_cons_drop, List.take_append_drop]
  have hst : o.st = o.st.take j ++ s :: o.st.drop (j + 1) := by
    have hl := (List.getElem?_eq_some_iff.1 hj).1
    have he := (List.getElem?_eq_some_iff.1 hj).2
    rw [← he, List.getElem_cons_drop, List.take_append_drop]
  have e : stripesO O = stripesO (O.take i) ++ (o.st ++ stripesO (O.drop (i + 1))) := by
    conv => lhs; rw [hsplit]
    unfold stripesO
    simp
  rw [e, List.nodup_append] at hn
  intro hm
  rcases List.mem_append.1 hm with hm | hm
  · exact hn.2.2 s hm s (List.mem_append_left _ (List.mem_of_getElem? hj)) rfl
  · have h2 := (List.nodup_append.1 hn.2.1).1
    rw [hst, List.nodup_append] at h2
    exact h2.2.2 s hm s List.mem_cons_self rfl

set_option maxHeartbeats 4000000 in
theorem catalogApart_walk {w : World} (g : Geo) {p : Option Addr} {l c : Nat} {L : List CallC} (hL : CallsCAt w p l L) : Calls Try.prog 5 #[gV g, .slice p l c] w fun e w' => e = .returned (.bool true) ∧ Ext w w' := by
  generalize hO : doneC g [] (L.take 40) = O
  refine (F5_calls g.k g.m g.size g.stripes g.slots g.objects p l c w (fun v w' => v = .bool true ∧ Ext w w')
    (fun _ _ q _ _ _ _ _ w34 n45 n46 w47 => ∃ (i k32 : Nat), q = some (at0 k32) ∧ n46 = i ∧ i ≤ O.length ∧ n45 = (stripesO (O.take i)).length ∧ Upd (fun x => x = k32) w34 w47 ∧ UsedAt w47 k32 (stripesO (O.take i)))
    (fun _ _ _ _ _ _ _ _ _ _ n46 _ => O.length - n46.toNat)
    (fun _ _ q _ _ _ _ _ n46 w160 n173 n174 w175 => ∃ (j k32 : Nat) (o : Ob), q = some (at0 k32) ∧ O[n46.toNat]? = some o ∧ n174 = j ∧ j ≤ o.st.length ∧ n173 = ((stripesO (O.take n46.toNat)).length + j : Nat) ∧ Upd (fun x => x = k32) w160 w175 ∧ UsedAt w175 k32 (stripesO (O.take n46.toNat) ++ o.st.take j))
    (fun _ _ _ _ _ _ _ _ _ _ _ n174 _ => 256 - n174.toNat) ?_).mono (by rintro e w' ⟨v, rfl, rfl, h⟩; exact ⟨rfl, h⟩)
  intro k8 w9 hk8
  have r9 : RowW w9 k8 _ := ⟨_, hk8.at⟩
  have x9 := hk8.ext
  refine (awake_spec w9).mono ?_
  rintro e w10 ⟨rfl, x10⟩
  have y10 := x9.trans x10
  have r10 := x10.rowW r9 id
  refine ⟨_, rfl, condB_of (fun h => by cases h) fun _ => ⟨_, r10.row.cell (n := 0) rfl, _, r10.row.cell rfl, _, r10.row.cell rfl, _, r10.row.cell rfl, _, r10.row.cell rfl, _, r10.row.cell rfl, (check_spec g w10).mono ?_⟩⟩
  rintro e w19 ⟨rfl, x19⟩
  have y19 := y10.trans x19
  have r19 := x19.rowW r10 id
  refine ⟨_, rfl, condB_of (fun _ => ⟨rfl, y19⟩) fun h1 => ⟨_, r19.row.cell rfl, condB_of (fun _ => ⟨rfl, y19⟩) fun h2 => ?_⟩⟩
  have hg : GeoOk g := by
    by_cases hg : GeoOk g
    · exact hg
    · simp [checkG, hg] at h1
  simp only [decide_eq_false_iff_not] at h2
  refine ⟨_, r19.row.cell (n := 0) rfl, _, r19.row.cell rfl, _, r19.row.cell rfl, _, r19.row.cell rfl, _, r19.row.cell rfl, _, r19.row.cell rfl, (doneC_spec hg (hL.ext y19)).mono ?_⟩
  rintro e w29 ⟨b, F, rfl, x29, h29, hF⟩
  rw [hO] at h29
  have y29 := y19.trans x29
  have r29 := x29.rowW r19 id
  refine ⟨_, rfl, condB_of (fun h => by cases h) fun _ => ⟨⟨by decide, by decide, by decide⟩, fun k32 w33 hk32 => ?_⟩⟩
  rw [made40] at hk32
  have hk32' := hk32.size
  have r33 := hk32.ext.rowW r29 id
  have u33 : UsedAt w33 k32 [] := ⟨List.replicate 40 false, by simp, ⟨_, hk32.at⟩, fun s hs => by rw [List.getElem?_replicate, if_pos hs]; simp⟩
  refine (all_spec (h29.ext hk32.ext)).mono ?_
  rintro e w34 ⟨p36, l36, c36, rfl, x34, obs34⟩
  have h34 := (h29.ext hk32.ext).ext x34
  have r34 := x34.rowW r33 id
  have y34 := (y29.trans hk32.ext).trans x34
  have hll := obs34.length
  have hok := h34.ok
  have hlen64 : ∀ o ∈ O, o.len ≤ 9223372036854775807 := fun o ho => by have := (hok.obs o ho).1.1.2.2.1.2; omega
  have hlt29 := h29.lt
  have hr29 := r29.lt
  have keep : ∀ {w' : World}, Upd (fun x => x = k32) w34 w' → ObsR w' p36 l36 O ∧ Cat w' b g O F ∧ RowW w' k8 #[.int .i64 g.k, .int .i64 g.m, .int .i64 g.size, .int .i64 g.stripes, .int .i64 g.slots, .int .i64 g.objects] ∧ Ext w w' := fun {w'} hu =>
    ⟨(obs34.upd hu fun y hy _ e => by omega).read hlen64, h34.upd hu fun x hx hf => by have := hlt29 x hf; omega, hu.rowW r34 (by omega), Upd.trans y34 hu fun x hx e => by have := y29.size; omega⟩
  refine ⟨_, _, _, rfl, ⟨0, k32, rfl, rfl, Nat.zero_le _, rfl, Upd.refl _ _, u33.upd x34 id⟩, ?_⟩
  rintro n45 n46 w47 ⟨i, k', hq, rfl, hi, rfl, u47, used47⟩
  cases hq
  intros
  refine condB_of (fun hlt => fun w145 d145 => ?_) (fun hge => fun w348 d348 => ?_)
  · simp only [decide_eq_true_eq] at hlt
    have u145 : Upd (fun x => x = k32) w34 w145 := Upd.trans u47 d145.ext.upd fun _ _ h => h
    have used145 := used47.upd d145.ext id
    obtain ⟨o, ho⟩ : ∃ o, O[i]? = some o := ⟨O[i]'(by omega), List.getElem?_eq_getElem _⟩
    have hom : o ∈ O := List.mem_of_getElem? ho
    obtain ⟨obs145, h145, r145, y145⟩ := keep u145
    obtain ⟨a, q, n, d, rfl, c0, c1, c2, c3, hst, hnd, hq0, hlo⟩ := obs145.2 i o ho
    have main : F5_A0 (i : Int) l36 (some a) w145 k8 (some (at0 b)) k32 c36 (((stripesO (O.take i)).length : Nat) : Int) w34 w47 (fun v w' => v = .bool true ∧ Ext w w')
        (fun _ _ q _ _ _ _ _ w34 n45 n46 w47 => ∃ (i k32 : Nat), q = some (at0 k32) ∧ n46 = i ∧ i ≤ O.length ∧ n45 = (stripesO (O.take i)).length ∧ Upd (fun x => x = k32) w34 w47 ∧ UsedAt w47 k32 (stripesO (O.take i)))
        (fun _ _ _ _ _ _ _ _ _ _ n46 _ => O.length - n46.toNat)
        (fun _ _ q _ _ _ _ _ n46 w160 n173 n174 w175 => ∃ (j k32 : Nat) (o : Ob), q = some (at0 k32) ∧ O[n46.toNat]? = some o ∧ n174 = j ∧ j ≤ o.st.length ∧ n173 = ((stripesO (O.take n46.toNat)).length + j : Nat) ∧ Upd (fun x => x = k32) w160 w175 ∧ UsedAt w175 k32 (stripesO (O.take n46.toNat) ++ o.st.take j))
        (fun _ _ _ _ _ _ _ _ _ _ _ n174 _ => 256 - n174.toNat) := by
      unfold F5_A0
      simp only [Int.toNat_natCast]
      refine ⟨⟨by omega, by omega⟩, q, n, d, c3, _, r145.row.cell (n := 0) rfl, _, r145.row.cell rfl, _, r145.row.cell rfl, _, r145.row.cell rfl, _, r145.row.cell rfl, _, r145.row.cell rfl, ⟨by omega, by omega⟩, _, c1, (needs_spec g o.len hlo w145).mono ?_⟩
      rintro e w160 ⟨rfl, x160⟩
      have hobs := hok.obs o hom
      have hlen := hst.1
      refine ⟨_, rfl, ⟨_, _, _, cellk c3 x160, rfl⟩, condB_of (fun h4 => ?_) fun h4 => ⟨⟨0, k32, o, rfl, ho, rfl, Nat.zero_le _, rfl, Upd.refl _ _, by rw [List.take_zero, List.append_nil]; exact used145.upd x160 id⟩, ?_⟩⟩
      · exfalso
        simp only [Bool.not_eq_true', decide_eq_false_iff_not] at h4
        have := hobs.2.2.1
        omega
      rintro n173 n174 w175 ⟨j, k'', o', hq', ho', rfl, hj, rfl, u175, used175⟩
      cases hq'
      have hoo : O[i]? = some o' := ho'
      rw [ho] at hoo
      cases hoo
      replace used175 : UsedAt w175 k32 (stripesO (O.take i) ++ o.st.take j) := used175
      intros
      have u34175 : Upd (fun x => x = k32) w34 w175 := Upd.trans (Upd.trans u145 x160.upd fun _ _ h => h) u175 fun _ _ h => h
      obtain ⟨obs175, h175, r175, y175⟩ := keep u34175
      obtain ⟨a', q', n', d', ha', c0', c1', c2', c3', hst', hnd', _, _⟩ := obs175.2 i o ho
      cases ha'
      have hn' := hst'.1
      refine ⟨⟨by omega, by omega⟩, q', n', d', c3', condB_of (fun hjl => ?_) fun hjl => ?_⟩
      · simp only [decide_eq_true_eq] at hjl
        obtain ⟨s, hs⟩ : ∃ s, o.st[j]? = some s := ⟨o.st[j]'(by omega), List.getElem?_eq_getElem _⟩
        have hsm : s ∈ o.st := List.mem_of_getElem? hs
        obtain ⟨aa, rfl, cs⟩ := hst'.2 j (.int .i64 s) (by rw [List.getElem?_map, hs]; rfl)
        have hs0 := hobs.1.2.1 s hsm
        have hs1 := hobs.2.2.2 s hsm
        obtain ⟨t, rfl⟩ : ∃ t : Nat, s = t := ⟨s.toNat, by omega⟩
        have hfresh := stripes_fresh h34.nodup ho hs
        refine ⟨⟨by omega, by omega⟩, _, _, _, c3', ⟨by omega, hjl⟩, (t : Int), by rw [Nat.mul_one]; exact cs, condB_of (fun h => by simp only [decide_eq_true_eq] at h; omega) fun _ => ⟨_, r175.row.cell rfl, condB_of (fun h => by simp only [decide_eq_true_eq] at h; omega) fun _ => ?_⟩⟩
        have ht40 : t < 40 := by omega
        refine ⟨⟨by omega, by show (t : Int) < 40; omega⟩, _, by rw [Int.toNat_natCast, Nat.mul_one]; exact used175.get ht40, condB_of (fun h => absurd (of_decide_eq_true h) hfresh) fun _ => ⟨⟨by omega, by show (t : Int) < 40; omega⟩, ?_⟩⟩
        simp only [Int.toNat_natCast, Nat.mul_one]
        refine ⟨used175.live ht40, fun w242 s242 => ?_⟩
        have used242 := used175.set ht40 s242
        have u242 : Upd (fun x => x = k32) w175 w242 := by
          have := s242.upd
          rw [add_at0] at this
          exact this
        have u34242 : Upd (fun x => x = k32) w34 w242 := Upd.trans u34175 u242 fun _ _ h => h
        obtain ⟨obs242, h242, r242, y242⟩ := keep u34242
        refine (owner_spec h242 (t : Int)).mono ?_
        rintro e w243 ⟨rfl, rfl⟩
        rw [doneC_cat h34 hom hsm]
        obtain ⟨a3, q3, n3, d3, ha3, _, _, c23, _⟩ := obs242.2 i o ho
        cases ha3
        refine ⟨_, _, rfl, condB_of (fun h => by cases h) fun _ => ⟨⟨by omega, by omega⟩, _, c23, condB_of (fun h => by simp at h) fun _ => ?_⟩⟩
        have hb256 : o.st.length ≤ 256 := hobs.1.1.2.2.2
        have hsl := h34.stripes_len
        have hgs := hg.2.2.1
        have hle : (stripesO (O.take i)).length ≤ (stripesO O).length := by
          have : stripesO O = stripesO (O.take i) ++ stripesO (O.drop i) := by rw [← stripes_app, List.take_append_drop]
          rw [this, List.length_append]
          omega
        rw [w64 (by omega), w64 (by omega)]
        refine ⟨⟨j + 1, k32, o, rfl, by simpa using ho, by omega, by omega, by show (((stripesO (O.take i)).length + j : Nat) : Int) + 1 = (((stripesO (O.take i)).length + (j + 1) : Nat) : Int); omega, Upd.trans u175 u242 fun _ _ h => h, ?_⟩, by show 256 - ((j : Int) + 1).toNat < 256 - (j : Int).toNat; omega⟩
        show UsedAt w243 k32 (stripesO (O.take i) ++ o.st.take (j + 1))
        rw [List.take_add_one, hs, Option.toList_some, ← List.append_assoc]
        exact used242
      · simp only [decide_eq_false_iff_not] at hjl
        have hj' : j = o.st.length := by omega
        subst hj'
        have hfew := hok.few
        have hob64 := hg.2.2.2.2.2
        rw [w64 (by omega)]
        have htk : o.st.take o.st.length = o.st := List.take_length
        rw [htk] at used175
        refine ⟨⟨i + 1, k32, rfl, by omega, by omega, ?_, u34175, ?_⟩, by show O.length - ((i : Int) + 1).toNat < O.length - (i : Int).toNat; omega⟩
        · rw [stripes_take ho, List.length_append]
        · rw [stripes_take ho]
          exact used175
    refine condB_of (fun hpos => ?_) fun _ => main
    simp only [decide_eq_true_eq] at hpos
    obtain ⟨o0, ho0⟩ : ∃ o, O[i - 1]? = some o := ⟨O[i - 1]'(by omega), List.getElem?_eq_getElem _⟩
    obtain ⟨a', q', n', d', ha', c0', _⟩ := obs145.2 (i - 1) o0 ho0
    cases ha'
    have ew : IntKind.i64.wrap ((i : Int) - 1) = ((i - 1 : Nat) : Int) := by
      have := hok.few
      have := hg.2.2.2.2.2
      rw [w64 (by omega)]; omega
    rw [ew]
    simp only [Int.toNat_natCast]
    refine ⟨⟨by omega, by omega⟩, _, c0, ⟨by omega, by omega⟩, _, c0', condB_of (fun hle => ?_) fun _ => main⟩
    exfalso
    have hasc : kLt o0.key o.key := by
      have := hok.asc
      unfold KAsc at this
      rw [List.pairwise_iff_getElem] at this
      have h3 := this (i - 1) i (by omega) (by omega) (by omega)
      have e1 := (List.getElem?_eq_some_iff.1 ho0).2
      have e2 := (List.getElem?_eq_some_iff.1 ho).2
      rw [e1, e2] at h3
      exact h3
    rw [bless_kLt] at hle
    simp only [Bool.or_eq_true, decide_eq_true_eq] at hle
    rcases hle with h | h
    · exact kLt_irrefl _ (kLt_trans h hasc)
    · rw [h] at hasc; exact kLt_irrefl _ hasc
  · simp only [decide_eq_false_iff_not] at hge
    have hi' : i = O.length := by omega
    subst hi'
    have u348 : Upd (fun x => x = k32) w34 w348 := Upd.trans u47 d348.ext.upd fun _ _ h => h
    obtain ⟨_, h348, r348, y348⟩ := keep u348
    have hfew := hok.few
    refine ⟨_, r348.row.cell rfl, condB_of (fun _ => ⟨_, r348.row.cell rfl, (free_spec h348).mono ?_⟩) fun h => by simp only [decide_eq_false_iff_not] at h; omega⟩
    rintro e w351 ⟨rfl, x351⟩
    refine ⟨_, rfl, ⟨_, (x351.rowW r348 id).row.cell rfl, rfl⟩, ?_, y348.trans x351⟩
    rw [List.take_length]
    simp
set_option maxRecDepth 100000 in
theorem catalogApart_lifted (os : Os) (started : os.Started) (H : Type) (enc : TypeId × Value → H) :
    ReturnsInHanded {} Try.checked os 5 .any (Rows.catalogApartSpec.pre6 enc Try.prog Try.f5 Rows.catalogApartRow.domain false) (Rows.catalogApartSpec.post enc Try.prog Try.f5 false true false false) := by
  refine returnsInHanded_of_change (C := Try.checked) lawOwn started (by kernel_rfl) Try.func5
    (ChangeSpec.witness6 (enc := enc) (C := Try.checked) false ⟨#[], #[.agg #[.int .i64 0, .int .i64 0, .int .i64 0, .int .i64 0, .int .i64 0, .int .i64 0], .slice none 0 0], []⟩ 8 (by kernel_rfl) (by kernel_rfl) (by kernel_rfl) (by kernel_rfl)) ?_
  intro W base args ds gs before hval0 hW hcnd _
  have hval : ∀ (j : Nat) t v, Try.f5.params[j]? = some t → args[j]? = some v → Value.okWide Try.prog W .any base t v := hval0
  have hW' := hW
  obtain ⟨p, q, hA0, hV, rfl, hfz, hnd⟩ := hW
  have hA : DataW.TrodAll enc Try.prog W 0 (fun _ => true) true Try.f5.params.toList args.toList ds p := hA0
  rw [Try.params5] at hA hval
  obtain ⟨v0, vs0, d0, ds0, p0, q0, hargs, rfl, rfl, h0, r0⟩ := trodAll_cons hA
  obtain ⟨v1, vs1, d1, ds1, p1, q1, rfl, rfl, rfl, h1, r1⟩ := trodAll_cons r0
  obtain ⟨rfl, rfl, rfl⟩ := trodAll_nil r1
  obtain rfl : args = #[v0, v1] := by cases args; simp_all
  obtain ⟨rfl, rfl⟩ := trodVars_none hV
  obtain ⟨g0, rfl⟩ := open_geo (okWide_struct Try.underlying24 (hval 0 24 v0 rfl rfl)) h0
  obtain ⟨a1, l1, c1, L1, rfl, hL1⟩ := open_scriptC (okWide_slice Try.underlying26 (hval 1 26 v1 rfl rfl)) h1
  refine (catalogApart_walk g0 hL1).mono fun e W' ⟨he, hg⟩ => ?_
  subst he
  exact ⟨_, rfl, post_true lawLaid rfl (by kernel_rfl) rfl Try.underlying4 hW' rfl hg.below⟩

/-- ████ THE STATEMENT ████ -/
theorem catalogApart_holds : Rows.CatalogApartSaid :=
  OpenClaim.holds_of_wide 5 Try.f5 rfl rfl rfl rfl rfl rfl rfl ⟨rfl, rfl, rfl, rfl, rfl⟩ rfl rfl rfl rfl rfl (by kernel_rfl) Try.func5 (by kernel_rfl)
    (of_decide_eq_true (by kernel_rfl)) (by unfold Func.isWrapper; first | (rw [if_pos (by decide +kernel)]; kernel_rfl) | (rw [if_neg (by decide +kernel)]; exact ⟨rfl, rfl⟩))
    (fun os started H enc _ => catalogApart_lifted os started H enc)
end Go.Proofs.Ytclkoojcibgcdaa
