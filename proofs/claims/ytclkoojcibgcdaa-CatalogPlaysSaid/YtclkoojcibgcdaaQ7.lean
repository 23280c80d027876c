/- The document's catalog: Plan. -/
import Derived.Test.YtclkoojcibgcdaaQ6
namespace Go.Proofs.Ytclkoojcibgcdaa
open Go Go.Vc

theorem planL_length (O : List Ob) (n m : Nat) : (planL O n m).length = min n (freeC O m) := by
  unfold planL freeC
  rw [List.length_take, List.countP_eq_length_filter]
theorem planL_stable {O : List Ob} {n i : Nat} (h : (planL O n i).length = n) : ∀ j, planL O n (i + j) = planL O n i
  | 0 => rfl
  | j + 1 => by
    have ih := planL_stable h j
    rw [← Nat.add_assoc, planL_succ, ih, if_neg (by rw [h]; omega)]

section
variable {w : World} {b : Nat} {g : Geo} {O : List Ob} {F : Nat → Prop}

set_option maxHeartbeats 2000000 in
theorem rplan_spec (h : RCat w b g O F) (hfree : (freeC O g.stripes.toNat : Int) = g.stripes - ((stripesO O).length : Int)) (k : ByteArray) (n : Int) : Calls Try.prog 37 #[.pointer (some (at0 b)), .string k, .int .i64 n] w fun e w' => Ext w w' ∧
    ∃ p l c, e = .returned (.tuple #[.slice p l c, .int .i64 (planO g O k n).2]) ∧ IntsAt w' p l (planO g O k n).1 := by
  have hgeo := h.ok.geo
  unfold GeoOk at hgeo
  refine (F37_calls (some (at0 b)) k n w (fun v w' => Ext w w' ∧ ∃ p l c, v = .tuple #[.slice p l c, .int .i64 (planO g O k n).2] ∧ IntsAt w' p l (planO g O k n).1)
    (fun N w19 p23 l23 c23 n24 w25 => ∃ i : Nat, n24 = i ∧ (i : Int) ≤ g.stripes ∧ Ext w19 w25 ∧ l23 = (planL O N.toNat i).length ∧ OwnS w25 w19.heap.size 3 1 p23 l23 c23 (encI (planL O N.toNat i))) (fun _ _ _ _ _ n24 _ => 300 - n24.toNat) ?_).mono (by
      rintro e w' ⟨v, rfl, hx, p, l, c, rfl, h⟩; exact ⟨hx, p, l, c, rfl, h⟩)
  have fail : ∀ {wx : World} (z : Int), Ext w wx → planO g O k n = ([], z) → (Ext w wx ∧ ∃ p l c, Value.tuple #[.slice none 0 0, .int .i64 z] = .tuple #[.slice p l c, .int .i64 (planO g O k n).2] ∧ IntsAt wx p l (planO g O k n).1) := by
    intro wx z hx hp
    rw [hp]
    exact ⟨hx, none, 0, 0, rfl, rfl, CellsAt.nil _ _⟩
  refine condB_of (fun h1 => fail 190 (Upd.refl _ _) ?_) fun h1 => condB_of (fun h2 => fail 190 (Upd.refl _ _) ?_) fun h2 => condB_of (fun h3 => fail 1 (Upd.refl _ _) ?_) fun h3 => condB_of (fun h4 => fail 1 (Upd.refl _ _) ?_) fun h4 => ?_
  · simp only [decide_eq_true_eq] at h1
    unfold planO; rw [if_pos (.inl (empty_size.1 h1))]
  · simp only [decide_eq_true_eq] at h2
    unfold planO; rw [if_pos (.inr (by omega))]
  · simp only [decide_eq_true_eq, decide_eq_false_iff_not] at h1 h2 h3
    have h1' : ¬ k.size < 1 := fun h => h1 (empty_size.2 h)
    unfold planO; rw [if_neg (by omega), if_pos (.inl h3)]
  · simp only [decide_eq_true_eq, decide_eq_false_iff_not] at h1 h2 h4
    have h1' : ¬ k.size < 1 := fun h => h1 (empty_size.2 h)
    unfold planO; rw [if_neg (by omega), if_pos (.inr h4)]
  simp only [decide_eq_false_iff_not] at h1 h2 h3 h4
  have h1' : ¬ k.size < 1 := fun h => h1 (empty_size.2 h)
  have hp1 : planO g O k n = if FullO g O k then ([], 191) else if g.stripes - ((stripesO O).length : Int) < needsG g n then ([], 192) else (planL O (needsG g n).toNat g.stripes.toNat, 0) := by
    unfold planO
    rw [if_neg (by omega), if_neg (by omega)]
  intro w4 hd
  have h4' := h.ext hd.ext
  refine (rfind_spec h4' k).mono ?_
  rintro e w5 ⟨rfl, hf⟩
  have y5 := hd.ext
  obtain ⟨pc, lc, cc, G, hr, hO, _, _⟩ := h4'.is
  have hl := hO.1
  have rest : ¬ FullO g O k → F37_A0 (some (at0 b)) w5 n (fun v w' => Ext w w' ∧ ∃ p l c, v = .tuple #[.slice p l c, .int .i64 (planO g O k n).2] ∧ IntsAt w' p l (planO g O k n).1)
    (fun N w19 p23 l23 c23 n24 w25 => ∃ i : Nat, n24 = i ∧ (i : Int) ≤ g.stripes ∧ Ext w19 w25 ∧ l23 = (planL O N.toNat i).length ∧ OwnS w25 w19.heap.size 3 1 p23 l23 c23 (encI (planL O N.toNat i))) (fun _ _ _ _ _ n24 _ => 300 - n24.toNat) := by
    intro hnf
    rw [if_neg hnf] at hp1
    refine ⟨_, hr.row.cell rfl, _, by rw [add_add]; exact hr.row.cell rfl, _, by rw [add_add]; exact hr.row.cell rfl, _, by rw [add_add]; exact hr.row.cell rfl, _, by rw [add_add]; exact hr.row.cell rfl, _, by rw [add_add]; exact hr.row.cell rfl, ?_⟩
    refine (rneeds_spec g n (by omega) w5).mono ?_
    rintro e w19 ⟨rfl, x19⟩
    have hN := needsG_bound (g := g) (n := n) (by omega)
    refine ⟨_, rfl, ⟨0, rfl, by omega, Upd.refl _ _, by rw [planL_zero]; rfl, by rw [planL_zero]; exact OwnS.nil _ _ _ _⟩, ?_⟩
    rintro p23 l23 c23 n24 w25 ⟨i, rfl, hi, x25, rfl, own⟩
    intros
    have y25 := (y5.trans x19).trans x25
    have h25 := h.ext y25
    obtain ⟨pc2, lc2, cc2, G2, hr2, _⟩ := h25.is
    have hle := planL_length O (needsG g n).toNat i
    have hfin := planL_length O (needsG g n).toNat g.stripes.toNat
    -- the end
    have fin : (planL O (needsG g n).toNat i = planL O (needsG g n).toNat g.stripes.toNat) →
        condB (decide (((planL O (needsG g n).toNat i).length : Int) < needsG g n)) ((fun v w' => Ext w w' ∧ ∃ p l c, v = Value.tuple #[.slice p l c, .int .i64 (planO g O k n).2] ∧ IntsAt w' p l (planO g O k n).1) (Value.tuple #[.slice none 0 0, .int .i64 (192 : Int)]) w25)
          ((fun v w' => Ext w w' ∧ ∃ p l c, v = Value.tuple #[.slice p l c, .int .i64 (planO g O k n).2] ∧ IntsAt w' p l (planO g O k n).1) (Value.tuple #[.slice p23 (planL O (needsG g n).toNat i).length c23, .int .i64 (0 : Int)]) w25) := by
      intro he
      refine condB_of (fun hlt => fail 192 y25 ?_) (fun hge => ?_)
      · simp only [decide_eq_true_eq] at hlt
        rw [hp1, if_pos (by rw [he] at hlt; omega)]
      · simp only [decide_eq_false_iff_not] at hge
        rw [if_neg (by rw [he] at hge; omega)] at hp1
        rw [hp1, ← he]
        exact ⟨y25, p23, _, c23, rfl, own_ints own⟩
    refine ⟨_, by rw [add_add]; exact hr2.row.cell rfl, condB_of (fun hlt => ?_) (fun hge => ?_)⟩
    · simp only [decide_eq_true_eq] at hlt
      by_cases hlen : ((planL O (needsG g n).toNat i).length : Int) < needsG g n
      · refine condB_t (decide_eq_true hlen) ?_
        refine (rowner_spec h25 (i : Int)).mono ?_
        rintro e w57 ⟨rfl, rfl⟩
        have hs := planL_succ O (needsG g n).toNat i
        have hmu : 300 - ((i : Int) + 1).toNat < 300 - (i : Int).toNat := by omega
        cases ho : ownO (i : Int) O with
        | none =>
          have hn := ownO_none.1 ho
          rw [if_pos ⟨hn, by omega⟩] at hs
          refine ⟨_, _, rfl, condB_of (fun _ => ?_) fun h => by cases h⟩
          intro k61 w62 hk61
          have hx62 := x25.trans hk61.ext
          have own62 := own.ext hk61.ext
          obtain ⟨p', c', w63, hr3, ho3, hu3, _⟩ := own62.append elemI 37 (q := some (at0 k61)) (m := 1) (d := 1) (news := [.int .i64 (i : Int)]) rfl (fun j u hj => ⟨_, rfl, Row.cell ⟨_, _, hk61.at⟩ (by simpa using hj)⟩) (fun h => by cases h) (by intro u hu; simp only [List.mem_singleton] at hu; subst hu; rfl) (by have := planL_len O (needsG g n).toNat i; unfold maxLen; omega) (by have := planL_len O (needsG g n).toNat i; omega) hx62.size
          refine ⟨p', (planL O (needsG g n).toNat i).length + 1, c', w63, hr3, ?_⟩
          rw [w64 (n := (i : Int) + 1) (by omega)]
          refine ⟨⟨i + 1, by omega, by omega, ?_, by rw [hs]; simp, ?_⟩, hmu⟩
          · refine Upd.trans hx62 hu3 fun x hx hs => ?_
            rcases own62.where_ with ⟨h0, _⟩ | ⟨q, h0, hge, _⟩
            · rw [h0] at hs; cases hs
            · rw [h0] at hs
              simp only [Option.some.injEq, at0, Addr.mk.injEq, and_true] at hs
              omega
          · rw [hs]
            have : encI (planL O (needsG g n).toNat i ++ [(i : Int)]) = encI (planL O (needsG g n).toNat i) ++ [.int .i64 (i : Int)] := by simp [encI]
            rw [this]; exact ho3
        | some o =>
          have hn : ¬ ((i : Int) ∉ stripesO O) := fun hh => by rw [ownO_none.2 hh] at ho; cases ho
          rw [if_neg (fun hh => hn hh.1)] at hs
          refine ⟨_, _, rfl, condB_of (fun h => by cases h) fun _ => ?_⟩
          rw [w64 (n := (i : Int) + 1) (by omega)]
          exact ⟨⟨i + 1, by omega, by omega, x25, by rw [hs], by rw [hs]; exact own⟩, hmu⟩
      · refine condB_f (decide_eq_false hlen) (fin ?_)
        have hst := planL_stable (O := O) (n := (needsG g n).toNat) (i := i) (by omega) (g.stripes.toNat - i)
        rw [show i + (g.stripes.toNat - i) = g.stripes.toNat by omega] at hst
        exact hst.symm
    · simp only [decide_eq_false_iff_not] at hge
      exact fin (by rw [show g.stripes.toNat = i by omega])
  rcases hf with ⟨rfl, hno⟩ | ⟨i, o, rfl, ho, hkey⟩
  · have hnone : getO k O = none := by
      unfold getO
      rw [get_none, keys_pairs]
      intro hm
      obtain ⟨o, ho, hk⟩ := List.mem_map.1 hm
      exact hno o ho hk
    refine ⟨_, rfl, condB_t rfl ⟨_, _, _, hr.row.cell rfl, _, by rw [add_add]; exact hr.row.cell rfl, condB_of (fun hge => fail 191 y5 ?_) (fun hlt => rest ?_)⟩⟩
    · simp only [decide_eq_true_eq] at hge
      rw [hp1, if_pos ⟨hnone, by rw [← hl]; exact hge⟩]
    · simp only [decide_eq_false_iff_not] at hlt
      exact fun hfu => hlt (by rw [hl]; exact hfu.2)
  · refine ⟨_, rfl, condB_f (decide_eq_false (by omega)) (rest fun hfu => ?_)⟩
    have hg : getO k O = some o := (getO_some h.ok.asc.keys).2 ⟨List.mem_of_getElem? ho, hkey⟩
    rw [hfu.1] at hg; cases hg
end
end Go.Proofs.Ytclkoojcibgcdaa
