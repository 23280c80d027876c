/- The document's array: Fail, Replace, Flush, Live. -/
import Derived.Test.YtbidancfbilbkaaR3
namespace Go.Proofs.Ytbidancfbilbkaa
open Go Go.Vc

section
variable {w : World} {r : Nat} {Ds : List Dk} {B : List Int} {left : Int} {off : Bool} {F : Nat → Prop}

theorem ra_fail_out (h : IsRA w r Ds B left off F) {i : Int} (hi : ¬ (0 ≤ i ∧ i < Ds.length)) : Calls Try.prog 47 #[.pointer (some (at0 r)), .int .i64 i] w fun e w' => e = .returned (.int .i64 1) ∧ w' = w := by
  refine (F47_calls (some (at0 r)) i w (fun v w' => v = .int .i64 1 ∧ w' = w) ?_).mono (by rintro e w' ⟨v, rfl, rfl, h⟩; exact ⟨rfl, h⟩)
  refine (ra_there h i).mono ?_
  rintro e w7 ⟨rfl, rfl⟩
  exact ⟨_, rfl, condB_of (fun _ => ⟨rfl, rfl⟩) fun h1 => by simp at h1; omega⟩
theorem ra_replace_out (h : IsRA w r Ds B left off F) {i : Int} (hi : ¬ (0 ≤ i ∧ i < Ds.length)) : Calls Try.prog 48 #[.pointer (some (at0 r)), .int .i64 i] w fun e w' => e = .returned (.int .i64 1) ∧ w' = w := by
  refine (F48_calls (some (at0 r)) i w (fun v w' => v = .int .i64 1 ∧ w' = w) ?_).mono (by rintro e w' ⟨v, rfl, rfl, h⟩; exact ⟨rfl, h⟩)
  refine (ra_there h i).mono ?_
  rintro e w7 ⟨rfl, rfl⟩
  exact ⟨_, rfl, condB_of (fun _ => ⟨rfl, rfl⟩) fun h1 => by simp at h1; omega⟩
theorem ra_fail (h : IsRA w r Ds B left off F) {i : Nat} {D : Dk} (hi : Ds[i]? = some D) {n : Int} (hn : B[i]? = some n) :
    Calls Try.prog 47 #[.pointer (some (at0 r)), .int .i64 (i : Int)] w fun e w' => ∃ F', e = .returned (.int .i64 0) ∧ Step F F' w w' ∧ IsRA w' r (Ds.set i { D with dead := true, lasts := [], waits := [] }) (B.set i (IntKind.i64.wrap (n + 1))) left off F' := by
  refine (F47_calls (some (at0 r)) (i : Int) w (fun v w' => ∃ F', v = .int .i64 0 ∧ Step F F' w w' ∧ IsRA w' r (Ds.set i { D with dead := true, lasts := [], waits := [] }) (B.set i (IntKind.i64.wrap (n + 1))) left off F') ?_).mono (by rintro e w' ⟨v, rfl, F', rfl, h⟩; exact ⟨F', rfl, h⟩)
  have hil : i < Ds.length := (List.getElem?_eq_some_iff.1 hi).1
  have hib : i < B.length := (List.getElem?_eq_some_iff.1 hn).1
  refine (ra_there h (i : Int)).mono ?_
  rintro e w7 ⟨rfl, rfl⟩
  obtain ⟨ap, cD', b, Fi, e0, e1, hd, _, hstep⟩ := h.at hi
  refine ⟨_, rfl, condB_of (fun h0 => by simp at h0; omega) fun _ => ⟨_, _, _, e0, ⟨by omega, by omega⟩, _, by rw [Int.toNat_natCast]; exact e1, ?_⟩⟩
  refine (rd_fail hd).mono ?_
  rintro e w10 ⟨rfl, hs, hd'⟩
  obtain ⟨F2, hA, hS⟩ := hstep w10 _ _ hs hd'
  obtain ⟨aB, cB, e2, e3, hl, hset⟩ := hA.born hn
  refine ⟨rfl, _, _, _, e2, ⟨by omega, by omega⟩, _, by rw [Int.toNat_natCast]; exact e3, ⟨by omega, by omega⟩, by rw [Int.toNat_natCast]; exact hl, fun w17 s17 => ?_⟩
  rw [Int.toNat_natCast] at s17
  obtain ⟨hA2, hS2⟩ := hset _ _ s17
  exact ⟨F2, rfl, hS.trans hS2, hA2⟩
theorem ra_replace (h : IsRA w r Ds B left off F) {i : Nat} {D : Dk} (hi : Ds[i]? = some D) {n : Int} (hn : B[i]? = some n) :
    Calls Try.prog 48 #[.pointer (some (at0 r)), .int .i64 (i : Int)] w fun e w' => ∃ F', e = .returned (.int .i64 0) ∧ Step F F' w w' ∧ IsRA w' r (Ds.set i { D with dead := false, lasts := [], waits := [] }) (B.set i (IntKind.i64.wrap (n + 1))) left off F' := by
  refine (F48_calls (some (at0 r)) (i : Int) w (fun v w' => ∃ F', v = .int .i64 0 ∧ Step F F' w w' ∧ IsRA w' r (Ds.set i { D with dead := false, lasts := [], waits := [] }) (B.set i (IntKind.i64.wrap (n + 1))) left off F') ?_).mono (by rintro e w' ⟨v, rfl, F', rfl, h⟩; exact ⟨F', rfl, h⟩)
  have hil : i < Ds.length := (List.getElem?_eq_some_iff.1 hi).1
  have hib : i < B.length := (List.getElem?_eq_some_iff.1 hn).1
  refine (ra_there h (i : Int)).mono ?_
  rintro e w7 ⟨rfl, rfl⟩
  obtain ⟨ap, cD', b, Fi, e0, e1, hd, _, hstep⟩ := h.at hi
  refine ⟨_, rfl, condB_of (fun h0 => by simp at h0; omega) fun _ => ⟨_, _, _, e0, ⟨by omega, by omega⟩, _, by rw [Int.toNat_natCast]; exact e1, ?_⟩⟩
  refine (rd_replace hd).mono ?_
  rintro e w10 ⟨rfl, hs, hd'⟩
  obtain ⟨F2, hA, hS⟩ := hstep w10 _ _ hs hd'
  obtain ⟨aB, cB, e2, e3, hl, hset⟩ := hA.born hn
  refine ⟨rfl, _, _, _, e2, ⟨by omega, by omega⟩, _, by rw [Int.toNat_natCast]; exact e3, ⟨by omega, by omega⟩, by rw [Int.toNat_natCast]; exact hl, fun w17 s17 => ?_⟩
  rw [Int.toNat_natCast] at s17
  obtain ⟨hA2, hS2⟩ := hset _ _ s17
  exact ⟨F2, rfl, hS.trans hS2, hA2⟩

def flushDs (i : Nat) (Ds : List Dk) : List Dk := Ds.mapIdx fun j D => if j < i then flushD D else D
theorem flushDs_len (i : Nat) (Ds : List Dk) : (flushDs i Ds).length = Ds.length := by simp [flushDs]
theorem flushDs_at {i : Nat} {Ds : List Dk} {D : Dk} (h : Ds[i]? = some D) : (flushDs i Ds)[i]? = some D := by simp [flushDs, h]
theorem flushDs_set {i : Nat} {Ds : List Dk} {D : Dk} (h : Ds[i]? = some D) : (flushDs i Ds).set i (flushD D) = flushDs (i + 1) Ds := by
  apply List.ext_getElem?
  intro j
  rw [List.getElem?_set]
  by_cases hji : i = j
  · subst hji
    have hl := (List.getElem?_eq_some_iff.1 h).1
    rw [if_pos rfl, if_pos (by rw [flushDs_len]; exact hl)]
    simp [flushDs, h]
  · rw [if_neg hji]
    simp only [flushDs, List.getElem?_mapIdx]
    cases Ds[j]? with
    | none => rfl
    | some m =>
      simp only [Option.map_some]
      by_cases h1 : j < i
      · rw [if_pos h1, if_pos (by omega)]
      · rw [if_neg h1, if_neg (by omega)]

theorem ra_flush_off (h : IsRA w r Ds B left true F) : Calls Try.prog 44 #[.pointer (some (at0 r))] w fun e w' => e = .returned (.int .i64 130) ∧ w' = w := by
  refine (F44_calls (some (at0 r)) w (fun v w' => v = .int .i64 130 ∧ w' = w) (fun _ _ _ => False) (fun _ _ _ => 0) ?_).mono (by rintro e w' ⟨v, rfl, rfl, h⟩; exact ⟨rfl, h⟩)
  obtain ⟨pD, cD, pB, cB, hr⟩ := h.row
  exact ⟨_, hr.row.cell rfl, condB_of (fun _ => ⟨rfl, rfl⟩) fun h => by cases h⟩
theorem ra_flush (h : IsRA w r Ds B left false F) (hM : Ds.length ≤ 100) : Calls Try.prog 44 #[.pointer (some (at0 r))] w fun e w' => ∃ F', e = .returned (.int .i64 0) ∧ Step F F' w w' ∧ IsRA w' r (flushDs Ds.length Ds) B left false F' := by
  refine (F44_calls (some (at0 r)) w (fun v w' => ∃ F', v = .int .i64 0 ∧ Step F F' w w' ∧ IsRA w' r (flushDs Ds.length Ds) B left false F')
    (fun _ n4 w5 => ∃ (i : Nat) (F' : Nat → Prop), n4 = i ∧ i ≤ Ds.length ∧ Step F F' w w5 ∧ IsRA w5 r (flushDs i Ds) B left false F') (fun _ n4 _ => 100 - n4.toNat) ?_).mono (by rintro e w' ⟨v, rfl, F', rfl, h⟩; exact ⟨F', rfl, h⟩)
  obtain ⟨pD, cD, pB, cB, hr⟩ := h.row
  have h0 : flushDs 0 Ds = Ds := by
    apply List.ext_getElem?
    intro j
    simp only [flushDs, List.getElem?_mapIdx]
    cases Ds[j]? <;> simp
  refine ⟨_, hr.row.cell rfl, condB_of (fun h => by cases h) fun _ => ⟨⟨0, F, rfl, Nat.zero_le _, Step.refl _ _, by rw [h0]; exact h⟩, ?_⟩⟩
  rintro n4 w5 ⟨i, F5, rfl, hi, s5, h5⟩
  intros
  obtain ⟨pD5, cD5, pB5, cB5, hr5⟩ := h5.row
  rw [flushDs_len] at hr5
  refine ⟨_, _, _, hr5.row.cell rfl, condB_of (fun hlt => ?_) (fun hge => ?_)⟩
  · simp only [decide_eq_true_eq] at hlt
    obtain ⟨D, hD⟩ : ∃ D, Ds[i]? = some D := ⟨Ds[i]'(by omega), List.getElem?_eq_getElem _⟩
    obtain ⟨ap, cD', b, Fi, e0, e1, hd, _, hstep⟩ := h5.at (flushDs_at hD)
    rw [flushDs_len] at e0
    refine ⟨_, _, _, e0, ⟨by omega, hlt⟩, _, by rw [Int.toNat_natCast]; exact e1, ?_⟩
    refine (rd_flush hd).mono ?_
    rintro e w29 ⟨F1, rfl, hs, hd'⟩
    obtain ⟨F2, hA, hS⟩ := hstep w29 _ F1 hs hd'
    rw [flushDs_set hD] at hA
    rw [w64 (by omega)]
    exact ⟨_, rfl, ⟨i + 1, F2, by omega, by omega, s5.trans hS, hA⟩, by show 100 - ((i : Int) + 1).toNat < 100 - (i : Int).toNat; omega⟩
  · simp only [decide_eq_false_iff_not] at hge
    have : i = Ds.length := by omega
    subst this
    exact ⟨F5, rfl, s5, h5⟩

theorem ra_live (h : IsRA w r Ds B left off F) (hM : Ds.length ≤ 100) : Calls Try.prog 50 #[.pointer (some (at0 r))] w fun e w' => ∃ p l c, e = .returned (.slice p l c) ∧ Ext w w' ∧ l = Ds.length ∧
    OwnS w' w.heap.size 4 1 p l c (Ds.map fun D => .bool (!D.dead)) := by
  refine (F50_calls (some (at0 r)) w (fun v w' => ∃ p l c, v = .slice p l c ∧ Ext w w' ∧ l = Ds.length ∧ OwnS w' w.heap.size 4 1 p l c (Ds.map fun D => .bool (!D.dead)))
    (fun _ p8 l8 c8 n9 w10 => ∃ i : Nat, n9 = i ∧ i ≤ Ds.length ∧ Ext w w10 ∧ l8 = i ∧ OwnS w10 w.heap.size 4 1 p8 l8 c8 ((Ds.take i).map fun D => .bool (!D.dead))) (fun _ _ _ _ n9 _ => 100 - n9.toNat) ?_).mono (by
      rintro e w' ⟨v, rfl, p, l, c, rfl, h⟩; exact ⟨p, l, c, rfl, h⟩)
  refine ⟨⟨0, rfl, Nat.zero_le _, Upd.refl _ _, rfl, OwnS.nil _ _ _ _⟩, ?_⟩
  rintro p8 l8 c8 n9 w10 ⟨i, rfl, hi, x10, rfl, own⟩
  intros
  have h10 := h.ext x10
  obtain ⟨pD, cD, pB, cB, hr⟩ := h10.row
  refine ⟨_, _, _, hr.row.cell rfl, condB_of (fun hlt => ?_) (fun hge => ?_)⟩
  · simp only [decide_eq_true_eq] at hlt
    obtain ⟨D, hD⟩ : ∃ D, Ds[l8]? = some D := ⟨Ds[l8]'(by omega), List.getElem?_eq_getElem _⟩
    obtain ⟨ap, cD', b, Fi, e0, e1, hd, _, _⟩ := h10.at hD
    obtain ⟨pL, lL, cL, pW, lW, cW, G, hrow, _⟩ := hd.row
    refine ⟨_, _, _, e0, ⟨by omega, hlt⟩, some (at0 b), by rw [Int.toNat_natCast]; exact e1, _, hrow.row.cell rfl, fun k36 w37 hk => ?_⟩
    obtain ⟨p', c', w38, hrun, own38, x38⟩ := app_one elemBool (by omega) x10 own hk rfl (by omega)
    refine ⟨p', l8 + 1, c', w38, hrun, ?_⟩
    rw [w64 (by omega)]
    refine ⟨⟨l8 + 1, by omega, by omega, x38, rfl, ?_⟩, by show 100 - ((l8 : Int) + 1).toNat < 100 - (l8 : Int).toNat; omega⟩
    rw [List.take_add_one, hD]
    simpa using own38
  · simp only [decide_eq_false_iff_not] at hge
    have : Ds.take l8 = Ds := List.take_of_length_le (by omega)
    rw [this] at own
    exact ⟨p8, l8, c8, rfl, x10, by omega, own⟩
end
end Go.Proofs.Ytbidancfbilbkaa
