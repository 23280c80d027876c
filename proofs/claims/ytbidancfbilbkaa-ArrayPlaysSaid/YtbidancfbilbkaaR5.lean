/- The document's array: Restart, New. -/
import Derived.Test.YtbidancfbilbkaaR4
namespace Go.Proofs.Ytbidancfbilbkaa
open Go Go.Vc

def crashDs (KS : List (List Int)) (i : Nat) (Ds : List Dk) : List Dk := Ds.mapIdx fun j D => if j < i then crashD D (KS.getD j []) else D
theorem crashDs_len (KS : List (List Int)) (i : Nat) (Ds : List Dk) : (crashDs KS i Ds).length = Ds.length := by simp [crashDs]
theorem crashDs_at {KS : List (List Int)} {i : Nat} {Ds : List Dk} {D : Dk} (h : Ds[i]? = some D) : (crashDs KS i Ds)[i]? = some D := by simp [crashDs, h]
theorem crashDs_set {KS : List (List Int)} {i : Nat} {Ds : List Dk} {D : Dk} (h : Ds[i]? = some D) : (crashDs KS i Ds).set i (crashD D (KS.getD i [])) = crashDs KS (i + 1) Ds := by
  apply List.ext_getElem?
  intro j
  rw [List.getElem?_set]
  by_cases hji : i = j
  · subst hji
    have hl := (List.getElem?_eq_some_iff.1 h).1
    rw [if_pos rfl, if_pos (by rw [crashDs_len]; exact hl)]
    simp [crashDs, h]
  · rw [if_neg hji]
    simp only [crashDs, List.getElem?_mapIdx]
    cases Ds[j]? with
    | none => rfl
    | some m =>
      simp only [Option.map_some]
      by_cases h1 : j < i
      · rw [if_pos h1, if_pos (by omega)]
      · rw [if_neg h1, if_neg (by omega)]

section
variable {w : World} {r : Nat} {Ds : List Dk} {B : List Int} {left : Int} {off : Bool} {F : Nat → Prop}

set_option maxHeartbeats 1000000 in
theorem ra_restart (h : IsRA w r Ds B left off F) (hM : Ds.length ≤ 100) {KB : Nat → Prop} (hKF : ∀ x, KB x → ¬ F x) (hKnew : ∀ x, KB x → ¬ w.heap.size ≤ x) {p : Option Addr} {l c : Nat} {KS : List (List Int)} (hK : KeepAt w KB p l KS) (hks : ∀ ks ∈ KS, ks.length ≤ 4096) :
    Calls Try.prog 46 #[.pointer (some (at0 r)), .slice p l c] w fun e w' => ∃ F', e = .returned (.tuple #[]) ∧ Step F F' w w' ∧ IsRA w' r (crashDs KS Ds.length Ds) B (-1) false F' := by
  refine (F46_calls (some (at0 r)) p l c w (fun v w' => ∃ F', v = .tuple #[] ∧ Step F F' w w' ∧ IsRA w' r (crashDs KS Ds.length Ds) B (-1) false F')
    (fun _ n3 w4 => ∃ (i : Nat) (F' : Nat → Prop), n3 = i ∧ i ≤ Ds.length ∧ Step F F' w w4 ∧ IsRA w4 r (crashDs KS i Ds) B left off F') (fun _ n3 _ => 100 - n3.toNat) ?_).mono (by rintro e w' ⟨v, rfl, F', rfl, h⟩; exact ⟨F', rfl, h⟩)
  have hl := hK.1
  have hzero : crashDs KS 0 Ds = Ds := by
    apply List.ext_getElem?
    intro j
    simp [crashDs]
  refine ⟨⟨0, F, rfl, Nat.zero_le _, Step.refl _ _, by rw [hzero]; exact h⟩, ?_⟩
  rintro n3 w4 ⟨i, F', rfl, hi, s4, h4⟩
  intros
  obtain ⟨pD, cD, pB, cB, hr4⟩ := h4.row
  rw [crashDs_len] at hr4
  refine ⟨_, _, _, hr4.row.cell rfl, condB_of (fun hlt => ?_) (fun hge => ?_)⟩
  · simp only [decide_eq_true_eq] at hlt
    obtain ⟨D, hD⟩ : ∃ D, Ds[i]? = some D := ⟨Ds[i]'(by omega), List.getElem?_eq_getElem _⟩
    have go : ∀ w47 (Fi F1 : Nat → Prop) (F2 : Nat → Prop), Step F' F2 w4 w47 → IsRA w47 r ((crashDs KS i Ds).set i (crashD D (KS.getD i []))) B left off F2 →
        (∃ (i_1 : Nat) (F' : Nat → Prop), IntKind.i64.wrap ((i : Int) + 1) = i_1 ∧ i_1 ≤ Ds.length ∧ Step F F' w w47 ∧ IsRA w47 r (crashDs KS i_1 Ds) B left off F') ∧ 100 - (IntKind.i64.wrap ((i : Int) + 1)).toNat < 100 - (i : Int).toNat := by
      intro w47 _ _ F2 hs hA
      rw [crashDs_set hD] at hA
      rw [w64 (by omega)]
      exact ⟨⟨i + 1, F2, by omega, by omega, s4.trans hs, hA⟩, by omega⟩
    refine condB_of (fun hil => ?_) (fun hil => ?_)
    · simp only [decide_eq_true_eq] at hil
      intro w40 hd40
      have h40 := h4.ext hd40.ext
      obtain ⟨ap, cD', b, Fi, e0, e1, hd, hFi, hstep⟩ := h40.at (crashDs_at hD)
      rw [crashDs_len] at e0
      obtain ⟨ks, hksi⟩ : ∃ ks, KS[i]? = some ks := ⟨KS[i]'(by omega), List.getElem?_eq_getElem _⟩
      obtain ⟨aa, q, nn, cc, rfl, hka, ec, hints, hkb, hnn⟩ := ((hK.upd s4.upd hKF).upd hd40.ext fun _ _ h => h).2 i ks hksi
      refine ⟨_, _, _, e0, ⟨by omega, hlt⟩, some (at0 b), by rw [Int.toNat_natCast]; exact e1, ⟨by omega, hil⟩, _, _, _, by rw [Int.toNat_natCast]; exact ec, ?_⟩
      have hnl := hints.1
      have hkl := hks ks (List.mem_of_getElem? hksi)
      refine (rd_crash hd hints (by omega) fun a' ha hne hf => ?_).mono ?_
      · have hw := hkb hne a' ha
        rcases s4.grow _ (hFi _ hf).1 with h1 | h1
        · exact hKF _ hw h1
        · exact hKnew _ hw h1
      rintro e w47 ⟨F1, rfl, hs, hd'⟩
      have : KS.getD i [] = ks := by simp [List.getD, hksi]
      obtain ⟨F2, hA, hS⟩ := hstep w47 _ F1 hs hd'
      refine ⟨rfl, go w47 Fi F1 F2 ((Step.ext hd40.ext).trans hS) (by rw [this]; exact hA)⟩
    · simp only [decide_eq_false_iff_not] at hil
      obtain ⟨ap, cD', b, Fi, e0, e1, hd, hFi, hstep⟩ := h4.at (crashDs_at hD)
      rw [crashDs_len] at e0
      refine ⟨_, _, _, e0, ⟨by omega, hlt⟩, some (at0 b), by rw [Int.toNat_natCast]; exact e1, ?_⟩
      have hnil : IntsAt w4 none 0 [] := ⟨rfl, CellsAt.nil _ _⟩
      refine (rd_crash hd hnil (by omega) fun a' ha => by cases ha).mono ?_
      rintro e w53 ⟨F1, rfl, hs, hd'⟩
      have : KS.getD i [] = [] := by
        have : KS[i]? = none := List.getElem?_eq_none (by omega)
        simp [List.getD, this]
      obtain ⟨F2, hA, hS⟩ := hstep w53 _ F1 hs hd'
      exact ⟨rfl, go w53 Fi F1 F2 hS (by rw [this]; exact hA)⟩
  · simp only [decide_eq_false_iff_not] at hge
    have hil : i = Ds.length := by omega
    subst hil
    refine ⟨hr4.live (by simp), fun w56 s56 => ?_⟩
    obtain ⟨h56, st56⟩ := h4.setOff s56
    obtain ⟨_, _, _, _, hr56⟩ := h56.row
    refine ⟨hr56.live (by simp), fun w58 s58 => ?_⟩
    obtain ⟨h58, st58⟩ := h56.setLeft s58
    exact ⟨F', rfl, (s4.trans st56).trans st58, h58⟩
end
end Go.Proofs.Ytbidancfbilbkaa
