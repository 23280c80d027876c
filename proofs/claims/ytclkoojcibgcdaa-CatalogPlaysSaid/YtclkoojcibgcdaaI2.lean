/- Two lists of ints: are they the same? -/
import Derived.Test.YtclkoojcibgcdaaI1
import Derived.Test.YtclkoojcibgcdaaGb
namespace Go.Proofs.Ytclkoojcibgcdaa
open Go Go.Vc

set_option maxHeartbeats 1000000 in
theorem eqi_spec {w : World} {p1 p2 : Option Addr} {l1 c1 l2 c2 : Nat} {A B : List Int} (h1 : l1 = A.length ∧ CellsAt w p1 (A.map (Value.int .i64))) (h2 : l2 = B.length ∧ CellsAt w p2 (B.map (Value.int .i64))) (hl : l1 ≤ 1000) :
    Calls Try.prog 27 #[.slice p1 l1 c1, .slice p2 l2 c2] w fun e w' => e = .returned (.bool (decide (A = B))) ∧ Ext w w' := by
  refine (F27_calls p1 l1 c1 p2 l2 c2 w (fun v w' => v = .bool (decide (A = B)) ∧ Ext w w') (fun _ n w4 => ∃ i : Nat, n = i ∧ i ≤ l1 ∧ Ext w w4 ∧ A.take i = B.take i) (fun _ n _ => 1000 - n.toNat) ?_).mono (by rintro e w' ⟨v, rfl, rfl, h⟩; exact ⟨rfl, h⟩)
  have e1 := h1.1
  have e2 := h2.1
  refine condB_of (fun hne => ?_) (fun heq => ?_)
  · simp only [Bool.not_eq_true', decide_eq_false_iff_not] at hne
    refine ⟨?_, Upd.refl _ _⟩
    have : ¬ A = B := by rintro rfl; omega
    simp [this]
  simp only [Bool.not_eq_false', decide_eq_true_eq] at heq
  refine ⟨⟨0, rfl, Nat.zero_le _, Upd.refl _ _, by simp⟩, ?_⟩
  rintro n w4 ⟨i, rfl, hi, x4, ht⟩
  intros
  refine condB_of (fun hlt => ?_) (fun hge => ?_)
  · simp only [decide_eq_true_eq] at hlt
    intro w21 d21
    have x21 := x4.trans d21.ext
    obtain ⟨x, hx⟩ : ∃ x, A[i]? = some x := ⟨A[i]'(by omega), List.getElem?_eq_getElem _⟩
    obtain ⟨y, hy⟩ : ∃ y, B[i]? = some y := ⟨B[i]'(by omega), List.getElem?_eq_getElem _⟩
    obtain ⟨a, rfl, ca⟩ := (h1.2.ext x21) i ((Value.int .i64) x) (by rw [List.getElem?_map, hx]; rfl)
    obtain ⟨b, rfl, cb⟩ := (h2.2.ext x21) i ((Value.int .i64) y) (by rw [List.getElem?_map, hy]; rfl)
    rw [Int.toNat_natCast, Nat.mul_one]
    refine ⟨⟨by omega, hlt⟩, x, ca, ⟨by omega, by omega⟩, y, cb, condB_of (fun hne => ?_) (fun he => ?_)⟩
    · refine ⟨?_, x21⟩
      have : ¬ A = B := by
        rintro rfl
        rw [hx] at hy
        cases hy
        simp at hne
      simp [this]
    · have he' : x = y := by simpa using he
      subst he'
      rw [w64 (by omega)]
      refine ⟨⟨i + 1, by omega, by omega, x21, ?_⟩, by show 1000 - ((i : Int) + 1).toNat < 1000 - (i : Int).toNat; omega⟩
      rw [List.take_add_one, List.take_add_one, ht, hx, hy]
  · simp only [decide_eq_false_iff_not] at hge
    refine ⟨?_, x4⟩
    have f1 : A.take i = A := List.take_of_length_le (by omega)
    have f2 : B.take i = B := List.take_of_length_le (by omega)
    rw [f1, f2] at ht
    simp [ht]
end Go.Proofs.Ytclkoojcibgcdaa
