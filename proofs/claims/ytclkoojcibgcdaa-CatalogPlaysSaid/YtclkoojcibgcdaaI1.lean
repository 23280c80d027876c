/- Slices of ints: is a number there? -/
import Derived.Test.YtclkoojcibgcdaaGa
import Derived.Test.YtclkoojcibgcdaaRepS
namespace Go.Proofs.Ytclkoojcibgcdaa
open Go.Vc

/-! ## a slice of ints -/

def IntsAt (w : World) (p : Option Addr) (n : Nat) (xs : List Int) : Prop := n = xs.length ∧ CellsAt w p (xs.map fun x => .int .i64 x)

theorem IntsAt.ext {w w' : World} {p : Option Addr} {n : Nat} {xs : List Int} (h : IntsAt w p n xs) (hu : Ext w w') : IntsAt w' p n xs := ⟨h.1, h.2.ext hu⟩
theorem IntsAt.get {w : World} {p : Option Addr} {n : Nat} {xs : List Int} (h : IntsAt w p n xs) {i : Nat} (hi : i < n) : ∃ a, p = some a ∧ w.cell? (a.add i) = some (.int .i64 (xs.getD i 0)) := by
  have hlt : i < xs.length := by rw [← h.1]; exact hi
  obtain ⟨a, ha, hc⟩ := h.2 i (.int .i64 xs[i]) (by simp [hlt])
  exact ⟨a, ha, by rw [hc]; simp [List.getD_eq_getElem?_getD, hlt]⟩

theorem index_spec {p : Option Addr} {l c : Nat} {x : Int} {w : World} {xs : List Int} (h : IntsAt w p l xs) (hm : l ≤ 4611686018427387904) :
    Calls Try.prog 57 #[.slice p l c, .int .i64 x] w fun e w' => ∃ i : Int, e = .returned (.int .i64 i) ∧ (0 ≤ i ↔ x ∈ xs) ∧ w' = w := by
  have hl := h.1
  refine (F57_calls p l c x w (fun v w' => ∃ i : Int, v = .int .i64 i ∧ (0 ≤ i ↔ x ∈ xs) ∧ w' = w)
    (fun _ _ i w1 => 0 ≤ i ∧ i ≤ l ∧ w1 = w ∧ ∀ j : Nat, (j : Int) < i → xs.getD j 0 ≠ x) (fun _ _ i _ => (l - i).toNat) ?_).mono (by rintro e w' ⟨v, rfl, i, rfl, h⟩; exact ⟨i, rfl, h⟩)
  refine ⟨⟨by omega, by omega, rfl, fun j hj => by omega⟩, ?_⟩
  rintro i w5 ⟨hi0, hi1, rfl, hall⟩
  intros
  refine condB_of (fun ht => ?_) (fun ht => ?_)
  · simp only [decide_eq_true_eq] at ht
    refine ⟨⟨hi0, ht⟩, ?_⟩
    obtain ⟨a, rfl, ha⟩ := h.get (i := i.toNat) (by omega)
    refine ⟨_, by rw [Nat.mul_one]; exact ha, ?_⟩
    refine condB_of (fun he => ?_) (fun he => ?_)
    · simp only [decide_eq_true_eq] at he
      refine ⟨i, rfl, ⟨fun _ => ?_, fun _ => hi0⟩, rfl⟩
      rw [he, List.getD_eq_getElem?_getD, List.getElem?_eq_getElem (by omega)]
      exact List.getElem_mem _
    · simp only [decide_eq_false_iff_not] at he
      rw [w64 (by omega)]
      refine ⟨⟨by omega, by omega, rfl, fun j hj => ?_⟩, by show ((l : Int) - (i + 1)).toNat < ((l : Int) - i).toNat; omega⟩
      by_cases h2 : (j : Int) < i
      · exact hall j h2
      · have : j = i.toNat := by omega
        rw [this]; exact Ne.symm he
  · simp only [decide_eq_false_iff_not] at ht
    refine ⟨-1, rfl, ⟨fun h0 => by omega, fun hx => ?_⟩, rfl⟩
    exfalso
    obtain ⟨j, hj, rfl⟩ := List.getElem_of_mem hx
    exact hall j (by omega) (by simp [List.getD_eq_getElem?_getD, hj])

theorem contains_spec {p : Option Addr} {l c : Nat} {x : Int} {w : World} {xs : List Int} (h : IntsAt w p l xs) (hm : l ≤ 4611686018427387904) :
    Calls Try.prog 50 #[.slice p l c, .int .i64 x] w fun e w' => e = .returned (.bool (decide (x ∈ xs))) ∧ w' = w := by
  refine (F50_calls p l c x w (fun v w' => v = .bool (decide (x ∈ xs)) ∧ w' = w) ?_).mono (by rintro e w' ⟨v, rfl, rfl, h⟩; exact ⟨rfl, h⟩)
  refine (index_spec h hm).mono ?_
  rintro e w' ⟨i, rfl, hi, rfl⟩
  refine ⟨i, rfl, ?_, rfl⟩
  simp only [hi]
end Go.Proofs.Ytclkoojcibgcdaa
