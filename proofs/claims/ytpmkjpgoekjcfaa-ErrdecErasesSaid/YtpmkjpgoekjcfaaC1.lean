/- The small functions of bytes, and why a sector is not read or written. -/
import Derived.Test.YtpmkjpgoekjcfaaGa
import Derived.Test.YtpmkjpgoekjcfaaRepM
namespace Go.Proofs.Ytpmkjpgoekjcfaa
open Go.Vc

theorem getD_inj {xs ys : List UInt8} (i : Nat) : ((xs.getD i 0).toNat : Int) = ((ys.getD i 0).toNat : Int) ↔ xs.getD i 0 = ys.getD i 0 := by
  constructor
  · intro h; exact UInt8.toNat_inj.1 (by omega)
  · intro h; rw [h]

/-- two slices of bytes: are they the same? -/
theorem same_spec {p1 p2 : Option Addr} {l1 c1 l2 c2 : Nat} {w : World} {xs ys : List UInt8} (h1 : BytesAt w p1 l1 xs) (h2 : BytesAt w p2 l2 ys) (hm : l1 ≤ 4611686018427387904) :
    Calls Try.prog 14 #[.slice p1 l1 c1, .slice p2 l2 c2] w fun e w' => e = .returned (.bool (decide (xs = ys))) ∧ Quiet w w' := by
  refine (F14_calls p1 l1 c1 p2 l2 c2 w (fun v w' => v = .bool (decide (xs = ys)) ∧ Quiet w w')
    (fun _ i w1 => 0 ≤ i ∧ i ≤ l1 ∧ Quiet w w1 ∧ ∀ j : Nat, (j : Int) < i → xs.getD j 0 = ys.getD j 0) (fun _ i _ => (l1 - i).toNat) ?_).mono (by rintro e w' ⟨v, rfl, rfl, h⟩; exact ⟨rfl, h⟩)
  unfold F14
  have hx := h1.1
  have hy := h2.1
  refine condB_of (fun hc => ?_) (fun hc => ?_)
  · simp only [Bool.not_eq_true', decide_eq_false_iff_not] at hc
    have : xs ≠ ys := by rintro rfl; omega
    exact ⟨by simp [this], Quiet.refl w⟩
  · simp only [Bool.not_eq_false', decide_eq_true_eq] at hc
    have hc : l1 = l2 := by omega
    refine ⟨⟨by omega, by omega, Quiet.refl w, fun j hj => by omega⟩, ?_⟩
    rintro i w4 ⟨hi0, hi1, hq, hall⟩
    intros
    refine condB_of (fun ht => ?_) (fun ht => ?_)
    · simp only [decide_eq_true_eq] at ht
      intro w21 hd
      have hq2 := hq.trans hd.quiet
      refine ⟨⟨hi0, ht⟩, ?_⟩
      obtain ⟨a, rfl, ha⟩ := (h1.ext hq2.ext).get (i := i.toNat) (by omega)
      obtain ⟨b, rfl, hb⟩ := (h2.ext hq2.ext).get (i := i.toNat) (by omega)
      refine ⟨_, by rw [Nat.mul_one]; exact ha, ⟨hi0, by omega⟩, _, by rw [Nat.mul_one]; exact hb, ?_⟩
      refine condB_of (fun hn => ?_) (fun hn => ?_)
      · simp only [Bool.not_eq_true', decide_eq_false_iff_not, getD_inj] at hn
        have : xs ≠ ys := by rintro rfl; exact hn rfl
        exact ⟨by simp [this], hq2⟩
      · simp only [Bool.not_eq_false', decide_eq_true_eq, getD_inj] at hn
        rw [w64 (by omega)]
        refine ⟨⟨by omega, by omega, hq2, fun j hj => ?_⟩, by show ((l1 : Int) - (i + 1)).toNat < ((l1 : Int) - i).toNat; omega⟩
        by_cases h : (j : Int) < i
        · exact hall j h
        · have : j = i.toNat := by omega
          rw [this]; exact hn
    · simp only [decide_eq_false_iff_not] at ht
      have : xs = ys := by
        apply List.ext_getElem (by omega)
        intro j hj1 hj2
        have := hall j (by omega)
        simpa [List.getD_eq_getElem?_getD, hj1, hj2] using this
      exact ⟨by simp [this], hq⟩

/-- why a sector is not read or written -/
def faultZ (dead : Bool) (sectors n : Int) : Int := if dead then 120 else if n < 0 ∨ sectors ≤ n then 121 else 0

end Go.Proofs.Ytpmkjpgoekjcfaa
