/- How many are so. -/
import Derived.Test.YtpmkjpgoekjcfaaH21
namespace Go.Proofs.Ytpmkjpgoekjcfaa
open Go Go.Vc Go.Gf

theorem mis_le (n : Nat) (ms : List Bool) : (mis n ms).length ≤ n := by
  unfold mis
  exact Nat.le_trans (List.length_filter_le _ _) (by simp)
theorem count_spec {p : Option Addr} {l c : Nat} {w : World} {ms : List Bool} (h : FlagsAt w p l ms) (hl : l ≤ 1073741824) :
    Calls Try.prog 21 #[.slice p l c] w fun e w' => e = .returned (.int .i64 ((mis l ms).length : Int)) ∧ w' = w := by
  refine (F21_calls p l c w (fun v w' => v = .int .i64 ((mis l ms).length : Int) ∧ w' = w)
    (fun _ n i w1 => 0 ≤ i ∧ i ≤ l ∧ w1 = w ∧ n = ((mis i.toNat ms).length : Int)) (fun _ _ i _ => (l - i).toNat) ?_).mono (by rintro e w' ⟨v, rfl, rfl, h⟩; exact ⟨rfl, h⟩)
  refine ⟨⟨by omega, by omega, rfl, rfl⟩, ?_⟩
  rintro n i w1 ⟨hi0, hi1, rfl, rfl⟩
  intros
  have hle := mis_le i.toNat ms
  refine condB_of (fun hs => ?_) (fun hs => ?_)
  · simp only [decide_eq_true_eq] at hs
    obtain ⟨a, rfl, ha⟩ := h.get (i := i.toNat) (by omega)
    rw [w64 (n := i + 1) (by omega), w64 (n := ((mis i.toNat ms).length : Int) + 1) (by omega)]
    have hnx : (i + 1).toNat = i.toNat + 1 := by omega
    have hmeas : ((l : Int) - (i + 1)).toNat < ((l : Int) - i).toNat := by omega
    refine ⟨⟨hi0, hs⟩, _, by rw [Nat.mul_one]; exact ha, condB_of (fun hb => ?_) (fun hb => ?_)⟩
    · refine ⟨⟨by omega, by omega, rfl, ?_⟩, hmeas⟩
      rw [hnx, mis_succ, if_pos hb]; simp
    · refine ⟨⟨by omega, by omega, rfl, ?_⟩, hmeas⟩
      rw [hnx, mis_succ, show ms.getD i.toNat false = false from hb]; simp
  · simp only [decide_eq_false_iff_not] at hs
    refine ⟨?_, rfl⟩
    rw [show i.toNat = l by omega]
theorem dif_succ (n : Nat) (ms : List Bool) (a b : List UInt8) : dif (n + 1) ms a b = dif n ms a b ++ (if (!ms.getD n false && decide (co a n ≠ co b n)) = true then [n] else []) := range_filter_succ _ _
theorem ity : 3 ≠ 5 ∧ 3 ≠ 4 := by decide
end Go.Proofs.Ytpmkjpgoekjcfaa
