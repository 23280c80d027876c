/- Two lists of bools, of ints; what is told of several disks. -/
import Derived.Test.YtphkmbkmjhbenaaAL5
namespace Go.Proofs.Ytphkmbkmjhbenaa
open Go Go.Vc

theorem own_in {w : World} {base : Nat} {e : TypeId} {sz : Nat} {p : Option Addr} {n c : Nat} {xs : List Value} (h : OwnS w base e sz p n c xs) {g : Nat} (hg : p = some (at0 g)) :
    base ≤ g ∧ g < w.heap.size ∧ ∃ cur, w.heap[g]? = some (.cells cur e (0, 0)) := by
  rcases h.where_ with ⟨hp, _⟩ | ⟨g', hp, hb, hlt, _, cur, hcur, _⟩
  · rw [hp] at hg; cases hg
  · rw [hp] at hg
    simp only [Option.some.injEq, at0, Addr.mk.injEq, and_true] at hg
    subst hg
    exact ⟨hb, hlt, cur, hcur⟩

end Go.Proofs.Ytphkmbkmjhbenaa
