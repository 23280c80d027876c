/- A step: which blocks it may change. -/
import Derived.Test.YtclkoojcibgcdaaRep
namespace Go.Proofs.Ytclkoojcibgcdaa
open Go Go.Vc

/-- A STEP: nothing but these blocks is changed, and what is the disk's behind it was so ahead of it, or is new -/
structure Step (F F' : Nat → Prop) (w w' : World) : Prop where
  upd : Upd F w w'
  grow : ∀ x, F' x → F x ∨ w.heap.size ≤ x

theorem Step.refl (F : Nat → Prop) (w : World) : Step F F w w := ⟨Upd.refl _ _, fun _ h => .inl h⟩
theorem Step.ext {F : Nat → Prop} {w w' : World} (h : Ext w w') : Step F F w w' := ⟨h.upd, fun _ h => .inl h⟩
theorem Step.trans {F F' F'' : Nat → Prop} {w w' w'' : World} (h : Step F F' w w') (h' : Step F' F'' w' w'') : Step F F'' w w'' := by
  refine ⟨Upd.trans h.upd h'.upd fun x hx hF => ?_, fun x hx => ?_⟩
  · rcases h.grow x hF with h | h
    · exact h
    · omega
  · rcases h'.grow x hx with h1 | h1
    · exact h.grow x h1
    · exact .inr (Nat.le_trans h.upd.size h1)
/-- what is nobody's stays nobody's -/
theorem Step.apart {F F' : Nat → Prop} {w w' : World} (h : Step F F' w w') {x : Nat} (hx : x < w.heap.size) (hF : ¬ F x) : ¬ F' x := fun h' => by
  rcases h.grow x h' with h1 | h1
  · exact hF h1
  · omega
end Go.Proofs.Ytclkoojcibgcdaa
