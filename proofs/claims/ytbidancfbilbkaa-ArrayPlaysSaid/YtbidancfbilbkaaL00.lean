/- Bytes of a call's own, behind steps of others. -/
import Derived.Test.YtbidancfbilbkaaC10
namespace Go.Proofs.Ytbidancfbilbkaa
open Go Go.Vc

theorem BytesAt.one {w : World} {k : Nat} {b : UInt8} {fz : Nat × Nat} (h : w.heap[k]? = some (.cells #[.int .u8 (b.toNat : Int)] 5 fz)) : BytesAt w (some (at0 k)) 1 [b] := by
  have : CellsAt w (some (at0 k)) (encB [b]) := by
    intro j u hj
    refine ⟨_, rfl, ?_⟩
    match j, hj with
    | 0, hj => cases hj; simp [World.cell?, Addr.add, h]
  exact BytesAt.of_cells this
theorem cell_own {w : World} {base : Nat} {e : TypeId} {p : Option Addr} {l c : Nat} {b : UInt8} {bs : List UInt8} (h : OwnS w base e 1 p l c (encB (b :: bs))) : ∃ a, p = some a ∧ w.cell? (a.add 0) = some (.int .u8 (b.toNat : Int)) :=
  h.cells 0 _ rfl

theorem ownS_step {F F' : Nat → Prop} {w w' : World} {base : Nat} {e : TypeId} {sz : Nat} {p : Option Addr} {n c : Nat} {xs : List Value} (h : OwnS w base e sz p n c xs) (hs : Step F F' w w') (hF : ∀ x, F x → x < base) :
    OwnS w' base e sz p n c xs := by
  refine h.upd hs.upd fun g hg hg' => ?_
  rcases h.where_ with ⟨h0, _⟩ | ⟨g', h0, hb, _⟩
  · rw [h0] at hg; cases hg
  · rw [h0] at hg
    simp only [Option.some.injEq, at0, Addr.mk.injEq, and_true] at hg
    have := hF g hg'
    omega
theorem HeldS.step {F F' : Nat → Prop} {w w' : World} {base : Nat} {p : Option Addr} {l c : Nat} {L : SM} (h : HeldS w base p l c L) (hs : Step F F' w w') (hF : ∀ x, F x → x < base) : HeldS w' base p l c L :=
  h.upd hs.upd fun y hy _ h' => by have := hF y h'; omega

end Go.Proofs.Ytbidancfbilbkaa
