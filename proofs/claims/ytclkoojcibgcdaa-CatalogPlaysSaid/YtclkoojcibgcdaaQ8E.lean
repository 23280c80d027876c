/- The document's catalog: an object laid into a list in order. -/
import Derived.Test.YtclkoojcibgcdaaQ8D
namespace Go.Proofs.Ytclkoojcibgcdaa
open Go Go.Vc

theorem StV.upd {S G : Nat → Prop} {w w' : World} {v : Value} {o : Ob} (h : StV w G v o) (hu : Upd S w w') (hS : ∀ x, G x → ¬ S x) : StV w' G v o := by
  obtain ⟨q, n, c, rfl, e1, e2, e3⟩ := h
  refine ⟨q, n, c, rfl, ⟨e1.1, e1.2.upd hu fun a' ha hne => hS _ (e2 a' ha ?_)⟩, e2, e3⟩
  rintro h0
  rw [h0] at hne
  exact hne rfl
theorem StV.mono {G G' : Nat → Prop} {w : World} {v : Value} {o : Ob} (h : StV w G v o) (hG : ∀ x, G x → G' x) : StV w G' v o := by
  obtain ⟨q, n, c, rfl, e1, e2, e3⟩ := h
  exact ⟨q, n, c, rfl, e1, fun a ha hne => hG _ (e2 a ha hne), e3⟩

/-- what `with` ends in: the new list is the old one's parts and the object -/
theorem with_fin {w w' : World} {G : Nat → Prop} {O : List Ob} {vs : List Value} {o : Ob} {v : Value} {i j : Nat} (hvl : vs.length = O.length) (hvs : ∀ (i : Nat) (v : Value) (o : Ob), vs[i]? = some v → O[i]? = some o → StV w G v o) (hv : StV w G v o)
    (hx : Ext w w') {base : Nat} (hb : w.heap.size ≤ base) {p' : Option Addr} {n' c' : Nat} (hi : i ≤ O.length) (ho : OwnS w' base 52 4 p' n' c' ([] ++ (objCells vs O).take (i * 4) ++ objRow v o ++ (objCells vs O).drop (j * 4))) :
    n' ≤ c' ∧ RefO w' (fun x => G x ∨ (w.heap.size ≤ x ∧ x < w'.heap.size)) p' n' (O.take i ++ o :: O.drop j) := by
  rw [objCells_take i hvl, objCells_drop j hvl] at ho
  have e1 : [] ++ objCells (vs.take i) (O.take i) ++ objRow v o ++ objCells (vs.drop j) (O.drop j) = objCells (vs.take i ++ v :: vs.drop j) (O.take i ++ o :: O.drop j) := by
    rw [objCells_app (by simp [hvl]), List.nil_append, List.append_assoc]; rfl
  rw [e1] at ho
  have hll : (vs.take i ++ v :: vs.drop j).length = (O.take i ++ o :: O.drop j).length := by simp [hvl]
  refine ⟨?_, RefO.of ?_ hll ?_ ho.cells ?_⟩
  · rcases ho.where_ with ⟨_, h0, h1⟩ | ⟨g, _, _, _, h1, _⟩
    · omega
    · exact h1
  · have := ho.length
    rw [objCells_length hll] at this
    omega
  · intro t v' o' h1 h2
    refine StV.mono (StV.upd (S := fun _ => False) (G := G) ?_ hx fun _ _ h => h) fun x hx => .inl hx
    by_cases ht : t < i
    · rw [List.getElem?_append_left (by simp; omega), List.getElem?_take_of_lt ht] at h1 h2
      exact hvs t v' o' h1 h2
    · rw [List.getElem?_append_right (by simp; omega)] at h1 h2
      have l1 : (vs.take i).length = i := by simp; omega
      have l2 : (O.take i).length = i := by simp; omega
      rw [l1] at h1
      rw [l2] at h2
      by_cases ht' : t - i = 0
      · rw [ht'] at h1 h2
        cases h1; cases h2
        exact hv
      · obtain ⟨m, hm⟩ : ∃ m, t - i = m + 1 := ⟨t - i - 1, by omega⟩
        rw [hm, List.getElem?_cons_succ, List.getElem?_drop] at h1 h2
        exact hvs _ v' o' h1 h2
  · intro a hpa _
    rcases ho.where_ with ⟨h1, _⟩ | ⟨g, h1, hge, hlt, _⟩
    · rw [h1] at hpa; cases hpa
    · rw [h1] at hpa; cases hpa
      exact .inr ⟨Nat.le_trans hb hge, (by simpa [at0] using hlt)⟩
end Go.Proofs.Ytclkoojcibgcdaa
