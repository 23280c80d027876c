/- The document's catalog: the end of `with` where the key was there. -/
import Derived.Test.YtclkoojcibgcdaaQ8E
namespace Go.Proofs.Ytclkoojcibgcdaa
open Go Go.Vc

theorem objRow_one {o : Ob} {q : Option Addr} {n d : Nat} : ∀ u ∈ objRow (.slice q n d) o, u.oneCell' = true := by
  intro u hu
  simp only [objRow, List.mem_cons, List.not_mem_nil, or_false] at hu
  rcases hu with rfl | rfl | rfl | rfl <;> rfl

theorem with_A4 {w ws w83 : World} (hxs : Ext w ws) (hx : Ext ws w83) {p : Option Addr} {l c i k82 : Nat} {O : List Ob} {vs : List Value} {o : Ob} {q : Option Addr} {n d : Nat} {p77 : Option Addr} {l77 c77 : Nat} {R : Value → World → Prop} {I0 : Option Addr → World → Int → World → Prop} {M0 : Option Addr → World → Int → World → Nat}
    (hl : l = O.length) (hlc : l ≤ c) (hlen : O.length ≤ 64) (hvl : vs.length = O.length) (hcells : CellsAt w p (objCells vs O)) (hone : ∀ u ∈ objCells vs O, u.oneCell' = true) (hpn : p = none → l = 0) (hi : i < l)
    (own : OwnS w83 ws.heap.size 52 4 p77 l77 c77 ([] ++ (objCells vs O).take (i * 4))) (hb : CellsAt w83 (some (at0 k82)) (objRow (.slice q n d) o))
    (hR : ∀ p' n' c' w', Ext ws w' → OwnS w' ws.heap.size 52 4 p' n' c' ([] ++ (objCells vs O).take (i * 4) ++ objRow (.slice q n d) o ++ (objCells vs O).drop ((i + 1) * 4)) → R (.slice p' n' c') w') :
    F36_A4 p77 l77 c77 k82 w83 p c (i : Int) l R I0 M0 := by
  have hol := objCells_length hvl
  have hl77 : l77 = i := by
    have := own.length
    simp only [List.nil_append, List.length_take, hol] at this
    omega
  obtain ⟨p2, c2, w2, r2, own2, x2, _⟩ := own_appO hx own (q := some (at0 k82)) (m := 1) (d := 1) rfl hb (fun h => by cases h) objRow_one (by omega)
  have hrestl : ((objCells vs O).drop ((i + 1) * 4)).length = (l - i - 1) * 4 := by rw [List.length_drop, hol]; omega
  have hrest : CellsAt w2 (cutP (cutP p c i 4) (c - i) 1 4) ((objCells vs O).drop ((i + 1) * 4)) := by
    have h1 := cells_cut4 (hcells.ext (hxs.trans x2)) (c := c) (j := i) (fun e => by omega)
    have h2 := cells_cut4 h1 (c := c - i) (j := 1) (fun e => by
      apply List.eq_nil_of_length_eq_zero
      rw [List.length_drop, List.length_drop, hol]; omega)
    rw [List.drop_drop] at h2
    rw [show (i + 1) * 4 = i * 4 + 1 * 4 by omega]
    exact h2
  obtain ⟨p3, c3, w3, r3, own3, x3, _⟩ := own_appO x2 own2 (q := cutP (cutP p c i 4) (c - i) 1 4) (m := l - i - 1) (d := c - i - 1) hrestl hrest (fun e => by have := hpn (cutP_none4 (cutP_none4 e)); omega) (fun u hu => hone u (List.mem_of_mem_drop hu)) (by omega)
  exact ⟨_, _, _, _, r2, _, _, _, _, r3, hR _ _ _ _ x3 own3⟩
end Go.Proofs.Ytclkoojcibgcdaa
