/- The document's catalog: the middle of `with` where the key was there. -/
import Derived.Test.YtclkoojcibgcdaaQ8F
namespace Go.Proofs.Ytclkoojcibgcdaa
open Go Go.Vc

theorem with_A2 {w ws w65 : World} (hxs : Ext w ws) (hx : Ext ws w65) {p : Option Addr} {l c i k58 k64 k6 : Nat} {O : List Ob} {vs : List Value} {o : Ob} {q : Option Addr} {n d : Nat} {R : Value → World → Prop} {I0 : Option Addr → World → Int → World → Prop} {M0 : Option Addr → World → Int → World → Nat}
    (hl : l = O.length) (hlc : l ≤ c) (hlen : O.length ≤ 64) (hvl : vs.length = O.length) (hcells : CellsAt w p (objCells vs O)) (hone : ∀ u ∈ objCells vs O, u.oneCell' = true) (hpn : p = none → l = 0) (hi : i < l)
    (hr : ∀ w', Ext ws w' → CellsAt w' (some (at0 k6)) (objRow (.slice q n d) o))
    (own : OwnS w65 ws.heap.size 52 4 (some (at0 k58)) 0 0 []) (hb : CellsAt w65 (some (at0 k64)) (objRow (.slice q n d) o)) (hne : k58 ≠ k64)
    (hR : ∀ p' n' c' w', Ext ws w' → OwnS w' ws.heap.size 52 4 p' n' c' ([] ++ (objCells vs O).take (i * 4) ++ objRow (.slice q n d) o ++ (objCells vs O).drop ((i + 1) * 4)) → R (.slice p' n' c') w') :
    F36_A2 k58 p c (i : Int) w65 k6 o.key o.len o.epoch q n d k64 l R I0 M0 := by
  have hol := objCells_length hvl
  have hpre : CellsAt w65 (cutP p c 0 4) ((objCells vs O).take (i * 4)) := by
    have := cells_cut4 (hcells.ext (hxs.trans hx)) (c := c) (j := 0) (fun e => by omega)
    rw [Nat.zero_mul, List.drop_zero] at this
    exact this.take _
  obtain ⟨p1, c1, w1, r1, own1, x1, u1⟩ := own_appO hx own (q := cutP p c 0 4) (m := i) (d := c) (by rw [List.length_take, hol]; omega) hpre (fun e => by have := hpn (cutP_none4 e); omega) (fun u hu => hone u (List.mem_of_mem_take hu)) (by omega)
  have st : ∀ r u, (objRow (.slice q n d) o)[r]? = some u → w1.cell? ((at0 k6).add r) = some u := fun r u hu => by
    obtain ⟨a, ha, hc⟩ := hr w1 x1 r u hu
    cases ha
    exact hc
  refine ⟨_, _, _, _, r1, ⟨_, st 0 _ rfl, _, st 1 _ rfl, _, st 2 _ rfl, _, _, _, st 3 _ rfl, rfl⟩, with_A4 hxs x1 hl hlc hlen hvl hcells hone hpn hi (by simpa using own1) (hb.upd u1 fun a ha _ hs => ?_) hR⟩
  cases ha
  simp only [Option.some.injEq, at0, Addr.mk.injEq, and_true] at hs
  exact hne hs
end Go.Proofs.Ytclkoojcibgcdaa
