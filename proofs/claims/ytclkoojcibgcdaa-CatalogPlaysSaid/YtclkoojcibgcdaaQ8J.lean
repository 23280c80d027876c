/- The document's catalog: `with` where the key was not there, whole. -/
import Derived.Test.YtclkoojcibgcdaaQ8I
namespace Go.Proofs.Ytclkoojcibgcdaa
open Go Go.Vc

theorem with_A3 {w ws w65 : World} (hxs : Ext w ws) (hx : Ext ws w65) {p : Option Addr} {l c i k58 k64 k6 : Nat} {O : List Ob} {vs : List Value} {o : Ob} {q : Option Addr} {n d : Nat} {R : Value → World → Prop} {I0 : Option Addr → World → Int → World → Prop} {M0 : Option Addr → World → Int → World → Nat}
    (hl : l = O.length) (hlc : l ≤ c) (hlen : O.length ≤ 64) (hvl : vs.length = O.length) (hcells : CellsAt w p (objCells vs O)) (hone : ∀ u ∈ objCells vs O, u.oneCell' = true) (hpn : p = none → l = 0) (hi : i ≤ l)
    (hr : ∀ w', Ext ws w' → CellsAt w' (some (at0 k6)) (objRow (.slice q n d) o))
    (own : OwnS w65 ws.heap.size 52 4 (some (at0 k58)) 0 0 []) (hb : CellsAt w65 (some (at0 k64)) (objRow (.slice q n d) o)) (hne : k58 ≠ k64)
    (hR : ∀ p' n' c' w', Ext ws w' → OwnS w' ws.heap.size 52 4 p' n' c' ([] ++ (objCells vs O).take (i * 4) ++ objRow (.slice q n d) o ++ (objCells vs O).drop (i * 4)) → R (.slice p' n' c') w') :
    F36_A3 k58 p c (i : Int) w65 k6 o.key o.len o.epoch q n d k64 l R I0 M0 := by
  obtain ⟨p1, l1, c1, w1, r1, own1, x1, u1⟩ := with_pre hxs hx hl hlc hlen hvl hcells hone hpn hi own
  have st : ∀ r u, (objRow (.slice q n d) o)[r]? = some u → w1.cell? ((at0 k6).add r) = some u := fun r u hu => by
    obtain ⟨a, ha, hc⟩ := hr w1 x1 r u hu
    cases ha
    exact hc
  obtain ⟨p2, l2, c2, w2, r2, p3, l3, c3, w3, r3, x3, own3⟩ := with_end hxs x1 hl hlc hlen hvl hcells hone hpn hi own1 (hb.upd u1 fun a ha _ hs => by
    cases ha
    simp only [Option.some.injEq, at0, Addr.mk.injEq, and_true] at hs
    exact hne hs)
  exact ⟨_, _, _, _, r1, ⟨_, st 0 _ rfl, _, st 1 _ rfl, _, st 2 _ rfl, _, _, _, st 3 _ rfl, rfl⟩, _, _, _, _, r2, _, _, _, _, r3, hR _ _ _ _ x3 own3⟩

theorem with_A1 {w ws w31 : World} (hxs : Ext w ws) (hx31 : Ext ws w31) {p : Option Addr} {l c i k6 : Nat} {O : List Ob} {vs : List Value} {o : Ob} {q : Option Addr} {n d : Nat} {R : Value → World → Prop} {I0 : Option Addr → World → Int → World → Prop} {M0 : Option Addr → World → Int → World → Nat}
    (hl : l = O.length) (hlc : l ≤ c) (hlen : O.length ≤ 64) (hvl : vs.length = O.length) (hcells : CellsAt w p (objCells vs O)) (hone : ∀ u ∈ objCells vs O, u.oneCell' = true) (hpn : p = none → l = 0) (hi : i ≤ l)
    (hr : ∀ w', Ext ws w' → CellsAt w' (some (at0 k6)) (objRow (.slice q n d) o))
    (hR : ∀ p' n' c' w', Ext ws w' → OwnS w' ws.heap.size 52 4 p' n' c' ([] ++ (objCells vs O).take (i * 4) ++ objRow (.slice q n d) o ++ (objCells vs O).drop (i * 4)) → R (.slice p' n' c') w') :
    F36_A1 w31 (i : Int) c k6 p l R I0 M0 := by
  have st : ∀ w', Ext ws w' → ∀ r u, (objRow (.slice q n d) o)[r]? = some u → w'.cell? ((at0 k6).add r) = some u := fun w' x r u hu => by
    obtain ⟨a, ha, hc⟩ := hr w' x r u hu
    cases ha
    exact hc
  have own0 : ∀ {wa wb : World} {k : Nat}, Ext ws wa → NewB wa k (.cells #[] 52) wb → OwnS wb ws.heap.size 52 4 (some (at0 k)) 0 0 [] := fun x hk =>
    OwnS.made hk (by rw [hk.size.1]; exact x.size) (Nat.le_refl _) (by unfold maxLen; omega) rfl
  intro w35 hd
  have hx := hx31.trans hd.ext
  refine ⟨⟨by omega, by omega⟩, _, st _ hx 0 _ rfl, _, st _ hx 1 _ rfl, _, st _ hx 2 _ rfl, _, _, _, st _ hx 3 _ rfl, fun k58 w59 hk58 => ?_, fun k40 w41 hk40 k42 w43 hk42 => ?_⟩
  · have x59 := hx.trans hk58.ext
    refine ⟨⟨_, st _ x59 0 _ rfl, _, st _ x59 1 _ rfl, _, st _ x59 2 _ rfl, _, _, _, st _ x59 3 _ rfl, rfl⟩, ?_, fun k64 w65 hk64 => ?_⟩
    · obtain ⟨p1, l1, c1, w1, r1, own1, x1, u1⟩ := with_pre hxs x59 hl hlc hlen hvl hcells hone hpn hi (own0 hx hk58)
      refine ⟨_, _, _, _, r1, ⟨_, st _ x1 0 _ rfl, _, st _ x1 1 _ rfl, _, st _ x1 2 _ rfl, _, _, _, st _ x1 3 _ rfl, rfl⟩, fun k82 w83 hk82 => ?_⟩
      obtain ⟨p2, l2, c2, w2, r2, p3, l3, c3, w3, r3, x3, own3⟩ := with_end hxs (x1.trans hk82.ext) hl hlc hlen hvl hcells hone hpn hi (own1.ext hk82.ext) (box4 hk82.at)
      exact ⟨_, _, _, _, r2, _, _, _, _, r3, hR _ _ _ _ x3 own3⟩
    · have hs := hk58.size
      have hs2 := hk64.size
      exact with_A3 hxs (x59.trans hk64.ext) hl hlc hlen hvl hcells hone hpn hi hr ((own0 hx hk58).ext hk64.ext) (box4 hk64.at) (by omega) hR
  · have x41 := hx.trans hk40.ext
    have x43 := x41.trans hk42.ext
    have hs := hk40.size
    have hs2 := hk42.size
    exact ⟨⟨_, st _ x43 0 _ rfl, _, st _ x43 1 _ rfl, _, st _ x43 2 _ rfl, _, _, _, st _ x43 3 _ rfl, rfl⟩,
      with_A3 hxs x43 hl hlc hlen hvl hcells hone hpn hi hr (own0 x41 hk42) ((box4 hk40.at).ext hk42.ext) (by omega) hR⟩
end Go.Proofs.Ytclkoojcibgcdaa
