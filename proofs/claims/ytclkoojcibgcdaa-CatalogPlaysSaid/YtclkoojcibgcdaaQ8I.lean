/- The document's catalog: `with` where the key was not there. -/
import Derived.Test.YtclkoojcibgcdaaQ8G
namespace Go.Proofs.Ytclkoojcibgcdaa
open Go Go.Vc

theorem with_end {w ws w83 : World} (hxs : Ext w ws) (hx : Ext ws w83) {p : Option Addr} {l c i k82 : Nat} {O : List Ob} {vs : List Value} {o : Ob} {q : Option Addr} {n d : Nat} {p77 : Option Addr} {l77 c77 : Nat}
    (hl : l = O.length) (hlc : l ≤ c) (hlen : O.length ≤ 64) (hvl : vs.length = O.length) (hcells : CellsAt w p (objCells vs O)) (hone : ∀ u ∈ objCells vs O, u.oneCell' = true) (hpn : p = none → l = 0) (hi : i ≤ l)
    (own : OwnS w83 ws.heap.size 52 4 p77 l77 c77 ([] ++ (objCells vs O).take (i * 4))) (hb : CellsAt w83 (some (at0 k82)) (objRow (.slice q n d) o)) :
    ∃ (p85 : Option Addr) (l85 c85 : Nat), ∃ w84 : World, Sem.run Try.prog (Builtin.append_ #[25, 25] 25 #[.slice p77 l77 c77, .slice (some (at0 k82)) 1 1]) w83 = .ok (.slice p85 l85 c85) w84 ∧
      ∃ (p87 : Option Addr) (l87 c87 : Nat), ∃ w86 : World, Sem.run Try.prog (Builtin.append_ #[25, 25] 25 #[.slice p85 l85 c85, .slice (cutP p c i 4) (l - i) (c - i)]) w84 = .ok (.slice p87 l87 c87) w86 ∧
      Ext ws w86 ∧ OwnS w86 ws.heap.size 52 4 p87 l87 c87 ([] ++ (objCells vs O).take (i * 4) ++ objRow (.slice q n d) o ++ (objCells vs O).drop (i * 4)) := by
  have hol := objCells_length hvl
  have hl77 : l77 = i := by
    have := own.length
    simp only [List.nil_append, List.length_take, hol] at this
    omega
  obtain ⟨p2, c2, w2, r2, own2, x2, _⟩ := own_appO hx own (q := some (at0 k82)) (m := 1) (d := 1) rfl hb (fun h => by cases h) objRow_one (by omega)
  have hrestl : ((objCells vs O).drop (i * 4)).length = (l - i) * 4 := by rw [List.length_drop, hol]; omega
  have hrest : CellsAt w2 (cutP p c i 4) ((objCells vs O).drop (i * 4)) := cells_cut4 (hcells.ext (hxs.trans x2)) (c := c) (j := i) (fun e => by
    apply List.eq_nil_of_length_eq_zero
    rw [List.length_drop, hol]; omega)
  obtain ⟨p3, c3, w3, r3, own3, x3, _⟩ := own_appO x2 own2 (q := cutP p c i 4) (m := l - i) (d := c - i) hrestl hrest (fun e => by have := hpn (cutP_none4 e); omega) (fun u hu => hone u (List.mem_of_mem_drop hu)) (by omega)
  exact ⟨_, _, _, _, r2, _, _, _, _, r3, x3, own3⟩

theorem with_pre {w ws w59 : World} (hxs : Ext w ws) (x59 : Ext ws w59) {p : Option Addr} {l c i k : Nat} {O : List Ob} {vs : List Value}
    (hl : l = O.length) (hlc : l ≤ c) (hlen : O.length ≤ 64) (hvl : vs.length = O.length) (hcells : CellsAt w p (objCells vs O)) (hone : ∀ u ∈ objCells vs O, u.oneCell' = true) (hpn : p = none → l = 0) (hi : i ≤ l)
    (own : OwnS w59 ws.heap.size 52 4 (some (at0 k)) 0 0 []) :
    ∃ (p1 : Option Addr) (l1 c1 : Nat), ∃ w1 : World, Sem.run Try.prog (Builtin.append_ #[25, 25] 25 #[.slice (some (at0 k)) 0 0, .slice (cutP p c 0 4) (i - 0) (c - 0)]) w59 = .ok (.slice p1 l1 c1) w1 ∧
      OwnS w1 ws.heap.size 52 4 p1 l1 c1 ([] ++ (objCells vs O).take (i * 4)) ∧ Ext ws w1 ∧ Upd (fun b => some (at0 k) = some (at0 b)) w59 w1 := by
  have hol := objCells_length hvl
  have hpre : CellsAt w59 (cutP p c 0 4) ((objCells vs O).take (i * 4)) := by
    have := cells_cut4 (hcells.ext (hxs.trans x59)) (c := c) (j := 0) (fun e => by
      have : (objCells vs O).length = 0 := by omega
      rw [List.eq_nil_of_length_eq_zero this]; rfl)
    rw [Nat.zero_mul, List.drop_zero] at this
    exact this.take _
  obtain ⟨p1, c1, w1, r1, own1, x1, u1⟩ := own_appO x59 own (q := cutP p c 0 4) (m := i) (d := c) (by rw [List.length_take, hol]; omega) hpre (fun e => by have := hpn (cutP_none4 e); omega) (fun u hu => hone u (List.mem_of_mem_take hu)) (by omega)
  exact ⟨_, _, _, _, r1, own1, x1, u1⟩
end Go.Proofs.Ytclkoojcibgcdaa
