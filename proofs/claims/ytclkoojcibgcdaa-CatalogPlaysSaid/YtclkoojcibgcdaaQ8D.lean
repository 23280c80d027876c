/- The document's catalog: lists of objects that grow. -/
import Derived.Test.YtclkoojcibgcdaaQ8C
namespace Go.Proofs.Ytclkoojcibgcdaa
open Go Go.Vc

theorem elemO : ElemOf Try.prog 25 52 4 56 := ⟨by kernel_rfl, ⟨Try.t52, .agg #[.string ByteArray.empty, .int .i64 0, .int .i64 0, .slice none 0 0], by kernel_rfl, by kernel_rfl, by kernel_rfl, by kernel_rfl, by kernel_rfl⟩, by decide⟩
theorem own_appO {w0 w : World} (hx : Ext w0 w) {p : Option Addr} {n c : Nat} {xs : List Value} (h : OwnS w w0.heap.size 52 4 p n c xs) {q : Option Addr} {m d : Nat} {news : List Value} (hl : news.length = m * 4)
    (hq : CellsAt w q news) (hqn : q = none → m = 0) (h1 : ∀ u ∈ news, u.oneCell' = true) (hb : n + m ≤ 9000) :
    ∃ p' c' w', Sem.run Try.prog (Builtin.append_ #[25, 25] 25 #[.slice p n c, .slice q m d]) w = .ok (.slice p' (n + m) c') w' ∧ OwnS w' w0.heap.size 52 4 p' (n + m) c' (xs ++ news) ∧
      Ext w0 w' ∧ Upd (fun b => p = some (at0 b)) w w' := by
  obtain ⟨p', c', w', hr, ho, hu, _⟩ := h.append elemO 25 (q := q) (m := m) (d := d) (news := news) hl hq hqn h1 (by unfold maxLen; omega) (by omega) hx.size
  refine ⟨p', c', w', hr, ho, ?_, hu⟩
  refine Upd.trans hx hu fun x hx' hs => ?_
  rcases h.where_ with ⟨h0, _⟩ | ⟨g, h0, hge, _⟩
  · rw [h0] at hs; cases hs
  · rw [h0] at hs
    simp only [Option.some.injEq, at0, Addr.mk.injEq, and_true] at hs
    omega
theorem box4 {w : World} {k : Nat} {a b c d : Value} {e : TypeId} {fz : Nat × Nat} (h : w.heap[k]? = some (.cells #[a, b, c, d] e fz)) : CellsAt w (some (at0 k)) [a, b, c, d] := by
  intro j u hj
  refine ⟨_, rfl, ?_⟩
  match j, hj with
  | 0, hj => cases hj; simp [World.cell?, Addr.add, h]
  | 1, hj => cases hj; simp [World.cell?, Addr.add, h]
  | 2, hj => cases hj; simp [World.cell?, Addr.add, h]
  | 3, hj => cases hj; simp [World.cell?, Addr.add, h]
theorem cells_cut4 {w : World} {p : Option Addr} {xs : List Value} (h : CellsAt w p xs) {c j : Nat} (hj : c = j → xs.drop (j * 4) = []) : CellsAt w (cutP p c j 4) (xs.drop (j * 4)) := by
  unfold cutP
  split
  · rename_i e
    rw [hj e]
    exact CellsAt.nil _ _
  · cases p with
    | none =>
      intro i u hi
      rw [List.getElem?_drop] at hi
      obtain ⟨a, ha, _⟩ := h _ u hi
      cases ha
    | some a => exact h.drop (j * 4)
theorem cutP_none4 {p : Option Addr} {c j : Nat} (h : cutP p c j 4 = none) : p = none := by
  unfold cutP at h
  split at h
  · exact h
  · cases p with
    | none => rfl
    | some a => cases h
theorem objCells_one {vs : List Value} {O : List Ob} (hl : vs.length = O.length) (h : ∀ (i : Nat) (v : Value) (o : Ob), vs[i]? = some v → O[i]? = some o → ∃ q n c, v = .slice q n c) : ∀ u ∈ objCells vs O, u.oneCell' = true := by
  intro u hu
  obtain ⟨j, hj⟩ := List.getElem?_of_mem hu
  obtain ⟨i, r, v, o, _, hr, hv, ho, hu⟩ := objCells_split hl hj
  obtain ⟨q, n, c, rfl⟩ := h i v o hv ho
  match r, hu with
  | 0, hu => cases hu; rfl
  | 1, hu => cases hu; rfl
  | 2, hu => cases hu; rfl
  | 3, hu => cases hu; rfl
  | r + 4, hu => simp [objRow] at hu
end Go.Proofs.Ytclkoojcibgcdaa
