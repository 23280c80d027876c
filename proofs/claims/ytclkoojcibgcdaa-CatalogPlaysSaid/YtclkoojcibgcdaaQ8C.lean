/- The document's catalog: its objects as cells. -/
import Derived.Test.YtclkoojcibgcdaaQ8L
namespace Go.Proofs.Ytclkoojcibgcdaa
open Go Go.Vc

def objRow (v : Value) (o : Ob) : List Value := [.string o.key, .int .i64 o.len, .int .i64 o.epoch, v]
def objCells : List Value → List Ob → List Value
  | v :: vs, o :: O => objRow v o ++ objCells vs O
  | _, _ => []
theorem objCells_length : ∀ {vs : List Value} {O : List Ob}, vs.length = O.length → (objCells vs O).length = O.length * 4
  | [], [], _ => rfl
  | v :: vs, o :: O, h => by
    have := objCells_length (vs := vs) (O := O) (by simpa using h)
    simp only [objCells, objRow, List.length_append, this, List.length_cons, List.length_nil]
    omega
theorem objCells_app : ∀ {vs : List Value} {O : List Ob} {us : List Value} {M : List Ob}, vs.length = O.length → objCells (vs ++ us) (O ++ M) = objCells vs O ++ objCells us M
  | [], [], _, _, _ => rfl
  | v :: vs, o :: O, us, M, h => by
    have := objCells_app (vs := vs) (O := O) (us := us) (M := M) (by simpa using h)
    simp only [List.cons_append, objCells, this, List.append_assoc]
theorem objCells_drop : ∀ (j : Nat) {vs : List Value} {O : List Ob}, vs.length = O.length → (objCells vs O).drop (j * 4) = objCells (vs.drop j) (O.drop j)
  | 0, _, _, _ => by simp
  | j + 1, [], [], _ => by simp [objCells]
  | j + 1, v :: vs, o :: O, h => by
    have := objCells_drop j (vs := vs) (O := O) (by simpa using h)
    rw [show (j + 1) * 4 = j * 4 + 1 + 1 + 1 + 1 by omega]
    simpa [objCells, objRow] using this
theorem objCells_take : ∀ (j : Nat) {vs : List Value} {O : List Ob}, vs.length = O.length → (objCells vs O).take (j * 4) = objCells (vs.take j) (O.take j)
  | 0, _, _, _ => by simp [objCells]
  | j + 1, [], [], _ => by simp [objCells]
  | j + 1, v :: vs, o :: O, h => by
    have := objCells_take j (vs := vs) (O := O) (by simpa using h)
    rw [show (j + 1) * 4 = j * 4 + 1 + 1 + 1 + 1 by omega]
    simpa [objCells, objRow] using this
theorem objCells_split : ∀ {vs : List Value} {O : List Ob} {j : Nat} {u : Value}, vs.length = O.length → (objCells vs O)[j]? = some u → ∃ i r v o, j = i * 4 + r ∧ r < 4 ∧ vs[i]? = some v ∧ O[i]? = some o ∧ (objRow v o)[r]? = some u
  | [], [], _, _, _, h => by simp [objCells] at h
  | v :: vs, o :: O, j, u, hl, h => by
    by_cases hj : j < 4
    · rw [objCells, List.getElem?_append_left (by simpa [objRow] using hj)] at h
      exact ⟨0, j, v, o, by omega, hj, rfl, rfl, h⟩
    · rw [objCells, List.getElem?_append_right (by simp [objRow]; omega)] at h
      obtain ⟨i, r, v', o', h1, h2, h3, h4, h5⟩ := objCells_split (vs := vs) (O := O) (by simpa using hl) h
      simp only [objRow, List.length_cons, List.length_nil] at h1
      exact ⟨i + 1, r, v', o', by omega, h2, h3, h4, h5⟩
theorem objCells_get : ∀ {vs : List Value} {O : List Ob} {i r : Nat} {v : Value} {o : Ob}, vs[i]? = some v → O[i]? = some o → r < 4 → (objCells vs O)[i * 4 + r]? = (objRow v o)[r]?
  | [], _, _, _, _, _, h, _, _ => by simp at h
  | _ :: _, [], _, _, _, _, _, h, _ => by simp at h
  | v :: vs, o :: O, 0, r, _, _, h1, h2, hr => by
    cases h1; cases h2
    rw [objCells, List.getElem?_append_left (by simpa [objRow] using hr)]
    simp
  | v :: vs, o :: O, i + 1, r, v', o', h1, h2, hr => by
    have := objCells_get (vs := vs) (O := O) (i := i) (by simpa using h1) (by simpa using h2) hr
    rw [objCells, List.getElem?_append_right (by simp [objRow]; omega), ← this]
    congr 1
    simp only [objRow, List.length_cons, List.length_nil]
    omega
theorem choose_vs : ∀ {O : List Ob} {P : Nat → Value → Ob → Prop}, (∀ i o, O[i]? = some o → ∃ v, P i v o) → ∃ vs : List Value, vs.length = O.length ∧ ∀ i v o, vs[i]? = some v → O[i]? = some o → P i v o
  | [], _, _ => ⟨[], rfl, fun i v o h => by simp at h⟩
  | x :: O, P, h => by
    obtain ⟨v, hv⟩ := h 0 x rfl
    obtain ⟨vs, h1, h2⟩ := choose_vs (O := O) (P := fun i => P (i + 1)) fun i o hi => h (i + 1) o (by simpa using hi)
    refine ⟨v :: vs, by simp [h1], fun i v' o hi ho => ?_⟩
    cases i with
    | zero => cases hi; cases ho; exact hv
    | succ i => exact h2 i v' o (by simpa using hi) (by simpa using ho)

/-- a value of an object's stripes -/
def StV (w : World) (G : Nat → Prop) (v : Value) (o : Ob) : Prop := ∃ q n c, v = .slice q n c ∧ IntsAt w q n o.st ∧ (∀ a', q = some a' → o.st ≠ [] → G a'.block) ∧ n ≤ 256
theorem RefO.cells {w : World} {G : Nat → Prop} {p : Option Addr} {l : Nat} {O : List Ob} (h : RefO w G p l O) : ∃ vs : List Value, vs.length = O.length ∧ (∀ (i : Nat) (v : Value) (o : Ob), vs[i]? = some v → O[i]? = some o → StV w G v o) ∧ CellsAt w p (objCells vs O) := by
  obtain ⟨vs, h1, h2⟩ := choose_vs (O := O) (P := fun i v o => StV w G v o ∧ ∃ a, p = some a ∧ ∀ r u, (objRow v o)[r]? = some u → w.cell? (a.add (i * 4 + r)) = some u) fun i o hi => by
    obtain ⟨a, q, n, c, e0, _, e1, e2, e3, e4, e5, e6, e7⟩ := h.2 i o hi
    refine ⟨.slice q n c, ⟨q, n, c, rfl, e5, e6, e7⟩, a, e0, fun r u hr => ?_⟩
    match r, hr with
    | 0, hr => cases hr; exact e1
    | 1, hr => cases hr; rw [← add_add]; exact e2
    | 2, hr => cases hr; rw [← add_add]; exact e3
    | 3, hr => cases hr; rw [← add_add]; exact e4
    | r + 4, hr => simp [objRow] at hr
  refine ⟨vs, h1, fun i v o hv ho => (h2 i v o hv ho).1, fun j u hj => ?_⟩
  obtain ⟨i, r, v, o, rfl, hr, hv, ho, hu⟩ := objCells_split h1 hj
  obtain ⟨_, a, hp, ha⟩ := h2 i v o hv ho
  exact ⟨a, hp, ha r u hu⟩
theorem RefO.of {w : World} {G : Nat → Prop} {p : Option Addr} {l : Nat} {O : List Ob} {vs : List Value} (hl : l = O.length) (h1 : vs.length = O.length) (h2 : ∀ (i : Nat) (v : Value) (o : Ob), vs[i]? = some v → O[i]? = some o → StV w G v o) (h3 : CellsAt w p (objCells vs O)) (hG : ∀ a, p = some a → O ≠ [] → G a.block) : RefO w G p l O := by
  refine ⟨hl, fun i o ho => ?_⟩
  have hlt : i < O.length := (List.getElem?_eq_some_iff.1 ho).1
  obtain ⟨v, hv⟩ : ∃ v, vs[i]? = some v := ⟨vs[i]'(by omega), List.getElem?_eq_getElem _⟩
  obtain ⟨q, n, c, rfl, e1, e2, e3⟩ := h2 i v o hv ho
  obtain ⟨a, hp, _⟩ := h3 (i * 4 + 0) _ ((objCells_get hv ho (by omega)).trans rfl)
  have get : ∀ r u, r < 4 → (objRow (.slice q n c) o)[r]? = some u → w.cell? (a.add (i * 4 + r)) = some u := fun r u hr hu => by
    obtain ⟨a', hp', hc⟩ := h3 (i * 4 + r) u ((objCells_get hv ho hr).trans hu)
    rw [hp] at hp'
    cases hp'
    exact hc
  refine ⟨a, q, n, c, hp, hG a hp (fun e => by rw [e] at hlt; simp at hlt), get 0 _ (by omega) rfl, ?_, ?_, ?_, e1, e2, e3⟩
  · rw [add_add]; exact get 1 _ (by omega) rfl
  · rw [add_add]; exact get 2 _ (by omega) rfl
  · rw [add_add]; exact get 3 _ (by omega) rfl
end Go.Proofs.Ytclkoojcibgcdaa
