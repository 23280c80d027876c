/- Where an object goes in a list in order (plain). -/
import Derived.Test.YtclkoojcibgcdaaQ7
namespace Go.Proofs.Ytclkoojcibgcdaa
open Go Go.Vc

theorem insO_parts {o : Ob} {A M B : List Ob} (hA : ∀ y ∈ A, kLt y.key o.key) (hM : ∀ y ∈ M, y.key = o.key) (hB : ∀ y ∈ B, kLt o.key y.key) : insO o (A ++ (M ++ B)) = A ++ o :: B := by
  unfold insO
  have a1 : A.filter (fun y => decide (kLt y.key o.key)) = A := List.filter_eq_self.2 fun y hy => by simpa using hA y hy
  have a2 : A.filter (fun y => decide (kLt o.key y.key)) = [] := List.filter_eq_nil_iff.2 fun y hy => by
    simp only [decide_eq_true_eq]; exact fun h => kLt_irrefl _ (kLt_trans h (hA y hy))
  have m1 : M.filter (fun y => decide (kLt y.key o.key)) = [] := List.filter_eq_nil_iff.2 fun y hy => by
    simp only [decide_eq_true_eq, hM y hy]; exact kLt_irrefl _
  have m2 : M.filter (fun y => decide (kLt o.key y.key)) = [] := List.filter_eq_nil_iff.2 fun y hy => by
    simp only [decide_eq_true_eq, hM y hy]; exact kLt_irrefl _
  have b1 : B.filter (fun y => decide (kLt y.key o.key)) = [] := List.filter_eq_nil_iff.2 fun y hy => by
    simp only [decide_eq_true_eq]; exact fun h => kLt_irrefl _ (kLt_trans h (hB y hy))
  have b2 : B.filter (fun y => decide (kLt o.key y.key)) = B := List.filter_eq_self.2 fun y hy => by simpa using hB y hy
  simp only [List.filter_append, a1, a2, m1, m2, b1, b2, List.nil_append, List.append_nil]

/-- `with` finds the place i: all before it are less -/
theorem insO_eq {o x : Ob} {O : List Ob} {i : Nat} (ha : KAsc O) (hlo : ∀ y ∈ O.take i, kLt y.key o.key) (hx : O[i]? = some x) (hk : x.key = o.key) : insO o O = O.take i ++ o :: O.drop (i + 1) := by
  have hlt : i < O.length := (List.getElem?_eq_some_iff.1 hx).1
  have hxe : O[i] = x := (List.getElem?_eq_some_iff.1 hx).2
  have e : O = O.take i ++ ([x] ++ O.drop (i + 1)) := by
    conv => lhs; rw [← List.take_append_drop i O, List.drop_eq_getElem_cons hlt, hxe]
    rfl
  have hp := ha
  unfold KAsc at hp
  rw [e, List.pairwise_append] at hp
  have hp2 := (List.pairwise_cons.1 hp.2.1).1
  conv => lhs; rw [e]
  exact insO_parts hlo (fun y hy => by simp only [List.mem_singleton] at hy; rw [hy]; exact hk) fun y hy => by rw [← hk]; exact hp2 y hy

theorem insO_new {o : Ob} {O : List Ob} {i : Nat} (ha : KAsc O) (hlo : ∀ y ∈ O.take i, kLt y.key o.key) (hx : ∀ x, O[i]? = some x → ¬ kLt x.key o.key ∧ x.key ≠ o.key) : insO o O = O.take i ++ o :: O.drop i := by
  have hB : ∀ y ∈ O.drop i, kLt o.key y.key := by
    intro y hy
    by_cases hlt : i < O.length
    · obtain ⟨h1, h2⟩ := hx O[i] (List.getElem?_eq_getElem hlt)
      have h3 : kLt o.key O[i].key := by
        rcases kLt_total O[i].key o.key with h | h | h
        · exact absurd h h1
        · exact absurd h h2
        · exact h
      have hp := ha
      unfold KAsc at hp
      rw [← List.take_append_drop i O, List.pairwise_append] at hp
      have hp2 := hp.2.1
      rw [List.drop_eq_getElem_cons hlt] at hp2 hy
      rcases List.mem_cons.1 hy with rfl | hy
      · exact h3
      · exact kLt_trans h3 ((List.pairwise_cons.1 hp2).1 y hy)
    · rw [List.drop_eq_nil_of_le (by omega)] at hy
      cases hy
  have := insO_parts (M := []) hlo (fun y hy => by cases hy) hB
  rw [List.nil_append, List.take_append_drop] at this
  exact this
/-- Apply's deletion -/
theorem dropO_at {x : Ob} {O : List Ob} {i : Nat} (ha : KAsc O) (hx : O[i]? = some x) : O.filter (fun y => decide (y.key ≠ x.key)) = O.take i ++ O.drop (i + 1) := by
  have hlt : i < O.length := (List.getElem?_eq_some_iff.1 hx).1
  have hxe : O[i] = x := (List.getElem?_eq_some_iff.1 hx).2
  have e : O = O.take i ++ ([x] ++ O.drop (i + 1)) := by
    conv => lhs; rw [← List.take_append_drop i O, List.drop_eq_getElem_cons hlt, hxe]
    rfl
  have hp := ha
  unfold KAsc at hp
  rw [e, List.pairwise_append] at hp
  have hB := (List.pairwise_cons.1 hp.2.1).1
  have hA := fun y hy => hp.2.2 y hy x (List.mem_cons_self ..)
  conv => lhs; rw [e]
  rw [List.filter_append, List.filter_append]
  have a1 : (O.take i).filter (fun y => decide (y.key ≠ x.key)) = O.take i := List.filter_eq_self.2 fun y hy => by
    simp only [decide_eq_true_eq]; intro h; have := hA y hy; rw [h] at this; exact kLt_irrefl _ this
  have b1 : (O.drop (i + 1)).filter (fun y => decide (y.key ≠ x.key)) = O.drop (i + 1) := List.filter_eq_self.2 fun y hy => by
    simp only [decide_eq_true_eq]; intro h; have := hB y hy; rw [h] at this; exact kLt_irrefl _ this
  have m1 : [x].filter (fun y => decide (y.key ≠ x.key)) = [] := by simp
  rw [a1, b1, m1, List.nil_append]
end Go.Proofs.Ytclkoojcibgcdaa
