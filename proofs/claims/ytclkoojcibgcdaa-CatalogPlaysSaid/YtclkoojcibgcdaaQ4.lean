/- The document's catalog: Free, Get. -/
import Derived.Test.YtclkoojcibgcdaaQ3
namespace Go.Proofs.Ytclkoojcibgcdaa
open Go Go.Vc

def freeC (O : List Ob) (m : Nat) : Nat := ((List.range m).map fun (i : Nat) => (i : Int)).countP fun s => decide (s ∉ stripesO O)
theorem freeC_succ (O : List Ob) (i : Nat) : freeC O (i + 1) = freeC O i + if (i : Int) ∉ stripesO O then 1 else 0 := by
  unfold freeC
  rw [List.range_succ, List.map_append, List.countP_append]
  simp [List.countP_cons]
theorem freeC_le (O : List Ob) (m : Nat) : freeC O m ≤ m := by
  unfold freeC
  refine Nat.le_trans List.countP_le_length ?_
  simp
theorem freeC_eq {O : List Ob} {m : Nat} (hn : (stripesO O).Nodup) (hr : ∀ s ∈ stripesO O, 0 ≤ s ∧ s < (m : Int)) : freeC O m + (stripesO O).length = m := by
  have hL : ((List.range m).map fun (i : Nat) => (i : Int)).Nodup := by
    rw [List.Nodup, List.pairwise_map]
    exact (List.nodup_range (n := m)).imp fun h e => h (by omega)
  have h2 := List.length_eq_countP_add_countP (fun s => decide (s ∉ stripesO O)) (l := (List.range m).map fun (i : Nat) => (i : Int))
  have h3 : ((List.range m).map fun (i : Nat) => (i : Int)).length = m := by simp
  have hp : (((List.range m).map fun (i : Nat) => (i : Int)).filter fun s => decide (s ∈ stripesO O)).Perm (stripesO O) := by
    refine (List.perm_ext_iff_of_nodup (hL.filter _) hn).2 fun s => ?_
    simp only [List.mem_filter, List.mem_map, List.mem_range, decide_eq_true_eq]
    constructor
    · exact fun h => h.2
    · intro hs
      have := hr s hs
      exact ⟨⟨s.toNat, by omega, by omega⟩, hs⟩
  have h4 : ((List.range m).map fun (i : Nat) => (i : Int)).countP (fun a => !decide (a ∉ stripesO O)) = (stripesO O).length := by
    rw [← hp.length_eq, ← List.countP_eq_length_filter]
    apply List.countP_congr
    intro x _
    simp
  unfold freeC
  have h5 : ((List.range m).map fun (i : Nat) => (i : Int)).countP (fun a => decide ¬(decide (a ∉ stripesO O) = true)) = ((List.range m).map fun (i : Nat) => (i : Int)).countP (fun a => !decide (a ∉ stripesO O)) := by
    apply List.countP_congr
    intro x _
    simp
  omega

section
variable {w : World} {b : Nat} {g : Geo} {O : List Ob} {F : Nat → Prop}

theorem rfree_spec (h : RCat w b g O F) : Calls Try.prog 20 #[.pointer (some (at0 b))] w fun e w' => e = .returned (.int .i64 ((freeC O g.stripes.toNat : Nat) : Int)) ∧ w' = w := by
  have hg := h.ok.geo
  have hrow := h.is
  obtain ⟨p, l, c, G, hr, _⟩ := hrow
  unfold GeoOk at hg
  refine (F20_calls (some (at0 b)) w (fun v w' => v = .int .i64 ((freeC O g.stripes.toNat : Nat) : Int) ∧ w' = w)
    (fun _ n2 n3 w4 => ∃ i : Nat, n3 = i ∧ (i : Int) ≤ g.stripes ∧ w4 = w ∧ n2 = ((freeC O i : Nat) : Int)) (fun _ _ n3 _ => 300 - n3.toNat) ?_).mono (by rintro e w' ⟨v, rfl, rfl, h⟩; exact ⟨rfl, h⟩)
  refine ⟨⟨0, rfl, by omega, rfl, rfl⟩, ?_⟩
  rintro n2 n3 w4 ⟨i, rfl, hi, rfl, rfl⟩
  intros
  refine ⟨g.stripes, by rw [add_add]; exact hr.row.cell rfl, condB_of (fun hlt => ?_) (fun hge => ?_)⟩
  · simp only [decide_eq_true_eq] at hlt
    refine (rowner_spec h (i : Int)).mono ?_
    rintro e w28 ⟨rfl, rfl⟩
    have hle := freeC_le O i
    have hmu : 300 - ((i : Int) + 1).toNat < 300 - (i : Int).toNat := by omega
    have hs := freeC_succ O i
    cases ho : ownO (i : Int) O with
    | none =>
      have hn := ownO_none.1 ho
      rw [if_pos hn] at hs
      refine ⟨_, _, rfl, condB_of (fun _ => ?_) fun h => by cases h⟩
      rw [w64 (n := (freeC O i : Int) + 1) (by omega), w64 (n := (i : Int) + 1) (by omega)]
      exact ⟨⟨i + 1, by omega, by omega, rfl, by rw [hs]; omega⟩, hmu⟩
    | some o =>
      have hn : ¬ ((i : Int) ∉ stripesO O) := fun hh => by rw [ownO_none.2 hh] at ho; cases ho
      rw [if_neg hn] at hs
      refine ⟨_, _, rfl, condB_of (fun h => by cases h) fun _ => ?_⟩
      rw [w64 (n := (i : Int) + 1) (by omega)]
      exact ⟨⟨i + 1, by omega, by omega, rfl, by rw [hs]; omega⟩, hmu⟩
  · simp only [decide_eq_false_iff_not] at hge
    refine ⟨?_, rfl⟩
    rw [show g.stripes.toNat = i by omega]
end
end Go.Proofs.Ytclkoojcibgcdaa
