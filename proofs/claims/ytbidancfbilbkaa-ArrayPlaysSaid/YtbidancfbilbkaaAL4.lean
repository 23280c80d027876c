/- What is found behind a write. -/
import Derived.Test.YtbidancfbilbkaaA11
namespace Go.Proofs.Ytbidancfbilbkaa
open Go Go.Vc

theorem get_append {k : Int} {L M : SM} : get k (L ++ M) = (get k L).or (get k M) := by
  induction L with
  | nil => rfl
  | cons a L ih =>
    obtain ⟨k', x⟩ := a
    simp only [List.cons_append, Vc.get]
    split
    · rfl
    · exact ih
theorem get_filter_ne {k : Int} {q : Int → Bool} (hk : q k = true) : ∀ {L : SM}, get k (L.filter fun y => q y.1) = get k L
  | [] => rfl
  | (k', x) :: L => by
    by_cases h : k' = k
    · subst h
      simp [List.filter, hk, Vc.get]
    · rw [List.filter]
      split
      · simp only [Vc.get, if_neg h]; exact get_filter_ne hk
      · simp only [Vc.get, if_neg h]; exact get_filter_ne hk
theorem get_filter_no {k : Int} {q : Int → Bool} (hk : q k = false) : ∀ {L : SM}, get k (L.filter fun y => q y.1) = none
  | [] => rfl
  | (k', x) :: L => by
    by_cases h : k' = k
    · subst h
      rw [List.filter]
      simp only [hk]
      exact get_filter_no hk
    · rw [List.filter]
      split
      · simp only [Vc.get, if_neg h]; exact get_filter_no hk
      · exact get_filter_no hk
theorem get_ins (k k' : Int) (x : List UInt8) (L : SM) : get k (ins k' x L) = if k' = k then some x else get k L := by
  unfold ins
  rw [get_append]
  by_cases h : k' = k
  · subst h
    rw [if_pos rfl, get_filter_no (q := fun z => decide (z < k')) (by simp)]
    simp [Vc.get]
  · rw [if_neg h]
    simp only [Vc.get, if_neg h]
    by_cases hlt : k < k'
    · rw [get_filter_ne (q := fun z => decide (z < k')) (by simpa using hlt), get_filter_no (q := fun z => decide (k' < z)) (by simp; omega)]
      simp
    · rw [get_filter_no (q := fun z => decide (z < k')) (by simpa using hlt), get_filter_ne (q := fun z => decide (k' < z)) (by simp; omega)]
      simp
theorem get_mrg (k : Int) (W : SM) : ∀ L : SM, (W.map (·.1)).Nodup → get k (mrg L W) = (get k W).or (get k L) := by
  induction W with
  | nil => intro L _; rfl
  | cons a W ih =>
    intro L hn
    obtain ⟨k', x⟩ := a
    simp only [List.map_cons, List.nodup_cons] at hn
    have := ih (ins k' x L) hn.2
    rw [show mrg L ((k', x) :: W) = mrg (ins k' x L) W from rfl, this, get_ins]
    by_cases h : k' = k
    · subst h
      have : get k' W = none := get_none.2 hn.1
      simp [this, Vc.get]
    · simp [Vc.get, h]

theorem read_write_same {D : Dk} {k : Int} {bs : List UInt8} (h : writeZ D k bs.length = 0) : readD (writeD D k bs) k = bs := by
  simp [readD, writeD, h, get_ins]
theorem read_write_other {D : Dk} {k k' : Int} {bs : List UInt8} (h : k' ≠ k) : readD (writeD D k bs) k' = readD D k' := by
  unfold writeD
  split
  · have h' : ¬ k = k' := fun e => h e.symm
    simp [readD, get_ins, h']
  · rfl
theorem write_no {D : Dk} {k : Int} {bs : List UInt8} (h : writeZ D k bs.length ≠ 0) : writeD D k bs = D := by
  unfold writeD; rw [if_neg h]
theorem dead_write (D : Dk) (k : Int) (bs : List UInt8) : (writeD D k bs).dead = D.dead := by unfold writeD; split <;> rfl
theorem writeZ_dead {D : Dk} {k : Int} {n : Nat} : writeZ D k n = 120 ↔ D.dead = true := by
  unfold writeZ faultZ
  cases D.dead <;> simp
  · repeat' split
    all_goals simp_all
end Go.Proofs.Ytbidancfbilbkaa
