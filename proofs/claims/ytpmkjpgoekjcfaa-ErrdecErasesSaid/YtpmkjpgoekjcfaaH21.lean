/- Arguments: bytes, flags, shards. -/
import Derived.Test.YtpmkjpgoekjcfaaAL1
namespace Go.Proofs.Ytpmkjpgoekjcfaa
open Go Go.Vc Go.Gf Go.ChangeShapes Go.WideShapes Go.ChangeAt Go.RowKit

section
variable {H : Type} {enc : TypeId × Value → H} {w : World} {base : Nat} {sp : Nat → Bool} {held : Bool}

theorem open_by {v : Value} {d : DataW H} {ps : List MemPlace} (hs : ∃ a l c, v = .slice a l c) (h : DataW.Trod enc Try.prog w base sp held 22 v d ps) :
    ∃ p l c bs, v = .slice p l c ∧ BytesAt w p l bs ∧ l ≤ c ∧ c ≤ maxLen := by
  obtain ⟨a, l, c, rfl⟩ := hs
  obtain ⟨fuel, h⟩ := h
  obtain ⟨p, l', c', bs, he, h1, h2, h3, _⟩ := rd_bytes (t := 22) (e := 5) (by kernel_rfl) (by kernel_rfl) (by kernel_rfl) h
  cases he
  exact ⟨_, _, _, bs, rfl, h1, h2, h3⟩
theorem open_flags {v : Value} {d : DataW H} {ps : List MemPlace} (hs : ∃ a l c, v = .slice a l c) (h : DataW.Trod enc Try.prog w base sp held 23 v d ps) :
    ∃ p l c ks, v = .slice p l c ∧ FlagsAt w p l ks ∧ l ≤ c ∧ c ≤ maxLen := by
  obtain ⟨a, l, c, rfl⟩ := hs
  obtain ⟨fuel, h⟩ := h
  obtain ⟨p, l', c', he, h2, h3, _, hrow⟩ := rd_rows (t := 23) (e := 4) (k := 1) (by kernel_rfl) (by kernel_rfl) h
  cases he
  have hone : ∀ i, i < l → ∃ b : Bool, ∃ a', a = some a' ∧ w.cell? (a'.add i) = some (.bool b) := by
    intro i hi
    obtain ⟨a', ys, n, y, ha, ht, hlen, hc⟩ := hrow i hi
    obtain ⟨b, rfl, _⟩ := DataW.trod_bool (by kernel_rfl) ht
    have := hc 0 (by omega)
    rw [add_add, Nat.mul_one, Nat.add_zero] at this
    exact ⟨b, a', ha, this⟩
  let ks : List Bool := (List.range l).map fun i => if hi : i < l then (hone i hi).choose else false
  refine ⟨a, l, c, ks, rfl, ⟨by simp [ks], fun j u hj => ?_⟩, h2, h3⟩
  have hj' : j < l := by have := (List.getElem?_eq_some_iff.1 hj).1; simpa [ks] using this
  obtain ⟨a', ha, hc⟩ := (hone j hj').choose_spec
  refine ⟨a', ha, ?_⟩
  simp only [ks, List.map_map, List.getElem?_map, List.getElem?_range hj', Option.map_some, Function.comp_apply, Option.some.injEq] at hj
  rw [dif_pos hj'] at hj
  rw [hc, hj]
theorem open_lists {v : Value} {d : DataW H} {ps : List MemPlace} (hs : ∃ a l c, v = .slice a l c) (h : DataW.Trod enc Try.prog w base sp held 36 v d ps) :
    ∃ p l c L, v = .slice p l c ∧ ListsAt w p l L ∧ l ≤ c ∧ c ≤ maxLen ∧ ∀ x ∈ L, x.length ≤ maxLen := by
  obtain ⟨a, l, c, rfl⟩ := hs
  obtain ⟨fuel, h⟩ := h
  obtain ⟨p, l', c', he, h2, h3, _, hrow⟩ := rd_rows (t := 36) (e := 22) (k := 1) (by kernel_rfl) (by kernel_rfl) h
  cases he
  have hone : ∀ i, i < l → ∃ bs : List UInt8, ∃ a' q n c, a = some a' ∧ w.cell? (a'.add i) = some (.slice q n c) ∧ BytesAt w q n bs ∧ n ≤ c ∧ c ≤ maxLen := by
    intro i hi
    obtain ⟨a', ys, n, y, ha, ht, hlen, hc⟩ := hrow i hi
    obtain ⟨p, l', c', bs, rfl, h1, h2, h3, _⟩ := rd_bytes (t := 22) (e := 5) (by kernel_rfl) (by kernel_rfl) (by kernel_rfl) ht
    have := hc 0 (by omega)
    rw [add_add, Nat.mul_one, Nat.add_zero] at this
    exact ⟨bs, a', p, l', c', ha, this, h1, h2, h3⟩
  let L : List (List UInt8) := (List.range l).map fun i => if hi : i < l then (hone i hi).choose else []
  have hL : ∀ i (hi : i < l), L.getD i [] = (hone i hi).choose := fun i hi => by simp [L, List.getD_eq_getElem?_getD, hi]
  refine ⟨a, l, c, L, rfl, ⟨by simp [L], fun i hi => ?_⟩, h2, h3, fun x hx => ?_⟩
  · obtain ⟨a', q, n, c', ha, hc, hb, hn, _⟩ := (hone i hi).choose_spec
    exact ⟨a', q, n, c', ha, hc, by rw [hL i hi]; exact hb, hn⟩
  · obtain ⟨i, hi, rfl⟩ := List.getElem_of_mem hx
    have hi' : i < l := by simpa [L] using hi
    obtain ⟨a', q, n, c', ha, hc, hb, hn, hm⟩ := (hone i hi').choose_spec
    have e : L[i] = (hone i hi').choose := by rw [← hL i hi']; simp [List.getD_eq_getElem?_getD, hi]
    rw [e, ← hb.1]
    omega
end
end Go.Proofs.Ytpmkjpgoekjcfaa
