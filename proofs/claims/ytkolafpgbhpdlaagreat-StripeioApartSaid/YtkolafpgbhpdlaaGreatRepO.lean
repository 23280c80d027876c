import Derived.Test.YtkolafpgbhpdlaaGreatRepS
import Derived.ProofKit
import Derived.ChangeArms
namespace Go.Vc
open Go Go.ChangeShapes Go.WideShapes Go.ChangeAt
section
variable {H : Type} {enc : TypeId × Value → H} {P : Program} {w : World} {base : Nat} {spare : Nat → Bool} {held : Bool} {fuel : Nat} {t e : TypeId} {cs : List Value} {x : DataW H × List MemPlace}
theorem rd_int {k : IntKind} (ht : P.underlying t = some (.int k)) (h : DataW.trod enc P w base spare held fuel t cs = some x) : ∃ n, cs = [.int k n] ∧ (Lit.int k n).wf = true := by
 obtain ⟨n, h1, _, h2⟩ := DataW.trod_int ht h
 exact ⟨n, h1, h2⟩
theorem rd_nums {k : IntKind} (ht : P.underlying t = some (.slice e)) (he : P.underlying e = some (.int k)) (hc : P.cellsOf e = 1) (h : DataW.trod enc P w base spare held fuel t cs = some x) :
  ∃ p l c, ∃ zs : List Int, cs = [.slice p l c] ∧ l = zs.length ∧ CellsAt w p (zs.map (.int k)) ∧ l ≤ c ∧ c ≤ maxLen ∧ (p = none → l = 0) ∧ ∀ n ∈ zs, (Lit.int k n).wf = true := by
 rcases open_ints ht he hc h with ⟨rfl, _⟩ | ⟨a, len, cap, zs, rfl, _, hl, hm, hz, _, hcell, hw⟩
 ·exact ⟨none, 0, 0, [], rfl, rfl, CellsAt.nil _ _, Nat.le_refl _, Nat.zero_le _, fun _ => rfl, fun n hn => by cases hn⟩
 ·have hle : len ≤ zs.length := by rw [hz]; split <;> omega
  refine ⟨some a, len, cap, zs.take len, rfl, by simp [hle], ?_, hl, hm, fun h => (by cases h), fun n hn => hw n (List.mem_of_mem_take hn)⟩
  intro j u hj
  refine ⟨a, rfl, ?_⟩
  rw [List.getElem?_map, List.getElem?_take] at hj
  split at hj
  ·rename_i hjl
   have hjz : j < zs.length := by omega
   rw [hcell j hjz]
   rw [List.getElem?_eq_getElem hjz] at hj
   simp only [Option.map_some, Option.some.injEq] at hj
   rw [← hj]
   simp [List.getD, List.getElem?_eq_getElem hjz]
  ·simp at hj
theorem rd_bytes (ht : P.underlying t = some (.slice e)) (he : P.underlying e = some (.int .u8)) (hc : P.cellsOf e = 1) (h : DataW.trod enc P w base spare held fuel t cs = some x) :
  ∃ p l c bs, cs = [.slice p l c] ∧ BytesAt w p l bs ∧ l ≤ c ∧ c ≤ maxLen ∧ (p = none → l = 0) := by
 obtain ⟨p, l, c, zs, rfl, hl, hcells, h1, h2, h3, hw⟩ := rd_nums ht he hc h
 refine ⟨p, l, c, zs.map fun z => UInt8.ofNat z.toNat, rfl, ?_, h1, h2, h3⟩
 have henc : encB (zs.map fun z => UInt8.ofNat z.toNat) = zs.map (.int .u8) := by
  unfold encB
  rw [List.map_map]
  apply List.map_congr_left
  intro z hz
  have := hw z hz
  simp only [Lit.wf, Bool.and_eq_true, decide_eq_true_eq] at this
  have a1 : (0 : Int) ≤ z := Int.le_trans (by decide) this.1
  have a2 : z ≤ 255 := Int.le_trans this.2 (by decide)
  simp only [Function.comp_apply, Value.int.injEq, true_and]
  rw [UInt8.toNat_ofNat']
  omega
 have := BytesAt.of_cells (w := w) (p := p) (bs := zs.map fun z => UInt8.ofNat z.toNat) (by rw [henc]; exact hcells)
 rw [List.length_map, ← hl] at this
 exact this
end
end Go.Vc
