/- An array behind a script. -/
import Derived.Test.YtbidancfbilbkaaA7
namespace Go.Proofs.Ytbidancfbilbkaa
open Go Go.Vc

theorem setcA_ext {w0 w w' : World} {k j : Nat} {v : Value} (h : Ext w0 w) (hk : w0.heap.size ≤ k) (hs : SetC w ((at0 k).add j) v w') : Ext w0 w' := setc_new h hk hs

theorem onDisk_len (s : StA) (d : Int) (f : Mem → Mem) : (onDisk s d f).M.length = s.M.length ∧ (onDisk s d f).left = s.left := by
  unfold onDisk
  split
  · split
    · exact ⟨List.length_set, rfl⟩
    · exact ⟨rfl, rfl⟩
  · exact ⟨rfl, rfl⟩
theorem OkA.write {s : StA} (h : OkA s) (d n : Int) (b : List UInt8) : OkA (writeA s d n b) := by
  obtain ⟨h1, h2, h3⟩ := h
  unfold writeA
  split
  · exact ⟨h1, h2, h3⟩
  split
  · split
    · have key : ∀ (q : Prop) [Decidable q], (q → 0 < s.left) → -1 ≤ (if q then s.left - 1 else s.left) ∧ (if q then s.left - 1 else s.left) ≤ 9223372036854775807 := by
        intro q _ hq
        by_cases h : q
        · have := hq h
          rw [if_pos h]; omega
        · rw [if_neg h]; omega
      exact ⟨by simpa using h1, key _ fun h => h.2⟩
    · exact ⟨h1, h2, h3⟩
  · exact ⟨h1, h2, h3⟩
theorem OkA.call {s : StA} (h : OkA s) {c : CallA} (hn : -9223372036854775808 ≤ c.n ∧ c.n ≤ 9223372036854775807) : OkA (callA s c) := by
  have hd := h
  obtain ⟨h1, h2, h3⟩ := hd
  have ho : ∀ f, OkA (onDisk s c.d f) := fun f => by
    obtain ⟨a, b⟩ := onDisk_len s c.d f
    exact ⟨by rw [a]; exact h1, by rw [b]; exact h2, by rw [b]; exact h3⟩
  unfold callA
  split
  · exact h.write _ _ _
  split
  · split
    · exact h
    · exact ⟨by rw [flushM_len]; exact h1, h2, h3⟩
  split
  · split
    · exact h
    · refine ⟨h1, ?_, ?_⟩
      · show -1 ≤ (if _ then _ else _)
        split <;> omega
      · show (if _ then _ else _) ≤ _
        split <;> omega
  split
  · refine ⟨by rw [crashM_len]; exact h1, ?_, ?_⟩
    · show (-1 : Int) ≤ -1
      omega
    · show (-1 : Int) ≤ _
      omega
  split
  · exact ho _
  split
  · exact ho _
  split
  · exact ho _
  · exact h

theorem doneA_snoc (s : StA) (L : List CallA) (c : CallA) : doneA s (L ++ [c]) = if smallA c then callA (doneA s L) c else doneA s L := by
  simp [doneA, List.foldl_append]
end Go.Proofs.Ytbidancfbilbkaa
