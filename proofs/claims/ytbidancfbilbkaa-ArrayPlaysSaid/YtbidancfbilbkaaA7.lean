/- An array's calls, in range or not. -/
import Derived.Test.YtbidancfbilbkaaA6
namespace Go.Proofs.Ytbidancfbilbkaa
open Go Go.Vc

/-- an array in a state -/
def IsA (w : World) (a : Nat) (s : StA) (F : Nat → Prop) : Prop := IsArr w a s.M s.left s.down F
/-- its bounds -/
def OkA (s : StA) : Prop := s.M.length ≤ 32 ∧ -1 ≤ s.left ∧ s.left ≤ 9223372036854775807

theorem in_range {M : List Mem} {d : Int} (h : 0 ≤ d ∧ d < M.length) : ∃ (i : Nat) (m : Mem), d = i ∧ M[i]? = some m := by
  refine ⟨d.toNat, M[d.toNat]'(by omega), by omega, List.getElem?_eq_getElem _⟩

section
variable {w : World} {a : Nat} {s : StA} {F : Nat → Prop}

theorem onDisk_in {d : Int} {i : Nat} {m : Mem} (f : Mem → Mem) (hd : d = i) (hm : s.M[i]? = some m) : onDisk s d f = { s with M := s.M.set i (f m) } := by
  subst hd
  unfold onDisk
  rw [Int.toNat_natCast, hm]
  simp
theorem onDisk_out {d : Int} (f : Mem → Mem) (h : ¬ (0 ≤ d ∧ d < s.M.length)) : onDisk s d f = s := by
  unfold onDisk
  split
  · rename_i m hm
    have := (List.getElem?_eq_some_iff.1 hm).1
    rw [if_neg (by omega)]
  · rfl

theorem write_any (h : IsA w a s F) (ho : OkA s) (d n : Int) {p : Option Addr} {l c : Nat} {b : List UInt8} (hb : BytesAt w p l b) :
    Calls Try.prog 12 #[.pointer (some (at0 a)), .int .i64 d, .int .i64 n, .slice p l c] w fun e w' => ∃ F' z, e = .returned (.int .i64 z) ∧ Step F F' w w' ∧ IsA w' a (writeA s d n b) F' := by
  obtain ⟨M, left, down⟩ := s
  cases down with
  | true =>
    refine (awrite_down h d n p l c).mono ?_
    rintro e w' ⟨rfl, rfl⟩
    exact ⟨F, _, rfl, Step.refl _ _, by simpa [writeA] using h⟩
  | false =>
    by_cases hr : 0 ≤ d ∧ d < M.length
    · obtain ⟨i, m, rfl, hm⟩ := in_range hr
      refine (awrite_spec h ho.2 hm n hb).mono ?_
      rintro e w' ⟨F', rfl, hs, h'⟩
      refine ⟨F', _, rfl, hs, ?_⟩
      have : writeA ⟨M, left, false⟩ (i : Int) n b = ⟨M.set i { m with d := writeD m.d n b }, if writeZ m.d n b.length = 0 ∧ 0 < left then left - 1 else left, decide (writeZ m.d n b.length = 0 ∧ left = 1)⟩ := by
        unfold writeA
        simp [hm]
      rw [this]; exact h'
    · refine (awrite_out h hr n p l c).mono ?_
      rintro e w' ⟨rfl, rfl⟩
      refine ⟨F, _, rfl, Step.refl _ _, ?_⟩
      have : writeA ⟨M, left, false⟩ d n b = ⟨M, left, false⟩ := by
        unfold writeA
        simp only [Bool.false_eq_true, if_false]
        split
        · split
          · rename_i m hm
            have := (List.getElem?_eq_some_iff.1 hm).1
            omega
          · rfl
        · rfl
      rw [this]; exact h
theorem fail_any (h : IsA w a s F) (d : Int) : Calls Try.prog 25 #[.pointer (some (at0 a)), .int .i64 d] w fun e w' => ∃ F' z, e = .returned (.int .i64 z) ∧ Step F F' w w' ∧
    IsA w' a (onDisk s d fun m => ⟨{ m.d with dead := true, lasts := [], waits := [] }, IntKind.i64.wrap (m.births + 1)⟩) F' := by
  by_cases hr : 0 ≤ d ∧ d < s.M.length
  · obtain ⟨i, m, rfl, hm⟩ := in_range hr
    refine (afail_spec h hm).mono ?_
    rintro e w' ⟨F', rfl, hs, h'⟩
    exact ⟨F', _, rfl, hs, by rw [onDisk_in _ rfl hm]; exact h'⟩
  · refine (afail_out h hr).mono ?_
    rintro e w' ⟨rfl, rfl⟩
    exact ⟨F, _, rfl, Step.refl _ _, by rw [onDisk_out _ hr]; exact h⟩
theorem replace_any (h : IsA w a s F) (d : Int) : Calls Try.prog 26 #[.pointer (some (at0 a)), .int .i64 d] w fun e w' => ∃ F' z, e = .returned (.int .i64 z) ∧ Step F F' w w' ∧
    IsA w' a (onDisk s d fun m => ⟨{ m.d with dead := false, lasts := [], waits := [] }, IntKind.i64.wrap (m.births + 1)⟩) F' := by
  by_cases hr : 0 ≤ d ∧ d < s.M.length
  · obtain ⟨i, m, rfl, hm⟩ := in_range hr
    refine (areplace_spec h hm).mono ?_
    rintro e w' ⟨F', rfl, hs, h'⟩
    exact ⟨F', _, rfl, hs, by rw [onDisk_in _ rfl hm]; exact h'⟩
  · refine (areplace_out h hr).mono ?_
    rintro e w' ⟨rfl, rfl⟩
    exact ⟨F, _, rfl, Step.refl _ _, by rw [onDisk_out _ hr]; exact h⟩
theorem corrupt_any (h : IsA w a s F) (d k t : Int) (y : UInt8) (ht : -9223372036854775808 ≤ t ∧ t ≤ 9223372036854775807) : Calls Try.prog 27 #[.pointer (some (at0 a)), .int .i64 d, .int .i64 k, .int .i64 t, .int .u8 (y.toNat : Int)] w fun e w' => ∃ F' z, e = .returned (.int .i64 z) ∧ Step F F' w w' ∧
    IsA w' a (onDisk s d fun m => { m with d := corruptD m.d k t y }) F' := by
  by_cases hr : 0 ≤ d ∧ d < s.M.length
  · obtain ⟨i, m, rfl, hm⟩ := in_range hr
    refine (acorrupt_spec h hm k t y ht).mono ?_
    rintro e w' ⟨F', rfl, hs, h'⟩
    exact ⟨F', _, rfl, hs, by rw [onDisk_in _ rfl hm]; exact h'⟩
  · refine (acorrupt_out h hr k t _).mono ?_
    rintro e w' ⟨rfl, rfl⟩
    exact ⟨F, _, rfl, Step.refl _ _, by rw [onDisk_out _ hr]; exact h⟩
theorem flush_any (h : IsA w a s F) (ho : OkA s) : Calls Try.prog 14 #[.pointer (some (at0 a))] w fun e w' => ∃ F' z, e = .returned (.int .i64 z) ∧ Step F F' w w' ∧
    IsA w' a (if s.down then s else { s with M := flushM s.M.length s.M }) F' := by
  obtain ⟨M, left, down⟩ := s
  cases down with
  | true =>
    refine (aflush_down h).mono ?_
    rintro e w' ⟨rfl, rfl⟩
    exact ⟨F, _, rfl, Step.refl _ _, h⟩
  | false =>
    refine (aflush_spec h (by have := ho.1; simp only at this ⊢; omega)).mono ?_
    rintro e w' ⟨F', rfl, hs, h'⟩
    exact ⟨F', _, rfl, hs, h'⟩
end
end Go.Proofs.Ytbidancfbilbkaa
