/- Both arrays beside each other: each call answers the same, and leaves the same. -/
import Derived.Test.YtbidancfbilbkaaR6
import Derived.Test.YtbidancfbilbkaaA13
namespace Go.Proofs.Ytbidancfbilbkaa
open Go Go.Vc

def dsOf (s : StA) : List Dk := s.M.map (·.d)
def bsOf (s : StA) : List Int := s.M.map (·.births)
def IsR (w : World) (r : Nat) (s : StA) (G : Nat → Prop) : Prop := IsRA w r (dsOf s) (bsOf s) s.left s.down G
theorem dsOf_len (s : StA) : (dsOf s).length = s.M.length := by simp [dsOf]
theorem dsOf_at {s : StA} {i : Nat} {m : Mem} (h : s.M[i]? = some m) : (dsOf s)[i]? = some m.d := by simp [dsOf, h]
theorem bsOf_at {s : StA} {i : Nat} {m : Mem} (h : s.M[i]? = some m) : (bsOf s)[i]? = some m.births := by simp [bsOf, h]

structure Pair (w : World) (a r : Nat) (s : StA) (F G : Nat → Prop) : Prop where
  arr : IsA w a s F
  ref : IsR w r s G
  dis : ∀ x, F x → ¬ G x
theorem Pair.ext {w w' : World} {a r : Nat} {s : StA} {F G : Nat → Prop} (h : Pair w a r s F G) (hx : Ext w w') : Pair w' a r s F G := ⟨IsArr.ext h.arr hx, IsRA.ext h.ref hx, h.dis⟩

/-- what two calls do, one to each -/
theorem Pair.both {w w1 w2 : World} {a r : Nat} {s s' : StA} {F F' G G' : Nat → Prop} (h : Pair w a r s F G) (hs : Step F F' w w1) (hA : IsA w1 a s' F') (hs2 : Step G G' w1 w2) (hR : IsR w2 r s' G') : Pair w2 a r s' F' G' ∧ Step (fun x => F x ∨ G x) (fun x => F' x ∨ G' x) w w2 := by
  have gl := IsRA.lt h.ref
  have fl := IsArr.lt hA
  have d1 : ∀ x, F' x → ¬ G x := fun x hf hg => by
    rcases hs.grow x hf with h1 | h1
    · exact h.dis x h1 hg
    · have := gl x hg; omega
  have z := hs.upd.size
  refine ⟨⟨IsArr.upd hA hs2.upd fun x hg hf => d1 x hf hg, hR, fun x hf hg => ?_⟩, ?_, ?_⟩
  · rcases hs2.grow x hg with h1 | h1
    · exact d1 x hf h1
    · have := fl x hf; omega
  · exact Upd.trans (hs.upd.mono fun x _ hx => .inl hx) (hs2.upd.mono (T := fun x => F x ∨ G x) fun x _ hx => .inr hx) fun _ _ h => h
  · rintro x (hx | hx)
    · rcases hs.grow x hx with h1 | h1
      · exact .inl (.inl h1)
      · exact .inr h1
    · rcases hs2.grow x hx with h1 | h1
      · exact .inl (.inr h1)
      · exact .inr (by omega)
/-- the document's one, behind a call to the other -/
theorem Pair.mid {w w1 : World} {a r : Nat} {s : StA} {F F' G : Nat → Prop} (h : Pair w a r s F G) (hs : Step F F' w w1) : IsR w1 r s G := IsRA.upd h.ref hs.upd fun x hf => h.dis x hf

section
variable {w : World} {a r : Nat} {s : StA} {F G : Nat → Prop}

/-- what both answer to a write -/
def ansW (s : StA) (d n : Int) (l : Nat) : Int := if s.down then 130 else if 0 ≤ d then match s.M[d.toNat]? with
  | some m => writeZ m.d n l
  | none => 1 else 1

theorem out_none {d : Int} (h : ¬ (0 ≤ d ∧ d < s.M.length)) (h0 : 0 ≤ d) : s.M[d.toNat]? = none := List.getElem?_eq_none (by omega)

theorem b_writeA (h : IsA w a s F) (ho : OkA s) (d n : Int) {p : Option Addr} {l c : Nat} {b : List UInt8} (hb : BytesAt w p l b) :
    Calls Try.prog 12 #[.pointer (some (at0 a)), .int .i64 d, .int .i64 n, .slice p l c] w fun e w' => ∃ F', e = .returned (.int .i64 (ansW s d n b.length)) ∧ Step F F' w w' ∧ IsA w' a (writeA s d n b) F' := by
  obtain ⟨M, left, down⟩ := s
  cases down with
  | true =>
    refine (awrite_down h d n p l c).mono ?_
    rintro e w' ⟨rfl, rfl⟩
    exact ⟨F, rfl, Step.refl _ _, by simpa [writeA] using h⟩
  | false =>
    by_cases hr : 0 ≤ d ∧ d < M.length
    · obtain ⟨i, m, rfl, hm⟩ := in_range hr
      refine (awrite_spec h ho.2 hm n hb).mono ?_
      rintro e w' ⟨F', rfl, hs, h'⟩
      refine ⟨F', by simp [ansW, hm], hs, ?_⟩
      have : writeA ⟨M, left, false⟩ (i : Int) n b = ⟨M.set i { m with d := writeD m.d n b }, if writeZ m.d n b.length = 0 ∧ 0 < left then left - 1 else left, decide (writeZ m.d n b.length = 0 ∧ left = 1)⟩ := by
        unfold writeA
        simp [hm]
      rw [this]; exact h'
    · refine (awrite_out h hr n p l c).mono ?_
      rintro e w' ⟨rfl, rfl⟩
      have hn : 0 ≤ d → M[d.toNat]? = none := fun h0 => List.getElem?_eq_none (by omega)
      refine ⟨F, ?_, Step.refl _ _, ?_⟩
      · unfold ansW
        by_cases h0 : 0 ≤ d
        · simp [h0, hn h0]
        · simp [h0]
      · have : writeA ⟨M, left, false⟩ d n b = ⟨M, left, false⟩ := by
          unfold writeA
          by_cases h0 : 0 ≤ d
          · simp [h0, hn h0]
          · simp [h0]
        rw [this]; exact h
theorem b_writeR (h : IsR w r s G) (ho : OkA s) (d n : Int) {p : Option Addr} {l c : Nat} {b : List UInt8} (hb : BytesAt w p l b) :
    Calls Try.prog 41 #[.pointer (some (at0 r)), .int .i64 d, .int .i64 n, .slice p l c] w fun e w' => ∃ G', e = .returned (.int .i64 (ansW s d n b.length)) ∧ Step G G' w w' ∧ IsR w' r (writeA s d n b) G' := by
  obtain ⟨M, left, down⟩ := s
  cases down with
  | true =>
    refine (ra_write_off h d n p l c).mono ?_
    rintro e w' ⟨rfl, rfl⟩
    exact ⟨G, rfl, Step.refl _ _, by simpa [writeA] using h⟩
  | false =>
    by_cases hr : 0 ≤ d ∧ d < M.length
    · obtain ⟨i, m, rfl, hm⟩ := in_range hr
      refine (ra_write h ho.2 (dsOf_at (s := ⟨M, left, false⟩) hm) n hb).mono ?_
      rintro e w' ⟨F', rfl, hs, h'⟩
      refine ⟨F', by simp [ansW, hm], hs, ?_⟩
      have : writeA ⟨M, left, false⟩ (i : Int) n b = ⟨M.set i { m with d := writeD m.d n b }, if writeZ m.d n b.length = 0 ∧ 0 < left then left - 1 else left, decide (writeZ m.d n b.length = 0 ∧ left = 1)⟩ := by
        unfold writeA
        simp [hm]
      rw [this]
      have e1 : dsOf ⟨M.set i { m with d := writeD m.d n b }, if writeZ m.d n b.length = 0 ∧ 0 < left then left - 1 else left, decide (writeZ m.d n b.length = 0 ∧ left = 1)⟩ = (dsOf ⟨M, left, false⟩).set i (writeD m.d n b) := by
        simp [dsOf, List.map_set]
      have e2 : bsOf ⟨M.set i { m with d := writeD m.d n b }, if writeZ m.d n b.length = 0 ∧ 0 < left then left - 1 else left, decide (writeZ m.d n b.length = 0 ∧ left = 1)⟩ = bsOf ⟨M, left, false⟩ := by
        apply List.ext_getElem?
        intro j
        simp only [bsOf, List.getElem?_map, List.getElem?_set]
        by_cases hij : i = j
        · subst hij
          have hl := (List.getElem?_eq_some_iff.1 hm).1
          have hmi : M[i] = m := (List.getElem?_eq_some_iff.1 hm).2
          simp [hl, hmi]
        · simp [hij]
      unfold IsR
      rw [e1, e2]; exact h'
    · refine (ra_write_out h (by rw [dsOf_len]; exact hr) n p l c).mono ?_
      rintro e w' ⟨rfl, rfl⟩
      have hn : 0 ≤ d → M[d.toNat]? = none := fun h0 => List.getElem?_eq_none (by omega)
      refine ⟨G, ?_, Step.refl _ _, ?_⟩
      · unfold ansW
        by_cases h0 : 0 ≤ d
        · simp [h0, hn h0]
        · simp [h0]
      · have : writeA ⟨M, left, false⟩ d n b = ⟨M, left, false⟩ := by
          unfold writeA
          by_cases h0 : 0 ≤ d
          · simp [h0, hn h0]
          · simp [h0]
        rw [this]; exact h

/-- calls to one disk, in range or not -/
def inA (s : StA) (d : Int) : Prop := 0 ≤ d ∧ d < s.M.length
instance (s : StA) (d : Int) : Decidable (inA s d) := inferInstanceAs (Decidable (_ ∧ _))
theorem onDisk_at {i : Nat} {m : Mem} (f : Mem → Mem) (hm : s.M[i]? = some m) : dsOf (onDisk s (i : Int) f) = (dsOf s).set i (f m).d ∧ bsOf (onDisk s (i : Int) f) = (bsOf s).set i (f m).births ∧ (onDisk s (i : Int) f).left = s.left ∧ (onDisk s (i : Int) f).down = s.down := by
  rw [onDisk_in f rfl hm]
  refine ⟨by simp [dsOf, List.map_set], by simp [bsOf, List.map_set], rfl, rfl⟩

theorem b_failR (h : IsR w r s G) (d : Int) : Calls Try.prog 47 #[.pointer (some (at0 r)), .int .i64 d] w fun e w' => ∃ G', e = .returned (.int .i64 (if inA s d then 0 else 1)) ∧ Step G G' w w' ∧
    IsR w' r (onDisk s d fun m => ⟨{ m.d with dead := true, lasts := [], waits := [] }, IntKind.i64.wrap (m.births + 1)⟩) G' := by
  by_cases hr : inA s d
  · obtain ⟨i, m, rfl, hm⟩ := in_range hr
    refine (ra_fail h (dsOf_at hm) (bsOf_at hm)).mono ?_
    rintro e w' ⟨G', rfl, hs, h'⟩
    obtain ⟨e1, e2, e3, e4⟩ := onDisk_at (fun m : Mem => ⟨{ m.d with dead := true, lasts := [], waits := [] }, IntKind.i64.wrap (m.births + 1)⟩) hm
    refine ⟨G', by rw [if_pos hr], hs, ?_⟩
    unfold IsR
    rw [e1, e2, e3, e4]; exact h'
  · refine (ra_fail_out h (by rw [dsOf_len]; exact hr)).mono ?_
    rintro e w' ⟨rfl, rfl⟩
    exact ⟨G, by rw [if_neg hr], Step.refl _ _, by rw [onDisk_out _ hr]; exact h⟩
theorem b_replaceR (h : IsR w r s G) (d : Int) : Calls Try.prog 48 #[.pointer (some (at0 r)), .int .i64 d] w fun e w' => ∃ G', e = .returned (.int .i64 (if inA s d then 0 else 1)) ∧ Step G G' w w' ∧
    IsR w' r (onDisk s d fun m => ⟨{ m.d with dead := false, lasts := [], waits := [] }, IntKind.i64.wrap (m.births + 1)⟩) G' := by
  by_cases hr : inA s d
  · obtain ⟨i, m, rfl, hm⟩ := in_range hr
    refine (ra_replace h (dsOf_at hm) (bsOf_at hm)).mono ?_
    rintro e w' ⟨G', rfl, hs, h'⟩
    obtain ⟨e1, e2, e3, e4⟩ := onDisk_at (fun m : Mem => ⟨{ m.d with dead := false, lasts := [], waits := [] }, IntKind.i64.wrap (m.births + 1)⟩) hm
    refine ⟨G', by rw [if_pos hr], hs, ?_⟩
    unfold IsR
    rw [e1, e2, e3, e4]; exact h'
  · refine (ra_replace_out h (by rw [dsOf_len]; exact hr)).mono ?_
    rintro e w' ⟨rfl, rfl⟩
    exact ⟨G, by rw [if_neg hr], Step.refl _ _, by rw [onDisk_out _ hr]; exact h⟩
def ansC (s : StA) (d k : Int) : Int := if 0 ≤ d then match s.M[d.toNat]? with
  | some m => corruptZ m.d k
  | none => 1 else 1
theorem b_corruptR (h : IsR w r s G) (d k t : Int) (y : UInt8) (ht : -9223372036854775808 ≤ t ∧ t ≤ 9223372036854775807) :
    Calls Try.prog 49 #[.pointer (some (at0 r)), .int .i64 d, .int .i64 k, .int .i64 t, .int .u8 (y.toNat : Int)] w fun e w' => ∃ G', e = .returned (.int .i64 (ansC s d k)) ∧ Step G G' w w' ∧ IsR w' r (onDisk s d fun m => { m with d := corruptD m.d k t y }) G' := by
  by_cases hr : inA s d
  · obtain ⟨i, m, rfl, hm⟩ := in_range hr
    refine (ra_corrupt h (dsOf_at hm) k t y ht).mono ?_
    rintro e w' ⟨G', rfl, hs, h'⟩
    obtain ⟨e1, e2, e3, e4⟩ := onDisk_at (fun m : Mem => { m with d := corruptD m.d k t y }) hm
    have e5 : (bsOf s).set i m.births = bsOf s := by
      apply List.ext_getElem?
      intro j
      rw [List.getElem?_set]
      by_cases hij : i = j
      · subst hij
        have := bsOf_at hm
        rw [if_pos rfl, if_pos (List.getElem?_eq_some_iff.1 this).1, this]
      · rw [if_neg hij]
    refine ⟨G', by simp [ansC, hm], hs, ?_⟩
    unfold IsR
    rw [e1, e2, e3, e4, e5]; exact h'
  · refine (ra_corrupt_out h (by rw [dsOf_len]; exact hr) k t _).mono ?_
    rintro e w' ⟨rfl, rfl⟩
    refine ⟨G, ?_, Step.refl _ _, by rw [onDisk_out _ hr]; exact h⟩
    unfold ansC
    by_cases h0 : 0 ≤ d
    · simp [h0, out_none hr h0]
    · simp [h0]
end
end Go.Proofs.Ytbidancfbilbkaa
