/- An array's calls: the rest. -/
import Derived.Test.YtbidancfbilbkaaA4
namespace Go.Proofs.Ytbidancfbilbkaa
open Go Go.Vc

section
variable {w : World} {a : Nat} {M : List Mem} {left : Int} {down : Bool} {F : Nat → Prop}

theorem afail_out (h : IsArr w a M left down F) {i : Int} (hi : ¬ (0 ≤ i ∧ i < M.length)) : Calls Try.prog 25 #[.pointer (some (at0 a)), .int .i64 i] w fun e w' => e = .returned (.int .i64 1) ∧ w' = w := by
  refine (F25_calls (some (at0 a)) i  w (fun v w' => v = .int .i64 1 ∧ w' = w) ?_).mono (by rintro e w' ⟨v, rfl, rfl, h⟩; exact ⟨rfl, h⟩)
  refine (there_spec h i).mono ?_
  rintro e w7 ⟨rfl, rfl⟩
  exact ⟨_, rfl, condB_of (fun _ => ⟨rfl, rfl⟩) fun h0 => by simp only [Bool.not_eq_false', decide_eq_true_eq] at h0; exact absurd h0 hi⟩
theorem areplace_out (h : IsArr w a M left down F) {i : Int} (hi : ¬ (0 ≤ i ∧ i < M.length)) : Calls Try.prog 26 #[.pointer (some (at0 a)), .int .i64 i] w fun e w' => e = .returned (.int .i64 1) ∧ w' = w := by
  refine (F26_calls (some (at0 a)) i  w (fun v w' => v = .int .i64 1 ∧ w' = w) ?_).mono (by rintro e w' ⟨v, rfl, rfl, h⟩; exact ⟨rfl, h⟩)
  refine (there_spec h i).mono ?_
  rintro e w7 ⟨rfl, rfl⟩
  exact ⟨_, rfl, condB_of (fun _ => ⟨rfl, rfl⟩) fun h0 => by simp only [Bool.not_eq_false', decide_eq_true_eq] at h0; exact absurd h0 hi⟩
theorem acorrupt_out (h : IsArr w a M left down F) {i : Int} (hi : ¬ (0 ≤ i ∧ i < M.length)) (k t y : Int) : Calls Try.prog 27 #[.pointer (some (at0 a)), .int .i64 i, .int .i64 k, .int .i64 t, .int .u8 y] w fun e w' => e = .returned (.int .i64 1) ∧ w' = w := by
  refine (F27_calls (some (at0 a)) i k t y w (fun v w' => v = .int .i64 1 ∧ w' = w) ?_).mono (by rintro e w' ⟨v, rfl, rfl, h⟩; exact ⟨rfl, h⟩)
  refine (there_spec h i).mono ?_
  rintro e w7 ⟨rfl, rfl⟩
  exact ⟨_, rfl, condB_of (fun _ => ⟨rfl, rfl⟩) fun h0 => by simp only [Bool.not_eq_false', decide_eq_true_eq] at h0; exact absurd h0 hi⟩
theorem alasts_out (h : IsArr w a M left down F) {i : Int} (hi : ¬ (0 ≤ i ∧ i < M.length)) : Calls Try.prog 17 #[.pointer (some (at0 a)), .int .i64 i] w fun e w' => e = .returned (.slice none 0 0) ∧ w' = w := by
  refine (F17_calls (some (at0 a)) i  w (fun v w' => v = .slice none 0 0 ∧ w' = w) ?_).mono (by rintro e w' ⟨v, rfl, rfl, h⟩; exact ⟨rfl, h⟩)
  refine (there_spec h i).mono ?_
  rintro e w7 ⟨rfl, rfl⟩
  exact ⟨_, rfl, condB_of (fun _ => ⟨rfl, rfl⟩) fun h0 => by simp only [Bool.not_eq_false', decide_eq_true_eq] at h0; exact absurd h0 hi⟩
theorem awaits_out (h : IsArr w a M left down F) {i : Int} (hi : ¬ (0 ≤ i ∧ i < M.length)) : Calls Try.prog 16 #[.pointer (some (at0 a)), .int .i64 i] w fun e w' => e = .returned (.slice none 0 0) ∧ w' = w := by
  refine (F16_calls (some (at0 a)) i  w (fun v w' => v = .slice none 0 0 ∧ w' = w) ?_).mono (by rintro e w' ⟨v, rfl, rfl, h⟩; exact ⟨rfl, h⟩)
  refine (there_spec h i).mono ?_
  rintro e w7 ⟨rfl, rfl⟩
  exact ⟨_, rfl, condB_of (fun _ => ⟨rfl, rfl⟩) fun h0 => by simp only [Bool.not_eq_false', decide_eq_true_eq] at h0; exact absurd h0 hi⟩
theorem areplace_spec (h : IsArr w a M left down F) {i : Nat} {m : Mem} (hi : M[i]? = some m) :
    Calls Try.prog 26 #[.pointer (some (at0 a)), .int .i64 (i : Int)] w fun e w' => ∃ F', e = .returned (.int .i64 0) ∧ Step F F' w w' ∧
      IsArr w' a (M.set i ⟨{ m.d with dead := false, lasts := [], waits := [] }, IntKind.i64.wrap (m.births + 1)⟩) left down F' := by
  refine (F26_calls (some (at0 a)) (i : Int) w (fun v w' => ∃ F', v = .int .i64 0 ∧ Step F F' w w' ∧
      IsArr w' a (M.set i ⟨{ m.d with dead := false, lasts := [], waits := [] }, IntKind.i64.wrap (m.births + 1)⟩) left down F') ?_).mono (by rintro e w' ⟨v, rfl, F', rfl, h⟩; exact ⟨F', rfl, h⟩)
  have hil : i < M.length := (List.getElem?_eq_some_iff.1 hi).1
  refine (there_spec h (i : Int)).mono ?_
  rintro e w7 ⟨rfl, rfl⟩
  obtain ⟨ap, cm, b, Fi, e0, _, e1, e2, hd, _, hstep⟩ := h.at hi
  refine ⟨_, rfl, condB_of (fun h0 => by simp at h0; omega) fun _ => ⟨_, _, _, e0, ⟨by omega, by omega⟩, _, by rw [Int.toNat_natCast]; exact e1, ?_⟩⟩
  refine (d_replace hd).mono ?_
  rintro e w10 ⟨rfl, hs, hd'⟩
  obtain ⟨F2, h2, s2⟩ := hstep _ _ _ hs hd'
  obtain ⟨ap2, cm2, q0, q1, q2, q3⟩ := h2.born (i := i) (m := { m with d := { m.d with dead := false, lasts := [], waits := [] } }) (List.getElem?_set_self hil)
  rw [List.length_set] at q0
  rw [Int.toNat_natCast]
  refine ⟨rfl, _, _, _, q0, ⟨by omega, by omega⟩, _, q1, ⟨by omega, by omega⟩, q2, fun w17 s17 => ?_⟩
  obtain ⟨h3, s3⟩ := q3 _ _ s17
  rw [List.set_set] at h3
  exact ⟨F2, rfl, s2.trans s3, h3⟩
theorem acorrupt_spec (h : IsArr w a M left down F) {i : Nat} {m : Mem} (hi : M[i]? = some m) (k t : Int) (y : UInt8) (ht : -9223372036854775808 ≤ t ∧ t ≤ 9223372036854775807) :
    Calls Try.prog 27 #[.pointer (some (at0 a)), .int .i64 (i : Int), .int .i64 k, .int .i64 t, .int .u8 (y.toNat : Int)] w fun e w' => ∃ F', e = .returned (.int .i64 (corruptZ m.d k)) ∧ Step F F' w w' ∧
      IsArr w' a (M.set i { m with d := corruptD m.d k t y }) left down F' := by
  refine (F27_calls (some (at0 a)) (i : Int) k t (y.toNat : Int) w (fun v w' => ∃ F', v = .int .i64 (corruptZ m.d k) ∧ Step F F' w w' ∧
      IsArr w' a (M.set i { m with d := corruptD m.d k t y }) left down F') ?_).mono (by rintro e w' ⟨v, rfl, F', rfl, h⟩; exact ⟨F', rfl, h⟩)
  have hil : i < M.length := (List.getElem?_eq_some_iff.1 hi).1
  refine (there_spec h (i : Int)).mono ?_
  rintro e w7 ⟨rfl, rfl⟩
  obtain ⟨ap, cm, b, Fi, e0, _, e1, e2, hd, _, hstep⟩ := h.at hi
  refine ⟨_, rfl, condB_of (fun h0 => by simp at h0; omega) fun _ => ⟨_, _, _, e0, ⟨by omega, by omega⟩, _, by rw [Int.toNat_natCast]; exact e1, ?_⟩⟩
  refine (d_corrupt hd k t y ht).mono ?_
  rintro e w10 ⟨F', rfl, hs, hd'⟩
  obtain ⟨F2, h2, s2⟩ := hstep _ _ _ hs hd'
  exact ⟨_, rfl, F2, rfl, s2, h2⟩
theorem alasts_spec (h : IsArr w a M left down F) {i : Nat} {m : Mem} (hi : M[i]? = some m) :
    Calls Try.prog 17 #[.pointer (some (at0 a)), .int .i64 (i : Int)] w fun e w' => ∃ p l c, e = .returned (.slice p l c) ∧ Ext w w' ∧ HeldS w' w.heap.size p l c m.d.lasts := by
  refine (F17_calls (some (at0 a)) (i : Int) w (fun v w' => ∃ p l c, v = .slice p l c ∧ Ext w w' ∧ HeldS w' w.heap.size p l c m.d.lasts) ?_).mono (by rintro e w' ⟨v, rfl, p, l, c, rfl, h⟩; exact ⟨p, l, c, rfl, h⟩)
  have hil : i < M.length := (List.getElem?_eq_some_iff.1 hi).1
  refine (there_spec h (i : Int)).mono ?_
  rintro e w7 ⟨rfl, rfl⟩
  obtain ⟨ap, cm, b, Fi, e0, _, e1, e2, hd, _, _⟩ := h.at hi
  refine ⟨_, rfl, condB_of (fun h0 => by simp at h0; omega) fun _ => ⟨_, _, _, e0, ⟨by omega, by omega⟩, _, by rw [Int.toNat_natCast]; exact e1, ?_⟩⟩
  refine (d_lasts hd).mono ?_
  rintro e w14 ⟨p, l, c, rfl, hx, _, hh⟩
  exact ⟨_, _, _, rfl, p, l, c, rfl, hx, hh⟩
theorem awaits_spec (h : IsArr w a M left down F) {i : Nat} {m : Mem} (hi : M[i]? = some m) :
    Calls Try.prog 16 #[.pointer (some (at0 a)), .int .i64 (i : Int)] w fun e w' => ∃ p l c, e = .returned (.slice p l c) ∧ Ext w w' ∧ HeldS w' w.heap.size p l c m.d.waits := by
  refine (F16_calls (some (at0 a)) (i : Int) w (fun v w' => ∃ p l c, v = .slice p l c ∧ Ext w w' ∧ HeldS w' w.heap.size p l c m.d.waits) ?_).mono (by rintro e w' ⟨v, rfl, p, l, c, rfl, h⟩; exact ⟨p, l, c, rfl, h⟩)
  have hil : i < M.length := (List.getElem?_eq_some_iff.1 hi).1
  refine (there_spec h (i : Int)).mono ?_
  rintro e w7 ⟨rfl, rfl⟩
  obtain ⟨ap, cm, b, Fi, e0, _, e1, e2, hd, _, _⟩ := h.at hi
  refine ⟨_, rfl, condB_of (fun h0 => by simp at h0; omega) fun _ => ⟨_, _, _, e0, ⟨by omega, by omega⟩, _, by rw [Int.toNat_natCast]; exact e1, ?_⟩⟩
  refine (d_waits hd).mono ?_
  rintro e w14 ⟨p, l, c, rfl, hx, _, hh⟩
  exact ⟨_, _, _, rfl, p, l, c, rfl, hx, hh⟩
theorem aread_out (h : IsArr w a M left false F) {i : Int} (hi : ¬ (0 ≤ i ∧ i < M.length)) (k : Int) : Calls Try.prog 13 #[.pointer (some (at0 a)), .int .i64 i, .int .i64 k] w fun e w' => e = .returned (.tuple #[.slice none 0 0, .int .i64 1]) ∧ w' = w := by
  refine (F13_calls (some (at0 a)) i k w (fun v w' => v = .tuple #[.slice none 0 0, .int .i64 1] ∧ w' = w) ?_).mono (by rintro e w' ⟨v, rfl, rfl, h⟩; exact ⟨rfl, h⟩)
  refine (adown_spec h).mono ?_
  rintro e w4 ⟨rfl, rfl⟩
  refine ⟨_, rfl, condB_of (fun h => by cases h) fun _ => (there_spec h i).mono ?_⟩
  rintro e w7 ⟨rfl, rfl⟩
  exact ⟨_, rfl, condB_of (fun _ => ⟨rfl, rfl⟩) fun h0 => by simp only [Bool.not_eq_false', decide_eq_true_eq] at h0; exact absurd h0 hi⟩
theorem awrite_down (h : IsArr w a M left true F) (i k : Int) (p : Option Addr) (l c : Nat) : Calls Try.prog 12 #[.pointer (some (at0 a)), .int .i64 i, .int .i64 k, .slice p l c] w fun e w' => e = .returned (.int .i64 130) ∧ w' = w := by
  refine (F12_calls (some (at0 a)) i k p l c w (fun v w' => v = .int .i64 130 ∧ w' = w) ?_).mono (by rintro e w' ⟨v, rfl, rfl, h⟩; exact ⟨rfl, h⟩)
  refine (adown_spec h).mono ?_
  rintro e w4 ⟨rfl, rfl⟩
  exact ⟨_, rfl, condB_of (fun _ => ⟨rfl, rfl⟩) fun h => by cases h⟩

/-- behind a flush, as far as the disk at i -/
def flushM (i : Nat) (M : List Mem) : List Mem := M.mapIdx fun j m => if j < i then { m with d := flushD m.d } else m
theorem flushM_len (i : Nat) (M : List Mem) : (flushM i M).length = M.length := by simp [flushM]
theorem flushM_at {i : Nat} {M : List Mem} {m : Mem} (h : M[i]? = some m) : (flushM i M)[i]? = some m := by simp [flushM, h]
theorem flushM_set {i : Nat} {M : List Mem} {m : Mem} (h : M[i]? = some m) : (flushM i M).set i { m with d := flushD m.d } = flushM (i + 1) M := by
  apply List.ext_getElem?
  intro j
  rw [List.getElem?_set]
  by_cases hij : i = j
  · subst hij
    have hl : i < M.length := (List.getElem?_eq_some_iff.1 h).1
    have hMi : M[i] = m := (List.getElem?_eq_some_iff.1 h).2
    subst hMi
    simp [flushM, hl]
  · rw [if_neg hij]
    simp only [flushM, List.getElem?_mapIdx]
    cases M[j]? with
    | none => rfl
    | some mj =>
      simp only [Option.map_some, Option.some.injEq]
      by_cases h1 : j < i
      · rw [if_pos h1, if_pos (by omega)]
      · rw [if_neg h1, if_neg (by omega)]

theorem aflush_down (h : IsArr w a M left true F) : Calls Try.prog 14 #[.pointer (some (at0 a))] w fun e w' => e = .returned (.int .i64 130) ∧ w' = w := by
  obtain ⟨p4, c4, hr⟩ := h.row
  refine (F14_calls (some (at0 a)) w (fun v w' => v = .int .i64 130 ∧ w' = w) (fun _ _ _ _ _ _ _ => False) (fun _ _ _ _ _ _ _ => 0) ?_).mono (by rintro e w' ⟨v, rfl, rfl, h⟩; exact ⟨rfl, h⟩)
  exact condB_of (fun h => by cases h) fun _ => ⟨_, hr.row.cell rfl, condB_of (fun _ => ⟨rfl, rfl⟩) fun h => by cases h⟩
set_option maxHeartbeats 1000000 in
theorem aflush_spec (h : IsArr w a M left false F) (hM : M.length ≤ 100) : Calls Try.prog 14 #[.pointer (some (at0 a))] w fun e w' => ∃ F', e = .returned (.int .i64 0) ∧ Step F F' w w' ∧ IsArr w' a (flushM M.length M) left false F' := by
  obtain ⟨p4, c4, hr⟩ := h.row
  refine (F14_calls (some (at0 a)) w (fun v w' => ∃ F', v = .int .i64 0 ∧ Step F F' w w' ∧ IsArr w' a (flushM M.length M) left false F')
    (fun _ _ _ _ _ n9 w10 => ∃ (i : Nat) (F' : Nat → Prop), n9 = i ∧ i ≤ M.length ∧ Step F F' w w10 ∧ IsArr w10 a (flushM i M) left false F' ∧ RowW w10 a #[.slice p4 M.length c4, .int .i64 left, .bool false]) (fun _ _ _ _ _ n9 _ => 100 - n9.toNat) ?_).mono (by
      rintro e w' ⟨v, rfl, F', rfl, h⟩; exact ⟨F', rfl, h⟩)
  have hzero : flushM 0 M = M := by
    apply List.ext_getElem?
    intro j
    simp [flushM]
  refine condB_of (fun h => by cases h) fun _ => ⟨_, hr.row.cell rfl, condB_of (fun h => by cases h) fun _ => ⟨_, _, _, hr.row.cell rfl, ⟨0, F, rfl, Nat.zero_le _, Step.refl _ _, by rw [hzero]; exact h, hr⟩, ?_⟩⟩
  rintro n9 w10 ⟨i, F', rfl, hi, s10, h10, r10⟩
  intros
  refine condB_of (fun hlt => ?_) (fun hge => ?_)
  · simp only [decide_eq_true_eq] at hlt
    obtain ⟨m, hm⟩ : ∃ m, M[i]? = some m := ⟨M[i]'(by omega), List.getElem?_eq_getElem _⟩
    have hcm := flushM_at hm
    have r10' : RowW w10 a #[.slice p4 (flushM i M).length c4, .int .i64 left, .bool false] := by rw [flushM_len]; exact r10
    obtain ⟨ap, b, Fi, rfl, e1, e2, hd, hFi, hstep⟩ := h10.entry r10' hcm
    rw [Int.toNat_natCast]
    refine ⟨⟨by omega, hlt⟩, _, e1, _, e2, fun k26 w27 hk => ?_⟩
    have hk0 : w10.heap.size ≤ k26 := by rw [hk.size.1]; exact Nat.le_refl _
    have r27 : RowW w27 k26 _ := ⟨_, hk.at⟩
    refine ⟨r27.live (n := 0) (by simp), fun w28 s28 => ?_⟩
    have s28' : SetC w27 ((at0 k26).add 0) (.pointer (some (at0 b))) w28 := s28
    have r28 := s28'.row r27
    have x28 := setc_new hk.ext hk0 s28'
    refine ⟨r28.live (by simp), fun w29 s29 => ?_⟩
    have r29 := s29.row r28
    have x29 := setc_new x28 hk0 s29
    refine ⟨some (at0 b), r29.row.cell rfl, ?_⟩
    refine (d_flush (hd.ext x29)).mono ?_
    rintro e w41 ⟨rfl, hs, hd'⟩
    have hs' : Step Fi Fi w10 w41 := (Step.ext x29).trans hs
    obtain ⟨F2, h2, s2⟩ := hstep w41 _ _ hs' hd'
    rw [flushM_set hm] at h2
    rw [w64 (by omega)]
    exact ⟨_, rfl, ⟨i + 1, F2, by omega, by omega, s10.trans s2, h2, hs'.upd.rowW r10 fun hf => (hFi a hf).2 rfl⟩, by show 100 - ((i : Int) + 1).toNat < 100 - (i : Int).toNat; omega⟩
  · simp only [decide_eq_false_iff_not] at hge
    have : i = M.length := by omega
    subst this
    exact ⟨F', rfl, s10, h10⟩
end
end Go.Proofs.Ytbidancfbilbkaa
