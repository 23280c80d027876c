/- Both arrays: a call of a script. -/
import Derived.Test.YtbidancfbilbkaaR7
namespace Go.Proofs.Ytbidancfbilbkaa
open Go Go.Vc

section
variable {w : World} {a r : Nat} {s : StA} {F G : Nat → Prop}

theorem b_failA (h : IsA w a s F) (d : Int) : Calls Try.prog 25 #[.pointer (some (at0 a)), .int .i64 d] w fun e w' => ∃ F', e = .returned (.int .i64 (if inA s d then 0 else 1)) ∧ Step F F' w w' ∧
    IsA w' a (onDisk s d fun m => ⟨{ m.d with dead := true, lasts := [], waits := [] }, IntKind.i64.wrap (m.births + 1)⟩) F' := by
  by_cases hr : inA s d
  · obtain ⟨i, m, rfl, hm⟩ := in_range hr
    refine (afail_spec h hm).mono ?_
    rintro e w' ⟨F', rfl, hs, h'⟩
    exact ⟨F', by rw [if_pos hr], hs, by rw [onDisk_in _ rfl hm]; exact h'⟩
  · refine (afail_out h hr).mono ?_
    rintro e w' ⟨rfl, rfl⟩
    exact ⟨F, by rw [if_neg hr], Step.refl _ _, by rw [onDisk_out _ hr]; exact h⟩
theorem b_replaceA (h : IsA w a s F) (d : Int) : Calls Try.prog 26 #[.pointer (some (at0 a)), .int .i64 d] w fun e w' => ∃ F', e = .returned (.int .i64 (if inA s d then 0 else 1)) ∧ Step F F' w w' ∧
    IsA w' a (onDisk s d fun m => ⟨{ m.d with dead := false, lasts := [], waits := [] }, IntKind.i64.wrap (m.births + 1)⟩) F' := by
  by_cases hr : inA s d
  · obtain ⟨i, m, rfl, hm⟩ := in_range hr
    refine (areplace_spec h hm).mono ?_
    rintro e w' ⟨F', rfl, hs, h'⟩
    exact ⟨F', by rw [if_pos hr], hs, by rw [onDisk_in _ rfl hm]; exact h'⟩
  · refine (areplace_out h hr).mono ?_
    rintro e w' ⟨rfl, rfl⟩
    exact ⟨F, by rw [if_neg hr], Step.refl _ _, by rw [onDisk_out _ hr]; exact h⟩
theorem b_corruptA (h : IsA w a s F) (d k t : Int) (y : UInt8) (ht : -9223372036854775808 ≤ t ∧ t ≤ 9223372036854775807) :
    Calls Try.prog 27 #[.pointer (some (at0 a)), .int .i64 d, .int .i64 k, .int .i64 t, .int .u8 (y.toNat : Int)] w fun e w' => ∃ F', e = .returned (.int .i64 (ansC s d k)) ∧ Step F F' w w' ∧ IsA w' a (onDisk s d fun m => { m with d := corruptD m.d k t y }) F' := by
  by_cases hr : inA s d
  · obtain ⟨i, m, rfl, hm⟩ := in_range hr
    refine (acorrupt_spec h hm k t y ht).mono ?_
    rintro e w' ⟨F', rfl, hs, h'⟩
    exact ⟨F', by simp [ansC, hm], hs, by rw [onDisk_in _ rfl hm]; exact h'⟩
  · refine (acorrupt_out h hr k t _).mono ?_
    rintro e w' ⟨rfl, rfl⟩
    refine ⟨F, ?_, Step.refl _ _, by rw [onDisk_out _ hr]; exact h⟩
    unfold ansC
    by_cases h0 : 0 ≤ d
    · simp [h0, out_none hr h0]
    · simp [h0]

/-- what both tell of a sector -/
def ansR (s : StA) (d n : Int) : Int × List UInt8 := if s.down then (130, []) else if 0 ≤ d then match s.M[d.toNat]? with
  | some m => (faultZ m.d.dead m.d.sectors n, if faultZ m.d.dead m.d.sectors n = 0 then readD m.d n else [])
  | none => (1, []) else (1, [])
theorem b_readA (h : IsA w a s F) (d n : Int) : Calls Try.prog 13 #[.pointer (some (at0 a)), .int .i64 d, .int .i64 n] w fun e w' => Ext w w' ∧ ∃ p l c, e = .returned (.tuple #[.slice p l c, .int .i64 (ansR s d n).1]) ∧ BytesAt w' p l (ansR s d n).2 ∧ l ≤ 4108 := by
  obtain ⟨M, left, down⟩ := s
  cases down with
  | true =>
    refine (aread_down h d n).mono ?_
    rintro e w' ⟨rfl, rfl⟩
    exact ⟨Upd.refl _ _, none, 0, 0, rfl, BytesAt.nil _ _, by omega⟩
  | false =>
    by_cases hr : 0 ≤ d ∧ d < M.length
    · obtain ⟨i, m, rfl, hm⟩ := in_range hr
      refine (aread_spec h hm n).mono ?_
      rintro e w' ⟨hx, p, l, c, bs, rfl, hbs, rfl, ho, hl⟩
      have e1 : ansR ⟨M, left, false⟩ (i : Int) n = (faultZ m.d.dead m.d.sectors n, bs) := by simp [ansR, hm, hbs]
      rw [e1]
      exact ⟨hx, p, _, c, rfl, BytesAt.of_cells ho.cells, hl⟩
    · refine (aread_out h hr n).mono ?_
      rintro e w' ⟨rfl, rfl⟩
      have e1 : ansR ⟨M, left, false⟩ d n = (1, []) := by
        unfold ansR
        by_cases h0 : 0 ≤ d
        · have hn : M[d.toNat]? = none := List.getElem?_eq_none (by omega)
          simp [h0, hn]
        · simp [h0]
      rw [e1]
      exact ⟨Upd.refl _ _, none, 0, 0, rfl, BytesAt.nil _ _, by omega⟩
theorem b_readR (h : IsR w r s G) (d n : Int) : Calls Try.prog 42 #[.pointer (some (at0 r)), .int .i64 d, .int .i64 n] w fun e w' => Ext w w' ∧ ∃ p l c, e = .returned (.tuple #[.slice p l c, .int .i64 (ansR s d n).1]) ∧ BytesAt w' p l (ansR s d n).2 ∧ l ≤ 4108 := by
  obtain ⟨M, left, down⟩ := s
  cases down with
  | true =>
    refine (ra_read_off h d n).mono ?_
    rintro e w' ⟨rfl, rfl⟩
    exact ⟨Upd.refl _ _, none, 0, 0, rfl, BytesAt.nil _ _, by omega⟩
  | false =>
    by_cases hr : 0 ≤ d ∧ d < M.length
    · obtain ⟨i, m, rfl, hm⟩ := in_range hr
      refine (ra_read h (dsOf_at (s := ⟨M, left, false⟩) hm) n).mono ?_
      rintro e w' ⟨hx, p, l, c, bs, rfl, hbs, hb, hl⟩
      have e1 : ansR ⟨M, left, false⟩ (i : Int) n = (faultZ m.d.dead m.d.sectors n, bs) := by simp [ansR, hm, hbs]
      rw [e1]
      exact ⟨hx, p, _, c, rfl, hb, hl⟩
    · refine (ra_read_out h (by rw [dsOf_len]; exact hr) n).mono ?_
      rintro e w' ⟨rfl, rfl⟩
      have e1 : ansR ⟨M, left, false⟩ d n = (1, []) := by
        unfold ansR
        by_cases h0 : 0 ≤ d
        · have hn : M[d.toNat]? = none := List.getElem?_eq_none (by omega)
          simp [h0, hn]
        · simp [h0]
      rw [e1]
      exact ⟨Upd.refl _ _, none, 0, 0, rfl, BytesAt.nil _ _, by omega⟩

theorem flushDs_of (s : StA) : dsOf { s with M := flushM s.M.length s.M } = flushDs (dsOf s).length (dsOf s) ∧ bsOf { s with M := flushM s.M.length s.M } = bsOf s := by
  constructor
  · apply List.ext_getElem?
    intro j
    simp only [dsOf, flushDs, flushM, List.getElem?_map, List.getElem?_mapIdx, List.length_map]
    cases s.M[j]? with
    | none => rfl
    | some m =>
      simp only [Option.map_some]
      split <;> rfl
  · apply List.ext_getElem?
    intro j
    simp only [bsOf, flushM, List.getElem?_map, List.getElem?_mapIdx]
    cases s.M[j]? with
    | none => rfl
    | some m =>
      simp only [Option.map_some]
      split <;> rfl
theorem crashDs_of (s : StA) (KS : List (List Int)) (l : Int) (dn : Bool) : dsOf ⟨crashM KS s.M.length s.M, l, dn⟩ = crashDs KS (dsOf s).length (dsOf s) ∧ bsOf ⟨crashM KS s.M.length s.M, l, dn⟩ = bsOf s := by
  constructor
  · apply List.ext_getElem?
    intro j
    simp only [dsOf, crashDs, crashM, List.getElem?_map, List.getElem?_mapIdx, List.length_map]
    cases s.M[j]? with
    | none => rfl
    | some m =>
      simp only [Option.map_some]
      split <;> rfl
  · apply List.ext_getElem?
    intro j
    simp only [bsOf, crashM, List.getElem?_map, List.getElem?_mapIdx]
    cases s.M[j]? with
    | none => rfl
    | some m =>
      simp only [Option.map_some]
      split <;> rfl

theorem b_flushA (h : IsA w a s F) (ho : OkA s) : Calls Try.prog 14 #[.pointer (some (at0 a))] w fun e w' => ∃ F', e = .returned (.int .i64 (if s.down then 130 else 0)) ∧ Step F F' w w' ∧ IsA w' a (if s.down then s else { s with M := flushM s.M.length s.M }) F' := by
  obtain ⟨M, left, down⟩ := s
  cases down with
  | true =>
    refine (aflush_down h).mono ?_
    rintro e w' ⟨rfl, rfl⟩
    exact ⟨F, rfl, Step.refl _ _, h⟩
  | false =>
    refine (aflush_spec h (by have h2 : M.length ≤ 32 := ho.1; show M.length ≤ 100; omega)).mono ?_
    rintro e w' ⟨F', rfl, hs, h'⟩
    exact ⟨F', rfl, hs, h'⟩
theorem b_flushR (h : IsR w r s G) (ho : OkA s) : Calls Try.prog 44 #[.pointer (some (at0 r))] w fun e w' => ∃ G', e = .returned (.int .i64 (if s.down then 130 else 0)) ∧ Step G G' w w' ∧ IsR w' r (if s.down then s else { s with M := flushM s.M.length s.M }) G' := by
  have hf := flushDs_of s
  cases hd : s.down with
  | true =>
    have h1 : IsRA w r (dsOf s) (bsOf s) s.left s.down G := h
    rw [hd] at h1
    refine (ra_flush_off h1).mono ?_
    rintro e w' ⟨rfl, rfl⟩
    exact ⟨G, rfl, Step.refl _ _, h⟩
  | false =>
    have h1 : IsRA w r (dsOf s) (bsOf s) s.left s.down G := h
    rw [hd] at h1
    refine (ra_flush h1 (by rw [dsOf_len]; have := ho.1; omega)).mono ?_
    rintro e w' ⟨G', rfl, hs, h'⟩
    refine ⟨G', rfl, hs, ?_⟩
    have e1 : dsOf ⟨flushM s.M.length s.M, s.left, false⟩ = flushDs (dsOf s).length (dsOf s) := hf.1
    have e2 : bsOf ⟨flushM s.M.length s.M, s.left, false⟩ = bsOf s := hf.2
    show IsRA w' r (dsOf ⟨flushM s.M.length s.M, s.left, false⟩) (bsOf ⟨flushM s.M.length s.M, s.left, false⟩) s.left false G'
    rw [e1, e2]
    exact h'
end
end Go.Proofs.Ytbidancfbilbkaa
