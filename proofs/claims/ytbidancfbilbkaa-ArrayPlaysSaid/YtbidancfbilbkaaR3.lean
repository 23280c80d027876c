/- The document's array: its calls on one disk. -/
import Derived.Test.YtbidancfbilbkaaR2
namespace Go.Proofs.Ytbidancfbilbkaa
open Go Go.Vc

section
variable {w : World} {r : Nat} {Ds : List Dk} {B : List Int} {left : Int} {off : Bool} {F : Nat → Prop}

theorem ra_there (h : IsRA w r Ds B left off F) (k : Int) : Calls Try.prog 61 #[.pointer (some (at0 r)), .int .i64 k] w fun e w' => e = .returned (.bool (decide (0 ≤ k ∧ k < Ds.length))) ∧ w' = w := by
  refine (F61_calls (some (at0 r)) k w (fun v w' => v = .bool (decide (0 ≤ k ∧ k < Ds.length)) ∧ w' = w) ?_).mono (by rintro e w' ⟨v, rfl, rfl, h⟩; exact ⟨rfl, h⟩)
  obtain ⟨pD, cD, pB, cB, hr⟩ := h.row
  refine condB_of (fun h1 => ⟨_, _, _, hr.row.cell rfl, ?_, rfl⟩) (fun h1 => ⟨?_, rfl⟩)
  · simp only [decide_eq_true_eq] at h1
    congr 1
    rw [decide_eq_decide]
    omega
  · simp only [decide_eq_false_iff_not] at h1
    rw [decide_eq_false (by omega)]

theorem ra_write_off (h : IsRA w r Ds B left true F) (i k : Int) (p : Option Addr) (l c : Nat) : Calls Try.prog 41 #[.pointer (some (at0 r)), .int .i64 i, .int .i64 k, .slice p l c] w fun e w' => e = .returned (.int .i64 130) ∧ w' = w := by
  refine (F41_calls (some (at0 r)) i k p l c w (fun v w' => v = .int .i64 130 ∧ w' = w) ?_).mono (by rintro e w' ⟨v, rfl, rfl, h⟩; exact ⟨rfl, h⟩)
  obtain ⟨pD, cD, pB, cB, hr⟩ := h.row
  exact ⟨_, hr.row.cell rfl, condB_of (fun _ => ⟨rfl, rfl⟩) fun h => by cases h⟩
theorem ra_write_out (h : IsRA w r Ds B left false F) {i : Int} (hi : ¬ (0 ≤ i ∧ i < Ds.length)) (k : Int) (p : Option Addr) (l c : Nat) : Calls Try.prog 41 #[.pointer (some (at0 r)), .int .i64 i, .int .i64 k, .slice p l c] w fun e w' => e = .returned (.int .i64 1) ∧ w' = w := by
  refine (F41_calls (some (at0 r)) i k p l c w (fun v w' => v = .int .i64 1 ∧ w' = w) ?_).mono (by rintro e w' ⟨v, rfl, rfl, h⟩; exact ⟨rfl, h⟩)
  obtain ⟨pD, cD, pB, cB, hr⟩ := h.row
  refine ⟨_, hr.row.cell rfl, condB_of (fun h => by cases h) fun _ => (ra_there h i).mono ?_⟩
  rintro e w7 ⟨rfl, rfl⟩
  exact ⟨_, rfl, condB_of (fun _ => ⟨rfl, rfl⟩) fun h1 => by simp at h1; omega⟩
theorem ra_write (h : IsRA w r Ds B left false F) (hleft : -1 ≤ left ∧ left ≤ 9223372036854775807) {i : Nat} {D : Dk} (hi : Ds[i]? = some D) (k : Int) {p : Option Addr} {l c : Nat} {bs : List UInt8} (hb : BytesAt w p l bs) :
    Calls Try.prog 41 #[.pointer (some (at0 r)), .int .i64 (i : Int), .int .i64 k, .slice p l c] w fun e w' => ∃ F', e = .returned (.int .i64 (writeZ D k bs.length)) ∧ Step F F' w w' ∧
      IsRA w' r (Ds.set i (writeD D k bs)) B (if writeZ D k bs.length = 0 ∧ 0 < left then left - 1 else left) (decide (writeZ D k bs.length = 0 ∧ left = 1)) F' := by
  refine (F41_calls (some (at0 r)) (i : Int) k p l c w (fun v w' => ∃ F', v = .int .i64 (writeZ D k bs.length) ∧ Step F F' w w' ∧
      IsRA w' r (Ds.set i (writeD D k bs)) B (if writeZ D k bs.length = 0 ∧ 0 < left then left - 1 else left) (decide (writeZ D k bs.length = 0 ∧ left = 1)) F') ?_).mono (by rintro e w' ⟨v, rfl, F', rfl, h⟩; exact ⟨F', rfl, h⟩)
  have hil : i < Ds.length := (List.getElem?_eq_some_iff.1 hi).1
  obtain ⟨pD, cD, pB, cB, hr⟩ := h.row
  refine ⟨_, hr.row.cell rfl, condB_of (fun h => by cases h) fun _ => (ra_there h (i : Int)).mono ?_⟩
  rintro e w7 ⟨rfl, rfl⟩
  obtain ⟨ap, cD', b, Fi, e0, e1, hd, _, hstep⟩ := h.at hi
  refine ⟨_, rfl, condB_of (fun h0 => by simp at h0; omega) fun _ => ⟨_, _, _, e0, ⟨by omega, by omega⟩, _, by rw [Int.toNat_natCast]; exact e1, ?_⟩⟩
  refine (rd_write hd k hb).mono ?_
  rintro e w14 ⟨F1, rfl, hs, hd'⟩
  obtain ⟨F2, hA, hS⟩ := hstep w14 _ F1 hs hd'
  obtain ⟨pD2, cD2, pB2, cB2, hr2⟩ := hA.row
  refine ⟨_, rfl, condB_of (fun hz => ?_) (fun hz => ?_)⟩
  · simp only [decide_eq_true_eq] at hz
    refine ⟨_, hr2.row.cell rfl, condB_of (fun hl => ?_) (fun hl => ?_)⟩
    · simp only [decide_eq_true_eq] at hl
      refine ⟨_, hr2.row.cell rfl, hr2.live (by simp), fun w22 s22 => ?_⟩
      obtain ⟨hA22, hS22⟩ := hA.setLeft s22
      obtain ⟨pD3, cD3, pB3, cB3, hr3⟩ := hA22.row
      refine ⟨_, hr3.row.cell rfl, hr3.live (by simp), fun w26 s26 => ?_⟩
      obtain ⟨hA26, hS26⟩ := hA22.setOff s26
      refine ⟨F2, rfl, (hS.trans hS22).trans hS26, ?_⟩
      rw [w64 (by omega)] at hA26
      rw [if_pos ⟨hz, hl⟩]
      have e1 : decide (writeZ D k bs.length = 0 ∧ left = 1) = decide (left - 1 = 0) := by rw [decide_eq_decide]; omega
      rw [e1]
      exact hA26
    · simp only [decide_eq_false_iff_not] at hl
      refine ⟨F2, rfl, hS, ?_⟩
      rw [if_neg (by omega), decide_eq_false (by omega)]
      exact hA
  · simp only [decide_eq_false_iff_not] at hz
    refine ⟨F2, rfl, hS, ?_⟩
    rw [if_neg (by omega), decide_eq_false (by omega)]
    exact hA

theorem ra_read_off (h : IsRA w r Ds B left true F) (i k : Int) : Calls Try.prog 42 #[.pointer (some (at0 r)), .int .i64 i, .int .i64 k] w fun e w' => e = .returned (.tuple #[.slice none 0 0, .int .i64 130]) ∧ w' = w := by
  refine (F42_calls (some (at0 r)) i k w (fun v w' => v = .tuple #[.slice none 0 0, .int .i64 130] ∧ w' = w) ?_).mono (by rintro e w' ⟨v, rfl, rfl, h⟩; exact ⟨rfl, h⟩)
  obtain ⟨pD, cD, pB, cB, hr⟩ := h.row
  exact ⟨_, hr.row.cell rfl, condB_of (fun _ => ⟨rfl, rfl⟩) fun h => by cases h⟩
theorem ra_read_out (h : IsRA w r Ds B left false F) {i : Int} (hi : ¬ (0 ≤ i ∧ i < Ds.length)) (k : Int) : Calls Try.prog 42 #[.pointer (some (at0 r)), .int .i64 i, .int .i64 k] w fun e w' => e = .returned (.tuple #[.slice none 0 0, .int .i64 1]) ∧ w' = w := by
  refine (F42_calls (some (at0 r)) i k w (fun v w' => v = .tuple #[.slice none 0 0, .int .i64 1] ∧ w' = w) ?_).mono (by rintro e w' ⟨v, rfl, rfl, h⟩; exact ⟨rfl, h⟩)
  obtain ⟨pD, cD, pB, cB, hr⟩ := h.row
  refine ⟨_, hr.row.cell rfl, condB_of (fun h => by cases h) fun _ => (ra_there h i).mono ?_⟩
  rintro e w7 ⟨rfl, rfl⟩
  exact ⟨_, rfl, condB_of (fun _ => ⟨rfl, rfl⟩) fun h1 => by simp at h1; omega⟩
theorem ra_read (h : IsRA w r Ds B left false F) {i : Nat} {D : Dk} (hi : Ds[i]? = some D) (k : Int) : Calls Try.prog 42 #[.pointer (some (at0 r)), .int .i64 (i : Int), .int .i64 k] w fun e w' => Ext w w' ∧
    ∃ p l c bs, e = .returned (.tuple #[.slice p l c, .int .i64 (faultZ D.dead D.sectors k)]) ∧ bs = (if faultZ D.dead D.sectors k = 0 then readD D k else []) ∧ BytesAt w' p l bs ∧ l ≤ 4108 := by
  refine (F42_calls (some (at0 r)) (i : Int) k w (fun v w' => Ext w w' ∧ ∃ p l c bs, v = .tuple #[.slice p l c, .int .i64 (faultZ D.dead D.sectors k)] ∧ bs = (if faultZ D.dead D.sectors k = 0 then readD D k else []) ∧ BytesAt w' p l bs ∧ l ≤ 4108) ?_).mono (by
    rintro e w' ⟨v, rfl, hx, p, l, c, bs, rfl, h⟩; exact ⟨hx, p, l, c, bs, rfl, h⟩)
  have hil : i < Ds.length := (List.getElem?_eq_some_iff.1 hi).1
  obtain ⟨pD, cD, pB, cB, hr⟩ := h.row
  refine ⟨_, hr.row.cell rfl, condB_of (fun h => by cases h) fun _ => (ra_there h (i : Int)).mono ?_⟩
  rintro e w7 ⟨rfl, rfl⟩
  obtain ⟨ap, cD', b, Fi, e0, e1, hd, _, _⟩ := h.at hi
  refine ⟨_, rfl, condB_of (fun h0 => by simp at h0; omega) fun _ => ⟨_, _, _, e0, ⟨by omega, by omega⟩, _, by rw [Int.toNat_natCast]; exact e1, ?_⟩⟩
  refine (rd_read hd k).mono ?_
  rintro e w14 ⟨hx, p, l, c, bs, rfl, h⟩
  exact ⟨_, _, _, _, rfl, hx, p, l, c, bs, rfl, h⟩

theorem ra_corrupt_out (h : IsRA w r Ds B left off F) {i : Int} (hi : ¬ (0 ≤ i ∧ i < Ds.length)) (k t y : Int) : Calls Try.prog 49 #[.pointer (some (at0 r)), .int .i64 i, .int .i64 k, .int .i64 t, .int .u8 y] w fun e w' => e = .returned (.int .i64 1) ∧ w' = w := by
  refine (F49_calls (some (at0 r)) i k t y w (fun v w' => v = .int .i64 1 ∧ w' = w) ?_).mono (by rintro e w' ⟨v, rfl, rfl, h⟩; exact ⟨rfl, h⟩)
  refine (ra_there h i).mono ?_
  rintro e w7 ⟨rfl, rfl⟩
  exact ⟨_, rfl, condB_of (fun _ => ⟨rfl, rfl⟩) fun h1 => by simp at h1; omega⟩
theorem ra_corrupt (h : IsRA w r Ds B left off F) {i : Nat} {D : Dk} (hi : Ds[i]? = some D) (k t : Int) (y : UInt8) (ht : -9223372036854775808 ≤ t ∧ t ≤ 9223372036854775807) :
    Calls Try.prog 49 #[.pointer (some (at0 r)), .int .i64 (i : Int), .int .i64 k, .int .i64 t, .int .u8 (y.toNat : Int)] w fun e w' => ∃ F', e = .returned (.int .i64 (corruptZ D k)) ∧ Step F F' w w' ∧ IsRA w' r (Ds.set i (corruptD D k t y)) B left off F' := by
  refine (F49_calls (some (at0 r)) (i : Int) k t (y.toNat : Int) w (fun v w' => ∃ F', v = .int .i64 (corruptZ D k) ∧ Step F F' w w' ∧ IsRA w' r (Ds.set i (corruptD D k t y)) B left off F') ?_).mono (by rintro e w' ⟨v, rfl, F', rfl, h⟩; exact ⟨F', rfl, h⟩)
  have hil : i < Ds.length := (List.getElem?_eq_some_iff.1 hi).1
  refine (ra_there h (i : Int)).mono ?_
  rintro e w7 ⟨rfl, rfl⟩
  obtain ⟨ap, cD', b, Fi, e0, e1, hd, _, hstep⟩ := h.at hi
  refine ⟨_, rfl, condB_of (fun h0 => by simp at h0; omega) fun _ => ⟨_, _, _, e0, ⟨by omega, by omega⟩, _, by rw [Int.toNat_natCast]; exact e1, ?_⟩⟩
  refine (rd_corrupt hd k t y ht).mono ?_
  rintro e w14 ⟨F1, rfl, hs, hd'⟩
  obtain ⟨F2, hA, hS⟩ := hstep w14 _ F1 hs hd'
  exact ⟨_, rfl, F2, rfl, hS, hA⟩

theorem ra_after (h : IsRA w r Ds B left off F) (k : Int) : Calls Try.prog 45 #[.pointer (some (at0 r)), .int .i64 k] w fun e w' => e = .returned (.tuple #[]) ∧ Step F F w w' ∧
    IsRA w' r Ds B (if off then left else if k < -1 then -1 else k) (if off then true else decide (k = 0)) F := by
  refine (F45_calls (some (at0 r)) k w (fun v w' => v = .tuple #[] ∧ Step F F w w' ∧ IsRA w' r Ds B (if off then left else if k < -1 then -1 else k) (if off then true else decide (k = 0)) F) ?_).mono (by rintro e w' ⟨v, rfl, rfl, h⟩; exact ⟨rfl, h⟩)
  obtain ⟨pD, cD, pB, cB, hr⟩ := h.row
  refine ⟨_, hr.row.cell rfl, condB_of (fun ho => ⟨rfl, Step.refl _ _, ?_⟩) fun ho => ?_⟩
  · subst ho
    simpa using h
  · subst ho
    refine ⟨hr.live (by simp), fun w6 s6 => ?_⟩
    obtain ⟨h6, st6⟩ := h.setLeft s6
    obtain ⟨_, _, _, _, hr6⟩ := h6.row
    simp only [Bool.false_eq_true, if_false]
    refine condB_of (fun hk => ?_) (fun hk => ?_)
    · simp only [decide_eq_true_eq] at hk
      refine ⟨hr6.live (by simp), fun w8 s8 => ?_⟩
      obtain ⟨h8, st8⟩ := h6.setLeft s8
      obtain ⟨_, _, _, _, hr8⟩ := h8.row
      refine ⟨hr8.live (by simp), fun w10 s10 => ?_⟩
      obtain ⟨h10, st10⟩ := h8.setOff s10
      refine ⟨trivial, (st6.trans st8).trans st10, ?_⟩
      rw [if_neg (by omega)]
      exact h10
    · simp only [decide_eq_false_iff_not] at hk
      refine ⟨hr6.live (by simp), fun w12 s12 => ?_⟩
      obtain ⟨h12, st12⟩ := h6.setOff s12
      refine ⟨trivial, st6.trans st12, ?_⟩
      have : (if k < -1 then -1 else k) = -1 := by split <;> omega
      rw [this]
      exact h12
end
end Go.Proofs.Ytbidancfbilbkaa
