/- The document's check of a record; its catalog as it lies. -/
import Derived.Test.YtclkoojcibgcdaaQ1
namespace Go.Proofs.Ytclkoojcibgcdaa
open Go Go.Vc

set_option maxHeartbeats 1000000 in
theorem rrec_spec (kind : Int) (key : ByteArray) (len : Int) {p : Option Addr} {l c : Nat} {st : List Int} {w : World} (h : IntsAt w p l st) (hl : l ≤ 4611686018427387904) :
    Calls Try.prog 52 #[.agg #[.int .i64 kind, .string key, .int .i64 len, .slice p l c]] w fun e w' => e = .returned (.int .i64 (recZ kind key len st)) ∧ Ext w w' := by
  refine (F52_calls kind key len p l c w (fun v w' => v = .int .i64 (recZ kind key len st) ∧ Ext w w') (fun _ w6 n15 w16 => ∃ i : Nat, n15 = i ∧ i ≤ st.length ∧ w16 = w6 ∧ RecSt (st.take i)) (fun _ _ n15 _ => st.length - n15.toNat) ?_).mono (by rintro e w' ⟨v, rfl, rfl, h⟩; exact ⟨rfl, h⟩)
  have hlen := h.1
  intro k5 w6 hk
  have r : RowW w6 k5 #[.int .i64 kind, .string key, .int .i64 len, .slice p l c] := ⟨_, hk.at⟩
  have h6 := h.ext hk.ext
  have bad : ¬ RecOk kind key len st → (Value.int .i64 1 = .int .i64 (recZ kind key len st) ∧ Ext w w6) := fun hb => ⟨by rw [recZ, if_neg hb], hk.ext⟩
  have good : RecOk kind key len st → (Value.int .i64 0 = .int .i64 (recZ kind key len st) ∧ Ext w w6) := fun hb => ⟨by rw [recZ, if_pos hb], hk.ext⟩
  have a0 : (kind = 1 ∨ kind = 2) → F52_A0 w6 k5 (fun v w' => v = .int .i64 (recZ kind key len st) ∧ Ext w w') (fun _ w6 n15 w16 => ∃ i : Nat, n15 = i ∧ i ≤ st.length ∧ w16 = w6 ∧ RecSt (st.take i)) (fun _ _ n15 _ => st.length - n15.toNat) := by
    intro hkind
    refine ⟨_, r.row.cell rfl, condB_of (fun h1 => bad fun hg => ?_) fun h1 => ⟨_, r.row.cell rfl, condB_of (fun h2 => bad fun hg => ?_) fun h2 => ⟨_, r.row.cell rfl, condB_of (fun h3 => bad fun hg => ?_) fun h3 => ⟨_, r.row.cell rfl, condB_of (fun h4 => bad fun hg => ?_) fun h4 => ⟨_, _, _, r.row.cell rfl, condB_of (fun h5 => bad fun hg => ?_) fun h5 => ⟨⟨0, rfl, Nat.zero_le _, rfl, fun x hx => by simp at hx⟩, ?_⟩⟩⟩⟩⟩⟩
    · simp only [decide_eq_true_eq] at h1; have := hg.1.2.1; omega
    · simp only [decide_eq_true_eq] at h2; have := hg.1.2.1; omega
    · simp only [decide_eq_true_eq] at h3; have := hg.1.2.2.1; omega
    · simp only [decide_eq_true_eq] at h4; have := hg.1.2.2.1; omega
    · simp only [decide_eq_true_eq] at h5; have := hg.1.2.2.2; omega
    simp only [decide_eq_false_iff_not] at h1 h2 h3 h4 h5
    have hhead : RecHead kind key len st := ⟨hkind, ⟨by omega, by omega⟩, ⟨by omega, by omega⟩, by omega⟩
    rintro n15 w16 ⟨i, rfl, hi, rfl, hst⟩
    intros
    refine ⟨_, _, _, r.row.cell rfl, condB_of (fun hlt => ?_) (fun hge => ?_)⟩
    · simp only [decide_eq_true_eq] at hlt
      obtain ⟨x, hxs⟩ : ∃ x, st[i]? = some x := ⟨st[i]'(by omega), List.getElem?_eq_getElem _⟩
      have hsn := recSt_snoc hxs
      obtain ⟨a, rfl, hc⟩ := h6.get (i := i) (by omega)
      have hgx : st.getD i 0 = x := by simp [List.getD_eq_getElem?_getD, hxs]
      rw [hgx] at hc
      have hno : ¬ (0 ≤ x ∧ x < 256) → ¬ RecOk kind key len st := fun hn hg => hn (hg.2.1 x (List.mem_of_getElem? hxs))
      rw [Int.toNat_natCast]
      refine ⟨_, _, _, r.row.cell rfl, ⟨by omega, hlt⟩, _, by rw [Nat.mul_one]; exact hc, condB_of (fun hn => bad (hno fun hh => ?_)) fun hn => ⟨_, _, _, r.row.cell rfl, ⟨by omega, hlt⟩, _, by rw [Nat.mul_one]; exact hc, condB_of (fun hn2 => bad (hno fun hh => ?_)) fun hn2 => ?_⟩⟩
      · simp only [decide_eq_true_eq] at hn; omega
      · simp only [decide_eq_true_eq] at hn2; omega
      · simp only [decide_eq_false_iff_not] at hn hn2
        rw [w64 (by omega)]
        exact ⟨⟨i + 1, by omega, by omega, rfl, hsn.2 ⟨hst, by omega, by omega⟩⟩, by show st.length - ((i : Int) + 1).toNat < st.length - (i : Int).toNat; omega⟩
    · simp only [decide_eq_false_iff_not] at hge
      have hall : RecSt st := by rw [List.take_of_length_le (by omega)] at hst; exact hst
      refine ⟨_, r.row.cell rfl, condB_of (fun hk2 => ⟨_, r.row.cell rfl, condB_of (fun hz => bad fun hg => ?_) fun hz => ⟨_, _, _, r.row.cell rfl, condB_of (fun hz2 => bad fun hg => ?_) fun hz2 => good ?_⟩⟩) fun hk2 => good ?_⟩
      · simp only [decide_eq_true_eq] at hk2
        simp only [Bool.not_eq_true', decide_eq_false_iff_not] at hz
        exact hz (hg.2.2 hk2).1
      · simp only [decide_eq_true_eq] at hk2 hz2
        have := (hg.2.2 hk2).2; omega
      · simp only [Bool.not_eq_false', decide_eq_true_eq] at hz
        simp only [decide_eq_false_iff_not] at hz2
        exact ⟨hhead, hall, fun _ => ⟨hz, by omega⟩⟩
      · simp only [decide_eq_false_iff_not] at hk2
        exact ⟨hhead, hall, fun h => absurd h hk2⟩
  refine ⟨_, r.row.cell rfl, condB_of (fun h1 => ⟨_, r.row.cell rfl, condB_of (fun h2 => bad fun hg => ?_) fun h2 => a0 ?_⟩) fun h1 => a0 ?_⟩
  · simp only [Bool.not_eq_true', decide_eq_false_iff_not] at h1 h2
    rcases hg.1.1 with h | h
    · exact h1 h
    · exact h2 h
  · simp only [Bool.not_eq_false', decide_eq_true_eq] at h2
    exact .inr h2
  · simp only [Bool.not_eq_false', decide_eq_true_eq] at h1
    exact .inl h1
end Go.Proofs.Ytclkoojcibgcdaa
