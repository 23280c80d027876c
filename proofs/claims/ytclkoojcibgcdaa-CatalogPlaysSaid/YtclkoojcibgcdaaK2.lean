/- Records: which may be. -/
import Derived.Test.YtclkoojcibgcdaaK1
namespace Go.Proofs.Ytclkoojcibgcdaa
open Go Go.Vc

def RecHead (kind : Int) (key : ByteArray) (len : Int) (st : List Int) : Prop := (kind = 1 ∨ kind = 2) ∧ (1 ≤ key.size ∧ key.size ≤ 64) ∧ (0 ≤ len ∧ len ≤ 2147483647) ∧ st.length ≤ 256
def RecSt (st : List Int) : Prop := ∀ s ∈ st, 0 ≤ s ∧ s < 256
def RecOk (kind : Int) (key : ByteArray) (len : Int) (st : List Int) : Prop := RecHead kind key len st ∧ RecSt st ∧ (kind = 2 → len = 0 ∧ st.length = 0)
instance (kind : Int) (key : ByteArray) (len : Int) (st : List Int) : Decidable (RecHead kind key len st) := inferInstanceAs (Decidable (_ ∧ _))
instance (st : List Int) : Decidable (RecSt st) := inferInstanceAs (Decidable (∀ s ∈ st, 0 ≤ s ∧ s < 256))
instance (kind : Int) (key : ByteArray) (len : Int) (st : List Int) : Decidable (RecOk kind key len st) := inferInstanceAs (Decidable (_ ∧ _))
def recZ (kind : Int) (key : ByteArray) (len : Int) (st : List Int) : Int := if RecOk kind key len st then 0 else 1

def recI (P : Prop) (st : List Int) : Option Addr → Option Addr → Nat → Nat → Int → World → Bool → Int → World → Prop :=
  fun _ _ _ _ _ w6 b n w17 => ∃ i : Nat, n = i ∧ i ≤ st.length ∧ w17 = w6 ∧ (b = true ↔ ¬ (P ∧ RecSt (st.take i)))
def recM (st : List Int) : Option Addr → Option Addr → Nat → Nat → Int → World → Bool → Int → World → Nat := fun _ _ _ _ _ _ _ n _ => st.length - n.toNat
theorem recSt_snoc {st : List Int} {i : Nat} {s : Int} (h : st[i]? = some s) : RecSt (st.take (i + 1)) ↔ RecSt (st.take i) ∧ 0 ≤ s ∧ s < 256 := by
  rw [List.take_add_one, h]
  unfold RecSt
  simp only [Option.toList_some, List.mem_append, List.mem_singleton]
  constructor
  · intro h; exact ⟨fun x hx => h x (.inl hx), h s (.inr rfl)⟩
  · rintro ⟨h1, h2⟩ x (hx | rfl)
    · exact h1 x hx
    · exact h2

set_option maxHeartbeats 1000000 in
theorem rec_spec (kind : Int) (key : ByteArray) (len : Int) {p : Option Addr} {l c : Nat} {st : List Int} {w : World} (h : IntsAt w p l st) (hl : l ≤ 4611686018427387904) :
    Calls Try.prog 48 #[.agg #[.int .i64 kind, .string key, .int .i64 len, .slice p l c]] w fun e w' => e = .returned (.int .i64 (recZ kind key len st)) ∧ Ext w w' := by
  refine (F48_calls kind key len p l c w (fun v w' => v = .int .i64 (recZ kind key len st) ∧ Ext w w') (recI (RecHead kind key len st) st) (recM st) ?_).mono (by rintro e w' ⟨v, rfl, rfl, h⟩; exact ⟨rfl, h⟩)
  have hlen := h.1
  intro k5 w6 hk
  have r : RowW w6 k5 _ := ⟨_, hk.at⟩
  have h6 := h.ext hk.ext
  have bad : ∀ {q : Prop}, ¬ RecOk kind key len st → q = True → (Value.int .i64 1 = .int .i64 (recZ kind key len st) ∧ Ext w w6) := fun hb _ => ⟨by rw [recZ, if_neg hb], hk.ext⟩
  have loop : ∀ (b : Bool) (n : Int) (w17 : World), recI (RecHead kind key len st) st (some (at0 k5)) p l c (l : Int) w6 b n w17 →
      F48_A2 n l p w17 b k5 c w6 (fun v w' => v = .int .i64 (recZ kind key len st) ∧ Ext w w') (recI (RecHead kind key len st) st) (recM st) := by
    rintro b n w17 ⟨i, rfl, hi, rfl, hb⟩
    refine condB_of (fun hlt => ?_) (fun hge => ?_)
    · simp only [decide_eq_true_eq] at hlt
      obtain ⟨s, hs⟩ : ∃ s, st[i]? = some s := ⟨st[i]'(by omega), List.getElem?_eq_getElem _⟩
      obtain ⟨a, rfl, ca⟩ := h6.2 i (.int .i64 s) (by rw [List.getElem?_map, hs]; rfl)
      have hsn := recSt_snoc hs
      have mu : recM st (some (at0 k5)) (some a) l c (l : Int) w17 b (IntKind.i64.wrap ((i : Int) + 1)) w17 < recM st (some (at0 k5)) (some a) l c (l : Int) w17 b (i : Int) w17 := by
        rw [w64 (by omega)]
        show st.length - ((i : Int) + 1).toNat < st.length - (i : Int).toNat
        omega
      have nx : ∀ b', (b' = true ↔ ¬ (RecHead kind key len st ∧ RecSt (st.take (i + 1)))) → recI (RecHead kind key len st) st (some (at0 k5)) (some a) l c (l : Int) w17 b' (IntKind.i64.wrap ((i : Int) + 1)) w17 := fun b' hb' =>
        ⟨i + 1, by rw [w64 (by omega)]; omega, by omega, rfl, hb'⟩
      rw [Int.toNat_natCast, Nat.mul_one]
      refine ⟨⟨by omega, hlt⟩, s, ca, condB_of (fun h1 => ⟨nx true ?_, mu⟩) fun h1 => condB_of (fun h2 => ⟨nx true ?_, mu⟩) fun h2 => ⟨nx _ ?_, mu⟩⟩
      · have := hb.1 h1
        simp only [true_iff]
        rw [hsn]
        exact fun h => this ⟨h.1, h.2.1⟩
      · simp only [decide_eq_true_eq] at h2
        simp only [true_iff]
        rw [hsn]
        exact fun h => by omega
      · simp only [decide_eq_false_iff_not] at h2
        have : RecHead kind key len st ∧ RecSt (st.take i) := by
          by_cases hq : RecHead kind key len st ∧ RecSt (st.take i)
          · exact hq
          · rw [hb.2 hq] at h1; cases h1
        rw [decide_eq_true_eq, hsn]
        constructor
        · intro h5 h; omega
        · intro h5
          apply Int.not_lt.1
          intro h6
          exact h5 ⟨this.1, this.2, by omega, h6⟩
    · simp only [decide_eq_false_iff_not] at hge
      have e1 : st.take i = st := List.take_of_length_le (by omega)
      rw [e1] at hb
      refine condB_of (fun h1 => ?_) fun h1 => ?_
      · have := hb.1 h1
        exact bad (q := True) (fun h => this ⟨h.1, h.2.1⟩) rfl
      have hok : RecHead kind key len st ∧ RecSt st := by
        by_cases hq : RecHead kind key len st ∧ RecSt st
        · exact hq
        · rw [hb.2 hq] at h1; cases h1
      have fine : (kind = 2 → len = 0 ∧ st.length = 0) → (Value.int .i64 0 = .int .i64 (recZ kind key len st) ∧ Ext w w17) := fun hq => ⟨by rw [recZ, if_pos ⟨hok.1, hok.2, hq⟩], hk.ext⟩
      refine ⟨_, r.row.cell (n := 0) rfl, condB_of (fun h2 => ⟨_, r.row.cell rfl, condB_of (fun h3 => ?_) fun h3 => ⟨_, _, _, r.row.cell rfl, condB_of (fun h4 => ?_) fun h4 => ?_⟩⟩) fun h2 => ?_⟩ <;>
        simp only [decide_eq_true_eq, decide_eq_false_iff_not, Bool.not_eq_true', Bool.not_eq_false'] at *
      · exact bad (q := True) (fun h => h3 (h.2.2 h2).1) rfl
      · exact bad (q := True) (fun h => by have := (h.2.2 h2).2; omega) rfl
      · exact fine fun _ => ⟨h3, by omega⟩
      · exact fine fun h => absurd h h2
  have start : ∀ b0 : Bool, (b0 = true ↔ ¬ RecHead kind key len st) → recI (RecHead kind key len st) st (some (at0 k5)) p l c (l : Int) w6 b0 0 w6 := fun b0 hb0 =>
    ⟨0, rfl, Nat.zero_le _, rfl, by rw [hb0]; simp [RecSt]⟩
  have a1 : ¬ RecHead kind key len st → F48_A1 w6 k5 (fun v w' => v = .int .i64 (recZ kind key len st) ∧ Ext w w') (recI (RecHead kind key len st) st) (recM st) := fun hn =>
    ⟨_, _, _, r.row.cell rfl, start true (by simp [hn]), fun b n w17 hI => by intros; exact loop b n w17 hI⟩
  have a0 : kind = 1 ∨ kind = 2 → F48_A0 w6 k5 (fun v w' => v = .int .i64 (recZ kind key len st) ∧ Ext w w') (recI (RecHead kind key len st) st) (recM st) := fun hkd => by
    refine ⟨_, r.row.cell rfl, condB_of (fun h1 => a1 ?_) fun h1 => ⟨_, r.row.cell rfl, condB_of (fun h2 => a1 ?_) fun h2 => ⟨_, r.row.cell rfl, condB_of (fun h3 => a1 ?_) fun h3 => ⟨_, r.row.cell rfl, condB_of (fun h4 => a1 ?_) fun h4 => ⟨_, _, _, r.row.cell rfl, _, _, _, r.row.cell rfl, start _ ?_, fun b n w17 hI => by intros; exact loop b n w17 hI⟩⟩⟩⟩⟩ <;>
      simp only [decide_eq_true_eq, decide_eq_false_iff_not] at * <;> unfold RecHead <;> omega
  refine ⟨_, r.row.cell (n := 0) rfl, condB_of (fun h1 => ⟨_, r.row.cell (n := 0) rfl, condB_of (fun h2 => a1 ?_) fun h2 => a0 ?_⟩) fun h1 => a0 ?_⟩ <;>
    simp only [decide_eq_true_eq, decide_eq_false_iff_not, Bool.not_eq_true', Bool.not_eq_false'] at *
  · unfold RecHead; omega
  · exact .inr h2
  · exact .inl h1
end Go.Proofs.Ytclkoojcibgcdaa
