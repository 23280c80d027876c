/- Shards: how long they are; rows of own bytes. -/
import Derived.Test.YtpmkjpgoekjcfaaH14
namespace Go.Proofs.Ytpmkjpgoekjcfaa
open Go Go.Vc Go.Gf

/-- shards that are there are all of one length, and one is there -/
def Sized (k m : Int) (l3 l4 : Nat) (hs : List Bool) (L : List (List UInt8)) (s : Nat) : Prop :=
  (l3 : Int) = k + m ∧ (l4 : Int) = k + m ∧ (∃ i, i < l3 ∧ hs.getD i false = true) ∧ ∀ i, i < l3 → hs.getD i false = true → (L.getD i []).length = s

theorem size_spec {p3 p4 : Option Addr} {l3 c3 l4 c4 : Nat} {w : World} {hs : List Bool} {L : List (List UInt8)} (h3 : FlagsAt w p3 l3 hs) (h4 : ListsAt w p4 l4 L) {k m : Int} (hk : kmOk k m) :
    Calls Try.prog 43 #[.int .i64 k, .int .i64 m, .slice p3 l3 c3, .slice p4 l4 c4] w fun e w' => (∃ r : Int, e = .returned (.int .i64 r) ∧ ((r = -1 ∧ ∀ s, ¬ Sized k m l3 l4 hs L s) ∨ 0 ≤ r ∧ Sized k m l3 l4 hs L r.toNat)) ∧ w' = w := by
  obtain ⟨a1, a2, a3, a4⟩ := hk
  refine (F43_calls k m p3 l3 c3 p4 l4 c4 w (fun v w' => (∃ r : Int, v = .int .i64 r ∧ ((r = -1 ∧ ∀ s, ¬ Sized k m l3 l4 hs L s) ∨ 0 ≤ r ∧ Sized k m l3 l4 hs L r.toNat)) ∧ w' = w)
    (fun _ _ _ _ _ n i w1 => 0 ≤ i ∧ i ≤ l3 ∧ w1 = w ∧ ((n = -1 ∧ ∀ j : Nat, (j : Int) < i → hs.getD j false = false) ∨ (0 ≤ n ∧ (∃ j : Nat, (j : Int) < i ∧ hs.getD j false = true) ∧ ∀ j : Nat, (j : Int) < i → hs.getD j false = true → ((L.getD j []).length : Int) = n)))
    (fun _ _ _ _ _ _ i _ => (l3 - i).toNat) ?_).mono (by rintro e w' ⟨v, rfl, ⟨r, rfl, h⟩, hw⟩; exact ⟨⟨r, rfl, h⟩, hw⟩)
  unfold F43
  rw [w64 (n := k + m) (by omega)]
  refine condB_of (fun h => ?_) fun h => condB_of (fun h2 => ?_) fun h2 => ?_
  · simp only [Bool.not_eq_true', decide_eq_false_iff_not] at h
    exact ⟨⟨-1, rfl, .inl ⟨rfl, fun s hs => h hs.1⟩⟩, rfl⟩
  · simp only [Bool.not_eq_true', decide_eq_false_iff_not] at h2
    exact ⟨⟨-1, rfl, .inl ⟨rfl, fun s hs => h2 hs.2.1⟩⟩, rfl⟩
  simp only [Bool.not_eq_false', decide_eq_true_eq] at h h2
  refine ⟨⟨by omega, by omega, rfl, .inl ⟨rfl, fun j hj => by omega⟩⟩, ?_⟩
  rintro n i w1 ⟨hi0, hi1, rfl, hn⟩
  intros
  refine condB_of (fun hs' => ?_) (fun hs' => ?_)
  · simp only [decide_eq_true_eq] at hs'
    obtain ⟨a, rfl, ha⟩ := h3.get (i := i.toNat) (by omega)
    obtain ⟨b, q, ln, cn, rfl, hcell, hq, hqc⟩ := h4.2 i.toNat (by omega)
    have hql := hq.1
    have hmeas : ((l3 : Int) - (i + 1)).toNat < ((l3 : Int) - i).toNat := by omega
    have hnx : IntKind.i64.wrap (i + 1) = i + 1 := w64 (by omega)
    refine ⟨⟨hi0, hs'⟩, _, by rw [Nat.mul_one]; exact ha, ?_⟩
    unfold F43_A0
    rw [hnx]
    have go : (∀ j : Nat, (j : Int) < i → hs.getD j false = true → ((L.getD j []).length : Int) = (ln : Int)) → hs.getD i.toNat false = true →
        ((0 ≤ i ∧ i < ((l4 : Nat) : Int)) ∧ nilM (some b) fun a44 => ∃ (p45 : Option Addr) (l45 c45 : Nat), w1.cell? (a44.add (i.toNat * 1)) = some (.slice p45 l45 c45) ∧
          ((0 ≤ i + 1 ∧ i + 1 ≤ l3 ∧ w1 = w1 ∧ (((l45 : Int) = -1 ∧ ∀ j : Nat, (j : Int) < i + 1 → hs.getD j false = false) ∨ (0 ≤ (l45 : Int) ∧ (∃ j : Nat, (j : Int) < i + 1 ∧ hs.getD j false = true) ∧ ∀ j : Nat, (j : Int) < i + 1 → hs.getD j false = true → ((L.getD j []).length : Int) = l45))) ∧
            ((l3 : Int) - (i + 1)).toNat < ((l3 : Int) - i).toNat)) := by
      intro hall hb
      refine ⟨⟨hi0, by omega⟩, q, ln, cn, by rw [Nat.mul_one]; exact hcell, ⟨by omega, by omega, rfl, .inr ⟨by omega, ⟨i.toNat, by omega, hb⟩, fun j hj hj2 => ?_⟩⟩, hmeas⟩
      by_cases hji : (j : Int) < i
      · exact hall j hji hj2
      · rw [show j = i.toNat by omega, ← hql]
    refine condB_of (fun hb => ?_) (fun hb => ?_)
    · refine condB_of (fun hn0 => ?_) (fun hn0 => ?_)
      · simp only [decide_eq_true_eq] at hn0
        rcases hn with ⟨hn, _⟩ | ⟨_, hex, hall⟩
        · omega
        · refine ⟨⟨hi0, by omega⟩, q, ln, cn, by rw [Nat.mul_one]; exact hcell, condB_of (fun hne => ?_) (fun hne => ?_)⟩
          · simp only [Bool.not_eq_true', decide_eq_false_iff_not] at hne
            refine ⟨⟨-1, rfl, .inl ⟨rfl, fun s hsz => ?_⟩⟩, rfl⟩
            obtain ⟨j, hj, hj2⟩ := hex
            have h5 := hsz.2.2.2 j (by omega) hj2
            have h6 := hsz.2.2.2 i.toNat (by omega) hb
            have h7 := hall j hj hj2
            omega
          · simp only [Bool.not_eq_false', decide_eq_true_eq] at hne
            rw [hb]
            exact go (fun j hj hj2 => by rw [hall j hj hj2, hne]) hb
      · simp only [decide_eq_false_iff_not] at hn0
        rcases hn with ⟨_, hno⟩ | ⟨hn, _⟩
        · rw [hb]
          exact go (fun j hj hj2 => by rw [hno j hj] at hj2; cases hj2) hb
        · omega
    · have hb : hs.getD i.toNat false = false := hb
      rw [hb]
      refine ⟨⟨by omega, by omega, rfl, ?_⟩, hmeas⟩
      rcases hn with ⟨rfl, hno⟩ | ⟨hn, ⟨j, hj, hj2⟩, hall⟩
      · refine .inl ⟨rfl, fun j hj => ?_⟩
        by_cases hji : (j : Int) < i
        · exact hno j hji
        · rw [show j = i.toNat by omega]; exact hb
      · refine .inr ⟨hn, ⟨j, by omega, hj2⟩, fun j hj hj2 => ?_⟩
        by_cases hji : (j : Int) < i
        · exact hall j hji hj2
        · rw [show j = i.toNat by omega, hb] at hj2; cases hj2
  · simp only [decide_eq_false_iff_not] at hs'
    refine ⟨⟨n, rfl, ?_⟩, rfl⟩
    rcases hn with ⟨rfl, hno⟩ | ⟨hn, ⟨j, hj, hj2⟩, hall⟩
    · refine .inl ⟨rfl, fun s hsz => ?_⟩
      obtain ⟨j, hj, hj2⟩ := hsz.2.2.1
      rw [hno j (by omega)] at hj2; cases hj2
    · exact .inr ⟨hn, h, h2, ⟨j, by omega, hj2⟩, fun j hj hj2 => by have := hall j (by omega) hj2; omega⟩

/-! ## a row of slices, each with a row of its own -/
structure OutAt (w : World) (base k n : Nat) (L : Nat → List UInt8) : Prop where
  row : ∃ cs, RowK w k 22 cs ∧ cs.size = n
  le : base ≤ k
  own : ∃ P : Nat → Option Addr × Nat × Nat, (∀ i, i < n → w.cell? ((at0 k).add i) = some (.slice (P i).1 (P i).2.1 (P i).2.2) ∧ OwnB w base (P i).1 (P i).2.1 (P i).2.2 (L i)) ∧
    ∀ i j, i < n → j < n → i ≠ j → ∀ g, (P i).1 = some (at0 g) → (P j).1 ≠ some (at0 g)
section
variable {w w' : World} {base k n : Nat} {L : Nat → List UInt8}
theorem OutAt.ext (h : OutAt w base k n L) (hu : Ext w w') : OutAt w' base k n L := by
  obtain ⟨cs, h1, h2⟩ := h.row
  obtain ⟨P, h3, h4⟩ := h.own
  exact ⟨⟨cs, hu.keep h1, h2⟩, h.le, P, fun i hi => ⟨hu.cell (h3 i hi).1 id, OwnB.ext (h3 i hi).2 hu⟩, h4⟩
theorem OutAt.base_le {b : Nat} (h : OutAt w base k n L) (hb : b ≤ base) : OutAt w b k n L := by
  obtain ⟨P, h3, h4⟩ := h.own
  exact ⟨h.row, Nat.le_trans hb h.le, P, fun i hi => ⟨(h3 i hi).1, OwnB.base_le (h3 i hi).2 hb⟩, h4⟩
theorem OutAt.congr {L' : Nat → List UInt8} (h : OutAt w base k n L) (hL : ∀ i, i < n → L' i = L i) : OutAt w base k n L' := by
  obtain ⟨P, h3, h4⟩ := h.own
  exact ⟨h.row, h.le, P, fun i hi => ⟨(h3 i hi).1, by rw [hL i hi]; exact (h3 i hi).2⟩, h4⟩
/-- where rows of other types are written it stays -/
theorem OutAt.other {S : Nat → Prop} (h : OutAt w base k n L) (hu : Upd S w w') (hS : ∀ x, S x → ∃ (cs : Array Value) (e : TypeId) (fz : Nat × Nat), w.heap[x]? = some (Obj.cells cs e fz) ∧ e ≠ 5 ∧ e ≠ 22) : OutAt w' base k n L := by
  obtain ⟨cs, h1, h2⟩ := h.row
  obtain ⟨P, h3, h4⟩ := h.own
  have hk : ¬ S k := fun hs => by
    obtain ⟨cs', e, fz, h5, _, h6⟩ := hS k hs
    unfold RowK at h1
    rw [h1] at h5
    cases h5
    exact h6 rfl
  refine ⟨⟨cs, hu.keep h1 hk, h2⟩, h.le, P, fun i hi => ⟨hu.cell (h3 i hi).1 (by rw [add_block]; exact hk), OwnB.other (h3 i hi).2 hu fun x hx => ?_⟩, h4⟩
  obtain ⟨cs', e, fz, h5, h6, _⟩ := hS x hx
  exact ⟨cs', e, fz, h5, h6⟩
theorem OutAt.lists (h : OutAt w base k n L) : ListsAt w (some (at0 k)) n ((List.range n).map L) := by
  obtain ⟨P, h3, h4⟩ := h.own
  refine ⟨by simp, fun i hi => ⟨_, _, _, _, rfl, (h3 i hi).1, ?_, OwnB.le (h3 i hi).2⟩⟩
  have : ((List.range n).map L).getD i [] = L i := by simp [List.getD_eq_getElem?_getD, hi]
  rw [this]
  exact OwnB.bytes (h3 i hi).2
end
end Go.Proofs.Ytpmkjpgoekjcfaa
