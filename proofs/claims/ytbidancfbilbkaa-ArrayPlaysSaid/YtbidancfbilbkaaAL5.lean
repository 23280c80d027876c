/- The document's Same, of two lists of sectors. -/
import Derived.Test.YtbidancfbilbkaaAL4
namespace Go.Proofs.Ytbidancfbilbkaa
open Go Go.Vc

def HeldR (w : World) (p : Option Addr) (l : Nat) (L : SM) : Prop :=
  l = L.length ∧ l ≤ 4096 ∧ ∀ i x, L[i]? = some x → ∃ a q n c, p = some a ∧ w.cell? ((a.add (i * 2)).add 0) = some (.int .i64 x.1) ∧ w.cell? ((a.add (i * 2)).add 1) = some (.slice q n c) ∧ BytesAt w q n x.2 ∧ n ≤ 4108

theorem HeldR.ext {w w' : World} {p : Option Addr} {l : Nat} {L : SM} (h : HeldR w p l L) (hu : Ext w w') : HeldR w' p l L :=
  ⟨h.1, h.2.1, fun i x hi => by
    obtain ⟨a, q, n, c, h1, h2, h3, h4, h5⟩ := h.2.2 i x hi
    exact ⟨a, q, n, c, h1, cellx h2 hu, cellx h3 hu, h4.ext hu, h5⟩⟩
theorem HeldS.read {w : World} {base : Nat} {p : Option Addr} {l c : Nat} {L : SM} (h : HeldS w base p l c L) (hl : L.length ≤ 4096) : HeldR w p l L := by
  refine ⟨h.length, by rw [h.length]; exact hl, fun i x hi => ?_⟩
  obtain ⟨a, v, hp, h1, h2, q, n, c, rfl, hb, _, hn, _⟩ := h.at hi
  have e0 : (a.add (i * 2)).add 0 = a.add (2 * i) := by simp [Addr.add, Nat.mul_comm]
  have e1 : (a.add (i * 2)).add 1 = a.add (2 * i + 1) := by rw [add_add, Nat.mul_comm]
  exact ⟨a, q, n, c, hp, by rw [e0]; exact h1, by rw [e1]; exact h2, hb, hn⟩

theorem dk_len {D : Dk} (h : DkOk D) (a : Asc D.lasts ∧ Asc D.waits) : D.lasts.length ≤ 4096 ∧ D.waits.length ≤ 4096 :=
  ⟨asc_bound (lo := 0) a.1 fun x hx => by have := h.lasts x hx; have := h.sec; omega, asc_bound (lo := 0) a.2 fun x hx => by have := h.waits x hx; have := h.sec; omega⟩

set_option maxHeartbeats 1000000 in
theorem rsame_spec {w : World} {p1 p2 : Option Addr} {l1 c1 l2 c2 : Nat} {L M : SM} (h1 : HeldR w p1 l1 L) (h2 : HeldR w p2 l2 M) :
    Calls Try.prog 24 #[.slice p1 l1 c1, .slice p2 l2 c2] w fun e w' => e = .returned (.bool (decide (L = M))) ∧ Ext w w' := by
  refine (F24_calls p1 l1 c1 p2 l2 c2 w (fun v w' => v = .bool (decide (L = M)) ∧ Ext w w')
    (fun _ n w4 => ∃ i : Nat, n = i ∧ i ≤ l1 ∧ Ext w w4 ∧ L.take i = M.take i) (fun _ n _ => 4096 - n.toNat) ?_).mono (by rintro e w' ⟨v, rfl, rfl, h⟩; exact ⟨rfl, h⟩)
  have hl1 := h1.1
  have hl2 := h2.1
  have hle := h1.2.1
  refine condB_of (fun hne => ?_) (fun heq => ?_)
  · refine ⟨?_, Upd.refl _ _⟩
    simp only [Bool.not_eq_true', decide_eq_false_iff_not] at hne
    have : ¬ L = M := by rintro rfl; omega
    simp [this]
  simp only [Bool.not_eq_false', decide_eq_true_eq] at heq
  refine ⟨⟨0, rfl, Nat.zero_le _, Upd.refl _ _, by simp⟩, ?_⟩
  rintro n w4 ⟨i, rfl, hi, hx4, htake⟩
  intros
  refine condB_of (fun hlt => ?_) (fun hge => ?_)
  · simp only [decide_eq_true_eq] at hlt
    intro w39 d39
    have x39 := hx4.trans d39.ext
    obtain ⟨x, hxi⟩ : ∃ x, L[i]? = some x := ⟨L[i]'(by omega), List.getElem?_eq_getElem _⟩
    obtain ⟨y, hyi⟩ : ∃ y, M[i]? = some y := ⟨M[i]'(by omega), List.getElem?_eq_getElem _⟩
    obtain ⟨a, q, nn, cc, rfl, ca, cb, cbytes, cn⟩ := (h1.ext x39).2.2 i x hxi
    obtain ⟨a', q', nn', cc', rfl, ca', cb', cbytes', cn'⟩ := (h2.ext x39).2.2 i y hyi
    rw [Int.toNat_natCast]
    refine ⟨⟨by omega, hlt⟩, _, _, _, cb, ⟨by omega, by omega⟩, _, _, _, cb', ?_⟩
    refine (same_spec cbytes cbytes' (by omega)).mono ?_
    rintro e w44 ⟨rfl, q44⟩
    refine ⟨_, rfl, ?_⟩
    intro w47 d47
    have x47 : Ext w39 w47 := q44.ext.trans d47.ext
    refine condB_of (fun hb => ?_) (fun hb => ?_)
    · refine ⟨?_, x39.trans x47⟩
      simp only [Bool.not_eq_true', decide_eq_false_iff_not] at hb
      have : ¬ L = M := by
        rintro rfl
        rw [hxi] at hyi
        cases hyi
        exact hb rfl
      simp [this]
    simp only [Bool.not_eq_false', decide_eq_true_eq] at hb
    refine ⟨⟨by omega, hlt⟩, _, cellx ca x47, ⟨by omega, by omega⟩, _, cellx ca' x47, ?_⟩
    refine condB_of (fun hk => ?_) (fun hk => ?_)
    · refine ⟨?_, x39.trans x47⟩
      simp only [Bool.not_eq_true', decide_eq_false_iff_not] at hk
      have : ¬ L = M := by
        rintro rfl
        rw [hxi] at hyi
        cases hyi
        exact hk rfl
      simp [this]
    simp only [Bool.not_eq_false', decide_eq_true_eq] at hk
    rw [w64 (by omega)]
    refine ⟨⟨i + 1, by omega, by omega, x39.trans x47, ?_⟩, by show 4096 - ((i : Int) + 1).toNat < 4096 - (i : Int).toNat; omega⟩
    rw [List.take_add_one, List.take_add_one, htake, hxi, hyi]
    have : x = y := Prod.ext hk hb
    rw [this]
  · simp only [decide_eq_false_iff_not] at hge
    refine ⟨?_, hx4⟩
    have : L = M := by
      have e1 : L.take i = L := List.take_of_length_le (by omega)
      have e2 : M.take i = M := List.take_of_length_le (by omega)
      rw [e1, e2] at htake
      exact htake
    simp [this]
end Go.Proofs.Ytbidancfbilbkaa
