/- Syndromes; is any not nought? -/
import Derived.Test.YtpmkjpgoekjcfaaH11
namespace Go.Proofs.Ytpmkjpgoekjcfaa
open Go Go.Vc Go.Gf

theorem rep_co (n j : Nat) : co (List.replicate n (0 : UInt8)) j = 0 := by
  simp only [Gf.co, List.getD_eq_getElem?_getD, List.getElem?_replicate]
  split <;> rfl
/-- what a place adds to a syndrome -/
def synT (k m : Nat) (bs : List UInt8) (l i : Nat) : UInt8 := gm (gm (co bs i) (wgt k m i)) (pw (pt i) l)
theorem syn_xs (k m : Nat) (bs : List UInt8) (l : Nat) : syn k m bs l = xs (k + m) (synT k m bs l) := rfl

set_option maxHeartbeats 4000000 in
theorem synof_spec {f q : Option Addr} {w : World} {n c : Nat} {bs : List UInt8} (hf : FieldAt w f) (h : BytesAt w q n bs) (hn : n ≤ 1073741824) (k m : Int) :
    Calls Try.prog 20 #[.pointer f, .int .i64 k, .int .i64 m, .slice q n c] w fun e w' => Ext w w' ∧ ((¬ kmOk k m ∧ e = .returned (.tuple #[.slice none 0 0, .int .i64 50])) ∨
      (kmOk k m ∧ (n : Int) ≠ k + m ∧ e = .returned (.tuple #[.slice none 0 0, .int .i64 60])) ∨
      kmOk k m ∧ (n : Int) = k + m ∧ ∃ p c' S, e = .returned (.tuple #[.slice p m.toNat c', .int .i64 0]) ∧ OwnB w' w.heap.size p m.toNat c' S ∧ ∀ l, l < m.toNat → co S l = syn k.toNat m.toNat bs l) := by
  have hl := h.1
  refine (F20_calls f k m q n c w (fun v w' => Ext w w' ∧ ((¬ kmOk k m ∧ v = .tuple #[.slice none 0 0, .int .i64 50]) ∨
      (kmOk k m ∧ (n : Int) ≠ k + m ∧ v = .tuple #[.slice none 0 0, .int .i64 60]) ∨
      kmOk k m ∧ (n : Int) = k + m ∧ ∃ p c' S, v = .tuple #[.slice p m.toNat c', .int .i64 0] ∧ OwnB w' w.heap.size p m.toNat c' S ∧ ∀ l, l < m.toNat → co S l = syn k.toNat m.toNat bs l))
    (fun pw_ lw cw r _ _ _ _ i w19 => 0 ≤ i ∧ i ≤ n ∧ Ext w w19 ∧ ∃ W S kr, r = some (at0 kr) ∧ OwnB w19 w.heap.size pw_ lw cw W ∧ Away pw_ kr ∧ OwnB w19 w.heap.size r m.toNat m.toNat S ∧
      (∀ j, j < (k + m).toNat → co W j = wgt k.toNat m.toNat j) ∧ ∀ l, l < m.toNat → co S l = xs i.toNat (synT k.toNat m.toNat bs l)) (fun _ _ _ _ _ _ _ _ i _ => (n - i).toNat)
    (fun pw_ lw cw r _ _ _ _ i _ _ x l w73 => 0 ≤ l ∧ l ≤ m ∧ 0 ≤ i ∧ i < n ∧ Ext w w73 ∧ x = ((synT k.toNat m.toNat bs l.toNat i.toNat).toNat : Int) ∧ ∃ W S kr, r = some (at0 kr) ∧ OwnB w73 w.heap.size pw_ lw cw W ∧ Away pw_ kr ∧ OwnB w73 w.heap.size r m.toNat m.toNat S ∧
      (∀ j, j < (k + m).toNat → co W j = wgt k.toNat m.toNat j) ∧ ∀ t, t < m.toNat → co S t = xs i.toNat (synT k.toNat m.toNat bs t) ^^^ (if (t : Int) < l then synT k.toNat m.toNat bs t i.toNat else 0)) (fun _ _ _ _ _ _ _ _ _ _ _ _ l _ => (m - l).toNat) ?_).mono (by
    rintro e w' ⟨v, rfl, hx, ⟨h, rfl⟩ | ⟨h, h2, rfl⟩ | ⟨h, h2, p, c', S, rfl, h3⟩⟩
    · exact ⟨hx, .inl ⟨h, rfl⟩⟩
    · exact ⟨hx, .inr (.inl ⟨h, h2, rfl⟩)⟩
    · exact ⟨hx, .inr (.inr ⟨h, h2, p, c', S, rfl, h3⟩)⟩)
  refine (weights_spec hf k m).mono ?_
  rintro e w5 ⟨hx5, ⟨hk, rfl⟩ | ⟨hk, p7, c7, W, rfl, oW, hW⟩⟩
  · exact ⟨_, _, _, _, rfl, condB_of (fun _ => ⟨hx5, .inl ⟨hk, rfl⟩⟩) (fun h => by simp at h)⟩
  obtain ⟨a1, a2, a3, a4⟩ := hk
  have hk : kmOk k m := ⟨a1, a2, a3, a4⟩
  refine ⟨_, _, _, _, rfl, condB_of (fun h => by simp at h) fun _ => ?_⟩
  rw [w64 (n := k + m) (by omega)]
  refine condB_of (fun hc => ?_) (fun hc => ?_)
  · simp only [Bool.not_eq_true', decide_eq_false_iff_not] at hc
    exact ⟨hx5, .inr (.inl ⟨hk, hc, rfl⟩)⟩
  simp only [Bool.not_eq_false', decide_eq_true_eq] at hc
  refine ⟨⟨by omega, by omega, by omega⟩, fun k9 w10 h10 => ?_⟩
  have o10 : OwnB w10 w.heap.size (some (at0 k9)) m.toNat m.toNat (List.replicate m.toNat 0) := OwnB.made h10 (by rw [h10.size.1]; exact hx5.size) (by unfold maxLen; omega)
  refine ⟨⟨by omega, by omega, hx5.trans h10.ext, W, _, k9, rfl, OwnB.ext oW h10.ext, OwnB.away2 oW (by rw [h10.size.1]; exact Nat.le_refl _), o10, hW, fun l hl => rep_co _ _⟩, ?_⟩
  rintro i w19 ⟨hi0, hi1, hx, W1, S, kr, hkr, oW1, aW, oS, hW1, hS⟩
  simp only [Option.some.injEq, at0, Addr.mk.injEq, and_true] at hkr
  subst hkr
  intros
  have lW := OwnB.len oW1
  refine condB_of (fun hs => ?_) (fun hs => ?_)
  · simp only [decide_eq_true_eq] at hs
    intro w53 hd
    have hx53 := hx.trans hd.ext
    obtain ⟨a, rfl, ha⟩ := BytesAt.co (h.ext hx53) (i := i.toNat) (by omega)
    obtain ⟨b, rfl, hb⟩ := BytesAt.co (OwnB.bytes (OwnB.ext oW1 hd.ext)) (i := i.toNat) (by omega)
    refine ⟨⟨hi0, hs⟩, _, by rw [Nat.mul_one]; exact ha, ⟨hi0, by omega⟩, _, by rw [Nat.mul_one]; exact hb, ?_⟩
    refine (fmul_spec (hf.ext hx53) _ _).mono ?_
    rintro e w58 ⟨rfl, hx58⟩
    have hx58' := hx53.trans hx58
    refine ⟨_, rfl, ⟨by omega, by omega, hi0, hs, hx58', ?_, W1, S, k9, rfl, OwnB.ext (OwnB.ext oW1 hd.ext) hx58, aW, OwnB.ext (OwnB.ext oS hd.ext) hx58, hW1, fun t ht => ?_⟩, ?_⟩
    · rw [hW1 _ (by omega)]
      show _ = ((gm (gm (co bs i.toNat) (wgt k.toNat m.toNat i.toNat)) 1).toNat : Int)
      rw [gm_one]
    · rw [hS t ht, if_neg (by omega), x0]
    rintro x l w73 ⟨hl0, hl1, _, _, hx73, rfl, W2, S2, kr, hkr, oW2, aW2, oS2, hW2, hS2⟩
    simp only [Option.some.injEq, at0, Addr.mk.injEq, and_true] at hkr
    subst hkr
    intros
    have lS := OwnB.len oS2
    refine condB_of (fun ht => ?_) (fun ht => ?_)
    · simp only [decide_eq_true_eq] at ht
      obtain ⟨k', hk', hb', hlive, hcell, hset⟩ := OwnB.at oS2 (i := l.toNat) (by omega)
      simp only [Option.some.injEq, at0, Addr.mk.injEq, and_true] at hk'
      subst hk'
      simp only [Nat.mul_one]
      refine ⟨⟨by omega, by omega⟩, _, hcell, ⟨by omega, by omega⟩, hlive, fun w91 hs91 => ?_⟩
      rw [bx8] at hs91
      obtain ⟨o91, u91⟩ := hset _ _ hs91
      have hx91 : Ext w w91 := OwnB.new_ext hx73 u91 fun y hy => by rw [show y = k9 from hy]; exact hb'
      have e8 : IntKind.u8.wrap i = ((pt i.toNat).toNat : Int) := wrap8 i hi0
      rw [e8]
      refine (fmul_spec (hf.ext hx91) _ _).mono ?_
      rintro e w92 ⟨rfl, hx92⟩
      rw [w64 (n := l + 1) (by omega)]
      refine ⟨_, rfl, ⟨by omega, by omega, hi0, hs, hx91.trans hx92, ?_, W2, _, k9, rfl, OwnB.ext (OwnB.setk oW2 u91 aW2) hx92, aW2, OwnB.ext o91 hx92, hW2, fun t ht2 => ?_⟩, by show (m - (l + 1)).toNat < (m - l).toNat; omega⟩
      · rw [show (l + 1).toNat = l.toNat + 1 by omega]
        show _ = ((gm (gm (co bs i.toNat) (wgt k.toNat m.toNat i.toNat)) (gm (pw (pt i.toNat) l.toNat) (pt i.toNat))).toNat : Int)
        rw [← gm_assoc]; rfl
      · rw [co_set (by omega)]
        by_cases h5 : t = l.toNat
        · subst h5
          rw [if_pos rfl, hS2 _ ht2, if_neg (by omega), if_pos (by omega), x0]
        · rw [if_neg h5, hS2 t ht2]
          by_cases h6 : (t : Int) < l
          · rw [if_pos h6, if_pos (by omega)]
          · rw [if_neg h6, if_neg (by omega)]
    · simp only [decide_eq_false_iff_not] at ht
      rw [w64 (n := i + 1) (by omega)]
      refine ⟨⟨by omega, by omega, hx73, W2, S2, k9, rfl, oW2, aW2, oS2, hW2, fun t ht2 => ?_⟩, by show ((n : Int) - (i + 1)).toNat < ((n : Int) - i).toNat; omega⟩
      rw [hS2 t ht2, if_pos (by omega), show (i + 1).toNat = i.toNat + 1 by omega]; rfl
  · simp only [decide_eq_false_iff_not] at hs
    refine ⟨hx, .inr (.inr ⟨hk, hc, _, _, S, rfl, oS, fun l hl => ?_⟩)⟩
    rw [hS l hl, syn_xs, show i.toNat = k.toNat + m.toNat by omega]

theorem nonz_spec (b : UInt8) (w : World) : Calls Try.prog 38 #[vb b] w fun e w' => e = .returned (.bool (decide (b ≠ 0))) ∧ w' = w := by
  refine (F38_calls b.toNat w (fun v w' => v = .bool (decide (b ≠ 0)) ∧ w' = w) ?_).mono (by rintro e w' ⟨v, rfl, rfl, h⟩; exact ⟨rfl, h⟩)
  refine ⟨?_, rfl⟩
  congr 1
  by_cases h : b = 0
  · subst h; rfl
  · rw [decide_eq_true h, decide_eq_false (fun e => h (vb_zero.1 e))]; rfl
theorem anyz_spec {p : Option Addr} {n c : Nat} {w : World} {bs : List UInt8} (h : BytesAt w p n bs) (hn : n ≤ 1073741824) :
    Calls Try.prog 37 #[.slice p n c, .func (.func 38) #[] #[]] w fun e w' => (∃ b, e = .returned (.bool b) ∧ (b = true ↔ ∃ i, i < n ∧ co bs i ≠ 0)) ∧ w' = w := by
  have hl := h.1
  refine (F37_38_calls p n c w (fun v w' => (∃ b, v = .bool b ∧ (b = true ↔ ∃ i, i < n ∧ co bs i ≠ 0)) ∧ w' = w) ?_).mono (by rintro e w' ⟨v, rfl, ⟨b, rfl, h⟩, hw⟩; exact ⟨⟨b, rfl, h⟩, hw⟩)
  refine (F65_38_calls p n c w (fun v w' => (∃ i : Int, v = .int .i64 i ∧ (0 ≤ i ↔ ∃ i, i < n ∧ co bs i ≠ 0)) ∧ w' = w)
    (fun _ _ i w4 => 0 ≤ i ∧ i ≤ n ∧ w4 = w ∧ ∀ j : Nat, (j : Int) < i → co bs j = 0) (fun _ _ i _ => (n - i).toNat) ?_).mono ?_
  · refine ⟨⟨by omega, by omega, rfl, fun j hj => by omega⟩, ?_⟩
    rintro i w4 ⟨hi0, hi1, rfl, hz⟩
    intros
    refine condB_of (fun hs => ?_) (fun hs => ?_)
    · simp only [decide_eq_true_eq] at hs
      obtain ⟨a, rfl, ha⟩ := BytesAt.co h (i := i.toNat) (by omega)
      refine ⟨⟨hi0, hs⟩, _, by rw [Nat.mul_one]; exact ha, (nonz_spec _ _).mono ?_⟩
      rintro e w5 ⟨rfl, rfl⟩
      refine ⟨_, rfl, condB_of (fun hb => ?_) (fun hb => ?_)⟩
      · simp only [decide_eq_true_eq] at hb
        exact ⟨⟨i, rfl, fun _ => ⟨i.toNat, by omega, hb⟩, fun _ => hi0⟩, rfl⟩
      · simp only [decide_eq_false_iff_not, Decidable.not_not] at hb
        rw [w64 (n := i + 1) (by omega)]
        refine ⟨⟨by omega, by omega, rfl, fun j hj => ?_⟩, by show ((n : Int) - (i + 1)).toNat < ((n : Int) - i).toNat; omega⟩
        by_cases h1 : (j : Int) < i
        · exact hz j h1
        · rw [show j = i.toNat by omega]; exact hb
    · simp only [decide_eq_false_iff_not] at hs
      exact ⟨⟨-1, rfl, fun h => by omega, fun ⟨j, hj, hne⟩ => (hne (hz j (by omega))).elim⟩, rfl⟩
  · rintro e w4 ⟨v, rfl, ⟨i, rfl, hi⟩, rfl⟩
    exact ⟨_, rfl, ⟨_, rfl, by rw [decide_eq_true_eq]; exact hi⟩, rfl⟩
end Go.Proofs.Ytpmkjpgoekjcfaa
