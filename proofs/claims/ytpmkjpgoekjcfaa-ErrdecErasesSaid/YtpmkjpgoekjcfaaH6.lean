/- Locators; copies and turned copies of bytes; the step of Euclid. -/
import Derived.Test.YtpmkjpgoekjcfaaH5
namespace Go.Proofs.Ytpmkjpgoekjcfaa
open Go Go.Vc Go.Gf

theorem row_bytes {w w1 : World} {k : Nat} {bs : List UInt8} (hk : NewB w k (.cells (encB bs).toArray 5) w1) (hm : bs.length ≤ maxLen) : OwnB w1 w.heap.size (some (at0 k)) bs.length bs.length bs := by
  have := OwnS.made (sz := 1) (n := bs.length) (c := bs.length) hk (by rw [hk.size.1]; exact Nat.le_refl _) (Nat.le_refl _) hm (by simp [encB_length])
  have e : (encB bs).toArray.toList.take (bs.length * 1) = encB bs := by
    rw [Nat.mul_one]
    show (encB bs).take _ = _
    rw [List.take_of_length_le (by rw [encB_length]; exact Nat.le_refl _)]
  rw [e] at this
  exact this

theorem loc_snoc (u : List UInt8) (a : UInt8) : co (loc (u ++ [a])) = act [a, 1] (co (loc u)) := by
  rw [loc_append]
  have : co (loc [a]) = act [a, 1] so := by
    show co (mulL [a, 1] [1]) = _
    have e : co ([1] : List UInt8) = so := by rw [co_cons, co_nil, sh1_sz, sa_sz, sm_one]
    rw [co_mulL, e]
  rw [this, act_comm, act_so]

set_option maxHeartbeats 1000000 in
theorem locator_spec {f q : Option Addr} {m d : Nat} {w : World} {cs : List UInt8} (hf : FieldAt w f) (h : BytesAt w q m cs) (hm : m ≤ 268435456) :
    Calls Try.prog 30 #[.pointer f, .slice q m d] w fun e w' => ∃ p' n' c' r, e = .returned (.slice p' n' c') ∧ Ext w w' ∧ OwnB w' w.heap.size p' n' c' r ∧ Normal r ∧ co r = co (loc cs) := by
  refine (F30_calls f q m d w (fun v w' => ∃ p' n' c' r, v = .slice p' n' c' ∧ Ext w w' ∧ OwnB w' w.heap.size p' n' c' r ∧ Normal r ∧ co r = co (loc cs))
    (fun _ _ _ _ _ p9 l9 c9 i w11 => 0 ≤ i ∧ i ≤ m ∧ Ext w w11 ∧ ∃ r, OwnB w11 w.heap.size p9 l9 c9 r ∧ Normal r ∧ co r = co (loc (cs.take i.toNat))) (fun _ _ _ _ _ _ _ _ i _ => (m - i).toNat) ?_).mono (by
    rintro e w' ⟨v, rfl, p', n', c', r, rfl, h⟩; exact ⟨p', n', c', r, rfl, h⟩)
  have hl := h.1
  unfold F30
  rw [hf.there]
  refine condB_of (fun h => by cases h) fun _ => ?_
  intro k w4 hk
  have o4 := row_bytes (bs := [1]) hk (by unfold maxLen; simp)
  refine ⟨⟨by omega, by omega, hk.ext, [1], o4, fun _ => by decide, rfl⟩, ?_⟩
  rintro p9 l9 c9 i w11 ⟨hi0, hi1, hx, r, ho, hn, hr⟩
  intros
  refine condB_of (fun hs => ?_) (fun hs => ?_)
  · simp only [decide_eq_true_eq] at hs
    obtain ⟨a, rfl, ha⟩ := BytesAt.co (h.ext hx) (i := i.toNat) (by omega)
    refine ⟨⟨hi0, hs⟩, _, by rw [Nat.mul_one]; exact ha, fun k24 w25 hk25 => ?_⟩
    have o25 := row_bytes (bs := [co cs i.toNat, 1]) hk25 (by unfold maxLen; simp)
    have hlr : r.length ≤ cs.length + 1 := hn.le (by
      rw [hr]
      have := loc_deg (cs.take i.toNat)
      exact this.mono (by rw [List.length_take]; omega))
    have lr := OwnB.len ho
    refine (pmul_spec (hf.ext (hx.trans hk25.ext)) ((OwnB.bytes ho).ext hk25.ext) (by omega) (OwnB.bytes o25) (by simp)).mono ?_
    rintro e w26 ⟨p28, l28, c28, r', rfl, hx26, ho26, hn26, hr26⟩
    rw [w64 (n := i + 1) (by omega)]
    have hx' := (hx.trans hk25.ext)
    refine ⟨_, _, _, rfl, ⟨by omega, by omega, hx'.trans hx26, r', OwnB.base_le ho26 hx'.size, hn26, ?_⟩, by show ((m : Int) - (i + 1)).toNat < ((m : Int) - i).toNat; omega⟩
    have e : cs.take (i + 1).toNat = cs.take i.toNat ++ [co cs i.toNat] := by
      rw [show (i + 1).toNat = i.toNat + 1 by omega, List.take_add_one, List.getElem?_eq_getElem (by omega)]
      simp [Gf.co, List.getD_eq_getElem?_getD, List.getElem?_eq_getElem (show i.toNat < cs.length by omega)]
    rw [hr26, hr, e, loc_snoc]
  · simp only [decide_eq_false_iff_not] at hs
    refine ⟨_, _, _, r, rfl, hx, ho, hn, ?_⟩
    rw [hr, List.take_of_length_le (by omega)]

theorem bclone_spec {p : Option Addr} {l c : Nat} {w : World} {bs : List UInt8} (h : BytesAt w p l bs) (hb : l ≤ 1073741824) :
    Calls Try.prog 29 #[.slice p l c] w fun e w' => ∃ p' c', e = .returned (.slice p' l c') ∧ Ext w w' ∧ OwnB w' w.heap.size p' l c' bs ∨ e = .returned (.slice none 0 0) ∧ p = none ∧ w' = w := by
  refine (F29_calls p l c w (fun v w' => ∃ p' c', v = .slice p' l c' ∧ Ext w w' ∧ OwnB w' w.heap.size p' l c' bs ∨ v = .slice none 0 0 ∧ p = none ∧ w' = w) ?_).mono (by
    rintro e w' ⟨v, rfl, p', c', ⟨rfl, h⟩ | ⟨rfl, h⟩⟩
    · exact ⟨p', c', .inl ⟨rfl, h⟩⟩
    · exact ⟨p', c', .inr ⟨rfl, h⟩⟩)
  refine condB_of (fun hn => ?_) (fun hn => ?_)
  · have : p = none := by simpa using hn
    exact ⟨none, 0, .inr ⟨rfl, this, rfl⟩⟩
  · intro k w3 hk
    have hown : OwnS w3 w.heap.size 5 1 (some (at0 k)) 0 0 [] := OwnS.made hk (by rw [hk.size.1]; exact Nat.le_refl _) (Nat.le_refl _) (by unfold maxLen; omega) rfl
    have hl := h.1
    have hp : p = none → l = 0 := fun e => by subst e; simp at hn
    obtain ⟨p', c', w', hr, hown', hu, hnil⟩ := hown.append elemY 22 (q := p) (m := l) (d := c) (news := encB bs) (by rw [encB_length]; omega) ((h.ext hk.ext).cells) hp
      (encB_one bs) (by unfold maxLen; omega) (by omega) (by rw [hk.size.2]; omega)
    rw [Nat.zero_add] at hr hown'
    refine ⟨p', l, c', w', hr, p', c', .inl ⟨rfl, ?_, hown'⟩⟩
    refine Upd.trans hk.ext hu fun x hx hs => ?_
    simp only [Option.some.injEq, at0, Addr.mk.injEq, and_true] at hs
    rw [hk.size.1] at hs
    omega
theorem bclone_own {p : Option Addr} {l c : Nat} {w : World} {bs : List UInt8} (h : BytesAt w p l bs) (hb : l ≤ 1073741824) :
    Calls Try.prog 29 #[.slice p l c] w fun e w' => ∃ p' c', e = .returned (.slice p' l c') ∧ Ext w w' ∧ OwnB w' w.heap.size p' l c' bs := by
  by_cases hp : p = none ∧ l ≠ 0
  · exfalso
    obtain ⟨rfl, hl⟩ := hp
    obtain ⟨a, ha, _⟩ := h.get (i := 0) (by omega)
    cases ha
  · refine (bclone_spec h hb).mono ?_
    rintro e w' ⟨p', c', ⟨rfl, hx⟩ | ⟨rfl, rfl, rfl⟩⟩
    · exact ⟨p', c', rfl, hx⟩
    · have hl : l = 0 := Decidable.byContradiction fun h => hp ⟨rfl, h⟩
      subst hl
      have : bs = [] := List.eq_nil_of_length_eq_zero h.1.symm
      subst this
      exact ⟨none, 0, rfl, Upd.refl _ _, OwnS.nil _ _ _ _⟩

set_option maxHeartbeats 1000000 in
theorem brev_spec {w : World} {base : Nat} {p : Option Addr} {n c : Nat} {bs : List UInt8} (h : OwnB w base p n c bs) (hn : n ≤ 1073741824) :
    Calls Try.prog 59 #[.slice p n c] w fun e w' => e = .returned (.tuple #[]) ∧ Upd (fun x => p = some (at0 x)) w w' ∧ OwnB w' base p n c bs.reverse := by
  have hl := OwnB.len h
  refine (F59_calls p n c w (fun v w' => v = .tuple #[] ∧ Upd (fun x => p = some (at0 x)) w w' ∧ OwnB w' base p n c bs.reverse)
    (fun _ i j w4 => 0 ≤ i ∧ j = n - 1 - i ∧ i ≤ j + 2 ∧ Upd (fun x => p = some (at0 x)) w w4 ∧ ∃ r, OwnB w4 base p n c r ∧ ∀ t : Nat, t < n → co r t = if (t : Int) < i ∨ j < t then co bs (n - 1 - t) else co bs t) (fun _ i j _ => (j + 1 - i).toNat) ?_).mono (by rintro e w' ⟨v, rfl, rfl, h⟩; exact ⟨rfl, h⟩)
  unfold F59
  rw [w64 (n := (n : Int) - 1) (by omega)]
  refine ⟨⟨by omega, by omega, by omega, Upd.refl _ _, bs, h, fun t ht => by rw [if_neg (by omega)]⟩, ?_⟩
  rintro i j w4 ⟨hi0, hj, hij, hu, r, ho, hr⟩
  intros
  refine condB_of (fun hs => ?_) (fun hs => ?_)
  · simp only [decide_eq_true_eq] at hs
    intro w26 hd
    have o26 := OwnB.ext ho hd.ext
    have lo := OwnB.len o26
    obtain ⟨k, rfl, hb, l1, c1, s1⟩ := OwnB.at o26 (i := i.toNat) (by omega)
    obtain ⟨k', hk', _, l2, c2, s2⟩ := OwnB.at o26 (i := j.toNat) (by omega)
    cases hk'
    simp only [Nat.mul_one]
    refine ⟨⟨by omega, by omega⟩, _, c2, ⟨by omega, by omega⟩, _, c1, ⟨by omega, by omega⟩, l1, fun w32 hs32 => ?_⟩
    obtain ⟨o32, u32⟩ := s1 _ _ hs32
    obtain ⟨k'', hk'', _, l3, _, s3⟩ := OwnB.at o32 (i := j.toNat) (by omega)
    cases hk''
    refine ⟨⟨by omega, by omega⟩, l3, fun w34 hs34 => ?_⟩
    obtain ⟨o34, u34⟩ := s3 _ _ hs34
    rw [w64 (n := i + 1) (by omega), w64 (n := j - 1) (by omega)]
    have up : Upd (fun x => some (at0 k) = some (at0 x)) w w34 := by
      refine Upd.trans hu (Upd.trans hd.ext.upd (Upd.trans (u32.mono fun x _ hx => ?_) (u34.mono fun x _ hx => ?_) fun _ _ h => h) fun _ _ h => h) fun _ _ h => h
      · show some (at0 k) = some (at0 x)
        rw [show x = k from hx]
      · show some (at0 k) = some (at0 x)
        rw [show x = k from hx]
    refine ⟨⟨by omega, by omega, by omega, up, _, o34, fun t ht => ?_⟩, by show (j - 1 + 1 - (i + 1)).toNat < (j + 1 - i).toNat; omega⟩
    rw [co_set (by rw [List.length_set]; omega), co_set (by omega)]
    by_cases h1 : t = j.toNat
    · rw [if_pos h1, if_pos (by omega), hr _ (by omega), if_neg (by omega), show n - 1 - t = i.toNat by omega]
    · rw [if_neg h1]
      by_cases h2 : t = i.toNat
      · rw [if_pos h2, if_pos (by omega), hr _ (by omega), if_neg (by omega), show n - 1 - t = j.toNat by omega]
      · rw [if_neg h2, hr t ht]
        by_cases h3 : (t : Int) < i ∨ j < t
        · rw [if_pos h3, if_pos (by omega)]
        · rw [if_neg h3, if_neg (by omega)]
  · simp only [decide_eq_false_iff_not] at hs
    have lo := OwnB.len ho
    have e : r = bs.reverse := by
      refine co_ext (by rw [List.length_reverse]; omega) fun t ht => ?_
      rw [hr t (by omega)]
      have e2 : co bs.reverse t = co bs (n - 1 - t) := by
        simp only [Gf.co, List.getD_eq_getElem?_getD]
        rw [List.getElem?_reverse (by omega), hl]
      rw [e2]
      by_cases h3 : (t : Int) < i ∨ j < t
      · rw [if_pos h3]
      · rw [if_neg h3, show n - 1 - t = t by omega]
    rw [e] at ho
    exact ⟨rfl, hu, ho⟩
end Go.Proofs.Ytpmkjpgoekjcfaa
