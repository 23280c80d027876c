import Derived.Test.YtpmkjpgoekjcfaaMA
import Derived.Test.YtpmkjpgoekjcfaaProg
import Derived.Shelf.SortM.Plain
import Derived.Shelf.SortM.SortNone
import Derived.Sort.OwnSortedInts
import Derived.Lib.SliceRun
import Derived.Test.YtpmkjpgoekjcfaaGb
/- How many shards may be; weights; syndromes. -/
namespace Go.Proofs.Ytpmkjpgoekjcfaa
open Go Go.Vc Go.Gf

def kmOk (k m : Int) : Prop := 1 ≤ k ∧ 0 ≤ m ∧ k ≤ 256 ∧ m ≤ 256 - k
instance (k m : Int) : Decidable (kmOk k m) := inferInstanceAs (Decidable (_ ∧ _ ∧ _ ∧ _))
def kmE (k m : Int) : Int := if kmOk k m then 0 else 50
theorem kmE_ok {k m : Int} (h : kmOk k m) : kmE k m = 0 := if_pos h
theorem kmE_bad {k m : Int} (h : ¬ kmOk k m) : kmE k m = 50 := if_neg h

theorem ccheck_spec (k m : Int) (w : World) : Calls Try.prog 19 #[.int .i64 k, .int .i64 m] w fun e w' => e = .returned (.int .i64 (kmE k m)) ∧ w' = w := by
  refine (F19_calls k m w (fun v w' => v = .int .i64 (kmE k m) ∧ w' = w) ?_).mono (by rintro e w' ⟨v, rfl, rfl, h⟩; exact ⟨rfl, h⟩)
  unfold F19
  refine condB_of (fun h => ⟨?_, rfl⟩) fun h1 => condB_of (fun h => ⟨?_, rfl⟩) fun h2 => condB_of (fun h => ⟨?_, rfl⟩) fun h3 => condB_of (fun h => ⟨?_, rfl⟩) fun h4 => ⟨?_, rfl⟩
  · simp only [decide_eq_true_eq] at h
    rw [kmE_bad fun hk => by have := hk.1; omega]
  · simp only [decide_eq_true_eq] at h
    rw [kmE_bad fun hk => by have := hk.2.1; omega]
  · simp only [decide_eq_true_eq] at h
    rw [kmE_bad fun hk => by have := hk.2.2.1; omega]
  · simp only [decide_eq_false_iff_not] at h1 h2 h3
    simp only [decide_eq_true_eq] at h
    rw [w64 (by omega)] at h
    rw [kmE_bad fun hk => by have := hk.2.2.2; omega]
  · simp only [decide_eq_false_iff_not] at h1 h2 h3 h4
    rw [w64 (by omega)] at h4
    rw [kmE_ok ⟨by omega, by omega, by omega, by omega⟩]

theorem bx64 {a b : Nat} (ha : a < 4294967296) (hb : b < 4294967296) : bitsV .xor .i64 (a : Int) (b : Int) = ((a ^^^ b : Nat) : Int) := by
  show IntKind.i64.wrap (((BitVec.ofInt 64 (a : Int)) ^^^ (BitVec.ofInt 64 (b : Int))).toNat : Int) = _
  have e : ∀ x : Nat, x < 4294967296 → (BitVec.ofInt 64 (x : Int)).toNat = x := fun x hx => by rw [BitVec.toNat_ofInt]; omega
  have hx : a ^^^ b < 2 ^ 32 := Nat.xor_lt_two_pow ha hb
  rw [BitVec.toNat_xor, e a ha, e b hb, w64 (by omega)]
theorem px {a b : Nat} (ha : a < 4294967296) (hb : b < 4294967296) : IntKind.u8.wrap (bitsV .xor .i64 (a : Int) (b : Int)) = ((pt a ^^^ pt b).toNat : Int) := by
  rw [bx64 ha hb, wrap8 _ (by omega), Int.toNat_natCast, pt_xor]

set_option maxHeartbeats 1000000 in
theorem weight_spec {k m i qk qm qf : Nat} {f : Option Addr} {w : World} (hkm : k + m ≤ 256) (hi : i < 256) (hf : FieldAt w f) (hk : RowK w qk 3 #[.int .i64 (k : Int)]) (hm : RowK w qm 3 #[.int .i64 (m : Int)]) (hq : RowK w qf 25 #[.pointer f]) :
    Calls Try.prog 56 #[.int .i64 (i : Int), .pointer (some (at0 qk)), .pointer (some (at0 qm)), .pointer (some (at0 qf))] w fun e w' => e = .returned (vb (wgt k m i)) ∧ Ext w w' := by
  refine (F56_calls i (at0 qk) (at0 qm) (at0 qf) w (fun v w' => v = vb (wgt k m i) ∧ Ext w w')
    (fun _ _ _ _ p x w1 => Ext w w1 ∧ (k : Int) ≤ x ∧ x ≤ k + m ∧ p = ((wp k (x.toNat - k) i).toNat : Int)) (fun _ _ _ _ _ x _ => (k + m - x).toNat) ?_).mono (by rintro e w' ⟨v, rfl, rfl, h⟩; exact ⟨rfl, h⟩)
  refine ⟨_, hk.cell, ⟨Upd.refl _ _, by omega, by omega, by rw [show ((k : Int).toNat - k) = 0 by omega]; rfl⟩, ?_⟩
  rintro p x w1 ⟨hx, h0, h1, rfl⟩
  intros
  have k1 : RowK w1 qk 3 #[.int .i64 (k : Int)] := hx.keep hk
  have m1 : RowK w1 qm 3 #[.int .i64 (m : Int)] := hx.keep hm
  have f1 : RowK w1 qf 25 #[.pointer f] := hx.keep hq
  refine ⟨_, k1.cell, _, m1.cell, ?_⟩
  rw [w64 (n := (k : Int) + (m : Int)) (by omega), w64 (n := x + 1) (by omega)]
  have hxn : ((x.toNat : Nat) : Int) = x := by omega
  have hstep : (x + 1).toNat - k = (x.toNat - k) + 1 := by omega
  have hkx : k + (x.toNat - k) = x.toNat := by omega
  refine condB_of (fun hs => ?_) (fun hs => ?_)
  · simp only [decide_eq_true_eq] at hs
    refine condB_of (fun hn => ?_) (fun hn => ?_)
    · simp only [Bool.not_eq_true', decide_eq_false_iff_not] at hn
      have hne : x.toNat ≠ i := by omega
      refine ⟨_, f1.cell, ?_⟩
      have e1 : IntKind.u8.wrap (bitsV .xor .i64 x (i : Int)) = ((pt x.toNat ^^^ pt i).toNat : Int) := by
        rw [← hxn, px (by omega) (by omega), Int.toNat_natCast]
      rw [e1]
      refine (fmul_spec (hf.ext hx) _ _).mono ?_
      rintro e w2 ⟨rfl, hx2⟩
      refine ⟨_, rfl, ⟨hx.trans hx2, by omega, by omega, ?_⟩, by show ((k : Int) + m - (x + 1)).toNat < ((k : Int) + m - x).toNat; omega⟩
      rw [hstep, wp, hkx, if_neg hne]
    · simp only [Bool.not_eq_false', decide_eq_true_eq] at hn
      refine ⟨⟨hx, by omega, by omega, ?_⟩, by show ((k : Int) + m - (x + 1)).toNat < ((k : Int) + m - x).toNat; omega⟩
      rw [hstep, wp, hkx, if_pos (by omega)]
  · simp only [decide_eq_false_iff_not] at hs
    refine ⟨_, f1.cell, (finv_spec (hf.ext hx) _).mono ?_⟩
    rintro e w2 ⟨rfl, hx2⟩
    refine ⟨_, _, rfl, ?_, hx.trans hx2⟩
    rw [show x.toNat - k = m by omega]; rfl

set_option maxHeartbeats 2000000 in
theorem weights_spec {f : Option Addr} {w : World} (hf : FieldAt w f) (k m : Int) :
    Calls Try.prog 28 #[.pointer f, .int .i64 k, .int .i64 m] w fun e w' => Ext w w' ∧ ((¬ kmOk k m ∧ e = .returned (.tuple #[.slice none 0 0, .int .i64 50])) ∨
      kmOk k m ∧ ∃ p c W, e = .returned (.tuple #[.slice p (k + m).toNat c, .int .i64 0]) ∧ OwnB w' w.heap.size p (k + m).toNat c W ∧ ∀ i, i < (k + m).toNat → co W i = wgt k.toNat m.toNat i) := by
  refine (F28_calls f k m w (fun v w' => Ext w w' ∧ ((¬ kmOk k m ∧ v = .tuple #[.slice none 0 0, .int .i64 50]) ∨
      kmOk k m ∧ ∃ p c W, v = .tuple #[.slice p (k + m).toNat c, .int .i64 0] ∧ OwnB w' w.heap.size p (k + m).toNat c W ∧ ∀ i, i < (k + m).toNat → co W i = wgt k.toNat m.toNat i))
    (fun q _ _ _ w19 i w25 => 0 ≤ i ∧ i ≤ (k + m) ∧ Ext w w25 ∧ Upd (fun x => q = some (at0 x)) w19 w25 ∧ ∃ W, OwnB w25 w.heap.size q (k + m).toNat (k + m).toNat W ∧ ∀ j : Nat, (j : Int) < i → co W j = wgt k.toNat m.toNat j)
    (fun _ _ _ _ _ i _ => (k + m - i).toNat) ?_).mono (by
    rintro e w' ⟨v, rfl, hx, ⟨h, rfl⟩ | ⟨h, p, c, W, rfl, h2⟩⟩
    · exact ⟨hx, .inl ⟨h, rfl⟩⟩
    · exact ⟨hx, .inr ⟨h, p, c, W, rfl, h2⟩⟩)
  intro k4 w5 h4 k6 w7 h6 k8 w9 h8
  have x9 : Ext w w9 := h4.ext.trans (h6.ext.trans h8.ext)
  have rf : RowK w9 k4 25 #[.pointer f] := (h6.ext.trans h8.ext).keep h4.at
  have rk : RowK w9 k6 3 #[.int .i64 k] := h8.ext.keep h6.at
  have rm : RowK w9 k8 3 #[.int .i64 m] := h8.at
  refine ⟨_, rf.cell, ?_⟩
  rw [hf.there]
  refine condB_of (fun h => by cases h) fun _ => ⟨_, rk.cell, _, rm.cell, (ccheck_spec k m w9).mono ?_⟩
  rintro e w13 ⟨rfl, rfl⟩
  refine ⟨_, rfl, condB_of (fun hc => ?_) (fun hc => ?_)⟩
  · simp only [Bool.not_eq_true', decide_eq_false_iff_not] at hc
    have hk : ¬ kmOk k m := fun h => hc (kmE_ok h)
    refine ⟨x9, .inl ⟨hk, ?_⟩⟩
    rw [kmE_bad hk]
  simp only [Bool.not_eq_false', decide_eq_true_eq] at hc
  have hk : kmOk k m := Decidable.byContradiction fun h => by rw [kmE_bad h] at hc; omega
  obtain ⟨a1, a2, a3, a4⟩ := hk
  refine ⟨_, rk.cell, _, rm.cell, ?_⟩
  rw [w64 (n := k + m) (by omega)]
  refine ⟨⟨by omega, by omega, by omega⟩, fun k18 w19 h18 => ?_⟩
  have o19 : OwnB w19 w.heap.size (some (at0 k18)) (k + m).toNat (k + m).toNat (List.replicate (k + m).toNat 0) := OwnB.made h18 (by rw [h18.size.1]; exact x9.size) (by unfold maxLen; omega)
  refine ⟨⟨by omega, by omega, x9.trans h18.ext, Upd.refl _ _, _, o19, fun j hj => by omega⟩, ?_⟩
  rintro i w25 ⟨hi0, hi1, hx, hu, W, oW, hW⟩
  intros
  have lW := OwnB.len oW
  refine condB_of (fun hs => ?_) (fun hs => ?_)
  · simp only [decide_eq_true_eq] at hs
    have rf25 : RowK w25 k4 25 #[.pointer f] := hu.keep (h18.ext.keep rf) fun h => by
      simp only [Option.some.injEq, at0, Addr.mk.injEq, and_true] at h
      have := lt_of_heap rf; have := h18.size.1; omega
    have rk25 : RowK w25 k6 3 #[.int .i64 k] := hu.keep (h18.ext.keep rk) fun h => by
      simp only [Option.some.injEq, at0, Addr.mk.injEq, and_true] at h
      have := lt_of_heap rk; have := h18.size.1; omega
    have rm25 : RowK w25 k8 3 #[.int .i64 m] := hu.keep (h18.ext.keep rm) fun h => by
      simp only [Option.some.injEq, at0, Addr.mk.injEq, and_true] at h
      have := lt_of_heap rm; have := h18.size.1; omega
    have ek : ((k.toNat : Nat) : Int) = k := by omega
    have em : ((m.toNat : Nat) : Int) = m := by omega
    have ei : ((i.toNat : Nat) : Int) = i := by omega
    have hsp := weight_spec (k := k.toNat) (m := m.toNat) (i := i.toNat) (by omega) (by omega) (hf.ext hx) (by rw [ek]; exact rk25) (by rw [em]; exact rm25) rf25
    rw [ei] at hsp
    refine hsp.mono ?_
    rintro e w36 ⟨rfl, hx36⟩
    obtain ⟨k', hk', hb', hlive, _, hset⟩ := OwnB.at (OwnB.ext oW hx36) (i := i.toNat) (by omega)
    simp only [Option.some.injEq, at0, Addr.mk.injEq, and_true] at hk'
    subst hk'
    rw [Nat.mul_one, w64 (n := i + 1) (by omega)]
    refine ⟨_, rfl, ⟨by omega, by omega⟩, hlive, fun w39 hs39 => ?_⟩
    obtain ⟨o39, u39⟩ := hset _ _ hs39
    refine ⟨⟨by omega, by omega, OwnB.new_ext (hx.trans hx36) u39 (fun y hy => by rw [show y = k18 from hy]; exact hb'), Upd.trans hu (Upd.trans hx36.upd (u39.mono fun x _ hx => by rw [show x = k18 from hx]) fun _ _ h => h) fun _ _ h => h, _, o39, fun j hj => ?_⟩,
      by show (k + m - (i + 1)).toNat < (k + m - i).toNat; omega⟩
    rw [co_set (by omega)]
    by_cases h1 : j = i.toNat
    · rw [if_pos h1, h1]
    · rw [if_neg h1]; exact hW j (by omega)
  · simp only [decide_eq_false_iff_not] at hs
    exact ⟨hx, .inr ⟨⟨a1, a2, a3, a4⟩, _, _, W, rfl, oW, fun j hj => hW j (by omega)⟩⟩
end Go.Proofs.Ytpmkjpgoekjcfaa

/- Syndromes; is any not nought? -/
namespace Go.Proofs.Ytpmkjpgoekjcfaa
open Go Go.Vc Go.Gf

theorem rep_co (n j : Nat) : co (List.replicate n (0 : UInt8)) j = 0 := by
  simp only [Gf.co, List.getD_eq_getElem?_getD, List.getElem?_replicate]
  split <;> rfl
/-- what a place adds to a syndrome -/
def synT (k m : Nat) (bs : List UInt8) (l i : Nat) : UInt8 := gm (gm (co bs i) (wgt k m i)) (pw (pt i) l)
theorem syn_xs (k m : Nat) (bs : List UInt8) (l : Nat) : syn k m bs l = xs (k + m) (synT k m bs l) := rfl

set_option maxHeartbeats 4000000 in
theorem synof_spec {f q : Option Addr} {w : World} {n c : Nat} {bs : List UInt8} (hf : FieldAt w f) (h : BytesAt w q n bs) (hn : n ≤ 1073741824) (k m : Int) :
    Calls Try.prog 20 #[.pointer f, .int .i64 k, .int .i64 m, .slice q n c] w fun e w' => Ext w w' ∧ ((¬ kmOk k m ∧ e = .returned (.tuple #[.slice none 0 0, .int .i64 50])) ∨
      (kmOk k m ∧ (n : Int) ≠ k + m ∧ e = .returned (.tuple #[.slice none 0 0, .int .i64 60])) ∨
      kmOk k m ∧ (n : Int) = k + m ∧ ∃ p c' S, e = .returned (.tuple #[.slice p m.toNat c', .int .i64 0]) ∧ OwnB w' w.heap.size p m.toNat c' S ∧ ∀ l, l < m.toNat → co S l = syn k.toNat m.toNat bs l) := by
  have hl := h.1
  refine (F20_calls f k m q n c w (fun v w' => Ext w w' ∧ ((¬ kmOk k m ∧ v = .tuple #[.slice none 0 0, .int .i64 50]) ∨
      (kmOk k m ∧ (n : Int) ≠ k + m ∧ v = .tuple #[.slice none 0 0, .int .i64 60]) ∨
      kmOk k m ∧ (n : Int) = k + m ∧ ∃ p c' S, v = .tuple #[.slice p m.toNat c', .int .i64 0] ∧ OwnB w' w.heap.size p m.toNat c' S ∧ ∀ l, l < m.toNat → co S l = syn k.toNat m.toNat bs l))
    (fun pw_ lw cw r _ _ _ _ i w19 => 0 ≤ i ∧ i ≤ n ∧ Ext w w19 ∧ ∃ W S kr, r = some (at0 kr) ∧ OwnB w19 w.heap.size pw_ lw cw W ∧ Away pw_ kr ∧ OwnB w19 w.heap.size r m.toNat m.toNat S ∧
      (∀ j, j < (k + m).toNat → co W j = wgt k.toNat m.toNat j) ∧ ∀ l, l < m.toNat → co S l = xs i.toNat (synT k.toNat m.toNat bs l)) (fun _ _ _ _ _ _ _ _ i _ => (n - i).toNat)
    (fun pw_ lw cw r _ _ _ _ i _ _ x l w73 => 0 ≤ l ∧ l ≤ m ∧ 0 ≤ i ∧ i < n ∧ Ext w w73 ∧ x = ((synT k.toNat m.toNat bs l.toNat i.toNat).toNat : Int) ∧ ∃ W S kr, r = some (at0 kr) ∧ OwnB w73 w.heap.size pw_ lw cw W ∧ Away pw_ kr ∧ OwnB w73 w.heap.size r m.toNat m.toNat S ∧
      (∀ j, j < (k + m).toNat → co W j = wgt k.toNat m.toNat j) ∧ ∀ t, t < m.toNat → co S t = xs i.toNat (synT k.toNat m.toNat bs t) ^^^ (if (t : Int) < l then synT k.toNat m.toNat bs t i.toNat else 0)) (fun _ _ _ _ _ _ _ _ _ _ _ _ l _ => (m - l).toNat) ?_).mono (by
    rintro e w' ⟨v, rfl, hx, ⟨h, rfl⟩ | ⟨h, h2, rfl⟩ | ⟨h, h2, p, c', S, rfl, h3⟩⟩
    · exact ⟨hx, .inl ⟨h, rfl⟩⟩
    · exact ⟨hx, .inr (.inl ⟨h, h2, rfl⟩)⟩
    · exact ⟨hx, .inr (.inr ⟨h, h2, p, c', S, rfl, h3⟩)⟩)
  refine (weights_spec hf k m).mono ?_
  rintro e w5 ⟨hx5, ⟨hk, rfl⟩ | ⟨hk, p7, c7, W, rfl, oW, hW⟩⟩
  · exact ⟨_, _, _, _, rfl, condB_of (fun _ => ⟨hx5, .inl ⟨hk, rfl⟩⟩) (fun h => by simp at h)⟩
  obtain ⟨a1, a2, a3, a4⟩ := hk
  have hk : kmOk k m := ⟨a1, a2, a3, a4⟩
  refine ⟨_, _, _, _, rfl, condB_of (fun h => by simp at h) fun _ => ?_⟩
  rw [w64 (n := k + m) (by omega)]
  refine condB_of (fun hc => ?_) (fun hc => ?_)
  · simp only [Bool.not_eq_true', decide_eq_false_iff_not] at hc
    exact ⟨hx5, .inr (.inl ⟨hk, hc, rfl⟩)⟩
  simp only [Bool.not_eq_false', decide_eq_true_eq] at hc
  refine ⟨⟨by omega, by omega, by omega⟩, fun k9 w10 h10 => ?_⟩
  have o10 : OwnB w10 w.heap.size (some (at0 k9)) m.toNat m.toNat (List.replicate m.toNat 0) := OwnB.made h10 (by rw [h10.size.1]; exact hx5.size) (by unfold maxLen; omega)
  refine ⟨⟨by omega, by omega, hx5.trans h10.ext, W, _, k9, rfl, OwnB.ext oW h10.ext, OwnB.away2 oW (by rw [h10.size.1]; exact Nat.le_refl _), o10, hW, fun l hl => rep_co _ _⟩, ?_⟩
  rintro i w19 ⟨hi0, hi1, hx, W1, S, kr, hkr, oW1, aW, oS, hW1, hS⟩
  simp only [Option.some.injEq, at0, Addr.mk.injEq, and_true] at hkr
  subst hkr
  intros
  have lW := OwnB.len oW1
  refine condB_of (fun hs => ?_) (fun hs => ?_)
  · simp only [decide_eq_true_eq] at hs
    intro w53 hd
    have hx53 := hx.trans hd.ext
    obtain ⟨a, rfl, ha⟩ := BytesAt.co (h.ext hx53) (i := i.toNat) (by omega)
    obtain ⟨b, rfl, hb⟩ := BytesAt.co (OwnB.bytes (OwnB.ext oW1 hd.ext)) (i := i.toNat) (by omega)
    refine ⟨⟨hi0, hs⟩, _, by rw [Nat.mul_one]; exact ha, ⟨hi0, by omega⟩, _, by rw [Nat.mul_one]; exact hb, ?_⟩
    refine (fmul_spec (hf.ext hx53) _ _).mono ?_
    rintro e w58 ⟨rfl, hx58⟩
    have hx58' := hx53.trans hx58
    refine ⟨_, rfl, ⟨by omega, by omega, hi0, hs, hx58', ?_, W1, S, k9, rfl, OwnB.ext (OwnB.ext oW1 hd.ext) hx58, aW, OwnB.ext (OwnB.ext oS hd.ext) hx58, hW1, fun t ht => ?_⟩, ?_⟩
    · rw [hW1 _ (by omega)]
      show _ = ((gm (gm (co bs i.toNat) (wgt k.toNat m.toNat i.toNat)) 1).toNat : Int)
      rw [gm_one]
    · rw [hS t ht, if_neg (by omega), x0]
    rintro x l w73 ⟨hl0, hl1, _, _, hx73, rfl, W2, S2, kr, hkr, oW2, aW2, oS2, hW2, hS2⟩
    simp only [Option.some.injEq, at0, Addr.mk.injEq, and_true] at hkr
    subst hkr
    intros
    have lS := OwnB.len oS2
    refine condB_of (fun ht => ?_) (fun ht => ?_)
    · simp only [decide_eq_true_eq] at ht
      obtain ⟨k', hk', hb', hlive, hcell, hset⟩ := OwnB.at oS2 (i := l.toNat) (by omega)
      simp only [Option.some.injEq, at0, Addr.mk.injEq, and_true] at hk'
      subst hk'
      simp only [Nat.mul_one]
      refine ⟨⟨by omega, by omega⟩, _, hcell, ⟨by omega, by omega⟩, hlive, fun w91 hs91 => ?_⟩
      rw [bx8] at hs91
      obtain ⟨o91, u91⟩ := hset _ _ hs91
      have hx91 : Ext w w91 := OwnB.new_ext hx73 u91 fun y hy => by rw [show y = k9 from hy]; exact hb'
      have e8 : IntKind.u8.wrap i = ((pt i.toNat).toNat : Int) := wrap8 i hi0
      rw [e8]
      refine (fmul_spec (hf.ext hx91) _ _).mono ?_
      rintro e w92 ⟨rfl, hx92⟩
      rw [w64 (n := l + 1) (by omega)]
      refine ⟨_, rfl, ⟨by omega, by omega, hi0, hs, hx91.trans hx92, ?_, W2, _, k9, rfl, OwnB.ext (OwnB.setk oW2 u91 aW2) hx92, aW2, OwnB.ext o91 hx92, hW2, fun t ht2 => ?_⟩, by show (m - (l + 1)).toNat < (m - l).toNat; omega⟩
      · rw [show (l + 1).toNat = l.toNat + 1 by omega]
        show _ = ((gm (gm (co bs i.toNat) (wgt k.toNat m.toNat i.toNat)) (gm (pw (pt i.toNat) l.toNat) (pt i.toNat))).toNat : Int)
        rw [← gm_assoc]; rfl
      · rw [co_set (by omega)]
        by_cases h5 : t = l.toNat
        · subst h5
          rw [if_pos rfl, hS2 _ ht2, if_neg (by omega), if_pos (by omega), x0]
        · rw [if_neg h5, hS2 t ht2]
          by_cases h6 : (t : Int) < l
          · rw [if_pos h6, if_pos (by omega)]
          · rw [if_neg h6, if_neg (by omega)]
    · simp only [decide_eq_false_iff_not] at ht
      rw [w64 (n := i + 1) (by omega)]
      refine ⟨⟨by omega, by omega, hx73, W2, S2, k9, rfl, oW2, aW2, oS2, hW2, fun t ht2 => ?_⟩, by show ((n : Int) - (i + 1)).toNat < ((n : Int) - i).toNat; omega⟩
      rw [hS2 t ht2, if_pos (by omega), show (i + 1).toNat = i.toNat + 1 by omega]; rfl
  · simp only [decide_eq_false_iff_not] at hs
    refine ⟨hx, .inr (.inr ⟨hk, hc, _, _, S, rfl, oS, fun l hl => ?_⟩)⟩
    rw [hS l hl, syn_xs, show i.toNat = k.toNat + m.toNat by omega]

theorem nonz_spec (b : UInt8) (w : World) : Calls Try.prog 38 #[vb b] w fun e w' => e = .returned (.bool (decide (b ≠ 0))) ∧ w' = w := by
  refine (F38_calls b.toNat w (fun v w' => v = .bool (decide (b ≠ 0)) ∧ w' = w) ?_).mono (by rintro e w' ⟨v, rfl, rfl, h⟩; exact ⟨rfl, h⟩)
  refine ⟨?_, rfl⟩
  congr 1
  by_cases h : b = 0
  · subst h; rfl
  · rw [decide_eq_true h, decide_eq_false (fun e => h (vb_zero.1 e))]; rfl
theorem anyz_spec {p : Option Addr} {n c : Nat} {w : World} {bs : List UInt8} (h : BytesAt w p n bs) (hn : n ≤ 1073741824) :
    Calls Try.prog 37 #[.slice p n c, .func (.func 38) #[] #[]] w fun e w' => (∃ b, e = .returned (.bool b) ∧ (b = true ↔ ∃ i, i < n ∧ co bs i ≠ 0)) ∧ w' = w := by
  have hl := h.1
  refine (F37_38_calls p n c w (fun v w' => (∃ b, v = .bool b ∧ (b = true ↔ ∃ i, i < n ∧ co bs i ≠ 0)) ∧ w' = w) ?_).mono (by rintro e w' ⟨v, rfl, ⟨b, rfl, h⟩, hw⟩; exact ⟨⟨b, rfl, h⟩, hw⟩)
  refine (F65_38_calls p n c w (fun v w' => (∃ i : Int, v = .int .i64 i ∧ (0 ≤ i ↔ ∃ i, i < n ∧ co bs i ≠ 0)) ∧ w' = w)
    (fun _ _ i w4 => 0 ≤ i ∧ i ≤ n ∧ w4 = w ∧ ∀ j : Nat, (j : Int) < i → co bs j = 0) (fun _ _ i _ => (n - i).toNat) ?_).mono ?_
  · refine ⟨⟨by omega, by omega, rfl, fun j hj => by omega⟩, ?_⟩
    rintro i w4 ⟨hi0, hi1, rfl, hz⟩
    intros
    refine condB_of (fun hs => ?_) (fun hs => ?_)
    · simp only [decide_eq_true_eq] at hs
      obtain ⟨a, rfl, ha⟩ := BytesAt.co h (i := i.toNat) (by omega)
      refine ⟨⟨hi0, hs⟩, _, by rw [Nat.mul_one]; exact ha, (nonz_spec _ _).mono ?_⟩
      rintro e w5 ⟨rfl, rfl⟩
      refine ⟨_, rfl, condB_of (fun hb => ?_) (fun hb => ?_)⟩
      · simp only [decide_eq_true_eq] at hb
        exact ⟨⟨i, rfl, fun _ => ⟨i.toNat, by omega, hb⟩, fun _ => hi0⟩, rfl⟩
      · simp only [decide_eq_false_iff_not, Decidable.not_not] at hb
        rw [w64 (n := i + 1) (by omega)]
        refine ⟨⟨by omega, by omega, rfl, fun j hj => ?_⟩, by show ((n : Int) - (i + 1)).toNat < ((n : Int) - i).toNat; omega⟩
        by_cases h1 : (j : Int) < i
        · exact hz j h1
        · rw [show j = i.toNat by omega]; exact hb
    · simp only [decide_eq_false_iff_not] at hs
      exact ⟨⟨-1, rfl, fun h => by omega, fun ⟨j, hj, hne⟩ => (hne (hz j (by omega))).elim⟩, rfl⟩
  · rintro e w4 ⟨v, rfl, ⟨i, rfl, hi⟩, rfl⟩
    exact ⟨_, rfl, ⟨_, rfl, by rw [decide_eq_true_eq]; exact hi⟩, rfl⟩
end Go.Proofs.Ytpmkjpgoekjcfaa

/- A word is put right: what is said of it. -/
namespace Go.Proofs.Ytpmkjpgoekjcfaa
open Go Go.Vc Go.Gf

/-! ## flags, places -/
def FlagsAt (w : World) (p : Option Addr) (l : Nat) (ks : List Bool) : Prop := l = ks.length ∧ CellsAt w p (ks.map Value.bool)
theorem FlagsAt.ext {w w' : World} {p : Option Addr} {l : Nat} {ks : List Bool} (h : FlagsAt w p l ks) (hu : Ext w w') : FlagsAt w' p l ks := ⟨h.1, h.2.ext hu⟩
theorem FlagsAt.get {w : World} {p : Option Addr} {l : Nat} {ks : List Bool} (h : FlagsAt w p l ks) {i : Nat} (hi : i < l) : ∃ a, p = some a ∧ w.cell? (a.add i) = some (.bool (ks.getD i false)) := by
  have hlt : i < ks.length := by rw [← h.1]; exact hi
  obtain ⟨a, ha, hc⟩ := h.2 i (.bool ks[i]) (by simp [hlt])
  exact ⟨a, ha, by rw [hc]; simp [List.getD_eq_getElem?_getD, hlt]⟩

def encN (l : List Nat) : List Value := l.map fun (i : Nat) => Value.int .i64 (i : Int)
theorem encN_length (l : List Nat) : (encN l).length = l.length := by simp [encN]
theorem elemN : ElemOf Try.prog 28 3 1 8 := ⟨by kernel_rfl, ⟨Try.t3, .int .i64 0, by kernel_rfl, by kernel_rfl, by kernel_rfl, by kernel_rfl, by kernel_rfl⟩, by omega⟩
abbrev OwnN (w : World) (base : Nat) (p : Option Addr) (n c : Nat) (l : List Nat) : Prop := OwnS w base 3 1 p n c (encN l)
theorem OwnN.len {w : World} {base : Nat} {p : Option Addr} {n c : Nat} {l : List Nat} (h : OwnN w base p n c l) : n = l.length := by have := OwnS.length h; rw [encN_length] at this; omega
theorem OwnS.blk {w : World} {base : Nat} {e : TypeId} {sz : Nat} {p : Option Addr} {n c : Nat} {xs : List Value} (h : OwnS w base e sz p n c xs) {x : Nat} (hp : p = some (at0 x)) : base ≤ x := by
  subst hp
  rcases h.where_ with ⟨h, _⟩ | ⟨g, h, hb, _⟩
  · cases h
  · simp only [Option.some.injEq, at0, Addr.mk.injEq, and_true] at h
    omega
/-- what a call owns stays where rows of another type are written -/
theorem OwnS.other {S : Nat → Prop} {w w' : World} {base : Nat} {e : TypeId} {sz : Nat} {p : Option Addr} {n c : Nat} {xs : List Value} (h : OwnS w base e sz p n c xs) (hu : Upd S w w')
    (hS : ∀ x, S x → ∃ (cs : Array Value) (e' : TypeId) (fz : Nat × Nat), w.heap[x]? = some (Obj.cells cs e' fz) ∧ e' ≠ e) : OwnS w' base e sz p n c xs := by
  refine OwnS.upd h hu fun g hg hs => ?_
  obtain ⟨cs, e', fz, h1, h2⟩ := hS g hs
  obtain ⟨cs', e'', fz', h3, h4⟩ := OwnS.typed h hg
  rw [h1] at h3
  cases h3
  exact h2 h4
theorem OwnN.push {w w1 : World} {base : Nat} {p : Option Addr} {n c k : Nat} {l : List Nat} {b : Nat} (h : OwnN w base p n c l) (hk : NewB w k (.cells #[.int .i64 (b : Int)] 3) w1) (hbase : base ≤ w.heap.size) (hn : n ≤ 1073741824) :
    ∃ p' c' w2, Sem.run Try.prog (Builtin.append_ #[28, 28] 28 #[.slice p n c, .slice (some (at0 k)) 1 1]) w1 = .ok (.slice p' (n + 1) c') w2 ∧ OwnN w2 base p' (n + 1) c' (l ++ [b]) ∧
      Upd (fun x => p = some (at0 x)) w w2 := by
  have h1 : OwnS w1 base 3 1 p n c (encN l) := OwnS.ext h hk.ext
  have hq : CellsAt w1 (some (at0 k)) (encN [b]) := by
    intro j u hj
    refine ⟨_, rfl, hk.row.row.cell ?_⟩
    simpa [encN] using hj
  obtain ⟨p', c', w2, hr, ho, hu, _⟩ := h1.append elemN 28 (q := some (at0 k)) (m := 1) (d := 1) (news := encN [b]) rfl hq (fun h => by cases h) (fun u hu => by
    obtain ⟨_, _, rfl⟩ := List.mem_map.1 hu; rfl) (by unfold maxLen; omega) (by omega) (by rw [hk.size.2]; omega)
  refine ⟨p', c', w2, hr, ?_, Upd.trans hk.ext.upd hu fun x _ hx => hx⟩
  have : encN l ++ encN [b] = encN (l ++ [b]) := by simp [encN]
  rw [this] at ho
  exact ho

/-- an append keeps the row, or makes a new one -/
theorem push_where {P : Program} {t e : TypeId} {sz bytes : Nat} (E : ElemOf P t e sz bytes) (ty : TypeId) {w : World} {base : Nat} {p : Option Addr} {n c : Nat} {xs : List Value} (h : OwnS w base e sz p n c xs)
    {a : Addr} {m d : Nat} {news : List Value} (hl : news.length = m * sz) (hq : CellsAt w (some a) news) (h1 : ∀ u ∈ news, u.oneCell' = true) (hm : 0 < m) (h63 : n + m ≤ maxLen)
    (hbytes : (n + m) * bytes ≤ 140737488355328) {p' : Option Addr} {l' c' : Nat} {w' : World} (hr : (Builtin.append_ #[t, t] ty #[.slice p n c, .slice (some a) m d]).run P w = .ok (.slice p' l' c') w') :
    p' = p ∨ p' = some (at0 w.heap.size) := by
  obtain ⟨i, z, hi, hz, hs, hb, hzs⟩ := E.hi
  subst hs
  subst hb
  have hsmall : n + m ≤ 9223372036854775807 := by simp only [maxLen] at h63; omega
  have hnews : ∀ j u, news[j]? = some u → w.cell? (a.add j) = some u := by
    intro j u hj
    obtain ⟨a', ha, hc⟩ := hq j u hj
    cases ha; exact hc
  rcases h.where_ with ⟨rfl, rfl, rfl⟩ | ⟨g, rfl, hge, hlt, hnc, cur, hg, hcs, htake⟩
  · have hr2 := run_append_nil (P := P) w t ty e i z E.ht hi hz a m d news hl hnews (by omega) (by omega) (by have hb := hbytes; simp only [Nat.zero_add] at hb; omega)
    rw [hr] at hr2
    simp only [Result.ok.injEq, Value.slice.injEq] at hr2
    exact .inr hr2.1.1
  · by_cases hroom : n + m ≤ c
    · have hfit : n * i.size + news.length ≤ cur.size := by rw [hl, hcs, ← Nat.add_mul]; exact Nat.mul_le_mul_right _ hroom
      have hr2 := run_append_room (P := P) w t ty e i E.ht hi g n c cur hg a m d news hl hnews h1 hroom hfit
      rw [show (some (at0 g) : Option Addr) = some ⟨g, 0, none⟩ from rfl] at hr
      rw [hr] at hr2
      simp only [Result.ok.injEq, Value.slice.injEq] at hr2
      exact .inl hr2.1.1
    · have holds : ∀ j u, xs[j]? = some u → w.cell? ((⟨g, 0, none⟩ : Addr).add j) = some u := by
        intro j u hj
        obtain ⟨a', ha, hc⟩ := h.cells j u hj
        cases ha; exact hc
      have hr2 := run_append_grow (P := P) w t ty e i z E.ht hi hz ⟨g, 0, none⟩ n c xs h.length holds a m d news hl hnews (by omega) (by omega) (growslice_fits (by omega) hbytes)
      rw [show (some (at0 g) : Option Addr) = some ⟨g, 0, none⟩ from rfl] at hr
      rw [hr] at hr2
      simp only [Result.ok.injEq, Value.slice.injEq] at hr2
      exact .inr hr2.1.1
/-- one byte more, apart from what lay apart -/
theorem OwnB.push2 {w w1 : World} {base : Nat} {p : Option Addr} {n c k : Nat} {bs : List UInt8} {b : UInt8} (h : OwnB w base p n c bs) (hk : NewB w k (.cells #[vb b] 5) w1) (hbase : base ≤ w.heap.size) (hn : n ≤ 1073741824) :
    ∃ p' c' w2, Sem.run Try.prog (Builtin.append_ #[22, 22] 22 #[.slice p n c, .slice (some (at0 k)) 1 1]) w1 = .ok (.slice p' (n + 1) c') w2 ∧ OwnB w2 base p' (n + 1) c' (bs ++ [b]) ∧
      Upd (fun x => p = some (at0 x)) w w2 ∧ ∀ x, x < w.heap.size → Away p x → Away p' x := by
  obtain ⟨p', c', w2, hr, ho, hu⟩ := OwnB.push h hk hbase (by omega)
  have hq : CellsAt w1 (some (at0 k)) (encB [b]) := by
    intro j u hj
    refine ⟨_, rfl, hk.row.row.cell ?_⟩
    simpa [encB] using hj
  have hw := push_where elemY 22 (OwnS.ext h hk.ext) (news := encB [b]) (m := 1) (d := 1) rfl hq (encB_one _) (by omega) (by unfold maxLen; omega) (by omega) hr
  refine ⟨p', c', w2, hr, ho, hu, fun x hx ha => ?_⟩
  rcases hw with rfl | rfl
  · exact ha
  · intro a e he
    cases e
    have : w1.heap.size = x := he
    rw [hk.size.2] at this
    omega

/-- what a word put right is told as -/
def wordP (w : World) (k m : Int) (l4 l5 : Nat) (bs : List UInt8) (ms : List Bool) (v : Value) (w' : World) : Prop := Ext w w' ∧
  ((¬ kmOk k m ∧ v = .tuple #[.slice none 0 0, .slice none 0 0, .int .i64 50]) ∨
   (kmOk k m ∧ ¬ ((l4 : Int) = k + m ∧ (l5 : Int) = k + m) ∧ v = .tuple #[.slice none 0 0, .slice none 0 0, .int .i64 60]) ∨
   kmOk k m ∧ (l4 : Int) = k + m ∧ (l5 : Int) = k + m ∧ ((decM k.toNat m.toNat bs ms = none ∧ v = .tuple #[.slice none 0 0, .slice none 0 0, .int .i64 100]) ∨
    ∃ c, decM k.toNat m.toNat bs ms = some c ∧ ∃ p1 c1 p2 n2 c2, v = .tuple #[.slice p1 l4 c1, .slice p2 n2 c2, .int .i64 0] ∧ OwnB w' w.heap.size p1 l4 c1 c ∧ OwnN w' w.heap.size p2 n2 c2 (dif (k.toNat + m.toNat) ms c bs)))

/-- while the missing bytes are struck -/
def WordI0 (w : World) (k m n : Nat) (bs : List UInt8) (ms : List Bool) (p8 : Option Addr) (l8 c8 : Nat) (p12 : Option Addr) (l12 c12 : Nat) (p24 : Option Addr) (l24 c24 : Nat) (i : Int) (w1 : World) : Prop :=
  0 ≤ i ∧ i ≤ n ∧ ∃ w6, Ext w w6 ∧ Ext w6 w1 ∧ ∃ ko z kn W, p12 = some (at0 ko) ∧ OwnB w1 w6.heap.size p12 l12 c12 z ∧ l12 = n ∧ OwnB w1 w6.heap.size p24 l24 c24 kn ∧ Away p24 ko ∧ OwnB w6 w.heap.size p8 l8 c8 W ∧ l8 = n ∧
    (∀ j, j < n → co W j = wgt k m j) ∧ (∀ j : Nat, j < n → co z j = if (j : Int) < i ∧ ms.getD j false = true then 0 else co bs j) ∧ kn = (mis i.toNat ms).map pt
/-- while the bytes are put right -/
def WordI1 (w : World) (k m n : Nat) (bs : List UInt8) (ms : List Bool) (p8 : Option Addr) (l8 c8 : Nat) (p12 : Option Addr) (l12 c12 : Nat) (p61 : Option Addr) (l61 c61 : Nat) (p65 : Option Addr) (l65 c65 : Nat) (p68 : Option Addr) (l68 c68 : Nat)
    (p85 : Option Addr) (l85 c85 : Nat) (rt i : Int) (w1 : World) : Prop :=
  0 ≤ i ∧ i ≤ n ∧ Ext w w1 ∧ ∃ ko z W T g P b o full slope out, p12 = some (at0 ko) ∧ WordIn k m bs z ms T g P ∧ Gf.Found m (mis (k + m) ms).length (co P) b o ∧ Normal full ∧ co full = act b (co g) ∧ co slope = der (co full) ∧
    OwnB w1 w.heap.size p12 l12 c12 out ∧ l12 = n ∧ OwnB w1 w.heap.size p8 l8 c8 W ∧ l8 = n ∧ Away p8 ko ∧ (∀ j, j < n → co W j = wgt k m j) ∧ OwnB w1 w.heap.size p61 l61 c61 o ∧ Away p61 ko ∧ l61 ≤ 4096 ∧ OwnB w1 w.heap.size p65 l65 c65 full ∧ Away p65 ko ∧ l65 ≤ 4096 ∧
    OwnB w1 w.heap.size p68 l68 c68 slope ∧ Away p68 ko ∧ l68 ≤ 4096 ∧ (∀ j : Nat, j < n → co out j = if (j : Int) < i then fixd k m z full o slope j else co z j) ∧ OwnN w1 w.heap.size p85 l85 c85 (wrg i.toNat ms full) ∧ rt = ((zer i.toNat full).length : Int)
end Go.Proofs.Ytpmkjpgoekjcfaa

/- A word is put right. -/
namespace Go.Proofs.Ytpmkjpgoekjcfaa
open Go Go.Vc Go.Gf

theorem range_filter_succ (p : Nat → Bool) (i : Nat) : (List.range (i + 1)).filter p = (List.range i).filter p ++ (if p i = true then [i] else []) := by
  rw [List.range_succ, List.filter_append]
  congr 1
  by_cases h : p i = true
  · rw [if_pos h, List.filter_cons_of_pos h]; rfl
  · rw [if_neg h, List.filter_cons_of_neg h]; rfl
theorem mis_succ (i : Nat) (ms : List Bool) : mis (i + 1) ms = mis i ms ++ (if ms.getD i false = true then [i] else []) := range_filter_succ _ _
theorem wrg_succ (i : Nat) (ms : List Bool) (full : List UInt8) : wrg (i + 1) ms full = wrg i ms full ++ (if (decide (ev full (pt i) = 0) && !ms.getD i false) = true then [i] else []) := range_filter_succ _ _
theorem zer_succ (i : Nat) (full : List UInt8) : zer (i + 1) full = zer i full ++ (if decide (ev full (pt i) = 0) = true then [i] else []) := range_filter_succ _ _
theorem ty_nb : 3 ≠ 5 := by decide
theorem OwnB.at0_ {w : World} {base : Nat} {p : Option Addr} {n c : Nat} {bs : List UInt8} (h : OwnB w base p n c bs) (hn : 0 < n) : ∃ k, p = some (at0 k) ∧ base ≤ k ∧ k < w.heap.size := by
  rcases h.where_ with ⟨_, h0, _⟩ | ⟨g, hg, hb, hl, _⟩
  · omega
  · exact ⟨g, hg, hb, hl⟩
theorem OwnB.row {w : World} {base k : Nat} {n c : Nat} {bs : List UInt8} (h : OwnB w base (some (at0 k)) n c bs) : ∃ cs, RowK w k 5 cs := by
  rcases h.where_ with ⟨h0, _⟩ | ⟨g, h0, _, _, _, cur, hc, _⟩
  · cases h0
  · simp only [Option.some.injEq, at0, Addr.mk.injEq, and_true] at h0
    subst h0
    exact ⟨cur, hc⟩

theorem away_none (k : Nat) : Away none k := fun a h => by cases h

set_option maxHeartbeats 8000000 in
theorem word_spec {f p4 p5 : Option Addr} {w : World} {l4 c4 l5 c5 : Nat} {bs : List UInt8} {ms : List Bool} (hf : FieldAt w f) (h4 : BytesAt w p4 l4 bs) (h5 : FlagsAt w p5 l5 ms) (k m : Int) :
    Calls Try.prog 12 #[.pointer f, .int .i64 k, .int .i64 m, .slice p4 l4 c4, .slice p5 l5 c5] w fun e w' => ∃ v, e = .returned v ∧ wordP w k m l4 l5 bs ms v w' := by
  refine F12_calls f k m p4 l4 c4 p5 l5 c5 w (wordP w k m l4 l5 bs ms)
    (fun p8 l8 c8 _ p12 l12 c12 _ _ _ _ _ p24 l24 c24 i w1 => WordI0 w k.toNat m.toNat l5 bs ms p8 l8 c8 p12 l12 c12 p24 l24 c24 i w1) (fun _ _ _ _ _ _ _ _ _ _ _ _ _ _ _ i _ => (l5 - i).toNat)
    (fun p8 l8 c8 p12 l12 c12 p61 l61 c61 p65 l65 c65 p68 l68 c68 _ _ p85 l85 c85 rt i w1 => WordI1 w k.toNat m.toNat l5 bs ms p8 l8 c8 p12 l12 c12 p61 l61 c61 p65 l65 c65 p68 l68 c68 p85 l85 c85 rt i w1)
    (fun _ _ _ _ _ _ _ _ _ _ _ _ _ _ _ _ _ _ _ _ _ i _ => (l5 - i).toNat) ?_
  have e4 := h4.1
  have e5 := h5.1
  refine (weights_spec hf k m).mono ?_
  rintro e w6 ⟨hx6, ⟨hk, rfl⟩ | ⟨hk, p8, c8, W, rfl, oW, hW⟩⟩
  · exact ⟨_, _, _, _, rfl, condB_of (fun _ => ⟨hx6, .inl ⟨hk, rfl⟩⟩) (fun h => by simp at h)⟩
  obtain ⟨a1, a2, a3, a4⟩ := hk
  have hk : kmOk k m := ⟨a1, a2, a3, a4⟩
  refine ⟨_, _, _, _, rfl, condB_of (fun h => by simp at h) fun _ => ?_⟩
  rw [w64 (n := k + m) (by omega)]
  refine condB_of (fun hc => ?_) (fun hc => ?_)
  · simp only [Bool.not_eq_true', decide_eq_false_iff_not] at hc
    exact ⟨hx6, .inr (.inl ⟨hk, fun h => hc h.1, rfl⟩)⟩
  simp only [Bool.not_eq_false', decide_eq_true_eq] at hc
  refine condB_of (fun hc5 => ?_) (fun hc5 => ?_)
  · simp only [Bool.not_eq_true', decide_eq_false_iff_not] at hc5
    exact ⟨hx6, .inr (.inl ⟨hk, fun h => hc5 h.2, rfl⟩)⟩
  simp only [Bool.not_eq_false', decide_eq_true_eq] at hc5
  have hn : (k + m).toNat = l5 := by omega
  have hn2 : k.toNat + m.toNat = l5 := by omega
  rw [hn] at oW hW ⊢
  refine (bclone_own (h4.ext hx6) (by omega)).mono ?_
  rintro e w10 ⟨p12, c12, rfl, hx10, oz⟩
  have x10 : Ext w w10 := hx6.trans hx10
  obtain ⟨ko, rfl, hko, hko2⟩ := OwnB.at0_ oz (by omega)
  have aW : Away p8 ko := OwnB.away2 oW hko
  refine ⟨_, _, _, rfl, ⟨by omega, by omega, w6, hx6, hx10, ko, bs, [], W, rfl, oz, by omega, OwnS.nil _ _ _ _, away_none ko, oW, rfl, hW, (fun j hj => by rw [if_neg (by omega)]), rfl⟩, ?_⟩
  clear oz hko hko2 aW
  rintro p24 l24 c24 i w26 ⟨hi0, hi1, w6', hx6', hx, ko', z, kn, W', hko', oz, hl12, okn, akn, oW', _, hW', hz, rfl⟩
  simp only [Option.some.injEq, at0, Addr.mk.injEq, and_true] at hko'
  subst hko'
  intros
  have lkn := OwnB.len okn
  have x26 := hx6'.trans hx
  refine condB_of (fun hs => ?_) (fun hs => ?_)
  · -- a byte that is missing is struck
    simp only [decide_eq_true_eq] at hs
    obtain ⟨a, rfl, ha⟩ := (h5.ext x26).get (i := i.toNat) (by omega)
    rw [w64 (n := i + 1) (by omega)]
    have hnx : (i + 1).toNat = i.toNat + 1 := by omega
    have hms : (mis i.toNat ms).length ≤ i.toNat := by
      unfold mis
      exact Nat.le_trans (List.length_filter_le _ _) (by simp)
    refine ⟨⟨hi0, hs⟩, _, by rw [Nat.mul_one]; exact ha, condB_of (fun hb => ?_) (fun hb => ?_)⟩
    · obtain ⟨k', hk', hb', hlive, _, hset⟩ := OwnB.at oz (i := i.toNat) (by omega)
      simp only [Option.some.injEq, at0, Addr.mk.injEq, and_true] at hk'
      subst hk'
      rw [Nat.mul_one]
      refine ⟨⟨hi0, by omega⟩, hlive, fun w46 hs46 => ?_⟩
      obtain ⟨oz46, u46⟩ := hset 0 w46 hs46
      have x46 : Ext w6' w46 := OwnB.new_ext hx u46 fun y hy => by rw [show y = ko from hy]; exact hb'
      intro k47 w48 h48
      rw [wrap8 i hi0] at h48
      obtain ⟨p50, c50, w49, hr, ok49, u49, aw49⟩ := OwnB.push2 (OwnB.setk okn u46 akn) h48 x46.size (by simp at lkn; omega)
      have hkolt : ko < w46.heap.size := Nat.lt_of_lt_of_le (OwnS.lt_heap oz) u46.size
      have x49 : Ext w6' w49 := OwnB.new_ext x46 u49 fun y hy => OwnB.blk okn hy
      have hlz := OwnB.len oz
      refine ⟨_, _, _, w49, hr, ⟨by omega, by omega, w6', hx6', x49, ko, _, _, W', rfl, OwnS.upd oz46 u49 (fun g hg he => ?_), hl12, ok49, aw49 ko hkolt akn, oW', rfl, hW', fun j hj => ?_, ?_⟩, by show ((l5 : Int) - (i + 1)).toNat < ((l5 : Int) - i).toNat; omega⟩
      · simp only [Option.some.injEq, at0, Addr.mk.injEq, and_true] at hg
        subst hg
        exact akn _ he rfl
      · rw [co_set (by omega), hz j hj]
        by_cases h1 : j = i.toNat
        · rw [if_pos h1, h1, if_pos ⟨by omega, hb⟩]
        · rw [if_neg h1]
          by_cases h2 : (j : Int) < i ∧ ms.getD j false = true
          · rw [if_pos h2, if_pos ⟨by omega, h2.2⟩]
          · rw [if_neg h2, if_neg (fun h3 => h2 ⟨by omega, h3.2⟩)]
      · rw [hnx, mis_succ, if_pos hb, List.map_append]; rfl
    · have hb : ms.getD i.toNat false = false := hb
      refine ⟨⟨by omega, by omega, w6', hx6', hx, ko, z, _, W', rfl, oz, hl12, okn, akn, oW', rfl, hW', fun j hj => ?_, ?_⟩, by show ((l5 : Int) - (i + 1)).toNat < ((l5 : Int) - i).toNat; omega⟩
      · rw [hz j hj]
        by_cases h1 : j = i.toNat
        · subst h1
          rw [hb, if_neg (by simp), if_neg (by simp)]
        · by_cases h2 : (j : Int) < i ∧ ms.getD j false = true
          · rw [if_pos h2, if_pos ⟨by omega, h2.2⟩]
          · rw [if_neg h2, if_neg (fun h3 => h2 ⟨by omega, h3.2⟩)]
      · rw [hnx, mis_succ, hb]; simp
  · simp only [decide_eq_false_iff_not] at hs
    obtain rfl : i = (l5 : Int) := by omega
    rw [Int.toNat_natCast] at okn lkn
    have hlz := OwnB.len oz
    have hn3 : l5 = k.toNat + m.toNat := hn2.symm
    have hz' : ∀ j, j < k.toNat + m.toNat → co z j = if ms.getD j false = true then 0 else co bs j := fun j hj => by
      rw [hz j (by omega)]
      by_cases h2 : ms.getD j false = true
      · rw [if_pos ⟨by omega, h2⟩, if_pos h2]
      · rw [if_neg (fun h3 => h2 h3.2), if_neg h2]
    have hmle : (mis l5 ms).length ≤ l5 := by
      unfold mis
      exact Nat.le_trans (List.length_filter_le _ _) (by simp)
    have hkl : ((mis l5 ms).map pt).length = (mis l5 ms).length := List.length_map ..
    refine (synof_spec (hf.ext x26) (OwnB.bytes oz) (by omega) k m).mono ?_
    rintro e w51 ⟨x51, ⟨h, _⟩ | ⟨_, h, _⟩ | ⟨_, _, p53, c53, S, rfl, oS, hS⟩⟩
    · exact (h hk).elim
    · exact (h (by omega)).elim
    have x51' := x26.trans x51
    refine ⟨_, _, _, _, rfl, condB_of (fun hmany => ?_) (fun hmany => ?_)⟩
    · simp only [decide_eq_true_eq] at hmany
      refine ⟨x51', .inr (.inr ⟨hk, hc, hc5, .inl ⟨?_, rfl⟩⟩)⟩
      refine many_missing ?_
      rw [hn2]; omega
    simp only [decide_eq_false_iff_not] at hmany
    have okn51 := OwnB.ext okn x51
    refine (locator_spec (hf.ext x51') (OwnB.bytes okn51) (by omega)).mono ?_
    rintro e w55 ⟨p57, l57, c57, g, rfl, x55, og, ng, eg⟩
    have x55' := x51'.trans x55
    have lg := OwnB.len og
    have hdeg := loc_deg ((mis l5 ms).map pt)
    have htop := loc_top ((mis l5 ms).map pt)
    rw [hkl, ← eg] at hdeg htop
    have hgl : g.length = (mis l5 ms).length + 1 := by
      have h1 := ng.le hdeg
      have h2 : (mis l5 ms).length < g.length := Normal.pos (by rw [htop]; decide)
      omega
    have g0 : g ≠ [] := by rintro rfl; simp at hgl
    have oS55 := OwnB.ext oS x55
    refine ⟨_, _, _, rfl, (solve_spec (cm := c53) (hf.ext x55') (OwnB.bytes oS55) (OwnB.bytes og) (OwnB.le og) ng g0 (by omega) (by omega)).mono ?_⟩
    rintro e w58 ⟨v, rfl, x58, hsol⟩
    have x58' := x55'.trans x58
    have hlS := OwnB.len oS
    have hT : ∀ i, co S.reverse i = if i < m.toNat then syn k.toNat m.toNat z (m.toNat - 1 - i) else 0 := fun i => by
      by_cases hi : i < m.toNat
      · rw [if_pos hi, ← hS _ (by omega)]
        simp only [Gf.co, List.getD_eq_getElem?_getD]
        rw [List.getElem?_reverse (by omega), ← hlS]
      · rw [if_neg hi, co_out (by rw [List.length_reverse]; omega)]
    have hin : WordIn k.toNat m.toNat bs z ms S.reverse g (mulL g S.reverse) := ⟨by omega, hz', hT, by rw [hn2]; exact eg, ng, by rw [co_mulL]⟩
    rw [hgl, Nat.add_sub_cancel] at hsol
    rcases hsol with ⟨rfl, hno⟩ | ⟨pb, nb, cb, b, po, no, oc, o, rfl, ob, oo, lo4, hfound⟩
    · refine ⟨_, _, _, _, _, _, _, rfl, condB_of (fun _ => ?_) (fun h => by simp at h)⟩
      refine ⟨x58', .inr (.inr ⟨hk, hc, hc5, .inl ⟨?_, rfl⟩⟩)⟩
      refine hin.none ?_
      rw [hn2]; exact hno
    refine ⟨_, _, _, _, _, _, _, rfl, condB_of (fun h => by simp at h) fun _ => ?_⟩
    have lb := OwnB.len ob
    have lo := OwnB.len oo
    have hfew := hfound.few
    have og58 := OwnB.ext og x58
    refine (pmul_spec (hf.ext x58') (OwnB.bytes ob) (by omega) (OwnB.bytes og58) (by omega)).mono ?_
    rintro e w63 ⟨p65, l65, c65, full, rfl, x63, ofu, nfu, efu⟩
    have lfu := OwnB.len ofu
    have efu' : co full = act b (co g) := by rw [efu, act_co]
    have hfl : full.length + 1 = b.length + g.length := mul_len hfound.nb ng nfu hfound.b0 g0 efu'
    refine ⟨_, _, _, rfl, (pderiv_spec (OwnB.bytes ofu) (by omega)).mono ?_⟩
    rintro e w66 ⟨p68, l68, c68, slope, rfl, x66, osl, nsl, esl⟩
    have lsl := OwnB.len osl
    have hsl : slope.length ≤ 4096 := nsl.le (n := 4096) (by
      rw [esl]
      intro i hi
      unfold der
      split
      · exact co_out (by omega)
      · rfl)
    have hkolt : ko < w26.heap.size := OwnS.lt_heap oz
    have s51 : ko < w51.heap.size := Nat.lt_of_lt_of_le hkolt x51.size
    have s55 : ko < w55.heap.size := Nat.lt_of_lt_of_le s51 x55.size
    have s58 : ko < w58.heap.size := Nat.lt_of_lt_of_le s55 x58.size
    have s63 : ko < w63.heap.size := Nat.lt_of_lt_of_le s58 x63.size
    have ao := OwnB.away oo s55
    have afu := OwnB.away ofu s58
    have asl := OwnB.away osl s63
    have x66' := x58'.trans (x63.trans x66)
    have xr : Ext w26 w66 := x51.trans (x55.trans (x58.trans (x63.trans x66)))
    have e5866 : Ext w58 w66 := x63.trans x66
    have aW : Away p8 ko := OwnB.away2 oW' (OwnB.blk oz rfl)
    refine ⟨_, _, _, rfl, ⟨by omega, by omega, x66', ko, z, W', S.reverse, g, mulL g S.reverse, b, o, full, slope, z, rfl, hin, by rw [hn2]; exact hfound, nfu, efu', esl, OwnB.base_le (OwnB.ext oz xr) hx6'.size, hl12, OwnB.ext oW' (hx.trans xr), rfl, aW, hW',
      OwnB.base_le (OwnB.ext oo e5866) x55'.size, ao, by omega, OwnB.base_le (OwnB.ext ofu x66) x58'.size, afu, by omega, OwnB.base_le osl (x58'.trans x63).size, asl, by omega, fun j hj => by rw [if_neg (by omega)], OwnS.nil _ _ _ _, rfl⟩, ?_⟩
    rintro p85 l85 c85 rt i w88 ⟨hi0, hi1, hx88, ko', z1, W1, T1, g1, P1, b1, o1, full1, slope1, out, hko', hin1, hf1, nf1, ef1, es1, oout, _, oW1, _, aW1, hW1, oo1, ao1, lo1, ofu1, afu1, lfu1, osl1, asl1, lsl1, hout, owr, rfl⟩
    simp only [Option.some.injEq, at0, Addr.mk.injEq, and_true] at hko'
    subst hko'
    intros
    have lout := OwnB.len oout
    have lW1 := OwnB.len oW1
    refine condB_of (fun hs => ?_) (fun hs => ?_)
    · simp only [decide_eq_true_eq] at hs
      have e8 : IntKind.u8.wrap i = ((pt i.toNat).toNat : Int) := wrap8 i hi0
      rw [e8, w64 (n := i + 1) (by omega)]
      have hnx : (i + 1).toNat = i.toNat + 1 := by omega
      refine (peval_spec (hf.ext hx88) (OwnB.bytes ofu1) (by omega) _).mono ?_
      rintro e w140 ⟨rfl, x140⟩
      have x140' := hx88.trans x140
      have hmeas : ((l5 : Int) - (i + 1)).toNat < ((l5 : Int) - i).toNat := by omega
      refine ⟨_, rfl, condB_of (fun hz0 => ?_) (fun hz0 => ?_)⟩
      · simp only [Bool.not_eq_true', decide_eq_false_iff_not, vb_zero] at hz0
        refine ⟨⟨by omega, by omega, x140', ko, z1, W1, T1, g1, P1, b1, o1, full1, slope1, out, rfl, hin1, hf1, nf1, ef1, es1, OwnB.ext oout x140, hl12, OwnB.ext oW1 x140, rfl, aW1, hW1, OwnB.ext oo1 x140, ao1, lo1, OwnB.ext ofu1 x140, afu1, lfu1, OwnB.ext osl1 x140, asl1, lsl1, fun j hj => ?_, ?_, ?_⟩, hmeas⟩
        · rw [hout j hj]
          by_cases h1 : (j : Int) < i
          · rw [if_pos h1, if_pos (by omega)]
          · rw [if_neg h1]
            by_cases h2 : j = i.toNat
            · rw [if_pos (by omega), fixd, if_neg (by rw [h2]; exact hz0)]
            · rw [if_neg (by omega)]
        · rw [hnx, wrg_succ, decide_eq_false hz0]
          simpa using OwnS.ext owr x140
        · rw [hnx, zer_succ, decide_eq_false hz0]; simp
      · simp only [Bool.not_eq_false', decide_eq_true_eq, vb_zero] at hz0
        intro w143 hd
        have x143 : Ext w88 w143 := x140.trans hd.ext
        have x143' := hx88.trans x143
        obtain ⟨aw, rfl, haw⟩ := BytesAt.co (OwnB.bytes (OwnB.ext oW1 x143)) (i := i.toNat) (by omega)
        rw [Nat.mul_one]
        refine ⟨⟨hi0, by omega⟩, _, haw, (peval_spec (hf.ext x143') (OwnB.bytes (OwnB.ext oo1 x143)) (by omega) _).mono ?_⟩
        rintro e w146 ⟨rfl, x146⟩
        refine ⟨_, rfl, ⟨_, x146.cell haw id, rfl⟩, (peval_spec (hf.ext (x143'.trans x146)) (OwnB.bytes (OwnB.ext (OwnB.ext osl1 x143) x146)) (by omega) _).mono ?_⟩
        rintro e w150 ⟨rfl, x150⟩
        refine ⟨_, rfl, ⟨_, x150.cell (x146.cell haw id) id, rfl⟩, (fmul_spec (hf.ext ((x143'.trans x146).trans x150)) _ _).mono ?_⟩
        rintro e w154 ⟨rfl, x154⟩
        refine ⟨_, rfl, (fdiv_spec (hf.ext (((x143'.trans x146).trans x150).trans x154)) _ _).mono ?_⟩
        rintro e w157 ⟨rfl, x157⟩
        have xx : Ext w88 w157 := x143.trans (x146.trans (x150.trans (x154.trans x157)))
        have xx' := hx88.trans xx
        obtain ⟨k', hk', hb', hlive, hcell, hset⟩ := OwnB.at (OwnB.ext oout xx) (i := i.toNat) (by omega)
        simp only [Option.some.injEq, at0, Addr.mk.injEq, and_true] at hk'
        subst hk'
        refine ⟨_, _, rfl, ⟨hi0, by omega⟩, _, hcell, ⟨hi0, by omega⟩, hlive, fun w164 hs164 => ?_⟩
        rw [bx8] at hs164
        obtain ⟨oout', u164⟩ := hset _ _ hs164
        obtain ⟨csk, rowk⟩ := OwnB.row (OwnB.ext oout xx)
        have x164 : Ext w w164 := OwnB.new_ext xx' u164 fun y hy => by rw [show y = ko from hy]; exact hb'
        obtain ⟨ap, rfl, hap⟩ := (h5.ext x164).get (i := i.toNat) (by omega)
        have owr164 : OwnN w164 w.heap.size p85 l85 c85 (wrg i.toNat ms full1) := OwnS.other (OwnS.ext owr xx) u164 fun x hx => ⟨csk, _, (0, 0), by rw [show x = ko from hx]; exact rowk, fun h => ty_nb h.symm⟩
        have kp : ∀ {p : Option Addr} {n c : Nat} {bs : List UInt8}, OwnB w88 w.heap.size p n c bs → Away p ko → OwnB w164 w.heap.size p n c bs := fun o ha => OwnB.setk (OwnB.ext o xx) u164 ha
        have hout' : ∀ j : Nat, j < l5 → co (out.set i.toNat (co out i.toNat ^^^ gm (ev o1 (pt i.toNat)) (gi (gm (ev slope1 (pt i.toNat)) (co W1 i.toNat))))) j = if (j : Int) < i + 1 then fixd k.toNat m.toNat z1 full1 o1 slope1 j else co z1 j := fun j hj => by
          rw [co_set (by omega)]
          by_cases h2 : j = i.toNat
          · subst h2
            rw [if_pos rfl, if_pos (by omega), hout _ hj, if_neg (by omega), fixd, if_pos hz0, hW1 _ hj]
          · rw [if_neg h2, hout j hj]
            by_cases h1 : (j : Int) < i
            · rw [if_pos h1, if_pos (by omega)]
            · rw [if_neg h1, if_neg (by omega)]
        have hrt : IntKind.i64.wrap (((zer i.toNat full1).length : Int) + 1) = ((zer (i + 1).toNat full1).length : Int) := by
          have hzl : (zer i.toNat full1).length ≤ i.toNat := by
            unfold zer
            exact Nat.le_trans (List.length_filter_le _ _) (by simp)
          rw [w64 (by omega), hnx, zer_succ, decide_eq_true hz0]; simp
        rw [hrt]
        refine ⟨⟨hi0, by omega⟩, _, hap, condB_of (fun hm0 => ?_) (fun hm0 => ?_)⟩
        · have hm0' : ms.getD i.toNat false = false := by simpa using hm0
          intro k167 w168 h168
          have hwl : (wrg i.toNat ms full1).length ≤ i.toNat := by
            unfold wrg
            exact Nat.le_trans (List.length_filter_le _ _) (by simp)
          have lwr := OwnN.len owr164
          rw [show i = ((i.toNat : Nat) : Int) by omega] at h168
          obtain ⟨p170, c170, w169, hr, ow169, u169⟩ := OwnN.push owr164 h168 x164.size (by omega)
          have x169 : Ext w w169 := OwnB.new_ext x164 u169 fun y hy => OwnS.blk owr164 hy
          have kp2 : ∀ {p : Option Addr} {n c : Nat} {bs : List UInt8}, OwnB w88 w.heap.size p n c bs → Away p ko → OwnB w169 w.heap.size p n c bs := fun o ha => OwnB.other (kp o ha) u169 fun x hx => by
            obtain ⟨cs, e', fz, h7, h8⟩ := OwnS.typed owr164 hx
            exact ⟨cs, e', fz, h7, by rw [h8]; exact ty_nb⟩
          have oout2 := OwnB.other oout' u169 fun x hx => by
            obtain ⟨cs, e', fz, h7, h8⟩ := OwnS.typed owr164 hx
            exact ⟨cs, e', fz, h7, by rw [h8]; exact ty_nb⟩
          refine ⟨_, _, _, w169, hr, ⟨by omega, by omega, x169, ko, z1, W1, T1, g1, P1, b1, o1, full1, slope1, _, rfl, hin1, hf1, nf1, ef1, es1, oout2, hl12, kp2 oW1 aW1, rfl, aW1, hW1, kp2 oo1 ao1, ao1, lo1, kp2 ofu1 afu1, afu1, lfu1, kp2 osl1 asl1, asl1, lsl1, hout', ?_, rfl⟩, hmeas⟩
          rw [hnx, wrg_succ, decide_eq_true hz0, hm0']
          exact ow169
        · have hm0' : ms.getD i.toNat false = true := by simpa using hm0
          refine ⟨⟨by omega, by omega, x164, ko, z1, W1, T1, g1, P1, b1, o1, full1, slope1, _, rfl, hin1, hf1, nf1, ef1, es1, oout', hl12, kp oW1 aW1, rfl, aW1, hW1, kp oo1 ao1, ao1, lo1, kp ofu1 afu1, afu1, lfu1, kp osl1 asl1, asl1, lsl1, hout', ?_, rfl⟩, hmeas⟩
          rw [hnx, wrg_succ, hm0']
          simpa using owr164
    · simp only [decide_eq_false_iff_not] at hs
      obtain rfl : i = (l5 : Int) := by omega
      rw [Int.toNat_natCast] at owr ⊢
      have hout2 : ∀ j, j < k.toNat + m.toNat → co out j = fixd k.toNat m.toNat z1 full1 o1 slope1 j := fun j hj => by
        rw [hout j (by omega), if_pos (by omega)]
      have hlen : out.length = k.toNat + m.toNat := by omega
      have lfu := OwnB.len ofu1
      refine (synof_spec (hf.ext hx88) (OwnB.bytes oout) (by omega) k m).mono ?_
      rintro e w171 ⟨x171, ⟨h, _⟩ | ⟨_, h, _⟩ | ⟨_, _, p173, c173, S2, rfl, oS2, hS2⟩⟩
      · exact (h hk).elim
      · exact (h (by omega)).elim
      have x171' := hx88.trans x171
      have e9 : IntKind.i64.wrap (((l65 : Nat) : Int) - (1 : Int)) = (full1.length : Int) - 1 := by rw [w64 (by omega)]; omega
      rw [e9]
      have hzr : zer (k.toNat + m.toNat) full1 = zer l5 full1 := by rw [hn2]
      refine ⟨_, _, _, _, rfl, condB_of (fun hr => ?_) (fun hr => ?_)⟩
      · simp only [Bool.not_eq_true', decide_eq_false_iff_not] at hr
        refine ⟨x171', .inr (.inr ⟨hk, hc, hc5, .inl ⟨?_, rfl⟩⟩)⟩
        refine hin1.many hf1 nf1 ef1 es1 hlen hout2 fun hh => hr ?_
        have := hh.1
        rw [hzr] at this
        omega
      simp only [Bool.not_eq_false', decide_eq_true_eq] at hr
      have hr' : (zer (k.toNat + m.toNat) full1).length + 1 = full1.length := by rw [hzr]; omega
      have lS2 := OwnB.len oS2
      refine (anyz_spec (OwnB.bytes oS2) (by omega)).mono ?_
      rintro e w175 ⟨⟨bb, rfl, hbb⟩, rfl⟩
      refine ⟨_, rfl, condB_of (fun hany => ?_) (fun hany => ?_)⟩
      · obtain ⟨t, ht, hne⟩ := hbb.1 hany
        refine ⟨x171', .inr (.inr ⟨hk, hc, hc5, .inl ⟨?_, rfl⟩⟩)⟩
        refine hin1.many hf1 nf1 ef1 es1 hlen hout2 fun hh => hne ?_
        rw [hS2 t ht]
        exact hh.2 t ht
      · have hall : ∀ l, l < m.toNat → syn k.toNat m.toNat out l = 0 := fun l hl => by
          rw [← hS2 l hl]
          refine Decidable.byContradiction fun hne => ?_
          have := hbb.2 ⟨l, hl, hne⟩
          rw [hany] at this; cases this
        obtain ⟨h1, h2⟩ := hin1.ok hf1 nf1 ef1 es1 hlen hout2 hr' hall
        refine ⟨x171', .inr (.inr ⟨hk, hc, hc5, .inr ⟨out, h1, _, _, _, _, _, rfl, OwnB.ext oout x171, ?_⟩⟩)⟩
        rw [← h2, hn2]
        exact OwnS.ext owr x171
end Go.Proofs.Ytpmkjpgoekjcfaa

/- Shards: how long they are; rows of own bytes. -/
namespace Go.Proofs.Ytpmkjpgoekjcfaa
open Go Go.Vc Go.Gf

/-- shards that are there are all of one length, and one is there -/
def Sized (k m : Int) (l3 l4 : Nat) (hs : List Bool) (L : List (List UInt8)) (s : Nat) : Prop :=
  (l3 : Int) = k + m ∧ (l4 : Int) = k + m ∧ (∃ i, i < l3 ∧ hs.getD i false = true) ∧ ∀ i, i < l3 → hs.getD i false = true → (L.getD i []).length = s

theorem size_spec {p3 p4 : Option Addr} {l3 c3 l4 c4 : Nat} {w : World} {hs : List Bool} {L : List (List UInt8)} (h3 : FlagsAt w p3 l3 hs) (h4 : ListsAt w p4 l4 L) {k m : Int} (hk : kmOk k m) :
    Calls Try.prog 43 #[.int .i64 k, .int .i64 m, .slice p3 l3 c3, .slice p4 l4 c4] w fun e w' => (∃ r : Int, e = .returned (.int .i64 r) ∧ ((r = -1 ∧ ∀ s, ¬ Sized k m l3 l4 hs L s) ∨ 0 ≤ r ∧ Sized k m l3 l4 hs L r.toNat)) ∧ w' = w := by
  obtain ⟨a1, a2, a3, a4⟩ := hk
  refine (F43_calls k m p3 l3 c3 p4 l4 c4 w (fun v w' => (∃ r : Int, v = .int .i64 r ∧ ((r = -1 ∧ ∀ s, ¬ Sized k m l3 l4 hs L s) ∨ 0 ≤ r ∧ Sized k m l3 l4 hs L r.toNat)) ∧ w' = w)
    (fun _ _ _ _ _ n i w1 => 0 ≤ i ∧ i ≤ l3 ∧ w1 = w ∧ ((n = -1 ∧ ∀ j : Nat, (j : Int) < i → hs.getD j false = false) ∨ (0 ≤ n ∧ (∃ j : Nat, (j : Int) < i ∧ hs.getD j false = true) ∧ ∀ j : Nat, (j : Int) < i → hs.getD j false = true → ((L.getD j []).length : Int) = n)))
    (fun _ _ _ _ _ _ i _ => (l3 - i).toNat) ?_).mono (by rintro e w' ⟨v, rfl, ⟨r, rfl, h⟩, hw⟩; exact ⟨⟨r, rfl, h⟩, hw⟩)
  unfold F43
  rw [w64 (n := k + m) (by omega)]
  refine condB_of (fun h => ?_) fun h => condB_of (fun h2 => ?_) fun h2 => ?_
  · simp only [Bool.not_eq_true', decide_eq_false_iff_not] at h
    exact ⟨⟨-1, rfl, .inl ⟨rfl, fun s hs => h hs.1⟩⟩, rfl⟩
  · simp only [Bool.not_eq_true', decide_eq_false_iff_not] at h2
    exact ⟨⟨-1, rfl, .inl ⟨rfl, fun s hs => h2 hs.2.1⟩⟩, rfl⟩
  simp only [Bool.not_eq_false', decide_eq_true_eq] at h h2
  refine ⟨⟨by omega, by omega, rfl, .inl ⟨rfl, fun j hj => by omega⟩⟩, ?_⟩
  rintro n i w1 ⟨hi0, hi1, rfl, hn⟩
  intros
  refine condB_of (fun hs' => ?_) (fun hs' => ?_)
  · simp only [decide_eq_true_eq] at hs'
    obtain ⟨a, rfl, ha⟩ := h3.get (i := i.toNat) (by omega)
    obtain ⟨b, q, ln, cn, rfl, hcell, hq, hqc⟩ := h4.2 i.toNat (by omega)
    have hql := hq.1
    have hmeas : ((l3 : Int) - (i + 1)).toNat < ((l3 : Int) - i).toNat := by omega
    have hnx : IntKind.i64.wrap (i + 1) = i + 1 := w64 (by omega)
    refine ⟨⟨hi0, hs'⟩, _, by rw [Nat.mul_one]; exact ha, ?_⟩
    unfold F43_A0
    rw [hnx]
    have go : (∀ j : Nat, (j : Int) < i → hs.getD j false = true → ((L.getD j []).length : Int) = (ln : Int)) → hs.getD i.toNat false = true →
        ((0 ≤ i ∧ i < ((l4 : Nat) : Int)) ∧ nilM (some b) fun a44 => ∃ (p45 : Option Addr) (l45 c45 : Nat), w1.cell? (a44.add (i.toNat * 1)) = some (.slice p45 l45 c45) ∧
          ((0 ≤ i + 1 ∧ i + 1 ≤ l3 ∧ w1 = w1 ∧ (((l45 : Int) = -1 ∧ ∀ j : Nat, (j : Int) < i + 1 → hs.getD j false = false) ∨ (0 ≤ (l45 : Int) ∧ (∃ j : Nat, (j : Int) < i + 1 ∧ hs.getD j false = true) ∧ ∀ j : Nat, (j : Int) < i + 1 → hs.getD j false = true → ((L.getD j []).length : Int) = l45))) ∧
            ((l3 : Int) - (i + 1)).toNat < ((l3 : Int) - i).toNat)) := by
      intro hall hb
      refine ⟨⟨hi0, by omega⟩, q, ln, cn, by rw [Nat.mul_one]; exact hcell, ⟨by omega, by omega, rfl, .inr ⟨by omega, ⟨i.toNat, by omega, hb⟩, fun j hj hj2 => ?_⟩⟩, hmeas⟩
      by_cases hji : (j : Int) < i
      · exact hall j hji hj2
      · rw [show j = i.toNat by omega, ← hql]
    refine condB_of (fun hb => ?_) (fun hb => ?_)
    · refine condB_of (fun hn0 => ?_) (fun hn0 => ?_)
      · simp only [decide_eq_true_eq] at hn0
        rcases hn with ⟨hn, _⟩ | ⟨_, hex, hall⟩
        · omega
        · refine ⟨⟨hi0, by omega⟩, q, ln, cn, by rw [Nat.mul_one]; exact hcell, condB_of (fun hne => ?_) (fun hne => ?_)⟩
          · simp only [Bool.not_eq_true', decide_eq_false_iff_not] at hne
            refine ⟨⟨-1, rfl, .inl ⟨rfl, fun s hsz => ?_⟩⟩, rfl⟩
            obtain ⟨j, hj, hj2⟩ := hex
            have h5 := hsz.2.2.2 j (by omega) hj2
            have h6 := hsz.2.2.2 i.toNat (by omega) hb
            have h7 := hall j hj hj2
            omega
          · simp only [Bool.not_eq_false', decide_eq_true_eq] at hne
            rw [hb]
            exact go (fun j hj hj2 => by rw [hall j hj hj2, hne]) hb
      · simp only [decide_eq_false_iff_not] at hn0
        rcases hn with ⟨_, hno⟩ | ⟨hn, _⟩
        · rw [hb]
          exact go (fun j hj hj2 => by rw [hno j hj] at hj2; cases hj2) hb
        · omega
    · have hb : hs.getD i.toNat false = false := hb
      rw [hb]
      refine ⟨⟨by omega, by omega, rfl, ?_⟩, hmeas⟩
      rcases hn with ⟨rfl, hno⟩ | ⟨hn, ⟨j, hj, hj2⟩, hall⟩
      · refine .inl ⟨rfl, fun j hj => ?_⟩
        by_cases hji : (j : Int) < i
        · exact hno j hji
        · rw [show j = i.toNat by omega]; exact hb
      · refine .inr ⟨hn, ⟨j, by omega, hj2⟩, fun j hj hj2 => ?_⟩
        by_cases hji : (j : Int) < i
        · exact hall j hji hj2
        · rw [show j = i.toNat by omega, hb] at hj2; cases hj2
  · simp only [decide_eq_false_iff_not] at hs'
    refine ⟨⟨n, rfl, ?_⟩, rfl⟩
    rcases hn with ⟨rfl, hno⟩ | ⟨hn, ⟨j, hj, hj2⟩, hall⟩
    · refine .inl ⟨rfl, fun s hsz => ?_⟩
      obtain ⟨j, hj, hj2⟩ := hsz.2.2.1
      rw [hno j (by omega)] at hj2; cases hj2
    · exact .inr ⟨hn, h, h2, ⟨j, by omega, hj2⟩, fun j hj hj2 => by have := hall j (by omega) hj2; omega⟩

/-! ## a row of slices, each with a row of its own -/
structure OutAt (w : World) (base k n : Nat) (L : Nat → List UInt8) : Prop where
  row : ∃ cs, RowK w k 22 cs ∧ cs.size = n
  le : base ≤ k
  own : ∃ P : Nat → Option Addr × Nat × Nat, (∀ i, i < n → w.cell? ((at0 k).add i) = some (.slice (P i).1 (P i).2.1 (P i).2.2) ∧ OwnB w base (P i).1 (P i).2.1 (P i).2.2 (L i)) ∧
    ∀ i j, i < n → j < n → i ≠ j → ∀ g, (P i).1 = some (at0 g) → (P j).1 ≠ some (at0 g)
section
variable {w w' : World} {base k n : Nat} {L : Nat → List UInt8}
theorem OutAt.ext (h : OutAt w base k n L) (hu : Ext w w') : OutAt w' base k n L := by
  obtain ⟨cs, h1, h2⟩ := h.row
  obtain ⟨P, h3, h4⟩ := h.own
  exact ⟨⟨cs, hu.keep h1, h2⟩, h.le, P, fun i hi => ⟨hu.cell (h3 i hi).1 id, OwnB.ext (h3 i hi).2 hu⟩, h4⟩
theorem OutAt.base_le {b : Nat} (h : OutAt w base k n L) (hb : b ≤ base) : OutAt w b k n L := by
  obtain ⟨P, h3, h4⟩ := h.own
  exact ⟨h.row, Nat.le_trans hb h.le, P, fun i hi => ⟨(h3 i hi).1, OwnB.base_le (h3 i hi).2 hb⟩, h4⟩
theorem OutAt.congr {L' : Nat → List UInt8} (h : OutAt w base k n L) (hL : ∀ i, i < n → L' i = L i) : OutAt w base k n L' := by
  obtain ⟨P, h3, h4⟩ := h.own
  exact ⟨h.row, h.le, P, fun i hi => ⟨(h3 i hi).1, by rw [hL i hi]; exact (h3 i hi).2⟩, h4⟩
/-- where rows of other types are written it stays -/
theorem OutAt.other {S : Nat → Prop} (h : OutAt w base k n L) (hu : Upd S w w') (hS : ∀ x, S x → ∃ (cs : Array Value) (e : TypeId) (fz : Nat × Nat), w.heap[x]? = some (Obj.cells cs e fz) ∧ e ≠ 5 ∧ e ≠ 22) : OutAt w' base k n L := by
  obtain ⟨cs, h1, h2⟩ := h.row
  obtain ⟨P, h3, h4⟩ := h.own
  have hk : ¬ S k := fun hs => by
    obtain ⟨cs', e, fz, h5, _, h6⟩ := hS k hs
    unfold RowK at h1
    rw [h1] at h5
    cases h5
    exact h6 rfl
  refine ⟨⟨cs, hu.keep h1 hk, h2⟩, h.le, P, fun i hi => ⟨hu.cell (h3 i hi).1 (by rw [add_block]; exact hk), OwnB.other (h3 i hi).2 hu fun x hx => ?_⟩, h4⟩
  obtain ⟨cs', e, fz, h5, h6, _⟩ := hS x hx
  exact ⟨cs', e, fz, h5, h6⟩
theorem OutAt.lists (h : OutAt w base k n L) : ListsAt w (some (at0 k)) n ((List.range n).map L) := by
  obtain ⟨P, h3, h4⟩ := h.own
  refine ⟨by simp, fun i hi => ⟨_, _, _, _, rfl, (h3 i hi).1, ?_, OwnB.le (h3 i hi).2⟩⟩
  have : ((List.range n).map L).getD i [] = L i := by simp [List.getD_eq_getElem?_getD, hi]
  rw [this]
  exact OwnB.bytes (h3 i hi).2
end
end Go.Proofs.Ytpmkjpgoekjcfaa

/- A place of shards is put right. -/
namespace Go.Proofs.Ytpmkjpgoekjcfaa
open Go Go.Vc Go.Gf

structure ShSt (w0 w : World) (k m : Int) (n : Nat) (f ph psh : Option Addr) (lh ch lsh csh k6 k8 k10 k12 k14 k33 k36 k42 k31 k40 : Nat) (Lf : Nat → List UInt8) (wr : List Nat) : Prop where
  ext : Ext w0 w
  n36 : w0.heap.size ≤ k36
  n40 : w0.heap.size ≤ k40
  r6 : RowK w k6 25 #[.pointer f]
  r8 : RowK w k8 3 #[.int .i64 k]
  r10 : RowK w k10 3 #[.int .i64 m]
  r12 : RowK w k12 23 #[.slice ph lh ch]
  r14 : RowK w k14 36 #[.slice psh lsh csh]
  r33 : RowK w k33 36 #[.slice (some (at0 k31)) n n]
  r42 : RowK w k42 23 #[.slice (some (at0 k40)) n n]
  ne : k12 ≠ k42 ∧ k14 ≠ k33
  r36 : ∃ p nw c b, w0.heap.size ≤ b ∧ b ≤ w.heap.size ∧ k8 < b ∧ k10 < b ∧ RowK w k36 28 #[.slice p nw c] ∧ OwnN w b p nw c wr
  out : OutAt w w0.heap.size k31 n Lf
  mrow : ∃ cs, RowK w k40 4 cs ∧ cs.size = n
/-- the byte of each shard at a place -/
def wordAt (n : Nat) (hs : List Bool) (L : List (List UInt8)) (i : Nat) : List UInt8 := (List.range n).map fun j => if hs.getD j false = true then co (L.getD j []) i else 0
def nots (hs : List Bool) : List Bool := hs.map fun b => !b
theorem nots_get {hs : List Bool} {i : Nat} (h : i < hs.length) : (nots hs).getD i false = !hs.getD i false := by simp [nots, List.getD_eq_getElem?_getD, h]
theorem co_wordAt {n : Nat} {hs : List Bool} {L : List (List UInt8)} {i j : Nat} (hj : j < n) : co (wordAt n hs L i) j = if hs.getD j false = true then co (L.getD j []) i else 0 := by
  simp [Gf.co, wordAt, List.getD_eq_getElem?_getD, hj]
theorem wordAt_len (n : Nat) (hs : List Bool) (L : List (List UInt8)) (i : Nat) : (wordAt n hs L i).length = n := by simp [wordAt]
theorem ty_all : 4 ≠ 5 ∧ 4 ≠ 22 ∧ 4 ≠ 25 ∧ 4 ≠ 3 ∧ 4 ≠ 23 ∧ 4 ≠ 36 ∧ 4 ≠ 28 := by decide
theorem ty_out : 5 ≠ 22 ∧ 5 ≠ 25 ∧ 5 ≠ 3 ∧ 5 ≠ 23 ∧ 5 ≠ 36 ∧ 5 ≠ 28 ∧ 5 ≠ 4 := by decide
theorem ty_row : 22 ≠ 25 ∧ 22 ≠ 3 ∧ 22 ≠ 23 ∧ 22 ≠ 36 ∧ 22 ≠ 28 ∧ 22 ≠ 4 := by decide
theorem ty_int : 3 ≠ 25 ∧ 3 ≠ 22 ∧ 3 ≠ 23 ∧ 3 ≠ 36 ∧ 3 ≠ 28 ∧ 3 ≠ 4 := by decide
theorem ty_ints : 28 ≠ 25 ∧ 28 ≠ 22 ∧ 28 ≠ 23 ∧ 28 ≠ 36 ∧ 28 ≠ 3 ∧ 28 ≠ 4 ∧ 28 ≠ 5 := by decide
theorem RowK.keep {w w' : World} {k : Nat} {e : TypeId} {cs : Array Value} {S : Nat → Prop} (h : RowK w k e cs) (hu : Upd S w w') (hS : ∀ x, S x → ∃ (cs : Array Value) (e' : TypeId) (fz : Nat × Nat), w.heap[x]? = some (Obj.cells cs e' fz) ∧ e' ≠ e) : RowK w' k e cs :=
  hu.keep h fun hs => by
    obtain ⟨cs', e', fz, h1, h2⟩ := hS k hs
    unfold RowK at h
    rw [h] at h1
    cases h1
    exact h2 rfl

theorem rowk_cell {w : World} {k : Nat} {e : TypeId} {cs : Array Value} (h : RowK w k e cs) (t : Nat) : w.cell? ((at0 k).add t) = cs[t]? := by
  rw [add_at0]
  unfold RowK at h
  simp [World.cell?, h]
theorem own_same {w : World} {b b' : Nat} {e : TypeId} {sz : Nat} {p : Option Addr} {n c : Nat} {us vs : List Value} (h : OwnS w b e sz p n c us) (h' : OwnS w b' e sz p n c vs) : us = vs := by
  refine List.ext_getElem (by rw [h.length, h'.length]) fun i hi hj => ?_
  obtain ⟨a, ha, h1⟩ := OwnS.cells h i us[i] (by simp)
  obtain ⟨a', ha', h2⟩ := OwnS.cells h' i vs[i] (by simp)
  rw [ha] at ha'
  cases ha'
  rw [h1] at h2
  exact Option.some.inj h2
theorem encB_inj {xs ys : List UInt8} (h : encB xs = encB ys) : xs = ys := by
  refine co_ext (by have := congrArg List.length h; simpa [encB_length] using this) fun i hi => ?_
  have hl : xs.length = ys.length := by have := congrArg List.length h; simpa [encB_length] using this
  have h1 := congrArg (fun l => l[i]?) h
  simp only [encB, List.getElem?_map, List.getElem?_eq_getElem hi, List.getElem?_eq_getElem (show i < ys.length by omega), Option.map_some, Option.some.injEq, Value.int.injEq, true_and] at h1
  simp only [Gf.co, List.getD_eq_getElem?_getD, List.getElem?_eq_getElem hi, List.getElem?_eq_getElem (show i < ys.length by omega), Option.getD_some]
  exact vb_inj.1 h1
theorem encN_inj {xs ys : List Nat} (h : encN xs = encN ys) : xs = ys := by
  have hl : xs.length = ys.length := by have := congrArg List.length h; simpa [encN_length] using this
  refine List.ext_getElem hl fun i hi hj => ?_
  have h1 := congrArg (fun l => l[i]?) h
  simp only [encN, List.getElem?_map, List.getElem?_eq_getElem hi, List.getElem?_eq_getElem hj, Option.map_some, Option.some.injEq, Value.int.injEq, true_and] at h1
  omega

/-- while the bytes of a place are read -/
def ReadI (w : World) (n : Nat) (hs : List Bool) (L : List (List UInt8)) (x k40 : Nat) (q : Option Addr) (i : Int) (w1 : World) : Prop :=
  0 ≤ i ∧ i ≤ n ∧ Upd (fun y => y = k40) w w1 ∧ ∃ kw z, q = some (at0 kw) ∧ OwnB w1 w.heap.size q n n z ∧ (∀ j : Nat, j < n → co z j = if (j : Int) < i ∧ hs.getD j false = true then co (L.getD j []) x else 0) ∧
    ∃ cs, RowK w1 k40 4 cs ∧ cs.size = n ∧ ∀ j : Nat, (j : Int) < i → cs[j]? = some (.bool (!hs.getD j false))
/-- while the bytes that were put right are told -/
def TellI (w0 w30 w69 : World) (n : Nat) (k8 k10 k33 k36 k31 : Nat) (Lf : Nat → List UInt8) (wr : List Nat) (p71 : Option Addr) (l71 c71 : Nat) (c : List UInt8) (p72 : Option Addr) (l72 c72 : Nat) (d : List Nat) (i : Int) (w1 : World) : Prop :=
  0 ≤ i ∧ i ≤ l71 ∧ l71 ≤ n ∧ Ext w0 w1 ∧ RowK w1 k33 36 #[.slice (some (at0 k31)) n n] ∧ (∃ p nw cw b, w0.heap.size ≤ b ∧ b ≤ w1.heap.size ∧ k8 < b ∧ k10 < b ∧ RowK w1 k36 28 #[.slice p nw cw] ∧ OwnN w1 b p nw cw wr) ∧ OwnB w1 w30.heap.size p71 l71 c71 c ∧ OwnN w1 w30.heap.size p72 l72 c72 d ∧
    (∀ (k' : Nat) (e : TypeId) (cs : Array Value), e ≠ 5 → e ≠ 22 → RowK w69 k' e cs → RowK w1 k' e cs) ∧
    w30.heap.size ≤ w1.heap.size ∧ (∃ cs, RowK w1 k31 22 cs ∧ cs.size = n) ∧ w0.heap.size ≤ k31 ∧ ∃ P : Nat → Option Addr × Nat × Nat,
      (∀ t, t < n → w1.cell? ((at0 k31).add t) = some (.slice (P t).1 (P t).2.1 (P t).2.2) ∧ OwnB w1 w0.heap.size (P t).1 (P t).2.1 (P t).2.2 (if (t : Int) < i then Lf t ++ [co c t] else Lf t)) ∧
      (∀ s t, s < n → t < n → s ≠ t → ∀ g, (P s).1 = some (at0 g) → (P t).1 ≠ some (at0 g)) ∧ ∀ t : Nat, i ≤ (t : Int) → t < n → ∀ g, (P t).1 = some (at0 g) → g < w30.heap.size

set_option maxHeartbeats 8000000 in
theorem right_spec {w0 w : World} {k m : Int} {n : Nat} {f ph psh : Option Addr} {lh ch lsh csh k6 k8 k10 k12 k14 k33 k36 k42 k31 k40 : Nat} {Lf : Nat → List UInt8} {wr : List Nat} {hs : List Bool} {L : List (List UInt8)} {s x : Nat}
    (hf : FieldAt w0 f) (hh : FlagsAt w0 ph lh hs) (hsh : ListsAt w0 psh lsh L) (hk : kmOk k m) (hn : (n : Int) = k + m) (hsz : Sized k m lh lsh hs L s) (hx : x < s) (bs : s ≤ 1048576) (hLf : ∀ t, t < n → (Lf t).length ≤ x) (hwr : wr.length ≤ 256 * x)
    (st : ShSt w0 w k m n f ph psh lh ch lsh csh k6 k8 k10 k12 k14 k33 k36 k42 k31 k40 Lf wr) :
    Calls Try.prog 44 #[.int .i64 (x : Int), .pointer (some (at0 k8)), .pointer (some (at0 k10)), .pointer (some (at0 k12)), .pointer (some (at0 k42)), .pointer (some (at0 k14)), .pointer (some (at0 k6)), .pointer (some (at0 k33)), .pointer (some (at0 k36))] w fun e w' =>
      Ext w0 w' ∧ ((decM k.toNat m.toNat (wordAt n hs L x) (nots hs) = none ∧ e = .returned (.int .i64 100)) ∨
        ∃ c, decM k.toNat m.toNat (wordAt n hs L x) (nots hs) = some c ∧ e = .returned (.int .i64 0) ∧
          ShSt w0 w' k m n f ph psh lh ch lsh csh k6 k8 k10 k12 k14 k33 k36 k42 k31 k40 (fun t => Lf t ++ [co c t]) (wr ++ dif (k.toNat + m.toNat) (nots hs) c (wordAt n hs L x))) := by
  obtain ⟨a1, a2, a3, a4⟩ := hk
  have hk : kmOk k m := ⟨a1, a2, a3, a4⟩
  have hlh := hh.1
  have hz1 := hsz.1
  have hz2 := hsz.2.1
  have hn2 : k.toNat + m.toNat = n := by omega
  refine (F44_calls x (at0 k8) (at0 k10) (at0 k12) (at0 k42) (at0 k14) (at0 k6) (at0 k33) (at0 k36) w (fun v w' => Ext w0 w' ∧ ((decM k.toNat m.toNat (wordAt n hs L x) (nots hs) = none ∧ v = .int .i64 100) ∨
        ∃ c, decM k.toNat m.toNat (wordAt n hs L x) (nots hs) = some c ∧ v = .int .i64 0 ∧
          ShSt w0 w' k m n f ph psh lh ch lsh csh k6 k8 k10 k12 k14 k33 k36 k42 k31 k40 (fun t => Lf t ++ [co c t]) (wr ++ dif (k.toNat + m.toNat) (nots hs) c (wordAt n hs L x))))
    (fun _ _ _ _ _ _ _ q _ _ _ _ _ _ _ i w1 => ReadI w n hs L x k40 q i w1) (fun _ _ _ _ _ _ _ _ _ _ _ _ _ _ _ i _ => (n - i).toNat)
    (fun _ _ p72 l72 c72 _ p71 l71 c71 _ w69 i w1 => ∃ w30 c d, OwnB w69 w30.heap.size p71 l71 c71 c ∧ OwnN w69 w30.heap.size p72 l72 c72 d ∧ TellI w0 w30 w69 n k8 k10 k33 k36 k31 Lf wr p71 l71 c71 c p72 l72 c72 d i w1) (fun _ _ _ _ _ _ _ l71 _ _ _ i _ => (l71 - i).toNat) ?_).mono (by
    rintro e w' ⟨v, rfl, hx, ⟨h, rfl⟩ | ⟨c, h, rfl, h2⟩⟩
    · exact ⟨hx, .inl ⟨h, rfl⟩⟩
    · exact ⟨hx, .inr ⟨c, h, rfl, h2⟩⟩)
  refine ⟨_, st.r8.cell, _, st.r10.cell, ?_⟩
  rw [w64 (n := k + m) (by omega)]
  have hkm : (k + m).toNat = n := by omega
  rw [hkm]
  refine ⟨⟨by omega, by omega, by omega⟩, fun k12' w13 h13 => ?_⟩
  have z13 : OwnB w13 w.heap.size (some (at0 k12')) n n (List.replicate n 0) := OwnB.made h13 (by rw [h13.size.1]; exact Nat.le_refl _) (by unfold maxLen; omega)
  obtain ⟨csm, hcsm, hcsl⟩ := st.mrow
  refine ⟨_, _, _, RowK.cell (h13.ext.keep st.r12), ⟨by omega, by omega, h13.ext.upd, k12', _, rfl, z13, fun j hj => by rw [if_neg (by omega)]; exact rep_co _ _, csm, h13.ext.keep hcsm, hcsl, fun j hj => by omega⟩, ?_⟩
  rintro i w30 ⟨hi0, hi1, hu, kw, z, hkw, oz, hz, cs, rm, hcs, hflags⟩
  simp only [Option.some.injEq, at0, Addr.mk.injEq, and_true] at hkw
  subst hkw
  intros
  have bw : ∀ y, y = k40 → ∃ (cs : Array Value) (e' : TypeId) (fz : Nat × Nat), w.heap[y]? = some (Obj.cells cs e' fz) ∧ e' = 4 := fun y hy => ⟨csm, _, (0, 0), by rw [hy]; exact hcsm, rfl⟩
  have kp : ∀ {k' : Nat} {e : TypeId} {cs : Array Value}, RowK w k' e cs → 4 ≠ e → RowK w30 k' e cs := fun h he => RowK.keep h hu fun y hy => by
    obtain ⟨a, b, c, d, e⟩ := bw y hy
    exact ⟨a, b, c, d, by rw [e]; exact he⟩
  have x30 : Ext w0 w30 := OwnB.new_ext st.ext hu fun y hy => by rw [hy]; exact st.n40
  have r42 := kp st.r42 ty_all.2.2.2.2.1
  have r14 := kp st.r14 ty_all.2.2.2.2.2.1
  refine condB_of (fun hs' => ?_) (fun hs' => ?_)
  · -- a shard's byte is read
    simp only [decide_eq_true_eq] at hs'
    obtain ⟨a, rfl, ha⟩ := (hh.ext x30).get (i := i.toNat) (by omega)
    have lm : Live w30 ((at0 k40).add i.toNat) := RowW.live ⟨_, rm⟩ (by omega)
    refine ⟨⟨hi0, hs'⟩, _, by rw [Nat.mul_one]; exact ha, _, _, _, r42.cell, ⟨hi0, by omega⟩, ?_⟩
    show Live w30 ((at0 k40).add (i.toNat * 1)) ∧ _
    rw [Nat.mul_one]
    refine ⟨lm, fun w58 s58 => ?_⟩
    have rm58 : RowK w58 k40 4 (cs.setIfInBounds i.toNat (.bool (!hs.getD i.toNat false))) := by
      have s58' := s58
      rw [add_at0] at s58'
      exact s58'.at rm rfl
    have u58 : Upd (fun y => y = k40) w30 w58 := by
      have := s58.upd
      rw [add_block] at this
      exact this
    have bw30 : ∀ y, y = k40 → ∃ (cs : Array Value) (e' : TypeId) (fz : Nat × Nat), w30.heap[y]? = some (Obj.cells cs e' fz) ∧ e' = 4 := fun y hy => ⟨cs, _, (0, 0), by rw [hy]; exact rm, rfl⟩
    have oz58 : OwnB w58 w.heap.size (some (at0 k12')) n n z := OwnB.other oz u58 fun y hy => by
      obtain ⟨a, b, c, d, e⟩ := bw30 y hy
      exact ⟨a, b, c, d, by rw [e]; exact ty_all.1⟩
    have r14' : RowK w58 k14 36 #[.slice psh lsh csh] := RowK.keep r14 u58 fun y hy => by
      obtain ⟨a, b, c, d, e⟩ := bw30 y hy
      exact ⟨a, b, c, d, by rw [e]; exact ty_all.2.2.2.2.2.1⟩
    have x58 : Ext w0 w58 := OwnB.new_ext x30 u58 fun y hy => by rw [hy]; exact st.n40
    have hu58 : Upd (fun y => y = k40) w w58 := Upd.trans hu u58 fun _ _ h => h
    have hmeas : ((n : Int) - (i + 1)).toNat < ((n : Int) - i).toNat := by omega
    have hflags' : ∀ j : Nat, (j : Int) < i + 1 → (cs.setIfInBounds i.toNat (.bool (!hs.getD i.toNat false)))[j]? = some (.bool (!hs.getD j false)) := fun j hj => by
      rw [Array.getElem?_setIfInBounds]
      by_cases h1 : j = i.toNat
      · subst h1
        rw [if_pos rfl, if_pos (by omega)]
      · rw [if_neg (fun e => h1 e.symm)]
        exact hflags j (by omega)
    unfold F44_A0
    rw [w64 (n := i + 1) (by omega)]
    refine condB_of (fun hb => ?_) (fun hb => ?_)
    · obtain ⟨b, q, ln, cn, rfl, hcell, hq, hqc⟩ := (hsh.ext x58).2 i.toNat (by omega)
      have hql := hq.1
      have hlen := hsz.2.2.2 i.toNat (by omega) hb
      obtain ⟨a2, rfl, hbyte⟩ := BytesAt.co hq (i := x) (by omega)
      obtain ⟨k', hk', hb', hlive, _, hset⟩ := OwnB.at oz58 (i := i.toNat) (by omega)
      simp only [Option.some.injEq, at0, Addr.mk.injEq, and_true] at hk'
      subst hk'
      simp only [Nat.mul_one]
      refine ⟨_, _, _, r14'.cell, ⟨hi0, by omega⟩, _, _, _, hcell, ⟨by omega, by omega⟩, _, by rw [Int.toNat_natCast]; exact hbyte, ⟨hi0, by omega⟩, hlive, fun w64' hs64 => ?_⟩
      obtain ⟨oz64, u64⟩ := hset _ _ hs64
      have hne : k40 ≠ k12' := fun e => by
        obtain ⟨csz, hrz⟩ := OwnB.row oz58
        rw [← e] at hrz
        unfold RowK at rm58 hrz
        rw [rm58] at hrz
        cases hrz
      have hlz := OwnB.len oz
      refine ⟨⟨by omega, by omega, ?_, k12', _, rfl, oz64, fun j hj => ?_, _, u64.keep rm58 hne, by simp [hcs], hflags'⟩, hmeas⟩
      · exact Upd.trans hu58 u64 fun y hy he => by
          have : y = k12' := he
          omega
      · rw [co_set (by omega), hz j hj]
        by_cases h1 : j = i.toNat
        · subst h1
          rw [if_pos rfl, if_pos ⟨by omega, hb⟩]
        · rw [if_neg h1]
          by_cases h2 : (j : Int) < i ∧ hs.getD j false = true
          · rw [if_pos h2, if_pos ⟨by omega, h2.2⟩]
          · rw [if_neg h2, if_neg (fun h3 => h2 ⟨by omega, h3.2⟩)]
    · have hb : hs.getD i.toNat false = false := hb
      refine ⟨⟨by omega, by omega, hu58, k12', z, rfl, oz58, fun j hj => ?_, _, rm58, by simp [hcs], hflags'⟩, hmeas⟩
      rw [hz j hj]
      by_cases h1 : j = i.toNat
      · subst h1
        rw [hb, if_neg (by simp), if_neg (by simp)]
      · by_cases h2 : (j : Int) < i ∧ hs.getD j false = true
        · rw [if_pos h2, if_pos ⟨by omega, h2.2⟩]
        · rw [if_neg h2, if_neg (fun h3 => h2 ⟨by omega, h3.2⟩)]
  · simp only [decide_eq_false_iff_not] at hs'
    obtain rfl : i = (n : Int) := by omega
    have hzw : z = wordAt n hs L x := by
      refine co_ext (by rw [wordAt_len]; exact (OwnB.len oz).symm) fun j hj => ?_
      have hj' : j < n := by rw [OwnB.len oz]; exact hj
      rw [hz j hj', co_wordAt hj']
      by_cases h2 : hs.getD j false = true
      · rw [if_pos ⟨by omega, h2⟩, if_pos h2]
      · rw [if_neg (fun h3 => h2 h3.2), if_neg h2]
    subst hzw
    have hfl : FlagsAt w30 (some (at0 k40)) n (nots hs) := by
      refine ⟨by rw [nots, List.length_map]; omega, fun j u hj => ⟨_, rfl, Row.cell ⟨_, _, rm⟩ ?_⟩⟩
      have hj' : j < hs.length := by
        have := (List.getElem?_eq_some_iff.1 hj).1
        simpa [nots] using this
      have h2 := hflags j (by omega)
      rw [h2]
      simp only [nots, List.map_map, List.getElem?_map, List.getElem?_eq_getElem hj'] at hj
      simp only [List.getD_eq_getElem?_getD, List.getElem?_eq_getElem hj', Option.getD_some]
      simpa using hj
    have r6 := kp st.r6 ty_all.2.2.1
    have r8 := kp st.r8 ty_all.2.2.2.1
    have r10 := kp st.r10 ty_all.2.2.2.1
    have r12 := kp st.r12 ty_all.2.2.2.2.1
    have r33 := kp st.r33 ty_all.2.2.2.2.2.1
    obtain ⟨p36, n36, c36, b36, hb0, hb1, hb8, hb10, hr36, ow36⟩ := st.r36
    have r36 := kp hr36 ty_all.2.2.2.2.2.2
    have bt : ∀ {e : TypeId}, 4 ≠ e → ∀ y, y = k40 → ∃ (cs : Array Value) (e' : TypeId) (fz : Nat × Nat), w.heap[y]? = some (Obj.cells cs e' fz) ∧ e' ≠ e := fun he y hy => by
      obtain ⟨a, b, c, d, e⟩ := bw y hy
      exact ⟨a, b, c, d, by rw [e]; exact he⟩
    have hb1 : b36 ≤ w30.heap.size := Nat.le_trans hb1 hu.size
    have ow30 : OwnN w30 b36 p36 n36 c36 wr := OwnS.other ow36 hu (bt ty_all.2.2.2.1)
    have out30 : OutAt w30 w0.heap.size k31 n Lf := OutAt.other st.out hu fun y hy => by
      obtain ⟨a, b, c, d, e⟩ := bw y hy
      exact ⟨a, b, c, d, by rw [e]; exact ty_all.1, by rw [e]; exact ty_all.2.1⟩
    refine ⟨_, r6.cell, _, r8.cell, _, r10.cell, _, _, _, r42.cell, ?_⟩
    refine (word_spec (c4 := n) (c5 := n) (hf.ext x30) (OwnB.bytes oz) hfl k m).mono ?_
    rintro e w69 ⟨v, rfl, x69, ⟨h, _⟩ | ⟨_, h, _⟩ | ⟨_, _, _, hv⟩⟩
    · exact (h hk).elim
    · exact (h ⟨hn, hn⟩).elim
    have xw69 : Ext w0 w69 := x30.trans x69
    rcases hv with ⟨hd, rfl⟩ | ⟨c, hd, p1, c1, p2, n2, c2, rfl, oc, od⟩
    · -- too many
      refine ⟨_, _, _, _, _, _, _, rfl, ?_, ?_⟩
      · obtain ⟨csr, hcsr, hcsrl⟩ := (out30.ext x69).row
        obtain ⟨P, hP1, hP2⟩ := (out30.ext x69).own
        refine ⟨w69, [], [], OwnS.nil _ _ _ _, OwnS.nil _ _ _ _, by omega, by omega, by omega, xw69, x69.keep r33, ⟨_, _, _, b36, hb0, Nat.le_trans hb1 x69.size, hb8, hb10, x69.keep r36, OwnS.ext ow30 x69⟩, OwnS.nil _ _ _ _, OwnS.nil _ _ _ _, fun _ _ _ _ _ h => h, Nat.le_refl _, ⟨csr, hcsr, hcsrl⟩, out30.le, P, fun t ht => ?_, hP2, fun t _ ht g hg => ?_⟩
        · rw [if_neg (by omega)]
          exact hP1 t ht
        · have := (hP1 t ht).2
          rw [hg] at this
          exact OwnS.lt_heap this
      · rintro j w85 ⟨w30', c', d', _, _, hj0, hj1, _, hxt, hr33, ⟨pp, nn, cc, b', hb0', hb1', hb8', hb10', hr36', hown⟩, _, od', _⟩
        intros
        refine condB_of (fun h => by simp only [decide_eq_true_eq] at h; omega) fun _ => ?_
        have hnn := OwnN.len hown
        obtain ⟨p', c'', w121, hr, ho', hu', _⟩ := OwnS.append elemN 28 hown (q := none) (m := 0) (d := 0) (news := []) rfl (CellsAt.nil _ _) (fun _ => rfl) (fun u hu => by simp at hu) (by unfold maxLen; omega) (by omega) hb1'
        refine ⟨_, _, _, hr36'.cell, _, _, _, w121, hr, ?_⟩
        have r121 : RowK w121 k36 28 #[.slice pp nn cc] := RowK.keep hr36' hu' fun y hy => by
          obtain ⟨cs, e', fz, h7, h8⟩ := OwnS.typed hown hy
          exact ⟨cs, e', fz, h7, by rw [h8]; exact ty_int.2.2.2.2.1⟩
        refine ⟨r121.live, fun w123 s123 => ⟨?_, .inl ⟨hd, rfl⟩⟩⟩
        exact OwnB.new_ext (OwnB.new_ext hxt hu' fun y hy => Nat.le_trans hb0' (OwnS.blk hown hy)) (setK_upd s123) fun y hy => by rw [show y = k36 from hy]; exact st.n36
    · -- put right
      have lc := OwnB.len oc
      refine ⟨_, _, _, _, _, _, _, rfl, ?_, ?_⟩
      · obtain ⟨csr, hcsr, hcsrl⟩ := (out30.ext x69).row
        obtain ⟨P, hP1, hP2⟩ := out30.own
        refine ⟨w30, c, _, oc, od, by omega, by omega, Nat.le_refl _, xw69, x69.keep r33, ⟨_, _, _, b36, hb0, Nat.le_trans hb1 x69.size, hb8, hb10, x69.keep r36, OwnS.ext ow30 x69⟩, oc, od, fun _ _ _ _ _ h => h, x69.size, ⟨csr, hcsr, hcsrl⟩, out30.le, P, fun t ht => ?_, hP2, fun t _ ht g hg => ?_⟩
        · rw [if_neg (by omega)]
          exact ⟨x69.cell (hP1 t ht).1 id, OwnB.ext (hP1 t ht).2 x69⟩
        · have := (hP1 t ht).2
          rw [hg] at this
          exact OwnS.lt_heap this
      · rintro i w85 ⟨w30', c', d', oc', od', hi0, hi1, _, hxt, hr33, ⟨pp, nn, cc, b', hb0', hb1', hb8', hb10', hr36', hown⟩, ocw, odw, hkeep, hszw, ⟨csr, hcsr, hcsrl⟩, hk31, P, hP1, hP2, hP3⟩
        obtain rfl : c' = c := encB_inj (own_same oc' oc)
        obtain rfl := encN_inj (own_same od' od)
        intros
        have hmeas : ((n : Int) - (i + 1)).toNat < ((n : Int) - i).toNat ∨ ¬ i < n := by omega
        refine condB_of (fun hs2 => ?_) (fun hs2 => ?_)
        · -- a byte is told
          simp only [decide_eq_true_eq] at hs2
          obtain ⟨ax, hax, hbyte⟩ := BytesAt.co (OwnB.bytes ocw) (i := i.toNat) (by omega)
          subst hax
          refine ⟨⟨hi0, hs2⟩, _, by rw [Nat.mul_one]; exact hbyte, fun w105 hd105 => ?_⟩
          have e105 := hd105.ext
          have r33' : RowK w105 k33 36 #[.slice (some (at0 k31)) n n] := e105.keep hr33
          have hin : i.toNat < n := by omega
          have hPi := hP1 i.toNat hin
          rw [if_neg (by omega)] at hPi
          have hcellP := e105.cell hPi.1 id
          have ownP := OwnB.ext hPi.2 e105
          refine ⟨_, _, _, r33'.cell, _, _, _, r33'.cell, ⟨hi0, by omega⟩, ?_⟩
          show ∃ (p109 : Option Addr) (l109 c109 : Nat), w105.cell? ((at0 k31).add (i.toNat * 1)) = some (.slice p109 l109 c109) ∧ _
          rw [Nat.mul_one]
          refine ⟨_, _, _, hcellP, fun k110 w111 h110 => ?_⟩
          have e111 := h110.ext
          have x111 : Ext w0 w111 := hxt.trans (e105.trans e111)
          refine ⟨⟨_, _, _, RowK.cell (e111.keep r33'), rfl⟩, ⟨_, _, _, RowK.cell (e111.keep r33'), rfl⟩, ⟨_, _, _, e111.cell hcellP id, rfl⟩, ?_⟩
          have hlenP := OwnB.len ownP
          have hLfi := hLf i.toNat hin
          obtain ⟨p116, c116, w115, hrun, own116, u115, aw115⟩ := OwnB.push2 ownP h110 (hxt.trans e105).size (by omega)
          refine ⟨_, _, _, w115, hrun, ?_⟩
          have tyS : ∀ y, (P i.toNat).1 = some (at0 y) → ∃ (cs : Array Value) (e' : TypeId) (fz : Nat × Nat), w105.heap[y]? = some (Obj.cells cs e' fz) ∧ e' = 5 := fun y hy => OwnS.typed ownP hy
          have kp115 : ∀ {k' : Nat} {e : TypeId} {cs : Array Value}, 5 ≠ e → RowK w105 k' e cs → RowK w115 k' e cs := fun he hr => RowK.keep hr u115 fun y hy => by
            obtain ⟨a, b, c, d, e⟩ := tyS y hy
            exact ⟨a, b, c, d, by rw [e]; exact he⟩
          have r33'' := kp115 ty_out.2.2.2.2.1 r33'
          have r31 : RowK w115 k31 22 csr := kp115 ty_out.1 (e105.keep hcsr)
          refine ⟨⟨_, _, _, r33''.cell, rfl⟩, ⟨hi0, by omega⟩, ?_⟩
          refine ⟨RowW.live ⟨_, r31⟩ (by omega), fun w119 s119 => ?_⟩
          rw [w64 (n := i + 1) (by omega)]
          have u119 : Upd (fun y => y = k31) w115 w119 := by
            have := s119.upd
            rw [add_block] at this
            exact this
          have r31' : RowK w119 k31 22 (csr.setIfInBounds i.toNat (.slice p116 ((P i.toNat).2.1 + 1) c116)) := by
            have s' := s119
            rw [add_at0] at s'
            exact s'.at r31 rfl
          have ty31 : ∀ {e : TypeId}, 22 ≠ e → ∀ y, y = k31 → ∃ (cs : Array Value) (e' : TypeId) (fz : Nat × Nat), w115.heap[y]? = some (Obj.cells cs e' fz) ∧ e' ≠ e := fun he y hy => ⟨csr, _, (0, 0), by rw [hy]; exact r31, he⟩
          have kp119 : ∀ {k' : Nat} {e : TypeId} {cs : Array Value}, 5 ≠ e → 22 ≠ e → RowK w105 k' e cs → RowK w119 k' e cs := fun h1 h2 hr => RowK.keep (kp115 h1 hr) u119 (ty31 h2)
          have x115 : Ext w0 w115 := OwnB.new_ext (hxt.trans e105) u115 fun y hy => OwnB.blk ownP hy
          have x119 : Ext w0 w119 := OwnB.new_ext x115 u119 fun y hy => by rw [show y = k31 from hy]; exact hk31
          have own119 : ∀ {b : Nat} {e : TypeId} {sz : Nat} {p : Option Addr} {n c : Nat} {xs : List Value}, 5 ≠ e → 22 ≠ e → OwnS w105 b e sz p n c xs → OwnS w119 b e sz p n c xs := fun h1 h2 ho =>
            OwnS.other (OwnS.other ho u115 fun y hy => by
              obtain ⟨a, b, c, d, e⟩ := tyS y hy
              exact ⟨a, b, c, d, by rw [e]; exact h1⟩) u119 (ty31 h2)
          have hi2 : (n : Int) - (i + 1) < n - i := by omega
          refine ⟨⟨w30', c', _, oc', od', by omega, by omega, Nat.le_refl _, x119, kp119 ty_out.2.2.2.2.1 ty_row.2.2.2.1 r33', ⟨_, _, _, b', hb0', Nat.le_trans hb1' (Nat.le_trans e105.size (Nat.le_trans u115.size u119.size)), hb8', hb10', kp119 ty_out.2.2.2.2.2.1 ty_row.2.2.2.2.1 (e105.keep hr36'), own119 ty_out.2.2.1 ty_row.2.1 (OwnS.ext hown e105)⟩, ?_, own119 ty_out.2.2.1 ty_row.2.1 (OwnS.ext odw e105),
            fun k' e cs h1 h2 hr => kp119 h1.symm h2.symm (e105.keep (hkeep k' e cs h1 h2 hr)), ?_, ⟨_, r31', by simp [hcsrl]⟩, hk31, fun t => if t = i.toNat then (p116, (P i.toNat).2.1 + 1, c116) else P t, fun t ht => ?_, ?_, fun t h1 ht g hg => ?_⟩, by show ((n : Int) - (i + 1)).toNat < ((n : Int) - i).toNat; omega⟩
          · refine OwnB.other (OwnS.upd (OwnS.ext ocw e105) u115 fun g hg hS => ?_) u119 (ty31 ty_out.1.symm)
            have h1 := OwnS.blk oc' hg
            have h2 := hP3 i.toNat (by omega) hin g hS
            omega
          · have := u115.size
            have := u119.size
            have := e105.size
            omega
          · dsimp only
            rw [rowk_cell r31', Array.getElem?_setIfInBounds]
            by_cases h1 : t = i.toNat
            · subst h1
              simp only [if_true]
              rw [if_pos (by omega), if_pos (by omega)]
              exact ⟨rfl, OwnB.apart own116 u119 r31 ty_out.1.symm⟩
            · rw [if_neg (fun e => h1 e.symm), if_neg h1]
              have hPt := hP1 t ht
              refine ⟨?_, ?_⟩
              · rw [← rowk_cell hcsr]; exact hPt.1
              · have e1 : (if (t : Int) < i + 1 then Lf t ++ [co c' t] else Lf t) = (if (t : Int) < i then Lf t ++ [co c' t] else Lf t) := by
                  by_cases h2 : (t : Int) < i
                  · rw [if_pos h2, if_pos (by omega)]
                  · rw [if_neg h2, if_neg (by omega)]
                rw [e1]
                refine OwnB.apart (OwnS.upd (OwnB.ext hPt.2 e105) u115 fun g hg hS => ?_) u119 r31 ty_out.1.symm
                exact hP2 i.toNat t hin ht (fun e => h1 e.symm) g hS hg
          · have far : ∀ t, t < n → t ≠ i.toNat → ∀ g, (P t).1 = some (at0 g) → p116 ≠ some (at0 g) := fun t ht hne g hg he => by
              have ho := OwnB.ext (hP1 t ht).2 e105
              rw [hg] at ho
              refine aw115 g (OwnS.lt_heap ho) (fun a ha hb => ?_) _ he rfl
              rcases ownP.where_ with ⟨h0, _⟩ | ⟨g', h0, _⟩
              · rw [h0] at ha; cases ha
              · rw [h0] at ha
                cases ha
                have : g' = g := hb
                subst this
                exact hP2 i.toNat t hin ht (fun e => hne e.symm) g' h0 hg
            intro s t hs ht hst g hg
            dsimp only at hg ⊢
            by_cases h1 : s = i.toNat
            · rw [if_pos h1] at hg
              rw [if_neg (fun e => hst (h1.trans e.symm))]
              exact fun he => far t ht (fun e => hst (h1.trans e.symm)) g he hg
            · rw [if_neg h1] at hg
              by_cases h2 : t = i.toNat
              · rw [if_pos h2]; exact far s hs h1 g hg
              · rw [if_neg h2]; exact hP2 s t hs ht hst g hg
          · dsimp only at hg
            rw [if_neg (by omega)] at hg
            exact hP3 t (by omega) ht g hg
        · simp only [decide_eq_false_iff_not] at hs2
          have hnn := OwnN.len hown
          have hdl := OwnN.len odw
          have hdle : (dif (k.toNat + m.toNat) (nots hs) c' (wordAt n hs L x)).length ≤ 256 := by
            unfold dif
            refine Nat.le_trans (List.length_filter_le _ _) ?_
            rw [List.length_range]; omega
          obtain ⟨pf, cf, w121, hr, ho', hu', _⟩ := OwnS.append elemN 28 hown (q := p2) (m := n2) (d := c2) (news := encN (dif (k.toNat + m.toNat) (nots hs) c' (wordAt n hs L x))) (by rw [encN_length]; omega) (OwnS.cells odw)
            (fun hp => by
              rcases odw.where_ with ⟨_, h, _⟩ | ⟨g, h, _⟩
              · exact h
              · rw [hp] at h; cases h) (fun u hu => by obtain ⟨_, _, rfl⟩ := List.mem_map.1 hu; rfl) (by unfold maxLen; omega) (by omega) hb1'
          refine ⟨_, _, _, hr36'.cell, _, _, _, w121, hr, ?_⟩
          have tyw : ∀ {e : TypeId}, 3 ≠ e → ∀ y, pp = some (at0 y) → ∃ (cs : Array Value) (e' : TypeId) (fz : Nat × Nat), w85.heap[y]? = some (Obj.cells cs e' fz) ∧ e' ≠ e := fun he y hy => by
            obtain ⟨cs, e', fz, h7, h8⟩ := OwnS.typed hown hy
            exact ⟨cs, e', fz, h7, by rw [h8]; exact he⟩
          have r121 : RowK w121 k36 28 #[.slice pp nn cc] := RowK.keep hr36' hu' (tyw ty_int.2.2.2.2.1)
          refine ⟨r121.live, fun w123 s123 => ?_⟩
          have u123 := setK_upd s123
          have x121 := OwnB.new_ext hxt hu' fun y hy => Nat.le_trans hb0' (OwnS.blk hown hy)
          have x123 : Ext w0 w123 := OwnB.new_ext x121 u123 fun y hy => by rw [show y = k36 from hy]; exact st.n36
          refine ⟨x123, .inr ⟨c', hd, rfl, ?_⟩⟩
          have fin : ∀ {k' : Nat} {e : TypeId} {cs : Array Value}, 3 ≠ e → 28 ≠ e → RowK w85 k' e cs → RowK w123 k' e cs := fun h1 h2 hr => RowK.keep (RowK.keep hr hu' (tyw h1)) u123 fun y hy => ⟨#[.slice pp nn cc], _, (0, 0), by rw [show y = k36 from hy]; exact r121, h2⟩
          have fin2 : ∀ {k' : Nat} {e : TypeId} {cs : Array Value}, 3 ≠ e → 28 ≠ e → e ≠ 5 → e ≠ 22 → RowK w30 k' e cs → RowK w123 k' e cs := fun h1 h2 h3 h4 hr => fin h1 h2 (hkeep _ _ _ h3 h4 (x69.keep hr))
          have cell36 : ∀ {k' : Nat} {v : Value}, k' < b' → RowK w30 k' 3 #[v] → RowK w123 k' 3 #[v] := fun {k' v} hlt hr => by
            have h1 := hkeep _ _ _ ty_out.2.2.1.symm ty_row.2.1.symm (x69.keep hr)
            have h2 : RowK w121 k' 3 #[v] := hu'.keep h1 fun hp => by
              have := OwnS.blk hown hp
              omega
            exact u123.keep h2 fun e => by
              have h3 : k' = k36 := e
              subst h3
              unfold RowK at h2 r121
              rw [h2] at r121
              cases r121
          have hin : i = (n : Int) := by omega
          have tyo : 3 ≠ 5 := ty_out.2.2.1.symm
          have out123 : OutAt w123 w0.heap.size k31 n (fun t => Lf t ++ [co c' t]) := by
            refine ⟨⟨csr, fin ty_int.2.1 ty_ints.2.1 hcsr, hcsrl⟩, hk31, P, fun t ht => ?_, hP2⟩
            have h1 := hP1 t ht
            rw [if_pos (by omega)] at h1
            refine ⟨?_, OwnB.apart (OwnB.other h1.2 hu' (tyw tyo)) u123 r121 ty_ints.2.2.2.2.2.2⟩
            rw [rowk_cell (fin ty_int.2.1 ty_ints.2.1 hcsr), ← rowk_cell hcsr]
            exact h1.1
          have ow123 : OwnN w123 b' pf (nn + n2) cf (wr ++ dif (k.toNat + m.toNat) (nots hs) c' (wordAt n hs L x)) := by
            have : encN (wr ++ dif (k.toNat + m.toNat) (nots hs) c' (wordAt n hs L x)) = encN wr ++ encN (dif (k.toNat + m.toNat) (nots hs) c' (wordAt n hs L x)) := by simp [encN]
            unfold OwnN
            rw [this]
            exact OwnS.other ho' u123 fun y hy => ⟨#[.slice pp nn cc], _, (0, 0), by rw [show y = k36 from hy]; exact r121, ty_ints.2.2.2.2.1⟩
          exact ⟨x123, st.n36, st.n40, fin2 ty_int.1 ty_ints.1 ty_out.2.1.symm ty_row.1.symm r6, cell36 hb8' r8, cell36 hb10' r10, fin2 ty_int.2.2.1 ty_ints.2.2.1 ty_out.2.2.2.1.symm ty_row.2.2.1.symm r12,
            fin2 ty_int.2.2.2.1 ty_ints.2.2.2.1 ty_out.2.2.2.2.1.symm ty_row.2.2.2.1.symm r14, fin ty_int.2.2.2.1 ty_ints.2.2.2.1 hr33, fin2 ty_int.2.2.1 ty_ints.2.2.1 ty_out.2.2.2.1.symm ty_row.2.2.1.symm r42, st.ne,
            ⟨_, _, _, b', hb0', Nat.le_trans hb1' (Nat.le_trans hu'.size u123.size), hb8', hb10', r121.set s123, ow123⟩, out123, ⟨cs, fin2 ty_int.2.2.2.2.2 ty_ints.2.2.2.2.2.1 ty_all.1 ty_all.2.1 rm, hcs⟩⟩
end Go.Proofs.Ytpmkjpgoekjcfaa

/- The library's sorting of ints, at this dump. -/
namespace Go.Proofs.Ytpmkjpgoekjcfaa
open Go Go.Proofs Go.RowKit Go.Sort Go.Shelf
def hsortA_ren : Go.Shelf.Ren := ⟨fun | 5 => 45 | 8 => 70 | 7 => 69 | 19 => 97 | 20 => 98 | 10 => 88 | 11 => 89 | 12 => 90 | 13 => 91 | 14 => 92 | 15 => 93 | 16 => 94 | 17 => 95 | 18 => 96 | 30 => 110 | 31 => 111 | 32 => 112 | 33 => 113 | 34 => 114 | 35 => 115 | 40 => 117 | n => n, fun | 23 => 28 | 25 => 3 | 3 => 3 | 32 => 59 | 22 => 28 | 0 => 0 | 44 => 126 | 46 => 128 | 4 => 4 | 36 => 119 | 35 => 118 | 41 => 123 | 5 => 5 | 9 => 9 | 53 => 135 | 57 => 139 | 63 => 141 | 64 => 142 | n => n, fun | n => n⟩
theorem hsortA : Go.Proofs.SlLaysM.n5 Try.prog hsortA_ren := {
  mixed := by kernel_rfl
  f5 := ⟨Try.f45.name, by decide, Try.func45.trans (congrArg some (by kernel_rfl))⟩
  f7 := ⟨Try.f69.name, by decide, Try.func69.trans (congrArg some (by kernel_rfl))⟩
  f8 := Try.func70.trans (congrArg some (by kernel_rfl))
  f10 := ⟨Try.f88.name, by decide, Try.func88.trans (congrArg some (by kernel_rfl))⟩
  f11 := ⟨Try.f89.name, by decide, Try.func89.trans (congrArg some (by kernel_rfl))⟩
  f12 := ⟨Try.f90.name, by decide, Try.func90.trans (congrArg some (by kernel_rfl))⟩
  f13 := ⟨Try.f91.name, by decide, Try.func91.trans (congrArg some (by kernel_rfl))⟩
  f14 := ⟨Try.f92.name, by decide, Try.func92.trans (congrArg some (by kernel_rfl))⟩
  f15 := ⟨Try.f93.name, by decide, Try.func93.trans (congrArg some (by kernel_rfl))⟩
  f16 := ⟨Try.f94.name, by decide, Try.func94.trans (congrArg some (by kernel_rfl))⟩
  f17 := ⟨Try.f95.name, by decide, Try.func95.trans (congrArg some (by kernel_rfl))⟩
  f18 := ⟨Try.f96.name, by decide, Try.func96.trans (congrArg some (by kernel_rfl))⟩
  f19 := Try.func97.trans (congrArg some (by kernel_rfl))
  f20 := Try.func98.trans (congrArg some (by kernel_rfl))
  f30 := ⟨Try.f110.name, by decide, Try.func110.trans (congrArg some (by kernel_rfl))⟩
  f31 := Try.func111.trans (congrArg some (by kernel_rfl))
  f32 := Try.func112.trans (congrArg some (by kernel_rfl))
  f33 := ⟨Try.f113.name, by decide, Try.func113.trans (congrArg some (by kernel_rfl))⟩
  f34 := ⟨Try.f114.name, by decide, Try.func114.trans (congrArg some (by kernel_rfl))⟩
  f35 := ⟨Try.f115.name, by decide, Try.func115.trans (congrArg some (by kernel_rfl))⟩
  f40 := ⟨Try.f117.name, by decide, Try.func117.trans (congrArg some (by kernel_rfl))⟩
  t0 := Try.underlying0
  a0 := Try.isAgg0
  z0 := Try.sizeOf0
  v0 := Try.zeroValue0
  t3 := Try.underlying3
  a3 := Try.isAgg3
  z3 := Try.sizeOf3
  v3 := Try.zeroValue3
  t4 := Try.underlying4
  a4 := Try.isAgg4
  z4 := Try.sizeOf4
  v4 := Try.zeroValue4
  t5 := Try.underlying5
  a5 := Try.isAgg5
  z5 := Try.sizeOf5
  v5 := Try.zeroValue5
  t9 := Try.underlying9
  a9 := Try.isAgg9
  z9 := Try.sizeOf9
  v9 := Try.zeroValue9
  t22 := Try.underlying28
  a22 := Try.isAgg28
  z22 := Try.sizeOf28
  v22 := Try.zeroValue28
  t23 := Try.underlying28
  a23 := Try.isAgg28
  z23 := Try.sizeOf28
  v23 := Try.zeroValue28
  t25 := Try.underlying3
  a25 := Try.isAgg3
  z25 := Try.sizeOf3
  v25 := Try.zeroValue3
  t32 := Try.underlying59
  a32 := Try.isAgg59
  z32 := Try.sizeOf59
  v32 := Try.zeroValue59
  t35 := Try.underlying118
  a35 := Try.isAgg118
  z35 := Try.sizeOf118
  v35 := Try.zeroValue118
  t36 := Try.underlying119
  a36 := Try.isAgg119
  z36 := Try.sizeOf119
  v36 := Try.zeroValue119
  t41 := Try.underlying123
  a41 := Try.isAgg123
  z41 := Try.sizeOf123
  v41 := Try.zeroValue123
  t44 := Try.underlying126
  a44 := Try.isAgg126
  z44 := Try.sizeOf126
  v44 := Try.zeroValue126
  t46 := Try.underlying128
  a46 := Try.isAgg128
  z46 := Try.sizeOf128
  v46 := Try.zeroValue128
  t53 := Try.underlying135
  a53 := Try.isAgg135
  z53 := Try.sizeOf135
  v53 := Try.zeroValue135
  t57 := Try.underlying139
  a57 := Try.isAgg139
  z57 := Try.sizeOf139
  v57 := Try.zeroValue139
  t63 := Try.underlying141
  a63 := Try.isAgg141
  z63 := Try.sizeOf141
  v63 := Try.zeroValue141
  t64 := Try.underlying142
  a64 := Try.isAgg142
  z64 := Try.sizeOf142
  v64 := Try.zeroValue142 }
end Go.Proofs.Ytpmkjpgoekjcfaa

/- Places are sorted, each once. -/
namespace Go.Proofs.Ytpmkjpgoekjcfaa
open Go Go.Vc Go.Gf

theorem OwnN.le {w : World} {base : Nat} {p : Option Addr} {n c : Nat} {l : List Nat} (h : OwnN w base p n c l) : n ≤ c := by
  rcases h.where_ with ⟨_, rfl, rfl⟩ | ⟨g, _, _, _, h, _⟩
  · exact Nat.le_refl _
  · exact h
theorem OwnN.get {w : World} {base : Nat} {p : Option Addr} {n c : Nat} {l : List Nat} (h : OwnN w base p n c l) {i : Nat} (hi : i < n) : ∃ k, p = some (at0 k) ∧ w.cell? ((at0 k).add i) = some (.int .i64 ((l.getD i 0 : Nat) : Int)) ∧ Live w ((at0 k).add i) ∧
    ∀ (v : Nat) w', SetC w ((at0 k).add i) (.int .i64 (v : Int)) w' → OwnN w' base (some (at0 k)) n c (l.set i v) ∧ Upd (fun x => x = k) w w' := by
  have hl := OwnN.len h
  rcases h.where_ with ⟨_, h0, _⟩ | ⟨k, rfl, hb, _⟩
  · omega
  · have hlt : i < l.length := by omega
    obtain ⟨a, ha, hc⟩ := OwnS.cells h i (.int .i64 ((l[i] : Nat) : Int)) (by simp [encN, hlt])
    cases ha
    refine ⟨k, rfl, by rw [hc]; simp [List.getD_eq_getElem?_getD, hlt], OwnS.live h (by rw [encN_length]; exact hlt), fun v w' hs => ?_⟩
    obtain ⟨h1, h2⟩ := OwnS.set h hs
    refine ⟨?_, h2⟩
    have : (encN l).set i (.int .i64 (v : Int)) = encN (l.set i v) := by simp [encN, List.map_set]
    rw [this] at h1
    exact h1
theorem OwnN.cut {w : World} {base : Nat} {p : Option Addr} {n c : Nat} {l : List Nat} (h : OwnN w base p n c l) {m : Nat} (hm : m ≤ n) : OwnN w base p m c (l.take m) := by
  have hl := OwnN.len h
  refine ⟨by rw [encN_length, List.length_take]; omega, ?_⟩
  rcases h.2 with ⟨hv, hn⟩ | ⟨g, cap, cur, hv, hb, hg, h1, h2, h3, h4⟩
  · left
    simp only [Value.slice.injEq] at hv
    obtain ⟨rfl, rfl, rfl⟩ := hv
    have : m = 0 := by omega
    subst this
    exact ⟨rfl, rfl⟩
  · right
    simp only [Value.slice.injEq] at hv
    obtain ⟨rfl, _, rfl⟩ := hv
    refine ⟨g, c, cur, rfl, hb, hg, by omega, h2, h3, ?_⟩
    rw [Nat.mul_one] at h4 ⊢
    have : encN (l.take m) = (encN l).take m := by simp [encN, List.map_take]
    rw [this, ← h4, List.take_take, Nat.min_eq_left hm]
/-- cells behind a slice are written over -/
theorem OwnS.behind {e : TypeId} {base k n c : Nat} {xs : List Value} : ∀ (vs : List Value) (o : Nat) (w : World), n ≤ o → OwnS w base e 1 (some (at0 k)) n c xs → OwnS (w.setCells k o vs) base e 1 (some (at0 k)) n c xs ∧ Upd (fun x => x = k) w (w.setCells k o vs)
  | [], _, w, _, h => ⟨h, Upd.refl _ _⟩
  | v :: vs, o, w, ho, h => by
    have hs : SetC w ⟨k, o, none⟩ v (w.setCell ⟨k, o, none⟩ v) := rfl
    have hu : Upd (fun x => x = k) w (w.setCell ⟨k, o, none⟩ v) := hs.upd
    have h1 : OwnS (w.setCell ⟨k, o, none⟩ v) base e 1 (some (at0 k)) n c xs := by
      refine ⟨h.1, ?_⟩
      rcases h.2 with ⟨hv, _⟩ | ⟨g, cap, cur, hv, hb, hg, h1, h2, h3, h4⟩
      · simp at hv
      · right
        simp only [Value.slice.injEq, Option.some.injEq, at0, Addr.mk.injEq, and_true] at hv
        obtain ⟨rfl, _, rfl⟩ := hv
        refine ⟨k, c, cur.setIfInBounds o v, rfl, hb, hs.at hg rfl, h1, h2, by simp [h3], ?_⟩
        rw [Array.toList_setIfInBounds, ← h4, Nat.mul_one]
        refine List.ext_getElem? fun j => ?_
        rw [List.getElem?_take, List.getElem?_take]
        by_cases hj : j < n
        · rw [if_pos hj, if_pos hj, List.getElem?_set_ne (by omega)]
        · rw [if_neg hj, if_neg hj]
    obtain ⟨h2, h3⟩ := OwnS.behind vs (o + 1) _ (by omega) h1
    exact ⟨h2, Upd.trans hu h3 fun _ _ h => h⟩

theorem sort_own {w : World} {base : Nat} {p : Option Addr} {n c : Nat} {l : List Nat} (h : OwnN w base p n c l) (hn : n ≤ 1073741824) :
    Calls Try.prog 45 #[.slice p n c] w fun e w' => e = .returned (.tuple #[]) ∧ ∃ l', OwnN w' base p n c l' ∧ Upd (fun x => p = some (at0 x)) w w' ∧ l'.Perm l ∧ l'.Pairwise (· ≤ ·) := by
  have hl := OwnN.len h
  rcases h.where_ with ⟨rfl, rfl, rfl⟩ | ⟨g, rfl, hb, hg, hnc, cur, hcur, hcs, htake⟩
  · refine (AnyM.slices_Sort_int_none hsortA none 0 w).mono ?_
    rintro e w' ⟨rfl, rfl⟩
    have : l = [] := List.eq_nil_of_length_eq_zero hl.symm
    subst this
    exact ⟨rfl, [], h, Upd.refl _ _, List.Perm.refl _, List.Pairwise.nil⟩
  · have hz : (l.map fun i : Nat => (i : Int)).length = n := by rw [List.length_map, hl]
    have hmap : (l.map fun i : Nat => (i : Int)).map (Value.int .i64) = encN l := by simp [encN]
    have hH := holds_of_blockI (ss := l.map fun i : Nat => (i : Int)) hcur (by rw [hz, hmap, ← htake, Nat.mul_one])
    have hs := AnyM.slices_Sort_int hsortA g 0 c (l.map fun i : Nat => (i : Int)) w hH hg (by rw [hz]; omega)
    rw [hz] at hs
    refine hs.mono ?_
    rintro e w' ⟨rfl, m, os, rfl⟩
    let ts := (l.map fun i : Nat => (i : Int)).mergeSort fun x y => decide (x ≤ y)
    have hp : ts.Perm (l.map fun i : Nat => (i : Int)) := List.mergeSort_perm _ _
    have hsorted : ts.Pairwise (· ≤ ·) := by
      have := List.pairwise_mergeSort (le := fun x y : Int => decide (x ≤ y)) (fun a b c h1 h2 => by simp at *; omega) (fun a b => by simp; omega) (l.map fun i : Nat => (i : Int))
      exact this.imp fun h => by simpa using h
    have hnn : ∀ x ∈ ts, 0 ≤ x := fun x hx => by
      obtain ⟨i, _, rfl⟩ := List.mem_map.1 (hp.mem_iff.1 hx)
      omega
    have hts : (ts.map Int.toNat).map (fun i : Nat => (i : Int)) = ts := by
      rw [List.map_map]
      refine (List.map_congr_left fun x hx => ?_).trans (List.map_id ts)
      have := hnn x hx
      show ((x.toNat : Nat) : Int) = x
      omega
    have henc : encN (ts.map Int.toNat) = ts.map (Value.int .i64) := by
      conv => rhs; rw [← hts]
      simp [encN]
    have hlen : ts.length = (l.map fun i : Nat => (i : Int)).length := hp.length_eq
    refine ⟨rfl, ts.map Int.toNat, ?_, ?_, ?_, ?_⟩
    · have h1 := ownsRow_sortedI (n := m) (os := os) hlen hb hcur (by rw [hz]; exact hnc) (by
        rcases h.2 with ⟨hv, _⟩ | ⟨g', cap, cur', hv, _, _, _, h2, _⟩
        · simp at hv
        · simp only [Value.slice.injEq] at hv
          rw [hv.2.2]; exact h2) hcs
      rw [hz] at h1
      unfold OwnN OwnS
      rw [henc]
      exact h1
    · have h1 := grownBy_sortedI (w := w) (g := g) (n := m) (os := os) ts.toArray
      refine ⟨h1.os, h1.tape, h1.output, h1.size, fun b hb' hS => h1.block b hb' ?_⟩
      intro e
      simp only [Option.some.injEq] at e
      exact hS (by rw [e])
    · have h1 := hp.map Int.toNat
      rw [List.map_map] at h1
      have h2 : l.map (Int.toNat ∘ fun i : Nat => (i : Int)) = l := (List.map_congr_left fun x _ => by show ((x : Int)).toNat = x; omega).trans (List.map_id l)
      rwa [h2] at h1
    · rw [List.pairwise_map]
      exact hsorted.imp_of_mem fun {a b} ha hb h => by
        have := hnn a ha
        have := hnn b hb
        omega

/-! ## each once -/
theorem getD_mem {l : List Nat} {i : Nat} (h : i < l.length) : l.getD i 0 ∈ l := by
  rw [List.getD_eq_getElem?_getD, List.getElem?_eq_getElem h]
  exact List.getElem_mem h
theorem sorted_get {l : List Nat} (h : l.Pairwise (· ≤ ·)) {i j : Nat} (hij : i ≤ j) (hj : j < l.length) : l.getD i 0 ≤ l.getD j 0 := by
  rcases Nat.lt_or_ge i j with h1 | h1
  · simp only [List.getD_eq_getElem?_getD, List.getElem?_eq_getElem hj, List.getElem?_eq_getElem (show i < l.length by omega), Option.getD_some]
    exact List.pairwise_iff_getElem.1 h i j _ _ h1
  · rw [show i = j by omega]; exact Nat.le_refl _
theorem set_getD (r : List Nat) (i v j : Nat) (hi : i < r.length) : (r.set i v).getD j 0 = if j = i then v else r.getD j 0 := by
  simp only [List.getD_eq_getElem?_getD, List.getElem?_set]
  by_cases h : j = i
  · subst h; simp [hi]
  · rw [if_neg (fun e => h e.symm), if_neg h]
/-- the first so many are strictly rising, and just the first so many of what there was -/
structure Comp (l r : List Nat) (i t : Nat) : Prop where
  len : r.length = l.length
  it : 0 < i ∧ i < t ∧ t ≤ l.length
  tail : ∀ j, t ≤ j + 1 → j < l.length → r.getD j 0 = l.getD j 0
  strict : ∀ a b, a < b → b < i → r.getD a 0 < r.getD b 0
  last : r.getD (i - 1) 0 = l.getD (t - 1) 0
  sub : ∀ a, a < i → ∃ b, b < t ∧ r.getD a 0 = l.getD b 0
  sup : ∀ b, b < t → ∃ a, a < i ∧ r.getD a 0 = l.getD b 0
theorem Comp.init {l : List Nat} {i : Nat} (h : ∀ a b, a < b → b < i → l.getD a 0 < l.getD b 0) (h0 : 0 < i) (hi : i < l.length) (he : l.getD i 0 = l.getD (i - 1) 0) : Comp l l i (i + 1) :=
  ⟨rfl, ⟨h0, by omega, by omega⟩, fun _ _ _ => rfl, h, by rw [Nat.add_sub_cancel, he], fun a ha => ⟨a, by omega, rfl⟩, fun b hb => by
    by_cases e : b = i
    · exact ⟨i - 1, by omega, by rw [e, he]⟩
    · exact ⟨b, by omega, rfl⟩⟩
theorem Comp.same {l r : List Nat} {i t : Nat} (h : Comp l r i t) (ht : t < l.length) (he : l.getD t 0 = l.getD (t - 1) 0) : Comp l r i (t + 1) := by
  obtain ⟨h0, h1, h2⟩ := h.it
  refine ⟨h.len, ⟨h0, by omega, by omega⟩, fun j hj hl => h.tail j (by omega) hl, h.strict, by rw [h.last, Nat.add_sub_cancel, he], fun a ha => ?_, fun b hb => ?_⟩
  · obtain ⟨b, hb, e⟩ := h.sub a ha
    exact ⟨b, by omega, e⟩
  · by_cases e : b = t
    · obtain ⟨a, ha, e2⟩ := h.sup (t - 1) (by omega)
      exact ⟨a, ha, by rw [e2, e, he]⟩
    · exact h.sup b (by omega)
theorem Comp.more {l r : List Nat} {i t : Nat} (h : Comp l r i t) (hs : l.Pairwise (· ≤ ·)) (ht : t < l.length) (he : l.getD t 0 ≠ l.getD (t - 1) 0) : Comp l (r.set i (l.getD t 0)) (i + 1) (t + 1) := by
  obtain ⟨h0, h1, h2⟩ := h.it
  have hl := h.len
  have hlt : l.getD (t - 1) 0 < l.getD t 0 := by
    have := sorted_get hs (i := t - 1) (j := t) (by omega) ht
    omega
  have hge : ∀ a, a < i → r.getD a 0 ≤ r.getD (i - 1) 0 := fun a ha => by
    by_cases e : a = i - 1
    · rw [e]; exact Nat.le_refl _
    · exact Nat.le_of_lt (h.strict a (i - 1) (by omega) (by omega))
  refine ⟨by rw [List.length_set, hl], ⟨by omega, by omega, by omega⟩, fun j hj hjl => ?_, fun a b hab hb => ?_, ?_, fun a ha => ?_, fun b hb => ?_⟩
  · rw [set_getD _ _ _ _ (by omega), if_neg (by omega)]
    exact h.tail j (by omega) hjl
  · rw [set_getD _ _ _ _ (by omega), set_getD _ _ _ _ (by omega), if_neg (by omega)]
    by_cases e : b = i
    · rw [if_pos e]
      have := hge a (by omega)
      have := h.last
      omega
    · rw [if_neg e]; exact h.strict a b hab (by omega)
  · rw [set_getD _ _ _ _ (by omega), if_pos (by omega), Nat.add_sub_cancel]
  · rw [set_getD _ _ _ _ (by omega)]
    by_cases e : a = i
    · rw [if_pos e]; exact ⟨t, by omega, rfl⟩
    · rw [if_neg e]
      obtain ⟨b, hb, e2⟩ := h.sub a (by omega)
      exact ⟨b, by omega, e2⟩
  · by_cases e : b = t
    · exact ⟨i, by omega, by rw [set_getD _ _ _ _ (by omega), if_pos rfl, e]⟩
    · obtain ⟨a, ha, e2⟩ := h.sup b (by omega)
      exact ⟨a, by omega, by rw [set_getD _ _ _ _ (by omega), if_neg (by omega), e2]⟩
theorem Comp.done {l r : List Nat} {i : Nat} (h : Comp l r i l.length) : (r.take i).Pairwise (· < ·) ∧ ∀ x, x ∈ r.take i ↔ x ∈ l := by
  obtain ⟨h0, h1, h2⟩ := h.it
  have hl := h.len
  have hg : ∀ a (ha : a < (r.take i).length), (r.take i)[a] = r.getD a 0 := fun a ha => by
    have : a < r.length := by simp at ha; omega
    simp [List.getD_eq_getElem?_getD, this]
  refine ⟨List.pairwise_iff_getElem.2 fun a b ha hb hab => ?_, fun x => ⟨fun hx => ?_, fun hx => ?_⟩⟩
  · rw [hg, hg]
    exact h.strict a b hab (by simp at hb; omega)
  · obtain ⟨a, ha, rfl⟩ := List.getElem_of_mem hx
    rw [hg]
    obtain ⟨b, hb, e⟩ := h.sub a (by simp at ha; omega)
    rw [e]
    exact getD_mem hb
  · obtain ⟨b, hb, rfl⟩ := List.getElem_of_mem hx
    obtain ⟨a, ha, e⟩ := h.sup b hb
    have e2 : l[b] = l.getD b 0 := by simp [List.getD_eq_getElem?_getD, hb]
    have ha' : a < (r.take i).length := by simp; omega
    rw [e2, ← e, ← hg a ha']
    exact List.getElem_mem ha'

set_option maxHeartbeats 4000000 in
theorem compact_own {w : World} {base : Nat} {p : Option Addr} {n c : Nat} {l : List Nat} (h : OwnN w base p n c l) (hs : l.Pairwise (· ≤ ·)) (hn : n ≤ 1073741824) :
    Calls Try.prog 46 #[.slice p n c] w fun e w' => ∃ n' l', e = .returned (.slice p n' c) ∧ OwnN w' base p n' c l' ∧ Upd (fun x => p = some (at0 x)) w w' ∧ l'.Pairwise (· < ·) ∧ ∀ x, x ∈ l' ↔ x ∈ l := by
  have hl := OwnN.len h
  refine (F46_calls p n c w (fun v w' => ∃ n' l', v = .slice p n' c ∧ OwnN w' base p n' c l' ∧ Upd (fun x => p = some (at0 x)) w w' ∧ l'.Pairwise (· < ·) ∧ ∀ x, x ∈ l' ↔ x ∈ l)
    (fun _ i w1 => 1 ≤ i ∧ i ≤ n ∧ Ext w w1 ∧ ∀ a b : Nat, a < b → (b : Int) < i → l.getD a 0 < l.getD b 0) (fun _ i _ => (n - i).toNat)
    (fun _ l2 _ _ i j w1 => 1 ≤ j ∧ j ≤ l2 ∧ l2 ≤ n ∧ 0 ≤ i ∧ Upd (fun x => p = some (at0 x)) w w1 ∧ ∃ r, OwnN w1 base p n c r ∧ Comp l r i.toNat ((n - l2) + j.toNat)) (fun _ l2 _ _ _ j _ => (l2 - j).toNat) ?_).mono (by
    rintro e w' ⟨v, rfl, n', l', rfl, h⟩; exact ⟨n', l', rfl, h⟩)
  unfold F46
  refine condB_of (fun h2 => ?_) (fun h2 => ?_)
  · simp only [decide_eq_true_eq] at h2
    refine ⟨n, l, rfl, h, Upd.refl _ _, ?_, fun x => Iff.rfl⟩
    match l, hl with
    | [], _ => exact List.Pairwise.nil
    | [a], _ => exact List.pairwise_singleton _ _
    | a :: b :: t, hl => simp at hl; omega
  simp only [decide_eq_false_iff_not] at h2
  refine ⟨⟨by omega, by omega, Upd.refl _ _, fun a b h3 h4 => by omega⟩, ?_⟩
  rintro i w1 ⟨hi0, hi1, hx, hst⟩
  intros
  refine condB_of (fun hs2 => ?_) (fun hs2 => ?_)
  · simp only [decide_eq_true_eq] at hs2
    intro w57 hd
    have x57 := hx.trans hd.ext
    have o57 : OwnN w57 base p n c l := OwnS.ext h x57
    rw [w64 (n := i - 1) (by omega)]
    obtain ⟨k, rfl, c1, lv1, _⟩ := OwnN.get o57 (i := i.toNat) (by omega)
    obtain ⟨k', hk', c2, _, _⟩ := OwnN.get o57 (i := i.toNat - 1) (by omega)
    cases hk'
    have e1 : (i - 1).toNat = i.toNat - 1 := by omega
    rw [e1, Nat.mul_one, Nat.mul_one]
    refine ⟨⟨by omega, hs2⟩, _, c1, ⟨by omega, by omega⟩, _, c2, condB_of (fun he => ?_) (fun he => ?_)⟩
    · simp only [decide_eq_true_eq] at he
      have he' : l.getD i.toNat 0 = l.getD (i.toNat - 1) 0 := by omega
      have hcomp : Comp l l i.toNat (i.toNat + 1) := Comp.init (fun a b h3 h4 => hst a b h3 (by omega)) (by omega) (by omega) he'
      refine ⟨⟨by omega, by omega⟩, ⟨by omega, by omega, by omega, by omega, x57.upd, l, o57, ?_⟩, ?_⟩
      · rw [show n - (n - i.toNat) + (1 : Int).toNat = i.toNat + 1 by have : (1 : Int).toNat = 1 := rfl; omega]
        exact hcomp
      rintro i2 j w67 ⟨hj0, hj1, _, hi20, hu, r, hr, hc⟩
      intros
      have hle := OwnN.le hr
      obtain ⟨q0, q1, q2⟩ := hc.it
      have hcut : cutP (some (at0 k)) c i.toNat 1 = some ((at0 k).add i.toNat) := by
        unfold cutP
        rw [if_neg (by omega)]
        show some ((at0 k).add (i.toNat * 1)) = _
        rw [Nat.mul_one]
      rw [hcut]
      refine condB_of (fun hs3 => ?_) (fun hs3 => ?_)
      · simp only [decide_eq_true_eq] at hs3
        intro w93 hd93
        have hr93 : OwnN w93 base (some (at0 k)) n c r := OwnS.ext hr hd93.ext
        have u93 : Upd (fun x => some (at0 k) = some (at0 x)) w w93 := Upd.trans hu hd93.ext.upd fun _ _ h => h
        rw [w64 (n := j - 1) (by omega), w64 (n := j + 1) (by omega), w64 (n := i2 + 1) (by omega)]
        have e2 : (j - 1).toNat = j.toNat - 1 := by omega
        obtain ⟨k1, hk1, d1, _, _⟩ := OwnN.get hr93 (i := i.toNat + j.toNat) (by omega)
        cases hk1
        obtain ⟨k1, hk1, d2, _, _⟩ := OwnN.get hr93 (i := i.toNat + (j.toNat - 1)) (by omega)
        cases hk1
        obtain ⟨k1, hk1, _, lv, hset⟩ := OwnN.get hr93 (i := i2.toNat) (by omega)
        cases hk1
        simp only [e2, Nat.mul_one]
        have t1 := hc.tail (i.toNat + j.toNat) (by omega) (by omega)
        have t2 := hc.tail (i.toNat + (j.toNat - 1)) (by omega) (by omega)
        have ht : n - (n - i.toNat) + j.toNat = i.toNat + j.toNat := by omega
        rw [ht] at hc
        have hmeas : (((n - i.toNat : Nat) : Int) - (j + 1)).toNat < (((n - i.toNat : Nat) : Int) - j).toNat := by omega
        refine ⟨⟨by omega, hs3⟩, _, by rw [add_add]; exact d1, ⟨by omega, by omega⟩, _, by rw [add_add]; exact d2, condB_of (fun hne => ?_) (fun hne => ?_)⟩
        · simp only [Bool.not_eq_true', decide_eq_false_iff_not] at hne
          refine ⟨⟨by omega, by omega⟩, _, by rw [add_add]; exact d1, ⟨by omega, by omega⟩, lv, fun w101 s101 => ?_⟩
          obtain ⟨hr101, u101⟩ := hset _ _ s101
          refine ⟨⟨by omega, by omega, by omega, by omega, Upd.trans u93 (u101.mono fun x _ hx => by rw [show x = k from hx]) fun _ _ h => h, _, hr101, ?_⟩, hmeas⟩
          rw [show n - (n - i.toNat) + (j + 1).toNat = i.toNat + j.toNat + 1 by omega, show (i2 + 1).toNat = i2.toNat + 1 by omega, t1]
          refine hc.more hs (by omega) ?_
          rw [show i.toNat + j.toNat - 1 = i.toNat + (j.toNat - 1) by omega, ← t1, ← t2]
          omega
        · simp only [Bool.not_eq_false', decide_eq_true_eq] at hne
          refine ⟨⟨by omega, by omega, by omega, by omega, u93, r, hr93, ?_⟩, hmeas⟩
          rw [show n - (n - i.toNat) + (j + 1).toNat = i.toNat + j.toNat + 1 by omega]
          refine hc.same (by omega) ?_
          rw [show i.toNat + j.toNat - 1 = i.toNat + (j.toNat - 1) by omega, ← t1, ← t2]
          omega
      · simp only [decide_eq_false_iff_not] at hs3
        have ht : n - (n - i.toNat) + j.toNat = l.length := by omega
        rw [ht] at hc q1
        obtain ⟨hd1, hd2⟩ := hc.done
        have hcut2 : cutP (some (at0 k)) c i2.toNat 1 = some ((at0 k).add i2.toNat) := by
          unfold cutP
          rw [if_neg (by omega)]
          show some ((at0 k).add (i2.toNat * 1)) = _
          rw [Nat.mul_one]
        rw [hcut2, cutP0, Nat.sub_zero, Nat.sub_zero, add_at0]
        have hrk := Lib.run_clear_slice (P := Try.prog) w67 28 3 0 (.int .i64 0) (by kernel_rfl) (fun w => by kernel_rfl) rfl rfl k i2.toNat (n - i2.toNat) (c - i2.toNat) (by omega)
          (fun t ht => by
            obtain ⟨k1, hk1, d1, _, _⟩ := OwnN.get hr (i := i2.toNat + t) (by omega)
            cases hk1
            rw [add_at0] at d1
            rw [d1]; rfl) (fun t ht => by
            obtain ⟨k1, hk1, _, lv, _⟩ := OwnN.get hr (i := i2.toNat + t) (by omega)
            cases hk1
            have := lv.2
            rwa [add_at0] at this)
        obtain ⟨g1, g2⟩ := OwnS.behind (List.replicate (n - i2.toNat) (.int .i64 0)) i2.toNat w67 (Nat.le_refl _) (OwnN.cut hr (m := i2.toNat) (by omega))
        refine ⟨⟨by omega, by omega⟩, _, _, hrk, ⟨by omega, by omega⟩, i2.toNat, _, rfl, g1, Upd.trans hu (g2.mono fun x _ hx => by rw [show x = k from hx]) fun _ _ h => h, hd1, hd2⟩
    · simp only [decide_eq_false_iff_not] at he
      rw [w64 (n := i + 1) (by omega)]
      refine ⟨⟨by omega, by omega, x57, fun a b hab hb => ?_⟩, by show ((n : Int) - (i + 1)).toNat < ((n : Int) - i).toNat; omega⟩
      by_cases e : (b : Int) < i
      · exact hst a b hab e
      · have hb' : b = i.toNat := by omega
        have h3 := sorted_get hs (i := i.toNat - 1) (j := i.toNat) (by omega) (by omega)
        have h4 : l.getD (i.toNat - 1) 0 < l.getD i.toNat 0 := by omega
        rw [hb']
        by_cases e2 : a = i.toNat - 1
        · rw [e2]; exact h4
        · have := hst a (i.toNat - 1) (by omega) (by omega)
          omega
  · simp only [decide_eq_false_iff_not] at hs2
    refine ⟨n, l, rfl, OwnS.ext h hx, hx.upd, List.pairwise_iff_getElem.2 fun a b ha hb hab => ?_, fun x => Iff.rfl⟩
    have := hst a b hab (by omega)
    simpa [List.getD_eq_getElem?_getD, ha, hb] using this
end Go.Proofs.Ytpmkjpgoekjcfaa

/- Shards are put right. -/
namespace Go.Proofs.Ytpmkjpgoekjcfaa
open Go Go.Vc Go.Gf

theorem made_one (e : TypeId) (v : Value) (hz : zeroCellsOf Try.prog e = [v]) (n : Nat) : madeRow Try.prog e n = (List.replicate n v).toArray := by
  have h1 : (List.replicate n [v]).flatten = List.replicate n v := by
    clear hz
    induction n with
    | zero => rfl
    | succ n ih => rw [List.replicate_succ, List.flatten_cons, ih, List.replicate_succ]; rfl
  show ((List.replicate n (zeroCellsOf Try.prog e)).flatten).toArray = _
  rw [hz, h1]
/-- what shards put right are told as -/
def shardsP (w : World) (k m : Int) (l3 l4 : Nat) (hs : List Bool) (L : List (List UInt8)) (v : Value) (w' : World) : Prop := Ext w w' ∧
  ((¬ kmOk k m ∧ v = .tuple #[.slice none 0 0, .slice none 0 0, .int .i64 50]) ∨
   (kmOk k m ∧ (∀ s, ¬ Sized k m l3 l4 hs L s) ∧ v = .tuple #[.slice none 0 0, .slice none 0 0, .int .i64 60]) ∨
   kmOk k m ∧ ∃ s, Sized k m l3 l4 hs L s ∧ (((∃ x, x < s ∧ decM k.toNat m.toNat (wordAt l3 hs L x) (nots hs) = none) ∧ v = .tuple #[.slice none 0 0, .slice none 0 0, .int .i64 100]) ∨
    ∃ cs : List (List UInt8), cs.length = s ∧ (∀ x, x < s → decM k.toNat m.toNat (wordAt l3 hs L x) (nots hs) = some (cs.getD x [])) ∧ ∃ ko p2 n2 c2 W, v = .tuple #[.slice (some (at0 ko)) l3 l3, .slice p2 n2 c2, .int .i64 0] ∧
      OutAt w' w.heap.size ko l3 (fun i => cs.map fun c => co c i) ∧ OwnN w' w.heap.size p2 n2 c2 W ∧ W.Pairwise (· < ·) ∧ ∀ i, i ∈ W ↔ ∃ x, x < s ∧ i ∈ dif l3 (nots hs) (cs.getD x []) (wordAt l3 hs L x)))

theorem dif_len_le {n : Nat} {ms : List Bool} {a b : List UInt8} : (dif n ms a b).length ≤ n := by
  unfold dif
  refine Nat.le_trans (List.length_filter_le _ _) ?_
  rw [List.length_range]; exact Nat.le_refl _
theorem getD_snoc {cs : List (List UInt8)} {c : List UInt8} {x : Nat} (hx : x < cs.length) : (cs ++ [c]).getD x [] = cs.getD x [] := by
  simp only [List.getD_eq_getElem?_getD]
  rw [List.getElem?_append_left hx]
theorem getD_last (cs : List (List UInt8)) (c : List UInt8) : (cs ++ [c]).getD cs.length [] = c := by simp [List.getD_eq_getElem?_getD]

set_option maxHeartbeats 8000000 in
theorem shards_spec {f p3 p4 : Option Addr} {w : World} {l3 c3 l4 c4 : Nat} {hs : List Bool} {L : List (List UInt8)} (hf : FieldAt w f) (h3 : FlagsAt w p3 l3 hs) (h4 : ListsAt w p4 l4 L) (k m : Int) (bl : ∀ x ∈ L, x.length ≤ 1048576) :
    Calls Try.prog 16 #[.pointer f, .int .i64 k, .int .i64 m, .slice p3 l3 c3, .slice p4 l4 c4] w fun e w' => ∃ v, e = .returned v ∧ shardsP w k m l3 l4 hs L v w' := by
  refine F16_calls f k m p3 l3 c3 p4 l4 c4 w (shardsP w k m l3 l4 hs L)
    (fun q33 q36 q8 q10 q12 q42 q14 q6 _ _ s _ fl x w1 => 0 ≤ x ∧ x ≤ s ∧ fl = 0 ∧ ∃ k6 k8 k10 k12 k14 k33 k36 k42 k31 k40 cs wr, q33 = some (at0 k33) ∧ q36 = some (at0 k36) ∧ q8 = some (at0 k8) ∧ q10 = some (at0 k10) ∧ q12 = some (at0 k12) ∧ q42 = some (at0 k42) ∧ q14 = some (at0 k14) ∧ q6 = some (at0 k6) ∧ (cs : List (List UInt8)).length = x.toNat ∧
      (∀ t, t < x.toNat → decM k.toNat m.toNat (wordAt l3 hs L t) (nots hs) = some (cs.getD t [])) ∧ ShSt w w1 k m l3 f p3 p4 l3 c3 l4 c4 k6 k8 k10 k12 k14 k33 k36 k42 k31 k40 (fun i => cs.map fun c => co c i) wr ∧ wr.length ≤ 256 * x.toNat ∧
      ∀ i, i ∈ wr ↔ ∃ t, t < x.toNat ∧ i ∈ dif l3 (nots hs) (cs.getD t []) (wordAt l3 hs L t))
    (fun _ _ _ _ _ _ _ _ _ _ s _ _ x _ => (s - x).toNat) ?_
  intro k6 w7 h6 k8 w9 h8 k10 w11 h10 k12 w13 h12 k14 w15 h14
  have x15 : Ext w w15 := h6.ext.trans (h8.ext.trans (h10.ext.trans (h12.ext.trans h14.ext)))
  have r6 : RowK w15 k6 25 #[.pointer f] := h14.ext.keep (h12.ext.keep (h10.ext.keep (h8.ext.keep h6.at)))
  have r8 : RowK w15 k8 3 #[.int .i64 k] := h14.ext.keep (h12.ext.keep (h10.ext.keep h8.at))
  have r10 : RowK w15 k10 3 #[.int .i64 m] := h14.ext.keep (h12.ext.keep h10.at)
  have r12 : RowK w15 k12 23 #[.slice p3 l3 c3] := h14.ext.keep h12.at
  have r14 : RowK w15 k14 36 #[.slice p4 l4 c4] := h14.at
  refine ⟨_, r6.cell, ?_⟩
  rw [hf.there]
  refine condB_of (fun h => by cases h) fun _ => ⟨_, r8.cell, _, r10.cell, (ccheck_spec k m w15).mono ?_⟩
  rintro e w19 ⟨rfl, rfl⟩
  refine ⟨_, rfl, condB_of (fun hc => ?_) (fun hc => ?_)⟩
  · simp only [Bool.not_eq_true', decide_eq_false_iff_not] at hc
    have hk : ¬ kmOk k m := fun h => hc (kmE_ok h)
    refine ⟨x15, .inl ⟨hk, ?_⟩⟩
    rw [kmE_bad hk]
  simp only [Bool.not_eq_false', decide_eq_true_eq] at hc
  have hk : kmOk k m := Decidable.byContradiction fun h => by rw [kmE_bad h] at hc; omega
  obtain ⟨a1, a2, a3, a4⟩ := hk
  have hk : kmOk k m := ⟨a1, a2, a3, a4⟩
  refine ⟨_, r8.cell, _, r10.cell, _, _, _, r12.cell, _, _, _, r14.cell, ?_⟩
  refine (size_spec (c3 := c3) (c4 := c4) (h3.ext x15) (h4.ext x15) hk).mono ?_
  rintro e w26 ⟨⟨r, rfl, hr⟩, rfl⟩
  refine ⟨_, rfl, condB_of (fun hneg => ?_) (fun hneg => ?_)⟩
  · simp only [decide_eq_true_eq] at hneg
    rcases hr with ⟨_, hno⟩ | ⟨h0, _⟩
    · exact ⟨x15, .inr (.inl ⟨hk, hno, rfl⟩)⟩
    · omega
  simp only [decide_eq_false_iff_not] at hneg
  rcases hr with ⟨h0, _⟩ | ⟨hr0, hsz⟩
  · omega
  have e3 := h3.1
  have e4 := h4.1
  have z1 := hsz.1
  have z2 := hsz.2.1
  have hn : (k + m).toNat = l3 := by omega
  have hn2 : k.toNat + m.toNat = l3 := by omega
  refine ⟨_, r8.cell, _, r10.cell, ?_⟩
  rw [w64 (n := k + m) (by omega), hn]
  refine ⟨⟨by omega, by omega, by omega⟩, fun k31 w32 h31 k33 w34 h33 => ?_⟩
  have t33 : RowK w34 k33 36 #[.slice none 0 0] := h33.at
  have m31 := made_one 22 (.slice none 0 0) (by kernel_rfl) l3
  have m40 := made_one 4 (.bool false) (by kernel_rfl) l3
  rw [m31] at h31
  refine ⟨t33.live, fun w35 s35 => ?_⟩
  have t33' := t33.set s35
  have u35 := setK_upd s35
  have k33ge : w26.heap.size ≤ k33 := by rw [h33.size.1]; have := h31.size.2; omega
  have x35 : Ext w26 w35 := OwnB.new_ext (h31.ext.trans h33.ext) u35 fun y hy => by rw [show y = k33 from hy]; exact k33ge
  intro k36 w37 h36
  have x37 : Ext w26 w37 := x35.trans h36.ext
  refine ⟨_, RowK.cell (x37.keep r8), _, RowK.cell (x37.keep r10), ?_⟩
  rw [w64 (n := k + m) (by omega), hn]
  refine ⟨⟨by omega, by omega, by omega⟩, fun k40 w41 h40 k42 w43 h42 => ?_⟩
  rw [m40] at h40
  have t42 : RowK w43 k42 23 #[.slice none 0 0] := h42.at
  refine ⟨t42.live, fun w44 s44 => ?_⟩
  have u44 := setK_upd s44
  have szw := x15.size
  have sz37 := x37.size
  have k40ge : w37.heap.size ≤ k40 := by rw [h40.size.1]; exact Nat.le_refl _
  have k42ge : w37.heap.size ≤ k42 := by rw [h42.size.1]; have := h40.size.2; omega
  have x44 : Ext w37 w44 := OwnB.new_ext (h40.ext.trans h42.ext) u44 fun y hy => by rw [show y = k42 from hy]; exact k42ge
  have x1944 := x37.trans x44
  have xw44 := x15.trans x1944
  have r31 : RowK w35 k31 22 (List.replicate l3 (.slice none 0 0)).toArray := RowK.keep (h33.ext.keep h31.at) u35 fun y hy => ⟨#[.slice none 0 0], _, (0, 0), by rw [show y = k33 from hy]; exact t33, ty_row.2.2.2.1.symm⟩
  have k31ge : w26.heap.size ≤ k31 := by rw [h31.size.1]; exact Nat.le_refl _
  have st0 : ShSt w w44 k m l3 f p3 p4 l3 c3 l4 c4 k6 k8 k10 k12 k14 k33 k36 k42 k31 k40 (fun i => ([] : List (List UInt8)).map fun c => co c i) [] := by
    have h15 : ∀ {k' : Nat} {e : TypeId} {cs : Array Value}, RowK w26 k' e cs → k' < w26.heap.size := fun h => lt_of_heap h
    have lt37 : k31 < w37.heap.size := lt_of_heap (h36.ext.keep r31)
    refine ⟨xw44, by rw [h36.size.1]; exact (x15.trans x35).size, by omega, x1944.keep r6, x1944.keep r8, x1944.keep r10, x1944.keep r12, x1944.keep r14, x44.keep (h36.ext.keep t33'), t42.set s44,
      ⟨by have := h15 r12; omega, by have := h15 r14; omega⟩, ⟨none, 0, 0, w37.heap.size, by omega, x44.size, by have := h15 r8; omega, by have := h15 r10; omega, x44.keep h36.at, OwnS.nil _ _ _ _⟩,
      ⟨⟨_, x44.keep (h36.ext.keep r31), by simp⟩, by omega, fun _ => (none, 0, 0), fun i hi => ⟨?_, OwnS.nil _ _ _ _⟩, fun _ _ _ _ _ g hg => by cases hg⟩, ⟨(List.replicate l3 (.bool false)).toArray, ?_, by simp⟩⟩
    · rw [rowk_cell (x44.keep (h36.ext.keep r31))]
      simp [hi]
    · exact RowK.keep (h42.ext.keep h40.at) u44 fun y hy => ⟨#[.slice none 0 0], _, (0, 0), by rw [show y = k42 from hy]; exact t42, ty_all.2.2.2.2.1.symm⟩
  refine ⟨⟨by omega, by omega, rfl, k6, k8, k10, k12, k14, k33, k36, k42, k31, k40, [], [], rfl, rfl, rfl, rfl, rfl, rfl, rfl, rfl, rfl, fun t ht => (Nat.not_lt_zero _ ht).elim, st0, Nat.zero_le _, fun i => ⟨(fun h => by cases h), fun ⟨_, ht, _⟩ => (Nat.not_lt_zero _ ht).elim⟩⟩, ?_⟩
  rintro fl x w58 ⟨hx0, hx1, rfl, k6', k8', k10', k12', k14', k33', k36', k42', k31', k40', cs, wr, g1, g2, g3, g4, g5, g6, g7, g8, hcl, hcs, st, hwl, hwm⟩
  simp only [Option.some.injEq, at0, Addr.mk.injEq, and_true] at g1 g2 g3 g4 g5 g6 g7 g8
  subst g1 g2 g3 g4 g5 g6 g7 g8
  intros
  have hlenL : ∀ i, i < l3 → hs.getD i false = true → r.toNat ≤ 1048576 := fun i hi hb => by
    rw [← hsz.2.2.2 i hi hb, List.getD_eq_getElem?_getD, List.getElem?_eq_getElem (by omega)]
    exact bl _ (List.getElem_mem _)
  obtain ⟨i0, hi0, hb0⟩ := hsz.2.2.1
  have hr20 := hlenL i0 hi0 hb0
  refine condB_of (fun hs2 => ?_) (fun hs2 => ?_)
  · simp only [decide_eq_true_eq] at hs2
    have hsp := right_spec hf h3 h4 hk (by omega) hsz (x := x.toNat) (by omega) (by omega) (fun t _ => by rw [List.length_map]; omega) hwl st
    rw [show ((x.toNat : Nat) : Int) = x by omega] at hsp
    refine hsp.mono ?_
    rintro e w68 ⟨hx68, ⟨hd, rfl⟩ | ⟨c, hd, rfl, st'⟩⟩
    · refine ⟨_, rfl, condB_of (fun _ => ?_) (fun h => by simp at h)⟩
      unfold F16_A0
      refine condB_of (fun _ => ?_) (fun h => by simp at h)
      exact ⟨hx68, .inr (.inr ⟨hk, r.toNat, hsz, .inl ⟨⟨x.toNat, by omega, hd⟩, rfl⟩⟩)⟩
    · refine ⟨_, rfl, condB_of (fun h => by simp at h) fun _ => ?_⟩
      rw [w64 (n := x + 1) (by omega)]
      have hnx : (x + 1).toNat = x.toNat + 1 := by omega
      rw [hn2] at st'
      refine ⟨⟨by omega, by omega, rfl, _, _, _, _, _, _, _, _, k31', k40', cs ++ [c], wr ++ dif l3 (nots hs) c (wordAt l3 hs L x.toNat), rfl, rfl, rfl, rfl, rfl, rfl, rfl, rfl, by simp; omega, fun t ht => ?_, ?_, ?_, fun i => ?_⟩, by show (r - (x + 1)).toNat < (r - x).toNat; omega⟩
      · by_cases e : t < x.toNat
        · rw [getD_snoc (by omega)]; exact hcs t e
        · have e2 : t = cs.length := by omega
          rw [e2, getD_last, hcl]; exact hd
      · have e1 : (fun i => (cs ++ [c]).map fun c => co c i) = fun i => (cs.map fun c => co c i) ++ [co c i] := by funext i; simp
        rw [e1]; exact st'
      · have := dif_len_le (n := l3) (ms := nots hs) (a := c) (b := wordAt l3 hs L x.toNat)
        rw [List.length_append]
        omega
      · rw [List.mem_append, hwm, hnx]
        constructor
        · rintro (⟨t, ht, hi⟩ | hi)
          · exact ⟨t, by omega, by rw [getD_snoc (by omega)]; exact hi⟩
          · exact ⟨x.toNat, by omega, by rw [← hcl, getD_last, hcl]; exact hi⟩
        · rintro ⟨t, ht, hi⟩
          by_cases e : t < x.toNat
          · rw [getD_snoc (by omega)] at hi; exact .inl ⟨t, e, hi⟩
          · have e2 : t = cs.length := by omega
            rw [e2, getD_last, hcl] at hi; exact .inr hi
  · simp only [decide_eq_false_iff_not] at hs2
    obtain rfl : x = r := by omega
    unfold F16_A0
    refine condB_of (fun h => by simp at h) fun _ => ?_
    obtain ⟨pw_, nw, cw, b, hb1, hb2, _, _, hr36, how⟩ := st.r36
    have hwn := OwnN.len how
    refine ⟨_, _, _, hr36.cell, (sort_own how (by omega)).mono ?_⟩
    rintro e w72 ⟨rfl, l', ho72, u72, hperm, hsrt⟩
    have tyw : ∀ {e : TypeId}, 3 ≠ e → ∀ y, pw_ = some (at0 y) → ∃ (cs : Array Value) (e' : TypeId) (fz : Nat × Nat), w58.heap[y]? = some (Obj.cells cs e' fz) ∧ e' ≠ e := fun he y hy => by
      obtain ⟨cs, e', fz, h7, h8⟩ := OwnS.typed how hy
      exact ⟨cs, e', fz, h7, by rw [h8]; exact he⟩
    have hr36' : RowK w72 k36 28 #[.slice pw_ nw cw] := RowK.keep hr36 u72 (tyw ty_int.2.2.2.2.1)
    have hr33' : RowK w72 k33 36 #[.slice (some (at0 k31')) l3 l3] := RowK.keep st.r33 u72 (tyw ty_int.2.2.2.1)
    have out72 : OutAt w72 w.heap.size k31' l3 (fun i => cs.map fun c => co c i) := OutAt.other st.out u72 fun y hy => by
      obtain ⟨cs, e', fz, h7, h8⟩ := OwnS.typed how hy
      exact ⟨cs, e', fz, h7, by rw [h8]; exact ty_out.2.2.1.symm, by rw [h8]; exact ty_int.2.1⟩
    have x72 : Ext w w72 := OwnB.new_ext st.ext u72 fun y hy => Nat.le_trans hb1 (OwnS.blk how hy)
    refine ⟨rfl, fun w74 hd74 => ?_⟩
    have r36b : RowK w74 k36 28 #[.slice pw_ nw cw] := hd74.ext.keep hr36'
    have r33b : RowK w74 k33 36 #[.slice (some (at0 k31')) l3 l3] := hd74.ext.keep hr33'
    have ho74 : OwnN w74 b pw_ nw cw l' := OwnS.ext ho72 hd74.ext
    refine ⟨_, _, _, r33b.cell, _, _, _, r36b.cell, (compact_own ho74 hsrt (by omega)).mono ?_⟩
    rintro e w77 ⟨n', W, rfl, hoW, u77, hW1, hW2⟩
    have tyw2 : ∀ {e : TypeId}, 3 ≠ e → ∀ y, pw_ = some (at0 y) → ∃ (cs : Array Value) (e' : TypeId) (fz : Nat × Nat), w74.heap[y]? = some (Obj.cells cs e' fz) ∧ e' ≠ e := fun he y hy => by
      obtain ⟨cs, e', fz, h7, h8⟩ := OwnS.typed ho74 hy
      exact ⟨cs, e', fz, h7, by rw [h8]; exact he⟩
    have r33c : RowK w77 k33 36 #[.slice (some (at0 k31')) l3 l3] := RowK.keep r33b u77 (tyw2 ty_int.2.2.2.1)
    refine ⟨_, _, _, rfl, ⟨_, _, _, r33c.cell, rfl⟩, ?_, .inr (.inr ⟨hk, x.toNat, hsz, .inr ⟨cs, hcl, hcs, k31', pw_, n', cw, W, rfl, ?_, OwnS.base_le hoW hb1, hW1, fun i => ?_⟩⟩)⟩
    · exact OwnB.new_ext (x72.trans hd74.ext) u77 fun y hy => Nat.le_trans hb1 (OwnS.blk ho74 hy)
    · exact OutAt.other (out72.ext hd74.ext) u77 fun y hy => by
        obtain ⟨cs, e', fz, h7, h8⟩ := OwnS.typed ho74 hy
        exact ⟨cs, e', fz, h7, by rw [h8]; exact ty_out.2.2.1.symm, by rw [h8]; exact ty_int.2.1⟩
    · rw [hW2, hperm.mem_iff, hwm]
end Go.Proofs.Ytpmkjpgoekjcfaa

/- What the statements compare with; calls whose answers are fixed. -/
namespace Go.Proofs.Ytpmkjpgoekjcfaa
open Go Go.Vc Go.Gf

def NatsAt (w : World) (p : Option Addr) (n : Nat) (l : List Nat) : Prop := n = l.length ∧ CellsAt w p (encN l)
theorem NatsAt.ext {w w' : World} {p : Option Addr} {n : Nat} {l : List Nat} (h : NatsAt w p n l) (hu : Ext w w') : NatsAt w' p n l := ⟨h.1, h.2.ext hu⟩
theorem NatsAt.get {w : World} {p : Option Addr} {n : Nat} {l : List Nat} (h : NatsAt w p n l) {i : Nat} (hi : i < n) : ∃ a, p = some a ∧ w.cell? (a.add i) = some (.int .i64 ((l.getD i 0 : Nat) : Int)) := by
  have hlt : i < l.length := by rw [← h.1]; exact hi
  obtain ⟨a, ha, hc⟩ := h.2 i (.int .i64 ((l[i] : Nat) : Int)) (by simp [encN, hlt])
  exact ⟨a, ha, by rw [hc]; simp [List.getD_eq_getElem?_getD, hlt]⟩
theorem OwnN.nats {w : World} {base : Nat} {p : Option Addr} {n c : Nat} {l : List Nat} (h : OwnN w base p n c l) : NatsAt w p n l := ⟨OwnN.len h, OwnS.cells h⟩
theorem getD_ext {xs ys : List Nat} (hl : xs.length = ys.length) (h : ∀ i, i < xs.length → xs.getD i 0 = ys.getD i 0) : xs = ys := by
  refine List.ext_getElem hl fun i hi hj => ?_
  have := h i hi
  simpa [List.getD_eq_getElem?_getD, hi, hj] using this

theorem ints_spec {p1 p2 : Option Addr} {l1 c1 l2 c2 : Nat} {w : World} {xs ys : List Nat} (h1 : NatsAt w p1 l1 xs) (h2 : NatsAt w p2 l2 ys) (hm : l1 ≤ 4611686018427387904) :
    Calls Try.prog 15 #[.slice p1 l1 c1, .slice p2 l2 c2] w fun e w' => e = .returned (.bool (decide (xs = ys))) ∧ Ext w w' := by
  refine (F15_calls p1 l1 c1 p2 l2 c2 w (fun v w' => v = .bool (decide (xs = ys)) ∧ Ext w w')
    (fun _ i w1 => 0 ≤ i ∧ i ≤ l1 ∧ Ext w w1 ∧ ∀ j : Nat, (j : Int) < i → xs.getD j 0 = ys.getD j 0) (fun _ i _ => (l1 - i).toNat) ?_).mono (by rintro e w' ⟨v, rfl, rfl, h⟩; exact ⟨rfl, h⟩)
  unfold F15
  have hx := h1.1
  have hy := h2.1
  refine condB_of (fun hc => ?_) (fun hc => ?_)
  · simp only [Bool.not_eq_true', decide_eq_false_iff_not] at hc
    have : xs ≠ ys := by rintro rfl; omega
    exact ⟨by simp [this], Upd.refl _ _⟩
  · simp only [Bool.not_eq_false', decide_eq_true_eq] at hc
    refine ⟨⟨by omega, by omega, Upd.refl _ _, fun j hj => by omega⟩, ?_⟩
    rintro i w4 ⟨hi0, hi1, hq, hall⟩
    intros
    refine condB_of (fun ht => ?_) (fun ht => ?_)
    · simp only [decide_eq_true_eq] at ht
      intro w21 hd
      have hq2 := hq.trans hd.ext
      refine ⟨⟨hi0, ht⟩, ?_⟩
      obtain ⟨a, rfl, ha⟩ := (h1.ext hq2).get (i := i.toNat) (by omega)
      obtain ⟨b, rfl, hb⟩ := (h2.ext hq2).get (i := i.toNat) (by omega)
      refine ⟨_, by rw [Nat.mul_one]; exact ha, ⟨hi0, by omega⟩, _, by rw [Nat.mul_one]; exact hb, ?_⟩
      refine condB_of (fun hn => ?_) (fun hn => ?_)
      · simp only [Bool.not_eq_true', decide_eq_false_iff_not] at hn
        have : xs ≠ ys := by rintro rfl; exact hn rfl
        exact ⟨by simp [this], hq2⟩
      · simp only [Bool.not_eq_false', decide_eq_true_eq] at hn
        rw [w64 (by omega)]
        refine ⟨⟨by omega, by omega, hq2, fun j hj => ?_⟩, by show ((l1 : Int) - (i + 1)).toNat < ((l1 : Int) - i).toNat; omega⟩
        by_cases h : (j : Int) < i
        · exact hall j h
        · have : j = i.toNat := by omega
          rw [this]; omega
    · simp only [decide_eq_false_iff_not] at ht
      have : xs = ys := getD_ext (by omega) fun j hj => hall j (by omega)
      exact ⟨by simp [this], hq⟩

theorem lsame_spec {p1 p2 : Option Addr} {l1 c1 l2 c2 : Nat} {w : World} {xs ys : List (List UInt8)} (h1 : ListsAt w p1 l1 xs) (h2 : ListsAt w p2 l2 ys) (hm : l1 ≤ 4611686018427387904) (hb : ∀ x ∈ xs, x.length ≤ 4611686018427387904) :
    Calls Try.prog 18 #[.slice p1 l1 c1, .slice p2 l2 c2] w fun e w' => e = .returned (.bool (decide (xs = ys))) ∧ Ext w w' := by
  refine (F18_calls p1 l1 c1 p2 l2 c2 w (fun v w' => v = .bool (decide (xs = ys)) ∧ Ext w w')
    (fun _ i w1 => 0 ≤ i ∧ i ≤ l1 ∧ Ext w w1 ∧ ∀ j : Nat, (j : Int) < i → xs.getD j [] = ys.getD j []) (fun _ i _ => (l1 - i).toNat) ?_).mono (by rintro e w' ⟨v, rfl, rfl, h⟩; exact ⟨rfl, h⟩)
  unfold F18
  have hx := h1.1
  have hy := h2.1
  refine condB_of (fun hc => ?_) (fun hc => ?_)
  · simp only [Bool.not_eq_true', decide_eq_false_iff_not] at hc
    have : xs ≠ ys := by rintro rfl; omega
    exact ⟨by simp [this], Upd.refl _ _⟩
  · simp only [Bool.not_eq_false', decide_eq_true_eq] at hc
    refine ⟨⟨by omega, by omega, Upd.refl _ _, fun j hj => by omega⟩, ?_⟩
    rintro i w4 ⟨hi0, hi1, hq, hall⟩
    intros
    refine condB_of (fun ht => ?_) (fun ht => ?_)
    · simp only [decide_eq_true_eq] at ht
      intro w21 hd
      have hq2 := hq.trans hd.ext
      refine ⟨⟨hi0, ht⟩, ?_⟩
      obtain ⟨a, q, n, c, rfl, ha, hqb, _⟩ := (h1.ext hq2).2 i.toNat (by omega)
      obtain ⟨b, q', n', c', rfl, hb', hqb', _⟩ := (h2.ext hq2).2 i.toNat (by omega)
      have hlx : (xs.getD i.toNat []).length ≤ 4611686018427387904 := by
        rw [List.getD_eq_getElem?_getD, List.getElem?_eq_getElem (by omega)]
        exact hb _ (List.getElem_mem _)
      refine ⟨_, _, _, by rw [Nat.mul_one]; exact ha, ⟨hi0, by omega⟩, _, _, _, by rw [Nat.mul_one]; exact hb', ?_⟩
      refine (same_spec hqb hqb' (by rw [hqb.1]; exact hlx)).mono ?_
      rintro e w29 ⟨rfl, hq29⟩
      have hx29 := hq2.trans hq29.ext
      refine ⟨_, rfl, condB_of (fun hn => ?_) (fun hn => ?_)⟩
      · simp only [Bool.not_eq_true', decide_eq_false_iff_not] at hn
        have : xs ≠ ys := by rintro rfl; exact hn rfl
        exact ⟨by simp [this], hx29⟩
      · simp only [Bool.not_eq_false', decide_eq_true_eq] at hn
        rw [w64 (by omega)]
        refine ⟨⟨by omega, by omega, hx29, fun j hj => ?_⟩, by show ((l1 : Int) - (i + 1)).toNat < ((l1 : Int) - i).toNat; omega⟩
        by_cases h : (j : Int) < i
        · exact hall j h
        · have : j = i.toNat := by omega
          rw [this]; exact hn
    · simp only [decide_eq_false_iff_not] at ht
      have : xs = ys := by
        refine List.ext_getElem (by omega) fun j hj1 hj2 => ?_
        have := hall j (by omega)
        simpa [List.getD_eq_getElem?_getD, hj1, hj2] using this
      exact ⟨by simp [this], hq⟩

/-! ## the answers -/
theorem dA : decM 1 2 [5, 9, 140] [false, false, false] = some [5, 5, 140] := by
  refine decM_some (by decide) ⟨⟨rfl, fun l hl => ?_⟩, by decide⟩
  rcases (by omega : l = 0 ∨ l = 1) with rfl | rfl
  · kernel_rfl
  · kernel_rfl
theorem dif_A : dif 3 [false, false, false] [5, 5, 140] [5, 9, 140] = [1] := by decide
theorem dB_all : (alln 256 fun n => !decide (2 * (dif 3 [false, false, false] (enc 1 2 [pt n]) [5, 9, 7]).length + (mis 3 [false, false, false]).length ≤ 2)) = true := by kernel_rfl
theorem pt_toNat (a : UInt8) : pt a.toNat = a := by unfold pt; exact UInt8.ofNat_toNat
theorem dB : decM 1 2 [5, 9, 7] [false, false, false] = none := by
  refine decM_none fun c hc => ?_
  have he := hc.code.enc (by decide)
  have hl := hc.code.1
  obtain ⟨a, ha⟩ : ∃ a, c.take 1 = [a] := by
    match c, hl with
    | a :: _, _ => exact ⟨a, rfl⟩
  rw [ha] at he
  have h1 := alln_of dB_all a.toNat (u8lt a)
  rw [pt_toNat, ← he] at h1
  have := hc.few
  simp only [Bool.not_eq_true', decide_eq_false_iff_not] at h1
  exact h1 this
theorem dC : decM 1 2 (wordAt 3 [true, false, true] [[14], [], [7]] 0) (nots [true, false, true]) = some [14, 14, 7] := by
  refine decM_some (by decide) ⟨⟨rfl, fun l hl => ?_⟩, by decide⟩
  rcases (by omega : l = 0 ∨ l = 1) with rfl | rfl
  · kernel_rfl
  · kernel_rfl
theorem flags_row {w w1 : World} {k : Nat} {ks : List Bool} (hk : NewB w k (.cells (ks.map Value.bool).toArray 4) w1) : FlagsAt w1 (some (at0 k)) ks.length ks :=
  ⟨rfl, fun j u hj => ⟨_, rfl, hk.row.row.cell (by rw [List.getElem?_toArray]; exact hj)⟩⟩
theorem kmOk12 : kmOk 1 2 := by decide
theorem sized12 : Sized 1 2 3 3 [true, false, true] [[14], [], [7]] 1 := by
  refine ⟨by decide, by decide, ⟨0, by decide, rfl⟩, fun i hi hb => ?_⟩
  rcases (by omega : i = 0 ∨ i = 1 ∨ i = 2) with rfl | rfl | rfl
  · rfl
  · cases hb
  · rfl
theorem Sized.one {k m : Int} {l3 l4 : Nat} {hs : List Bool} {L : List (List UInt8)} {s t : Nat} (h : Sized k m l3 l4 hs L s) (h' : Sized k m l3 l4 hs L t) : s = t := by
  obtain ⟨i, hi, hb⟩ := h.2.2.1
  rw [← h.2.2.2 i hi hb, h'.2.2.2 i hi hb]

set_option maxHeartbeats 4000000 in
theorem awake_spec (w : World) : Calls Try.prog 9 #[] w fun e w' => e = .returned (.bool true) ∧ Ext w w' := by
  refine (F9_calls w (fun v w' => v = .bool true ∧ Ext w w') ?_).mono (by rintro e w' ⟨v, rfl, rfl, h⟩; exact ⟨rfl, h⟩)
  refine (fnew_spec w).mono ?_
  rintro e w1 ⟨k, rfl, x1, _, hf⟩
  refine ⟨_, rfl, condB_of (fun h => by cases h) fun _ => ?_⟩
  intro k4 w5 h5 k6 w7 h7
  have o5 := row_bytes (bs := [5, 9, 140]) h5 (by unfold maxLen; simp)
  have f7 := flags_row (ks := [false, false, false]) h7
  have x7 := h5.ext.trans h7.ext
  refine (word_spec (c4 := 3) (c5 := 3) (hf.ext x7) (OwnB.bytes (OwnB.ext o5 h7.ext)) f7 1 2).mono ?_
  rintro e w8 ⟨v, rfl, x8, ⟨h, _⟩ | ⟨_, h, _⟩ | ⟨_, _, _, ⟨h, _⟩ | ⟨c, hc, p1, c1, p2, n2, c2, rfl, oc, od⟩⟩⟩
  · exact (h kmOk12).elim
  · exact (h ⟨rfl, rfl⟩).elim
  · rw [show (1 : Int).toNat = 1 from rfl, show (2 : Int).toNat = 2 from rfl, dA] at h; cases h
  rw [show (1 : Int).toNat = 1 from rfl, show (2 : Int).toNat = 2 from rfl, dA] at hc
  cases hc
  have od' : OwnN w8 w7.heap.size p2 n2 c2 [1] := od
  have ln2 := OwnN.len od'
  have xx8 := x1.trans (x7.trans x8)
  refine ⟨_, _, _, _, _, _, _, rfl, fun k13 w14 h14 k15 w16 h16 => ?_⟩
  have o14 := row_bytes (bs := [5, 9, 7]) h14 (by unfold maxLen; simp)
  have f16 := flags_row (ks := [false, false, false]) h16
  have x16 := h14.ext.trans h16.ext
  refine (word_spec (c4 := 3) (c5 := 3) (hf.ext (x7.trans (x8.trans x16))) (OwnB.bytes (OwnB.ext o14 h16.ext)) f16 1 2).mono ?_
  rintro e w17 ⟨v, rfl, x17, ⟨h, _⟩ | ⟨_, h, _⟩ | ⟨_, _, _, ⟨_, rfl⟩ | ⟨c, hc, _⟩⟩⟩
  · exact (h kmOk12).elim
  · exact (h ⟨rfl, rfl⟩).elim
  rotate_left
  · rw [show (1 : Int).toNat = 1 from rfl, show (2 : Int).toNat = 2 from rfl, dB] at hc; cases hc
  refine ⟨_, _, _, _, _, _, _, rfl, fun k22 w23 h23 k24 w25 h25 k26 w27 h27 k28 w29 h29 => ?_⟩
  have f23 := flags_row (ks := [true, false, true]) h23
  have o25 := row_bytes (bs := [14]) h25 (by unfold maxLen; simp)
  have o27 := row_bytes (bs := [7]) h27 (by unfold maxLen; simp)
  have x29 : Ext w17 w29 := h23.ext.trans (h25.ext.trans (h27.ext.trans h29.ext))
  have l29 : ListsAt w29 (some (at0 k28)) 3 [[14], [], [7]] := by
    refine ⟨rfl, fun i hi => ?_⟩
    rcases (by omega : i = 0 ∨ i = 1 ∨ i = 2) with rfl | rfl | rfl
    · exact ⟨_, _, _, _, rfl, h29.row.row.cell rfl, OwnB.bytes (OwnB.ext o25 (h27.ext.trans h29.ext)), Nat.le_refl _⟩
    · exact ⟨_, _, _, _, rfl, h29.row.row.cell rfl, BytesAt.nil _ _, Nat.le_refl _⟩
    · exact ⟨_, _, _, _, rfl, h29.row.row.cell rfl, OwnB.bytes (OwnB.ext o27 h29.ext), Nat.le_refl _⟩
  have x29' : Ext w1 w29 := x7.trans (x8.trans (x16.trans (x17.trans x29)))
  refine (shards_spec (c3 := 3) (c4 := 3) (hf.ext x29') (f23.ext (h25.ext.trans (h27.ext.trans h29.ext))) l29 1 2 (fun x hx => by
    rcases List.mem_cons.1 hx with rfl | hx
    · simp
    · rcases List.mem_cons.1 hx with rfl | hx
      · simp
      · rw [List.mem_singleton] at hx; subst hx; simp)).mono ?_
  rintro e w30 ⟨v, rfl, x30, ⟨h, _⟩ | ⟨_, h, _⟩ | ⟨_, s, hs, hv⟩⟩
  · exact (h kmOk12).elim
  · exact (h 1 sized12).elim
  obtain rfl : s = 1 := hs.one sized12
  have dC' : decM (1 : Int).toNat (2 : Int).toNat (wordAt 3 [true, false, true] [[14], [], [7]] 0) (nots [true, false, true]) = some [14, 14, 7] := dC
  rcases hv with ⟨⟨x, hx, hno⟩, _⟩ | ⟨cs, hcl, hcs, ko, p33, n33, c33, W, rfl, out, oW, hW1, hW2⟩
  · obtain rfl : x = 0 := by omega
    rw [show wordAt [true, false, true].length _ _ _ = wordAt 3 _ _ _ from rfl, dC'] at hno
    cases hno
  have h0 := hcs 0 (by omega)
  rw [show wordAt [true, false, true].length [true, false, true] [[14], [], [7]] 0 = wordAt 3 [true, false, true] [[14], [], [7]] 0 from rfl, dC'] at h0
  have hcs1 : cs = [[14, 14, 7]] := by
    match cs, hcl with
    | [c], _ =>
      simp only [List.getD_cons_zero, Option.some.injEq] at h0
      rw [h0]
  subst hcs1
  have hWn : W = [] := by
    refine List.eq_nil_iff_forall_not_mem.2 fun i hi => ?_
    obtain ⟨x, hx, hd⟩ := (hW2 i).1 hi
    obtain rfl : x = 0 := by omega
    have : dif 3 (nots [true, false, true]) [14, 14, 7] (wordAt 3 [true, false, true] [[14], [], [7]] 0) = [] := by decide
    rw [show dif [true, false, true].length (nots [true, false, true]) ([[14, 14, 7]].getD 0 []) (wordAt [true, false, true].length [true, false, true] [[14], [], [7]] 0) = [] from this] at hd
    cases hd
  subst hWn
  have ln33 := OwnN.len oW
  have xx30 := x29'.trans x30
  have x830 : Ext w8 w30 := x16.trans (x17.trans (x29.trans x30))
  refine ⟨_, _, _, _, _, _, _, rfl, fun k35 w36 h36 => ?_⟩
  have o36 := row_bytes (bs := [5, 5, 140]) h36 (by unfold maxLen; simp)
  refine (same_spec (c1 := c1) (OwnB.bytes (OwnB.ext oc (x830.trans h36.ext))) (OwnB.bytes o36) (by simp)).mono ?_
  rintro e w37 ⟨rfl, q37⟩
  have x37 := h36.ext.trans q37.ext
  refine ⟨_, rfl, fun k40 w41 h41 k42 w43 h43 k44 w45 h45 k46 w47 h47 => ?_⟩
  have o41 := row_bytes (bs := [14]) h41 (by unfold maxLen; simp)
  have o43 := row_bytes (bs := [14]) h43 (by unfold maxLen; simp)
  have o45 := row_bytes (bs := [7]) h45 (by unfold maxLen; simp)
  have x47 : Ext w30 w47 := x37.trans (h41.ext.trans (h43.ext.trans (h45.ext.trans h47.ext)))
  have l47 : ListsAt w47 (some (at0 k46)) 3 [[14], [14], [7]] := by
    refine ⟨rfl, fun i hi => ?_⟩
    rcases (by omega : i = 0 ∨ i = 1 ∨ i = 2) with rfl | rfl | rfl
    · exact ⟨_, _, _, _, rfl, h47.row.row.cell rfl, OwnB.bytes (OwnB.ext o41 (h43.ext.trans (h45.ext.trans h47.ext))), Nat.le_refl _⟩
    · exact ⟨_, _, _, _, rfl, h47.row.row.cell rfl, OwnB.bytes (OwnB.ext o43 (h45.ext.trans h47.ext)), Nat.le_refl _⟩
    · exact ⟨_, _, _, _, rfl, h47.row.row.cell rfl, OwnB.bytes (OwnB.ext o45 h47.ext), Nat.le_refl _⟩
  have lo : ListsAt w47 (some (at0 ko)) 3 [[14], [14], [7]] := (OutAt.lists out).ext x47
  refine (lsame_spec (c1 := 3) (c2 := 3) lo l47 (by omega) (fun x hx => by
    rcases List.mem_cons.1 hx with rfl | hx
    · simp
    · rcases List.mem_cons.1 hx with rfl | hx
      · simp
      · rw [List.mem_singleton] at hx; subst hx; simp)).mono ?_
  rintro e w48 ⟨rfl, x48⟩
  have od48 : OwnN w48 w7.heap.size p2 n2 c2 [1] := OwnS.ext od' (x830.trans (x47.trans x48))
  obtain ⟨k2, rfl, hcell, _⟩ := OwnN.get od48 (i := 0) (by rw [ln2]; decide)
  have hl2 : n2 = 1 := ln2
  have hl3 : n33 = 0 := ln33
  subst hl2 hl3
  have xall := x1.trans (xx30.trans (x47.trans x48))
  refine ⟨_, rfl, ?_⟩
  refine condB_of (fun _ => ?_) (fun h => by simp at h)
  refine condB_of (fun _ => ?_) (fun h => by simp at h)
  refine condB_of (fun _ => ?_) (fun h => by simp at h)
  refine ⟨⟨by omega, by omega⟩, _, hcell, ?_⟩
  refine condB_of (fun _ => ?_) (fun h => by simp at h)
  refine condB_of (fun _ => ?_) (fun h => by simp at h)
  refine condB_of (fun _ => ?_) (fun h => by simp at h)
  refine condB_of (fun _ => ?_) (fun h => by simp at h)
  exact ⟨rfl, xall⟩
end Go.Proofs.Ytpmkjpgoekjcfaa
