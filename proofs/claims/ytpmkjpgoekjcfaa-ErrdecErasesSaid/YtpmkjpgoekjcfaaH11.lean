/- How many shards may be; weights; syndromes. -/
import Derived.Test.YtpmkjpgoekjcfaaH10
namespace Go.Proofs.Ytpmkjpgoekjcfaa
open Go Go.Vc Go.Gf

def kmOk (k m : Int) : Prop := 1 ≤ k ∧ 0 ≤ m ∧ k ≤ 256 ∧ m ≤ 256 - k
instance (k m : Int) : Decidable (kmOk k m) := inferInstanceAs (Decidable (_ ∧ _ ∧ _ ∧ _))
def kmE (k m : Int) : Int := if kmOk k m then 0 else 50
theorem kmE_ok {k m : Int} (h : kmOk k m) : kmE k m = 0 := if_pos h
theorem kmE_bad {k m : Int} (h : ¬ kmOk k m) : kmE k m = 50 := if_neg h

theorem ccheck_spec (k m : Int) (w : World) : Calls Try.prog 19 #[.int .i64 k, .int .i64 m] w fun e w' => e = .returned (.int .i64 (kmE k m)) ∧ w' = w := by
  refine (F19_calls k m w (fun v w' => v = .int .i64 (kmE k m) ∧ w' = w) ?_).mono (by rintro e w' ⟨v, rfl, rfl, h⟩; exact ⟨rfl, h⟩)
  unfold F19
  refine condB_of (fun h => ⟨?_, rfl⟩) fun h1 => condB_of (fun h => ⟨?_, rfl⟩) fun h2 => condB_of (fun h => ⟨?_, rfl⟩) fun h3 => condB_of (fun h => ⟨?_, rfl⟩) fun h4 => ⟨?_, rfl⟩
  · simp only [decide_eq_true_eq] at h
    rw [kmE_bad fun hk => by have := hk.1; omega]
  · simp only [decide_eq_true_eq] at h
    rw [kmE_bad fun hk => by have := hk.2.1; omega]
  · simp only [decide_eq_true_eq] at h
    rw [kmE_bad fun hk => by have := hk.2.2.1; omega]
  · simp only [decide_eq_false_iff_not] at h1 h2 h3
    simp only [decide_eq_true_eq] at h
    rw [w64 (by omega)] at h
    rw [kmE_bad fun hk => by have := hk.2.2.2; omega]
  · simp only [decide_eq_false_iff_not] at h1 h2 h3 h4
    rw [w64 (by omega)] at h4
    rw [kmE_ok ⟨by omega, by omega, by omega, by omega⟩]

theorem bx64 {a b : Nat} (ha : a < 4294967296) (hb : b < 4294967296) : bitsV .xor .i64 (a : Int) (b : Int) = ((a ^^^ b : Nat) : Int) := by
  show IntKind.i64.wrap (((BitVec.ofInt 64 (a : Int)) ^^^ (BitVec.ofInt 64 (b : Int))).toNat : Int) = _
  have e : ∀ x : Nat, x < 4294967296 → (BitVec.ofInt 64 (x : Int)).toNat = x := fun x hx => by rw [BitVec.toNat_ofInt]; omega
  have hx : a ^^^ b < 2 ^ 32 := Nat.xor_lt_two_pow ha hb
  rw [BitVec.toNat_xor, e a ha, e b hb, w64 (by omega)]
theorem px {a b : Nat} (ha : a < 4294967296) (hb : b < 4294967296) : IntKind.u8.wrap (bitsV .xor .i64 (a : Int) (b : Int)) = ((pt a ^^^ pt b).toNat : Int) := by
  rw [bx64 ha hb, wrap8 _ (by omega), Int.toNat_natCast, pt_xor]

set_option maxHeartbeats 1000000 in
theorem weight_spec {k m i qk qm qf : Nat} {f : Option Addr} {w : World} (hkm : k + m ≤ 256) (hi : i < 256) (hf : FieldAt w f) (hk : RowK w qk 3 #[.int .i64 (k : Int)]) (hm : RowK w qm 3 #[.int .i64 (m : Int)]) (hq : RowK w qf 25 #[.pointer f]) :
    Calls Try.prog 56 #[.int .i64 (i : Int), .pointer (some (at0 qk)), .pointer (some (at0 qm)), .pointer (some (at0 qf))] w fun e w' => e = .returned (vb (wgt k m i)) ∧ Ext w w' := by
  refine (F56_calls i (at0 qk) (at0 qm) (at0 qf) w (fun v w' => v = vb (wgt k m i) ∧ Ext w w')
    (fun _ _ _ _ p x w1 => Ext w w1 ∧ (k : Int) ≤ x ∧ x ≤ k + m ∧ p = ((wp k (x.toNat - k) i).toNat : Int)) (fun _ _ _ _ _ x _ => (k + m - x).toNat) ?_).mono (by rintro e w' ⟨v, rfl, rfl, h⟩; exact ⟨rfl, h⟩)
  refine ⟨_, hk.cell, ⟨Upd.refl _ _, by omega, by omega, by rw [show ((k : Int).toNat - k) = 0 by omega]; rfl⟩, ?_⟩
  rintro p x w1 ⟨hx, h0, h1, rfl⟩
  intros
  have k1 : RowK w1 qk 3 #[.int .i64 (k : Int)] := hx.keep hk
  have m1 : RowK w1 qm 3 #[.int .i64 (m : Int)] := hx.keep hm
  have f1 : RowK w1 qf 25 #[.pointer f] := hx.keep hq
  refine ⟨_, k1.cell, _, m1.cell, ?_⟩
  rw [w64 (n := (k : Int) + (m : Int)) (by omega), w64 (n := x + 1) (by omega)]
  have hxn : ((x.toNat : Nat) : Int) = x := by omega
  have hstep : (x + 1).toNat - k = (x.toNat - k) + 1 := by omega
  have hkx : k + (x.toNat - k) = x.toNat := by omega
  refine condB_of (fun hs => ?_) (fun hs => ?_)
  · simp only [decide_eq_true_eq] at hs
    refine condB_of (fun hn => ?_) (fun hn => ?_)
    · simp only [Bool.not_eq_true', decide_eq_false_iff_not] at hn
      have hne : x.toNat ≠ i := by omega
      refine ⟨_, f1.cell, ?_⟩
      have e1 : IntKind.u8.wrap (bitsV .xor .i64 x (i : Int)) = ((pt x.toNat ^^^ pt i).toNat : Int) := by
        rw [← hxn, px (by omega) (by omega), Int.toNat_natCast]
      rw [e1]
      refine (fmul_spec (hf.ext hx) _ _).mono ?_
      rintro e w2 ⟨rfl, hx2⟩
      refine ⟨_, rfl, ⟨hx.trans hx2, by omega, by omega, ?_⟩, by show ((k : Int) + m - (x + 1)).toNat < ((k : Int) + m - x).toNat; omega⟩
      rw [hstep, wp, hkx, if_neg hne]
    · simp only [Bool.not_eq_false', decide_eq_true_eq] at hn
      refine ⟨⟨hx, by omega, by omega, ?_⟩, by show ((k : Int) + m - (x + 1)).toNat < ((k : Int) + m - x).toNat; omega⟩
      rw [hstep, wp, hkx, if_pos (by omega)]
  · simp only [decide_eq_false_iff_not] at hs
    refine ⟨_, f1.cell, (finv_spec (hf.ext hx) _).mono ?_⟩
    rintro e w2 ⟨rfl, hx2⟩
    refine ⟨_, _, rfl, ?_, hx.trans hx2⟩
    rw [show x.toNat - k = m by omega]; rfl

set_option maxHeartbeats 2000000 in
theorem weights_spec {f : Option Addr} {w : World} (hf : FieldAt w f) (k m : Int) :
    Calls Try.prog 28 #[.pointer f, .int .i64 k, .int .i64 m] w fun e w' => Ext w w' ∧ ((¬ kmOk k m ∧ e = .returned (.tuple #[.slice none 0 0, .int .i64 50])) ∨
      kmOk k m ∧ ∃ p c W, e = .returned (.tuple #[.slice p (k + m).toNat c, .int .i64 0]) ∧ OwnB w' w.heap.size p (k + m).toNat c W ∧ ∀ i, i < (k + m).toNat → co W i = wgt k.toNat m.toNat i) := by
  refine (F28_calls f k m w (fun v w' => Ext w w' ∧ ((¬ kmOk k m ∧ v = .tuple #[.slice none 0 0, .int .i64 50]) ∨
      kmOk k m ∧ ∃ p c W, v = .tuple #[.slice p (k + m).toNat c, .int .i64 0] ∧ OwnB w' w.heap.size p (k + m).toNat c W ∧ ∀ i, i < (k + m).toNat → co W i = wgt k.toNat m.toNat i))
    (fun q _ _ _ w19 i w25 => 0 ≤ i ∧ i ≤ (k + m) ∧ Ext w w25 ∧ Upd (fun x => q = some (at0 x)) w19 w25 ∧ ∃ W, OwnB w25 w.heap.size q (k + m).toNat (k + m).toNat W ∧ ∀ j : Nat, (j : Int) < i → co W j = wgt k.toNat m.toNat j)
    (fun _ _ _ _ _ i _ => (k + m - i).toNat) ?_).mono (by
    rintro e w' ⟨v, rfl, hx, ⟨h, rfl⟩ | ⟨h, p, c, W, rfl, h2⟩⟩
    · exact ⟨hx, .inl ⟨h, rfl⟩⟩
    · exact ⟨hx, .inr ⟨h, p, c, W, rfl, h2⟩⟩)
  intro k4 w5 h4 k6 w7 h6 k8 w9 h8
  have x9 : Ext w w9 := h4.ext.trans (h6.ext.trans h8.ext)
  have rf : RowK w9 k4 25 #[.pointer f] := (h6.ext.trans h8.ext).keep h4.at
  have rk : RowK w9 k6 3 #[.int .i64 k] := h8.ext.keep h6.at
  have rm : RowK w9 k8 3 #[.int .i64 m] := h8.at
  refine ⟨_, rf.cell, ?_⟩
  rw [hf.there]
  refine condB_of (fun h => by cases h) fun _ => ⟨_, rk.cell, _, rm.cell, (ccheck_spec k m w9).mono ?_⟩
  rintro e w13 ⟨rfl, rfl⟩
  refine ⟨_, rfl, condB_of (fun hc => ?_) (fun hc => ?_)⟩
  · simp only [Bool.not_eq_true', decide_eq_false_iff_not] at hc
    have hk : ¬ kmOk k m := fun h => hc (kmE_ok h)
    refine ⟨x9, .inl ⟨hk, ?_⟩⟩
    rw [kmE_bad hk]
  simp only [Bool.not_eq_false', decide_eq_true_eq] at hc
  have hk : kmOk k m := Decidable.byContradiction fun h => by rw [kmE_bad h] at hc; omega
  obtain ⟨a1, a2, a3, a4⟩ := hk
  refine ⟨_, rk.cell, _, rm.cell, ?_⟩
  rw [w64 (n := k + m) (by omega)]
  refine ⟨⟨by omega, by omega, by omega⟩, fun k18 w19 h18 => ?_⟩
  have o19 : OwnB w19 w.heap.size (some (at0 k18)) (k + m).toNat (k + m).toNat (List.replicate (k + m).toNat 0) := OwnB.made h18 (by rw [h18.size.1]; exact x9.size) (by unfold maxLen; omega)
  refine ⟨⟨by omega, by omega, x9.trans h18.ext, Upd.refl _ _, _, o19, fun j hj => by omega⟩, ?_⟩
  rintro i w25 ⟨hi0, hi1, hx, hu, W, oW, hW⟩
  intros
  have lW := OwnB.len oW
  refine condB_of (fun hs => ?_) (fun hs => ?_)
  · simp only [decide_eq_true_eq] at hs
    have rf25 : RowK w25 k4 25 #[.pointer f] := hu.keep (h18.ext.keep rf) fun h => by
      simp only [Option.some.injEq, at0, Addr.mk.injEq, and_true] at h
      have := lt_of_heap rf; have := h18.size.1; omega
    have rk25 : RowK w25 k6 3 #[.int .i64 k] := hu.keep (h18.ext.keep rk) fun h => by
      simp only [Option.some.injEq, at0, Addr.mk.injEq, and_true] at h
      have := lt_of_heap rk; have := h18.size.1; omega
    have rm25 : RowK w25 k8 3 #[.int .i64 m] := hu.keep (h18.ext.keep rm) fun h => by
      simp only [Option.some.injEq, at0, Addr.mk.injEq, and_true] at h
      have := lt_of_heap rm; have := h18.size.1; omega
    have ek : ((k.toNat : Nat) : Int) = k := by omega
    have em : ((m.toNat : Nat) : Int) = m := by omega
    have ei : ((i.toNat : Nat) : Int) = i := by omega
    have hsp := weight_spec (k := k.toNat) (m := m.toNat) (i := i.toNat) (by omega) (by omega) (hf.ext hx) (by rw [ek]; exact rk25) (by rw [em]; exact rm25) rf25
    rw [ei] at hsp
    refine hsp.mono ?_
    rintro e w36 ⟨rfl, hx36⟩
    obtain ⟨k', hk', hb', hlive, _, hset⟩ := OwnB.at (OwnB.ext oW hx36) (i := i.toNat) (by omega)
    simp only [Option.some.injEq, at0, Addr.mk.injEq, and_true] at hk'
    subst hk'
    rw [Nat.mul_one, w64 (n := i + 1) (by omega)]
    refine ⟨_, rfl, ⟨by omega, by omega⟩, hlive, fun w39 hs39 => ?_⟩
    obtain ⟨o39, u39⟩ := hset _ _ hs39
    refine ⟨⟨by omega, by omega, OwnB.new_ext (hx.trans hx36) u39 (fun y hy => by rw [show y = k18 from hy]; exact hb'), Upd.trans hu (Upd.trans hx36.upd (u39.mono fun x _ hx => by rw [show x = k18 from hx]) fun _ _ h => h) fun _ _ h => h, _, o39, fun j hj => ?_⟩,
      by show (k + m - (i + 1)).toNat < (k + m - i).toNat; omega⟩
    rw [co_set (by omega)]
    by_cases h1 : j = i.toNat
    · rw [if_pos h1, h1]
    · rw [if_neg h1]; exact hW j (by omega)
  · simp only [decide_eq_false_iff_not] at hs
    exact ⟨hx, .inr ⟨⟨a1, a2, a3, a4⟩, _, _, W, rfl, oW, fun j hj => hW j (by omega)⟩⟩
end Go.Proofs.Ytpmkjpgoekjcfaa
