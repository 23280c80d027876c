import Derived.Test.YtkolafpgbhpdlaaGreatMH
namespace Go.Proofs.YtkolafpgbhpdlaaGreat
open Go Go.Vc Go.Gf
def kmOk (k m : Int) : Prop := 1 ≤ k ∧ 0 ≤ m ∧ k ≤ 256 ∧ m ≤ 256 - k
instance (k m : Int) : Decidable (kmOk k m) := inferInstanceAs (Decidable (_ ∧ _ ∧ _ ∧ _))
def kmE (k m : Int) : Int := if kmOk k m then 0 else 50
theorem kmE_ok {k m : Int} (h : kmOk k m) : kmE k m = 0 := if_pos h
theorem kmE_bad {k m : Int} (h : ¬ kmOk k m) : kmE k m = 50 := if_neg h
theorem ccheck_spec (k m : Int) (w : World) : Calls Tryz.prog 41 #[.int .i64 k, .int .i64 m] w fun e w' => e = .returned (.int .i64 (kmE k m)) ∧ w' = w := by
 refine (F41_calls k m w (fun v w' => v = .int .i64 (kmE k m) ∧ w' = w) ?_).mono (by rintro e w' ⟨v, rfl, rfl, h⟩; exact ⟨rfl, h⟩)
 unfold F41
 refine condB_of (fun h => ⟨?_, rfl⟩) fun h1 => condB_of (fun h => ⟨?_, rfl⟩) fun h2 => condB_of (fun h => ⟨?_, rfl⟩) fun h3 => condB_of (fun h => ⟨?_, rfl⟩) fun h4 => ⟨?_, rfl⟩
 ·simp only [decide_eq_true_eq] at h
  rw [kmE_bad fun hk => by have := hk.1; omega]
 ·simp only [decide_eq_true_eq] at h
  rw [kmE_bad fun hk => by have := hk.2.1; omega]
 ·simp only [decide_eq_true_eq] at h
  rw [kmE_bad fun hk => by have := hk.2.2.1; omega]
 ·simp only [decide_eq_false_iff_not] at h1 h2 h3
  simp only [decide_eq_true_eq] at h
  rw [w64 (by omega)] at h
  rw [kmE_bad fun hk => by have := hk.2.2.2; omega]
 ·simp only [decide_eq_false_iff_not] at h1 h2 h3 h4
  rw [w64 (by omega)] at h4
  rw [kmE_ok ⟨by omega, by omega, by omega, by omega⟩]
theorem bx64 {a b : Nat} (ha : a < 4294967296) (hb : b < 4294967296) : bitsV .xor .i64 (a : Int) (b : Int) = ((a ^^^ b : Nat) : Int) := by
 show IntKind.i64.wrap (((BitVec.ofInt 64 (a : Int)) ^^^ (BitVec.ofInt 64 (b : Int))).toNat : Int) = _
 have e : ∀ x : Nat, x < 4294967296 → (BitVec.ofInt 64 (x : Int)).toNat = x := fun x hx => by rw [BitVec.toNat_ofInt]; omega
 have hx : a ^^^ b < 2 ^ 32 := Nat.xor_lt_two_pow ha hb
 rw [BitVec.toNat_xor, e a ha, e b hb, w64 (by omega)]
theorem px {a b : Nat} (ha : a < 4294967296) (hb : b < 4294967296) : IntKind.u8.wrap (bitsV .xor .i64 (a : Int) (b : Int)) = ((pt a ^^^ pt b).toNat : Int) := by
 rw [bx64 ha hb, wrap8 _ (by omega), Int.toNat_natCast, pt_xor]
set_option maxHeartbeats 1000000 in
theorem weight_spec {k m i qk qm qf : Nat} {f : Option Addr} {w : World} (hkm : k + m ≤ 256) (hi : i < 256) (hf : FieldAt w f) (hk : RowK w qk 3 #[.int .i64 (k : Int)]) (hm : RowK w qm 3 #[.int .i64 (m : Int)]) (hq : RowK w qf 33 #[.pointer f]) :
  Calls Tryz.prog 167 #[.int .i64 (i : Int), .pointer (some (at0 qk)), .pointer (some (at0 qm)), .pointer (some (at0 qf))] w fun e w' => e = .returned (vb (wgt k m i)) ∧ Ext w w' := by
 refine (F167_calls i (at0 qk) (at0 qm) (at0 qf) w (fun v w' => v = vb (wgt k m i) ∧ Ext w w')
  (fun _ _ _ _ p x w1 => Ext w w1 ∧ (k : Int) ≤ x ∧ x ≤ k + m ∧ p = ((wp k (x.toNat - k) i).toNat : Int)) (fun _ _ _ _ _ x _ => (k + m - x).toNat) ?_).mono (by rintro e w' ⟨v, rfl, rfl, h⟩; exact ⟨rfl, h⟩)
 refine ⟨_, hk.cell, ⟨Upd.refl _ _, by omega, by omega, by rw [show ((k : Int).toNat - k) = 0 by omega]; rfl⟩, ?_⟩
 rintro p x w1 ⟨hx, h0, h1, rfl⟩
 intros
 have k1 : RowK w1 qk 3 #[.int .i64 (k : Int)] := hx.keep hk
 have m1 : RowK w1 qm 3 #[.int .i64 (m : Int)] := hx.keep hm
 have f1 : RowK w1 qf 33 #[.pointer f] := hx.keep hq
 refine ⟨_, k1.cell, _, m1.cell, ?_⟩
 rw [w64 (n := (k : Int) + (m : Int)) (by omega), w64 (n := x + 1) (by omega)]
 have hxn : ((x.toNat : Nat) : Int) = x := by omega
 have hstep : (x + 1).toNat - k = (x.toNat - k) + 1 := by omega
 have hkx : k + (x.toNat - k) = x.toNat := by omega
 refine condB_of (fun hs => ?_) (fun hs => ?_)
 ·simp only [decide_eq_true_eq] at hs
  refine condB_of (fun hn => ?_) (fun hn => ?_)
  ·simp only [Bool.not_eq_true', decide_eq_false_iff_not] at hn
   have hne : x.toNat ≠ i := by omega
   refine ⟨_, f1.cell, ?_⟩
   have e1 : IntKind.u8.wrap (bitsV .xor .i64 x (i : Int)) = ((pt x.toNat ^^^ pt i).toNat : Int) := by
    rw [← hxn, px (by omega) (by omega), Int.toNat_natCast]
   rw [e1]
   refine (fmul_spec (hf.ext hx) _ _).mono ?_
   rintro e w2 ⟨rfl, hx2⟩
   refine ⟨_, rfl, ⟨hx.trans hx2, by omega, by omega, ?_⟩, by show ((k : Int) + m - (x + 1)).toNat < ((k : Int) + m - x).toNat; omega⟩
   rw [hstep, wp, hkx, if_neg hne]
  ·simp only [Bool.not_eq_false', decide_eq_true_eq] at hn
   refine ⟨⟨hx, by omega, by omega, ?_⟩, by show ((k : Int) + m - (x + 1)).toNat < ((k : Int) + m - x).toNat; omega⟩
   rw [hstep, wp, hkx, if_pos (by omega)]
 ·simp only [decide_eq_false_iff_not] at hs
  refine ⟨_, f1.cell, (finv_spec (hf.ext hx) _).mono ?_⟩
  rintro e w2 ⟨rfl, hx2⟩
  refine ⟨_, _, rfl, ?_, hx.trans hx2⟩
  rw [show x.toNat - k = m by omega]; rfl
set_option maxHeartbeats 2000000 in
theorem weights_spec {f : Option Addr} {w : World} (hf : FieldAt w f) (k m : Int) :
  Calls Tryz.prog 136 #[.pointer f, .int .i64 k, .int .i64 m] w fun e w' => Ext w w' ∧ ((¬ kmOk k m ∧ e = .returned (.tuple #[.slice none 0 0, .int .i64 50])) ∨
   kmOk k m ∧ ∃ p c W, e = .returned (.tuple #[.slice p (k + m).toNat c, .int .i64 0]) ∧ OwnB w' w.heap.size p (k + m).toNat c W ∧ ∀ i, i < (k + m).toNat → co W i = wgt k.toNat m.toNat i) := by
 refine (F136_calls f k m w (fun v w' => Ext w w' ∧ ((¬ kmOk k m ∧ v = .tuple #[.slice none 0 0, .int .i64 50]) ∨
   kmOk k m ∧ ∃ p c W, v = .tuple #[.slice p (k + m).toNat c, .int .i64 0] ∧ OwnB w' w.heap.size p (k + m).toNat c W ∧ ∀ i, i < (k + m).toNat → co W i = wgt k.toNat m.toNat i))
  (fun q _ _ _ w19 i w25 => 0 ≤ i ∧ i ≤ (k + m) ∧ Ext w w25 ∧ Upd (fun x => q = some (at0 x)) w19 w25 ∧ ∃ W, OwnB w25 w.heap.size q (k + m).toNat (k + m).toNat W ∧ ∀ j : Nat, (j : Int) < i → co W j = wgt k.toNat m.toNat j)
  (fun _ _ _ _ _ i _ => (k + m - i).toNat) ?_).mono (by
  rintro e w' ⟨v, rfl, hx, ⟨h, rfl⟩ | ⟨h, p, c, W, rfl, h2⟩⟩
  ·exact ⟨hx, .inl ⟨h, rfl⟩⟩
  ·exact ⟨hx, .inr ⟨h, p, c, W, rfl, h2⟩⟩)
 intro k4 w5 h4 k6 w7 h6 k8 w9 h8
 have x9 : Ext w w9 := h4.ext.trans (h6.ext.trans h8.ext)
 have rf : RowK w9 k4 33 #[.pointer f] := (h6.ext.trans h8.ext).keep h4.at
 have rk : RowK w9 k6 3 #[.int .i64 k] := h8.ext.keep h6.at
 have rm : RowK w9 k8 3 #[.int .i64 m] := h8.at
 refine ⟨_, rf.cell, ?_⟩
 rw [hf.there]
 refine condB_of (fun h => by cases h) fun _ => ⟨_, rk.cell, _, rm.cell, (ccheck_spec k m w9).mono ?_⟩
 rintro e w13 ⟨rfl, rfl⟩
 refine ⟨_, rfl, condB_of (fun hc => ?_) (fun hc => ?_)⟩
 ·simp only [Bool.not_eq_true', decide_eq_false_iff_not] at hc
  have hk : ¬ kmOk k m := fun h => hc (kmE_ok h)
  refine ⟨x9, .inl ⟨hk, ?_⟩⟩
  rw [kmE_bad hk]
 simp only [Bool.not_eq_false', decide_eq_true_eq] at hc
 have hk : kmOk k m := Decidable.byContradiction fun h => by rw [kmE_bad h] at hc; omega
 obtain ⟨a1, a2, a3, a4⟩ := hk
 refine ⟨_, rk.cell, _, rm.cell, ?_⟩
 rw [w64 (n := k + m) (by omega)]
 refine ⟨⟨by omega, by omega, by omega⟩, fun k18 w19 h18 => ?_⟩
 have o19 : OwnB w19 w.heap.size (some (at0 k18)) (k + m).toNat (k + m).toNat (List.replicate (k + m).toNat 0) := OwnB.made h18 (by rw [h18.size.1]; exact x9.size) (by unfold maxLen; omega)
 refine ⟨⟨by omega, by omega, x9.trans h18.ext, Upd.refl _ _, _, o19, fun j hj => by omega⟩, ?_⟩
 rintro i w25 ⟨hi0, hi1, hx, hu, W, oW, hW⟩
 intros
 have lW := OwnB.len oW
 refine condB_of (fun hs => ?_) (fun hs => ?_)
 ·simp only [decide_eq_true_eq] at hs
  have rf25 : RowK w25 k4 33 #[.pointer f] := hu.keep (h18.ext.keep rf) fun h => by
   simp only [Option.some.injEq, at0, Addr.mk.injEq, and_true] at h
   have := lt_of_heap rf; have := h18.size.1; omega
  have rk25 : RowK w25 k6 3 #[.int .i64 k] := hu.keep (h18.ext.keep rk) fun h => by
   simp only [Option.some.injEq, at0, Addr.mk.injEq, and_true] at h
   have := lt_of_heap rk; have := h18.size.1; omega
  have rm25 : RowK w25 k8 3 #[.int .i64 m] := hu.keep (h18.ext.keep rm) fun h => by
   simp only [Option.some.injEq, at0, Addr.mk.injEq, and_true] at h
   have := lt_of_heap rm; have := h18.size.1; omega
  have ek : ((k.toNat : Nat) : Int) = k := by omega
  have em : ((m.toNat : Nat) : Int) = m := by omega
  have ei : ((i.toNat : Nat) : Int) = i := by omega
  have hsp := weight_spec (k := k.toNat) (m := m.toNat) (i := i.toNat) (by omega) (by omega) (hf.ext hx) (by rw [ek]; exact rk25) (by rw [em]; exact rm25) rf25
  rw [ei] at hsp
  refine hsp.mono ?_
  rintro e w36 ⟨rfl, hx36⟩
  obtain ⟨k', hk', hb', hlive, _, hset⟩ := OwnB.at (OwnB.ext oW hx36) (i := i.toNat) (by omega)
  simp only [Option.some.injEq, at0, Addr.mk.injEq, and_true] at hk'
  subst hk'
  rw [Nat.mul_one, w64 (n := i + 1) (by omega)]
  refine ⟨_, rfl, ⟨by omega, by omega⟩, hlive, fun w39 hs39 => ?_⟩
  obtain ⟨o39, u39⟩ := hset _ _ hs39
  refine ⟨⟨by omega, by omega, OwnB.new_ext (hx.trans hx36) u39 (fun y hy => by rw [show y = k18 from hy]; exact hb'), Upd.trans hu (Upd.trans hx36.upd (u39.mono fun x _ hx => by rw [show x = k18 from hx]) fun _ _ h => h) fun _ _ h => h, _, o39, fun j hj => ?_⟩,
   by show (k + m - (i + 1)).toNat < (k + m - i).toNat; omega⟩
  rw [co_set (by omega)]
  by_cases h1 : j = i.toNat
  ·rw [if_pos h1, h1]
  ·rw [if_neg h1]; exact hW j (by omega)
 ·simp only [decide_eq_false_iff_not] at hs
  exact ⟨hx, .inr ⟨⟨a1, a2, a3, a4⟩, _, _, W, rfl, oW, fun j hj => hW j (by omega)⟩⟩
end Go.Proofs.YtkolafpgbhpdlaaGreat
namespace Go.Proofs.YtkolafpgbhpdlaaGreat
open Go Go.Vc Go.Gf
theorem rep_co (n j : Nat) : co (List.replicate n (0 : UInt8)) j = 0 := by
 simp only [Gf.co, List.getD_eq_getElem?_getD, List.getElem?_replicate]
 split <;> rfl
def synT (k m : Nat) (bs : List UInt8) (l i : Nat) : UInt8 := gm (gm (co bs i) (wgt k m i)) (pw (pt i) l)
theorem syn_xs (k m : Nat) (bs : List UInt8) (l : Nat) : syn k m bs l = xs (k + m) (synT k m bs l) := rfl
set_option maxHeartbeats 4000000 in
theorem synof_spec {f q : Option Addr} {w : World} {n c : Nat} {bs : List UInt8} (hf : FieldAt w f) (h : BytesAt w q n bs) (hn : n ≤ 1073741824) (k m : Int) :
  Calls Tryz.prog 137 #[.pointer f, .int .i64 k, .int .i64 m, .slice q n c] w fun e w' => Ext w w' ∧ ((¬ kmOk k m ∧ e = .returned (.tuple #[.slice none 0 0, .int .i64 50])) ∨
   (kmOk k m ∧ (n : Int) ≠ k + m ∧ e = .returned (.tuple #[.slice none 0 0, .int .i64 60])) ∨
   kmOk k m ∧ (n : Int) = k + m ∧ ∃ p c' S, e = .returned (.tuple #[.slice p m.toNat c', .int .i64 0]) ∧ OwnB w' w.heap.size p m.toNat c' S ∧ ∀ l, l < m.toNat → co S l = syn k.toNat m.toNat bs l) := by
 have hl := h.1
 refine (F137_calls f k m q n c w (fun v w' => Ext w w' ∧ ((¬ kmOk k m ∧ v = .tuple #[.slice none 0 0, .int .i64 50]) ∨
   (kmOk k m ∧ (n : Int) ≠ k + m ∧ v = .tuple #[.slice none 0 0, .int .i64 60]) ∨
   kmOk k m ∧ (n : Int) = k + m ∧ ∃ p c' S, v = .tuple #[.slice p m.toNat c', .int .i64 0] ∧ OwnB w' w.heap.size p m.toNat c' S ∧ ∀ l, l < m.toNat → co S l = syn k.toNat m.toNat bs l))
  (fun pw_ lw cw r _ _ _ _ i w19 => 0 ≤ i ∧ i ≤ n ∧ Ext w w19 ∧ ∃ W S kr, r = some (at0 kr) ∧ OwnB w19 w.heap.size pw_ lw cw W ∧ Away pw_ kr ∧ OwnB w19 w.heap.size r m.toNat m.toNat S ∧
   (∀ j, j < (k + m).toNat → co W j = wgt k.toNat m.toNat j) ∧ ∀ l, l < m.toNat → co S l = xs i.toNat (synT k.toNat m.toNat bs l)) (fun _ _ _ _ _ _ _ _ i _ => (n - i).toNat)
  (fun pw_ lw cw r _ _ _ _ i _ _ x l w73 => 0 ≤ l ∧ l ≤ m ∧ 0 ≤ i ∧ i < n ∧ Ext w w73 ∧ x = ((synT k.toNat m.toNat bs l.toNat i.toNat).toNat : Int) ∧ ∃ W S kr, r = some (at0 kr) ∧ OwnB w73 w.heap.size pw_ lw cw W ∧ Away pw_ kr ∧ OwnB w73 w.heap.size r m.toNat m.toNat S ∧
   (∀ j, j < (k + m).toNat → co W j = wgt k.toNat m.toNat j) ∧ ∀ t, t < m.toNat → co S t = xs i.toNat (synT k.toNat m.toNat bs t) ^^^ (if (t : Int) < l then synT k.toNat m.toNat bs t i.toNat else 0)) (fun _ _ _ _ _ _ _ _ _ _ _ _ l _ => (m - l).toNat) ?_).mono (by
  rintro e w' ⟨v, rfl, hx, ⟨h, rfl⟩ | ⟨h, h2, rfl⟩ | ⟨h, h2, p, c', S, rfl, h3⟩⟩
  ·exact ⟨hx, .inl ⟨h, rfl⟩⟩
  ·exact ⟨hx, .inr (.inl ⟨h, h2, rfl⟩)⟩
  ·exact ⟨hx, .inr (.inr ⟨h, h2, p, c', S, rfl, h3⟩)⟩)
 refine (weights_spec hf k m).mono ?_
 rintro e w5 ⟨hx5, ⟨hk, rfl⟩ | ⟨hk, p7, c7, W, rfl, oW, hW⟩⟩
 ·exact ⟨_, _, _, _, rfl, condB_of (fun _ => ⟨hx5, .inl ⟨hk, rfl⟩⟩) (fun h => by simp at h)⟩
 obtain ⟨a1, a2, a3, a4⟩ := hk
 have hk : kmOk k m := ⟨a1, a2, a3, a4⟩
 refine ⟨_, _, _, _, rfl, condB_of (fun h => by simp at h) fun _ => ?_⟩
 rw [w64 (n := k + m) (by omega)]
 refine condB_of (fun hc => ?_) (fun hc => ?_)
 ·simp only [Bool.not_eq_true', decide_eq_false_iff_not] at hc
  exact ⟨hx5, .inr (.inl ⟨hk, hc, rfl⟩)⟩
 simp only [Bool.not_eq_false', decide_eq_true_eq] at hc
 refine ⟨⟨by omega, by omega, by omega⟩, fun k9 w10 h10 => ?_⟩
 have o10 : OwnB w10 w.heap.size (some (at0 k9)) m.toNat m.toNat (List.replicate m.toNat 0) := OwnB.made h10 (by rw [h10.size.1]; exact hx5.size) (by unfold maxLen; omega)
 refine ⟨⟨by omega, by omega, hx5.trans h10.ext, W, _, k9, rfl, OwnB.ext oW h10.ext, OwnB.away2 oW (by rw [h10.size.1]; exact Nat.le_refl _), o10, hW, fun l hl => rep_co _ _⟩, ?_⟩
 rintro i w19 ⟨hi0, hi1, hx, W1, S, kr, hkr, oW1, aW, oS, hW1, hS⟩
 simp only [Option.some.injEq, at0, Addr.mk.injEq, and_true] at hkr
 subst hkr
 intros
 have lW := OwnB.len oW1
 refine condB_of (fun hs => ?_) (fun hs => ?_)
 ·simp only [decide_eq_true_eq] at hs
  intro w53 hd
  have hx53 := hx.trans hd.ext
  obtain ⟨a, rfl, ha⟩ := BytesAt.co (h.ext hx53) (i := i.toNat) (by omega)
  obtain ⟨b, rfl, hb⟩ := BytesAt.co (OwnB.bytes (OwnB.ext oW1 hd.ext)) (i := i.toNat) (by omega)
  refine ⟨⟨hi0, hs⟩, _, by rw [Nat.mul_one]; exact ha, ⟨hi0, by omega⟩, _, by rw [Nat.mul_one]; exact hb, ?_⟩
  refine (fmul_spec (hf.ext hx53) _ _).mono ?_
  rintro e w58 ⟨rfl, hx58⟩
  have hx58' := hx53.trans hx58
  refine ⟨_, rfl, ⟨by omega, by omega, hi0, hs, hx58', ?_, W1, S, k9, rfl, OwnB.ext (OwnB.ext oW1 hd.ext) hx58, aW, OwnB.ext (OwnB.ext oS hd.ext) hx58, hW1, fun t ht => ?_⟩, ?_⟩
  ·rw [hW1 _ (by omega)]
   show _ = ((gm (gm (co bs i.toNat) (wgt k.toNat m.toNat i.toNat)) 1).toNat : Int)
   rw [gm_one]
  ·rw [hS t ht, if_neg (by omega), x0]
  rintro x l w73 ⟨hl0, hl1, _, _, hx73, rfl, W2, S2, kr, hkr, oW2, aW2, oS2, hW2, hS2⟩
  simp only [Option.some.injEq, at0, Addr.mk.injEq, and_true] at hkr
  subst hkr
  intros
  have lS := OwnB.len oS2
  refine condB_of (fun ht => ?_) (fun ht => ?_)
  ·simp only [decide_eq_true_eq] at ht
   obtain ⟨k', hk', hb', hlive, hcell, hset⟩ := OwnB.at oS2 (i := l.toNat) (by omega)
   simp only [Option.some.injEq, at0, Addr.mk.injEq, and_true] at hk'
   subst hk'
   simp only [Nat.mul_one]
   refine ⟨⟨by omega, by omega⟩, _, hcell, ⟨by omega, by omega⟩, hlive, fun w91 hs91 => ?_⟩
   rw [bx8] at hs91
   obtain ⟨o91, u91⟩ := hset _ _ hs91
   have hx91 : Ext w w91 := OwnB.new_ext hx73 u91 fun y hy => by rw [show y = k9 from hy]; exact hb'
   have e8 : IntKind.u8.wrap i = ((pt i.toNat).toNat : Int) := wrap8 i hi0
   rw [e8]
   refine (fmul_spec (hf.ext hx91) _ _).mono ?_
   rintro e w92 ⟨rfl, hx92⟩
   rw [w64 (n := l + 1) (by omega)]
   refine ⟨_, rfl, ⟨by omega, by omega, hi0, hs, hx91.trans hx92, ?_, W2, _, k9, rfl, OwnB.ext (OwnB.setk oW2 u91 aW2) hx92, aW2, OwnB.ext o91 hx92, hW2, fun t ht2 => ?_⟩, by show (m - (l + 1)).toNat < (m - l).toNat; omega⟩
   ·rw [show (l + 1).toNat = l.toNat + 1 by omega]
    show _ = ((gm (gm (co bs i.toNat) (wgt k.toNat m.toNat i.toNat)) (gm (pw (pt i.toNat) l.toNat) (pt i.toNat))).toNat : Int)
    rw [← gm_assoc]; rfl
   ·rw [co_set (by omega)]
    by_cases h5 : t = l.toNat
    ·subst h5
     rw [if_pos rfl, hS2 _ ht2, if_neg (by omega), if_pos (by omega), x0]
    ·rw [if_neg h5, hS2 t ht2]
     by_cases h6 : (t : Int) < l
     ·rw [if_pos h6, if_pos (by omega)]
     ·rw [if_neg h6, if_neg (by omega)]
  ·simp only [decide_eq_false_iff_not] at ht
   rw [w64 (n := i + 1) (by omega)]
   refine ⟨⟨by omega, by omega, hx73, W2, S2, k9, rfl, oW2, aW2, oS2, hW2, fun t ht2 => ?_⟩, by show ((n : Int) - (i + 1)).toNat < ((n : Int) - i).toNat; omega⟩
   rw [hS2 t ht2, if_pos (by omega), show (i + 1).toNat = i.toNat + 1 by omega]; rfl
 ·simp only [decide_eq_false_iff_not] at hs
  refine ⟨hx, .inr (.inr ⟨hk, hc, _, _, S, rfl, oS, fun l hl => ?_⟩)⟩
  rw [hS l hl, syn_xs, show i.toNat = k.toNat + m.toNat by omega]
theorem nonz_spec (b : UInt8) (w : World) : Calls Tryz.prog 145 #[vb b] w fun e w' => e = .returned (.bool (decide (b ≠ 0))) ∧ w' = w := by
 refine (F145_calls b.toNat w (fun v w' => v = .bool (decide (b ≠ 0)) ∧ w' = w) ?_).mono (by rintro e w' ⟨v, rfl, rfl, h⟩; exact ⟨rfl, h⟩)
 refine ⟨?_, rfl⟩
 congr 1
 by_cases h : b = 0
 ·subst h; rfl
 ·rw [decide_eq_true h, decide_eq_false (fun e => h (vb_zero.1 e))]; rfl
theorem anyz_spec {p : Option Addr} {n c : Nat} {w : World} {bs : List UInt8} (h : BytesAt w p n bs) (hn : n ≤ 1073741824) :
  Calls Tryz.prog 144 #[.slice p n c, .func (.func 145) #[] #[]] w fun e w' => (∃ b, e = .returned (.bool b) ∧ (b = true ↔ ∃ i, i < n ∧ co bs i ≠ 0)) ∧ w' = w := by
 have hl := h.1
 refine (F144_145_calls p n c w (fun v w' => (∃ b, v = .bool b ∧ (b = true ↔ ∃ i, i < n ∧ co bs i ≠ 0)) ∧ w' = w) ?_).mono (by rintro e w' ⟨v, rfl, ⟨b, rfl, h⟩, hw⟩; exact ⟨⟨b, rfl, h⟩, hw⟩)
 refine (F176_145_calls p n c w (fun v w' => (∃ i : Int, v = .int .i64 i ∧ (0 ≤ i ↔ ∃ i, i < n ∧ co bs i ≠ 0)) ∧ w' = w)
  (fun _ _ i w4 => 0 ≤ i ∧ i ≤ n ∧ w4 = w ∧ ∀ j : Nat, (j : Int) < i → co bs j = 0) (fun _ _ i _ => (n - i).toNat) ?_).mono ?_
 ·refine ⟨⟨by omega, by omega, rfl, fun j hj => by omega⟩, ?_⟩
  rintro i w4 ⟨hi0, hi1, rfl, hz⟩
  intros
  refine condB_of (fun hs => ?_) (fun hs => ?_)
  ·simp only [decide_eq_true_eq] at hs
   obtain ⟨a, rfl, ha⟩ := BytesAt.co h (i := i.toNat) (by omega)
   refine ⟨⟨hi0, hs⟩, _, by rw [Nat.mul_one]; exact ha, (nonz_spec _ _).mono ?_⟩
   rintro e w5 ⟨rfl, rfl⟩
   refine ⟨_, rfl, condB_of (fun hb => ?_) (fun hb => ?_)⟩
   ·simp only [decide_eq_true_eq] at hb
    exact ⟨⟨i, rfl, fun _ => ⟨i.toNat, by omega, hb⟩, fun _ => hi0⟩, rfl⟩
   ·simp only [decide_eq_false_iff_not, Decidable.not_not] at hb
    rw [w64 (n := i + 1) (by omega)]
    refine ⟨⟨by omega, by omega, rfl, fun j hj => ?_⟩, by show ((n : Int) - (i + 1)).toNat < ((n : Int) - i).toNat; omega⟩
    by_cases h1 : (j : Int) < i
    ·exact hz j h1
    ·rw [show j = i.toNat by omega]; exact hb
  ·simp only [decide_eq_false_iff_not] at hs
   exact ⟨⟨-1, rfl, fun h => by omega, fun ⟨j, hj, hne⟩ => (hne (hz j (by omega))).elim⟩, rfl⟩
 ·rintro e w4 ⟨v, rfl, ⟨i, rfl, hi⟩, rfl⟩
  exact ⟨_, rfl, ⟨_, rfl, by rw [decide_eq_true_eq]; exact hi⟩, rfl⟩
end Go.Proofs.YtkolafpgbhpdlaaGreat
namespace Go.Proofs.YtkolafpgbhpdlaaGreat
open Go Go.Vc Go.Gf
def FlagsAt (w : World) (p : Option Addr) (l : Nat) (ks : List Bool) : Prop := l = ks.length ∧ CellsAt w p (ks.map Value.bool)
theorem FlagsAt.ext {w w' : World} {p : Option Addr} {l : Nat} {ks : List Bool} (h : FlagsAt w p l ks) (hu : Ext w w') : FlagsAt w' p l ks := ⟨h.1, h.2.ext hu⟩
theorem FlagsAt.get {w : World} {p : Option Addr} {l : Nat} {ks : List Bool} (h : FlagsAt w p l ks) {i : Nat} (hi : i < l) : ∃ a, p = some a ∧ w.cell? (a.add i) = some (.bool (ks.getD i false)) := by
 have hlt : i < ks.length := by rw [← h.1]; exact hi
 obtain ⟨a, ha, hc⟩ := h.2 i (.bool ks[i]) (by simp [hlt])
 exact ⟨a, ha, by rw [hc]; simp [List.getD_eq_getElem?_getD, hlt]⟩
def encN (l : List Nat) : List Value := l.map fun (i : Nat) => Value.int .i64 (i : Int)
theorem encN_length (l : List Nat) : (encN l).length = l.length := by simp [encN]
theorem elemN : ElemOf Tryz.prog 30 3 1 8 := ⟨by kernel_rfl, ⟨Tryz.t3, .int .i64 0, by kernel_rfl, by kernel_rfl, by kernel_rfl, by kernel_rfl, by kernel_rfl⟩, by omega⟩
abbrev OwnN (w : World) (base : Nat) (p : Option Addr) (n c : Nat) (l : List Nat) : Prop := OwnS w base 3 1 p n c (encN l)
theorem OwnN.len {w : World} {base : Nat} {p : Option Addr} {n c : Nat} {l : List Nat} (h : OwnN w base p n c l) : n = l.length := by have := OwnS.length h; rw [encN_length] at this; omega
theorem OwnS.blk {w : World} {base : Nat} {e : TypeId} {sz : Nat} {p : Option Addr} {n c : Nat} {xs : List Value} (h : OwnS w base e sz p n c xs) {x : Nat} (hp : p = some (at0 x)) : base ≤ x := by
 subst hp
 rcases h.where_ with ⟨h, _⟩ | ⟨g, h, hb, _⟩
 ·cases h
 ·simp only [Option.some.injEq, at0, Addr.mk.injEq, and_true] at h
  omega
theorem OwnS.other {S : Nat → Prop} {w w' : World} {base : Nat} {e : TypeId} {sz : Nat} {p : Option Addr} {n c : Nat} {xs : List Value} (h : OwnS w base e sz p n c xs) (hu : Upd S w w')
  (hS : ∀ x, S x → ∃ (cs : Array Value) (e' : TypeId) (fz : Nat × Nat), w.heap[x]? = some (Obj.cells cs e' fz) ∧ e' ≠ e) : OwnS w' base e sz p n c xs := by
 refine OwnS.upd h hu fun g hg hs => ?_
 obtain ⟨cs, e', fz, h1, h2⟩ := hS g hs
 obtain ⟨cs', e'', fz', h3, h4⟩ := OwnS.typed h hg
 rw [h1] at h3
 cases h3
 exact h2 h4
theorem OwnN.push {w w1 : World} {base : Nat} {p : Option Addr} {n c k : Nat} {l : List Nat} {b : Nat} (h : OwnN w base p n c l) (hk : NewB w k (.cells #[.int .i64 (b : Int)] 3) w1) (hbase : base ≤ w.heap.size) (hn : n ≤ 1073741824) :
  ∃ p' c' w2, Sem.run Tryz.prog (Builtin.append_ #[30, 30] 30 #[.slice p n c, .slice (some (at0 k)) 1 1]) w1 = .ok (.slice p' (n + 1) c') w2 ∧ OwnN w2 base p' (n + 1) c' (l ++ [b]) ∧
   Upd (fun x => p = some (at0 x)) w w2 := by
 have h1 : OwnS w1 base 3 1 p n c (encN l) := OwnS.ext h hk.ext
 have hq : CellsAt w1 (some (at0 k)) (encN [b]) := by
  intro j u hj
  refine ⟨_, rfl, hk.row.row.cell ?_⟩
  simpa [encN] using hj
 obtain ⟨p', c', w2, hr, ho, hu, _⟩ := h1.append elemN 30 (q := some (at0 k)) (m := 1) (d := 1) (news := encN [b]) rfl hq (fun h => by cases h) (fun u hu => by
  obtain ⟨_, _, rfl⟩ := List.mem_map.1 hu; rfl) (by unfold maxLen; omega) (by omega) (by rw [hk.size.2]; omega)
 refine ⟨p', c', w2, hr, ?_, Upd.trans hk.ext.upd hu fun x _ hx => hx⟩
 have : encN l ++ encN [b] = encN (l ++ [b]) := by simp [encN]
 rw [this] at ho
 exact ho
theorem push_where {P : Program} {t e : TypeId} {sz bytes : Nat} (E : ElemOf P t e sz bytes) (ty : TypeId) {w : World} {base : Nat} {p : Option Addr} {n c : Nat} {xs : List Value} (h : OwnS w base e sz p n c xs)
  {a : Addr} {m d : Nat} {news : List Value} (hl : news.length = m * sz) (hq : CellsAt w (some a) news) (h1 : ∀ u ∈ news, u.oneCell' = true) (hm : 0 < m) (h63 : n + m ≤ maxLen)
  (hbytes : (n + m) * bytes ≤ 140737488355328) {p' : Option Addr} {l' c' : Nat} {w' : World} (hr : (Builtin.append_ #[t, t] ty #[.slice p n c, .slice (some a) m d]).run P w = .ok (.slice p' l' c') w') :
  p' = p ∨ p' = some (at0 w.heap.size) := by
 obtain ⟨i, z, hi, hz, hs, hb, hzs⟩ := E.hi
 subst hs
 subst hb
 have hsmall : n + m ≤ 9223372036854775807 := by simp only [maxLen] at h63; omega
 have hnews : ∀ j u, news[j]? = some u → w.cell? (a.add j) = some u := by
  intro j u hj
  obtain ⟨a', ha, hc⟩ := hq j u hj
  cases ha; exact hc
 rcases h.where_ with ⟨rfl, rfl, rfl⟩ | ⟨g, rfl, hge, hlt, hnc, cur, hg, hcs, htake⟩
 ·have hr2 := run_append_nil (P := P) w t ty e i z E.ht hi hz a m d news hl hnews (by omega) (by omega) (by have hb := hbytes; simp only [Nat.zero_add] at hb; omega)
  rw [hr] at hr2
  simp only [Result.ok.injEq, Value.slice.injEq] at hr2
  exact .inr hr2.1.1
 ·by_cases hroom : n + m ≤ c
  ·have hfit : n * i.size + news.length ≤ cur.size := by rw [hl, hcs, ← Nat.add_mul]; exact Nat.mul_le_mul_right _ hroom
   have hr2 := run_append_room (P := P) w t ty e i E.ht hi g n c cur hg a m d news hl hnews h1 hroom hfit
   rw [show (some (at0 g) : Option Addr) = some ⟨g, 0, none⟩ from rfl] at hr
   rw [hr] at hr2
   simp only [Result.ok.injEq, Value.slice.injEq] at hr2
   exact .inl hr2.1.1
  ·have holds : ∀ j u, xs[j]? = some u → w.cell? ((⟨g, 0, none⟩ : Addr).add j) = some u := by
    intro j u hj
    obtain ⟨a', ha, hc⟩ := h.cells j u hj
    cases ha; exact hc
   have hr2 := run_append_grow (P := P) w t ty e i z E.ht hi hz ⟨g, 0, none⟩ n c xs h.length holds a m d news hl hnews (by omega) (by omega) (growslice_fits (by omega) hbytes)
   rw [show (some (at0 g) : Option Addr) = some ⟨g, 0, none⟩ from rfl] at hr
   rw [hr] at hr2
   simp only [Result.ok.injEq, Value.slice.injEq] at hr2
   exact .inr hr2.1.1
theorem OwnB.push2 {w w1 : World} {base : Nat} {p : Option Addr} {n c k : Nat} {bs : List UInt8} {b : UInt8} (h : OwnB w base p n c bs) (hk : NewB w k (.cells #[vb b] 5) w1) (hbase : base ≤ w.heap.size) (hn : n ≤ 1073741824) :
  ∃ p' c' w2, Sem.run Tryz.prog (Builtin.append_ #[25, 25] 25 #[.slice p n c, .slice (some (at0 k)) 1 1]) w1 = .ok (.slice p' (n + 1) c') w2 ∧ OwnB w2 base p' (n + 1) c' (bs ++ [b]) ∧
   Upd (fun x => p = some (at0 x)) w w2 ∧ ∀ x, x < w.heap.size → Away p x → Away p' x := by
 obtain ⟨p', c', w2, hr, ho, hu⟩ := OwnB.push h hk hbase (by omega)
 have hq : CellsAt w1 (some (at0 k)) (encB [b]) := by
  intro j u hj
  refine ⟨_, rfl, hk.row.row.cell ?_⟩
  simpa [encB] using hj
 have hw := push_where elemY 25 (OwnS.ext h hk.ext) (news := encB [b]) (m := 1) (d := 1) rfl hq (encB_one _) (by omega) (by unfold maxLen; omega) (by omega) hr
 refine ⟨p', c', w2, hr, ho, hu, fun x hx ha => ?_⟩
 rcases hw with rfl | rfl
 ·exact ha
 ·intro a e he
  cases e
  have : w1.heap.size = x := he
  rw [hk.size.2] at this
  omega
def wordP (w : World) (k m : Int) (l4 l5 : Nat) (bs : List UInt8) (ms : List Bool) (v : Value) (w' : World) : Prop := Ext w w' ∧
 ((¬ kmOk k m ∧ v = .tuple #[.slice none 0 0, .slice none 0 0, .int .i64 50]) ∨
  (kmOk k m ∧ ¬ ((l4 : Int) = k + m ∧ (l5 : Int) = k + m) ∧ v = .tuple #[.slice none 0 0, .slice none 0 0, .int .i64 60]) ∨
  kmOk k m ∧ (l4 : Int) = k + m ∧ (l5 : Int) = k + m ∧ ((decM k.toNat m.toNat bs ms = none ∧ v = .tuple #[.slice none 0 0, .slice none 0 0, .int .i64 100]) ∨
  ∃ c, decM k.toNat m.toNat bs ms = some c ∧ ∃ p1 c1 p2 n2 c2, v = .tuple #[.slice p1 l4 c1, .slice p2 n2 c2, .int .i64 0] ∧ OwnB w' w.heap.size p1 l4 c1 c ∧ OwnN w' w.heap.size p2 n2 c2 (dif (k.toNat + m.toNat) ms c bs)))
def WordI0 (w : World) (k m n : Nat) (bs : List UInt8) (ms : List Bool) (p8 : Option Addr) (l8 c8 : Nat) (p12 : Option Addr) (l12 c12 : Nat) (p24 : Option Addr) (l24 c24 : Nat) (i : Int) (w1 : World) : Prop :=
 0 ≤ i ∧ i ≤ n ∧ ∃ w6, Ext w w6 ∧ Ext w6 w1 ∧ ∃ ko z kn W, p12 = some (at0 ko) ∧ OwnB w1 w6.heap.size p12 l12 c12 z ∧ l12 = n ∧ OwnB w1 w6.heap.size p24 l24 c24 kn ∧ Away p24 ko ∧ OwnB w6 w.heap.size p8 l8 c8 W ∧ l8 = n ∧
  (∀ j, j < n → co W j = wgt k m j) ∧ (∀ j : Nat, j < n → co z j = if (j : Int) < i ∧ ms.getD j false = true then 0 else co bs j) ∧ kn = (mis i.toNat ms).map pt
def WordI1 (w : World) (k m n : Nat) (bs : List UInt8) (ms : List Bool) (p8 : Option Addr) (l8 c8 : Nat) (p12 : Option Addr) (l12 c12 : Nat) (p61 : Option Addr) (l61 c61 : Nat) (p65 : Option Addr) (l65 c65 : Nat) (p68 : Option Addr) (l68 c68 : Nat)
  (p85 : Option Addr) (l85 c85 : Nat) (rt i : Int) (w1 : World) : Prop :=
 0 ≤ i ∧ i ≤ n ∧ Ext w w1 ∧ ∃ ko z W T g P b o full slope out, p12 = some (at0 ko) ∧ WordIn k m bs z ms T g P ∧ Gf.Found m (mis (k + m) ms).length (co P) b o ∧ Normal full ∧ co full = act b (co g) ∧ co slope = der (co full) ∧
  OwnB w1 w.heap.size p12 l12 c12 out ∧ l12 = n ∧ OwnB w1 w.heap.size p8 l8 c8 W ∧ l8 = n ∧ Away p8 ko ∧ (∀ j, j < n → co W j = wgt k m j) ∧ OwnB w1 w.heap.size p61 l61 c61 o ∧ Away p61 ko ∧ l61 ≤ 4096 ∧ OwnB w1 w.heap.size p65 l65 c65 full ∧ Away p65 ko ∧ l65 ≤ 4096 ∧
  OwnB w1 w.heap.size p68 l68 c68 slope ∧ Away p68 ko ∧ l68 ≤ 4096 ∧ (∀ j : Nat, j < n → co out j = if (j : Int) < i then fixd k m z full o slope j else co z j) ∧ OwnN w1 w.heap.size p85 l85 c85 (wrg i.toNat ms full) ∧ rt = ((zer i.toNat full).length : Int)
end Go.Proofs.YtkolafpgbhpdlaaGreat
namespace Go.Proofs.YtkolafpgbhpdlaaGreat
open Go Go.Vc Go.Gf
theorem range_filter_succ (p : Nat → Bool) (i : Nat) : (List.range (i + 1)).filter p = (List.range i).filter p ++ (if p i = true then [i] else []) := by
 rw [List.range_succ, List.filter_append]
 congr 1
 by_cases h : p i = true
 ·rw [if_pos h, List.filter_cons_of_pos h]; rfl
 ·rw [if_neg h, List.filter_cons_of_neg h]; rfl
theorem mis_succ (i : Nat) (ms : List Bool) : mis (i + 1) ms = mis i ms ++ (if ms.getD i false = true then [i] else []) := range_filter_succ _ _
theorem wrg_succ (i : Nat) (ms : List Bool) (full : List UInt8) : wrg (i + 1) ms full = wrg i ms full ++ (if (decide (ev full (pt i) = 0) && !ms.getD i false) = true then [i] else []) := range_filter_succ _ _
theorem zer_succ (i : Nat) (full : List UInt8) : zer (i + 1) full = zer i full ++ (if decide (ev full (pt i) = 0) = true then [i] else []) := range_filter_succ _ _
theorem ty_nb : 3 ≠ 5 := by decide
theorem OwnB.at0_ {w : World} {base : Nat} {p : Option Addr} {n c : Nat} {bs : List UInt8} (h : OwnB w base p n c bs) (hn : 0 < n) : ∃ k, p = some (at0 k) ∧ base ≤ k ∧ k < w.heap.size := by
 rcases h.where_ with ⟨_, h0, _⟩ | ⟨g, hg, hb, hl, _⟩
 ·omega
 ·exact ⟨g, hg, hb, hl⟩
theorem OwnB.row {w : World} {base k : Nat} {n c : Nat} {bs : List UInt8} (h : OwnB w base (some (at0 k)) n c bs) : ∃ cs, RowK w k 5 cs := by
 rcases h.where_ with ⟨h0, _⟩ | ⟨g, h0, _, _, _, cur, hc, _⟩
 ·cases h0
 ·simp only [Option.some.injEq, at0, Addr.mk.injEq, and_true] at h0
  subst h0
  exact ⟨cur, hc⟩
theorem away_none (k : Nat) : Away none k := fun a h => by cases h
set_option maxHeartbeats 8000000 in
theorem word_spec {f p4 p5 : Option Addr} {w : World} {l4 c4 l5 c5 : Nat} {bs : List UInt8} {ms : List Bool} (hf : FieldAt w f) (h4 : BytesAt w p4 l4 bs) (h5 : FlagsAt w p5 l5 ms) (k m : Int) :
  Calls Tryz.prog 102 #[.pointer f, .int .i64 k, .int .i64 m, .slice p4 l4 c4, .slice p5 l5 c5] w fun e w' => ∃ v, e = .returned v ∧ wordP w k m l4 l5 bs ms v w' := by
 refine F102_calls f k m p4 l4 c4 p5 l5 c5 w (wordP w k m l4 l5 bs ms)
  (fun p8 l8 c8 _ p12 l12 c12 _ _ _ _ _ p24 l24 c24 i w1 => WordI0 w k.toNat m.toNat l5 bs ms p8 l8 c8 p12 l12 c12 p24 l24 c24 i w1) (fun _ _ _ _ _ _ _ _ _ _ _ _ _ _ _ i _ => (l5 - i).toNat)
  (fun p8 l8 c8 p12 l12 c12 p61 l61 c61 p65 l65 c65 p68 l68 c68 _ _ p85 l85 c85 rt i w1 => WordI1 w k.toNat m.toNat l5 bs ms p8 l8 c8 p12 l12 c12 p61 l61 c61 p65 l65 c65 p68 l68 c68 p85 l85 c85 rt i w1)
  (fun _ _ _ _ _ _ _ _ _ _ _ _ _ _ _ _ _ _ _ _ _ i _ => (l5 - i).toNat) ?_
 have e4 := h4.1
 have e5 := h5.1
 refine (weights_spec hf k m).mono ?_
 rintro e w6 ⟨hx6, ⟨hk, rfl⟩ | ⟨hk, p8, c8, W, rfl, oW, hW⟩⟩
 ·exact ⟨_, _, _, _, rfl, condB_of (fun _ => ⟨hx6, .inl ⟨hk, rfl⟩⟩) (fun h => by simp at h)⟩
 obtain ⟨a1, a2, a3, a4⟩ := hk
 have hk : kmOk k m := ⟨a1, a2, a3, a4⟩
 refine ⟨_, _, _, _, rfl, condB_of (fun h => by simp at h) fun _ => ?_⟩
 rw [w64 (n := k + m) (by omega)]
 refine condB_of (fun hc => ?_) (fun hc => ?_)
 ·simp only [Bool.not_eq_true', decide_eq_false_iff_not] at hc
  exact ⟨hx6, .inr (.inl ⟨hk, fun h => hc h.1, rfl⟩)⟩
 simp only [Bool.not_eq_false', decide_eq_true_eq] at hc
 refine condB_of (fun hc5 => ?_) (fun hc5 => ?_)
 ·simp only [Bool.not_eq_true', decide_eq_false_iff_not] at hc5
  exact ⟨hx6, .inr (.inl ⟨hk, fun h => hc5 h.2, rfl⟩)⟩
 simp only [Bool.not_eq_false', decide_eq_true_eq] at hc5
 have hn : (k + m).toNat = l5 := by omega
 have hn2 : k.toNat + m.toNat = l5 := by omega
 rw [hn] at oW hW ⊢
 refine (bclone_own (h4.ext hx6) (by omega)).mono ?_
 rintro e w10 ⟨p12, c12, rfl, hx10, oz⟩
 have x10 : Ext w w10 := hx6.trans hx10
 obtain ⟨ko, rfl, hko, hko2⟩ := OwnB.at0_ oz (by omega)
 have aW : Away p8 ko := OwnB.away2 oW hko
 refine ⟨_, _, _, rfl, ⟨by omega, by omega, w6, hx6, hx10, ko, bs, [], W, rfl, oz, by omega, OwnS.nil _ _ _ _, away_none ko, oW, rfl, hW, (fun j hj => by rw [if_neg (by omega)]), rfl⟩, ?_⟩
 clear oz hko hko2 aW
 rintro p24 l24 c24 i w26 ⟨hi0, hi1, w6', hx6', hx, ko', z, kn, W', hko', oz, hl12, okn, akn, oW', _, hW', hz, rfl⟩
 simp only [Option.some.injEq, at0, Addr.mk.injEq, and_true] at hko'
 subst hko'
 intros
 have lkn := OwnB.len okn
 have x26 := hx6'.trans hx
 refine condB_of (fun hs => ?_) (fun hs => ?_)
 ·
  simp only [decide_eq_true_eq] at hs
  obtain ⟨a, rfl, ha⟩ := (h5.ext x26).get (i := i.toNat) (by omega)
  rw [w64 (n := i + 1) (by omega)]
  have hnx : (i + 1).toNat = i.toNat + 1 := by omega
  have hms : (mis i.toNat ms).length ≤ i.toNat := by
   unfold mis
   exact Nat.le_trans (List.length_filter_le _ _) (by simp)
  refine ⟨⟨hi0, hs⟩, _, by rw [Nat.mul_one]; exact ha, condB_of (fun hb => ?_) (fun hb => ?_)⟩
  ·obtain ⟨k', hk', hb', hlive, _, hset⟩ := OwnB.at oz (i := i.toNat) (by omega)
   simp only [Option.some.injEq, at0, Addr.mk.injEq, and_true] at hk'
   subst hk'
   rw [Nat.mul_one]
   refine ⟨⟨hi0, by omega⟩, hlive, fun w46 hs46 => ?_⟩
   obtain ⟨oz46, u46⟩ := hset 0 w46 hs46
   have x46 : Ext w6' w46 := OwnB.new_ext hx u46 fun y hy => by rw [show y = ko from hy]; exact hb'
   intro k47 w48 h48
   rw [wrap8 i hi0] at h48
   obtain ⟨p50, c50, w49, hr, ok49, u49, aw49⟩ := OwnB.push2 (OwnB.setk okn u46 akn) h48 x46.size (by simp at lkn; omega)
   have hkolt : ko < w46.heap.size := Nat.lt_of_lt_of_le (OwnS.lt_heap oz) u46.size
   have x49 : Ext w6' w49 := OwnB.new_ext x46 u49 fun y hy => OwnB.blk okn hy
   have hlz := OwnB.len oz
   refine ⟨_, _, _, w49, hr, ⟨by omega, by omega, w6', hx6', x49, ko, _, _, W', rfl, OwnS.upd oz46 u49 (fun g hg he => ?_), hl12, ok49, aw49 ko hkolt akn, oW', rfl, hW', fun j hj => ?_, ?_⟩, by show ((l5 : Int) - (i + 1)).toNat < ((l5 : Int) - i).toNat; omega⟩
   ·simp only [Option.some.injEq, at0, Addr.mk.injEq, and_true] at hg
    subst hg
    exact akn _ he rfl
   ·rw [co_set (by omega), hz j hj]
    by_cases h1 : j = i.toNat
    ·rw [if_pos h1, h1, if_pos ⟨by omega, hb⟩]
    ·rw [if_neg h1]
     by_cases h2 : (j : Int) < i ∧ ms.getD j false = true
     ·rw [if_pos h2, if_pos ⟨by omega, h2.2⟩]
     ·rw [if_neg h2, if_neg (fun h3 => h2 ⟨by omega, h3.2⟩)]
   ·rw [hnx, mis_succ, if_pos hb, List.map_append]; rfl
  ·have hb : ms.getD i.toNat false = false := hb
   refine ⟨⟨by omega, by omega, w6', hx6', hx, ko, z, _, W', rfl, oz, hl12, okn, akn, oW', rfl, hW', fun j hj => ?_, ?_⟩, by show ((l5 : Int) - (i + 1)).toNat < ((l5 : Int) - i).toNat; omega⟩
   ·rw [hz j hj]
    by_cases h1 : j = i.toNat
    ·subst h1
     rw [hb, if_neg (by simp), if_neg (by simp)]
    ·by_cases h2 : (j : Int) < i ∧ ms.getD j false = true
     ·rw [if_pos h2, if_pos ⟨by omega, h2.2⟩]
     ·rw [if_neg h2, if_neg (fun h3 => h2 ⟨by omega, h3.2⟩)]
   ·rw [hnx, mis_succ, hb]; simp
 ·simp only [decide_eq_false_iff_not] at hs
  obtain rfl : i = (l5 : Int) := by omega
  rw [Int.toNat_natCast] at okn lkn
  have hlz := OwnB.len oz
  have hn3 : l5 = k.toNat + m.toNat := hn2.symm
  have hz' : ∀ j, j < k.toNat + m.toNat → co z j = if ms.getD j false = true then 0 else co bs j := fun j hj => by
   rw [hz j (by omega)]
   by_cases h2 : ms.getD j false = true
   ·rw [if_pos ⟨by omega, h2⟩, if_pos h2]
   ·rw [if_neg (fun h3 => h2 h3.2), if_neg h2]
  have hmle : (mis l5 ms).length ≤ l5 := by
   unfold mis
   exact Nat.le_trans (List.length_filter_le _ _) (by simp)
  have hkl : ((mis l5 ms).map pt).length = (mis l5 ms).length := List.length_map ..
  refine (synof_spec (hf.ext x26) (OwnB.bytes oz) (by omega) k m).mono ?_
  rintro e w51 ⟨x51, ⟨h, _⟩ | ⟨_, h, _⟩ | ⟨_, _, p53, c53, S, rfl, oS, hS⟩⟩
  ·exact (h hk).elim
  ·exact (h (by omega)).elim
  have x51' := x26.trans x51
  refine ⟨_, _, _, _, rfl, condB_of (fun hmany => ?_) (fun hmany => ?_)⟩
  ·simp only [decide_eq_true_eq] at hmany
   refine ⟨x51', .inr (.inr ⟨hk, hc, hc5, .inl ⟨?_, rfl⟩⟩)⟩
   refine many_missing ?_
   rw [hn2]; omega
  simp only [decide_eq_false_iff_not] at hmany
  have okn51 := OwnB.ext okn x51
  refine (locator_spec (hf.ext x51') (OwnB.bytes okn51) (by omega)).mono ?_
  rintro e w55 ⟨p57, l57, c57, g, rfl, x55, og, ng, eg⟩
  have x55' := x51'.trans x55
  have lg := OwnB.len og
  have hdeg := loc_deg ((mis l5 ms).map pt)
  have htop := loc_top ((mis l5 ms).map pt)
  rw [hkl, ← eg] at hdeg htop
  have hgl : g.length = (mis l5 ms).length + 1 := by
   have h1 := ng.le hdeg
   have h2 : (mis l5 ms).length < g.length := Normal.pos (by rw [htop]; decide)
   omega
  have g0 : g ≠ [] := by rintro rfl; simp at hgl
  have oS55 := OwnB.ext oS x55
  refine ⟨_, _, _, rfl, (solve_spec (cm := c53) (hf.ext x55') (OwnB.bytes oS55) (OwnB.bytes og) (OwnB.le og) ng g0 (by omega) (by omega)).mono ?_⟩
  rintro e w58 ⟨v, rfl, x58, hsol⟩
  have x58' := x55'.trans x58
  have hlS := OwnB.len oS
  have hT : ∀ i, co S.reverse i = if i < m.toNat then syn k.toNat m.toNat z (m.toNat - 1 - i) else 0 := fun i => by
   by_cases hi : i < m.toNat
   ·rw [if_pos hi, ← hS _ (by omega)]
    simp only [Gf.co, List.getD_eq_getElem?_getD]
    rw [List.getElem?_reverse (by omega), ← hlS]
   ·rw [if_neg hi, co_out (by rw [List.length_reverse]; omega)]
  have hin : WordIn k.toNat m.toNat bs z ms S.reverse g (mulL g S.reverse) := ⟨by omega, hz', hT, by rw [hn2]; exact eg, ng, by rw [co_mulL]⟩
  rw [hgl, Nat.add_sub_cancel] at hsol
  rcases hsol with ⟨rfl, hno⟩ | ⟨pb, nb, cb, b, po, no, oc, o, rfl, ob, oo, lo4, hfound⟩
  ·refine ⟨_, _, _, _, _, _, _, rfl, condB_of (fun _ => ?_) (fun h => by simp at h)⟩
   refine ⟨x58', .inr (.inr ⟨hk, hc, hc5, .inl ⟨?_, rfl⟩⟩)⟩
   refine hin.none ?_
   rw [hn2]; exact hno
  refine ⟨_, _, _, _, _, _, _, rfl, condB_of (fun h => by simp at h) fun _ => ?_⟩
  have lb := OwnB.len ob
  have lo := OwnB.len oo
  have hfew := hfound.few
  have og58 := OwnB.ext og x58
  refine (pmul_spec (hf.ext x58') (OwnB.bytes ob) (by omega) (OwnB.bytes og58) (by omega)).mono ?_
  rintro e w63 ⟨p65, l65, c65, full, rfl, x63, ofu, nfu, efu⟩
  have lfu := OwnB.len ofu
  have efu' : co full = act b (co g) := by rw [efu, act_co]
  have hfl : full.length + 1 = b.length + g.length := mul_len hfound.nb ng nfu hfound.b0 g0 efu'
  refine ⟨_, _, _, rfl, (pderiv_spec (OwnB.bytes ofu) (by omega)).mono ?_⟩
  rintro e w66 ⟨p68, l68, c68, slope, rfl, x66, osl, nsl, esl⟩
  have lsl := OwnB.len osl
  have hsl : slope.length ≤ 4096 := nsl.le (n := 4096) (by
   rw [esl]
   intro i hi
   unfold der
   split
   ·exact co_out (by omega)
   ·rfl)
  have hkolt : ko < w26.heap.size := OwnS.lt_heap oz
  have s51 : ko < w51.heap.size := Nat.lt_of_lt_of_le hkolt x51.size
  have s55 : ko < w55.heap.size := Nat.lt_of_lt_of_le s51 x55.size
  have s58 : ko < w58.heap.size := Nat.lt_of_lt_of_le s55 x58.size
  have s63 : ko < w63.heap.size := Nat.lt_of_lt_of_le s58 x63.size
  have ao := OwnB.away oo s55
  have afu := OwnB.away ofu s58
  have asl := OwnB.away osl s63
  have x66' := x58'.trans (x63.trans x66)
  have xr : Ext w26 w66 := x51.trans (x55.trans (x58.trans (x63.trans x66)))
  have e5866 : Ext w58 w66 := x63.trans x66
  have aW : Away p8 ko := OwnB.away2 oW' (OwnB.blk oz rfl)
  refine ⟨_, _, _, rfl, ⟨by omega, by omega, x66', ko, z, W', S.reverse, g, mulL g S.reverse, b, o, full, slope, z, rfl, hin, by rw [hn2]; exact hfound, nfu, efu', esl, OwnB.base_le (OwnB.ext oz xr) hx6'.size, hl12, OwnB.ext oW' (hx.trans xr), rfl, aW, hW',
   OwnB.base_le (OwnB.ext oo e5866) x55'.size, ao, by omega, OwnB.base_le (OwnB.ext ofu x66) x58'.size, afu, by omega, OwnB.base_le osl (x58'.trans x63).size, asl, by omega, fun j hj => by rw [if_neg (by omega)], OwnS.nil _ _ _ _, rfl⟩, ?_⟩
  rintro p85 l85 c85 rt i w88 ⟨hi0, hi1, hx88, ko', z1, W1, T1, g1, P1, b1, o1, full1, slope1, out, hko', hin1, hf1, nf1, ef1, es1, oout, _, oW1, _, aW1, hW1, oo1, ao1, lo1, ofu1, afu1, lfu1, osl1, asl1, lsl1, hout, owr, rfl⟩
  simp only [Option.some.injEq, at0, Addr.mk.injEq, and_true] at hko'
  subst hko'
  intros
  have lout := OwnB.len oout
  have lW1 := OwnB.len oW1
  refine condB_of (fun hs => ?_) (fun hs => ?_)
  ·simp only [decide_eq_true_eq] at hs
   have e8 : IntKind.u8.wrap i = ((pt i.toNat).toNat : Int) := wrap8 i hi0
   rw [e8, w64 (n := i + 1) (by omega)]
   have hnx : (i + 1).toNat = i.toNat + 1 := by omega
   refine (peval_spec (hf.ext hx88) (OwnB.bytes ofu1) (by omega) _).mono ?_
   rintro e w140 ⟨rfl, x140⟩
   have x140' := hx88.trans x140
   have hmeas : ((l5 : Int) - (i + 1)).toNat < ((l5 : Int) - i).toNat := by omega
   refine ⟨_, rfl, condB_of (fun hz0 => ?_) (fun hz0 => ?_)⟩
   ·simp only [Bool.not_eq_true', decide_eq_false_iff_not, vb_zero] at hz0
    refine ⟨⟨by omega, by omega, x140', ko, z1, W1, T1, g1, P1, b1, o1, full1, slope1, out, rfl, hin1, hf1, nf1, ef1, es1, OwnB.ext oout x140, hl12, OwnB.ext oW1 x140, rfl, aW1, hW1, OwnB.ext oo1 x140, ao1, lo1, OwnB.ext ofu1 x140, afu1, lfu1, OwnB.ext osl1 x140, asl1, lsl1, fun j hj => ?_, ?_, ?_⟩, hmeas⟩
    ·rw [hout j hj]
     by_cases h1 : (j : Int) < i
     ·rw [if_pos h1, if_pos (by omega)]
     ·rw [if_neg h1]
      by_cases h2 : j = i.toNat
      ·rw [if_pos (by omega), fixd, if_neg (by rw [h2]; exact hz0)]
      ·rw [if_neg (by omega)]
    ·rw [hnx, wrg_succ, decide_eq_false hz0]
     simpa using OwnS.ext owr x140
    ·rw [hnx, zer_succ, decide_eq_false hz0]; simp
   ·simp only [Bool.not_eq_false', decide_eq_true_eq, vb_zero] at hz0
    intro w143 hd
    have x143 : Ext w88 w143 := x140.trans hd.ext
    have x143' := hx88.trans x143
    obtain ⟨aw, rfl, haw⟩ := BytesAt.co (OwnB.bytes (OwnB.ext oW1 x143)) (i := i.toNat) (by omega)
    rw [Nat.mul_one]
    refine ⟨⟨hi0, by omega⟩, _, haw, (peval_spec (hf.ext x143') (OwnB.bytes (OwnB.ext oo1 x143)) (by omega) _).mono ?_⟩
    rintro e w146 ⟨rfl, x146⟩
    refine ⟨_, rfl, ⟨_, x146.cell haw id, rfl⟩, (peval_spec (hf.ext (x143'.trans x146)) (OwnB.bytes (OwnB.ext (OwnB.ext osl1 x143) x146)) (by omega) _).mono ?_⟩
    rintro e w150 ⟨rfl, x150⟩
    refine ⟨_, rfl, ⟨_, x150.cell (x146.cell haw id) id, rfl⟩, (fmul_spec (hf.ext ((x143'.trans x146).trans x150)) _ _).mono ?_⟩
    rintro e w154 ⟨rfl, x154⟩
    refine ⟨_, rfl, (fdiv_spec (hf.ext (((x143'.trans x146).trans x150).trans x154)) _ _).mono ?_⟩
    rintro e w157 ⟨rfl, x157⟩
    have xx : Ext w88 w157 := x143.trans (x146.trans (x150.trans (x154.trans x157)))
    have xx' := hx88.trans xx
    obtain ⟨k', hk', hb', hlive, hcell, hset⟩ := OwnB.at (OwnB.ext oout xx) (i := i.toNat) (by omega)
    simp only [Option.some.injEq, at0, Addr.mk.injEq, and_true] at hk'
    subst hk'
    refine ⟨_, _, rfl, ⟨hi0, by omega⟩, _, hcell, ⟨hi0, by omega⟩, hlive, fun w164 hs164 => ?_⟩
    rw [bx8] at hs164
    obtain ⟨oout', u164⟩ := hset _ _ hs164
    obtain ⟨csk, rowk⟩ := OwnB.row (OwnB.ext oout xx)
    have x164 : Ext w w164 := OwnB.new_ext xx' u164 fun y hy => by rw [show y = ko from hy]; exact hb'
    obtain ⟨ap, rfl, hap⟩ := (h5.ext x164).get (i := i.toNat) (by omega)
    have owr164 : OwnN w164 w.heap.size p85 l85 c85 (wrg i.toNat ms full1) := OwnS.other (OwnS.ext owr xx) u164 fun x hx => ⟨csk, _, (0, 0), by rw [show x = ko from hx]; exact rowk, fun h => ty_nb h.symm⟩
    have kp : ∀ {p : Option Addr} {n c : Nat} {bs : List UInt8}, OwnB w88 w.heap.size p n c bs → Away p ko → OwnB w164 w.heap.size p n c bs := fun o ha => OwnB.setk (OwnB.ext o xx) u164 ha
    have hout' : ∀ j : Nat, j < l5 → co (out.set i.toNat (co out i.toNat ^^^ gm (ev o1 (pt i.toNat)) (gi (gm (ev slope1 (pt i.toNat)) (co W1 i.toNat))))) j = if (j : Int) < i + 1 then fixd k.toNat m.toNat z1 full1 o1 slope1 j else co z1 j := fun j hj => by
     rw [co_set (by omega)]
     by_cases h2 : j = i.toNat
     ·subst h2
      rw [if_pos rfl, if_pos (by omega), hout _ hj, if_neg (by omega), fixd, if_pos hz0, hW1 _ hj]
     ·rw [if_neg h2, hout j hj]
      by_cases h1 : (j : Int) < i
      ·rw [if_pos h1, if_pos (by omega)]
      ·rw [if_neg h1, if_neg (by omega)]
    have hrt : IntKind.i64.wrap (((zer i.toNat full1).length : Int) + 1) = ((zer (i + 1).toNat full1).length : Int) := by
     have hzl : (zer i.toNat full1).length ≤ i.toNat := by
      unfold zer
      exact Nat.le_trans (List.length_filter_le _ _) (by simp)
     rw [w64 (by omega), hnx, zer_succ, decide_eq_true hz0]; simp
    rw [hrt]
    refine ⟨⟨hi0, by omega⟩, _, hap, condB_of (fun hm0 => ?_) (fun hm0 => ?_)⟩
    ·have hm0' : ms.getD i.toNat false = false := by simpa using hm0
     intro k167 w168 h168
     have hwl : (wrg i.toNat ms full1).length ≤ i.toNat := by
      unfold wrg
      exact Nat.le_trans (List.length_filter_le _ _) (by simp)
     have lwr := OwnN.len owr164
     rw [show i = ((i.toNat : Nat) : Int) by omega] at h168
     obtain ⟨p170, c170, w169, hr, ow169, u169⟩ := OwnN.push owr164 h168 x164.size (by omega)
     have x169 : Ext w w169 := OwnB.new_ext x164 u169 fun y hy => OwnS.blk owr164 hy
     have kp2 : ∀ {p : Option Addr} {n c : Nat} {bs : List UInt8}, OwnB w88 w.heap.size p n c bs → Away p ko → OwnB w169 w.heap.size p n c bs := fun o ha => OwnB.other (kp o ha) u169 fun x hx => by
      obtain ⟨cs, e', fz, h7, h8⟩ := OwnS.typed owr164 hx
      exact ⟨cs, e', fz, h7, by rw [h8]; exact ty_nb⟩
     have oout2 := OwnB.other oout' u169 fun x hx => by
      obtain ⟨cs, e', fz, h7, h8⟩ := OwnS.typed owr164 hx
      exact ⟨cs, e', fz, h7, by rw [h8]; exact ty_nb⟩
     refine ⟨_, _, _, w169, hr, ⟨by omega, by omega, x169, ko, z1, W1, T1, g1, P1, b1, o1, full1, slope1, _, rfl, hin1, hf1, nf1, ef1, es1, oout2, hl12, kp2 oW1 aW1, rfl, aW1, hW1, kp2 oo1 ao1, ao1, lo1, kp2 ofu1 afu1, afu1, lfu1, kp2 osl1 asl1, asl1, lsl1, hout', ?_, rfl⟩, hmeas⟩
     rw [hnx, wrg_succ, decide_eq_true hz0, hm0']
     exact ow169
    ·have hm0' : ms.getD i.toNat false = true := by simpa using hm0
     refine ⟨⟨by omega, by omega, x164, ko, z1, W1, T1, g1, P1, b1, o1, full1, slope1, _, rfl, hin1, hf1, nf1, ef1, es1, oout', hl12, kp oW1 aW1, rfl, aW1, hW1, kp oo1 ao1, ao1, lo1, kp ofu1 afu1, afu1, lfu1, kp osl1 asl1, asl1, lsl1, hout', ?_, rfl⟩, hmeas⟩
     rw [hnx, wrg_succ, hm0']
     simpa using owr164
  ·simp only [decide_eq_false_iff_not] at hs
   obtain rfl : i = (l5 : Int) := by omega
   rw [Int.toNat_natCast] at owr ⊢
   have hout2 : ∀ j, j < k.toNat + m.toNat → co out j = fixd k.toNat m.toNat z1 full1 o1 slope1 j := fun j hj => by
    rw [hout j (by omega), if_pos (by omega)]
   have hlen : out.length = k.toNat + m.toNat := by omega
   have lfu := OwnB.len ofu1
   refine (synof_spec (hf.ext hx88) (OwnB.bytes oout) (by omega) k m).mono ?_
   rintro e w171 ⟨x171, ⟨h, _⟩ | ⟨_, h, _⟩ | ⟨_, _, p173, c173, S2, rfl, oS2, hS2⟩⟩
   ·exact (h hk).elim
   ·exact (h (by omega)).elim
   have x171' := hx88.trans x171
   have e9 : IntKind.i64.wrap (((l65 : Nat) : Int) - (1 : Int)) = (full1.length : Int) - 1 := by rw [w64 (by omega)]; omega
   rw [e9]
   have hzr : zer (k.toNat + m.toNat) full1 = zer l5 full1 := by rw [hn2]
   refine ⟨_, _, _, _, rfl, condB_of (fun hr => ?_) (fun hr => ?_)⟩
   ·simp only [Bool.not_eq_true', decide_eq_false_iff_not] at hr
    refine ⟨x171', .inr (.inr ⟨hk, hc, hc5, .inl ⟨?_, rfl⟩⟩)⟩
    refine hin1.many hf1 nf1 ef1 es1 hlen hout2 fun hh => hr ?_
    have := hh.1
    rw [hzr] at this
    omega
   simp only [Bool.not_eq_false', decide_eq_true_eq] at hr
   have hr' : (zer (k.toNat + m.toNat) full1).length + 1 = full1.length := by rw [hzr]; omega
   have lS2 := OwnB.len oS2
   refine (anyz_spec (OwnB.bytes oS2) (by omega)).mono ?_
   rintro e w175 ⟨⟨bb, rfl, hbb⟩, rfl⟩
   refine ⟨_, rfl, condB_of (fun hany => ?_) (fun hany => ?_)⟩
   ·obtain ⟨t, ht, hne⟩ := hbb.1 hany
    refine ⟨x171', .inr (.inr ⟨hk, hc, hc5, .inl ⟨?_, rfl⟩⟩)⟩
    refine hin1.many hf1 nf1 ef1 es1 hlen hout2 fun hh => hne ?_
    rw [hS2 t ht]
    exact hh.2 t ht
   ·have hall : ∀ l, l < m.toNat → syn k.toNat m.toNat out l = 0 := fun l hl => by
     rw [← hS2 l hl]
     refine Decidable.byContradiction fun hne => ?_
     have := hbb.2 ⟨l, hl, hne⟩
     rw [hany] at this; cases this
    obtain ⟨h1, h2⟩ := hin1.ok hf1 nf1 ef1 es1 hlen hout2 hr' hall
    refine ⟨x171', .inr (.inr ⟨hk, hc, hc5, .inr ⟨out, h1, _, _, _, _, _, rfl, OwnB.ext oout x171, ?_⟩⟩)⟩
    rw [← h2, hn2]
    exact OwnS.ext owr x171
end Go.Proofs.YtkolafpgbhpdlaaGreat
namespace Go.Proofs.YtkolafpgbhpdlaaGreat
open Go Go.Vc Go.Gf
def Sized (k m : Int) (l3 l4 : Nat) (hs : List Bool) (L : List (List UInt8)) (s : Nat) : Prop :=
 (l3 : Int) = k + m ∧ (l4 : Int) = k + m ∧ (∃ i, i < l3 ∧ hs.getD i false = true) ∧ ∀ i, i < l3 → hs.getD i false = true → (L.getD i []).length = s
theorem size_spec {p3 p4 : Option Addr} {l3 c3 l4 c4 : Nat} {w : World} {hs : List Bool} {L : List (List UInt8)} (h3 : FlagsAt w p3 l3 hs) (h4 : ListsAt w p4 l4 L) {k m : Int} (hk : kmOk k m) :
  Calls Tryz.prog 100 #[.int .i64 k, .int .i64 m, .slice p3 l3 c3, .slice p4 l4 c4] w fun e w' => (∃ r : Int, e = .returned (.int .i64 r) ∧ ((r = -1 ∧ ∀ s, ¬ Sized k m l3 l4 hs L s) ∨ 0 ≤ r ∧ Sized k m l3 l4 hs L r.toNat)) ∧ w' = w := by
 obtain ⟨a1, a2, a3, a4⟩ := hk
 refine (F100_calls k m p3 l3 c3 p4 l4 c4 w (fun v w' => (∃ r : Int, v = .int .i64 r ∧ ((r = -1 ∧ ∀ s, ¬ Sized k m l3 l4 hs L s) ∨ 0 ≤ r ∧ Sized k m l3 l4 hs L r.toNat)) ∧ w' = w)
  (fun _ _ _ _ _ n i w1 => 0 ≤ i ∧ i ≤ l3 ∧ w1 = w ∧ ((n = -1 ∧ ∀ j : Nat, (j : Int) < i → hs.getD j false = false) ∨ (0 ≤ n ∧ (∃ j : Nat, (j : Int) < i ∧ hs.getD j false = true) ∧ ∀ j : Nat, (j : Int) < i → hs.getD j false = true → ((L.getD j []).length : Int) = n)))
  (fun _ _ _ _ _ _ i _ => (l3 - i).toNat) ?_).mono (by rintro e w' ⟨v, rfl, ⟨r, rfl, h⟩, hw⟩; exact ⟨⟨r, rfl, h⟩, hw⟩)
 unfold F100
 rw [w64 (n := k + m) (by omega)]
 refine condB_of (fun h => ?_) fun h => condB_of (fun h2 => ?_) fun h2 => ?_
 ·simp only [Bool.not_eq_true', decide_eq_false_iff_not] at h
  exact ⟨⟨-1, rfl, .inl ⟨rfl, fun s hs => h hs.1⟩⟩, rfl⟩
 ·simp only [Bool.not_eq_true', decide_eq_false_iff_not] at h2
  exact ⟨⟨-1, rfl, .inl ⟨rfl, fun s hs => h2 hs.2.1⟩⟩, rfl⟩
 simp only [Bool.not_eq_false', decide_eq_true_eq] at h h2
 refine ⟨⟨by omega, by omega, rfl, .inl ⟨rfl, fun j hj => by omega⟩⟩, ?_⟩
 rintro n i w1 ⟨hi0, hi1, rfl, hn⟩
 intros
 refine condB_of (fun hs' => ?_) (fun hs' => ?_)
 ·simp only [decide_eq_true_eq] at hs'
  obtain ⟨a, rfl, ha⟩ := h3.get (i := i.toNat) (by omega)
  obtain ⟨b, q, ln, cn, rfl, hcell, hq, hqc⟩ := h4.2 i.toNat (by omega)
  have hql := hq.1
  have hmeas : ((l3 : Int) - (i + 1)).toNat < ((l3 : Int) - i).toNat := by omega
  have hnx : IntKind.i64.wrap (i + 1) = i + 1 := w64 (by omega)
  refine ⟨⟨hi0, hs'⟩, _, by rw [Nat.mul_one]; exact ha, ?_⟩
  unfold F100_A0
  rw [hnx]
  have go : (∀ j : Nat, (j : Int) < i → hs.getD j false = true → ((L.getD j []).length : Int) = (ln : Int)) → hs.getD i.toNat false = true →
    ((0 ≤ i ∧ i < ((l4 : Nat) : Int)) ∧ nilM (some b) fun a44 => ∃ (p45 : Option Addr) (l45 c45 : Nat), w1.cell? (a44.add (i.toNat * 1)) = some (.slice p45 l45 c45) ∧
     ((0 ≤ i + 1 ∧ i + 1 ≤ l3 ∧ w1 = w1 ∧ (((l45 : Int) = -1 ∧ ∀ j : Nat, (j : Int) < i + 1 → hs.getD j false = false) ∨ (0 ≤ (l45 : Int) ∧ (∃ j : Nat, (j : Int) < i + 1 ∧ hs.getD j false = true) ∧ ∀ j : Nat, (j : Int) < i + 1 → hs.getD j false = true → ((L.getD j []).length : Int) = l45))) ∧
      ((l3 : Int) - (i + 1)).toNat < ((l3 : Int) - i).toNat)) := by
   intro hall hb
   refine ⟨⟨hi0, by omega⟩, q, ln, cn, by rw [Nat.mul_one]; exact hcell, ⟨by omega, by omega, rfl, .inr ⟨by omega, ⟨i.toNat, by omega, hb⟩, fun j hj hj2 => ?_⟩⟩, hmeas⟩
   by_cases hji : (j : Int) < i
   ·exact hall j hji hj2
   ·rw [show j = i.toNat by omega, ← hql]
  refine condB_of (fun hb => ?_) (fun hb => ?_)
  ·refine condB_of (fun hn0 => ?_) (fun hn0 => ?_)
   ·simp only [decide_eq_true_eq] at hn0
    rcases hn with ⟨hn, _⟩ | ⟨_, hex, hall⟩
    ·omega
    ·refine ⟨⟨hi0, by omega⟩, q, ln, cn, by rw [Nat.mul_one]; exact hcell, condB_of (fun hne => ?_) (fun hne => ?_)⟩
     ·simp only [Bool.not_eq_true', decide_eq_false_iff_not] at hne
      refine ⟨⟨-1, rfl, .inl ⟨rfl, fun s hsz => ?_⟩⟩, rfl⟩
      obtain ⟨j, hj, hj2⟩ := hex
      have h5 := hsz.2.2.2 j (by omega) hj2
      have h6 := hsz.2.2.2 i.toNat (by omega) hb
      have h7 := hall j hj hj2
      omega
     ·simp only [Bool.not_eq_false', decide_eq_true_eq] at hne
      rw [hb]
      exact go (fun j hj hj2 => by rw [hall j hj hj2, hne]) hb
   ·simp only [decide_eq_false_iff_not] at hn0
    rcases hn with ⟨_, hno⟩ | ⟨hn, _⟩
    ·rw [hb]
     exact go (fun j hj hj2 => by rw [hno j hj] at hj2; cases hj2) hb
    ·omega
  ·have hb : hs.getD i.toNat false = false := hb
   rw [hb]
   refine ⟨⟨by omega, by omega, rfl, ?_⟩, hmeas⟩
   rcases hn with ⟨rfl, hno⟩ | ⟨hn, ⟨j, hj, hj2⟩, hall⟩
   ·refine .inl ⟨rfl, fun j hj => ?_⟩
    by_cases hji : (j : Int) < i
    ·exact hno j hji
    ·rw [show j = i.toNat by omega]; exact hb
   ·refine .inr ⟨hn, ⟨j, by omega, hj2⟩, fun j hj hj2 => ?_⟩
    by_cases hji : (j : Int) < i
    ·exact hall j hji hj2
    ·rw [show j = i.toNat by omega, hb] at hj2; cases hj2
 ·simp only [decide_eq_false_iff_not] at hs'
  refine ⟨⟨n, rfl, ?_⟩, rfl⟩
  rcases hn with ⟨rfl, hno⟩ | ⟨hn, ⟨j, hj, hj2⟩, hall⟩
  ·refine .inl ⟨rfl, fun s hsz => ?_⟩
   obtain ⟨j, hj, hj2⟩ := hsz.2.2.1
   rw [hno j (by omega)] at hj2; cases hj2
  ·exact .inr ⟨hn, h, h2, ⟨j, by omega, hj2⟩, fun j hj hj2 => by have := hall j (by omega) hj2; omega⟩
structure OutAt (w : World) (base k n : Nat) (L : Nat → List UInt8) : Prop where
 row : ∃ cs, RowK w k 25 cs ∧ cs.size = n
 le : base ≤ k
 own : ∃ P : Nat → Option Addr × Nat × Nat, (∀ i, i < n → w.cell? ((at0 k).add i) = some (.slice (P i).1 (P i).2.1 (P i).2.2) ∧ OwnB w base (P i).1 (P i).2.1 (P i).2.2 (L i)) ∧
  ∀ i j, i < n → j < n → i ≠ j → ∀ g, (P i).1 = some (at0 g) → (P j).1 ≠ some (at0 g)
section
variable {w w' : World} {base k n : Nat} {L : Nat → List UInt8}
theorem OutAt.ext (h : OutAt w base k n L) (hu : Ext w w') : OutAt w' base k n L := by
 obtain ⟨cs, h1, h2⟩ := h.row
 obtain ⟨P, h3, h4⟩ := h.own
 exact ⟨⟨cs, hu.keep h1, h2⟩, h.le, P, fun i hi => ⟨hu.cell (h3 i hi).1 id, OwnB.ext (h3 i hi).2 hu⟩, h4⟩
theorem OutAt.base_le {b : Nat} (h : OutAt w base k n L) (hb : b ≤ base) : OutAt w b k n L := by
 obtain ⟨P, h3, h4⟩ := h.own
 exact ⟨h.row, Nat.le_trans hb h.le, P, fun i hi => ⟨(h3 i hi).1, OwnB.base_le (h3 i hi).2 hb⟩, h4⟩
theorem OutAt.congr {L' : Nat → List UInt8} (h : OutAt w base k n L) (hL : ∀ i, i < n → L' i = L i) : OutAt w base k n L' := by
 obtain ⟨P, h3, h4⟩ := h.own
 exact ⟨h.row, h.le, P, fun i hi => ⟨(h3 i hi).1, by rw [hL i hi]; exact (h3 i hi).2⟩, h4⟩
theorem OutAt.other {S : Nat → Prop} (h : OutAt w base k n L) (hu : Upd S w w') (hS : ∀ x, S x → ∃ (cs : Array Value) (e : TypeId) (fz : Nat × Nat), w.heap[x]? = some (Obj.cells cs e fz) ∧ e ≠ 5 ∧ e ≠ 25) : OutAt w' base k n L := by
 obtain ⟨cs, h1, h2⟩ := h.row
 obtain ⟨P, h3, h4⟩ := h.own
 have hk : ¬ S k := fun hs => by
  obtain ⟨cs', e, fz, h5, _, h6⟩ := hS k hs
  unfold RowK at h1
  rw [h1] at h5
  cases h5
  exact h6 rfl
 refine ⟨⟨cs, hu.keep h1 hk, h2⟩, h.le, P, fun i hi => ⟨hu.cell (h3 i hi).1 (by rw [add_block]; exact hk), OwnB.other (h3 i hi).2 hu fun x hx => ?_⟩, h4⟩
 obtain ⟨cs', e, fz, h5, h6, _⟩ := hS x hx
 exact ⟨cs', e, fz, h5, h6⟩
theorem OutAt.lists (h : OutAt w base k n L) : ListsAt w (some (at0 k)) n ((List.range n).map L) := by
 obtain ⟨P, h3, h4⟩ := h.own
 refine ⟨by simp, fun i hi => ⟨_, _, _, _, rfl, (h3 i hi).1, ?_, OwnB.le (h3 i hi).2⟩⟩
 have : ((List.range n).map L).getD i [] = L i := by simp [List.getD_eq_getElem?_getD, hi]
 rw [this]
 exact OwnB.bytes (h3 i hi).2
end
end Go.Proofs.YtkolafpgbhpdlaaGreat
namespace Go.Proofs.YtkolafpgbhpdlaaGreat
open Go Go.Vc Go.Gf
structure ShSt (w0 w : World) (k m : Int) (n : Nat) (f ph psh : Option Addr) (lh ch lsh csh k6 k8 k10 k12 k14 k33 k36 k42 k31 k40 : Nat) (Lf : Nat → List UInt8) (wr : List Nat) : Prop where
 ext : Ext w0 w
 n36 : w0.heap.size ≤ k36
 n40 : w0.heap.size ≤ k40
 r6 : RowK w k6 33 #[.pointer f]
 r8 : RowK w k8 3 #[.int .i64 k]
 r10 : RowK w k10 3 #[.int .i64 m]
 r12 : RowK w k12 116 #[.slice ph lh ch]
 r14 : RowK w k14 79 #[.slice psh lsh csh]
 r33 : RowK w k33 79 #[.slice (some (at0 k31)) n n]
 r42 : RowK w k42 116 #[.slice (some (at0 k40)) n n]
 ne : k12 ≠ k42 ∧ k14 ≠ k33
 r36 : ∃ p nw c b, w0.heap.size ≤ b ∧ b ≤ w.heap.size ∧ k8 < b ∧ k10 < b ∧ RowK w k36 30 #[.slice p nw c] ∧ OwnN w b p nw c wr
 out : OutAt w w0.heap.size k31 n Lf
 mrow : ∃ cs, RowK w k40 4 cs ∧ cs.size = n
def wordAt (n : Nat) (hs : List Bool) (L : List (List UInt8)) (i : Nat) : List UInt8 := (List.range n).map fun j => if hs.getD j false = true then co (L.getD j []) i else 0
def nots (hs : List Bool) : List Bool := hs.map fun b => !b
theorem nots_get {hs : List Bool} {i : Nat} (h : i < hs.length) : (nots hs).getD i false = !hs.getD i false := by simp [nots, List.getD_eq_getElem?_getD, h]
theorem co_wordAt {n : Nat} {hs : List Bool} {L : List (List UInt8)} {i j : Nat} (hj : j < n) : co (wordAt n hs L i) j = if hs.getD j false = true then co (L.getD j []) i else 0 := by
 simp [Gf.co, wordAt, List.getD_eq_getElem?_getD, hj]
theorem wordAt_len (n : Nat) (hs : List Bool) (L : List (List UInt8)) (i : Nat) : (wordAt n hs L i).length = n := by simp [wordAt]
theorem ty_all : 4 ≠ 5 ∧ 4 ≠ 25 ∧ 4 ≠ 33 ∧ 4 ≠ 3 ∧ 4 ≠ 116 ∧ 4 ≠ 79 ∧ 4 ≠ 30 := by decide
theorem ty_out : 5 ≠ 25 ∧ 5 ≠ 33 ∧ 5 ≠ 3 ∧ 5 ≠ 116 ∧ 5 ≠ 79 ∧ 5 ≠ 30 ∧ 5 ≠ 4 := by decide
theorem ty_row : 25 ≠ 33 ∧ 25 ≠ 3 ∧ 25 ≠ 116 ∧ 25 ≠ 79 ∧ 25 ≠ 30 ∧ 25 ≠ 4 := by decide
theorem ty_int : 3 ≠ 33 ∧ 3 ≠ 25 ∧ 3 ≠ 116 ∧ 3 ≠ 79 ∧ 3 ≠ 30 ∧ 3 ≠ 4 := by decide
theorem ty_ints : 30 ≠ 33 ∧ 30 ≠ 25 ∧ 30 ≠ 116 ∧ 30 ≠ 79 ∧ 30 ≠ 3 ∧ 30 ≠ 4 ∧ 30 ≠ 5 := by decide
theorem RowK.keep {w w' : World} {k : Nat} {e : TypeId} {cs : Array Value} {S : Nat → Prop} (h : RowK w k e cs) (hu : Upd S w w') (hS : ∀ x, S x → ∃ (cs : Array Value) (e' : TypeId) (fz : Nat × Nat), w.heap[x]? = some (Obj.cells cs e' fz) ∧ e' ≠ e) : RowK w' k e cs :=
 hu.keep h fun hs => by
  obtain ⟨cs', e', fz, h1, h2⟩ := hS k hs
  unfold RowK at h
  rw [h] at h1
  cases h1
  exact h2 rfl
theorem rowk_cell {w : World} {k : Nat} {e : TypeId} {cs : Array Value} (h : RowK w k e cs) (t : Nat) : w.cell? ((at0 k).add t) = cs[t]? := by
 rw [add_at0]
 unfold RowK at h
 simp [World.cell?, h]
theorem own_same {w : World} {b b' : Nat} {e : TypeId} {sz : Nat} {p : Option Addr} {n c : Nat} {us vs : List Value} (h : OwnS w b e sz p n c us) (h' : OwnS w b' e sz p n c vs) : us = vs := by
 refine List.ext_getElem (by rw [h.length, h'.length]) fun i hi hj => ?_
 obtain ⟨a, ha, h1⟩ := OwnS.cells h i us[i] (by simp)
 obtain ⟨a', ha', h2⟩ := OwnS.cells h' i vs[i] (by simp)
 rw [ha] at ha'
 cases ha'
 rw [h1] at h2
 exact Option.some.inj h2
theorem encB_inj {xs ys : List UInt8} (h : encB xs = encB ys) : xs = ys := by
 refine co_ext (by have := congrArg List.length h; simpa [encB_length] using this) fun i hi => ?_
 have hl : xs.length = ys.length := by have := congrArg List.length h; simpa [encB_length] using this
 have h1 := congrArg (fun l => l[i]?) h
 simp only [encB, List.getElem?_map, List.getElem?_eq_getElem hi, List.getElem?_eq_getElem (show i < ys.length by omega), Option.map_some, Option.some.injEq, Value.int.injEq, true_and] at h1
 simp only [Gf.co, List.getD_eq_getElem?_getD, List.getElem?_eq_getElem hi, List.getElem?_eq_getElem (show i < ys.length by omega), Option.getD_some]
 exact vb_inj.1 h1
theorem encN_inj {xs ys : List Nat} (h : encN xs = encN ys) : xs = ys := by
 have hl : xs.length = ys.length := by have := congrArg List.length h; simpa [encN_length] using this
 refine List.ext_getElem hl fun i hi hj => ?_
 have h1 := congrArg (fun l => l[i]?) h
 simp only [encN, List.getElem?_map, List.getElem?_eq_getElem hi, List.getElem?_eq_getElem hj, Option.map_some, Option.some.injEq, Value.int.injEq, true_and] at h1
 omega
def ReadI (w : World) (n : Nat) (hs : List Bool) (L : List (List UInt8)) (x k40 : Nat) (q : Option Addr) (i : Int) (w1 : World) : Prop :=
 0 ≤ i ∧ i ≤ n ∧ Upd (fun y => y = k40) w w1 ∧ ∃ kw z, q = some (at0 kw) ∧ OwnB w1 w.heap.size q n n z ∧ (∀ j : Nat, j < n → co z j = if (j : Int) < i ∧ hs.getD j false = true then co (L.getD j []) x else 0) ∧
  ∃ cs, RowK w1 k40 4 cs ∧ cs.size = n ∧ ∀ j : Nat, (j : Int) < i → cs[j]? = some (.bool (!hs.getD j false))
def TellI (w0 w30 w69 : World) (n : Nat) (k8 k10 k33 k36 k31 : Nat) (Lf : Nat → List UInt8) (wr : List Nat) (p71 : Option Addr) (l71 c71 : Nat) (c : List UInt8) (p72 : Option Addr) (l72 c72 : Nat) (d : List Nat) (i : Int) (w1 : World) : Prop :=
 0 ≤ i ∧ i ≤ l71 ∧ l71 ≤ n ∧ Ext w0 w1 ∧ RowK w1 k33 79 #[.slice (some (at0 k31)) n n] ∧ (∃ p nw cw b, w0.heap.size ≤ b ∧ b ≤ w1.heap.size ∧ k8 < b ∧ k10 < b ∧ RowK w1 k36 30 #[.slice p nw cw] ∧ OwnN w1 b p nw cw wr) ∧ OwnB w1 w30.heap.size p71 l71 c71 c ∧ OwnN w1 w30.heap.size p72 l72 c72 d ∧
  (∀ (k' : Nat) (e : TypeId) (cs : Array Value), e ≠ 5 → e ≠ 25 → RowK w69 k' e cs → RowK w1 k' e cs) ∧
  w30.heap.size ≤ w1.heap.size ∧ (∃ cs, RowK w1 k31 25 cs ∧ cs.size = n) ∧ w0.heap.size ≤ k31 ∧ ∃ P : Nat → Option Addr × Nat × Nat,
   (∀ t, t < n → w1.cell? ((at0 k31).add t) = some (.slice (P t).1 (P t).2.1 (P t).2.2) ∧ OwnB w1 w0.heap.size (P t).1 (P t).2.1 (P t).2.2 (if (t : Int) < i then Lf t ++ [co c t] else Lf t)) ∧
   (∀ s t, s < n → t < n → s ≠ t → ∀ g, (P s).1 = some (at0 g) → (P t).1 ≠ some (at0 g)) ∧ ∀ t : Nat, i ≤ (t : Int) → t < n → ∀ g, (P t).1 = some (at0 g) → g < w30.heap.size
set_option maxHeartbeats 8000000 in
theorem right_spec {w0 w : World} {k m : Int} {n : Nat} {f ph psh : Option Addr} {lh ch lsh csh k6 k8 k10 k12 k14 k33 k36 k42 k31 k40 : Nat} {Lf : Nat → List UInt8} {wr : List Nat} {hs : List Bool} {L : List (List UInt8)} {s x : Nat}
  (hf : FieldAt w0 f) (hh : FlagsAt w0 ph lh hs) (hsh : ListsAt w0 psh lsh L) (hk : kmOk k m) (hn : (n : Int) = k + m) (hsz : Sized k m lh lsh hs L s) (hx : x < s) (bs : s ≤ 1048576) (hLf : ∀ t, t < n → (Lf t).length ≤ x) (hwr : wr.length ≤ 256 * x)
  (st : ShSt w0 w k m n f ph psh lh ch lsh csh k6 k8 k10 k12 k14 k33 k36 k42 k31 k40 Lf wr) :
  Calls Tryz.prog 101 #[.int .i64 (x : Int), .pointer (some (at0 k8)), .pointer (some (at0 k10)), .pointer (some (at0 k12)), .pointer (some (at0 k42)), .pointer (some (at0 k14)), .pointer (some (at0 k6)), .pointer (some (at0 k33)), .pointer (some (at0 k36))] w fun e w' =>
   Ext w0 w' ∧ ((decM k.toNat m.toNat (wordAt n hs L x) (nots hs) = none ∧ e = .returned (.int .i64 100)) ∨
    ∃ c, decM k.toNat m.toNat (wordAt n hs L x) (nots hs) = some c ∧ e = .returned (.int .i64 0) ∧
     ShSt w0 w' k m n f ph psh lh ch lsh csh k6 k8 k10 k12 k14 k33 k36 k42 k31 k40 (fun t => Lf t ++ [co c t]) (wr ++ dif (k.toNat + m.toNat) (nots hs) c (wordAt n hs L x))) := by
 obtain ⟨a1, a2, a3, a4⟩ := hk
 have hk : kmOk k m := ⟨a1, a2, a3, a4⟩
 have hlh := hh.1
 have hz1 := hsz.1
 have hz2 := hsz.2.1
 have hn2 : k.toNat + m.toNat = n := by omega
 refine (F101_calls x (at0 k8) (at0 k10) (at0 k12) (at0 k42) (at0 k14) (at0 k6) (at0 k33) (at0 k36) w (fun v w' => Ext w0 w' ∧ ((decM k.toNat m.toNat (wordAt n hs L x) (nots hs) = none ∧ v = .int .i64 100) ∨
    ∃ c, decM k.toNat m.toNat (wordAt n hs L x) (nots hs) = some c ∧ v = .int .i64 0 ∧
     ShSt w0 w' k m n f ph psh lh ch lsh csh k6 k8 k10 k12 k14 k33 k36 k42 k31 k40 (fun t => Lf t ++ [co c t]) (wr ++ dif (k.toNat + m.toNat) (nots hs) c (wordAt n hs L x))))
  (fun _ _ _ _ _ _ _ q _ _ _ _ _ _ _ i w1 => ReadI w n hs L x k40 q i w1) (fun _ _ _ _ _ _ _ _ _ _ _ _ _ _ _ i _ => (n - i).toNat)
  (fun _ _ p72 l72 c72 _ p71 l71 c71 _ w69 i w1 => ∃ w30 c d, OwnB w69 w30.heap.size p71 l71 c71 c ∧ OwnN w69 w30.heap.size p72 l72 c72 d ∧ TellI w0 w30 w69 n k8 k10 k33 k36 k31 Lf wr p71 l71 c71 c p72 l72 c72 d i w1) (fun _ _ _ _ _ _ _ l71 _ _ _ i _ => (l71 - i).toNat) ?_).mono (by
  rintro e w' ⟨v, rfl, hx, ⟨h, rfl⟩ | ⟨c, h, rfl, h2⟩⟩
  ·exact ⟨hx, .inl ⟨h, rfl⟩⟩
  ·exact ⟨hx, .inr ⟨c, h, rfl, h2⟩⟩)
 refine ⟨_, st.r8.cell, _, st.r10.cell, ?_⟩
 rw [w64 (n := k + m) (by omega)]
 have hkm : (k + m).toNat = n := by omega
 rw [hkm]
 refine ⟨⟨by omega, by omega, by omega⟩, fun k12' w13 h13 => ?_⟩
 have z13 : OwnB w13 w.heap.size (some (at0 k12')) n n (List.replicate n 0) := OwnB.made h13 (by rw [h13.size.1]; exact Nat.le_refl _) (by unfold maxLen; omega)
 obtain ⟨csm, hcsm, hcsl⟩ := st.mrow
 refine ⟨_, _, _, RowK.cell (h13.ext.keep st.r12), ⟨by omega, by omega, h13.ext.upd, k12', _, rfl, z13, fun j hj => by rw [if_neg (by omega)]; exact rep_co _ _, csm, h13.ext.keep hcsm, hcsl, fun j hj => by omega⟩, ?_⟩
 rintro i w30 ⟨hi0, hi1, hu, kw, z, hkw, oz, hz, cs, rm, hcs, hflags⟩
 simp only [Option.some.injEq, at0, Addr.mk.injEq, and_true] at hkw
 subst hkw
 intros
 have bw : ∀ y, y = k40 → ∃ (cs : Array Value) (e' : TypeId) (fz : Nat × Nat), w.heap[y]? = some (Obj.cells cs e' fz) ∧ e' = 4 := fun y hy => ⟨csm, _, (0, 0), by rw [hy]; exact hcsm, rfl⟩
 have kp : ∀ {k' : Nat} {e : TypeId} {cs : Array Value}, RowK w k' e cs → 4 ≠ e → RowK w30 k' e cs := fun h he => RowK.keep h hu fun y hy => by
  obtain ⟨a, b, c, d, e⟩ := bw y hy
  exact ⟨a, b, c, d, by rw [e]; exact he⟩
 have x30 : Ext w0 w30 := OwnB.new_ext st.ext hu fun y hy => by rw [hy]; exact st.n40
 have r42 := kp st.r42 ty_all.2.2.2.2.1
 have r14 := kp st.r14 ty_all.2.2.2.2.2.1
 refine condB_of (fun hs' => ?_) (fun hs' => ?_)
 ·
  simp only [decide_eq_true_eq] at hs'
  obtain ⟨a, rfl, ha⟩ := (hh.ext x30).get (i := i.toNat) (by omega)
  have lm : Live w30 ((at0 k40).add i.toNat) := RowW.live ⟨_, rm⟩ (by omega)
  refine ⟨⟨hi0, hs'⟩, _, by rw [Nat.mul_one]; exact ha, _, _, _, r42.cell, ⟨hi0, by omega⟩, ?_⟩
  show Live w30 ((at0 k40).add (i.toNat * 1)) ∧ _
  rw [Nat.mul_one]
  refine ⟨lm, fun w58 s58 => ?_⟩
  have rm58 : RowK w58 k40 4 (cs.setIfInBounds i.toNat (.bool (!hs.getD i.toNat false))) := by
   have s58' := s58
   rw [add_at0] at s58'
   exact s58'.at rm rfl
  have u58 : Upd (fun y => y = k40) w30 w58 := by
   have := s58.upd
   rw [add_block] at this
   exact this
  have bw30 : ∀ y, y = k40 → ∃ (cs : Array Value) (e' : TypeId) (fz : Nat × Nat), w30.heap[y]? = some (Obj.cells cs e' fz) ∧ e' = 4 := fun y hy => ⟨cs, _, (0, 0), by rw [hy]; exact rm, rfl⟩
  have oz58 : OwnB w58 w.heap.size (some (at0 k12')) n n z := OwnB.other oz u58 fun y hy => by
   obtain ⟨a, b, c, d, e⟩ := bw30 y hy
   exact ⟨a, b, c, d, by rw [e]; exact ty_all.1⟩
  have r14' : RowK w58 k14 79 #[.slice psh lsh csh] := RowK.keep r14 u58 fun y hy => by
   obtain ⟨a, b, c, d, e⟩ := bw30 y hy
   exact ⟨a, b, c, d, by rw [e]; exact ty_all.2.2.2.2.2.1⟩
  have x58 : Ext w0 w58 := OwnB.new_ext x30 u58 fun y hy => by rw [hy]; exact st.n40
  have hu58 : Upd (fun y => y = k40) w w58 := Upd.trans hu u58 fun _ _ h => h
  have hmeas : ((n : Int) - (i + 1)).toNat < ((n : Int) - i).toNat := by omega
  have hflags' : ∀ j : Nat, (j : Int) < i + 1 → (cs.setIfInBounds i.toNat (.bool (!hs.getD i.toNat false)))[j]? = some (.bool (!hs.getD j false)) := fun j hj => by
   rw [Array.getElem?_setIfInBounds]
   by_cases h1 : j = i.toNat
   ·subst h1
    rw [if_pos rfl, if_pos (by omega)]
   ·rw [if_neg (fun e => h1 e.symm)]
    exact hflags j (by omega)
  unfold F101_A0
  rw [w64 (n := i + 1) (by omega)]
  refine condB_of (fun hb => ?_) (fun hb => ?_)
  ·obtain ⟨b, q, ln, cn, rfl, hcell, hq, hqc⟩ := (hsh.ext x58).2 i.toNat (by omega)
   have hql := hq.1
   have hlen := hsz.2.2.2 i.toNat (by omega) hb
   obtain ⟨a2, rfl, hbyte⟩ := BytesAt.co hq (i := x) (by omega)
   obtain ⟨k', hk', hb', hlive, _, hset⟩ := OwnB.at oz58 (i := i.toNat) (by omega)
   simp only [Option.some.injEq, at0, Addr.mk.injEq, and_true] at hk'
   subst hk'
   simp only [Nat.mul_one]
   refine ⟨_, _, _, r14'.cell, ⟨hi0, by omega⟩, _, _, _, hcell, ⟨by omega, by omega⟩, _, by rw [Int.toNat_natCast]; exact hbyte, ⟨hi0, by omega⟩, hlive, fun w64' hs64 => ?_⟩
   obtain ⟨oz64, u64⟩ := hset _ _ hs64
   have hne : k40 ≠ k12' := fun e => by
    obtain ⟨csz, hrz⟩ := OwnB.row oz58
    rw [← e] at hrz
    unfold RowK at rm58 hrz
    rw [rm58] at hrz
    cases hrz
   have hlz := OwnB.len oz
   refine ⟨⟨by omega, by omega, ?_, k12', _, rfl, oz64, fun j hj => ?_, _, u64.keep rm58 hne, by simp [hcs], hflags'⟩, hmeas⟩
   ·exact Upd.trans hu58 u64 fun y hy he => by
     have : y = k12' := he
     omega
   ·rw [co_set (by omega), hz j hj]
    by_cases h1 : j = i.toNat
    ·subst h1
     rw [if_pos rfl, if_pos ⟨by omega, hb⟩]
    ·rw [if_neg h1]
     by_cases h2 : (j : Int) < i ∧ hs.getD j false = true
     ·rw [if_pos h2, if_pos ⟨by omega, h2.2⟩]
     ·rw [if_neg h2, if_neg (fun h3 => h2 ⟨by omega, h3.2⟩)]
  ·have hb : hs.getD i.toNat false = false := hb
   refine ⟨⟨by omega, by omega, hu58, k12', z, rfl, oz58, fun j hj => ?_, _, rm58, by simp [hcs], hflags'⟩, hmeas⟩
   rw [hz j hj]
   by_cases h1 : j = i.toNat
   ·subst h1
    rw [hb, if_neg (by simp), if_neg (by simp)]
   ·by_cases h2 : (j : Int) < i ∧ hs.getD j false = true
    ·rw [if_pos h2, if_pos ⟨by omega, h2.2⟩]
    ·rw [if_neg h2, if_neg (fun h3 => h2 ⟨by omega, h3.2⟩)]
 ·simp only [decide_eq_false_iff_not] at hs'
  obtain rfl : i = (n : Int) := by omega
  have hzw : z = wordAt n hs L x := by
   refine co_ext (by rw [wordAt_len]; exact (OwnB.len oz).symm) fun j hj => ?_
   have hj' : j < n := by rw [OwnB.len oz]; exact hj
   rw [hz j hj', co_wordAt hj']
   by_cases h2 : hs.getD j false = true
   ·rw [if_pos ⟨by omega, h2⟩, if_pos h2]
   ·rw [if_neg (fun h3 => h2 h3.2), if_neg h2]
  subst hzw
  have hfl : FlagsAt w30 (some (at0 k40)) n (nots hs) := by
   refine ⟨by rw [nots, List.length_map]; omega, fun j u hj => ⟨_, rfl, Row.cell ⟨_, _, rm⟩ ?_⟩⟩
   have hj' : j < hs.length := by
    have := (List.getElem?_eq_some_iff.1 hj).1
    simpa [nots] using this
   have h2 := hflags j (by omega)
   rw [h2]
   simp only [nots, List.map_map, List.getElem?_map, List.getElem?_eq_getElem hj'] at hj
   simp only [List.getD_eq_getElem?_getD, List.getElem?_eq_getElem hj', Option.getD_some]
   simpa using hj
  have r6 := kp st.r6 ty_all.2.2.1
  have r8 := kp st.r8 ty_all.2.2.2.1
  have r10 := kp st.r10 ty_all.2.2.2.1
  have r12 := kp st.r12 ty_all.2.2.2.2.1
  have r33 := kp st.r33 ty_all.2.2.2.2.2.1
  obtain ⟨p36, n36, c36, b36, hb0, hb1, hb8, hb10, hr36, ow36⟩ := st.r36
  have r36 := kp hr36 ty_all.2.2.2.2.2.2
  have bt : ∀ {e : TypeId}, 4 ≠ e → ∀ y, y = k40 → ∃ (cs : Array Value) (e' : TypeId) (fz : Nat × Nat), w.heap[y]? = some (Obj.cells cs e' fz) ∧ e' ≠ e := fun he y hy => by
   obtain ⟨a, b, c, d, e⟩ := bw y hy
   exact ⟨a, b, c, d, by rw [e]; exact he⟩
  have hb1 : b36 ≤ w30.heap.size := Nat.le_trans hb1 hu.size
  have ow30 : OwnN w30 b36 p36 n36 c36 wr := OwnS.other ow36 hu (bt ty_all.2.2.2.1)
  have out30 : OutAt w30 w0.heap.size k31 n Lf := OutAt.other st.out hu fun y hy => by
   obtain ⟨a, b, c, d, e⟩ := bw y hy
   exact ⟨a, b, c, d, by rw [e]; exact ty_all.1, by rw [e]; exact ty_all.2.1⟩
  refine ⟨_, r6.cell, _, r8.cell, _, r10.cell, _, _, _, r42.cell, ?_⟩
  refine (word_spec (c4 := n) (c5 := n) (hf.ext x30) (OwnB.bytes oz) hfl k m).mono ?_
  rintro e w69 ⟨v, rfl, x69, ⟨h, _⟩ | ⟨_, h, _⟩ | ⟨_, _, _, hv⟩⟩
  ·exact (h hk).elim
  ·exact (h ⟨hn, hn⟩).elim
  have xw69 : Ext w0 w69 := x30.trans x69
  rcases hv with ⟨hd, rfl⟩ | ⟨c, hd, p1, c1, p2, n2, c2, rfl, oc, od⟩
  ·
   refine ⟨_, _, _, _, _, _, _, rfl, ?_, ?_⟩
   ·obtain ⟨csr, hcsr, hcsrl⟩ := (out30.ext x69).row
    obtain ⟨P, hP1, hP2⟩ := (out30.ext x69).own
    refine ⟨w69, [], [], OwnS.nil _ _ _ _, OwnS.nil _ _ _ _, by omega, by omega, by omega, xw69, x69.keep r33, ⟨_, _, _, b36, hb0, Nat.le_trans hb1 x69.size, hb8, hb10, x69.keep r36, OwnS.ext ow30 x69⟩, OwnS.nil _ _ _ _, OwnS.nil _ _ _ _, fun _ _ _ _ _ h => h, Nat.le_refl _, ⟨csr, hcsr, hcsrl⟩, out30.le, P, fun t ht => ?_, hP2, fun t _ ht g hg => ?_⟩
    ·rw [if_neg (by omega)]
     exact hP1 t ht
    ·have := (hP1 t ht).2
     rw [hg] at this
     exact OwnS.lt_heap this
   ·rintro j w85 ⟨w30', c', d', _, _, hj0, hj1, _, hxt, hr33, ⟨pp, nn, cc, b', hb0', hb1', hb8', hb10', hr36', hown⟩, _, od', _⟩
    intros
    refine condB_of (fun h => by simp only [decide_eq_true_eq] at h; omega) fun _ => ?_
    have hnn := OwnN.len hown
    obtain ⟨p', c'', w121, hr, ho', hu', _⟩ := OwnS.append elemN 30 hown (q := none) (m := 0) (d := 0) (news := []) rfl (CellsAt.nil _ _) (fun _ => rfl) (fun u hu => by simp at hu) (by unfold maxLen; omega) (by omega) hb1'
    refine ⟨_, _, _, hr36'.cell, _, _, _, w121, hr, ?_⟩
    have r121 : RowK w121 k36 30 #[.slice pp nn cc] := RowK.keep hr36' hu' fun y hy => by
     obtain ⟨cs, e', fz, h7, h8⟩ := OwnS.typed hown hy
     exact ⟨cs, e', fz, h7, by rw [h8]; exact ty_int.2.2.2.2.1⟩
    refine ⟨r121.live, fun w123 s123 => ⟨?_, .inl ⟨hd, rfl⟩⟩⟩
    exact OwnB.new_ext (OwnB.new_ext hxt hu' fun y hy => Nat.le_trans hb0' (OwnS.blk hown hy)) (setK_upd s123) fun y hy => by rw [show y = k36 from hy]; exact st.n36
  ·
   have lc := OwnB.len oc
   refine ⟨_, _, _, _, _, _, _, rfl, ?_, ?_⟩
   ·obtain ⟨csr, hcsr, hcsrl⟩ := (out30.ext x69).row
    obtain ⟨P, hP1, hP2⟩ := out30.own
    refine ⟨w30, c, _, oc, od, by omega, by omega, Nat.le_refl _, xw69, x69.keep r33, ⟨_, _, _, b36, hb0, Nat.le_trans hb1 x69.size, hb8, hb10, x69.keep r36, OwnS.ext ow30 x69⟩, oc, od, fun _ _ _ _ _ h => h, x69.size, ⟨csr, hcsr, hcsrl⟩, out30.le, P, fun t ht => ?_, hP2, fun t _ ht g hg => ?_⟩
    ·rw [if_neg (by omega)]
     exact ⟨x69.cell (hP1 t ht).1 id, OwnB.ext (hP1 t ht).2 x69⟩
    ·have := (hP1 t ht).2
     rw [hg] at this
     exact OwnS.lt_heap this
   ·rintro i w85 ⟨w30', c', d', oc', od', hi0, hi1, _, hxt, hr33, ⟨pp, nn, cc, b', hb0', hb1', hb8', hb10', hr36', hown⟩, ocw, odw, hkeep, hszw, ⟨csr, hcsr, hcsrl⟩, hk31, P, hP1, hP2, hP3⟩
    obtain rfl : c' = c := encB_inj (own_same oc' oc)
    obtain rfl := encN_inj (own_same od' od)
    intros
    have hmeas : ((n : Int) - (i + 1)).toNat < ((n : Int) - i).toNat ∨ ¬ i < n := by omega
    refine condB_of (fun hs2 => ?_) (fun hs2 => ?_)
    ·
     simp only [decide_eq_true_eq] at hs2
     obtain ⟨ax, hax, hbyte⟩ := BytesAt.co (OwnB.bytes ocw) (i := i.toNat) (by omega)
     subst hax
     refine ⟨⟨hi0, hs2⟩, _, by rw [Nat.mul_one]; exact hbyte, fun w105 hd105 => ?_⟩
     have e105 := hd105.ext
     have r33' : RowK w105 k33 79 #[.slice (some (at0 k31)) n n] := e105.keep hr33
     have hin : i.toNat < n := by omega
     have hPi := hP1 i.toNat hin
     rw [if_neg (by omega)] at hPi
     have hcellP := e105.cell hPi.1 id
     have ownP := OwnB.ext hPi.2 e105
     refine ⟨_, _, _, r33'.cell, _, _, _, r33'.cell, ⟨hi0, by omega⟩, ?_⟩
     show ∃ (p109 : Option Addr) (l109 c109 : Nat), w105.cell? ((at0 k31).add (i.toNat * 1)) = some (.slice p109 l109 c109) ∧ _
     rw [Nat.mul_one]
     refine ⟨_, _, _, hcellP, fun k110 w111 h110 => ?_⟩
     have e111 := h110.ext
     have x111 : Ext w0 w111 := hxt.trans (e105.trans e111)
     refine ⟨⟨_, _, _, RowK.cell (e111.keep r33'), rfl⟩, ⟨_, _, _, RowK.cell (e111.keep r33'), rfl⟩, ⟨_, _, _, e111.cell hcellP id, rfl⟩, ?_⟩
     have hlenP := OwnB.len ownP
     have hLfi := hLf i.toNat hin
     obtain ⟨p116, c116, w115, hrun, own116, u115, aw115⟩ := OwnB.push2 ownP h110 (hxt.trans e105).size (by omega)
     refine ⟨_, _, _, w115, hrun, ?_⟩
     have tyS : ∀ y, (P i.toNat).1 = some (at0 y) → ∃ (cs : Array Value) (e' : TypeId) (fz : Nat × Nat), w105.heap[y]? = some (Obj.cells cs e' fz) ∧ e' = 5 := fun y hy => OwnS.typed ownP hy
     have kp115 : ∀ {k' : Nat} {e : TypeId} {cs : Array Value}, 5 ≠ e → RowK w105 k' e cs → RowK w115 k' e cs := fun he hr => RowK.keep hr u115 fun y hy => by
      obtain ⟨a, b, c, d, e⟩ := tyS y hy
      exact ⟨a, b, c, d, by rw [e]; exact he⟩
     have r33'' := kp115 ty_out.2.2.2.2.1 r33'
     have r31 : RowK w115 k31 25 csr := kp115 ty_out.1 (e105.keep hcsr)
     refine ⟨⟨_, _, _, r33''.cell, rfl⟩, ⟨hi0, by omega⟩, ?_⟩
     refine ⟨RowW.live ⟨_, r31⟩ (by omega), fun w119 s119 => ?_⟩
     rw [w64 (n := i + 1) (by omega)]
     have u119 : Upd (fun y => y = k31) w115 w119 := by
      have := s119.upd
      rw [add_block] at this
      exact this
     have r31' : RowK w119 k31 25 (csr.setIfInBounds i.toNat (.slice p116 ((P i.toNat).2.1 + 1) c116)) := by
      have s' := s119
      rw [add_at0] at s'
      exact s'.at r31 rfl
     have ty31 : ∀ {e : TypeId}, 25 ≠ e → ∀ y, y = k31 → ∃ (cs : Array Value) (e' : TypeId) (fz : Nat × Nat), w115.heap[y]? = some (Obj.cells cs e' fz) ∧ e' ≠ e := fun he y hy => ⟨csr, _, (0, 0), by rw [hy]; exact r31, he⟩
     have kp119 : ∀ {k' : Nat} {e : TypeId} {cs : Array Value}, 5 ≠ e → 25 ≠ e → RowK w105 k' e cs → RowK w119 k' e cs := fun h1 h2 hr => RowK.keep (kp115 h1 hr) u119 (ty31 h2)
     have x115 : Ext w0 w115 := OwnB.new_ext (hxt.trans e105) u115 fun y hy => OwnB.blk ownP hy
     have x119 : Ext w0 w119 := OwnB.new_ext x115 u119 fun y hy => by rw [show y = k31 from hy]; exact hk31
     have own119 : ∀ {b : Nat} {e : TypeId} {sz : Nat} {p : Option Addr} {n c : Nat} {xs : List Value}, 5 ≠ e → 25 ≠ e → OwnS w105 b e sz p n c xs → OwnS w119 b e sz p n c xs := fun h1 h2 ho =>
      OwnS.other (OwnS.other ho u115 fun y hy => by
       obtain ⟨a, b, c, d, e⟩ := tyS y hy
       exact ⟨a, b, c, d, by rw [e]; exact h1⟩) u119 (ty31 h2)
     have hi2 : (n : Int) - (i + 1) < n - i := by omega
     refine ⟨⟨w30', c', _, oc', od', by omega, by omega, Nat.le_refl _, x119, kp119 ty_out.2.2.2.2.1 ty_row.2.2.2.1 r33', ⟨_, _, _, b', hb0', Nat.le_trans hb1' (Nat.le_trans e105.size (Nat.le_trans u115.size u119.size)), hb8', hb10', kp119 ty_out.2.2.2.2.2.1 ty_row.2.2.2.2.1 (e105.keep hr36'), own119 ty_out.2.2.1 ty_row.2.1 (OwnS.ext hown e105)⟩, ?_, own119 ty_out.2.2.1 ty_row.2.1 (OwnS.ext odw e105),
      fun k' e cs h1 h2 hr => kp119 h1.symm h2.symm (e105.keep (hkeep k' e cs h1 h2 hr)), ?_, ⟨_, r31', by simp [hcsrl]⟩, hk31, fun t => if t = i.toNat then (p116, (P i.toNat).2.1 + 1, c116) else P t, fun t ht => ?_, ?_, fun t h1 ht g hg => ?_⟩, by show ((n : Int) - (i + 1)).toNat < ((n : Int) - i).toNat; omega⟩
     ·refine OwnB.other (OwnS.upd (OwnS.ext ocw e105) u115 fun g hg hS => ?_) u119 (ty31 ty_out.1.symm)
      have h1 := OwnS.blk oc' hg
      have h2 := hP3 i.toNat (by omega) hin g hS
      omega
     ·have := u115.size
      have := u119.size
      have := e105.size
      omega
     ·dsimp only
      rw [rowk_cell r31', Array.getElem?_setIfInBounds]
      by_cases h1 : t = i.toNat
      ·subst h1
       simp only [if_true]
       rw [if_pos (by omega), if_pos (by omega)]
       exact ⟨rfl, OwnB.apart own116 u119 r31 ty_out.1.symm⟩
      ·rw [if_neg (fun e => h1 e.symm), if_neg h1]
       have hPt := hP1 t ht
       refine ⟨?_, ?_⟩
       ·rw [← rowk_cell hcsr]; exact hPt.1
       ·have e1 : (if (t : Int) < i + 1 then Lf t ++ [co c' t] else Lf t) = (if (t : Int) < i then Lf t ++ [co c' t] else Lf t) := by
         by_cases h2 : (t : Int) < i
         ·rw [if_pos h2, if_pos (by omega)]
         ·rw [if_neg h2, if_neg (by omega)]
        rw [e1]
        refine OwnB.apart (OwnS.upd (OwnB.ext hPt.2 e105) u115 fun g hg hS => ?_) u119 r31 ty_out.1.symm
        exact hP2 i.toNat t hin ht (fun e => h1 e.symm) g hS hg
     ·have far : ∀ t, t < n → t ≠ i.toNat → ∀ g, (P t).1 = some (at0 g) → p116 ≠ some (at0 g) := fun t ht hne g hg he => by
       have ho := OwnB.ext (hP1 t ht).2 e105
       rw [hg] at ho
       refine aw115 g (OwnS.lt_heap ho) (fun a ha hb => ?_) _ he rfl
       rcases ownP.where_ with ⟨h0, _⟩ | ⟨g', h0, _⟩
       ·rw [h0] at ha; cases ha
       ·rw [h0] at ha
        cases ha
        have : g' = g := hb
        subst this
        exact hP2 i.toNat t hin ht (fun e => hne e.symm) g' h0 hg
      intro s t hs ht hst g hg
      dsimp only at hg ⊢
      by_cases h1 : s = i.toNat
      ·rw [if_pos h1] at hg
       rw [if_neg (fun e => hst (h1.trans e.symm))]
       exact fun he => far t ht (fun e => hst (h1.trans e.symm)) g he hg
      ·rw [if_neg h1] at hg
       by_cases h2 : t = i.toNat
       ·rw [if_pos h2]; exact far s hs h1 g hg
       ·rw [if_neg h2]; exact hP2 s t hs ht hst g hg
     ·dsimp only at hg
      rw [if_neg (by omega)] at hg
      exact hP3 t (by omega) ht g hg
    ·simp only [decide_eq_false_iff_not] at hs2
     have hnn := OwnN.len hown
     have hdl := OwnN.len odw
     have hdle : (dif (k.toNat + m.toNat) (nots hs) c' (wordAt n hs L x)).length ≤ 256 := by
      unfold dif
      refine Nat.le_trans (List.length_filter_le _ _) ?_
      rw [List.length_range]; omega
     obtain ⟨pf, cf, w121, hr, ho', hu', _⟩ := OwnS.append elemN 30 hown (q := p2) (m := n2) (d := c2) (news := encN (dif (k.toNat + m.toNat) (nots hs) c' (wordAt n hs L x))) (by rw [encN_length]; omega) (OwnS.cells odw)
      (fun hp => by
       rcases odw.where_ with ⟨_, h, _⟩ | ⟨g, h, _⟩
       ·exact h
       ·rw [hp] at h; cases h) (fun u hu => by obtain ⟨_, _, rfl⟩ := List.mem_map.1 hu; rfl) (by unfold maxLen; omega) (by omega) hb1'
     refine ⟨_, _, _, hr36'.cell, _, _, _, w121, hr, ?_⟩
     have tyw : ∀ {e : TypeId}, 3 ≠ e → ∀ y, pp = some (at0 y) → ∃ (cs : Array Value) (e' : TypeId) (fz : Nat × Nat), w85.heap[y]? = some (Obj.cells cs e' fz) ∧ e' ≠ e := fun he y hy => by
      obtain ⟨cs, e', fz, h7, h8⟩ := OwnS.typed hown hy
      exact ⟨cs, e', fz, h7, by rw [h8]; exact he⟩
     have r121 : RowK w121 k36 30 #[.slice pp nn cc] := RowK.keep hr36' hu' (tyw ty_int.2.2.2.2.1)
     refine ⟨r121.live, fun w123 s123 => ?_⟩
     have u123 := setK_upd s123
     have x121 := OwnB.new_ext hxt hu' fun y hy => Nat.le_trans hb0' (OwnS.blk hown hy)
     have x123 : Ext w0 w123 := OwnB.new_ext x121 u123 fun y hy => by rw [show y = k36 from hy]; exact st.n36
     refine ⟨x123, .inr ⟨c', hd, rfl, ?_⟩⟩
     have fin : ∀ {k' : Nat} {e : TypeId} {cs : Array Value}, 3 ≠ e → 30 ≠ e → RowK w85 k' e cs → RowK w123 k' e cs := fun h1 h2 hr => RowK.keep (RowK.keep hr hu' (tyw h1)) u123 fun y hy => ⟨#[.slice pp nn cc], _, (0, 0), by rw [show y = k36 from hy]; exact r121, h2⟩
     have fin2 : ∀ {k' : Nat} {e : TypeId} {cs : Array Value}, 3 ≠ e → 30 ≠ e → e ≠ 5 → e ≠ 25 → RowK w30 k' e cs → RowK w123 k' e cs := fun h1 h2 h3 h4 hr => fin h1 h2 (hkeep _ _ _ h3 h4 (x69.keep hr))
     have cell36 : ∀ {k' : Nat} {v : Value}, k' < b' → RowK w30 k' 3 #[v] → RowK w123 k' 3 #[v] := fun {k' v} hlt hr => by
      have h1 := hkeep _ _ _ ty_out.2.2.1.symm ty_row.2.1.symm (x69.keep hr)
      have h2 : RowK w121 k' 3 #[v] := hu'.keep h1 fun hp => by
       have := OwnS.blk hown hp
       omega
      exact u123.keep h2 fun e => by
       have h3 : k' = k36 := e
       subst h3
       unfold RowK at h2 r121
       rw [h2] at r121
       cases r121
     have hin : i = (n : Int) := by omega
     have tyo : 3 ≠ 5 := ty_out.2.2.1.symm
     have out123 : OutAt w123 w0.heap.size k31 n (fun t => Lf t ++ [co c' t]) := by
      refine ⟨⟨csr, fin ty_int.2.1 ty_ints.2.1 hcsr, hcsrl⟩, hk31, P, fun t ht => ?_, hP2⟩
      have h1 := hP1 t ht
      rw [if_pos (by omega)] at h1
      refine ⟨?_, OwnB.apart (OwnB.other h1.2 hu' (tyw tyo)) u123 r121 ty_ints.2.2.2.2.2.2⟩
      rw [rowk_cell (fin ty_int.2.1 ty_ints.2.1 hcsr), ← rowk_cell hcsr]
      exact h1.1
     have ow123 : OwnN w123 b' pf (nn + n2) cf (wr ++ dif (k.toNat + m.toNat) (nots hs) c' (wordAt n hs L x)) := by
      have : encN (wr ++ dif (k.toNat + m.toNat) (nots hs) c' (wordAt n hs L x)) = encN wr ++ encN (dif (k.toNat + m.toNat) (nots hs) c' (wordAt n hs L x)) := by simp [encN]
      unfold OwnN
      rw [this]
      exact OwnS.other ho' u123 fun y hy => ⟨#[.slice pp nn cc], _, (0, 0), by rw [show y = k36 from hy]; exact r121, ty_ints.2.2.2.2.1⟩
     exact ⟨x123, st.n36, st.n40, fin2 ty_int.1 ty_ints.1 ty_out.2.1.symm ty_row.1.symm r6, cell36 hb8' r8, cell36 hb10' r10, fin2 ty_int.2.2.1 ty_ints.2.2.1 ty_out.2.2.2.1.symm ty_row.2.2.1.symm r12,
      fin2 ty_int.2.2.2.1 ty_ints.2.2.2.1 ty_out.2.2.2.2.1.symm ty_row.2.2.2.1.symm r14, fin ty_int.2.2.2.1 ty_ints.2.2.2.1 hr33, fin2 ty_int.2.2.1 ty_ints.2.2.1 ty_out.2.2.2.1.symm ty_row.2.2.1.symm r42, st.ne,
      ⟨_, _, _, b', hb0', Nat.le_trans hb1' (Nat.le_trans hu'.size u123.size), hb8', hb10', r121.set s123, ow123⟩, out123, ⟨cs, fin2 ty_int.2.2.2.2.2 ty_ints.2.2.2.2.2.1 ty_all.1 ty_all.2.1 rm, hcs⟩⟩
end Go.Proofs.YtkolafpgbhpdlaaGreat
