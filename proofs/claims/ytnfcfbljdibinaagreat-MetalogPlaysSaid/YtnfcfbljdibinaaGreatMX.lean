import Derived.Test.YtnfcfbljdibinaaGreatMV
import Derived.Test.YtnfcfbljdibinaaGreatMN
set_option maxHeartbeats 4000000
namespace Go.Proofs.YtnfcfbljdibinaaGreat
open Go Go.Vc
open Go.IntKind (i64)
open Go.Value (int)
open Go.Proofs.Tryz (prog)
theorem QA4 (a b : Nat) (ha : a < 4294967296) (hb : b < 4294967296) : Qs .and .u32 (a : Int) (b : Int) = ((a &&& b : Nat) : Int) := by
 show IntKind.u32.wrap (((BitVec.ofInt 32 (a : Int)) &&& (BitVec.ofInt 32 (b : Int))).toNat : Int) = _
 rw [BitVec.toNat_and, ofInt_u32 _ ha, ofInt_u32 _ hb, IntKind.wrap_u32']
 have : a &&& b <= a := Nat.and_le_left
 omega
theorem Qh9 (a b : Nat) (ha : a < 4294967296) (hb : b < 4294967296) : Qs .xor .u32 (a : Int) (b : Int) = ((a ^^^ b : Nat) : Int) /\ a ^^^ b < 4294967296 := by
 have hx : a ^^^ b < 2 ^ 32 := Nat.xor_lt_two_pow (by omega) (by omega)
 refine ⟨?_, by omega⟩
 show IntKind.u32.wrap (((BitVec.ofInt 32 (a : Int)) ^^^ (BitVec.ofInt 32 (b : Int))).toNat : Int) = _
 rw [BitVec.toNat_xor, ofInt_u32 _ ha, ofInt_u32 _ hb, IntKind.wrap_u32']
 omega
def QPe (x : Int) : Int := if Qs .and .u32 x (1 : Int) = (1 : Int) then Qs .xor .u32 (x.fdiv (2 ^ (min (1 : Int).toNat IntKind.u32.bits))) (2197175160 : Int) else x.fdiv (2 ^ (min (1 : Int).toNat IntKind.u32.bits))
theorem Qv9 (n : Nat) : (n : Int).fdiv (2 ^ (min (1 : Int).toNat IntKind.u32.bits)) = ((n / 2 : Nat) : Int) := by
 show (n : Int).fdiv (2 : Int) = _
 rw [Int.fdiv_eq_ediv_of_nonneg _ (by decide)]
 omega
theorem Q3b (n : Nat) (h : n < 4294967296) : Qs .and .u32 (n : Int) (1 : Int) = ((n % 2 : Nat) : Int) := by
 have := QA4 n 1 h (by omega)
 rw [Nat.and_one_is_mod] at this
 exact this
theorem QO6 {n : Nat} (h : n < 4294967296) : QPe n = Qd1 n /\ ∃ m : Nat, Qd1 n = m /\ m < 4294967296 := by
 have e1 := Q3b n h
 have hP : (2197175160 : Int) = ((2197175160 : Nat) : Int) := rfl
 unfold QPe Qd1
 rw [e1, Qv9]
 rcases Nat.mod_two_eq_zero_or_one n with h0 | h0
 ·rw [h0]
  have hw : IntKind.u32.wrap (0 - ((0 : Nat) : Int)) = ((0 : Nat) : Int) := by rw [IntKind.wrap_u32']; rfl
  have ha : Qs .and .u32 (2197175160 : Int) ((0 : Nat) : Int) = ((0 : Nat) : Int) := by
   rw [hP, QA4 _ _ (by omega) (by omega), Nat.and_zero]
  have hx := Qh9 (n / 2) 0 (by omega) (by omega)
  rw [hw, ha, hx.1, Nat.xor_zero, if_neg (by decide)]
  exact ⟨rfl, n / 2, rfl, by omega⟩
 ·rw [h0]
  have hw : IntKind.u32.wrap (0 - ((1 : Nat) : Int)) = ((4294967295 : Nat) : Int) := by rw [IntKind.wrap_u32']; rfl
  have ha : Qs .and .u32 (2197175160 : Int) ((4294967295 : Nat) : Int) = (2197175160 : Int) := by
   rw [hP, QA4 _ _ (by omega) (by omega)]
   decide
  have hx := Qh9 (n / 2) 2197175160 (by omega) (by omega)
  rw [hw, ha, if_pos (show ((1 : Nat) : Int) = 1 from rfl)]
  exact ⟨rfl, _, hx.1, hx.2⟩
theorem QZ4 {n : Nat} (h : n < 4294967296) : ∀ k, ∃ m : Nat, Qw1 k n = m /\ m < 4294967296
 | 0 => ⟨n, rfl, h⟩
 | k + 1 => by
  obtain ⟨m, e, hm⟩ := QZ4 h k
  show ∃ m' : Nat, Qd1 (Qw1 k n) = m' /\ _
  rw [e]
  exact (QO6 hm).2
theorem Qk8 {t : Nat} (h : 2 * t < 4294967296) : Qd1 ((2 * t : Nat) : Int) = (t : Int) := by
 rw [← (QO6 h).1]
 unfold QPe
 rw [Q3b _ h, Qv9, show 2 * t % 2 = 0 by omega, show 2 * t / 2 = t by omega, if_neg (by decide)]
theorem Qk7 {m : Nat} (h : 256 * m < 4294967296) : Qw1 8 ((256 * m : Nat) : Int) = (m : Int) := by
 have s : ∀ k t : Nat, 2 * k * t < 4294967296 -> Qd1 ((2 * k * t : Nat) : Int) = ((k * t : Nat) : Int) := fun k t hk => by
  have := Qk8 (t := k * t) (by rw [← Nat.mul_assoc]; exact hk)
  rw [← Nat.mul_assoc] at this
  exact this
 show Qd1 (Qd1 (Qd1 (Qd1 (Qd1 (Qd1 (Qd1 (Qd1 ((256 * m : Nat) : Int)))))))) = _
 rw [s 128 m (by omega), s 64 m (by omega), s 32 m (by omega), s 16 m (by omega), s 8 m (by omega), s 4 m (by omega), s 2 m (by omega), s 1 m (by omega), Nat.one_mul]
theorem Ql8 (x : Int) (b : UInt8) : QW1 x b = Qw1 8 (Qs .xor .u32 x (IntKind.u32.wrap (b.toNat : Int))) := by
 by_cases hz : Qs .and .u32 (Qs .xor .u32 x (IntKind.u32.wrap (b.toNat : Int))) (255 : Int) = 0
 ·rw [Q15 hz]
  have hr : 0 <= Qs .xor .u32 x (IntKind.u32.wrap (b.toNat : Int)) /\ Qs .xor .u32 x (IntKind.u32.wrap (b.toNat : Int)) < 4294967296 := Qo5 _
  generalize Qs .xor .u32 x (IntKind.u32.wrap (b.toNat : Int)) = y at hz hr
  obtain ⟨n, rfl⟩ := Int.eq_ofNat_of_zero_le hr.1
  have hn : n < 4294967296 := by omega
  have h1 := QA4 n 255 hn (by omega)
  have h2 : n &&& 255 = n % 256 := Nat.and_two_pow_sub_one_eq_mod n 8
  rw [h2] at h1
  have h3 : ((n % 256 : Nat) : Int) = 0 := h1.symm.trans hz
  have h4 := Qk7 (m := n / 256) (by omega)
  rw [show 256 * (n / 256) = n by omega] at h4
  rw [h4]
  show (n : Int).fdiv (256 : Int) = _
  rw [Int.fdiv_eq_ediv_of_nonneg _ (by decide)]
  omega
 ·exact Q05 hz
theorem Q1c (x : Int) (b : UInt8) (w : World) : Calls prog 162 #[.int .u32 x, .int .u8 (b.toNat : Int)] w fun e w' => e = .returned (.int .u32 (QW1 x b)) /\ w' = w := by
 have hr : 0 <= Qs .xor .u32 x (IntKind.u32.wrap (b.toNat : Int)) /\ Qs .xor .u32 x (IntKind.u32.wrap (b.toNat : Int)) < 4294967296 := Qo5 _
 refine (F162_calls x (b.toNat : Int) w (fun v w' => v = .int .u32 (QW1 x b) /\ w' = w)
  (fun _ n3 n4 w5 => 0 <= n4 /\ n4 <= 8 /\ w5 = w /\ n3 = Qw1 n4.toNat (Qs .xor .u32 x (IntKind.u32.wrap (b.toNat : Int)))) (fun _ _ n4 _ => (8 - n4).toNat) ?_).mono (by rintro e w' ⟨v, rfl, rfl, h⟩; exact ⟨rfl, h⟩)
 rw [Ql8]
 generalize hy : Qs .xor .u32 x (IntKind.u32.wrap (b.toNat : Int)) = y at hr
 obtain ⟨n, rfl⟩ := Int.eq_ofNat_of_zero_le hr.1
 unfold F162
 rw [hy]
 refine ⟨⟨by omega, by omega, rfl, rfl⟩, ?_⟩
 rintro n3 n4 w5 ⟨h0, h1, rfl, rfl⟩
 intros
 obtain ⟨m, e, hm⟩ := QZ4 (n := n) (by omega) n4.toNat
 have hs := (QO6 hm).1
 refine Q0 (fun hlt => ?_) (fun hge => ?_)
 ·simp only [Za] at hlt
  rw [w64 (n := n4 + 1) (by omega)]
  have mu : (8 - (n4 + 1)).toNat < (8 - n4).toNat := by omega
  have nx : Qw1 (n4 + 1).toNat (n : Int) = QPe (Qw1 n4.toNat (n : Int)) := by
   rw [show (n4 + 1).toNat = n4.toNat + 1 by omega]
   show Qd1 _ = _
   rw [e, hs]
  refine Q0 (fun hb => ⟨by omega, ⟨by omega, by omega, rfl, ?_⟩, mu⟩) (fun hb => ⟨by omega, ⟨by omega, by omega, rfl, ?_⟩, mu⟩)
  ·simp only [Za] at hb
   rw [nx, QPe, if_pos hb]
  ·simp only [Zb] at hb
   rw [nx, QPe, if_neg hb]
 ·simp only [Zb] at hge
  rw [show n4.toNat = 8 by omega]
  exact ⟨rfl, rfl⟩
theorem Q0c (x : Int) {p : σ} {l c : Nat} {w : World} {bs : τ} (h : Q3 w p l bs) (hm : l <= 4611686018427387904) :
  Calls prog 157 #[.int .u32 x, .slice p l c] w fun e w' => e = .returned (.int .u32 (Qhb x bs)) /\ w' = w := by
 have hl := h.1
 refine (F157_calls x p l c w (fun v w' => v = .int .u32 (Qhb x bs) /\ w' = w)
  (fun _ n3 n4 w5 => 0 <= n4 /\ n4 <= l /\ w5 = w /\ n3 = (bs.take n4.toNat).foldl QW1 (QS5 x)) (fun _ _ n4 _ => (l - n4).toNat) ?_).mono (by rintro e w' ⟨v, rfl, rfl, h⟩; exact ⟨rfl, h⟩)
 refine ⟨⟨by omega, by omega, rfl, rfl⟩, ?_⟩
 rintro n3 n4 w5 ⟨h0, h1, rfl, rfl⟩
 intros
 refine Q0 (fun ht => ?_) (fun ht => ?_)
 ·simp only [Za] at ht
  obtain ⟨a, rfl, ha⟩ := h.get (i := n4.toNat) (by omega)
  refine ⟨⟨h0, ht⟩, _, by rw [Nat.mul_one]; exact ha, (Q1c _ _ w5).mono ?_⟩
  rintro e w' ⟨rfl, rfl⟩
  rw [w64 (n := n4 + 1) (by omega)]
  refine ⟨_, rfl, ⟨by omega, by omega, rfl, ?_⟩, by show ((l : Int) - (n4 + 1)).toNat < ((l : Int) - n4).toNat; omega⟩
  rw [show (n4 + 1).toNat = n4.toNat + 1 by omega, Q01 _ _ _ (by omega)]
 ·simp only [Zb] at ht
  refine ⟨?_, rfl⟩
  rw [show n4.toNat = bs.length by omega, List.take_length]
  rfl
theorem QK9 {p : σ} {l c : Nat} {w : World} {bs : τ} (h : Q3 w p l bs) (hm : l <= 4611686018427387904) :
  Calls prog 144 #[.slice p l c] w fun e w' => e = .returned (.int .u32 (QEc bs)) /\ w' = w := by
 refine (F144_calls p l c w (fun v w' => v = .int .u32 (QEc bs) /\ w' = w) ?_).mono (by rintro e w' ⟨v, rfl, rfl, h⟩; exact ⟨rfl, h⟩)
 refine (Q0c 0 h hm).mono ?_
 rintro e w' ⟨rfl, rfl⟩
 exact ⟨_, rfl, rfl, rfl⟩
open Go Go.Vc
open Go.IntKind (i64)
open Go.Value (int)
open Go.Proofs.Tryz (prog)
theorem QK6 {w w' : World} {k : Nat} {bs : τ} (hk : QU1 w k (.cells (QB bs).toArray 5) w') {n : Nat} (hn : n = bs.length) (hm : n <= 9000) : Qc w' w.heap.size 5 1 (some (at0 k)) n n (QB bs) := by
 refine ⟨by rw [Qq, Nat.mul_one, hn], .inr ⟨k, n, _, rfl, by rw [hk.size.1]; exact Nat.le_refl _, hk.at, Nat.le_refl _, by unfold maxLen; omega, ?_, ?_⟩⟩
 ·rw [List.size_toArray, Qq, Nat.mul_one, hn]
 ·rw [Nat.mul_one, Zh (by rw [Qq]; omega)]
theorem QJ {w : World} {base : Nat} {p : σ} {n c : Nat} {bs : τ} (h : Qc w base 5 1 p n c (QB bs)) : Q3 w p n bs := by
 have hl := h.length
 rw [Qq, Nat.mul_one] at hl
 have := Q3.of_cells h.cells
 rw [← hl]
 exact this
theorem QY0 {w0 w : World} (hx : Ext w0 w) {p : σ} {n c : Nat} {xs : τ} (h : Qc w w0.heap.size 5 1 p n c (QB xs)) {q : σ} {m d : Nat} {ys : τ} (hq : Q3 w q m ys) (hb : n + m <= 90000) :
  ∃ (p' : σ) (l' c' : Nat), ∃ w', Sem.run prog (Builtin.append_ #[42, 42] 42 #[.slice p n c, .slice q m d]) w = .ok (.slice p' l' c') w' /\ Qc w' w0.heap.size 5 1 p' l' c' (QB (xs ++ ys)) /\ l' = n + m /\ Ext w0 w' /\ Upd (fun b => p = some (at0 b)) w w' := by
 have hl := hq.1
 obtain ⟨p', c', w', hr, ho, hu, _⟩ := h.append QTc 42 (q := q) (m := m) (d := d) (news := QB ys) (by rw [Qq]; omega) hq.cells (QK5 hq) (Qn3 ys) (by unfold maxLen; omega) (by omega) hx.size
 refine ⟨p', _, c', w', hr, ?_, rfl, ?_, hu⟩
 ·have : QB (xs ++ ys) = QB xs ++ QB ys := by simp [QB]
  rw [this]; exact ho
 ·refine Upd.trans hx hu fun x hx' hs => ?_
  rcases h.where_ with ⟨h0, _⟩ | ⟨g, h0, hge, _⟩
  ·rw [h0] at hs; cases hs
  ·rw [h0] at hs
   simp only [Zi, at0, Zv, and_true] at hs
   omega
theorem QD2 {p : σ} {l c : Nat} {w : World} {bs : τ} (h : Q3 w p l bs) (h4 : 4 <= l) : Calls prog 149 #[.slice p l c] w fun e w' => e = .returned (.int .u32 (Qt7 (bs.take 4))) /\ Ext w w' := by
 refine (F149_calls p l c w (fun v w' => v = .int .u32 (Qt7 (bs.take 4)) /\ Ext w w') ?_).mono (by rintro e w' ⟨v, rfl, rfl, h⟩; exact ⟨rfl, h⟩)
 intro w2 d2
 have hl := h.1
 have h2 := h.ext d2.ext
 obtain ⟨a, rfl, c0⟩ := h2.get (i := 0) (by omega)
 obtain ⟨a1, e1, c1⟩ := h2.get (i := 1) (by omega)
 cases e1
 obtain ⟨a2, e2, c2⟩ := h2.get (i := 2) (by omega)
 cases e2
 obtain ⟨a3, e3, c3⟩ := h2.get (i := 3) (by omega)
 cases e3
 refine ⟨⟨by omega, by omega⟩, _, c0, by omega, ⟨by omega, by omega⟩, _, c1, by omega, ⟨by omega, by omega⟩, _, c2, by omega, ⟨by omega, by omega⟩, _, c3, ?_, d2.ext⟩
 match bs, hl with
 | x0 :: x1 :: x2 :: x3 :: rest, _ =>
  have b0 := u8b x0; have b1 := u8b x1; have b2 := u8b x2; have b3 := u8b x3
  have t24 : (2 : Int) ^ (min (24 : Int).toNat IntKind.u32.bits) = 16777216 := rfl
  have t16 : (2 : Int) ^ (min (16 : Int).toNat IntKind.u32.bits) = 65536 := rfl
  have t8 : (2 : Int) ^ (min (8 : Int).toNat IntKind.u32.bits) = 256 := rfl
  show Value.int .u32 (IntKind.u32.wrap ((IntKind.u32.wrap ((IntKind.u32.wrap ((IntKind.u32.wrap ((IntKind.u32.wrap (x0.toNat : Int)) * 2 ^ (min (24 : Int).toNat IntKind.u32.bits))) + (IntKind.u32.wrap ((IntKind.u32.wrap (x1.toNat : Int)) * 2 ^ (min (16 : Int).toNat IntKind.u32.bits))))) + (IntKind.u32.wrap ((IntKind.u32.wrap (x2.toNat : Int)) * 2 ^ (min (8 : Int).toNat IntKind.u32.bits))))) + (IntKind.u32.wrap (x3.toNat : Int)))) = .int .u32 (Qt7 [x0, x1, x2, x3])
  rw [QZf, t24, t16, t8]
  simp only [IntKind.wrap_u32']
  congr 1
  omega
 | [], h => simp at h; omega
 | [_], h => simp at h; omega
 | [_, _], h => simp at h; omega
 | [_, _, _], h => simp at h; omega
theorem Q62 (x : Int) (h0 : 0 <= x) (w : World) : Calls prog 112 #[.int .u32 x] w fun e w' => ∃ k, e = .returned (.slice (some (at0 k)) 4 4) /\ Ext w w' /\ Qc w' w.heap.size 5 1 (some (at0 k)) 4 4 (QB (Qg0 x)) := by
 refine (F112_calls x w (fun v w' => ∃ k, v = .slice (some (at0 k)) 4 4 /\ Ext w w' /\ Qc w' w.heap.size 5 1 (some (at0 k)) 4 4 (QB (Qg0 x))) ?_).mono (by rintro e w' ⟨v, rfl, k, rfl, h⟩; exact ⟨k, rfl, h⟩)
 refine ⟨by omega, by omega, by omega, fun k w3 hk => ⟨k, rfl, hk.ext, QK6 ?_ rfl (by omega)⟩⟩
 have b0 := QV1 h0 16777216
 have b1 := QV1 h0 65536
 have b2 := QV1 h0 256
 have b3 := QV1 h0 1
 rw [Nat.div_one] at b3
 have b3' : IntKind.u8.wrap x = IntKind.u8.wrap (x.fdiv ((1 : Nat) : Int)) := by simp [Int.fdiv_one]
 have hk' : QU1 w k (.cells #[.int .u8 (IntKind.u8.wrap (x.fdiv ((16777216 : Nat) : Int))), .int .u8 (IntKind.u8.wrap (x.fdiv ((65536 : Nat) : Int))), .int .u8 (IntKind.u8.wrap (x.fdiv ((256 : Nat) : Int))), .int .u8 (IntKind.u8.wrap x)] 5) w3 := hk
 rw [b0, b1, b2, b3', b3] at hk'
 exact hk'
theorem Qc6 (addr epoch : Int) {p : σ} {l c : Nat} {w : World} {d : τ} (h : Q3 w p l d) :
  Calls prog 108 #[int i64 addr, int i64 epoch, .slice p l c] w fun e w' => Ext w w' ∧
   if Qs0 addr /\ Qs0 epoch /\ d.length <= 4096 then ∃ p' l' c', e = .returned (.tuple #[.slice p' l' c', int i64 0]) /\ Qc w' w.heap.size 5 1 p' l' c' (QB (Qx addr epoch d))
   else e = .returned (.tuple #[.slice none 0 0, int i64 1]) := by
 refine (F108_calls addr epoch p l c w (fun v w' => Ext w w' /\ if Qs0 addr /\ Qs0 epoch /\ d.length <= 4096 then ∃ p' l' c', v = .tuple #[.slice p' l' c', int i64 0] /\ Qc w' w.heap.size 5 1 p' l' c' (QB (Qx addr epoch d))
   else v = .tuple #[.slice none 0 0, int i64 1]) ?_).mono (by
  rintro e w' ⟨v, rfl, hx, h⟩
  refine ⟨hx, ?_⟩
  by_cases hf : Qs0 addr /\ Qs0 epoch /\ d.length <= 4096
  ·rw [if_pos hf] at h ⊢
   obtain ⟨p', l', c', rfl, h⟩ := h
   exact ⟨p', l', c', rfl, h⟩
  ·rw [if_neg hf] at h ⊢
   rw [h])
 have hl := h.1
 have bad : ¬ (Qs0 addr /\ Qs0 epoch /\ d.length <= 4096) -> (Ext w w /\ if Qs0 addr /\ Qs0 epoch /\ d.length <= 4096 then ∃ p' l' c', (Value.tuple #[.slice none 0 0, int i64 1]) = .tuple #[.slice p' l' c', int i64 0] /\ Qc w w.heap.size 5 1 p' l' c' (QB (Qx addr epoch d))
   else (Value.tuple #[.slice none 0 0, int i64 1]) = .tuple #[.slice none 0 0, int i64 1]) := fun hn => ⟨Upd.refl _ _, by rw [if_neg hn]⟩
 refine Q0 (fun h1 => bad fun hf => ?_) fun h1 => Q0 (fun h2 => bad fun hf => ?_) fun h2 => Q0 (fun h3 => bad fun hf => ?_) fun h3 => Q0 (fun h4 => bad fun hf => ?_) fun h4 => Q0 (fun h5 => bad fun hf => ?_) fun h5 => ?_
 ·simp only [Za] at h1; have := hf.1.1; omega
 ·simp only [Za] at h2; have := hf.1.2; omega
 ·simp only [Za] at h3; have := hf.2.1.1; omega
 ·simp only [Za] at h4; have := hf.2.1.2; omega
 ·simp only [Za] at h5; have := hf.2.2; omega
 simp only [Zb] at h1 h2 h3 h4 h5
 have hok : Qs0 addr /\ Qs0 epoch /\ d.length <= 4096 := ⟨⟨by omega, by omega⟩, ⟨by omega, by omega⟩, by omega⟩
 have ea : IntKind.u32.wrap addr = addr := by rw [IntKind.wrap_u32']; omega
 have ee : IntKind.u32.wrap epoch = epoch := by rw [IntKind.wrap_u32']; omega
 rw [ea, ee]
 refine (Q62 addr (by omega) w).mono ?_
 rintro e w4 ⟨k6, rfl, x4, own4⟩
 refine ⟨_, _, _, rfl, (Q62 epoch (by omega) w4).mono ?_⟩
 rintro e w7 ⟨k9, rfl, x7, own7⟩
 have y7 := x4.trans x7
 obtain ⟨p11, l11, c11, w10, r10, own10, hl11, x10, _⟩ := QY0 y7 (own4.ext x7) (d := 4) (QJ own7) (by omega)
 obtain ⟨p13, l13, c13, w12, r12, own12, hl13, x12, _⟩ := QY0 x10 own10 (d := c) (h.ext x10) (by omega)
 have eH : (Qg0 addr ++ Qg0 epoch) ++ d = QB5 addr epoch d := by rw [List.append_assoc]; rfl
 rw [eH] at own12
 refine ⟨_, _, _, rfl, _, _, _, _, r10, _, _, _, _, r12, (QK9 (QJ own12) (by omega)).mono ?_⟩
 rintro e w14 ⟨rfl, rfl⟩
 refine ⟨_, rfl, (Q62 _ (QR5 _).1 _).mono ?_⟩
 rintro e w17 ⟨k19, rfl, x17, own17⟩
 obtain ⟨p21, l21, c21, w20, r20, own20, hl21, x20, _⟩ := QY0 (x12.trans x17) (own12.ext x17) (d := 4) (QJ own17) (by omega)
 refine ⟨_, _, _, rfl, _, _, _, _, r20, x20, ?_⟩
 rw [if_pos hok]
 exact ⟨_, _, _, rfl, own20⟩
theorem QO7 (addr : Int) {p : σ} {l c : Nat} {w : World} {bs : τ} (h : Q3 w p l bs) (hm : l <= 4611686018427387904) (hc : l <= c) :
  Calls prog 147 #[int i64 addr, .slice p l c] w fun e w' => Ext w w' /\ ∃ n d p' c' z, e = .returned (.tuple #[int i64 n, .slice p' d.length c', int i64 z]) /\ Q3 w' p' d.length d /\ (∀ g, p' = some g -> ∃ g0, p = some g0 /\ g.block = g0.block) /\ d.length <= c' /\ (match Qi0 addr bs with
   | some (n', d') => z = 0 /\ n = n' /\ d = d'
   | none => z = 110 /\ n = 0 /\ d = []) := by
 refine (F147_calls addr p l c w (fun v w' => Ext w w' /\ ∃ n d p' c' z, v = .tuple #[int i64 n, .slice p' d.length c', int i64 z] /\ Q3 w' p' d.length d /\ (∀ g, p' = some g -> ∃ g0, p = some g0 /\ g.block = g0.block) /\ d.length <= c' /\ (match Qi0 addr bs with
   | some (n', d') => z = 0 /\ n = n' /\ d = d'
   | none => z = 110 /\ n = 0 /\ d = [])) ?_).mono (by rintro e w' ⟨v, rfl, hx, n, d, p', c', z, rfl, h⟩; exact ⟨hx, n, d, p', c', z, rfl, h⟩)
 have hl := h.1
 have bad : ∀ {w' : World}, Ext w w' -> ¬ QO2 addr bs -> (Ext w w' /\ ∃ n d p' c' z, (Value.tuple #[int i64 0, .slice none 0 0, int i64 110]) = .tuple #[int i64 n, .slice p' d.length c', int i64 z] /\ Q3 w' p' d.length d /\ (∀ g, p' = some g -> ∃ g0, p = some g0 /\ g.block = g0.block) /\ d.length <= c' /\ (match Qi0 addr bs with
   | some (n', d') => z = 0 /\ n = n' /\ d = d'
   | none => z = 110 /\ n = 0 /\ d = [])) := fun hx hn => ⟨hx, 0, [], none, 0, 110, rfl, Q3.nil _ _, (fun g h => by cases h), Nat.zero_le _, by unfold Qi0; rw [if_neg hn]; exact ⟨rfl, rfl, rfl⟩⟩
 unfold F147
 rw [w64 (n := (l : Int) - 4) (by omega)]
 refine Q0 (fun h1 => bad (Upd.refl _ _) fun hf => ?_) fun h1 => Q0 (fun h2 => bad (Upd.refl _ _) fun hf => ?_) fun h2 => Q0 (fun h3 => bad (Upd.refl _ _) fun hf => ?_) fun h3 => Q0 (fun h4 => bad (Upd.refl _ _) fun hf => ?_) fun h4 => ?_
 ·simp only [Za] at h1; have := hf.1; omega
 ·simp only [Za] at h2; have := hf.2.1; omega
 ·simp only [Za] at h3; have := hf.2.2.1.1; omega
 ·simp only [Za] at h4; have := hf.2.2.1.2; omega
 simp only [Zb] at h1 h2 h3 h4
 have hn : ((l : Int) - 4).toNat = l - 4 := by omega
 rw [hn]
 have c48 := Q94 h (c := c) (a := 4) (b := 8) (by omega) (by omega) hc
 refine ⟨⟨by omega, by omega⟩, ⟨by omega, by decide⟩, (QD2 c48 (by omega)).mono ?_⟩
 rintro e w3 ⟨rfl, x3⟩
 refine ⟨_, rfl, fun w6 d6 => ⟨⟨by omega, by omega⟩, ⟨by omega, by omega⟩, ?_⟩⟩
 have y6 := x3.trans d6.ext
 have e1 : bs.take l = bs := by rw [hl]; exact List.take_length
 have cn := Q94 (h.ext y6) (c := c) (a := l - 4) (b := l) (Nat.le_refl _) (by omega) hc
 rw [e1] at cn
 refine (QD2 cn (by omega)).mono ?_
 rintro e w7 ⟨rfl, x7⟩
 have y7 := y6.trans x7
 have cs := Q94 (h.ext y7) (c := c) (a := 0) (b := l - 4) (by omega) (by omega) hc
 rw [List.drop_zero] at cs
 refine ⟨_, rfl, (QK9 cs (by omega)).mono ?_⟩
 rintro e w10 ⟨rfl, rfl⟩
 have t1 : ((bs.take 8).drop 4).take 4 = (bs.take 8).drop 4 := Zh (by simp; omega)
 have t2 : (bs.drop (l - 4)).take 4 = bs.drop (l - 4) := Zh (by simp; omega)
 rw [t1, t2]
 refine ⟨_, rfl, Q0 (fun h5 => bad y7 fun hf => ?_) fun h5 => ⟨⟨by omega, by omega⟩, ?_⟩⟩
 ·simp only [Zg, Zb] at h5
  have := hf.2.2.2.1
  rw [← hl] at this
  exact h5 this
 simp only [Zf, Za] at h5
 have c04 := Q94 (h.ext y7) (c := c) (a := 0) (b := 4) (by omega) (by omega) hc
 rw [List.drop_zero] at c04
 refine (QD2 c04 (by omega)).mono ?_
 rintro e w13 ⟨rfl, x13⟩
 have y13 := y7.trans x13
 have t3 : (bs.take 4).take 4 = bs.take 4 := Zh (by simp; omega)
 have ea : IntKind.u32.wrap addr = addr := by rw [IntKind.wrap_u32']; omega
 rw [t3, ea]
 refine ⟨_, rfl, Q0 (fun h6 => bad y13 fun hf => ?_) fun h6 => Q0 (fun h7 => bad y13 fun hf => ?_) fun h7 => fun w16 d16 => ⟨⟨by omega, by omega⟩, ⟨by omega, by omega⟩, y13.trans d16.ext, ?_⟩⟩
 ·simp only [Zg, Zb] at h6
  exact h6 hf.2.2.2.2.1
 ·simp only [Za] at h7; have := hf.2.2.2.2.2; omega
 simp only [Zf, Za] at h6
 simp only [Zb] at h7
 have hok : QO2 addr bs := ⟨by omega, by omega, ⟨by omega, by omega⟩, by rw [← hl]; exact h5, h6, by omega⟩
 have c8 := Q94 (h.ext (y13.trans d16.ext)) (c := c) (a := 8) (b := l - 4) (by omega) (by omega) hc
 have h4n := Qv6 (bs := (bs.take 8).drop 4) (by simp; omega)
 have hlen : ((bs.take (l - 4)).drop 8).length = l - 4 - 8 := by simp; omega
 refine ⟨Qt7 ((bs.take 8).drop 4), (bs.take (l - 4)).drop 8, Qu p c 8 1, c - 8, 0, ?_, ?_, ?_, ?_, ?_⟩
 ·rw [hlen, w64 (by omega)]; rfl
 ·rw [hlen]; exact c8
 ·intro g hg
  cases p with
  | none => unfold Qu QLc at hg; split at hg <;> cases hg
  | some g0 =>
   refine ⟨g0, rfl, ?_⟩
   unfold Qu QLc at hg
   split at hg <;> cases hg
   ·rfl
   ·rfl
 ·rw [hlen]; omega
 ·unfold Qi0
  rw [if_pos hok, ← hl]
  exact ⟨rfl, rfl, rfl⟩
open Go Go.Vc
open Go.IntKind (i64)
open Go.Value (int)
open Go.Proofs.Tryz (prog)
theorem QY8 {w : World} {b : Nat} {D : Dk} {F : Nat -> Prop} (h : QQ2 w b D F) (k : Int) :
  Calls prog 110 #[.pointer (some (at0 b)), int i64 k] w fun e w' => Ext w w' /\ ∃ p l c bs, e = .returned (.tuple #[.slice p l c, int i64 (Qe D.dead D.sectors k)]) ∧
   bs = (if Qe D.dead D.sectors k = 0 then Ql1 D k else []) /\ Q3 w' p l bs /\ l <= 4108 /\ Qc w' w.heap.size 5 1 p l c (QB bs) := by
 obtain ⟨⟨G, hd, rfl⟩, hk⟩ := h
 exact QN7 hd hk k
theorem QW8 {w : World} {r : Nat} {Ds : List Dk} {B : List Int} {left : Int} {F : Nat -> Prop} (h : QM w r Ds B left false F) {i : Nat} {D : Dk} (hi : Ds[i]? = some D) (k : Int) : Calls prog 60 #[.pointer (some (at0 r)), int i64 (i : Int), int i64 k] w fun e w' => Ext w w' ∧
  ∃ p l c bs, e = .returned (.tuple #[.slice p l c, int i64 (Qe D.dead D.sectors k)]) /\ bs = (if Qe D.dead D.sectors k = 0 then Ql1 D k else []) /\ Q3 w' p l bs /\ l <= 4108 /\ Qc w' w.heap.size 5 1 p l c (QB bs) := by
 refine (F60_calls (some (at0 r)) (i : Int) k w (fun v w' => Ext w w' /\ ∃ p l c bs, v = .tuple #[.slice p l c, int i64 (Qe D.dead D.sectors k)] /\ bs = (if Qe D.dead D.sectors k = 0 then Ql1 D k else []) /\ Q3 w' p l bs /\ l <= 4108 /\ Qc w' w.heap.size 5 1 p l c (QB bs)) ?_).mono (by
  rintro e w' ⟨v, rfl, hx, p, l, c, bs, rfl, h⟩; exact ⟨hx, p, l, c, bs, rfl, h⟩)
 have hil : i < Ds.length := (Zd.1 hi).1
 obtain ⟨pD, cD, pB, cB, hr⟩ := h.row
 refine ⟨_, hr.c rfl, Q0 (fun h => by cases h) fun _ => (QO0 h (i : Int)).mono ?_⟩
 rintro e w7 ⟨rfl, rfl⟩
 obtain ⟨ap, cD', b, Fi, e0, e1, hd, _, _⟩ := h.at hi
 refine ⟨_, rfl, Q0 (fun h0 => by simp at h0; omega) fun _ => ⟨_, _, _, e0, ⟨by omega, by omega⟩, _, by rw [Ze]; exact e1, ?_⟩⟩
 refine (QY8 hd k).mono ?_
 rintro e w14 ⟨hx, p, l, c, bs, rfl, h⟩
 exact ⟨_, _, _, _, rfl, hx, p, l, c, bs, rfl, h⟩
theorem QT4 {w : World} {r : Nat} {s : StA} {G : Nat -> Prop} (h : IsR w r s G) (hd : s.down = false) {i : Nat} {m : Mem} (hm : s.M[i]? = some m) (n : Int) : Calls prog 60 #[.pointer (some (at0 r)), int i64 (i : Int), int i64 n] w fun e w' => Ext w w' ∧
  ∃ p l c, e = .returned (.tuple #[.slice p l c, int i64 (Qe m.d.dead m.d.sectors n)]) /\ l <= 4108 /\ Qc w' w.heap.size 5 1 p l c (QB (Qx4 n m)) := by
 obtain ⟨M, left, down⟩ := s
 simp only at hd hm
 subst hd
 refine (QW8 h (Q63 (s := ⟨M, left, false⟩) hm) n).mono ?_
 rintro e w' ⟨hx, p, l, c, bs, rfl, hbs, hb, hl, ho⟩
 refine ⟨hx, p, l, c, rfl, hl, ?_⟩
 rw [hbs] at ho
 exact ho
structure Qo2 (w : World) (rows : List Value) (L : List QG2) : Prop where
 len : rows.length = L.length * 4
 row : ∀ i s, L[i]? = some s -> ∃ q n c, rows[i * 4]? = some (.bool s.is) /\ rows[i * 4 + 1]? = some (.bool s.none) /\ rows[i * 4 + 2]? = some (int i64 s.epoch) /\ rows[i * 4 + 3]? = some (.slice q n c) /\ Q3 w q n s.data ∧
  (∀ g cs e fz, q = some g -> s.data ≠ [] -> w.heap[g.block]? = some (.cells cs e fz) -> e = 5) /\ n <= 4108 /\ n <= c
theorem Qo2.nil (w : World) : Qo2 w [] [] := ⟨rfl, fun i s h => by simp at h⟩
theorem Qo2.ext {w w' : World} {rows : List Value} {L : List QG2} (h : Qo2 w rows L) (hx : Ext w w') : Qo2 w' rows L := by
 refine ⟨h.len, fun i s hi => ?_⟩
 obtain ⟨q, n, c, h1, h2, h3, h4, h5, h6, h7⟩ := h.row i s hi
 refine ⟨q, n, c, h1, h2, h3, h4, h5.ext hx, fun g cs e fz hq hne hg => h6 g cs e fz hq hne ?_, h7⟩
 subst hq
 obtain ⟨a, ha, hlt⟩ := h5.lt hne
 cases ha
 rw [← hx.block _ hlt id]
 exact hg
theorem Qo2.keep {w w' : World} {rows : List Value} {L : List QG2} (h : Qo2 w rows L) {base : Nat} {e0 : TypeId} {sz : Nat} {p : σ} {n c : Nat} {xs : List Value} (own : Qc w base e0 sz p n c xs) (he : e0 ≠ 5) (hu : Upd (fun b => p = some (at0 b)) w w') : Qo2 w' rows L := by
 refine ⟨h.len, fun i s hi => ?_⟩
 obtain ⟨q, n, c, h1, h2, h3, h4, h5, h6, h7⟩ := h.row i s hi
 have hno : ∀ g, q = some g -> s.data ≠ [] -> ¬ (p = some (at0 g.block)) := fun g hq hne hp => by
  rcases own.where_ with ⟨h0, _⟩ | ⟨b, h0, _, _, _, cur, hc, _⟩
  ·rw [h0] at hp; cases hp
  ·rw [h0] at hp
   simp only [Zi, at0, Zv, and_true] at hp
   rw [hp] at hc
   exact he (h6 g _ _ _ hq hne hc)
 refine ⟨q, n, c, h1, h2, h3, h4, h5.upd hu fun g hq hne => hno g hq hne, fun g cs e fz hq hne hg => h6 g cs e fz hq hne ?_, h7⟩
 subst hq
 obtain ⟨a, ha, hlt⟩ := h5.lt hne
 cases ha
 rw [← hu.block _ hlt (hno _ rfl hne)]
 exact hg
theorem Qo2.snoc {w : World} {rows : List Value} {L : List QG2} (h : Qo2 w rows L) {s : QG2} {q : σ} {n c : Nat} (hb : Q3 w q n s.data) (ht : ∀ g cs e fz, q = some g -> s.data ≠ [] -> w.heap[g.block]? = some (.cells cs e fz) -> e = 5) (hn : n <= 4108 /\ n <= c) :
  Qo2 w (rows ++ [.bool s.is, .bool s.none, int i64 s.epoch, .slice q n c]) (L ++ [s]) := by
 have hl := h.len
 refine ⟨by simp [hl]; omega, fun i s' hi => ?_⟩
 by_cases hlt : i < L.length
 ·rw [Zl hlt] at hi
  obtain ⟨q, n, c, h1, h2, h3, h4, h5⟩ := h.row i s' hi
  exact ⟨q, n, c, by rw [Zl (by omega)]; exact h1, by rw [Zl (by omega)]; exact h2, by rw [Zl (by omega)]; exact h3, by rw [Zl (by omega)]; exact h4, h5⟩
 ·rw [Zm (by omega)] at hi
  have hi0 : i = L.length := by
   have := (Zd.1 hi).1
   simp at this
   omega
  subst hi0
  rw [Nat.sub_self] at hi
  cases hi
  exact ⟨q, n, c, by rw [Zm (by omega), show L.length * 4 - rows.length = 0 by omega]; rfl, by rw [Zm (by omega), show L.length * 4 + 1 - rows.length = 1 by omega]; rfl,
   by rw [Zm (by omega), show L.length * 4 + 2 - rows.length = 2 by omega]; rfl, by rw [Zm (by omega), show L.length * 4 + 3 - rows.length = 3 by omega]; rfl, hb, ht, hn⟩
theorem QQb {w : World} {base : Nat} {e0 : TypeId} {sz : Nat} {p : σ} {n c : Nat} {xs : List Value} (own : Qc w base e0 sz p n c xs) : ∀ g cs e fz, p = some g -> w.heap[g.block]? = some (.cells cs e fz) -> e = e0 := by
 intro g cs e fz hp hg
 rcases own.where_ with ⟨h0, _⟩ | ⟨b, h0, _, _, _, cur, hc, _⟩
 ·rw [h0] at hp; cases hp
 ·rw [h0] at hp
  cases hp
  have h1 : w.heap[b]? = some (.cells cs e fz) := hg
  rw [h1] at hc
  cases hc
  rfl
theorem Q8f : QI0 prog 172 199 4 40 := ⟨by kernel_rfl, ⟨Tryz.t199, .agg #[.bool false, .bool false, int i64 0, .slice none 0 0], by kernel_rfl, by kernel_rfl, by kernel_rfl, by kernel_rfl, by kernel_rfl⟩, by decide⟩
open Go Go.Vc
open Go.IntKind (i64)
open Go.Value (int)
open Go.Proofs.Tryz (prog)
theorem Qn7 {dead : Bool} {sectors n : Int} : Qe dead sectors n ≠ 130 := by
 unfold Qe
 split
 ·omega
 ·split <;> omega
theorem QMf {w : World} {k : Nat} {a b c d : Value} {e : TypeId} {fz : Nat × Nat} (h : w.heap[k]? = some (.cells #[a, b, c, d] e fz)) : Q8 w (some (at0 k)) [a, b, c, d] := by
 intro j u hj
 refine ⟨_, rfl, ?_⟩
 match j, hj with
 | 0, hj => cases hj; simp [World.cell?, Addr.add, h]
 | 1, hj => cases hj; simp [World.cell?, Addr.add, h]
 | 2, hj => cases hj; simp [World.cell?, Addr.add, h]
 | 3, hj => cases hj; simp [World.cell?, Addr.add, h]
theorem QTe {w0 w : World} (hx : Ext w0 w) {p : σ} {n c : Nat} {xs : List Value} (h : Qc w w0.heap.size 199 4 p n c xs) {k : Nat} {w1 : World} {a b c' d : Value} (hk : QU1 w k (.cells #[a, b, c', d] 199) w1)
  (hv : ∀ v ∈ [a, b, c', d], v.oneCell' = true) (hn : n <= 100) : ∃ (p' : σ) (l' c'' : Nat), ∃ w', Sem.run prog (Builtin.append_ #[172, 172] 172 #[.slice p n c, .slice (some (at0 k)) 1 1]) w1 = .ok (.slice p' l' c'') w' /\ l' = n + 1 ∧
   Qc w' w0.heap.size 199 4 p' l' c'' (xs ++ [a, b, c', d]) /\ Ext w0 w' /\ Upd (fun b => p = some (at0 b)) w1 w' := by
 have h1 := h.ext hk.ext
 obtain ⟨p', c2, w', hr, ho, hu, _⟩ := h1.append Q8f 172 (q := some (at0 k)) (m := 1) (d := 1) (news := [a, b, c', d]) rfl (QMf hk.at) (fun h => by cases h) hv (by unfold maxLen; omega) (by omega) (hx.trans hk.ext).size
 refine ⟨p', _, c2, w', hr, rfl, ho, ?_, hu⟩
 refine Upd.trans (hx.trans hk.ext) hu fun x hx' hs => ?_
 rcases h1.where_ with ⟨h0, _⟩ | ⟨g, h0, hge, _⟩
 ·rw [h0] at hs; cases hs
 ·rw [h0] at hs
  simp only [Zi, at0, Zv, and_true] at hs
  omega
theorem Qje {w : World} {base : Nat} {e : TypeId} {sz : Nat} {p : σ} {n c : Nat} {xs : List Value} (h : Qc w base e sz p n c xs) : n <= c := by
 rcases h.where_ with ⟨_, h0, h1⟩ | ⟨g, _, _, _, h1, _⟩
 ·omega
 ·exact h1
theorem QGa {w : World} {r : Nat} {s : StA} {G : Nat -> Prop} (h : IsR w r s G) (hM : s.M.length <= 100) (h1 : 1 <= s.M.length) (addr : Int) : Calls prog 116 #[.pointer (some (at0 r)), int i64 addr] w fun e w' => Ext w w' ∧
  (s.down = true -> e = .returned (.tuple #[.slice none 0 0, int i64 130])) /\ (s.down = false -> ∃ p l c rows, e = .returned (.tuple #[.slice p l c, int i64 0]) /\ l = s.M.length /\ Qc w' w.heap.size 199 4 p l c rows /\ Qo2 w' rows (Qn addr s.M)) := by
 refine (F116_calls (some (at0 r)) addr w (fun v w' => Ext w w' /\ (s.down = true -> v = .tuple #[.slice none 0 0, int i64 130]) /\ (s.down = false -> ∃ p l c rows, v = .tuple #[.slice p l c, int i64 0] /\ l = s.M.length /\ Qc w' w.heap.size 199 4 p l c rows /\ Qo2 w' rows (Qn addr s.M)))
  (fun _ p3 l3 c3 n4 w5 => ∃ (i : Nat) (rows : List Value), n4 = i /\ i <= s.M.length /\ l3 = i /\ Ext w w5 /\ (i = 0 \/ s.down = false) /\ Qc w5 w.heap.size 199 4 p3 l3 c3 rows /\ Qo2 w5 rows (Qn addr (s.M.take i))) (fun _ _ _ _ n4 _ => 100 - n4.toNat) ?_).mono (by
   rintro e w' ⟨v, rfl, hx, h2, h3⟩
   exact ⟨hx, fun hd => by rw [h2 hd], fun hd => by obtain ⟨p, l, c, rows, rfl, h⟩ := h3 hd; exact ⟨p, l, c, rows, rfl, h⟩⟩)
 refine ⟨⟨0, [], rfl, Nat.zero_le _, rfl, Upd.refl _ _, .inl rfl, Qc.nil _ _ _ _, Qo2.nil _⟩, ?_⟩
 rintro p3 l3 c3 n4 w5 ⟨i, rows, rfl, hi, rfl, x5, hd0, own, hrow⟩
 intros
 have h5 := QM.ext h x5
 obtain ⟨pD, cD, pB, cB, hr5⟩ := QM.row h5
 refine ⟨_, _, _, hr5.c rfl, Q0 (fun hlt => ?_) (fun hge => ?_)⟩
 ·simp only [Za] at hlt
  rw [QY] at hlt
  obtain ⟨m, hm⟩ : ∃ m, s.M[l3]? = some m := ⟨s.M[l3]'(by omega), Zc _⟩
  cases hdn : s.down with
  | true =>
   refine (Qd8 h5 (l3 : Int) addr).mono ?_
   rintro e w60 ⟨x60, p, l, c, rfl, _⟩
   have ea : Q48 s (l3 : Int) addr = (130, []) := by unfold Q48; rw [if_pos hdn]
   rw [ea]
   exact ⟨_, _, _, _, rfl, Q0 (fun _ => ⟨x5.trans x60, fun _ => rfl, fun h => by cases h⟩) fun h => by simp at h⟩
  | false =>
   refine (QT4 h5 hdn hm addr).mono ?_
   rintro e w60 ⟨x60, p62, l62, c62, rfl, hl62, own62⟩
   refine ⟨_, _, _, _, rfl, Q0 (fun h0 => ?_) fun _ => ?_⟩
   ·simp only [Za] at h0
    exact absurd h0 Qn7
   have hb62 := QJ own62
   have hlen62 := hb62.1
   refine (QO7 addr hb62 (by omega) (Qje own62)).mono ?_
   rintro e w64 ⟨x64, n, d, p', c', z, rfl, hbd, hblk, hdc, hz⟩
   have y64 := (x5.trans x60).trans x64
   have hty : ∀ g cs e fz, p' = some g -> w64.heap[g.block]? = some (.cells cs e fz) -> e = 5 := fun g cs e fz hg hh => by
    obtain ⟨g0, h0, hbl⟩ := hblk g hg
    rw [hbl] at hh
    exact QQb (own62.ext x64) g0 cs e fz h0 hh
   have hdl : d.length <= 4108 := by
    cases hu : Qi0 addr (Qx4 addr m) with
    | none => rw [hu] at hz; rw [hz.2.2]; simp
    | some nd =>
     obtain ⟨n', d'⟩ := nd
     rw [hu] at hz
     have := (Qs4 hu).2.2
     rw [hz.2.2]; omega
   have row64 := (hrow.ext (x60.trans x64))
   have own64 := own.ext (x60.trans x64)
   have htake : Qn addr (s.M.take (l3 + 1)) = Qn addr (s.M.take l3) ++ [Qf1 addr m] := by
    unfold Qn
    rw [Zn, hm, Zp]
    rfl
   have one : ∀ (b1 b2 : Bool), b1 = (Qf1 addr m).is -> b2 = (Qf1 addr m).none -> n = (Qf1 addr m).epoch -> d = (Qf1 addr m).data -> ∀ (k69 : Nat) (w70 : World), QU1 w64 k69 (.cells #[.bool b1, .bool b2, int i64 n, .slice p' d.length c'] 199) w70 →
     (∃ (p72 : σ) (l72 c72 : Nat), ∃ w71 : World, Sem.run prog (Builtin.append_ #[172, 172] 172 #[.slice p3 l3 c3, .slice (some (at0 k69)) 1 1]) w70 = .ok (.slice p72 l72 c72) w71 ∧
      ((∃ (i : Nat) (rows : List Value), i64.wrap ((l3 : Int) + 1) = i /\ i <= s.M.length /\ l72 = i /\ Ext w w71 /\ (i = 0 \/ false = false) /\ Qc w71 w.heap.size 199 4 p72 l72 c72 rows /\ Qo2 w71 rows (Qn addr (s.M.take i))) ∧
       100 - (i64.wrap ((l3 : Int) + 1)).toNat < 100 - (l3 : Int).toNat)) := by
    rintro b1 b2 e1 e2 e3 e4 k69 w70 hk69
    obtain ⟨p72, l72, c72, w71, hrun, hl72, own71, x71, u71⟩ := QTe y64 own64 hk69 (by intro v hv; simp only [List.mem_cons, List.mem_nil_iff, or_false] at hv; rcases hv with rfl | rfl | rfl | rfl <;> rfl) (by omega)
    refine ⟨p72, l72, c72, w71, hrun, ?_⟩
    rw [Go.Vc.w64 (n := (l3 : Int) + 1) (by omega)]
    refine ⟨⟨l3 + 1, _, by omega, by omega, hl72, x71, .inr rfl, own71, ?_⟩, by omega⟩
    have hr70 := (row64.ext hk69.ext).keep (own64.ext hk69.ext) (by decide) u71
    have hbd71 : Q3 w71 p' d.length d := (hbd.ext hk69.ext).upd u71 fun g hq hne hp => by
     rcases (own64.ext hk69.ext).where_ with ⟨h0, _⟩ | ⟨b, h0, _, _, _, cur, hc, _⟩
     ·rw [h0] at hp; cases hp
     ·rw [h0] at hp
      simp only [Zi, at0, Zv, and_true] at hp
      rw [hp] at hc
      obtain ⟨g', hg', hlt⟩ := hbd.lt hne
      rw [hq] at hg'
      cases hg'
      rw [hk69.ext.block _ hlt id] at hc
      exact absurd (hty g _ _ _ hq hc) (by decide)
    rw [htake, e1, e2, e3]
    rw [e4] at hbd71 ⊢
    refine hr70.snoc hbd71 (fun g cs e fz hq hne hh => ?_) (by rw [← e4]; exact ⟨hdl, hdc⟩)
    obtain ⟨g', hg', hlt⟩ := hbd.lt (by rw [e4]; exact hne)
    rw [hq] at hg'
    cases hg'
    have hno : ¬ (p3 = some (at0 g.block)) := fun hp => by
     rcases (own64.ext hk69.ext).where_ with ⟨h0, _⟩ | ⟨b, h0, _, _, _, cur, hc, _⟩
     ·rw [h0] at hp; cases hp
     ·rw [h0] at hp
      simp only [Zi, at0, Zv, and_true] at hp
      rw [hp, hk69.ext.block _ hlt id] at hc
      exact absurd (hty g _ _ _ hq hc) (by decide)
    rw [u71.block _ (Zo hlt hk69.ext.size) hno, hk69.ext.block _ hlt id] at hh
    exact hty g cs e fz hq hh
   refine ⟨_, _, _, _, _, rfl, ?_⟩
   cases hu : Qi0 addr (Qx4 addr m) with
   | some nd =>
    obtain ⟨n', d'⟩ := nd
    rw [hu] at hz
    obtain ⟨rfl, rfl, rfl⟩ := hz
    have hf0 : Qe m.d.dead m.d.sectors addr = 0 := by
     by_cases hf : Qe m.d.dead m.d.sectors addr = 0
     ·exact hf
     ·exfalso
      have : Qx4 addr m = [] := by unfold Qx4; rw [if_neg hf]
      rw [this] at hu
      unfold Qi0 at hu
      rw [if_neg (fun hk => by have := hk.1; simp at this)] at hu
      cases hu
    have hs : Qf1 addr m = ⟨n, d, true, false⟩ := by unfold Qf1; rw [hu]
    have hl0 : decide (((l62 : Nat) : Int) = (0 : Int)) = false := by
     rw [Zb]
     intro h0
     have : Qx4 addr m = [] := Zk (by omega)
     rw [this] at hu
     unfold Qi0 at hu
     rw [if_neg (fun hk => by have := hk.1; simp at this)] at hu
     cases hu
    refine Q0 (fun _ => Q0 (fun _ => ?_) fun h => ?_) fun h => ?_
    ·exact one (decide ((0 : Int) = (0 : Int))) (decide (((l62 : Nat) : Int) = (0 : Int))) (by rw [hs]; exact decide_eq_true rfl) (by rw [hs]; exact hl0) (by rw [hs]) (by rw [hs])
    ·simp [hf0] at h
    ·simp [hf0] at h
   | none =>
    rw [hu] at hz
    obtain ⟨rfl, rfl, rfl⟩ := hz
    have hs : Qf1 addr m = ⟨0, [], false, decide (Qe m.d.dead m.d.sectors addr = 0 /\ Qx4 addr m = [])⟩ := by unfold Qf1; rw [hu]
    refine Q0 (fun hf => ?_) fun hf => ?_
    ·simp only [Za] at hf
     refine Q0 (fun _ => ?_) fun h => by simp [hf] at h
     refine one (decide ((110 : Int) = (0 : Int))) (decide (((l62 : Nat) : Int) = (0 : Int))) (by rw [hs]; exact decide_eq_false (by omega)) ?_ (by rw [hs]) (by rw [hs])
     rw [hs]
     simp only [hf, true_and]
     refine decide_eq_decide.2 ⟨fun h0 => Zk (by omega), fun h0 => by rw [h0] at hlen62; simp at hlen62; omega⟩
    ·simp only [Zb] at hf
     refine Q0 (fun h => absurd (by simpa using h) hf) fun _ => ?_
     refine one false false (by rw [hs]) ?_ (by rw [hs]) (by rw [hs])
     rw [hs]
     simp [hf]
 ·simp only [Zb] at hge
  rw [QY] at hge
  have hil : l3 = s.M.length := by omega
  refine ⟨x5, fun hd => ?_, fun _ => ⟨p3, l3, c3, rows, rfl, hil, own, ?_⟩⟩
  ·rcases hd0 with h0 | h0
   ·omega
   ·rw [h0] at hd; cases hd
  ·rw [Zh (by omega)] at hrow
   exact hrow
open Go Go.Vc
open Go.IntKind (i64)
open Go.Value (int)
open Go.Proofs.Tryz (prog)
def TyQ (w : World) (q : σ) (bs : τ) : Prop := ∀ g cs e fz, q = some g -> bs ≠ [] -> w.heap[g.block]? = some (.cells cs e fz) -> e = 5
theorem TyQ.upd {S : Nat -> Prop} {w w' : World} {q : σ} {n : Nat} {bs : τ} (h : TyQ w q bs) (hb : Q3 w q n bs) (hu : Upd S w w') (hn : ∀ g, q = some g -> bs ≠ [] -> ¬ S g.block) : TyQ w' q bs := by
 intro g cs e fz hq hne hg
 subst hq
 obtain ⟨a, ha, hlt⟩ := hb.lt hne
 cases ha
 rw [hu.block _ hlt (hn _ rfl hne)] at hg
 exact h _ _ _ _ rfl hne hg
theorem TyQ.ext {w w' : World} {q : σ} {n : Nat} {bs : τ} (h : TyQ w q bs) (hb : Q3 w q n bs) (hx : Ext w w') : TyQ w' q bs := h.upd hb hx fun _ _ _ h => h
def QIc (w : World) (p : σ) (l : Nat) (L : List QG2) : Prop :=
 l = L.length /\ ∀ i s, L[i]? = some s -> ∃ a q n c, p = some a /\ w.cell? ((a.add (i * 4)).add 0) = some (.bool s.is) /\ w.cell? ((a.add (i * 4)).add 1) = some (.bool s.none) /\ w.cell? ((a.add (i * 4)).add 2) = some (int i64 s.epoch) ∧
  w.cell? ((a.add (i * 4)).add 3) = some (.slice q n c) /\ Q3 w q n s.data /\ n <= 4108 /\ n <= c /\ TyQ w q s.data
theorem QIc.ext {w w' : World} {p : σ} {l : Nat} {L : List QG2} (h : QIc w p l L) (hx : Ext w w') : QIc w' p l L := by
 refine ⟨h.1, fun i s hi => ?_⟩
 obtain ⟨a, q, n, c, h0, h1, h2, h3, h4, h5, h6⟩ := h.2 i s hi
 exact ⟨a, q, n, c, h0, hx.cell h1 id, hx.cell h2 id, hx.cell h3 id, hx.cell h4 id, h5.ext hx, h6.1, h6.2.1, h6.2.2.ext h5 hx⟩
theorem Qo2.at {w : World} {base : Nat} {p : σ} {l c : Nat} {rows : List Value} {L : List QG2} (h : Qo2 w rows L) (own : Qc w base 199 4 p l c rows) : QIc w p l L := by
 have hl := own.length
 refine ⟨by have := h.len; omega, fun i s hi => ?_⟩
 obtain ⟨q, n, c', h1, h2, h3, h4, h5, h6, h7⟩ := h.row i s hi
 obtain ⟨a, ha, c1⟩ := own.cells _ _ h1
 obtain ⟨a2, ha2, c2⟩ := own.cells _ _ h2
 obtain ⟨a3, ha3, c3⟩ := own.cells _ _ h3
 obtain ⟨a4, ha4, c4⟩ := own.cells _ _ h4
 rw [ha] at ha2 ha3 ha4
 cases ha2; cases ha3; cases ha4
 exact ⟨a, q, n, c', ha, by rw [Qt]; exact c1, by rw [Qt]; exact c2, by rw [Qt]; exact c3, by rw [Qt]; exact c4, h5, h7.1, h7.2, h6⟩
theorem QXb {w w' : World} (h : Qh1 w w') : Ext w w' := h.ext
theorem QH7 {w : World} {p : σ} {l c : Nat} {L : List QG2} (h : QIc w p l L) (hl : l <= 100) (n : Int) {q : σ} {m d : Nat} {bs : τ} (hb : Q3 w q m bs) :
  Calls prog 148 #[.slice p l c, int i64 n, .slice q m d] w fun e w' => e = .returned (int i64 (((Qe0 L).count (n, bs) : Nat) : Int)) /\ Ext w w' := by
 refine (F148_calls p l c n q m d w (fun v w' => v = int i64 (((Qe0 L).count (n, bs) : Nat) : Int) /\ Ext w w')
  (fun _ n4 n5 w6 => ∃ i : Nat, n5 = i /\ i <= l /\ Ext w w6 /\ n4 = (((Qe0 (L.take i)).count (n, bs) : Nat) : Int) /\ (Qe0 (L.take i)).count (n, bs) <= i) (fun _ _ n5 _ => 100 - n5.toNat) ?_).mono (by rintro e w' ⟨v, rfl, rfl, h⟩; exact ⟨rfl, h⟩)
 have hlen := h.1
 refine ⟨⟨0, rfl, Nat.zero_le _, Upd.refl _ _, by simp [Qe0], by simp [Qe0]⟩, ?_⟩
 rintro n4 n5 w6 ⟨i, rfl, hi, x6, rfl, hle⟩
 intros
 refine Q0 (fun hlt => ?_) (fun hge => ?_)
 ·simp only [Za] at hlt
  obtain ⟨s, hs⟩ : ∃ s, L[i]? = some s := ⟨L[i]'(by omega), Zc _⟩
  obtain ⟨a, q', n', c', rfl, h0, h1, h2, h3, h4, h5⟩ := (h.ext x6).2 i s hs
  rw [Ze]
  refine ⟨⟨by omega, hlt⟩, _, _, _, h3, (QB3 h4 (hb.ext x6) (by omega)).mono ?_⟩
  rintro e w42 ⟨rfl, q42⟩
  have x42 := QXb q42
  have y42 := x6.trans x42
  have hst := QE2 hs
  have mu : 100 - ((i : Int) + 1).toNat < 100 - i := by omega
  have keep : (Qe0 (L.take (i + 1))).count (n, bs) = (Qe0 (L.take i)).count (n, bs) →
    (∃ j : Nat, i64.wrap ((i : Int) + 1) = j /\ j <= l /\ Ext w w42 /\ (((Qe0 (L.take i)).count (n, bs) : Nat) : Int) = (((Qe0 (L.take j)).count (n, bs) : Nat) : Int) /\ (Qe0 (L.take j)).count (n, bs) <= j) /\ 100 - (i64.wrap ((i : Int) + 1)).toNat < 100 - i := fun he => by
   rw [w64 (n := (i : Int) + 1) (by omega)]
   exact ⟨⟨i + 1, by omega, by omega, y42, by rw [he], by rw [he]; omega⟩, mu⟩
  refine ⟨_, rfl, ⟨by omega, hlt⟩, _, x42.cell h0 id, Q0 (fun his => ⟨⟨by omega, hlt⟩, _, x42.cell h2 id, Q0 (fun he => Q0 (fun hd => ?_) fun hd => ?_) fun he => ?_⟩) fun his => ?_⟩
  ·simp only [Za] at he hd
   have hc : (Qe0 (L.take (i + 1))).count (n, bs) = (Qe0 (L.take i)).count (n, bs) + 1 := by
    rw [hst, if_pos his, List.count_append, he, hd]
    simp
   rw [w64 (n := (i : Int) + 1) (by omega), w64 (n := (((Qe0 (L.take i)).count (n, bs) : Nat) : Int) + 1) (by omega)]
   exact ⟨⟨i + 1, by omega, by omega, y42, by rw [hc]; omega, by rw [hc]; omega⟩, mu⟩
  ·simp only [Zb] at hd
   refine keep ?_
   rw [hst, if_pos his, List.count_append, List.count_eq_zero_of_not_mem (l := [(s.epoch, s.data)]) (fun hm => ?_)]
   ·rfl
   ·simp only [List.mem_singleton, Prod.mk.injEq] at hm
    exact hd hm.2.symm
  ·simp only [Zb] at he
   refine keep ?_
   rw [hst, if_pos his, List.count_append, List.count_eq_zero_of_not_mem (l := [(s.epoch, s.data)]) (fun hm => ?_)]
   ·rfl
   ·simp only [List.mem_singleton, Prod.mk.injEq] at hm
    exact he hm.1.symm
  ·refine keep ?_
   rw [hst, if_neg (by rw [his]; simp)]
 ·simp only [Zb] at hge
  rw [Zh (by omega)]
  exact ⟨rfl, x6⟩
def Qa9 (has : Bool) (ep : Int) (q : σ) (n c : Nat) (cnt : Int) (wt : Bool) : Array Value := #[.bool has, int i64 ep, .slice q n c, int i64 cnt, .bool wt]
def Qi2 (S all : List Say) (w : World) (has : Bool) (ep : Int) (q : σ) (n cc : Nat) (cnt : Int) : Prop :=
 (S = [] /\ has = false /\ ep = 0 /\ n = 0 /\ cnt = 0) \/ ∃ b : Say, has = true /\ b ∈ S /\ ep = b.1 /\ Q3 w q n b.2 /\ (n <= 4108 /\ n <= cc /\ TyQ w q b.2) /\ cnt = ((all.count b : Nat) : Int) /\ ∀ y ∈ S, ¬ bt y b (all.count y) (all.count b)
theorem Qi2.new {S all : List Say} {w : World} {has : Bool} {ep : Int} {q : σ} {n cc : Nat} {cnt : Int} (h : Qi2 S all w has ep q n cc cnt) {b : Say} {q' : σ} {n' c' : Nat} (hb : Q3 w q' n' b.2) (hn : n' <= 4108 /\ n' <= c' /\ TyQ w q' b.2)
  (ht : has = true -> ∀ b0 : Say, ep = b0.1 -> Q3 w q n b0.2 -> cnt = ((all.count b0 : Nat) : Int) -> bt b b0 (all.count b) (all.count b0)) : Qi2 (S ++ [b]) all w true b.1 q' n' c' ((all.count b : Nat) : Int) := by
 refine .inr ⟨b, rfl, by simp, rfl, hb, hn, rfl, fun y hy => ?_⟩
 rcases List.mem_append.1 hy with hy | hy
 ·rcases h with ⟨rfl, _⟩ | ⟨b0, h1, h2, h3, h4, _, h5, h6⟩
  ·cases hy
  ·intro hb'
   exact h6 y hy (Qg9 hb' (ht h1 b0 h3 h4 h5))
 ·simp only [List.mem_singleton] at hy
  subst hy
  exact QV4 _ _
theorem Qi2.keep {S all : List Say} {w : World} {has : Bool} {ep : Int} {q : σ} {n cc : Nat} {cnt : Int} (h : Qi2 S all w has ep q n cc cnt) {b : Say} (hh : has = true)
  (ht : ∀ b0 : Say, ep = b0.1 -> Q3 w q n b0.2 -> cnt = ((all.count b0 : Nat) : Int) -> ¬ bt b b0 (all.count b) (all.count b0)) : Qi2 (S ++ [b]) all w has ep q n cc cnt := by
 rcases h with ⟨_, h, _⟩ | ⟨b0, h1, h2, h3, h4, hn, h5, h6⟩
 ·rw [hh] at h; cases h
 ·refine .inr ⟨b0, h1, List.mem_append_left _ h2, h3, h4, hn, h5, fun y hy => ?_⟩
  rcases List.mem_append.1 hy with hy | hy
  ·exact h6 y hy
  ·simp only [List.mem_singleton] at hy
   subst hy
   exact ht b0 h3 h4 h5
theorem Qi2.best {S : List Say} {w : World} {has : Bool} {ep : Int} {q : σ} {n cc : Nat} {cnt : Int} (h : Qi2 S S w has ep q n cc cnt) : ∃ b c, QM4 S b c /\ has = decide (0 < c) /\ ep = b.1 /\ Q3 w q n b.2 /\ cnt = ((c : Nat) : Int) /\ (n <= 4108 /\ n <= cc /\ TyQ w q b.2) := by
 rcases h with ⟨h0, rfl, rfl, rfl, rfl⟩ | ⟨b, rfl, h2, rfl, h4, hn, rfl, h6⟩
 ·exact ⟨(0, []), 0, .inl ⟨h0, rfl, rfl⟩, rfl, rfl, Q3.nil _ _, rfl, by omega, by omega, fun _ _ _ _ _ h => (h rfl).elim⟩
 ·exact ⟨b, S.count b, .inr ⟨h2, rfl, h6⟩, (decide_eq_true (List.count_pos_iff.2 h2)).symm, rfl, h4, rfl, hn⟩
section
variable {w w6 w10 : World} {p : σ} {l c : Nat} {L : List QG2} {k3 k5 i : Nat} {s : QG2}
variable {R : φ} {I0 : σ -> σ -> World -> Int -> ψ} {M0 : σ -> σ -> World -> Int -> World -> Nat}
theorem QEe (h : QIc w p l L) (hk : w.heap.size <= k5) (hs : L[i]? = some s) (hi : i < l) {n139 : Int} {w142 : World} (hx : Ext w w142) {has : Bool} {ep : Int} {q : σ} {n cc : Nat} {cnt : Int} {wt : Bool} (hr : RowW w142 k5 (Qa9 has ep q n cc cnt wt))
  (hI : ∀ w' q' n' c', Ext w w' -> Upd (fun x => x = k5) w142 w' -> RowW w' k5 (Qa9 true s.epoch q' n' c' n139 wt) -> Q3 w q' n' s.data -> n' <= 4108 /\ n' <= c' /\ TyQ w q' s.data -> I0 (some (at0 k3)) (some (at0 k5)) w6 (i64.wrap ((i : Int) + 1)) w' /\ M0 (some (at0 k3)) (some (at0 k5)) w6 (i64.wrap ((i : Int) + 1)) w' < M0 (some (at0 k3)) (some (at0 k5)) w6 (i : Int) w10) :
  F117_A5 w142 k5 (i : Int) l p n139 k3 w6 w10 R I0 M0 := by
 obtain ⟨a, q', n', c', rfl, _, _, h2, h3, h4, h5⟩ := h.2 i s hs
 refine ⟨hr.live (n := 0) (by simp [Qa9]), fun w171 s171 => ?_⟩
 have r171 := s171.row hr
 have x171 := Q5 hx hk s171
 rw [Ze]
 refine ⟨⟨by omega, by omega⟩, _, x171.cell h2 id, r171.live (n := 1) (by simp [Qa9]), fun w174 s174 => ?_⟩
 have r174 := s174.row r171
 have x174 := Q5 x171 hk s174
 refine ⟨⟨by omega, by omega⟩, _, _, _, x174.cell h3 id, r174.live (n := 2) (by simp [Qa9]), fun w177 s177 => ?_⟩
 have r177 := s177.row r174
 have x177 := Q5 x174 hk s177
 refine ⟨r177.live (n := 3) (by simp [Qa9]), fun w178 s178 => ?_⟩
 have r178 := s178.row r177
 have x178 := Q5 x177 hk s178
 have bl : ∀ {a b : World} {j : Nat} {v : Value}, QT a ((at0 k5).add j) v b -> Upd (fun x => x = k5) a b := fun hs => by
  have := hs.upd
  rw [Qi] at this
  exact this
 exact hI w178 q' n' c' x178 ((((bl (j := 0) s171).trans (bl s174) fun _ _ h => h).trans (bl s177) fun _ _ h => h).trans (bl s178) fun _ _ h => h) r178 h4 h5
theorem QL5 {w : World} {q : σ} {n : Nat} {a b : τ} (h1 : Q3 w q n a) (h2 : Q3 w q n b) : a = b := by
 have e1 := h1.1
 have e2 := h2.1
 apply List.ext_getElem (by omega)
 intro i g1 g2
 obtain ⟨x, rfl, hc1⟩ := h1.get (i := i) (by omega)
 obtain ⟨y, hy, hc2⟩ := h2.get (i := i) (by omega)
 cases hy
 rw [hc1] at hc2
 simp only [Zi, Value.int.injEq, true_and] at hc2
 have hh : (a.getD i 0).toNat = (b.getD i 0).toNat := by omega
 have := UInt8.toNat_inj.1 hh
 simpa [Zj, Zc g1, Zc g2] using this
theorem Qw9 (a b : τ) : kLt (QF a) (QF b) ↔ a < b := by
 unfold kLt QF
 simp
theorem QDe (h : QIc w p l L) (hl : l <= 100) (hk : w.heap.size <= k5) (hs : L[i]? = some s) (hi : i < l) (his : s.is = true) {w132 : World} (hx : Ext w w132) {has : Bool} {ep : Int} {q : σ} {n cc : Nat} {cnt : Int} {wt : Bool} (hr : RowW w132 k5 (Qa9 has ep q n cc cnt wt))
  (hb : Qi2 (Qe0 (L.take i)) (Qe0 L) w has ep q n cc cnt)
  (hI : ∀ w' has' ep' q' n' c' cnt', Ext w w' -> Upd (fun x => x = k5) w132 w' -> RowW w' k5 (Qa9 has' ep' q' n' c' cnt' wt) -> Qi2 (Qe0 (L.take (i + 1))) (Qe0 L) w has' ep' q' n' c' cnt' -> I0 (some (at0 k3)) (some (at0 k5)) w6 (i64.wrap ((i : Int) + 1)) w' /\ M0 (some (at0 k3)) (some (at0 k5)) w6 (i64.wrap ((i : Int) + 1)) w' < M0 (some (at0 k3)) (some (at0 k5)) w6 (i : Int) w10) :
  F117_A2 (i : Int) l p w132 c k5 k3 w6 w10 R I0 M0 := by
 have hst : Qe0 (L.take (i + 1)) = Qe0 (L.take i) ++ [(s.epoch, s.data)] := by rw [QE2 hs, if_pos his]
 rw [hst] at hI
 obtain ⟨a, q', n', c', rfl, e0, _, e2, e3, e4, e5⟩ := h.2 i s hs
 have cell : ∀ {w' : World} {j : Nat} {v : Value}, Ext w w' -> w.cell? ((a.add (i * 4)).add j) = some v -> w'.cell? ((a.add (i * 4)).add j) = some v := fun hx hc => hx.cell hc id
 refine ⟨⟨by omega, by omega⟩, _, by rw [Ze]; exact cell hx e2, ⟨by omega, by omega⟩, _, _, _, by rw [Ze]; exact cell hx e3, (QH7 (h.ext hx) hl s.epoch (e4.ext hx)).mono ?_⟩
 rintro e w137 ⟨rfl, x137⟩
 have put : ∀ {w' : World}, Ext w132 w' -> (has = true -> ∀ b0 : Say, ep = b0.1 -> Q3 w q n b0.2 -> cnt = (((Qe0 L).count b0 : Nat) : Int) -> bt (s.epoch, s.data) b0 ((Qe0 L).count (s.epoch, s.data)) ((Qe0 L).count b0)) →
   F117_A5 w' k5 (i : Int) l (some a) (((Qe0 L).count (s.epoch, s.data) : Nat) : Int) k3 w6 w10 R I0 M0 := fun {w'} hx' ht =>
  QEe h hk hs hi (hx.trans hx') (hx'.rowW hr id) fun w'' q'' n'' c'' x'' u'' r'' hb'' hn'' => hI w'' true _ _ _ _ _ x'' (Upd.trans (hx'.mono fun _ _ h => h.elim) u'' fun _ _ h => h) r'' (hb.new (b := (s.epoch, s.data)) hb'' hn'' ht)
 have keep : ∀ {w' : World}, Ext w132 w' -> has = true -> (∀ b0 : Say, ep = b0.1 -> Q3 w q n b0.2 -> cnt = (((Qe0 L).count b0 : Nat) : Int) -> ¬ bt (s.epoch, s.data) b0 ((Qe0 L).count (s.epoch, s.data)) ((Qe0 L).count b0)) →
   (I0 (some (at0 k3)) (some (at0 k5)) w6 (i64.wrap ((i : Int) + 1)) w' /\ M0 (some (at0 k3)) (some (at0 k5)) w6 (i64.wrap ((i : Int) + 1)) w' < M0 (some (at0 k3)) (some (at0 k5)) w6 (i : Int) w10) := fun {w'} hx' hh ht =>
  hI w' _ _ _ _ _ _ (hx.trans hx') (hx'.mono fun _ _ h => h.elim) (hx'.rowW hr id) (hb.keep hh ht)
 refine ⟨_, rfl, fun w140 d140 => ?_⟩
 have x140 := x137.trans d140.ext
 have r140 := x140.rowW hr id
 have same : ∀ {w' : World}, Ext w132 w' -> has = true -> s.epoch = ep -> F117_A3 w' k5 (((Qe0 L).count (s.epoch, s.data) : Nat) : Int) (i : Int) l (some a) k3 w6 w10 R I0 M0 := by
  intro w' hx' hh hep w147 d147
  have x147 := hx'.trans d147.ext
  have r147 := x147.rowW hr id
  have he : ∀ b0 : Say, ep = b0.1 -> (s.epoch, s.data).1 = b0.1 := fun b0 h0 => by rw [← h0]; exact hep
  refine ⟨_, r147.row.cell (n := 3) rfl, Q0 (fun hlt => put x147 fun _ b0 h0 h1 h2 => ?_) fun hge => ⟨_, r147.row.cell (n := 3) rfl, Q0 (fun heq => ⟨⟨by omega, by omega⟩, _, _, _, by rw [Ze]; exact cell (hx.trans x147) e3, QF s.data, QG5 (e4.ext (hx.trans x147)), _, _, _, r147.row.cell (n := 2) rfl, ?_⟩) fun hne => keep x147 hh fun b0 h0 h1 h2 hbt => ?_⟩⟩
  ·simp only [Za] at hlt
   unfold bt
   rw [if_pos (he b0 h0)]
   exact .inl (by omega)
  ·simp only [Za] at heq
   obtain ⟨b1, hb1, hd1⟩ : ∃ b1 : Say, ep = b1.1 /\ Q3 w q n b1.2 := by
    rcases hb with ⟨_, h, _⟩ | ⟨b1, _, _, h3, h4, _⟩
    ·rw [hh] at h; cases h
    ·exact ⟨b1, h3, h4⟩
   refine ⟨QF b1.2, QG5 (hd1.ext (hx.trans x147)), Q0 (fun hlt => put x147 fun _ b0 h0 h1 h2 => ?_) fun hge => keep x147 hh fun b0 h0 h1 h2 hbt => ?_⟩
   ·rw [QU4] at hlt
    simp only [Za, Qw9] at hlt
    unfold bt
    rw [if_pos (he b0 h0)]
    rw [QL5 hd1 h1] at hlt
    exact .inr ⟨by omega, hlt⟩
   ·rw [QU4] at hge
    simp only [Zb, Qw9] at hge
    unfold bt at hbt
    rw [if_pos (he b0 h0)] at hbt
    rw [QL5 hd1 h1] at hge
    rcases hbt with h | ⟨_, h⟩
    ·omega
    ·exact hge h
  ·simp only [Zb] at hge hne
   unfold bt at hbt
   rw [if_pos (he b0 h0)] at hbt
   rcases hbt with h | ⟨h, _⟩ <;> omega
 refine ⟨_, r140.row.cell (n := 0) rfl, Q0 (fun hno => fun w142 d142 => ?_) fun hyes => ⟨⟨by omega, by omega⟩, _, by rw [Ze]; exact cell (hx.trans x140) e2, _, r140.row.cell (n := 1) rfl, fun w190 d190 => ?_⟩⟩
 ·have hh : has = false := by simpa using hno
  have x142 := x140.trans d142.ext
  have r142 := x142.rowW hr id
  exact ⟨_, r142.row.cell (n := 0) rfl, Q0 (fun h => by rw [hh] at h; cases h) fun _ => put x142 fun h => by rw [hh] at h; cases h⟩
 ·have hh : has = true := by simpa using hyes
  have x190 := x140.trans d190.ext
  have r190 := x190.rowW hr id
  refine ⟨_, r190.row.cell (n := 0) rfl, Q0 (fun _ => ⟨⟨by omega, by omega⟩, _, by rw [Ze]; exact cell (hx.trans x190) e2, _, r190.row.cell (n := 1) rfl, Q0 (fun he => same x190 hh (by simpa using he)) fun hne => ?_⟩) fun h => by rw [hh] at h; cases h⟩
  simp only [Zb] at hne
  refine Q0 (fun hlt => put x190 fun _ b0 h0 _ _ => ?_) fun hge => keep x190 hh fun b0 h0 _ _ hbt => ?_
  ·simp only [Za] at hlt
   unfold bt
   rw [if_neg (by simp only; omega)]
   simp only; omega
  ·simp only [Zb] at hge
   unfold bt at hbt
   rw [if_neg (by simp only; omega)] at hbt
   simp only at hbt; omega
end
open Go Go.Vc
open Go.IntKind (i64)
open Go.Value (int)
open Go.Proofs.Tryz (prog)
theorem Q9e {w0 w : World} {k : Nat} {c0 c1 c2 c3 c4 v0 v1 v2 v3 v4 : Value} (h0 : Ext w0 w) (hk : w0.heap.size <= k) (hr : RowW w k #[c0, c1, c2, c3, c4]) {T : ψ} (h : ∀ w5, Ext w0 w5 -> Upd (fun x => x = k) w w5 -> RowW w5 k #[v0, v1, v2, v3, v4] -> T w5) :
  QL1 w (at0 k) /\ ∀ w1 : World, QT w (at0 k) v0 w1 -> (QL1 w1 ((at0 k).add 1) /\ ∀ w2 : World, QT w1 ((at0 k).add 1) v1 w2 -> (QL1 w2 ((at0 k).add 2) /\ ∀ w3 : World, QT w2 ((at0 k).add 2) v2 w3 -> (QL1 w3 ((at0 k).add 3) /\ ∀ w4 : World, QT w3 ((at0 k).add 3) v3 w4 →
   (QL1 w4 ((at0 k).add 4) /\ ∀ w5 : World, QT w4 ((at0 k).add 4) v4 w5 -> T w5)))) := by
 have bl : ∀ {a b : World} {j : Nat} {v : Value}, QT a ((at0 k).add j) v b -> Upd (fun x => x = k) a b := fun hs => by
  have := hs.upd
  rw [Qi] at this
  exact this
 refine ⟨hr.live (n := 0) (by simp), fun w1 s1 => ?_⟩
 have s1' : QT w ((at0 k).add 0) v0 w1 := s1
 have r1 := s1'.row hr
 refine ⟨r1.live (by simp), fun w2 s2 => ?_⟩
 have r2 := s2.row r1
 refine ⟨r2.live (by simp), fun w3 s3 => ?_⟩
 have r3 := s3.row r2
 refine ⟨r3.live (by simp), fun w4 s4 => ?_⟩
 have r4 := s4.row r3
 refine ⟨r4.live (by simp), fun w5 s5 => ?_⟩
 have r5 := s5.row r4
 exact h w5 (Q5 (Q5 (Q5 (Q5 (Q5 h0 hk s1') hk s2) hk s3) hk s4) hk s5)
  (((((bl s1').trans (bl s2) fun _ _ h => h).trans (bl s3) fun _ _ h => h).trans (bl s4) fun _ _ h => h).trans (bl s5) fun _ _ h => h) r5
structure QJc (w' : World) (L : List QG2) (ks : List Bool) (v : Value) (b : Say) (c : Nat) (q : σ) (n cc : Nat) : Prop where
 best : QM4 (Qe0 L) b c
 val : v = .agg #[.bool (decide (0 < c)), int i64 b.1, .slice q n cc, int i64 ((c : Nat) : Int), .bool (wit ks L)]
 bytes : Q3 w' q n b.2
 len : n <= 4108
 cap : n <= cc
 ty : TyQ w' q b.2
def Qxc (w : World) (L : List QG2) (ks : List Bool) (l : Nat) : σ -> σ -> World -> Int -> ψ := fun q3 q5 _ n9 w10 =>
 ∃ (k3 k5 i : Nat) (has : Bool) (ep : Int) (q : σ) (n cc : Nat) (cnt : Int), q3 = some (at0 k3) /\ q5 = some (at0 k5) /\ n9 = i /\ i <= l /\ w.heap.size <= k3 /\ w.heap.size <= k5 /\ k3 ≠ k5 /\ Ext w w10 ∧
   RowW w10 k3 (Qa9 false 0 none 0 0 0 false) /\ RowW w10 k5 (Qa9 has ep q n cc cnt (wit ks (L.take i))) /\ Qi2 (Qe0 (L.take i)) (Qe0 L) w has ep q n cc cnt
def QOa : σ -> σ -> World -> Int -> World -> Nat := fun _ _ _ n9 _ => 100 - n9.toNat
def Qwd (w : World) (L : List QG2) (ks : List Bool) : φ := fun v w' => Ext w w' /\ ∃ b cn q n cc, QJc w' L ks v b cn q n cc
theorem Qzc {w w6 w10 w' : World} {p : σ} {l c : Nat} {L : List QG2} {ks : List Bool} {k3 k5 i : Nat} {s : QG2} (h : QIc w p l L) (hl : l <= 100) (hb3 : w.heap.size <= k3) (hb5 : w.heap.size <= k5) (hne : k3 ≠ k5) (hs : L[i]? = some s) (hi : i < l) (x' : Ext w w')
  {has : Bool} {ep : Int} {q : σ} {n cc : Nat} {cnt : Int} (r3 : RowW w' k3 (Qa9 false 0 none 0 0 0 false)) (r5 : RowW w' k5 (Qa9 has ep q n cc cnt (wit ks (L.take (i + 1))))) (hbest : Qi2 (Qe0 (L.take i)) (Qe0 L) w has ep q n cc cnt) :
  (0 <= (i : Int) /\ (i : Int) < ((l : Nat) : Int)) /\ (Qv p fun a130 => (∃ (b131 : Bool), w'.cell? ((a130.add ((i : Int).toNat * 4)).add 0) = some (.bool b131) /\ (Q2 (!b131)
   (Qxc w L ks l (some (at0 k3)) (some (at0 k5)) w6 (i64.wrap ((i : Int) + (1 : Int))) w' /\ QOa (some (at0 k3)) (some (at0 k5)) w6 (i64.wrap ((i : Int) + (1 : Int))) w' < QOa (some (at0 k3)) (some (at0 k5)) w6 (i : Int) w10)
   (∀ w132 : World, QHc w' w132 -> F117_A2 (i : Int) l p w132 c k5 k3 w6 w10 (Qwd w L ks) (Qxc w L ks l) QOa)))) := by
 have hlen := h.1
 obtain ⟨a, q', n', c', rfl, e0, e1, _⟩ := h.2 i s hs
 have hwr : i64.wrap ((i : Int) + 1) = ((i + 1 : Nat) : Int) := by rw [w64 (by omega)]; omega
 have mu : 100 - (((i + 1 : Nat) : Int)).toNat < 100 - ((i : Int)).toNat := by omega
 have hst := QE2 hs
 have cell : ∀ {w' : World} {j : Nat} {v : Value}, Ext w w' -> w.cell? ((a.add (i * 4)).add j) = some v -> w'.cell? ((a.add (i * 4)).add j) = some v := fun hx hc => hx.cell hc id
 refine ⟨⟨by omega, by omega⟩, _, by rw [Ze]; exact cell x' e0, Q0 (fun hno => ?_) fun his => fun w132 d132 => ?_⟩
 ·rw [hwr]
  refine ⟨⟨k3, k5, i + 1, has, ep, q, n, cc, cnt, rfl, rfl, rfl, by omega, hb3, hb5, hne, x', r3, r5, ?_⟩, mu⟩
  rw [hst, if_neg (by simpa using hno)]
  exact hbest
 ·have x132 := x'.trans d132.ext
  refine QDe (h := h) hl hb5 hs hi (by simpa using his) x132 (d132.ext.rowW r5 id) hbest fun w'' has' ep' q' n' c' cnt' x'' u'' r'' hb'' => ?_
  rw [hwr]
  exact ⟨⟨k3, k5, i + 1, has', ep', q', n', c', cnt', rfl, rfl, rfl, by omega, hb3, hb5, hne, x'', u''.rowW (d132.ext.rowW r3 id) hne, r'', hb''⟩, mu⟩
theorem QIa {w : World} {p : σ} {l c : Nat} {L : List QG2} (h : QIc w p l L) (hl : l <= 100) {p2 : σ} {l2 c2 : Nat} {ks : List Bool} (hks : QA w p2 l2 ks) :
  Calls prog 117 #[.slice p l c, .slice p2 l2 c2] w fun e w' => Ext w w' /\ ∃ v b cn q n cc, e = .returned v /\ QJc w' L ks v b cn q n cc := by
 refine (F117_calls p l c p2 l2 c2 w (Qwd w L ks) (Qxc w L ks l) QOa ?_).mono (by
   rintro e w' ⟨v, rfl, hx, b, cn, q, n, cc, h⟩; exact ⟨hx, v, b, cn, q, n, cc, rfl, h⟩)
 have hlen := h.1
 have hklen := hks.1
 intro k3 w4 hk3 k5 w6 hk5
 have z3 := hk3.size
 have z5 := hk5.size
 have x6 := hk3.ext.trans hk5.ext
 refine ⟨⟨k3, k5, 0, false, 0, none, 0, 0, 0, rfl, rfl, rfl, Nat.zero_le _, by omega, by omega, by omega, x6, hk5.ext.rowW ⟨_, hk3.at⟩ id, by (rw [show wit ks (L.take 0) = false by simp [wit]]; exact ⟨_, hk5.at⟩), .inl ⟨by simp [Qe0], rfl, rfl, rfl, rfl⟩⟩, ?_⟩
 rintro n9 w10 ⟨k3', k5', i, has, ep, q, n, cc, cnt, e3, e5, rfl, hi, hb3, hb5, hne, x10, r3, r5, hbest⟩
 simp only [Zi, at0, Zv, and_true] at e3 e5
 subst e3
 subst e5
 intros
 refine Q0 (fun hlt => ?_) (fun hge => ?_)
 ·simp only [Za] at hlt
  obtain ⟨s, hs⟩ : ∃ s, L[i]? = some s := ⟨L[i]'(by omega), Zc _⟩
  have hwit := QL4 (ks := ks) hs
  obtain ⟨a, q', n', c', hp, e0, e1, _⟩ := h.2 i s hs
  have stay : QR9 (ks.getD i false, s) = false -> F117_A1 (i : Int) l p w10 k3 k5 w6 c (Qwd w L ks) (Qxc w L ks l) QOa := fun hw => by
   have r5' : RowW w10 k5 (Qa9 has ep q n cc cnt (wit ks (L.take (i + 1)))) := by rw [hwit, hw, Bool.or_false]; exact r5
   exact Qzc h hl hb3 hb5 hne hs (by omega) x10 r3 r5' hbest
  have seen : QR9 (ks.getD i false, s) = true -> F117_A0 w10 k5 (i : Int) l p k3 w6 c (Qwd w L ks) (Qxc w L ks l) QOa := fun hw => by
   refine ⟨r5.live (n := 4) (by simp [Qa9]), fun w129 s129 => ?_⟩
   have u129 : Upd (fun x => x = k5) w10 w129 := by
    have := s129.upd
    rw [Qi] at this
    exact this
   have r5' : RowW w129 k5 (Qa9 has ep q n cc cnt (wit ks (L.take (i + 1)))) := by rw [hwit, hw, Bool.or_true]; exact s129.row r5
   exact Qzc h hl hb3 hb5 hne hs (by omega) (Q5 x10 hb5 s129) (u129.rowW r3 hne) r5' hbest
  refine Q0 (fun hk => ?_) fun hk => stay ?_
  ·simp only [Za] at hk
   obtain ⟨ak, hpk, hck⟩ := (hks.ext x10).get (i := i) (by omega)
   subst hpk
   subst hp
   rw [show ((i : Int)).toNat = i from Ze i]
   refine ⟨⟨by omega, hk⟩, _, hck, Q0 (fun hb => ⟨⟨by omega, hlt⟩, _, x10.cell e0 id, Q0 (fun his => seen ?_) fun hnis => ⟨⟨by omega, hlt⟩, _, x10.cell e1 id, Q0 (fun hno => seen ?_) fun hno => stay ?_⟩⟩) fun hb => stay ?_⟩
   ·unfold QR9; rw [hb, his]; rfl
   ·unfold QR9; rw [hb, hno, Bool.or_true]; rfl
   ·unfold QR9; rw [hb, hnis, hno]; rfl
   ·unfold QR9; rw [hb]; rfl
  ·simp only [Zb] at hk
   have : ks.getD i false = false := by
    rw [Zj, Zr (by omega)]
    rfl
   unfold QR9
   rw [this]
   rfl
 ·simp only [Zb] at hge
  have hil : i = l := by omega
  have htk : L.take i = L := Zh (by omega)
  rw [htk] at r5 hbest
  refine ⟨_, r5.row.cell (n := 0) rfl, _, r5.c rfl, _, _, _, r5.c rfl, _, r5.c rfl, _, r5.c rfl, ?_⟩
  refine Q9e (v0 := .bool has) (v1 := int i64 ep) (v2 := .slice q n cc) (v3 := int i64 cnt) (v4 := .bool (wit ks L)) x10 hb3 r3 fun w667 x667 u667 r667 => ?_
  obtain ⟨b, cn, hB, rfl, rfl, hbb, rfl, hn⟩ := hbest.best
  exact ⟨_, r667.row.cell (n := 0) rfl, _, r667.c rfl, _, _, _, r667.c rfl, _, r667.c rfl, _, r667.c rfl, x667, b, cn, q, n, cc, hB, rfl, hbb.ext x667, hn.1, hn.2.1, hn.2.2.ext hbb x667⟩
open Go Go.Vc
open Go.IntKind (i64)
open Go.Value (int)
open Go.Proofs.Tryz (prog)
theorem QW4 {w : World} {q : σ} {m : Nat} {bs : τ} (hb : Q3 w q m bs) {k : Nat} {row : Array Value} (hr : RowW w k row) (hne : ∀ (j : Nat) (n : Int), row[j]? ≠ some (Value.int .u8 n)) (a : Addr) (ha : q = some a) (h0 : bs ≠ []) : a.block ≠ k := by
 intro hk
 have hl := hb.1
 have : 0 < m := by rw [hl]; exact List.length_pos_iff.2 h0
 obtain ⟨a', ha', hc⟩ := hb.get (i := 0) this
 rw [ha] at ha'
 cases ha'
 obtain ⟨e, he⟩ := hr
 have hbl : (a.add 0).block = k := by rw [Qr]; exact hk
 unfold World.cell? at hc
 rw [hbl, he] at hc
 dsimp only at hc
 split at hc
 ·cases hc
 ·exact hne _ _ hc
theorem Qq5 (h : Bool) (e : Int) (p : σ) (l c : Nat) (n : Int) (b : Bool) : ∀ (j : Nat) (x : Int), (#[.bool h, int i64 e, .slice p l c, int i64 n, .bool b] : Array Value)[j]? ≠ some (Value.int .u8 x)
 | 0, x => by simp
 | 1, x => by simp
 | 2, x => by simp
 | 3, x => by simp
 | 4, x => by simp
 | j + 5, x => by simp
theorem Ql5 {w : World} {r : Nat} {s : StA} {G : Nat -> Prop} (h : IsR w r s G) (hM : s.M.length <= 100) (h1 : 1 <= s.M.length) {p2 : σ} {l2 c2 : Nat} {ks : List Bool} (hks : QA w p2 l2 ks) (n : Int) :
  Calls prog 67 #[.pointer (some (at0 r)), .slice p2 l2 c2, int i64 n] w fun e w' => Ext w w' /\ (s.down = true -> e = .returned (.tuple #[Qyc false 0 none 0 0 0 false, int i64 130])) ∧
   (s.down = false -> ∃ v b cn q m cc, e = .returned (.tuple #[v, int i64 0]) /\ QJc w' (Qn n s.M) ks v b cn q m cc) := by
 refine (F67_calls (some (at0 r)) p2 l2 c2 n w (fun v w' => Ext w w' /\ (s.down = true -> v = .tuple #[Qyc false 0 none 0 0 0 false, int i64 130]) ∧
   (s.down = false -> ∃ v1 b cn q m cc, v = .tuple #[v1, int i64 0] /\ QJc w' (Qn n s.M) ks v1 b cn q m cc)) ?_).mono (by
  rintro e w' ⟨v, rfl, hx, h2, h3⟩
  exact ⟨hx, fun hd => by rw [h2 hd], fun hd => by obtain ⟨v1, b, cn, q, m, cc, rfl, h⟩ := h3 hd; exact ⟨v1, b, cn, q, m, cc, rfl, h⟩⟩)
 intro k4 w5 hk4
 have s4 : w.heap.size <= k4 := by rw [hk4.size.1]; exact Nat.le_refl _
 refine (QGa (QM.ext h hk4.ext) hM h1 n).mono ?_
 rintro e w6 ⟨x6, hd, hu⟩
 have y6 := hk4.ext.trans x6
 have r6 : RowW w6 k4 #[.bool false, int i64 0, .slice none 0 0, int i64 0, .bool false] := x6.rowW ⟨_, hk4.at⟩ id
 cases hdn : s.down with
 | true =>
  have := hd hdn
  subst this
  refine ⟨_, _, _, _, rfl, Q0 (fun _ => ?_) fun h => by cases h⟩
  refine Q9e (v0 := .bool false) (v1 := int i64 0) (v2 := .slice none 0 0) (v3 := int i64 0) (v4 := .bool false) y6 s4 r6 fun w14 x14 _ r14 => ?_
  exact ⟨_, r14.row.cell (n := 0) rfl, _, r14.c rfl, _, _, _, r14.c rfl, _, r14.c rfl, _, r14.c rfl, x14, fun _ => rfl, fun h => by cases h⟩
 | false =>
  obtain ⟨p, l, c, rows, rfl, hl, own, hrow⟩ := hu hdn
  refine ⟨_, _, _, _, rfl, Q0 (fun h => by cases h) fun _ => ?_⟩
  refine (QIa (hrow.at own) (by omega) (hks.ext y6)).mono ?_
  rintro e w20 ⟨x20, v, b, cn, q, m, cc, rfl, hB, rfl, hbb, hm, hmc, hty⟩
  refine ⟨_, _, _, _, _, _, _, rfl, ?_⟩
  refine Q9e (v0 := .bool (decide (0 < cn))) (v1 := int i64 b.1) (v2 := .slice q m cc) (v3 := int i64 ((cn : Nat) : Int)) (v4 := .bool (wit ks (Qn n s.M))) (y6.trans x20) s4 (x20.rowW r6 id) fun w31 x31 u31 r31 => ?_
  refine ⟨_, r31.row.cell (n := 0) rfl, _, r31.c rfl, _, _, _, r31.c rfl, _, r31.c rfl, _, r31.c rfl, x31, fun h => (by cases h), fun _ => ⟨_, b, cn, q, m, cc, rfl, hB, rfl, ?_, hm, hmc, hty.upd hbb u31 (QW4 hbb (x20.rowW r6 id) (Qq5 _ _ _ _ _ _ _))⟩⟩
  exact hbb.upd u31 (QW4 hbb (x20.rowW r6 id) (Qq5 _ _ _ _ _ _ _))
open Go Go.Vc
open Go.IntKind (i64)
open Go.Value (int)
open Go.Proofs.Tryz (prog)
theorem Q56 {to to' : Nat -> Bool} {n : Int} {b : τ} {s : StA} : ∀ i, (∀ j, j < i -> to j = to' j) -> QT0 to n b s i = QT0 to' n b s i
 | 0, _ => rfl
 | i + 1, h => by
  have ih := Q56 (n := n) (b := b) (s := s) i fun j hj => h j (by omega)
  simp only [QT0]
  rw [ih, h i (by omega)]
theorem Qwa {to to' : Nat -> Bool} {addr epoch : Int} {d : τ} {s : StA} (h : ∀ j, j < s.M.length -> to j = to' j) : Qf0 to addr epoch d s = Qf0 to' addr epoch d s := by
 unfold Qf0
 rw [Q56 _ h]
theorem QYd (s : StA) (i : Nat) (n : Int) (l : Nat) : QMc s (i : Int) n l = wrZ s i n l := by
 unfold QMc wrZ
 rw [if_pos (show (0 : Int) <= (i : Int) by omega), Ze]
 cases s.M[i]? <;> rfl
theorem QR8 {w : World} {r : Nat} {s : StA} {G : Nat -> Prop} (h : IsR w r s G) (ho : OkA s) (addr epoch : Int) {p : σ} {l c : Nat} {d : τ} (hd : Q3 w p l d) {kt l5 c5 : Nat} {ts : List Bool} (ht : QA w (some (at0 kt)) l5 ts) (hl5 : l5 = s.M.length) (hkt : ¬ G kt) (hktl : kt < w.heap.size) {to : Nat -> Bool} (hto : ∀ j, ts.getD j false = to j) :
  Calls prog 146 #[.pointer (some (at0 r)), int i64 addr, int i64 epoch, .slice p l c, .slice (some (at0 kt)) l5 c5] w fun e w' =>
   ∃ G', e = .returned (.tuple #[int i64 (Qf0 to addr epoch d s).2.1, int i64 (Qf0 to addr epoch d s).2.2]) /\ Qf G G' w w' /\ IsR w' r (Qf0 to addr epoch d s).1 G' := by
 refine (F146_calls (some (at0 r)) addr epoch p l c (some (at0 kt)) l5 c5 w (fun v w' => ∃ G', v = .tuple #[int i64 (Qf0 to addr epoch d s).2.1, int i64 (Qf0 to addr epoch d s).2.2] /\ Qf G G' w w' /\ IsR w' r (Qf0 to addr epoch d s).1 G')
  (fun ps ls _ w6 n13 n14 w15 => ∃ (i k : Nat) (G' : Nat -> Prop), ps = some (at0 k) /\ n14 = i /\ i <= s.M.length /\ (QT0 to addr (Qx addr epoch d) s i).2.2 = false /\ n13 = (QT0 to addr (Qx addr epoch d) s i).2.1 ∧
   (Qs0 addr /\ Qs0 epoch /\ d.length <= 4096) /\ Qf G G' w w15 /\ IsR w15 r (QT0 to addr (Qx addr epoch d) s i).1 G' /\ Q3 w15 ps ls (Qx addr epoch d) /\ k < w15.heap.size /\ ¬ G' k /\ QA w15 (some (at0 kt)) l5 ts /\ kt < w15.heap.size /\ ¬ G' kt)
  (fun _ _ _ _ _ n14 _ => 100 - n14.toNat) ?_).mono (by rintro e w' ⟨v, rfl, G', rfl, h⟩; exact ⟨G', rfl, h⟩)
 have hM : s.M.length <= 32 := ho.1
 refine (Qc6 addr epoch hd).mono ?_
 rintro e w6 ⟨x6, hp⟩
 by_cases hfit : Qs0 addr /\ Qs0 epoch /\ d.length <= 4096
 ·rw [if_pos hfit] at hp
  obtain ⟨p8, l8, c8, rfl, own⟩ := hp
  have hb8 := QJ own
  obtain ⟨k, hk8, hkge, hklt⟩ : ∃ k, p8 = some (at0 k) /\ w.heap.size <= k /\ k < w6.heap.size := by
   have hlen := hb8.1
   have hpl := QC1 addr epoch d
   rcases own.where_ with ⟨_, h0, _⟩ | ⟨g, h0, hge, _, _, cur, hc, _⟩
   ·omega
   ·exact ⟨g, h0, hge, Qk hc⟩
  subst hk8
  have hkG : ¬ G k := fun hF => by have := QM.lt h k hF; omega
  refine ⟨_, _, _, _, rfl, Q0 (fun h => by cases h) fun _ => ⟨⟨0, k, G, rfl, rfl, Nat.zero_le _, rfl, rfl, hfit, Qf.ext x6, QM.ext h x6, hb8, hklt, hkG, ht.ext x6, Zo hktl x6.size, hkt⟩, ?_⟩⟩
  rintro n13 n14 w15 ⟨i, k', G', e1, rfl, hi, hgo, rfl, _, hst, hR, hby, hk15, hkG', ht15, hkt15, hktG'⟩
  simp only [Zi, at0, Zv, and_true] at e1
  subst e1
  intros
  have hok := QN6 (to := to) (n := addr) (b := Qx addr epoch d) ho i
  obtain ⟨pD, cD, pB, cB, hr15⟩ := QM.row hR
  rw [QY, hok.2.1] at hr15
  refine ⟨_, _, _, hr15.c rfl, Q0 (fun hlt => ?_) (fun hge => ?_)⟩
  ·simp only [Za] at hlt
   have hwr : i64.wrap ((i : Int) + 1) = ((i + 1 : Nat) : Int) := by rw [w64 (by omega)]; omega
   rw [hwr]
   have mu : 100 - (((i + 1 : Nat) : Int)).toNat < 100 - ((i : Int)).toNat := by omega
   obtain ⟨ak, hpk, hck⟩ := ht15.get (i := i) (by omega)
   cases hpk
   refine ⟨⟨by omega, by omega⟩, _, by rw [Ze]; exact hck, Q0 (fun hto1 => ?_) (fun hto1 => ?_)⟩
   ·simp only [Zg] at hto1
    rw [hto i] at hto1
    have e1 : QT0 to addr (Qx addr epoch d) s (i + 1) = QT0 to addr (Qx addr epoch d) s i := by
     simp only [QT0, hgo, hto1]; rfl
    exact ⟨⟨i + 1, k, G', rfl, rfl, by omega, by rw [e1]; exact hgo, by rw [e1], hfit, hst, by rw [e1]; exact hR, hby, hk15, hkG', ht15, hkt15, hktG'⟩, mu⟩
   ·simp only [Zf] at hto1
    rw [hto i] at hto1
    refine (Qq6 hR hok.1 (i : Int) addr hby).mono ?_
    rw [QYd]
    rintro e w49 ⟨G'', rfl, hst49, hR49⟩
    have e1 : QT0 to addr (Qx addr epoch d) s (i + 1) = (QL (QT0 to addr (Qx addr epoch d) s i).1 i addr (Qx addr epoch d),
      if wrZ (QT0 to addr (Qx addr epoch d) s i).1 i addr (Qx addr epoch d).length = 0 then (QT0 to addr (Qx addr epoch d) s i).2.1 + 1 else (QT0 to addr (Qx addr epoch d) s i).2.1,
      decide (wrZ (QT0 to addr (Qx addr epoch d) s i).1 i addr (Qx addr epoch d).length = 130)) := by
     simp only [QT0, hgo, hto1]; rfl
    have hsT : Qf G G'' w w49 := hst.trans hst49
    have z49 := hst49.upd.size
    have hk2 : ¬ G'' k := hst49.apart hk15 hkG'
    have hk3 : ¬ G'' kt := hst49.apart hkt15 hktG'
    have hby49 := hby.upd hst49.upd fun a ha _ => by cases ha; exact hkG'
    have ht49 : QA w49 (some (at0 kt)) l5 ts := ⟨ht15.1, ht15.2.upd hst49.upd fun a ha _ => by cases ha; exact hktG'⟩
    refine ⟨_, rfl, Q0 (fun h130 => ?_) (fun h130 => ?_)⟩
    ·simp only [Za] at h130
     have hc : (QT0 to addr (Qx addr epoch d) s (i + 1)).2.2 = true := by rw [e1]; exact decide_eq_true h130
     have hall := QL2 hc (s.M.length - (i + 1))
     rw [show i + 1 + (s.M.length - (i + 1)) = s.M.length by omega] at hall
     have e2 : Qf0 to addr epoch d s = ((QT0 to addr (Qx addr epoch d) s (i + 1)).1, 0, 130) := by
      unfold Qf0
      rw [if_pos hfit, hall, if_pos hc]
     refine ⟨G'', by rw [e2, h130], hsT, ?_⟩
     rw [e2, e1]
     exact hR49
    ·simp only [Zb] at h130
     have hgo1 : (QT0 to addr (Qx addr epoch d) s (i + 1)).2.2 = false := by rw [e1]; exact decide_eq_false h130
     refine Q0 (fun h0 => ?_) (fun h0 => ?_)
     ·simp only [Za] at h0
      rw [w64 (n := (QT0 to addr (Qx addr epoch d) s i).2.1 + 1) (by have := hok.2.2; omega)]
      exact ⟨⟨i + 1, k, G'', rfl, rfl, by omega, hgo1, by rw [e1]; show _ = (if _ then _ else _); rw [if_pos h0], hfit, hsT, by rw [e1]; exact hR49, hby49, by omega, hk2, ht49, by omega, hk3⟩, mu⟩
     ·simp only [Zb] at h0
      exact ⟨⟨i + 1, k, G'', rfl, rfl, by omega, hgo1, by rw [e1]; show _ = (if _ then _ else _); rw [if_neg h0], hfit, hsT, by rw [e1]; exact hR49, hby49, by omega, hk2, ht49, by omega, hk3⟩, mu⟩
  ·simp only [Zb] at hge
   have hil : i = s.M.length := by omega
   subst hil
   have e2 : Qf0 to addr epoch d s = ((QT0 to addr (Qx addr epoch d) s s.M.length).1, (QT0 to addr (Qx addr epoch d) s s.M.length).2.1, 0) := by
    unfold Qf0
    rw [if_pos hfit, if_neg (by rw [hgo]; simp)]
   exact ⟨G', by rw [e2], hst, by rw [e2]; exact hR⟩
 ·rw [if_neg hfit] at hp
  subst hp
  have e2 : Qf0 to addr epoch d s = (s, 0, 1) := by unfold Qf0; rw [if_neg hfit]
  refine ⟨_, _, _, _, rfl, Q0 (fun _ => ?_) fun h => by cases h⟩
  exact ⟨G, by rw [e2], Qf.ext x6, by rw [e2]; exact QM.ext h x6⟩
theorem Qzf : QK prog 4 = [.bool false] := by kernel_rfl
theorem Qka (n : Nat) : QA2 prog 4 n = ((List.replicate n false).map Value.bool).toArray := by
 unfold QA2
 rw [Qzf]
 congr 1
 induction n with
 | zero => rfl
 | succ n ih =>
  rw [List.replicate_succ, List.flatten_cons, ih, List.replicate_succ]
  rfl
theorem Q8b {w : World} {k : Nat} {ts : List Bool} (h : RowW w k (ts.map Value.bool).toArray) {n : Nat} (hn : ts.length = n) : QA w (some (at0 k)) n ts := ⟨hn.symm, fun j u hj => ⟨_, rfl, h.row.cell (by simpa using hj)⟩⟩
theorem Q9b {w w' : World} {k i n : Nat} {ts : List Bool} {f : Nat -> Bool} {b : Bool} (hr : RowW w k (ts.map Value.bool).toArray) (hn : ts.length = n) (hi : i < n) (hf : ∀ j, j < i -> ts.getD j false = f j) (hs : QT w ((at0 k).add i) (.bool b) w') (hb : b = f i) :
  ∃ ts' : List Bool, ts'.length = n /\ (∀ j, j < i + 1 -> ts'.getD j false = f j) /\ RowW w' k (ts'.map Value.bool).toArray := by
 refine ⟨ts.set i b, by simp [hn], fun j hj => ?_, ?_⟩
 ·rw [Zj, List.getElem?_set]
  by_cases hij : i = j
  ·subst hij
   rw [if_pos rfl, if_pos (by omega)]
   exact hb
  ·rw [if_neg hij, ← Zj]
   exact hf j (by omega)
 ·have := hs.row hr
  have e : ((ts.map Value.bool).toArray).setIfInBounds i (.bool b) = ((ts.set i b).map Value.bool).toArray := by
   rw [List.setIfInBounds_toArray, List.map_set]
  rw [e] at this
  exact this
theorem QV6 {w : World} {r : Nat} {s : StA} {G : Nat -> Prop} (h : IsR w r s G) (ho : OkA s) (n m : Int) {p : σ} {l c : Nat} {d : τ} (hd : Q3 w p l d) :
  Calls prog 114 #[.pointer (some (at0 r)), int i64 n, int i64 m, .slice p l c] w fun e w' =>
   ∃ G', e = .returned (.tuple #[int i64 (Qf0 (fun _ => true) n m d s).2.1, int i64 (Qf0 (fun _ => true) n m d s).2.2]) /\ Qf G G' w w' /\ IsR w' r (Qf0 (fun _ => true) n m d s).1 G' := by
 refine (F114_calls (some (at0 r)) n m p l c w (fun v w' => ∃ G', v = .tuple #[int i64 (Qf0 (fun _ => true) n m d s).2.1, int i64 (Qf0 (fun _ => true) n m d s).2.2] /\ Qf G G' w w' /\ IsR w' r (Qf0 (fun _ => true) n m d s).1 G')
  (fun q7 l7 _ _ n12 w13 => ∃ (k i : Nat) (ts : List Bool), q7 = some (at0 k) /\ l7 = s.M.length /\ n12 = i /\ i <= s.M.length /\ Ext w w13 /\ w.heap.size <= k /\ ts.length = s.M.length /\ (∀ j, j < i -> ts.getD j false = true) /\ RowW w13 k (ts.map Value.bool).toArray)
  (fun _ _ _ _ n12 _ => 100 - n12.toNat) ?_).mono (by
  rintro e w' ⟨v, rfl, G', rfl, h⟩; exact ⟨G', rfl, h⟩)
 have hM : s.M.length <= 32 := ho.1
 obtain ⟨pD, cD, pB, cB, hr⟩ := QM.row h
 rw [QY] at hr
 refine ⟨_, _, _, hr.c rfl, ⟨by omega, by omega, by omega⟩, fun k7 w8 hk7 => ?_⟩
 rw [Qka, Ze] at hk7
 have s7 : w.heap.size <= k7 := by rw [hk7.size.1]; exact Nat.le_refl _
 refine ⟨⟨k7, 0, List.replicate s.M.length false, rfl, by omega, rfl, Nat.zero_le _, hk7.ext, s7, by simp, fun j hj => by omega, ⟨_, hk7.at⟩⟩, ?_⟩
 rintro n12 w13 ⟨k, i, ts, e1, hl7, rfl, hi, x13, _, hts, hpre, hrow⟩
 simp only [Zi, at0, Zv, and_true] at e1
 subst e1
 intros
 refine Q0 (fun hlt => ?_) (fun hge => ?_)
 ·simp only [Za] at hlt
  rw [Ze] at hlt
  have hwr : i64.wrap ((i : Int) + 1) = ((i + 1 : Nat) : Int) := by rw [w64 (by omega)]; omega
  rw [hwr, Ze, Nat.mul_one]
  refine ⟨⟨by omega, by omega⟩, hrow.live (by simp; omega), fun w23 s23 => ?_⟩
  obtain ⟨ts', h1, h2, h3⟩ := Q9b (f := fun _ => true) hrow hts (by omega) hpre s23 rfl
  exact ⟨⟨k7, i + 1, ts', rfl, by omega, rfl, by omega, Q5 x13 s7 s23, s7, h1, h2, h3⟩, by show 100 - (((i + 1 : Nat) : Int)).toNat < 100 - ((i : Int)).toNat; omega⟩
 ·simp only [Zb] at hge
  rw [Ze] at hge
  have hil : i = s.M.length := by omega
  subst hil
  rw [Ze]
  refine (QR8 (QM.ext h x13) ho n m (hd.ext x13) (Q8b hrow hts) rfl (fun hG => by have := QM.lt h _ hG; omega) hrow.lt (to := fun j => ts.getD j false) fun _ => rfl).mono ?_
  rw [Qwa (to' := fun _ => true) fun j hj => hpre j hj]
  rintro e w' ⟨G', rfl, hst, hR⟩
  exact ⟨_, _, rfl, G', rfl, (Qf.ext x13).trans hst, hR⟩
open Go Go.Vc
open Go.IntKind (i64)
open Go.Value (int)
open Go.Proofs.Tryz (prog)
end Go.Proofs.YtnfcfbljdibinaaGreat
