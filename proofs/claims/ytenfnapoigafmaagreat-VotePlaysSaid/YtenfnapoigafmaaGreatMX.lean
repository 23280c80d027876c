import Derived.Test.YtenfnapoigafmaaGreatMV
import Derived.Test.YtenfnapoigafmaaGreatMN
import Derived.Test.YtenfnapoigafmaaGreatMR
/- The document's sum of bytes is the program's. -/
namespace Go.Proofs.YtenfnapoigafmaaGreat
open Go Go.Vc

theorem band_nat (a b : Nat) (ha : a < 4294967296) (hb : b < 4294967296) : bitsV .and .u32 (a : Int) (b : Int) = ((a &&& b : Nat) : Int) := by
  show IntKind.u32.wrap (((BitVec.ofInt 32 (a : Int)) &&& (BitVec.ofInt 32 (b : Int))).toNat : Int) = _
  rw [BitVec.toNat_and, ofInt_u32 _ ha, ofInt_u32 _ hb, IntKind.wrap_u32']
  have : a &&& b ≤ a := Nat.and_le_left
  omega
theorem bxor_nat (a b : Nat) (ha : a < 4294967296) (hb : b < 4294967296) : bitsV .xor .u32 (a : Int) (b : Int) = ((a ^^^ b : Nat) : Int) ∧ a ^^^ b < 4294967296 := by
  have hx : a ^^^ b < 2 ^ 32 := Nat.xor_lt_two_pow (by omega) (by omega)
  refine ⟨?_, by omega⟩
  show IntKind.u32.wrap (((BitVec.ofInt 32 (a : Int)) ^^^ (BitVec.ofInt 32 (b : Int))).toNat : Int) = _
  rw [BitVec.toNat_xor, ofInt_u32 _ ha, ofInt_u32 _ hb, IntKind.wrap_u32']
  omega
def rbit (x : Int) : Int := if bitsV .and .u32 x (1 : Int) = (1 : Int) then bitsV .xor .u32 (x.fdiv (2 ^ (min (1 : Int).toNat IntKind.u32.bits))) (2197175160 : Int) else x.fdiv (2 ^ (min (1 : Int).toNat IntKind.u32.bits))
theorem half_nat (n : Nat) : (n : Int).fdiv (2 ^ (min (1 : Int).toNat IntKind.u32.bits)) = ((n / 2 : Nat) : Int) := by
  show (n : Int).fdiv (2 : Int) = _
  rw [Int.fdiv_eq_ediv_of_nonneg _ (by decide)]
  omega
theorem and_one (n : Nat) (h : n < 4294967296) : bitsV .and .u32 (n : Int) (1 : Int) = ((n % 2 : Nat) : Int) := by
  have := band_nat n 1 h (by omega)
  rw [Nat.and_one_is_mod] at this
  exact this
theorem rbit_crc {n : Nat} (h : n < 4294967296) : rbit n = crcBit n ∧ ∃ m : Nat, crcBit n = m ∧ m < 4294967296 := by
  have e1 := and_one n h
  have hP : (2197175160 : Int) = ((2197175160 : Nat) : Int) := rfl
  unfold rbit crcBit
  rw [e1, half_nat]
  rcases Nat.mod_two_eq_zero_or_one n with h0 | h0
  · rw [h0]
    have hw : IntKind.u32.wrap (0 - ((0 : Nat) : Int)) = ((0 : Nat) : Int) := by rw [IntKind.wrap_u32']; rfl
    have ha : bitsV .and .u32 (2197175160 : Int) ((0 : Nat) : Int) = ((0 : Nat) : Int) := by
      rw [hP, band_nat _ _ (by omega) (by omega), Nat.and_zero]
    have hx := bxor_nat (n / 2) 0 (by omega) (by omega)
    rw [hw, ha, hx.1, Nat.xor_zero, if_neg (by decide)]
    exact ⟨rfl, n / 2, rfl, by omega⟩
  · rw [h0]
    have hw : IntKind.u32.wrap (0 - ((1 : Nat) : Int)) = ((4294967295 : Nat) : Int) := by rw [IntKind.wrap_u32']; rfl
    have ha : bitsV .and .u32 (2197175160 : Int) ((4294967295 : Nat) : Int) = (2197175160 : Int) := by
      rw [hP, band_nat _ _ (by omega) (by omega)]
      decide
    have hx := bxor_nat (n / 2) 2197175160 (by omega) (by omega)
    rw [hw, ha, if_pos (show ((1 : Nat) : Int) = 1 from rfl)]
    exact ⟨rfl, _, hx.1, hx.2⟩
theorem crcBits_nat {n : Nat} (h : n < 4294967296) : ∀ k, ∃ m : Nat, crcBits k n = m ∧ m < 4294967296
  | 0 => ⟨n, rfl, h⟩
  | k + 1 => by
    obtain ⟨m, e, hm⟩ := crcBits_nat h k
    show ∃ m' : Nat, crcBit (crcBits k n) = m' ∧ _
    rw [e]
    exact (rbit_crc hm).2
theorem crcBit_half {t : Nat} (h : 2 * t < 4294967296) : crcBit ((2 * t : Nat) : Int) = (t : Int) := by
  rw [← (rbit_crc h).1]
  unfold rbit
  rw [and_one _ h, half_nat, show 2 * t % 2 = 0 by omega, show 2 * t / 2 = t by omega, if_neg (by decide)]
theorem crcBits_zero {m : Nat} (h : 256 * m < 4294967296) : crcBits 8 ((256 * m : Nat) : Int) = (m : Int) := by
  have s : ∀ k t : Nat, 2 * k * t < 4294967296 → crcBit ((2 * k * t : Nat) : Int) = ((k * t : Nat) : Int) := fun k t hk => by
    have := crcBit_half (t := k * t) (by rw [← Nat.mul_assoc]; exact hk)
    rw [← Nat.mul_assoc] at this
    exact this
  show crcBit (crcBit (crcBit (crcBit (crcBit (crcBit (crcBit (crcBit ((256 * m : Nat) : Int)))))))) = _
  rw [s 128 m (by omega), s 64 m (by omega), s 32 m (by omega), s 16 m (by omega), s 8 m (by omega), s 4 m (by omega), s 2 m (by omega), s 1 m (by omega), Nat.one_mul]
theorem crcByte_all (x : Int) (b : UInt8) : crcByte x b = crcBits 8 (bitsV .xor .u32 x (IntKind.u32.wrap (b.toNat : Int))) := by
  by_cases hz : bitsV .and .u32 (bitsV .xor .u32 x (IntKind.u32.wrap (b.toNat : Int))) (255 : Int) = 0
  · rw [crcByte_pos hz]
    have hr : 0 ≤ bitsV .xor .u32 x (IntKind.u32.wrap (b.toNat : Int)) ∧ bitsV .xor .u32 x (IntKind.u32.wrap (b.toNat : Int)) < 4294967296 := u32_range _
    generalize bitsV .xor .u32 x (IntKind.u32.wrap (b.toNat : Int)) = y at hz hr
    obtain ⟨n, rfl⟩ := Int.eq_ofNat_of_zero_le hr.1
    have hn : n < 4294967296 := by omega
    have h1 := band_nat n 255 hn (by omega)
    have h2 : n &&& 255 = n % 256 := Nat.and_two_pow_sub_one_eq_mod n 8
    rw [h2] at h1
    have h3 : ((n % 256 : Nat) : Int) = 0 := h1.symm.trans hz
    have h4 := crcBits_zero (m := n / 256) (by omega)
    rw [show 256 * (n / 256) = n by omega] at h4
    rw [h4]
    show (n : Int).fdiv (256 : Int) = _
    rw [Int.fdiv_eq_ediv_of_nonneg _ (by decide)]
    omega
  · exact crcByte_neg hz

theorem rcrc_step (x : Int) (b : UInt8) (w : World) : Calls Tryz.prog 105 #[.int .u32 x, .int .u8 (b.toNat : Int)] w fun e w' => e = .returned (.int .u32 (crcByte x b)) ∧ w' = w := by
  have hr : 0 ≤ bitsV .xor .u32 x (IntKind.u32.wrap (b.toNat : Int)) ∧ bitsV .xor .u32 x (IntKind.u32.wrap (b.toNat : Int)) < 4294967296 := u32_range _
  refine (F105_calls x (b.toNat : Int) w (fun v w' => v = .int .u32 (crcByte x b) ∧ w' = w)
    (fun _ n3 n4 w5 => 0 ≤ n4 ∧ n4 ≤ 8 ∧ w5 = w ∧ n3 = crcBits n4.toNat (bitsV .xor .u32 x (IntKind.u32.wrap (b.toNat : Int)))) (fun _ _ n4 _ => (8 - n4).toNat) ?_).mono (by rintro e w' ⟨v, rfl, rfl, h⟩; exact ⟨rfl, h⟩)
  rw [crcByte_all]
  generalize hy : bitsV .xor .u32 x (IntKind.u32.wrap (b.toNat : Int)) = y at hr
  obtain ⟨n, rfl⟩ := Int.eq_ofNat_of_zero_le hr.1
  unfold F105
  rw [hy]
  refine ⟨⟨by omega, by omega, rfl, rfl⟩, ?_⟩
  rintro n3 n4 w5 ⟨h0, h1, rfl, rfl⟩
  intros
  obtain ⟨m, e, hm⟩ := crcBits_nat (n := n) (by omega) n4.toNat
  have hs := (rbit_crc hm).1
  refine condB_of (fun hlt => ?_) (fun hge => ?_)
  · simp only [decide_eq_true_eq] at hlt
    rw [w64 (n := n4 + 1) (by omega)]
    have mu : (8 - (n4 + 1)).toNat < (8 - n4).toNat := by omega
    have nx : crcBits (n4 + 1).toNat (n : Int) = rbit (crcBits n4.toNat (n : Int)) := by
      rw [show (n4 + 1).toNat = n4.toNat + 1 by omega]
      show crcBit _ = _
      rw [e, hs]
    refine condB_of (fun hb => ⟨by omega, ⟨by omega, by omega, rfl, ?_⟩, mu⟩) (fun hb => ⟨by omega, ⟨by omega, by omega, rfl, ?_⟩, mu⟩)
    · simp only [decide_eq_true_eq] at hb
      rw [nx, rbit, if_pos hb]
    · simp only [decide_eq_false_iff_not] at hb
      rw [nx, rbit, if_neg hb]
  · simp only [decide_eq_false_iff_not] at hge
    rw [show n4.toNat = 8 by omega]
    exact ⟨rfl, rfl⟩

theorem rcrc_more (x : Int) {p : Option Addr} {l c : Nat} {w : World} {bs : List UInt8} (h : BytesAt w p l bs) (hm : l ≤ 4611686018427387904) :
    Calls Tryz.prog 100 #[.int .u32 x, .slice p l c] w fun e w' => e = .returned (.int .u32 (crcOn x bs)) ∧ w' = w := by
  have hl := h.1
  refine (F100_calls x p l c w (fun v w' => v = .int .u32 (crcOn x bs) ∧ w' = w)
    (fun _ n3 n4 w5 => 0 ≤ n4 ∧ n4 ≤ l ∧ w5 = w ∧ n3 = (bs.take n4.toNat).foldl crcByte (crcNot x)) (fun _ _ n4 _ => (l - n4).toNat) ?_).mono (by rintro e w' ⟨v, rfl, rfl, h⟩; exact ⟨rfl, h⟩)
  refine ⟨⟨by omega, by omega, rfl, rfl⟩, ?_⟩
  rintro n3 n4 w5 ⟨h0, h1, rfl, rfl⟩
  intros
  refine condB_of (fun ht => ?_) (fun ht => ?_)
  · simp only [decide_eq_true_eq] at ht
    obtain ⟨a, rfl, ha⟩ := h.get (i := n4.toNat) (by omega)
    refine ⟨⟨h0, ht⟩, _, by rw [Nat.mul_one]; exact ha, (rcrc_step _ _ w5).mono ?_⟩
    rintro e w' ⟨rfl, rfl⟩
    rw [w64 (n := n4 + 1) (by omega)]
    refine ⟨_, rfl, ⟨by omega, by omega, rfl, ?_⟩, by show ((l : Int) - (n4 + 1)).toNat < ((l : Int) - n4).toNat; omega⟩
    rw [show (n4 + 1).toNat = n4.toNat + 1 by omega, take_succ_fold _ _ _ (by omega)]
  · simp only [decide_eq_false_iff_not] at ht
    refine ⟨?_, rfl⟩
    rw [show n4.toNat = bs.length by omega, List.take_length]
    rfl
theorem rcrc_sum {p : Option Addr} {l c : Nat} {w : World} {bs : List UInt8} (h : BytesAt w p l bs) (hm : l ≤ 4611686018427387904) :
    Calls Tryz.prog 87 #[.slice p l c] w fun e w' => e = .returned (.int .u32 (crcM bs)) ∧ w' = w := by
  refine (F87_calls p l c w (fun v w' => v = .int .u32 (crcM bs) ∧ w' = w) ?_).mono (by rintro e w' ⟨v, rfl, rfl, h⟩; exact ⟨rfl, h⟩)
  refine (rcrc_more 0 h hm).mono ?_
  rintro e w' ⟨rfl, rfl⟩
  exact ⟨_, rfl, rfl, rfl⟩
end Go.Proofs.YtenfnapoigafmaaGreat

/- The document's sectors: numbers, packed, unpacked. -/
namespace Go.Proofs.YtenfnapoigafmaaGreat
open Go Go.Vc

theorem own_full {w w' : World} {k : Nat} {bs : List UInt8} (hk : NewB w k (.cells (encB bs).toArray 5) w') {n : Nat} (hn : n = bs.length) (hm : n ≤ 9000) : OwnS w' w.heap.size 5 1 (some (at0 k)) n n (encB bs) := by
  refine ⟨by rw [encB_length, Nat.mul_one, hn], .inr ⟨k, n, _, rfl, by rw [hk.size.1]; exact Nat.le_refl _, hk.at, Nat.le_refl _, by unfold maxLen; omega, ?_, ?_⟩⟩
  · rw [List.size_toArray, encB_length, Nat.mul_one, hn]
  · rw [Nat.mul_one, List.take_of_length_le (by rw [encB_length]; omega)]
theorem own_bytes8 {w : World} {base : Nat} {p : Option Addr} {n c : Nat} {bs : List UInt8} (h : OwnS w base 5 1 p n c (encB bs)) : BytesAt w p n bs := by
  have hl := h.length
  rw [encB_length, Nat.mul_one] at hl
  have := BytesAt.of_cells h.cells
  rw [← hl]
  exact this
theorem own_appB {w0 w : World} (hx : Ext w0 w) {p : Option Addr} {n c : Nat} {xs : List UInt8} (h : OwnS w w0.heap.size 5 1 p n c (encB xs)) {q : Option Addr} {m d : Nat} {ys : List UInt8} (hq : BytesAt w q m ys) (hb : n + m ≤ 90000) :
    ∃ (p' : Option Addr) (l' c' : Nat), ∃ w', Sem.run Tryz.prog (Builtin.append_ #[32, 32] 32 #[.slice p n c, .slice q m d]) w = .ok (.slice p' l' c') w' ∧ OwnS w' w0.heap.size 5 1 p' l' c' (encB (xs ++ ys)) ∧ l' = n + m ∧ Ext w0 w' ∧ Upd (fun b => p = some (at0 b)) w w' := by
  have hl := hq.1
  obtain ⟨p', c', w', hr, ho, hu, _⟩ := h.append elemB 32 (q := q) (m := m) (d := d) (news := encB ys) (by rw [encB_length]; omega) hq.cells (bytes_none hq) (encB_one ys) (by unfold maxLen; omega) (by omega) hx.size
  refine ⟨p', _, c', w', hr, ?_, rfl, ?_, hu⟩
  · have : encB (xs ++ ys) = encB xs ++ encB ys := by simp [encB]
    rw [this]; exact ho
  · refine Upd.trans hx hu fun x hx' hs => ?_
    rcases h.where_ with ⟨h0, _⟩ | ⟨g, h0, hge, _⟩
    · rw [h0] at hs; cases hs
    · rw [h0] at hs
      simp only [Option.some.injEq, at0, Addr.mk.injEq, and_true] at hs
      omega

theorem rnum_spec {p : Option Addr} {l c : Nat} {w : World} {bs : List UInt8} (h : BytesAt w p l bs) (h4 : 4 ≤ l) : Calls Tryz.prog 88 #[.slice p l c] w fun e w' => e = .returned (.int .u32 (numM (bs.take 4))) ∧ Ext w w' := by
  refine (F88_calls p l c w (fun v w' => v = .int .u32 (numM (bs.take 4)) ∧ Ext w w') ?_).mono (by rintro e w' ⟨v, rfl, rfl, h⟩; exact ⟨rfl, h⟩)
  intro w2 d2
  have hl := h.1
  have h2 := h.ext d2.ext
  obtain ⟨a, rfl, c0⟩ := h2.get (i := 0) (by omega)
  obtain ⟨a1, e1, c1⟩ := h2.get (i := 1) (by omega)
  cases e1
  obtain ⟨a2, e2, c2⟩ := h2.get (i := 2) (by omega)
  cases e2
  obtain ⟨a3, e3, c3⟩ := h2.get (i := 3) (by omega)
  cases e3
  refine ⟨⟨by omega, by omega⟩, _, c0, by omega, ⟨by omega, by omega⟩, _, c1, by omega, ⟨by omega, by omega⟩, _, c2, by omega, ⟨by omega, by omega⟩, _, c3, ?_, d2.ext⟩
  match bs, hl with
  | x0 :: x1 :: x2 :: x3 :: rest, _ =>
    have b0 := u8b x0; have b1 := u8b x1; have b2 := u8b x2; have b3 := u8b x3
    have t24 : (2 : Int) ^ (min (24 : Int).toNat IntKind.u32.bits) = 16777216 := rfl
    have t16 : (2 : Int) ^ (min (16 : Int).toNat IntKind.u32.bits) = 65536 := rfl
    have t8 : (2 : Int) ^ (min (8 : Int).toNat IntKind.u32.bits) = 256 := rfl
    show Value.int .u32 (IntKind.u32.wrap ((IntKind.u32.wrap ((IntKind.u32.wrap ((IntKind.u32.wrap ((IntKind.u32.wrap (x0.toNat : Int)) * 2 ^ (min (24 : Int).toNat IntKind.u32.bits))) + (IntKind.u32.wrap ((IntKind.u32.wrap (x1.toNat : Int)) * 2 ^ (min (16 : Int).toNat IntKind.u32.bits))))) + (IntKind.u32.wrap ((IntKind.u32.wrap (x2.toNat : Int)) * 2 ^ (min (8 : Int).toNat IntKind.u32.bits))))) + (IntKind.u32.wrap (x3.toNat : Int)))) = .int .u32 (numM [x0, x1, x2, x3])
    rw [num4, t24, t16, t8]
    simp only [IntKind.wrap_u32']
    congr 1
    omega
  | [], h => simp at h; omega
  | [_], h => simp at h; omega
  | [_, _], h => simp at h; omega
  | [_, _, _], h => simp at h; omega

theorem rfour_spec (x : Int) (h0 : 0 ≤ x) (w : World) : Calls Tryz.prog 86 #[.int .u32 x] w fun e w' => ∃ k, e = .returned (.slice (some (at0 k)) 4 4) ∧ Ext w w' ∧ OwnS w' w.heap.size 5 1 (some (at0 k)) 4 4 (encB (fourM x)) := by
  refine (F86_calls x w (fun v w' => ∃ k, v = .slice (some (at0 k)) 4 4 ∧ Ext w w' ∧ OwnS w' w.heap.size 5 1 (some (at0 k)) 4 4 (encB (fourM x))) ?_).mono (by rintro e w' ⟨v, rfl, k, rfl, h⟩; exact ⟨k, rfl, h⟩)
  refine ⟨by omega, by omega, by omega, fun k w3 hk => ⟨k, rfl, hk.ext, own_full ?_ rfl (by omega)⟩⟩
  have b0 := byte_of h0 16777216
  have b1 := byte_of h0 65536
  have b2 := byte_of h0 256
  have b3 := byte_of h0 1
  rw [Nat.div_one] at b3
  have b3' : IntKind.u8.wrap x = IntKind.u8.wrap (x.fdiv ((1 : Nat) : Int)) := by simp [Int.fdiv_one]
  have hk' : NewB w k (.cells #[.int .u8 (IntKind.u8.wrap (x.fdiv ((16777216 : Nat) : Int))), .int .u8 (IntKind.u8.wrap (x.fdiv ((65536 : Nat) : Int))), .int .u8 (IntKind.u8.wrap (x.fdiv ((256 : Nat) : Int))), .int .u8 (IntKind.u8.wrap x)] 5) w3 := hk
  rw [b0, b1, b2, b3', b3] at hk'
  exact hk'

set_option maxHeartbeats 1000000 in
theorem rpack_spec (addr epoch : Int) {p : Option Addr} {l c : Nat} {w : World} {d : List UInt8} (h : BytesAt w p l d) :
    Calls Tryz.prog 62 #[.int .i64 addr, .int .i64 epoch, .slice p l c] w fun e w' => Ext w w' ∧
      if fitsP addr ∧ fitsP epoch ∧ d.length ≤ 4096 then ∃ p' l' c', e = .returned (.tuple #[.slice p' l' c', .int .i64 0]) ∧ OwnS w' w.heap.size 5 1 p' l' c' (encB (packM addr epoch d))
      else e = .returned (.tuple #[.slice none 0 0, .int .i64 1]) := by
  refine (F62_calls addr epoch p l c w (fun v w' => Ext w w' ∧ if fitsP addr ∧ fitsP epoch ∧ d.length ≤ 4096 then ∃ p' l' c', v = .tuple #[.slice p' l' c', .int .i64 0] ∧ OwnS w' w.heap.size 5 1 p' l' c' (encB (packM addr epoch d))
      else v = .tuple #[.slice none 0 0, .int .i64 1]) ?_).mono (by
    rintro e w' ⟨v, rfl, hx, h⟩
    refine ⟨hx, ?_⟩
    by_cases hf : fitsP addr ∧ fitsP epoch ∧ d.length ≤ 4096
    · rw [if_pos hf] at h ⊢
      obtain ⟨p', l', c', rfl, h⟩ := h
      exact ⟨p', l', c', rfl, h⟩
    · rw [if_neg hf] at h ⊢
      rw [h])
  have hl := h.1
  have bad : ¬ (fitsP addr ∧ fitsP epoch ∧ d.length ≤ 4096) → (Ext w w ∧ if fitsP addr ∧ fitsP epoch ∧ d.length ≤ 4096 then ∃ p' l' c', (Value.tuple #[.slice none 0 0, .int .i64 1]) = .tuple #[.slice p' l' c', .int .i64 0] ∧ OwnS w w.heap.size 5 1 p' l' c' (encB (packM addr epoch d))
      else (Value.tuple #[.slice none 0 0, .int .i64 1]) = .tuple #[.slice none 0 0, .int .i64 1]) := fun hn => ⟨Upd.refl _ _, by rw [if_neg hn]⟩
  refine condB_of (fun h1 => bad fun hf => ?_) fun h1 => condB_of (fun h2 => bad fun hf => ?_) fun h2 => condB_of (fun h3 => bad fun hf => ?_) fun h3 => condB_of (fun h4 => bad fun hf => ?_) fun h4 => condB_of (fun h5 => bad fun hf => ?_) fun h5 => ?_
  · simp only [decide_eq_true_eq] at h1; have := hf.1.1; omega
  · simp only [decide_eq_true_eq] at h2; have := hf.1.2; omega
  · simp only [decide_eq_true_eq] at h3; have := hf.2.1.1; omega
  · simp only [decide_eq_true_eq] at h4; have := hf.2.1.2; omega
  · simp only [decide_eq_true_eq] at h5; have := hf.2.2; omega
  simp only [decide_eq_false_iff_not] at h1 h2 h3 h4 h5
  have hok : fitsP addr ∧ fitsP epoch ∧ d.length ≤ 4096 := ⟨⟨by omega, by omega⟩, ⟨by omega, by omega⟩, by omega⟩
  have ea : IntKind.u32.wrap addr = addr := by rw [IntKind.wrap_u32']; omega
  have ee : IntKind.u32.wrap epoch = epoch := by rw [IntKind.wrap_u32']; omega
  rw [ea, ee]
  refine (rfour_spec addr (by omega) w).mono ?_
  rintro e w4 ⟨k6, rfl, x4, own4⟩
  refine ⟨_, _, _, rfl, (rfour_spec epoch (by omega) w4).mono ?_⟩
  rintro e w7 ⟨k9, rfl, x7, own7⟩
  have y7 := x4.trans x7
  obtain ⟨p11, l11, c11, w10, r10, own10, hl11, x10, _⟩ := own_appB y7 (own4.ext x7) (d := 4) (own_bytes8 own7) (by omega)
  obtain ⟨p13, l13, c13, w12, r12, own12, hl13, x12, _⟩ := own_appB x10 own10 (d := c) (h.ext x10) (by omega)
  have eH : (fourM addr ++ fourM epoch) ++ d = packH addr epoch d := by rw [List.append_assoc]; rfl
  rw [eH] at own12
  refine ⟨_, _, _, rfl, _, _, _, _, r10, _, _, _, _, r12, (rcrc_sum (own_bytes8 own12) (by omega)).mono ?_⟩
  rintro e w14 ⟨rfl, rfl⟩
  refine ⟨_, rfl, (rfour_spec _ (crcM_range _).1 _).mono ?_⟩
  rintro e w17 ⟨k19, rfl, x17, own17⟩
  obtain ⟨p21, l21, c21, w20, r20, own20, hl21, x20, _⟩ := own_appB (x12.trans x17) (own12.ext x17) (d := 4) (own_bytes8 own17) (by omega)
  refine ⟨_, _, _, rfl, _, _, _, _, r20, x20, ?_⟩
  rw [if_pos hok]
  exact ⟨_, _, _, rfl, own20⟩

set_option maxHeartbeats 1000000 in
theorem runpack_spec (addr : Int) {p : Option Addr} {l c : Nat} {w : World} {bs : List UInt8} (h : BytesAt w p l bs) (hm : l ≤ 4611686018427387904) (hc : l ≤ c) :
    Calls Tryz.prog 63 #[.int .i64 addr, .slice p l c] w fun e w' => Ext w w' ∧ ∃ n d p' c' z, e = .returned (.tuple #[.int .i64 n, .slice p' d.length c', .int .i64 z]) ∧ BytesAt w' p' d.length d ∧ (∀ g, p' = some g → ∃ g0, p = some g0 ∧ g.block = g0.block) ∧ (match unpackM addr bs with
      | some (n', d') => z = 0 ∧ n = n' ∧ d = d'
      | none => z = 110 ∧ n = 0 ∧ d = []) := by
  refine (F63_calls addr p l c w (fun v w' => Ext w w' ∧ ∃ n d p' c' z, v = .tuple #[.int .i64 n, .slice p' d.length c', .int .i64 z] ∧ BytesAt w' p' d.length d ∧ (∀ g, p' = some g → ∃ g0, p = some g0 ∧ g.block = g0.block) ∧ (match unpackM addr bs with
      | some (n', d') => z = 0 ∧ n = n' ∧ d = d'
      | none => z = 110 ∧ n = 0 ∧ d = [])) ?_).mono (by rintro e w' ⟨v, rfl, hx, n, d, p', c', z, rfl, h⟩; exact ⟨hx, n, d, p', c', z, rfl, h⟩)
  have hl := h.1
  have bad : ∀ {w' : World}, Ext w w' → ¬ unpackOk addr bs → (Ext w w' ∧ ∃ n d p' c' z, (Value.tuple #[.int .i64 0, .slice none 0 0, .int .i64 110]) = .tuple #[.int .i64 n, .slice p' d.length c', .int .i64 z] ∧ BytesAt w' p' d.length d ∧ (∀ g, p' = some g → ∃ g0, p = some g0 ∧ g.block = g0.block) ∧ (match unpackM addr bs with
      | some (n', d') => z = 0 ∧ n = n' ∧ d = d'
      | none => z = 110 ∧ n = 0 ∧ d = [])) := fun hx hn => ⟨hx, 0, [], none, 0, 110, rfl, BytesAt.nil _ _, (fun g h => by cases h), by unfold unpackM; rw [if_neg hn]; exact ⟨rfl, rfl, rfl⟩⟩
  unfold F63
  rw [w64 (n := (l : Int) - 4) (by omega)]
  refine condB_of (fun h1 => bad (Upd.refl _ _) fun hf => ?_) fun h1 => condB_of (fun h2 => bad (Upd.refl _ _) fun hf => ?_) fun h2 => condB_of (fun h3 => bad (Upd.refl _ _) fun hf => ?_) fun h3 => condB_of (fun h4 => bad (Upd.refl _ _) fun hf => ?_) fun h4 => ?_
  · simp only [decide_eq_true_eq] at h1; have := hf.1; omega
  · simp only [decide_eq_true_eq] at h2; have := hf.2.1; omega
  · simp only [decide_eq_true_eq] at h3; have := hf.2.2.1.1; omega
  · simp only [decide_eq_true_eq] at h4; have := hf.2.2.1.2; omega
  simp only [decide_eq_false_iff_not] at h1 h2 h3 h4
  have hn : ((l : Int) - 4).toNat = l - 4 := by omega
  rw [hn]
  have c48 := cutB h (c := c) (a := 4) (b := 8) (by omega) (by omega) hc
  refine ⟨⟨by omega, by omega⟩, ⟨by omega, by decide⟩, (rnum_spec c48 (by omega)).mono ?_⟩
  rintro e w3 ⟨rfl, x3⟩
  refine ⟨_, rfl, fun w6 d6 => ⟨⟨by omega, by omega⟩, ⟨by omega, by omega⟩, ?_⟩⟩
  have y6 := x3.trans d6.ext
  have e1 : bs.take l = bs := by rw [hl]; exact List.take_length
  have cn := cutB (h.ext y6) (c := c) (a := l - 4) (b := l) (Nat.le_refl _) (by omega) hc
  rw [e1] at cn
  refine (rnum_spec cn (by omega)).mono ?_
  rintro e w7 ⟨rfl, x7⟩
  have y7 := y6.trans x7
  have cs := cutB (h.ext y7) (c := c) (a := 0) (b := l - 4) (by omega) (by omega) hc
  rw [List.drop_zero] at cs
  refine ⟨_, rfl, (rcrc_sum cs (by omega)).mono ?_⟩
  rintro e w10 ⟨rfl, rfl⟩
  have t1 : ((bs.take 8).drop 4).take 4 = (bs.take 8).drop 4 := List.take_of_length_le (by simp; omega)
  have t2 : (bs.drop (l - 4)).take 4 = bs.drop (l - 4) := List.take_of_length_le (by simp; omega)
  rw [t1, t2]
  refine ⟨_, rfl, condB_of (fun h5 => bad y7 fun hf => ?_) fun h5 => ⟨⟨by omega, by omega⟩, ?_⟩⟩
  · simp only [Bool.not_eq_true', decide_eq_false_iff_not] at h5
    have := hf.2.2.2.1
    rw [← hl] at this
    exact h5 this
  simp only [Bool.not_eq_false', decide_eq_true_eq] at h5
  have c04 := cutB (h.ext y7) (c := c) (a := 0) (b := 4) (by omega) (by omega) hc
  rw [List.drop_zero] at c04
  refine (rnum_spec c04 (by omega)).mono ?_
  rintro e w13 ⟨rfl, x13⟩
  have y13 := y7.trans x13
  have t3 : (bs.take 4).take 4 = bs.take 4 := List.take_of_length_le (by simp; omega)
  have ea : IntKind.u32.wrap addr = addr := by rw [IntKind.wrap_u32']; omega
  rw [t3, ea]
  refine ⟨_, rfl, condB_of (fun h6 => bad y13 fun hf => ?_) fun h6 => condB_of (fun h7 => bad y13 fun hf => ?_) fun h7 => fun w16 d16 => ⟨⟨by omega, by omega⟩, ⟨by omega, by omega⟩, y13.trans d16.ext, ?_⟩⟩
  · simp only [Bool.not_eq_true', decide_eq_false_iff_not] at h6
    exact h6 hf.2.2.2.2.1
  · simp only [decide_eq_true_eq] at h7; have := hf.2.2.2.2.2; omega
  simp only [Bool.not_eq_false', decide_eq_true_eq] at h6
  simp only [decide_eq_false_iff_not] at h7
  have hok : unpackOk addr bs := ⟨by omega, by omega, ⟨by omega, by omega⟩, by rw [← hl]; exact h5, h6, by omega⟩
  have c8 := cutB (h.ext (y13.trans d16.ext)) (c := c) (a := 8) (b := l - 4) (by omega) (by omega) hc
  have h4n := four_num (bs := (bs.take 8).drop 4) (by simp; omega)
  have hlen : ((bs.take (l - 4)).drop 8).length = l - 4 - 8 := by simp; omega
  refine ⟨numM ((bs.take 8).drop 4), (bs.take (l - 4)).drop 8, cutP p c 8 1, c - 8, 0, ?_, ?_, ?_, ?_⟩
  · rw [hlen, w64 (by omega)]; rfl
  · rw [hlen]; exact c8
  · intro g hg
    cases p with
    | none => unfold cutP addO at hg; split at hg <;> cases hg
    | some g0 =>
      refine ⟨g0, rfl, ?_⟩
      unfold cutP addO at hg
      split at hg <;> cases hg
      · rfl
      · rfl
  · unfold unpackM
    rw [if_pos hok, ← hl]
    exact ⟨rfl, rfl, rfl⟩
end Go.Proofs.YtenfnapoigafmaaGreat

/- The document's array is read: what it hands back is new. -/
namespace Go.Proofs.YtenfnapoigafmaaGreat
open Go Go.Vc

theorem rd_read_own {w : World} {b : Nat} {D : Dk} {F : Nat → Prop} (h : RDsk w b D F) (k : Int) :
    Calls Tryz.prog 69 #[.pointer (some (at0 b)), .int .i64 k] w fun e w' => Ext w w' ∧ ∃ p l c bs, e = .returned (.tuple #[.slice p l c, .int .i64 (faultZ D.dead D.sectors k)]) ∧
      bs = (if faultZ D.dead D.sectors k = 0 then readD D k else []) ∧ BytesAt w' p l bs ∧ l ≤ 4108 ∧ OwnS w' w.heap.size 5 1 p l c (encB bs) := by
  obtain ⟨⟨G, hd, rfl⟩, hk⟩ := h
  exact rread_own hd hk k
theorem ra_read_own {w : World} {r : Nat} {Ds : List Dk} {B : List Int} {left : Int} {F : Nat → Prop} (h : IsRA w r Ds B left false F) {i : Nat} {D : Dk} (hi : Ds[i]? = some D) (k : Int) : Calls Tryz.prog 44 #[.pointer (some (at0 r)), .int .i64 (i : Int), .int .i64 k] w fun e w' => Ext w w' ∧
    ∃ p l c bs, e = .returned (.tuple #[.slice p l c, .int .i64 (faultZ D.dead D.sectors k)]) ∧ bs = (if faultZ D.dead D.sectors k = 0 then readD D k else []) ∧ BytesAt w' p l bs ∧ l ≤ 4108 ∧ OwnS w' w.heap.size 5 1 p l c (encB bs) := by
  refine (F44_calls (some (at0 r)) (i : Int) k w (fun v w' => Ext w w' ∧ ∃ p l c bs, v = .tuple #[.slice p l c, .int .i64 (faultZ D.dead D.sectors k)] ∧ bs = (if faultZ D.dead D.sectors k = 0 then readD D k else []) ∧ BytesAt w' p l bs ∧ l ≤ 4108 ∧ OwnS w' w.heap.size 5 1 p l c (encB bs)) ?_).mono (by
    rintro e w' ⟨v, rfl, hx, p, l, c, bs, rfl, h⟩; exact ⟨hx, p, l, c, bs, rfl, h⟩)
  have hil : i < Ds.length := (List.getElem?_eq_some_iff.1 hi).1
  obtain ⟨pD, cD, pB, cB, hr⟩ := h.row
  refine ⟨_, hr.row.cell rfl, condB_of (fun h => by cases h) fun _ => (ra_there h (i : Int)).mono ?_⟩
  rintro e w7 ⟨rfl, rfl⟩
  obtain ⟨ap, cD', b, Fi, e0, e1, hd, _, _⟩ := h.at hi
  refine ⟨_, rfl, condB_of (fun h0 => by simp at h0; omega) fun _ => ⟨_, _, _, e0, ⟨by omega, by omega⟩, _, by rw [Int.toNat_natCast]; exact e1, ?_⟩⟩
  refine (rd_read_own hd k).mono ?_
  rintro e w14 ⟨hx, p, l, c, bs, rfl, h⟩
  exact ⟨_, _, _, _, rfl, hx, p, l, c, bs, rfl, h⟩
/-- a disk of the document's array that is not off -/
theorem b_readR_own {w : World} {r : Nat} {s : StA} {G : Nat → Prop} (h : IsR w r s G) (hd : s.down = false) {i : Nat} {m : Mem} (hm : s.M[i]? = some m) (n : Int) : Calls Tryz.prog 44 #[.pointer (some (at0 r)), .int .i64 (i : Int), .int .i64 n] w fun e w' => Ext w w' ∧
    ∃ p l c, e = .returned (.tuple #[.slice p l c, .int .i64 (faultZ m.d.dead m.d.sectors n)]) ∧ l ≤ 4108 ∧ OwnS w' w.heap.size 5 1 p l c (encB (readA n m)) := by
  obtain ⟨M, left, down⟩ := s
  simp only at hd hm
  subst hd
  refine (ra_read_own h (dsOf_at (s := ⟨M, left, false⟩) hm) n).mono ?_
  rintro e w' ⟨hx, p, l, c, bs, rfl, hbs, hb, hl, ho⟩
  refine ⟨hx, p, l, c, rfl, hl, ?_⟩
  rw [hbs] at ho
  exact ho

/-! ## what all disks say, as it lies -/
def rsaidOf (addr : Int) (m : Mem) : Said := saidOf addr m
structure RowsS (w : World) (rows : List Value) (L : List Said) : Prop where
  len : rows.length = L.length * 4
  row : ∀ i s, L[i]? = some s → ∃ q n c, rows[i * 4]? = some (.bool s.is) ∧ rows[i * 4 + 1]? = some (.bool s.none) ∧ rows[i * 4 + 2]? = some (.int .i64 s.epoch) ∧ rows[i * 4 + 3]? = some (.slice q n c) ∧ BytesAt w q n s.data ∧
    (∀ g cs e fz, q = some g → s.data ≠ [] → w.heap[g.block]? = some (.cells cs e fz) → e = 5) ∧ n ≤ 4108
theorem RowsS.nil (w : World) : RowsS w [] [] := ⟨rfl, fun i s h => by simp at h⟩
theorem RowsS.ext {w w' : World} {rows : List Value} {L : List Said} (h : RowsS w rows L) (hx : Ext w w') : RowsS w' rows L := by
  refine ⟨h.len, fun i s hi => ?_⟩
  obtain ⟨q, n, c, h1, h2, h3, h4, h5, h6, h7⟩ := h.row i s hi
  refine ⟨q, n, c, h1, h2, h3, h4, h5.ext hx, fun g cs e fz hq hne hg => h6 g cs e fz hq hne ?_, h7⟩
  subst hq
  obtain ⟨a, ha, hlt⟩ := h5.lt hne
  cases ha
  rw [← hx.block _ hlt id]
  exact hg
/-- rows of another kind grow -/
theorem RowsS.keep {w w' : World} {rows : List Value} {L : List Said} (h : RowsS w rows L) {base : Nat} {e0 : TypeId} {sz : Nat} {p : Option Addr} {n c : Nat} {xs : List Value} (own : OwnS w base e0 sz p n c xs) (he : e0 ≠ 5) (hu : Upd (fun b => p = some (at0 b)) w w') : RowsS w' rows L := by
  refine ⟨h.len, fun i s hi => ?_⟩
  obtain ⟨q, n, c, h1, h2, h3, h4, h5, h6, h7⟩ := h.row i s hi
  have hno : ∀ g, q = some g → s.data ≠ [] → ¬ (p = some (at0 g.block)) := fun g hq hne hp => by
    rcases own.where_ with ⟨h0, _⟩ | ⟨b, h0, _, _, _, cur, hc, _⟩
    · rw [h0] at hp; cases hp
    · rw [h0] at hp
      simp only [Option.some.injEq, at0, Addr.mk.injEq, and_true] at hp
      rw [hp] at hc
      exact he (h6 g _ _ _ hq hne hc)
  refine ⟨q, n, c, h1, h2, h3, h4, h5.upd hu fun g hq hne => hno g hq hne, fun g cs e fz hq hne hg => h6 g cs e fz hq hne ?_, h7⟩
  subst hq
  obtain ⟨a, ha, hlt⟩ := h5.lt hne
  cases ha
  rw [← hu.block _ hlt (hno _ rfl hne)]
  exact hg
theorem RowsS.snoc {w : World} {rows : List Value} {L : List Said} (h : RowsS w rows L) {s : Said} {q : Option Addr} {n c : Nat} (hb : BytesAt w q n s.data) (ht : ∀ g cs e fz, q = some g → s.data ≠ [] → w.heap[g.block]? = some (.cells cs e fz) → e = 5) (hn : n ≤ 4108) :
    RowsS w (rows ++ [.bool s.is, .bool s.none, .int .i64 s.epoch, .slice q n c]) (L ++ [s]) := by
  have hl := h.len
  refine ⟨by simp [hl]; omega, fun i s' hi => ?_⟩
  by_cases hlt : i < L.length
  · rw [List.getElem?_append_left hlt] at hi
    obtain ⟨q, n, c, h1, h2, h3, h4, h5⟩ := h.row i s' hi
    exact ⟨q, n, c, by rw [List.getElem?_append_left (by omega)]; exact h1, by rw [List.getElem?_append_left (by omega)]; exact h2, by rw [List.getElem?_append_left (by omega)]; exact h3, by rw [List.getElem?_append_left (by omega)]; exact h4, h5⟩
  · rw [List.getElem?_append_right (by omega)] at hi
    have hi0 : i = L.length := by
      have := (List.getElem?_eq_some_iff.1 hi).1
      simp at this
      omega
    subst hi0
    rw [Nat.sub_self] at hi
    cases hi
    exact ⟨q, n, c, by rw [List.getElem?_append_right (by omega), show L.length * 4 - rows.length = 0 by omega]; rfl, by rw [List.getElem?_append_right (by omega), show L.length * 4 + 1 - rows.length = 1 by omega]; rfl,
      by rw [List.getElem?_append_right (by omega), show L.length * 4 + 2 - rows.length = 2 by omega]; rfl, by rw [List.getElem?_append_right (by omega), show L.length * 4 + 3 - rows.length = 3 by omega]; rfl, hb, ht, hn⟩
theorem own_typed {w : World} {base : Nat} {e0 : TypeId} {sz : Nat} {p : Option Addr} {n c : Nat} {xs : List Value} (own : OwnS w base e0 sz p n c xs) : ∀ g cs e fz, p = some g → w.heap[g.block]? = some (.cells cs e fz) → e = e0 := by
  intro g cs e fz hp hg
  rcases own.where_ with ⟨h0, _⟩ | ⟨b, h0, _, _, _, cur, hc, _⟩
  · rw [h0] at hp; cases hp
  · rw [h0] at hp
    cases hp
    have h1 : w.heap[b]? = some (.cells cs e fz) := hg
    rw [h1] at hc
    cases hc
    rfl
theorem elemRS : ElemOf Tryz.prog 94 100 4 40 := ⟨by kernel_rfl, ⟨Tryz.t100, .agg #[.bool false, .bool false, .int .i64 0, .slice none 0 0], by kernel_rfl, by kernel_rfl, by kernel_rfl, by kernel_rfl, by kernel_rfl⟩, by decide⟩
end Go.Proofs.YtenfnapoigafmaaGreat

/- What all disks of the document's array say. -/
namespace Go.Proofs.YtenfnapoigafmaaGreat
open Go Go.Vc

theorem fault_130 {dead : Bool} {sectors n : Int} : faultZ dead sectors n ≠ 130 := by
  unfold faultZ
  split
  · omega
  · split <;> omega
theorem box4v {w : World} {k : Nat} {a b c d : Value} {e : TypeId} {fz : Nat × Nat} (h : w.heap[k]? = some (.cells #[a, b, c, d] e fz)) : CellsAt w (some (at0 k)) [a, b, c, d] := by
  intro j u hj
  refine ⟨_, rfl, ?_⟩
  match j, hj with
  | 0, hj => cases hj; simp [World.cell?, Addr.add, h]
  | 1, hj => cases hj; simp [World.cell?, Addr.add, h]
  | 2, hj => cases hj; simp [World.cell?, Addr.add, h]
  | 3, hj => cases hj; simp [World.cell?, Addr.add, h]
theorem app_rs {w0 w : World} (hx : Ext w0 w) {p : Option Addr} {n c : Nat} {xs : List Value} (h : OwnS w w0.heap.size 100 4 p n c xs) {k : Nat} {w1 : World} {a b c' d : Value} (hk : NewB w k (.cells #[a, b, c', d] 100) w1)
    (hv : ∀ v ∈ [a, b, c', d], v.oneCell' = true) (hn : n ≤ 100) : ∃ (p' : Option Addr) (l' c'' : Nat), ∃ w', Sem.run Tryz.prog (Builtin.append_ #[94, 94] 94 #[.slice p n c, .slice (some (at0 k)) 1 1]) w1 = .ok (.slice p' l' c'') w' ∧ l' = n + 1 ∧
      OwnS w' w0.heap.size 100 4 p' l' c'' (xs ++ [a, b, c', d]) ∧ Ext w0 w' ∧ Upd (fun b => p = some (at0 b)) w1 w' := by
  have h1 := h.ext hk.ext
  obtain ⟨p', c2, w', hr, ho, hu, _⟩ := h1.append elemRS 94 (q := some (at0 k)) (m := 1) (d := 1) (news := [a, b, c', d]) rfl (box4v hk.at) (fun h => by cases h) hv (by unfold maxLen; omega) (by omega) (hx.trans hk.ext).size
  refine ⟨p', _, c2, w', hr, rfl, ho, ?_, hu⟩
  refine Upd.trans (hx.trans hk.ext) hu fun x hx' hs => ?_
  rcases h1.where_ with ⟨h0, _⟩ | ⟨g, h0, hge, _⟩
  · rw [h0] at hs; cases hs
  · rw [h0] at hs
    simp only [Option.some.injEq, at0, Addr.mk.injEq, and_true] at hs
    omega
theorem own_le8 {w : World} {base : Nat} {e : TypeId} {sz : Nat} {p : Option Addr} {n c : Nat} {xs : List Value} (h : OwnS w base e sz p n c xs) : n ≤ c := by
  rcases h.where_ with ⟨_, h0, h1⟩ | ⟨g, _, _, _, h1, _⟩
  · omega
  · exact h1

set_option maxHeartbeats 2000000 in
theorem rsaid_spec {w : World} {r : Nat} {s : StA} {G : Nat → Prop} (h : IsR w r s G) (hM : s.M.length ≤ 100) (h1 : 1 ≤ s.M.length) (addr : Int) : Calls Tryz.prog 38 #[.pointer (some (at0 r)), .int .i64 addr] w fun e w' => Ext w w' ∧
    (s.down = true → e = .returned (.tuple #[.slice none 0 0, .int .i64 130])) ∧ (s.down = false → ∃ p l c rows, e = .returned (.tuple #[.slice p l c, .int .i64 0]) ∧ l = s.M.length ∧ OwnS w' w.heap.size 100 4 p l c rows ∧ RowsS w' rows (saysM addr s.M)) := by
  refine (F38_calls (some (at0 r)) addr w (fun v w' => Ext w w' ∧ (s.down = true → v = .tuple #[.slice none 0 0, .int .i64 130]) ∧ (s.down = false → ∃ p l c rows, v = .tuple #[.slice p l c, .int .i64 0] ∧ l = s.M.length ∧ OwnS w' w.heap.size 100 4 p l c rows ∧ RowsS w' rows (saysM addr s.M)))
    (fun _ p3 l3 c3 n4 w5 => ∃ (i : Nat) (rows : List Value), n4 = i ∧ i ≤ s.M.length ∧ l3 = i ∧ Ext w w5 ∧ (i = 0 ∨ s.down = false) ∧ OwnS w5 w.heap.size 100 4 p3 l3 c3 rows ∧ RowsS w5 rows (saysM addr (s.M.take i))) (fun _ _ _ _ n4 _ => 100 - n4.toNat) ?_).mono (by
      rintro e w' ⟨v, rfl, hx, h2, h3⟩
      exact ⟨hx, fun hd => by rw [h2 hd], fun hd => by obtain ⟨p, l, c, rows, rfl, h⟩ := h3 hd; exact ⟨p, l, c, rows, rfl, h⟩⟩)
  refine ⟨⟨0, [], rfl, Nat.zero_le _, rfl, Upd.refl _ _, .inl rfl, OwnS.nil _ _ _ _, RowsS.nil _⟩, ?_⟩
  rintro p3 l3 c3 n4 w5 ⟨i, rows, rfl, hi, rfl, x5, hd0, own, hrow⟩
  intros
  have h5 := IsRA.ext h x5
  obtain ⟨pD, cD, pB, cB, hr5⟩ := IsRA.row h5
  refine ⟨_, _, _, hr5.row.cell rfl, condB_of (fun hlt => ?_) (fun hge => ?_)⟩
  · simp only [decide_eq_true_eq] at hlt
    rw [dsOf_len] at hlt
    obtain ⟨m, hm⟩ : ∃ m, s.M[l3]? = some m := ⟨s.M[l3]'(by omega), List.getElem?_eq_getElem _⟩
    cases hdn : s.down with
    | true =>
      refine (b_readR h5 (l3 : Int) addr).mono ?_
      rintro e w60 ⟨x60, p, l, c, rfl, _⟩
      have ea : ansR s (l3 : Int) addr = (130, []) := by unfold ansR; rw [if_pos hdn]
      rw [ea]
      exact ⟨_, _, _, _, rfl, condB_of (fun _ => ⟨x5.trans x60, fun _ => rfl, fun h => by cases h⟩) fun h => by simp at h⟩
    | false =>
      refine (b_readR_own h5 hdn hm addr).mono ?_
      rintro e w60 ⟨x60, p62, l62, c62, rfl, hl62, own62⟩
      refine ⟨_, _, _, _, rfl, condB_of (fun h0 => ?_) fun _ => ?_⟩
      · simp only [decide_eq_true_eq] at h0
        exact absurd h0 fault_130
      have hb62 := own_bytes8 own62
      have hlen62 := hb62.1
      refine (runpack_spec addr hb62 (by omega) (own_le8 own62)).mono ?_
      rintro e w64 ⟨x64, n, d, p', c', z, rfl, hbd, hblk, hz⟩
      have y64 := (x5.trans x60).trans x64
      have hty : ∀ g cs e fz, p' = some g → w64.heap[g.block]? = some (.cells cs e fz) → e = 5 := fun g cs e fz hg hh => by
        obtain ⟨g0, h0, hbl⟩ := hblk g hg
        rw [hbl] at hh
        exact own_typed (own62.ext x64) g0 cs e fz h0 hh
      have hdl : d.length ≤ 4108 := by
        cases hu : unpackM addr (readA addr m) with
        | none => rw [hu] at hz; rw [hz.2.2]; simp
        | some nd =>
          obtain ⟨n', d'⟩ := nd
          rw [hu] at hz
          have := (unpack_bound hu).2.2
          rw [hz.2.2]; omega
      have row64 := (hrow.ext (x60.trans x64))
      have own64 := own.ext (x60.trans x64)
      have htake : saysM addr (s.M.take (l3 + 1)) = saysM addr (s.M.take l3) ++ [saidOf addr m] := by
        unfold saysM
        rw [List.take_add_one, hm, List.map_append]
        rfl
      -- one more row, whatever it holds
      have one : ∀ (b1 b2 : Bool), b1 = (saidOf addr m).is → b2 = (saidOf addr m).none → n = (saidOf addr m).epoch → d = (saidOf addr m).data → ∀ (k69 : Nat) (w70 : World), NewB w64 k69 (.cells #[.bool b1, .bool b2, .int .i64 n, .slice p' d.length c'] 100) w70 →
          (∃ (p72 : Option Addr) (l72 c72 : Nat), ∃ w71 : World, Sem.run Tryz.prog (Builtin.append_ #[94, 94] 94 #[.slice p3 l3 c3, .slice (some (at0 k69)) 1 1]) w70 = .ok (.slice p72 l72 c72) w71 ∧
            ((∃ (i : Nat) (rows : List Value), IntKind.i64.wrap ((l3 : Int) + 1) = i ∧ i ≤ s.M.length ∧ l72 = i ∧ Ext w w71 ∧ (i = 0 ∨ false = false) ∧ OwnS w71 w.heap.size 100 4 p72 l72 c72 rows ∧ RowsS w71 rows (saysM addr (s.M.take i))) ∧
              100 - (IntKind.i64.wrap ((l3 : Int) + 1)).toNat < 100 - (l3 : Int).toNat)) := by
        rintro b1 b2 e1 e2 e3 e4 k69 w70 hk69
        obtain ⟨p72, l72, c72, w71, hrun, hl72, own71, x71, u71⟩ := app_rs y64 own64 hk69 (by intro v hv; simp only [List.mem_cons, List.mem_nil_iff, or_false] at hv; rcases hv with rfl | rfl | rfl | rfl <;> rfl) (by omega)
        refine ⟨p72, l72, c72, w71, hrun, ?_⟩
        rw [Go.Vc.w64 (n := (l3 : Int) + 1) (by omega)]
        refine ⟨⟨l3 + 1, _, by omega, by omega, hl72, x71, .inr rfl, own71, ?_⟩, by omega⟩
        have hr70 := (row64.ext hk69.ext).keep (own64.ext hk69.ext) (by decide) u71
        have hbd71 : BytesAt w71 p' d.length d := (hbd.ext hk69.ext).upd u71 fun g hq hne hp => by
          rcases (own64.ext hk69.ext).where_ with ⟨h0, _⟩ | ⟨b, h0, _, _, _, cur, hc, _⟩
          · rw [h0] at hp; cases hp
          · rw [h0] at hp
            simp only [Option.some.injEq, at0, Addr.mk.injEq, and_true] at hp
            rw [hp] at hc
            obtain ⟨g', hg', hlt⟩ := hbd.lt hne
            rw [hq] at hg'
            cases hg'
            rw [hk69.ext.block _ hlt id] at hc
            exact absurd (hty g _ _ _ hq hc) (by decide)
        rw [htake, e1, e2, e3]
        rw [e4] at hbd71 ⊢
        refine hr70.snoc hbd71 (fun g cs e fz hq hne hh => ?_) (by rw [← e4]; exact hdl)
        obtain ⟨g', hg', hlt⟩ := hbd.lt (by rw [e4]; exact hne)
        rw [hq] at hg'
        cases hg'
        have hno : ¬ (p3 = some (at0 g.block)) := fun hp => by
          rcases (own64.ext hk69.ext).where_ with ⟨h0, _⟩ | ⟨b, h0, _, _, _, cur, hc, _⟩
          · rw [h0] at hp; cases hp
          · rw [h0] at hp
            simp only [Option.some.injEq, at0, Addr.mk.injEq, and_true] at hp
            rw [hp, hk69.ext.block _ hlt id] at hc
            exact absurd (hty g _ _ _ hq hc) (by decide)
        rw [u71.block _ (Nat.lt_of_lt_of_le hlt hk69.ext.size) hno, hk69.ext.block _ hlt id] at hh
        exact hty g cs e fz hq hh
      refine ⟨_, _, _, _, _, rfl, ?_⟩
      -- what it says
      cases hu : unpackM addr (readA addr m) with
      | some nd =>
        obtain ⟨n', d'⟩ := nd
        rw [hu] at hz
        obtain ⟨rfl, rfl, rfl⟩ := hz
        have hf0 : faultZ m.d.dead m.d.sectors addr = 0 := by
          by_cases hf : faultZ m.d.dead m.d.sectors addr = 0
          · exact hf
          · exfalso
            have : readA addr m = [] := by unfold readA; rw [if_neg hf]
            rw [this] at hu
            unfold unpackM at hu
            rw [if_neg (fun hk => by have := hk.1; simp at this)] at hu
            cases hu
        have hs : saidOf addr m = ⟨n, d, true, false⟩ := by unfold saidOf; rw [hu]
        have hl0 : decide (((l62 : Nat) : Int) = (0 : Int)) = false := by
          rw [decide_eq_false_iff_not]
          intro h0
          have : readA addr m = [] := List.eq_nil_of_length_eq_zero (by omega)
          rw [this] at hu
          unfold unpackM at hu
          rw [if_neg (fun hk => by have := hk.1; simp at this)] at hu
          cases hu
        refine condB_of (fun _ => condB_of (fun _ => ?_) fun h => ?_) fun h => ?_
        · exact one (decide ((0 : Int) = (0 : Int))) (decide (((l62 : Nat) : Int) = (0 : Int))) (by rw [hs]; exact decide_eq_true rfl) (by rw [hs]; exact hl0) (by rw [hs]) (by rw [hs])
        · simp [hf0] at h
        · simp [hf0] at h
      | none =>
        rw [hu] at hz
        obtain ⟨rfl, rfl, rfl⟩ := hz
        have hs : saidOf addr m = ⟨0, [], false, decide (faultZ m.d.dead m.d.sectors addr = 0 ∧ readA addr m = [])⟩ := by unfold saidOf; rw [hu]
        refine condB_of (fun hf => ?_) fun hf => ?_
        · simp only [decide_eq_true_eq] at hf
          refine condB_of (fun _ => ?_) fun h => by simp [hf] at h
          refine one (decide ((110 : Int) = (0 : Int))) (decide (((l62 : Nat) : Int) = (0 : Int))) (by rw [hs]; exact decide_eq_false (by omega)) ?_ (by rw [hs]) (by rw [hs])
          rw [hs]
          simp only [hf, true_and]
          refine decide_eq_decide.2 ⟨fun h0 => List.eq_nil_of_length_eq_zero (by omega), fun h0 => by rw [h0] at hlen62; simp at hlen62; omega⟩
        · simp only [decide_eq_false_iff_not] at hf
          refine condB_of (fun h => absurd (by simpa using h) hf) fun _ => ?_
          refine one false false (by rw [hs]) ?_ (by rw [hs]) (by rw [hs])
          rw [hs]
          simp [hf]
  · simp only [decide_eq_false_iff_not] at hge
    rw [dsOf_len] at hge
    have hil : l3 = s.M.length := by omega
    refine ⟨x5, fun hd => ?_, fun _ => ⟨p3, l3, c3, rows, rfl, hil, own, ?_⟩⟩
    · rcases hd0 with h0 | h0
      · omega
      · rw [h0] at hd; cases hd
    · rw [List.take_of_length_le (by omega)] at hrow
      exact hrow
end Go.Proofs.YtenfnapoigafmaaGreat

/- How many say just that; what is told of all. -/
namespace Go.Proofs.YtenfnapoigafmaaGreat
open Go Go.Vc

/-- what all disks say, as it lies in a slice -/
def RSAt (w : World) (p : Option Addr) (l : Nat) (L : List Said) : Prop :=
  l = L.length ∧ ∀ i s, L[i]? = some s → ∃ a q n c, p = some a ∧ w.cell? ((a.add (i * 4)).add 0) = some (.bool s.is) ∧ w.cell? ((a.add (i * 4)).add 1) = some (.bool s.none) ∧ w.cell? ((a.add (i * 4)).add 2) = some (.int .i64 s.epoch) ∧
    w.cell? ((a.add (i * 4)).add 3) = some (.slice q n c) ∧ BytesAt w q n s.data ∧ n ≤ 4108
theorem RSAt.ext {w w' : World} {p : Option Addr} {l : Nat} {L : List Said} (h : RSAt w p l L) (hx : Ext w w') : RSAt w' p l L := by
  refine ⟨h.1, fun i s hi => ?_⟩
  obtain ⟨a, q, n, c, h0, h1, h2, h3, h4, h5, h6⟩ := h.2 i s hi
  exact ⟨a, q, n, c, h0, hx.cell h1 id, hx.cell h2 id, hx.cell h3 id, hx.cell h4 id, h5.ext hx, h6⟩
theorem RowsS.at {w : World} {base : Nat} {p : Option Addr} {l c : Nat} {rows : List Value} {L : List Said} (h : RowsS w rows L) (own : OwnS w base 100 4 p l c rows) : RSAt w p l L := by
  have hl := own.length
  refine ⟨by have := h.len; omega, fun i s hi => ?_⟩
  obtain ⟨q, n, c', h1, h2, h3, h4, h5, _, h7⟩ := h.row i s hi
  obtain ⟨a, ha, c1⟩ := own.cells _ _ h1
  obtain ⟨a2, ha2, c2⟩ := own.cells _ _ h2
  obtain ⟨a3, ha3, c3⟩ := own.cells _ _ h3
  obtain ⟨a4, ha4, c4⟩ := own.cells _ _ h4
  rw [ha] at ha2 ha3 ha4
  cases ha2; cases ha3; cases ha4
  exact ⟨a, q, n, c', ha, by rw [add_add]; exact c1, by rw [add_add]; exact c2, by rw [add_add]; exact c3, by rw [add_add]; exact c4, h5, h7⟩

theorem quiet_ext {w w' : World} (h : Quiet w w') : Ext w w' := h.ext
theorem rcopies_spec {w : World} {p : Option Addr} {l c : Nat} {L : List Said} (h : RSAt w p l L) (hl : l ≤ 100) (n : Int) {q : Option Addr} {m d : Nat} {bs : List UInt8} (hb : BytesAt w q m bs) :
    Calls Tryz.prog 64 #[.slice p l c, .int .i64 n, .slice q m d] w fun e w' => e = .returned (.int .i64 (((sayL L).count (n, bs) : Nat) : Int)) ∧ Ext w w' := by
  refine (F64_calls p l c n q m d w (fun v w' => v = .int .i64 (((sayL L).count (n, bs) : Nat) : Int) ∧ Ext w w')
    (fun _ n4 n5 w6 => ∃ i : Nat, n5 = i ∧ i ≤ l ∧ Ext w w6 ∧ n4 = (((sayL (L.take i)).count (n, bs) : Nat) : Int) ∧ (sayL (L.take i)).count (n, bs) ≤ i) (fun _ _ n5 _ => 100 - n5.toNat) ?_).mono (by rintro e w' ⟨v, rfl, rfl, h⟩; exact ⟨rfl, h⟩)
  have hlen := h.1
  refine ⟨⟨0, rfl, Nat.zero_le _, Upd.refl _ _, by simp [sayL], by simp [sayL]⟩, ?_⟩
  rintro n4 n5 w6 ⟨i, rfl, hi, x6, rfl, hle⟩
  intros
  refine condB_of (fun hlt => ?_) (fun hge => ?_)
  · simp only [decide_eq_true_eq] at hlt
    obtain ⟨s, hs⟩ : ∃ s, L[i]? = some s := ⟨L[i]'(by omega), List.getElem?_eq_getElem _⟩
    obtain ⟨a, q', n', c', rfl, h0, h1, h2, h3, h4, h5⟩ := (h.ext x6).2 i s hs
    rw [Int.toNat_natCast]
    refine ⟨⟨by omega, hlt⟩, _, _, _, h3, (same_spec h4 (hb.ext x6) (by omega)).mono ?_⟩
    rintro e w42 ⟨rfl, q42⟩
    have x42 := quiet_ext q42
    have y42 := x6.trans x42
    have hst := sayL_take hs
    have mu : 100 - ((i : Int) + 1).toNat < 100 - i := by omega
    have keep : (sayL (L.take (i + 1))).count (n, bs) = (sayL (L.take i)).count (n, bs) →
        (∃ j : Nat, IntKind.i64.wrap ((i : Int) + 1) = j ∧ j ≤ l ∧ Ext w w42 ∧ (((sayL (L.take i)).count (n, bs) : Nat) : Int) = (((sayL (L.take j)).count (n, bs) : Nat) : Int) ∧ (sayL (L.take j)).count (n, bs) ≤ j) ∧ 100 - (IntKind.i64.wrap ((i : Int) + 1)).toNat < 100 - i := fun he => by
      rw [w64 (n := (i : Int) + 1) (by omega)]
      exact ⟨⟨i + 1, by omega, by omega, y42, by rw [he], by rw [he]; omega⟩, mu⟩
    refine ⟨_, rfl, ⟨by omega, hlt⟩, _, x42.cell h0 id, condB_of (fun his => ⟨⟨by omega, hlt⟩, _, x42.cell h2 id, condB_of (fun he => condB_of (fun hd => ?_) fun hd => ?_) fun he => ?_⟩) fun his => ?_⟩
    · simp only [decide_eq_true_eq] at he hd
      have hc : (sayL (L.take (i + 1))).count (n, bs) = (sayL (L.take i)).count (n, bs) + 1 := by
        rw [hst, if_pos his, List.count_append, he, hd]
        simp
      rw [w64 (n := (i : Int) + 1) (by omega), w64 (n := (((sayL (L.take i)).count (n, bs) : Nat) : Int) + 1) (by omega)]
      exact ⟨⟨i + 1, by omega, by omega, y42, by rw [hc]; omega, by rw [hc]; omega⟩, mu⟩
    · simp only [decide_eq_false_iff_not] at hd
      refine keep ?_
      rw [hst, if_pos his, List.count_append, List.count_eq_zero_of_not_mem (l := [(s.epoch, s.data)]) (fun hm => ?_)]
      · rfl
      · simp only [List.mem_singleton, Prod.mk.injEq] at hm
        exact hd hm.2.symm
    · simp only [decide_eq_false_iff_not] at he
      refine keep ?_
      rw [hst, if_pos his, List.count_append, List.count_eq_zero_of_not_mem (l := [(s.epoch, s.data)]) (fun hm => ?_)]
      · rfl
      · simp only [List.mem_singleton, Prod.mk.injEq] at hm
        exact he hm.1.symm
    · refine keep ?_
      rw [hst, if_neg (by rw [his]; simp)]
  · simp only [decide_eq_false_iff_not] at hge
    rw [List.take_of_length_le (by omega)]
    exact ⟨rfl, x6⟩

/-! ## the vote -/
def vRow (has : Bool) (ep : Int) (q : Option Addr) (n c : Nat) (cnt : Int) (wt : Bool) : Array Value := #[.bool has, .int .i64 ep, .slice q n c, .int .i64 cnt, .bool wt]
/-- the best of what was seen, by the counts of all -/
def BestIn (S all : List Say) (w : World) (has : Bool) (ep : Int) (q : Option Addr) (n : Nat) (cnt : Int) : Prop :=
  (S = [] ∧ has = false ∧ ep = 0 ∧ n = 0 ∧ cnt = 0) ∨ ∃ b : Say, has = true ∧ b ∈ S ∧ ep = b.1 ∧ BytesAt w q n b.2 ∧ n ≤ 4108 ∧ cnt = ((all.count b : Nat) : Int) ∧ ∀ y ∈ S, ¬ bt y b (all.count y) (all.count b)
theorem BestIn.new {S all : List Say} {w : World} {has : Bool} {ep : Int} {q : Option Addr} {n : Nat} {cnt : Int} (h : BestIn S all w has ep q n cnt) {b : Say} {q' : Option Addr} {n' : Nat} (hb : BytesAt w q' n' b.2) (hn : n' ≤ 4108)
    (ht : has = true → ∀ b0 : Say, ep = b0.1 → BytesAt w q n b0.2 → cnt = ((all.count b0 : Nat) : Int) → bt b b0 (all.count b) (all.count b0)) : BestIn (S ++ [b]) all w true b.1 q' n' ((all.count b : Nat) : Int) := by
  refine .inr ⟨b, rfl, by simp, rfl, hb, hn, rfl, fun y hy => ?_⟩
  rcases List.mem_append.1 hy with hy | hy
  · rcases h with ⟨rfl, _⟩ | ⟨b0, h1, h2, h3, h4, _, h5, h6⟩
    · cases hy
    · intro hb'
      exact h6 y hy (bt_trans hb' (ht h1 b0 h3 h4 h5))
  · simp only [List.mem_singleton] at hy
    subst hy
    exact bt_irrefl _ _
theorem BestIn.keep {S all : List Say} {w : World} {has : Bool} {ep : Int} {q : Option Addr} {n : Nat} {cnt : Int} (h : BestIn S all w has ep q n cnt) {b : Say} (hh : has = true)
    (ht : ∀ b0 : Say, ep = b0.1 → BytesAt w q n b0.2 → cnt = ((all.count b0 : Nat) : Int) → ¬ bt b b0 (all.count b) (all.count b0)) : BestIn (S ++ [b]) all w has ep q n cnt := by
  rcases h with ⟨_, h, _⟩ | ⟨b0, h1, h2, h3, h4, hn, h5, h6⟩
  · rw [hh] at h; cases h
  · refine .inr ⟨b0, h1, List.mem_append_left _ h2, h3, h4, hn, h5, fun y hy => ?_⟩
    rcases List.mem_append.1 hy with hy | hy
    · exact h6 y hy
    · simp only [List.mem_singleton] at hy
      subst hy
      exact ht b0 h3 h4 h5
theorem BestIn.best {S : List Say} {w : World} {has : Bool} {ep : Int} {q : Option Addr} {n : Nat} {cnt : Int} (h : BestIn S S w has ep q n cnt) : ∃ b c, Best S b c ∧ has = decide (0 < c) ∧ ep = b.1 ∧ BytesAt w q n b.2 ∧ cnt = ((c : Nat) : Int) ∧ n ≤ 4108 := by
  rcases h with ⟨h0, rfl, rfl, rfl, rfl⟩ | ⟨b, rfl, h2, rfl, h4, hn, rfl, h6⟩
  · exact ⟨(0, []), 0, .inl ⟨h0, rfl, rfl⟩, rfl, rfl, BytesAt.nil _ _, rfl, by omega⟩
  · exact ⟨b, S.count b, .inr ⟨h2, rfl, h6⟩, (decide_eq_true (List.count_pos_iff.2 h2)).symm, rfl, h4, rfl, hn⟩

section
variable {w w6 w10 : World} {p : Option Addr} {l c : Nat} {L : List Said} {k3 k5 i : Nat} {s : Said}
variable {R : Value → World → Prop} {I0 : Option Addr → Option Addr → World → Int → World → Prop} {M0 : Option Addr → Option Addr → World → Int → World → Nat}

/-- it becomes the best -/
theorem vote_A5 (h : RSAt w p l L) (hk : w.heap.size ≤ k5) (hs : L[i]? = some s) (hi : i < l) {n139 : Int} {w142 : World} (hx : Ext w w142) {has : Bool} {ep : Int} {q : Option Addr} {n cc : Nat} {cnt : Int} {wt : Bool} (hr : RowW w142 k5 (vRow has ep q n cc cnt wt))
    (hI : ∀ w' q' n' c', Ext w w' → Upd (fun x => x = k5) w142 w' → RowW w' k5 (vRow true s.epoch q' n' c' n139 wt) → BytesAt w q' n' s.data → n' ≤ 4108 → I0 (some (at0 k3)) (some (at0 k5)) w6 (IntKind.i64.wrap ((i : Int) + 1)) w' ∧ M0 (some (at0 k3)) (some (at0 k5)) w6 (IntKind.i64.wrap ((i : Int) + 1)) w' < M0 (some (at0 k3)) (some (at0 k5)) w6 (i : Int) w10) :
    F39_A5 w142 k5 (i : Int) l p n139 k3 w6 w10 R I0 M0 := by
  obtain ⟨a, q', n', c', rfl, _, _, h2, h3, h4, h5⟩ := h.2 i s hs
  refine ⟨hr.live (n := 0) (by simp [vRow]), fun w171 s171 => ?_⟩
  have r171 := s171.row hr
  have x171 := setc_new hx hk s171
  rw [Int.toNat_natCast]
  refine ⟨⟨by omega, by omega⟩, _, x171.cell h2 id, r171.live (n := 1) (by simp [vRow]), fun w174 s174 => ?_⟩
  have r174 := s174.row r171
  have x174 := setc_new x171 hk s174
  refine ⟨⟨by omega, by omega⟩, _, _, _, x174.cell h3 id, r174.live (n := 2) (by simp [vRow]), fun w177 s177 => ?_⟩
  have r177 := s177.row r174
  have x177 := setc_new x174 hk s177
  refine ⟨r177.live (n := 3) (by simp [vRow]), fun w178 s178 => ?_⟩
  have r178 := s178.row r177
  have x178 := setc_new x177 hk s178
  have bl : ∀ {a b : World} {j : Nat} {v : Value}, SetC a ((at0 k5).add j) v b → Upd (fun x => x = k5) a b := fun hs => by
    have := hs.upd
    rw [add_at0] at this
    exact this
  exact hI w178 q' n' c' x178 ((((bl (j := 0) s171).trans (bl s174) fun _ _ h => h).trans (bl s177) fun _ _ h => h).trans (bl s178) fun _ _ h => h) r178 h4 h5

theorem bytes_uniq {w : World} {q : Option Addr} {n : Nat} {a b : List UInt8} (h1 : BytesAt w q n a) (h2 : BytesAt w q n b) : a = b := by
  have e1 := h1.1
  have e2 := h2.1
  apply List.ext_getElem (by omega)
  intro i g1 g2
  obtain ⟨x, rfl, hc1⟩ := h1.get (i := i) (by omega)
  obtain ⟨y, hy, hc2⟩ := h2.get (i := i) (by omega)
  cases hy
  rw [hc1] at hc2
  simp only [Option.some.injEq, Value.int.injEq, true_and] at hc2
  have hh : (a.getD i 0).toNat = (b.getD i 0).toNat := by omega
  have := UInt8.toNat_inj.1 hh
  simpa [List.getD_eq_getElem?_getD, List.getElem?_eq_getElem g1, List.getElem?_eq_getElem g2] using this
theorem kLt_bstr (a b : List UInt8) : kLt (bstr a) (bstr b) ↔ a < b := by
  unfold kLt bstr
  simp

/-- one that says something is held against the best -/
theorem vote_A2 (h : RSAt w p l L) (hl : l ≤ 100) (hk : w.heap.size ≤ k5) (hs : L[i]? = some s) (hi : i < l) (his : s.is = true) {w132 : World} (hx : Ext w w132) {has : Bool} {ep : Int} {q : Option Addr} {n cc : Nat} {cnt : Int} {wt : Bool} (hr : RowW w132 k5 (vRow has ep q n cc cnt wt))
    (hb : BestIn (sayL (L.take i)) (sayL L) w has ep q n cnt)
    (hI : ∀ w' has' ep' q' n' c' cnt', Ext w w' → Upd (fun x => x = k5) w132 w' → RowW w' k5 (vRow has' ep' q' n' c' cnt' wt) → BestIn (sayL (L.take (i + 1))) (sayL L) w has' ep' q' n' cnt' → I0 (some (at0 k3)) (some (at0 k5)) w6 (IntKind.i64.wrap ((i : Int) + 1)) w' ∧ M0 (some (at0 k3)) (some (at0 k5)) w6 (IntKind.i64.wrap ((i : Int) + 1)) w' < M0 (some (at0 k3)) (some (at0 k5)) w6 (i : Int) w10) :
    F39_A2 (i : Int) l p w132 c k5 k3 w6 w10 R I0 M0 := by
  have hst : sayL (L.take (i + 1)) = sayL (L.take i) ++ [(s.epoch, s.data)] := by rw [sayL_take hs, if_pos his]
  rw [hst] at hI
  obtain ⟨a, q', n', c', rfl, e0, _, e2, e3, e4, e5⟩ := h.2 i s hs
  have cell : ∀ {w' : World} {j : Nat} {v : Value}, Ext w w' → w.cell? ((a.add (i * 4)).add j) = some v → w'.cell? ((a.add (i * 4)).add j) = some v := fun hx hc => hx.cell hc id
  refine ⟨⟨by omega, by omega⟩, _, by rw [Int.toNat_natCast]; exact cell hx e2, ⟨by omega, by omega⟩, _, _, _, by rw [Int.toNat_natCast]; exact cell hx e3, (rcopies_spec (h.ext hx) hl s.epoch (e4.ext hx)).mono ?_⟩
  rintro e w137 ⟨rfl, x137⟩
  have put : ∀ {w' : World}, Ext w132 w' → (has = true → ∀ b0 : Say, ep = b0.1 → BytesAt w q n b0.2 → cnt = (((sayL L).count b0 : Nat) : Int) → bt (s.epoch, s.data) b0 ((sayL L).count (s.epoch, s.data)) ((sayL L).count b0)) →
      F39_A5 w' k5 (i : Int) l (some a) (((sayL L).count (s.epoch, s.data) : Nat) : Int) k3 w6 w10 R I0 M0 := fun {w'} hx' ht =>
    vote_A5 h hk hs hi (hx.trans hx') (hx'.rowW hr id) fun w'' q'' n'' c'' x'' u'' r'' hb'' hn'' => hI w'' true _ _ _ _ _ x'' (Upd.trans (hx'.mono fun _ _ h => h.elim) u'' fun _ _ h => h) r'' (hb.new (b := (s.epoch, s.data)) hb'' hn'' ht)
  have keep : ∀ {w' : World}, Ext w132 w' → has = true → (∀ b0 : Say, ep = b0.1 → BytesAt w q n b0.2 → cnt = (((sayL L).count b0 : Nat) : Int) → ¬ bt (s.epoch, s.data) b0 ((sayL L).count (s.epoch, s.data)) ((sayL L).count b0)) →
      (I0 (some (at0 k3)) (some (at0 k5)) w6 (IntKind.i64.wrap ((i : Int) + 1)) w' ∧ M0 (some (at0 k3)) (some (at0 k5)) w6 (IntKind.i64.wrap ((i : Int) + 1)) w' < M0 (some (at0 k3)) (some (at0 k5)) w6 (i : Int) w10) := fun {w'} hx' hh ht =>
    hI w' _ _ _ _ _ _ (hx.trans hx') (hx'.mono fun _ _ h => h.elim) (hx'.rowW hr id) (hb.keep hh ht)
  refine ⟨_, rfl, fun w140 d140 => ?_⟩
  have x140 := x137.trans d140.ext
  have r140 := x140.rowW hr id
  -- same epochs
  have same : ∀ {w' : World}, Ext w132 w' → has = true → s.epoch = ep → F39_A3 w' k5 (((sayL L).count (s.epoch, s.data) : Nat) : Int) (i : Int) l (some a) k3 w6 w10 R I0 M0 := by
    intro w' hx' hh hep w147 d147
    have x147 := hx'.trans d147.ext
    have r147 := x147.rowW hr id
    have he : ∀ b0 : Say, ep = b0.1 → (s.epoch, s.data).1 = b0.1 := fun b0 h0 => by rw [← h0]; exact hep
    refine ⟨_, r147.row.cell (n := 3) rfl, condB_of (fun hlt => put x147 fun _ b0 h0 h1 h2 => ?_) fun hge => ⟨_, r147.row.cell (n := 3) rfl, condB_of (fun heq => ⟨⟨by omega, by omega⟩, _, _, _, by rw [Int.toNat_natCast]; exact cell (hx.trans x147) e3, bstr s.data, toStr (e4.ext (hx.trans x147)), _, _, _, r147.row.cell (n := 2) rfl, ?_⟩) fun hne => keep x147 hh fun b0 h0 h1 h2 hbt => ?_⟩⟩
    · simp only [decide_eq_true_eq] at hlt
      unfold bt
      rw [if_pos (he b0 h0)]
      exact .inl (by omega)
    · simp only [decide_eq_true_eq] at heq
      obtain ⟨b1, hb1, hd1⟩ : ∃ b1 : Say, ep = b1.1 ∧ BytesAt w q n b1.2 := by
        rcases hb with ⟨_, h, _⟩ | ⟨b1, _, _, h3, h4, _⟩
        · rw [hh] at h; cases h
        · exact ⟨b1, h3, h4⟩
      refine ⟨bstr b1.2, toStr (hd1.ext (hx.trans x147)), condB_of (fun hlt => put x147 fun _ b0 h0 h1 h2 => ?_) fun hge => keep x147 hh fun b0 h0 h1 h2 hbt => ?_⟩
      · rw [bless_kLt] at hlt
        simp only [decide_eq_true_eq, kLt_bstr] at hlt
        unfold bt
        rw [if_pos (he b0 h0)]
        rw [bytes_uniq hd1 h1] at hlt
        exact .inr ⟨by omega, hlt⟩
      · rw [bless_kLt] at hge
        simp only [decide_eq_false_iff_not, kLt_bstr] at hge
        unfold bt at hbt
        rw [if_pos (he b0 h0)] at hbt
        rw [bytes_uniq hd1 h1] at hge
        rcases hbt with h | ⟨_, h⟩
        · omega
        · exact hge h
    · simp only [decide_eq_false_iff_not] at hge hne
      unfold bt at hbt
      rw [if_pos (he b0 h0)] at hbt
      rcases hbt with h | ⟨h, _⟩ <;> omega
  refine ⟨_, r140.row.cell (n := 0) rfl, condB_of (fun hno => fun w142 d142 => ?_) fun hyes => ⟨⟨by omega, by omega⟩, _, by rw [Int.toNat_natCast]; exact cell (hx.trans x140) e2, _, r140.row.cell (n := 1) rfl, fun w190 d190 => ?_⟩⟩
  · have hh : has = false := by simpa using hno
    have x142 := x140.trans d142.ext
    have r142 := x142.rowW hr id
    exact ⟨_, r142.row.cell (n := 0) rfl, condB_of (fun h => by rw [hh] at h; cases h) fun _ => put x142 fun h => by rw [hh] at h; cases h⟩
  · have hh : has = true := by simpa using hyes
    have x190 := x140.trans d190.ext
    have r190 := x190.rowW hr id
    refine ⟨_, r190.row.cell (n := 0) rfl, condB_of (fun _ => ⟨⟨by omega, by omega⟩, _, by rw [Int.toNat_natCast]; exact cell (hx.trans x190) e2, _, r190.row.cell (n := 1) rfl, condB_of (fun he => same x190 hh (by simpa using he)) fun hne => ?_⟩) fun h => by rw [hh] at h; cases h⟩
    simp only [decide_eq_false_iff_not] at hne
    refine condB_of (fun hlt => put x190 fun _ b0 h0 _ _ => ?_) fun hge => keep x190 hh fun b0 h0 _ _ hbt => ?_
    · simp only [decide_eq_true_eq] at hlt
      unfold bt
      rw [if_neg (by simp only; omega)]
      simp only; omega
    · simp only [decide_eq_false_iff_not] at hge
      unfold bt at hbt
      rw [if_neg (by simp only; omega)] at hbt
      simp only at hbt; omega
end
end Go.Proofs.YtenfnapoigafmaaGreat

/- What is told of all disks of the document's array. -/
namespace Go.Proofs.YtenfnapoigafmaaGreat
open Go Go.Vc

/-- five cells of a new block are written -/
theorem fill5 {w0 w : World} {k : Nat} {c0 c1 c2 c3 c4 v0 v1 v2 v3 v4 : Value} (h0 : Ext w0 w) (hk : w0.heap.size ≤ k) (hr : RowW w k #[c0, c1, c2, c3, c4]) {T : World → Prop} (h : ∀ w5, Ext w0 w5 → Upd (fun x => x = k) w w5 → RowW w5 k #[v0, v1, v2, v3, v4] → T w5) :
    Live w (at0 k) ∧ ∀ w1 : World, SetC w (at0 k) v0 w1 → (Live w1 ((at0 k).add 1) ∧ ∀ w2 : World, SetC w1 ((at0 k).add 1) v1 w2 → (Live w2 ((at0 k).add 2) ∧ ∀ w3 : World, SetC w2 ((at0 k).add 2) v2 w3 → (Live w3 ((at0 k).add 3) ∧ ∀ w4 : World, SetC w3 ((at0 k).add 3) v3 w4 →
      (Live w4 ((at0 k).add 4) ∧ ∀ w5 : World, SetC w4 ((at0 k).add 4) v4 w5 → T w5)))) := by
  have bl : ∀ {a b : World} {j : Nat} {v : Value}, SetC a ((at0 k).add j) v b → Upd (fun x => x = k) a b := fun hs => by
    have := hs.upd
    rw [add_at0] at this
    exact this
  refine ⟨hr.live (n := 0) (by simp), fun w1 s1 => ?_⟩
  have s1' : SetC w ((at0 k).add 0) v0 w1 := s1
  have r1 := s1'.row hr
  refine ⟨r1.live (by simp), fun w2 s2 => ?_⟩
  have r2 := s2.row r1
  refine ⟨r2.live (by simp), fun w3 s3 => ?_⟩
  have r3 := s3.row r2
  refine ⟨r3.live (by simp), fun w4 s4 => ?_⟩
  have r4 := s4.row r3
  refine ⟨r4.live (by simp), fun w5 s5 => ?_⟩
  have r5 := s5.row r4
  exact h w5 (setc_new (setc_new (setc_new (setc_new (setc_new h0 hk s1') hk s2) hk s3) hk s4) hk s5)
    (((((bl s1').trans (bl s2) fun _ _ h => h).trans (bl s3) fun _ _ h => h).trans (bl s4) fun _ _ h => h).trans (bl s5) fun _ _ h => h) r5

/-- what is told -/
structure RTold (w' : World) (L : List Said) (ks : List Bool) (v : Value) (b : Say) (c : Nat) (q : Option Addr) (n cc : Nat) : Prop where
  best : Best (sayL L) b c
  val : v = .agg #[.bool (decide (0 < c)), .int .i64 b.1, .slice q n cc, .int .i64 ((c : Nat) : Int), .bool (wit ks L)]
  bytes : BytesAt w' q n b.2
  len : n ≤ 4108

def voteI (w : World) (L : List Said) (ks : List Bool) (l : Nat) : Option Addr → Option Addr → World → Int → World → Prop := fun q3 q5 _ n9 w10 =>
  ∃ (k3 k5 i : Nat) (has : Bool) (ep : Int) (q : Option Addr) (n cc : Nat) (cnt : Int), q3 = some (at0 k3) ∧ q5 = some (at0 k5) ∧ n9 = i ∧ i ≤ l ∧ w.heap.size ≤ k3 ∧ w.heap.size ≤ k5 ∧ k3 ≠ k5 ∧ Ext w w10 ∧
      RowW w10 k3 (vRow false 0 none 0 0 0 false) ∧ RowW w10 k5 (vRow has ep q n cc cnt (wit ks (L.take i))) ∧ BestIn (sayL (L.take i)) (sayL L) w has ep q n cnt
def voteM : Option Addr → Option Addr → World → Int → World → Nat := fun _ _ _ n9 _ => 100 - n9.toNat
def voteR (w : World) (L : List Said) (ks : List Bool) : Value → World → Prop := fun v w' => Ext w w' ∧ ∃ b cn q n cc, RTold w' L ks v b cn q n cc

theorem vote_A1 {w w6 w10 w' : World} {p : Option Addr} {l c : Nat} {L : List Said} {ks : List Bool} {k3 k5 i : Nat} {s : Said} (h : RSAt w p l L) (hl : l ≤ 100) (hb3 : w.heap.size ≤ k3) (hb5 : w.heap.size ≤ k5) (hne : k3 ≠ k5) (hs : L[i]? = some s) (hi : i < l) (x' : Ext w w')
    {has : Bool} {ep : Int} {q : Option Addr} {n cc : Nat} {cnt : Int} (r3 : RowW w' k3 (vRow false 0 none 0 0 0 false)) (r5 : RowW w' k5 (vRow has ep q n cc cnt (wit ks (L.take (i + 1))))) (hbest : BestIn (sayL (L.take i)) (sayL L) w has ep q n cnt) :
    (0 ≤ (i : Int) ∧ (i : Int) < ((l : Nat) : Int)) ∧ (nilM p fun a130 => (∃ (b131 : Bool), w'.cell? ((a130.add ((i : Int).toNat * 4)).add 0) = some (.bool b131) ∧ (condB (!b131)
      (voteI w L ks l (some (at0 k3)) (some (at0 k5)) w6 (IntKind.i64.wrap ((i : Int) + (1 : Int))) w' ∧ voteM (some (at0 k3)) (some (at0 k5)) w6 (IntKind.i64.wrap ((i : Int) + (1 : Int))) w' < voteM (some (at0 k3)) (some (at0 k5)) w6 (i : Int) w10)
      (∀ w132 : World, Drew w' w132 → F39_A2 (i : Int) l p w132 c k5 k3 w6 w10 (voteR w L ks) (voteI w L ks l) voteM)))) := by
  have hlen := h.1
  obtain ⟨a, q', n', c', rfl, e0, e1, _⟩ := h.2 i s hs
  have hwr : IntKind.i64.wrap ((i : Int) + 1) = ((i + 1 : Nat) : Int) := by rw [w64 (by omega)]; omega
  have mu : 100 - (((i + 1 : Nat) : Int)).toNat < 100 - ((i : Int)).toNat := by omega
  have hst := sayL_take hs
  have cell : ∀ {w' : World} {j : Nat} {v : Value}, Ext w w' → w.cell? ((a.add (i * 4)).add j) = some v → w'.cell? ((a.add (i * 4)).add j) = some v := fun hx hc => hx.cell hc id
  refine ⟨⟨by omega, by omega⟩, _, by rw [Int.toNat_natCast]; exact cell x' e0, condB_of (fun hno => ?_) fun his => fun w132 d132 => ?_⟩
  · rw [hwr]
    refine ⟨⟨k3, k5, i + 1, has, ep, q, n, cc, cnt, rfl, rfl, rfl, by omega, hb3, hb5, hne, x', r3, r5, ?_⟩, mu⟩
    rw [hst, if_neg (by simpa using hno)]
    exact hbest
  · have x132 := x'.trans d132.ext
    refine vote_A2 (h := h) hl hb5 hs hi (by simpa using his) x132 (d132.ext.rowW r5 id) hbest fun w'' has' ep' q' n' c' cnt' x'' u'' r'' hb'' => ?_
    rw [hwr]
    exact ⟨⟨k3, k5, i + 1, has', ep', q', n', c', cnt', rfl, rfl, rfl, by omega, hb3, hb5, hne, x'', u''.rowW (d132.ext.rowW r3 id) hne, r'', hb''⟩, mu⟩

set_option maxHeartbeats 2000000 in
theorem rvote_spec {w : World} {p : Option Addr} {l c : Nat} {L : List Said} (h : RSAt w p l L) (hl : l ≤ 100) {p2 : Option Addr} {l2 c2 : Nat} {ks : List Bool} (hks : BoolsAt w p2 l2 ks) :
    Calls Tryz.prog 39 #[.slice p l c, .slice p2 l2 c2] w fun e w' => Ext w w' ∧ ∃ v b cn q n cc, e = .returned v ∧ RTold w' L ks v b cn q n cc := by
  refine (F39_calls p l c p2 l2 c2 w (voteR w L ks) (voteI w L ks l) voteM ?_).mono (by
      rintro e w' ⟨v, rfl, hx, b, cn, q, n, cc, h⟩; exact ⟨hx, v, b, cn, q, n, cc, rfl, h⟩)
  have hlen := h.1
  have hklen := hks.1
  intro k3 w4 hk3 k5 w6 hk5
  have z3 := hk3.size
  have z5 := hk5.size
  have x6 := hk3.ext.trans hk5.ext
  refine ⟨⟨k3, k5, 0, false, 0, none, 0, 0, 0, rfl, rfl, rfl, Nat.zero_le _, by omega, by omega, by omega, x6, hk5.ext.rowW ⟨_, hk3.at⟩ id, by (rw [show wit ks (L.take 0) = false by simp [wit]]; exact ⟨_, hk5.at⟩), .inl ⟨by simp [sayL], rfl, rfl, rfl, rfl⟩⟩, ?_⟩
  rintro n9 w10 ⟨k3', k5', i, has, ep, q, n, cc, cnt, e3, e5, rfl, hi, hb3, hb5, hne, x10, r3, r5, hbest⟩
  simp only [Option.some.injEq, at0, Addr.mk.injEq, and_true] at e3 e5
  subst e3
  subst e5
  intros
  refine condB_of (fun hlt => ?_) (fun hge => ?_)
  · simp only [decide_eq_true_eq] at hlt
    obtain ⟨s, hs⟩ : ∃ s, L[i]? = some s := ⟨L[i]'(by omega), List.getElem?_eq_getElem _⟩
    have hwit := wit_step (ks := ks) hs
    obtain ⟨a, q', n', c', hp, e0, e1, _⟩ := h.2 i s hs
    have stay : witF (ks.getD i false, s) = false → F39_A1 (i : Int) l p w10 k3 k5 w6 c (voteR w L ks) (voteI w L ks l) voteM := fun hw => by
      have r5' : RowW w10 k5 (vRow has ep q n cc cnt (wit ks (L.take (i + 1)))) := by rw [hwit, hw, Bool.or_false]; exact r5
      exact vote_A1 h hl hb3 hb5 hne hs (by omega) x10 r3 r5' hbest
    have seen : witF (ks.getD i false, s) = true → F39_A0 w10 k5 (i : Int) l p k3 w6 c (voteR w L ks) (voteI w L ks l) voteM := fun hw => by
      refine ⟨r5.live (n := 4) (by simp [vRow]), fun w129 s129 => ?_⟩
      have u129 : Upd (fun x => x = k5) w10 w129 := by
        have := s129.upd
        rw [add_at0] at this
        exact this
      have r5' : RowW w129 k5 (vRow has ep q n cc cnt (wit ks (L.take (i + 1)))) := by rw [hwit, hw, Bool.or_true]; exact s129.row r5
      exact vote_A1 h hl hb3 hb5 hne hs (by omega) (setc_new x10 hb5 s129) (u129.rowW r3 hne) r5' hbest
    refine condB_of (fun hk => ?_) fun hk => stay ?_
    · simp only [decide_eq_true_eq] at hk
      obtain ⟨ak, hpk, hck⟩ := (hks.ext x10).get (i := i) (by omega)
      subst hpk
      subst hp
      rw [show ((i : Int)).toNat = i from Int.toNat_natCast i]
      refine ⟨⟨by omega, hk⟩, _, hck, condB_of (fun hb => ⟨⟨by omega, hlt⟩, _, x10.cell e0 id, condB_of (fun his => seen ?_) fun hnis => ⟨⟨by omega, hlt⟩, _, x10.cell e1 id, condB_of (fun hno => seen ?_) fun hno => stay ?_⟩⟩) fun hb => stay ?_⟩
      · unfold witF; rw [hb, his]; rfl
      · unfold witF; rw [hb, hno, Bool.or_true]; rfl
      · unfold witF; rw [hb, hnis, hno]; rfl
      · unfold witF; rw [hb]; rfl
    · simp only [decide_eq_false_iff_not] at hk
      have : ks.getD i false = false := by
        rw [List.getD_eq_getElem?_getD, List.getElem?_eq_none (by omega)]
        rfl
      unfold witF
      rw [this]
      rfl
  · simp only [decide_eq_false_iff_not] at hge
    have hil : i = l := by omega
    have htk : L.take i = L := List.take_of_length_le (by omega)
    rw [htk] at r5 hbest
    refine ⟨_, r5.row.cell (n := 0) rfl, _, r5.row.cell rfl, _, _, _, r5.row.cell rfl, _, r5.row.cell rfl, _, r5.row.cell rfl, ?_⟩
    refine fill5 (v0 := .bool has) (v1 := .int .i64 ep) (v2 := .slice q n cc) (v3 := .int .i64 cnt) (v4 := .bool (wit ks L)) x10 hb3 r3 fun w667 x667 u667 r667 => ?_
    obtain ⟨b, cn, hB, rfl, rfl, hbb, rfl, hn⟩ := hbest.best
    exact ⟨_, r667.row.cell (n := 0) rfl, _, r667.row.cell rfl, _, _, _, r667.row.cell rfl, _, r667.row.cell rfl, _, r667.row.cell rfl, x667, b, cn, q, n, cc, hB, rfl, hbb.ext x667, hn⟩
end Go.Proofs.YtenfnapoigafmaaGreat

/- The document's Read of a vote. -/
namespace Go.Proofs.YtenfnapoigafmaaGreat
open Go Go.Vc

/-- bytes don't lie in a block of other cells -/
theorem bytes_apart {w : World} {q : Option Addr} {m : Nat} {bs : List UInt8} (hb : BytesAt w q m bs) {k : Nat} {row : Array Value} (hr : RowW w k row) (hne : ∀ (j : Nat) (n : Int), row[j]? ≠ some (Value.int .u8 n)) (a : Addr) (ha : q = some a) (h0 : bs ≠ []) : a.block ≠ k := by
  intro hk
  have hl := hb.1
  have : 0 < m := by rw [hl]; exact List.length_pos_iff.2 h0
  obtain ⟨a', ha', hc⟩ := hb.get (i := 0) this
  rw [ha] at ha'
  cases ha'
  obtain ⟨e, he⟩ := hr
  have hbl : (a.add 0).block = k := by rw [add_block]; exact hk
  unfold World.cell? at hc
  rw [hbl, he] at hc
  dsimp only at hc
  split at hc
  · cases hc
  · exact hne _ _ hc
theorem votes_apart (h : Bool) (e : Int) (p : Option Addr) (l c : Nat) (n : Int) (b : Bool) : ∀ (j : Nat) (x : Int), (#[.bool h, .int .i64 e, .slice p l c, .int .i64 n, .bool b] : Array Value)[j]? ≠ some (Value.int .u8 x)
  | 0, x => by simp
  | 1, x => by simp
  | 2, x => by simp
  | 3, x => by simp
  | 4, x => by simp
  | j + 5, x => by simp

set_option maxHeartbeats 2000000 in
theorem rvread_spec {w : World} {r : Nat} {s : StA} {G : Nat → Prop} (h : IsR w r s G) (hM : s.M.length ≤ 100) (h1 : 1 ≤ s.M.length) {p2 : Option Addr} {l2 c2 : Nat} {ks : List Bool} (hks : BoolsAt w p2 l2 ks) (n : Int) :
    Calls Tryz.prog 17 #[.pointer (some (at0 r)), .slice p2 l2 c2, .int .i64 n] w fun e w' => Ext w w' ∧ (s.down = true → e = .returned (.tuple #[voteV false 0 none 0 0 0 false, .int .i64 130])) ∧
      (s.down = false → ∃ v b cn q m cc, e = .returned (.tuple #[v, .int .i64 0]) ∧ RTold w' (saysM n s.M) ks v b cn q m cc) := by
  refine (F17_calls (some (at0 r)) p2 l2 c2 n w (fun v w' => Ext w w' ∧ (s.down = true → v = .tuple #[voteV false 0 none 0 0 0 false, .int .i64 130]) ∧
      (s.down = false → ∃ v1 b cn q m cc, v = .tuple #[v1, .int .i64 0] ∧ RTold w' (saysM n s.M) ks v1 b cn q m cc)) ?_).mono (by
    rintro e w' ⟨v, rfl, hx, h2, h3⟩
    exact ⟨hx, fun hd => by rw [h2 hd], fun hd => by obtain ⟨v1, b, cn, q, m, cc, rfl, h⟩ := h3 hd; exact ⟨v1, b, cn, q, m, cc, rfl, h⟩⟩)
  intro k4 w5 hk4
  have s4 : w.heap.size ≤ k4 := by rw [hk4.size.1]; exact Nat.le_refl _
  refine (rsaid_spec (IsRA.ext h hk4.ext) hM h1 n).mono ?_
  rintro e w6 ⟨x6, hd, hu⟩
  have y6 := hk4.ext.trans x6
  have r6 : RowW w6 k4 #[.bool false, .int .i64 0, .slice none 0 0, .int .i64 0, .bool false] := x6.rowW ⟨_, hk4.at⟩ id
  cases hdn : s.down with
  | true =>
    have := hd hdn
    subst this
    refine ⟨_, _, _, _, rfl, condB_of (fun _ => ?_) fun h => by cases h⟩
    refine fill5 (v0 := .bool false) (v1 := .int .i64 0) (v2 := .slice none 0 0) (v3 := .int .i64 0) (v4 := .bool false) y6 s4 r6 fun w14 x14 _ r14 => ?_
    exact ⟨_, r14.row.cell (n := 0) rfl, _, r14.row.cell rfl, _, _, _, r14.row.cell rfl, _, r14.row.cell rfl, _, r14.row.cell rfl, x14, fun _ => rfl, fun h => by cases h⟩
  | false =>
    obtain ⟨p, l, c, rows, rfl, hl, own, hrow⟩ := hu hdn
    refine ⟨_, _, _, _, rfl, condB_of (fun h => by cases h) fun _ => ?_⟩
    refine (rvote_spec (hrow.at own) (by omega) (hks.ext y6)).mono ?_
    rintro e w20 ⟨x20, v, b, cn, q, m, cc, rfl, hB, rfl, hbb, hm⟩
    refine ⟨_, _, _, _, _, _, _, rfl, ?_⟩
    refine fill5 (v0 := .bool (decide (0 < cn))) (v1 := .int .i64 b.1) (v2 := .slice q m cc) (v3 := .int .i64 ((cn : Nat) : Int)) (v4 := .bool (wit ks (saysM n s.M))) (y6.trans x20) s4 (x20.rowW r6 id) fun w31 x31 u31 r31 => ?_
    refine ⟨_, r31.row.cell (n := 0) rfl, _, r31.row.cell rfl, _, _, _, r31.row.cell rfl, _, r31.row.cell rfl, _, r31.row.cell rfl, x31, fun h => (by cases h), fun _ => ⟨_, b, cn, q, m, cc, rfl, hB, rfl, ?_, hm⟩⟩
    exact hbb.upd u31 (bytes_apart hbb (x20.rowW r6 id) (votes_apart _ _ _ _ _ _ _))
end Go.Proofs.YtenfnapoigafmaaGreat

/- The document's Write of a vote. -/
namespace Go.Proofs.YtenfnapoigafmaaGreat
open Go Go.Vc

theorem putS_congr {to to' : Nat → Bool} {n : Int} {b : List UInt8} {s : StA} : ∀ i, (∀ j, j < i → to j = to' j) → putS to n b s i = putS to' n b s i
  | 0, _ => rfl
  | i + 1, h => by
    have ih := putS_congr (n := n) (b := b) (s := s) i fun j hj => h j (by omega)
    simp only [putS]
    rw [ih, h i (by omega)]
theorem putM_congr {to to' : Nat → Bool} {addr epoch : Int} {d : List UInt8} {s : StA} (h : ∀ j, j < s.M.length → to j = to' j) : putM to addr epoch d s = putM to' addr epoch d s := by
  unfold putM
  rw [putS_congr _ h]
theorem ansW_at (s : StA) (i : Nat) (n : Int) (l : Nat) : ansW s (i : Int) n l = wrZ s i n l := by
  unfold ansW wrZ
  rw [if_pos (show (0 : Int) ≤ (i : Int) by omega), Int.toNat_natCast]
  cases s.M[i]? <;> rfl

set_option maxHeartbeats 4000000 in
theorem rput_spec {w : World} {r : Nat} {s : StA} {G : Nat → Prop} (h : IsR w r s G) (ho : OkA s) (addr epoch : Int) {p : Option Addr} {l c : Nat} {d : List UInt8} (hd : BytesAt w p l d) {kt l5 c5 : Nat} {ts : List Bool} (ht : BoolsAt w (some (at0 kt)) l5 ts) (hl5 : l5 = s.M.length) (hkt : ¬ G kt) (hktl : kt < w.heap.size) {to : Nat → Bool} (hto : ∀ j, ts.getD j false = to j) :
    Calls Tryz.prog 37 #[.pointer (some (at0 r)), .int .i64 addr, .int .i64 epoch, .slice p l c, .slice (some (at0 kt)) l5 c5] w fun e w' =>
      ∃ G', e = .returned (.tuple #[.int .i64 (putM to addr epoch d s).2.1, .int .i64 (putM to addr epoch d s).2.2]) ∧ Step G G' w w' ∧ IsR w' r (putM to addr epoch d s).1 G' := by
  refine (F37_calls (some (at0 r)) addr epoch p l c (some (at0 kt)) l5 c5 w (fun v w' => ∃ G', v = .tuple #[.int .i64 (putM to addr epoch d s).2.1, .int .i64 (putM to addr epoch d s).2.2] ∧ Step G G' w w' ∧ IsR w' r (putM to addr epoch d s).1 G')
    (fun ps ls _ w6 n13 n14 w15 => ∃ (i k : Nat) (G' : Nat → Prop), ps = some (at0 k) ∧ n14 = i ∧ i ≤ s.M.length ∧ (putS to addr (packM addr epoch d) s i).2.2 = false ∧ n13 = (putS to addr (packM addr epoch d) s i).2.1 ∧
      (fitsP addr ∧ fitsP epoch ∧ d.length ≤ 4096) ∧ Step G G' w w15 ∧ IsR w15 r (putS to addr (packM addr epoch d) s i).1 G' ∧ BytesAt w15 ps ls (packM addr epoch d) ∧ k < w15.heap.size ∧ ¬ G' k ∧ BoolsAt w15 (some (at0 kt)) l5 ts ∧ kt < w15.heap.size ∧ ¬ G' kt)
    (fun _ _ _ _ _ n14 _ => 100 - n14.toNat) ?_).mono (by rintro e w' ⟨v, rfl, G', rfl, h⟩; exact ⟨G', rfl, h⟩)
  have hM : s.M.length ≤ 32 := ho.1
  refine (rpack_spec addr epoch hd).mono ?_
  rintro e w6 ⟨x6, hp⟩
  by_cases hfit : fitsP addr ∧ fitsP epoch ∧ d.length ≤ 4096
  · rw [if_pos hfit] at hp
    obtain ⟨p8, l8, c8, rfl, own⟩ := hp
    have hb8 := own_bytes8 own
    obtain ⟨k, hk8, hkge, hklt⟩ : ∃ k, p8 = some (at0 k) ∧ w.heap.size ≤ k ∧ k < w6.heap.size := by
      have hlen := hb8.1
      have hpl := packM_len addr epoch d
      rcases own.where_ with ⟨_, h0, _⟩ | ⟨g, h0, hge, _, _, cur, hc, _⟩
      · omega
      · exact ⟨g, h0, hge, lt_of_heap hc⟩
    subst hk8
    have hkG : ¬ G k := fun hF => by have := IsRA.lt h k hF; omega
    refine ⟨_, _, _, _, rfl, condB_of (fun h => by cases h) fun _ => ⟨⟨0, k, G, rfl, rfl, Nat.zero_le _, rfl, rfl, hfit, Step.ext x6, IsRA.ext h x6, hb8, hklt, hkG, ht.ext x6, Nat.lt_of_lt_of_le hktl x6.size, hkt⟩, ?_⟩⟩
    rintro n13 n14 w15 ⟨i, k', G', e1, rfl, hi, hgo, rfl, _, hst, hR, hby, hk15, hkG', ht15, hkt15, hktG'⟩
    simp only [Option.some.injEq, at0, Addr.mk.injEq, and_true] at e1
    subst e1
    intros
    have hok := putS_ok (to := to) (n := addr) (b := packM addr epoch d) ho i
    obtain ⟨pD, cD, pB, cB, hr15⟩ := IsRA.row hR
    rw [dsOf_len, hok.2.1] at hr15
    refine ⟨_, _, _, hr15.row.cell rfl, condB_of (fun hlt => ?_) (fun hge => ?_)⟩
    · simp only [decide_eq_true_eq] at hlt
      have hwr : IntKind.i64.wrap ((i : Int) + 1) = ((i + 1 : Nat) : Int) := by rw [w64 (by omega)]; omega
      rw [hwr]
      have mu : 100 - (((i + 1 : Nat) : Int)).toNat < 100 - ((i : Int)).toNat := by omega
      obtain ⟨ak, hpk, hck⟩ := ht15.get (i := i) (by omega)
      cases hpk
      refine ⟨⟨by omega, by omega⟩, _, by rw [Int.toNat_natCast]; exact hck, condB_of (fun hto1 => ?_) (fun hto1 => ?_)⟩
      · simp only [Bool.not_eq_true'] at hto1
        rw [hto i] at hto1
        have e1 : putS to addr (packM addr epoch d) s (i + 1) = putS to addr (packM addr epoch d) s i := by
          simp only [putS, hgo, hto1]; rfl
        exact ⟨⟨i + 1, k, G', rfl, rfl, by omega, by rw [e1]; exact hgo, by rw [e1], hfit, hst, by rw [e1]; exact hR, hby, hk15, hkG', ht15, hkt15, hktG'⟩, mu⟩
      · simp only [Bool.not_eq_false'] at hto1
        rw [hto i] at hto1
        refine (b_writeR hR hok.1 (i : Int) addr hby).mono ?_
        rw [ansW_at]
        rintro e w49 ⟨G'', rfl, hst49, hR49⟩
        have e1 : putS to addr (packM addr epoch d) s (i + 1) = (writeA (putS to addr (packM addr epoch d) s i).1 i addr (packM addr epoch d),
            if wrZ (putS to addr (packM addr epoch d) s i).1 i addr (packM addr epoch d).length = 0 then (putS to addr (packM addr epoch d) s i).2.1 + 1 else (putS to addr (packM addr epoch d) s i).2.1,
            decide (wrZ (putS to addr (packM addr epoch d) s i).1 i addr (packM addr epoch d).length = 130)) := by
          simp only [putS, hgo, hto1]; rfl
        have hsT : Step G G'' w w49 := hst.trans hst49
        have z49 := hst49.upd.size
        have hk2 : ¬ G'' k := hst49.apart hk15 hkG'
        have hk3 : ¬ G'' kt := hst49.apart hkt15 hktG'
        have hby49 := hby.upd hst49.upd fun a ha _ => by cases ha; exact hkG'
        have ht49 : BoolsAt w49 (some (at0 kt)) l5 ts := ⟨ht15.1, ht15.2.upd hst49.upd fun a ha _ => by cases ha; exact hktG'⟩
        refine ⟨_, rfl, condB_of (fun h130 => ?_) (fun h130 => ?_)⟩
        · simp only [decide_eq_true_eq] at h130
          have hc : (putS to addr (packM addr epoch d) s (i + 1)).2.2 = true := by rw [e1]; exact decide_eq_true h130
          have hall := putS_stuck hc (s.M.length - (i + 1))
          rw [show i + 1 + (s.M.length - (i + 1)) = s.M.length by omega] at hall
          have e2 : putM to addr epoch d s = ((putS to addr (packM addr epoch d) s (i + 1)).1, 0, 130) := by
            unfold putM
            rw [if_pos hfit, hall, if_pos hc]
          refine ⟨G'', by rw [e2, h130], hsT, ?_⟩
          rw [e2, e1]
          exact hR49
        · simp only [decide_eq_false_iff_not] at h130
          have hgo1 : (putS to addr (packM addr epoch d) s (i + 1)).2.2 = false := by rw [e1]; exact decide_eq_false h130
          refine condB_of (fun h0 => ?_) (fun h0 => ?_)
          · simp only [decide_eq_true_eq] at h0
            rw [w64 (n := (putS to addr (packM addr epoch d) s i).2.1 + 1) (by have := hok.2.2; omega)]
            exact ⟨⟨i + 1, k, G'', rfl, rfl, by omega, hgo1, by rw [e1]; show _ = (if _ then _ else _); rw [if_pos h0], hfit, hsT, by rw [e1]; exact hR49, hby49, by omega, hk2, ht49, by omega, hk3⟩, mu⟩
          · simp only [decide_eq_false_iff_not] at h0
            exact ⟨⟨i + 1, k, G'', rfl, rfl, by omega, hgo1, by rw [e1]; show _ = (if _ then _ else _); rw [if_neg h0], hfit, hsT, by rw [e1]; exact hR49, hby49, by omega, hk2, ht49, by omega, hk3⟩, mu⟩
    · simp only [decide_eq_false_iff_not] at hge
      have hil : i = s.M.length := by omega
      subst hil
      have e2 : putM to addr epoch d s = ((putS to addr (packM addr epoch d) s s.M.length).1, (putS to addr (packM addr epoch d) s s.M.length).2.1, 0) := by
        unfold putM
        rw [if_pos hfit, if_neg (by rw [hgo]; simp)]
      exact ⟨G', by rw [e2], hst, by rw [e2]; exact hR⟩
  · rw [if_neg hfit] at hp
    subst hp
    have e2 : putM to addr epoch d s = (s, 0, 1) := by unfold putM; rw [if_neg hfit]
    refine ⟨_, _, _, _, rfl, condB_of (fun _ => ?_) fun h => by cases h⟩
    exact ⟨G, by rw [e2], Step.ext x6, by rw [e2]; exact IsRA.ext h x6⟩

theorem zeroBo : zeroCellsOf Tryz.prog 4 = [.bool false] := by kernel_rfl
theorem made_bools (n : Nat) : madeRow Tryz.prog 4 n = ((List.replicate n false).map Value.bool).toArray := by
  unfold madeRow
  rw [zeroBo]
  congr 1
  induction n with
  | zero => rfl
  | succ n ih =>
    rw [List.replicate_succ, List.flatten_cons, ih, List.replicate_succ]
    rfl
theorem bools_row {w : World} {k : Nat} {ts : List Bool} (h : RowW w k (ts.map Value.bool).toArray) {n : Nat} (hn : ts.length = n) : BoolsAt w (some (at0 k)) n ts := ⟨hn.symm, fun j u hj => ⟨_, rfl, h.row.cell (by simpa using hj)⟩⟩
/-- one more of them is set -/
theorem bools_set {w w' : World} {k i n : Nat} {ts : List Bool} {f : Nat → Bool} {b : Bool} (hr : RowW w k (ts.map Value.bool).toArray) (hn : ts.length = n) (hi : i < n) (hf : ∀ j, j < i → ts.getD j false = f j) (hs : SetC w ((at0 k).add i) (.bool b) w') (hb : b = f i) :
    ∃ ts' : List Bool, ts'.length = n ∧ (∀ j, j < i + 1 → ts'.getD j false = f j) ∧ RowW w' k (ts'.map Value.bool).toArray := by
  refine ⟨ts.set i b, by simp [hn], fun j hj => ?_, ?_⟩
  · rw [List.getD_eq_getElem?_getD, List.getElem?_set]
    by_cases hij : i = j
    · subst hij
      rw [if_pos rfl, if_pos (by omega)]
      exact hb
    · rw [if_neg hij, ← List.getD_eq_getElem?_getD]
      exact hf j (by omega)
  · have := hs.row hr
    have e : ((ts.map Value.bool).toArray).setIfInBounds i (.bool b) = ((ts.set i b).map Value.bool).toArray := by
      rw [List.setIfInBounds_toArray, List.map_set]
    rw [e] at this
    exact this

set_option maxHeartbeats 2000000 in
theorem rwrite17_spec {w : World} {r : Nat} {s : StA} {G : Nat → Prop} (h : IsR w r s G) (ho : OkA s) (n m : Int) {p : Option Addr} {l c : Nat} {d : List UInt8} (hd : BytesAt w p l d) :
    Calls Tryz.prog 16 #[.pointer (some (at0 r)), .int .i64 n, .int .i64 m, .slice p l c] w fun e w' =>
      ∃ G', e = .returned (.tuple #[.int .i64 (putM (fun _ => true) n m d s).2.1, .int .i64 (putM (fun _ => true) n m d s).2.2]) ∧ Step G G' w w' ∧ IsR w' r (putM (fun _ => true) n m d s).1 G' := by
  refine (F16_calls (some (at0 r)) n m p l c w (fun v w' => ∃ G', v = .tuple #[.int .i64 (putM (fun _ => true) n m d s).2.1, .int .i64 (putM (fun _ => true) n m d s).2.2] ∧ Step G G' w w' ∧ IsR w' r (putM (fun _ => true) n m d s).1 G')
    (fun q7 l7 _ _ n12 w13 => ∃ (k i : Nat) (ts : List Bool), q7 = some (at0 k) ∧ l7 = s.M.length ∧ n12 = i ∧ i ≤ s.M.length ∧ Ext w w13 ∧ w.heap.size ≤ k ∧ ts.length = s.M.length ∧ (∀ j, j < i → ts.getD j false = true) ∧ RowW w13 k (ts.map Value.bool).toArray)
    (fun _ _ _ _ n12 _ => 100 - n12.toNat) ?_).mono (by
    rintro e w' ⟨v, rfl, G', rfl, h⟩; exact ⟨G', rfl, h⟩)
  have hM : s.M.length ≤ 32 := ho.1
  obtain ⟨pD, cD, pB, cB, hr⟩ := IsRA.row h
  rw [dsOf_len] at hr
  refine ⟨_, _, _, hr.row.cell rfl, ⟨by omega, by omega, by omega⟩, fun k7 w8 hk7 => ?_⟩
  rw [made_bools, Int.toNat_natCast] at hk7
  have s7 : w.heap.size ≤ k7 := by rw [hk7.size.1]; exact Nat.le_refl _
  refine ⟨⟨k7, 0, List.replicate s.M.length false, rfl, by omega, rfl, Nat.zero_le _, hk7.ext, s7, by simp, fun j hj => by omega, ⟨_, hk7.at⟩⟩, ?_⟩
  rintro n12 w13 ⟨k, i, ts, e1, hl7, rfl, hi, x13, _, hts, hpre, hrow⟩
  simp only [Option.some.injEq, at0, Addr.mk.injEq, and_true] at e1
  subst e1
  intros
  refine condB_of (fun hlt => ?_) (fun hge => ?_)
  · simp only [decide_eq_true_eq] at hlt
    rw [Int.toNat_natCast] at hlt
    have hwr : IntKind.i64.wrap ((i : Int) + 1) = ((i + 1 : Nat) : Int) := by rw [w64 (by omega)]; omega
    rw [hwr, Int.toNat_natCast, Nat.mul_one]
    refine ⟨⟨by omega, by omega⟩, hrow.live (by simp; omega), fun w23 s23 => ?_⟩
    obtain ⟨ts', h1, h2, h3⟩ := bools_set (f := fun _ => true) hrow hts (by omega) hpre s23 rfl
    exact ⟨⟨k7, i + 1, ts', rfl, by omega, rfl, by omega, setc_new x13 s7 s23, s7, h1, h2, h3⟩, by show 100 - (((i + 1 : Nat) : Int)).toNat < 100 - ((i : Int)).toNat; omega⟩
  · simp only [decide_eq_false_iff_not] at hge
    rw [Int.toNat_natCast] at hge
    have hil : i = s.M.length := by omega
    subst hil
    rw [Int.toNat_natCast]
    refine (rput_spec (IsRA.ext h x13) ho n m (hd.ext x13) (bools_row hrow hts) rfl (fun hG => by have := IsRA.lt h _ hG; omega) hrow.lt (to := fun j => ts.getD j false) fun _ => rfl).mono ?_
    rw [putM_congr (to' := fun _ => true) fun j hj => hpre j hj]
    rintro e w' ⟨G', rfl, hst, hR⟩
    exact ⟨_, _, rfl, G', rfl, (Step.ext x13).trans hst, hR⟩
end Go.Proofs.YtenfnapoigafmaaGreat

/- The document's Mend of a vote. -/
namespace Go.Proofs.YtenfnapoigafmaaGreat
open Go Go.Vc

/-- which disks are to be mended -/
def toF (n : Int) (b : Say) (s : StA) (i : Nat) : Bool := toM (s.M.map fun m => !m.d.dead) (saysM n s.M) b i
theorem toF_at {n : Int} {b : Say} {s : StA} {i : Nat} {m : Mem} (hm : s.M[i]? = some m) : toF n b s i = (!m.d.dead && !((saidOf n m).is && decide (((saidOf n m).epoch, (saidOf n m).data) = b))) := by
  unfold toF toM
  have h1 : (saysM n s.M)[i]? = some (saidOf n m) := by simp [saysM, hm]
  rw [h1, List.getD_eq_getElem?_getD, List.getElem?_map, hm]
  rfl

def MendI (w : World) (s : StA) (n : Int) : Option Addr → Nat → Nat → Option Addr → Option Addr → Nat → Nat → World → Int → World → Prop := fun p6 l6 _ q15 q23 l23 _ _ n32 w33 =>
  ∃ (wb : World) (k15 k23 i : Nat) (ts : List Bool) (b : Say) (cn : Nat) (q : Option Addr) (m cc : Nat) (v0 v3 v4 : Value), q15 = some (at0 k15) ∧ q23 = some (at0 k23) ∧ n32 = i ∧ i ≤ s.M.length ∧ l6 = s.M.length ∧ l23 = s.M.length ∧ Ext w wb ∧ Ext wb w33 ∧ wb.heap.size ≤ k23 ∧
    RSAt wb p6 l6 (saysM n s.M) ∧ RowW wb k15 #[v0, .int .i64 b.1, .slice q m cc, v3, v4] ∧ BytesAt wb q m b.2 ∧ m ≤ 4108 ∧ Best (sayL (saysM n s.M)) b cn ∧ 0 < cn ∧ ts.length = s.M.length ∧ (∀ j, j < i → ts.getD j false = toF n b s j) ∧ RowW w33 k23 (ts.map Value.bool).toArray
def MendR (w : World) (r : Nat) (s : StA) (n : Int) : Value → World → Prop := fun v w' => ∃ G', ∃ b c, (s.down = false → Best (sayL (saysM n s.M)) b c) ∧ v = .tuple #[.int .i64 (mendM n b c s).2.1, .int .i64 (mendM n b c s).2.2] ∧ Step G' G' w w' ∧ IsR w' r (mendM n b c s).1 G'

set_option maxHeartbeats 4000000 in
theorem rmend_spec {w : World} {r : Nat} {s : StA} {G : Nat → Prop} (h : IsR w r s G) (ho : OkA s) (h1 : 1 ≤ s.M.length) {p2 : Option Addr} {l2 c2 : Nat} {ks : List Bool} (hks : BoolsAt w p2 l2 ks) (n : Int) :
    Calls Tryz.prog 19 #[.pointer (some (at0 r)), .slice p2 l2 c2, .int .i64 n] w fun e w' =>
      ∃ G' b c, (s.down = false → Best (sayL (saysM n s.M)) b c) ∧ e = .returned (.tuple #[.int .i64 (mendM n b c s).2.1, .int .i64 (mendM n b c s).2.2]) ∧ Step G G' w w' ∧ IsR w' r (mendM n b c s).1 G' := by
  refine (F19_calls (some (at0 r)) p2 l2 c2 n w (fun v w' => ∃ G' b c, (s.down = false → Best (sayL (saysM n s.M)) b c) ∧ v = .tuple #[.int .i64 (mendM n b c s).2.1, .int .i64 (mendM n b c s).2.2] ∧ Step G G' w w' ∧ IsR w' r (mendM n b c s).1 G')
    (MendI w s n) (fun _ _ _ _ _ _ _ _ n32 _ => 100 - n32.toNat) ?_).mono (by
    rintro e w' ⟨v, rfl, G', b, c, hb, rfl, h⟩; exact ⟨G', b, c, hb, rfl, h⟩)
  have hM : s.M.length ≤ 32 := ho.1
  have hGlt := IsRA.lt h
  refine (rsaid_spec h (by omega) h1 n).mono ?_
  rintro e w4 ⟨x4, hd, hu⟩
  cases hdn : s.down with
  | true =>
    have := hd hdn
    subst this
    refine ⟨_, _, _, _, rfl, condB_of (fun _ => ?_) fun h => by cases h⟩
    have e2 : mendM n (0, []) 0 s = (s, 0, 130) := by unfold mendM; rw [if_pos hdn]
    exact ⟨G, (0, []), 0, fun h => (by cases h), by rw [e2], Step.ext x4, by rw [e2]; exact IsRA.ext h x4⟩
  | false =>
    have hdn' : ¬ s.down = true := by rw [hdn]; simp
    obtain ⟨p6, l6, c6, rows, rfl, hl6, own, hrow⟩ := hu hdn
    have hRS := hrow.at own
    refine ⟨_, _, _, _, rfl, condB_of (fun h => by cases h) fun _ => ?_⟩
    refine (rvote_spec hRS (by omega) (hks.ext x4)).mono ?_
    rintro e w8 ⟨x8, v, b, cn, q, m, cc, rfl, hB, rfl, hbb, hm⟩
    refine ⟨_, _, _, _, _, _, _, rfl, fun k15 w16 hk15 => ?_⟩
    have s15 : w8.heap.size ≤ k15 := by rw [hk15.size.1]; exact Nat.le_refl _
    refine fill5 (v0 := .bool (decide (0 < cn))) (v1 := .int .i64 b.1) (v2 := .slice q m cc) (v3 := .int .i64 ((cn : Nat) : Int)) (v4 := .bool (wit ks (saysM n s.M))) hk15.ext s15 ⟨_, hk15.at⟩ fun w21 x21 _ r21 => ?_
    have y21 := (x4.trans x8).trans x21
    refine ⟨_, r21.row.cell rfl, condB_of (fun hz => ?_) (fun hz => ?_)⟩
    · have hcz : ¬ 0 < cn := by simpa using hz
      have e2 : mendM n b cn s = (s, 0, 0) := by unfold mendM; rw [if_neg hdn', if_pos (by omega)]
      exact ⟨G, b, cn, fun _ => hB, by rw [e2], Step.ext y21, by rw [e2]; exact IsRA.ext h y21⟩
    · have hcp : 0 < cn := by simpa using hz
      refine ⟨⟨by omega, by omega, by omega⟩, fun k23 w24 hk23 => ?_⟩
      rw [made_bools, Int.toNat_natCast] at hk23
      have s23 : w21.heap.size ≤ k23 := by rw [hk23.size.1]; exact Nat.le_refl _
      refine ⟨⟨w21, k15, k23, 0, List.replicate s.M.length false, b, cn, q, m, cc, _, _, _, rfl, rfl, rfl, Nat.zero_le _, hl6, by rw [Int.toNat_natCast]; exact hl6, y21, hk23.ext, s23, hRS.ext (x8.trans x21), r21, hbb.ext x21, hm, hB, hcp, by simp, fun j hj => by omega, by rw [← hl6]; exact ⟨_, hk23.at⟩⟩, ?_⟩
      clear hcp hz hbb hB hm r21 hrow own hRS
      rintro n32 w33 ⟨wb, k15', k23', i, ts, b, cn, q, m, cc, v0, v3, v4, e1, e2, rfl, hi, _, _, yb, x33, sb, hRS, rb, hbb, hm, hB, hcp, hts, hpre, hrow⟩
      simp only [Option.some.injEq, at0, Addr.mk.injEq, and_true] at e1 e2
      subst e1
      subst e2
      intros
      have y33 := yb.trans x33
      have hwr : i < s.M.length → IntKind.i64.wrap ((i : Int) + 1) = ((i + 1 : Nat) : Int) := fun hi => by rw [w64 (by omega)]; omega
      refine condB_of (fun hlt => fun w84 d84 => ?_) (fun hge => ?_)
      · simp only [decide_eq_true_eq] at hlt
        rw [hwr (by omega), Int.toNat_natCast]
        have mu : 100 - (((i + 1 : Nat) : Int)).toNat < 100 - ((i : Int)).toNat := by omega
        obtain ⟨me, hme⟩ : ∃ me, s.M[i]? = some me := ⟨s.M[i]'(by omega), List.getElem?_eq_getElem _⟩
        have hsi : (saysM n s.M)[i]? = some (saidOf n me) := by simp [saysM, hme]
        obtain ⟨a, q', n', c', rfl, e0, e1, e2, e3, hbs, hn'⟩ := hRS.2 i _ hsi
        have x84 := x33.trans d84.ext
        have rb84 : RowW w84 k15 _ := x84.rowW rb id
        refine ⟨⟨by omega, hlt⟩, _, _, _, x84.cell e3 id, _, _, _, rb84.row.cell rfl, (same_spec (hbs.ext x84) (hbb.ext x84) (by omega)).mono ?_⟩
        rintro e w88 ⟨rfl, hq⟩
        refine ⟨_, rfl, fun w91 d91 => ?_⟩
        have x91 := (x84.trans hq.ext).trans d91.ext
        have z91 : Ext w33 w91 := (d84.ext.trans hq.ext).trans d91.ext
        have hR91 : IsR w91 r s G := IsRA.ext h (yb.trans x91)
        obtain ⟨ap, cD', bd, Fi, g0, g1, gd, _, _⟩ := IsRA.at hR91 (dsOf_at hme)
        rw [dsOf_len] at g0
        obtain ⟨pL, lL, cL, pW, lW, cW, G', grow, _, _⟩ := gd.row
        have rb91 : RowW w91 k15 _ := x91.rowW rb id
        have hrow91 : RowW w91 k23 _ := z91.rowW hrow id
        have fin : ∀ {bv : Bool} {wn : World}, SetC w91 ((at0 k23).add (i * 1)) (.bool bv) wn → bv = toF n b s i →
            MendI w s n (some a) l6 c6 (some (at0 k15)) (some (at0 k23)) l6 l6 w24 ((i + 1 : Nat) : Int) wn := fun {bv wn} hs hb => by
          rw [Nat.mul_one] at hs
          obtain ⟨ts', t1, t2, t3⟩ := bools_set (f := toF n b s) hrow91 hts (by omega) hpre hs hb
          exact ⟨wb, k15, k23, i + 1, ts', b, cn, q, m, cc, v0, v3, v4, rfl, rfl, rfl, by omega, hl6, hl6, yb, setc_new x91 sb hs, sb, hRS, rb, hbb, hm, hB, hcp, t1, t2, t3⟩
        have live : Live w91 ((at0 k23).add (i * 1)) := by rw [Nat.mul_one]; exact hrow91.live (by simp; omega)
        rw [toF_at hme] at fin
        refine ⟨_, _, _, g0, ⟨by omega, by omega⟩, _, g1, _, grow.row.cell rfl, condB_of (fun hdd => ⟨⟨by omega, hlt⟩, _, x91.cell e0 id, condB_of (fun his => ⟨⟨by omega, hlt⟩, _, x91.cell e2 id, _, rb91.row.cell rfl, condB_of (fun hep => ?_) fun hep => ?_⟩) fun his => ?_⟩) fun hdd => ?_⟩
        · simp only [decide_eq_true_eq] at hep
          refine ⟨⟨by omega, by omega⟩, live, fun w103 s103 => ⟨fin s103 ?_, mu⟩⟩
          have hdd' : me.d.dead = false := by simpa using hdd
          rw [hdd', his]
          simp only [Bool.not_false, Bool.true_and]
          congr 1
          rw [decide_eq_decide]
          constructor
          · intro h; exact Prod.ext hep h
          · intro h; rw [← h]
        · simp only [decide_eq_false_iff_not] at hep
          refine ⟨⟨by omega, by omega⟩, live, fun w103 s103 => ⟨fin s103 ?_, mu⟩⟩
          have hdd' : me.d.dead = false := by simpa using hdd
          rw [hdd', his, decide_eq_false (fun hh => hep (by rw [← hh]))]
          rfl
        · refine ⟨⟨by omega, by omega⟩, live, fun w103 s103 => ⟨fin s103 ?_, mu⟩⟩
          have hdd' : me.d.dead = false := by simpa using hdd
          rw [hdd', his]
          rfl
        · refine ⟨⟨by omega, by omega⟩, live, fun w103 s103 => ⟨fin s103 ?_, mu⟩⟩
          have hdd' : me.d.dead = true := by simpa using hdd
          rw [hdd']
          rfl
      · simp only [decide_eq_false_iff_not] at hge
        have hil : i = s.M.length := by omega
        subst hil
        have rb33 : RowW w33 k15 _ := x33.rowW rb id
        rw [Int.toNat_natCast]
        refine ⟨_, rb33.row.cell rfl, _, _, _, rb33.row.cell rfl, ?_⟩
        refine (rput_spec (IsRA.ext h y33) ho n b.1 (hbb.ext x33) (bools_row hrow (hts.trans hl6.symm)) hl6 (fun hG => by have := hGlt _ hG; have := yb.size; omega) hrow.lt (to := fun j => ts.getD j false) fun _ => rfl).mono ?_
        rw [putM_congr (to' := toF n b s) fun j hj => hpre j hj]
        rintro e w' ⟨G', rfl, hst, hR⟩
        have e2 : mendM n b cn s = putM (toF n b s) n b.1 b.2 s := by
          unfold mendM
          rw [if_neg hdn', if_neg (by omega)]
          rfl
        exact ⟨_, _, rfl, G', b, cn, fun _ => hB, by rw [e2], (Step.ext y33).trans hst, by rw [e2]; exact hR⟩
end Go.Proofs.YtenfnapoigafmaaGreat

/- Both arrays: a call of a script on votes. -/
namespace Go.Proofs.YtenfnapoigafmaaGreat
open Go Go.Vc

theorem putM_ok {to : Nat → Bool} {addr epoch : Int} {d : List UInt8} {s : StA} (h : OkA s) : OkA (putM to addr epoch d s).1 ∧ (putM to addr epoch d s).1.M.length = s.M.length := by
  have := putS_ok (to := to) (n := addr) (b := packM addr epoch d) h s.M.length
  unfold putM
  split
  · split <;> exact ⟨this.1, this.2.1⟩
  · exact ⟨h, rfl⟩
theorem mendM_ok {n : Int} {b : Say} {c : Nat} {s : StA} (h : OkA s) : OkA (mendM n b c s).1 ∧ (mendM n b c s).1.M.length = s.M.length := by
  unfold mendM
  split
  · exact ⟨h, rfl⟩
  · split
    · exact ⟨h, rfl⟩
    · exact putM_ok h
theorem mendM_uniq {n : Int} {b b' : Say} {c c' : Nat} {s : StA} (h : s.down = false → Best (sayL (saysM n s.M)) b c) (h' : s.down = false → Best (sayL (saysM n s.M)) b' c') : mendM n b c s = mendM n b' c' s := by
  cases hd : s.down with
  | true => unfold mendM; rw [if_pos hd, if_pos hd]
  | false =>
    obtain ⟨rfl, rfl⟩ := (h hd).unique (h' hd)
    rfl

/-- what a vote tells -/
def VoteOf (s : StA) (n : Int) (ks : List Bool) (hh : Bool) (ep : Int) (d : List UInt8) (cnt : Int) (wt : Bool) (z : Int) : Prop :=
  (s.down = true ∧ hh = false ∧ ep = 0 ∧ d = [] ∧ cnt = 0 ∧ wt = false ∧ z = 130) ∨ (s.down = false ∧ ∃ b c, Best (sayL (saysM n s.M)) b c ∧ hh = decide (0 < c) ∧ ep = b.1 ∧ d = b.2 ∧ cnt = (c : Int) ∧ wt = wit ks (saysM n s.M) ∧ z = 0)
theorem VoteOf.unique {s : StA} {n : Int} {ks : List Bool} {hh hh' : Bool} {ep ep' : Int} {d d' : List UInt8} {cnt cnt' : Int} {wt wt' : Bool} {z z' : Int} (h : VoteOf s n ks hh ep d cnt wt z) (h' : VoteOf s n ks hh' ep' d' cnt' wt' z') :
    hh = hh' ∧ ep = ep' ∧ d = d' ∧ cnt = cnt' ∧ wt = wt' ∧ z = z' := by
  rcases h with ⟨h0, rfl, rfl, rfl, rfl, rfl, rfl⟩ | ⟨h0, b, c, hb, rfl, rfl, rfl, rfl, rfl, rfl⟩
  · rcases h' with ⟨_, rfl, rfl, rfl, rfl, rfl, rfl⟩ | ⟨h1, _⟩
    · exact ⟨rfl, rfl, rfl, rfl, rfl, rfl⟩
    · rw [h0] at h1; cases h1
  · rcases h' with ⟨h1, _⟩ | ⟨_, b', c', hb', rfl, rfl, rfl, rfl, rfl, rfl⟩
    · rw [h0] at h1; cases h1
    · obtain ⟨rfl, rfl⟩ := hb.unique hb'
      exact ⟨rfl, rfl, rfl, rfl, rfl, rfl⟩

theorem vA_read {w : World} {a : Nat} {s : StA} {F : Nat → Prop} (h : IsA w a s F) (ho : OkA s) (h1 : 1 ≤ s.M.length) {p2 : Option Addr} {l2 c2 : Nat} {ks : List Bool} (hks : BoolsAt w p2 l2 ks) (n : Int) :
    Calls Tryz.prog 11 #[.pointer (some (at0 a)), .slice p2 l2 c2, .int .i64 n] w fun e w' => Ext w w' ∧ ∃ hh ep q l c d cnt wt z, e = .returned (.tuple #[voteV hh ep q l c cnt wt, .int .i64 z]) ∧ BytesAt w' q l d ∧ l ≤ 4611686018427387904 ∧ VoteOf s n ks hh ep d cnt wt z := by
  obtain ⟨M, left, down⟩ := s
  have hM : M.length ≤ 32 := ho.1
  cases down with
  | true =>
    refine (vread_down (show IsArr w a M left true F from h) (by omega) h1 p2 l2 c2 n).mono ?_
    rintro e w' ⟨rfl, hx⟩
    exact ⟨hx, _, _, _, _, _, [], _, _, _, rfl, BytesAt.nil _ _, by omega, .inl ⟨rfl, rfl, rfl, rfl, rfl, rfl, rfl⟩⟩
  | false =>
    refine (vread_spec (show IsArr w a M left false F from h) (by omega) h1 hks n).mono ?_
    rintro e w' ⟨hx, v, b, c, k, cc, rfl, hb, rfl, _, hd⟩
    refine ⟨hx, _, _, _, _, _, b.2, _, _, _, rfl, hd, ?_, .inr ⟨rfl, b, c, hb, rfl, rfl, rfl, rfl, rfl, rfl⟩⟩
    rcases hb with ⟨_, rfl, _⟩ | ⟨hm, _⟩
    · simp
    · have := (say_bound hm).2.2; omega
theorem vR_read {w : World} {r : Nat} {s : StA} {G : Nat → Prop} (h : IsR w r s G) (ho : OkA s) (h1 : 1 ≤ s.M.length) {p2 : Option Addr} {l2 c2 : Nat} {ks : List Bool} (hks : BoolsAt w p2 l2 ks) (n : Int) :
    Calls Tryz.prog 17 #[.pointer (some (at0 r)), .slice p2 l2 c2, .int .i64 n] w fun e w' => Ext w w' ∧ ∃ hh ep q l c d cnt wt z, e = .returned (.tuple #[voteV hh ep q l c cnt wt, .int .i64 z]) ∧ BytesAt w' q l d ∧ VoteOf s n ks hh ep d cnt wt z := by
  have hM : s.M.length ≤ 32 := ho.1
  refine (rvread_spec h (by omega) h1 hks n).mono ?_
  rintro e w' ⟨hx, hd, hu⟩
  refine ⟨hx, ?_⟩
  cases hdn : s.down with
  | true =>
    have := hd hdn
    subst this
    exact ⟨_, _, _, _, _, [], _, _, _, rfl, BytesAt.nil _ _, .inl ⟨hdn, rfl, rfl, rfl, rfl, rfl, rfl⟩⟩
  | false =>
    obtain ⟨v, b, c, q, m, cc, rfl, hb, rfl, hbb, _⟩ := hu hdn
    exact ⟨_, _, _, _, _, b.2, _, _, _, rfl, hbb, .inr ⟨hdn, b, c, hb, rfl, rfl, rfl, rfl, rfl, rfl⟩⟩

set_option maxHeartbeats 4000000 in
theorem didV_spec {w0 w : World} {a r : Nat} {s : StA} {F G : Nat → Prop} (h : Pair w a r s F G) (ho : OkA s) (h1 : 1 ≤ s.M.length) (hx : Ext w0 w) (hF : ∀ x, F x → w0.heap.size ≤ x) (hG : ∀ x, G x → w0.heap.size ≤ x) {c : CallV} {p3 : Option Addr} {l3 c3 : Nat} {p4 : Option Addr} {l4 c4 : Nat} {p5 : Option Addr} {l5 c5 : Nat} {p6 : Option Addr} {l6 c6 : Nat}
    (hd : BytesAt w0 p3 l3 c.data) (hl3 : l3 ≤ 4611686018427387904) (hks : BoolsAt w0 p4 l4 c.knows) (hb : BytesAt w0 p5 l5 c.arr.b) (hk : l6 = c.arr.keep.length ∧ ∀ i ks, c.arr.keep[i]? = some ks → ∃ a q n c, p6 = some a ∧ w0.cell? (a.add (i * 1)) = some (.slice q n c) ∧ IntsAt w0 q n ks)
    (hn : -9223372036854775808 ≤ c.arr.n ∧ c.arr.n ≤ 9223372036854775807) (hm : -9223372036854775808 ≤ c.arr.m ∧ c.arr.m ≤ 9223372036854775807) (hs : ∀ ks ∈ c.arr.keep, ks.length ≤ 9223372036854775807) :
    Calls Tryz.prog 8 #[.pointer (some (at0 a)), .pointer (some (at0 r)), .agg #[.int .i64 c.kind, .int .i64 c.n, .int .i64 c.m, .slice p3 l3 c3, .slice p4 l4 c4, .int .i64 c.arr.kind, .int .i64 c.arr.d, .int .i64 c.arr.n, .int .i64 c.arr.m, .int .u8 (c.arr.y.toNat : Int), .slice p5 l5 c5, .slice p6 l6 c6]] w fun e w' => e = .returned (.bool true) ∧
      ∃ s' F' G', Pair w' a r s' F' G' ∧ Step (fun x => F x ∨ G x) (fun x => F' x ∨ G' x) w w' ∧ OkA s' ∧ s'.M.length = s.M.length := by
  refine (F8_calls (some (at0 a)) (some (at0 r)) c.kind c.n c.m p3 l3 c3 p4 l4 c4 c.arr.kind c.arr.d c.arr.n c.arr.m (c.arr.y.toNat : Int) p5 l5 c5 p6 l6 c6 w (fun v w' => v = .bool true ∧ ∃ s' F' G', Pair w' a r s' F' G' ∧ Step (fun x => F x ∨ G x) (fun x => F' x ∨ G' x) w w' ∧ OkA s' ∧ s'.M.length = s.M.length) ?_).mono (by
    rintro e w' ⟨v, rfl, rfl, h⟩; exact ⟨rfl, h⟩)
  intro k15 w16 hk15
  have r16 : RowW w16 k15 #[.int .i64 c.kind, .int .i64 c.n, .int .i64 c.m, .slice p3 l3 c3, .slice p4 l4 c4, .int .i64 c.arr.kind, .int .i64 c.arr.d, .int .i64 c.arr.n, .int .i64 c.arr.m, .int .u8 (c.arr.y.toNat : Int), .slice p5 l5 c5, .slice p6 l6 c6] := ⟨_, hk15.at⟩
  have x16 := hk15.ext
  have h16 := h.ext x16
  have y16 := hx.trans x16
  have kF : ¬ F k15 := fun hf => by have := IsArr.lt h.arr _ hf; have := hk15.size.1; omega
  refine ⟨_, r16.row.cell rfl, condB_of (fun hk1 => ?_) fun hk1 => condB_of (fun hk2 => ?_) fun hk2 => condB_of (fun hk3 => ?_) fun hk3 => ?_⟩
  · -- a write
    refine ⟨_, r16.row.cell rfl, _, r16.row.cell rfl, _, _, _, r16.row.cell rfl, (vwrite_spec h16.arr ho c.n c.m (hd.ext y16) hl3).mono ?_⟩
    rintro e w21 ⟨F', rfl, hs1, hA⟩
    have r21 : RowW w21 k15 _ := hs1.upd.rowW r16 kF
    have y21 := (ext_stepA y16 hs1 hF).1
    refine ⟨_, _, rfl, _, r21.row.cell rfl, _, r21.row.cell rfl, _, _, _, r21.row.cell rfl, (rwrite17_spec (h16.mid hs1) ho c.n c.m (hd.ext y21)).mono ?_⟩
    rintro e w28 ⟨G', rfl, hs2, hR⟩
    obtain ⟨hP, hst⟩ := h16.both hs1 hA hs2 hR
    exact ⟨_, _, rfl, condB_t (decide_eq_true rfl) ⟨by simp, _, F', G', hP, (Step.ext x16).trans hst, putM_ok ho⟩⟩
  · -- a read
    refine ⟨_, _, _, r16.row.cell rfl, _, r16.row.cell rfl, (vA_read h16.arr ho h1 (hks.ext y16) c.n).mono ?_⟩
    rintro e w34 ⟨x34, hh, ep, q, l, cc, d, cnt, wt, z, rfl, hb34, hl, hv⟩
    refine ⟨_, _, _, _, _, _, _, _, rfl, fun k42 w43 hk42 => ?_⟩
    have s42 : w34.heap.size ≤ k42 := by rw [hk42.size.1]; exact Nat.le_refl _
    refine fill5 (v0 := .bool hh) (v1 := .int .i64 ep) (v2 := .slice q l cc) (v3 := .int .i64 cnt) (v4 := .bool wt) hk42.ext s42 ⟨_, hk42.at⟩ fun w48 x48 _ r48 => ?_
    have z48 := x34.trans x48
    have q48 : RowW w48 k15 _ := z48.rowW r16 id
    refine ⟨_, _, _, q48.row.cell rfl, _, q48.row.cell rfl, (vR_read (IsRA.ext h16.ref z48) ho h1 (hks.ext (y16.trans z48)) c.n).mono ?_⟩
    rintro e w51 ⟨x51, hh', ep', q', l', cc', d', cnt', wt', z', rfl, hb51, hv'⟩
    obtain ⟨rfl, rfl, rfl, rfl, rfl, rfl⟩ := hv.unique hv'
    refine ⟨_, _, _, _, _, _, _, _, rfl, fun k59 w60 hk59 => ?_⟩
    have s59 : w51.heap.size ≤ k59 := by rw [hk59.size.1]; exact Nat.le_refl _
    refine fill5 (v0 := .bool hh) (v1 := .int .i64 ep) (v2 := .slice q' l' cc') (v3 := .int .i64 cnt) (v4 := .bool wt) hk59.ext s59 ⟨_, hk59.at⟩ fun w65 x65 _ r65 => ?_
    have r65a : RowW w65 k42 _ := (x51.trans x65).rowW r48 id
    refine ⟨_, r65a.row.cell (n := 0) rfl, _, r65a.row.cell rfl, _, _, _, r65a.row.cell rfl, _, r65a.row.cell rfl, _, r65a.row.cell rfl, _, r65.row.cell (n := 0) rfl, _, r65.row.cell rfl, _, _, _, r65.row.cell rfl, _, r65.row.cell rfl, _, r65.row.cell rfl, ?_⟩
    refine (vsame_spec (hb34.ext (x48.trans (x51.trans x65))) (hb51.ext x65) hl).mono ?_
    rintro e w76 ⟨rfl, x76⟩
    have xx := (z48.trans (x51.trans x65)).trans x76
    exact ⟨_, rfl, condB_t rfl ⟨by simp, s, F, G, h16.ext xx, Step.ext (x16.trans xx), ho, rfl⟩⟩
  · -- a mend
    refine ⟨_, _, _, r16.row.cell rfl, _, r16.row.cell rfl, (vmend_spec h16.arr ho h1 p4 l4 c4 c.n).mono ?_⟩
    rintro e w81 ⟨F', b, cn, hB, rfl, hs1, hA⟩
    have r81 : RowW w81 k15 _ := hs1.upd.rowW r16 kF
    have y81 := (ext_stepA y16 hs1 hF).1
    refine ⟨_, _, rfl, _, _, _, r81.row.cell rfl, _, r81.row.cell rfl, (rmend_spec (h16.mid hs1) ho h1 (hks.ext y81) c.n).mono ?_⟩
    rintro e w87 ⟨G', b', cn', hB', rfl, hs2, hR⟩
    rw [← mendM_uniq hB hB'] at hR ⊢
    obtain ⟨hP, hst⟩ := h16.both hs1 hA hs2 hR
    exact ⟨_, _, rfl, condB_t (decide_eq_true rfl) ⟨by simp, _, F', G', hP, (Step.ext x16).trans hst, mendM_ok ho⟩⟩
  · -- something else
    have cell5 : ∀ {j : Nat} {v : Value}, w16.cell? ((at0 k15).add (5 + j)) = some v → w16.cell? (((at0 k15).add 5).add j) = some v := fun h => by rw [add_add]; exact h
    refine ⟨_, r16.row.cell rfl, _, cell5 (r16.row.cell rfl), _, cell5 (r16.row.cell rfl), _, cell5 (r16.row.cell rfl), _, cell5 (r16.row.cell rfl), _, _, _, cell5 (r16.row.cell rfl), _, _, _, cell5 (r16.row.cell rfl), ?_⟩
    refine (did_spec (w0 := w0) h16 ho y16 hF hG hb hk hm hs).mono ?_
    rintro e w98 ⟨rfl, F', G', hP, hst⟩
    exact ⟨_, rfl, rfl, _, F', G', hP, (Step.ext x16).trans hst, ho.call hn, callA_len _ _⟩

theorem both_good {n s : Int} (hn : 1 ≤ n ∧ n ≤ 32) (hs : 1 ≤ s ∧ s ≤ 4096) (w : World) : Calls Tryz.prog 5 #[.int .i64 n, .int .i64 s] w fun e1 w1 => ∃ a, e1 = .returned (.tuple #[.pointer (some (at0 a)), .int .i64 0]) ∧
    Calls Tryz.prog 6 #[.int .i64 n, .int .i64 s] w1 fun e2 w2 => ∃ r F G, e2 = .returned (.tuple #[.pointer (some (at0 r)), .int .i64 0]) ∧ Ext w w2 ∧ Pair w2 a r (begA n.toNat s) F G ∧ OkA (begA n.toNat s) ∧ 1 ≤ (begA n.toNat s).M.length ∧ (∀ x, F x ∨ G x → w.heap.size ≤ x) := by
  refine (anew_good (n := n) (s := s) hn hs w).mono ?_
  rintro e w1 ⟨a, F, rfl, x1, h1, hF⟩
  refine ⟨_, rfl, (ra_new_good (n := n) (s := s) hn hs w1).mono ?_⟩
  rintro e w2 ⟨r, G, rfl, x2, h2, hG⟩
  have hA : IsA w2 a (begA n.toNat s) F := IsArr.ext h1 x2
  have hR : IsR w2 r (begA n.toNat s) G := by
    have e1 : dsOf (begA n.toNat s) = List.replicate n.toNat ⟨s, [], [], false⟩ := by simp [dsOf, begA]
    have e2 : bsOf (begA n.toNat s) = List.replicate n.toNat 0 := by simp [bsOf, begA]
    unfold IsR
    rw [e1, e2]; exact h2
  refine ⟨r, F, G, rfl, x1.trans x2, ⟨hA, hR, fun x hf hg => ?_⟩, begA_ok (by omega), by simp [begA]; omega, ?_⟩
  · have := IsArr.lt h1 x hf
    have := hG x hg
    omega
  · rintro x (hx | hx)
    · exact hF x hx
    · exact Nat.le_trans x1.size (hG x hx)
end Go.Proofs.YtenfnapoigafmaaGreat
