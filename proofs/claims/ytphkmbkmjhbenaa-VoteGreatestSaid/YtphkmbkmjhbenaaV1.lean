/- Numbers in four bytes, and the sum of bytes. -/
import Derived.Test.YtphkmbkmjhbenaaA4
import Derived.Test.YtphkmbkmjhbenaaGb
import Derived.Laws.BitsAllLaws
namespace Go.Proofs.Ytphkmbkmjhbenaa
open Go Go.Vc

/-- a slice's part -/
theorem cutB {w : World} {p : Option Addr} {l c : Nat} {bs : List UInt8} (h : BytesAt w p l bs) {a b : Nat} (hb : b ≤ l) (ha : a ≤ b) (hc : l ≤ c) :
    BytesAt w (cutP p c a 1) (b - a) ((bs.take b).drop a) := by
  have hl := h.1
  refine ⟨by simp; omega, fun hne => ?_⟩
  have hab : a < b := by
    rcases Nat.lt_or_ge a b with h1 | h1
    · exact h1
    · exact (hne (List.eq_nil_of_length_eq_zero (by simp; omega))).elim
  obtain ⟨x, rfl, hx⟩ := h.2 (by rintro rfl; simp at hl; omega)
  unfold cutP
  rw [if_neg (by omega)]
  refine ⟨_, rfl, fun i hi => ?_⟩
  have hi' : i < b - a := by simp at hi; omega
  rw [Nat.mul_one, add_add, hx (a + i) (by omega)]
  congr 4
  simp only [List.getD_eq_getElem?_getD, List.getElem?_drop, List.getElem?_take]
  rw [if_pos (by omega)]

/-! ## the sum -/
def sh (x : Int) (n : Int) : Int := x.fdiv (2 ^ (min n.toNat IntKind.u32.bits))
def crcBit (x : Int) : Int := bitsV .xor .u32 (x.fdiv (2 ^ (min (1 : Int).toNat IntKind.u32.bits))) (bitsV .and .u32 (2197175160 : Int) (IntKind.u32.wrap (0 - (bitsV .and .u32 x (1 : Int)))))
def crcBits : Nat → Int → Int
  | 0, x => x
  | n + 1, x => crcBit (crcBits n x)
def crcByte (x : Int) (b : UInt8) : Int :=
  if bitsV .and .u32 (bitsV .xor .u32 x (IntKind.u32.wrap (b.toNat : Int))) (255 : Int) = 0 then (bitsV .xor .u32 x (IntKind.u32.wrap (b.toNat : Int))).fdiv (2 ^ (min (8 : Int).toNat IntKind.u32.bits))
  else crcBits 8 (bitsV .xor .u32 x (IntKind.u32.wrap (b.toNat : Int)))
theorem crcByte_pos {x : Int} {b : UInt8} (h : bitsV .and .u32 (bitsV .xor .u32 x (IntKind.u32.wrap (b.toNat : Int))) (255 : Int) = 0) :
    crcByte x b = (bitsV .xor .u32 x (IntKind.u32.wrap (b.toNat : Int))).fdiv (2 ^ (min (8 : Int).toNat IntKind.u32.bits)) := if_pos h
theorem crcByte_neg {x : Int} {b : UInt8} (h : bitsV .and .u32 (bitsV .xor .u32 x (IntKind.u32.wrap (b.toNat : Int))) (255 : Int) ≠ 0) :
    crcByte x b = crcBits 8 (bitsV .xor .u32 x (IntKind.u32.wrap (b.toNat : Int))) := if_neg h
def crcNot (x : Int) : Int := bitsV .xor .u32 (if IntKind.u32.signed then -1 else IntKind.u32.max) x
def crcOn (x : Int) (bs : List UInt8) : Int := crcNot (bs.foldl crcByte (crcNot x))
def crcM (bs : List UInt8) : Int := crcOn 0 bs

theorem u32_range (n : Int) : 0 ≤ IntKind.u32.wrap n ∧ IntKind.u32.wrap n < 4294967296 := by rw [IntKind.wrap_u32']; omega
theorem crcM_range (bs : List UInt8) : 0 ≤ crcM bs ∧ crcM bs < 4294967296 := u32_range _

theorem take_succ_fold {α : Type} (f : α → UInt8 → α) (x : α) (bs : List UInt8) {i : Nat} (hi : i < bs.length) :
    (bs.take (i + 1)).foldl f x = f ((bs.take i).foldl f x) (bs.getD i 0) := by
  rw [List.take_add_one, List.getElem?_eq_getElem hi, List.foldl_append]
  simp [List.getD_eq_getElem?_getD, List.getElem?_eq_getElem hi]

set_option maxHeartbeats 800000 in
theorem more_spec (x : Int) {p : Option Addr} {l c : Nat} {w : World} {bs : List UInt8} (h : BytesAt w p l bs) (hm : l ≤ 4611686018427387904) :
    Calls Try.prog 50 #[.int .u32 x, .slice p l c] w fun e w' => e = .returned (.int .u32 (crcOn x bs)) ∧ w' = w := by
  have hl := h.1
  refine (F50_calls x p l c w (fun v w' => v = .int .u32 (crcOn x bs) ∧ w' = w)
    (fun _ _ _ _ _ n7 n8 w9 => 0 ≤ n8 ∧ n8 ≤ l ∧ w9 = w ∧ n7 = (bs.take n8.toNat).foldl crcByte (crcNot x)) (fun _ _ _ _ _ _ n8 _ => (l - n8).toNat)
    (fun _ _ _ _ n8 _ n41 n42 w43 => 0 ≤ n42 ∧ n42 ≤ 8 ∧ w43 = w ∧ 0 ≤ n8 ∧ n8 < l ∧ n41 = crcBits n42.toNat (bitsV .xor .u32 ((bs.take n8.toNat).foldl crcByte (crcNot x)) (IntKind.u32.wrap ((bs.getD n8.toNat 0).toNat : Int))) ∧
      bitsV .and .u32 (bitsV .xor .u32 ((bs.take n8.toNat).foldl crcByte (crcNot x)) (IntKind.u32.wrap ((bs.getD n8.toNat 0).toNat : Int))) (255 : Int) ≠ 0)
    (fun _ _ _ _ _ _ _ n42 _ => (8 - n42).toNat) ?_).mono (by rintro e w' ⟨v, rfl, rfl, h⟩; exact ⟨rfl, h⟩)
  refine ⟨⟨by omega, by omega, rfl, rfl⟩, ?_⟩
  rintro n7 n8 w9 ⟨h0, h1, rfl, rfl⟩
  intros
  refine condB_of (fun ht => ?_) (fun ht => ?_)
  · simp only [decide_eq_true_eq] at ht
    obtain ⟨a, rfl, ha⟩ := h.get (i := n8.toNat) (by omega)
    refine ⟨⟨h0, ht⟩, _, by rw [Nat.mul_one]; exact ha, condB_of (fun hz => ?_) (fun hz => ?_)⟩
    · simp only [decide_eq_true_eq] at hz
      refine ⟨by omega, ?_⟩
      rw [w64 (n := n8 + 1) (by omega)]
      refine ⟨⟨by omega, by omega, rfl, ?_⟩, by show ((l : Int) - (n8 + 1)).toNat < ((l : Int) - n8).toNat; omega⟩
      rw [show (n8 + 1).toNat = n8.toNat + 1 by omega, take_succ_fold _ _ _ (by omega)]
      exact (crcByte_pos hz).symm
    · simp only [decide_eq_false_iff_not] at hz
      refine ⟨⟨by omega, by omega, rfl, h0, ht, rfl, hz⟩, ?_⟩
      rintro n41 n42 w43 ⟨g0, g1, rfl, _, _, rfl, _⟩
      intros
      refine condB_of (fun hs => ?_) (fun hs => ?_)
      · simp only [decide_eq_true_eq] at hs
        refine ⟨by omega, ?_⟩
        rw [w64 (n := n42 + 1) (by omega)]
        refine ⟨⟨by omega, by omega, rfl, h0, ht, ?_, hz⟩, by show ((8 : Int) - (n42 + 1)).toNat < ((8 : Int) - n42).toNat; omega⟩
        rw [show (n42 + 1).toNat = n42.toNat + 1 by omega]
        rfl
      · simp only [decide_eq_false_iff_not] at hs
        rw [w64 (n := n8 + 1) (by omega)]
        refine ⟨⟨by omega, by omega, rfl, ?_⟩, by show ((l : Int) - (n8 + 1)).toNat < ((l : Int) - n8).toNat; omega⟩
        rw [show (n8 + 1).toNat = n8.toNat + 1 by omega, take_succ_fold _ _ _ (by omega)]
        rw [crcByte_neg hz, show n42.toNat = 8 by omega]
  · simp only [decide_eq_false_iff_not] at ht
    refine ⟨?_, rfl⟩
    rw [show n8.toNat = bs.length by omega, List.take_length]
    rfl

theorem sum_spec {p : Option Addr} {l c : Nat} {w : World} {bs : List UInt8} (h : BytesAt w p l bs) (hm : l ≤ 4611686018427387904) :
    Calls Try.prog 38 #[.slice p l c] w fun e w' => e = .returned (.int .u32 (crcM bs)) ∧ w' = w := by
  refine (F38_calls p l c w (fun v w' => v = .int .u32 (crcM bs) ∧ w' = w) ?_).mono (by rintro e w' ⟨v, rfl, rfl, h⟩; exact ⟨rfl, h⟩)
  refine (more_spec 0 h hm).mono ?_
  rintro e w' ⟨rfl, rfl⟩
  exact ⟨_, rfl, rfl, rfl⟩

/-! ## numbers -/
def numStep (n : Int) (b : UInt8) : Int := bitsV .or .u32 (IntKind.u32.wrap (n * 2 ^ (min (8 : Int).toNat IntKind.u32.bits))) (IntKind.u32.wrap (b.toNat : Int))
def numM (bs : List UInt8) : Int := bs.foldl numStep 0

theorem number_spec {p : Option Addr} {l c : Nat} {w : World} {bs : List UInt8} (h : BytesAt w p l bs) (hm : l ≤ 4611686018427387904) :
    Calls Try.prog 37 #[.slice p l c] w fun e w' => e = .returned (.int .u32 (numM bs)) ∧ w' = w := by
  have hl := h.1
  refine (F37_calls p l c w (fun v w' => v = .int .u32 (numM bs) ∧ w' = w)
    (fun _ _ _ _ _ n6 n7 w8 => 0 ≤ n7 ∧ n7 ≤ l ∧ w8 = w ∧ n6 = (bs.take n7.toNat).foldl numStep 0) (fun _ _ _ _ _ _ n7 _ => (l - n7).toNat) ?_).mono (by rintro e w' ⟨v, rfl, rfl, h⟩; exact ⟨rfl, h⟩)
  refine ⟨⟨by omega, by omega, rfl, rfl⟩, ?_⟩
  rintro n6 n7 w8 ⟨h0, h1, rfl, rfl⟩
  intros
  refine condB_of (fun ht => ?_) (fun ht => ?_)
  · simp only [decide_eq_true_eq] at ht
    obtain ⟨a, rfl, ha⟩ := h.get (i := n7.toNat) (by omega)
    refine ⟨⟨h0, ht⟩, _, by rw [Nat.mul_one]; exact ha, by omega, ?_⟩
    rw [w64 (n := n7 + 1) (by omega)]
    refine ⟨⟨by omega, by omega, rfl, ?_⟩, by show ((l : Int) - (n7 + 1)).toNat < ((l : Int) - n7).toNat; omega⟩
    rw [show (n7 + 1).toNat = n7.toNat + 1 by omega, take_succ_fold _ _ _ (by omega)]
    rfl
  · simp only [decide_eq_false_iff_not] at ht
    refine ⟨?_, rfl⟩
    rw [show n7.toNat = bs.length by omega, List.take_length]
    rfl

theorem u8b (b : UInt8) : b.toNat < 256 := UInt8.toNat_lt b

theorem numStep_eq {n : Int} (h0 : 0 ≤ n) (h1 : n < 16777216) (b : UInt8) : numStep n b = n * 256 + (b.toNat : Int) := by
  have hb := u8b b
  unfold numStep
  have e1 : IntKind.u32.wrap (n * 2 ^ (min (8 : Int).toNat IntKind.u32.bits)) = ((n.toNat <<< 8 : Nat) : Int) := by
    have : (2 : Int) ^ (min (8 : Int).toNat IntKind.u32.bits) = 256 := rfl
    rw [this, IntKind.wrap_u32', Nat.shiftLeft_eq]
    omega
  have e2 : IntKind.u32.wrap (b.toNat : Int) = (b.toNat : Int) := by rw [IntKind.wrap_u32']; omega
  rw [e1, e2]
  show IntKind.u32.wrap (((BitVec.ofInt 32 ((n.toNat <<< 8 : Nat) : Int)) ||| (BitVec.ofInt 32 (b.toNat : Int))).toNat : Int) = _
  have hs : n.toNat <<< 8 = n.toNat * 256 := by rw [Nat.shiftLeft_eq]
  rw [BitVec.toNat_or, ofInt_u32 _ (by omega), ofInt_u32 _ (by omega), ← Nat.shiftLeft_add_eq_or_of_lt (by omega : b.toNat < 2 ^ 8), IntKind.wrap_u32', hs]
  omega

theorem num4 (a b c d : UInt8) : numM [a, b, c, d] = ((a.toNat * 256 + b.toNat) * 256 + c.toNat) * 256 + d.toNat := by
  have ha := u8b a; have hb := u8b b; have hc := u8b c
  simp only [numM, List.foldl_cons, List.foldl_nil]
  rw [numStep_eq (n := 0) (by omega) (by omega) a, numStep_eq (n := 0 * 256 + (a.toNat : Int)) (by omega) (by omega) b, numStep_eq (n := (0 * 256 + (a.toNat : Int)) * 256 + (b.toNat : Int)) (by omega) (by omega) c,
    numStep_eq (n := ((0 * 256 + (a.toNat : Int)) * 256 + (b.toNat : Int)) * 256 + (c.toNat : Int)) (by omega) (by omega) d]
  omega

def fourM (x : Int) : List UInt8 := [UInt8.ofNat (x.toNat / 16777216), UInt8.ofNat (x.toNat / 65536), UInt8.ofNat (x.toNat / 256), UInt8.ofNat x.toNat]
theorem fourM_len (x : Int) : (fourM x).length = 4 := rfl
theorem num_four {x : Int} (h0 : 0 ≤ x) (h1 : x < 4294967296) : numM (fourM x) = x := by
  unfold fourM
  rw [num4]
  simp only [UInt8.toNat_ofNat']
  omega
theorem four_num {bs : List UInt8} (h : bs.length = 4) : 0 ≤ numM bs ∧ numM bs < 4294967296 ∧ fourM (numM bs) = bs := by
  match bs, h with
  | [a, b, c, d], _ =>
    have ha := u8b a; have hb := u8b b; have hc := u8b c; have hd := u8b d
    rw [num4]
    refine ⟨by omega, by omega, ?_⟩
    unfold fourM
    have e : ∀ {n : Nat} {x : UInt8}, n % 256 = x.toNat → UInt8.ofNat n = x := fun {n x} h => UInt8.toNat_inj.1 (by rw [UInt8.toNat_ofNat']; exact h)
    rw [e (x := a) (by omega), e (x := b) (by omega), e (x := c) (by omega), e (x := d) (by omega)]

theorem byte_of {x : Int} (h0 : 0 ≤ x) (k : Nat) : IntKind.u8.wrap (x.fdiv ((k : Nat) : Int)) = ((UInt8.ofNat (x.toNat / k)).toNat : Int) := by
  rw [UInt8.toNat_ofNat']
  have : IntKind.u8.wrap (x.fdiv ((k : Nat) : Int)) = x.fdiv ((k : Nat) : Int) % 256 := by simp [IntKind.wrap, IntKind.bits, IntKind.signed]
  rw [this, Int.fdiv_eq_ediv_of_nonneg _ (by omega)]
  obtain ⟨n, rfl⟩ := Int.eq_ofNat_of_zero_le h0
  simp

theorem four_spec (x : Int) (h0 : 0 ≤ x) (w : World) : Calls Try.prog 55 #[.int .u32 x] w fun e w' => e = .returned (.agg ((encB (fourM x)).toArray)) ∧ Ext w w' := by
  refine (F55_calls x w (fun v w' => v = .agg ((encB (fourM x)).toArray) ∧ Ext w w') ?_).mono (by rintro e w' ⟨v, rfl, rfl, h⟩; exact ⟨rfl, h⟩)
  intro k w3 hk
  have r3 : RowW w3 k #[.int .u8 0, .int .u8 0, .int .u8 0, .int .u8 0] := ⟨_, hk.at⟩
  have e0 : (at0 k) = (at0 k).add 0 := (add_at0 k 0).symm
  refine ⟨by omega, by omega, by omega, by rw [e0]; exact r3.live (by simp), fun w4 s4 => ?_⟩
  rw [e0] at s4
  have r4 := s4.row r3
  refine ⟨r4.live (by simp), fun w5 s5 => ?_⟩
  have r5 := s5.row r4
  refine ⟨r5.live (by simp), fun w6 s6 => ?_⟩
  have r6 := s6.row r5
  refine ⟨r6.live (by simp), fun w7 s7 => ?_⟩
  have r7 := s7.row r6
  have x4 : Ext w w4 := setc_new hk.ext (by rw [hk.size.1]; exact Nat.le_refl _) s4
  have x5 : Ext w w5 := setc_new x4 (by rw [hk.size.1]; exact Nat.le_refl _) s5
  have x6 : Ext w w6 := setc_new x5 (by rw [hk.size.1]; exact Nat.le_refl _) s6
  have x7 : Ext w w7 := setc_new x6 (by rw [hk.size.1]; exact Nat.le_refl _) s7
  refine ⟨_, by rw [e0]; exact r7.row.cell rfl, _, r7.row.cell rfl, _, r7.row.cell rfl, _, r7.row.cell rfl, ?_, x7⟩
  have b0 := byte_of h0 16777216
  have b1 := byte_of h0 65536
  have b2 := byte_of h0 256
  have b3 := byte_of h0 1
  rw [Nat.div_one] at b3
  have b3' : IntKind.u8.wrap x = IntKind.u8.wrap (x.fdiv ((1 : Nat) : Int)) := by simp [Int.fdiv_one]
  show Value.agg #[.int .u8 (IntKind.u8.wrap (x.fdiv ((16777216 : Nat) : Int))), .int .u8 (IntKind.u8.wrap (x.fdiv ((65536 : Nat) : Int))), .int .u8 (IntKind.u8.wrap (x.fdiv ((256 : Nat) : Int))), .int .u8 (IntKind.u8.wrap x)] = _
  rw [b0, b1, b2, b3', b3]
  rfl

theorem fits_spec (n : Int) (w : World) : Calls Try.prog 36 #[.int .i64 n] w fun e w' => e = .returned (.bool (decide (0 ≤ n ∧ n ≤ 2147483647))) ∧ w' = w := by
  refine (F36_calls n w (fun v w' => v = .bool (decide (0 ≤ n ∧ n ≤ 2147483647)) ∧ w' = w) ?_).mono (by rintro e w' ⟨v, rfl, rfl, h⟩; exact ⟨rfl, h⟩)
  refine condB_of (fun h => ⟨?_, rfl⟩) (fun h => ⟨?_, rfl⟩)
  · simp only [decide_eq_true_eq] at h
    congr 1
    simp [h]
  · simp only [decide_eq_false_iff_not] at h
    rw [decide_eq_false (fun h' => h h'.1)]
end Go.Proofs.Ytphkmbkmjhbenaa
