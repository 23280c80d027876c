import Derived.Test.YtnfcfbljdibinaaGreatMA
import Derived.Test.YtnfcfbljdibinaaGreatGb
import Derived.Laws.BitsAllLaws
import Derived.Laws.IdiomStrings
import Derived.Test.YtnfcfbljdibinaaGreatRepS
set_option maxHeartbeats 4000000
namespace Go.Proofs.YtnfcfbljdibinaaGreat
open Go Go.Vc
open Go.IntKind (i64)
open Go.Value (int)
open Go.Proofs.Tryz (prog)
theorem Q94 {w : World} {p : σ} {l c : Nat} {bs : τ} (h : Q3 w p l bs) {a b : Nat} (hb : b <= l) (ha : a <= b) (hc : l <= c) :
  Q3 w (Qu p c a 1) (b - a) ((bs.take b).drop a) := by
 have hl := h.1
 refine ⟨by simp; omega, fun hne => ?_⟩
 have hab : a < b := by
  rcases Nat.lt_or_ge a b with h1 | h1
  ·exact h1
  ·exact (hne (Zk (by simp; omega))).elim
 obtain ⟨x, rfl, hx⟩ := h.2 (by rintro rfl; simp at hl; omega)
 unfold Qu
 rw [if_neg (by omega)]
 refine ⟨_, rfl, fun i hi => ?_⟩
 have hi' : i < b - a := by simp at hi; omega
 rw [Nat.mul_one, Qt, hx (a + i) (by omega)]
 congr 4
 simp only [Zj, List.getElem?_drop, List.getElem?_take]
 rw [if_pos (by omega)]
def sh (x : Int) (n : Int) : Int := x.fdiv (2 ^ (min n.toNat IntKind.u32.bits))
def Qd1 (x : Int) : Int := Qs .xor .u32 (x.fdiv (2 ^ (min (1 : Int).toNat IntKind.u32.bits))) (Qs .and .u32 (2197175160 : Int) (IntKind.u32.wrap (0 - (Qs .and .u32 x (1 : Int)))))
def Qw1 : Nat -> Int -> Int
 | 0, x => x
 | n + 1, x => Qd1 (Qw1 n x)
def QW1 (x : Int) (b : UInt8) : Int :=
 if Qs .and .u32 (Qs .xor .u32 x (IntKind.u32.wrap (b.toNat : Int))) (255 : Int) = 0 then (Qs .xor .u32 x (IntKind.u32.wrap (b.toNat : Int))).fdiv (2 ^ (min (8 : Int).toNat IntKind.u32.bits))
 else Qw1 8 (Qs .xor .u32 x (IntKind.u32.wrap (b.toNat : Int)))
theorem Q15 {x : Int} {b : UInt8} (h : Qs .and .u32 (Qs .xor .u32 x (IntKind.u32.wrap (b.toNat : Int))) (255 : Int) = 0) :
  QW1 x b = (Qs .xor .u32 x (IntKind.u32.wrap (b.toNat : Int))).fdiv (2 ^ (min (8 : Int).toNat IntKind.u32.bits)) := if_pos h
theorem Q05 {x : Int} {b : UInt8} (h : Qs .and .u32 (Qs .xor .u32 x (IntKind.u32.wrap (b.toNat : Int))) (255 : Int) ≠ 0) :
  QW1 x b = Qw1 8 (Qs .xor .u32 x (IntKind.u32.wrap (b.toNat : Int))) := if_neg h
def QS5 (x : Int) : Int := Qs .xor .u32 (if IntKind.u32.signed then -1 else IntKind.u32.max) x
def Qhb (x : Int) (bs : τ) : Int := QS5 (bs.foldl QW1 (QS5 x))
def QEc (bs : τ) : Int := Qhb 0 bs
theorem Qo5 (n : Int) : 0 <= IntKind.u32.wrap n /\ IntKind.u32.wrap n < 4294967296 := by rw [IntKind.wrap_u32']; omega
theorem QR5 (bs : τ) : 0 <= QEc bs /\ QEc bs < 4294967296 := Qo5 _
theorem Q01 {α : Type} (f : α -> UInt8 -> α) (x : α) (bs : τ) {i : Nat} (hi : i < bs.length) :
  (bs.take (i + 1)).foldl f x = f ((bs.take i).foldl f x) (bs.getD i 0) := by
 rw [Zn, Zc hi, List.foldl_append]
 simp [Zj, Zc hi]
theorem QMb (x : Int) {p : σ} {l c : Nat} {w : World} {bs : τ} (h : Q3 w p l bs) (hm : l <= 4611686018427387904) :
  Calls prog 155 #[.int .u32 x, .slice p l c] w fun e w' => e = .returned (.int .u32 (Qhb x bs)) /\ w' = w := by
 have hl := h.1
 refine (F155_calls x p l c w (fun v w' => v = .int .u32 (Qhb x bs) /\ w' = w)
  (fun _ _ _ _ _ n7 n8 w9 => 0 <= n8 /\ n8 <= l /\ w9 = w /\ n7 = (bs.take n8.toNat).foldl QW1 (QS5 x)) (fun _ _ _ _ _ _ n8 _ => (l - n8).toNat)
  (fun _ _ _ _ n8 _ n41 n42 w43 => 0 <= n42 /\ n42 <= 8 /\ w43 = w /\ 0 <= n8 /\ n8 < l /\ n41 = Qw1 n42.toNat (Qs .xor .u32 ((bs.take n8.toNat).foldl QW1 (QS5 x)) (IntKind.u32.wrap ((bs.getD n8.toNat 0).toNat : Int))) ∧
   Qs .and .u32 (Qs .xor .u32 ((bs.take n8.toNat).foldl QW1 (QS5 x)) (IntKind.u32.wrap ((bs.getD n8.toNat 0).toNat : Int))) (255 : Int) ≠ 0)
  (fun _ _ _ _ _ _ _ n42 _ => (8 - n42).toNat) ?_).mono (by rintro e w' ⟨v, rfl, rfl, h⟩; exact ⟨rfl, h⟩)
 refine ⟨⟨by omega, by omega, rfl, rfl⟩, ?_⟩
 rintro n7 n8 w9 ⟨h0, h1, rfl, rfl⟩
 intros
 refine Q0 (fun ht => ?_) (fun ht => ?_)
 ·simp only [Za] at ht
  obtain ⟨a, rfl, ha⟩ := h.get (i := n8.toNat) (by omega)
  refine ⟨⟨h0, ht⟩, _, by rw [Nat.mul_one]; exact ha, Q0 (fun hz => ?_) (fun hz => ?_)⟩
  ·simp only [Za] at hz
   refine ⟨by omega, ?_⟩
   rw [w64 (n := n8 + 1) (by omega)]
   refine ⟨⟨by omega, by omega, rfl, ?_⟩, by show ((l : Int) - (n8 + 1)).toNat < ((l : Int) - n8).toNat; omega⟩
   rw [show (n8 + 1).toNat = n8.toNat + 1 by omega, Q01 _ _ _ (by omega)]
   exact (Q15 hz).symm
  ·simp only [Zb] at hz
   refine ⟨⟨by omega, by omega, rfl, h0, ht, rfl, hz⟩, ?_⟩
   rintro n41 n42 w43 ⟨g0, g1, rfl, _, _, rfl, _⟩
   intros
   refine Q0 (fun hs => ?_) (fun hs => ?_)
   ·simp only [Za] at hs
    refine ⟨by omega, ?_⟩
    rw [w64 (n := n42 + 1) (by omega)]
    refine ⟨⟨by omega, by omega, rfl, h0, ht, ?_, hz⟩, by show ((8 : Int) - (n42 + 1)).toNat < ((8 : Int) - n42).toNat; omega⟩
    rw [show (n42 + 1).toNat = n42.toNat + 1 by omega]
    rfl
   ·simp only [Zb] at hs
    rw [w64 (n := n8 + 1) (by omega)]
    refine ⟨⟨by omega, by omega, rfl, ?_⟩, by show ((l : Int) - (n8 + 1)).toNat < ((l : Int) - n8).toNat; omega⟩
    rw [show (n8 + 1).toNat = n8.toNat + 1 by omega, Q01 _ _ _ (by omega)]
    rw [Q05 hz, show n42.toNat = 8 by omega]
 ·simp only [Zb] at ht
  refine ⟨?_, rfl⟩
  rw [show n8.toNat = bs.length by omega, List.take_length]
  rfl
theorem QP9 {p : σ} {l c : Nat} {w : World} {bs : τ} (h : Q3 w p l bs) (hm : l <= 4611686018427387904) :
  Calls prog 135 #[.slice p l c] w fun e w' => e = .returned (.int .u32 (QEc bs)) /\ w' = w := by
 refine (F135_calls p l c w (fun v w' => v = .int .u32 (QEc bs) /\ w' = w) ?_).mono (by rintro e w' ⟨v, rfl, rfl, h⟩; exact ⟨rfl, h⟩)
 refine (QMb 0 h hm).mono ?_
 rintro e w' ⟨rfl, rfl⟩
 exact ⟨_, rfl, rfl, rfl⟩
def QH6 (n : Int) (b : UInt8) : Int := Qs .or .u32 (IntKind.u32.wrap (n * 2 ^ (min (8 : Int).toNat IntKind.u32.bits))) (IntKind.u32.wrap (b.toNat : Int))
def Qt7 (bs : τ) : Int := bs.foldl QH6 0
theorem Qb3 {p : σ} {l c : Nat} {w : World} {bs : τ} (h : Q3 w p l bs) (hm : l <= 4611686018427387904) :
  Calls prog 156 #[.slice p l c] w fun e w' => e = .returned (.int .u32 (Qt7 bs)) /\ w' = w := by
 have hl := h.1
 refine (F156_calls p l c w (fun v w' => v = .int .u32 (Qt7 bs) /\ w' = w)
  (fun _ _ _ _ _ n6 n7 w8 => 0 <= n7 /\ n7 <= l /\ w8 = w /\ n6 = (bs.take n7.toNat).foldl QH6 0) (fun _ _ _ _ _ _ n7 _ => (l - n7).toNat) ?_).mono (by rintro e w' ⟨v, rfl, rfl, h⟩; exact ⟨rfl, h⟩)
 refine ⟨⟨by omega, by omega, rfl, rfl⟩, ?_⟩
 rintro n6 n7 w8 ⟨h0, h1, rfl, rfl⟩
 intros
 refine Q0 (fun ht => ?_) (fun ht => ?_)
 ·simp only [Za] at ht
  obtain ⟨a, rfl, ha⟩ := h.get (i := n7.toNat) (by omega)
  refine ⟨⟨h0, ht⟩, _, by rw [Nat.mul_one]; exact ha, by omega, ?_⟩
  rw [w64 (n := n7 + 1) (by omega)]
  refine ⟨⟨by omega, by omega, rfl, ?_⟩, by show ((l : Int) - (n7 + 1)).toNat < ((l : Int) - n7).toNat; omega⟩
  rw [show (n7 + 1).toNat = n7.toNat + 1 by omega, Q01 _ _ _ (by omega)]
  rfl
 ·simp only [Zb] at ht
  refine ⟨?_, rfl⟩
  rw [show n7.toNat = bs.length by omega, List.take_length]
  rfl
theorem u8b (b : UInt8) : b.toNat < 256 := UInt8.toNat_lt b
theorem QJ2 {n : Int} (h0 : 0 <= n) (h1 : n < 16777216) (b : UInt8) : QH6 n b = n * 256 + (b.toNat : Int) := by
 have hb := u8b b
 unfold QH6
 have e1 : IntKind.u32.wrap (n * 2 ^ (min (8 : Int).toNat IntKind.u32.bits)) = ((n.toNat <<< 8 : Nat) : Int) := by
  have : (2 : Int) ^ (min (8 : Int).toNat IntKind.u32.bits) = 256 := rfl
  rw [this, IntKind.wrap_u32', Nat.shiftLeft_eq]
  omega
 have e2 : IntKind.u32.wrap (b.toNat : Int) = (b.toNat : Int) := by rw [IntKind.wrap_u32']; omega
 rw [e1, e2]
 show IntKind.u32.wrap (((BitVec.ofInt 32 ((n.toNat <<< 8 : Nat) : Int)) ||| (BitVec.ofInt 32 (b.toNat : Int))).toNat : Int) = _
 have hs : n.toNat <<< 8 = n.toNat * 256 := by rw [Nat.shiftLeft_eq]
 rw [BitVec.toNat_or, ofInt_u32 _ (by omega), ofInt_u32 _ (by omega), ← Nat.shiftLeft_add_eq_or_of_lt (by omega : b.toNat < 2 ^ 8), IntKind.wrap_u32', hs]
 omega
theorem QZf (a b c d : UInt8) : Qt7 [a, b, c, d] = ((a.toNat * 256 + b.toNat) * 256 + c.toNat) * 256 + d.toNat := by
 have ha := u8b a; have hb := u8b b; have hc := u8b c
 simp only [Qt7, List.foldl_cons, List.foldl_nil]
 rw [QJ2 (n := 0) (by omega) (by omega) a, QJ2 (n := 0 * 256 + (a.toNat : Int)) (by omega) (by omega) b, QJ2 (n := (0 * 256 + (a.toNat : Int)) * 256 + (b.toNat : Int)) (by omega) (by omega) c,
  QJ2 (n := ((0 * 256 + (a.toNat : Int)) * 256 + (b.toNat : Int)) * 256 + (c.toNat : Int)) (by omega) (by omega) d]
 omega
def Qg0 (x : Int) : τ := [UInt8.ofNat (x.toNat / 16777216), UInt8.ofNat (x.toNat / 65536), UInt8.ofNat (x.toNat / 256), UInt8.ofNat x.toNat]
theorem Q32 (x : Int) : (Qg0 x).length = 4 := rfl
theorem Qv6 {bs : τ} (h : bs.length = 4) : 0 <= Qt7 bs /\ Qt7 bs < 4294967296 /\ Qg0 (Qt7 bs) = bs := by
 match bs, h with
 | [a, b, c, d], _ =>
  have ha := u8b a; have hb := u8b b; have hc := u8b c; have hd := u8b d
  rw [QZf]
  refine ⟨by omega, by omega, ?_⟩
  unfold Qg0
  have e : ∀ {n : Nat} {x : UInt8}, n % 256 = x.toNat -> UInt8.ofNat n = x := fun {n x} h => UInt8.toNat_inj.1 (by rw [UInt8.toNat_ofNat']; exact h)
  rw [e (x := a) (by omega), e (x := b) (by omega), e (x := c) (by omega), e (x := d) (by omega)]
theorem QV1 {x : Int} (h0 : 0 <= x) (k : Nat) : IntKind.u8.wrap (x.fdiv ((k : Nat) : Int)) = ((UInt8.ofNat (x.toNat / k)).toNat : Int) := by
 rw [UInt8.toNat_ofNat']
 have : IntKind.u8.wrap (x.fdiv ((k : Nat) : Int)) = x.fdiv ((k : Nat) : Int) % 256 := by simp [IntKind.wrap, IntKind.bits, IntKind.signed]
 rw [this, Int.fdiv_eq_ediv_of_nonneg _ (by omega)]
 obtain ⟨n, rfl⟩ := Int.eq_ofNat_of_zero_le h0
 simp
theorem Qxb (x : Int) (h0 : 0 <= x) (w : World) : Calls prog 134 #[.int .u32 x] w fun e w' => e = .returned (.agg ((QB (Qg0 x)).toArray)) /\ Ext w w' := by
 refine (F134_calls x w (fun v w' => v = .agg ((QB (Qg0 x)).toArray) /\ Ext w w') ?_).mono (by rintro e w' ⟨v, rfl, rfl, h⟩; exact ⟨rfl, h⟩)
 intro k w3 hk
 have r3 : RowW w3 k #[.int .u8 0, .int .u8 0, .int .u8 0, .int .u8 0] := ⟨_, hk.at⟩
 have e0 : (at0 k) = (at0 k).add 0 := (Qi k 0).symm
 refine ⟨by omega, by omega, by omega, by rw [e0]; exact r3.live (by simp), fun w4 s4 => ?_⟩
 rw [e0] at s4
 have r4 := s4.row r3
 refine ⟨r4.live (by simp), fun w5 s5 => ?_⟩
 have r5 := s5.row r4
 refine ⟨r5.live (by simp), fun w6 s6 => ?_⟩
 have r6 := s6.row r5
 refine ⟨r6.live (by simp), fun w7 s7 => ?_⟩
 have r7 := s7.row r6
 have x4 : Ext w w4 := Q5 hk.ext (by rw [hk.size.1]; exact Nat.le_refl _) s4
 have x5 : Ext w w5 := Q5 x4 (by rw [hk.size.1]; exact Nat.le_refl _) s5
 have x6 : Ext w w6 := Q5 x5 (by rw [hk.size.1]; exact Nat.le_refl _) s6
 have x7 : Ext w w7 := Q5 x6 (by rw [hk.size.1]; exact Nat.le_refl _) s7
 refine ⟨_, by rw [e0]; exact r7.c rfl, _, r7.c rfl, _, r7.c rfl, _, r7.c rfl, ?_, x7⟩
 have b0 := QV1 h0 16777216
 have b1 := QV1 h0 65536
 have b2 := QV1 h0 256
 have b3 := QV1 h0 1
 rw [Nat.div_one] at b3
 have b3' : IntKind.u8.wrap x = IntKind.u8.wrap (x.fdiv ((1 : Nat) : Int)) := by simp [Int.fdiv_one]
 show Value.agg #[.int .u8 (IntKind.u8.wrap (x.fdiv ((16777216 : Nat) : Int))), .int .u8 (IntKind.u8.wrap (x.fdiv ((65536 : Nat) : Int))), .int .u8 (IntKind.u8.wrap (x.fdiv ((256 : Nat) : Int))), .int .u8 (IntKind.u8.wrap x)] = _
 rw [b0, b1, b2, b3', b3]
 rfl
theorem Q45 (n : Int) (w : World) : Calls prog 132 #[int i64 n] w fun e w' => e = .returned (.bool (decide (0 <= n /\ n <= 2147483647))) /\ w' = w := by
 refine (F132_calls n w (fun v w' => v = .bool (decide (0 <= n /\ n <= 2147483647)) /\ w' = w) ?_).mono (by rintro e w' ⟨v, rfl, rfl, h⟩; exact ⟨rfl, h⟩)
 refine Q0 (fun h => ⟨?_, rfl⟩) (fun h => ⟨?_, rfl⟩)
 ·simp only [Za] at h
  congr 1
  simp [h]
 ·simp only [Zb] at h
  rw [decide_eq_false (fun h' => h h'.1)]
open Go Go.Vc
open Go.IntKind (i64)
open Go.Value (int)
open Go.Proofs.Tryz (prog)
def Qs0 (n : Int) : Prop := 0 <= n /\ n <= 2147483647
instance (n : Int) : Decidable (Qs0 n) := inferInstanceAs (Decidable (_ /\ _))
def QO2 (addr : Int) (b : τ) : Prop :=
 12 <= b.length /\ b.length <= 4108 /\ Qs0 addr /\ Qt7 (b.drop (b.length - 4)) = QEc (b.take (b.length - 4)) /\ Qt7 (b.take 4) = addr /\ Qt7 ((b.take 8).drop 4) <= 2147483647
instance (addr : Int) (b : τ) : Decidable (QO2 addr b) := inferInstanceAs (Decidable (_ /\ _ /\ _ /\ _ /\ _ /\ _))
def Qi0 (addr : Int) (b : τ) : Option (Int × τ) :=
 if QO2 addr b then some (Qt7 ((b.take 8).drop 4), (b.take (b.length - 4)).drop 8) else none
def UnP (addr : Int) (bs : τ) (w : World) (v : Value) (w' : World) : Prop :=
 Ext w w' /\ match Qi0 addr bs with
 | none => v = .tuple #[int i64 0, .slice none 0 0, int i64 110]
 | some (n, d) => ∃ p c, v = .tuple #[int i64 n, .slice p d.length c, int i64 0] /\ Qc w' w.heap.size 5 1 p d.length c (QB d)
theorem UnP.bad {addr : Int} {bs : τ} {w w' : World} (hx : Ext w w') (h : ¬ QO2 addr bs) : UnP addr bs w (.tuple #[int i64 0, .slice none 0 0, int i64 110]) w' := by
 refine ⟨hx, ?_⟩
 unfold Qi0
 rw [if_neg h]
theorem Q89 (addr : Int) {p : σ} {l c : Nat} {w : World} {bs : τ} (h : Q3 w p l bs) (hm : l <= 4611686018427387904) (hc : l <= c) :
  Calls prog 140 #[int i64 addr, .slice p l c] w fun e w' => ∃ v, e = .returned v /\ UnP addr bs w v w' := by
 refine F140_calls addr p l c w (fun v w' => UnP addr bs w v w') ?_
 have hl := h.1
 unfold F140
 rw [w64 (n := (l : Int) - 4) (by omega)]
 refine Q0 (fun h1 => ?_) (fun h1 => ?_)
 ·simp only [Za] at h1
  exact UnP.bad (Upd.refl _ _) fun hk => by have := hk.1; omega
 simp only [Zb] at h1
 refine Q0 (fun h2 => ?_) (fun h2 => ?_)
 ·simp only [Za] at h2
  exact UnP.bad (Upd.refl _ _) fun hk => by have := hk.2.1; omega
 simp only [Zb] at h2
 refine (Q45 addr w).mono ?_
 rintro e w3 ⟨rfl, rfl⟩
 refine ⟨_, rfl, Q0 (fun h3 => ?_) (fun h3 => ?_)⟩
 ·simp only [Zg, Zb] at h3
  exact UnP.bad (Upd.refl _ _) fun hk => h3 hk.2.2.1
 simp only [Zf, Za] at h3
 have hn : ((l : Int) - 4).toNat = l - 4 := by omega
 rw [hn]
 refine ⟨⟨by omega, by omega⟩, ⟨by omega, by decide⟩, ?_⟩
 refine (Qb3 (Q94 h (a := 4) (b := 8) (by omega) (by omega) hc) (by omega)).mono ?_
 rintro e w4 ⟨rfl, rfl⟩
 refine ⟨_, rfl, fun w9 hd => ⟨⟨by omega, by omega⟩, ⟨by omega, by omega⟩, ?_⟩⟩
 have hx : Ext w4 w9 := hd.ext
 have h9 := h.ext hx
 have c1 := Q94 h9 (c := c) (a := l - 4) (b := l) (Nat.le_refl _) (by omega) hc
 have e1 : bs.take l = bs := by rw [hl]; exact List.take_length
 rw [e1] at c1
 refine (Qb3 c1 (by omega)).mono ?_
 rintro e w5 ⟨rfl, rfl⟩
 refine ⟨_, rfl, ?_⟩
 have c2 := Q94 h9 (c := c) (a := 0) (b := l - 4) (by omega) (by omega) hc
 rw [List.drop_zero] at c2
 refine (QP9 c2 (by omega)).mono ?_
 rintro e w6 ⟨rfl, rfl⟩
 refine ⟨_, rfl, Q0 (fun h4 => ?_) (fun h4 => ?_)⟩
 ·simp only [Zg, Zb] at h4
  exact UnP.bad hx fun hk => h4 (by rw [hl]; exact hk.2.2.2.1)
 simp only [Zf, Za] at h4
 have c3 := Q94 h9 (c := c) (a := 0) (b := 4) (by omega) (by omega) hc
 rw [List.drop_zero] at c3
 refine ⟨⟨by omega, by omega⟩, ?_⟩
 refine (Qb3 c3 (by omega)).mono ?_
 rintro e w7 ⟨rfl, rfl⟩
 have eu : IntKind.u32.wrap addr = addr := by rw [IntKind.wrap_u32']; have := h3.1; have := h3.2; omega
 rw [eu]
 refine ⟨_, rfl, Q0 (fun h5 => ?_) (fun h5 => ?_)⟩
 ·simp only [Zg, Zb] at h5
  exact UnP.bad hx fun hk => h5 hk.2.2.2.2.1
 simp only [Zf, Za] at h5
 refine Q0 (fun h6 => ?_) (fun h6 => ?_)
 ·simp only [Za] at h6
  exact UnP.bad hx fun hk => by have := hk.2.2.2.2.2; omega
 simp only [Zb] at h6
 refine ⟨⟨by omega, by omega⟩, ⟨by omega, by omega⟩, ?_⟩
 have c4 := Q94 h9 (c := c) (a := 8) (b := l - 4) (by omega) (by omega) hc
 obtain ⟨a, rfl, _⟩ := h9.get (i := 0) (by omega)
 refine (Q02 (c := c - 8) c4 (by omega) (fun hp => by unfold Qu QLc at hp; split at hp <;> cases hp)).mono ?_
 rintro e w8 ⟨p', c', rfl, hx8, ho, _⟩
 have hok : QO2 addr bs := ⟨by omega, by omega, h3, by rw [← hl]; exact h4, h5, by omega⟩
 have h4n := Qv6 (bs := (bs.take 8).drop 4) (by simp; omega)
 refine ⟨_, _, _, rfl, hx.trans hx8, ?_⟩
 unfold Qi0
 rw [if_pos hok, w64 (by omega)]
 have hlen : ((bs.take (bs.length - 4)).drop 8).length = l - 4 - 8 := by simp; omega
 refine ⟨p', c', ?_, ?_⟩
 ·show Value.tuple _ = Value.tuple #[int i64 (Qt7 ((bs.take 8).drop 4)), .slice p' ((bs.take (bs.length - 4)).drop 8).length c', int i64 0]
  rw [hlen]
 ·show Qc w8 _ _ 1 p' ((bs.take (bs.length - 4)).drop 8).length c' (QB ((bs.take (bs.length - 4)).drop 8))
  rw [hlen, ← hl]
  exact ho.base_le hx.size
def QB5 (addr epoch : Int) (d : τ) : τ := Qg0 addr ++ (Qg0 epoch ++ d)
def Qx (addr epoch : Int) (d : τ) : τ := QB5 addr epoch d ++ Qg0 (QEc (QB5 addr epoch d))
theorem Qy7 (addr epoch : Int) (d : τ) : (QB5 addr epoch d).length = 8 + d.length := by simp [QB5, Q32]; omega
theorem QC1 (addr epoch : Int) (d : τ) : (Qx addr epoch d).length = 12 + d.length := by simp [Qx, Qy7, Q32]; omega
theorem Qs4 {addr n : Int} {b d : τ} (h : Qi0 addr b = some (n, d)) : Qs0 addr /\ Qs0 n /\ d.length <= 4096 := by
 unfold Qi0 at h
 split at h
 ·rename_i hk
  simp only [Zi, Prod.mk.injEq] at h
  obtain ⟨rfl, rfl⟩ := h
  have h1 := hk.1
  have h2 := hk.2.1
  have h4n := Qv6 (bs := (b.take 8).drop 4) (by simp; omega)
  exact ⟨hk.2.2.1, ⟨h4n.1, hk.2.2.2.2.2⟩, by simp; omega⟩
 ·cases h
def QD0 (a : Nat) (xs bs : τ) : τ := bs.take a ++ (xs ++ bs.drop (a + xs.length))
theorem Qx3 {a : Nat} {xs u v t : τ} (ha : u.length = a) (hv : v.length = xs.length) : QD0 a xs (u ++ (v ++ t)) = u ++ (xs ++ t) := by
 unfold QD0
 rw [List.take_left' ha, ← List.append_assoc u v t, List.drop_left' (by simp; omega)]
theorem QJa (w : World) (g : Nat) (cs : Array Value) : Upd (fun b => b = g) w (w.setRow g cs) :=
 ⟨rfl, rfl, rfl, by simp [World.setRow], fun k _ hS => by
  unfold World.setRow
  rw [Array.getElem?_modify, if_neg (fun e => hS e.symm)]⟩
theorem QU6 {P : Program} (w : World) (dT sT ty elem : TypeId) (a : Addr) (dLen dCap c : Nat) (hu : P.underlying dT = some (.slice elem)) (hs : ((P.info? elem).map (·.size)).isSome = true) :
  (Builtin.copy_ #[dT, sT] ty #[.slice (some a) dLen dCap, .slice none 0 c]).run P w = .ok (goInt 0) w := by
 cases hq : P.info? elem with
 | none => simp [hq] at hs
 | some i => simp [Builtin.copy_, run_underlying hu, Builtin.lenOf, Builtin.firstCells, sizeOf, typeInfo, hq, storeCells]
theorem QO5 {w : World} {g a dCap : Nat} {bs xs : τ} (hg : w.heap[g]? = some (.cells (QB bs).toArray 5 (0, 0))) (ha : a + xs.length <= bs.length)
  {p : σ} {l c : Nat} (h : Q3 w p l xs) :
  ∃ n : Int, ∃ w', Sem.run prog (Builtin.copy_ #[42, 42] 3 #[.slice (some ((at0 g).add (a * 1))) (bs.length - a) dCap, .slice p l c]) w = .ok (int i64 n) w' ∧
   w'.heap[g]? = some (.cells (QB (QD0 a xs bs)).toArray 5 (0, 0)) /\ Upd (fun b => b = g) w w' := by
 have hl := h.1
 rw [Qi, Nat.mul_one]
 cases p with
 | none =>
  have hx : xs = [] := by
   refine Decidable.byContradiction fun hn => ?_
   obtain ⟨a, ha, _⟩ := h.2 hn
   cases ha
  subst hx
  obtain rfl : l = 0 := hl
  refine ⟨0, w, ?_, ?_, Upd.refl _ _⟩
  ·exact QU6 (P := prog) w 42 42 3 5 _ _ _ _ (by kernel_rfl) (by kernel_rfl)
  ·rw [hg]; simp [QD0]
 | some q =>
  have hcs := h.cells
  have hr := run_copy_row (P := prog) w 42 42 3 5 g a (bs.length - a) dCap q l c (QB bs).toArray 5 (QB xs) (by kernel_rfl) (by kernel_rfl) hg
   (by rw [Qq]; show _ = min _ _; omega) (fun j v hj => by
    obtain ⟨a', ha', hv⟩ := hcs j v hj
    cases ha'
    exact hv) (by simp [Qq]; omega) (Qn3 xs)
  have he : (QB bs).toArray.toList.take a ++ QB xs ++ (QB bs).toArray.toList.drop (a + (QB xs).length) = QB (QD0 a xs bs) := by
   simp [QD0, QB, List.map_take, List.map_drop]
  rw [he] at hr
  exact ⟨((QB xs).length : Int), w.setRow g (QB (QD0 a xs bs)).toArray, hr, setRow_heap _ _ _ _ _ _ hg, QJa _ _ _⟩
open Go Go.Vc
open Go.IntKind (i64)
open Go.Value (int)
open Go.Proofs.Tryz (prog)
def Q78 (w : World) (k : Nat) (bs : τ) : Prop := w.heap[k]? = some (.cells (QB bs).toArray 5 (0, 0))
theorem Q78.bytes {w : World} {k : Nat} {bs : τ} (h : Q78 w k bs) : Q3 w (some (at0 k)) bs.length bs :=
 Q3.of_cells fun j u hj => ⟨_, rfl, Row.cell ⟨_, _, h⟩ (by simpa using hj)⟩
theorem Q78.upd {S : Nat -> Prop} {w w' : World} {k : Nat} {bs : τ} (h : Q78 w k bs) (hu : Upd S w w') (hS : ¬ S k) : Q78 w' k bs := hu.keep h hS
theorem Qe5 {w : World} {kc kb a : Nat} {L : Nat} {bs : τ} {x : Int} (hx0 : 0 <= x) (hc : RowW w kc #[.slice (some (at0 kb)) L L]) (hb : Q78 w kb bs) (hL : L = bs.length) (ha : a + 4 <= L) :
  Calls prog 133 #[int i64 (a : Int), .int .u32 x, .pointer (some (at0 kc))] w fun e w' => e = .returned (.tuple #[]) /\ Upd (fun b => b = kb) w w' /\ Q78 w' kb (QD0 a (Qg0 x) bs) := by
 refine (F133_calls (a : Int) x (at0 kc) w (fun v w' => v = .tuple #[] /\ Upd (fun b => b = kb) w w' /\ Q78 w' kb (QD0 a (Qg0 x) bs)) ?_).mono (by rintro e w' ⟨v, rfl, rfl, h⟩; exact ⟨rfl, h⟩)
 refine (Qxb x hx0 w).mono ?_
 rintro e w4 ⟨rfl, hx4⟩
 refine ⟨_, _, _, _, rfl, fun k w11 hk => ?_⟩
 have r3 : RowW w11 k #[.int .u8 0, .int .u8 0, .int .u8 0, .int .u8 0] := ⟨_, hk.at⟩
 have e0 : (at0 k) = (at0 k).add 0 := (Qi k 0).symm
 refine ⟨by rw [e0]; exact r3.live (by simp), fun w12 s4 => ?_⟩
 rw [e0] at s4
 have r4 := s4.row r3
 refine ⟨r4.live (by simp), fun w13 s5 => ?_⟩
 have r5 := s5.row r4
 refine ⟨r5.live (by simp), fun w14 s6 => ?_⟩
 have r6 := s6.row r5
 refine ⟨r6.live (by simp), fun w15 s7 => ?_⟩
 have r7 := s7.row r6
 have hsz : w.heap.size <= k := by rw [hk.size.1]; exact hx4.size
 have x7 : Ext w w15 := Q5 (Q5 (Q5 (Q5 (hx4.trans hk.ext) hsz s4) hsz s5) hsz s6) hsz s7
 intro w16 hd
 have x8 : Ext w w16 := x7.trans hd.ext
 have hkc : RowW w16 kc _ := x8.rowW hc id
 have e1 : (at0 kc) = (at0 kc).add 0 := (Qi kc 0).symm
 refine ⟨_, _, _, by rw [e1]; exact hkc.c rfl, ⟨by omega, by omega⟩, ?_⟩
 have hb16 : Q78 w16 kb bs := hb.upd x8 id
 have hsrc : Q3 w16 (some (at0 k)) 4 (Qg0 x) := by
  have this : RowW w16 k (QB (Qg0 x)).toArray := hd.ext.rowW r7 id
  exact Q3.of_cells (bs := Qg0 x) fun j u hj => ⟨_, rfl, Row.cell this.row (by rw [List.getElem?_toArray]; exact hj)⟩
 have hsrc' : Q3 w16 (Qu (some (at0 k)) 4 0 1) (4 - 0) (Qg0 x) := Q94 hsrc (b := 4) (a := 0) (by omega) (by omega) (by omega)
 obtain ⟨n, w', hr, hrow, hu⟩ := QO5 (dCap := L - a) (c := 4 - 0) hb16 (a := a) (by rw [Q32]; omega) hsrc'
 have hcut : Qu (some (at0 kb)) L ((a : Int).toNat) 1 = some ((at0 kb).add (a * 1)) := by
  unfold Qu
  rw [if_neg (by omega)]
  rfl
 rw [hcut]
 rw [← hL] at hr
 exact ⟨n, w', hr, rfl, Upd.trans (Ext.upd x8) hu fun y _ hy => hy, hrow⟩
theorem Q8g : QK prog 5 = [.int .u8 0] := by kernel_rfl
theorem Qla (n : Nat) : QA2 prog 5 n = (QB (List.replicate n 0)).toArray := by
 unfold QA2
 rw [Q8g]
 congr 1
 induction n with
 | zero => rfl
 | succ n ih =>
  rw [List.replicate_succ, List.flatten_cons, ih, List.replicate_succ]
  rfl
theorem Qva {a : Nat} {xs bs : τ} (h : a <= bs.length) : (QD0 a xs bs).take a = bs.take a := by
 unfold QD0
 rw [List.take_append_of_le_length (by simp; omega), List.take_take, Nat.min_self]
theorem QTb (A B C X : τ) (hA : A.length = 4) (hB : B.length = 4) (hC : C.length = 4) : QD0 (8 + X.length) C (QD0 8 X (QD0 4 B (QD0 0 A (List.replicate (12 + X.length) 0)))) = (A ++ (B ++ X)) ++ C := by
 have e : (List.replicate (12 + X.length) 0 : τ) = [] ++ (List.replicate 4 0 ++ (List.replicate 4 0 ++ (List.replicate X.length 0 ++ List.replicate 4 0))) := by
  simp only [List.replicate_append_replicate, List.nil_append]
  congr 1; omega
 rw [e, Qx3 (a := 0) rfl (by simp [hA]), List.nil_append, Qx3 (a := 4) hA (by simp [hB]), ← List.append_assoc A B, Qx3 (a := 8) (by simp [hA, hB]) (by simp)]
 have : (A ++ B) ++ (X ++ List.replicate 4 0) = ((A ++ B) ++ X) ++ (List.replicate 4 0 ++ []) := by simp
 rw [this, Qx3 (by simp [hA, hB]; omega) (by simp [hC])]
 simp
theorem Qz7 (addr epoch : Int) {p : σ} {l c : Nat} {w : World} {d : τ} (h : Q3 w p l d) (hm : l <= 4611686018427387904) :
  Calls prog 89 #[int i64 addr, int i64 epoch, .slice p l c] w fun e w' => Ext w w' ∧
   if Qs0 addr /\ Qs0 epoch /\ d.length <= 4096 then ∃ k c', w.heap.size <= k /\ e = .returned (.tuple #[.slice (some (at0 k)) (Qx addr epoch d).length c', int i64 0]) /\ Q3 w' (some (at0 k)) (Qx addr epoch d).length (Qx addr epoch d)
   else e = .returned (.tuple #[.slice none 0 0, int i64 1]) := by
 refine (F89_calls addr epoch p l c w (fun v w' => Ext w w' /\ if Qs0 addr /\ Qs0 epoch /\ d.length <= 4096 then ∃ k c', w.heap.size <= k /\ v = .tuple #[.slice (some (at0 k)) (Qx addr epoch d).length c', int i64 0] /\ Q3 w' (some (at0 k)) (Qx addr epoch d).length (Qx addr epoch d)
   else v = .tuple #[.slice none 0 0, int i64 1]) ?_).mono (by
  rintro e w' ⟨v, rfl, hx, h⟩
  refine ⟨hx, ?_⟩
  split at h
  ·rw [if_pos (by assumption)]; obtain ⟨k, c', h0, rfl, h⟩ := h; exact ⟨k, c', h0, rfl, h⟩
  ·rw [if_neg (by assumption), h])
 have hl := h.1
 refine (Q45 addr w).mono ?_
 rintro e w4 ⟨rfl, rfl⟩
 refine ⟨_, rfl, Q0 (fun h1 => ?_) (fun h1 => ?_)⟩
 ·simp only [Zg, Zb] at h1
  exact ⟨Upd.refl _ _, by rw [if_neg (fun hk => h1 hk.1)]⟩
 simp only [Zf, Za] at h1
 refine (Q45 epoch w4).mono ?_
 rintro e w5 ⟨rfl, rfl⟩
 refine ⟨_, rfl, Q0 (fun h2 => ?_) (fun h2 => ?_)⟩
 ·simp only [Zg, Zb] at h2
  exact ⟨Upd.refl _ _, by rw [if_neg (fun hk => h2 hk.2.1)]⟩
 simp only [Zf, Za] at h2
 refine Q0 (fun h3 => ?_) (fun h3 => ?_)
 ·simp only [Za] at h3
  exact ⟨Upd.refl _ _, by rw [if_neg (fun hk => by have := hk.2.2; omega)]⟩
 simp only [Zb] at h3
 have hfit : Qs0 addr /\ Qs0 epoch /\ d.length <= 4096 := ⟨h1, h2, by omega⟩
 have w1 : i64.wrap ((12 : Int) + (l : Int)) = ((12 + l : Nat) : Int) := by rw [w64 (by omega)]; omega
 have w2 : i64.wrap ((8 : Int) + (l : Int)) = ((8 + l : Nat) : Int) := by rw [w64 (by omega)]; omega
 rw [w1, w2]
 refine ⟨⟨by omega, by omega, by have : (2 : Int) ^ 48 = 281474976710656 := rfl; rw [this]; omega⟩, fun kb w11 hkb kc w13 hkc => ?_⟩
 have e0 : (at0 kc) = (at0 kc).add 0 := (Qi kc 0).symm
 have r13 : RowW w13 kc #[.slice none 0 0] := ⟨_, hkc.at⟩
 refine ⟨by rw [e0]; exact r13.live (by simp), fun w14 s14 => ?_⟩
 rw [e0] at s14
 have r14 : RowW w14 kc #[.slice (some (at0 kb)) (12 + l) (12 + l)] := s14.row r13
 have hbsz : w5.heap.size <= kb := by rw [hkb.size.1]; exact Nat.le_refl _
 have hcsz : w5.heap.size <= kc := by rw [hkc.size.1]; exact hkb.ext.size
 have hne : kb ≠ kc := by
  rw [hkc.size.1]
  exact Nat.ne_of_lt (Qk hkb.at)
 have hcne : kc ≠ kb := fun e => hne e.symm
 have x14 : Ext w5 w14 := Q5 (hkb.ext.trans hkc.ext) hcsz s14
 have b11 : Q78 w11 kb (List.replicate (12 + l) 0) := by
  have := hkb.at
  rw [Qla] at this
  exact this
 have b14 : Q78 w14 kb (List.replicate (12 + l) 0) := by
  refine (b11.upd hkc.ext id).upd s14.upd ?_
  rw [Qr]; exact hne
 have step : ∀ {w1 w2 : World}, Ext w5 w1 -> Upd (fun b => b = kb) w1 w2 -> Ext w5 w2 := fun hx hu => Upd.trans hx hu fun y hy he => by omega
 have fb : IntKind.u32.wrap addr = addr := by rw [IntKind.wrap_u32']; have := h1.1; have := h1.2; omega
 have fe : IntKind.u32.wrap epoch = epoch := by rw [IntKind.wrap_u32']; have := h2.1; have := h2.2; omega
 rw [fb, fe]
 refine (Qe5 (a := 0) h1.1 r14 b14 (by simp) (by omega)).mono ?_
 rintro e w15 ⟨rfl, u15, b15⟩
 refine ⟨rfl, ?_⟩
 have r15 : RowW w15 kc _ := u15.rowW r14 hcne
 have l15 : (QD0 0 (Qg0 addr) (List.replicate (12 + l) 0)).length = 12 + l := by simp [QD0, Q32]; omega
 refine (Qe5 (a := 4) h2.1 r15 b15 l15.symm (by omega)).mono ?_
 rintro e w17 ⟨rfl, u17, b17⟩
 have r17 : RowW w17 kc _ := u17.rowW r15 hcne
 have l17 : (QD0 4 (Qg0 epoch) (QD0 0 (Qg0 addr) (List.replicate (12 + l) 0))).length = 12 + l := by simp [QD0, Q32]; omega
 refine ⟨rfl, _, _, _, by rw [e0]; exact r17.c rfl, ⟨by omega, by omega⟩, ?_⟩
 have x17 : Ext w5 w17 := step (step x14 u15) u17
 obtain ⟨n, w20, hr, b20, u20⟩ := QO5 (dCap := 12 + l - 8) (c := c) b17 (a := 8) (by omega) (h.ext x17)
 have hcut : Qu (some (at0 kb)) (12 + l) ((8 : Int).toNat) 1 = some ((at0 kb).add (8 * 1)) := by
  unfold Qu
  rw [if_neg (show ¬ 12 + l = (8 : Int).toNat by have : (8 : Int).toNat = 8 := rfl; omega)]
  rfl
 rw [hcut]
 rw [l17] at hr
 have r20 : RowW w20 kc _ := u20.rowW r17 hcne
 refine ⟨n, w20, hr, _, _, _, by rw [e0]; exact r20.c rfl, ⟨by omega, by omega⟩, ?_⟩
 have l20 : (QD0 8 d (QD0 4 (Qg0 epoch) (QD0 0 (Qg0 addr) (List.replicate (12 + l) 0)))).length = 12 + l := by simp [QD0, Q32]; omega
 have hB := Q78.bytes (show Q78 w20 kb _ from b20)
 rw [l20] at hB
 have hB' := Q94 hB (c := 12 + l) (a := 0) (b := 8 + l) (by omega) (by omega) (Nat.le_refl _)
 rw [List.drop_zero] at hB'
 refine (QP9 hB' (by omega)).mono ?_
 rintro e w23 ⟨rfl, rfl⟩
 have hall := QTb (Qg0 addr) (Qg0 epoch) (Qg0 (QEc (QB5 addr epoch d))) d rfl rfl rfl
 have hhead : (QD0 8 d (QD0 4 (Qg0 epoch) (QD0 0 (Qg0 addr) (List.replicate (12 + l) 0)))).take (8 + l) = QB5 addr epoch d := by
  rw [hl]
  rw [hl] at l20
  have := congrArg (List.take (8 + d.length)) hall
  rw [Qva (by omega)] at this
  rw [this, show Qg0 addr ++ (Qg0 epoch ++ d) = QB5 addr epoch d from rfl]
  exact List.take_left' (Qy7 addr epoch d)
 rw [hhead]
 refine ⟨_, rfl, ?_⟩
 have hcr := QR5 (QB5 addr epoch d)
 refine (Qe5 (a := 8 + l) hcr.1 r20 b20 l20.symm (by omega)).mono ?_
 rintro e w26 ⟨rfl, u26, b26⟩
 have r26 : RowW w26 kc _ := u26.rowW r20 hcne
 refine ⟨rfl, _, _, _, by rw [e0]; exact r26.c rfl, step (step x17 u20) u26, ?_⟩
 rw [if_pos hfit]
 have hfin : QD0 (8 + l) (Qg0 (QEc (QB5 addr epoch d))) (QD0 8 d (QD0 4 (Qg0 epoch) (QD0 0 (Qg0 addr) (List.replicate (12 + l) 0)))) = Qx addr epoch d := by
  rw [hl]; exact hall
 rw [hfin] at b26
 have hpl : (Qx addr epoch d).length = 12 + l := by rw [QC1]; omega
 have := Q78.bytes (show Q78 w26 kb _ from b26)
 refine ⟨kb, 12 + l, hbsz, by rw [hpl], this⟩
open Go Go.Vc
open Go.IntKind (i64)
open Go.Value (int)
open Go.Proofs.Tryz (prog)
def QF (d : τ) : ByteArray := ⟨d.toArray⟩
theorem Qf9 {a b : τ} (h : QF a = QF b) : a = b := by
 have : (QF a).data.toList = (QF b).data.toList := by rw [h]
 simpa [QF] using this
theorem Qd7 (d : τ) : (QF d).size = d.length := by simp [QF, ByteArray.size]
theorem QG5 {w : World} {p : σ} {l c : Nat} {d : τ} (h : Q3 w p l d) : Qz0 prog (.slice p l c) w (QF d) := by
 have hl := h.1
 cases p with
 | none =>
  have hd : d = [] := by
   refine Decidable.byContradiction fun hn => ?_
   obtain ⟨a, ha, _⟩ := h.2 hn
   cases ha
  subst hd
  rfl
 | some a =>
  unfold Qz0
  have hc := h.cells
  have hll := run_loadCells_list (P := prog) w a (QB d) (fun j v hj => by
   obtain ⟨a', ha, hv⟩ := hc j v hj
   cases ha; exact hv)
  have e : QB d = (d.map fun b => (b.toNat : Int)).map (Value.int .u8) := by simp [QB]
  rw [Qq, ← hl] at hll
  rw [run_bytesToString w a l c (d.map fun b => (b.toNat : Int)) (by rw [hll, e]), foldl_push_byteCells]
  have he0 : ByteArray.empty.data = #[] := rfl
  rw [he0]
  simp [QF]
theorem Qhe (w : World) (d : τ) : ∃ c w', Sem.run prog (convert 9 42 (.string (QF d))) w = .ok (.slice (some (at0 w.heap.size)) d.length c) w' /\ Ext w w' /\ Q3 w' (some (at0 w.heap.size)) d.length d /\ w.heap.size < w'.heap.size := by
 have hr := run_bytes_of_string (P := prog) w 9 42 5 (QF d) (by kernel_rfl) (by kernel_rfl) (by kernel_rfl)
 rw [Qd7] at hr
 have hx : Ext w w.drew := Qh1.ext ⟨rfl, rfl, rfl, rfl⟩
 refine ⟨_, _, hr, ?_, ?_, by show w.heap.size < (w.heap.push _).size; simp⟩
 ·refine ⟨rfl, rfl, rfl, by show w.heap.size <= (w.heap.push _).size; simp, fun k hk _ => ?_⟩
  show (w.heap.push _)[k]? = _
  rw [Array.getElem?_push, if_neg (by omega)]
 ·refine Q3.of_cells fun j u hj => ⟨_, rfl, Row.cell ⟨_, _, by show (w.heap.push _)[w.heap.size]? = _; rw [Array.getElem?_push, if_pos rfl]⟩ ?_⟩
  have hj' : j < d.length := by
   have := (Zd.1 hj).1
   simpa [QB] using this
  unfold bytesRow
  rw [Array.getElem?_append_left (by simp [QF, hj'])]
  simpa [QF, QB] using hj
structure QG2 where
 epoch : Int
 data : τ
 is : Bool
 none : Bool
def Qx4 (addr : Int) (m : Mem) : τ := if Qe m.d.dead m.d.sectors addr = 0 then Ql1 m.d addr else []
def Qf1 (addr : Int) (m : Mem) : QG2 :=
 match Qi0 addr (Qx4 addr m) with
 | some (n, d) => ⟨n, d, true, false⟩
 | Option.none => ⟨0, [], false, decide (Qe m.d.dead m.d.sectors addr = 0 /\ Qx4 addr m = [])⟩
def Q34 (s : QG2) : List Value := [int i64 s.epoch, .string (QF s.data), .bool s.is, .bool s.none]
def QE1 (L : List QG2) : List Value := L.flatMap Q34
theorem QF1 : ∀ {L : List QG2} {i : Nat} {s : QG2} {j : Nat} {v : Value}, L[i]? = some s -> (Q34 s)[j]? = some v -> (QE1 L)[i * 4 + j]? = some v
 | [], _, _, _, _, h, _ => by simp at h
 | s0 :: L, 0, s, j, v, h, hj => by
  simp only [List.getElem?_cons_zero, Zi] at h
  subst h
  rw [Nat.zero_mul, Nat.zero_add]
  show (Q34 s0 ++ QE1 L)[j]? = _
  rw [Zl (Zd.1 hj).1]
  exact hj
 | s0 :: L, i + 1, s, j, v, h, hj => by
  have := QF1 (L := L) (i := i) (by simpa using h) hj
  show (Q34 s0 ++ QE1 L)[(i + 1) * 4 + j]? = _
  rw [Zm (by simp [Q34]; omega)]
  have e : (i + 1) * 4 + j - (Q34 s0).length = i * 4 + j := by simp [Q34]; omega
  rw [e]; exact this
theorem QUc : QI0 prog 155 161 4 32 := ⟨by kernel_rfl, ⟨Tryz.t161, .agg #[int i64 0, .string ⟨#[]⟩, .bool false, .bool false], by kernel_rfl, by kernel_rfl, by kernel_rfl, by kernel_rfl, by kernel_rfl⟩, by decide⟩
theorem QOc {P : Program} {t e : TypeId} {sz bytes : Nat} (E : QI0 P t e sz bytes) (hby : bytes <= 64) {w0 w : World} (hx : Ext w0 w) {p : σ} {n c : Nat} {xs : List Value} (h : Qc w w0.heap.size e sz p n c xs) {k : Nat} {vs : List Value} {w1 : World}
  (hk : QU1 w k (.cells vs.toArray e) w1) (hl : vs.length = sz) (hv : ∀ v ∈ vs, v.oneCell' = true) (hn : n <= 100000) :
  ∃ p' c' w', Sem.run P (Builtin.append_ #[t, t] t #[.slice p n c, .slice (some (at0 k)) 1 1]) w1 = .ok (.slice p' (n + 1) c') w' /\ Qc w' w0.heap.size e sz p' (n + 1) c' (xs ++ vs) /\ Ext w0 w' := by
 have hbox : Q8 w1 (some (at0 k)) vs := fun j u hj => ⟨_, rfl, Row.cell ⟨_, _, hk.at⟩ (by simpa using hj)⟩
 have hx1 := hx.trans hk.ext
 have h' := h.ext hk.ext
 have hmul : (n + 1) * bytes <= (100000 + 1) * 64 := Nat.mul_le_mul (by omega) hby
 obtain ⟨p', c', w', hr, ho, hu, _⟩ := h'.append E t (q := some (at0 k)) (m := 1) (d := 1) (news := vs) (by rw [hl, Nat.one_mul]) hbox (fun h => by cases h) hv (by unfold maxLen; omega) (by omega) hx1.size
 refine ⟨p', c', w', hr, ho, ?_⟩
 refine Upd.trans hx1 hu fun x hx' hs => ?_
 rcases h'.where_ with ⟨h0, _⟩ | ⟨g, h0, hge, _⟩
 ·rw [h0] at hs; cases hs
 ·rw [h0] at hs
  simp only [Zi, at0, Zv, and_true] at hs
  omega
theorem Qfc (s : QG2) : ∀ v ∈ Q34 s, v.oneCell' = true := by
 intro v hv
 simp only [Q34, List.mem_cons, List.mem_nil_iff, or_false] at hv
 rcases hv with rfl | rfl | rfl | rfl <;> rfl
def Qn (addr : Int) (M : List Mem) : List QG2 := M.map (Qf1 addr)
section
variable {w : World} {a : Nat} {M : List Mem} {left : Int} {down : Bool} {F : Nat -> Prop}
theorem Qp6 (h : Qb w a M left down F) (hM : M.length <= 100) (h1 : 1 <= M.length) (n : Int) : Calls prog 101 #[.pointer (some (at0 a)), int i64 n] w fun e w' => Ext w w' ∧
  if down then e = .returned (.tuple #[.slice none 0 0, int i64 130])
  else ∃ p c, e = .returned (.tuple #[.slice p M.length c, int i64 0]) /\ Qc w' w.heap.size 161 4 p M.length c (QE1 (Qn n M)) := by
 refine (F101_calls (some (at0 a)) n w (fun v w' => Ext w w' /\ if down then v = .tuple #[.slice none 0 0, int i64 130]
  else ∃ p c, v = .tuple #[.slice p M.length c, int i64 0] /\ Qc w' w.heap.size 161 4 p M.length c (QE1 (Qn n M)))
  (fun _ _ p7 l7 c7 n8 w9 => ∃ i : Nat, n8 = i /\ i <= M.length /\ Ext w w9 /\ l7 = i /\ Qc w9 w.heap.size 161 4 p7 l7 c7 (QE1 ((Qn n M).take i)) /\ (down = true -> i = 0)) (fun _ _ _ _ _ n8 _ => 100 - n8.toNat) ?_).mono (by
   rintro e w' ⟨v, rfl, hx, h⟩
   refine ⟨hx, ?_⟩
   split at h
   ·rw [if_pos (by assumption), h]
   ·rw [if_neg (by assumption)]; obtain ⟨p, c, rfl, h⟩ := h; exact ⟨p, c, rfl, h⟩)
 unfold F101
 refine Q0 (fun h => by cases h) fun _ => (Qr3 h hM).mono ?_
 rintro e w3 ⟨pL, lL, cL, rfl, hx3, rfl, hL⟩
 refine ⟨_, _, _, rfl, ⟨0, rfl, Nat.zero_le _, hx3, rfl, Qc.nil _ _ _ _, fun _ => rfl⟩, ?_⟩
 rintro p7 l7 c7 n8 w9 ⟨i, rfl, hi, x9, rfl, own, hdn⟩
 intros
 refine Q0 (fun hlt => ?_) (fun hge => ?_)
 ·simp only [Za] at hlt
  have h9 := h.ext x9
  cases down with
  | true =>
   refine (QI3 h9 _ n).mono ?_
   rintro e w10 ⟨rfl, rfl⟩
   refine ⟨_, _, _, _, rfl, Q0 (fun _ => ⟨x9, ?_⟩) fun h => by simp at h⟩
   rw [if_pos rfl]
  | false =>
   obtain ⟨m, hm⟩ : ∃ m, M[l7]? = some m := ⟨M[l7]'(by omega), Zc _⟩
   refine (QJ3 h9 hm n).mono ?_
   rintro e w10 ⟨x10, p, l, c, bs, rfl, hbs, rfl, ob, hle⟩
   refine ⟨_, _, _, _, rfl, Q0 (fun h130 => ?_) fun _ => ?_⟩
   ·exfalso
    simp only [Za] at h130
    unfold Qe at h130
    split at h130
    ·omega
    ·split at h130 <;> omega
   have hbs' : bs = Qx4 n m := hbs
   have hba : Q3 w10 p bs.length bs := Q3.of_cells ob.cells
   have hcap : bs.length <= c := by
    rcases ob.where_ with ⟨_, h0, h1⟩ | ⟨_, _, _, _, h0, _⟩
    ·omega
    ·exact h0
   refine (Q89 n hba (by omega) hcap).mono ?_
   rintro e w11 ⟨v, rfl, x11, hv⟩
   have fin : ∀ (s : QG2), Qf1 n m = s -> ∀ (k : Nat) (w70 : World), QU1 w11 k (.cells (Q34 s).toArray 161) w70 →
     ∃ (p72 : σ) (l72 c72 : Nat), ∃ w71 : World, Sem.run prog (Builtin.append_ #[155, 155] 155 #[.slice p7 l7 c7, .slice (some (at0 k)) 1 1]) w70 = .ok (.slice p72 l72 c72) w71 ∧
      ((∃ i : Nat, i64.wrap ((l7 : Int) + 1) = i /\ i <= M.length /\ Ext w w71 /\ l72 = i /\ Qc w71 w.heap.size 161 4 p72 l72 c72 (QE1 ((Qn n M).take i)) /\ (false = true -> i = 0)) /\ 100 - (i64.wrap ((l7 : Int) + 1)).toNat < 100 - (l7 : Int).toNat) := by
    intro s hs k w70 hk
    have x := (x9.trans x10).trans x11
    obtain ⟨p', c', w', hr, ho, hx'⟩ := QOc QUc (by omega) x ((own.ext x10).ext x11) hk rfl (Qfc s) (by omega)
    refine ⟨p', l7 + 1, c', w', hr, ?_⟩
    rw [w64 (by omega)]
    refine ⟨⟨l7 + 1, by omega, by omega, hx', rfl, ?_, fun h => by cases h⟩, by omega⟩
    have e : (Qn n M).take (l7 + 1) = (Qn n M).take l7 ++ [s] := by
     rw [Zn]
     simp [Qn, hm, hs]
    rw [e]
    simpa [QE1] using ho
   cases hu : Qi0 n bs with
   | none =>
    rw [hu] at hv
    subst hv
    refine ⟨_, _, _, _, _, rfl, QF [], QG5 (Q3.nil _ _), ?_⟩
    have hs : Qf1 n m = ⟨0, [], false, decide (Qe m.d.dead m.d.sectors n = 0 /\ bs = [])⟩ := by
     unfold Qf1; rw [← hbs', hu]
    refine Q0 (fun hz => ?_) (fun hz => ?_)
    ·rw [hz]
     refine Q0 (fun _ => ?_) (fun h => by cases h)
     intro k w70 hk
     refine fin ⟨0, [], false, decide (((bs.length : Nat) : Int) = 0)⟩ ?_ k w70 hk
     rw [hs]
     congr 1
     simp only [Za] at hz
     rw [decide_eq_decide]
     constructor
     ·rintro ⟨_, rfl⟩; rfl
     ·intro h; exact ⟨hz, Zk (by omega)⟩
    ·rw [hz]
     refine Q0 (fun h => by cases h) (fun _ => ?_)
     intro k w70 hk
     refine fin ⟨0, [], false, false⟩ ?_ k w70 hk
     rw [hs]
     congr 1
     simp only [Zb] at hz
     simp [hz]
   | some nd =>
    obtain ⟨n', d⟩ := nd
    rw [hu] at hv
    obtain ⟨p', c', rfl, hd⟩ := hv
    have hz : Qe m.d.dead m.d.sectors n = 0 := by
     refine Decidable.byContradiction fun hz => ?_
     rw [if_neg hz] at hbs
     subst hbs
     unfold Qi0 at hu
     split at hu
     ·rename_i hk
      have := hk.1
      simp at this
     ·cases hu
    have hne : bs.length ≠ 0 := by
     intro h0
     unfold Qi0 at hu
     split at hu
     ·rename_i hk
      have := hk.1
      omega
     ·cases hu
    have hs : Qf1 n m = ⟨n', d, true, false⟩ := by
     unfold Qf1; rw [← hbs', hu]
    refine ⟨_, _, _, _, _, rfl, QF d, QG5 (Q3.of_cells hd.cells), ?_⟩
    have hz' : decide (Qe m.d.dead m.d.sectors n = 0) = true := decide_eq_true hz
    refine Q0 (fun _ => ?_) (fun h => by rw [hz'] at h; cases h)
    refine Q0 (fun _ => ?_) (fun h => by rw [hz'] at h; cases h)
    intro k w70 hk
    refine fin ⟨n', d, true, false⟩ hs k w70 ?_
    rw [decide_eq_false (show ¬ ((bs.length : Nat) : Int) = 0 by omega)] at hk
    exact hk
 ·simp only [Zb] at hge
  have hle : l7 = M.length := by omega
  subst hle
  refine ⟨x9, ?_⟩
  rw [if_neg (by intro hd; have := hdn hd; omega)]
  refine ⟨p7, c7, rfl, ?_⟩
  rw [Zh (by simp [Qn])] at own
  exact own
end
end Go.Proofs.YtnfcfbljdibinaaGreat
namespace Go.Vc.SK
open Go
open Go.IntKind (i64)
open Go.Value (int)
open Go.Proofs.Tryz (prog)
structure KS (κ : Type) [DecidableEq κ] where
 enc : κ -> Value
section
variable {κ : Type} [DecidableEq κ] {β : Type} (K : KS κ) (V : Value -> β -> Prop)
def Qg1 (e : MapEntry) (x : κ × β) : Prop := e.key = K.enc x.1 /\ V e.val x.2
structure QUa (es : Array MapEntry) (clock : Nat) (l : List (κ × β)) : Prop where
 born : ∀ e ∈ es.toList, e.born < clock
 nodup : (es.toList.map (·.born)).Nodup
 ents : Qc1 (Qg1 K V) es.toList l
 keys : (l.map (·.1)).Nodup
def MapOf (w : World) (m : Nat) (L : List (κ × β)) : Prop :=
 ∃ es clock l, w.heap[m]? = some (.map es clock) /\ QUa K V es clock l /\ l.Perm L
end
section
variable {κ : Type} [DecidableEq κ] {β : Type} {K : KS κ} {V : Value -> β -> Prop} {w w' : World} {m : Nat} {L : List (κ × β)}
theorem MapOf.mono {V' : Value -> β -> Prop} (h : MapOf K V w m L) (hv : ∀ v x, V v x -> V' v x) : MapOf K V' w m L := by
 obtain ⟨es, c, l, hm, ⟨h1, h2, h3, h4⟩, hp⟩ := h
 exact ⟨es, c, l, hm, ⟨h1, h2, h3.mono fun e x h => ⟨h.1, hv _ _ h.2⟩, h4⟩, hp⟩
theorem MapOf.perm {M : List (κ × β)} (h : MapOf K V w m L) (hp : L.Perm M) : MapOf K V w m M := by
 obtain ⟨es, c, l, hm, hok, hp1⟩ := h
 exact ⟨es, c, l, hm, hok, hp1.trans hp⟩
theorem MapOf.lt (h : MapOf K V w m L) : m < w.heap.size := by
 obtain ⟨es, c, l, hm, _⟩ := h
 exact Qk hm
theorem MapOf.upd {S : Nat -> Prop} (h : MapOf K V w m L) (hu : Upd S w w') (hS : ¬ S m) : MapOf K V w' m L := by
 obtain ⟨es, c, l, hm, hok, hp⟩ := h
 exact ⟨es, c, l, hu.keep hm hS, hok, hp⟩
theorem MapOf.nodup (h : MapOf K V w m L) : (L.map (·.1)).Nodup := by
 obtain ⟨es, c, l, hm, hok, hp⟩ := h
 exact (hp.map _).nodup_iff.1 hok.keys
theorem MapOf.made {t : World} {b : Nat} (h : QU1 t b (.map #[] 0) w) : MapOf K V w b [] :=
 ⟨#[], 0, [], h.at, ⟨by simp, by simp, .nil, by simp⟩, .nil⟩
structure KeysOk (P : Program) (kt : TypeId) (K : KS κ) : Prop where
 check : ∀ b k w, (Instr.checkKey b 10000 kt (K.enc k)).run P w = .ok () w
 eq : ∀ a b w, (Op.equal kt (K.enc a) (K.enc b)).run P w = .ok (decide (a = b)) w
 kd : ∃ d, P.underlying kt = some d /\ ∀ a b, Instr.sameNow d (K.enc a) (K.enc b) = none
 same : ∀ a, Instr.sameBits 10000 (K.enc a) (K.enc a) = true
theorem Q35 {P : Program} {kt : TypeId} (hK : KeysOk P kt K) (w : World) (k : κ) : ∀ {es : List MapEntry} {l : List (κ × β)} (i : Nat), Qc1 (Qg1 K V) es l →
  (get k l = none /\ (Instr.findAsking kt (K.enc k) es i).run P w = .ok none w) ∨
  (∃ x j e pre post lpre lpost, get k l = some x /\ es = pre ++ e :: post /\ l = lpre ++ (k, x) :: lpost /\ pre.length = j /\ Qc1 (Qg1 K V) pre lpre /\ Qc1 (Qg1 K V) post lpost /\ Qg1 K V e (k, x) ∧
   (∀ y ∈ lpre, y.1 ≠ k) /\ (Instr.findAsking kt (K.enc k) es i).run P w = .ok (some (i + j, e.val)) w) := by
 intro es
 induction es with
 | nil =>
  intro l i h
  cases h
  exact .inl ⟨rfl, by simp [Instr.findAsking]⟩
 | cons e es ih =>
  intro l i h
  cases h with
  | @cons _ x _ ls h1 h2 =>
   obtain ⟨k', x⟩ := x
   have hn := hK.eq k k' w
   have h1' : e.key = K.enc k' := h1.1
   by_cases hk : k = k'
   ·subst hk
    right
    refine ⟨x, 0, e, [], es, [], ls, by simp [get], rfl, rfl, rfl, .nil, h2, h1, by simp, ?_⟩
    simp [Instr.findAsking, h1', hn]
   ·have hd : decide (k = k') = false := by simpa using hk
    rw [hd] at hn
    have hg : get k ((k', x) :: ls) = get k ls := by simp [get, Ne.symm hk]
    rw [hg]
    rcases ih (i + 1) h2 with ⟨h3, h4⟩ | ⟨x', j, e', pre, post, lpre, lpost, h3, rfl, rfl, rfl, h5, h6, h7, h8, h9⟩
    ·exact .inl ⟨h3, by simp [Instr.findAsking, h1', hn, h4]⟩
    ·right
     refine ⟨x', pre.length + 1, e', e :: pre, post, (k', x) :: lpre, lpost, h3, rfl, rfl, rfl, .cons h1 h5, h6, h7, ?_, ?_⟩
     ·intro y hy
      rcases List.mem_cons.1 hy with rfl | hy
      ·exact Ne.symm hk
      ·exact h8 y hy
     ·rw [show i + (pre.length + 1) = i + 1 + pre.length by omega]
      simp [Instr.findAsking, h1', hn, h9]
theorem Qw2 {P : Program} {kt : TypeId} (hK : KeysOk P kt K) (w : World) (k : κ) {es : List MapEntry} {l : List (κ × β)} (h : Qc1 (Qg1 K V) es l) :
  (get k l = none /\ (Instr.findKey kt (K.enc k) es).run P w = .ok none w) ∨
  (∃ x j e pre post lpre lpost, get k l = some x /\ es = pre ++ e :: post /\ l = lpre ++ (k, x) :: lpost /\ pre.length = j /\ Qc1 (Qg1 K V) pre lpre /\ Qc1 (Qg1 K V) post lpost /\ Qg1 K V e (k, x) ∧
   (∀ y ∈ lpre, y.1 ≠ k) /\ (Instr.findKey kt (K.enc k) es).run P w = .ok (some (j, e.val)) w) := by
 obtain ⟨d, hd, hnone⟩ := hK.kd
 cases h with
 | nil =>
  left
  refine ⟨rfl, ?_⟩
  simp [Instr.findKey, Q4 hd, Instr.findNow]
 | @cons e x es ls h1 h2 =>
  have hask : (Instr.findKey kt (K.enc k) (e :: es)).run P w = (Instr.findAsking kt (K.enc k) (e :: es) 0).run P w := by
   have hk : e.key = K.enc x.1 := h1.1
   simp only [Instr.findKey, Sem.run_bind, Q4 hd, Result.andThen, Instr.findNow, hk, hnone]
  rw [hask]
  rcases Q35 hK w k 0 (.cons h1 h2) with h3 | ⟨x', j, e', pre, post, lpre, lpost, h3⟩
  ·exact .inl h3
  ·right
   rw [Nat.zero_add] at h3
   exact ⟨x', j, e', pre, post, lpre, lpost, h3⟩
theorem MapOf.lookup {P : Program} {t kt e : TypeId} {z : Value} (h : MapOf K V w m L) (ht : P.underlying t = some (.map kt e)) (hK : KeysOk P kt K)
  (hz : QK1 P e = some z) (k : κ) :
  (∃ x v, get k L = some x /\ V v x /\ QW3 P t (.map (some m)) (K.enc k) w v true) \/ (get k L = none /\ QW3 P t (.map (some m)) (K.enc k) w z false) := by
 obtain ⟨es, c, l, hm, hok, hp⟩ := h
 have hg := QE4 (k := k) hp hok.keys
 have hc := fun b => hK.check b k w
 rcases Qw2 hK w k hok.ents with ⟨h1, h2⟩ | ⟨x, j, e', pre, post, lpre, lpost, h1, _, _, rfl, _, _, h7, _, h9⟩
 ·right
  refine ⟨hg ▸ h1, ?_, ?_⟩
  ·simp only [Instr.lookup, Sem.run_bind, Q4 ht, Result.andThen, Q9 hm, Sem.run_pure, hc, h2, QT1 hz]
   rfl
  ·simp only [Instr.lookup, Sem.run_bind, Q4 ht, Result.andThen, Q9 hm, Sem.run_pure, hc, h2, QT1 hz]
   rfl
 ·left
  refine ⟨x, e'.val, hg ▸ h1, h7.2, ?_, ?_⟩
  ·simp only [Instr.lookup, Sem.run_bind, Q4 ht, Result.andThen, Q9 hm, Sem.run_pure, hc, h9]
   rfl
  ·simp only [Instr.lookup, Sem.run_bind, Q4 ht, Result.andThen, Q9 hm, Sem.run_pure, hc, h9]
   rfl
theorem QJe {E : List MapEntry} {l : List (κ × β)} (h : Qc1 (Qg1 K V) E l) : Qc1 (fun (e : MapEntry) (y : κ × Value) => e.key = K.enc y.1 /\ e.val = y.2) E ((l.map (·.1)).zip (E.map (·.val))) := by
 induction h with
 | nil => exact .nil
 | cons h _ ih => exact .cons ⟨h.1, rfl⟩ ih
theorem Qf4 {pre post : List MapEntry} {e' : MapEntry} {es : Array MapEntry} (hes : es.toList = pre ++ e' :: post) (hn : (es.toList.map (·.born)).Nodup) :
  es.findIdx? (fun e => (e.born : Int) == (e'.born : Int)) = some pre.length := by
 have he : es = (pre ++ e' :: post).toArray := by rw [← hes]
 rw [hes] at hn
 rw [he, List.findIdx?_toArray]
 clear hes he
 induction pre with
 | nil => simp [List.findIdx?_cons]
 | cons y pre ih =>
  simp only [List.cons_append, List.map_cons, List.nodup_cons] at hn
  have hne : ((y.born : Int) == (e'.born : Int)) = false := by
   rw [beq_eq_false_iff_ne]
   intro h
   exact hn.1 (List.mem_map.2 ⟨e', by simp, by omega⟩)
  rw [List.cons_append, List.findIdx?_cons, hne]
  simp only [Bool.false_eq_true, if_false]
  rw [ih hn.2]
  rfl
theorem MapOf.write {P : Program} {t kt e : TypeId} {z : Value} (h : MapOf K V w m L) (ht : P.underlying t = some (.map kt e)) (hK : KeysOk P kt K) (hz : QK1 P e = some z) (k : κ) :
  ∃ (v0 : Value) (n : Int) (w1 : World), (Instr.mapEntry t (.map (some m)) (K.enc k)).run P w = .ok (.tuple #[v0, int i64 n]) w1 /\ Upd (fun b => b = m) w w1 /\ w1.heap.size = w.heap.size ∧
   ((∃ x, get k L = some x /\ V v0 x) \/ (get k L = none /\ v0 = z)) /\ (∀ v b, QW3 P t (.map (some m)) (K.enc k) w v b -> ∃ b', QW3 P t (.map (some m)) (K.enc k) w1 v b') ∧
   ∀ v x, V v x -> ∃ w2, (Instr.entryStore t (.map (some m)) (int i64 n) v).run P w1 = .ok () w2 /\ Upd (fun b => b = m) w1 w2 /\ w2.heap.size = w1.heap.size /\ MapOf K V w2 m ((k, x) :: del k L) := by
 obtain ⟨es, c, l, hm, hok, hp⟩ := h
 have hlt := Qk hm
 have hg := QE4 (k := k) hp hok.keys
 have hc := fun b w => hK.check b k w
 rcases Qw2 hK w k hok.ents with ⟨h1, h2⟩ | ⟨x0, j, e', pre, post, lpre, lpost, h1, hes, rfl, rfl, h5, h6, h7, h8, h9⟩
 ·
  have hat := QH1 (w := w) (o := .map (es.push { key := K.enc k, val := z, born := c }) (c + 1)) hlt
  have hbornN : ((es.push { key := K.enc k, val := z, born := c }).toList.map (·.born)).Nodup := by
   simp only [Array.toList_push, Zp, List.map_cons, List.map_nil]
   rw [List.nodup_append]
   refine ⟨hok.nodup, by simp, ?_⟩
   intro a ha b hb
   simp only [List.mem_singleton] at hb
   subst hb
   obtain ⟨y, hy, rfl⟩ := List.mem_map.1 ha
   exact Nat.ne_of_lt (hok.born y hy)
  refine ⟨z, c, { w with heap := w.heap.setIfInBounds m (.map (es.push { key := K.enc k, val := z, born := c }) (c + 1)) }, ?_, QX0, by simp, .inr ⟨hg ▸ h1, rfl⟩, ?_, ?_⟩
  ·simp only [Instr.mapEntry, Sem.run_bind, Q4 ht, Result.andThen, Q9 hm, hc, h2, QT1 hz]
   rw [Qt0 hm (by intros; simp)]
   rfl
  ·intro v b hmap
   have hfound : ∀ w1, (Instr.findKey kt (K.enc k) (es.push { key := K.enc k, val := z, born := c }).toList).run P w1 = .ok (some (es.size, z)) w1 := by
    intro w1
    have hall : Qc1 (fun (e : MapEntry) (y : κ × Value) => e.key = K.enc y.1 /\ e.val = y.2) (es.push { key := K.enc k, val := z, born := c }).toList ((l.map (·.1)).zip (es.toList.map (·.val)) ++ [(k, z)]) := by
     rw [Array.toList_push]
     refine Qc1.append ?_ (.cons ⟨rfl, rfl⟩ .nil)
     exact QJe hok.ents
    rcases Qw2 (V := fun v y => v = y) hK w1 k hall with ⟨h3, _⟩ | ⟨x3, j, e3, pre, post, lpre, lpost, h3, hpre, hl3, rfl, h5, h6, h7, h8, h9⟩
    ·exfalso
     rw [Qj1] at h3
     exact h3 (by simp)
    ·
     have hnokey : ∀ e ∈ es.toList, e.key ≠ K.enc k := by
      intro e he hek
      obtain ⟨y, hy, hye⟩ := hok.ents.mem_left he
      have := hK.eq y.1 k w1
      have h10 := hK.eq k k w1
      rw [← hye.1, hek, h10] at this
      simp only [decide_true, Result.ok.injEq, and_true] at this
      have hyk : y.1 = k := by simpa using this.symm
      exact (Qj1.1 h1) (List.mem_map.2 ⟨y, hy, hyk⟩)
     have hpe : pre = es.toList := by
      rw [Array.toList_push] at hpre
      rcases List.append_eq_append_iff.1 hpre with ⟨aas, ha1, ha2⟩ | ⟨aas, ha1, ha2⟩
      ·cases aas with
       | nil => simpa using ha1
       | cons y aas =>
        simp only [List.cons_append, List.cons.injEq] at ha2
        have := congrArg List.length ha2.2
        simp at this
      ·cases aas with
       | nil => simpa using ha1.symm
       | cons y aas =>
        simp only [List.cons_append, List.cons.injEq] at ha2
        exact (hnokey e3 (by rw [ha1, ha2.1]; simp) h7.1).elim
     have hle : pre.length = es.size := by rw [hpe]; simp
     have hv3 : e3.val = z := by
      rw [Array.toList_push, hpe] at hpre
      have := List.append_cancel_left hpre
      simp only [List.cons.injEq] at this
      rw [← this.1]
     rw [h9, hle, hv3]
   have hv : v = z := by
    have h3 := hmap.1
    simp only [Instr.lookup, Sem.run_bind, Q4 ht, Result.andThen, Q9 hm, Sem.run_pure, hc, h2, QT1 hz] at h3
    simp at h3
    exact h3.1.symm
   subst hv
   refine ⟨true, ?_, ?_⟩
   ·simp only [Instr.lookup, Sem.run_bind, Q4 ht, Result.andThen, Q9 hat, Sem.run_pure, hc, hfound]
    rfl
   ·simp only [Instr.lookup, Sem.run_bind, Q4 ht, Result.andThen, Q9 hat, Sem.run_pure, hc, hfound]
    rfl
  ·intro v x hv
   have hidx := Qf4 (es := es.push { key := K.enc k, val := z, born := c }) (pre := es.toList) (post := []) (e' := { key := K.enc k, val := z, born := c }) (by simp) hbornN
   have hmod : ((es.push { key := K.enc k, val := z, born := c }).modify es.toList.length fun e => { e with val := v }).toList = es.toList ++ [{ key := K.enc k, val := v, born := c }] := by
    rw [Array.toList_modify, Array.toList_push, Q42]
   refine ⟨_, by
    simp only [Instr.entryStore, Sem.run_bind, Sem.run_pure, Q9 hat, Result.andThen, asInt, asIntOf, hidx]
    exact Qt0 hat (by intros; simp), QX0, by simp, _, _, l ++ [(k, x)], QH1 (by simpa using hlt), ⟨?_, ?_, ?_, ?_⟩, ?_⟩
   ·intro y hy
    rw [hmod] at hy
    simp only [List.mem_append, List.mem_singleton] at hy
    rcases hy with hy | rfl
    ·exact Nat.lt_succ_of_lt (hok.born y hy)
    ·exact Nat.lt_succ_self c
   ·rw [hmod]
    simpa using hbornN
   ·rw [hmod]
    exact hok.ents.append (.cons ⟨rfl, hv⟩ .nil)
   ·simp only [Zp, List.map_cons, List.map_nil]
    rw [List.nodup_append]
    refine ⟨hok.keys, by simp, ?_⟩
    intro a ha b hb
    simp only [List.mem_singleton] at hb
    subst hb
    rintro rfl
    exact (Qj1.1 h1) ha
   ·have : del k L = L := Qj9 (hg ▸ h1)
    rw [this]
    exact (List.perm_append_singleton _ _).trans (hp.cons _)
 ·have hlen : pre.length < es.size := by
   have : es.toList.length = (pre ++ e' :: post).length := by rw [hes]
   simp at this; omega
  have hget : es[pre.length]? = some e' := by
   have : es.toList[pre.length]? = some e' := by rw [hes]; simp
   simpa using this
  have hek : e'.key = K.enc k := h7.1
  have hsame : (es.modify pre.length fun y => { y with key := K.enc k }) = es := by
   apply Array.toList_inj.1
   rw [Array.toList_modify, hes, Q42]
   congr 2
   rw [← hek]
  have hstay : (Instr.keyThatStays e'.key (K.enc k)).run P w = .ok (K.enc k) w := by
   simp only [Instr.keyThatStays, hek, hK.same, if_true, Sem.run_pure]
  have hset : { w with heap := w.heap.setIfInBounds m (.map es c) } = w := by
   have : w.heap.setIfInBounds m (.map es c) = w.heap := by
    apply Array.ext_getElem?
    intro i
    by_cases hi : i = m
    ·subst hi
     rw [hm]; simp [hlt]
    ·rw [Array.getElem?_setIfInBounds_ne (fun e => hi e.symm)]
   rw [this]
  refine ⟨e'.val, e'.born, w, ?_, Upd.refl _ _, rfl, .inl ⟨x0, hg ▸ h1, h7.2⟩, fun v b hmap => ⟨b, hmap⟩, ?_⟩
  ·simp only [Instr.mapEntry, Sem.run_bind, Q4 ht, Result.andThen, Q9 hm, hc, h9, hget, Option.map_some, Option.getD_some, hstay]
   rw [Qt0 hm (by intros; simp), hsame, hset]
   rfl
  ·intro v x hv
   have hidx := Qf4 hes hok.nodup
   have hmod : (es.modify pre.length fun y => { y with val := v }).toList = pre ++ { e' with val := v } :: post := by
    rw [Array.toList_modify, hes, Q42]
   refine ⟨_, by
    simp only [Instr.entryStore, Sem.run_bind, Sem.run_pure, Q9 hm, Result.andThen, asInt, asIntOf, hidx]
    exact Qt0 hm (by intros; simp), QX0, by simp, _, _, lpre ++ (k, x) :: lpost, QH1 hlt, ⟨?_, ?_, ?_, ?_⟩, ?_⟩
   ·intro y hy
    rw [hmod] at hy
    have hb := hok.born
    rw [hes] at hb
    simp only [List.mem_append, List.mem_cons] at hy hb
    rcases hy with hy | rfl | hy
    ·exact hb y (.inl hy)
    ·exact hb e' (.inr (.inl rfl))
    ·exact hb y (.inr (.inr hy))
   ·rw [hmod]
    have := hok.nodup
    rw [hes] at this
    simpa using this
   ·rw [hmod]
    exact h5.append (.cons ⟨hek, hv⟩ h6)
   ·have := hok.keys
    simpa using this
   ·have hd : del k (lpre ++ (k, x0) :: lpost) = lpre ++ lpost := Qa3 hok.keys
    have := QC4 (k := k) hp
    rw [hd] at this
    exact List.perm_middle.trans (this.cons _)
def ItOf (K : KS κ) (V : Value -> β -> Prop) (w : World) (it m : Nat) (L rest : List (κ × β)) : Prop :=
 ∃ es clock seen last, ∃ ps : List (MapEntry × (κ × β)), w.heap[it]? = some (.mapIter (some m) clock seen last) /\ w.heap[m]? = some (.map es clock) /\ es.toList = ps.map (·.1) ∧
  QUa K V es clock (ps.map (·.2)) /\ (ps.map (·.2)).Perm L /\ (∀ p ∈ ps, Qg1 K V p.1 p.2) /\ (seen = #[] \/ last = clock) /\ ((ps.filter fun p => !seen.contains p.1.born).map (·.2)).Perm rest
def Q47 (K : KS κ) (V : Value -> β -> Prop) (w : World) (it m : Nat) (L rest : List (κ × β)) (k : κ) (x : β) (v : Value) : Prop :=
 ∃ es clock seen, ∃ ps : List (MapEntry × (κ × β)), ∃ cur, w.heap[it]? = some (.mapIter (some m) clock seen clock) /\ w.heap[m]? = some (.map es clock) /\ es.toList = ps.map (·.1) ∧
  QUa K V es clock (ps.map (·.2)) /\ (ps.map (·.2)).Perm L /\ (∀ p ∈ ps, Qg1 K V p.1 p.2) /\ ((ps.filter fun p => !seen.contains p.1.born).map (·.2)).Perm rest ∧
  (cur, (k, x)) ∈ ps /\ seen.back? = some cur.born /\ cur.val = v
theorem Q47.toIt {it : Nat} {rest : List (κ × β)} {k : κ} {x : β} {v : Value} (h : Q47 K V w it m L rest k x v) : ItOf K V w it m L rest := by
 obtain ⟨es, c, seen, ps, cur, h1, h2, h3, h4, h5, h6, h7, _⟩ := h
 exact ⟨es, c, seen, c, ps, h1, h2, h3, h4, h5, h6, .inr rfl, h7⟩
theorem Q47.entry {it : Nat} {rest : List (κ × β)} {k : κ} {x : β} {v : Value} (h : Q47 K V w it m L rest k x v) : V v x /\ (k, x) ∈ L := by
 obtain ⟨es, c, seen, ps, cur, h1, h2, h3, h4, h5, h6, h7, h8, h9, rfl⟩ := h
 exact ⟨(h6 _ h8).2, h5.mem_iff.1 (List.mem_map.2 ⟨_, h8, rfl⟩)⟩
theorem ItOf.map {it : Nat} {rest : List (κ × β)} (h : ItOf K V w it m L rest) : MapOf K V w m L := by
 obtain ⟨es, c, seen, last, ps, h1, h2, h3, h4, h5, _⟩ := h
 exact ⟨es, c, _, h2, h4, h5⟩
theorem ItOf.upd {it : Nat} {rest : List (κ × β)} {S : Nat -> Prop} (h : ItOf K V w it m L rest) (hu : Upd S w w') (h1 : ¬ S it) (h2 : ¬ S m) : ItOf K V w' it m L rest := by
 obtain ⟨es, c, seen, last, ps, g1, g2, g3⟩ := h
 exact ⟨es, c, seen, last, ps, hu.keep g1 h1, hu.keep g2 h2, g3⟩
theorem ItOf.ne {it : Nat} {rest : List (κ × β)} (h : ItOf K V w it m L rest) : it ≠ m /\ it < w.heap.size := by
 obtain ⟨es, c, seen, last, ps, h1, h2, _⟩ := h
 refine ⟨?_, Qk h1⟩
 rintro rfl
 rw [h1] at h2
 simp at h2
theorem ItOf.made {es : Array MapEntry} {c : Nat} {it : Nat} (h : MapOf K V w m L) (hi : Qma w (some m) es c) (hn : QU1 w it (.mapIter (some m) c #[] c) w') :
  ItOf K V w' it m L L := by
 obtain ⟨es', c', l, hm, hok, hp⟩ := h
 have : some (Obj.map es c) = some (.map es' c') := by rw [← hm]; exact hi.symm
 simp only [Zi, Obj.map.injEq] at this
 obtain ⟨rfl, rfl⟩ := this
 obtain ⟨ps, h1, rfl, h2⟩ := hok.ents.zip
 refine ⟨es, c, #[], c, ps, hn.at, hn.ext.keep hm, h1, hok, hp, h2, .inl rfl, ?_⟩
 have : (ps.filter fun p => !(#[] : Array Nat).contains p.1.born) = ps := by
  rw [List.filter_eq_self]; intro e _; simp
 rw [this]
 exact hp
theorem Q47.entryAt {P : Program} {it : Nat} {rest : List (κ × β)} {k : κ} {x : β} {v : Value} (h : Q47 K V w it m L rest k x v) : entryAt P (.pointer (some (at0 it))) w (K.enc k) v := by
 obtain ⟨es, c, seen, ps, cur, h1, h2, h3, h4, h5, h6, h7, h8, h9, rfl⟩ := h
 have hmem : cur ∈ es.toList := by rw [h3]; exact List.mem_map.2 ⟨_, h8, rfl⟩
 have hfind : es.find? (·.born == cur.born) = some cur := by
  rw [← Array.find?_toList]
  have hn := h4.nodup
  generalize es.toList = l at hmem hn
  induction l with
  | nil => cases hmem
  | cons y l ih =>
   simp only [List.map_cons, List.nodup_cons] at hn
   rcases List.mem_cons.1 hmem with rfl | hm
   ·simp
   ·have : y.born ≠ cur.born := fun e => hn.1 (List.mem_map.2 ⟨cur, hm, e.symm⟩)
    rw [List.find?_cons_of_neg (by simpa using this)]
    exact ih hm hn.2
 unfold Go.Vc.entryAt
 simp only [Instr.entry, Sem.run_bind, QP0 h1, Result.andThen, Q9 h2, h9]
 rw [if_neg (by simp)]
 rw [hfind, ← (h6 _ h8).1]
 rfl
theorem ItOf.next {it : Nat} {rest : List (κ × β)} (h : ItOf K V w it m L rest) {T : Value -> φ} {E : ψ}
  (hT : ∀ k x v rest' w', rest.Perm ((k, x) :: rest') -> Upd (fun b => b = it) w w' -> w'.heap.size = w.heap.size -> Q47 K V w' it m L rest' k x v -> T (K.enc k) v w')
  (hE : rest = [] -> ∀ w', Qh1 w w' -> E w') : Qra w (at0 it) T E := by
 obtain ⟨es, c, seen, last, ps, h1, h2, hes, hok, hp, hent, hl, hpr⟩ := h
 refine ⟨rfl, some m, c, seen, last, h1, (by intro e; cases e), fun r' hr' => ?_⟩
 simp only [Zi] at hr'
 subst hr'
 refine ⟨es, c, h2, ?_, ?_, ?_⟩
 ·rcases hl with rfl | rfl
  ·exact .inl rfl
  ·by_cases he : es = #[]
   ·exact .inr (.inl he)
   ·have : 0 < es.size := Array.size_pos_iff.2 he
    exact .inr (.inr ⟨es[0], Array.getElem_mem this, hok.born _ (by simp)⟩)
 ·intro e he hns d
  have he' : e ∈ es.toList := by simpa using he
  rw [hes] at he'
  obtain ⟨⟨e', k, x⟩, hps, rfl⟩ := List.mem_map.1 he'
  obtain ⟨pre, post, hf, hq⟩ := Qe4 (fun p : MapEntry × (κ × β) => !seen.contains p.1.born) hps (by simpa using hns)
  have hnd : ((ps.filter fun p => !seen.contains p.1.born).map (·.1.born)).Nodup := by
   have := hok.nodup
   rw [hes, List.map_map] at this
   exact this.sublist (List.filter_sublist.map _)
  rw [hf, Zp, List.map_cons, List.nodup_append] at hnd
  have hf' : ps.filter (fun p => !(seen.push e'.born).contains p.1.born) = pre ++ post := by
   refine hq _ ?_ ?_ ?_ ?_
   ·intro y hy
    simp only [Zg, Array.contains_eq_mem, Array.mem_push, Zb, not_or] at hy ⊢
    exact hy.1
   ·simp
   ·intro y hy
    have hyf : y ∈ ps.filter fun p => !seen.contains p.1.born := by rw [hf]; exact List.mem_append_left _ hy
    have h3 := (List.mem_filter.1 hyf).2
    have h4 : y.1.born ≠ e'.born := hnd.2.2 y.1.born (List.mem_map.2 ⟨y, hy, rfl⟩) e'.born List.mem_cons_self
    simp only [Zg, Array.contains_eq_mem, Array.mem_push, Zb, not_or] at h3 ⊢
    exact ⟨h3, h4⟩
   ·intro y hy
    have hyf : y ∈ ps.filter fun p => !seen.contains p.1.born := by rw [hf]; exact List.mem_append_right _ (List.mem_cons_of_mem _ hy)
    have h3 := (List.mem_filter.1 hyf).2
    have h4 : y.1.born ≠ e'.born := by
     intro e1
     have := hnd.2.1
     simp only [List.nodup_cons] at this
     exact this.1 (List.mem_map.2 ⟨y, hy, e1⟩)
    simp only [Zg, Array.contains_eq_mem, Array.mem_push, Zb, not_or] at h3 ⊢
    exact ⟨h3, h4⟩
  have hit : it ≠ m := by
   rintro rfl
   rw [h1] at h2
   simp at h2
  have hk := (hent _ hps).1
  simp only at hk
  rw [hk]
  have hperm : rest.Perm ((k, x) :: (pre ++ post).map (·.2)) := by
   rw [hf, Zp, List.map_cons] at hpr
   rw [Zp]
   exact hpr.symm.trans List.perm_middle
  refine hT k x e'.val ((pre ++ post).map (·.2)) _ hperm ⟨rfl, rfl, rfl, by simp, fun b _ hb => ?_⟩ (by simp)
   ⟨es, c, seen.push e'.born, ps, e', ?_, ?_, hes, hok, hp, hent, by rw [hf'], hps, by simp, rfl⟩
  ·show (w.heap.setIfInBounds it _)[b]? = _
   rw [Array.getElem?_setIfInBounds_ne (fun e => hb e.symm)]
  ·show (w.heap.setIfInBounds it _)[it]? = _
   simp [Qk h1]
  ·show (w.heap.setIfInBounds it _)[m]? = _
   rw [Array.getElem?_setIfInBounds_ne hit]
   exact h2
 ·intro hall d
  refine hE ?_ _ ⟨rfl, rfl, rfl, rfl⟩
  have : (ps.filter fun p => !seen.contains p.1.born) = [] := by
   rw [List.filter_eq_nil_iff]
   intro p hp1 hns
   have hm : p.1 ∈ es.toList := by rw [hes]; exact List.mem_map.2 ⟨p, hp1, rfl⟩
   have h3 := hall p.1 (by simpa using hm) (by simpa using hns)
   have h4 := hok.born p.1 hm
   omega
  rw [this] at hpr
  exact hpr.symm.eq_nil
def leftM (w : World) (it : σ) : Nat :=
 match it with
 | some a => match w.heap[a.block]? with
  | some (.mapIter (some m) _ _ _) => Qm2 w (some a) m
  | _ => 0
 | none => 0
theorem ItOf.left {it : Nat} {rest : List (κ × β)} (h : ItOf K V w it m L rest) : leftM w (some (at0 it)) = rest.length := by
 obtain ⟨es, c, seen, last, ps, h1, h2, h3, h4, h5, h6, h7, h8⟩ := h
 unfold leftM Qm2
 simp only [h1, h2]
 rw [← h8.length_eq, h3, List.length_map, List.filter_map, List.length_map]
 rfl
end
end Go.Vc.SK
namespace Go.Proofs.YtnfcfbljdibinaaGreat
open Go Go.Vc
open Go.IntKind (i64)
open Go.Value (int)
open Go.Proofs.Tryz (prog)
abbrev Say := Int × τ
def QQd : SK.KS Say := ⟨fun k => .agg #[int i64 k.1, .string (QF k.2)]⟩
def QRb (P : Program) (t ti ts : TypeId) : Bool := match P.underlying t with
 | some (.struct fs) => match fs.toList with
  | [f0, f1] => (f0.name != "_") && (f1.name != "_") && Nat.beq f0.type ti && Nat.beq f1.type ts && Nat.beq f0.offset 0 && Nat.beq f1.offset 1
  | _ => false
 | _ => false
theorem Q04 {P : Program} {t ti ts : TypeId} (h : QRb P t ti ts = true) : ∃ f0 f1 : Field, P.underlying t = some (.struct #[f0, f1]) /\ f0.name ≠ "_" /\ f1.name ≠ "_" /\ f0.type = ti /\ f1.type = ts /\ f0.offset = 0 /\ f1.offset = 1 := by
 unfold QRb at h
 split at h
 ·rename_i fs hu
  split at h
  ·rename_i f0 f1 hf
   simp only [Bool.and_eq_true, bne_iff_ne, ne_eq] at h
   obtain ⟨⟨⟨⟨⟨h0, h1⟩, h2⟩, h3⟩, h4⟩, h5⟩ := h
   have : fs = #[f0, f1] := by apply Array.toList_inj.1; rw [hf]
   exact ⟨f0, f1, by rw [hu, this], h0, h1, Zt h2, Zt h3, Zt h4, Zt h5⟩
  ·cases h
 ·cases h
section
variable {P : Program} {t ti ts : TypeId}
theorem Qw3 {w : World} {d : TypeDesc} {cs : Array Value} {off : Nat} {v : Value} (hd : P.underlying ti = some d) (hn : Qz1 P ti = false) (h : cs[off]? = some v) : (part ti cs off).run P w = .ok v w := by
 have : (isAgg ti).run P w = .ok false w := Qy2 false hn (by rw [hd]; simp)
 simp [part, this, h]
theorem Qle (hp : QRb P t ti ts = true) (hh : P.stoodInHeld t = false) (hi : P.underlying ti = some (.int .i64)) (hs : P.underlying ts = some .string) (d : Nat) (n m : Int) (s u : τ) (w : World) :
  (Op.equalIn (d + 2) t (.agg #[int i64 n, .string (QF s)]) (.agg #[int i64 m, .string (QF u)])).run P w = .ok (decide ((n, s) = (m, u))) w := by
 have e1 : ∀ n m : Int, (Op.equalIn (d + 1) ti (int i64 n) (int i64 m)).run P w = .ok (decide (n = m)) w := by
  intro n m
  simp [Op.equalIn, Q4 hi, Int.beq_eq_decide']
 have e2 : ∀ s u : τ, (Op.equalIn (d + 1) ts (.string (QF s)) (.string (QF u))).run P w = .ok (decide (s = u)) w := by
  intro s u
  simp only [Op.equalIn, Sem.run_bind, Q4 hs, Result.andThen, Sem.run_pure, Qe7]
  congr 1
  rw [decide_eq_decide]
  exact ⟨Qf9, fun h => by rw [h]⟩
 obtain ⟨f0, f1, hu, n0, n1, t0, t1, o0, o1⟩ := Q04 hp
 have ai : Qz1 P ti = false := by unfold Qz1; rw [hi]
 have as' : Qz1 P ts = false := by unfold Qz1; rw [hs]
 have p1 : ∀ (n : Int) (s : τ), (part f0.type #[int i64 n, .string (QF s)] f0.offset).run P w = .ok (int i64 n) w := fun n s => by rw [t0, o0]; exact Qw3 hi ai rfl
 have p2 : ∀ (n : Int) (s : τ), (part f1.type #[int i64 n, .string (QF s)] f1.offset).run P w = .ok (.string (QF s)) w := fun n s => by rw [t1, o1]; exact Qw3 hs as' rfl
 rw [← t0] at e1
 rw [← t1] at e2
 rw [show d + 2 = (d + 1) + 1 from rfl, Op.equalIn]
 simp only [Sem.run_bind, Q4 hu, Result.andThen, run_program, hh, Bool.false_eq_true, if_false]
 rw [← Array.forIn_toList]
 by_cases h1 : n = m <;> by_cases h2 : s = u <;> simp [h1, h2, n0, n1, p1, p2, e1, e2, List.forIn_cons]
theorem Qua (hp : QRb P t ti ts = true) (hi : P.underlying ti = some (.int .i64)) (hs : P.underlying ts = some .string) (b : Bool) (d : Nat) (n : Int) (s : τ) (w : World) :
  (Instr.checkKey b (d + 2) t (.agg #[int i64 n, .string (QF s)])).run P w = .ok () w := by
 have e1 : (Instr.checkKey b (d + 1) ti (int i64 n)).run P w = .ok () w := by simp [Instr.checkKey, Q4 hi]
 have e2 : (Instr.checkKey b (d + 1) ts (.string (QF s))).run P w = .ok () w := by simp [Instr.checkKey, Q4 hs]
 obtain ⟨f0, f1, hu, n0, n1, t0, t1, o0, o1⟩ := Q04 hp
 have ai : Qz1 P ti = false := by unfold Qz1; rw [hi]
 have as' : Qz1 P ts = false := by unfold Qz1; rw [hs]
 have p1 : ∀ (n : Int) (s : τ), (part f0.type #[int i64 n, .string (QF s)] f0.offset).run P w = .ok (int i64 n) w := fun n s => by rw [t0, o0]; exact Qw3 hi ai rfl
 have p2 : ∀ (n : Int) (s : τ), (part f1.type #[int i64 n, .string (QF s)] f1.offset).run P w = .ok (.string (QF s)) w := fun n s => by rw [t1, o1]; exact Qw3 hs as' rfl
 rw [← t0] at e1
 rw [← t1] at e2
 rw [show d + 2 = (d + 1) + 1 from rfl, Instr.checkKey]
 simp only [Sem.run_bind, Q4 hu, Result.andThen]
 rw [← Array.forIn_toList]
 simp [List.forIn_cons, n0, n1, p1, p2, e1, e2]
theorem QSb (d : Nat) (n : Int) (s : τ) : Instr.sameBits (d + 1) (.agg #[int i64 n, .string (QF s)]) (.agg #[int i64 n, .string (QF s)]) = true := by
 simp [Instr.sameBits, Qe7]
end
theorem Q3g : QRb prog 151 3 9 = true := by kernel_rfl
theorem Qcg : Tryz.prog.underlying 3 = some (.int .i64) := by kernel_rfl
theorem Qdg : Tryz.prog.underlying 9 = some .string := by kernel_rfl
theorem Qxe : Tryz.prog.stoodInHeld 151 = false := by kernel_rfl
theorem Qpf : SK.KeysOk prog 151 QQd where
 check b k w := Qua Q3g Qcg Qdg b 9998 k.1 k.2 w
 eq a b w := by
  have := Qle Q3g Qxe Qcg Qdg 9998 a.1 b.1 a.2 b.2 w
  exact this
 kd := by
  obtain ⟨f0, f1, hu, _⟩ := Q04 Q3g
  exact ⟨_, hu, fun a b => rfl⟩
 same a := QSb 9999 a.1 a.2
theorem Qe9 : ∀ (x y : τ), Op.bytesLess x y = decide (x < y)
 | [], [] => by simp [Op.bytesLess]
 | _ :: _, [] => by simp [Op.bytesLess]
 | [], _ :: _ => by simp [Op.bytesLess]
 | a :: x, b :: y => by
  rw [Op.bytesLess, Qe9 x y]
  simp only [List.cons_lt_cons_iff]
  by_cases h1 : a < b <;> by_cases h2 : a = b <;> by_cases h3 : x < y <;> simp [h1, h2, h3]
def kLt (a b : ByteArray) : Prop := a.data.toList < b.data.toList
instance (a b : ByteArray) : Decidable (kLt a b) := inferInstanceAs (Decidable (_ < _))
theorem QU4 (a b : ByteArray) : Op.bytesLess a.toList b.toList = decide (kLt a b) := by
 rw [Qe9, ByteArray.toList_eq, ByteArray.toList_eq]
 rfl
open Go Go.Vc
open Go.IntKind (i64)
open Go.Value (int)
open Go.Proofs.Tryz (prog)
def bt (y b : Say) (n c : Nat) : Prop := if y.1 = b.1 then c < n \/ (n = c /\ y.2 < b.2) else b.1 < y.1
instance (y b : Say) (n c : Nat) : Decidable (bt y b n c) := by unfold bt; exact inferInstance
theorem QV4 (y : Say) (n : Nat) : ¬ bt y y n n := by
 unfold bt
 rw [if_pos rfl]
 rintro (h | ⟨_, h⟩)
 ·omega
 ·exact List.lt_irrefl _ h
theorem Qg9 {x y z : Say} {a b c : Nat} (h1 : bt x y a b) (h2 : bt y z b c) : bt x z a c := by
 unfold bt at *
 by_cases e1 : x.1 = y.1 <;> by_cases e2 : y.1 = z.1
 ·rw [if_pos e1] at h1
  rw [if_pos e2] at h2
  rw [if_pos (e1.trans e2)]
  rcases h1 with h1 | ⟨h1, h1'⟩ <;> rcases h2 with h2 | ⟨h2, h2'⟩
  ·exact .inl (by omega)
  ·exact .inl (by omega)
  ·exact .inl (by omega)
  ·exact .inr ⟨by omega, List.lt_trans h1' h2'⟩
 ·rw [if_neg e2] at h2
  rw [if_neg (by omega)]; omega
 ·rw [if_neg e1] at h1
  rw [if_neg (by omega)]; omega
 ·rw [if_neg e1] at h1
  rw [if_neg e2] at h2
  rw [if_neg (by omega)]; omega
theorem QRc {x y : Say} {a b : Nat} (h1 : ¬ bt x y a b) (h2 : ¬ bt y x b a) : x = y /\ a = b := by
 unfold bt at *
 by_cases e : x.1 = y.1
 ·rw [if_pos e] at h1
  rw [if_pos e.symm] at h2
  simp only [not_or, not_and] at h1 h2
  have hab : a = b := by omega
  have h3 := h1.2 hab
  have h4 := h2.2 hab.symm
  exact ⟨Prod.ext e (List.le_antisymm (List.not_lt.1 h4) (List.not_lt.1 h3)), hab⟩
 ·rw [if_neg e] at h1
  rw [if_neg (fun h => e h.symm)] at h2
  omega
def Qy5 (seen : List (Say × Nat)) (b : Say) (c : Nat) : Prop :=
 (seen = [] /\ b = (0, []) /\ c = 0) \/ (0 < c /\ (b, c) ∈ seen /\ ∀ y ∈ seen, ¬ bt y.1 b y.2 c)
theorem Qy5.put {seen : List (Say × Nat)} {b k : Say} {c x : Nat} (h : Qy5 seen b c) (hx : 0 < x) (hb : c = 0 \/ bt k b x c) : Qy5 ((k, x) :: seen) k x := by
 refine .inr ⟨hx, List.mem_cons_self, fun y hy => ?_⟩
 rcases List.mem_cons.1 hy with rfl | hy
 ·exact QV4 _ _
 ·rcases h with ⟨rfl, _⟩ | ⟨hc, _, hall⟩
  ·cases hy
  ·rcases hb with hb | hb
   ·omega
   ·exact fun h => hall y hy (Qg9 h hb)
theorem Qy5.keep {seen : List (Say × Nat)} {b k : Say} {c x : Nat} (h : Qy5 seen b c) (hc : c ≠ 0) (hb : ¬ bt k b x c) : Qy5 ((k, x) :: seen) b c := by
 rcases h with ⟨_, _, h0⟩ | ⟨h0, hm, hall⟩
 ·exact (hc h0).elim
 ·refine .inr ⟨h0, List.mem_cons_of_mem _ hm, fun y hy => ?_⟩
  rcases List.mem_cons.1 hy with rfl | hy
  ·exact hb
  ·exact hall y hy
def Qe0 (L : List QG2) : List Say := (L.filter (·.is)).map fun s => (s.epoch, s.data)
def QM4 (S : List Say) (b : Say) (c : Nat) : Prop := (S = [] /\ b = (0, []) /\ c = 0) \/ (b ∈ S /\ c = S.count b /\ ∀ y ∈ S, ¬ bt y b (S.count y) c)
theorem QM4.unique {S : List Say} {b b' : Say} {c c' : Nat} (h : QM4 S b c) (h' : QM4 S b' c') : b = b' /\ c = c' := by
 rcases h with ⟨rfl, rfl, rfl⟩ | ⟨hb, rfl, hall⟩
 ·rcases h' with ⟨_, rfl, rfl⟩ | ⟨hb, _⟩
  ·exact ⟨rfl, rfl⟩
  ·cases hb
 ·rcases h' with ⟨rfl, _⟩ | ⟨hb', rfl, hall'⟩
  ·cases hb
  ·exact QRc (hall' b hb) (hall b' hb')
def Qi3 (S : List Say) (L : List (Say × Nat)) : Prop := ∀ k, Vc.get k L = if k ∈ S then some (S.count k) else none
theorem Qi3.step {S : List Say} {L : List (Say × Nat)} (h : Qi3 S L) (k : Say) : Qi3 (S ++ [k]) ((k, S.count k + 1) :: del k L) := by
 intro y
 by_cases e : k = y
 ·subst e
  simp [Vc.get, List.count_append]
 ·have hg : Vc.get y ((k, S.count k + 1) :: del k L) = Vc.get y (del k L) := by simp [Vc.get, e]
  have hd : Vc.get y (del k L) = Vc.get y L := by
   clear hg h
   induction L with
   | nil => rfl
   | cons z L ih =>
    obtain ⟨q, x⟩ := z
    unfold del
    by_cases hq : q = k
    ·subst hq
     rw [List.filter_cons_of_neg (by simp)]
     have : Vc.get y ((q, x) :: L) = Vc.get y L := by simp [Vc.get, e]
     rw [this]; exact ih
    ·rw [List.filter_cons_of_pos (by simpa using hq)]
     unfold Vc.get
     split
     ·rfl
     ·exact ih
  rw [hg, hd, h y]
  have hc : (S ++ [k]).count y = S.count y := by
   rw [List.count_append, List.count_singleton]
   have : (k == y) = false := by simpa using e
   simp [this]
  rw [hc]
  simp only [List.mem_append, List.mem_singleton]
  by_cases hy : y ∈ S
  ·rw [if_pos hy, if_pos (.inl hy)]
  ·rw [if_neg hy, if_neg (by rintro (h | h); exact hy h; exact e h.symm)]
theorem Qi3.best {S : List Say} {L : List (Say × Nat)} (h : Qi3 S L) (hn : (L.map (·.1)).Nodup) {seen : List (Say × Nat)} (hp : L.Perm seen) {b : Say} {c : Nat} (hm : Qy5 seen b c) : QM4 S b c := by
 have hmem : ∀ y x, (y, x) ∈ seen ↔ y ∈ S /\ x = S.count y := by
  intro y x
  rw [← hp.mem_iff, Qd2 hn, h y]
  by_cases hy : y ∈ S
  ·rw [if_pos hy]
   simp [hy, eq_comm]
  ·rw [if_neg hy]
   simp [hy]
 rcases hm with ⟨rfl, rfl, rfl⟩ | ⟨hc, hb, hall⟩
 ·left
  refine ⟨?_, rfl, rfl⟩
  cases S with
  | nil => rfl
  | cons y S => exact absurd ((hmem y _).2 ⟨List.mem_cons_self, rfl⟩) (by simp)
 ·right
  have := (hmem b c).1 hb
  exact ⟨this.1, this.2, fun y hy => hall (y, S.count y) ((hmem y _).2 ⟨hy, rfl⟩)⟩
theorem QS1 {w : World} {kb ks : Nat} {n m : Int} {s t : ByteArray} (hb : RowW w kb #[int i64 m, .string t]) (hs : RowW w ks #[int i64 n, .string s]) {T : ψ}
  (hT : ∀ w', RowW w' kb #[int i64 n, .string s] -> Upd (fun b => b = kb) w w' -> T w') :
  ∃ (n119 : Int), w.cell? (at0 ks) = some (int i64 n119) /\ (∃ (s120 : ByteArray), w.cell? ((at0 ks).add 1) = some (.string s120) /\ (QL1 w (at0 kb) /\ (∀ w121 : World, QT w (at0 kb) (int i64 n119) w121 →
   (QL1 w121 ((at0 kb).add 1) /\ (∀ w122 : World, QT w121 ((at0 kb).add 1) (Value.string s120) w122 -> T w122))))) := by
 have e0 : ∀ k, (at0 k) = (at0 k).add 0 := fun k => (Qi k 0).symm
 refine ⟨n, by rw [e0 ks]; exact hs.c rfl, s, hs.c rfl, by rw [e0 kb]; exact hb.live (by simp), fun w1 h1 => ?_⟩
 rw [e0 kb] at h1
 have r1 := h1.row hb
 refine ⟨r1.live (by simp), fun w2 h2 => ?_⟩
 have r2 := h2.row r1
 refine hT w2 r2 ?_
 have u1 := h1.upd
 have u2 := h2.upd
 rw [Qr] at u1 u2
 exact u1.trans u2 fun x _ h => h
def VN (v : Value) (x : Nat) : Prop := v = int i64 (x : Int)
theorem QE2 {L : List QG2} {i : Nat} {s : QG2} (hs : L[i]? = some s) : Qe0 (L.take (i + 1)) = if s.is then Qe0 (L.take i) ++ [(s.epoch, s.data)] else Qe0 (L.take i) := by
 unfold Qe0
 rw [Zn, hs]
 cases h : s.is <;> simp [h]
theorem QP5 {w : World} {p : σ} {l c : Nat} {L : List QG2} (hl : l = L.length) (hL : Q8 w p (QE1 L)) (hs : L.length <= 100) :
  Calls prog 102 #[.slice p l c] w fun e w' => Ext w w' /\ ∃ b n, QM4 (Qe0 L) b n /\ e = .returned (.tuple #[.agg #[int i64 b.1, .string (QF b.2)], int i64 (n : Int)]) := by
 refine (F102_calls p l c w (fun v w' => Ext w w' /\ ∃ b n, QM4 (Qe0 L) b n /\ v = .tuple #[.agg #[int i64 b.1, .string (QF b.2)], int i64 (n : Int)])
  (fun pb _ pm _ _ _ _ _ n13 w14 => ∃ (kb m i : Nat) (Lm : List (Say × Nat)), pb = some (at0 kb) /\ pm = some m /\ n13 = i /\ i <= l /\ Ext w w14 /\ w.heap.size <= kb /\ w.heap.size <= m /\ RowW w14 kb #[int i64 0, .string ⟨#[]⟩] ∧
   SK.MapOf QQd VN w14 m Lm /\ Qi3 (Qe0 (L.take i)) Lm) (fun _ _ _ _ _ _ _ _ n13 _ => 100 - n13.toNat)
  (fun pb pit _ n58 w59 => ∃ (kb m it n : Nat) (Lm seen rest : List (Say × Nat)) (b : Say), pb = some (at0 kb) /\ pit = some (at0 it) /\ n58 = n /\ Ext w w59 /\ w.heap.size <= kb /\ w.heap.size <= m /\ w.heap.size <= it /\ kb ≠ it /\ kb ≠ m ∧
   RowW w59 kb #[int i64 b.1, .string (QF b.2)] /\ SK.ItOf QQd VN w59 it m Lm rest /\ Qi3 (Qe0 L) Lm /\ Lm.Perm (seen ++ rest) /\ Qy5 seen b n)
  (fun _ pit _ _ w59 => SK.leftM w59 pit) ?_).mono (by rintro e w' ⟨v, rfl, hx, b, n, h, rfl⟩; exact ⟨hx, b, n, h, rfl⟩)
 unfold F102
 intro k2 w3 hk2 k4 w5 hk4
 have x5 := hk2.ext.trans hk4.ext
 have hz : QK1 prog 3 = some (int i64 0) := by kernel_rfl
 have ht : Tryz.prog.underlying 192 = some (.map 151 3) := by kernel_rfl
 have s2 : w.heap.size <= k2 := by rw [hk2.size.1]; exact Nat.le_refl _
 have s4 : w.heap.size <= k4 := by rw [hk4.size.1]; exact hk2.ext.size
 refine ⟨⟨k2, k4, 0, [], rfl, rfl, rfl, Nat.zero_le _, x5, s2, s4, hk4.ext.rowW ⟨_, hk2.at⟩ id, SK.MapOf.made hk4, fun k => by simp [Qe0, Vc.get]⟩, ?_⟩
 rintro n13 w14 ⟨kb, m, i, Lm, e1, e2, rfl, hi, x14, b1, b2, r14, mo, hcn⟩
 simp only [Zi, at0, Zv, and_true] at e1 e2
 subst e1
 subst e2
 intros
 refine Q0 (fun hlt => ?_) (fun hge => ?_)
 ·simp only [Za] at hlt
  obtain ⟨s, hsI⟩ : ∃ s, L[i]? = some s := ⟨L[i]'(by omega), Zc _⟩
  have hc := hL.ext x14
  obtain ⟨a, rfl, c0⟩ := hc (i * 4 + 0) _ (QF1 hsI (j := 0) rfl)
  have cc : ∀ j v, (Q34 s)[j]? = some v -> w14.cell? ((a.add (i * 4)).add j) = some v := by
   intro j v hj
   obtain ⟨a', ha', h'⟩ := hc (i * 4 + j) v (QF1 hsI hj)
   cases ha'
   rw [Qt]; exact h'
  rw [Ze]
  refine ⟨⟨by omega, hlt⟩, _, c0, _, cc 1 _ rfl, _, cc 2 _ rfl, _, cc 3 _ rfl, fun k34 w35 hk34 => ?_⟩
  have hk0 : w14.heap.size <= k34 := by rw [hk34.size.1]; exact Nat.le_refl _
  have r35 : RowW w35 k34 _ := ⟨_, hk34.at⟩
  have e0 : (at0 k34) = (at0 k34).add 0 := (Qi k34 0).symm
  refine ⟨by rw [e0]; exact r35.live (by simp), fun w36 s36 => ?_⟩
  rw [e0] at s36
  have r36 := s36.row r35
  refine ⟨r36.live (by simp), fun w37 s37 => ?_⟩
  have r37 := s37.row r36
  refine ⟨r37.live (by simp), fun w38 s38 => ?_⟩
  have r38 := s38.row r37
  refine ⟨r38.live (by simp), fun w39 s39 => ?_⟩
  have r39 : RowW w39 k34 #[int i64 s.epoch, .string (QF s.data), .bool s.is, .bool s.none] := s39.row r38
  have x39 : Ext w14 w39 := Q5 (Q5 (Q5 (Q5 hk34.ext hk0 s36) hk0 s37) hk0 s38) hk0 s39
  have mu : ∀ n : Nat, 100 - (((i + 1 : Nat) : Int)).toNat < 100 - ((i : Int)).toNat := fun _ => by omega
  have hw : i64.wrap ((i : Int) + 1) = ((i + 1 : Nat) : Int) := by rw [w64 (by omega)]; omega
  rw [hw]
  refine ⟨_, r39.c rfl, Q0 (fun his => ?_) (fun his => ?_)⟩
  ·intro w41 hd
   have r41 : RowW w41 k34 _ := hd.ext.rowW r39 id
   have x41 := x39.trans hd.ext
   have mo41 := mo.upd x41 id
   have hk := hcn (s.epoch, s.data)
   have hlook : ∃ b, QW3 prog 192 (.map (some k4)) (QQd.enc (s.epoch, s.data)) w41 (int i64 (((Qe0 (L.take i)).count (s.epoch, s.data) : Nat) : Int)) b := by
    rcases mo41.lookup ht Qpf hz (s.epoch, s.data) with ⟨x, v, hg, rfl, hmap⟩ | ⟨hg, hmap⟩
    ·rw [hg] at hk
     split at hk
     ·cases hk; exact ⟨_, hmap⟩
     ·cases hk
    ·rw [hg] at hk
     split at hk
     ·cases hk
     ·rename_i hnm
      rw [List.count_eq_zero.2 hnm]
      exact ⟨_, hmap⟩
   obtain ⟨b44, hmap⟩ := hlook
   obtain ⟨v0, n, w47, hr, u47, sz47, hv0, hstab, hwr⟩ := mo41.write ht Qpf hz (s.epoch, s.data)
   obtain ⟨n48, rfl⟩ : ∃ n48, v0 = int i64 n48 := by
    rcases hv0 with ⟨x, _, rfl⟩ | ⟨_, rfl⟩
    ·exact ⟨_, rfl⟩
    ·exact ⟨_, rfl⟩
   obtain ⟨b', hst⟩ := hstab _ _ hmap
   obtain ⟨w51, hr2, u51, sz51, mo51⟩ := hwr (int i64 (((Qe0 (L.take i)).count (s.epoch, s.data) + 1 : Nat) : Int)) ((Qe0 (L.take i)).count (s.epoch, s.data) + 1) rfl
   have hcl : (Qe0 (L.take i)).count (s.epoch, s.data) <= 100 := by
    refine Zu List.count_le_length ?_
    unfold Qe0
    rw [List.length_map]
    refine Zu (List.length_filter_le _ _) ?_
    simp; omega
   have hw2 : i64.wrap ((((Qe0 (L.take i)).count (s.epoch, s.data) : Nat) : Int) + 1) = (((Qe0 (L.take i)).count (s.epoch, s.data) + 1 : Nat) : Int) := by rw [w64 (by omega)]; omega
   refine ⟨_, r41.c rfl, _, by rw [Qt]; exact r41.c rfl, _, b44, hmap, n48, n, w47, hr, ⟨_, b', hst, rfl⟩, w51, ?_, ?_⟩
   ·rw [hw2]; exact hr2
   ·have u : Upd (fun b => b = k4) w41 w51 := u47.trans u51 fun _ _ h => h
    refine ⟨⟨k2, k4, i + 1, _, rfl, rfl, rfl, by omega, Upd.trans (x14.trans x41) u fun x hx h => by omega, s2, s4, u.rowW (x41.rowW r14 id) ?_, mo51, ?_⟩, mu 0⟩
    ·rw [hk4.size.1]
     exact Nat.ne_of_lt (Qk hk2.at)
    ·rw [QE2 hsI, if_pos his]
     exact hcn.step _
  ·refine ⟨⟨k2, k4, i + 1, _, rfl, rfl, rfl, by omega, x14.trans x39, s2, s4, x39.rowW r14 id, mo.upd x39 id, ?_⟩, mu 0⟩
   rw [QE2 hsI, if_neg (by rw [his]; simp)]
   exact hcn
 ·simp only [Zb] at hge
  have hil : i = L.length := by omega
  rw [hil, List.take_length] at hcn
  obtain ⟨es, cl, _, hmi, _⟩ := id mo
  refine ⟨es, cl, hmi, fun it w55 hit => ?_⟩
  have it0 : SK.ItOf QQd VN w55 it k4 Lm Lm := SK.ItOf.made mo hmi hit
  have hits : w.heap.size <= it := by rw [hit.size.1]; exact x14.size
  have hne1 : k2 ≠ it := by rw [hit.size.1]; exact Nat.ne_of_lt (r14.lt)
  have hne2 : k2 ≠ k4 := by rw [hk4.size.1]; exact Nat.ne_of_lt (Qk hk2.at)
  refine ⟨⟨k2, k4, it, 0, Lm, [], Lm, (0, []), rfl, rfl, rfl, x14.trans hit.ext, s2, s4, hits, hne1, hne2, hit.ext.rowW r14 id, it0, hcn, List.Perm.refl _, .inl ⟨rfl, rfl, rfl⟩⟩, ?_⟩
  rintro n58 w59 ⟨kb', m', it', n, Lm', seen, rest, b, e1, e2, rfl, x59, _, b4, _, _, hne4, r59, hit59, hcn', hperm, hmax⟩
  simp only [Zi, at0, Zv, and_true] at e1 e2
  subst e1
  subst e2
  intros
  refine hit59.next (T := _) (E := _) ?_ ?_
  ·rintro ⟨ke, kd⟩ x v rest' w102 hpr u102 sz102 hat
   have hval : v = int i64 (x : Int) := hat.entry.1
   subst hval
   have x102 : Ext w w102 := Upd.trans x59 u102 fun y hy h => by omega
   have r102 : RowW w102 k2 _ := u102.rowW r59 hne1
   refine ⟨ke, QF kd, (x : Int), hat.entryAt, fun ks w108 hks => ?_⟩
   have hks0 : w102.heap.size <= ks := by rw [hks.size.1]; exact Nat.le_refl _
   have r108 : RowW w108 ks _ := ⟨_, hks.at⟩
   have e0 : (at0 ks) = (at0 ks).add 0 := (Qi ks 0).symm
   have eb : (at0 k2) = (at0 k2).add 0 := (Qi k2 0).symm
   refine ⟨by rw [e0]; exact r108.live (by simp), fun w109 s109 => ?_⟩
   rw [e0] at s109
   have r109 := s109.row r108
   refine ⟨r109.live (by simp), fun w110 s110 => ?_⟩
   have r110 : RowW w110 ks #[int i64 ke, .string (QF kd)] := s110.row r109
   have x110 : Ext w102 w110 := Q5 (Q5 hks.ext hks0 s109) hks0 s110
   have rb : RowW w110 k2 #[int i64 b.1, .string (QF b.2)] := x110.rowW r102 id
   have it110 : SK.ItOf QQd VN w110 it m' Lm' rest' := hat.toIt.upd x110 id id
   have hpos : 0 < x := by
    have hmemL := hat.entry.2
    have hnd := hat.toIt.map.nodup
    have := (Qd2 hnd).1 hmemL
    rw [hcn' (ke, kd)] at this
    split at this
    ·rename_i hm
     simp only [Zi] at this
     rw [← this]; exact List.count_pos_iff.2 hm
    ·cases this
   have hperm' : ∀ {sn : List (Say × Nat)}, sn = ((ke, kd), x) :: seen -> Lm'.Perm (sn ++ rest') := by
    rintro sn rfl
    refine hperm.trans ?_
    refine (List.Perm.append_left seen hpr).trans ?_
    simp [List.perm_middle]
   have hlt' : rest'.length < rest.length := by rw [hpr.length_eq]; simp
   have m0 : SK.leftM w59 (some (at0 it)) = rest.length := hit59.left
   have repl : (n = 0 \/ bt (ke, kd) b x n) -> ∀ w', RowW w' k2 #[int i64 ke, .string (QF kd)] -> Upd (fun b => b = k2) w110 w' -> _ := fun hb w' hr hu => (show
     (∃ (kb m it_1 n_1 : Nat) (Lm seen rest : List (Say × Nat)) (b : Say), some (at0 k2) = some (at0 kb) /\ some (at0 it) = some (at0 it_1) /\ (x : Int) = n_1 /\ Ext w w' /\ w.heap.size <= kb /\ w.heap.size <= m /\ w.heap.size <= it_1 /\ kb ≠ it_1 /\ kb ≠ m ∧
      RowW w' kb #[int i64 b.1, .string (QF b.2)] /\ SK.ItOf QQd VN w' it_1 m Lm rest /\ Qi3 (Qe0 L) Lm /\ Lm.Perm (seen ++ rest) /\ Qy5 seen b n_1) /\ SK.leftM w' (some (at0 it)) < SK.leftM w59 (some (at0 it)) from by
    have it' := it110.upd hu (fun h => hne1 h.symm) (fun h => hne4 h.symm)
    refine ⟨⟨k2, m', it, x, Lm', ((ke, kd), x) :: seen, rest', (ke, kd), rfl, rfl, rfl, Upd.trans (x102.trans x110) hu fun y hy h => by omega, s2, b4, hits, hne1, hne4, hr, it', hcn', hperm' rfl, hmax.put hpos hb⟩, ?_⟩
    rw [it'.left, m0]; exact hlt')
   have keep : n ≠ 0 -> ¬ bt (ke, kd) b x n →
     (∃ (kb m it_1 n_1 : Nat) (Lm seen rest : List (Say × Nat)) (b : Say), some (at0 k2) = some (at0 kb) /\ some (at0 it) = some (at0 it_1) /\ (n : Int) = n_1 /\ Ext w w110 /\ w.heap.size <= kb /\ w.heap.size <= m /\ w.heap.size <= it_1 /\ kb ≠ it_1 /\ kb ≠ m ∧
      RowW w110 kb #[int i64 b.1, .string (QF b.2)] /\ SK.ItOf QQd VN w110 it_1 m Lm rest /\ Qi3 (Qe0 L) Lm /\ Lm.Perm (seen ++ rest) /\ Qy5 seen b n_1) /\ SK.leftM w110 (some (at0 it)) < SK.leftM w59 (some (at0 it)) := by
    intro hn hb
    refine ⟨⟨k2, m', it, n, Lm', ((ke, kd), x) :: seen, rest', b, rfl, rfl, rfl, x102.trans x110, s2, b4, hits, hne1, hne4, rb, it110, hcn', hperm' rfl, hmax.keep hn hb⟩, ?_⟩
    rw [it110.left, m0]; exact hlt'
   refine ⟨_, r110.c rfl, _, rb.c rfl, _, r110.c rfl, _, rb.c rfl, ?_⟩
   refine Q0 (fun h1 => ?_) (fun h1 => ?_)
   ·simp only [Za] at h1
    refine Q0 (fun h2 => ?_) (fun h2 => ?_)
    ·simp only [Za] at h2
     have hb : bt (ke, kd) b x n := by unfold bt; rw [if_pos h1]; exact .inl (by omega)
     exact Q0 (fun _ => QS1 rb r110 (repl (.inr hb))) (fun _ => QS1 rb r110 (repl (.inr hb)))
    ·simp only [Zb] at h2
     refine Q0 (fun h3 => ?_) (fun h3 => ?_)
     ·simp only [Za] at h3
      have h3' : x = n := by omega
      refine ⟨_, r110.c rfl, _, rb.c rfl, ?_⟩
      refine Q0 (fun h4 => ?_) (fun h4 => ?_)
      ·simp only [Za] at h4
       exact QS1 rb r110 (repl (.inl (by omega)))
      ·simp only [Zb] at h4
       have hbl : Op.bytesLess (QF kd).toList (QF b.2).toList = decide (kd < b.2) := by rw [QU4]; rfl
       rw [hbl]
       refine Q0 (fun h5 => ?_) (fun h5 => ?_)
       ·simp only [Za] at h5
        exact QS1 rb r110 (repl (.inr (by unfold bt; rw [if_pos h1]; exact .inr ⟨h3', h5⟩)))
       ·simp only [Zb] at h5
        exact keep (by omega) (by
         unfold bt; rw [if_pos h1]
         rintro (h | ⟨_, h⟩)
         ·omega
         ·exact h5 h)
     ·simp only [Zb] at h3
      refine Q0 (fun h4 => ?_) (fun h4 => ?_)
      ·simp only [Za] at h4
       exact QS1 rb r110 (repl (.inl (by omega)))
      ·simp only [Zb] at h4
       exact keep (by omega) (by
        unfold bt; rw [if_pos h1]
        rintro (h | ⟨h, _⟩)
        ·omega
        ·exact h3 (by omega))
   ·simp only [Zb] at h1
    refine Q0 (fun h4 => ?_) (fun h4 => ?_)
    ·simp only [Za] at h4
     exact QS1 rb r110 (repl (.inl (by omega)))
    ·simp only [Zb] at h4
     refine Q0 (fun h5 => ?_) (fun h5 => ?_)
     ·simp only [Za] at h5
      exact QS1 rb r110 (repl (.inr (by unfold bt; rw [if_neg h1]; exact h5)))
     ·simp only [Zb] at h5
      exact keep (by omega) (by unfold bt; rw [if_neg h1]; exact h5)
  ·rintro rfl w103 hq
   have x103 := hq.ext
   have rb : RowW w103 k2 #[int i64 b.1, .string (QF b.2)] := x103.rowW r59 id
   have hfin : QM4 (Qe0 L) b n := hcn'.best hit59.map.nodup (by simpa using hperm) hmax
   refine QS1 rb rb fun w148 r148 u148 => ?_
   refine ⟨_, by rw [show at0 k2 = (at0 k2).add 0 from (Qi k2 0).symm]; exact r148.c rfl, _, r148.c rfl, Upd.trans (x59.trans x103) u148 fun y hy h => by omega, b, n, hfin, rfl⟩
open Go Go.Vc
open Go.IntKind (i64)
open Go.Value (int)
open Go.Proofs.Tryz (prog)
def QA (w : World) (p : σ) (l : Nat) (ks : List Bool) : Prop := l = ks.length /\ Q8 w p (ks.map Value.bool)
theorem QA.ext {w w' : World} {p : σ} {l : Nat} {ks : List Bool} (h : QA w p l ks) (hu : Ext w w') : QA w' p l ks := ⟨h.1, h.2.ext hu⟩
theorem QA.none (w : World) (p : σ) : QA w p 0 [] := ⟨rfl, Q8.nil _ _⟩
theorem QA.get {w : World} {p : σ} {l : Nat} {ks : List Bool} (h : QA w p l ks) {i : Nat} (hi : i < l) : ∃ a, p = some a /\ w.cell? (a.add (i * 1)) = some (.bool (ks.getD i false)) := by
 have hlt : i < ks.length := by rw [← h.1]; exact hi
 obtain ⟨a, ha, hc⟩ := h.2 i (.bool (ks.getD i false)) (by simp [Zj, hlt])
 exact ⟨a, ha, by rw [Nat.mul_one]; exact hc⟩
def QR9 (x : Bool × QG2) : Bool := x.1 && (x.2.is || x.2.none)
def wit (ks : List Bool) (L : List QG2) : Bool := (ks.zip L).any QR9
theorem QL4 : ∀ {ks : List Bool} {L : List QG2} {i : Nat} {s : QG2}, L[i]? = some s -> wit ks (L.take (i + 1)) = (wit ks (L.take i) || QR9 (ks.getD i false, s))
 | [], L, i, s, _ => by simp [wit, QR9]
 | _ :: _, [], _, _, h => by simp at h
 | k :: ks, s0 :: L, 0, s, h => by
  simp only [List.getElem?_cons_zero, Zi] at h
  subst h
  simp [wit]
 | k :: ks, s0 :: L, i + 1, s, h => by
  have := QL4 (ks := ks) (L := L) (i := i) (s := s) (by simpa using h)
  simp only [wit, List.take_succ_cons, List.zip_cons_cons, List.any_cons, List.getD_cons_succ] at *
  rw [this, Bool.or_assoc]
def Qyc (has : Bool) (e : Int) (p : σ) (l c : Nat) (n : Int) (b : Bool) : Value := .agg #[.bool has, int i64 e, .slice p l c, int i64 n, .bool b]
section
variable {w : World} {a : Nat} {M : List Mem} {left : Int} {down : Bool} {F : Nat -> Prop}
theorem Qh6 (h : Qb w a M left true F) (hM : M.length <= 100) (h1 : 1 <= M.length) (p2 : σ) (l2 c2 : Nat) (n : Int) : Calls prog 53 #[.pointer (some (at0 a)), .slice p2 l2 c2, int i64 n] w fun e w' => e = .returned (.tuple #[Qyc false 0 none 0 0 0 false, int i64 130]) /\ Ext w w' := by
 refine (F53_calls (some (at0 a)) p2 l2 c2 n w (fun v w' => v = .tuple #[Qyc false 0 none 0 0 0 false, int i64 130] /\ Ext w w') (fun _ _ _ _ _ _ _ _ _ => False) (fun _ _ _ _ _ _ _ _ _ => 0) ?_).mono (by rintro e w' ⟨v, rfl, rfl, h⟩; exact ⟨rfl, h⟩)
 unfold F53
 intro k w5 hk
 refine (Qp6 (h.ext hk.ext) hM h1 n).mono ?_
 rintro e w6 ⟨x6, h6⟩
 rw [if_pos rfl] at h6
 subst h6
 refine ⟨_, _, _, _, rfl, Q0 (fun _ => ?_) fun h => by cases h⟩
 have r5 : RowW w6 k _ := x6.rowW ⟨_, hk.at⟩ id
 have e0 : (at0 k) = (at0 k).add 0 := (Qi k 0).symm
 have hk0 : w.heap.size <= k := by rw [hk.size.1]; exact Nat.le_refl _
 refine ⟨by rw [e0]; exact r5.live (by simp), fun w10 s10 => ?_⟩
 rw [e0] at s10
 have r10 := s10.row r5
 refine ⟨r10.live (by simp), fun w11 s11 => ?_⟩
 have r11 := s11.row r10
 refine ⟨r11.live (by simp), fun w12 s12 => ?_⟩
 have r12 := s12.row r11
 refine ⟨r12.live (by simp), fun w13 s13 => ?_⟩
 have r13 := s13.row r12
 refine ⟨r13.live (by simp), fun w14 s14 => ?_⟩
 have r14 := s14.row r13
 refine ⟨_, by rw [e0]; exact r14.c rfl, _, r14.c rfl, _, _, _, r14.c rfl, _, r14.c rfl, _, r14.c rfl, rfl, ?_⟩
 exact Q5 (Q5 (Q5 (Q5 (Q5 (hk.ext.trans x6) hk0 s10) hk0 s11) hk0 s12) hk0 s13) hk0 s14
structure QBf (w w' : World) (L : List QG2) (ks : List Bool) (v : Value) (b : Say) (c : Nat) (k cc : Nat) : Prop where
 best : QM4 (Qe0 L) b c
 val : v = Qyc (decide (0 < c)) b.1 (some (at0 k)) b.2.length cc (c : Int) (wit ks L)
 new : w.heap.size <= k
 data : Q3 w' (some (at0 k)) b.2.length b.2
theorem QPa (h : Qb w a M left false F) (hM : M.length <= 100) (h1 : 1 <= M.length) {p2 : σ} {l2 c2 : Nat} {ks : List Bool} (hks : QA w p2 l2 ks) (n : Int) :
  Calls prog 53 #[.pointer (some (at0 a)), .slice p2 l2 c2, int i64 n] w fun e w' => Ext w w' /\ ∃ v b c k cc, e = .returned (.tuple #[v, int i64 0]) /\ QBf w w' (Qn n M) ks v b c k cc := by
 refine (F53_calls (some (at0 a)) p2 l2 c2 n w (fun v w' => Ext w w' /\ ∃ v1 b c k cc, v = .tuple #[v1, int i64 0] /\ QBf w w' (Qn n M) ks v1 b c k cc)
  (fun p4 p33 p8 l8 _ _ w39 n46 w47 => ∃ (k4 k33 kd i : Nat) (b : Say) (c cc : Nat), p4 = some (at0 k4) /\ p33 = some (at0 k33) /\ l8 = M.length /\ n46 = i /\ i <= M.length /\ w.heap.size <= k4 /\ w.heap.size <= k33 /\ k4 ≠ k33 /\ w.heap.size <= kd /\ kd ≠ k4 /\ kd ≠ k33 /\ Ext w w47 ∧
   Q8 w47 p8 (QE1 (Qn n M)) /\ (∀ a, p8 = some a -> a.block ≠ k33) /\ RowW w47 k4 #[.bool false, int i64 0, .slice none 0 0, int i64 0, .bool false] /\ QM4 (Qe0 (Qn n M)) b c ∧
   RowW w47 k33 #[.bool (decide (0 < c)), int i64 b.1, .slice (some (at0 kd)) b.2.length cc, int i64 (c : Int), .bool (wit ks ((Qn n M).take i))] /\ Q3 w47 (some (at0 kd)) b.2.length b.2)
  (fun _ _ _ _ _ _ _ n46 _ => 100 - n46.toNat) ?_).mono (by rintro e w' ⟨v, rfl, hx, v1, b, c, k, cc, rfl, h⟩; exact ⟨hx, v1, b, c, k, cc, rfl, h⟩)
 unfold F53
 intro k4 w5 hk4
 have s4 : w.heap.size <= k4 := by rw [hk4.size.1]; exact Nat.le_refl _
 refine (Qp6 (h.ext hk4.ext) hM h1 n).mono ?_
 rintro e w6 ⟨x6, h6⟩
 rw [if_neg (by simp)] at h6
 obtain ⟨p8, c8, rfl, ho⟩ := h6
 refine ⟨_, _, _, _, rfl, Q0 (fun h => by cases h) fun _ => ?_⟩
 have hls : (Qn n M).length = M.length := by simp [Qn]
 refine (QP5 (L := Qn n M) (by rw [hls]) ho.cells (by omega)).mono ?_
 rintro e w20 ⟨x20, b, c, hb, rfl⟩
 refine ⟨_, _, _, rfl, fun k25 w26 hk25 => ?_⟩
 have xa : Ext w w20 := (hk4.ext.trans x6).trans x20
 have s25 : w20.heap.size <= k25 := by rw [hk25.size.1]; exact Nat.le_refl _
 have r26 : RowW w26 k25 _ := ⟨_, hk25.at⟩
 have e25 : (at0 k25) = (at0 k25).add 0 := (Qi k25 0).symm
 refine ⟨by rw [e25]; exact r26.live (by simp), fun w27 s27 => ?_⟩
 rw [e25] at s27
 have r27 := s27.row r26
 refine ⟨r27.live (by simp), fun w28 s28 => ?_⟩
 have r28 := s28.row r27
 have x28 : Ext w20 w28 := Q5 (Q5 hk25.ext s25 s27) s25 s28
 refine ⟨_, r28.c rfl, _, r28.c rfl, ?_⟩
 obtain ⟨cc, w31, hr, x31, hd, sz31⟩ := Qhe w28 b.2
 have xb : Ext w w31 := (xa.trans x28).trans x31
 refine ⟨_, _, _, w31, hr, fun k33 w34 hk33 => ?_⟩
 have s33 : w31.heap.size <= k33 := by rw [hk33.size.1]; exact Nat.le_refl _
 have e33 : (at0 k33) = (at0 k33).add 0 := (Qi k33 0).symm
 have r34 : RowW w34 k33 _ := ⟨_, hk33.at⟩
 refine ⟨by rw [e33]; exact r34.live (by simp), fun w35 s35 => ?_⟩
 rw [e33] at s35
 have r35 := s35.row r34
 refine ⟨r35.live (by simp), fun w36 s36 => ?_⟩
 have r36 := s36.row r35
 refine ⟨r36.live (by simp), fun w37 s37 => ?_⟩
 have r37 := s37.row r36
 refine ⟨r37.live (by simp), fun w38 s38 => ?_⟩
 have r38 := s38.row r37
 refine ⟨r38.live (by simp), fun w39 s39 => ?_⟩
 have r39 := s39.row r38
 have x39 : Ext w31 w39 := Q5 (Q5 (Q5 (Q5 (Q5 hk33.ext s33 s35) s33 s36) s33 s37) s33 s38) s33 s39
 have xc : Ext w w39 := xb.trans x39
 have d39 : Q3 w39 (some (at0 w28.heap.size)) b.2.length b.2 := hd.ext x39
 have sd : w.heap.size <= w28.heap.size := (xa.trans x28).size
 have k4lt : k4 < w28.heap.size := Zo (Qk hk4.at) ((x6.trans x20).trans x28).size
 have hpb : ∀ a, p8 = some a -> a.block < w28.heap.size := by
  intro a ha
  rcases ho.where_ with ⟨h0, _⟩ | ⟨g, h0, _, hlt, _⟩
  ·rw [h0] at ha; cases ha
  ·rw [h0] at ha
   cases ha
   exact Zo hlt (x20.trans x28).size
 have hk33ne : k4 ≠ k33 := by omega
 refine ⟨⟨k4, k33, w28.heap.size, 0, b, c, cc, rfl, rfl, rfl, rfl, Nat.zero_le _, s4, by omega, hk33ne, sd, by omega, by omega, xc,
  ho.cells.ext (((x20.trans x28).trans x31).trans x39), fun a ha => by have := hpb a ha; omega, ((((x6.trans x20).trans x28).trans x31).trans x39).rowW ⟨_, hk4.at⟩ id, hb, ?_, d39⟩, ?_⟩
 ·have : decide ((0 : Int) < (c : Int)) = decide (0 < c) := by rw [decide_eq_decide]; omega
  rw [this] at r39
  have hw0 : wit ks ((Qn n M).take 0) = false := by simp [wit]
  rw [hw0]
  exact r39
 rintro n46 w47 ⟨k4', k33', kd, i, b, c, cc, e1, e2, _, rfl, hi, _, s33', hne, sd', hd4, hd33, x47, hcs, hpk, r4, hb, r33, d47⟩
 simp only [Zi, at0, Zv, and_true] at e1 e2
 subst e1
 subst e2
 intros
 refine Q0 (fun hlt => ?_) (fun hge => ?_)
 ·simp only [Za] at hlt
  obtain ⟨s, hsI⟩ : ∃ s, (Qn n M)[i]? = some s := ⟨(Qn n M)[i]'(by omega), Zc _⟩
  obtain ⟨pa, rfl, c0⟩ := hcs (i * 4 + 0) _ (QF1 hsI (j := 0) rfl)
  have ccs : ∀ j v, (Q34 s)[j]? = some v -> w47.cell? ((pa.add (i * 4)).add j) = some v := by
   intro j v hj
   obtain ⟨a', ha', h'⟩ := hcs (i * 4 + j) v (QF1 hsI hj)
   cases ha'
   rw [Qt]; exact h'
  rw [Ze]
  refine ⟨⟨by omega, hlt⟩, _, c0, _, ccs 1 _ rfl, _, ccs 2 _ rfl, _, ccs 3 _ rfl, fun k79 w80 hk79 => ?_⟩
  have hk0 : w47.heap.size <= k79 := by rw [hk79.size.1]; exact Nat.le_refl _
  have r80 : RowW w80 k79 _ := ⟨_, hk79.at⟩
  have e79 : (at0 k79) = (at0 k79).add 0 := (Qi k79 0).symm
  refine ⟨by rw [e79]; exact r80.live (by simp), fun w81 s81 => ?_⟩
  rw [e79] at s81
  have r81 := s81.row r80
  refine ⟨r81.live (by simp), fun w82 s82 => ?_⟩
  have r82 := s82.row r81
  refine ⟨r82.live (by simp), fun w83 s83 => ?_⟩
  have r83 := s83.row r82
  refine ⟨r83.live (by simp), fun w84 s84 => ?_⟩
  have r84 : RowW w84 k79 #[int i64 s.epoch, .string (QF s.data), .bool s.is, .bool s.none] := s84.row r83
  have x84 : Ext w47 w84 := Q5 (Q5 (Q5 (Q5 hk79.ext hk0 s81) hk0 s82) hk0 s83) hk0 s84
  have hw : i64.wrap ((i : Int) + 1) = ((i + 1 : Nat) : Int) := by rw [w64 (by omega)]; omega
  rw [hw]
  have hstep := QL4 (ks := ks) hsI
  have r33' : RowW w84 k33 _ := x84.rowW r33 id
  have mu : 100 - (((i + 1 : Nat) : Int)).toNat < 100 - ((i : Int)).toNat := by omega
  have keep : QR9 (ks.getD i false, s) = false -> _ := fun hf => (show
    (∃ (k4_1 k33_1 kd i_1 : Nat) (b : Say) (c cc : Nat), some (at0 k4) = some (at0 k4_1) /\ some (at0 k33) = some (at0 k33_1) /\ M.length = M.length /\ ((i + 1 : Nat) : Int) = i_1 /\ i_1 <= M.length /\ w.heap.size <= k4_1 /\ w.heap.size <= k33_1 /\ k4_1 ≠ k33_1 /\ w.heap.size <= kd /\ kd ≠ k4_1 /\ kd ≠ k33_1 /\ Ext w w84 ∧
   Q8 w84 (some pa) (QE1 (Qn n M)) /\ (∀ a, some pa = some a -> a.block ≠ k33_1) /\ RowW w84 k4_1 #[.bool false, int i64 0, .slice none 0 0, int i64 0, .bool false] /\ QM4 (Qe0 (Qn n M)) b c ∧
   RowW w84 k33_1 #[.bool (decide (0 < c)), int i64 b.1, .slice (some (at0 kd)) b.2.length cc, int i64 (c : Int), .bool (wit ks ((Qn n M).take i_1))] /\ Q3 w84 (some (at0 kd)) b.2.length b.2) /\ 100 - (((i + 1 : Nat) : Int)).toNat < 100 - ((i : Int)).toNat from
    ⟨⟨k4, k33, kd, i + 1, b, c, cc, rfl, rfl, rfl, rfl, by omega, s4, s33', hne, sd', hd4, hd33, x47.trans x84, hcs.ext x84, hpk, x84.rowW r4 id, hb, by rw [hstep, hf, Bool.or_false]; exact r33', d47.ext x84⟩, mu⟩)
  have set : QR9 (ks.getD i false, s) = true -> ∀ w88, QT w84 ((at0 k33).add 4) (.bool true) w88 -> _ := fun hf w88 s88 => (show
    (∃ (k4_1 k33_1 kd i_1 : Nat) (b : Say) (c cc : Nat), some (at0 k4) = some (at0 k4_1) /\ some (at0 k33) = some (at0 k33_1) /\ M.length = M.length /\ ((i + 1 : Nat) : Int) = i_1 /\ i_1 <= M.length /\ w.heap.size <= k4_1 /\ w.heap.size <= k33_1 /\ k4_1 ≠ k33_1 /\ w.heap.size <= kd /\ kd ≠ k4_1 /\ kd ≠ k33_1 /\ Ext w w88 ∧
   Q8 w88 (some pa) (QE1 (Qn n M)) /\ (∀ a, some pa = some a -> a.block ≠ k33_1) /\ RowW w88 k4_1 #[.bool false, int i64 0, .slice none 0 0, int i64 0, .bool false] /\ QM4 (Qe0 (Qn n M)) b c ∧
   RowW w88 k33_1 #[.bool (decide (0 < c)), int i64 b.1, .slice (some (at0 kd)) b.2.length cc, int i64 (c : Int), .bool (wit ks ((Qn n M).take i_1))] /\ Q3 w88 (some (at0 kd)) b.2.length b.2) /\ 100 - (((i + 1 : Nat) : Int)).toNat < 100 - ((i : Int)).toNat from by
    have u88 := s88.upd
    rw [Qr] at u88
    have r88 := s88.row r33'
    refine ⟨⟨k4, k33, kd, i + 1, b, c, cc, rfl, rfl, rfl, rfl, by omega, s4, s33', hne, sd', hd4, hd33, Q5 (x47.trans x84) s33' s88, (hcs.ext x84).upd u88 (fun a ha _ => hpk a ha), hpk, u88.rowW (x84.rowW r4 id) hne, hb, ?_, (d47.ext x84).upd u88 (fun a ha _ => by cases ha; exact hd33)⟩, mu⟩
    rw [hstep, hf, Bool.or_true]
    exact r88)
  refine Q0 (fun h2 => ?_) (fun h2 => ?_)
  ·simp only [Za] at h2
   obtain ⟨a2, rfl, hc2⟩ := (hks.ext (x47.trans x84)).get (i := i) (by omega)
   refine ⟨⟨by omega, h2⟩, _, hc2, Q0 (fun h3 => ?_) (fun h3 => ?_)⟩
   ·refine ⟨_, r84.c rfl, Q0 (fun h4 => ?_) (fun h4 => ?_)⟩
    ·exact ⟨r33'.live (by simp), set (by show (ks.getD i false && (s.is || s.none)) = _; rw [h3, h4]; rfl)⟩
    ·refine ⟨_, r84.c rfl, Q0 (fun h5 => ?_) (fun h5 => ?_)⟩
     ·exact ⟨r33'.live (by simp), set (by show (ks.getD i false && (s.is || s.none)) = _; rw [h3, h5]; exact Bool.or_true _)⟩
     ·exact keep (by show (ks.getD i false && (s.is || s.none)) = _; rw [h4, h5]; exact Bool.and_false _)
   ·exact keep (by show (ks.getD i false && (s.is || s.none)) = _; rw [h3]; rfl)
  ·simp only [Zb] at h2
   have : ks.getD i false = false := by
    have := hks.1
    rw [Zj, Zr (by omega)]; rfl
   exact keep (by show (ks.getD i false && (s.is || s.none)) = _; rw [this]; rfl)
 ·simp only [Zb] at hge
  have hil : i = M.length := by omega
  have htk : (Qn n M).take i = Qn n M := Zh (by omega)
  rw [htk] at r33
  have e4 : (at0 k4) = (at0 k4).add 0 := (Qi k4 0).symm
  refine ⟨_, by rw [e33]; exact r33.c rfl, _, r33.c rfl, _, _, _, r33.c rfl, _, r33.c rfl, _, r33.c rfl, ?_⟩
  refine ⟨by rw [e4]; exact r4.live (by simp), fun w96 s96 => ?_⟩
  rw [e4] at s96
  have r96 := s96.row r4
  refine ⟨r96.live (by simp), fun w97 s97 => ?_⟩
  have r97 := s97.row r96
  refine ⟨r97.live (by simp), fun w98 s98 => ?_⟩
  have r98 := s98.row r97
  refine ⟨r98.live (by simp), fun w99 s99 => ?_⟩
  have r99 := s99.row r98
  refine ⟨r99.live (by simp), fun w100 s100 => ?_⟩
  have r100 := s100.row r99
  have x100 : Ext w w100 := Q5 (Q5 (Q5 (Q5 (Q5 x47 s4 s96) s4 s97) s4 s98) s4 s99) s4 s100
  refine ⟨_, by rw [e4]; exact r100.c rfl, _, r100.c rfl, _, _, _, r100.c rfl, _, r100.c rfl, _, r100.c rfl, x100, _, b, c, kd, cc, rfl, hb, rfl, sd', ?_⟩
  have u : ∀ {j : Nat} {v : Value} {wa wb : World}, QT wa ((at0 k4).add j) v wb -> Q3 wa (some (at0 kd)) b.2.length b.2 -> Q3 wb (some (at0 kd)) b.2.length b.2 := by
   intro j v wa wb hs hB
   have hu := hs.upd
   rw [Qr] at hu
   exact hB.upd hu fun a ha _ => by cases ha; exact hd4
  exact u s100 (u s99 (u s98 (u s97 (u s96 d47))))
end
open Go Go.Vc
open Go.IntKind (i64)
open Go.Value (int)
open Go.Proofs.Tryz (prog)
def wrZ (s : StA) (i : Nat) (n : Int) (len : Nat) : Int := if s.down then 130 else match s.M[i]? with
 | some m => Qj m.d n len
 | none => 1
theorem Qxd {w : World} {a : Nat} {s : StA} {F : Nat -> Prop} (h : IsA w a s F) (ho : OkA s) {i : Nat} (hi : i < s.M.length) (n : Int) {p : σ} {l c : Nat} {b : τ} (hb : Q3 w p l b) :
  Calls prog 39 #[.pointer (some (at0 a)), int i64 (i : Int), int i64 n, .slice p l c] w fun e w' => ∃ F', e = .returned (int i64 (wrZ s i n b.length)) /\ Qf F F' w w' /\ IsA w' a (QL s i n b) F' := by
 obtain ⟨M, left, down⟩ := s
 cases down with
 | true =>
  refine (Q13 h (i : Int) n p l c).mono ?_
  rintro e w' ⟨rfl, rfl⟩
  exact ⟨F, rfl, Qf.refl _ _, by simpa [QL] using h⟩
 | false =>
  obtain ⟨m, hm⟩ : ∃ m, M[i]? = some m := ⟨M[i]'hi, Zc _⟩
  refine (Q23 h ho.2 hm n hb).mono ?_
  rintro e w' ⟨F', rfl, hs, h'⟩
  refine ⟨F', by simp [wrZ, hm], hs, ?_⟩
  have : QL ⟨M, left, false⟩ (i : Int) n b = ⟨M.set i { m with d := Q30 m.d n b }, if Qj m.d n b.length = 0 /\ 0 < left then left - 1 else left, decide (Qj m.d n b.length = 0 /\ left = 1)⟩ := by
   unfold QL
   simp [hm]
  rw [this]; exact h'
theorem QJ9 (s : StA) (d n : Int) (b : τ) : (QL s d n b).M.length = s.M.length := by
 unfold QL
 split
 ·rfl
 ·split
  ·split
   ·simp
   ·rfl
  ·rfl
def QT0 (to : Nat -> Bool) (n : Int) (b : τ) (s : StA) : Nat -> StA × Int × Bool
 | 0 => (s, 0, false)
 | i + 1 =>
  let r := QT0 to n b s i
  if r.2.2 then r
  else if to i then
   (QL r.1 i n b, if wrZ r.1 i n b.length = 0 then r.2.1 + 1 else r.2.1, decide (wrZ r.1 i n b.length = 130))
  else r
theorem QN6 {to : Nat -> Bool} {n : Int} {b : τ} {s : StA} (h : OkA s) : ∀ i, OkA (QT0 to n b s i).1 /\ (QT0 to n b s i).1.M.length = s.M.length /\ 0 <= (QT0 to n b s i).2.1 /\ (QT0 to n b s i).2.1 <= i
 | 0 => ⟨h, rfl, Int.le_refl _, Int.le_refl _⟩
 | i + 1 => by
  have ih := QN6 (to := to) (n := n) (b := b) h i
  simp only [QT0]
  split
  ·exact ⟨ih.1, ih.2.1, ih.2.2.1, by have := ih.2.2.2; omega⟩
  ·split
   ·refine ⟨ih.1.write _ _ _, by rw [QJ9]; exact ih.2.1, ?_⟩
    have h1 := ih.2.2.1
    have h2 := ih.2.2.2
    dsimp only
    split <;> omega
   ·exact ⟨ih.1, ih.2.1, ih.2.2.1, by have := ih.2.2.2; omega⟩
theorem QL2 {to : Nat -> Bool} {n : Int} {b : τ} {s : StA} {i : Nat} (h : (QT0 to n b s i).2.2 = true) : ∀ j, QT0 to n b s (i + j) = QT0 to n b s i
 | 0 => rfl
 | j + 1 => by
  have ih := QL2 h j
  rw [← Nat.add_assoc]
  simp only [QT0]
  rw [ih, if_pos h]
def Qf0 (to : Nat -> Bool) (addr epoch : Int) (d : τ) (s : StA) : StA × Int × Int :=
 if Qs0 addr /\ Qs0 epoch /\ d.length <= 4096 then
  (if (QT0 to addr (Qx addr epoch d) s s.M.length).2.2 then ((QT0 to addr (Qx addr epoch d) s s.M.length).1, 0, 130)
   else ((QT0 to addr (Qx addr epoch d) s s.M.length).1, (QT0 to addr (Qx addr epoch d) s s.M.length).2.1, 0))
 else (s, 0, 1)
theorem QAc (i : Int) (w : World) : Calls prog 97 #[int i64 i] w fun e w' => e = .returned (.bool true) /\ Ext w w' :=
 (F97_calls i w (fun v w' => v = .bool true /\ Ext w w') ⟨rfl, Upd.refl _ _⟩).mono (by rintro e w' ⟨v, rfl, rfl, h⟩; exact ⟨rfl, h⟩)
theorem QC7 {w : World} {a : Nat} {s : StA} {F : Nat -> Prop} (h : IsA w a s F) (ho : OkA s) (addr epoch : Int) (d : τ) (hdl : d.length <= 4611686018427387904) (to : Nat -> Bool)
  (hw : ∀ w', Upd F w w' -> ∀ i : Nat, i < s.M.length -> Calls prog 97 #[int i64 (i : Int)] w' fun e w'' => e = .returned (.bool (to i)) /\ Ext w' w'') :
  Calls prog 96 #[.pointer (some (at0 a)), int i64 addr, .agg #[int i64 epoch, .string (QF d)], .func (.func 97) #[] #[]] w fun e w' =>
   ∃ F', e = .returned (.tuple #[int i64 (Qf0 to addr epoch d s).2.1, int i64 (Qf0 to addr epoch d s).2.2]) /\ Qf F F' w w' /\ IsA w' a (Qf0 to addr epoch d s).1 F' := by
 refine (F96_97_calls (some (at0 a)) addr epoch (QF d) w (fun v w' => ∃ F', v = .tuple #[int i64 (Qf0 to addr epoch d s).2.1, int i64 (Qf0 to addr epoch d s).2.2] /\ Qf F F' w w' /\ IsA w' a (Qf0 to addr epoch d s).1 F')
  (fun ps ls _ len w15 n22 n23 w24 => ∃ (i k : Nat) (F' : Nat -> Prop), ps = some (at0 k) /\ ¬ F' k /\ len = (s.M.length : Int) /\ n23 = i /\ i <= s.M.length /\ (QT0 to addr (Qx addr epoch d) s i).2.2 = false /\ n22 = (QT0 to addr (Qx addr epoch d) s i).2.1 ∧
   Qs0 addr /\ Qs0 epoch /\ d.length <= 4096 /\ Ext w w15 /\ Qf F F' w15 w24 /\ IsA w24 a (QT0 to addr (Qx addr epoch d) s i).1 F' /\ Q3 w24 ps ls (Qx addr epoch d) /\ k < w15.heap.size /\ ¬ F k)
  (fun _ _ _ _ _ _ n23 _ => 100 - n23.toNat) ?_).mono (by rintro e w' ⟨v, rfl, F', rfl, h⟩; exact ⟨F', rfl, h⟩)
 unfold F96_97
 intro k5 w6 hk5
 have hM : s.M.length <= 32 := ho.1
 have r6 : RowW w6 k5 #[int i64 epoch, .string (QF d)] := ⟨_, hk5.at⟩
 refine Q0 (fun h => by cases h) fun _ => ⟨_, r6.c rfl, _, r6.c rfl, ?_⟩
 obtain ⟨cc, w9, hr, x9, hd, sz9⟩ := Qhe w6 d
 refine ⟨_, _, _, w9, hr, (Qz7 addr epoch hd hdl).mono ?_⟩
 rintro e w11 ⟨x11, hp⟩
 have xa : Ext w w11 := (hk5.ext.trans x9).trans x11
 by_cases hfit : Qs0 addr /\ Qs0 epoch /\ d.length <= 4096
 ·rw [if_pos hfit] at hp
  obtain ⟨k, c', hk, rfl, hbk⟩ := hp
  refine ⟨_, _, _, _, rfl, Q0 (fun h => by cases h) fun _ => ?_⟩
  refine (Qr3 ((h : Qb w a s.M s.left s.down F).ext xa) (by omega)).mono ?_
  rintro e w15 ⟨pL, lL, cL, rfl, x15, rfl, _⟩
  have xb : Ext w w15 := xa.trans x15
  have hkF : ¬ F k := fun hF => by
   have h1 := (h : Qb w a s.M s.left s.down F).lt k hF
   have := (hk5.ext.trans x9).size
   omega
  obtain ⟨_, hb0, hklt⟩ := hbk.lt (by intro h0; have := QC1 addr epoch d; rw [h0] at this; simp at this; omega)
  cases hb0
  refine ⟨_, _, _, rfl, ⟨0, k, F, rfl, hkF, rfl, rfl, Nat.zero_le _, rfl, rfl, hfit.1, hfit.2.1, hfit.2.2, xb, Qf.refl _ _, (h : Qb w a s.M s.left s.down F).ext xb, hbk.ext x15, Zo hklt x15.size, hkF⟩, ?_⟩
  rintro n22 n23 w24 ⟨i, k', F', e1, hkF', _, rfl, hi, hgo, rfl, _, _, _, _, hst, hA, hby, hklt', _⟩
  simp only [Zi, at0, Zv, and_true] at e1
  subst e1
  intros
  have hok := QN6 (to := to) (n := addr) (b := Qx addr epoch d) ho i
  refine Q0 (fun hlt => ?_) (fun hge => ?_)
  ·simp only [Za] at hlt
   have hu : Upd F w w24 := Upd.trans (Ext.upd xb) hst.upd fun x _ h => h
   refine (hw w24 hu i (by omega)).mono ?_
   rintro e w46 ⟨rfl, x46⟩
   have hst46 : Qf F F' w15 w46 := hst.trans (Qf.ext x46)
   have hA46 : IsA w46 a (QT0 to addr (Qx addr epoch d) s i).1 F' := (hA : Qb w24 a _ _ _ F').ext x46
   have hwr : i64.wrap ((i : Int) + 1) = ((i + 1 : Nat) : Int) := by rw [w64 (by omega)]; omega
   rw [hwr]
   have mu : 100 - (((i + 1 : Nat) : Int)).toNat < 100 - ((i : Int)).toNat := by omega
   refine ⟨_, rfl, Q0 (fun hto => ?_) (fun hto => ?_)⟩
   ·simp only [Zg] at hto
    have e1 : QT0 to addr (Qx addr epoch d) s (i + 1) = QT0 to addr (Qx addr epoch d) s i := by
     simp only [QT0, hgo, hto]; rfl
    refine ⟨⟨i + 1, k, F', rfl, hkF', rfl, rfl, by omega, by rw [e1]; exact hgo, by rw [e1], hfit.1, hfit.2.1, hfit.2.2, xb, hst46, by rw [e1]; exact hA46, hby.ext x46, hklt', hkF⟩, mu⟩
   ·simp only [Zf] at hto
    refine (Qxd hA46 hok.1 (i := i) (by rw [hok.2.1]; omega) addr (hby.ext x46)).mono ?_
    rintro e w49 ⟨F'', rfl, hst49, hA49⟩
    have e1 : QT0 to addr (Qx addr epoch d) s (i + 1) = (QL (QT0 to addr (Qx addr epoch d) s i).1 i addr (Qx addr epoch d),
      if wrZ (QT0 to addr (Qx addr epoch d) s i).1 i addr (Qx addr epoch d).length = 0 then (QT0 to addr (Qx addr epoch d) s i).2.1 + 1 else (QT0 to addr (Qx addr epoch d) s i).2.1,
      decide (wrZ (QT0 to addr (Qx addr epoch d) s i).1 i addr (Qx addr epoch d).length = 130)) := by
     simp only [QT0, hgo, hto]; rfl
    have hsT : Qf F F'' w15 w49 := hst46.trans hst49
    have hk2 : ¬ F'' k := hsT.apart hklt' hkF
    have hby49 : Q3 w49 (some (at0 k)) (Qx addr epoch d).length (Qx addr epoch d) := (hby.ext x46).upd hst49.upd fun a ha _ => by cases ha; exact hkF'
    refine ⟨_, rfl, Q0 (fun h130 => ?_) (fun h130 => ?_)⟩
    ·simp only [Za] at h130
     refine ⟨F'', ?_, (Qf.ext xb).trans hsT, ?_⟩
     ·have hc : (QT0 to addr (Qx addr epoch d) s (i + 1)).2.2 = true := by rw [e1]; exact decide_eq_true h130
      have hall := QL2 hc (s.M.length - (i + 1))
      rw [show i + 1 + (s.M.length - (i + 1)) = s.M.length by omega] at hall
      unfold Qf0
      rw [if_pos hfit, hall, if_pos hc]
     ·have hc : (QT0 to addr (Qx addr epoch d) s (i + 1)).2.2 = true := by rw [e1]; exact decide_eq_true h130
      have hall := QL2 hc (s.M.length - (i + 1))
      rw [show i + 1 + (s.M.length - (i + 1)) = s.M.length by omega] at hall
      unfold Qf0
      rw [if_pos hfit, hall, if_pos hc, e1]
      exact hA49
    ·simp only [Zb] at h130
     have hgo1 : (QT0 to addr (Qx addr epoch d) s (i + 1)).2.2 = false := by rw [e1]; exact decide_eq_false h130
     refine Q0 (fun h0 => ?_) (fun h0 => ?_)
     ·simp only [Za] at h0
      rw [w64 (n := (QT0 to addr (Qx addr epoch d) s i).2.1 + 1) (by have := hok.2.2; omega)]
      refine ⟨⟨i + 1, k, F'', rfl, hk2, rfl, rfl, by omega, hgo1, by rw [e1]; show _ = (if _ then _ else _); rw [if_pos h0], hfit.1, hfit.2.1, hfit.2.2, xb, hsT, by rw [e1]; exact hA49, hby49, hklt', hkF⟩, mu⟩
     ·simp only [Zb] at h0
      refine ⟨⟨i + 1, k, F'', rfl, hk2, rfl, rfl, by omega, hgo1, by rw [e1]; show _ = (if _ then _ else _); rw [if_neg h0], hfit.1, hfit.2.1, hfit.2.2, xb, hsT, by rw [e1]; exact hA49, hby49, hklt', hkF⟩, mu⟩
  ·simp only [Zb] at hge
   have hil : i = s.M.length := by omega
   subst hil
   have e2 : Qf0 to addr epoch d s = ((QT0 to addr (Qx addr epoch d) s s.M.length).1, (QT0 to addr (Qx addr epoch d) s s.M.length).2.1, 0) := by
    unfold Qf0
    rw [if_pos hfit, if_neg (by rw [hgo]; simp)]
   refine ⟨F', by rw [e2], (Qf.ext xb).trans hst, by rw [e2]; exact hA⟩
 ·rw [if_neg hfit] at hp
  subst hp
  have e2 : Qf0 to addr epoch d s = (s, 0, 1) := by unfold Qf0; rw [if_neg hfit]
  refine ⟨_, _, _, _, rfl, Q0 (fun _ => ?_) fun h => by cases h⟩
  exact ⟨F, by rw [e2], Qf.ext xa, by rw [e2]; exact (h : Qb w a s.M s.left s.down F).ext xa⟩
theorem Qr5 {w : World} {a : Nat} {s : StA} {F : Nat -> Prop} (h : IsA w a s F) (ho : OkA s) (n m : Int) {p : σ} {l c : Nat} {d : τ} (hd : Q3 w p l d) (hl : l <= 4611686018427387904) :
  Calls prog 48 #[.pointer (some (at0 a)), int i64 n, int i64 m, .slice p l c] w fun e w' =>
   ∃ F', e = .returned (.tuple #[int i64 (Qf0 (fun _ => true) n m d s).2.1, int i64 (Qf0 (fun _ => true) n m d s).2.2]) /\ Qf F F' w w' /\ IsA w' a (Qf0 (fun _ => true) n m d s).1 F' := by
 refine (F48_calls (some (at0 a)) n m p l c w (fun v w' => ∃ F', v = .tuple #[int i64 (Qf0 (fun _ => true) n m d s).2.1, int i64 (Qf0 (fun _ => true) n m d s).2.2] /\ Qf F F' w w' /\ IsA w' a (Qf0 (fun _ => true) n m d s).1 F') ?_).mono (by
  rintro e w' ⟨v, rfl, F', rfl, h⟩; exact ⟨F', rfl, h⟩)
 refine ⟨_, QG5 hd, (QC7 h ho n m d (by rw [← hd.1]; exact hl) (fun _ => true) fun w' _ i _ => QAc _ _).mono ?_⟩
 rintro e w' ⟨F', rfl, h⟩
 exact ⟨_, _, rfl, F', rfl, h⟩
theorem Qgc {n : Int} {M : List Mem} {b : Say} (h : b ∈ Qe0 (Qn n M)) : Qs0 n /\ Qs0 b.1 /\ b.2.length <= 4096 := by
 unfold Qe0 Qn at h
 obtain ⟨s, hs, rfl⟩ := List.mem_map.1 h
 obtain ⟨hs, his⟩ := List.mem_filter.1 hs
 obtain ⟨m, _, rfl⟩ := List.mem_map.1 hs
 unfold Qf1 at his ⊢
 split at his
 ·rename_i n' d hu
  exact Qs4 hu
 ·cases his
open Go Go.Vc
open Go.IntKind (i64)
open Go.Value (int)
open Go.Proofs.Tryz (prog)
theorem Q40 {b : Bool} {T E : Prop} (h : b = true) (t : T) : Q2 b T E := by subst h; exact t
theorem QA0 {b : Bool} {T E : Prop} (h : b = false) (t : E) : Q2 b T E := by subst h; exact t
open Go Go.Vc
open Go.IntKind (i64)
open Go.Value (int)
open Go.Proofs.Tryz (prog)
theorem QK3 {w : World} {p1 p2 : σ} {l1 c1 l2 c2 : Nat} {A B : List Bool} (h1 : l1 = A.length /\ Q8 w p1 (A.map Value.bool)) (h2 : l2 = B.length /\ Q8 w p2 (B.map Value.bool)) (hl : l1 <= 1000) :
  Calls prog 23 #[.slice p1 l1 c1, .slice p2 l2 c2] w fun e w' => e = .returned (.bool (decide (A = B))) /\ Ext w w' := by
 refine (F23_calls p1 l1 c1 p2 l2 c2 w (fun v w' => v = .bool (decide (A = B)) /\ Ext w w') (fun _ n w4 => ∃ i : Nat, n = i /\ i <= l1 /\ Ext w w4 /\ A.take i = B.take i) (fun _ n _ => 1000 - n.toNat) ?_).mono (by rintro e w' ⟨v, rfl, rfl, h⟩; exact ⟨rfl, h⟩)
 have e1 := h1.1
 have e2 := h2.1
 refine Q0 (fun hne => ?_) (fun heq => ?_)
 ·simp only [Zg, Zb] at hne
  refine ⟨?_, Upd.refl _ _⟩
  have : ¬ A = B := by rintro rfl; omega
  simp [this]
 simp only [Zf, Za] at heq
 refine ⟨⟨0, rfl, Nat.zero_le _, Upd.refl _ _, by simp⟩, ?_⟩
 rintro n w4 ⟨i, rfl, hi, x4, ht⟩
 intros
 refine Q0 (fun hlt => ?_) (fun hge => ?_)
 ·simp only [Za] at hlt
  intro w21 d21
  have x21 := x4.trans d21.ext
  obtain ⟨x, hx⟩ : ∃ x, A[i]? = some x := ⟨A[i]'(by omega), Zc _⟩
  obtain ⟨y, hy⟩ : ∃ y, B[i]? = some y := ⟨B[i]'(by omega), Zc _⟩
  obtain ⟨a, rfl, ca⟩ := (h1.2.ext x21) i (Value.bool x) (by rw [Zq, hx]; rfl)
  obtain ⟨b, rfl, cb⟩ := (h2.2.ext x21) i (Value.bool y) (by rw [Zq, hy]; rfl)
  rw [Ze, Nat.mul_one]
  refine ⟨⟨by omega, hlt⟩, x, ca, ⟨by omega, by omega⟩, y, cb, Q0 (fun hne => ?_) (fun he => ?_)⟩
  ·refine ⟨?_, x21⟩
   have : ¬ A = B := by
    rintro rfl
    rw [hx] at hy
    cases hy
    simp at hne
   simp [this]
  ·have he' : x = y := by simpa using he
   subst he'
   rw [w64 (by omega)]
   refine ⟨⟨i + 1, by omega, by omega, x21, ?_⟩, by show 1000 - ((i : Int) + 1).toNat < 1000 - (i : Int).toNat; omega⟩
   rw [Zn, Zn, ht, hx, hy]
 ·simp only [Zb] at hge
  refine ⟨?_, x4⟩
  have f1 : A.take i = A := Zh (by omega)
  have f2 : B.take i = B := Zh (by omega)
  rw [f1, f2] at ht
  simp [ht]
theorem QY5 {w : World} {p1 p2 : σ} {l1 c1 l2 c2 : Nat} {A B : List Int} (h1 : l1 = A.length /\ Q8 w p1 (A.map (Value.int .i64))) (h2 : l2 = B.length /\ Q8 w p2 (B.map (Value.int .i64))) (hl : l1 <= 1000) :
  Calls prog 36 #[.slice p1 l1 c1, .slice p2 l2 c2] w fun e w' => e = .returned (.bool (decide (A = B))) /\ Ext w w' := by
 refine (F36_calls p1 l1 c1 p2 l2 c2 w (fun v w' => v = .bool (decide (A = B)) /\ Ext w w') (fun _ n w4 => ∃ i : Nat, n = i /\ i <= l1 /\ Ext w w4 /\ A.take i = B.take i) (fun _ n _ => 1000 - n.toNat) ?_).mono (by rintro e w' ⟨v, rfl, rfl, h⟩; exact ⟨rfl, h⟩)
 have e1 := h1.1
 have e2 := h2.1
 refine Q0 (fun hne => ?_) (fun heq => ?_)
 ·simp only [Zg, Zb] at hne
  refine ⟨?_, Upd.refl _ _⟩
  have : ¬ A = B := by rintro rfl; omega
  simp [this]
 simp only [Zf, Za] at heq
 refine ⟨⟨0, rfl, Nat.zero_le _, Upd.refl _ _, by simp⟩, ?_⟩
 rintro n w4 ⟨i, rfl, hi, x4, ht⟩
 intros
 refine Q0 (fun hlt => ?_) (fun hge => ?_)
 ·simp only [Za] at hlt
  intro w21 d21
  have x21 := x4.trans d21.ext
  obtain ⟨x, hx⟩ : ∃ x, A[i]? = some x := ⟨A[i]'(by omega), Zc _⟩
  obtain ⟨y, hy⟩ : ∃ y, B[i]? = some y := ⟨B[i]'(by omega), Zc _⟩
  obtain ⟨a, rfl, ca⟩ := (h1.2.ext x21) i ((Value.int .i64) x) (by rw [Zq, hx]; rfl)
  obtain ⟨b, rfl, cb⟩ := (h2.2.ext x21) i ((Value.int .i64) y) (by rw [Zq, hy]; rfl)
  rw [Ze, Nat.mul_one]
  refine ⟨⟨by omega, hlt⟩, x, ca, ⟨by omega, by omega⟩, y, cb, Q0 (fun hne => ?_) (fun he => ?_)⟩
  ·refine ⟨?_, x21⟩
   have : ¬ A = B := by
    rintro rfl
    rw [hx] at hy
    cases hy
    simp at hne
   simp [this]
  ·have he' : x = y := by simpa using he
   subst he'
   rw [w64 (by omega)]
   refine ⟨⟨i + 1, by omega, by omega, x21, ?_⟩, by show 1000 - ((i : Int) + 1).toNat < 1000 - (i : Int).toNat; omega⟩
   rw [Zn, Zn, ht, hx, hy]
 ·simp only [Zb] at hge
  refine ⟨?_, x4⟩
  have f1 : A.take i = A := Zh (by omega)
  have f2 : B.take i = B := Zh (by omega)
  rw [f1, f2] at ht
  simp [ht]
open Go Go.Vc
open Go.IntKind (i64)
open Go.Value (int)
open Go.Proofs.Tryz (prog)
def Q2a (n : Nat) (k : Int) : StA := ⟨List.replicate n ⟨⟨k, [], [], false⟩, 0⟩, -1, false⟩
theorem Q7b {n : Nat} {k : Int} (h : n <= 32) : OkA (Q2a n k) := ⟨by simpa [Q2a] using h, by show (-1 : Int) <= -1; omega, by show (-1 : Int) <= _; omega⟩
theorem QRa (s : StA) (d n : Int) (b : τ) : (QL s d n b).M.length = s.M.length := by
 unfold QL
 split
 ·rfl
 split
 ·split
  ·simp
  ·rfl
 ·rfl
theorem Qbb (s : StA) (c : QS9) : (Qi1 s c).M.length = s.M.length := by
 unfold Qi1
 split
 ·exact QRa _ _ _ _
 split
 ·split
  ·rfl
  ·exact Q22 _ _
 split
 ·split <;> rfl
 split
 ·exact QN3 _ _ _
 split
 ·exact (QK2 _ _ _).1
 split
 ·exact (QK2 _ _ _).1
 split
 ·exact (QK2 _ _ _).1
 ·rfl
open Go Go.Vc Go.ChangeShapes Go.WideShapes Go.ChangeAt
open Go.IntKind (i64)
open Go.Value (int)
open Go.Proofs.Tryz (prog)
section
variable {H : Type} {enc : TypeId × Value -> H} {w : World} {base : Nat} {sp : Nat -> Bool} {held : Bool}
theorem Qta {v : Value} {d : DataW H} {ps : List MemPlace} (hs : ∃ a l c, v = .slice a l c) (h : DataW.Trod enc prog w base sp held 36 v d ps) :
  ∃ p l c ks, v = .slice p l c /\ QA w p l ks := by
 obtain ⟨a, l, c, rfl⟩ := hs
 obtain ⟨fuel, h⟩ := h
 obtain ⟨p, l', c', he, _, _, _, hrow⟩ := QQ6 (t := 36) (e := 4) (k := 1) (by kernel_rfl) (by kernel_rfl) h
 cases he
 have hone : ∀ i, i < l -> ∃ b : Bool, ∃ a', a = some a' /\ w.cell? (a'.add i) = some (.bool b) := by
  intro i hi
  obtain ⟨a', ys, n, y, ha, ht, hlen, hc⟩ := hrow i hi
  obtain ⟨b, rfl, _⟩ := DataW.trod_bool (by kernel_rfl) ht
  have := hc 0 (by omega)
  rw [Qt, Nat.mul_one, Nat.add_zero] at this
  exact ⟨b, a', ha, this⟩
 have hlist : ∀ k, k <= l -> ∃ ks : List Bool, ks.length = k /\ ∀ i b, ks[i]? = some b -> ∃ a', a = some a' /\ w.cell? (a'.add i) = some (.bool b) := by
  intro k
  induction k with
  | zero => intro _; exact ⟨[], rfl, fun i b h => by simp at h⟩
  | succ k ih =>
   intro hk
   obtain ⟨ks, hl, hall⟩ := ih (by omega)
   obtain ⟨b, hb⟩ := hone k (by omega)
   refine ⟨ks ++ [b], by simp [hl], fun i b' h => ?_⟩
   rw [List.getElem?_append] at h
   split at h
   ·exact hall i b' h
   ·have hi : i = k := by
     have := (Zd.1 h).1
     simp at this; omega
    subst hi
    rw [hl, Nat.sub_self] at h
    simp at h
    subst h
    exact hb
 obtain ⟨ks, hl, hall⟩ := hlist l (Nat.le_refl _)
 refine ⟨a, l, c, ks, rfl, hl.symm, fun j u hj => ?_⟩
 rw [Zq, Option.map_eq_some_iff] at hj
 obtain ⟨b, hb, rfl⟩ := hj
 exact hall j b hb
end
open Go Go.Vc
open Go.IntKind (i64)
open Go.Value (int)
open Go.Proofs.Tryz (prog)
open Go Go.Vc Go.ChangeShapes Go.WideShapes Go.ChangeAt
open Go.IntKind (i64)
open Go.Value (int)
open Go.Proofs.Tryz (prog)
section
variable {H : Type} {enc : TypeId × Value -> H} {w : World} {base : Nat} {sp : Nat -> Bool} {held : Bool}
theorem Qhd {n : Nat} {cs : List Value} {x : DataW H × List MemPlace} (h : DataW.trod enc prog w base sp held n 36 cs = some x) :
  ∃ p l c ks, cs = [.slice p l c] /\ QA w p l ks := by
 rcases DataW.trod_slice (e := 4) (by kernel_rfl) h with ⟨rfl, _⟩ | ⟨a, len, cap, elems, rest, n', _, rfl, _⟩
 ·exact ⟨none, 0, 0, [], rfl, QA.none _ _⟩
 ·obtain ⟨p, l, c, ks, he, hk⟩ := Qta (v := .slice (some a) len cap) ⟨_, _, _, rfl⟩ ⟨n, h⟩
  cases he
  exact ⟨_, _, _, ks, rfl, hk⟩
end
end Go.Proofs.YtnfcfbljdibinaaGreat
