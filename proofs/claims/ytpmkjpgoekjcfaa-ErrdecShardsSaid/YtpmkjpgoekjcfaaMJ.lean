import Derived.Test.YtpmkjpgoekjcfaaMD
import Derived.Test.YtpmkjpgoekjcfaaME
/- The document's field: products by their definition. -/
namespace Go.Proofs.Ytpmkjpgoekjcfaa
open Go Go.Vc Go.Gf

theorem and8 (a : Nat) (h : a < 256) : bitsV .and .u8 (a : Int) (1 : Int) = ((a % 2 : Nat) : Int) := by
  show IntKind.u8.wrap (((BitVec.ofInt 8 (a : Int)) &&& (BitVec.ofInt 8 (1 : Int))).toNat : Int) = _
  have e : (BitVec.ofInt 8 (a : Int)).toNat = a := by rw [BitVec.toNat_ofInt]; omega
  have e1 : (BitVec.ofInt 8 (1 : Int)).toNat = 1 := by decide
  rw [BitVec.toNat_and, e, e1, Nat.and_one_is_mod, wrap8 _ (by omega), Int.toNat_natCast]
  unfold pt
  rw [UInt8.toNat_ofNat']
  omega
theorem xt_lt : (alln 256 fun x => Nat.blt (xt x) 256) = true := by kernel_rfl
theorem xt_lt' {x : Nat} (h : x < 256) : xt x < 256 := by
  have := alln_of xt_lt x h
  rwa [Nat.blt_eq] at this
theorem sh64 {x : Nat} (h : x < 256) : IntKind.i64.wrap ((x : Int) * 2 ^ (min (1 : Int).toNat IntKind.i64.bits)) = ((x * 2 : Nat) : Int) := by
  show IntKind.i64.wrap ((x : Int) * 2) = _
  rw [w64 (by omega)]; omega
theorem w8 {t : Nat} (h : t < 8) : IntKind.u64.wrap (t : Int) = (t : Int) := by
  rcases (by omega : t = 0 ∨ t = 1 ∨ t = 2 ∨ t = 3 ∨ t = 4 ∨ t = 5 ∨ t = 6 ∨ t = 7) with rfl | rfl | rfl | rfl | rfl | rfl | rfl | rfl <;> rfl
theorem fd8 {t : Nat} (b : Nat) (h : t < 8) : ((b : Nat) : Int).fdiv (2 ^ (min (IntKind.u64.wrap (t : Int)).toNat IntKind.u8.bits)) = ((b / 2 ^ t : Nat) : Int) := by
  have key : ∀ n : Nat, ((b : Nat) : Int).fdiv (n : Int) = ((b / n : Nat) : Int) := fun n => by
    rw [Int.fdiv_eq_ediv_of_nonneg _ (by omega)]; rfl
  rcases (by omega : t = 0 ∨ t = 1 ∨ t = 2 ∨ t = 3 ∨ t = 4 ∨ t = 5 ∨ t = 6 ∨ t = 7) with rfl | rfl | rfl | rfl | rfl | rfl | rfl | rfl
  · exact key 1
  · exact key 2
  · exact key 4
  · exact key 8
  · exact key 16
  · exact key 32
  · exact key 64
  · exact key 128
theorem go_step {t x o b : Nat} (h : t < 8) : go (8 - t) x (b / 2 ^ t) o = go (8 - (t + 1)) (xt x) (b / 2 ^ (t + 1)) (if b / 2 ^ t % 2 = 1 then o ^^^ x else o) := by
  rw [show 8 - t = (8 - (t + 1)) + 1 by omega]
  show go (8 - (t + 1)) (xt x) (b / 2 ^ t / 2) (cond (Nat.beq (b / 2 ^ t % 2) 1) (o ^^^ x) o) = _
  rw [Nat.div_div_eq_div_mul, ← Nat.pow_succ]
  congr 1
  by_cases e : b / 2 ^ t % 2 = 1
  · rw [if_pos e, e]; rfl
  · rw [if_neg e, beq_f.2 e]; rfl

set_option maxHeartbeats 1000000 in
theorem rmul_spec {w : World} (a b : UInt8) : Calls Try.prog 86 #[vb a, vb b] w fun e w' => e = .returned (vb (gm a b)) ∧ w' = w := by
  refine (F86_calls a.toNat b.toNat w (fun v w' => v = vb (gm a b) ∧ w' = w)
    (fun _ x o i w1 => 0 ≤ i ∧ i ≤ 8 ∧ w1 = w ∧ ∃ x' o' : Nat, x = x' ∧ o = o' ∧ x' < 256 ∧ o' < 256 ∧ go (8 - i.toNat) x' (b.toNat / 2 ^ i.toNat) o' = go 8 a.toNat b.toNat 0)
    (fun _ _ _ i _ => (8 - i).toNat) ?_).mono (by rintro e w' ⟨v, rfl, rfl, h⟩; exact ⟨rfl, h⟩)
  have ha := u8lt a
  have hb := u8lt b
  refine ⟨⟨by omega, by omega, rfl, a.toNat, 0, w64 (by omega), rfl, ha, by omega, by simp⟩, ?_⟩
  rintro xI oI i w6 ⟨hi0, hi1, rfl, x, o, rfl, rfl, hx, ho, hgo⟩
  intros
  obtain ⟨t, rfl⟩ := Int.eq_ofNat_of_zero_le hi0
  simp only [Int.toNat_natCast] at hgo
  refine condB_of (fun hs => ?_) (fun hs => ?_)
  · simp only [decide_eq_true_eq] at hs
    have ht : t < 8 := by omega
    have hbt : b.toNat / 2 ^ t < 256 := Nat.lt_of_le_of_lt (Nat.div_le_self _ _) hb
    have h285 : bitsV .xor .i64 ((x * 2 : Nat) : Int) 285 = ((x * 2 ^^^ 285 : Nat) : Int) := bx64 (b := 285) (by omega) (by omega)
    rw [fd8 _ ht, and8 _ hbt, sh64 hx, w64 (n := (t : Int) + 1) (by omega), h285, bx64 (a := o) (b := x) (by omega) (by omega)]
    have hox : o ^^^ x < 256 := Nat.xor_lt_two_pow (n := 8) ho hx
    have hmeas : ((8 : Int) - ((t : Int) + 1)).toNat < ((8 : Int) - t).toNat := by omega
    have fin : ∀ y z : Nat, y = xt x → z = (if b.toNat / 2 ^ t % 2 = 1 then o ^^^ x else o) → (0 ≤ (t : Int) + 1 ∧ (t : Int) + 1 ≤ 8 ∧ w6 = w6 ∧ ∃ x' o' : Nat, (y : Int) = x' ∧ (z : Int) = o' ∧ x' < 256 ∧ o' < 256 ∧ go (8 - ((t : Int) + 1).toNat) x' (b.toNat / 2 ^ ((t : Int) + 1).toNat) o' = go 8 a.toNat b.toNat 0) ∧ ((8 : Int) - ((t : Int) + 1)).toNat < ((8 : Int) - t).toNat := by
      rintro y z rfl rfl
      refine ⟨⟨by omega, by omega, rfl, _, _, rfl, rfl, xt_lt' hx, ?_, ?_⟩, hmeas⟩
      · split
        · exact hox
        · exact ho
      · rw [show ((t : Int) + 1).toNat = t + 1 by omega, ← go_step ht]; exact hgo
    have hxt1 : (256 : Int) ≤ ((x * 2 : Nat) : Int) → x * 2 ^^^ 285 = xt x := fun h => by
      unfold xt
      rw [show Nat.ble 256 (x * 2) = true by rw [Nat.ble_eq]; omega]
      rfl
    have hxt2 : ¬ (256 : Int) ≤ ((x * 2 : Nat) : Int) → x * 2 = xt x := fun h => by
      unfold xt
      have : Nat.ble 256 (x * 2) = false := by
        rw [← Bool.not_eq_true, Nat.ble_eq]; omega
      rw [this]
      rfl
    refine ⟨by rw [w8 ht]; omega, condB_of (fun hbit => ?_) (fun hbit => ?_)⟩
    · simp only [decide_eq_true_eq] at hbit
      refine ⟨by omega, condB_of (fun hov => ?_) (fun hov => ?_)⟩
      · simp only [decide_eq_true_eq] at hov
        exact fin _ _ (hxt1 hov) (by rw [if_pos (by omega)])
      · simp only [decide_eq_false_iff_not] at hov
        exact fin _ _ (hxt2 hov) (by rw [if_pos (by omega)])
    · simp only [decide_eq_false_iff_not] at hbit
      refine ⟨by omega, condB_of (fun hov => ?_) (fun hov => ?_)⟩
      · simp only [decide_eq_true_eq] at hov
        exact fin _ _ (hxt1 hov) (by rw [if_neg (by omega)])
      · simp only [decide_eq_false_iff_not] at hov
        exact fin _ _ (hxt2 hov) (by rw [if_neg (by omega)])
  · simp only [decide_eq_false_iff_not] at hs
    obtain rfl : t = 8 := by omega
    have e : o = gmN a.toNat b.toNat := by rw [gmN_go ha hb, ← hgo]; rfl
    refine ⟨?_, rfl⟩
    rw [wrap8 _ (by omega), Int.toNat_natCast, e, ← toNat_gm]
    show Value.int .u8 ((pt (gm a b).toNat).toNat : Int) = vb (gm a b)
    unfold pt
    rw [UInt8.ofNat_toNat]

set_option maxRecDepth 20000 in
theorem rinv_spec {w : World} (a : UInt8) : Calls Try.prog 116 #[vb a] w fun e w' => e = .returned (.tuple #[vb (gi a), .int .i64 (if a = 0 then 10 else 0)]) ∧ w' = w := by
  refine (F116_calls a.toNat w (fun v w' => v = .tuple #[vb (gi a), .int .i64 (if a = 0 then 10 else 0)] ∧ w' = w)
    (fun _ i w1 => 1 ≤ i ∧ i ≤ 256 ∧ w1 = w ∧ ∀ j : Nat, 1 ≤ j → (j : Int) < i → gm a (pt j) ≠ 1) (fun _ i _ => (256 - i).toNat) ?_).mono (by rintro e w' ⟨v, rfl, rfl, h⟩; exact ⟨rfl, h⟩)
  refine ⟨⟨by omega, by omega, rfl, fun j h1 h2 => by omega⟩, ?_⟩
  rintro i w3 ⟨hi0, hi1, rfl, hno⟩
  intros
  obtain ⟨t, rfl⟩ := Int.eq_ofNat_of_zero_le (show 0 ≤ i by omega)
  refine condB_of (fun hs => ?_) (fun hs => ?_)
  · simp only [decide_eq_true_eq] at hs
    rw [wrap8 _ (by omega), Int.toNat_natCast]
    refine (rmul_spec (w := w3) a (pt t)).mono ?_
    rintro e w17 ⟨rfl, rfl⟩
    refine ⟨_, rfl, condB_of (fun h1 => ?_) (fun h1 => ?_)⟩
    · simp only [decide_eq_true_eq] at h1
      have h2 : gm a (pt t) = 1 := vb_inj.1 (by rw [h1]; rfl)
      have h0 : a ≠ 0 := fun e => by rw [e, zero_gm] at h2; revert h2; decide
      rw [if_neg h0, ← gi_unique h2]
      exact ⟨rfl, rfl⟩
    · simp only [decide_eq_false_iff_not] at h1
      rw [w64 (n := (t : Int) + 1) (by omega)]
      refine ⟨⟨by omega, by omega, rfl, fun j hj1 hj2 => ?_⟩, by show ((256 : Int) - ((t : Int) + 1)).toNat < ((256 : Int) - t).toNat; omega⟩
      by_cases e : j = t
      · subst e
        exact fun h => h1 (by rw [h]; rfl)
      · exact hno j hj1 (by omega)
  · simp only [decide_eq_false_iff_not] at hs
    have h0 : a = 0 := Decidable.byContradiction fun h => by
      have h1 := hno (gi a).toNat (Nat.pos_of_ne_zero fun e => gi_ne h (u8_zero_iff.2 e)) (by have := u8lt (gi a); omega)
      rw [pt_toNat] at h1
      exact h1 (gm_gi h)
    subst h0
    exact ⟨rfl, rfl⟩
theorem rdiv_spec {w : World} (a b : UInt8) (hb : b ≠ 0) : Calls Try.prog 106 #[vb a, vb b] w fun e w' => e = .returned (.tuple #[vb (gm a (gi b)), .int .i64 0]) ∧ w' = w := by
  refine (F106_calls a.toNat b.toNat w (fun v w' => v = .tuple #[vb (gm a (gi b)), .int .i64 0] ∧ w' = w) ?_).mono (by rintro e w' ⟨v, rfl, rfl, h⟩; exact ⟨rfl, h⟩)
  refine (rinv_spec b).mono ?_
  rintro e w3 ⟨rfl, rfl⟩
  rw [if_neg hb]
  refine ⟨_, _, rfl, condB_of (fun h => by simp at h) fun _ => (rmul_spec a (gi b)).mono ?_⟩
  rintro e w7 ⟨rfl, rfl⟩
  exact ⟨_, rfl, rfl, rfl⟩
theorem rcheck_spec (k m : Int) (w : World) : Calls Try.prog 39 #[.int .i64 k, .int .i64 m] w fun e w' => e = .returned (.int .i64 (kmE k m)) ∧ w' = w := by
  refine (F39_calls k m w (fun v w' => v = .int .i64 (kmE k m) ∧ w' = w) ?_).mono (by rintro e w' ⟨v, rfl, rfl, h⟩; exact ⟨rfl, h⟩)
  have bad : ¬ kmOk k m → (Value.int .i64 50 = .int .i64 (kmE k m) ∧ w = w) := fun h => ⟨by rw [kmE_bad h], rfl⟩
  refine condB_of (fun h => bad fun ⟨h1, _⟩ => ?_) fun h1 => condB_of (fun h => bad fun ⟨_, _, h1, _⟩ => ?_) fun h2 => condB_of (fun h => bad fun ⟨_, h1, _⟩ => ?_) fun h3 => condB_of (fun h => bad fun ⟨_, _, _, h1⟩ => ?_) fun h4 => condB_of (fun h => bad fun ⟨_, _, _, h1⟩ => ?_) fun h5 => ?_
  · simp only [decide_eq_true_eq] at h; omega
  · simp only [decide_eq_true_eq] at h; omega
  · simp only [decide_eq_true_eq] at h; omega
  · simp only [decide_eq_true_eq, decide_eq_false_iff_not] at h h1 h2 h3; omega
  · simp only [decide_eq_false_iff_not] at h1 h2 h3 h4
    rw [w64 (n := k + m) (by omega)] at h
    simp only [decide_eq_true_eq] at h; omega
  · simp only [decide_eq_false_iff_not] at h1 h2 h3 h4
    rw [w64 (n := k + m) (by omega)] at h5
    simp only [decide_eq_false_iff_not] at h5
    rw [kmE_ok ⟨by omega, by omega, by omega, by omega⟩]
    exact ⟨rfl, rfl⟩
theorem rpart_spec {w : World} {k i j : Nat} (h : k + i < 4294967296) : Calls Try.prog 102 #[.int .i64 (k : Int), .int .i64 (i : Int), .int .i64 (j : Int)] w fun e w' => e = .returned (vb (parV k i j)) ∧ w' = w := by
  refine (F102_calls k i j w (fun v w' => v = vb (parV k i j) ∧ w' = w) ?_).mono (by rintro e w' ⟨v, rfl, rfl, h⟩; exact ⟨rfl, h⟩)
  unfold F102
  rw [w64 (n := (k : Int) + i) (by omega), wrap8 _ (by omega), wrap8 _ (by omega), bx8, Int.toNat_natCast, show ((k : Int) + i).toNat = k + i by omega]
  refine (rinv_spec (pt (k + i) ^^^ pt j)).mono ?_
  rintro e w4 ⟨rfl, rfl⟩
  exact ⟨_, _, rfl, rfl, rfl⟩
theorem rsame_spec {w : World} (i j : Nat) : Calls Try.prog 101 #[.int .i64 (i : Int), .int .i64 (j : Int)] w fun e w' => e = .returned (vb (if i = j then 1 else 0)) ∧ w' = w := by
  refine (F101_calls i j w (fun v w' => v = vb (if i = j then 1 else 0) ∧ w' = w) ?_).mono (by rintro e w' ⟨v, rfl, rfl, h⟩; exact ⟨rfl, h⟩)
  refine condB_of (fun h => ?_) (fun h => ?_)
  · simp only [decide_eq_true_eq] at h
    rw [if_pos (by omega)]
    exact ⟨rfl, rfl⟩
  · simp only [decide_eq_false_iff_not] at h
    rw [if_neg (by omega)]
    exact ⟨rfl, rfl⟩
end Go.Proofs.Ytpmkjpgoekjcfaa

/- The document's Cauchy matrices. -/
namespace Go.Proofs.Ytpmkjpgoekjcfaa
open Go Go.Vc Go.Gf

/-- a number is laid behind a matrix' numbers -/
theorem made_push {w w75 w80 : World} {k6 k23 k79 rows cols r c : Nat} {val : Nat → Nat → UInt8} {p' : Option Addr} {l' cp' : Nat} (hx : Ext w w75) (ne : k6 ≠ k23) (n6 : w.heap.size ≤ k6) (n23 : w.heap.size ≤ k23) (s6 : RowK w75 k6 82 (matC 0 0 none 0 0)) (s23 : RowK w75 k23 82 (matC rows cols p' l' cp'))
    (ho : OwnB w75 w.heap.size p' l' cp' (genA val cols (r * cols + c))) (h80 : NewB w75 k79 (.cells #[vb (val r c)] 5) w80) (hc : c < cols) (hb : r * cols + c ≤ 1048576) :
    ∃ p2 l2 c2 w82, Sem.run Try.prog (Builtin.append_ #[22, 22] 22 #[.slice p' l' cp', .slice (some (at0 k79)) 1 1]) w80 = .ok (.slice p2 l2 c2) w82 ∧ Live w82 ((at0 k23).add 2) ∧
      ∀ w84, SetC w82 ((at0 k23).add 2) (.slice p2 l2 c2) w84 → MadeI w val rows cols (some (at0 k6)) (some (at0 k23)) (r * cols + (c + 1)) w84 := by
  have l75 := OwnB.len ho
  rw [genA_len] at l75
  obtain ⟨p2, c2, w82, hrun, o82, u82⟩ := OwnB.push ho h80 hx.size (by omega)
  have keep : ∀ {k : Nat} {cs : Array Value}, RowK w75 k 82 cs → RowK w82 k 82 cs := fun h => RowK.keep h u82 fun y hy => by
    obtain ⟨cs, e', fz, h7, h8⟩ := OwnS.typed ho hy
    exact ⟨cs, e', fz, h7, by rw [h8]; exact ty_mat.1.symm⟩
  have s82 := keep s23
  have t82 := keep s6
  refine ⟨p2, _, c2, w82, hrun, s82.live3 (by simp), fun w84 s84 => ?_⟩
  obtain ⟨b84, u84⟩ := s82.set3 s84
  have x82 := OwnB.new_ext hx u82 fun y hy => OwnB.blk ho hy
  refine ⟨ext_upd x82 n23 u84, k6, k23, p2, _, c2, rfl, rfl, ne, n6, n23, u84.keep t82 ne, b84, ?_⟩
  rw [← Nat.add_assoc, ← genA_succ val hc]
  exact OwnB.apart o82 u84 s82 ty_mat.1

theorem MadeI.open_ {w w1 : World} {k6 k23 rows cols L : Nat} {val : Nat → Nat → UInt8} (h : MadeI w val rows cols (some (at0 k6)) (some (at0 k23)) L w1) : Ext w w1 ∧ k6 ≠ k23 ∧ w.heap.size ≤ k6 ∧ w.heap.size ≤ k23 ∧ RowK w1 k6 82 (matC 0 0 none 0 0) ∧
    ∃ p l c, RowK w1 k23 82 (matC rows cols p l c) ∧ OwnB w1 w.heap.size p l c (genA val cols L) := by
  obtain ⟨hx, k6', k23', p, l, c, g1, g2, ne', n6', n23', r6'', r23', ho⟩ := h
  simp only [Option.some.injEq, at0, Addr.mk.injEq, and_true] at g1 g2
  subst g1 g2
  exact ⟨hx, ne', n6', n23', r6'', p, l, c, r23', ho⟩
/-- what a matrix that is made is told as -/
def rmadeP (w : World) (val : Nat → Nat → UInt8) (R C : Nat) (v : Value) (w' : World) : Prop := ∃ p l c, v = .tuple #[matV R C p l c, .int .i64 0] ∧ Ext w w' ∧ OwnB w' w.heap.size p l c (genA val C (R * C))

set_option maxHeartbeats 2000000 in
theorem rgen_spec {w : World} {k m : Nat} (hk : 1 ≤ k) (hkm : k + m ≤ 256) : Calls Try.prog 82 #[.int .i64 (k : Int), .int .i64 (m : Int)] w fun e w' => ∃ v, e = .returned v ∧ rmadeP w (genV k) (k + m) k v w' := by
  refine F82_calls k m w (rmadeP w (genV k) (k + m) k)
    (fun q3 q14 _ r w1 => 0 ≤ r ∧ r ≤ ((k + m : Nat) : Int) ∧ MadeI w (genV k) (k + m) k q3 q14 (r.toNat * k) w1) (fun _ _ _ r _ => (((k + m : Nat) : Int) - r).toNat)
    (fun q3 q14 r _ c w1 => 0 ≤ c ∧ c ≤ k ∧ 0 ≤ r ∧ r < ((k + m : Nat) : Int) ∧ MadeI w (genV k) (k + m) k q3 q14 (r.toNat * k + c.toNat) w1) (fun _ _ _ _ c _ => ((k : Int) - c).toNat) ?_
  intro k3 w4 h3
  have r3 : RowK w4 k3 82 (matC 0 0 none 0 0) := h3.at
  have n3 : w.heap.size ≤ k3 := by rw [h3.size.1]; exact Nat.le_refl _
  refine (rcheck_spec k m w4).mono ?_
  rintro e w5 ⟨rfl, rfl⟩
  rw [kmE_ok ⟨by omega, by omega, by omega, by omega⟩, w64 (n := (k : Int) + m) (by omega), show (k : Int) + (m : Int) = ((k + m : Nat) : Int) by omega]
  refine ⟨_, rfl, condB_of (fun h => by simp at h) fun _ => new_mat fun k14 w18 r14 n14 x18 => ?_⟩
  have ne : k3 ≠ k14 := by have := lt_of_heap r3; omega
  refine ⟨⟨by omega, by omega, h3.ext.trans x18, k3, k14, none, 0, 0, rfl, rfl, ne, n3, by have := h3.ext.size; omega, x18.keep r3, r14, ?_⟩, ?_⟩
  · rw [show (0 : Int).toNat * k = 0 by simp]; exact OwnS.nil _ _ _ _
  rintro r w22 ⟨hr0, hr1, hM⟩
  intros
  obtain ⟨t, rfl⟩ := Int.eq_ofNat_of_zero_le hr0
  refine condB_of (fun hs => ?_) (fun hs => ?_)
  · simp only [decide_eq_true_eq] at hs
    refine ⟨⟨by omega, by omega, hr0, hs, by rw [show (0 : Int).toNat = 0 from rfl, Nat.add_zero]; exact hM⟩, ?_⟩
    rintro c w59 ⟨hc0, hc1, _, _, hM59⟩
    intros
    obtain ⟨u, rfl⟩ := Int.eq_ofNat_of_zero_le hc0
    have hbig : t * k ≤ 256 * 256 := Nat.mul_le_mul (by omega) (by omega)
    refine condB_of (fun ht => ?_) (fun ht => ?_)
    · simp only [decide_eq_true_eq] at ht
      simp only [Int.toNat_natCast] at hM59
      have fin : ∀ n89 : Int, Value.int .u8 n89 = vb (genV k t u) → F82_A0 w59 k14 n89 k3 (t : Int) w22 (u : Int) w59 (rmadeP w (genV k) (k + m) k)
          (fun q3 q14 _ r w1 => 0 ≤ r ∧ r ≤ ((k + m : Nat) : Int) ∧ MadeI w (genV k) (k + m) k q3 q14 (r.toNat * k) w1) (fun _ _ _ r _ => (((k + m : Nat) : Int) - r).toNat)
          (fun q3 q14 r _ c w1 => 0 ≤ c ∧ c ≤ k ∧ 0 ≤ r ∧ r < ((k + m : Nat) : Int) ∧ MadeI w (genV k) (k + m) k q3 q14 (r.toNat * k + c.toNat) w1) (fun _ _ _ _ c _ => ((k : Int) - c).toNat) := by
        intro n89 he
        obtain ⟨hx, ne', n6', n23', s6, p, l, cp, s23, ho⟩ := hM59.open_
        refine ⟨_, _, _, s23.cell3 rfl, fun k91 w92 h92 => ?_⟩
        rw [he] at h92
        obtain ⟨p2, l2, c2, w93, hrun, lv, hset⟩ := made_push hx ne' n6' n23' s6 s23 ho h92 (by omega) (by omega)
        refine ⟨p2, l2, c2, w93, hrun, lv, fun w95 s95 => ?_⟩
        rw [w64 (n := (u : Int) + 1) (by omega)]
        refine ⟨⟨by omega, by omega, hr0, hs, ?_⟩, by show ((k : Int) - ((u : Int) + 1)).toNat < ((k : Int) - u).toNat; omega⟩
        rw [Int.toNat_natCast, show ((u : Int) + 1).toNat = u + 1 by omega]
        exact hset w95 s95
      refine (rsame_spec (w := w59) t u).mono ?_
      rintro e w84 ⟨rfl, rfl⟩
      refine ⟨_, rfl, condB_of (fun hk2 => ?_) (fun hk2 => ?_)⟩
      · simp only [decide_eq_true_eq] at hk2
        rw [w64 (n := (t : Int) - k) (by omega), show (t : Int) - (k : Int) = ((t - k : Nat) : Int) by omega]
        refine (rpart_spec (k := k) (i := t - k) (j := u) (by omega)).mono ?_
        rintro e w87 ⟨rfl, rfl⟩
        refine ⟨_, rfl, fin _ ?_⟩
        show vb (parV k (t - k) u) = vb (genV k t u)
        unfold parV genV
        rw [if_neg (by omega), show k + (t - k) = t by omega]
      · simp only [decide_eq_false_iff_not] at hk2
        refine fin _ ?_
        show vb (if t = u then 1 else 0) = vb (genV k t u)
        unfold genV
        rw [if_pos (show t < k by omega)]
    · simp only [decide_eq_false_iff_not] at ht
      obtain rfl : u = k := by omega
      rw [w64 (n := (t : Int) + 1) (by omega)]
      refine ⟨⟨by omega, by omega, ?_⟩, by show (((u + m : Nat) : Int) - ((t : Int) + 1)).toNat < (((u + m : Nat) : Int) - t).toNat; omega⟩
      rw [show ((t : Int) + 1).toNat = t + 1 by omega, Nat.add_mul, Nat.one_mul]
      exact hM59
  · simp only [decide_eq_false_iff_not] at hs
    obtain ⟨hx, ne', n6', n23', s6, p, l, cp, s23, ho⟩ := hM.open_
    refine ret3 (R := rmadeP w (genV k) (k + m) k) s23 s6 rfl fun w' hu => ⟨p, l, cp, rfl, ext_upd hx n6' hu, ?_⟩
    rw [show ((t : Nat) : Int).toNat = k + m by omega] at ho
    exact OwnB.apart ho hu s6 ty_mat.1

set_option maxHeartbeats 2000000 in
theorem rpar_spec {w : World} {k m : Nat} (hk : 1 ≤ k) (hkm : k + m ≤ 256) : Calls Try.prog 107 #[.int .i64 (k : Int), .int .i64 (m : Int)] w fun e w' => ∃ v, e = .returned v ∧ rmadeP w (parV k) m k v w' := by
  refine F107_calls k m w (rmadeP w (parV k) m k)
    (fun q3 q14 _ r w1 => 0 ≤ r ∧ r ≤ m ∧ MadeI w (parV k) m k q3 q14 (r.toNat * k) w1) (fun _ _ _ r _ => ((m : Int) - r).toNat)
    (fun q3 q14 r _ c w1 => 0 ≤ c ∧ c ≤ k ∧ 0 ≤ r ∧ r < m ∧ MadeI w (parV k) m k q3 q14 (r.toNat * k + c.toNat) w1) (fun _ _ _ _ c _ => ((k : Int) - c).toNat) ?_
  intro k3 w4 h3
  have r3 : RowK w4 k3 82 (matC 0 0 none 0 0) := h3.at
  have n3 : w.heap.size ≤ k3 := by rw [h3.size.1]; exact Nat.le_refl _
  refine (rcheck_spec k m w4).mono ?_
  rintro e w5 ⟨rfl, rfl⟩
  rw [kmE_ok ⟨by omega, by omega, by omega, by omega⟩]
  refine ⟨_, rfl, condB_of (fun h => by simp at h) fun _ => new_mat fun k14 w18 r14 n14 x18 => ?_⟩
  have ne : k3 ≠ k14 := by have := lt_of_heap r3; omega
  refine ⟨⟨by omega, by omega, h3.ext.trans x18, k3, k14, none, 0, 0, rfl, rfl, ne, n3, by have := h3.ext.size; omega, x18.keep r3, r14, ?_⟩, ?_⟩
  · rw [show (0 : Int).toNat * k = 0 by simp]; exact OwnS.nil _ _ _ _
  rintro r w22 ⟨hr0, hr1, hM⟩
  intros
  obtain ⟨t, rfl⟩ := Int.eq_ofNat_of_zero_le hr0
  refine condB_of (fun hs => ?_) (fun hs => ?_)
  · simp only [decide_eq_true_eq] at hs
    refine ⟨⟨by omega, by omega, hr0, hs, by rw [show (0 : Int).toNat = 0 from rfl, Nat.add_zero]; exact hM⟩, ?_⟩
    rintro c w47 ⟨hc0, hc1, _, _, hM47⟩
    intros
    obtain ⟨u, rfl⟩ := Int.eq_ofNat_of_zero_le hc0
    have hbig : t * k ≤ 256 * 256 := Nat.mul_le_mul (by omega) (by omega)
    refine condB_of (fun ht => ?_) (fun ht => ?_)
    · simp only [decide_eq_true_eq] at ht
      simp only [Int.toNat_natCast] at hM47
      obtain ⟨hx, ne', n6', n23', s6, p, l, cp, s23, ho⟩ := hM47.open_
      intro w62 hd
      have s23a : RowK w62 k14 82 (matC m k p l cp) := hd.ext.keep s23
      refine ⟨_, _, _, s23a.cell3 rfl, (rpart_spec (w := w62) (k := k) (i := t) (j := u) (by omega)).mono ?_⟩
      rintro e w64' ⟨rfl, rfl⟩
      refine ⟨_, rfl, ⟨_, _, _, s23a.cell3 rfl, rfl⟩, fun k68 w69 h69 => ?_⟩
      have s23b : RowK w69 k14 82 (matC m k p l cp) := h69.ext.keep s23a
      obtain ⟨p2, l2, c2, w71, hrun, lv, hset⟩ := made_push (hx.trans hd.ext) ne' n6' n23' (hd.ext.keep s6) s23a (OwnB.ext ho hd.ext) h69 (by omega) (by omega)
      refine ⟨⟨_, _, _, s23b.cell3 rfl, rfl⟩, p2, l2, c2, w71, hrun, lv, fun w73 s73 => ?_⟩
      rw [w64 (n := (u : Int) + 1) (by omega)]
      refine ⟨⟨by omega, by omega, hr0, hs, ?_⟩, by show ((k : Int) - ((u : Int) + 1)).toNat < ((k : Int) - u).toNat; omega⟩
      rw [Int.toNat_natCast, show ((u : Int) + 1).toNat = u + 1 by omega]
      exact hset w73 s73
    · simp only [decide_eq_false_iff_not] at ht
      obtain rfl : u = k := by omega
      rw [w64 (n := (t : Int) + 1) (by omega)]
      refine ⟨⟨by omega, by omega, ?_⟩, by show ((m : Int) - ((t : Int) + 1)).toNat < ((m : Int) - t).toNat; omega⟩
      rw [show ((t : Int) + 1).toNat = t + 1 by omega, Nat.add_mul, Nat.one_mul]
      exact hM47
  · simp only [decide_eq_false_iff_not] at hs
    obtain ⟨hx, ne', n6', n23', s6, p, l, cp, s23, ho⟩ := hM.open_
    refine ret3 (R := rmadeP w (parV k) m k) s23 s6 rfl fun w' hu => ⟨p, l, cp, rfl, ext_upd hx n6' hu, ?_⟩
    rw [show ((t : Nat) : Int).toNat = m by omega] at ho
    exact OwnB.apart ho hu s6 ty_mat.1
end Go.Proofs.Ytpmkjpgoekjcfaa

/- The document's matrices: checked, picked. -/
namespace Go.Proofs.Ytpmkjpgoekjcfaa
open Go Go.Vc Go.Gf

theorem rmcheck_spec {w : World} {p : Option Addr} {c R C : Nat} (hR : R ≤ 256) (hC : C ≤ 256) :
    Calls Try.prog 103 #[.agg #[.int .i64 (R : Int), .int .i64 (C : Int), .slice p (R * C) c]] w fun e w' => e = .returned (.int .i64 0) ∧ Ext w w' := by
  refine (F103_calls R C p (R * C) c w (fun v w' => v = .int .i64 0 ∧ Ext w w') ?_).mono (by rintro e w' ⟨v, rfl, rfl, h⟩; exact ⟨rfl, h⟩)
  intro k4 w5 h4
  have r4 : RowK w5 k4 82 (matC R C p (R * C) c) := h4.at
  have hm : R * C ≤ 256 * 256 := Nat.mul_le_mul hR hC
  refine ⟨_, r4.cell3 rfl, condB_of (fun h => by simp only [decide_eq_true_eq] at h; omega) fun _ => ⟨_, r4.cell3 rfl, condB_of (fun h => by simp only [decide_eq_true_eq] at h; omega) fun _ => ⟨_, r4.cell3 rfl, condB_of (fun h => by simp only [decide_eq_true_eq] at h; omega) fun _ =>
    ⟨_, r4.cell3 rfl, condB_of (fun h => by simp only [decide_eq_true_eq] at h; omega) fun _ => ⟨_, _, _, r4.cell3 rfl, _, r4.cell3 rfl, _, r4.cell3 rfl, ?_⟩⟩⟩⟩⟩
  rw [wmul (by omega)]
  exact condB_of (fun h => by simp at h) fun _ => ⟨rfl, h4.ext⟩

theorem genA_row (val : Nat → Nat → UInt8) {C : Nat} (i : Nat) : ∀ c, c ≤ C → genA val C (i * C) ++ (List.range c).map (val i) = genA val C (i * C + c) := by
  intro c
  induction c with
  | zero => intro _; simp
  | succ c ih =>
    intro hc
    rw [List.range_succ, List.map_append, ← List.append_assoc, ih (by omega)]
    exact genA_succ val (by omega)
/-- a row that is cut out of a matrix that is read -/
theorem cut_row {a : Addr} {C r c : Nat} (hC : 0 < C) (hc : (r + 1) * C ≤ c) (hb : (r + 1) * C ≤ 1048576) (hr : r ≤ 1048576) :
    (0 ≤ IntKind.i64.wrap (IntKind.i64.wrap ((r : Int) + 1) * (C : Int)) ∧ IntKind.i64.wrap (IntKind.i64.wrap ((r : Int) + 1) * (C : Int)) ≤ (c : Int)) ∧
    (0 ≤ IntKind.i64.wrap ((r : Int) * (C : Int)) ∧ IntKind.i64.wrap ((r : Int) * (C : Int)) ≤ (((IntKind.i64.wrap (IntKind.i64.wrap ((r : Int) + 1) * (C : Int))).toNat : Nat) : Int)) ∧
    Value.slice (cutP (some a) c (IntKind.i64.wrap ((r : Int) * (C : Int))).toNat 1) ((IntKind.i64.wrap (IntKind.i64.wrap ((r : Int) + 1) * (C : Int))).toNat - (IntKind.i64.wrap ((r : Int) * (C : Int))).toNat) (c - (IntKind.i64.wrap ((r : Int) * (C : Int))).toNat) =
      .slice (some (a.add (r * C))) C (c - r * C) := by
  have e0 : (r + 1) * C = r * C + C := by rw [Nat.add_mul, Nat.one_mul]
  have e1 : IntKind.i64.wrap ((r : Int) + 1) = ((r + 1 : Nat) : Int) := w64 (by omega)
  rw [e1, wmul (by omega), wmul (by omega)]
  refine ⟨⟨by omega, by omega⟩, ⟨by omega, by omega⟩, ?_⟩
  rw [Int.toNat_natCast, Int.toNat_natCast]
  unfold cutP
  rw [if_neg (by omega), e0]
  show Value.slice (some (a.add (r * C * 1))) _ _ = _
  rw [Nat.mul_one, Nat.add_sub_cancel_left]

set_option maxHeartbeats 4000000 in
theorem rpick_spec {w : World} {a : Addr} {c R C m c4 : Nat} {p4 : Option Addr} {V : Nat → Nat → UInt8} {L : List Nat} (hA : MatR w a R C V) (hL : NatsAt w p4 m L) (hlt : ∀ t ∈ L, t < R) (hm : m ≤ 256) (hR : R ≤ 256) (hC : C ≤ 256) (hC0 : 0 < C) (hc : R * C ≤ c) :
    Calls Try.prog 84 #[.agg #[.int .i64 (R : Int), .int .i64 (C : Int), .slice (some a) (R * C) c], .slice p4 m c4] w fun e w' => ∃ v, e = .returned v ∧ rmadeP w (fun r c => V (L.getD r 0) c) m C v w' := by
  refine F84_calls R C (some a) (R * C) c p4 m c4 w (rmadeP w (fun r c => V (L.getD r 0) c) m C)
    (fun q5 q7 q28 _ i w1 => 0 ≤ i ∧ i ≤ m ∧ RowQ w1 q5 82 (matC R C (some a) (R * C) c) ∧ MadeI w (fun r c => V (L.getD r 0) c) m C q7 q28 (i.toNat * C) w1) (fun _ _ _ _ i _ => (m - i).toNat) ?_
  have hml := hL.1
  have hmC : m * C ≤ 256 * 256 := Nat.mul_le_mul hm hC
  have hRC : R * C ≤ 256 * 256 := Nat.mul_le_mul hR hC
  intro k5 w6 h5 k7 w8 h7
  have r5 : RowK w8 k5 82 (matC R C (some a) (R * C) c) := h7.ext.keep h5.at
  have r7 : RowK w8 k7 82 (matC 0 0 none 0 0) := h7.at
  have x8 := h5.ext.trans h7.ext
  have n7 : w.heap.size ≤ k7 := by rw [h7.size.1]; exact h5.ext.size
  refine ⟨_, r5.cell0 rfl, _, r5.cell3 rfl, _, _, _, r5.cell3 rfl, (rmcheck_spec hR hC).mono ?_⟩
  rintro e w12 ⟨rfl, x12⟩
  have r5' : RowK w12 k5 82 (matC R C (some a) (R * C) c) := x12.keep r5
  have r7' : RowK w12 k7 82 (matC 0 0 none 0 0) := x12.keep r7
  refine ⟨_, rfl, condB_of (fun h => by simp at h) fun _ => condB_of (fun h => by simp only [decide_eq_true_eq] at h; omega) fun _ => ⟨_, r5'.cell3 rfl, new_mat fun k28 w32 r28 n28 x32 => ?_⟩⟩
  have ne : k7 ≠ k28 := by have := lt_of_heap r7'; omega
  have xw32 := x8.trans (x12.trans x32)
  refine ⟨⟨by omega, by omega, RowQ.of (x32.keep r5'), xw32, k7, k28, none, 0, 0, rfl, rfl, ne, n7, by have := (x8.trans x12).size; omega, x32.keep r7', r28, ?_⟩, ?_⟩
  · rw [show (0 : Int).toNat * C = 0 by simp]; exact OwnS.nil _ _ _ _
  rintro i w37 ⟨hi0, hi1, hq5, hM⟩
  intros
  obtain ⟨t, rfl⟩ := Int.eq_ofNat_of_zero_le hi0
  obtain ⟨hx, ne', n7', n28', s7, p, l, cp, s28, ho⟩ := hM.open_
  simp only [Int.toNat_natCast] at ho
  refine condB_of (fun hs => ?_) (fun hs => ?_)
  · simp only [decide_eq_true_eq] at hs
    intro w82 hd
    have x82 := hx.trans hd.ext
    obtain ⟨b, rfl, hb⟩ := (hL.ext x82).get (i := t) (by omega)
    have hLt : L.getD t 0 < R := by
      rw [List.getD_eq_getElem?_getD, List.getElem?_eq_getElem (by omega)]
      exact hlt _ (List.getElem_mem _)
    have s5 := (hq5.ext hd.ext).get
    have m2 : (L.getD t 0 + 1) * C ≤ R * C := Nat.mul_le_mul_right C (by omega)
    have hb' : w82.cell? (b.add ((t : Int).toNat * 1)) = some (.int .i64 ((L.getD t 0 : Nat) : Int)) := by rw [Int.toNat_natCast, Nat.mul_one]; exact hb
    refine ⟨⟨hi0, hs⟩, _, hb', condB_of (fun h => by simp only [decide_eq_true_eq] at h; omega) fun _ => ⟨⟨hi0, hs⟩, _, hb', _, s5.cell3 rfl, condB_of (fun h => by simp only [decide_eq_true_eq] at h; omega) fun _ => fun w100 hd2 => ?_⟩⟩
    have x100 := x82.trans hd2.ext
    have x37100 : Ext w37 w100 := hd.ext.trans hd2.ext
    have s5b := ((hq5.ext hd.ext).ext hd2.ext).get
    have s28b : RowK w100 k28 82 (matC m C p l cp) := x37100.keep s28
    have hb2 : w100.cell? (b.add ((t : Int).toNat * 1)) = some (.int .i64 ((L.getD t 0 : Nat) : Int)) := hd2.ext.cell hb' id
    obtain ⟨cu1, cu2, cu3⟩ := cut_row (a := a) (C := C) (r := L.getD t 0) (c := c) hC0 (by omega) (by omega) (by omega)
    have ho100 := OwnB.ext ho x37100
    have l100 := OwnB.len ho100
    rw [genA_len] at l100
    have m1 : (t + 1) * C ≤ m * C := Nat.mul_le_mul_right C (by omega)
    have m0 : (t + 1) * C = t * C + C := by rw [Nat.add_mul, Nat.one_mul]
    obtain ⟨p', c', w109, hrun, o109, u109⟩ := OwnB.append (d := c - L.getD t 0 * C) ho100 ((hA.ext x100) _ hLt) x100.size (by omega)
    have keep : ∀ {k : Nat} {cs : Array Value}, RowK w100 k 82 cs → RowK w109 k 82 cs := fun h => RowK.keep h u109 fun y hy => by
      obtain ⟨cs, e', fz, h7, h8⟩ := OwnS.typed ho100 hy
      exact ⟨cs, e', fz, h7, by rw [h8]; exact ty_mat.1.symm⟩
    have t28 := keep s28b
    have t7 := keep (x37100.keep s7)
    have t5 := keep s5b
    have x109 := OwnB.new_ext x100 u109 fun y hy => OwnB.blk ho100 hy
    refine ⟨_, _, _, s28b.cell3 rfl, _, _, _, s5b.cell3 rfl, ⟨hi0, hs⟩, _, hb2, _, s5b.cell3 rfl, ⟨hi0, hs⟩, _, hb2, _, s5b.cell3 rfl, cu1, cu2, p', _, c', w109, by rw [cu3]; exact hrun, t28.live3 (by simp), fun w111 s111 => ?_⟩
    obtain ⟨b111, u111⟩ := t28.set3 s111
    have hlt28 := lt_of_heap t28
    rw [w64 (n := (t : Int) + 1) (by omega)]
    refine ⟨⟨by omega, by omega, ?_, ext_upd x109 n28' u111, k7, k28, p', _, c', rfl, rfl, ne', n7', n28', u111.keep t7 ne', b111, ?_⟩, by show ((m : Int) - ((t : Int) + 1)).toNat < ((m : Int) - t).toNat; omega⟩
    · by_cases e : k5 = k28
      · exact absurd e (by have := lt_of_heap r5'; omega)
      · exact RowQ.of (u111.keep t5 e)
    · rw [show ((t : Int) + 1).toNat = t + 1 by omega, m0, ← genA_row (fun r c => V (L.getD r 0) c) t C (Nat.le_refl _)]
      exact OwnB.apart o109 u111 t28 ty_mat.1
  · simp only [decide_eq_false_iff_not] at hs
    refine ret3 (R := rmadeP w (fun r c => V (L.getD r 0) c) m C) s28 s7 rfl fun w' hu => ⟨p, l, cp, rfl, ext_upd hx n7' hu, ?_⟩
    rw [show t = m by omega] at ho
    exact OwnB.apart ho hu s7 ty_mat.1
end Go.Proofs.Ytpmkjpgoekjcfaa

/- The document's matrices: rows as lists, a row cleared. -/
namespace Go.Proofs.Ytpmkjpgoekjcfaa
open Go Go.Vc Go.Gf

def rowL (V : Nat → Nat → UInt8) (C r : Nat) : List UInt8 := (List.range C).map (V r)
set_option maxHeartbeats 2000000 in
theorem wide_spec {w : World} {a : Addr} {c R C : Nat} {V : Nat → Nat → UInt8} (hA : MatR w a R C V) (hR : R ≤ 256) (hC : C ≤ 256) (hC0 : 0 < C) (hc : R * C ≤ c) :
    Calls Try.prog 104 #[.agg #[.int .i64 (R : Int), .int .i64 (C : Int), .slice (some a) (R * C) c]] w fun e w' => ∃ p c', e = .returned (.slice p R c') ∧ Ext w w' ∧ RowsS w' w.heap.size p R c' (rowL V C) := by
  refine (F104_calls R C (some a) (R * C) c w (fun v w' => ∃ p c', v = .slice p R c' ∧ Ext w w' ∧ RowsS w' w.heap.size p R c' (rowL V C))
    (fun q4 _ p l cp i w1 => 0 ≤ i ∧ i ≤ R ∧ (l : Int) = i ∧ Ext w w1 ∧ RowQ w1 q4 82 (matC R C (some a) (R * C) c) ∧ RowsS w1 w.heap.size p l cp (rowL V C)) (fun _ _ _ _ _ i _ => (R - i).toNat) ?_).mono (by rintro e w' ⟨v, rfl, p, c', rfl, h⟩; exact ⟨p, c', rfl, h⟩)
  have hRC : R * C ≤ 256 * 256 := Nat.mul_le_mul hR hC
  intro k4 w5 h4
  have n4 : w.heap.size ≤ k4 := by rw [h4.size.1]; exact Nat.le_refl _
  refine ⟨⟨by omega, by omega, rfl, h4.ext, RowQ.of h4.at, RowsS.nil _ _ _⟩, ?_⟩
  rintro p l cp i w9 ⟨hi0, hi1, hli, hx, hq4, hS⟩
  intros
  obtain ⟨t, rfl⟩ := Int.eq_ofNat_of_zero_le hi0
  have s4 := hq4.get
  refine ⟨_, s4.cell3 rfl, condB_of (fun hs => ?_) (fun hs => ?_)⟩
  · simp only [decide_eq_true_eq] at hs
    intro k34 w35 h34
    have o35 : OwnB w35 w9.heap.size (some (at0 k34)) 0 0 [] := OwnS.made h34 (by rw [h34.size.1]; exact Nat.le_refl _) (Nat.le_refl _) (by unfold maxLen; omega) rfl
    have s4b : RowK w35 k4 82 (matC R C (some a) (R * C) c) := h34.ext.keep s4
    have m2 : (t + 1) * C ≤ R * C := Nat.mul_le_mul_right C (by omega)
    obtain ⟨cu1, cu2, cu3⟩ := cut_row (a := a) (C := C) (r := t) (c := c) hC0 (by omega) (by omega) (by omega)
    obtain ⟨p40, c40, w39, hr, o39, u39⟩ := OwnB.append (d := c - t * C) o35 ((hA.ext (hx.trans h34.ext)) t (by omega)) h34.ext.size (by omega)
    rw [List.nil_append] at o39
    have x39 : Ext w9 w39 := OwnB.new_ext h34.ext u39 fun x hx => OwnB.blk o35 hx
    refine ⟨_, _, _, s4b.cell3 rfl, _, s4b.cell3 rfl, _, s4b.cell3 rfl, cu1, cu2, p40, _, c40, w39, by rw [cu3]; exact hr, fun k41 w42 h41 => ?_⟩
    obtain ⟨p', c', w43, hr', hS', hu⟩ := hS.push x39 o39 h41 hx.size (by omega)
    rw [w64 (n := (t : Int) + 1) (by omega)]
    refine ⟨_, _, _, w43, hr', ⟨by omega, by omega, by omega, OwnB.new_ext (hx.trans x39) hu fun y hy => ?_, ?_, hS'.congr fun u _ => ?_⟩, by show ((R : Int) - ((t : Int) + 1)).toNat < ((R : Int) - t).toNat; omega⟩
    · obtain ⟨P, g1, _⟩ := hS
      exact OwnS.blk g1 hy
    · obtain ⟨P, g1, _⟩ := hS
      refine RowQ.of (RowK.keep (x39.keep s4) hu fun y hy => ?_)
      obtain ⟨cs, e', fz, h7, h8⟩ := OwnS.typed (OwnS.ext g1 x39) hy
      exact ⟨cs, e', fz, h7, by rw [h8]; exact ty_mat.2.2.2.2.symm⟩
    · by_cases e : u = l
      · rw [if_pos e, show u = t by omega]; rfl
      · rw [if_neg e]
  · simp only [decide_eq_false_iff_not] at hs
    obtain rfl : l = R := by omega
    exact ⟨p, cp, rfl, hx, hS⟩

def clearL (xs ys : List UInt8) (c : Nat) : List UInt8 := (List.range xs.length).map fun i => co xs i ^^^ gm (gm (co xs c) (gi (co ys c))) (co ys i)
set_option maxHeartbeats 2000000 in
theorem cleared_spec {w : World} {p1 p2 : Option Addr} {l1 c1 l2 c2 c : Nat} {xs ys : List UInt8} (h1 : BytesAt w p1 l1 xs) (h2 : BytesAt w p2 l2 ys) (hl : l1 = l2) (hl1 : l1 ≤ 1048576) (hc : c < l1) (hy : co ys c ≠ 0) :
    Calls Try.prog 105 #[.slice p1 l1 c1, .slice p2 l2 c2, .int .i64 (c : Int)] w fun e w' => ∃ p c', e = .returned (.slice p l1 c') ∧ Ext w w' ∧ OwnB w' w.heap.size p l1 c' (clearL xs ys c) := by
  have hxl := h1.1
  refine (F105_calls p1 l1 c1 p2 l2 c2 c w (fun v w' => ∃ p c', v = .slice p l1 c' ∧ Ext w w' ∧ OwnB w' w.heap.size p l1 c' (clearL xs ys c))
    (fun _ _ p l cp i w1 => 0 ≤ i ∧ i ≤ l1 ∧ Ext w w1 ∧ OwnB w1 w.heap.size p l cp ((clearL xs ys c).take i.toNat)) (fun _ _ _ _ _ i _ => (l1 - i).toNat) ?_).mono (by rintro e w' ⟨v, rfl, p, c', rfl, h⟩; exact ⟨p, c', rfl, h⟩)
  have hcl : (clearL xs ys c).length = l1 := by simp [clearL]; omega
  intro w4 hd
  obtain ⟨a1, rfl, b1⟩ := BytesAt.co (h1.ext hd.ext) (i := c) hc
  obtain ⟨a2, rfl, b2⟩ := BytesAt.co (h2.ext hd.ext) (i := c) (by omega)
  refine ⟨⟨by omega, by omega⟩, _, by rw [Int.toNat_natCast, Nat.mul_one]; exact b1, ⟨by omega, by omega⟩, _, by rw [Int.toNat_natCast, Nat.mul_one]; exact b2, (rdiv_spec (w := w4) (co xs c) (co ys c) hy).mono ?_⟩
  rintro e w9 ⟨rfl, rfl⟩
  refine ⟨_, _, rfl, ⟨by omega, by omega, hd.ext, by rw [show (clearL xs ys c).take (0 : Int).toNat = [] from rfl]; exact OwnS.nil _ _ _ _⟩, ?_⟩
  rintro p l cp i w16 ⟨hi0, hi1, hx, ho⟩
  intros
  obtain ⟨t, rfl⟩ := Int.eq_ofNat_of_zero_le hi0
  have lo := OwnB.len ho
  rw [List.length_take] at lo
  refine condB_of (fun hs => ?_) (fun hs => ?_)
  · simp only [decide_eq_true_eq] at hs
    intro w37 hd2
    have x37 := hx.trans hd2.ext
    obtain ⟨a1', e1, d1⟩ := BytesAt.co (h1.ext x37) (i := t) (by omega)
    cases e1
    obtain ⟨a2', e2, d2⟩ := BytesAt.co (h2.ext x37) (i := t) (by omega)
    cases e2
    refine ⟨⟨hi0, hs⟩, _, by rw [Int.toNat_natCast, Nat.mul_one]; exact d1, ⟨hi0, by omega⟩, _, by rw [Int.toNat_natCast, Nat.mul_one]; exact d2, (rmul_spec (w := w37) (gm (co xs c) (gi (co ys c))) (co ys t)).mono ?_⟩
    rintro e w42 ⟨rfl, rfl⟩
    refine ⟨_, rfl, ⟨_, by rw [Int.toNat_natCast, Nat.mul_one]; exact d1, rfl⟩, ?_⟩
    rw [bx8]
    intro k46 w47 h46
    obtain ⟨p', c', w48, hr, ho', hu⟩ := OwnB.push (OwnB.ext ho hd2.ext) h46 x37.size (by omega)
    rw [w64 (n := (t : Int) + 1) (by omega)]
    refine ⟨_, _, _, w48, hr, ⟨by omega, by omega, OwnB.new_ext x37 hu fun y hy => OwnB.blk ho hy, ?_⟩, by show ((l1 : Int) - ((t : Int) + 1)).toNat < ((l1 : Int) - t).toNat; omega⟩
    have e3 : (clearL xs ys c).take ((t : Int) + 1).toNat = (clearL xs ys c).take (t : Int).toNat ++ [co xs t ^^^ gm (gm (co xs c) (gi (co ys c))) (co ys t)] := by
      rw [show ((t : Int) + 1).toNat = t + 1 by omega, Int.toNat_natCast, List.take_add_one, List.getElem?_eq_getElem (by omega)]
      simp [clearL]
    rw [e3]; exact ho'
  · simp only [decide_eq_false_iff_not] at hs
    rw [List.take_of_length_le (by omega)] at ho
    obtain rfl : l = l1 := by
      have := OwnB.len ho
      omega
    exact ⟨p, cp, rfl, hx, ho⟩
end Go.Proofs.Ytpmkjpgoekjcfaa

/- Rows of bytes: two exchanged, one made longer. -/
namespace Go.Proofs.Ytpmkjpgoekjcfaa
open Go Go.Vc Go.Gf

theorem RowsAt.rowk {w : World} {base k n : Nat} {L : Nat → List UInt8} (h : RowsAt w base (at0 k) n L) (hn : 0 < n) : ∃ cs, RowK w k 22 cs := h.typ hn
theorem RowsAt.swap {w : World} {base k n i j : Nat} {L : Nat → List UInt8} (h : RowsAt w base (at0 k) n L) (hi : i < n) (hj : j < n) :
    ∃ p1 l1 c1 p2 l2 c2, w.cell? ((at0 k).add i) = some (.slice p1 l1 c1) ∧ w.cell? ((at0 k).add j) = some (.slice p2 l2 c2) ∧ Live w ((at0 k).add i) ∧ ∀ w1, SetC w ((at0 k).add i) (.slice p2 l2 c2) w1 →
      Live w1 ((at0 k).add j) ∧ ∀ w2, SetC w1 ((at0 k).add j) (.slice p1 l1 c1) w2 → RowsAt w2 base (at0 k) n (fun t => if t = j then L i else if t = i then L j else L t) ∧ Upd (fun x => x = k) w w2 := by
  obtain ⟨cs, h1⟩ := h.rowk (by omega)
  obtain ⟨P, h3, h4⟩ := h.own
  have hsz : ∀ t, t < n → t < cs.size := fun t ht => by
    have h5 := (h3 t ht).1
    rw [rowk_cell h1] at h5
    exact (Array.getElem?_eq_some_iff.1 h5).1
  refine ⟨_, _, _, _, _, _, (h3 i hi).1, (h3 j hj).1, h1.live3 (hsz i hi), fun w1 s1 => ?_⟩
  obtain ⟨r1, u1⟩ := h1.set3 s1
  refine ⟨r1.live3 (by simp [hsz j hj]), fun w2 s2 => ?_⟩
  obtain ⟨r2, u2⟩ := r1.set3 s2
  have inj : ∀ s t, s < n → t < n → ∀ g, (P s).1 = some (at0 g) → (P t).1 = some (at0 g) → s = t := fun s t hs ht g e1 e2 => Decidable.byContradiction fun hne => h4 s t hs ht hne g e1 e2
  refine ⟨⟨fun _ => ⟨_, r2⟩, fun t => if t = j then P i else if t = i then P j else P t, fun t ht => ⟨?_, ?_⟩, ?_⟩, Upd.trans u1 u2 fun _ _ h => h⟩
  · dsimp only
    rw [rowk_cell r2, Array.getElem?_setIfInBounds]
    by_cases e : t = j
    · subst e
      simp only [if_true]
      rw [if_pos (by simp [hsz t ht])]
    · rw [if_neg (fun e2 => e e2.symm), Array.getElem?_setIfInBounds, if_neg e]
      by_cases e2 : t = i
      · subst e2
        simp only [if_true]
        rw [if_pos (hsz t ht)]
      · rw [if_neg (fun e3 => e2 e3.symm), if_neg e2, ← rowk_cell h1]
        exact (h3 t ht).1
  · have keep : ∀ s, s < n → OwnB w2 base (P s).1 (P s).2.1 (P s).2.2 (L s) := fun s hs => OwnB.apart (OwnB.apart (h3 s hs).2 u1 h1 ty_out.1.symm) u2 r1 ty_out.1.symm
    dsimp only
    by_cases e : t = j
    · rw [if_pos e, if_pos e]; exact keep i hi
    · rw [if_neg e, if_neg e]
      by_cases e2 : t = i
      · rw [if_pos e2, if_pos e2]; exact keep j hj
      · rw [if_neg e2, if_neg e2]; exact keep t ht
  · have src : ∀ s, s < n → ∃ u, u < n ∧ (if s = j then P i else if s = i then P j else P s) = P u ∧ (s = j ∧ u = i ∨ s ≠ j ∧ s = i ∧ u = j ∨ s ≠ j ∧ s ≠ i ∧ u = s) := fun s hs => by
      by_cases e : s = j
      · exact ⟨i, hi, by rw [if_pos e], .inl ⟨e, rfl⟩⟩
      · by_cases e2 : s = i
        · exact ⟨j, hj, by rw [if_neg e, if_pos e2], .inr (.inl ⟨e, e2, rfl⟩)⟩
        · exact ⟨s, hs, by rw [if_neg e, if_neg e2], .inr (.inr ⟨e, e2, rfl⟩)⟩
    intro s t hs ht hst g hg hg2
    obtain ⟨u, hu, e1, c1⟩ := src s hs
    obtain ⟨v, hv, e2, c2⟩ := src t ht
    dsimp only at hg hg2
    rw [e1] at hg
    rw [e2] at hg2
    have := inj u v hu hv g hg hg2
    omega

/-- bytes are laid behind a row -/
theorem RowsAt.append {w : World} {base k n i m d : Nat} {q : Addr} {L : Nat → List UInt8} {xs : List UInt8} (h : RowsAt w base (at0 k) n L) (hi : i < n) (hq : BytesAt w (some q) m xs) (hm : 0 < m) (hb : base ≤ w.heap.size) (hk : base ≤ k) (hlen : (L i).length + m ≤ 1073741824) :
    ∃ p l c, w.cell? ((at0 k).add i) = some (.slice p l c) ∧ ∃ p' l' c' w2, Sem.run Try.prog (Builtin.append_ #[22, 22] 22 #[.slice p l c, .slice (some q) m d]) w = .ok (.slice p' l' c') w2 ∧ Live w2 ((at0 k).add i) ∧
      ∀ w3, SetC w2 ((at0 k).add i) (.slice p' l' c') w3 → RowsAt w3 base (at0 k) n (fun t => if t = i then L i ++ xs else L t) ∧ (∀ w0, Ext w0 w → w0.heap.size ≤ base → Ext w0 w3) ∧
        ∀ (k' : Nat) (e : TypeId) (cs : Array Value), e ≠ 5 → e ≠ 22 → RowK w k' e cs → RowK w3 k' e cs := by
  obtain ⟨cs, h1⟩ := h.rowk (by omega)
  obtain ⟨P, h3, h4⟩ := h.own
  have hsz : i < cs.size := by
    have h5 := (h3 i hi).1
    rw [rowk_cell h1] at h5
    exact (Array.getElem?_eq_some_iff.1 h5).1
  obtain ⟨hc, ho⟩ := h3 i hi
  have hl := OwnB.len ho
  obtain ⟨p', c', w2, hr, o2, u2⟩ := OwnB.append (d := d) ho hq hb (by omega)
  have hml := hq.1
  have hwhere := push_where elemY 22 ho (news := encB xs) (by rw [encB_length]; omega) hq.cells (encB_one xs) hm (by unfold maxLen; omega) (by omega) hr
  have ty2 : ∀ y, (P i).1 = some (at0 y) → ∃ (cs : Array Value) (e' : TypeId) (fz : Nat × Nat), w.heap[y]? = some (Obj.cells cs e' fz) ∧ e' = 5 := fun y hy => OwnS.typed ho hy
  have kp : ∀ {k' : Nat} {e : TypeId} {cs : Array Value}, e ≠ 5 → RowK w k' e cs → RowK w2 k' e cs := fun he hr => RowK.keep hr u2 fun y hy => by
    obtain ⟨a, b, c, d, e⟩ := ty2 y hy
    exact ⟨a, b, c, d, by rw [e]; exact he.symm⟩
  have r2 := kp ty_out.1.symm h1
  have r2' : RowK w2 k 22 cs := r2
  refine ⟨_, _, _, hc, p', _, c', w2, hr, r2'.live3 hsz, fun w3 s3 => ?_⟩
  obtain ⟨r3, u3⟩ := r2'.set3 s3
  have fresh : ∀ t, t < n → t ≠ i → ∀ g, (P t).1 = some (at0 g) → p' ≠ some (at0 g) := fun t ht hne g hg he => by
    rcases hwhere with e | e
    · rw [e] at he
      exact h4 i t hi ht (fun e => hne e.symm) g he hg
    · rw [e] at he
      simp only [Option.some.injEq, at0, Addr.mk.injEq, and_true] at he
      have h5 := (h3 t ht).2
      rw [hg] at h5
      have := OwnS.lt_heap h5
      omega
  refine ⟨⟨fun _ => ⟨_, r3⟩, fun t => if t = i then (p', (P i).2.1 + m, c') else P t, fun t ht => ?_, ?_⟩, fun w0 hx hw0 => ?_, fun k' e cs' he1 he2 hk' => ?_⟩
  · dsimp only
    rw [rowk_cell r3, Array.getElem?_setIfInBounds]
    by_cases e : t = i
    · subst e
      simp only [if_true]
      rw [if_pos hsz]
      exact ⟨rfl, OwnB.apart o2 u3 r2' ty_out.1.symm⟩
    · rw [if_neg (fun e2 => e e2.symm), if_neg e, if_neg e]
      refine ⟨?_, OwnB.apart (OwnS.upd (h3 t ht).2 u2 fun g hg hS => ?_) u3 r2' ty_out.1.symm⟩
      · rw [← rowk_cell h1]
        exact (h3 t ht).1
      · exact h4 i t hi ht (fun e2 => e e2.symm) g hS hg
  · intro s t hs ht hst g hg
    dsimp only at hg ⊢
    by_cases h5 : s = i
    · rw [if_pos h5] at hg
      rw [if_neg (fun e => hst (h5.trans e.symm))]
      exact fun he => fresh t ht (fun e => hst (h5.trans e.symm)) g he hg
    · rw [if_neg h5] at hg
      by_cases h6 : t = i
      · rw [if_pos h6]; exact fresh s hs h5 g hg
      · rw [if_neg h6]; exact h4 s t hs ht hst g hg
  · exact ext_upd (OwnB.new_ext hx u2 fun y hy => by have := OwnB.blk ho hy; omega) (by omega) u3
  · exact u3.keep (kp he1 hk') (RowK.ne (kp he1 hk') r2' he2)
end Go.Proofs.Ytpmkjpgoekjcfaa

/- The document's inverse: its shared part. -/
namespace Go.Proofs.Ytpmkjpgoekjcfaa
open Go Go.Vc Go.Gf

/-- while rows are worked on -/
structure InvR (w : World) (n : Nat) (q6 p : Option Addr) (L : Nat → List UInt8) (w1 : World) : Prop where
  ext : Ext w w1
  n6 : ∀ k, q6 = some (at0 k) → w.heap.size ≤ k
  r6 : RowQ w1 q6 82 (matC 0 0 none 0 0)
  rows : ∃ g, p = some (at0 g) ∧ w.heap.size ≤ g ∧ RowsAt w1 w.heap.size (at0 g) n L
theorem InvR.mono {w w1 w2 : World} {n : Nat} {q6 p : Option Addr} {L : Nat → List UInt8} (h : InvR w n q6 p L w1) (hu : Ext w1 w2) : InvR w n q6 p L w2 :=
  ⟨h.ext.trans hu, h.n6, h.r6.ext hu, let ⟨g, h1, h2, h3⟩ := h.rows; ⟨g, h1, h2, h3.ext hu⟩⟩
theorem InvR.congr {w w1 : World} {n : Nat} {q6 p : Option Addr} {L L' : Nat → List UInt8} (h : InvR w n q6 p L w1) (e : ∀ i, i < n → L' i = L i) : InvR w n q6 p L' w1 :=
  ⟨h.ext, h.n6, h.r6, let ⟨g, h1, h2, h3⟩ := h.rows; ⟨g, h1, h2, h3.congr e⟩⟩
theorem InvR.get {w w1 : World} {n g : Nat} {q6 : Option Addr} {L : Nat → List UInt8} (h : InvR w n q6 (some (at0 g)) L w1) : w.heap.size ≤ g ∧ RowsAt w1 w.heap.size (at0 g) n L := by
  obtain ⟨g', h1, h2, h3⟩ := h.rows
  simp only [Option.some.injEq, at0, Addr.mk.injEq, and_true] at h1
  subst h1
  exact ⟨h2, h3⟩
/-- where the table, and rows of bytes, are written -/
theorem InvR.write {w w1 w2 : World} {n g : Nat} {q6 : Option Addr} {L L' : Nat → List UInt8} (h : InvR w n q6 (some (at0 g)) L w1) (hx : Ext w w2) (hk : ∀ (k' : Nat) (e : TypeId) (cs : Array Value), e ≠ 5 → e ≠ 22 → RowK w1 k' e cs → RowK w2 k' e cs)
    (hr : RowsAt w2 w.heap.size (at0 g) n L') : InvR w n q6 (some (at0 g)) L' w2 :=
  ⟨hx, h.n6, let ⟨k, h1, h2⟩ := h.r6; ⟨k, h1, hk _ _ _ ty_mat.1 ty_mat.2.2.2.2 h2⟩, g, rfl, h.get.1, hr⟩
theorem InvR.table {w w1 w2 : World} {n g : Nat} {q6 : Option Addr} {L L' : Nat → List UInt8} {cs : Array Value} (h : InvR w n q6 (some (at0 g)) L w1) (hg : RowK w1 g 22 cs) (hu : Upd (fun x => x = g) w1 w2) (hr : RowsAt w2 w.heap.size (at0 g) n L') : InvR w n q6 (some (at0 g)) L' w2 :=
  h.write (ext_upd h.ext h.get.1 hu) (fun k' _ _ _ he hk => hu.keep hk (RowK.ne hk hg he)) hr

theorem RowsAt.live2 {w : World} {base k n i : Nat} {L : Nat → List UInt8} (h : RowsAt w base (at0 k) n L) (hi : i < n) : Live w ((at0 k).add i) := by
  obtain ⟨cs, h1⟩ := h.rowk (by omega)
  obtain ⟨P, h3, h4⟩ := h.own
  have h5 := (h3 i hi).1
  rw [rowk_cell h1] at h5
  exact h1.live3 (Array.getElem?_eq_some_iff.1 h5).1
section
variable (w : World) (n : Nat) (A : Nat → Nat → UInt8)
def RI0 : Option Addr → Int → Option Addr → Nat → Nat → World → Int → World → Prop := fun q6 _ p _ _ _ i w1 => 0 ≤ i ∧ i ≤ n ∧ InvR w n q6 p (fun r => if (r : Int) < i then rowL (gstart n A) (2 * n) r else rowL A n r) w1
def RI1 : Option Addr → Int → Option Addr → Nat → Nat → World → Int → World → Prop := fun q6 _ p _ _ _ c w1 => 0 ≤ c ∧ c ≤ n ∧ ∃ W, InvR w n q6 p (rowL W (2 * n)) w1 ∧ GInv n A W ∧ GDiag n W c.toNat
def RI2 : Option Addr → Int → Option Addr → Nat → Nat → Int → World → Int → World → Prop := fun q6 _ p _ _ c _ i w1 => 0 ≤ c ∧ c < n ∧ c ≤ i ∧ i ≤ n ∧ ∃ W, InvR w n q6 p (rowL W (2 * n)) w1 ∧ GInv n A W ∧ GDiag n W c.toNat ∧ ∀ t : Nat, c ≤ (t : Int) → (t : Int) < i → W t c.toNat = 0
def RI3 : Option Addr → Int → Option Addr → Nat → Nat → Int → World → Int → World → Prop := fun q6 _ p _ _ c _ r w1 => 0 ≤ r ∧ r ≤ n ∧ ∃ W, InvR w n q6 p (rowL W (2 * n)) w1 ∧ GInv n A W ∧ GDiag n W c.toNat ∧ W c.toNat c.toNat ≠ 0 ∧ ∀ t : Nat, (t : Int) < r → t ≠ c.toNat → W t c.toNat = 0
def MadeJ (val : Nat → Nat → UInt8) (q : Option Addr) (w0 : World) (T : Nat) (w1 : World) : Prop := Upd (fun x => q = some (at0 x)) w0 w1 ∧ ∃ p l c, RowQ w1 q 82 (matC n n p l c) ∧ OwnB w1 w0.heap.size p l c (genA val n T)
def RI4 : Option Addr → Int → Option Addr → Nat → Nat → Option Addr → World → Int → World → Prop := fun q6 _ p _ _ q _ i w1 => 0 ≤ i ∧ i ≤ n ∧ ∃ w0 W, InvR w n q6 p (rowL W (2 * n)) w0 ∧ GInv n A W ∧ GDiag n W n ∧ q6 ≠ q ∧ (∀ k, q = some (at0 k) → w.heap.size ≤ k) ∧ RowQ w0 q 82 (matC n n none 0 0) ∧ MadeJ n (gover n W) q w0 (i.toNat * n) w1
def RI5 : Option Addr → Int → Option Addr → Nat → Nat → Option Addr → Int → World → Int → World → Prop := fun q6 _ p _ _ q i _ j w1 => 0 ≤ j ∧ j ≤ n ∧ 0 ≤ i ∧ i < n ∧ ∃ w0 W, InvR w n q6 p (rowL W (2 * n)) w0 ∧ GInv n A W ∧ GDiag n W n ∧ q6 ≠ q ∧ (∀ k, q = some (at0 k) → w.heap.size ≤ k) ∧ RowQ w0 q 82 (matC n n none 0 0) ∧ MadeJ n (gover n W) q w0 (i.toNat * n + j.toNat) w1
def RM0 : Option Addr → Int → Option Addr → Nat → Nat → World → Int → World → Nat := fun _ _ _ _ _ _ i _ => (n - i).toNat
def RM2 : Option Addr → Int → Option Addr → Nat → Nat → Int → World → Int → World → Nat := fun _ _ _ _ _ _ _ i _ => (n - i).toNat
def RM4 : Option Addr → Int → Option Addr → Nat → Nat → Option Addr → World → Int → World → Nat := fun _ _ _ _ _ _ _ i _ => (n - i).toNat
def RM5 : Option Addr → Int → Option Addr → Nat → Nat → Option Addr → Int → World → Int → World → Nat := fun _ _ _ _ _ _ _ _ i _ => (n - i).toNat
end
/-- what the document's inverse is told as -/
def rinvP (w : World) (n : Nat) (A : Nat → Nat → UInt8) (v : Value) (w' : World) : Prop := ∃ p l c V, v = .tuple #[matV n n p l c, .int .i64 0] ∧ Ext w w' ∧ OwnB w' w.heap.size p l c (genA V n (n * n)) ∧
  ∀ r, r < n → ∀ c, c < n → xs n (fun j => gm (V r j) (A j c)) = if r = c then 1 else 0
theorem rowL_len (V : Nat → Nat → UInt8) (C r : Nat) : (rowL V C r).length = C := by simp [rowL]
theorem rowL_co {V : Nat → Nat → UInt8} {C r t : Nat} (h : t < C) : co (rowL V C r) t = V r t := range_co _ h
theorem clear_row {W : Nat → Nat → UInt8} {n t c : Nat} (hc : c < 2 * n) : clearL (rowL W (2 * n) t) (rowL W (2 * n) c) c = rowL (gadd t c (gm (W t c) (gi (W c c))) W) (2 * n) t := by
  unfold clearL
  rw [rowL_len, rowL_co hc, rowL_co hc]
  refine List.map_congr_left fun i hi => ?_
  rw [List.mem_range] at hi
  rw [rowL_co hi, rowL_co hi]
  unfold gadd
  rw [if_pos rfl, gm_comm]

set_option maxRecDepth 20000 in
set_option maxHeartbeats 4000000 in
theorem rinv_tail {w : World} {n k6 c c34 g p0 : Nat} {A W : Nat → Nat → UInt8} {w41 w77 w150 : World} (hn : n ≤ 256) (hc : c < n) (hp : p0 < n) (hcp : c ≤ p0) (hK : InvR w n (some (at0 k6)) (some (at0 g)) (rowL W (2 * n)) w150) (hG : GInv n A W) (hD : GDiag n W c) (hne : W p0 c ≠ 0) :
    F85_A0 (p0 : Int) (n : Int) w150 k6 n (some (at0 g)) (c : Int) c34 w41 w77 (rinvP w n A) (RI0 w n A) (RM0 n) (RI1 w n A) (RM0 n) (RI2 w n A) (RM2 n) (RI3 w n A) (RM2 n) (RI4 w n A) (RM4 n) (RI5 w n A) (RM5 n) := by
  refine condB_of (fun h => by simp only [decide_eq_true_eq] at h; omega) fun _ => ?_
  obtain ⟨hg, hR⟩ := hK.get
  obtain ⟨csg, rowg⟩ := hR.rowk (by omega)
  obtain ⟨p1, l1, c1, p2, l2, c2, e1, e2, lv1, hsw⟩ := hR.swap hp hc
  refine ⟨⟨by omega, by omega⟩, _, _, _, by rw [Int.toNat_natCast, Nat.mul_one]; exact e1, ⟨by omega, by omega⟩, _, _, _, by rw [Int.toNat_natCast, Nat.mul_one]; exact e2, ⟨by omega, by omega⟩, by rw [Int.toNat_natCast, Nat.mul_one]; exact lv1, fun w181 s181 => ?_⟩
  rw [Int.toNat_natCast, Nat.mul_one] at s181
  obtain ⟨lv2, hsw2⟩ := hsw w181 s181
  refine ⟨⟨by omega, by omega⟩, by rw [Int.toNat_natCast, Nat.mul_one]; exact lv2, fun w183 s183 => ?_⟩
  rw [Int.toNat_natCast, Nat.mul_one] at s183
  obtain ⟨hR', hu'⟩ := hsw2 w183 s183
  have hK' : InvR w n (some (at0 k6)) (some (at0 g)) (rowL (gswap p0 c W) (2 * n)) w183 := (hK.table rowg hu' hR').congr fun t _ => by
    unfold rowL gswap
    by_cases e : t = c
    · simp only [if_pos e]
    · simp only [if_neg e]
      by_cases e2 : t = p0
      · simp only [if_pos e2]
      · simp only [if_neg e2]
  have hpiv : gswap p0 c W c c ≠ 0 := by unfold gswap; rw [if_pos rfl]; exact hne
  refine ⟨⟨by omega, by omega, _, hK', hG.swap hp hc, hD.swap hp hc hcp, hpiv, fun t ht => by omega⟩, ?_⟩
  clear hK' hR' hu' hsw2 hsw hK hG hD hne hR rowg hpiv
  rintro rI w191 ⟨hr0, hr1, W2, hK, hG, hD, hpiv, hz⟩
  obtain ⟨t, rfl⟩ := Int.eq_ofNat_of_zero_le hr0
  simp only [Int.toNat_natCast] at hD hpiv hz
  intros
  refine condB_of (fun hs => ?_) (fun hs => ?_)
  · simp only [decide_eq_true_eq] at hs
    have hmeas : ((n : Int) - ((t : Int) + 1)).toNat < ((n : Int) - t).toNat := by omega
    rw [w64 (n := (t : Int) + 1) (by omega)]
    refine condB_of (fun hne => ?_) (fun heq => ?_)
    · simp only [Bool.not_eq_true', decide_eq_false_iff_not] at hne
      have htc : t ≠ c := fun e => hne (by rw [e])
      intro w213 hd
      have hK2 := hK.mono hd.ext
      obtain ⟨P, h3, _⟩ := hK2.get.2.own
      obtain ⟨a1, o1⟩ := h3 t (by omega)
      obtain ⟨a2, o2⟩ := h3 c hc
      have lo1 := OwnB.len o1
      have lo2 := OwnB.len o2
      rw [rowL_len] at lo1 lo2
      refine ⟨⟨hr0, hs⟩, _, _, _, by rw [Int.toNat_natCast, Nat.mul_one]; exact a1, ⟨by omega, by omega⟩, _, _, _, by rw [Int.toNat_natCast, Nat.mul_one]; exact a2, (cleared_spec (OwnB.bytes o1) (OwnB.bytes o2) (by omega) (by omega) (by omega) (by rw [rowL_co (by omega)]; exact hpiv)).mono ?_⟩
      rintro e w218 ⟨p220, c220, rfl, x218, o220⟩
      rw [clear_row (by omega)] at o220
      have hK3 := hK2.mono x218
      have hR3 := hK3.get.2
      obtain ⟨csg3, rowg3⟩ := hR3.rowk (by omega)
      refine ⟨_, _, _, rfl, ⟨hr0, hs⟩, by rw [Int.toNat_natCast, Nat.mul_one]; exact hR3.live2 (by omega), fun w222 s222 => ?_⟩
      rw [Int.toNat_natCast, Nat.mul_one] at s222
      obtain ⟨hR4, u4⟩ := (hK2.get.2).put x218 (by omega) o220 hK2.ext.size s222
      refine ⟨⟨by omega, by omega, gadd t c (gm (W2 t c) (gi (W2 c c))) W2, (hK3.table rowg3 u4 hR4).congr fun u _ => ?_, hG.add _ htc (by omega) hc, hD.add _ (by omega) hc, ?_, fun u hu1 hu2 => ?_⟩, hmeas⟩
      · by_cases e : u = t
        · rw [if_pos e, e]
        · rw [if_neg e]
          unfold rowL gadd
          simp only [if_neg e]
      · simp only [Int.toNat_natCast]
        unfold gadd
        rw [if_neg (fun e => htc e.symm)]; exact hpiv
      · simp only [Int.toNat_natCast] at hu2 ⊢
        unfold gadd
        by_cases e : u = t
        · rw [if_pos e, gm_left_comm, gm_gi hpiv, gm_one, xx]
        · rw [if_neg e]; exact hz u (by omega) hu2
    · simp only [Bool.not_eq_false', decide_eq_true_eq] at heq
      refine ⟨⟨by omega, by omega, W2, hK, hG, hD, hpiv, fun u hu1 hu2 => hz u (by simp only [Int.toNat_natCast] at hu2; omega) hu2⟩, hmeas⟩
  · simp only [decide_eq_false_iff_not] at hs
    rw [w64 (n := (c : Int) + 1) (by omega)]
    refine ⟨⟨by omega, by omega, W2, hK, hG, ?_⟩, by show ((n : Int) - ((c : Int) + 1)).toNat < ((n : Int) - c).toNat; omega⟩
    rw [show ((c : Int) + 1).toNat = c + 1 by omega]
    exact hD.next hpiv fun r hr hrc => hz r (by omega) hrc
end Go.Proofs.Ytpmkjpgoekjcfaa

/- The document's inverse. -/
namespace Go.Proofs.Ytpmkjpgoekjcfaa
open Go Go.Vc Go.Gf

theorem unit_row {n t : Nat} (A : Nat → Nat → UInt8) (ht : t < n) : rowL A n t ++ (List.replicate n (0 : UInt8)).set t 1 = rowL (gstart n A) (2 * n) t := by
  refine co_ext (by simp [rowL_len]; omega) fun x hx => ?_
  have hx' : x < 2 * n := by simp [rowL_len] at hx; omega
  rw [rowL_co hx']
  unfold gstart
  simp only [Gf.co, List.getD_eq_getElem?_getD]
  by_cases e : x < n
  · rw [if_pos e, List.getElem?_append_left (by rw [rowL_len]; exact e)]
    simp [rowL, e]
  · rw [if_neg e, List.getElem?_append_right (by rw [rowL_len]; omega), rowL_len, List.getElem?_set]
    by_cases e2 : x = n + t
    · rw [if_pos e2, if_pos (by omega), if_pos (by simp; omega)]; rfl
    · rw [if_neg e2, if_neg (by omega), List.getElem?_replicate, if_pos (by omega)]; rfl

set_option maxRecDepth 20000 in
set_option maxHeartbeats 4000000 in
theorem rinvert_spec {w : World} {n cp : Nat} {a : Addr} {A : Nat → Nat → UInt8} (hn : n ≤ 256) (hn0 : 0 < n) (hA : MatR w a n n A) (hcp : n * n ≤ cp)
    (hinj : ∀ x : Nat → UInt8, (∀ r, r < n → xs n (fun j => gm (A r j) (x j)) = 0) → ∀ j, j < n → x j = 0) :
    Calls Try.prog 85 #[.agg #[.int .i64 (n : Int), .int .i64 (n : Int), .slice (some a) (n * n) cp]] w fun e w' => ∃ v, e = .returned v ∧ rinvP w n A v w' := by
  refine F85_calls n n (some a) (n * n) cp w (rinvP w n A) (RI0 w n A) (RM0 n) (RI1 w n A) (RM0 n) (RI2 w n A) (RM2 n) (RI3 w n A) (RM2 n) (RI4 w n A) (RM4 n) (RI5 w n A) (RM5 n) ?_
  have hnn : n * n ≤ 256 * 256 := Nat.mul_le_mul hn hn
  intro k4 w5 h4 k6 w7 h6
  have r4 : RowK w7 k4 82 (matC n n (some a) (n * n) cp) := h6.ext.keep h4.at
  have r6 : RowK w7 k6 82 (matC 0 0 none 0 0) := h6.at
  have x7 := h4.ext.trans h6.ext
  have n6 : w.heap.size ≤ k6 := by rw [h6.size.1]; exact h4.ext.size
  refine ⟨_, r4.cell0 rfl, _, r4.cell3 rfl, _, _, _, r4.cell3 rfl, (rmcheck_spec hn hn).mono ?_⟩
  rintro e w11 ⟨rfl, x11⟩
  have r4a : RowK w11 k4 82 (matC n n (some a) (n * n) cp) := x11.keep r4
  have xw11 := x7.trans x11
  refine ⟨_, rfl, condB_of (fun h => by simp at h) fun _ => ⟨_, r4a.cell3 rfl, _, r4a.cell3 rfl, condB_of (fun h => by simp at h) fun _ => ⟨_, r4a.cell3 rfl, _, r4a.cell0 rfl, _, r4a.cell3 rfl, _, _, _, r4a.cell3 rfl, (wide_spec (hA.ext xw11) hn hn hn0 hcp).mono ?_⟩⟩⟩
  rintro e w32 ⟨p34, c34, rfl, x32, hS⟩
  obtain ⟨g, rfl, hg, hR⟩ := hS.first hn0
  have hK0 : InvR w n (some (at0 k6)) (some (at0 g)) (rowL A n) w32 := ⟨xw11.trans x32, fun k hk => by
    simp only [Option.some.injEq, at0, Addr.mk.injEq, and_true] at hk
    omega, RowQ.of (x32.keep (x11.keep r6)), g, rfl, Nat.le_trans xw11.size hg, hR.base_le xw11.size⟩
  refine ⟨_, _, _, rfl, ⟨by omega, by omega, hK0.congr fun i _ => by rw [if_neg (by omega)]⟩, ?_⟩
  clear hK0 hR hS hg
  rintro iI w41 ⟨hi0, hi1, hK⟩
  obtain ⟨t, rfl⟩ := Int.eq_ofNat_of_zero_le hi0
  intros
  refine condB_of (fun hs => ?_) (fun hs => ?_)
  · simp only [decide_eq_true_eq] at hs
    refine ⟨⟨by omega, by omega, by omega⟩, fun k62 w63 h62 => ?_⟩
    rw [Int.toNat_natCast] at h62 ⊢
    have o63 : OwnB w63 w41.heap.size (some (at0 k62)) n n (List.replicate n 0) := OwnB.made h62 (by rw [h62.size.1]; exact Nat.le_refl _) (by unfold maxLen; omega)
    obtain ⟨kk, hkk, hbk, lv, _, hset⟩ := OwnB.at o63 (i := t) (by omega)
    simp only [Option.some.injEq, at0, Addr.mk.injEq, and_true] at hkk
    subst hkk
    refine ⟨⟨hi0, hs⟩, by rw [Int.toNat_natCast, Nat.mul_one]; exact lv, fun w64' s64 => ?_⟩
    rw [Int.toNat_natCast, Nat.mul_one] at s64
    obtain ⟨o64, u64⟩ := hset 1 _ s64
    have x64 : Ext w41 w64' := ext_upd h62.ext hbk u64
    have hK2 := hK.mono x64
    obtain ⟨hg2, hR2⟩ := hK2.get
    obtain ⟨p66, l66, c66, e66, p68, l68, c68, w67, hrun, lv2, hset2⟩ := hR2.append (d := n) (by omega : t < n) (OwnB.bytes o64) hn0 hK2.ext.size hg2 (by rw [if_neg (by omega), rowL_len]; omega)
    refine ⟨⟨hi0, hs⟩, _, _, _, by rw [Int.toNat_natCast, Nat.mul_one]; exact e66, _, _, _, w67, hrun, ⟨hi0, hs⟩, by rw [Int.toNat_natCast, Nat.mul_one]; exact lv2, fun w70 s70 => ?_⟩
    rw [Int.toNat_natCast, Nat.mul_one] at s70
    obtain ⟨hR3, hx3, hk3⟩ := hset2 w70 s70
    rw [w64 (n := (t : Int) + 1) (by omega)]
    refine ⟨⟨by omega, by omega, (hK2.write (hx3 w hK2.ext (Nat.le_refl _)) hk3 hR3).congr fun u _ => ?_⟩, by show ((n : Int) - ((t : Int) + 1)).toNat < ((n : Int) - t).toNat; omega⟩
    by_cases e : u = t
    · rw [if_pos (show (u : Int) < t + 1 by omega), if_pos e, if_neg (by omega), e, unit_row A (by omega)]
    · rw [if_neg e]
      by_cases e2 : (u : Int) < t
      · rw [if_pos e2, if_pos (show (u : Int) < t + 1 by omega)]
      · rw [if_neg e2, if_neg (show ¬ (u : Int) < t + 1 by omega)]
  simp only [decide_eq_false_iff_not] at hs
  refine ⟨⟨by omega, by omega, gstart n A, hK.congr fun u _ => by rw [if_pos (by omega)], GInv.start n A, GDiag.zero _ _⟩, ?_⟩
  clear hK hs hi0 hi1
  rintro cI w77 ⟨hc0, hc1, W, hK, hG, hD⟩
  obtain ⟨c, rfl⟩ := Int.eq_ofNat_of_zero_le hc0
  simp only [Int.toNat_natCast] at hD
  intros
  refine condB_of (fun hs => ?_) (fun hs => ?_)
  · simp only [decide_eq_true_eq] at hs
    refine ⟨⟨by omega, hs, by omega, by omega, W, hK, hG, hD, fun t h1 h2 => by omega⟩, ?_⟩
    clear hK hG hD
    rintro pI w150 ⟨_, _, hp0, hp1, W, hK, hG, hD, hz⟩
    obtain ⟨p, rfl⟩ := Int.eq_ofNat_of_zero_le (show 0 ≤ pI by omega)
    simp only [Int.toNat_natCast] at hD hz
    intros
    refine condB_of (fun hs2 => ?_) (fun hs2 => ?_)
    · simp only [decide_eq_true_eq] at hs2
      obtain ⟨P, h3, _⟩ := hK.get.2.own
      obtain ⟨a1, o1⟩ := h3 p (by omega)
      have lo1 := OwnB.len o1
      rw [rowL_len] at lo1
      obtain ⟨b, hb, hbc⟩ := BytesAt.co (OwnB.bytes o1) (i := c) (by omega)
      rw [rowL_co (by omega)] at hbc
      rw [hb] at a1
      refine ⟨⟨by omega, by omega⟩, some b, _, _, by rw [Int.toNat_natCast, Nat.mul_one]; exact a1, ⟨by omega, by omega⟩, _, by rw [Int.toNat_natCast, Nat.mul_one]; exact hbc, condB_of (fun hz0 => ?_) (fun hz0 => ?_)⟩
      · simp only [decide_eq_true_eq] at hz0
        rw [vb_zero] at hz0
        rw [w64 (n := (p : Int) + 1) (by omega)]
        refine ⟨⟨by omega, hs, by omega, by omega, W, hK, hG, hD, fun t h1 h2 => ?_⟩, by show ((n : Int) - ((p : Int) + 1)).toNat < ((n : Int) - p).toNat; omega⟩
        simp only [Int.toNat_natCast]
        by_cases e : t = p
        · rw [e]; exact hz0
        · exact hz t h1 (by omega)
      · simp only [decide_eq_false_iff_not] at hz0
        rw [vb_zero] at hz0
        exact rinv_tail hn (by omega) (by omega) (by omega) hK hG hD hz0
    · simp only [decide_eq_false_iff_not] at hs2
      exact (hG.pivotD hD (by omega) hinj fun t h1 h2 => hz t (by omega) (by omega)).elim
  · simp only [decide_eq_false_iff_not] at hs
    obtain rfl : c = n := by omega
    refine new_mat fun k276 w280 r276 n276 x280 => ?_
    have hK2 := hK.mono x280
    have hne : (some (at0 k6) : Option Addr) ≠ some (at0 k276) := fun e => by
      simp only [Option.some.injEq, at0, Addr.mk.injEq, and_true] at e
      have := lt_of_heap hK.r6.get
      omega
    have hge : ∀ k, (some (at0 k276) : Option Addr) = some (at0 k) → w.heap.size ≤ k := fun k e => by
      simp only [Option.some.injEq, at0, Addr.mk.injEq, and_true] at e
      have := hK.ext.size
      omega
    refine ⟨⟨by omega, by omega, w280, W, hK2, hG, hD, hne, hge, RowQ.of r276, Upd.refl _ _, none, 0, 0, RowQ.of r276, by rw [show (0 : Int).toNat * c = 0 by simp]; exact OwnS.nil _ _ _ _⟩, ?_⟩
    clear hK2 r276 x280 hK hG hD
    rintro iI w288 ⟨hi0, hi1, w0, W, hK, hG, hD, _, _, hq0, hu, p, l, cc, hq, ho⟩
    obtain ⟨i, rfl⟩ := Int.eq_ofNat_of_zero_le hi0
    intros
    refine condB_of (fun hs2 => ?_) (fun hs2 => ?_)
    · simp only [decide_eq_true_eq] at hs2
      refine ⟨⟨by omega, by omega, hi0, hs2, w0, W, hK, hG, hD, hne, hge, hq0, hu, p, l, cc, hq, by rw [show (0 : Int).toNat = 0 from rfl, Nat.add_zero]; exact ho⟩, ?_⟩
      clear hK hG hD hq0 hu hq ho
      rintro jI w336 ⟨hj0, hj1, _, _, w0, W, hK, hG, hD, _, _, hq0, hu, p, l, cc, hq, ho⟩
      obtain ⟨j, rfl⟩ := Int.eq_ofNat_of_zero_le hj0
      simp only [Int.toNat_natCast] at ho
      intros
      refine condB_of (fun hs3 => ?_) (fun hs3 => ?_)
      · simp only [decide_eq_true_eq] at hs3
        intro w370 hd
        have hRw := (RowsAt.otherT hK.get.2 hu fun x hx => by
          simp only [Option.some.injEq, at0, Addr.mk.injEq, and_true] at hx
          subst hx
          exact ⟨_, _, (0, 0), hq0.get, ty_mat.1, ty_mat.2.2.2.2⟩).ext hd.ext
        obtain ⟨P, h3, _⟩ := hRw.own
        obtain ⟨a1, o1⟩ := h3 i (by omega)
        have lo1 := OwnB.len o1
        rw [rowL_len] at lo1
        obtain ⟨b, hb, hb1⟩ := BytesAt.co (OwnB.bytes o1) (i := c + j) (by omega)
        obtain ⟨b', hb', hb2⟩ := BytesAt.co (OwnB.bytes o1) (i := i) (by omega)
        rw [hb] at hb'
        cases hb'
        rw [rowL_co (by omega)] at hb1 hb2
        rw [hb] at a1
        have ew : IntKind.i64.wrap ((c : Int) + (j : Int)) = ((c + j : Nat) : Int) := w64 (by omega)
        have ac : w370.cell? ((at0 g).add ((i : Int).toNat * 1)) = some (.slice (some b) (P i).2.1 (P i).2.2) := by rw [Int.toNat_natCast, Nat.mul_one]; exact a1
        rw [ew]
        refine ⟨⟨hi0, hs2⟩, some b, _, _, ac, ⟨by omega, by omega⟩, _, by rw [Int.toNat_natCast, Nat.mul_one]; exact hb1, ⟨hi0, hs2⟩, some b, _, _, ac, ⟨by omega, by omega⟩, _, by rw [Int.toNat_natCast, Nat.mul_one]; exact hb2, (rdiv_spec (w := w370) (W i (c + j)) (W i i) (hD.dia i (by omega))).mono ?_⟩
        rintro e w379 ⟨rfl, rfl⟩
        have hq1 := (hq.ext hd.ext).get
        have ho1 := OwnB.ext ho hd.ext
        have hl1 := OwnB.len ho1
        rw [genA_len] at hl1
        have hbig : i * c ≤ 256 * 256 := Nat.mul_le_mul (by omega) hn
        refine ⟨_, _, rfl, _, _, _, hq1.cell3 rfl, fun k384 w385 h385 => ?_⟩
        have hu1 : Upd (fun x => (some (at0 k276) : Option Addr) = some (at0 x)) w0 w379 := hu.trans hd.ext.upd fun _ _ h => h
        obtain ⟨p', c', w386, hrun, o386, u386⟩ := OwnB.push ho1 h385 hu1.size (by omega)
        have hq2 : RowK w386 k276 82 (matC c c p l cc) := RowK.keep hq1 u386 fun y hy => by
          obtain ⟨cs, e', fz, h7, h8⟩ := OwnS.typed ho1 hy
          exact ⟨cs, e', fz, h7, by rw [h8]; exact ty_mat.1.symm⟩
        refine ⟨p', _, c', w386, hrun, hq2.live3 (by simp), fun w388 s388 => ?_⟩
        obtain ⟨q388, u388⟩ := hq2.set3 s388
        rw [w64 (n := (j : Int) + 1) (by omega)]
        refine ⟨⟨by omega, by omega, hi0, hs2, w0, W, hK, hG, hD, hne, hge, hq0, ?_, p', _, c', RowQ.of q388, ?_⟩, by show ((c : Int) - ((j : Int) + 1)).toNat < ((c : Int) - j).toNat; omega⟩
        · exact Upd.trans (Upd.trans hu1 u386 fun x hx hs => by have := OwnB.blk ho1 hs; omega) u388 fun x _ hs => by rw [show x = k276 from hs]
        · rw [Int.toNat_natCast, show ((j : Int) + 1).toNat = j + 1 by omega, ← Nat.add_assoc, ← genA_succ (gover c W) (by omega)]
          exact OwnB.apart o386 u388 hq2 ty_mat.1
      · simp only [decide_eq_false_iff_not] at hs3
        obtain rfl : j = c := by omega
        rw [w64 (n := (i : Int) + 1) (by omega)]
        refine ⟨⟨by omega, by omega, w0, W, hK, hG, hD, hne, hge, hq0, hu, p, l, cc, hq, ?_⟩, by show ((j : Int) - ((i : Int) + 1)).toNat < ((j : Int) - i).toNat; omega⟩
        rw [show ((i : Int) + 1).toNat = i + 1 by omega, Nat.add_mul, Nat.one_mul]
        exact ho
    · simp only [decide_eq_false_iff_not] at hs2
      obtain rfl : i = c := by omega
      have h6 : RowK w288 k6 82 (matC 0 0 none 0 0) := hu.keep hK.r6.get fun e => hne (by rw [show k276 = k6 by simpa [at0] using e])
      have xw : Ext w w288 := OwnB.new_ext hK.ext hu fun x hx => hge x hx
      refine ret3 (R := rinvP w i A) hq.get h6 rfl fun w' hu' => ⟨p, l, cc, gover i W, rfl, ext_upd xw n6 hu', ?_, hG.doneD hD⟩
      exact OwnB.base_le (OwnB.apart ho hu' h6 ty_mat.1) hK.ext.size
end Go.Proofs.Ytpmkjpgoekjcfaa

/- The document's decoder: small parts. -/
namespace Go.Proofs.Ytpmkjpgoekjcfaa
open Go Go.Vc Go.Gf

theorem rcount_spec {p : Option Addr} {l c : Nat} {w : World} {ms : List Bool} (h : FlagsAt w p l ms) (hl : l ≤ 1073741824) :
    Calls Try.prog 40 #[.slice p l c] w fun e w' => e = .returned (.int .i64 ((mis l ms).length : Int)) ∧ w' = w := by
  refine (F40_calls p l c w (fun v w' => v = .int .i64 ((mis l ms).length : Int) ∧ w' = w)
    (fun _ n i w1 => 0 ≤ i ∧ i ≤ l ∧ w1 = w ∧ n = ((mis i.toNat ms).length : Int)) (fun _ _ i _ => (l - i).toNat) ?_).mono (by rintro e w' ⟨v, rfl, rfl, h⟩; exact ⟨rfl, h⟩)
  refine ⟨⟨by omega, by omega, rfl, rfl⟩, ?_⟩
  rintro n i w1 ⟨hi0, hi1, rfl, rfl⟩
  intros
  have hle := mis_le i.toNat ms
  refine condB_of (fun hs => ?_) (fun hs => ?_)
  · simp only [decide_eq_true_eq] at hs
    obtain ⟨a, rfl, ha⟩ := h.get (i := i.toNat) (by omega)
    rw [w64 (n := i + 1) (by omega), w64 (n := ((mis i.toNat ms).length : Int) + 1) (by omega)]
    have hnx : (i + 1).toNat = i.toNat + 1 := by omega
    have hmeas : ((l : Int) - (i + 1)).toNat < ((l : Int) - i).toNat := by omega
    refine ⟨⟨hi0, hs⟩, _, by rw [Nat.mul_one]; exact ha, condB_of (fun hb => ?_) (fun hb => ?_)⟩
    · refine ⟨⟨by omega, by omega, rfl, ?_⟩, hmeas⟩
      rw [hnx, mis_succ, if_pos hb]; simp
    · refine ⟨⟨by omega, by omega, rfl, ?_⟩, hmeas⟩
      rw [hnx, mis_succ, show ms.getD i.toNat false = false from hb]; simp
  · simp only [decide_eq_false_iff_not] at hs
    refine ⟨?_, rfl⟩
    rw [show i.toNat = l by omega]
end Go.Proofs.Ytpmkjpgoekjcfaa
