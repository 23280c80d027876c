/- A matrix is inverted (2). -/
import Derived.Test.YtpmkjpgoekjcfaaH32
namespace Go.Proofs.Ytpmkjpgoekjcfaa
open Go Go.Vc Go.Gf

set_option maxRecDepth 20000 in
set_option maxHeartbeats 8000000 in
theorem invert_spec {f : Option Addr} {w : World} {n cp : Nat} {a : Addr} {A : Nat → Nat → UInt8} (hf : FieldAt w f) (hn : n ≤ 256) (hn0 : 0 < n) (hA : MatR w a n n A) (hcp : n * n ≤ cp)
    (hinj : ∀ x : Nat → UInt8, (∀ r, r < n → xs n (fun j => gm (A r j) (x j)) = 0) → ∀ j, j < n → x j = 0) :
    Calls Try.prog 54 #[.pointer f, .agg #[.int .i64 (n : Int), .int .i64 (n : Int), .slice (some a) (n * n) cp]] w fun e w' => ∃ v, e = .returned v ∧ invP w n A v w' := by
  refine F54_calls f n n (some a) (n * n) cp w (invP w n A) (GI0 w n a cp A) (GM0 n) (GI1 w n A) (GM1 n) (GI2 w n A) (GM2 n) (GI3 w n A) (GM3 n) (GI4 w n A) (GM4 n) (GI5 w n A) (GM5 n) ?_
  have hnn : n * n ≤ 256 * 256 := Nat.mul_le_mul hn hn
  have hn2 : n * (2 * n) ≤ 256 * 512 := Nat.mul_le_mul hn (by omega)
  intro k5 w6 h5 k7 w8 h7
  have r5 : RowK w8 k5 82 (matC n n (some a) (n * n) cp) := h7.ext.keep h5.at
  have r7 : RowK w8 k7 82 (matC 0 0 none 0 0) := h7.at
  have x8 := h5.ext.trans h7.ext
  have n7 : w.heap.size ≤ k7 := by rw [h7.size.1]; exact h5.ext.size
  rw [hf.there]
  refine condB_of (fun h => by cases h) fun _ => ⟨_, r5.cell0 rfl, _, r5.cell3 rfl, _, _, _, r5.cell3 rfl, (mcheck_spec hn hn).mono ?_⟩
  rintro e w18 ⟨rfl, x18⟩
  have r5a : RowK w18 k5 82 (matC n n (some a) (n * n) cp) := x18.keep r5
  refine ⟨_, rfl, condB_of (fun h => by simp at h) fun _ => ⟨_, r5a.cell3 rfl, _, r5a.cell3 rfl, condB_of (fun h => by simp at h) fun _ => ⟨_, r5a.cell3 rfl, ?_⟩⟩⟩
  rw [show IntKind.i64.wrap ((2 : Int) * (n : Int)) = ((2 * n : Nat) : Int) from wmul (a := 2) (by omega)]
  refine (empty_spec (R := n) (C := 2 * n) (by omega)).mono ?_
  rintro e w36 ⟨kw, rfl, mm, x36⟩
  refine ⟨_, _, _, _, _, rfl, new_mat fun k41 w45 r41 _ x45 => ?_⟩
  have x1845 := x36.trans x45
  have xw45 := x8.trans (x18.trans x1845)
  have hKs : InvK w n (some (at0 k7)) (some (at0 k41)) kw (fun _ _ => 0) w45 := ⟨xw45, fun k hk => by
    simp only [Option.some.injEq, at0, Addr.mk.injEq, and_true] at hk
    omega, RowQ.of (x1845.keep (x18.keep r7)), RowQ.of r41, (mm.ext x45).base_le (x8.trans x18).size⟩
  refine ⟨⟨by omega, by omega, RowQ.of (x1845.keep r5a), kw, hKs.congr fun r t _ _ => by rw [if_neg (by omega)]⟩, ?_⟩
  clear hKs mm r41 xw45 x1845 x45 x36
  rintro i w52 ⟨hi0, hi1, hq5, kw, hK⟩
  intros
  refine condB_of (fun hs => ?_) (fun hs => ?_)
  · simp only [decide_eq_true_eq] at hs
    obtain ⟨t, rfl⟩ := Int.eq_ofNat_of_zero_le hi0
    intro w71 hd
    have hK1 := hK.mono hd.ext
    have s41 := hK1.r41.get
    have s5 := (hq5.ext hd.ext).get
    obtain ⟨b1, b2⟩ := row2_le (r := t) (n := n) (by omega) hn
    have b3 : (t + 1) * n ≤ n * n := Nat.mul_le_mul_right n (by omega)
    refine ⟨_, s41.cell0 rfl, _, s41.cell3 rfl, _, _, _, s41.cell3 rfl, _, s5.cell0 rfl, _, s5.cell3 rfl, _, _, _, s5.cell3 rfl, (row_spec (by omega) b1 b2 (by omega)).mono ?_⟩
    rintro e w78 ⟨rfl, x78⟩
    have s5b := ((hq5.ext hd.ext).ext x78).get
    refine ⟨_, _, _, rfl, ⟨_, s5b.cell0 rfl, _, s5b.cell3 rfl, _, _, _, s5b.cell3 rfl, rfl⟩, (row_spec (by omega) (by omega) (by omega) (by omega)).mono ?_⟩
    rintro e w84 ⟨rfl, x84⟩
    have hK2 := (hK1.mono x78).mono x84
    have hq5' := ((hq5.ext hd.ext).ext x78).ext x84
    obtain ⟨m, w87, hrun, hm87, hu87⟩ := hK2.mat.copy (r := t) (dcap := n * (2 * n) - t * (2 * n)) (c := cp - t * n) (by omega) ((hA.ext hK2.ext) t (by omega)) (by omega)
    obtain ⟨csw, hroww⟩ := hK2.mat.typ
    have hK3 := hK2.write hm87 hu87
    have hq5'' := hq5'.keep hu87 hroww ty_mat.1
    have s41b := hK3.r41.get
    refine ⟨_, _, _, rfl, m, w87, hrun, _, s41b.cell0 rfl, _, s41b.cell3 rfl, _, _, _, s41b.cell3 rfl, (row_spec (by omega) b1 b2 (by omega)).mono ?_⟩
    rintro e w92 ⟨rfl, x92⟩
    have hK4 := hK3.mono x92
    have ew : IntKind.i64.wrap ((n : Int) + (t : Int)) = ((n + t : Nat) : Int) := w64 (by omega)
    rw [ew, w64 (n := (t : Int) + 1) (by omega)]
    obtain ⟨l4, _, s4⟩ := hK4.mat.at (r := t) (c := n + t) (by omega) (by omega)
    refine ⟨_, _, _, rfl, ⟨by omega, by omega⟩, by rw [Int.toNat_natCast, Nat.mul_one]; exact l4, fun w96 s96 => ?_⟩
    rw [Int.toNat_natCast, Nat.mul_one] at s96
    obtain ⟨hm96, hu96⟩ := s4 1 _ s96
    obtain ⟨csw4, hroww4⟩ := hK4.mat.typ
    refine ⟨⟨by omega, by omega, (hq5''.ext x92).keep hu96 hroww4 ty_mat.1, kw, (hK4.write hm96 hu96).congr fun r c _ hc => ?_⟩, by show ((n : Int) - ((t : Int) + 1)).toNat < ((n : Int) - t).toNat; omega⟩
    by_cases e : r = t
    · subst e
      rw [if_pos (show (r : Int) < r + 1 by omega)]
      unfold gstart
      by_cases e1 : c < n
      · rw [if_pos e1, if_neg (show ¬ (r = r ∧ c = n + r) by omega), if_pos ⟨rfl, e1⟩, range_co _ e1]
      · rw [if_neg e1]
        by_cases e2 : c = n + r
        · rw [if_pos e2, if_pos ⟨rfl, e2⟩]
        · rw [if_neg e2, if_neg fun h => e2 h.2, if_neg fun h => e1 h.2, if_neg (by omega)]
    · rw [if_neg (show ¬ (r = t ∧ c = n + t) from fun h => e h.1), if_neg (show ¬ (r = t ∧ c < n) from fun h => e h.1)]
      by_cases e2 : (r : Int) < t
      · rw [if_pos e2, if_pos (show (r : Int) < t + 1 by omega)]
      · rw [if_neg e2, if_neg (show ¬ (r : Int) < t + 1 by omega)]
  simp only [decide_eq_false_iff_not] at hs
  refine ⟨⟨by omega, by omega, kw, gstart n A, hK.congr fun r c _ _ => by rw [if_pos (by omega)], GInv.start n A, GDone.zero _ _⟩, ?_⟩
  clear hK hs hq5
  rintro cI w102 ⟨hc0, hc1, kw, W, hK, hG, hD⟩
  obtain ⟨c, rfl⟩ := Int.eq_ofNat_of_zero_le hc0
  simp only [Int.ofNat_eq_natCast, Int.toNat_natCast] at hD
  intros
  refine condB_of (fun hs => ?_) (fun hs => ?_)
  · simp only [decide_eq_true_eq] at hs
    have hcn : c < n := by omega
    refine ⟨⟨by omega, hs, by omega, by omega, kw, W, hK, hG, hD, fun t h1 h2 => by omega⟩, ?_⟩
    clear hK hG hD
    rintro pI w192 ⟨_, _, hp0, hp1, kw, W, hK, hG, hD, hz⟩
    obtain ⟨p, rfl⟩ := Int.eq_ofNat_of_zero_le (show 0 ≤ pI by omega)
    simp only [Int.toNat_natCast] at hD hz
    intros
    refine condB_of (fun hs2 => ?_) (fun hs2 => ?_)
    · simp only [decide_eq_true_eq] at hs2
      have s41 := hK.r41.get
      obtain ⟨b1, b2⟩ := row2_le (r := p) (n := n) (by omega) hn
      obtain ⟨d1, d2⟩ := row2_le (r := c) (n := n) (by omega) hn
      refine ⟨_, s41.cell0 rfl, _, s41.cell3 rfl, _, _, _, s41.cell3 rfl, (row_spec (by omega) b1 b2 (by omega)).mono ?_⟩
      rintro e w270 ⟨rfl, x270⟩
      have hK1 := hK.mono x270
      have c1 := (hK1.mat.at (r := p) (c := c) (by omega) (by omega)).2.1
      refine ⟨_, _, _, rfl, ⟨by omega, by omega⟩, _, by rw [Int.toNat_natCast, Nat.mul_one]; exact c1, condB_of (fun hz0 => ?_) (fun hz0 => ?_)⟩
      · simp only [decide_eq_true_eq] at hz0
        rw [vb_zero] at hz0
        rw [w64 (n := (p : Int) + 1) (by omega)]
        refine ⟨⟨by omega, hs, by omega, by omega, kw, W, hK1, hG, hD, fun t h1 h2 => ?_⟩, by show ((n : Int) - ((p : Int) + 1)).toNat < ((n : Int) - p).toNat; omega⟩
        simp only [Int.toNat_natCast]
        by_cases e : t = p
        · rw [e]; exact hz0
        · exact hz t h1 (by omega)
      · simp only [decide_eq_false_iff_not] at hz0
        rw [vb_zero] at hz0
        have s41b := hK1.r41.get
        refine ⟨_, s41b.cell0 rfl, _, s41b.cell3 rfl, _, _, _, s41b.cell3 rfl, (row_spec (by omega) d1 d2 (by omega)).mono ?_⟩
        rintro e w278 ⟨rfl, x278⟩
        have hK2 := hK1.mono x278
        refine ⟨_, _, _, rfl, condB_of (fun hne => ?_) (fun heq => ?_)⟩
        · simp only [Bool.not_eq_true', decide_eq_false_iff_not] at hne
          have hpc : p ≠ c := fun e => hne (by rw [e])
          have s41c := hK2.r41.get
          refine ⟨_, s41c.cell0 rfl, _, s41c.cell3 rfl, _, _, _, s41c.cell3 rfl, (row_spec (by omega) b1 b2 (by omega)).mono ?_⟩
          rintro e w284 ⟨rfl, x284⟩
          have hK3 := hK2.mono x284
          refine ⟨_, _, _, rfl, (adds_spec hf hK3.ext (Nat.le_refl _) hK3.mat (t := c) (s := p) hcn (by omega) (fun e => hpc e.symm) (by omega) 1).mono ?_⟩
          rintro e w287 ⟨rfl, hm, hu⟩
          refine ⟨rfl, inv_tail (a := a) hf hn hcn (hK3.write hm hu) (hG.add 1 (fun e => hpc e.symm) hcn (by omega)) (hD.add 1 hcn (by omega) (by omega)) ?_⟩
          unfold gadd
          rw [if_pos rfl, hz c (by omega) (by omega), gm_one, zx]
          exact hz0
        · simp only [Bool.not_eq_false', decide_eq_true_eq] at heq
          obtain rfl : p = c := by omega
          exact inv_tail (a := a) hf hn hcn hK2 hG hD hz0
    · simp only [decide_eq_false_iff_not] at hs2
      exact (hG.pivot hD hcn hinj fun t h1 h2 => hz t (by omega) (by omega)).elim
  · simp only [decide_eq_false_iff_not] at hs
    obtain rfl : c = n := by omega
    refine (empty_spec (R := c) (C := c) (by omega)).mono ?_
    rintro e w483 ⟨ko, rfl, mo, x483⟩
    refine ⟨_, _, _, _, _, rfl, new_mat fun k488 w492 r488 _ x492 => ?_⟩
    have hKo := hK.mono (x483.trans x492)
    have hne : ko ≠ kw := by have := mo.le; have := hK.mat.lt; omega
    refine ⟨⟨by omega, by omega, kw, W, ko, hKo, hG, hD, RowQ.of r488, hne, ((mo.ext x492).base_le hK.ext.size).congr fun r t _ _ => by rw [if_neg (by omega)]⟩, ?_⟩
    clear hKo hne mo r488 x492 x483 hK hG hD
    rintro iI w499 ⟨hi0, hi1, kw, W, ko, hK, hG, hD, q488, hne, mo⟩
    obtain ⟨i, rfl⟩ := Int.eq_ofNat_of_zero_le hi0
    intros
    refine condB_of (fun hs2 => ?_) (fun hs2 => ?_)
    · simp only [decide_eq_true_eq] at hs2
      intro w513 hd
      have hK1 := hK.mono hd.ext
      have q1 := q488.ext hd.ext
      have s41 := hK1.r41.get
      have s488 := q1.get
      obtain ⟨b1, b2⟩ := row2_le (r := i) (n := c) (by omega) hn
      have b3 : (i + 1) * c ≤ c * c := Nat.mul_le_mul_right c (by omega)
      refine ⟨_, s488.cell0 rfl, _, s488.cell3 rfl, _, _, _, s488.cell3 rfl, _, s41.cell0 rfl, _, s41.cell3 rfl, _, _, _, s41.cell3 rfl, (row_spec (by omega) (by omega) (by omega) (by omega)).mono ?_⟩
      rintro e w520 ⟨rfl, x520⟩
      have hK2 := hK1.mono x520
      have s41b := hK2.r41.get
      refine ⟨_, _, _, rfl, ⟨_, s41b.cell0 rfl, _, s41b.cell3 rfl, _, _, _, s41b.cell3 rfl, rfl⟩, (row_spec (by omega) b1 b2 (by omega)).mono ?_⟩
      rintro e w526 ⟨rfl, x526⟩
      have hK3 := hK2.mono x526
      have mo3 := ((mo.ext hd.ext).ext x520).ext x526
      have q3 := (q1.ext x520).ext x526
      have e0 : (i + 1) * (2 * c) = i * (2 * c) + 2 * c := by rw [Nat.add_mul, Nat.one_mul]
      have hcut : cutP (some ((at0 kw).add (i * (2 * c)))) (c * (2 * c) - i * (2 * c)) ((c : Int).toNat) 1 = some ((at0 kw).add (i * (2 * c) + c)) := by
        unfold cutP
        rw [Int.toNat_natCast, if_neg (by omega)]
        show some (((at0 kw).add (i * (2 * c))).add (c * 1)) = _
        rw [Nat.mul_one, add_add]
      have hsrc := hK3.mat.bytes (r := i) (s := c) (by omega) (by omega)
      obtain ⟨m, w529, hrun, hm, hu⟩ := mo3.copy (r := i) (dcap := c * c - i * c) (c := c * (2 * c) - i * (2 * c) - (c : Int).toNat) (by omega) hsrc (by omega)
      obtain ⟨cso, hrowo⟩ := mo3.typ
      rw [w64 (n := (i : Int) + 1) (by omega)]
      refine ⟨_, _, _, rfl, ⟨by omega, by omega⟩, m, w529, by rw [hcut]; exact hrun, ⟨by omega, by omega, kw, W, ko, ⟨ext_upd hK3.ext mo3.le hu, hK3.n7, hK3.r7.keep hu hrowo ty_mat.1, hK3.r41.keep hu hrowo ty_mat.1, hK3.mat.apart hu (fun e => hne e.symm)⟩, hG, hD, q3.keep hu hrowo ty_mat.1, hne, hm.congr fun r t _ ht => ?_⟩, by show ((c : Int) - ((i : Int) + 1)).toNat < ((c : Int) - i).toNat; omega⟩
      by_cases e : r = i
      · subst e
        rw [if_pos (show (r : Int) < r + 1 by omega), if_pos ⟨rfl, by omega⟩, range_co _ (by omega)]
      · rw [if_neg (show ¬ (r = i ∧ t < 2 * c - c) from fun h => e h.1)]
        by_cases e2 : (r : Int) < i
        · rw [if_pos e2, if_pos (show (r : Int) < i + 1 by omega)]
        · rw [if_neg e2, if_neg (show ¬ (r : Int) < i + 1 by omega)]
    · simp only [decide_eq_false_iff_not] at hs2
      have s488 := q488.get
      refine ret3 (R := invP w c A) s488 hK.r7.get rfl fun w' hu => ⟨ko, fun r t => W r (c + t), rfl, (mo.keep hu hK.r7.get ty_mat.1).congr fun r t hr _ => by rw [if_pos (by omega)], hG.done hD, ext_upd hK.ext n7 hu⟩
end Go.Proofs.Ytpmkjpgoekjcfaa
