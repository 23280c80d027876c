/- A matrix is inverted. -/
import Derived.Test.YtpmkjpgoekjcfaaH31
namespace Go.Proofs.Ytpmkjpgoekjcfaa
open Go Go.Vc Go.Gf

def RowQ (w : World) (q : Option Addr) (e : TypeId) (cs : Array Value) : Prop := ∃ k, q = some (at0 k) ∧ RowK w k e cs
theorem RowQ.get {w : World} {k : Nat} {e : TypeId} {cs : Array Value} (h : RowQ w (some (at0 k)) e cs) : RowK w k e cs := by
  obtain ⟨k', h1, h2⟩ := h
  simp only [Option.some.injEq, at0, Addr.mk.injEq, and_true] at h1
  subst h1
  exact h2
theorem RowQ.of {w : World} {k : Nat} {e : TypeId} {cs : Array Value} (h : RowK w k e cs) : RowQ w (some (at0 k)) e cs := ⟨k, rfl, h⟩
theorem RowQ.ext {w w' : World} {q : Option Addr} {e : TypeId} {cs : Array Value} (h : RowQ w q e cs) (hu : Ext w w') : RowQ w' q e cs := let ⟨k, h1, h2⟩ := h; ⟨k, h1, hu.keep h2⟩
theorem RowQ.keep {w w' : World} {q : Option Addr} {k' : Nat} {e : TypeId} {cs cs' : Array Value} (h : RowQ w q e cs) (hu : Upd (fun x => x = k') w w') (hk : RowK w k' 5 cs') (he : e ≠ 5) : RowQ w' q e cs := let ⟨k, h1, h2⟩ := h; ⟨k, h1, hu.keep h2 (RowK.ne h2 hk he)⟩
theorem at0_add_inj {k k' i : Nat} (h : (some ((at0 k).add i) : Option Addr) = some ((at0 k').add i)) : k = k' := by
  rw [add_at0, add_at0] at h
  simp only [Option.some.injEq, Addr.mk.injEq, and_true] at h
  exact h

/-- while a matrix is worked on -/
structure InvK (w : World) (n : Nat) (q7 q41 : Option Addr) (kw : Nat) (W : Nat → Nat → UInt8) (w1 : World) : Prop where
  ext : Ext w w1
  n7 : ∀ k, q7 = some (at0 k) → w.heap.size ≤ k
  r7 : RowQ w1 q7 82 (matC 0 0 none 0 0)
  r41 : RowQ w1 q41 82 (matC n ((2 * n : Nat) : Int) (some (at0 kw)) (n * (2 * n)) (n * (2 * n)))
  mat : MatM w1 w.heap.size kw n (2 * n) W
section
variable {w : World} {n kw : Nat} {q7 q41 : Option Addr} {W W' A : Nat → Nat → UInt8} {w1 w2 : World}
theorem InvK.mono (h : InvK w n q7 q41 kw W w1) (hu : Ext w1 w2) : InvK w n q7 q41 kw W w2 := ⟨h.ext.trans hu, h.n7, h.r7.ext hu, h.r41.ext hu, h.mat.ext hu⟩
theorem InvK.write (h : InvK w n q7 q41 kw W w1) (hm : MatM w2 w.heap.size kw n (2 * n) W') (hu : Upd (fun x => x = kw) w1 w2) : InvK w n q7 q41 kw W' w2 := by
  obtain ⟨cs, hr⟩ := h.mat.typ
  exact ⟨ext_upd h.ext hm.le hu, h.n7, h.r7.keep hu hr ty_mat.1, h.r41.keep hu hr ty_mat.1, hm⟩
theorem InvK.congr (h : InvK w n q7 q41 kw W w1) (e : ∀ r c, r < n → c < 2 * n → W' r c = W r c) : InvK w n q7 q41 kw W' w1 := ⟨h.ext, h.n7, h.r7, h.r41, h.mat.congr e⟩
end

def invP (w : World) (n : Nat) (A : Nat → Nat → UInt8) (v : Value) (w' : World) : Prop := ∃ k V, v = .tuple #[matV n n (some (at0 k)) (n * n) (n * n), .int .i64 0] ∧ MatM w' w.heap.size k n n V ∧
  (∀ r, r < n → ∀ c, c < n → xs n (fun j => gm (V r j) (A j c)) = if r = c then 1 else 0) ∧ Ext w w'
section
variable (w : World) (n : Nat) (a : Addr) (cp : Nat) (A : Nat → Nat → UInt8)
def GI0 : Option Addr → Option Addr → Int → Option Addr → Int → World → Int → World → Prop := fun q5 q7 _ q41 _ _ i w1 => 0 ≤ i ∧ i ≤ n ∧ RowQ w1 q5 82 (matC n n (some a) (n * n) cp) ∧
  ∃ kw, InvK w n q7 q41 kw (fun r c => if (r : Int) < i then gstart n A r c else 0) w1
def GI1 : Option Addr → Int → Option Addr → Int → World → Int → World → Prop := fun q7 _ q41 _ _ c w1 => 0 ≤ c ∧ c ≤ n ∧ ∃ kw W, InvK w n q7 q41 kw W w1 ∧ GInv n A W ∧ GDone n W c.toNat
def GI2 : Option Addr → Int → Option Addr → Int → Int → Int → World → Int → World → Prop := fun q7 _ q41 c _ _ _ p w1 => 0 ≤ c ∧ c < n ∧ c ≤ p ∧ p ≤ n ∧ ∃ kw W, InvK w n q7 q41 kw W w1 ∧ GInv n A W ∧ GDone n W c.toNat ∧ ∀ t : Nat, c ≤ (t : Int) → (t : Int) < p → W t c.toNat = 0
def GI3 : Option Addr → Int → Option Addr → Int → Option Addr → Nat → Nat → Int → Int → Int → Option Addr → Nat → Nat → Int → World → Int → World → Prop := fun q7 _ q41 c p _ _ x _ _ _ _ _ _ _ i w1 => 0 ≤ i ∧ i ≤ ((2 * n : Nat) : Int) ∧
  ∃ kw W, p = some ((at0 kw).add (c.toNat * (2 * n))) ∧ x = ((gi (W c.toNat c.toNat)).toNat : Int) ∧ W c.toNat c.toNat ≠ 0 ∧ GInv n A W ∧ GDone n W c.toNat ∧ InvK w n q7 q41 kw (fun r t => if r = c.toNat ∧ (t : Int) < i then gm (gi (W c.toNat c.toNat)) (W c.toNat t) else W r t) w1
def GI4 : Option Addr → Int → Option Addr → Int → Option Addr → Nat → Nat → Int → Int → Int → World → Int → World → Prop := fun q7 _ q41 c p _ _ _ _ _ _ r w1 => 0 ≤ r ∧ r ≤ n ∧
  ∃ kw W, p = some ((at0 kw).add (c.toNat * (2 * n))) ∧ InvK w n q7 q41 kw W w1 ∧ GInv n A W ∧ GDone n W c.toNat ∧ W c.toNat c.toNat = 1 ∧ ∀ t : Nat, (t : Int) < r → t ≠ c.toNat → W t c.toNat = 0
def GI5 : Option Addr → Int → Option Addr → Option Addr → Int → World → Int → World → Prop := fun q7 _ q41 q488 _ _ i w1 => 0 ≤ i ∧ i ≤ n ∧ ∃ kw W ko, InvK w n q7 q41 kw W w1 ∧ GInv n A W ∧ GDone n W n ∧ RowQ w1 q488 82 (matC n n (some (at0 ko)) (n * n) (n * n)) ∧ ko ≠ kw ∧
  MatM w1 w.heap.size ko n n (fun r t => if (r : Int) < i then W r (n + t) else 0)
def GM0 : Option Addr → Option Addr → Int → Option Addr → Int → World → Int → World → Nat := fun _ _ _ _ _ _ i _ => (n - i).toNat
def GM1 : Option Addr → Int → Option Addr → Int → World → Int → World → Nat := fun _ _ _ _ _ i _ => (n - i).toNat
def GM2 : Option Addr → Int → Option Addr → Int → Int → Int → World → Int → World → Nat := fun _ _ _ _ _ _ _ i _ => (n - i).toNat
def GM3 : Option Addr → Int → Option Addr → Int → Option Addr → Nat → Nat → Int → Int → Int → Option Addr → Nat → Nat → Int → World → Int → World → Nat := fun _ _ _ _ _ _ _ _ _ _ _ _ _ _ _ i _ => (((2 * n : Nat) : Int) - i).toNat
def GM4 : Option Addr → Int → Option Addr → Int → Option Addr → Nat → Nat → Int → Int → Int → World → Int → World → Nat := fun _ _ _ _ _ _ _ _ _ _ _ i _ => (n - i).toNat
def GM5 : Option Addr → Int → Option Addr → Option Addr → Int → World → Int → World → Nat := fun _ _ _ _ _ _ i _ => (n - i).toNat
end
theorem row2_le {n r : Nat} (hr : r < n) (hn : n ≤ 256) : (r + 1) * (2 * n) ≤ n * (2 * n) ∧ (r + 1) * (2 * n) ≤ 1048576 := by
  have h1 : (r + 1) * (2 * n) ≤ n * (2 * n) := Nat.mul_le_mul_right _ hr
  have h2 : n * (2 * n) ≤ 256 * 512 := Nat.mul_le_mul hn (by omega)
  exact ⟨h1, by omega⟩

set_option maxHeartbeats 4000000 in
/-- a column is done, where its pivot is there -/
theorem inv_tail {f : Option Addr} {w : World} {n cp kw k7 k41 cc c : Nat} {a : Addr} {A W : Nat → Nat → UInt8} {w52 w102 w287 : World} (hf : FieldAt w f) (hn : n ≤ 256) (hc : c < n) (hK : InvK w n (some (at0 k7)) (some (at0 k41)) kw W w287) (hG : GInv n A W) (hD : GDone n W c) (hp : W c c ≠ 0) :
    F54_A0 (c : Int) (2 * n) (some ((at0 kw).add (c * (2 * n)))) w287 f k7 (n : Int) k41 cc w52 w102 (invP w n A) (GI0 w n a cp A) (GM0 n) (GI1 w n A) (GM1 n) (GI2 w n A) (GM2 n) (GI3 w n A) (GM3 n) (GI4 w n A) (GM4 n) (GI5 w n A) (GM5 n) := by
  refine ⟨⟨by omega, by omega⟩, ?_⟩
  have c0 := (hK.mat.at (r := c) (c := c) hc (by omega)).2.1
  refine ⟨_, by rw [Int.toNat_natCast, Nat.mul_one]; exact c0, (finv_spec (hf.ext hK.ext) (W c c)).mono ?_⟩
  rintro e w291 ⟨rfl, x291⟩
  refine ⟨_, _, rfl, ⟨by omega, by omega, kw, W, rfl, rfl, hp, hG, hD, (hK.mono x291).congr fun r t _ _ => by rw [if_neg (by omega)]⟩, ?_⟩
  rintro i w310 ⟨hi0, hi1, kw', W', hp', hx', hne, hG', hD', hK'⟩
  obtain rfl := at0_add_inj hp'
  simp only [Int.toNat_natCast] at hx' hne hD' hK'
  have hgi : gi (W c c) = gi (W' c c) := vb_inj.1 hx'
  intros
  refine condB_of (fun hs => ?_) (fun hs => ?_)
  · simp only [decide_eq_true_eq] at hs
    have c1 := (hK'.mat.at (r := c) (c := i.toNat) hc (by omega)).2.1
    rw [if_neg (by omega)] at c1
    refine ⟨⟨hi0, hs⟩, _, by rw [Nat.mul_one]; exact c1, (fmul_spec (hf.ext hK'.ext) (gi (W c c)) (W' c i.toNat)).mono ?_⟩
    rintro e w327 ⟨rfl, x327⟩
    have hK2 := hK'.mono x327
    obtain ⟨l2, _, s2⟩ := hK2.mat.at (r := c) (c := i.toNat) hc (by omega)
    refine ⟨_, rfl, ⟨hi0, hs⟩, by rw [Nat.mul_one]; exact l2, fun w331 s331 => ?_⟩
    rw [Nat.mul_one] at s331
    obtain ⟨hm, hu⟩ := s2 _ _ s331
    rw [w64 (n := i + 1) (by omega)]
    refine ⟨⟨by omega, by omega, kw, W', rfl, hx', hne, hG', hD', (hK2.write hm hu).congr fun r t _ _ => ?_⟩, by show (((2 * n : Nat) : Int) - (i + 1)).toNat < (((2 * n : Nat) : Int) - i).toNat; omega⟩
    simp only [Int.toNat_natCast]
    by_cases e : r = c ∧ t = i.toNat
    · rw [if_pos (show r = c ∧ (t : Int) < i + 1 by omega), if_pos e, hgi, e.2]
    · rw [if_neg e]
      by_cases e2 : r = c ∧ (t : Int) < i
      · rw [if_pos e2, if_pos (show r = c ∧ (t : Int) < i + 1 by omega)]
      · rw [if_neg e2, if_neg (show ¬ (r = c ∧ (t : Int) < i + 1) by omega)]
  · simp only [decide_eq_false_iff_not] at hs
    have hgne : gi (W' c c) ≠ 0 := gi_ne hne
    have hK2 : InvK w n (some (at0 k7)) (some (at0 k41)) kw (gscale c (gi (W' c c)) W') w310 := hK'.congr fun r t _ ht => by
      unfold gscale
      by_cases e : r = c
      · rw [if_pos e, if_pos ⟨e, by omega⟩]
      · rw [if_neg e, if_neg fun h => e h.1]
    refine ⟨⟨by omega, by omega, kw, _, rfl, hK2, hG'.scale hgne hc, hD'.scale _ (Nat.le_refl _), ?_, fun t ht => by omega⟩, ?_⟩
    · show gscale c (gi (W' c c)) W' c c = 1
      unfold gscale
      rw [if_pos rfl, gi_gm hne]
    rintro r w343 ⟨hr0, hr1, kw', W2, hp', hK3, hG3, hD3, hone, hz⟩
    obtain rfl := at0_add_inj hp'
    simp only [Int.toNat_natCast] at hD3 hone hz
    intros
    refine condB_of (fun hs2 => ?_) (fun hs2 => ?_)
    · simp only [decide_eq_true_eq] at hs2
      obtain ⟨t, rfl⟩ := Int.eq_ofNat_of_zero_le hr0
      have hmeas : ((n : Int) - ((t : Int) + 1)).toNat < ((n : Int) - t).toNat := by omega
      rw [w64 (n := (t : Int) + 1) (by omega)]
      refine condB_of (fun hne2 => ?_) (fun heq => ?_)
      · simp only [Bool.not_eq_true', decide_eq_false_iff_not] at hne2
        have htc : t ≠ c := fun e => hne2 (by rw [e])
        intro w363 hd
        have hK4 := hK3.mono hd.ext
        have s41 := hK4.r41.get
        obtain ⟨b1, b2⟩ := row2_le (r := t) (n := n) (by omega) hn
        refine ⟨_, s41.cell0 rfl, _, s41.cell3 rfl, _, _, _, s41.cell3 rfl, _, s41.cell0 rfl, _, s41.cell3 rfl, _, _, _, s41.cell3 rfl, (row_spec (by omega) b1 b2 (by omega)).mono ?_⟩
        rintro e w370 ⟨rfl, x370⟩
        have hK5 := hK4.mono x370
        have s41b := hK5.r41.get
        refine ⟨_, _, _, rfl, ⟨_, s41b.cell0 rfl, _, s41b.cell3 rfl, _, _, _, s41b.cell3 rfl, rfl⟩, (row_spec (by omega) b1 b2 (by omega)).mono ?_⟩
        rintro e w376 ⟨rfl, x376⟩
        have hK6 := hK5.mono x376
        have c6 := (hK6.mat.at (r := t) (c := c) (by omega) (by omega)).2.1
        refine ⟨_, _, _, rfl, ⟨by omega, by omega⟩, _, by rw [Int.toNat_natCast, Nat.mul_one]; exact c6, (adds_spec hf hK6.ext (Nat.le_refl _) hK6.mat (t := t) (s := c) (by omega) hc htc (by omega) (W2 t c)).mono ?_⟩
        rintro e w381 ⟨rfl, hm, hu⟩
        refine ⟨rfl, ⟨by omega, by omega, kw, _, rfl, hK6.write hm hu, hG3.add _ htc (by omega) hc, hD3.add _ (by omega) hc (Nat.le_refl _), ?_, fun u hu1 hu2 => ?_⟩, hmeas⟩
        · show gadd t c (W2 t c) W2 c c = 1
          unfold gadd
          rw [if_neg (fun e => htc e.symm)]; exact hone
        · simp only [Int.toNat_natCast] at hu2 ⊢
          unfold gadd
          by_cases e : u = t
          · rw [if_pos e, hone, one_gm, xx]
          · rw [if_neg e]; exact hz u (by omega) hu2
      · simp only [Bool.not_eq_false', decide_eq_true_eq] at heq
        refine ⟨⟨by omega, by omega, kw, W2, rfl, hK3, hG3, hD3, hone, fun u hu1 hu2 => hz u (by simp only [Int.toNat_natCast] at hu2; omega) hu2⟩, hmeas⟩
    · simp only [decide_eq_false_iff_not] at hs2
      rw [w64 (n := (c : Int) + 1) (by omega)]
      refine ⟨⟨by omega, by omega, kw, W2, hK3, hG3, ?_⟩, by show ((n : Int) - ((c : Int) + 1)).toNat < ((n : Int) - c).toNat; omega⟩
      rw [show ((c : Int) + 1).toNat = c + 1 by omega]
      exact hD3.next hone fun r hr hrc => hz r (by omega) hrc
end Go.Proofs.Ytpmkjpgoekjcfaa
