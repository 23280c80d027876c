/- Gauss and Jordan: an inverse from row operations; rows of the generator. -/
import Derived.Test.YtpmkjpgoekjcfaaE5
namespace Go.Gf

def gadd (t s : Nat) (f : UInt8) (W : Nat → Nat → UInt8) (r c : Nat) : UInt8 := if r = t then W t c ^^^ gm (W s c) f else W r c
def gscale (t : Nat) (x : UInt8) (W : Nat → Nat → UInt8) (r c : Nat) : UInt8 := if r = t then gm x (W t c) else W r c
/-- the left half is the right half's product with the matrix, and the right half forgets nothing -/
structure GInv (n : Nat) (A W : Nat → Nat → UInt8) : Prop where
  left : ∀ r, r < n → ∀ c, c < n → W r c = xs n fun j => gm (W r (n + j)) (A j c)
  inj : ∀ y : Nat → UInt8, (∀ r, r < n → xs n (fun j => gm (W r (n + j)) (y j)) = 0) → ∀ j, j < n → y j = 0
/-- so many columns are done -/
def GDone (n : Nat) (W : Nat → Nat → UInt8) (c : Nat) : Prop := ∀ r, r < n → ∀ c', c' < c → W r c' = if r = c' then 1 else 0
section
variable {n : Nat} {A W : Nat → Nat → UInt8}
theorem xs_lin (f g : Nat → UInt8) (y : UInt8) (z : Nat → UInt8) (n : Nat) : xs n (fun j => gm (f j ^^^ gm (g j) y) (z j)) = xs n (fun j => gm (f j) (z j)) ^^^ gm y (xs n fun j => gm (g j) (z j)) := by
  rw [← xs_gm, ← xs_xor]
  exact xs_congr fun j _ => by rw [xor_gm, gm_comm (g j) y, gm_assoc]
theorem GInv.add (h : GInv n A W) {t s : Nat} (f : UInt8) (hts : t ≠ s) (ht : t < n) (hs : s < n) : GInv n A (gadd t s f W) := by
  refine ⟨fun r hr c hc => ?_, fun y hy => h.inj y fun r hr => ?_⟩
  · unfold gadd
    by_cases e : r = t
    · subst e
      simp only [if_true]
      rw [xs_lin, ← h.left r hr c hc, ← h.left s hs c hc, gm_comm f]
    · simp only [if_neg e]
      exact h.left r hr c hc
  · have h1 := hy r hr
    unfold gadd at h1
    by_cases e : r = t
    · subst e
      simp only [if_true] at h1
      have h2 := hy s hs
      unfold gadd at h2
      simp only [if_neg (fun e : s = r => hts e.symm)] at h2
      rw [xs_lin, h2, gm_zero, x0] at h1
      exact h1
    · simp only [if_neg e] at h1
      exact h1
theorem GInv.scale (h : GInv n A W) {t : Nat} {x : UInt8} (hx : x ≠ 0) (_ht : t < n) : GInv n A (gscale t x W) := by
  refine ⟨fun r hr c hc => ?_, fun y hy => h.inj y fun r hr => ?_⟩
  · unfold gscale
    by_cases e : r = t
    · subst e
      simp only [if_true]
      rw [h.left r hr c hc, ← xs_gm]
      exact xs_congr fun j _ => (gm_assoc _ _ _).symm
    · simp only [if_neg e]
      exact h.left r hr c hc
  · have h1 := hy r hr
    unfold gscale at h1
    by_cases e : r = t
    · subst e
      simp only [if_true] at h1
      have h2 : xs n (fun j => gm (gm x (W r (n + j))) (y j)) = gm x (xs n fun j => gm (W r (n + j)) (y j)) := by
        rw [← xs_gm]
        exact xs_congr fun j _ => gm_assoc _ _ _
      rw [h2] at h1
      exact (gm_eq_zero.1 h1).resolve_left hx
    · simp only [if_neg e] at h1
      exact h1
theorem GInv.congr (h : GInv n A W) {W' : Nat → Nat → UInt8} (e : ∀ r, r < n → ∀ c, c < 2 * n → W' r c = W r c) : GInv n A W' := by
  have e2 : ∀ r, r < n → ∀ z : Nat → UInt8, xs n (fun j => gm (W' r (n + j)) (z j)) = xs n (fun j => gm (W r (n + j)) (z j)) := fun r hr z => xs_congr fun j hj => by rw [e r hr _ (by omega)]
  refine ⟨fun r hr c hc => ?_, fun y hy => h.inj y fun r hr => ?_⟩
  · rw [e2 r hr, e r hr c (by omega)]; exact h.left r hr c hc
  · rw [← e2 r hr]; exact hy r hr
theorem GDone.congr {c : Nat} (h : GDone n W c) (hc : c ≤ n) {W' : Nat → Nat → UInt8} (e : ∀ r, r < n → ∀ c, c < 2 * n → W' r c = W r c) : GDone n W' c := fun r hr c' hc' => by rw [e r hr c' (by omega)]; exact h r hr c' hc'
def gstart (n : Nat) (A : Nat → Nat → UInt8) (r c : Nat) : UInt8 := if c < n then A r c else if c = n + r then 1 else 0
theorem GInv.start (n : Nat) (A : Nat → Nat → UInt8) : GInv n A (gstart n A) := by
  have hV : ∀ r, r < n → ∀ z : Nat → UInt8, xs n (fun j => gm (gstart n A r (n + j)) (z j)) = z r := fun r hr z => by
    rw [xs_one hr fun j _ hj => ?_]
    · unfold gstart
      rw [if_neg (by omega), if_pos rfl, one_gm]
    · unfold gstart
      rw [if_neg (by omega), if_neg (by omega), zero_gm]
  refine ⟨fun r hr c hc => ?_, fun y hy j hj => ?_⟩
  · rw [hV r hr]; unfold gstart; rw [if_pos hc]
  · exact (hV j hj y).symm.trans (hy j hj)
theorem GDone.zero (n : Nat) (W : Nat → Nat → UInt8) : GDone n W 0 := fun _ _ _ h => (Nat.not_lt_zero _ h).elim
/-- a matrix that forgets nothing has a pivot -/
theorem GInv.pivot (h : GInv n A W) {c : Nat} (hd : GDone n W c) (hc : c < n) (hA : ∀ x : Nat → UInt8, (∀ r, r < n → xs n (fun j => gm (A r j) (x j)) = 0) → ∀ j, j < n → x j = 0)
    (hno : ∀ p, c ≤ p → p < n → W p c = 0) : False := by
  let x : Nat → UInt8 := fun j => if j < c then W j c else if j = c then 1 else 0
  have h1 : ∀ r, r < n → xs n (fun j => gm (W r j) (x j)) = 0 := fun r hr => by
    by_cases e : r < c
    · have h2 : xs n (fun j => gm (W r j) (x j)) = xs n (fun j => (if j = r then W r c else 0) ^^^ (if j = c then W r c else 0)) := xs_congr fun j hj => by
        simp only [x]
        by_cases j1 : j < c
        · rw [if_pos j1, hd r hr j j1, if_neg (show ¬ j = c by omega), x0]
          by_cases j2 : j = r
          · rw [if_pos j2.symm, if_pos j2, one_gm, j2]
          · rw [if_neg fun e => j2 e.symm, if_neg j2, zero_gm]
        · rw [if_neg j1, if_neg (show ¬ j = r by omega), zx]
          by_cases j2 : j = c
          · rw [if_pos j2, if_pos j2, gm_one, j2]
          · rw [if_neg j2, if_neg j2, gm_zero]
      rw [h2, xs_xor, xs_one (k := r) hr (fun j _ hj => if_neg hj), xs_one (k := c) hc (fun j _ hj => if_neg hj), if_pos rfl, if_pos rfl, xx]
    · refine xs_zero fun j hj => ?_
      simp only [x]
      by_cases j1 : j < c
      · rw [if_pos j1, hd r hr j j1, if_neg (by omega), zero_gm]
      · rw [if_neg j1]
        by_cases j2 : j = c
        · rw [j2, hno r (by omega) hr, zero_gm]
        · rw [if_neg j2, gm_zero]
  have h3 : ∀ r, r < n → xs n (fun j => gm (W r (n + j)) (xs n fun i => gm (A j i) (x i))) = 0 := fun r hr => by
    rw [← h1 r hr]
    have h4 : xs n (fun i => gm (W r i) (x i)) = xs n (fun i => xs n fun j => gm (W r (n + j)) (gm (A j i) (x i))) := xs_congr fun i hi => by
      rw [h.left r hr i hi, gm_comm, ← xs_gm]
      exact xs_congr fun j _ => by rw [gm_comm, gm_assoc]
    rw [h4, xs_swap]
    exact xs_congr fun j _ => (xs_gm _ _ _).symm
  have h5 := hA x (fun r hr => h.inj _ h3 r hr) c hc
  simp only [x] at h5
  rw [if_neg (Nat.lt_irrefl _)] at h5
  revert h5
  simp only [if_true]
  decide
theorem GDone.add {c t s : Nat} (h : GDone n W c) (f : UInt8) (ht : t < n) (hs : s < n) (hsc : c ≤ s) : GDone n (gadd t s f W) c := fun r hr c' hc' => by
  unfold gadd
  by_cases e : r = t
  · subst e
    rw [if_pos rfl, h r hr c' hc', h s hs c' hc', if_neg (show ¬ s = c' by omega), zero_gm, x0]
  · rw [if_neg e]; exact h r hr c' hc'
theorem GDone.scale {c t : Nat} (h : GDone n W c) (x : UInt8) (htc : c ≤ t) : GDone n (gscale t x W) c := fun r hr c' hc' => by
  unfold gscale
  by_cases e : r = t
  · subst e
    rw [if_pos rfl, h r hr c' hc', if_neg (show ¬ r = c' by omega), gm_zero]
  · rw [if_neg e]; exact h r hr c' hc'
theorem GDone.next {c : Nat} (h : GDone n W c) (hc : W c c = 1) (hz : ∀ r, r < n → r ≠ c → W r c = 0) : GDone n W (c + 1) := fun r hr c' hc' => by
  by_cases e : c' < c
  · exact h r hr c' e
  · have e2 : c' = c := by omega
    subst e2
    by_cases e3 : r = c'
    · rw [if_pos e3, e3, hc]
    · rw [if_neg e3]; exact hz r hr e3
theorem GInv.done (h : GInv n A W) (hd : GDone n W n) : ∀ r, r < n → ∀ c, c < n → xs n (fun j => gm (W r (n + j)) (A j c)) = if r = c then 1 else 0 := fun r hr c hc => by
  rw [← h.left r hr c hc]; exact hd r hr c hc
/-- what an inverse gives back -/
theorem inv_back {V : Nat → Nat → UInt8} (hV : ∀ r, r < n → ∀ c, c < n → xs n (fun j => gm (V r j) (A j c)) = if r = c then 1 else 0) (d : Nat → UInt8) {r : Nat} (hr : r < n) : xs n (fun j => gm (V r j) (xs n fun c => gm (A j c) (d c))) = d r := by
  have h1 : xs n (fun j => gm (V r j) (xs n fun c => gm (A j c) (d c))) = xs n (fun j => xs n fun c => gm (d c) (gm (V r j) (A j c))) := xs_congr fun j _ => by
    rw [← xs_gm]
    exact xs_congr fun c _ => by rw [gm_comm (d c), gm_assoc]
  rw [h1, xs_swap]
  have h2 : xs n (fun c => xs n fun j => gm (d c) (gm (V r j) (A j c))) = xs n (fun c => gm (d c) (if r = c then 1 else 0)) := xs_congr fun c hc => by rw [xs_gm, hV r hr c hc]
  rw [h2, xs_one hr fun c _ hc => by rw [if_neg fun e => hc e.symm, gm_zero], if_pos rfl, gm_one]
end

/-! ## the generator -/
def genV (k r c : Nat) : UInt8 := if r < k then (if r = c then 1 else 0) else gi (pt r ^^^ pt c)
theorem gen_row {k m : Nat} {d : List UInt8} (hd : d.length = k) {t : Nat} (ht : t < k + m) : xs k (fun c => gm (genV k t c) (co d c)) = co (enc k m d) t := by
  by_cases h : t < k
  · rw [enc_data hd h, xs_one h fun c _ hc => ?_]
    · unfold genV; rw [if_pos h, if_pos rfl, one_gm]
    · unfold genV; rw [if_pos h, if_neg (fun e => hc e.symm), zero_gm]
  · obtain ⟨i, rfl⟩ : ∃ i, t = k + i := ⟨t - k, by omega⟩
    rw [enc_par hd (by omega)]
    unfold par
    exact xs_congr fun c _ => by unfold genV; rw [if_neg h]
theorem filter_split (n : Nat) (p : Nat → Bool) : ((List.range n).filter p).length + ((List.range n).filter fun i => !p i).length = n := by
  induction n with
  | zero => rfl
  | succ n ih =>
    rw [List.range_succ, List.filter_append, List.filter_append, List.length_append, List.length_append]
    cases h : p n <;> simp [h] <;> omega
/-- so many rows of the generator forget nothing -/
theorem gen_inj {k m : Nat} (hkm : k + m ≤ 256) {l : List Nat} (hl : l.length = k) (hnd : ((List.range (k + m)).filter fun i => decide (i ∈ l)).length = k) (hlt : ∀ t ∈ l, t < k + m) (x : Nat → UInt8)
    (hx : ∀ r, r < k → xs k (fun j => gm (genV k (l.getD r 0) j) (x j)) = 0) : ∀ j, j < k → x j = 0 := by
  have hd : ((List.range k).map x).length = k := by simp
  have hco : ∀ j, j < k → co ((List.range k).map x) j = x j := fun j hj => by simp [co, List.getD_eq_getElem?_getD, hj]
  have hz : ∀ t ∈ l, co (enc k m ((List.range k).map x)) t = 0 := fun t ht => by
    obtain ⟨r, hr, rfl⟩ := List.getElem_of_mem ht
    rw [← gen_row hd (hlt _ ht), ← hx r (by omega)]
    refine xs_congr fun c hc => ?_
    rw [hco c hc]
    simp [List.getD_eq_getElem?_getD, hr]
  have hD := filter_split (k + m) fun i => decide (i ∈ l)
  intro j hj
  rw [← hco j hj, ← enc_data (m := m) hd hj]
  refine (enc_code hkm hd).few hkm (D := (List.range (k + m)).filter fun i => !decide (i ∈ l)) (by omega) (fun i hi hne => ?_) j (by omega)
  rw [List.mem_filter, List.mem_range]
  refine ⟨hi, ?_⟩
  simp only [Bool.not_eq_true', decide_eq_false_iff_not]
  exact fun h => hne (hz i h)
end Go.Gf
