/- Points, weights, the words of the code. -/
import Derived.Test.YtpmkjpgoekjcfaaE2
namespace Go.Gf

/-! ## points -/
def pt (i : Nat) : UInt8 := UInt8.ofNat i
theorem pt_inj {i j : Nat} (hi : i < 256) (hj : j < 256) (h : pt i = pt j) : i = j := by
  have := congrArg UInt8.toNat h
  simp only [pt, UInt8.toNat_ofNat'] at this
  omega
theorem pt_xor (i j : Nat) : pt (i ^^^ j) = pt i ^^^ pt j := by
  rw [← UInt8.toNat_inj, UInt8.toNat_xor]
  simp only [pt, UInt8.toNat_ofNat']
  exact Nat.xor_mod_two_pow

def pw (x : UInt8) : Nat → UInt8
  | 0 => 1
  | n + 1 => gm (pw x n) x
theorem pw_succ (x : UInt8) (n : Nat) : pw x (n + 1) = gm x (pw x n) := gm_comm _ _
theorem xs_shift (f : Nat → UInt8) : ∀ n : Nat, xs (n + 1) f = f 0 ^^^ xs n (fun i => f (i + 1))
  | 0 => by rw [xs, xs, xs, x0, zx]
  | n + 1 => by rw [xs, xs_shift f n, xs, UInt8.xor_assoc]
theorem ev_xs {p : List UInt8} (x : UInt8) : ∀ {n : Nat}, Deg n (co p) → ev p x = xs n (fun l => gm (co p l) (pw x l)) := by
  induction p with
  | nil => intro n _; exact (xs_zero fun _ _ => zero_gm _).symm
  | cons a p ih =>
    intro n h
    cases n with
    | zero =>
      have e : co (a :: p) = co [] := deg_zero h
      rw [ev_congr e]; rfl
    | succ n =>
      rw [xs_shift, ev, ih (n := n) fun i hi => h (i + 1) (by omega), ← xs_gm]
      have h0 : gm (co (a :: p) 0) (pw x 0) = a := gm_one a
      rw [h0]
      congr 1
      refine xs_congr fun i _ => ?_
      rw [pw_succ, gm_left_comm]; rfl

/-! ## the polynomial whose roots some points are -/
def loc : List UInt8 → List UInt8
  | [] => [1]
  | a :: l => mulL [a, 1] (loc l)
def pr (l : List UInt8) (x : UInt8) : UInt8 := ev (loc l) x
theorem pr_nil (x : UInt8) : pr [] x = 1 := by
  show 1 ^^^ gm x 0 = 1
  rw [gm_zero, x0]
theorem ev_lin (a x : UInt8) : ev [a, 1] x = a ^^^ x := by
  show a ^^^ gm x (1 ^^^ gm x 0) = _
  rw [gm_zero, x0, gm_one]
theorem pr_cons (a : UInt8) (l : List UInt8) (x : UInt8) : pr (a :: l) x = gm (a ^^^ x) (pr l x) := by
  show ev (mulL [a, 1] (loc l)) x = _
  rw [ev_mulL, ev_lin]; rfl
theorem pr_append (l l' : List UInt8) (x : UInt8) : pr (l ++ l') x = gm (pr l x) (pr l' x) := by
  induction l with
  | nil => rw [List.nil_append, pr_nil, one_gm]
  | cons a l ih => rw [List.cons_append, pr_cons, pr_cons, ih, gm_assoc]
theorem pr_zero {l : List UInt8} {x : UInt8} : pr l x = 0 ↔ x ∈ l := by
  induction l with
  | nil => rw [pr_nil]; simp
  | cons a l ih => rw [pr_cons, gm_eq_zero, x_eq_zero, ih, List.mem_cons, eq_comm]
theorem act_lin (a : UInt8) (s : Se) : act [a, 1] s = sa (sm a s) (sh1 s) := by
  show sa (sm a s) (sh1 (sa (sm 1 s) (sh1 sz))) = _
  rw [sm_one, sh1_sz, sa_sz]
theorem loc_deg (l : List UInt8) : Deg (l.length + 1) (co (loc l)) := by
  induction l with
  | nil => exact deg_co [1]
  | cons a l ih => rw [loc, co_mulL]; exact act_deg ih (by simp; omega)
theorem loc_top (l : List UInt8) : co (loc l) l.length = 1 := by
  induction l with
  | nil => rfl
  | cons a l ih =>
    rw [loc, co_mulL, act_lin]
    show gm a (co (loc l) (l.length + 1)) ^^^ co (loc l) l.length = 1
    rw [loc_deg l _ (Nat.le_refl _), gm_zero, zx, ih]

/-! ## Lagrange -/
def xl (l : List UInt8) (f : UInt8 → UInt8) : UInt8 := l.foldr (fun a r => f a ^^^ r) 0
theorem xl_cons (a : UInt8) (l : List UInt8) (f : UInt8 → UInt8) : xl (a :: l) f = f a ^^^ xl l f := rfl
theorem xl_congr {l : List UInt8} {f g : UInt8 → UInt8} (h : ∀ a ∈ l, f a = g a) : xl l f = xl l g := by
  induction l with
  | nil => rfl
  | cons a l ih => rw [xl_cons, xl_cons, h a List.mem_cons_self, ih fun b hb => h b (List.mem_cons_of_mem _ hb)]
def but (N : List UInt8) (p : UInt8) : List UInt8 := N.filter fun q => decide (q ≠ p)
theorem mem_but {N : List UInt8} {p q : UInt8} : q ∈ but N p ↔ q ∈ N ∧ q ≠ p := by simp [but]
theorem but_none {N : List UInt8} {p : UInt8} (h : p ∉ N) : but N p = N := by
  refine List.filter_eq_self.2 fun q hq => ?_
  simp only [decide_eq_true_eq]
  rintro rfl; exact h hq
theorem but_len {N : List UInt8} {p : UInt8} (hn : N.Nodup) (hp : p ∈ N) : (but N p).length + 1 = N.length := by
  induction N with
  | nil => cases hp
  | cons a N ih =>
    rw [List.nodup_cons] at hn
    by_cases e : a = p
    · subst e
      have : but (a :: N) a = N := by
        unfold but
        rw [List.filter_cons_of_neg (by simp)]
        exact but_none hn.1
      rw [this]; rfl
    · have : but (a :: N) p = a :: but N p := by
        unfold but
        rw [List.filter_cons_of_pos (by simpa using e)]
      rw [this]
      simp only [List.length_cons]
      rw [ih hn.2 ((List.mem_cons.1 hp).resolve_left (Ne.symm e))]
def lagL (N : List UInt8) (f : UInt8 → UInt8) : List UInt8 → List UInt8
  | [] => []
  | p :: l => addL (smL (gm (f p) (gi (pr (but N p) p))) (loc (but N p))) (lagL N f l)
theorem lag_ev {N : List UInt8} {f : UInt8 → UInt8} {q : UInt8} (hq : q ∈ N) : ∀ {l : List UInt8}, l.Nodup → ev (lagL N f l) q = if q ∈ l then f q else 0
  | [], _ => rfl
  | p :: l, hl => by
    rw [List.nodup_cons] at hl
    rw [lagL, ev_addL, ev_smL, lag_ev hq hl.2]
    by_cases e : p = q
    · subst e
      have h1 : pr (but N p) p ≠ 0 := fun h => (mem_but.1 (pr_zero.1 h)).2 rfl
      have h2 : gm (gm (f p) (gi (pr (but N p) p))) (ev (loc (but N p)) p) = f p := by
        show gm (gm (f p) (gi (pr (but N p) p))) (pr (but N p) p) = f p
        rw [gm_assoc, gi_gm h1, gm_one]
      rw [h2, if_neg hl.1, if_pos List.mem_cons_self, x0]
    · have h1 : ev (loc (but N p)) q = 0 := pr_zero.2 (mem_but.2 ⟨hq, Ne.symm e⟩)
      rw [h1, gm_zero, zx]
      simp only [List.mem_cons]
      by_cases h2 : q ∈ l
      · rw [if_pos h2, if_pos (.inr h2)]
      · rw [if_neg h2, if_neg (fun h3 => h3.elim (fun h3 => e h3.symm) h2)]
theorem lag_deg {N : List UInt8} {f : UInt8 → UInt8} (hn : N.Nodup) {m : Nat} (hm : N.length = m + 1) : ∀ {l : List UInt8}, (∀ p ∈ l, p ∈ N) →
    Deg (m + 1) (co (lagL N f l)) ∧ co (lagL N f l) m = xl l (fun p => gm (f p) (gi (pr (but N p) p)))
  | [], _ => ⟨fun _ _ => rfl, rfl⟩
  | p :: l, hl => by
    obtain ⟨h1, h2⟩ := lag_deg (f := f) hn hm (l := l) fun q hq => hl q (List.mem_cons_of_mem _ hq)
    have hb : (but N p).length = m := by have := but_len hn (hl p List.mem_cons_self); omega
    have hd := loc_deg (but N p)
    have ht := loc_top (but N p)
    rw [hb] at hd ht
    rw [lagL, co_addL, co_smL]
    refine ⟨(hd.sm _).sa h1, ?_⟩
    show gm _ (co (loc (but N p)) m) ^^^ co (lagL N f l) m = _
    rw [ht, gm_one, h2]; rfl
/-- among one point more than the degree says, a polynomial's numbers over the products of the differences come to nought -/
theorem lag_zero {N f : List UInt8} (hn : N.Nodup) {m : Nat} (hm : N.length = m + 1) (hf : Deg m (co f)) : xl N (fun p => gm (ev f p) (gi (pr (but N p) p))) = 0 := by
  obtain ⟨h1, h2⟩ := lag_deg (f := ev f) hn hm (l := N) fun _ h => h
  have h3 : co (addL (lagL N (ev f) N) f) = sz := by
    refine roots (rs := N) hn (fun x hx => ?_) ?_
    · rw [ev_addL, lag_ev hx hn, if_pos hx, xx]
    · rw [co_addL, hm]; exact h1.sa (hf.mono (by omega))
  have h4 : co (addL (lagL N (ev f) N) f) m = 0 := by rw [h3]; rfl
  rw [co_addL] at h4
  rw [← h2]
  have h5 : co f m = 0 := hf m (Nat.le_refl _)
  have h6 : co (lagL N (ev f) N) m ^^^ co f m = 0 := h4
  rwa [h5, x0] at h6

/-! ## weights -/
/-- the product of a point's differences from the parity's points, without its own -/
def wp (k : Nat) : Nat → Nat → UInt8
  | 0, _ => 1
  | n + 1, i => if k + n = i then wp k n i else gm (wp k n i) (pt (k + n) ^^^ pt i)
def wgt (k m i : Nat) : UInt8 := gi (wp k m i)
def pars (k m : Nat) : List UInt8 := (List.range m).map fun j => pt (k + j)
theorem pars_succ (k m : Nat) : pars k (m + 1) = pars k m ++ [pt (k + m)] := by simp [pars, List.range_succ]
theorem pars_len (k m : Nat) : (pars k m).length = m := by simp [pars]
theorem mem_pars {k m : Nat} {x : UInt8} : x ∈ pars k m ↔ ∃ j, j < m ∧ pt (k + j) = x := by simp [pars]
theorem pars_nodup {k : Nat} : ∀ {m : Nat}, k + m ≤ 256 → (pars k m).Nodup
  | 0, _ => by simp [pars]
  | m + 1, h => by
    rw [pars_succ, List.nodup_append]
    refine ⟨pars_nodup (by omega), by simp, fun a ha b hb => ?_⟩
    obtain ⟨j, hj, rfl⟩ := mem_pars.1 ha
    rw [List.mem_singleton] at hb
    subst hb
    intro e
    have := pt_inj (by omega) (by omega) e
    omega
theorem wp_eq {k i : Nat} (hi : i < 256) : ∀ {n : Nat}, k + n ≤ 256 → wp k n i = pr (but (pars k n) (pt i)) (pt i)
  | 0, _ => (pr_nil _).symm
  | n + 1, h => by
    rw [wp, wp_eq hi (n := n) (by omega), pars_succ]
    unfold but
    rw [List.filter_append, pr_append]
    by_cases e : k + n = i
    · rw [if_pos e, List.filter_cons_of_neg (by simp [e]), List.filter_nil, pr_nil, gm_one]
    · have : pt (k + n) ≠ pt i := fun h => e (pt_inj (by omega) hi h)
      rw [if_neg e, List.filter_cons_of_pos (by simpa using this), List.filter_nil, pr_cons, pr_nil, gm_one]
theorem wp_ne {k m i : Nat} (hi : i < 256) (h : k + m ≤ 256) : wp k m i ≠ 0 := by
  rw [wp_eq hi h]
  exact fun e => (mem_but.1 (pr_zero.1 e)).2 rfl
theorem wgt_ne {k m i : Nat} (hi : i < 256) (h : k + m ≤ 256) : wgt k m i ≠ 0 := gi_ne (wp_ne hi h)

/-! ## the code -/
def syn (k m : Nat) (c : List UInt8) (l : Nat) : UInt8 := xs (k + m) fun i => gm (gm (co c i) (wgt k m i)) (pw (pt i) l)
def Code (k m : Nat) (c : List UInt8) : Prop := c.length = k + m ∧ ∀ l, l < m → syn k m c l = 0
theorem xs_mul_ev {n m : Nat} (v : Nat → UInt8) (f : List UInt8) (hf : Deg m (co f)) (q : Nat → UInt8) :
    xs n (fun i => gm (v i) (ev f (q i))) = xs m (fun l => gm (co f l) (xs n fun i => gm (v i) (pw (q i) l))) := by
  have h1 : xs n (fun i => gm (v i) (ev f (q i))) = xs n (fun i => xs m fun l => gm (co f l) (gm (v i) (pw (q i) l))) := by
    refine xs_congr fun i _ => ?_
    rw [ev_xs (q i) hf, ← xs_gm]
    exact xs_congr fun l _ => gm_left_comm _ _ _
  rw [h1, xs_swap]
  exact xs_congr fun l _ => xs_gm _ _ _
/-- a word of the code against any polynomial -/
theorem Code.mom {k m : Nat} {c f : List UInt8} (h : Code k m c) (hf : Deg m (co f)) : xs (k + m) (fun i => gm (gm (co c i) (wgt k m i)) (ev f (pt i))) = 0 := by
  rw [xs_mul_ev (fun i => gm (co c i) (wgt k m i)) f hf pt]
  refine xs_zero fun l hl => ?_
  have h1 : xs (k + m) (fun i => gm (gm (co c i) (wgt k m i)) (pw (pt i) l)) = 0 := h.2 l hl
  rw [h1, gm_zero]
/-- a word of the code that is nought but in a few places is nought -/
theorem Code.few {k m : Nat} {c : List UInt8} (h : Code k m c) (hkm : k + m ≤ 256) {D : List Nat} (hD : D.length ≤ m) (hc : ∀ i, i < k + m → co c i ≠ 0 → i ∈ D) : ∀ i, i < k + m → co c i = 0 := by
  intro j hj
  refine Decidable.byContradiction fun hne => ?_
  have hjD := hc j hj hne
  let R := (D.filter fun i => decide (pt i ≠ pt j)).map pt
  have hR : R.length + 1 ≤ m := by
    have : (D.filter fun i => decide (pt i ≠ pt j)).length < D.length := List.length_filter_lt_length_iff_exists.2 ⟨j, hjD, by simp⟩
    simp only [R, List.length_map]; omega
  have h1 := h.mom (f := loc R) ((loc_deg R).mono hR)
  rw [xs_one hj fun i hi hij => ?_] at h1
  · rcases gm_eq_zero.1 h1 with h2 | h2
    · rcases gm_eq_zero.1 h2 with h3 | h3
      · exact hne h3
      · exact wgt_ne (by omega) hkm h3
    · have : pt j ∈ R := pr_zero.1 h2
      simp only [R, List.mem_map, List.mem_filter, decide_eq_true_eq] at this
      obtain ⟨i, ⟨_, hij⟩, he⟩ := this
      exact hij he
  · have : ev (loc R) (pt i) = 0 ∨ co c i = 0 := by
      by_cases hz : co c i = 0
      · exact .inr hz
      · refine .inl (pr_zero.2 ?_)
        refine List.mem_map.2 ⟨i, List.mem_filter.2 ⟨hc i hi hz, ?_⟩, rfl⟩
        simp only [decide_eq_true_eq]
        exact fun e => hij (pt_inj (by omega) (by omega) e)
    rcases this with h2 | h2
    · rw [h2, gm_zero]
    · rw [h2, zero_gm, zero_gm]

/-! ## parity -/
def par (k i : Nat) (d : List UInt8) : UInt8 := xs k fun j => gm (gi (pt (k + i) ^^^ pt j)) (co d j)
def enc (k m : Nat) (d : List UInt8) : List UInt8 := d ++ (List.range m).map fun i => par k i d
theorem enc_len {k m : Nat} {d : List UInt8} (hd : d.length = k) : (enc k m d).length = k + m := by simp [enc, hd]
theorem enc_data {k m : Nat} {d : List UInt8} (hd : d.length = k) {i : Nat} (hi : i < k) : co (enc k m d) i = co d i := by
  simp only [co, enc, List.getD_eq_getElem?_getD]
  rw [List.getElem?_append_left (by omega)]
theorem enc_par {k m : Nat} {d : List UInt8} (hd : d.length = k) {i : Nat} (hi : i < m) : co (enc k m d) (k + i) = par k i d := by
  simp only [co, enc, List.getD_eq_getElem?_getD]
  rw [List.getElem?_append_right (by omega), hd]
  simp [hi]
/-- of a power of a data point -/
theorem part {k m j l : Nat} (hkm : k + m ≤ 256) (hj : j < k) (hl : l < m) :
    gm (wgt k m j) (pw (pt j) l) ^^^ xs m (fun i => gm (gm (gi (pt (k + i) ^^^ pt j)) (wgt k m (k + i))) (pw (pt (k + i)) l)) = 0 := by
  let f : List UInt8 := List.replicate l 0 ++ [1]
  have hco : ∀ i, co f i = if i = l then 1 else 0 := fun i => by
    simp only [co, f, List.getD_eq_getElem?_getD]
    by_cases h1 : i < l
    · rw [List.getElem?_append_left (by simpa using h1), List.getElem?_replicate, if_pos h1, if_neg (by omega)]; rfl
    · rw [List.getElem?_append_right (by simp; omega), List.length_replicate]
      by_cases h2 : i = l
      · subst h2; rw [if_pos rfl, Nat.sub_self]; rfl
      · rw [if_neg h2, List.getElem?_eq_none (by simp; omega)]; rfl
  have hf : Deg m (co f) := fun i hi => by rw [hco, if_neg (by omega)]
  have hev : ∀ x, ev f x = pw x l := fun x => by
    rw [ev_xs x hf, xs_one hl fun i _ hi => by rw [hco, if_neg hi, zero_gm]]
    rw [hco, if_pos rfl, one_gm]
  have hnot : pt j ∉ pars k m := fun h => by
    obtain ⟨i, hi, e⟩ := mem_pars.1 h
    have := pt_inj (by omega) (by omega) e
    omega
  have hN : (pt j :: pars k m).Nodup := List.nodup_cons.2 ⟨hnot, pars_nodup hkm⟩
  have h1 := lag_zero (f := f) hN (m := m) (by rw [List.length_cons, pars_len]) hf
  rw [xl_cons] at h1
  have b0 : but (pt j :: pars k m) (pt j) = pars k m := by
    unfold but
    rw [List.filter_cons_of_neg (by simp)]
    exact but_none hnot
  have e0 : gm (ev f (pt j)) (gi (pr (but (pt j :: pars k m) (pt j)) (pt j))) = gm (wgt k m j) (pw (pt j) l) := by
    rw [hev, b0, gm_comm]
    unfold wgt
    rw [wp_eq (by omega) hkm, but_none hnot]
  rw [e0] at h1
  rw [← h1]
  congr 1
  have gen : ∀ n, n ≤ m → xl (pars k n) (fun p => gm (ev f p) (gi (pr (but (pt j :: pars k m) p) p))) =
      xs n (fun i => gm (gm (gi (pt (k + i) ^^^ pt j)) (wgt k m (k + i))) (pw (pt (k + i)) l)) := by
    intro n
    induction n with
    | zero => intro _; rfl
    | succ n ih =>
      intro hn
      have app : ∀ (u v : List UInt8) (g : UInt8 → UInt8), xl (u ++ v) g = xl u g ^^^ xl v g := fun u v g => by
        induction u with
        | nil => exact (zx _).symm
        | cons a u ihu => rw [List.cons_append, xl_cons, xl_cons, ihu, UInt8.xor_assoc]
      rw [pars_succ, app, ih (by omega), xs]
      congr 1
      rw [xl_cons]
      show _ ^^^ 0 = _
      have hne : pt j ≠ pt (k + n) := fun e => by have := pt_inj (by omega) (by omega) e; omega
      have b1 : but (pt j :: pars k m) (pt (k + n)) = pt j :: but (pars k m) (pt (k + n)) := by
        unfold but
        rw [List.filter_cons_of_pos (by simpa using hne)]
      rw [x0, hev, b1, pr_cons, gi_mul]
      unfold wgt
      rw [wp_eq (by omega) hkm, UInt8.xor_comm (pt j), gm_comm]
  exact (gen m (Nat.le_refl _)).symm

/-- what is encoded is a word of the code -/
theorem enc_code {k m : Nat} (hkm : k + m ≤ 256) {d : List UInt8} (hd : d.length = k) : Code k m (enc k m d) := by
  refine ⟨enc_len hd, fun l hl => ?_⟩
  unfold syn
  rw [xs_add]
  have h1 : xs k (fun i => gm (gm (co (enc k m d) i) (wgt k m i)) (pw (pt i) l)) = xs k (fun j => gm (co d j) (gm (wgt k m j) (pw (pt j) l))) :=
    xs_congr fun i hi => by rw [enc_data hd hi, gm_assoc]
  have h2 : xs m (fun i => gm (gm (co (enc k m d) (k + i)) (wgt k m (k + i))) (pw (pt (k + i)) l)) =
      xs k (fun j => gm (co d j) (xs m (fun i => gm (gm (gi (pt (k + i) ^^^ pt j)) (wgt k m (k + i))) (pw (pt (k + i)) l)))) := by
    have h3 : xs m (fun i => gm (gm (co (enc k m d) (k + i)) (wgt k m (k + i))) (pw (pt (k + i)) l)) =
        xs m (fun i => xs k fun j => gm (co d j) (gm (gm (gi (pt (k + i) ^^^ pt j)) (wgt k m (k + i))) (pw (pt (k + i)) l))) := by
      refine xs_congr fun i hi => ?_
      rw [enc_par hd hi, gm_assoc, gm_comm]
      unfold par
      rw [← xs_gm]
      refine xs_congr fun j _ => ?_
      rw [gm_comm _ (co d j), gm_left_comm, gm_comm _ (gi _), ← gm_assoc (gi _)]
    rw [h3, xs_swap]
    exact xs_congr fun j _ => xs_gm _ _ _
  rw [h1, h2, ← xs_xor]
  refine xs_zero fun j hj => ?_
  rw [← gm_xor, part hkm hj hl, gm_zero]

def addW (a b : List UInt8) : List UInt8 := List.zipWith (· ^^^ ·) a b
theorem addW_len {a b : List UInt8} (h : a.length = b.length) : (addW a b).length = a.length := by simp [addW, h]
theorem co_addW {a b : List UInt8} (h : a.length = b.length) (i : Nat) : co (addW a b) i = co a i ^^^ co b i := by
  simp only [co, addW, List.getD_eq_getElem?_getD, List.getElem?_zipWith]
  by_cases hi : i < a.length
  · have hj : i < b.length := by omega
    simp [hi, hj]
  · have hj : ¬ i < b.length := by omega
    simp [hi, hj]
theorem Code.add {k m : Nat} {a b : List UInt8} (h : Code k m a) (h' : Code k m b) : Code k m (addW a b) := by
  have hl : a.length = b.length := by rw [h.1, h'.1]
  refine ⟨by rw [addW_len hl, h.1], fun l hk => ?_⟩
  have : syn k m (addW a b) l = syn k m a l ^^^ syn k m b l := by
    unfold syn
    rw [← xs_xor]
    refine xs_congr fun i _ => ?_
    rw [co_addW hl, xor_gm, xor_gm]
  rw [this, h.2 l hk, h'.2 l hk, xx]
theorem co_ext {a b : List UInt8} (hl : a.length = b.length) (h : ∀ i, i < a.length → co a i = co b i) : a = b := by
  refine List.ext_getElem hl fun i hi hj => ?_
  have := h i hi
  simpa [co, List.getD_eq_getElem?_getD, hi, hj] using this
/-- two words of the code that differ in few places are one -/
theorem Code.one {k m : Nat} {a b : List UInt8} (h : Code k m a) (h' : Code k m b) (hkm : k + m ≤ 256) {D : List Nat} (hD : D.length ≤ m) (hc : ∀ i, i < k + m → co a i ≠ co b i → i ∈ D) : a = b := by
  have hl : a.length = b.length := by rw [h.1, h'.1]
  have h1 := (h.add h').few hkm hD fun i hi hn => hc i hi fun e => hn (by rw [co_addW hl, e, xx])
  refine co_ext hl fun i hi => ?_
  have := h1 i (by rw [← h.1]; exact hi)
  rw [co_addW hl, x_eq_zero] at this
  exact this
theorem Code.enc {k m : Nat} {c : List UInt8} (h : Code k m c) (hkm : k + m ≤ 256) : c = Gf.enc k m (c.take k) := by
  have hd : (c.take k).length = k := by rw [List.length_take, h.1]; omega
  refine h.one (enc_code hkm hd) hkm (D := (List.range m).map (k + ·)) (by simp) fun i hi hn => ?_
  by_cases hk : i < k
  · refine (hn ?_).elim
    rw [enc_data hd hk]
    simp [co, List.getD_eq_getElem?_getD, hk]
  · exact List.mem_map.2 ⟨i - k, List.mem_range.2 (by omega), by show k + (i - k) = i; omega⟩

/-! ## near words -/
/-- the places that are not missing in which two words differ -/
def dif (n : Nat) (ms : List Bool) (a b : List UInt8) : List Nat := (List.range n).filter fun i => !ms.getD i false && decide (co a i ≠ co b i)
def mis (n : Nat) (ms : List Bool) : List Nat := (List.range n).filter fun i => ms.getD i false
structure Near (k m : Nat) (bs : List UInt8) (ms : List Bool) (c : List UInt8) : Prop where
  code : Code k m c
  few : 2 * (dif (k + m) ms c bs).length + (mis (k + m) ms).length ≤ m
theorem near_one {k m : Nat} (hkm : k + m ≤ 256) {bs : List UInt8} {ms : List Bool} {c c' : List UInt8} (h : Near k m bs ms c) (h' : Near k m bs ms c') : c = c' := by
  have f1 := h.few
  have f2 := h'.few
  refine h.code.one h'.code hkm (D := dif (k + m) ms c bs ++ (dif (k + m) ms c' bs ++ mis (k + m) ms)) (by simp only [List.length_append]; omega) fun i hi hn => ?_
  simp only [List.mem_append, dif, mis, List.mem_filter, List.mem_range, Bool.and_eq_true, decide_eq_true_eq, Bool.not_eq_true']
  by_cases h1 : ms.getD i false = true
  · exact .inr (.inr ⟨hi, h1⟩)
  · have h1' : ms.getD i false = false := by simpa using h1
    by_cases h2 : co c i = co bs i
    · exact .inr (.inl ⟨hi, h1', fun e => hn (h2.trans e.symm)⟩)
    · exact .inl ⟨hi, h1', h2⟩
open Classical in
/-- the word of the code that is near, if there is one -/
noncomputable def decM (k m : Nat) (bs : List UInt8) (ms : List Bool) : Option (List UInt8) := if h : ∃ c, Near k m bs ms c then some h.choose else none
theorem decM_some {k m : Nat} (hkm : k + m ≤ 256) {bs : List UInt8} {ms : List Bool} {c : List UInt8} (h : Near k m bs ms c) : decM k m bs ms = some c := by
  unfold decM
  have h1 : ∃ c, Near k m bs ms c := ⟨c, h⟩
  rw [dif_pos h1, near_one hkm h1.choose_spec h]
theorem decM_near {k m : Nat} {bs : List UInt8} {ms : List Bool} {c : List UInt8} (h : decM k m bs ms = some c) : Near k m bs ms c := by
  unfold decM at h
  by_cases h1 : ∃ c, Near k m bs ms c
  · rw [dif_pos h1] at h
    cases h
    exact h1.choose_spec
  · rw [dif_neg h1] at h; cases h
theorem decM_none {k m : Nat} {bs : List UInt8} {ms : List Bool} (h : ∀ c, ¬ Near k m bs ms c) : decM k m bs ms = none := by
  unfold decM
  rw [dif_neg fun ⟨c, hc⟩ => h c hc]
end Go.Gf
