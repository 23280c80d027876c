/- The key equation: Euclid's steps find the locator. -/
import Derived.Test.YtpmkjpgoekjcfaaE3
namespace Go.Gf

/-! ## Euclid's steps -/
theorem sum_len {x q h r : List UInt8} (hx : Normal x) (hq : Normal q) (hh : Normal h) (q0 : q ≠ []) (h0 : h ≠ []) (e : co x = sa (act q (co h)) (co r)) (hr : r.length + 1 < q.length + h.length) :
    x.length + 1 = q.length + h.length := by
  have lq : 0 < q.length := List.length_pos_iff.2 q0
  have lh : 0 < h.length := List.length_pos_iff.2 h0
  have h1 : x.length ≤ q.length + h.length - 1 := hx.le (by rw [e]; exact (act_deg (deg_co h) (by omega)).sa ((deg_co r).mono (by omega)))
  have h2 : act q (co h) ((q.length - 1) + (h.length - 1)) = gm (co q (q.length - 1)) (co h (h.length - 1)) :=
    act_top ((deg_co h).mono (by omega)) ((deg_co q).mono (by omega))
  have h3 : (q.length - 1) + (h.length - 1) < x.length := Normal.pos (by
    rw [e]
    show act q (co h) _ ^^^ co r _ ≠ 0
    rw [h2, co_out (p := r) (by omega), x0]
    exact gm_ne (hq q0) (hh h0))
  omega

structure SolveInv (m : Nat) (H : Se) (low high a b : List UInt8) : Prop where
  nlow : Normal low
  nhigh : Normal high
  nb : Normal b
  b0 : b ≠ []
  lt : high.length < low.length
  ab : a.length < b.length
  deg : b.length + low.length = m + 2
  ib : ∃ A : List UInt8, act b H = sa (co high) (sh m (co A))
  ia : ∃ A : List UInt8, act a H = sa (co low) (sh m (co A))

theorem co_unit (m : Nat) : co (List.replicate m 0 ++ [1]) = sh m so := funext fun i => by
  simp only [co, List.getD_eq_getElem?_getD, sh]
  by_cases h1 : i < m
  · rw [List.getElem?_append_left (by simpa using h1), List.getElem?_replicate, if_pos h1, if_pos h1]; rfl
  · rw [List.getElem?_append_right (by simp; omega), List.length_replicate, if_neg h1]
    cases h2 : i - m with
    | zero => rfl
    | succ n => rfl
theorem normal_unit (m : Nat) : Normal (List.replicate m 0 ++ [1]) := fun _ => by
  rw [co_unit]
  simp only [List.length_append, List.length_replicate, List.length_cons, List.length_nil, sh]
  rw [if_neg (by omega), show m + (0 + 1) - 1 - m = 0 by omega]
  decide
theorem SolveInv.init {m : Nat} {H : Se} {high : List UInt8} (hH : Deg m H) (hn : Normal high) (hc : co high = H) : SolveInv m H (List.replicate m 0 ++ [1]) high [] [1] := by
  have hl : high.length ≤ m := hn.le (by rw [hc]; exact hH)
  refine ⟨normal_unit m, hn, fun _ => by decide, by simp, by simp; omega, by simp, by simp; omega, ⟨[], ?_⟩, ⟨[1], ?_⟩⟩
  · show sa (sm 1 H) (sh1 sz) = sa (co high) (sh m sz)
    have : sh m sz = sz := funext fun i => by unfold sh sz; split <;> rfl
    rw [sm_one, sh1_sz, this, hc]
  · show sz = _
    have : co [1] = so := by rw [co_cons, co_nil, sh1_sz, sa_sz, sm_one]
    rw [co_unit, this, sa_self]
theorem SolveInv.step {m : Nat} {H : Se} {low high a b q r b' : List UInt8} (h : SolveInv m H low high a b) (h0 : high ≠ []) (hq : Normal q) (hr : Normal r) (e : co low = sa (act q (co high)) (co r))
    (hl : r.length < high.length) (hb : Normal b') (eb : co b' = sa (co a) (act q (co b))) : SolveInv m H high r b b' ∧ b'.length + high.length = m + 2 := by
  have hlt := h.lt
  have hab := h.ab
  have hdeg := h.deg
  have q0 : q ≠ [] := by
    rintro rfl
    have e2 : co low = co r := by rw [e]; exact sz_sa _
    have := h.nlow.eq hr e2
    rw [this] at hlt; omega
  have lq : 0 < q.length := List.length_pos_iff.2 q0
  have l1 := sum_len h.nlow hq h.nhigh q0 h0 e (by omega)
  have l2 := sum_len hb hq h.nb q0 h.b0 (r := a) (by rw [eb, sa_comm]) (by omega)
  have b0' : b' ≠ [] := by rintro rfl; simp at l2; omega
  obtain ⟨A, hA⟩ := h.ib
  obtain ⟨B, hB⟩ := h.ia
  refine ⟨⟨h.nhigh, hr, hb, b0', hl, by omega, by omega, ⟨addL B (mulL q A), ?_⟩, ⟨A, hA⟩⟩, by omega⟩
  have e3 : act b' H = sa (act a H) (act q (act b H)) := by
    rw [← act_mulL, ← act_addL]
    exact congrFun (act_congr (by rw [eb, co_addL, co_mulL])) H
  rw [e3, hA, hB, e, co_addL, co_mulL, act_sa, act_sh, sh_sa]
  generalize act q (co high) = u1
  generalize co r = u2
  generalize sh m (co B) = u3
  generalize sh m (act q (co A)) = u4
  rw [sa_assoc, sa_assoc, sa_left u1, sa_left u1, sa_left u1, sa_self_left]

/-! ## what is looked for -/
structure Good (m e t : Nat) (H : Se) (L pts : List UInt8) : Prop where
  nodup : pts.Nodup
  len : pts.length = t
  root : ∀ x ∈ pts, ev L x = 0
  deg : Deg (t + 1) (co L)
  top : co L t ≠ 0
  few : 2 * t + e ≤ m
  key : ∃ R O : List UInt8, Deg (t + e) (co R) ∧ act L H = sa (co R) (sh m (co O)) ∧ ∀ x ∈ pts, ev O x ≠ 0

theorem low_high {m : Nat} {u v s t : Se} (hu : Deg m u) (hv : Deg m v) (h : sa u (sh m s) = sa v (sh m t)) : u = v ∧ s = t := by
  constructor
  · funext i
    by_cases hi : i < m
    · have := congrFun h i
      simp only [sa, sh, if_pos hi, x0] at this
      exact this
    · rw [hu i (by omega), hv i (by omega)]
  · funext i
    have := congrFun h (m + i)
    simp only [sa, sh] at this
    rw [if_neg (by omega), if_neg (by omega), hu _ (by omega), hv _ (by omega), zx, zx, show m + i - m = i by omega] at this
    exact this
theorem good_root {m e t : Nat} {H : Se} {L pts low high a b : List UInt8} (g : Good m e t H L pts) (h : SolveInv m H low high a b) (hb : b.length ≤ t + 1) (hh : high.length + t ≤ m) :
    b.length = t + 1 ∧ (∀ x ∈ pts, ev b x = 0) ∧ high.length ≤ t + e := by
  obtain ⟨R, O, hR, hk, hO⟩ := g.key
  obtain ⟨A, hA⟩ := h.ib
  have hf := g.few
  have h1 : act L (act b H) = act b (act L H) := act_comm _ _ _
  rw [hA, hk, act_sa, act_sa, act_sh, act_sh] at h1
  have hL : L.length = L.length := rfl
  -- L's numbers end at t
  have dL : ∀ {s : Se} {n k : Nat}, Deg n s → t + 1 + n ≤ k + 1 → Deg k (act L s) := fun {s n k} hs hk2 => by
    have e1 : co L = co (L.take (t + 1)) := funext fun i => by
      simp only [co, List.getD_eq_getElem?_getD, List.getElem?_take]
      by_cases hi : i < t + 1
      · rw [if_pos hi]
      · rw [if_neg hi]
        have := g.deg i (by omega)
        simpa [co, List.getD_eq_getElem?_getD] using this
    rw [act_congr e1]
    exact act_deg hs (by rw [List.length_take]; omega)
  obtain ⟨h2, h3⟩ := low_high (dL (deg_co high) (k := m) (by omega)) (act_deg (p := b) hR (k := m) (by omega)) h1
  have hr : ∀ x ∈ pts, ev b x = 0 := fun x hx => by
    have h4 : ev (mulL L A) x = ev (mulL b O) x := ev_congr (by rw [co_mulL, co_mulL, h3]) x
    rw [ev_mulL, ev_mulL, g.root x hx, zero_gm] at h4
    rcases gm_eq_zero.1 h4.symm with h5 | h5
    · exact h5
    · exact (hO x hx h5).elim
  have hbz : co b ≠ sz := fun e => h.nb h.b0 (by rw [e]; rfl)
  have h6 := roots_le g.nodup hr hbz
  rw [g.len] at h6
  refine ⟨by omega, hr, ?_⟩
  by_cases hz : high = []
  · rw [hz]; exact Nat.zero_le _
  · have lh : 0 < high.length := List.length_pos_iff.2 hz
    have h7 : act L (co high) (t + (high.length - 1)) = gm (co L t) (co high (high.length - 1)) := act_top ((deg_co high).mono (by omega)) g.deg
    have h8 : act L (co high) (t + (high.length - 1)) ≠ 0 := by rw [h7]; exact gm_ne g.top (h.nhigh hz)
    rw [h2] at h8
    refine Decidable.byContradiction fun hc => h8 ?_
    exact act_deg (p := b) hR (k := 2 * t + e) (by omega) _ (by omega)
theorem good_stop {m e t : Nat} {H : Se} {L pts low high a b : List UInt8} (g : Good m e t H L pts) (h : SolveInv m H low high a b) (hb : b.length ≤ t + 1) (hh : high.length ≤ e + (b.length - 1)) :
    b.length = t + 1 ∧ ∀ x ∈ pts, ev b x = 0 := by
  have hf := g.few
  obtain ⟨h1, h2, _⟩ := good_root g h hb (by omega)
  exact ⟨h1, h2⟩
theorem good_step {m e t : Nat} {H : Se} {L pts low high a b : List UInt8} (g : Good m e t H L pts) (h : SolveInv m H low high a b) (hb : b.length ≤ t + 1) (hh : ¬ high.length ≤ e + (b.length - 1))
    {b' : List UInt8} (hb' : b'.length + high.length = m + 2) : b'.length ≤ t + 1 := by
  refine Decidable.byContradiction fun hc => ?_
  obtain ⟨h1, _, h2⟩ := good_root g h hb (by omega)
  omega

/-- what is found -/
structure Found (m e : Nat) (P : Se) (b o : List UInt8) : Prop where
  nb : Normal b
  b0 : b ≠ []
  lead : co b (b.length - 1) = 1
  few : 2 * (b.length - 1) + e ≤ m
  out : ∀ i, co o i = act b P (m + i)
  good : ∀ t L pts, Good m e t (fun i => if i < m then P i else 0) L pts → b.length = t + 1 ∧ ∀ x ∈ pts, ev b x = 0

/-! ## of a word that is near -/
/-- the powers of a point, the highest first -/
def geo (a : UInt8) (m : Nat) : List UInt8 := (List.range m).map fun i => pw a (m - 1 - i)
theorem co_geo (a : UInt8) (m i : Nat) : co (geo a m) i = if i < m then pw a (m - 1 - i) else 0 := by
  simp only [co, geo, List.getD_eq_getElem?_getD, List.getElem?_map]
  by_cases h : i < m
  · simp [h]
  · simp [h]
theorem act_geo (a : UInt8) (m : Nat) : act [a, 1] (co (geo a m)) = sa (sm (pw a m) so) (sh m so) := by
  rw [act_lin]
  funext i
  cases i with
  | zero =>
    show gm a (co (geo a m) 0) ^^^ 0 = gm (pw a m) 1 ^^^ sh m so 0
    rw [co_geo, x0, gm_one]
    cases m with
    | zero => show gm a 0 = 1 ^^^ 1; rw [gm_zero, xx]
    | succ m =>
      rw [if_pos (by omega)]
      show gm a (pw a (m + 1 - 1 - 0)) = pw a (m + 1) ^^^ 0
      rw [x0, pw_succ]; rfl
  | succ i =>
    show gm a (co (geo a m) (i + 1)) ^^^ co (geo a m) i = gm (pw a m) 0 ^^^ sh m so (i + 1)
    rw [gm_zero, zx, co_geo, co_geo]
    unfold sh
    by_cases h1 : i + 1 < m
    · rw [if_pos h1, if_pos (by omega), if_pos h1, ← pw_succ, show m - 1 - (i + 1) + 1 = m - 1 - i by omega, xx]
    · rw [if_neg h1, if_neg h1, gm_zero, zx]
      by_cases h2 : i < m
      · rw [if_pos h2, show m - 1 - i = 0 by omega, show i + 1 - m = 0 by omega]; rfl
      · rw [if_neg h2, show i + 1 - m = (i - m) + 1 by omega]; rfl

def lsum : Nat → (Nat → List UInt8) → List UInt8
  | 0, _ => []
  | n + 1, f => addL (lsum n f) (f n)
theorem co_lsum (f : Nat → List UInt8) (i : Nat) : ∀ n, co (lsum n f) i = xs n (fun j => co (f j) i)
  | 0 => rfl
  | n + 1 => by
    rw [lsum, co_addL]
    show co (lsum n f) i ^^^ co (f n) i = _
    rw [co_lsum f i n]; rfl
theorem ev_lsum (f : Nat → List UInt8) (x : UInt8) : ∀ n, ev (lsum n f) x = xs n (fun j => ev (f j) x)
  | 0 => rfl
  | n + 1 => by rw [lsum, ev_addL, ev_lsum f x n]; rfl

section
variable {k m : Nat} {bs z c : List UInt8} {ms : List Bool}
/-- how wrong each place is, by its weight -/
def vv (k m : Nat) (z c : List UInt8) (i : Nat) : UInt8 := gm (co z i ^^^ co c i) (wgt k m i)
def FF (D : List Nat) : List UInt8 := loc (D.map pt)
theorem FF_root {D : List Nat} {x : UInt8} : ev (FF D) x = 0 ↔ x ∈ D.map pt := pr_zero
/-- the derivative there -/
def dd (D : List Nat) (i : Nat) : UInt8 := ev (dv (pt i) (FF D)) (pt i)
theorem dv_other {D : List Nat} {i j : Nat} (hi : i ∈ D) (hj : j ∈ D) (h : pt i ≠ pt j) : ev (dv (pt j) (FF D)) (pt i) = 0 := by
  have h1 := ev_dv (FF_root.2 (List.mem_map.2 ⟨j, hj, rfl⟩)) (pt i)
  rw [FF_root.2 (List.mem_map.2 ⟨i, hi, rfl⟩)] at h1
  rcases gm_eq_zero.1 h1.symm with h2 | h2
  · exact (h (x_eq_zero.1 h2).symm).elim
  · exact h2
theorem dd_ne {D : List Nat} (hD : (D.map pt).Nodup) {i : Nat} (hi : i ∈ D) : dd D i ≠ 0 := fun h => by
  have hl : (D.map pt).length = D.length := List.length_map ..
  have h1 := dv_spec (pt i) (FF D)
  rw [FF_root.2 (List.mem_map.2 ⟨i, hi, rfl⟩), sm_zero, sa_sz] at h1
  have hdeg : Deg (D.length + 1) (co (FF D)) := by have := loc_deg (D.map pt); rwa [hl] at this
  have h2 : co (dv (pt i) (FF D)) = sz := by
    refine roots hD (fun x hx => ?_) ?_
    · obtain ⟨j, hj, rfl⟩ := List.mem_map.1 hx
      by_cases e : pt j = pt i
      · rw [e]; exact h
      · exact dv_other hj hi e
    · rw [hl]; exact dv_deg _ hdeg
  have h3 := loc_top (D.map pt)
  have h4 : co (loc (D.map pt)) = sz := by
    show co (FF D) = sz
    rw [h1, h2, act_sz]
  rw [h4] at h3
  exact (show ¬ (0 : UInt8) = 1 by decide) h3

def RR (k m : Nat) (z c : List UInt8) (D : List Nat) : List UInt8 := lsum (k + m) fun j => smL (gm (vv k m z c j) (pw (pt j) m)) (dv (pt j) (FF D))
def OO (k m : Nat) (z c : List UInt8) (D : List Nat) : List UInt8 := lsum (k + m) fun j => smL (vv k m z c j) (dv (pt j) (FF D))

/-- the syndromes of a word, turned, times the locator -/
theorem key_eq (hc : Code k m c) {D : List Nat} (hD : ∀ i, i < k + m → co z i ≠ co c i → i ∈ D) {T : List UInt8} (hT : ∀ i, co T i = if i < m then syn k m z (m - 1 - i) else 0) :
    act (FF D) (co T) = sa (co (RR k m z c D)) (sh m (co (OO k m z c D))) := by
  have h1 : co T = fun i => xs (k + m) fun j => sm (vv k m z c j) (co (geo (pt j) m)) i := funext fun i => by
    rw [hT]
    by_cases hi : i < m
    · rw [if_pos hi]
      have h2 : syn k m z (m - 1 - i) = syn k m z (m - 1 - i) ^^^ syn k m c (m - 1 - i) := by rw [hc.2 _ (by omega), x0]
      rw [h2]
      unfold syn
      rw [← xs_xor]
      refine xs_congr fun j _ => ?_
      show _ = gm _ (co (geo (pt j) m) i)
      rw [co_geo, if_pos hi, ← xor_gm, ← xor_gm]; rfl
    · rw [if_neg hi]
      refine (xs_zero fun j _ => ?_).symm
      show gm _ (co (geo (pt j) m) i) = 0
      rw [co_geo, if_neg hi, gm_zero]
  have h2 : ∀ (p : List UInt8) (n : Nat) (f : Nat → Se), act p (fun i => xs n fun j => f j i) = fun i => xs n fun j => act p (f j) i := by
    intro p n f
    induction n with
    | zero => exact act_sz p
    | succ n ih =>
      show act p (sa (fun i => xs n fun j => f j i) (f n)) = _
      rw [act_sa, ih]; rfl
  have h3 : ∀ j, j < k + m → act (FF D) (sm (vv k m z c j) (co (geo (pt j) m))) =
      sa (sm (gm (vv k m z c j) (pw (pt j) m)) (co (dv (pt j) (FF D)))) (sh m (sm (vv k m z c j) (co (dv (pt j) (FF D))))) := by
    intro j hj
    rw [act_sm, sm_mul, sh_sm, ← sm_sa]
    by_cases hv : co z j = co c j
    · have : vv k m z c j = 0 := by unfold vv; rw [hv, xx, zero_gm]
      rw [this, sm_zero, sm_zero]
    · congr 1
      have h4 := dv_spec (pt j) (FF D)
      rw [FF_root.2 (List.mem_map.2 ⟨j, hD j hj hv, rfl⟩), sm_zero, sa_sz] at h4
      have h5 : act (FF D) (co (geo (pt j) m)) = act (mulL [pt j, 1] (dv (pt j) (FF D))) (co (geo (pt j) m)) := congrFun (act_congr (by rw [h4, co_mulL])) _
      rw [h5, act_mulL, act_comm, act_geo, act_sa, act_sm, act_sh, act_so]
  rw [h1, h2]
  funext i
  show xs (k + m) _ = co (RR k m z c D) i ^^^ sh m (co (OO k m z c D)) i
  have h6 : sh m (co (OO k m z c D)) i = xs (k + m) fun j => sh m (co (smL (vv k m z c j) (dv (pt j) (FF D)))) i := by
    unfold sh OO
    by_cases hi : i < m
    · rw [if_pos hi]
      exact (xs_zero fun j _ => if_pos hi).symm
    · rw [if_neg hi, co_lsum]
      exact xs_congr fun j _ => (if_neg hi).symm
  have h7 : co (RR k m z c D) i = xs (k + m) fun j => co (smL (gm (vv k m z c j) (pw (pt j) m)) (dv (pt j) (FF D))) i := co_lsum _ _ _
  rw [h6, h7, ← xs_xor]
  refine xs_congr fun j hj => ?_
  rw [h3 j hj, co_smL, co_smL]; rfl
theorem RR_deg (D : List Nat) : Deg D.length (co (RR k m z c D)) := fun i hi => by
  unfold RR
  rw [co_lsum]
  refine xs_zero fun j _ => ?_
  rw [co_smL]
  have hl : (D.map pt).length = D.length := List.length_map ..
  have := loc_deg (D.map pt)
  rw [hl] at this
  have h0 : co (dv (pt j) (FF D)) i = 0 := dv_deg (pt j) this i hi
  show gm _ (co (dv (pt j) (FF D)) i) = 0
  rw [h0, gm_zero]
theorem OO_ev {D : List Nat} (hkm : k + m ≤ 256) (hlt : ∀ i ∈ D, i < k + m) (hD : ∀ i, i < k + m → co z i ≠ co c i → i ∈ D) {i : Nat} (hi : i ∈ D) : ev (OO k m z c D) (pt i) = gm (vv k m z c i) (dd D i) := by
  unfold OO
  rw [ev_lsum, xs_one (hlt i hi) fun j hj hne => ?_, ev_smL]
  · rfl
  · rw [ev_smL]
    by_cases hv : co z j = co c j
    · have : vv k m z c j = 0 := by unfold vv; rw [hv, xx, zero_gm]
      rw [this, zero_gm]
    · rw [dv_other hi (hD j hj hv) fun e => hne (pt_inj (by have := hlt i hi; omega) (by omega) e).symm, gm_zero]
end
end Go.Gf
