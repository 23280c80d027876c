/- A word put right is the word of the code that is near. -/
import Derived.Test.YtpmkjpgoekjcfaaE4
namespace Go.Gf

theorem nodup_pts : ∀ {D : List Nat}, D.Nodup → (∀ i ∈ D, i < 256) → (D.map pt).Nodup
  | [], _, _ => by simp
  | a :: D, h, hl => by
    rw [List.nodup_cons] at h
    rw [List.map_cons, List.nodup_cons]
    refine ⟨fun hm => ?_, nodup_pts h.2 fun i hi => hl i (List.mem_cons_of_mem _ hi)⟩
    obtain ⟨i, hi, e⟩ := List.mem_map.1 hm
    have := pt_inj (hl i (List.mem_cons_of_mem _ hi)) (hl a List.mem_cons_self) e
    subst this
    exact h.1 hi
theorem loc_append (u v : List UInt8) : co (loc (u ++ v)) = act (loc u) (co (loc v)) := by
  induction u with
  | nil =>
    show co (loc v) = sa (sm 1 _) (sh1 sz)
    rw [sm_one, sh1_sz, sa_sz]
  | cons a u ih =>
    show co (mulL [a, 1] (loc (u ++ v))) = act (mulL [a, 1] (loc u)) _
    rw [co_mulL, ih, act_mulL]
theorem mem_mis {n i : Nat} {ms : List Bool} : i ∈ mis n ms ↔ i < n ∧ ms.getD i false = true := by
  simp only [mis, List.mem_filter, List.mem_range]
theorem mem_dif {n i : Nat} {ms : List Bool} {a b : List UInt8} : i ∈ dif n ms a b ↔ i < n ∧ ms.getD i false = false ∧ co a i ≠ co b i := by
  simp only [dif, List.mem_filter, List.mem_range, Bool.and_eq_true, Bool.not_eq_true', decide_eq_true_eq]
theorem dif_nodup (n : Nat) (ms : List Bool) (a b : List UInt8) : (dif n ms a b ++ mis n ms).Nodup := by
  rw [List.nodup_append]
  refine ⟨List.nodup_range.filter _, List.nodup_range.filter _, fun i hi j hj e => ?_⟩
  subst e
  have h1 := (mem_dif.1 hi).2.1
  rw [(mem_mis.1 hj).2] at h1
  cases h1

structure WordIn (k m : Nat) (bs z : List UInt8) (ms : List Bool) (T g P : List UInt8) : Prop where
  km : k + m ≤ 256
  zz : ∀ i, i < k + m → co z i = if ms.getD i false = true then 0 else co bs i
  tt : ∀ i, co T i = if i < m then syn k m z (m - 1 - i) else 0
  gg : co g = co (loc ((mis (k + m) ms).map pt))
  gn : Normal g
  pp : co P = act g (co T)

section
variable {k m : Nat} {bs z c : List UInt8} {ms : List Bool} {T g P : List UInt8}
abbrev trunc (m : Nat) (P : List UInt8) : Se := fun i => if i < m then co P i else 0
theorem trunc_split (m : Nat) (P : List UInt8) : co P = sa (trunc m P) (sh m (co (P.drop m))) := funext fun i => by
  simp only [sa, sh]
  by_cases hi : i < m
  · rw [if_pos hi, x0]
    exact (if_pos hi).symm
  · rw [if_neg hi, show trunc m P i = 0 from if_neg hi, zx]
    simp only [co, List.getD_eq_getElem?_getD, List.getElem?_drop]
    rw [show m + (i - m) = i by omega]
theorem WordIn.where_ (h : WordIn k m bs z ms T g P) {i : Nat} (hi : i < k + m) (hn : co z i ≠ co c i) : i ∈ dif (k + m) ms c bs ++ mis (k + m) ms := by
  rw [List.mem_append, mem_dif, mem_mis]
  rw [h.zz i hi] at hn
  by_cases h1 : ms.getD i false = true
  · exact .inr ⟨hi, h1⟩
  · rw [if_neg h1] at hn
    exact .inl ⟨hi, by simpa using h1, Ne.symm hn⟩
theorem WordIn.ff (h : WordIn k m bs z ms T g P) (E : List Nat) {b : List UInt8} (hb : co b = co (loc (E.map pt))) : act b (co g) = co (FF (E ++ mis (k + m) ms)) := by
  unfold FF
  rw [List.map_append, loc_append, h.gg, act_congr hb]
theorem WordIn.lt {i : Nat} (hi : i ∈ dif (k + m) ms c bs ++ mis (k + m) ms) : i < k + m := by
  rw [List.mem_append, mem_dif, mem_mis] at hi
  exact hi.elim (·.1) (·.1)
theorem WordIn.good (h : WordIn k m bs z ms T g P) (hc : Near k m bs ms c) : Good m (mis (k + m) ms).length (dif (k + m) ms c bs).length (trunc m P) (loc ((dif (k + m) ms c bs).map pt)) ((dif (k + m) ms c bs).map pt) := by
  have hkm := h.km
  have hnd := nodup_pts (dif_nodup (k + m) ms c bs) fun i hi => by have := WordIn.lt hi; omega
  have hnd1 := hnd
  rw [List.map_append, List.nodup_append] at hnd1
  have hl : ((dif (k + m) ms c bs).map pt).length = (dif (k + m) ms c bs).length := List.length_map ..
  refine ⟨hnd1.1, hl, fun x hx => pr_zero.2 hx, by have := loc_deg ((dif (k + m) ms c bs).map pt); rwa [hl] at this,
    by have := loc_top ((dif (k + m) ms c bs).map pt); rw [hl] at this; rw [this]; decide, hc.few, ?_⟩
  have hkey := key_eq (z := z) hc.code (fun i hi hn => h.where_ hi hn) h.tt
  refine ⟨RR k m z c (dif (k + m) ms c bs ++ mis (k + m) ms), addL (OO k m z c (dif (k + m) ms c bs ++ mis (k + m) ms)) (mulL (loc ((dif (k + m) ms c bs).map pt)) (P.drop m)), ?_, ?_, fun x hx => ?_⟩
  · have := RR_deg (k := k) (m := m) (z := z) (c := c) (dif (k + m) ms c bs ++ mis (k + m) ms)
    rwa [List.length_append] at this
  · have h1 : act (loc ((dif (k + m) ms c bs).map pt)) (co P) = act (FF (dif (k + m) ms c bs ++ mis (k + m) ms)) (co T) := by
      rw [h.pp, ← act_mulL]
      refine congrFun (act_congr ?_) _
      rw [co_mulL, h.ff _ rfl]
    rw [trunc_split m P, act_sa, act_sh] at h1
    rw [co_addL, co_mulL, sh_sa]
    have h2 : act (loc ((dif (k + m) ms c bs).map pt)) (trunc m P) =
        sa (sa (act (loc ((dif (k + m) ms c bs).map pt)) (trunc m P)) (sh m (act (loc ((dif (k + m) ms c bs).map pt)) (co (P.drop m))))) (sh m (act (loc ((dif (k + m) ms c bs).map pt)) (co (P.drop m)))) := by
      rw [sa_assoc, sa_self, sa_sz]
    rw [h2, h1, hkey, sa_assoc]
  · obtain ⟨i, hi, rfl⟩ := List.mem_map.1 hx
    have hiD : i ∈ dif (k + m) ms c bs ++ mis (k + m) ms := List.mem_append_left _ hi
    rw [ev_addL, ev_mulL, show ev (loc ((dif (k + m) ms c bs).map pt)) (pt i) = 0 from pr_zero.2 hx, zero_gm, x0, OO_ev hkm (fun j hj => WordIn.lt hj) (fun j hj hn => h.where_ hj hn) hiD]
    refine gm_ne (gm_ne ?_ (wgt_ne (by have := WordIn.lt hiD; omega) hkm)) (dd_ne hnd hiD)
    obtain ⟨h1, h2, h3⟩ := mem_dif.1 hi
    rw [h.zz i h1, h2, if_neg (by decide)]
    intro e
    exact h3 (x_eq_zero.1 e).symm

/-- what is found puts the word right -/
theorem WordIn.right (h : WordIn k m bs z ms T g P) (hc : Near k m bs ms c) {b o full slope : List UInt8} (hf : Found m (mis (k + m) ms).length (co P) b o) (ef : co full = act b (co g)) (es : co slope = der (co full)) :
    b.length = (dif (k + m) ms c bs).length + 1 ∧ (∀ i, i < k + m → (ev full (pt i) = 0 ↔ i ∈ dif (k + m) ms c bs ++ mis (k + m) ms)) ∧
      ∀ i, i ∈ dif (k + m) ms c bs ++ mis (k + m) ms → co z i ^^^ gm (ev o (pt i)) (gi (gm (ev slope (pt i)) (wgt k m i))) = co c i := by
  have hkm := h.km
  have hnd := nodup_pts (dif_nodup (k + m) ms c bs) fun i hi => by have := WordIn.lt hi; omega
  have hg := h.good hc
  obtain ⟨hl, hr⟩ := hf.good _ _ _ hg
  have hb : co b = co (loc ((dif (k + m) ms c bs).map pt)) := by
    have h1 : co (addL b (loc ((dif (k + m) ms c bs).map pt))) = sz := by
      refine roots hg.nodup (fun x hx => by rw [ev_addL, hr x hx, hg.root x hx, xx]) ?_
      rw [hg.len, co_addL]
      intro i hi
      show co b i ^^^ co (loc _) i = 0
      by_cases e : i = (dif (k + m) ms c bs).length
      · subst e
        have h2 := hf.lead
        rw [hl, Nat.add_sub_cancel] at h2
        have h3 := loc_top ((dif (k + m) ms c bs).map pt)
        rw [List.length_map] at h3
        rw [h2, h3, xx]
      · rw [co_out (p := b) (by omega), hg.deg i (by omega), xx]
    funext i
    have := congrFun h1 i
    rw [co_addL] at this
    exact x_eq_zero.1 this
  have hF : co full = co (FF (dif (k + m) ms c bs ++ mis (k + m) ms)) := by rw [ef, h.ff _ hb]
  refine ⟨hl, fun i hi => ?_, fun i hi => ?_⟩
  · rw [ev_congr hF, FF_root]
    constructor
    · intro hm
      obtain ⟨j, hj, e⟩ := List.mem_map.1 hm
      have := pt_inj (by have := WordIn.lt hj; omega) (by omega) e
      rwa [← this]
    · exact fun hm => List.mem_map.2 ⟨i, hm, rfl⟩
  · have h1 := dv_spec (pt i) (FF (dif (k + m) ms c bs ++ mis (k + m) ms))
    rw [FF_root.2 (List.mem_map.2 ⟨i, hi, rfl⟩), sm_zero, sa_sz] at h1
    have hs : ev slope (pt i) = dd (dif (k + m) ms c bs ++ mis (k + m) ms) i := der_root (by rw [hF, h1]) es
    have hkey := key_eq (z := z) hc.code (fun i hi hn => h.where_ hi hn) h.tt
    have ho : co o = co (OO k m z c (dif (k + m) ms c bs ++ mis (k + m) ms)) := funext fun j => by
      rw [hf.out j, h.pp, ← act_mulL, act_congr (show co (mulL b g) = co (FF (dif (k + m) ms c bs ++ mis (k + m) ms)) by rw [co_mulL, h.ff _ hb]), hkey]
      show co (RR k m z c _) (m + j) ^^^ sh m (co (OO k m z c _)) (m + j) = _
      have hd := RR_deg (k := k) (m := m) (z := z) (c := c) (dif (k + m) ms c bs ++ mis (k + m) ms)
      rw [List.length_append] at hd
      have := hc.few
      rw [hd _ (by omega), zx]
      unfold sh
      rw [if_neg (by omega), show m + j - m = j by omega]
    rw [ev_congr ho, OO_ev hkm (fun j hj => WordIn.lt hj) (fun j hj hn => h.where_ hj hn) hi, hs]
    have hw : wgt k m i ≠ 0 := wgt_ne (by have := WordIn.lt hi; omega) hkm
    have hd := dd_ne hnd hi
    unfold vv
    have e : gm (gm (gm (co z i ^^^ co c i) (wgt k m i)) (dd (dif (k + m) ms c bs ++ mis (k + m) ms) i)) (gi (gm (dd (dif (k + m) ms c bs ++ mis (k + m) ms) i) (wgt k m i))) = co z i ^^^ co c i := by
      rw [gm_assoc (co z i ^^^ co c i), gm_comm (wgt k m i), gm_assoc, gm_gi (gm_ne hd hw), gm_one]
    rw [e, xx_left]

theorem filter_len_le {α : Type} {p q : α → Bool} {l : List α} (h : ∀ a ∈ l, p a = true → q a = true) : (l.filter p).length ≤ (l.filter q).length := by
  rw [← List.countP_eq_length_filter, ← List.countP_eq_length_filter]
  exact List.countP_mono_left h
theorem filter_two {α : Type} (p q : α → Bool) (l : List α) : (l.filter p).length = (l.filter fun a => p a && !q a).length + (l.filter fun a => p a && q a).length := by
  induction l with
  | nil => rfl
  | cons a l ih =>
    by_cases hp : p a <;> by_cases hq : q a <;> simp [hp, hq, ih] <;> omega
theorem mul_len {b g full : List UInt8} (hb : Normal b) (hg : Normal g) (hf : Normal full) (b0 : b ≠ []) (g0 : g ≠ []) (e : co full = act b (co g)) : full.length + 1 = b.length + g.length := hb.mul_len hg hf e b0 g0
theorem WordIn.glen (h : WordIn k m bs z ms T g P) : g.length = (mis (k + m) ms).length + 1 := by
  have hd := loc_deg ((mis (k + m) ms).map pt)
  have ht := loc_top ((mis (k + m) ms).map pt)
  rw [List.length_map, ← h.gg] at hd ht
  have h1 := h.gn.le hd
  have h2 : (mis (k + m) ms).length < g.length := Normal.pos (by rw [ht]; decide)
  omega
/-- where the locator is nought -/
def zer (n : Nat) (full : List UInt8) : List Nat := (List.range n).filter fun i => decide (ev full (pt i) = 0)
def wrg (n : Nat) (ms : List Bool) (full : List UInt8) : List Nat := (List.range n).filter fun i => decide (ev full (pt i) = 0) && !ms.getD i false
def fixd (k m : Nat) (z full o slope : List UInt8) (i : Nat) : UInt8 := if ev full (pt i) = 0 then co z i ^^^ gm (ev o (pt i)) (gi (gm (ev slope (pt i)) (wgt k m i))) else co z i
theorem WordIn.complete (h : WordIn k m bs z ms T g P) (hc : Near k m bs ms c) {b o full slope out : List UInt8} (hf : Found m (mis (k + m) ms).length (co P) b o) (hn : Normal full) (ef : co full = act b (co g)) (es : co slope = der (co full))
    (ho : out.length = k + m) (hout : ∀ i, i < k + m → co out i = fixd k m z full o slope i) : out = c ∧ wrg (k + m) ms full = dif (k + m) ms c bs ∧ (zer (k + m) full).length + 1 = full.length := by
  obtain ⟨h1, h2, h3⟩ := h.right hc hf ef es
  refine ⟨co_ext (by rw [ho, hc.code.1]) fun i hi => ?_, List.filter_congr fun i hi => ?_, ?_⟩
  · rw [ho] at hi
    rw [hout i hi]
    unfold fixd
    by_cases e : ev full (pt i) = 0
    · rw [if_pos e]; exact h3 i ((h2 i hi).1 e)
    · rw [if_neg e]
      refine Decidable.byContradiction fun hne => e ((h2 i hi).2 (h.where_ hi hne))
  · rw [List.mem_range] at hi
    have := h2 i hi
    rw [List.mem_append, mem_dif, mem_mis] at this
    rw [Bool.eq_iff_iff]
    simp only [Bool.and_eq_true, decide_eq_true_eq, Bool.not_eq_true', this]
    constructor
    · rintro ⟨h4 | h4, h5⟩
      · exact ⟨h5, h4.2.2⟩
      · rw [h4.2] at h5; cases h5
    · rintro ⟨h4, h5⟩
      exact ⟨.inl ⟨hi, h4, h5⟩, h4⟩
  · have hg := h.glen
    have hl := mul_len hf.nb h.gn hn hf.b0 (by rintro e; rw [e] at hg; simp at hg) ef
    have e1 : (zer (k + m) full).length = (dif (k + m) ms c bs).length + (mis (k + m) ms).length := by
      unfold zer
      rw [filter_two (fun i => decide (ev full (pt i) = 0)) (fun i => ms.getD i false)]
      congr 1
      · refine congrArg _ (List.filter_congr fun i hi => ?_)
        rw [List.mem_range] at hi
        have := h2 i hi
        rw [List.mem_append, mem_dif, mem_mis] at this
        rw [Bool.eq_iff_iff]
        simp only [Bool.and_eq_true, decide_eq_true_eq, Bool.not_eq_true', this]
        constructor
        · rintro ⟨h4 | h4, h5⟩
          · exact ⟨h5, h4.2.2⟩
          · rw [h4.2] at h5; cases h5
        · rintro ⟨h4, h5⟩
          exact ⟨.inl ⟨hi, h4, h5⟩, h4⟩
      · refine congrArg _ (List.filter_congr fun i hi => ?_)
        rw [List.mem_range] at hi
        have := h2 i hi
        rw [List.mem_append, mem_mis] at this
        rw [Bool.eq_iff_iff]
        simp only [Bool.and_eq_true, decide_eq_true_eq, this]
        constructor
        · rintro ⟨_, h5⟩; exact h5
        · intro h5; exact ⟨.inr ⟨hi, h5⟩, h5⟩
    omega
theorem WordIn.sound (h : WordIn k m bs z ms T g P) {b o full slope out : List UInt8} (hf : Found m (mis (k + m) ms).length (co P) b o) (hn : Normal full) (ef : co full = act b (co g))
    (ho : out.length = k + m) (hout : ∀ i, i < k + m → co out i = fixd k m z full o slope i) (hr : (zer (k + m) full).length + 1 = full.length) (hs : ∀ l, l < m → syn k m out l = 0) : Near k m bs ms out := by
  refine ⟨⟨ho, hs⟩, ?_⟩
  have hg := h.glen
  have hl := mul_len hf.nb h.gn hn hf.b0 (by rintro e; rw [e] at hg; simp at hg) ef
  have h1 : (dif (k + m) ms out bs).length ≤ ((List.range (k + m)).filter fun i => decide (ev full (pt i) = 0) && !ms.getD i false).length := by
    refine filter_len_le fun i hi hp => ?_
    rw [List.mem_range] at hi
    simp only [Bool.and_eq_true, Bool.not_eq_true', decide_eq_true_eq] at hp ⊢
    refine ⟨?_, hp.1⟩
    refine Decidable.byContradiction fun hz => hp.2 ?_
    rw [hout i hi, fixd, if_neg hz, h.zz i hi, hp.1, if_neg (by decide)]
  have h2 : (mis (k + m) ms).length ≤ ((List.range (k + m)).filter fun i => decide (ev full (pt i) = 0) && ms.getD i false).length := by
    refine filter_len_le fun i hi hp => ?_
    rw [List.mem_range] at hi
    rw [Bool.and_eq_true, decide_eq_true_eq]
    refine ⟨?_, hp⟩
    have h3 : ev g (pt i) = 0 := by
      rw [ev_congr h.gg]
      exact pr_zero.2 (List.mem_map.2 ⟨i, mem_mis.2 ⟨hi, hp⟩, rfl⟩)
    rw [ev_act ef, h3, gm_zero]
  have h3 := filter_two (fun i => decide (ev full (pt i) = 0)) (fun i => ms.getD i false) (List.range (k + m))
  have h4 : ((List.range (k + m)).filter fun i => decide (ev full (pt i) = 0)).length = (zer (k + m) full).length := rfl
  have h5 := hf.few
  omega
/-- the answer, if all fits -/
theorem WordIn.ok (h : WordIn k m bs z ms T g P) {b o full slope out : List UInt8} (hf : Found m (mis (k + m) ms).length (co P) b o) (hn : Normal full) (ef : co full = act b (co g)) (es : co slope = der (co full))
    (ho : out.length = k + m) (hout : ∀ i, i < k + m → co out i = fixd k m z full o slope i) (hr : (zer (k + m) full).length + 1 = full.length) (hs : ∀ l, l < m → syn k m out l = 0) :
    decM k m bs ms = some out ∧ wrg (k + m) ms full = dif (k + m) ms out bs := by
  have hc := h.sound hf hn ef ho hout hr hs
  exact ⟨decM_some h.km hc, (h.complete hc hf hn ef es ho hout).2.1⟩
/-- the answer, if it does not -/
theorem WordIn.many (h : WordIn k m bs z ms T g P) {b o full slope out : List UInt8} (hf : Found m (mis (k + m) ms).length (co P) b o) (hn : Normal full) (ef : co full = act b (co g)) (es : co slope = der (co full))
    (ho : out.length = k + m) (hout : ∀ i, i < k + m → co out i = fixd k m z full o slope i) (hr : ¬ ((zer (k + m) full).length + 1 = full.length ∧ ∀ l, l < m → syn k m out l = 0)) : decM k m bs ms = none := by
  refine decM_none fun c hc => hr ?_
  obtain ⟨h1, _, h3⟩ := h.complete hc hf hn ef es ho hout
  refine ⟨h3, ?_⟩
  rw [h1]; exact hc.code.2
theorem WordIn.none (h : WordIn k m bs z ms T g P) (hn : ∀ t L pts, ¬ Good m (mis (k + m) ms).length t (trunc m P) L pts) : decM k m bs ms = none :=
  decM_none fun _ hc => hn _ _ _ (h.good hc)
theorem many_missing {k m : Nat} {bs : List UInt8} {ms : List Bool} (h : m < (mis (k + m) ms).length) : decM k m bs ms = none :=
  decM_none fun _ hc => by have := hc.few; omega
end
end Go.Gf
