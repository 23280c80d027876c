/- Products, quotients, values, derivatives of polynomials. -/
import Derived.Test.YtpmkjpgoekjcfaaH3
namespace Go.Proofs.Ytpmkjpgoekjcfaa
open Go Go.Vc Go.Gf

/-! ## an own slice of own slices -/
theorem elemX : ElemOf Try.prog 36 22 1 24 := ⟨by kernel_rfl, ⟨Try.t22, .slice none 0 0, by kernel_rfl, by kernel_rfl, by kernel_rfl, by kernel_rfl, by kernel_rfl⟩, by omega⟩
/-- own bytes stay where rows of another type are written -/
theorem OwnB.other {S : Nat → Prop} {w w' : World} {base : Nat} {p : Option Addr} {n c : Nat} {bs : List UInt8} (h : OwnB w base p n c bs) (hu : Upd S w w')
    (hS : ∀ x, S x → ∃ (cs : Array Value) (e : TypeId) (fz : Nat × Nat), w.heap[x]? = some (Obj.cells cs e fz) ∧ e ≠ 5) : OwnB w' base p n c bs := by
  refine OwnS.upd h hu fun g hg hs => ?_
  obtain ⟨cs, e, fz, h1, h2⟩ := hS g hs
  rcases h.where_ with ⟨h0, _⟩ | ⟨g', h0, _, _, _, cur, hc, _⟩
  · rw [h0] at hg; cases hg
  · rw [h0] at hg
    simp only [Option.some.injEq, at0, Addr.mk.injEq, and_true] at hg
    subst hg
    rw [hc] at h1
    cases h1
    exact h2 rfl
theorem OwnS.typed {w : World} {base : Nat} {e : TypeId} {sz : Nat} {p : Option Addr} {n c : Nat} {xs : List Value} (h : OwnS w base e sz p n c xs) {x : Nat} (hx : p = some (at0 x)) :
    ∃ (cs : Array Value) (e' : TypeId) (fz : Nat × Nat), w.heap[x]? = some (Obj.cells cs e' fz) ∧ e' = e := by
  rcases h.where_ with ⟨h0, _⟩ | ⟨g, h0, _, _, _, cur, hc, _⟩
  · rw [h0] at hx; cases hx
  · rw [h0] at hx
    simp only [Option.some.injEq, at0, Addr.mk.injEq, and_true] at hx
    subst hx
    exact ⟨cur, e, (0, 0), hc, rfl⟩
def SlB (w : World) (base : Nat) (v : Value) (bs : List UInt8) : Prop := ∃ q m d, v = .slice q m d ∧ OwnB w base q m d bs
def OwnL (w : World) (base : Nat) (p : Option Addr) (n c : Nat) (L : List (List UInt8)) : Prop := ∃ vs, OwnS w base 22 1 p n c vs ∧ All2 (SlB w base) vs L
theorem SlB.one {w : World} {base : Nat} {v : Value} {bs : List UInt8} (h : SlB w base v bs) : v.oneCell' = true := by obtain ⟨q, m, d, rfl, _⟩ := h; rfl
section
variable {w w' : World} {base : Nat} {p : Option Addr} {n c : Nat} {L : List (List UInt8)}
theorem OwnL.nil (w : World) (base : Nat) : OwnL w base none 0 0 [] := ⟨[], OwnS.nil _ _ _ _, .nil⟩
theorem OwnL.len (h : OwnL w base p n c L) : n = L.length := by
  obtain ⟨vs, h1, h2⟩ := h
  have := OwnS.length h1
  rw [← h2.length]; omega
theorem all2_get {α β : Type} {R : α → β → Prop} {us : List α} {bs : List β} (h : All2 R us bs) {i : Nat} {b : β} (hb : bs[i]? = some b) : ∃ a, us[i]? = some a ∧ R a b := by
  induction h generalizing i with
  | nil => simp at hb
  | cons h1 _ ih =>
    cases i with
    | zero =>
      simp only [List.getElem?_cons_zero, Option.some.injEq] at hb
      subst hb
      exact ⟨_, rfl, h1⟩
    | succ i => exact ih (by simpa using hb)
theorem OwnL.lists (h : OwnL w base p n c L) : ListsAt w p n L := by
  have hl := OwnL.len h
  obtain ⟨vs, h1, h2⟩ := h
  refine ⟨hl, fun i hi => ?_⟩
  obtain ⟨v, hv, q, m, d, rfl, ho⟩ := all2_get h2 (i := i) (b := L[i]'(by omega)) (by simp)
  obtain ⟨a, ha, hc⟩ := OwnS.cells h1 i _ hv
  refine ⟨a, q, m, d, ha, hc, ?_, OwnB.le ho⟩
  rw [List.getD_eq_getElem?_getD, List.getElem?_eq_getElem (by omega)]
  exact OwnB.bytes ho
theorem OwnL.ext (h : OwnL w base p n c L) (hu : Ext w w') : OwnL w' base p n c L := by
  obtain ⟨vs, h1, h2⟩ := h
  exact ⟨vs, OwnS.ext h1 hu, h2.mono fun v bs ⟨q, m, d, e, ho⟩ => ⟨q, m, d, e, OwnB.ext ho hu⟩⟩
theorem OwnL.base_le {base' : Nat} (h : OwnL w base p n c L) (hb : base' ≤ base) : OwnL w base' p n c L := by
  obtain ⟨vs, h1, h2⟩ := h
  exact ⟨vs, OwnS.base_le h1 hb, h2.mono fun v bs ⟨q, m, d, e, ho⟩ => ⟨q, m, d, e, OwnB.base_le ho hb⟩⟩
/-- one slice more -/
theorem OwnL.push {w1 : World} {k : Nat} {q : Option Addr} {m d : Nat} {bs : List UInt8} (h : OwnL w base p n c L) (hb : OwnB w base q m d bs) (hk : NewB w k (.cells #[.slice q m d] 22) w1) (hbase : base ≤ w.heap.size) (hn : n ≤ 1073741824) :
    ∃ p' c' w2, Sem.run Try.prog (Builtin.append_ #[36, 36] 36 #[.slice p n c, .slice (some (at0 k)) 1 1]) w1 = .ok (.slice p' (n + 1) c') w2 ∧ OwnL w2 base p' (n + 1) c' (L ++ [bs]) ∧
      Upd (fun x => p = some (at0 x)) w w2 := by
  obtain ⟨vs, h1, h2⟩ := h
  have h3 : OwnS w1 base 22 1 p n c vs := OwnS.ext h1 hk.ext
  have hq : CellsAt w1 (some (at0 k)) [.slice q m d] := by
    intro j u hj
    refine ⟨_, rfl, hk.row.row.cell ?_⟩
    simpa using hj
  obtain ⟨p', c', w2, hr, ho, hu, _⟩ := h3.append elemX 36 (q := some (at0 k)) (m := 1) (d := 1) (news := [.slice q m d]) rfl hq (fun h => by cases h)
    (fun u hu => by rw [List.mem_singleton] at hu; subst hu; rfl) (by unfold maxLen; omega) (by omega) (by rw [hk.size.2]; omega)
  have keep : ∀ v bs, SlB w1 base v bs → SlB w2 base v bs := fun v bs ⟨q, m, d, e, hb⟩ => ⟨q, m, d, e, OwnB.other hb hu fun x hx => by
    obtain ⟨cs, e', fz, h4, h5⟩ := OwnS.typed h3 hx
    exact ⟨cs, e', fz, h4, by rw [h5]; decide⟩⟩
  refine ⟨p', c', w2, hr, ⟨_, ho, ?_⟩, Upd.trans hk.ext.upd hu fun x _ hx => hx⟩
  refine All2.append (h2.mono fun v bs ⟨q, m, d, e, hb⟩ => keep _ _ ⟨q, m, d, e, OwnB.ext hb hk.ext⟩) (.cons (keep _ _ ⟨q, m, d, rfl, OwnB.ext hb hk.ext⟩) .nil)
theorem OwnL.blk (h : OwnL w base p n c L) {x : Nat} (hp : p = some (at0 x)) : base ≤ x := by
  obtain ⟨vs, h1, _⟩ := h
  subst hp
  rcases h1.where_ with ⟨h, _⟩ | ⟨g, h, hb, _⟩
  · cases h
  · simp only [Option.some.injEq, at0, Addr.mk.injEq, and_true] at h
    omega
end

/-! ## products -/
theorem act_snoc (q : List UInt8) (c : UInt8) (s : Se) : act (q ++ [c]) s = sa (act q s) (sh q.length (sm c s)) := by
  induction q with
  | nil =>
    show sa (sm c s) (sh1 sz) = sa sz (sh 0 (sm c s))
    rw [sh1_sz, sa_sz, sz_sa, sh_zero]
  | cons a q ih =>
    rw [List.cons_append, act, ih, act, sh1_sa, List.length_cons, sh_succ, sa_assoc]
theorem lx_act {L : List (List UInt8)} {q : List UInt8} {s : Se} (hl : L.length = q.length) (h : ∀ t, t < L.length → co (L.getD t []) = sh t (sm (co q t) s)) : ∀ n, n ≤ q.length → lx (L.take n) = act (q.take n) s
  | 0, _ => by rw [List.take_zero, List.take_zero]; rfl
  | n + 1, hn => by
    have e : q.take (n + 1) = q.take n ++ [co q n] := by
      rw [List.take_add_one, List.getElem?_eq_getElem (by omega)]
      simp [Gf.co, List.getD_eq_getElem?_getD, List.getElem?_eq_getElem (show n < q.length by omega)]
    rw [lx_take (by omega), lx_act hl h n (by omega), e, act_snoc, h n (by omega), List.length_take, Nat.min_eq_left (by omega)]

set_option maxHeartbeats 1000000 in
theorem pmul_spec {f p q : Option Addr} {n c m d : Nat} {w : World} {bs cs : List UInt8} (hf : FieldAt w f) (h : BytesAt w p n bs) (hn : n ≤ 536870912) (h' : BytesAt w q m cs) (hm : m ≤ 536870912) :
    Calls Try.prog 32 #[.pointer f, .slice p n c, .slice q m d] w fun e w' => ∃ p' n' c' r, e = .returned (.slice p' n' c') ∧ Ext w w' ∧ OwnB w' w.heap.size p' n' c' r ∧ Normal r ∧ co r = act cs (co bs) := by
  refine (F32_calls f p n c q m d w (fun v w' => ∃ p' n' c' r, v = .slice p' n' c' ∧ Ext w w' ∧ OwnB w' w.heap.size p' n' c' r ∧ Normal r ∧ co r = act cs (co bs))
    (fun _ _ _ _ _ p8 l8 c8 i w1 => 0 ≤ i ∧ i ≤ m ∧ Ext w w1 ∧ ∃ L, OwnL w1 w.heap.size p8 l8 c8 L ∧ (L.length : Int) = i ∧ ∀ t, t < L.length → co (L.getD t []) = sh t (sm (co cs t) (co bs)) ∧ (L.getD t []).length = t + n)
    (fun _ _ _ _ _ _ _ _ i _ => (m - i).toNat) ?_).mono (by
    rintro e w' ⟨v, rfl, p', n', c', r, rfl, h⟩; exact ⟨p', n', c', r, rfl, h⟩)
  have hl := h.1
  have hl' := h'.1
  refine ⟨⟨by omega, by omega, Upd.refl _ _, [], OwnL.nil _ _, rfl, fun t ht => absurd ht (by simp)⟩, ?_⟩
  rintro p8 l8 c8 i w1 ⟨hi0, hi1, hx1, L, hL, hLi, hLs⟩
  intros
  have hLn := OwnL.len hL
  refine condB_of (fun hs => ?_) (fun hs => ?_)
  · simp only [decide_eq_true_eq] at hs
    obtain ⟨a, rfl, ha⟩ := BytesAt.co (h'.ext hx1) (i := i.toNat) (by omega)
    refine ⟨⟨hi0, hs⟩, _, by rw [Nat.mul_one]; exact ha, ?_⟩
    have hsp := pscaled_spec (c := c) (t := i.toNat) (hf.ext hx1) (h.ext hx1) (by omega) (by omega) (co cs i.toNat)
    rw [show ((i.toNat : Nat) : Int) = i by omega] at hsp
    refine hsp.mono ?_
    rintro e w2 ⟨p', c', r, rfl, hx2, ho, hr⟩
    refine ⟨_, _, _, rfl, fun k w3 hk => ?_⟩
    obtain ⟨p'', c'', w4, hrun, hL4, hu4⟩ := OwnL.push (OwnL.ext hL hx2) (OwnB.base_le ho hx1.size) hk (hx1.trans hx2).size (by omega)
    have hx4 : Ext w w4 := OwnB.new_ext (hx1.trans hx2) hu4 fun x hx => OwnL.blk hL hx
    refine ⟨_, _, _, w4, hrun, ?_⟩
    rw [w64 (n := i + 1) (by omega)]
    refine ⟨⟨by omega, by omega, hx4, _, hL4, by simp; omega, fun t ht => ?_⟩, by show ((m : Int) - (i + 1)).toNat < ((m : Int) - i).toNat; omega⟩
    simp only [List.length_append, List.length_cons, List.length_nil] at ht
    by_cases ht2 : t < L.length
    · have e : (L ++ [r]).getD t [] = L.getD t [] := by simp only [List.getD_eq_getElem?_getD]; rw [List.getElem?_append_left ht2]
      rw [e]; exact hLs t ht2
    · have e0 : t = L.length := by omega
      have e : (L ++ [r]).getD t [] = r := by
        subst e0
        simp [List.getD_eq_getElem?_getD]
      rw [e, hr, show i.toNat = t by omega]
      have := OwnB.len ho
      exact ⟨rfl, by omega⟩
  · simp only [decide_eq_false_iff_not] at hs
    have hlen : L.length = cs.length := by omega
    refine (psum_spec (OwnL.lists hL) (fun x hx => ?_) (by omega)).mono ?_
    · obtain ⟨t, ht, rfl⟩ := List.getElem_of_mem hx
      have := (hLs t ht).2
      rw [List.getD_eq_getElem?_getD, List.getElem?_eq_getElem ht] at this
      simp only [Option.getD_some] at this
      omega
    · rintro e w4 ⟨p', n', c', r, rfl, hx4, ho, hnr, hco⟩
      refine ⟨_, _, _, rfl, p', n', c', r, rfl, hx1.trans hx4, OwnB.base_le ho hx1.size, hnr, ?_⟩
      have := lx_act hlen (fun t ht => (hLs t ht).1) cs.length (Nat.le_refl _)
      rw [List.take_length, List.take_of_length_le (l := L) (by omega)] at this
      rw [hco, this]

/-! ## values and derivatives -/
theorem drop_step (bs : List UInt8) {i : Nat} (hi : i < bs.length) : bs.drop i = co bs i :: bs.drop (i + 1) := by
  rw [List.drop_eq_getElem_cons hi]
  simp [Gf.co, List.getD_eq_getElem?_getD, hi]
theorem peval_spec {f p : Option Addr} {n c : Nat} {w : World} {bs : List UInt8} (hf : FieldAt w f) (h : BytesAt w p n bs) (hn : n ≤ 1073741824) (x : UInt8) :
    Calls Try.prog 34 #[.pointer f, .slice p n c, vb x] w fun e w' => e = .returned (vb (ev bs x)) ∧ Ext w w' := by
  refine (F34_calls f p n c x.toNat w (fun v w' => v = vb (ev bs x) ∧ Ext w w')
    (fun _ o i w1 => -1 ≤ i ∧ i < n ∧ Ext w w1 ∧ o = ((ev (bs.drop (i + 1).toNat) x).toNat : Int)) (fun _ _ i _ => (i + 1).toNat) ?_).mono (by rintro e w' ⟨v, rfl, rfl, h⟩; exact ⟨rfl, h⟩)
  have hl := h.1
  unfold F34
  rw [w64 (n := (n : Int) - 1) (by omega), hf.there]
  refine ⟨⟨by omega, by omega, Upd.refl _ _, ?_⟩, ?_⟩
  · rw [show ((n : Int) - 1 + 1).toNat = bs.length by omega, List.drop_length]; rfl
  rintro o i w1 ⟨hi0, hi1, hx1, rfl⟩
  intros
  refine condB_of (fun hs => ?_) (fun hs => ?_)
  · simp only [decide_eq_true_eq] at hs
    refine condB_of (fun _ => ?_) (fun h => by cases h)
    intro w2 hd
    have hx2 : Ext w w2 := hx1.trans hd.ext
    obtain ⟨a, rfl, ha⟩ := BytesAt.co (h.ext hx2) (i := i.toNat) (by omega)
    refine ⟨⟨hs, hi1⟩, _, by rw [Nat.mul_one]; exact ha, ?_⟩
    refine (fmul_spec (hf.ext hx2) _ x).mono ?_
    rintro e w3 ⟨rfl, hx3⟩
    rw [w64 (n := i - 1) (by omega)]
    refine ⟨_, rfl, ⟨_, by rw [Nat.mul_one]; exact hx3.cell ha id, rfl⟩, ⟨by omega, by omega, hx2.trans hx3, ?_⟩, by show (i - 1 + 1).toNat < (i + 1).toNat; omega⟩
    rw [bx8, show (i - 1 + 1).toNat = i.toNat by omega, show (i + 1).toNat = i.toNat + 1 by omega, drop_step bs (i := i.toNat) (by omega), ev, gm_comm x, UInt8.xor_comm]
  · simp only [decide_eq_false_iff_not] at hs
    refine ⟨?_, hx1⟩
    rw [show (i + 1).toNat = 0 by omega, List.drop_zero]

set_option maxHeartbeats 1000000 in
theorem pderiv_spec {p : Option Addr} {n c : Nat} {w : World} {bs : List UInt8} (h : BytesAt w p n bs) (hn : n ≤ 1073741824) :
    Calls Try.prog 33 #[.slice p n c] w fun e w' => ∃ p' n' c' r, e = .returned (.slice p' n' c') ∧ Ext w w' ∧ OwnB w' w.heap.size p' n' c' r ∧ Normal r ∧ co r = der (co bs) := by
  refine (F33_calls p n c w (fun v w' => ∃ p' n' c' r, v = .slice p' n' c' ∧ Ext w w' ∧ OwnB w' w.heap.size p' n' c' r ∧ Normal r ∧ co r = der (co bs))
    (fun q _ _ _ i w1 => 1 ≤ i ∧ i ≤ n + 2 ∧ i % 2 = 1 ∧ Ext w w1 ∧ ∃ r, OwnB w1 w.heap.size q n n r ∧ ∀ j : Nat, co r j = if j % 2 = 0 ∧ (j : Int) + 1 < i then co bs (j + 1) else 0) (fun _ _ _ _ i _ => (n + 3 - i).toNat) ?_).mono (by
    rintro e w' ⟨v, rfl, p', n', c', r, rfl, h⟩; exact ⟨p', n', c', r, rfl, h⟩)
  have hl := h.1
  refine ⟨⟨by omega, by omega, by omega⟩, fun k w3 hk => ?_⟩
  rw [Int.toNat_natCast] at hk ⊢
  have h3 : OwnB w3 w.heap.size (some (at0 k)) n n (List.replicate n 0) := OwnB.made hk (by rw [hk.size.1]; exact Nat.le_refl _) (by unfold maxLen; omega)
  refine ⟨⟨by omega, by omega, by omega, hk.ext, _, h3, fun j => ?_⟩, ?_⟩
  · rw [if_neg (by omega)]
    simp only [Gf.co, List.getD_eq_getElem?_getD, List.getElem?_replicate]
    split <;> rfl
  rintro i w1 ⟨hi0, hi1, hodd, hx1, r, ho, hr⟩
  intros
  refine condB_of (fun hs => ?_) (fun hs => ?_)
  · simp only [decide_eq_true_eq] at hs
    obtain ⟨a, rfl, ha⟩ := BytesAt.co (h.ext hx1) (i := i.toNat) (by omega)
    obtain ⟨k', hk', hb', hlive, _, hset⟩ := OwnB.at ho (i := i.toNat - 1) (by omega)
    simp only [Option.some.injEq, at0, Addr.mk.injEq, and_true] at hk'
    subst hk'
    rw [w64 (n := i - 1) (by omega), w64 (n := i + 2) (by omega)]
    have e1 : (i - 1).toNat = i.toNat - 1 := by omega
    simp only [e1, Nat.mul_one]
    refine ⟨⟨by omega, hs⟩, _, ha, ⟨by omega, by omega⟩, hlive, fun w4 hs4 => ?_⟩
    obtain ⟨ho4, hu4⟩ := hset _ _ hs4
    have hlen := OwnB.len ho
    refine ⟨⟨by omega, by omega, by omega, OwnB.new_ext hx1 hu4 (fun y hy => by omega), _, ho4, fun j => ?_⟩, by show ((n : Int) + 3 - (i + 2)).toNat < ((n : Int) + 3 - i).toNat; omega⟩
    rw [co_set (by omega)]
    by_cases hj : j = i.toNat - 1
    · rw [if_pos hj, if_pos (by omega), show j + 1 = i.toNat by omega]
    · rw [if_neg hj, hr]
      by_cases h5 : j % 2 = 0 ∧ (j : Int) + 1 < i
      · rw [if_pos h5, if_pos (by omega)]
      · rw [if_neg h5, if_neg (by omega)]
  · simp only [decide_eq_false_iff_not] at hs
    refine (pnorm_spec (OwnB.bytes ho) (Nat.le_refl _) hn).mono ?_
    rintro e w4 ⟨p', n', c', r', rfl, hx4, ho4, hnr, hco⟩
    refine ⟨_, _, _, rfl, p', n', c', r', rfl, hx1.trans hx4, OwnB.base_le ho4 hx1.size, hnr, funext fun j => ?_⟩
    rw [hco, hr]
    unfold der
    by_cases h5 : j % 2 = 0
    · rw [if_pos h5]
      by_cases h6 : (j : Int) + 1 < i
      · rw [if_pos ⟨h5, h6⟩]
      · rw [if_neg (by omega), co_out (p := bs) (by omega)]
    · rw [if_neg h5, if_neg (by omega)]
end Go.Proofs.Ytpmkjpgoekjcfaa
