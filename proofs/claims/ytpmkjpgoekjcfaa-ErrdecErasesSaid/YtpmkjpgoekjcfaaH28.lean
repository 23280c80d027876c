/- Stripes: copies of shards, shards changed. -/
import Derived.Test.YtpmkjpgoekjcfaaH27
namespace Go.Proofs.Ytpmkjpgoekjcfaa
open Go Go.Vc Go.Gf

theorem RowsS.congr {w : World} {base n c : Nat} {p : Option Addr} {L L' : Nat → List UInt8} (h : RowsS w base p n c L) (hL : ∀ i, i < n → L' i = L i) : RowsS w base p n c L' := by
  obtain ⟨P, g1, g2, g3⟩ := h
  exact ⟨P, g1, fun t ht => by rw [hL t ht]; exact g2 t ht, g3⟩
theorem RowsS.nil (w : World) (base : Nat) (L : Nat → List UInt8) : RowsS w base none 0 0 L :=
  ⟨fun _ => (none, 0, 0), OwnS.nil _ _ _ _, fun t ht => (Nat.not_lt_zero _ ht).elim, fun _ _ h => (Nat.not_lt_zero _ h).elim⟩

set_option maxHeartbeats 2000000 in
theorem copied_spec {p : Option Addr} {l c : Nat} {w : World} {L : List (List UInt8)} (h : ListsAt w p l L) (hl : l ≤ 1048576) (bl : ∀ x ∈ L, x.length ≤ 1048576) :
    Calls Try.prog 25 #[.slice p l c] w fun e w' => ∃ p' c', e = .returned (.slice p' l c') ∧ Ext w w' ∧ RowsS w' w.heap.size p' l c' (fun t => L.getD t []) := by
  refine (F25_calls p l c w (fun v w' => ∃ p' c', v = .slice p' l c' ∧ Ext w w' ∧ RowsS w' w.heap.size p' l c' (fun t => L.getD t []))
    (fun _ p2 l2 c2 i w4 => 0 ≤ i ∧ i ≤ l ∧ Ext w w4 ∧ (l2 : Int) = i ∧ RowsS w4 w.heap.size p2 l2 c2 (fun t => L.getD t [])) (fun _ _ _ _ i _ => (l - i).toNat) ?_).mono (by rintro e w' ⟨v, rfl, p', c', rfl, h⟩; exact ⟨p', c', rfl, h⟩)
  have hL := h.1
  refine ⟨⟨by omega, by omega, Upd.refl _ _, rfl, RowsS.nil _ _ _⟩, ?_⟩
  rintro p2 l2 c2 i w4 ⟨hi0, hi1, hx, hl2, hR⟩
  intros
  refine condB_of (fun hs => ?_) (fun hs => ?_)
  · simp only [decide_eq_true_eq] at hs
    intro k20 w21 h21
    have o21 : OwnB w21 w4.heap.size (some (at0 k20)) 0 0 [] := OwnS.made h21 (by rw [h21.size.1]; exact Nat.le_refl _) (Nat.le_refl _) (by unfold maxLen; omega) rfl
    obtain ⟨a, q, ln, cn, rfl, hc, hq, _⟩ := (h.ext (hx.trans h21.ext)).2 i.toNat (by omega)
    have hqn := hq.1
    have hlen : (L.getD i.toNat []).length ≤ 1048576 := by
      rw [List.getD_eq_getElem?_getD, List.getElem?_eq_getElem (by omega)]
      exact bl _ (List.getElem_mem _)
    obtain ⟨p25, c25, w24, hr, o24, u24⟩ := OwnB.append (d := cn) o21 hq h21.ext.size (by omega)
    rw [List.nil_append] at o24
    have x24 : Ext w4 w24 := OwnB.new_ext h21.ext u24 fun x hx => OwnB.blk o21 hx
    refine ⟨⟨hi0, hs⟩, _, _, _, by rw [Nat.mul_one]; exact hc, _, _, _, w24, hr, fun k26 w27 h27 => ?_⟩
    obtain ⟨p', c', w28, hr', hR', hu⟩ := hR.push x24 o24 h27 hx.size (by omega)
    rw [w64 (n := i + 1) (by omega)]
    refine ⟨_, _, _, w28, hr', ⟨by omega, by omega, OwnB.new_ext (hx.trans x24) hu fun y hy => ?_, by omega, hR'.congr fun t ht => ?_⟩, by show ((l : Int) - (i + 1)).toNat < ((l : Int) - i).toNat; omega⟩
    · obtain ⟨P, g1, _⟩ := hR
      exact OwnS.blk g1 hy
    · by_cases e : t = l2
      · rw [if_pos e, show t = i.toNat by omega]
      · rw [if_neg e]
  · simp only [decide_eq_false_iff_not] at hs
    obtain rfl : l2 = l := by omega
    exact ⟨p2, c2, rfl, hx, hR⟩

theorem RowsS.first {w : World} {base n c : Nat} {p : Option Addr} {L : Nat → List UInt8} (h : RowsS w base p n c L) (hn : 0 < n) : ∃ g, p = some (at0 g) ∧ base ≤ g ∧ RowsAt w base (at0 g) n L := by
  obtain ⟨P, g1, g2, g3⟩ := h
  rcases g1.where_ with ⟨_, h0, _⟩ | ⟨g, h0, hb, _⟩
  · omega
  · exact ⟨g, h0, hb, RowsS.rows ⟨P, g1, g2, g3⟩ h0⟩
theorem RowsAt.put {w0 w w' : World} {base k n i : Nat} {L : Nat → List UInt8} (h : RowsAt w0 base (at0 k) n L) (hx : Ext w0 w) (hi : i < n) {p : Option Addr} {m c : Nat} {bs : List UInt8} (ho : OwnB w w0.heap.size p m c bs) (hb : base ≤ w0.heap.size)
    (hs : SetC w ((at0 k).add i) (.slice p m c) w') : RowsAt w' base (at0 k) n (fun t => if t = i then bs else L t) ∧ Upd (fun x => x = k) w w' := by
  obtain ⟨cs, h1⟩ := (h.ext hx).typ (by omega)
  have h1 : RowK w k 22 cs := h1
  obtain ⟨P, h3, h4⟩ := h.own
  have hcs : i < cs.size := by
    have h5 := hx.cell (h3 i hi).1 id
    rw [rowk_cell h1] at h5
    exact (Array.getElem?_eq_some_iff.1 h5).1
  obtain ⟨r', hu⟩ := h1.set3 hs
  have fresh : ∀ t, t < n → ∀ g, (P t).1 = some (at0 g) → p ≠ some (at0 g) := fun t ht g hg he => by
    have h5 := (h3 t ht).2
    rw [hg] at h5
    have := OwnS.lt_heap h5
    have := OwnB.blk ho he
    omega
  refine ⟨⟨fun _ => ⟨_, r'⟩, fun t => if t = i then (p, m, c) else P t, fun t ht => ?_, ?_⟩, hu⟩
  · dsimp only
    rw [rowk_cell r', Array.getElem?_setIfInBounds]
    by_cases e : t = i
    · subst e
      simp only [if_true]
      rw [if_pos hcs]
      exact ⟨rfl, OwnB.base_le (OwnB.apart ho hu h1 ty_out.1.symm) hb⟩
    · rw [if_neg (fun e2 => e e2.symm), if_neg e, if_neg e]
      refine ⟨?_, OwnB.apart (OwnB.ext (h3 t ht).2 hx) hu h1 ty_out.1.symm⟩
      rw [← rowk_cell h1]
      exact hx.cell (h3 t ht).1 id
  · intro s t hs' ht hst g hg
    dsimp only at hg ⊢
    by_cases h5 : s = i
    · rw [if_pos h5] at hg
      rw [if_neg (fun e => hst (h5.trans e.symm))]
      exact fun he => fresh t ht g he hg
    · rw [if_neg h5] at hg
      by_cases h6 : t = i
      · rw [if_pos h6]; exact fresh s hs' g hg
      · rw [if_neg h6]; exact h4 s t hs' ht hst g hg
theorem RowsAt.otherT {w w' : World} {base n : Nat} {a : Addr} {L : Nat → List UInt8} {S : Nat → Prop} (h : RowsAt w base a n L) (hu : Upd S w w') (hS : ∀ x, S x → ∃ (cs : Array Value) (e : TypeId) (fz : Nat × Nat), w.heap[x]? = some (Obj.cells cs e fz) ∧ e ≠ 5 ∧ e ≠ 22) : RowsAt w' base a n L := by
  obtain ⟨P, h3, h4⟩ := h.own
  have hk : 0 < n → ¬ S a.block := fun hn hs => by
    obtain ⟨cs, h1⟩ := h.typ hn
    obtain ⟨cs', e, fz, h5, _, h6⟩ := hS _ hs
    unfold RowK at h1
    rw [h1] at h5
    cases h5
    exact h6 rfl
  refine ⟨fun hn => let ⟨cs, h1⟩ := h.typ hn; ⟨cs, hu.keep h1 (hk hn)⟩, P, fun i hi => ⟨hu.cell (h3 i hi).1 (by rw [add_block]; exact hk (by omega)), OwnB.other (h3 i hi).2 hu fun x hx => ?_⟩, h4⟩
  obtain ⟨cs', e, fz, h5, h6, _⟩ := hS x hx
  exact ⟨cs', e, fz, h5, h6⟩

/-! ## what is changed -/
/-- a shard as it is handed in -/
def strRow (hs bad : List Bool) (b : UInt8) (R : List UInt8) (t : Nat) : List UInt8 :=
  if hs.getD t false = false then [b] else if bad.getD t false = true ∧ 0 < R.length then R.set (t % R.length) (co R (t % R.length) ^^^ b) else R
def strBad (hs bad : List Bool) (s n : Nat) : List Nat := (List.range n).filter fun t => hs.getD t false && (bad.getD t false && decide (0 < s))
theorem strBad_succ (hs bad : List Bool) (s n : Nat) : strBad hs bad s (n + 1) = strBad hs bad s n ++ (if (hs.getD n false && (bad.getD n false && decide (0 < s))) = true then [n] else []) := range_filter_succ _ _
theorem strBad_le (hs bad : List Bool) (s n : Nat) : (strBad hs bad s n).length ≤ n := by
  unfold strBad
  exact Nat.le_trans (List.length_filter_le _ _) (by simp)
theorem sorted_ext : ∀ {l l' : List Nat}, l.Pairwise (· < ·) → l'.Pairwise (· < ·) → (∀ x, x ∈ l ↔ x ∈ l') → l = l'
  | [], [], _, _, _ => rfl
  | [], b :: _, _, _, h => by have := (h b).2 List.mem_cons_self; cases this
  | a :: _, [], _, _, h => by have := (h a).1 List.mem_cons_self; cases this
  | a :: l, b :: l', h1, h2, h => by
    rw [List.pairwise_cons] at h1 h2
    have e : a = b := by
      rcases List.mem_cons.1 ((h a).1 List.mem_cons_self) with e | e
      · exact e
      · rcases List.mem_cons.1 ((h b).2 List.mem_cons_self) with e2 | e2
        · exact e2.symm
        · have := h2.1 _ e
          have := h1.1 _ e2
          omega
    subst e
    rw [sorted_ext h1.2 h2.2 fun x => ⟨fun hx => ?_, fun hx => ?_⟩]
    · rcases List.mem_cons.1 ((h x).1 (List.mem_cons_of_mem _ hx)) with e | e
      · have := h1.1 _ hx; omega
      · exact e
    · rcases List.mem_cons.1 ((h x).2 (List.mem_cons_of_mem _ hx)) with e | e
      · have := h2.1 _ hx; omega
      · exact e
theorem mis_some {n : Nat} {ms : List Bool} (h : (mis n ms).length < n) : ∃ i, i < n ∧ ms.getD i false = false := by
  refine Decidable.byContradiction fun hno => ?_
  have : mis n ms = List.range n := by
    unfold mis
    refine List.filter_eq_self.2 fun i hi => ?_
    rw [List.mem_range] at hi
    cases hb : ms.getD i false with
    | true => rfl
    | false => exact (hno ⟨i, hi, hb⟩).elim
  rw [this, List.length_range] at h
  omega

section
variable {k m n s : Nat} {hs bad : List Bool} {b : UInt8} {L : List (List UInt8)} {Lc : List (List UInt8)}
theorem encRow_len (k m : Nat) (L : List (List UInt8)) (t : Nat) : (encRow k m L t).length = (L.getD 0 []).length := by simp [encRow]
theorem encRow_co {k m : Nat} {L : List (List UInt8)} {t x : Nat} (hx : x < (L.getD 0 []).length) : co (encRow k m L t) x = co (enc k m (L.map fun y => co y x)) t := range_co _ hx
theorem strRow_co {R : List UInt8} {t x : Nat} (ht : hs.getD t false = true) (hx : x < R.length) : co (strRow hs bad b R t) x = if bad.getD t false = true ∧ x = t % R.length then co R x ^^^ b else co R x := by
  unfold strRow
  rw [if_neg (by rw [ht]; exact fun h => by cases h)]
  by_cases h1 : bad.getD t false = true
  · rw [if_pos ⟨h1, by omega⟩, co_set (Nat.mod_lt _ (by omega))]
    by_cases h2 : x = t % R.length
    · rw [if_pos h2, if_pos ⟨h1, h2⟩, h2]
    · rw [if_neg h2, if_neg fun h => h2 h.2]
  · rw [if_neg fun h => h1 h.1, if_neg fun h => h1 h.1]
theorem strRow_len {R : List UInt8} {t : Nat} (ht : hs.getD t false = true) : (strRow hs bad b R t).length = R.length := by
  unfold strRow
  rw [if_neg (by rw [ht]; exact fun h => by cases h)]
  by_cases h1 : bad.getD t false = true ∧ 0 < R.length
  · rw [if_pos h1, List.length_set]
  · rw [if_neg h1]
/-- where a column differs -/
theorem str_dif (hn : n = k + m) (hh : hs.length = n) (hb : b ≠ 0) (hL : ∀ t, t < n → Lc.getD t [] = strRow hs bad b (encRow k m L t) t) {x : Nat} (hx : x < (L.getD 0 []).length) :
    dif n (nots hs) (enc k m (L.map fun y => co y x)) (wordAt n hs Lc x) = (List.range n).filter fun t => hs.getD t false && (bad.getD t false && decide (t % (L.getD 0 []).length = x)) := by
  refine List.filter_congr fun t ht => ?_
  rw [List.mem_range] at ht
  rw [nots_get (by omega), Bool.not_not]
  cases h1 : hs.getD t false with
  | false => rfl
  | true =>
    rw [Bool.true_and, Bool.true_and, co_wordAt ht, if_pos h1, hL t ht, strRow_co h1 (by rw [encRow_len]; exact hx), encRow_len, encRow_co hx]
    by_cases h2 : bad.getD t false = true ∧ x = t % (L.getD 0 []).length
    · rw [if_pos h2, h2.1, Bool.true_and, decide_eq_true h2.2.symm, decide_eq_true]
      intro h3
      have h4 : co (enc k m (L.map fun y => co y x)) t ^^^ co (enc k m (L.map fun y => co y x)) t = co (enc k m (L.map fun y => co y x)) t ^^^ (co (enc k m (L.map fun y => co y x)) t ^^^ b) := by rw [← h3]
      rw [xx, xx_left] at h4
      exact hb h4.symm
    · rw [if_neg h2, decide_eq_false (fun h => h rfl)]
      cases h3 : bad.getD t false with
      | false => rfl
      | true => rw [Bool.true_and, decide_eq_false (fun h => h2 ⟨h3, h.symm⟩)]
theorem filter_len_le {n : Nat} {f g : Nat → Bool} (h : ∀ t, f t = true → g t = true) : ((List.range n).filter f).length ≤ ((List.range n).filter g).length := by
  induction n with
  | zero => simp
  | succ n ih =>
    rw [range_filter_succ, range_filter_succ, List.length_append, List.length_append]
    by_cases h1 : f n = true
    · rw [if_pos h1, if_pos (h n h1)]; simpa using ih
    · rw [if_neg h1]
      simp only [List.length_nil]; omega
theorem str_near (hn : n = k + m) (hkm : n ≤ 256) (hh : hs.length = n) (hb : b ≠ 0) (hk : L.length = k) (hL : ∀ t, t < n → Lc.getD t [] = strRow hs bad b (encRow k m L t) t)
    (hfew : 2 * (strBad hs bad (L.getD 0 []).length n).length + (mis n (nots hs)).length ≤ m) {x : Nat} (hx : x < (L.getD 0 []).length) :
    decM k m (wordAt n hs Lc x) (nots hs) = some (enc k m (L.map fun y => co y x)) := by
  refine decM_some (by omega) ⟨enc_code (by omega) (by rw [List.length_map, hk]), ?_⟩
  rw [← hn, str_dif hn hh hb hL hx]
  have : ((List.range n).filter fun t => hs.getD t false && (bad.getD t false && decide (t % (L.getD 0 []).length = x))).length ≤ (strBad hs bad (L.getD 0 []).length n).length := by
    refine filter_len_le fun t ht => ?_
    simp only [Bool.and_eq_true, decide_eq_true_eq] at ht ⊢
    exact ⟨ht.1, ht.2.1, by omega⟩
  omega
end

set_option maxHeartbeats 2000000 in
/-- shards are checked, however long they are -/
theorem checked_long {f p5 : Option Addr} {w : World} {l5 c5 : Nat} {L : List (List UInt8)} (hf : FieldAt w f) (h5 : ListsAt w p5 l5 L) (b5 : l5 ≤ 4611686018427387904) (k m n : Int) :
    Calls Try.prog 48 #[.pointer f, .int .i64 k, .int .i64 m, .int .i64 n, .slice p5 l5 c5] w fun e w' => Ext w w' ∧
      ((¬ kmOk k m ∧ ∃ a b p l c, e = .returned (.tuple #[matV a b p l c, .int .i64 50])) ∨ (kmOk k m ∧ ¬ Alike n l5 L ∧ ∃ a b p l c, e = .returned (.tuple #[matV a b p l c, .int .i64 60])) ∨
        kmOk k m ∧ Alike n l5 L ∧ ∃ p l c, e = .returned (.tuple #[matV m k p l c, .int .i64 0]) ∧ OwnB w' w.heap.size p l c (genA (parV k.toNat) k.toNat (m.toNat * k.toNat))) := by
  refine (F48_calls f k m n p5 l5 c5 w (chkP w k m n l5 L)
    (fun _ _ _ _ _ _ w18 b i w1 => b = !decide ((l5 : Int) = n) ∧ 0 ≤ i ∧ i ≤ l5 ∧ w1 = w18 ∧ ∀ j : Nat, (j : Int) < i → (L.getD j []).length = (L.getD 0 []).length) (fun _ _ _ _ _ _ _ _ i _ => (l5 - i).toNat) ?_).mono (by
    rintro e w' ⟨v, rfl, hx, ⟨h, a, b, p, l, c, rfl⟩ | ⟨h, h2, a, b, p, l, c, rfl⟩ | ⟨h, h2, p, l, c, rfl, ho⟩⟩
    · exact ⟨hx, .inl ⟨h, a, b, p, l, c, rfl⟩⟩
    · exact ⟨hx, .inr (.inl ⟨h, h2, a, b, p, l, c, rfl⟩)⟩
    · exact ⟨hx, .inr (.inr ⟨h, h2, p, l, c, rfl, ho⟩)⟩)
  have hl5 := h5.1
  intro k6 w7 h6
  have r6 : RowK w7 k6 82 (matC 0 0 none 0 0) := h6.at
  have n6 : w.heap.size ≤ k6 := by rw [h6.size.1]; exact Nat.le_refl _
  refine (cparity_spec (hf.ext h6.ext) k m).mono ?_
  have main : ∀ (w8 : World) (a b : Int) (p : Option Addr) (l c : Nat) (er : Int), Ext w7 w8 → ∀ (K : Nat → World → Prop), (∀ k14 w18, RowK w18 k14 82 (matC a b p l c) → RowK w18 k6 82 (matC 0 0 none 0 0) → k6 ≠ k14 → Ext w8 w18 → K k14 w18) →
      (∀ (k14 : Nat) (w15 : World), NewB w8 k14 (.cells #[.int .i64 (0 : Int), .int .i64 (0 : Int), .slice none 0 0] 82) w15 → (Live w15 (at0 k14) ∧ (∀ w16 : World, SetC w15 (at0 k14) (Value.int .i64 a) w16 → (Live w16 ((at0 k14).add 1) ∧ (∀ w17 : World, SetC w16 ((at0 k14).add 1) (Value.int .i64 b) w17 →
        (Live w17 ((at0 k14).add 2) ∧ (∀ w18 : World, SetC w17 ((at0 k14).add 2) (Value.slice p l c) w18 → K k14 w18))))))) := by
    intro w8 a b p l c er hx K hK k14 w15 h14
    have r14 : RowK w15 k14 82 (matC 0 0 none 0 0) := h14.at
    have n14 : w8.heap.size ≤ k14 := by rw [h14.size.1]; exact Nat.le_refl _
    have ne : k6 ≠ k14 := by have := lt_of_heap r6; have := hx.size; omega
    refine ⟨r14.live0 (by simp), fun w16 s16 => ?_⟩
    obtain ⟨c1, v1⟩ := r14.set0 s16
    refine ⟨c1.live3 (by simp), fun w17 s17 => ?_⟩
    obtain ⟨c2, v2⟩ := c1.set3 s17
    refine ⟨c2.live3 (by simp), fun w18 s18 => ?_⟩
    obtain ⟨c3, v3⟩ := c2.set3 s18
    exact hK k14 w18 c3 (v3.keep (v2.keep (v1.keep (h14.ext.keep (hx.keep r6)) ne) ne) ne) ne (ext_upd (ext_upd (ext_upd h14.ext n14 v1) n14 v2) n14 v3)
  rintro e w8 ⟨x8, ⟨hk, rfl⟩ | ⟨hk, p, l, c, rfl, ho⟩⟩
  · refine ⟨_, _, _, _, _, _, rfl, main w8 _ _ _ _ _ 50 x8 _ fun k14 w18 r14 r6' ne x18 => condB_of (fun _ => ?_) (fun h => by simp at h)⟩
    exact ret3 (R := chkP w k m n l5 L) r14 r6' rfl fun w' hu => ⟨ext_upd (h6.ext.trans (x8.trans x18)) n6 hu, .inl ⟨hk, _, _, _, _, _, rfl⟩⟩
  · refine ⟨_, _, _, _, _, _, rfl, main w8 _ _ _ _ _ 0 x8 _ fun k14 w18 r14 r6' ne x18 => condB_of (fun h => by simp at h) fun _ => ?_⟩
    have x18' := h6.ext.trans (x8.trans x18)
    have bad : ¬ Alike n l5 L → F48_A0 w18 k14 k6 (chkP w k m n l5 L)
        (fun _ _ _ _ _ _ w18 b i w1 => b = !decide ((l5 : Int) = n) ∧ 0 ≤ i ∧ i ≤ l5 ∧ w1 = w18 ∧ ∀ j : Nat, (j : Int) < i → (L.getD j []).length = (L.getD 0 []).length) (fun _ _ _ _ _ _ _ _ i _ => (l5 - i).toNat) := fun hna => by
      unfold F48_A0
      exact ret3 (R := chkP w k m n l5 L) r14 r6' rfl fun w' hu => ⟨ext_upd x18' n6 hu, .inr (.inl ⟨hk, hna, _, _, _, _, _, rfl⟩)⟩
    refine ⟨⟨rfl, by omega, by omega, rfl, fun j hj => by omega⟩, ?_⟩
    rintro b i w36 ⟨rfl, hi0, hi1, rfl, hall⟩
    intros
    refine condB_of (fun hs => ?_) (fun hs => ?_)
    · simp only [decide_eq_true_eq] at hs
      obtain ⟨a, q, ln, cn, rfl, hc, hq, _⟩ := (h5.ext x18').2 i.toNat (by omega)
      obtain ⟨a', q', ln', cn', ha', hc', hq', _⟩ := (h5.ext x18').2 0 (by omega)
      cases ha'
      have e1 := hq.1
      have e2 := hq'.1
      refine ⟨⟨hi0, hs⟩, _, _, _, by rw [Nat.mul_one]; exact hc, ⟨by omega, by omega⟩, _, _, _, hc', condB_of (fun hne => ?_) (fun hne => ?_)⟩
      · simp only [Bool.not_eq_true', decide_eq_false_iff_not] at hne
        refine bad fun hal => hne ?_
        have := hal.2 i.toNat (by omega)
        omega
      · simp only [Bool.not_eq_false', decide_eq_true_eq] at hne
        rw [w64 (n := i + 1) (by omega)]
        refine ⟨⟨rfl, by omega, by omega, rfl, fun j hj => ?_⟩, by show ((l5 : Int) - (i + 1)).toNat < ((l5 : Int) - i).toNat; omega⟩
        by_cases h1 : (j : Int) < i
        · exact hall j h1
        · rw [show j = i.toNat by omega]; omega
    · simp only [decide_eq_false_iff_not] at hs
      refine condB_of (fun hn => ?_) (fun hn => ?_)
      · simp only [Bool.not_eq_true', decide_eq_false_iff_not] at hn
        exact bad fun hal => hn hal.1
      · simp only [Bool.not_eq_false', decide_eq_true_eq] at hn
        refine ret3 (R := chkP w k m n l5 L) r14 r6' rfl fun w' hu => ⟨ext_upd x18' n6 hu, .inr (.inr ⟨hk, ⟨hn, fun i hi => hall i (by omega)⟩, p, l, c, rfl, ?_⟩)⟩
        exact OwnB.base_le (OwnB.apart (OwnB.ext ho x18) hu r6' ty_mat.1) h6.ext.size

set_option maxHeartbeats 2000000 in
/-- shards that are not alike are not encoded, however long -/
theorem encode_not {f p : Option Addr} {w : World} {l c : Nat} {L : List (List UInt8)} (hf : FieldAt w f) (h : ListsAt w p l L) (hl : l ≤ 4611686018427387904) (k m : Int) (hna : ¬ Alike k l L) :
    Calls Try.prog 22 #[.pointer f, .int .i64 k, .int .i64 m, .slice p l c] w fun e w' => ∃ v, e = .returned v ∧ encP w k m l L v w' := by
  refine F22_calls f k m p l c w (encP w k m l L) (fun _ _ _ _ _ _ _ _ => False) (fun _ _ _ _ _ _ _ _ => 0) (fun _ _ _ _ _ _ _ _ _ _ _ => False) (fun _ _ _ _ _ _ _ _ _ _ _ => 0) ?_
  refine (checked_long hf h hl k m k).mono ?_
  have main : ∀ (w5 : World) (a b : Int) (p : Option Addr) (l c : Nat), Ext w w5 → ∀ (K : Nat → World → Prop), (∀ k11 w15, Ext w5 w15 → K k11 w15) →
      (∀ (k11 : Nat) (w12 : World), NewB w5 k11 (.cells #[.int .i64 (0 : Int), .int .i64 (0 : Int), .slice none 0 0] 82) w12 → (Live w12 (at0 k11) ∧ (∀ w13 : World, SetC w12 (at0 k11) (Value.int .i64 a) w13 → (Live w13 ((at0 k11).add 1) ∧ (∀ w14 : World, SetC w13 ((at0 k11).add 1) (Value.int .i64 b) w14 →
        (Live w14 ((at0 k11).add 2) ∧ (∀ w15 : World, SetC w14 ((at0 k11).add 2) (Value.slice p l c) w15 → K k11 w15))))))) := by
    intro w5 a b p l c hx K hK k11 w12 h11
    have r11 : RowK w12 k11 82 (matC 0 0 none 0 0) := h11.at
    have n11 : w5.heap.size ≤ k11 := by rw [h11.size.1]; exact Nat.le_refl _
    refine ⟨r11.live0 (by simp), fun w13 s13 => ?_⟩
    obtain ⟨c1, v1⟩ := r11.set0 s13
    refine ⟨c1.live3 (by simp), fun w14 s14 => ?_⟩
    obtain ⟨c2, v2⟩ := c1.set3 s14
    refine ⟨c2.live3 (by simp), fun w15 s15 => ?_⟩
    obtain ⟨c3, v3⟩ := c2.set3 s15
    exact hK k11 w15 (ext_upd (ext_upd (ext_upd h11.ext n11 v1) n11 v2) n11 v3)
  rintro e w5 ⟨x5, ⟨hk, a, b, pA, lA, cA, rfl⟩ | ⟨hk, hal, a, b, pA, lA, cA, rfl⟩ | ⟨hk, hal, _⟩⟩
  · refine ⟨_, _, _, _, _, _, rfl, main w5 _ _ _ _ _ x5 _ fun k11 w15 x15 => condB_of (fun _ => ?_) (fun h => by simp at h)⟩
    exact ⟨x5.trans x15, .inl ⟨hk, rfl⟩⟩
  · refine ⟨_, _, _, _, _, _, rfl, main w5 _ _ _ _ _ x5 _ fun k11 w15 x15 => condB_of (fun _ => ?_) (fun h => by simp at h)⟩
    exact ⟨x5.trans x15, .inr (.inl ⟨hk, hal, rfl⟩)⟩
  · exact (hna hal).elim
theorem encode_any {f p : Option Addr} {w : World} {l c : Nat} {L : List (List UInt8)} (hf : FieldAt w f) (h : ListsAt w p l L) (h0 : (L.getD 0 []).length ≤ 1048576) (hl : l ≤ 4611686018427387904) (k m : Int) :
    Calls Try.prog 22 #[.pointer f, .int .i64 k, .int .i64 m, .slice p l c] w fun e w' => ∃ v, e = .returned v ∧ encP w k m l L v w' := by
  by_cases hal : Alike k l L
  · refine encode_spec hf h (fun x hx => ?_) hl k m
    obtain ⟨i, hi, rfl⟩ := List.getElem_of_mem hx
    have h1 := hal.2 i (by rw [h.1]; exact hi)
    rw [List.getD_eq_getElem?_getD, List.getElem?_eq_getElem hi, Option.getD_some] at h1
    omega
  · exact encode_not hf h hl k m hal
end Go.Proofs.Ytpmkjpgoekjcfaa
