/- Places are sorted, each once. -/
import Derived.Test.YtpmkjpgoekjcfaaH16
import Derived.Test.YtpmkjpgoekjcfaaH17
import Derived.Sort.OwnSortedInts
import Derived.Lib.SliceRun
namespace Go.Proofs.Ytpmkjpgoekjcfaa
open Go Go.Vc Go.Gf

theorem OwnN.le {w : World} {base : Nat} {p : Option Addr} {n c : Nat} {l : List Nat} (h : OwnN w base p n c l) : n ≤ c := by
  rcases h.where_ with ⟨_, rfl, rfl⟩ | ⟨g, _, _, _, h, _⟩
  · exact Nat.le_refl _
  · exact h
theorem OwnN.get {w : World} {base : Nat} {p : Option Addr} {n c : Nat} {l : List Nat} (h : OwnN w base p n c l) {i : Nat} (hi : i < n) : ∃ k, p = some (at0 k) ∧ w.cell? ((at0 k).add i) = some (.int .i64 ((l.getD i 0 : Nat) : Int)) ∧ Live w ((at0 k).add i) ∧
    ∀ (v : Nat) w', SetC w ((at0 k).add i) (.int .i64 (v : Int)) w' → OwnN w' base (some (at0 k)) n c (l.set i v) ∧ Upd (fun x => x = k) w w' := by
  have hl := OwnN.len h
  rcases h.where_ with ⟨_, h0, _⟩ | ⟨k, rfl, hb, _⟩
  · omega
  · have hlt : i < l.length := by omega
    obtain ⟨a, ha, hc⟩ := OwnS.cells h i (.int .i64 ((l[i] : Nat) : Int)) (by simp [encN, hlt])
    cases ha
    refine ⟨k, rfl, by rw [hc]; simp [List.getD_eq_getElem?_getD, hlt], OwnS.live h (by rw [encN_length]; exact hlt), fun v w' hs => ?_⟩
    obtain ⟨h1, h2⟩ := OwnS.set h hs
    refine ⟨?_, h2⟩
    have : (encN l).set i (.int .i64 (v : Int)) = encN (l.set i v) := by simp [encN, List.map_set]
    rw [this] at h1
    exact h1
theorem OwnN.cut {w : World} {base : Nat} {p : Option Addr} {n c : Nat} {l : List Nat} (h : OwnN w base p n c l) {m : Nat} (hm : m ≤ n) : OwnN w base p m c (l.take m) := by
  have hl := OwnN.len h
  refine ⟨by rw [encN_length, List.length_take]; omega, ?_⟩
  rcases h.2 with ⟨hv, hn⟩ | ⟨g, cap, cur, hv, hb, hg, h1, h2, h3, h4⟩
  · left
    simp only [Value.slice.injEq] at hv
    obtain ⟨rfl, rfl, rfl⟩ := hv
    have : m = 0 := by omega
    subst this
    exact ⟨rfl, rfl⟩
  · right
    simp only [Value.slice.injEq] at hv
    obtain ⟨rfl, _, rfl⟩ := hv
    refine ⟨g, c, cur, rfl, hb, hg, by omega, h2, h3, ?_⟩
    rw [Nat.mul_one] at h4 ⊢
    have : encN (l.take m) = (encN l).take m := by simp [encN, List.map_take]
    rw [this, ← h4, List.take_take, Nat.min_eq_left hm]
/-- cells behind a slice are written over -/
theorem OwnS.behind {e : TypeId} {base k n c : Nat} {xs : List Value} : ∀ (vs : List Value) (o : Nat) (w : World), n ≤ o → OwnS w base e 1 (some (at0 k)) n c xs → OwnS (w.setCells k o vs) base e 1 (some (at0 k)) n c xs ∧ Upd (fun x => x = k) w (w.setCells k o vs)
  | [], _, w, _, h => ⟨h, Upd.refl _ _⟩
  | v :: vs, o, w, ho, h => by
    have hs : SetC w ⟨k, o, none⟩ v (w.setCell ⟨k, o, none⟩ v) := rfl
    have hu : Upd (fun x => x = k) w (w.setCell ⟨k, o, none⟩ v) := hs.upd
    have h1 : OwnS (w.setCell ⟨k, o, none⟩ v) base e 1 (some (at0 k)) n c xs := by
      refine ⟨h.1, ?_⟩
      rcases h.2 with ⟨hv, _⟩ | ⟨g, cap, cur, hv, hb, hg, h1, h2, h3, h4⟩
      · simp at hv
      · right
        simp only [Value.slice.injEq, Option.some.injEq, at0, Addr.mk.injEq, and_true] at hv
        obtain ⟨rfl, _, rfl⟩ := hv
        refine ⟨k, c, cur.setIfInBounds o v, rfl, hb, hs.at hg rfl, h1, h2, by simp [h3], ?_⟩
        rw [Array.toList_setIfInBounds, ← h4, Nat.mul_one]
        refine List.ext_getElem? fun j => ?_
        rw [List.getElem?_take, List.getElem?_take]
        by_cases hj : j < n
        · rw [if_pos hj, if_pos hj, List.getElem?_set_ne (by omega)]
        · rw [if_neg hj, if_neg hj]
    obtain ⟨h2, h3⟩ := OwnS.behind vs (o + 1) _ (by omega) h1
    exact ⟨h2, Upd.trans hu h3 fun _ _ h => h⟩

theorem sort_own {w : World} {base : Nat} {p : Option Addr} {n c : Nat} {l : List Nat} (h : OwnN w base p n c l) (hn : n ≤ 1073741824) :
    Calls Try.prog 45 #[.slice p n c] w fun e w' => e = .returned (.tuple #[]) ∧ ∃ l', OwnN w' base p n c l' ∧ Upd (fun x => p = some (at0 x)) w w' ∧ l'.Perm l ∧ l'.Pairwise (· ≤ ·) := by
  have hl := OwnN.len h
  rcases h.where_ with ⟨rfl, rfl, rfl⟩ | ⟨g, rfl, hb, hg, hnc, cur, hcur, hcs, htake⟩
  · refine (AnyM.slices_Sort_int_none hsortA none 0 w).mono ?_
    rintro e w' ⟨rfl, rfl⟩
    have : l = [] := List.eq_nil_of_length_eq_zero hl.symm
    subst this
    exact ⟨rfl, [], h, Upd.refl _ _, List.Perm.refl _, List.Pairwise.nil⟩
  · have hz : (l.map fun i : Nat => (i : Int)).length = n := by rw [List.length_map, hl]
    have hmap : (l.map fun i : Nat => (i : Int)).map (Value.int .i64) = encN l := by simp [encN]
    have hH := holds_of_blockI (ss := l.map fun i : Nat => (i : Int)) hcur (by rw [hz, hmap, ← htake, Nat.mul_one])
    have hs := AnyM.slices_Sort_int hsortA g 0 c (l.map fun i : Nat => (i : Int)) w hH hg (by rw [hz]; omega)
    rw [hz] at hs
    refine hs.mono ?_
    rintro e w' ⟨rfl, m, os, rfl⟩
    let ts := (l.map fun i : Nat => (i : Int)).mergeSort fun x y => decide (x ≤ y)
    have hp : ts.Perm (l.map fun i : Nat => (i : Int)) := List.mergeSort_perm _ _
    have hsorted : ts.Pairwise (· ≤ ·) := by
      have := List.pairwise_mergeSort (le := fun x y : Int => decide (x ≤ y)) (fun a b c h1 h2 => by simp at *; omega) (fun a b => by simp; omega) (l.map fun i : Nat => (i : Int))
      exact this.imp fun h => by simpa using h
    have hnn : ∀ x ∈ ts, 0 ≤ x := fun x hx => by
      obtain ⟨i, _, rfl⟩ := List.mem_map.1 (hp.mem_iff.1 hx)
      omega
    have hts : (ts.map Int.toNat).map (fun i : Nat => (i : Int)) = ts := by
      rw [List.map_map]
      refine (List.map_congr_left fun x hx => ?_).trans (List.map_id ts)
      have := hnn x hx
      show ((x.toNat : Nat) : Int) = x
      omega
    have henc : encN (ts.map Int.toNat) = ts.map (Value.int .i64) := by
      conv => rhs; rw [← hts]
      simp [encN]
    have hlen : ts.length = (l.map fun i : Nat => (i : Int)).length := hp.length_eq
    refine ⟨rfl, ts.map Int.toNat, ?_, ?_, ?_, ?_⟩
    · have h1 := ownsRow_sortedI (n := m) (os := os) hlen hb hcur (by rw [hz]; exact hnc) (by
        rcases h.2 with ⟨hv, _⟩ | ⟨g', cap, cur', hv, _, _, _, h2, _⟩
        · simp at hv
        · simp only [Value.slice.injEq] at hv
          rw [hv.2.2]; exact h2) hcs
      rw [hz] at h1
      unfold OwnN OwnS
      rw [henc]
      exact h1
    · have h1 := grownBy_sortedI (w := w) (g := g) (n := m) (os := os) ts.toArray
      refine ⟨h1.os, h1.tape, h1.output, h1.size, fun b hb' hS => h1.block b hb' ?_⟩
      intro e
      simp only [Option.some.injEq] at e
      exact hS (by rw [e])
    · have h1 := hp.map Int.toNat
      rw [List.map_map] at h1
      have h2 : l.map (Int.toNat ∘ fun i : Nat => (i : Int)) = l := (List.map_congr_left fun x _ => by show ((x : Int)).toNat = x; omega).trans (List.map_id l)
      rwa [h2] at h1
    · rw [List.pairwise_map]
      exact hsorted.imp_of_mem fun {a b} ha hb h => by
        have := hnn a ha
        have := hnn b hb
        omega

/-! ## each once -/
theorem getD_mem {l : List Nat} {i : Nat} (h : i < l.length) : l.getD i 0 ∈ l := by
  rw [List.getD_eq_getElem?_getD, List.getElem?_eq_getElem h]
  exact List.getElem_mem h
theorem sorted_get {l : List Nat} (h : l.Pairwise (· ≤ ·)) {i j : Nat} (hij : i ≤ j) (hj : j < l.length) : l.getD i 0 ≤ l.getD j 0 := by
  rcases Nat.lt_or_ge i j with h1 | h1
  · simp only [List.getD_eq_getElem?_getD, List.getElem?_eq_getElem hj, List.getElem?_eq_getElem (show i < l.length by omega), Option.getD_some]
    exact List.pairwise_iff_getElem.1 h i j _ _ h1
  · rw [show i = j by omega]; exact Nat.le_refl _
theorem set_getD (r : List Nat) (i v j : Nat) (hi : i < r.length) : (r.set i v).getD j 0 = if j = i then v else r.getD j 0 := by
  simp only [List.getD_eq_getElem?_getD, List.getElem?_set]
  by_cases h : j = i
  · subst h; simp [hi]
  · rw [if_neg (fun e => h e.symm), if_neg h]
/-- the first so many are strictly rising, and just the first so many of what there was -/
structure Comp (l r : List Nat) (i t : Nat) : Prop where
  len : r.length = l.length
  it : 0 < i ∧ i < t ∧ t ≤ l.length
  tail : ∀ j, t ≤ j + 1 → j < l.length → r.getD j 0 = l.getD j 0
  strict : ∀ a b, a < b → b < i → r.getD a 0 < r.getD b 0
  last : r.getD (i - 1) 0 = l.getD (t - 1) 0
  sub : ∀ a, a < i → ∃ b, b < t ∧ r.getD a 0 = l.getD b 0
  sup : ∀ b, b < t → ∃ a, a < i ∧ r.getD a 0 = l.getD b 0
theorem Comp.init {l : List Nat} {i : Nat} (h : ∀ a b, a < b → b < i → l.getD a 0 < l.getD b 0) (h0 : 0 < i) (hi : i < l.length) (he : l.getD i 0 = l.getD (i - 1) 0) : Comp l l i (i + 1) :=
  ⟨rfl, ⟨h0, by omega, by omega⟩, fun _ _ _ => rfl, h, by rw [Nat.add_sub_cancel, he], fun a ha => ⟨a, by omega, rfl⟩, fun b hb => by
    by_cases e : b = i
    · exact ⟨i - 1, by omega, by rw [e, he]⟩
    · exact ⟨b, by omega, rfl⟩⟩
theorem Comp.same {l r : List Nat} {i t : Nat} (h : Comp l r i t) (ht : t < l.length) (he : l.getD t 0 = l.getD (t - 1) 0) : Comp l r i (t + 1) := by
  obtain ⟨h0, h1, h2⟩ := h.it
  refine ⟨h.len, ⟨h0, by omega, by omega⟩, fun j hj hl => h.tail j (by omega) hl, h.strict, by rw [h.last, Nat.add_sub_cancel, he], fun a ha => ?_, fun b hb => ?_⟩
  · obtain ⟨b, hb, e⟩ := h.sub a ha
    exact ⟨b, by omega, e⟩
  · by_cases e : b = t
    · obtain ⟨a, ha, e2⟩ := h.sup (t - 1) (by omega)
      exact ⟨a, ha, by rw [e2, e, he]⟩
    · exact h.sup b (by omega)
theorem Comp.more {l r : List Nat} {i t : Nat} (h : Comp l r i t) (hs : l.Pairwise (· ≤ ·)) (ht : t < l.length) (he : l.getD t 0 ≠ l.getD (t - 1) 0) : Comp l (r.set i (l.getD t 0)) (i + 1) (t + 1) := by
  obtain ⟨h0, h1, h2⟩ := h.it
  have hl := h.len
  have hlt : l.getD (t - 1) 0 < l.getD t 0 := by
    have := sorted_get hs (i := t - 1) (j := t) (by omega) ht
    omega
  have hge : ∀ a, a < i → r.getD a 0 ≤ r.getD (i - 1) 0 := fun a ha => by
    by_cases e : a = i - 1
    · rw [e]; exact Nat.le_refl _
    · exact Nat.le_of_lt (h.strict a (i - 1) (by omega) (by omega))
  refine ⟨by rw [List.length_set, hl], ⟨by omega, by omega, by omega⟩, fun j hj hjl => ?_, fun a b hab hb => ?_, ?_, fun a ha => ?_, fun b hb => ?_⟩
  · rw [set_getD _ _ _ _ (by omega), if_neg (by omega)]
    exact h.tail j (by omega) hjl
  · rw [set_getD _ _ _ _ (by omega), set_getD _ _ _ _ (by omega), if_neg (by omega)]
    by_cases e : b = i
    · rw [if_pos e]
      have := hge a (by omega)
      have := h.last
      omega
    · rw [if_neg e]; exact h.strict a b hab (by omega)
  · rw [set_getD _ _ _ _ (by omega), if_pos (by omega), Nat.add_sub_cancel]
  · rw [set_getD _ _ _ _ (by omega)]
    by_cases e : a = i
    · rw [if_pos e]; exact ⟨t, by omega, rfl⟩
    · rw [if_neg e]
      obtain ⟨b, hb, e2⟩ := h.sub a (by omega)
      exact ⟨b, by omega, e2⟩
  · by_cases e : b = t
    · exact ⟨i, by omega, by rw [set_getD _ _ _ _ (by omega), if_pos rfl, e]⟩
    · obtain ⟨a, ha, e2⟩ := h.sup b (by omega)
      exact ⟨a, by omega, by rw [set_getD _ _ _ _ (by omega), if_neg (by omega), e2]⟩
theorem Comp.done {l r : List Nat} {i : Nat} (h : Comp l r i l.length) : (r.take i).Pairwise (· < ·) ∧ ∀ x, x ∈ r.take i ↔ x ∈ l := by
  obtain ⟨h0, h1, h2⟩ := h.it
  have hl := h.len
  have hg : ∀ a (ha : a < (r.take i).length), (r.take i)[a] = r.getD a 0 := fun a ha => by
    have : a < r.length := by simp at ha; omega
    simp [List.getD_eq_getElem?_getD, this]
  refine ⟨List.pairwise_iff_getElem.2 fun a b ha hb hab => ?_, fun x => ⟨fun hx => ?_, fun hx => ?_⟩⟩
  · rw [hg, hg]
    exact h.strict a b hab (by simp at hb; omega)
  · obtain ⟨a, ha, rfl⟩ := List.getElem_of_mem hx
    rw [hg]
    obtain ⟨b, hb, e⟩ := h.sub a (by simp at ha; omega)
    rw [e]
    exact getD_mem hb
  · obtain ⟨b, hb, rfl⟩ := List.getElem_of_mem hx
    obtain ⟨a, ha, e⟩ := h.sup b hb
    have e2 : l[b] = l.getD b 0 := by simp [List.getD_eq_getElem?_getD, hb]
    have ha' : a < (r.take i).length := by simp; omega
    rw [e2, ← e, ← hg a ha']
    exact List.getElem_mem ha'

set_option maxHeartbeats 4000000 in
theorem compact_own {w : World} {base : Nat} {p : Option Addr} {n c : Nat} {l : List Nat} (h : OwnN w base p n c l) (hs : l.Pairwise (· ≤ ·)) (hn : n ≤ 1073741824) :
    Calls Try.prog 46 #[.slice p n c] w fun e w' => ∃ n' l', e = .returned (.slice p n' c) ∧ OwnN w' base p n' c l' ∧ Upd (fun x => p = some (at0 x)) w w' ∧ l'.Pairwise (· < ·) ∧ ∀ x, x ∈ l' ↔ x ∈ l := by
  have hl := OwnN.len h
  refine (F46_calls p n c w (fun v w' => ∃ n' l', v = .slice p n' c ∧ OwnN w' base p n' c l' ∧ Upd (fun x => p = some (at0 x)) w w' ∧ l'.Pairwise (· < ·) ∧ ∀ x, x ∈ l' ↔ x ∈ l)
    (fun _ i w1 => 1 ≤ i ∧ i ≤ n ∧ Ext w w1 ∧ ∀ a b : Nat, a < b → (b : Int) < i → l.getD a 0 < l.getD b 0) (fun _ i _ => (n - i).toNat)
    (fun _ l2 _ _ i j w1 => 1 ≤ j ∧ j ≤ l2 ∧ l2 ≤ n ∧ 0 ≤ i ∧ Upd (fun x => p = some (at0 x)) w w1 ∧ ∃ r, OwnN w1 base p n c r ∧ Comp l r i.toNat ((n - l2) + j.toNat)) (fun _ l2 _ _ _ j _ => (l2 - j).toNat) ?_).mono (by
    rintro e w' ⟨v, rfl, n', l', rfl, h⟩; exact ⟨n', l', rfl, h⟩)
  unfold F46
  refine condB_of (fun h2 => ?_) (fun h2 => ?_)
  · simp only [decide_eq_true_eq] at h2
    refine ⟨n, l, rfl, h, Upd.refl _ _, ?_, fun x => Iff.rfl⟩
    match l, hl with
    | [], _ => exact List.Pairwise.nil
    | [a], _ => exact List.pairwise_singleton _ _
    | a :: b :: t, hl => simp at hl; omega
  simp only [decide_eq_false_iff_not] at h2
  refine ⟨⟨by omega, by omega, Upd.refl _ _, fun a b h3 h4 => by omega⟩, ?_⟩
  rintro i w1 ⟨hi0, hi1, hx, hst⟩
  intros
  refine condB_of (fun hs2 => ?_) (fun hs2 => ?_)
  · simp only [decide_eq_true_eq] at hs2
    intro w57 hd
    have x57 := hx.trans hd.ext
    have o57 : OwnN w57 base p n c l := OwnS.ext h x57
    rw [w64 (n := i - 1) (by omega)]
    obtain ⟨k, rfl, c1, lv1, _⟩ := OwnN.get o57 (i := i.toNat) (by omega)
    obtain ⟨k', hk', c2, _, _⟩ := OwnN.get o57 (i := i.toNat - 1) (by omega)
    cases hk'
    have e1 : (i - 1).toNat = i.toNat - 1 := by omega
    rw [e1, Nat.mul_one, Nat.mul_one]
    refine ⟨⟨by omega, hs2⟩, _, c1, ⟨by omega, by omega⟩, _, c2, condB_of (fun he => ?_) (fun he => ?_)⟩
    · simp only [decide_eq_true_eq] at he
      have he' : l.getD i.toNat 0 = l.getD (i.toNat - 1) 0 := by omega
      have hcomp : Comp l l i.toNat (i.toNat + 1) := Comp.init (fun a b h3 h4 => hst a b h3 (by omega)) (by omega) (by omega) he'
      refine ⟨⟨by omega, by omega⟩, ⟨by omega, by omega, by omega, by omega, x57.upd, l, o57, ?_⟩, ?_⟩
      · rw [show n - (n - i.toNat) + (1 : Int).toNat = i.toNat + 1 by have : (1 : Int).toNat = 1 := rfl; omega]
        exact hcomp
      rintro i2 j w67 ⟨hj0, hj1, _, hi20, hu, r, hr, hc⟩
      intros
      have hle := OwnN.le hr
      obtain ⟨q0, q1, q2⟩ := hc.it
      have hcut : cutP (some (at0 k)) c i.toNat 1 = some ((at0 k).add i.toNat) := by
        unfold cutP
        rw [if_neg (by omega)]
        show some ((at0 k).add (i.toNat * 1)) = _
        rw [Nat.mul_one]
      rw [hcut]
      refine condB_of (fun hs3 => ?_) (fun hs3 => ?_)
      · simp only [decide_eq_true_eq] at hs3
        intro w93 hd93
        have hr93 : OwnN w93 base (some (at0 k)) n c r := OwnS.ext hr hd93.ext
        have u93 : Upd (fun x => some (at0 k) = some (at0 x)) w w93 := Upd.trans hu hd93.ext.upd fun _ _ h => h
        rw [w64 (n := j - 1) (by omega), w64 (n := j + 1) (by omega), w64 (n := i2 + 1) (by omega)]
        have e2 : (j - 1).toNat = j.toNat - 1 := by omega
        obtain ⟨k1, hk1, d1, _, _⟩ := OwnN.get hr93 (i := i.toNat + j.toNat) (by omega)
        cases hk1
        obtain ⟨k1, hk1, d2, _, _⟩ := OwnN.get hr93 (i := i.toNat + (j.toNat - 1)) (by omega)
        cases hk1
        obtain ⟨k1, hk1, _, lv, hset⟩ := OwnN.get hr93 (i := i2.toNat) (by omega)
        cases hk1
        simp only [e2, Nat.mul_one]
        have t1 := hc.tail (i.toNat + j.toNat) (by omega) (by omega)
        have t2 := hc.tail (i.toNat + (j.toNat - 1)) (by omega) (by omega)
        have ht : n - (n - i.toNat) + j.toNat = i.toNat + j.toNat := by omega
        rw [ht] at hc
        have hmeas : (((n - i.toNat : Nat) : Int) - (j + 1)).toNat < (((n - i.toNat : Nat) : Int) - j).toNat := by omega
        refine ⟨⟨by omega, hs3⟩, _, by rw [add_add]; exact d1, ⟨by omega, by omega⟩, _, by rw [add_add]; exact d2, condB_of (fun hne => ?_) (fun hne => ?_)⟩
        · simp only [Bool.not_eq_true', decide_eq_false_iff_not] at hne
          refine ⟨⟨by omega, by omega⟩, _, by rw [add_add]; exact d1, ⟨by omega, by omega⟩, lv, fun w101 s101 => ?_⟩
          obtain ⟨hr101, u101⟩ := hset _ _ s101
          refine ⟨⟨by omega, by omega, by omega, by omega, Upd.trans u93 (u101.mono fun x _ hx => by rw [show x = k from hx]) fun _ _ h => h, _, hr101, ?_⟩, hmeas⟩
          rw [show n - (n - i.toNat) + (j + 1).toNat = i.toNat + j.toNat + 1 by omega, show (i2 + 1).toNat = i2.toNat + 1 by omega, t1]
          refine hc.more hs (by omega) ?_
          rw [show i.toNat + j.toNat - 1 = i.toNat + (j.toNat - 1) by omega, ← t1, ← t2]
          omega
        · simp only [Bool.not_eq_false', decide_eq_true_eq] at hne
          refine ⟨⟨by omega, by omega, by omega, by omega, u93, r, hr93, ?_⟩, hmeas⟩
          rw [show n - (n - i.toNat) + (j + 1).toNat = i.toNat + j.toNat + 1 by omega]
          refine hc.same (by omega) ?_
          rw [show i.toNat + j.toNat - 1 = i.toNat + (j.toNat - 1) by omega, ← t1, ← t2]
          omega
      · simp only [decide_eq_false_iff_not] at hs3
        have ht : n - (n - i.toNat) + j.toNat = l.length := by omega
        rw [ht] at hc q1
        obtain ⟨hd1, hd2⟩ := hc.done
        have hcut2 : cutP (some (at0 k)) c i2.toNat 1 = some ((at0 k).add i2.toNat) := by
          unfold cutP
          rw [if_neg (by omega)]
          show some ((at0 k).add (i2.toNat * 1)) = _
          rw [Nat.mul_one]
        rw [hcut2, cutP0, Nat.sub_zero, Nat.sub_zero, add_at0]
        have hrk := Lib.run_clear_slice (P := Try.prog) w67 28 3 0 (.int .i64 0) (by kernel_rfl) (fun w => by kernel_rfl) rfl rfl k i2.toNat (n - i2.toNat) (c - i2.toNat) (by omega)
          (fun t ht => by
            obtain ⟨k1, hk1, d1, _, _⟩ := OwnN.get hr (i := i2.toNat + t) (by omega)
            cases hk1
            rw [add_at0] at d1
            rw [d1]; rfl) (fun t ht => by
            obtain ⟨k1, hk1, _, lv, _⟩ := OwnN.get hr (i := i2.toNat + t) (by omega)
            cases hk1
            have := lv.2
            rwa [add_at0] at this)
        obtain ⟨g1, g2⟩ := OwnS.behind (List.replicate (n - i2.toNat) (.int .i64 0)) i2.toNat w67 (Nat.le_refl _) (OwnN.cut hr (m := i2.toNat) (by omega))
        refine ⟨⟨by omega, by omega⟩, _, _, hrk, ⟨by omega, by omega⟩, i2.toNat, _, rfl, g1, Upd.trans hu (g2.mono fun x _ hx => by rw [show x = k from hx]) fun _ _ h => h, hd1, hd2⟩
    · simp only [decide_eq_false_iff_not] at he
      rw [w64 (n := i + 1) (by omega)]
      refine ⟨⟨by omega, by omega, x57, fun a b hab hb => ?_⟩, by show ((n : Int) - (i + 1)).toNat < ((n : Int) - i).toNat; omega⟩
      by_cases e : (b : Int) < i
      · exact hst a b hab e
      · have hb' : b = i.toNat := by omega
        have h3 := sorted_get hs (i := i.toNat - 1) (j := i.toNat) (by omega) (by omega)
        have h4 : l.getD (i.toNat - 1) 0 < l.getD i.toNat 0 := by omega
        rw [hb']
        by_cases e2 : a = i.toNat - 1
        · rw [e2]; exact h4
        · have := hst a (i.toNat - 1) (by omega) (by omega)
          omega
  · simp only [decide_eq_false_iff_not] at hs2
    refine ⟨n, l, rfl, OwnS.ext h hx, hx.upd, List.pairwise_iff_getElem.2 fun a b ha hb hab => ?_, fun x => Iff.rfl⟩
    have := hst a b hab (by omega)
    simpa [List.getD_eq_getElem?_getD, ha, hb] using this
end Go.Proofs.Ytpmkjpgoekjcfaa
