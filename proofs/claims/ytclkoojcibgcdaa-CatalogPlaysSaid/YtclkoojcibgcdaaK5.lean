/- A catalog as one thing; keys in order; the small calls on one. -/
import Derived.Test.YtclkoojcibgcdaaK4
import Derived.Test.YtclkoojcibgcdaaS1
namespace Go.Proofs.Ytclkoojcibgcdaa
open Go Go.Vc

/-! ## keys in order -/

theorem bless_eq : ∀ (x y : List UInt8), Op.bytesLess x y = decide (x < y)
  | [], [] => by simp [Op.bytesLess]
  | _ :: _, [] => by simp [Op.bytesLess]
  | [], _ :: _ => by simp [Op.bytesLess]
  | a :: x, b :: y => by
    rw [Op.bytesLess, bless_eq x y]
    simp only [List.cons_lt_cons_iff]
    by_cases h1 : a < b <;> by_cases h2 : a = b <;> by_cases h3 : x < y <;> simp [h1, h2, h3]
def kLt (a b : ByteArray) : Prop := a.data.toList < b.data.toList
instance (a b : ByteArray) : Decidable (kLt a b) := inferInstanceAs (Decidable (_ < _))
theorem bless_kLt (a b : ByteArray) : Op.bytesLess a.toList b.toList = decide (kLt a b) := by
  rw [bless_eq, ByteArray.toList_eq, ByteArray.toList_eq]
  rfl
theorem kLt_irrefl (a : ByteArray) : ¬ kLt a a := List.lt_irrefl _
theorem kLt_trans {a b c : ByteArray} (h1 : kLt a b) (h2 : kLt b c) : kLt a c := List.lt_trans h1 h2
theorem bytes_inj' {a b : ByteArray} (h : a.data.toList = b.data.toList) : a = b := by
  obtain ⟨⟨a⟩⟩ := a
  obtain ⟨⟨b⟩⟩ := b
  simp only at h
  subst h
  rfl
theorem kLt_total (a b : ByteArray) : kLt a b ∨ a = b ∨ kLt b a := by
  by_cases h1 : kLt a b
  · exact .inl h1
  by_cases h2 : kLt b a
  · exact .inr (.inr h2)
  exact .inr (.inl (bytes_inj' (List.le_antisymm (List.not_lt.1 h2) (List.not_lt.1 h1))))
def KAsc (O : List Ob) : Prop := O.Pairwise fun a b => kLt a.key b.key
theorem KAsc.keys {O : List Ob} (h : KAsc O) : Keys O := by
  unfold Keys
  rw [List.Nodup, List.pairwise_map]
  exact h.imp fun h e => by rw [e] at h; exact kLt_irrefl _ h
theorem kasc_eq {O O' : List Ob} (h1 : KAsc O) (h2 : KAsc O') (hp : O.Perm O') : O = O' := by
  refine hp.eq_of_pairwise (le := fun a b : Ob => kLt a.key b.key) (fun a b _ _ g1 g2 => ?_) h1 h2
  exact absurd (kLt_trans g1 g2) (kLt_irrefl _)
def insO (o : Ob) (O : List Ob) : List Ob := O.filter (fun y => decide (kLt y.key o.key)) ++ o :: O.filter (fun y => decide (kLt o.key y.key))
theorem insO_asc {o : Ob} {O : List Ob} (h : KAsc O) : KAsc (insO o O) := by
  unfold KAsc insO
  rw [List.pairwise_append]
  refine ⟨h.filter _, ?_, ?_⟩
  · rw [List.pairwise_cons]
    exact ⟨fun y hy => by simpa using (List.mem_filter.1 hy).2, h.filter _⟩
  · intro a ha b hb
    have h1 : kLt a.key o.key := by simpa using (List.mem_filter.1 ha).2
    rcases List.mem_cons.1 hb with rfl | hb
    · exact h1
    · have h2 : kLt o.key b.key := by simpa using (List.mem_filter.1 hb).2
      exact kLt_trans h1 h2
theorem insO_perm (o : Ob) (O : List Ob) : (insO o O).Perm (o :: dropO o.key O) := by
  refine List.perm_middle.trans (List.Perm.cons _ ?_)
  unfold dropO
  induction O with
  | nil => simp
  | cons y O ih =>
    rcases kLt_total y.key o.key with h | h | h
    · have hn : ¬ kLt o.key y.key := fun h' => kLt_irrefl _ (kLt_trans h h')
      have hne : y.key ≠ o.key := fun e => by rw [e] at h; exact kLt_irrefl _ h
      rw [List.filter_cons_of_pos (by simpa using h), List.filter_cons_of_neg (by simpa using hn), List.filter_cons_of_pos (by simpa using hne)]
      exact ih.cons _
    · have hn : ¬ kLt y.key o.key := fun h' => by rw [h] at h'; exact kLt_irrefl _ h'
      have hn' : ¬ kLt o.key y.key := fun h' => by rw [h] at h'; exact kLt_irrefl _ h'
      rw [List.filter_cons_of_neg (by simpa using hn), List.filter_cons_of_neg (by simpa using hn'), List.filter_cons_of_neg (by simpa using h)]
      exact ih
    · have hn : ¬ kLt y.key o.key := fun h' => kLt_irrefl _ (kLt_trans h h')
      have hne : y.key ≠ o.key := fun e => by rw [e] at h; exact kLt_irrefl _ h
      rw [List.filter_cons_of_neg (by simpa using hn), List.filter_cons_of_pos (by simpa using h), List.filter_cons_of_pos (by simpa using hne)]
      exact List.perm_middle.trans (ih.cons _)
theorem dropO_asc {k : ByteArray} {O : List Ob} (h : KAsc O) : KAsc (dropO k O) := h.filter _

/-! ## a catalog as one thing -/

/-- an object of a catalog is as it may be -/
def ObOk (g : Geo) (o : Ob) : Prop := RecOk 1 o.key o.len o.st ∧ (0 ≤ o.epoch ∧ o.epoch ≤ 2147483647) ∧ (o.st.length : Int) = needsG g o.len ∧ ∀ s ∈ o.st, s < g.stripes
theorem FitsO.ob {g : Geo} {O : List Ob} {o : Ob} (h : FitsO g O o) : ObOk g o := ⟨h.1, h.2.1, h.2.2.1, fun s hs => (h.2.2.2.1 s hs).2⟩
structure CatOk (g : Geo) (O : List Ob) : Prop where
  geo : GeoOk g
  obs : ∀ o ∈ O, ObOk g o
  few : (O.length : Int) ≤ g.objects
  asc : KAsc O
def CatF (b m1 m2 : Nat) (G : Nat → Prop) (x : Nat) : Prop := x = b ∨ x = m1 ∨ x = m2 ∨ G x
structure Cat (w : World) (b : Nat) (g : Geo) (O : List Ob) (F : Nat → Prop) : Prop where
  is : ∃ m1 m2 G, IsCat w b g O m1 m2 G ∧ F = CatF b m1 m2 G
  ok : CatOk g O
theorem Cat.lt {w : World} {b : Nat} {g : Geo} {O : List Ob} {F : Nat → Prop} (h : Cat w b g O F) : ∀ x, F x → x < w.heap.size := by
  obtain ⟨⟨m1, m2, G, hi, rfl⟩, _⟩ := h
  rintro x (rfl | rfl | rfl | hx)
  · exact hi.row.lt
  · exact hi.objs.lt
  · exact hi.owners.lt
  · exact hi.lt x hx
theorem Cat.upd {S : Nat → Prop} {w w' : World} {b : Nat} {g : Geo} {O : List Ob} {F : Nat → Prop} (h : Cat w b g O F) (hu : Upd S w w') (hS : ∀ x, S x → ¬ F x) : Cat w' b g O F := by
  obtain ⟨⟨m1, m2, G, hi, rfl⟩, hk⟩ := h
  exact ⟨⟨m1, m2, G, hi.upd hu (fun h => hS _ h (.inl rfl)) (fun h => hS _ h (.inr (.inl rfl))) (fun h => hS _ h (.inr (.inr (.inl rfl)))) fun x hx h => hS _ h (.inr (.inr (.inr hx))), rfl⟩, hk⟩
theorem Cat.ext {w w' : World} {b : Nat} {g : Geo} {O : List Ob} {F : Nat → Prop} (h : Cat w b g O F) (hu : Ext w w') : Cat w' b g O F := h.upd hu fun _ h => h.elim
theorem Cat.nodup {w : World} {b : Nat} {g : Geo} {O : List Ob} {F : Nat → Prop} (h : Cat w b g O F) : (stripesO O).Nodup := by
  obtain ⟨⟨m1, m2, G, hi, rfl⟩, _⟩ := h
  exact hi.nodup

/-- whose is a stripe? -/
def ownO (s : Int) (O : List Ob) : Option Ob := O.find? fun o => decide (s ∈ o.st)
theorem ownO_none {s : Int} {O : List Ob} : ownO s O = none ↔ s ∉ stripesO O := by
  unfold ownO stripesO
  rw [List.find?_eq_none]
  simp only [decide_eq_true_eq, List.mem_flatMap, not_exists, not_and]
theorem ownO_some {s : Int} {o : Ob} {O : List Ob} (h : ownO s O = some o) : o ∈ O ∧ s ∈ o.st := by
  unfold ownO at h
  exact ⟨List.mem_of_find?_eq_some h, by simpa using List.find?_some h⟩
theorem owns_mem {s : Int} {k : ByteArray} {O : List Ob} : (s, k) ∈ owns O ↔ ∃ o ∈ O, s ∈ o.st ∧ o.key = k := by
  unfold owns
  simp only [List.mem_flatMap, List.mem_map, Prod.mk.injEq]
  constructor
  · rintro ⟨o, h1, s', h2, rfl, rfl⟩; exact ⟨o, h1, h2, rfl⟩
  · rintro ⟨o, h1, h2, rfl⟩; exact ⟨o, h1, s, h2, rfl, rfl⟩
/-- no two objects have one stripe -/
theorem own_one {O : List Ob} (hn : (stripesO O).Nodup) {s : Int} {o o' : Ob} (h : o ∈ O) (h' : o' ∈ O) (hs : s ∈ o.st) (hs' : s ∈ o'.st) : o = o' := by
  induction O with
  | nil => cases h
  | cons a O ih =>
    have hn' : a.st.Nodup ∧ (stripesO O).Nodup ∧ ∀ x ∈ a.st, ∀ y ∈ stripesO O, x ≠ y := by
      have : (a.st ++ stripesO O).Nodup := hn
      rw [List.nodup_append] at this
      exact this
    rcases List.mem_cons.1 h with e | q <;> rcases List.mem_cons.1 h' with e' | q'
    · rw [e, e']
    · subst e; exact absurd rfl (hn'.2.2 s hs s (List.mem_flatMap.2 ⟨o', q', hs'⟩))
    · subst e'; exact absurd rfl (hn'.2.2 s hs' s (List.mem_flatMap.2 ⟨o, q, hs⟩))
    · exact ih hn'.2.1 q q'

section
variable {w : World} {b : Nat} {g : Geo} {O : List Ob} {F : Nat → Prop}

theorem free_spec (h : Cat w b g O F) : Calls Try.prog 19 #[.pointer (some (at0 b))] w fun e w' => e = .returned (.int .i64 (IntKind.i64.wrap (g.stripes - ((stripesO O).length : Int)))) ∧ Ext w w' := by
  obtain ⟨⟨m1, m2, G, hi, rfl⟩, hk⟩ := h
  refine (F19_calls (some (at0 b)) w (fun v w' => v = .int .i64 (IntKind.i64.wrap (g.stripes - ((stripesO O).length : Int))) ∧ Ext w w') ?_).mono (by rintro e w' ⟨v, rfl, rfl, h⟩; exact ⟨rfl, h⟩)
  refine condB_of (fun h => by cases h) fun _ w2 d2 => ?_
  have h2 := hi.ext d2.ext
  refine ⟨_, h2.row.row.cell (n := 3) rfl, _, h2.row.row.cell rfl, _, h2.owners.len, ?_, d2.ext⟩
  rw [← owns_keys, List.length_map]
theorem owner_spec (h : Cat w b g O F) (s : Int) : Calls Try.prog 23 #[.pointer (some (at0 b)), .int .i64 s] w fun e w' => e = .returned (.tuple #[.int .i64 (((ownO s O).map (·.epoch)).getD 0), .bool (ownO s O).isSome]) ∧ w' = w := by
  have hn := h.nodup
  obtain ⟨⟨m1, m2, G, hi, rfl⟩, hk⟩ := h
  refine (F23_calls (some (at0 b)) s w (fun v w' => v = .tuple #[.int .i64 (((ownO s O).map (·.epoch)).getD 0), .bool (ownO s O).isSome] ∧ w' = w) ?_).mono (by rintro e w' ⟨v, rfl, rfl, h⟩; exact ⟨rfl, h⟩)
  refine condB_of (fun h => by cases h) fun _ => ⟨_, hi.row.row.cell rfl, ?_⟩
  rcases hi.owner s with ⟨k, hk', hl'⟩ | ⟨hno, hl'⟩
  · obtain ⟨o, ho, hs, rfl⟩ := owns_mem.1 hk'
    have hne : ownO s O ≠ none := fun e => ownO_none.1 e (List.mem_flatMap.2 ⟨o, ho, hs⟩)
    obtain ⟨o', ho'⟩ := Option.ne_none_iff_exists'.1 hne
    have hoo : o' = o := own_one hn (ownO_some ho').1 ho (ownO_some ho').2 hs
    subst hoo
    refine ⟨_, true, hl', _, hi.row.row.cell rfl, ?_⟩
    rcases hi.objs.lookup mapSO strT zeroOb o'.key with ⟨o2, v, hget, ⟨p, n, c, rfl, _⟩, hl⟩ | ⟨hno, hl⟩
    · have : o2 = o' := by
        have h1 : getO o'.key O = some o2 := hget
        have h2 : getO o'.key O = some o' := (getO_some hi.keys).2 ⟨ho, rfl⟩
        rw [h1] at h2; cases h2; rfl
      subst this
      exact ⟨_, _, _, p, n, c, true, hl, by rw [ho']; rfl, rfl⟩
    · exact absurd rfl (getO_none.1 hno o' ho)
  · refine ⟨_, false, hl', _, hi.row.row.cell rfl, ?_⟩
    have hnone := ownO_none.2 hno
    rcases hi.objs.lookup mapSO strT zeroOb ⟨#[]⟩ with ⟨o2, v, hget, ⟨p, n, c, rfl, _⟩, hl⟩ | ⟨hno, hl⟩
    · exfalso
      obtain ⟨h1, h2⟩ := (getO_some hi.keys).1 hget
      have := (hk.obs o2 h1).1.1.2.1.1
      rw [h2] at this
      exact absurd this (by decide)
    · exact ⟨_, _, _, none, 0, 0, false, hl, by rw [hnone]; rfl, rfl⟩

def FullO (g : Geo) (O : List Ob) (k : ByteArray) : Prop := getO k O = none ∧ g.objects ≤ (O.length : Int)
instance (g : Geo) (O : List Ob) (k : ByteArray) : Decidable (FullO g O k) := if h : (getO k O).isNone ∧ g.objects ≤ (O.length : Int) then .isTrue ⟨Option.isNone_iff_eq_none.1 h.1, h.2⟩ else .isFalse fun h' => h ⟨by rw [h'.1]; rfl, h'.2⟩
theorem full_spec (h : Cat w b g O F) (k : ByteArray) : Calls Try.prog 46 #[.pointer (some (at0 b)), .string k] w fun e w' => e = .returned (.bool (decide (FullO g O k))) ∧ Ext w w' := by
  obtain ⟨⟨m1, m2, G, hi, rfl⟩, hk⟩ := h
  refine (F46_calls (some (at0 b)) k w (fun v w' => v = .bool (decide (FullO g O k)) ∧ Ext w w') ?_).mono (by rintro e w' ⟨v, rfl, rfl, h⟩; exact ⟨rfl, h⟩)
  refine ⟨_, hi.row.row.cell (n := 6) rfl, ?_⟩
  rcases hi.objs.lookup mapSO strT zeroOb k with ⟨o, v, hget, ⟨p, n, c, rfl, _⟩, hl⟩ | ⟨hno, hl⟩
  · refine ⟨_, _, _, p, n, c, true, hl, fun k10 w11 hk10 => ?_⟩
    have r11 : RowW w11 k10 _ := ⟨_, hk10.at⟩
    refine fill4 hk10.ext (by rw [hk10.size.1]; exact Nat.le_refl _) r11 fun w15 x15 _ _ => ?_
    intro w16 d16
    have hg : getO k O = some o := hget
    exact condB_of (fun h => by cases h) fun _ => ⟨by rw [decide_eq_false (fun hf => by rw [hf.1] at hg; cases hg)], x15.trans d16.ext⟩
  · refine ⟨_, _, _, none, 0, 0, false, hl, fun k10 w11 hk10 => ?_⟩
    have r11 : RowW w11 k10 _ := ⟨_, hk10.at⟩
    refine fill4 hk10.ext (by rw [hk10.size.1]; exact Nat.le_refl _) r11 fun w15 x15 _ _ => ?_
    intro w16 d16
    have x16 := x15.trans d16.ext
    have h16 := hi.ext x16
    refine condB_of (fun _ => ⟨_, h16.row.row.cell rfl, _, h16.objs.len, _, h16.row.row.cell (n := 5) rfl, ?_, x16⟩) fun h => by cases h
    have hg : getO k O = none := hno
    rw [List.length_map]
    congr 1
    exact decide_eq_decide.2 ⟨fun h => ⟨hg, h⟩, fun h => h.2⟩
end
end Go.Proofs.Ytclkoojcibgcdaa
