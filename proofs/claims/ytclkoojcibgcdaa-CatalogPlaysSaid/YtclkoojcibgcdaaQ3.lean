/- The document's catalog: what it is; find, Owner, Free. -/
import Derived.Test.YtclkoojcibgcdaaQ2
namespace Go.Proofs.Ytclkoojcibgcdaa
open Go Go.Vc

/-- objects in a slice: their rows, and their lists of stripes -/
def RefO (w : World) (G : Nat → Prop) (p : Option Addr) (l : Nat) (O : List Ob) : Prop :=
  l = O.length ∧ ∀ i o, O[i]? = some o → ∃ a q n c, p = some a ∧ G a.block ∧ w.cell? (a.add (i * 4)) = some (.string o.key) ∧ w.cell? ((a.add (i * 4)).add 1) = some (.int .i64 o.len) ∧ w.cell? ((a.add (i * 4)).add 2) = some (.int .i64 o.epoch) ∧
    w.cell? ((a.add (i * 4)).add 3) = some (.slice q n c) ∧ IntsAt w q n o.st ∧ (∀ a', q = some a' → o.st ≠ [] → G a'.block) ∧ n ≤ 256
theorem cell_updQ {S : Nat → Prop} {w w' : World} {a : Addr} {v : Value} (h : w.cell? a = some v) (hu : Upd S w w') (hS : ¬ S a.block) : w'.cell? a = some v := Upd.cell hu h hS
theorem RefO.upd {S G : Nat → Prop} {w w' : World} {p : Option Addr} {l : Nat} {O : List Ob} (h : RefO w G p l O) (hu : Upd S w w') (hS : ∀ x, G x → ¬ S x) : RefO w' G p l O := by
  refine ⟨h.1, fun i o hi => ?_⟩
  obtain ⟨a, q, n, c, h1, h2, h3, h4, h5, h6, h7, h8, h9⟩ := h.2 i o hi
  have hb : ∀ j, ¬ S ((a.add (i * 4)).add j).block := fun j => by rw [add_block, add_block]; exact hS _ h2
  refine ⟨a, q, n, c, h1, h2, cell_updQ h3 hu (by rw [add_block]; exact hS _ h2), cell_updQ h4 hu (hb 1), cell_updQ h5 hu (hb 2), cell_updQ h6 hu (hb 3), ⟨h7.1, h7.2.upd hu fun a' ha hne => hS _ (h8 a' ha ?_)⟩, h8, h9⟩
  rintro h0
  rw [h0] at hne
  exact hne rfl
theorem RefO.ext {G : Nat → Prop} {w w' : World} {p : Option Addr} {l : Nat} {O : List Ob} (h : RefO w G p l O) (hu : Ext w w') : RefO w' G p l O := h.upd hu fun _ _ h => h

def gRow (g : Geo) (p : Option Addr) (l c : Nat) : Array Value := #[.int .i64 g.k, .int .i64 g.m, .int .i64 g.size, .int .i64 g.stripes, .int .i64 g.slots, .int .i64 g.objects, .slice p l c]
/-- THE DOCUMENT'S CATALOG AT A BLOCK -/
structure RCat (w : World) (b : Nat) (g : Geo) (O : List Ob) (F : Nat → Prop) : Prop where
  is : ∃ p l c G, RowW w b (gRow g p l c) ∧ RefO w G p l O ∧ (∀ x, G x → F x ∧ x ≠ b) ∧ F b ∧ l ≤ c
  lt : ∀ x, F x → x < w.heap.size
  ok : CatOk g O
theorem RCat.upd {S F : Nat → Prop} {w w' : World} {b : Nat} {g : Geo} {O : List Ob} (h : RCat w b g O F) (hu : Upd S w w') (hS : ∀ x, F x → ¬ S x) : RCat w' b g O F := by
  obtain ⟨⟨p, l, c, G, h1, h2, h3, h4⟩, hl, hk⟩ := h
  exact ⟨⟨p, l, c, G, hu.rowW h1 (hS b h4.1), h2.upd hu fun x hx => hS x (h3 x hx).1, h3, h4⟩, fun x hx => Nat.lt_of_lt_of_le (hl x hx) hu.size, hk⟩
theorem RCat.ext {F : Nat → Prop} {w w' : World} {b : Nat} {g : Geo} {O : List Ob} (h : RCat w b g O F) (hu : Ext w w') : RCat w' b g O F := h.upd hu fun _ _ h => h

section
variable {w : World} {b : Nat} {g : Geo} {O : List Ob} {F : Nat → Prop}

theorem rfind_spec (h : RCat w b g O F) (k : ByteArray) : Calls Try.prog 35 #[.pointer (some (at0 b)), .string k] w fun e w' => w' = w ∧
    ((e = .returned (.int .i64 (-1)) ∧ ∀ o ∈ O, o.key ≠ k) ∨ ∃ i o, e = .returned (.int .i64 ((i : Nat) : Int)) ∧ O[i]? = some o ∧ o.key = k) := by
  obtain ⟨⟨p, l, c, G, hr, hO, _, _⟩, _, hok⟩ := h
  have hl := hO.1
  have hlen : O.length ≤ 64 := by
    have h1 := hok.few
    have h2 := hok.geo
    unfold GeoOk at h2
    omega
  refine (F35_calls (some (at0 b)) k w (fun v w' => w' = w ∧ ((v = .int .i64 (-1) ∧ ∀ o ∈ O, o.key ≠ k) ∨ ∃ i o, v = .int .i64 ((i : Nat) : Int) ∧ O[i]? = some o ∧ o.key = k))
    (fun _ n3 w4 => ∃ i : Nat, n3 = i ∧ i ≤ O.length ∧ w4 = w ∧ ∀ o ∈ O.take i, o.key ≠ k) (fun _ n3 _ => 100 - n3.toNat) ?_).mono (by
      rintro e w' ⟨v, rfl, hw, h⟩
      refine ⟨hw, ?_⟩
      rcases h with ⟨rfl, h⟩ | ⟨i, o, rfl, h⟩
      · exact .inl ⟨rfl, h⟩
      · exact .inr ⟨i, o, rfl, h⟩)
  refine ⟨⟨0, rfl, Nat.zero_le _, rfl, fun o ho => by simp at ho⟩, ?_⟩
  rintro n3 w4 ⟨i, rfl, hi, rfl, hall⟩
  intros
  refine ⟨_, _, _, hr.row.cell rfl, condB_of (fun hlt => ?_) (fun hge => ?_)⟩
  · simp only [decide_eq_true_eq] at hlt
    obtain ⟨o, ho⟩ : ∃ o, O[i]? = some o := ⟨O[i]'(by omega), List.getElem?_eq_getElem _⟩
    obtain ⟨a, q, n, c', rfl, _, e1, _⟩ := hO.2 i o ho
    refine ⟨_, _, _, hr.row.cell rfl, ⟨by omega, hlt⟩, o.key, by rw [Int.toNat_natCast]; exact e1, condB_of (fun hk => ?_) (fun hk => ?_)⟩
    · simp only [decide_eq_true_eq] at hk
      exact ⟨rfl, .inr ⟨i, o, rfl, ho, hk⟩⟩
    · simp only [decide_eq_false_iff_not] at hk
      rw [w64 (by omega)]
      refine ⟨⟨i + 1, by omega, by omega, rfl, fun x hx => ?_⟩, by show 100 - ((i : Int) + 1).toNat < 100 - (i : Int).toNat; omega⟩
      rw [List.take_add_one, ho] at hx
      rcases List.mem_append.1 hx with h | h
      · exact hall x h
      · simp only [Option.toList_some, List.mem_singleton] at h
        subst h; exact hk
  · simp only [decide_eq_false_iff_not] at hge
    rw [List.take_of_length_le (by omega)] at hall
    exact ⟨rfl, .inl ⟨rfl, hall⟩⟩

set_option maxHeartbeats 1000000 in
theorem rowner_spec (h : RCat w b g O F) (s : Int) : Calls Try.prog 40 #[.pointer (some (at0 b)), .int .i64 s] w fun e w' => w' = w ∧ e = .returned (match ownO s O with
    | some o => .tuple #[.int .i64 o.epoch, .bool true]
    | none => .tuple #[.int .i64 0, .bool false]) := by
  obtain ⟨⟨p, l, c, G, hr, hO, _, _⟩, _, hok⟩ := h
  have hl := hO.1
  have hlen : O.length ≤ 64 := by
    have h1 := hok.few
    have h2 := hok.geo
    unfold GeoOk at h2
    omega
  refine (F40_calls (some (at0 b)) s w (fun v w' => w' = w ∧ v = (match ownO s O with
    | some o => .tuple #[.int .i64 o.epoch, .bool true]
    | none => .tuple #[.int .i64 0, .bool false]))
    (fun _ n3 w4 => ∃ i : Nat, n3 = i ∧ i ≤ O.length ∧ w4 = w ∧ ∀ o ∈ O.take i, s ∉ o.st) (fun _ n3 _ => 100 - n3.toNat)
    (fun n3 _ n54 w55 => ∃ (i j : Nat) (o : Ob), n3 = i ∧ n54 = j ∧ O[i]? = some o ∧ j ≤ o.st.length ∧ w55 = w ∧ s ∉ o.st.take j ∧ ∀ o ∈ O.take i, s ∉ o.st) (fun _ _ n54 _ => 300 - n54.toNat) ?_).mono (by
      rintro e w' ⟨v, rfl, hw, rfl⟩; exact ⟨hw, rfl⟩)
  have found : ∀ {i : Nat} {o : Ob}, O[i]? = some o → s ∈ o.st → (∀ o ∈ O.take i, s ∉ o.st) → ownO s O = some o := by
    intro i o ho hs hall
    unfold ownO
    have hsplit : O = O.take i ++ o :: O.drop (i + 1) := by
      have hlt := (List.getElem?_eq_some_iff.1 ho).1
      have hoi := (List.getElem?_eq_some_iff.1 ho).2
      rw [← hoi, ← List.drop_eq_getElem_cons hlt, List.take_append_drop]
    rw [hsplit, List.find?_append, List.find?_eq_none.2 (by intro x hx; simpa using hall x hx)]
    simp [hs]
  refine ⟨⟨0, rfl, Nat.zero_le _, rfl, fun o ho => by simp at ho⟩, ?_⟩
  rintro n3 w4 ⟨i, rfl, hi, rfl, hall⟩
  intros
  refine ⟨_, _, _, hr.row.cell rfl, condB_of (fun hlt => ?_) (fun hge => ?_)⟩
  · simp only [decide_eq_true_eq] at hlt
    obtain ⟨o, ho⟩ : ∃ o, O[i]? = some o := ⟨O[i]'(by omega), List.getElem?_eq_getElem _⟩
    refine ⟨⟨i, 0, o, rfl, rfl, ho, Nat.zero_le _, rfl, by simp, hall⟩, ?_⟩
    rintro n54 w55 ⟨i', j, o', e1, rfl, ho', hj, rfl, hst, _⟩
    have hii : i' = i := by omega
    subst hii
    rw [ho] at ho'
    cases ho'
    intros
    obtain ⟨a, q, n, c', rfl, _, _, _, e2, e3, hst', _, hn⟩ := hO.2 i' o ho
    have hnl := hst'.1
    refine ⟨_, _, _, hr.row.cell rfl, ⟨by omega, hlt⟩, _, _, _, by rw [Int.toNat_natCast]; exact e3, condB_of (fun hlt2 => ?_) (fun hge2 => ?_)⟩
    · simp only [decide_eq_true_eq] at hlt2
      obtain ⟨a2, rfl, hc2⟩ := hst'.get (i := j) (by omega)
      refine ⟨_, _, _, hr.row.cell rfl, ⟨by omega, hlt⟩, some a2, n, c', by rw [Int.toNat_natCast]; exact e3, ⟨by omega, hlt2⟩, _, by rw [Int.toNat_natCast, Nat.mul_one]; exact hc2, condB_of (fun he => ?_) (fun he => ?_)⟩
      · simp only [decide_eq_true_eq] at he
        have hmem : s ∈ o.st := by
          rw [← he, List.getD_eq_getElem?_getD, List.getElem?_eq_getElem (by omega)]
          exact List.getElem_mem _
        refine ⟨_, _, _, hr.row.cell rfl, ⟨by omega, hlt⟩, _, by rw [Int.toNat_natCast]; exact e2, rfl, ?_⟩
        rw [found ho hmem hall]
      · simp only [decide_eq_false_iff_not] at he
        rw [w64 (by omega)]
        refine ⟨⟨i', j + 1, o, rfl, by omega, ho, by omega, rfl, ?_, hall⟩, by show 300 - ((j : Int) + 1).toNat < 300 - (j : Int).toNat; omega⟩
        rw [List.take_add_one]
        rw [List.getD_eq_getElem?_getD] at he
        rw [List.getElem?_eq_getElem (show j < o.st.length by omega)] at he ⊢
        intro hm
        rcases List.mem_append.1 hm with h | h
        · exact hst h
        · simp only [Option.toList_some, List.mem_singleton] at h
          exact he h.symm
    · simp only [decide_eq_false_iff_not] at hge2
      rw [List.take_of_length_le (by omega)] at hst
      rw [w64 (by omega)]
      refine ⟨⟨i' + 1, by omega, by omega, rfl, fun x hx => ?_⟩, by show 100 - ((i' : Int) + 1).toNat < 100 - (i' : Int).toNat; omega⟩
      rw [List.take_add_one, ho] at hx
      rcases List.mem_append.1 hx with h | h
      · exact hall x h
      · simp only [Option.toList_some, List.mem_singleton] at h
        subst h; exact hst
  · simp only [decide_eq_false_iff_not] at hge
    rw [List.take_of_length_le (by omega)] at hall
    refine ⟨rfl, ?_⟩
    have : ownO s O = none := by
      unfold ownO
      exact List.find?_eq_none.2 (by intro x hx; simpa using hall x hx)
    rw [this]
end
end Go.Proofs.Ytclkoojcibgcdaa
