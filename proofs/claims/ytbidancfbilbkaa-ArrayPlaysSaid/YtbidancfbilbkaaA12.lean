/- Two lists of bools, of ints; what is told of several disks. -/
import Derived.Test.YtbidancfbilbkaaAL5
namespace Go.Proofs.Ytbidancfbilbkaa
open Go Go.Vc

set_option maxHeartbeats 1000000 in
theorem bools_spec {w : World} {p1 p2 : Option Addr} {l1 c1 l2 c2 : Nat} {A B : List Bool} (h1 : l1 = A.length ∧ CellsAt w p1 (A.map Value.bool)) (h2 : l2 = B.length ∧ CellsAt w p2 (B.map Value.bool)) (hl : l1 ≤ 1000) :
    Calls Try.prog 31 #[.slice p1 l1 c1, .slice p2 l2 c2] w fun e w' => e = .returned (.bool (decide (A = B))) ∧ Ext w w' := by
  refine (F31_calls p1 l1 c1 p2 l2 c2 w (fun v w' => v = .bool (decide (A = B)) ∧ Ext w w') (fun _ n w4 => ∃ i : Nat, n = i ∧ i ≤ l1 ∧ Ext w w4 ∧ A.take i = B.take i) (fun _ n _ => 1000 - n.toNat) ?_).mono (by rintro e w' ⟨v, rfl, rfl, h⟩; exact ⟨rfl, h⟩)
  have e1 := h1.1
  have e2 := h2.1
  refine condB_of (fun hne => ?_) (fun heq => ?_)
  · simp only [Bool.not_eq_true', decide_eq_false_iff_not] at hne
    refine ⟨?_, Upd.refl _ _⟩
    have : ¬ A = B := by rintro rfl; omega
    simp [this]
  simp only [Bool.not_eq_false', decide_eq_true_eq] at heq
  refine ⟨⟨0, rfl, Nat.zero_le _, Upd.refl _ _, by simp⟩, ?_⟩
  rintro n w4 ⟨i, rfl, hi, x4, ht⟩
  intros
  refine condB_of (fun hlt => ?_) (fun hge => ?_)
  · simp only [decide_eq_true_eq] at hlt
    intro w21 d21
    have x21 := x4.trans d21.ext
    obtain ⟨x, hx⟩ : ∃ x, A[i]? = some x := ⟨A[i]'(by omega), List.getElem?_eq_getElem _⟩
    obtain ⟨y, hy⟩ : ∃ y, B[i]? = some y := ⟨B[i]'(by omega), List.getElem?_eq_getElem _⟩
    obtain ⟨a, rfl, ca⟩ := (h1.2.ext x21) i (Value.bool x) (by rw [List.getElem?_map, hx]; rfl)
    obtain ⟨b, rfl, cb⟩ := (h2.2.ext x21) i (Value.bool y) (by rw [List.getElem?_map, hy]; rfl)
    rw [Int.toNat_natCast, Nat.mul_one]
    refine ⟨⟨by omega, hlt⟩, x, ca, ⟨by omega, by omega⟩, y, cb, condB_of (fun hne => ?_) (fun he => ?_)⟩
    · refine ⟨?_, x21⟩
      have : ¬ A = B := by
        rintro rfl
        rw [hx] at hy
        cases hy
        simp at hne
      simp [this]
    · have he' : x = y := by simpa using he
      subst he'
      rw [w64 (by omega)]
      refine ⟨⟨i + 1, by omega, by omega, x21, ?_⟩, by show 1000 - ((i : Int) + 1).toNat < 1000 - (i : Int).toNat; omega⟩
      rw [List.take_add_one, List.take_add_one, ht, hx, hy]
  · simp only [decide_eq_false_iff_not] at hge
    refine ⟨?_, x4⟩
    have f1 : A.take i = A := List.take_of_length_le (by omega)
    have f2 : B.take i = B := List.take_of_length_le (by omega)
    rw [f1, f2] at ht
    simp [ht]

set_option maxHeartbeats 1000000 in
theorem intsq_spec {w : World} {p1 p2 : Option Addr} {l1 c1 l2 c2 : Nat} {A B : List Int} (h1 : l1 = A.length ∧ CellsAt w p1 (A.map (Value.int .i64))) (h2 : l2 = B.length ∧ CellsAt w p2 (B.map (Value.int .i64))) (hl : l1 ≤ 1000) :
    Calls Try.prog 30 #[.slice p1 l1 c1, .slice p2 l2 c2] w fun e w' => e = .returned (.bool (decide (A = B))) ∧ Ext w w' := by
  refine (F30_calls p1 l1 c1 p2 l2 c2 w (fun v w' => v = .bool (decide (A = B)) ∧ Ext w w') (fun _ n w4 => ∃ i : Nat, n = i ∧ i ≤ l1 ∧ Ext w w4 ∧ A.take i = B.take i) (fun _ n _ => 1000 - n.toNat) ?_).mono (by rintro e w' ⟨v, rfl, rfl, h⟩; exact ⟨rfl, h⟩)
  have e1 := h1.1
  have e2 := h2.1
  refine condB_of (fun hne => ?_) (fun heq => ?_)
  · simp only [Bool.not_eq_true', decide_eq_false_iff_not] at hne
    refine ⟨?_, Upd.refl _ _⟩
    have : ¬ A = B := by rintro rfl; omega
    simp [this]
  simp only [Bool.not_eq_false', decide_eq_true_eq] at heq
  refine ⟨⟨0, rfl, Nat.zero_le _, Upd.refl _ _, by simp⟩, ?_⟩
  rintro n w4 ⟨i, rfl, hi, x4, ht⟩
  intros
  refine condB_of (fun hlt => ?_) (fun hge => ?_)
  · simp only [decide_eq_true_eq] at hlt
    intro w21 d21
    have x21 := x4.trans d21.ext
    obtain ⟨x, hx⟩ : ∃ x, A[i]? = some x := ⟨A[i]'(by omega), List.getElem?_eq_getElem _⟩
    obtain ⟨y, hy⟩ : ∃ y, B[i]? = some y := ⟨B[i]'(by omega), List.getElem?_eq_getElem _⟩
    obtain ⟨a, rfl, ca⟩ := (h1.2.ext x21) i ((Value.int .i64) x) (by rw [List.getElem?_map, hx]; rfl)
    obtain ⟨b, rfl, cb⟩ := (h2.2.ext x21) i ((Value.int .i64) y) (by rw [List.getElem?_map, hy]; rfl)
    rw [Int.toNat_natCast, Nat.mul_one]
    refine ⟨⟨by omega, hlt⟩, x, ca, ⟨by omega, by omega⟩, y, cb, condB_of (fun hne => ?_) (fun he => ?_)⟩
    · refine ⟨?_, x21⟩
      have : ¬ A = B := by
        rintro rfl
        rw [hx] at hy
        cases hy
        simp at hne
      simp [this]
    · have he' : x = y := by simpa using he
      subst he'
      rw [w64 (by omega)]
      refine ⟨⟨i + 1, by omega, by omega, x21, ?_⟩, by show 1000 - ((i : Int) + 1).toNat < 1000 - (i : Int).toNat; omega⟩
      rw [List.take_add_one, List.take_add_one, ht, hx, hy]
  · simp only [decide_eq_false_iff_not] at hge
    refine ⟨?_, x4⟩
    have f1 : A.take i = A := List.take_of_length_le (by omega)
    have f2 : B.take i = B := List.take_of_length_le (by omega)
    rw [f1, f2] at ht
    simp [ht]

/-- what is told of several disks: a row of slices of the call's own -/
def TellL (w : World) (base : Nat) (p : Option Addr) (l c : Nat) (LL : List SM) : Prop :=
  ∃ vs, All2 (fun v L => ∃ q n d, v = Value.slice q n d ∧ HeldS w base q n d L) vs LL ∧ OwnS w base 33 1 p l c vs ∧ l = LL.length

theorem HeldS.updT {S : Nat → Prop} {w w' : World} {base : Nat} {p : Option Addr} {l c : Nat} {L : SM} (h : HeldS w base p l c L) (hu : Upd S w w') (hS : ∀ y cs e fz, w.heap[y]? = some (.cells cs e fz) → e ≠ 33 → ¬ S y) : HeldS w' base p l c L := by
  obtain ⟨vs, h1, h2, h3⟩ := h
  refine ⟨vs, all2_imp h1 fun v x hv => ?_, h2.upd hu ?_, h3⟩
  · refine hv.upd hu fun y hy => ?_
    obtain ⟨_, cs, fz, h⟩ := hy
    exact hS y cs _ fz h (by decide)
  · intro g hg
    rcases h2.where_ with ⟨hp, _⟩ | ⟨g', hp, hb, hlt, _, cur, hcur, _⟩
    · rw [hp] at hg; cases hg
    · rw [hp] at hg
      simp only [Option.some.injEq, at0, Addr.mk.injEq, and_true] at hg
      subst hg
      exact hS _ cur _ _ hcur (by decide)

theorem own_in {w : World} {base : Nat} {e : TypeId} {sz : Nat} {p : Option Addr} {n c : Nat} {xs : List Value} (h : OwnS w base e sz p n c xs) {g : Nat} (hg : p = some (at0 g)) :
    base ≤ g ∧ g < w.heap.size ∧ ∃ cur, w.heap[g]? = some (.cells cur e (0, 0)) := by
  rcases h.where_ with ⟨hp, _⟩ | ⟨g', hp, hb, hlt, _, cur, hcur, _⟩
  · rw [hp] at hg; cases hg
  · rw [hp] at hg
    simp only [Option.some.injEq, at0, Addr.mk.injEq, and_true] at hg
    subst hg
    exact ⟨hb, hlt, cur, hcur⟩

theorem TellL.nil (w : World) (base : Nat) : TellL w base none 0 0 [] := ⟨[], .nil, OwnS.nil _ _ _ _, rfl⟩
theorem TellL.upd {S : Nat → Prop} {w w' : World} {base : Nat} {p : Option Addr} {l c : Nat} {LL : List SM} (h : TellL w base p l c LL) (hu : Upd S w w') (hS : ∀ y, base ≤ y → y < w.heap.size → ¬ S y) : TellL w' base p l c LL := by
  obtain ⟨vs, h1, h2, h3⟩ := h
  refine ⟨vs, all2_imp h1 fun v L hv => ?_, h2.upd hu fun g hg => ?_, h3⟩
  · obtain ⟨q, n, d, rfl, hh⟩ := hv
    exact ⟨q, n, d, rfl, hh.upd hu hS⟩
  · obtain ⟨g1, g2, _⟩ := own_in h2 hg
    exact hS g g1 g2
theorem TellL.ext {w w' : World} {base : Nat} {p : Option Addr} {l c : Nat} {LL : List SM} (h : TellL w base p l c LL) (hu : Ext w w') : TellL w' base p l c LL := h.upd hu fun _ _ _ h => h
/-- another list's row is changed -/
theorem TellL.updT {S : Nat → Prop} {w w' : World} {base : Nat} {p : Option Addr} {l c : Nat} {LL : List SM} (h : TellL w base p l c LL) (hu : Upd S w w') (hS : ∀ y cs e fz, w.heap[y]? = some (.cells cs e fz) → e ≠ 33 → ¬ S y)
    (hp : ∀ g, p = some (at0 g) → ¬ S g) : TellL w' base p l c LL := by
  obtain ⟨vs, h1, h2, h3⟩ := h
  refine ⟨vs, all2_imp h1 fun v L hv => ?_, h2.upd hu hp, h3⟩
  obtain ⟨q, n, d, rfl, hh⟩ := hv
  exact ⟨q, n, d, rfl, hh.updT hu hS⟩
/-- what is told of one of them -/
theorem TellL.at {w : World} {base : Nat} {p : Option Addr} {l c : Nat} {LL : List SM} (h : TellL w base p l c LL) {i : Nat} {L : SM} (hi : LL[i]? = some L) :
    ∃ a q n d, p = some a ∧ w.cell? (a.add (i * 1)) = some (.slice q n d) ∧ HeldS w base q n d L := by
  obtain ⟨vs, h1, h2, _⟩ := h
  obtain ⟨v, hv, q, n, d, rfl, hh⟩ := all2_at h1 hi
  obtain ⟨a, ha, e⟩ := h2.cells i _ hv
  exact ⟨a, q, n, d, ha, by rw [Nat.mul_one]; exact e, hh⟩

theorem elemLH : ElemOf Try.prog 49 33 1 24 := ⟨by kernel_rfl, ⟨Try.t33, .slice none 0 0, by kernel_rfl, by kernel_rfl, by kernel_rfl, by kernel_rfl, by kernel_rfl⟩, by decide⟩

/-- one more is told -/
theorem TellL.app {w w1 : World} {base : Nat} {p : Option Addr} {l c : Nat} {LL : List SM} (h : TellL w base p l c LL) (hl : l ≤ 1000) (hb : base ≤ w.heap.size) {q : Option Addr} {n d : Nat} {L : SM} (hn : HeldS w base q n d L)
    {k : Nat} (hk : NewB w k (.cells #[.slice q n d] 33) w1) :
    ∃ p' c' w2, (Builtin.append_ #[49, 49] 49 #[.slice p l c, .slice (some (at0 k)) 1 1]).run Try.prog w1 = .ok (.slice p' (l + 1) c') w2 ∧ TellL w2 base p' (l + 1) c' (LL ++ [L]) ∧
      Upd (fun b => p = some (at0 b)) w w2 ∧ (p' = p ∨ p' = some (at0 w1.heap.size)) ∧ (∀ y cs e fz, w.heap[y]? = some (.cells cs e fz) → e ≠ 33 → ¬ p = some (at0 y)) ∧ (∀ g, p = some (at0 g) → base ≤ g) := by
  have h1 := h.ext hk.ext
  have hn1 := hn.ext hk.ext
  obtain ⟨vs, ha, ho, hl2⟩ := h1
  have hbox : CellsAt w1 (some (at0 k)) [.slice q n d] := by
    intro j u hj
    refine ⟨_, rfl, ?_⟩
    have hb := hk.at
    match j, hj with
    | 0, hj => cases hj; simp [World.cell?, Addr.add, hb]
  have hone : ∀ u ∈ [Value.slice q n d], u.oneCell' = true := by intro u hu; simp only [List.mem_singleton] at hu; subst hu; rfl
  obtain ⟨p', c', w2, hr, ho2, hu2, _⟩ := ho.append elemLH 49 (q := some (at0 k)) (m := 1) (d := 1) (news := [.slice q n d]) rfl hbox (fun h => by cases h) hone (by unfold maxLen; omega) (by omega) (Nat.le_trans hb hk.ext.size)
  have hw := app_where elemLH 49 ho rfl hbox hone (by omega) (by unfold maxLen; omega) (by omega) hr
  have hT1 : ∀ y cs e fz, w1.heap[y]? = some (.cells cs e fz) → e ≠ 33 → ¬ p = some (at0 y) := by
    intro y cs e fz hy he hp
    obtain ⟨_, _, cur, hc⟩ := own_in ho hp
    rw [hy] at hc
    simp only [Option.some.injEq, Obj.cells.injEq] at hc
    exact he hc.2.1
  refine ⟨p', c', w2, hr, ⟨vs ++ [.slice q n d], ?_, ho2, by simp [hl2]⟩, ?_, hw, ?_, fun g hg => (own_in ho hg).1⟩
  · refine (all2_imp ha fun v L hv => ?_).append (.cons ⟨q, n, d, rfl, hn1.updT hu2 hT1⟩ .nil)
    obtain ⟨q', n', d', rfl, hh⟩ := hv
    exact ⟨q', n', d', rfl, hh.updT hu2 hT1⟩
  · exact Upd.trans hk.ext.upd hu2 fun x _ hx => hx
  · intro y cs e fz hy he
    exact hT1 y cs e fz (hk.ext.keep hy) he
end Go.Proofs.Ytbidancfbilbkaa
