/- The disk: copies of bytes, membership, and what its small functions do. -/
import Derived.Test.YtbidancfbilbkaaC1
import Derived.Test.YtbidancfbilbkaaRepS
namespace Go.Proofs.Ytbidancfbilbkaa
open Go.Vc

theorem elemB : ElemOf Try.prog 29 5 1 1 := ⟨by kernel_rfl, ⟨Try.t5, .int .u8 0, by kernel_rfl, by kernel_rfl, by kernel_rfl, by kernel_rfl, by kernel_rfl⟩, by omega⟩

theorem clone_spec {p : Option Addr} {l c : Nat} {w : World} {bs : List UInt8} (h : BytesAt w p l bs) (hb : l ≤ 1073741824) (hp : p = none → l = 0) :
    Calls Try.prog 56 #[.slice p l c] w fun e w' => ∃ p' c', e = .returned (.slice p' l c') ∧ Ext w w' ∧ OwnS w' w.heap.size 5 1 p' l c' (encB bs) ∧ (p' = none ↔ p = none) := by
  refine (F56_calls p l c w (fun v w' => ∃ p' c', v = .slice p' l c' ∧ Ext w w' ∧ OwnS w' w.heap.size 5 1 p' l c' (encB bs) ∧ (p' = none ↔ p = none)) ?_).mono (by
    rintro e w' ⟨v, rfl, p', c', rfl, h⟩; exact ⟨p', c', rfl, h⟩)
  refine condB_of (fun hn => ?_) (fun hn => ?_)
  · have : p = none := by simpa using hn
    subst this
    obtain rfl := hp rfl
    have hbs : bs = [] := List.eq_nil_of_length_eq_zero h.1.symm
    subst hbs
    exact ⟨none, 0, rfl, Upd.refl _ _, OwnS.nil _ _ _ _, by simp⟩
  · intro k w3 hk
    have hown : OwnS w3 w.heap.size 5 1 (some (at0 k)) 0 0 [] := OwnS.made hk (by rw [hk.size.1]; exact Nat.le_refl _) (Nat.le_refl _) (by unfold maxLen; omega) rfl
    have hl := h.1
    obtain ⟨p', c', w', hr, hown', hu, hnil⟩ := hown.append elemB 29 (q := p) (m := l) (d := c) (news := encB bs) (by rw [encB_length]; omega) ((h.ext hk.ext).cells) hp
      (encB_one bs) (by unfold maxLen; omega) (by omega) (by rw [hk.size.2]; omega)
    rw [Nat.zero_add] at hr hown'
    refine ⟨p', l, c', w', hr, p', c', rfl, ?_, hown', ?_⟩
    · refine Upd.trans hk.ext hu fun x hx hs => ?_
      simp only [Option.some.injEq, at0, Addr.mk.injEq, and_true] at hs
      rw [hk.size.1] at hs
      omega
    · rw [hnil]
      simp only [Option.isNone_eq_false_iff] at hn
      have : p ≠ none := by rintro rfl; simp at hn
      simp [this]

/-! ## a slice of ints -/

def IntsAt (w : World) (p : Option Addr) (n : Nat) (xs : List Int) : Prop := n = xs.length ∧ CellsAt w p (xs.map fun x => .int .i64 x)

theorem IntsAt.ext {w w' : World} {p : Option Addr} {n : Nat} {xs : List Int} (h : IntsAt w p n xs) (hu : Ext w w') : IntsAt w' p n xs := ⟨h.1, h.2.ext hu⟩
theorem IntsAt.get {w : World} {p : Option Addr} {n : Nat} {xs : List Int} (h : IntsAt w p n xs) {i : Nat} (hi : i < n) : ∃ a, p = some a ∧ w.cell? (a.add i) = some (.int .i64 (xs.getD i 0)) := by
  have hlt : i < xs.length := by rw [← h.1]; exact hi
  obtain ⟨a, ha, hc⟩ := h.2 i (.int .i64 xs[i]) (by simp [hlt])
  exact ⟨a, ha, by rw [hc]; simp [List.getD_eq_getElem?_getD, hlt]⟩

theorem index_spec {p : Option Addr} {l c : Nat} {x : Int} {w : World} {xs : List Int} (h : IntsAt w p l xs) (hm : l ≤ 4611686018427387904) :
    Calls Try.prog 72 #[.slice p l c, .int .i64 x] w fun e w' => ∃ i : Int, e = .returned (.int .i64 i) ∧ (0 ≤ i ↔ x ∈ xs) ∧ w' = w := by
  have hl := h.1
  refine (F72_calls p l c x w (fun v w' => ∃ i : Int, v = .int .i64 i ∧ (0 ≤ i ↔ x ∈ xs) ∧ w' = w)
    (fun _ _ i w1 => 0 ≤ i ∧ i ≤ l ∧ w1 = w ∧ ∀ j : Nat, (j : Int) < i → xs.getD j 0 ≠ x) (fun _ _ i _ => (l - i).toNat) ?_).mono (by rintro e w' ⟨v, rfl, i, rfl, h⟩; exact ⟨i, rfl, h⟩)
  refine ⟨⟨by omega, by omega, rfl, fun j hj => by omega⟩, ?_⟩
  rintro i w5 ⟨hi0, hi1, rfl, hall⟩
  intros
  refine condB_of (fun ht => ?_) (fun ht => ?_)
  · simp only [decide_eq_true_eq] at ht
    refine ⟨⟨hi0, ht⟩, ?_⟩
    obtain ⟨a, rfl, ha⟩ := h.get (i := i.toNat) (by omega)
    refine ⟨_, by rw [Nat.mul_one]; exact ha, ?_⟩
    refine condB_of (fun he => ?_) (fun he => ?_)
    · simp only [decide_eq_true_eq] at he
      refine ⟨i, rfl, ⟨fun _ => ?_, fun _ => hi0⟩, rfl⟩
      rw [he, List.getD_eq_getElem?_getD, List.getElem?_eq_getElem (by omega)]
      exact List.getElem_mem _
    · simp only [decide_eq_false_iff_not] at he
      rw [w64 (by omega)]
      refine ⟨⟨by omega, by omega, rfl, fun j hj => ?_⟩, by show ((l : Int) - (i + 1)).toNat < ((l : Int) - i).toNat; omega⟩
      by_cases h2 : (j : Int) < i
      · exact hall j h2
      · have : j = i.toNat := by omega
        rw [this]; exact Ne.symm he
  · simp only [decide_eq_false_iff_not] at ht
    refine ⟨-1, rfl, ⟨fun h0 => by omega, fun hx => ?_⟩, rfl⟩
    exfalso
    obtain ⟨j, hj, rfl⟩ := List.getElem_of_mem hx
    exact hall j (by omega) (by simp [List.getD_eq_getElem?_getD, hj])

theorem contains_spec {p : Option Addr} {l c : Nat} {x : Int} {w : World} {xs : List Int} (h : IntsAt w p l xs) (hm : l ≤ 4611686018427387904) :
    Calls Try.prog 60 #[.slice p l c, .int .i64 x] w fun e w' => e = .returned (.bool (decide (x ∈ xs))) ∧ w' = w := by
  refine (F60_calls p l c x w (fun v w' => v = .bool (decide (x ∈ xs)) ∧ w' = w) ?_).mono (by rintro e w' ⟨v, rfl, rfl, h⟩; exact ⟨rfl, h⟩)
  refine (index_spec h hm).mono ?_
  rintro e w' ⟨i, rfl, hi, rfl⟩
  refine ⟨i, rfl, ?_, rfl⟩
  simp only [hi]

/-! ## what a disk is -/

structure Dk where
  sectors : Int
  lasts : SM
  waits : SM
  dead : Bool

/-- a value of a disk's map -/
def SliceVal (G : Nat → Prop) (w : World) (v : Value) (bs : List UInt8) : Prop :=
  ∃ p n c, v = .slice p n c ∧ BytesAt w p n bs ∧ bs ≠ [] ∧ n ≤ 4108 ∧ ∀ a, p = some a → G a.block

theorem SliceVal.upd {S G : Nat → Prop} {w w' : World} {v : Value} {bs : List UInt8} (h : SliceVal G w v bs) (hu : Upd S w w') (hS : ∀ x, G x → ¬ S x) : SliceVal G w' v bs := by
  obtain ⟨p, n, c, rfl, hb, hne, hn, hG⟩ := h
  exact ⟨p, n, c, rfl, hb.upd hu (fun a ha _ => hS _ (hG a ha)), hne, hn, hG⟩
theorem SliceVal.mono {G G' : Nat → Prop} {w : World} {v : Value} {bs : List UInt8} (h : SliceVal G w v bs) (hG : ∀ x, G x → G' x) : SliceVal G' w v bs := by
  obtain ⟨p, n, c, rfl, hb, hne, hn, h⟩ := h
  exact ⟨p, n, c, rfl, hb, hne, hn, fun a ha => hG _ (h a ha)⟩

/-- a disk: the block of its fields, of its two maps, and those of its bytes -/
structure IsDisk (w : World) (b m1 m2 : Nat) (D : Dk) (G : Nat → Prop) : Prop where
  row : RowW w b #[.int .i64 D.sectors, .map (some m1), .map (some m2), .bool D.dead]
  lasts : MapOf intK (SliceVal G w) w m1 D.lasts
  waits : MapOf intK (SliceVal G w) w m2 D.waits
  asc1 : Asc D.lasts
  asc2 : Asc D.waits
  ne : b ≠ m1 ∧ b ≠ m2 ∧ m1 ≠ m2
  apart : ∀ x, G x → x ≠ b ∧ x ≠ m1 ∧ x ≠ m2
  bound : ∀ x, G x → x < w.heap.size

/-- all blocks of a disk -/
def Foot (b m1 m2 : Nat) (G : Nat → Prop) : Nat → Prop := fun x => x = b ∨ x = m1 ∨ x = m2 ∨ G x

theorem IsDisk.upd {S : Nat → Prop} {w w' : World} {b m1 m2 : Nat} {D : Dk} {G : Nat → Prop} (h : IsDisk w b m1 m2 D G) (hu : Upd S w w') (hS : ∀ x, S x → ¬ Foot b m1 m2 G x) :
    IsDisk w' b m1 m2 D G := by
  have hG : ∀ x, G x → ¬ S x := fun x hx hs => hS x hs (.inr (.inr (.inr hx)))
  exact ⟨hu.rowW h.row fun hs => hS _ hs (.inl rfl), (h.lasts.upd hu fun hs => hS _ hs (.inr (.inl rfl))).mono fun v x hv => hv.upd hu hG,
    (h.waits.upd hu fun hs => hS _ hs (.inr (.inr (.inl rfl)))).mono fun v x hv => hv.upd hu hG, h.asc1, h.asc2, h.ne, h.apart, fun x hx => Nat.lt_of_lt_of_le (h.bound x hx) hu.size⟩
theorem IsDisk.ext {w w' : World} {b m1 m2 : Nat} {D : Dk} {G : Nat → Prop} (h : IsDisk w b m1 m2 D G) (hu : Ext w w') : IsDisk w' b m1 m2 D G := h.upd hu fun _ h => h.elim
theorem IsDisk.foot {w : World} {b m1 m2 : Nat} {D : Dk} {G : Nat → Prop} (h : IsDisk w b m1 m2 D G) : ∀ x, Foot b m1 m2 G x → x < w.heap.size := by
  rintro x (rfl | rfl | rfl | hx)
  · exact h.row.lt
  · exact h.lasts.lt
  · exact h.waits.lt
  · exact h.bound x hx

theorem dead_nil (w : World) : Calls Try.prog 54 #[.pointer none] w fun e w' => e = .returned (.bool false) ∧ w' = w :=
  (F54_calls none w (fun v w' => v = .bool false ∧ w' = w) ⟨rfl, rfl⟩).mono (by rintro e w' ⟨v, rfl, rfl, h⟩; exact ⟨rfl, h⟩)
theorem dead_spec {w : World} {b m1 m2 : Nat} {D : Dk} {G : Nat → Prop} (h : IsDisk w b m1 m2 D G) :
    Calls Try.prog 54 #[.pointer (some (at0 b))] w fun e w' => e = .returned (.bool D.dead) ∧ w' = w :=
  (F54_calls (some (at0 b)) w (fun v w' => v = .bool D.dead ∧ w' = w) ⟨_, h.row.row.cell rfl, rfl, rfl⟩).mono (by rintro e w' ⟨v, rfl, rfl, h⟩; exact ⟨rfl, h⟩)

theorem mapT : Try.prog.underlying 87 = some (.map 3 29) := by kernel_rfl
theorem intT : Try.prog.underlying 3 = some intK.kd := by kernel_rfl
theorem zeroT : zeroOf Try.prog 29 = some (.slice none 0 0) := by kernel_rfl

theorem empty_nil (dd : Bool) (w : World) : Calls Try.prog 69 #[.pointer none, .bool dd] w fun e w' => e = .returned (.tuple #[]) ∧ w' = w :=
  (F69_calls none dd w (fun v w' => v = .tuple #[] ∧ w' = w) ⟨rfl, rfl⟩).mono (by rintro e w' ⟨v, rfl, rfl, h⟩; exact ⟨rfl, h⟩)

/-- the blocks of its fields and maps -/
def Core (b m1 m2 : Nat) : Nat → Prop := fun x => x = b ∨ x = m1 ∨ x = m2

theorem empty_spec {w : World} {b m1 m2 : Nat} {D : Dk} {G : Nat → Prop} (h : IsDisk w b m1 m2 D G) (dd : Bool) :
    Calls Try.prog 69 #[.pointer (some (at0 b)), .bool dd] w fun e w' => e = .returned (.tuple #[]) ∧ Upd (Core b m1 m2) w w' ∧ IsDisk w' b m1 m2 { D with dead := dd, lasts := [], waits := [] } G := by
  refine (F69_calls (some (at0 b)) dd w (fun v w' => v = .tuple #[] ∧ Upd (Core b m1 m2) w w' ∧ IsDisk w' b m1 m2 { D with dead := dd, lasts := [], waits := [] } G) ?_).mono (by
    rintro e w' ⟨v, rfl, rfl, h⟩; exact ⟨rfl, h⟩)
  obtain ⟨n1, n2, n3⟩ := h.ne
  refine ⟨h.row.live (n := 3) (by simp), fun w4 hs => ?_⟩
  have hu4 : Upd (fun x => x = b) w w4 := by have := hs.upd; rw [add_at0] at this; exact this
  have r4 : RowW w4 b #[.int .i64 D.sectors, .map (some m1), .map (some m2), .bool dd] := hs.row h.row
  refine ⟨_, r4.row.cell rfl, ?_⟩
  obtain ⟨w7, hr7, hu7, _, hm7⟩ := MapOf.clear (P := Try.prog) (ty := 0) (h.lasts.upd hu4 (Ne.symm n1)) mapT
  refine ⟨_, w7, hr7, ?_⟩
  have r7 := hu7.rowW r4 n1
  refine ⟨_, r7.row.cell rfl, ?_⟩
  obtain ⟨w11, hr11, hu11, _, hm11⟩ := MapOf.clear (P := Try.prog) (ty := 0) ((h.waits.upd hu4 (Ne.symm n2)).upd hu7 (Ne.symm n3)) mapT
  refine ⟨_, w11, hr11, rfl, ?_, ?_⟩
  · refine Upd.trans (Upd.trans (S := Core b m1 m2) (hu4.mono fun x _ hx => .inl hx) hu7 fun x _ hx => .inr (.inl hx)) hu11 fun x _ hx => .inr (.inr hx)
  · refine ⟨hu11.rowW r7 n2, ?_, ?_, .nil, .nil, h.ne, h.apart, fun x hx => Nat.lt_of_lt_of_le (h.bound x hx) (Nat.le_trans hu4.size (Nat.le_trans hu7.size hu11.size))⟩
    · exact (hm7.upd hu11 n3).empty
    · exact hm11.empty
end Go.Proofs.Ytbidancfbilbkaa
