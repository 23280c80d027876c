import Derived.Test.YtkolafpgbhpdlaaGreatGa
import Derived.Test.YtkolafpgbhpdlaaGreatRepM
import Derived.Test.YtkolafpgbhpdlaaGreatRepS
import Derived.Maps.Own
import Derived.Lib.SlKeysI
import Derived.Test.YtkolafpgbhpdlaaGreatProg
import Derived.Shelf.SlIterI.Nil
import Derived.Shelf.SortM.Plain
import Derived.Shelf.SortM.SortNone
import Derived.Test.YtkolafpgbhpdlaaGreatRep
namespace Go.Proofs.YtkolafpgbhpdlaaGreat
open Go.Vc
theorem getD_inj {xs ys : List UInt8} (i : Nat) : ((xs.getD i 0).toNat : Int) = ((ys.getD i 0).toNat : Int) ↔ xs.getD i 0 = ys.getD i 0 := by
 constructor
 ·intro h; exact UInt8.toNat_inj.1 (by omega)
 ·intro h; rw [h]
theorem same_spec {p1 p2 : Option Addr} {l1 c1 l2 c2 : Nat} {w : World} {xs ys : List UInt8} (h1 : BytesAt w p1 l1 xs) (h2 : BytesAt w p2 l2 ys) (hm : l1 ≤ 4611686018427387904) :
  Calls Tryz.prog 18 #[.slice p1 l1 c1, .slice p2 l2 c2] w fun e w' => e = .returned (.bool (decide (xs = ys))) ∧ Quiet w w' := by
 refine (F18_calls p1 l1 c1 p2 l2 c2 w (fun v w' => v = .bool (decide (xs = ys)) ∧ Quiet w w')
  (fun _ i w1 => 0 ≤ i ∧ i ≤ l1 ∧ Quiet w w1 ∧ ∀ j : Nat, (j : Int) < i → xs.getD j 0 = ys.getD j 0) (fun _ i _ => (l1 - i).toNat) ?_).mono (by rintro e w' ⟨v, rfl, rfl, h⟩; exact ⟨rfl, h⟩)
 unfold F18
 have hx := h1.1
 have hy := h2.1
 refine condB_of (fun hc => ?_) (fun hc => ?_)
 ·simp only [Bool.not_eq_true', decide_eq_false_iff_not] at hc
  have : xs ≠ ys := by rintro rfl; omega
  exact ⟨by simp [this], Quiet.refl w⟩
 ·simp only [Bool.not_eq_false', decide_eq_true_eq] at hc
  have hc : l1 = l2 := by omega
  refine ⟨⟨by omega, by omega, Quiet.refl w, fun j hj => by omega⟩, ?_⟩
  rintro i w4 ⟨hi0, hi1, hq, hall⟩
  intros
  refine condB_of (fun ht => ?_) (fun ht => ?_)
  ·simp only [decide_eq_true_eq] at ht
   intro w21 hd
   have hq2 := hq.trans hd.quiet
   refine ⟨⟨hi0, ht⟩, ?_⟩
   obtain ⟨a, rfl, ha⟩ := (h1.ext hq2.ext).get (i := i.toNat) (by omega)
   obtain ⟨b, rfl, hb⟩ := (h2.ext hq2.ext).get (i := i.toNat) (by omega)
   refine ⟨_, by rw [Nat.mul_one]; exact ha, ⟨hi0, by omega⟩, _, by rw [Nat.mul_one]; exact hb, ?_⟩
   refine condB_of (fun hn => ?_) (fun hn => ?_)
   ·simp only [Bool.not_eq_true', decide_eq_false_iff_not, getD_inj] at hn
    have : xs ≠ ys := by rintro rfl; exact hn rfl
    exact ⟨by simp [this], hq2⟩
   ·simp only [Bool.not_eq_false', decide_eq_true_eq, getD_inj] at hn
    rw [w64 (by omega)]
    refine ⟨⟨by omega, by omega, hq2, fun j hj => ?_⟩, by show ((l1 : Int) - (i + 1)).toNat < ((l1 : Int) - i).toNat; omega⟩
    by_cases h : (j : Int) < i
    ·exact hall j h
    ·have : j = i.toNat := by omega
     rw [this]; exact hn
  ·simp only [decide_eq_false_iff_not] at ht
   have : xs = ys := by
    apply List.ext_getElem (by omega)
    intro j hj1 hj2
    have := hall j (by omega)
    simpa [List.getD_eq_getElem?_getD, hj1, hj2] using this
   exact ⟨by simp [this], hq⟩
def faultZ (dead : Bool) (sectors n : Int) : Int := if dead then 120 else if n < 0 ∨ sectors ≤ n then 121 else 0
theorem fault_spec {b : Nat} {n sectors : Int} {r1 r2 : Option Nat} {dead : Bool} {w : World} (h : RowW w b #[.int .i64 sectors, .map r1, .map r2, .bool dead]) :
  Calls Tryz.prog 75 #[.pointer (some (at0 b)), .int .i64 n] w fun e w' => e = .returned (.int .i64 (faultZ dead sectors n)) ∧ w' = w := by
 refine (F75_calls (some (at0 b)) n w (fun v w' => v = .int .i64 (faultZ dead sectors n) ∧ w' = w) ?_).mono (by rintro e w' ⟨v, rfl, rfl, h⟩; exact ⟨rfl, h⟩)
 refine ⟨dead, h.row.cell rfl, ?_⟩
 unfold faultZ
 refine condB_of (fun hd => ?_) (fun hd => ?_)
 ·simp [hd]
 ·refine condB_of (fun h1 => ?_) (fun h1 => ?_)
  ·simp only [decide_eq_true_eq] at h1
   simp [hd, h1]
  ·simp only [decide_eq_false_iff_not] at h1
   refine ⟨sectors, h.row.cell rfl, condB_of (fun h2 => ?_) (fun h2 => ?_)⟩
   ·simp only [decide_eq_true_eq] at h2
    simp [hd, h2]
   ·simp only [decide_eq_false_iff_not] at h2
    simp [hd, h1, h2]
end Go.Proofs.YtkolafpgbhpdlaaGreat
namespace Go.Proofs.YtkolafpgbhpdlaaGreat
open Go.Vc
def IntsAt (w : World) (p : Option Addr) (n : Nat) (xs : List Int) : Prop := n = xs.length ∧ CellsAt w p (xs.map fun x => .int .i64 x)
theorem IntsAt.ext {w w' : World} {p : Option Addr} {n : Nat} {xs : List Int} (h : IntsAt w p n xs) (hu : Ext w w') : IntsAt w' p n xs := ⟨h.1, h.2.ext hu⟩
theorem IntsAt.get {w : World} {p : Option Addr} {n : Nat} {xs : List Int} (h : IntsAt w p n xs) {i : Nat} (hi : i < n) : ∃ a, p = some a ∧ w.cell? (a.add i) = some (.int .i64 (xs.getD i 0)) := by
 have hlt : i < xs.length := by rw [← h.1]; exact hi
 obtain ⟨a, ha, hc⟩ := h.2 i (.int .i64 xs[i]) (by simp [hlt])
 exact ⟨a, ha, by rw [hc]; simp [List.getD_eq_getElem?_getD, hlt]⟩
theorem index_spec {p : Option Addr} {l c : Nat} {x : Int} {w : World} {xs : List Int} (h : IntsAt w p l xs) (hm : l ≤ 9223372036854775807) :
  Calls Tryz.prog 105 #[.slice p l c, .int .i64 x] w fun e w' => ∃ i : Int, e = .returned (.int .i64 i) ∧ (0 ≤ i ↔ x ∈ xs) ∧ w' = w := by
 have hl := h.1
 refine (F105_calls p l c x w (fun v w' => ∃ i : Int, v = .int .i64 i ∧ (0 ≤ i ↔ x ∈ xs) ∧ w' = w)
  (fun _ _ i w1 => 0 ≤ i ∧ i ≤ l ∧ w1 = w ∧ ∀ j : Nat, (j : Int) < i → xs.getD j 0 ≠ x) (fun _ _ i _ => (l - i).toNat) ?_).mono (by rintro e w' ⟨v, rfl, i, rfl, h⟩; exact ⟨i, rfl, h⟩)
 refine ⟨⟨by omega, by omega, rfl, fun j hj => by omega⟩, ?_⟩
 rintro i w5 ⟨hi0, hi1, rfl, hall⟩
 intros
 refine condB_of (fun ht => ?_) (fun ht => ?_)
 ·simp only [decide_eq_true_eq] at ht
  refine ⟨⟨hi0, ht⟩, ?_⟩
  obtain ⟨a, rfl, ha⟩ := h.get (i := i.toNat) (by omega)
  refine ⟨_, by rw [Nat.mul_one]; exact ha, ?_⟩
  refine condB_of (fun he => ?_) (fun he => ?_)
  ·simp only [decide_eq_true_eq] at he
   refine ⟨i, rfl, ⟨fun _ => ?_, fun _ => hi0⟩, rfl⟩
   rw [he, List.getD_eq_getElem?_getD, List.getElem?_eq_getElem (by omega)]
   exact List.getElem_mem _
  ·simp only [decide_eq_false_iff_not] at he
   rw [w64 (by omega)]
   refine ⟨⟨by omega, by omega, rfl, fun j hj => ?_⟩, by show ((l : Int) - (i + 1)).toNat < ((l : Int) - i).toNat; omega⟩
   by_cases h2 : (j : Int) < i
   ·exact hall j h2
   ·have : j = i.toNat := by omega
    rw [this]; exact Ne.symm he
 ·simp only [decide_eq_false_iff_not] at ht
  refine ⟨-1, rfl, ⟨fun h0 => by omega, fun hx => ?_⟩, rfl⟩
  exfalso
  obtain ⟨j, hj, rfl⟩ := List.getElem_of_mem hx
  exact hall j (by omega) (by simp [List.getD_eq_getElem?_getD, hj])
theorem contains_spec {p : Option Addr} {l c : Nat} {x : Int} {w : World} {xs : List Int} (h : IntsAt w p l xs) (hm : l ≤ 9223372036854775807) :
  Calls Tryz.prog 66 #[.slice p l c, .int .i64 x] w fun e w' => e = .returned (.bool (decide (x ∈ xs))) ∧ w' = w := by
 refine (F66_calls p l c x w (fun v w' => v = .bool (decide (x ∈ xs)) ∧ w' = w) ?_).mono (by rintro e w' ⟨v, rfl, rfl, h⟩; exact ⟨rfl, h⟩)
 refine (index_spec h hm).mono ?_
 rintro e w' ⟨i, rfl, hi, rfl⟩
 refine ⟨i, rfl, ?_, rfl⟩
 simp only [hi]
end Go.Proofs.YtkolafpgbhpdlaaGreat
namespace Go.Proofs.YtkolafpgbhpdlaaGreat
open Go.Vc
theorem elemB : ElemOf Tryz.prog 25 5 1 1 := ⟨by kernel_rfl, ⟨Tryz.t5, .int .u8 0, by kernel_rfl, by kernel_rfl, by kernel_rfl, by kernel_rfl, by kernel_rfl⟩, by omega⟩
theorem clone_spec {p : Option Addr} {l c : Nat} {w : World} {bs : List UInt8} (h : BytesAt w p l bs) (hb : l ≤ 1073741824) (hp : p = none → l = 0) :
  Calls Tryz.prog 77 #[.slice p l c] w fun e w' => ∃ p' c', e = .returned (.slice p' l c') ∧ Ext w w' ∧ OwnS w' w.heap.size 5 1 p' l c' (encB bs) ∧ (p' = none ↔ p = none) := by
 refine (F77_calls p l c w (fun v w' => ∃ p' c', v = .slice p' l c' ∧ Ext w w' ∧ OwnS w' w.heap.size 5 1 p' l c' (encB bs) ∧ (p' = none ↔ p = none)) ?_).mono (by
  rintro e w' ⟨v, rfl, p', c', rfl, h⟩; exact ⟨p', c', rfl, h⟩)
 refine condB_of (fun hn => ?_) (fun hn => ?_)
 ·have : p = none := by simpa using hn
  subst this
  obtain rfl := hp rfl
  have hbs : bs = [] := List.eq_nil_of_length_eq_zero h.1.symm
  subst hbs
  exact ⟨none, 0, rfl, Upd.refl _ _, OwnS.nil _ _ _ _, by simp⟩
 ·intro k w3 hk
  have hown : OwnS w3 w.heap.size 5 1 (some (at0 k)) 0 0 [] := OwnS.made hk (by rw [hk.size.1]; exact Nat.le_refl _) (Nat.le_refl _) (by unfold maxLen; omega) rfl
  have hl := h.1
  obtain ⟨p', c', w', hr, hown', hu, hnil⟩ := hown.append elemB 25 (q := p) (m := l) (d := c) (news := encB bs) (by rw [encB_length]; omega) ((h.ext hk.ext).cells) hp
   (encB_one bs) (by unfold maxLen; omega) (by omega) (by rw [hk.size.2]; omega)
  rw [Nat.zero_add] at hr hown'
  refine ⟨p', l, c', w', hr, p', c', rfl, ?_, hown', ?_⟩
  ·refine Upd.trans hk.ext hu fun x hx hs => ?_
   simp only [Option.some.injEq, at0, Addr.mk.injEq, and_true] at hs
   rw [hk.size.1] at hs
   omega
  ·rw [hnil]
   simp only [Option.isNone_eq_false_iff] at hn
   have : p ≠ none := by rintro rfl; simp at hn
   simp [this]
structure Dk where
 sectors : Int
 lasts : SM
 waits : SM
 dead : Bool
def SliceVal (G : Nat → Prop) (w : World) (v : Value) (bs : List UInt8) : Prop :=
 ∃ p n c, v = .slice p n c ∧ BytesAt w p n bs ∧ bs ≠ [] ∧ n ≤ 4108 ∧ ∀ a, p = some a → G a.block
theorem SliceVal.upd {S G : Nat → Prop} {w w' : World} {v : Value} {bs : List UInt8} (h : SliceVal G w v bs) (hu : Upd S w w') (hS : ∀ x, G x → ¬ S x) : SliceVal G w' v bs := by
 obtain ⟨p, n, c, rfl, hb, hne, hn, hG⟩ := h
 exact ⟨p, n, c, rfl, hb.upd hu (fun a ha _ => hS _ (hG a ha)), hne, hn, hG⟩
theorem SliceVal.mono {G G' : Nat → Prop} {w : World} {v : Value} {bs : List UInt8} (h : SliceVal G w v bs) (hG : ∀ x, G x → G' x) : SliceVal G' w v bs := by
 obtain ⟨p, n, c, rfl, hb, hne, hn, h⟩ := h
 exact ⟨p, n, c, rfl, hb, hne, hn, fun a ha => hG _ (h a ha)⟩
structure IsDisk (w : World) (b m1 m2 : Nat) (D : Dk) (G : Nat → Prop) : Prop where
 row : RowW w b #[.int .i64 D.sectors, .map (some m1), .map (some m2), .bool D.dead]
 lasts : MapOf intK (SliceVal G w) w m1 D.lasts
 waits : MapOf intK (SliceVal G w) w m2 D.waits
 asc1 : Asc D.lasts
 asc2 : Asc D.waits
 ne : b ≠ m1 ∧ b ≠ m2 ∧ m1 ≠ m2
 apart : ∀ x, G x → x ≠ b ∧ x ≠ m1 ∧ x ≠ m2
 bound : ∀ x, G x → x < w.heap.size
def Foot (b m1 m2 : Nat) (G : Nat → Prop) : Nat → Prop := fun x => x = b ∨ x = m1 ∨ x = m2 ∨ G x
theorem IsDisk.upd {S : Nat → Prop} {w w' : World} {b m1 m2 : Nat} {D : Dk} {G : Nat → Prop} (h : IsDisk w b m1 m2 D G) (hu : Upd S w w') (hS : ∀ x, S x → ¬ Foot b m1 m2 G x) :
  IsDisk w' b m1 m2 D G := by
 have hG : ∀ x, G x → ¬ S x := fun x hx hs => hS x hs (.inr (.inr (.inr hx)))
 exact ⟨hu.rowW h.row fun hs => hS _ hs (.inl rfl), (h.lasts.upd hu fun hs => hS _ hs (.inr (.inl rfl))).mono fun v x hv => hv.upd hu hG,
  (h.waits.upd hu fun hs => hS _ hs (.inr (.inr (.inl rfl)))).mono fun v x hv => hv.upd hu hG, h.asc1, h.asc2, h.ne, h.apart, fun x hx => Nat.lt_of_lt_of_le (h.bound x hx) hu.size⟩
theorem IsDisk.ext {w w' : World} {b m1 m2 : Nat} {D : Dk} {G : Nat → Prop} (h : IsDisk w b m1 m2 D G) (hu : Ext w w') : IsDisk w' b m1 m2 D G := h.upd hu fun _ h => h.elim
theorem IsDisk.foot {w : World} {b m1 m2 : Nat} {D : Dk} {G : Nat → Prop} (h : IsDisk w b m1 m2 D G) : ∀ x, Foot b m1 m2 G x → x < w.heap.size := by
 rintro x (rfl | rfl | rfl | hx)
 ·exact h.row.lt
 ·exact h.lasts.lt
 ·exact h.waits.lt
 ·exact h.bound x hx
theorem dead_spec {w : World} {b m1 m2 : Nat} {D : Dk} {G : Nat → Prop} (h : IsDisk w b m1 m2 D G) :
  Calls Tryz.prog 95 #[.pointer (some (at0 b))] w fun e w' => e = .returned (.bool D.dead) ∧ w' = w :=
 (F95_calls (some (at0 b)) w (fun v w' => v = .bool D.dead ∧ w' = w) ⟨_, h.row.row.cell rfl, rfl, rfl⟩).mono (by rintro e w' ⟨v, rfl, rfl, h⟩; exact ⟨rfl, h⟩)
theorem mapT : Tryz.prog.underlying 119 = some (.map 3 25) := by kernel_rfl
theorem intT : Tryz.prog.underlying 3 = some intK.kd := by kernel_rfl
theorem zeroT : zeroOf Tryz.prog 25 = some (.slice none 0 0) := by kernel_rfl
def Core (b m1 m2 : Nat) : Nat → Prop := fun x => x = b ∨ x = m1 ∨ x = m2
theorem empty_spec {w : World} {b m1 m2 : Nat} {D : Dk} {G : Nat → Prop} (h : IsDisk w b m1 m2 D G) (dd : Bool) :
  Calls Tryz.prog 74 #[.pointer (some (at0 b)), .bool dd] w fun e w' => e = .returned (.tuple #[]) ∧ Upd (Core b m1 m2) w w' ∧ IsDisk w' b m1 m2 { D with dead := dd, lasts := [], waits := [] } G := by
 refine (F74_calls (some (at0 b)) dd w (fun v w' => v = .tuple #[] ∧ Upd (Core b m1 m2) w w' ∧ IsDisk w' b m1 m2 { D with dead := dd, lasts := [], waits := [] } G) ?_).mono (by
  rintro e w' ⟨v, rfl, rfl, h⟩; exact ⟨rfl, h⟩)
 obtain ⟨n1, n2, n3⟩ := h.ne
 refine ⟨h.row.live (n := 3) (by simp), fun w4 hs => ?_⟩
 have hu4 : Upd (fun x => x = b) w w4 := by have := hs.upd; rw [add_at0] at this; exact this
 have r4 : RowW w4 b #[.int .i64 D.sectors, .map (some m1), .map (some m2), .bool dd] := hs.row h.row
 refine ⟨_, r4.row.cell rfl, ?_⟩
 obtain ⟨w7, hr7, hu7, _, hm7⟩ := MapOf.clear (P := Tryz.prog) (ty := 0) (h.lasts.upd hu4 (Ne.symm n1)) mapT
 refine ⟨_, w7, hr7, ?_⟩
 have r7 := hu7.rowW r4 n1
 refine ⟨_, r7.row.cell rfl, ?_⟩
 obtain ⟨w11, hr11, hu11, _, hm11⟩ := MapOf.clear (P := Tryz.prog) (ty := 0) ((h.waits.upd hu4 (Ne.symm n2)).upd hu7 (Ne.symm n3)) mapT
 refine ⟨_, w11, hr11, rfl, ?_, ?_⟩
 ·refine Upd.trans (Upd.trans (S := Core b m1 m2) (hu4.mono fun x _ hx => .inl hx) hu7 fun x _ hx => .inr (.inl hx)) hu11 fun x _ hx => .inr (.inr hx)
 ·refine ⟨hu11.rowW r7 n2, ?_, ?_, .nil, .nil, h.ne, h.apart, fun x hx => Nat.lt_of_lt_of_le (h.bound x hx) (Nat.le_trans hu4.size (Nat.le_trans hu7.size hu11.size))⟩
  ·exact (hm7.upd hu11 n3).empty
  ·exact hm11.empty
end Go.Proofs.YtkolafpgbhpdlaaGreat
namespace Go.Proofs.YtkolafpgbhpdlaaGreat
open Go.Vc
theorem copy_spec {V : Value → List UInt8 → Prop} (hV : ∀ v x, V v x → ∃ p n c, v = .slice p n c) {w : World} {m1 m2 : Nat} {L W : SM} (h1 : MapOf intK V w m1 L) (h2 : MapOf intK V w m2 W) (hne : m1 ≠ m2) :
  Calls Tryz.prog 165 #[.map (some m1), .map (some m2)] w fun e w' => e = .returned (.tuple #[]) ∧ Upd (fun x => x = m1) w w' ∧ MapOf intK V w' m1 (over L W) := by
 refine (F165_calls (some m1) (some m2) w (fun v w' => v = .tuple #[] ∧ Upd (fun x => x = m1) w w' ∧ MapOf intK V w' m1 (over L W))
  (fun it _ w8 => ∃ k dn rest, it = some (at0 k) ∧ (dn ++ rest).Perm W ∧ ItOf intK V w8 k m2 W rest ∧ MapOf intK V w8 m1 (over L dn) ∧ Upd (fun x => x = m1) w w8 ∧ w.heap.size ≤ k)
  (fun it _ w8 => leftIt w8 it m2) ?_).mono (by rintro e w' ⟨v, rfl, rfl, h⟩; exact ⟨rfl, h⟩)
 obtain ⟨es, c, l, hm, hok, hp⟩ := id h2
 refine ⟨es, c, hm, fun k w6 hk => ⟨⟨k, [], W, rfl, by simp, ItOf.made h2 hm hk, ?_, hk.ext.upd, ?_⟩, ?_⟩⟩
 ·rw [over_nil]; exact h1.upd hk.ext id
 ·rw [hk.size.1]; exact Nat.le_refl _
 ·rintro w8 ⟨k', dn, rest, hkk, hperm, hit, hdst, hu, hks⟩
  simp only [Option.some.injEq, at0, Addr.mk.injEq, _root_.and_true] at hkk
  subst hkk
  intros
  have hkm : k ≠ m1 := by have := h1.lt; omega
  refine hit.next ?_ ?_
  ·intro kk x v rest' w21 hperm' hu21 hs21 hat
   obtain ⟨hv, hin⟩ := hat.entry
   obtain ⟨p, n, c', rfl⟩ := hV v x hv
   refine ⟨kk, p, n, c', hat.entryAt, ?_⟩
   have hdst21 := hdst.upd hu21 (Ne.symm hkm)
   obtain ⟨w25, hr25, hu25, hs25, hm25⟩ := hdst21.update mapT intT kk hv
   refine ⟨w25, hr25, ⟨k, dn ++ [(kk, x)], rest', rfl, ?_, (hat.toIt.upd hu25 hkm (Ne.symm hne)), ?_, ?_, hks⟩, ?_⟩
   ·refine List.Perm.trans ?_ hperm
    rw [List.append_assoc]
    exact (hperm'.symm).append_left dn
   ·have hnd : kk ∉ dn.map (·.1) := by
     have hW := h2.nodup
     have := ((hperm.map (·.1)).nodup_iff).2 hW
     rw [List.map_append, List.nodup_append] at this
     intro hmem
     exact this.2.2 kk hmem kk ((hperm'.map (·.1)).mem_iff.2 (by simp)) rfl
    exact hm25.perm ((over_step hnd).trans (over_perm (List.perm_append_singleton _ _).symm))
   ·have hu21' : Upd (fun x => x = m1) w w21 := Upd.trans hu hu21 fun y hy hyk => by omega
    exact Upd.trans hu21' hu25 fun _ _ h => h
   ·show leftIt w25 (some (at0 k)) m2 < leftIt w8 (some (at0 k)) m2
    rw [(hat.toIt.upd hu25 hkm (Ne.symm hne)).left, hit.left, hperm'.length_eq]
    simp
  ·rintro rfl w22 hq
   rw [List.append_nil] at hperm
   refine ⟨rfl, Upd.trans hu hq.ext (fun _ _ h => h.elim), (hdst.upd hq.ext id).perm (over_perm hperm)⟩
theorem SliceVal.slice {G : Nat → Prop} {w : World} {v : Value} {x : List UInt8} (h : SliceVal G w v x) : ∃ p n c, v = .slice p n c := by
 obtain ⟨p, n, c, rfl, _⟩ := h
 exact ⟨p, n, c, rfl⟩
theorem settle {w : World} {b m1 m2 : Nat} {D : Dk} {G : Nat → Prop} (h : IsDisk w b m1 m2 D G) {R : World → Prop}
  (hR : ∀ w', Upd (Core b m1 m2) w w' → IsDisk w' b m1 m2 { D with lasts := mrg D.lasts D.waits, waits := [] } G → R w') :
  Calls Tryz.prog 165 #[.map (some m1), .map (some m2)] w fun e w' => e = .returned (.tuple #[]) ∧
   ∃ r, w'.cell? ((at0 b).add 2) = some (.map r) ∧ ∃ v w'', Sem.run Tryz.prog (Builtin.clear_ #[119] 0 #[.map r]) w' = .ok v w'' ∧ R w'' := by
 obtain ⟨n1, n2, n3⟩ := h.ne
 refine (copy_spec (fun _ _ hv => hv.slice) h.lasts h.waits n3).mono ?_
 rintro e w1 ⟨rfl, hu1, hm1⟩
 have hr1 := hu1.rowW h.row n1
 refine ⟨rfl, _, hr1.row.cell rfl, ?_⟩
 have hG : ∀ x, G x → ¬ (x = m1) := fun x hx => (h.apart x hx).2.1
 obtain ⟨w2, hr2, hu2, _, hm2⟩ := MapOf.clear (P := Tryz.prog) (ty := 0) (h.waits.upd hu1 (Ne.symm n3)) mapT
 refine ⟨_, w2, hr2, hR w2 ?_ ?_⟩
 ·exact Upd.trans (hu1.mono fun x _ hx => .inr (.inl hx)) hu2 fun x _ hx => .inr (.inr hx)
 ·have hG2 : ∀ x, G x → ¬ (x = m2) := fun x hx => (h.apart x hx).2.2
  refine ⟨hu2.rowW hr1 n2, ?_, hm2.empty, mrg_asc h.asc1, .nil, h.ne, h.apart, fun x hx => Nat.lt_of_lt_of_le (h.bound x hx) (Nat.le_trans hu1.size hu2.size)⟩
  have := (hm1.perm (mrg_perm h.asc2.nodup).symm).upd hu2 n3
  exact this.mono fun v x hv => (hv.upd hu1 hG).upd hu2 hG2
def flushD (D : Dk) : Dk := if D.dead then D else { D with lasts := mrg D.lasts D.waits, waits := [] }
end Go.Proofs.YtkolafpgbhpdlaaGreat
namespace Go.Proofs.YtkolafpgbhpdlaaGreat
open Go.Vc
def crashD (D : Dk) (ks : List Int) : Dk := { D with lasts := mrg D.lasts (D.waits.filter fun y => decide (y.1 ∈ ks)), waits := [] }
theorem crash_spec {w : World} {b m1 m2 : Nat} {D : Dk} {G : Nat → Prop} (h : IsDisk w b m1 m2 D G) {p : Option Addr} {l c : Nat} {ks : List Int} (hk : IntsAt w p l ks) (hl : l ≤ 9223372036854775807)
  (hp : ∀ a, p = some a → ks ≠ [] → a.block ≠ m2) :
  Calls Tryz.prog 130 #[.pointer (some (at0 b)), .slice p l c] w fun e w' => e = .returned (.tuple #[]) ∧ Upd (Core b m1 m2) w w' ∧ IsDisk w' b m1 m2 (crashD D ks) G := by
 obtain ⟨n1, n2, n3⟩ := h.ne
 have hGm : ∀ x, G x → x ≠ m2 := fun x hx => (h.apart x hx).2.2
 refine (F130_calls (some (at0 b)) p l c w (fun v w' => v = .tuple #[] ∧ Upd (Core b m1 m2) w w' ∧ IsDisk w' b m1 m2 (crashD D ks) G)
  (fun it _ w8 => ∃ k dn rest, it = some (at0 k) ∧ (dn ++ rest).Perm D.waits ∧ ItOf intK (SliceVal G w) w8 k m2 (D.waits.filter fun y => decide (y.1 ∈ ks ∨ y.1 ∉ dn.map (·.1))) rest ∧ Upd (fun x => x = m2) w w8 ∧ w.heap.size ≤ k)
  (fun it _ w8 => leftIt w8 it m2) ?_).mono (by rintro e w' ⟨v, rfl, rfl, h⟩; exact ⟨rfl, h⟩)
 have hW := h.waits
 obtain ⟨es, c0, l0, hm, hok, hperm0⟩ := id hW
 refine ⟨_, h.row.row.cell rfl, es, c0, hm, fun k w8 hn => ⟨⟨k, [], D.waits, rfl, by simp, ?_, hn.ext.upd, by rw [hn.size.1]; exact Nat.le_refl _⟩, ?_⟩⟩
 ·have : (D.waits.filter fun y => decide (y.1 ∈ ks ∨ y.1 ∉ ([] : SM).map (·.1))) = D.waits := by
   rw [List.filter_eq_self]; intro y _; simp
  rw [this]
  exact ItOf.made hW hm hn
 ·rintro w10 ⟨k', dn, rest, hkk, hperm, hit, hu, hks⟩
  simp only [Option.some.injEq, at0, Addr.mk.injEq, _root_.and_true] at hkk
  subst hkk
  intros
  have hnodup : ((dn ++ rest).map (·.1)).Nodup := ((hperm.map (·.1)).nodup_iff).2 hW.nodup
  refine hit.next ?_ ?_
  ·intro kk x v rest' w27 hperm' hu27 hs27 hat
   refine ⟨kk, v, hat.entryAt, ?_⟩
   have hu27' : Upd (fun x => x = m2) w w27 := Upd.trans hu hu27 fun y hy hyk => by omega
   have hk27 : IntsAt w27 p l ks := by
    refine ⟨hk.1, hk.2.upd hu27' fun a ha hne hb => ?_⟩
    exact hp a ha (by rintro rfl; exact hne rfl) hb
   refine (contains_spec hk27 hl).mono ?_
   rintro e w31 ⟨rfl, rfl⟩
   have hnd : kk ∉ dn.map (·.1) := by
    rw [List.map_append, List.nodup_append] at hnodup
    intro hmem
    exact hnodup.2.2 kk hmem kk ((hperm'.map (·.1)).mem_iff.2 (by simp)) rfl
   have hperm2 : ((dn ++ [(kk, x)]) ++ rest').Perm D.waits := by
    refine List.Perm.trans ?_ hperm
    rw [List.append_assoc]
    exact (hperm'.symm).append_left dn
   refine ⟨_, rfl, condB_of (fun hc => ?_) (fun hc => ?_)⟩
   ·simp only [Bool.not_eq_true', decide_eq_false_iff_not] at hc
    obtain ⟨w36, hr36, hu36, hs36, hit36⟩ := hat.delete (P := Tryz.prog) (ty := 0) (t2 := 3) mapT intT
    refine ⟨_, (hu27'.rowW h.row n2).row.cell rfl, _, w36, hr36, ⟨k, dn ++ [(kk, x)], rest', rfl, hperm2, ?_, Upd.trans hu27' hu36 fun _ _ h => h, hks⟩, ?_⟩
    ·have : del kk (D.waits.filter fun y => decide (y.1 ∈ ks ∨ y.1 ∉ dn.map (·.1))) = D.waits.filter fun y => decide (y.1 ∈ ks ∨ y.1 ∉ (dn ++ [(kk, x)]).map (·.1)) := by
      unfold del
      rw [List.filter_filter]
      apply List.filter_congr
      intro y _
      by_cases hy : y.1 = kk
      ·simp [hy, hc]
      ·by_cases h1 : y.1 ∈ ks <;> by_cases h2 : y.1 ∈ dn.map (·.1) <;> simp [hy, h1, h2]
     rw [← this]
     exact hit36
    ·show leftIt w36 (some (at0 k)) m2 < leftIt w10 (some (at0 k)) m2
     rw [hit36.left, hit.left, hperm'.length_eq]
     simp
   ·simp only [Bool.not_eq_false', decide_eq_true_eq] at hc
    refine ⟨⟨k, dn ++ [(kk, x)], rest', rfl, hperm2, ?_, hu27', hks⟩, ?_⟩
    ·have : (D.waits.filter fun y => decide (y.1 ∈ ks ∨ y.1 ∉ dn.map (·.1))) = D.waits.filter fun y => decide (y.1 ∈ ks ∨ y.1 ∉ (dn ++ [(kk, x)]).map (·.1)) := by
      apply List.filter_congr
      intro y _
      by_cases hy : y.1 = kk
      ·simp [hy, hc]
      ·by_cases h1 : y.1 ∈ ks <;> by_cases h2 : y.1 ∈ dn.map (·.1) <;> simp [hy, h1, h2]
     rw [← this]
     exact hat.toIt
    ·show leftIt w31 (some (at0 k)) m2 < leftIt w10 (some (at0 k)) m2
     rw [hat.toIt.left, hit.left, hperm'.length_eq]
     simp
  ·rintro rfl w28 hq w38 hd
   rw [List.append_nil] at hperm
   have hfin : (D.waits.filter fun y => decide (y.1 ∈ ks ∨ y.1 ∉ dn.map (·.1))) = D.waits.filter fun y => decide (y.1 ∈ ks) := by
    apply List.filter_congr
    intro y hy
    have : y.1 ∈ dn.map (·.1) := (hperm.map (·.1)).mem_iff.2 (List.mem_map.2 ⟨y, hy, rfl⟩)
    simp [this]
   have hx : Ext w10 w38 := (hq.trans hd.quiet).ext
   have hu38 : Upd (fun x => x = m2) w w38 := Upd.trans hu hx fun _ _ h => h.elim
   have hD : IsDisk w38 b m1 m2 { D with waits := D.waits.filter fun y => decide (y.1 ∈ ks) } G := by
    refine ⟨hu38.rowW h.row n2, (h.lasts.upd hu38 n3).mono fun v x hv => hv.upd hu38 hGm, ?_, h.asc1, h.asc2.filter _, h.ne, h.apart, fun x hx => Nat.lt_of_lt_of_le (h.bound x hx) hu38.size⟩
    have := (hit.upd hx id id).map
    rw [hfin] at this
    exact this.mono fun v x hv => hv.upd hu38 hGm
   refine ⟨_, hD.row.row.cell rfl, _, hD.row.row.cell rfl, ?_⟩
   refine (settle hD (R := fun w'' => Value.tuple #[] = .tuple #[] ∧ Upd (Core b m1 m2) w w'' ∧ IsDisk w'' b m1 m2 (crashD D ks) G) ?_).mono (fun _ _ h => h)
   intro w' hu' hD'
   exact ⟨rfl, Upd.trans (hu38.mono fun x _ hx => .inr (.inr hx)) hu' fun _ _ h => h, hD'⟩
theorem at_spec {w : World} {b m1 m2 : Nat} {D : Dk} {G : Nat → Prop} (h : IsDisk w b m1 m2 D G) (k : Int) :
  Calls Tryz.prog 76 #[.pointer (some (at0 b)), .int .i64 k] w fun e w' => Quiet w w' ∧ ∃ p l c r, e = .returned (.tuple #[.slice p l c, .map (some r)]) ∧
   ((∃ bs, get k D.waits = some bs ∧ SliceVal G w (.slice p l c) bs ∧ r = m2) ∨ (∃ bs, get k D.waits = none ∧ get k D.lasts = some bs ∧ SliceVal G w (.slice p l c) bs ∧ r = m1) ∨
    (get k D.waits = none ∧ get k D.lasts = none ∧ p = none ∧ l = 0 ∧ r = m1)) := by
 refine (F76_calls (some (at0 b)) k w (fun v w' => Quiet w w' ∧ ∃ p l c r, v = .tuple #[.slice p l c, .map (some r)] ∧
   ((∃ bs, get k D.waits = some bs ∧ SliceVal G w (.slice p l c) bs ∧ r = m2) ∨ (∃ bs, get k D.waits = none ∧ get k D.lasts = some bs ∧ SliceVal G w (.slice p l c) bs ∧ r = m1) ∨
    (get k D.waits = none ∧ get k D.lasts = none ∧ p = none ∧ l = 0 ∧ r = m1))) ?_).mono (by
  rintro e w' ⟨v, rfl, hq, p, l, c, r, rfl, h⟩; exact ⟨hq, p, l, c, r, rfl, h⟩)
 refine ⟨_, h.row.row.cell rfl, ?_⟩
 rcases h.waits.lookup mapT intT zeroT k with ⟨bs, v, hg, hv, hm⟩ | ⟨hg, hm⟩
 ·obtain ⟨p, l, c, rfl⟩ := hv.slice
  refine ⟨p, l, c, true, hm, fun w7 hd => ?_⟩
  have h7 := h.ext hd.ext
  exact ⟨_, h7.row.row.cell rfl, hd.quiet, p, l, c, m2, rfl, .inl ⟨bs, hg, hv, rfl⟩⟩
 ·refine ⟨none, 0, 0, false, hm, fun w10 hd => ?_⟩
  have h10 := h.ext hd.ext
  refine ⟨_, h10.row.row.cell rfl, ?_⟩
  rcases h10.lasts.lookup mapT intT zeroT k with ⟨bs, v, hg', hv, hm'⟩ | ⟨hg', hm'⟩
  ·obtain ⟨p, l, c, rfl⟩ := hv.slice
   refine ⟨p, l, c, true, hm', _, h10.row.row.cell rfl, hd.quiet, p, l, c, m1, rfl, .inr (.inl ⟨bs, hg, hg', ?_, rfl⟩)⟩
   exact hv.upd hd.quiet.symm.ext fun _ _ => id
  ·exact ⟨none, 0, 0, false, hm', _, h10.row.row.cell rfl, hd.quiet, none, 0, 0, m1, rfl, .inr (.inr ⟨hg, hg', rfl, rfl, rfl⟩)⟩
def readD (D : Dk) (k : Int) : List UInt8 := match get k D.waits with
 | some bs => bs
 | none => match get k D.lasts with
  | some bs => bs
  | none => []
theorem read_spec {w : World} {b m1 m2 : Nat} {D : Dk} {G : Nat → Prop} (h : IsDisk w b m1 m2 D G) (k : Int) :
  Calls Tryz.prog 96 #[.pointer (some (at0 b)), .int .i64 k] w fun e w' => Ext w w' ∧ ∃ p l c bs, e = .returned (.tuple #[.slice p l c, .int .i64 (faultZ D.dead D.sectors k)]) ∧
   bs = (if faultZ D.dead D.sectors k = 0 then readD D k else []) ∧ l = bs.length ∧ OwnS w' w.heap.size 5 1 p l c (encB bs) ∧ l ≤ 4108 := by
 refine (F96_calls (some (at0 b)) k w (fun v w' => Ext w w' ∧ ∃ p l c bs, v = .tuple #[.slice p l c, .int .i64 (faultZ D.dead D.sectors k)] ∧
   bs = (if faultZ D.dead D.sectors k = 0 then readD D k else []) ∧ l = bs.length ∧ OwnS w' w.heap.size 5 1 p l c (encB bs) ∧ l ≤ 4108) ?_).mono (by
  rintro e w' ⟨v, rfl, hx, p, l, c, bs, rfl, h⟩; exact ⟨hx, p, l, c, bs, rfl, h⟩)
 refine (fault_spec h.row).mono ?_
 rintro e w2 ⟨rfl, rfl⟩
 refine ⟨_, rfl, condB_of (fun hf => ?_) (fun hf => ?_)⟩
 ·simp only [Bool.not_eq_true', decide_eq_false_iff_not] at hf
  exact ⟨Upd.refl _ _, none, 0, 0, [], rfl, by rw [if_neg hf], rfl, OwnS.nil _ _ _ _, by omega⟩
 ·simp only [Bool.not_eq_false', decide_eq_true_eq] at hf
  refine (at_spec h k).mono ?_
  rintro e w6 ⟨hq, p, l, c, r, rfl, hcase⟩
  refine ⟨p, l, c, some r, rfl, ?_⟩
  have hb : ∃ bs, readD D k = bs ∧ BytesAt w2 p l bs ∧ l ≤ 4108 ∧ (p = none → l = 0) := by
   unfold readD
   rcases hcase with ⟨bs, hg, hv, _⟩ | ⟨bs, hg, hg', hv, _⟩ | ⟨hg, hg', rfl, rfl, _⟩
   ·obtain ⟨p', n', c', he, hb, hne, hn, _⟩ := hv
    simp only [Value.slice.injEq] at he
    obtain ⟨rfl, rfl, rfl⟩ := he
    refine ⟨bs, by rw [hg], hb, hn, fun e => ?_⟩
    obtain ⟨a, ha, _⟩ := hb.lt hne
    rw [e] at ha; cases ha
   ·obtain ⟨p', n', c', he, hb, hne, hn, _⟩ := hv
    simp only [Value.slice.injEq] at he
    obtain ⟨rfl, rfl, rfl⟩ := he
    refine ⟨bs, by rw [hg, hg'], hb, hn, fun e => ?_⟩
    obtain ⟨a, ha, _⟩ := hb.lt hne
    rw [e] at ha; cases ha
   ·exact ⟨[], by rw [hg, hg'], BytesAt.nil _ _, by omega, fun _ => rfl⟩
  obtain ⟨bs, hrd, hb, hn, hp⟩ := hb
  refine (clone_spec (hb.ext hq.ext) (by omega) hp).mono ?_
  rintro e w10 ⟨p', c', rfl, hx, hown, _⟩
  refine ⟨p', l, c', rfl, hq.ext.trans hx, p', l, c', bs, by rw [hf], by rw [if_pos hf, hrd], hb.1, ?_, hn⟩
  rw [← hq.heap]; exact hown
end Go.Proofs.YtkolafpgbhpdlaaGreat
namespace Go.Proofs.YtkolafpgbhpdlaaGreat
open Go.Vc
theorem new_bad {n : Int} (h : n < 1 ∨ 4096 < n) (w : World) : Calls Tryz.prog 31 #[.int .i64 n] w fun e w' => e = .returned (.tuple #[.pointer none, .int .i64 1]) ∧ w' = w := by
 refine (F31_calls n w (fun v w' => v = .tuple #[.pointer none, .int .i64 1] ∧ w' = w) ?_).mono (by rintro e w' ⟨v, rfl, rfl, h⟩; exact ⟨rfl, h⟩)
 refine condB_of (fun _ => ⟨rfl, rfl⟩) (fun h1 => condB_of (fun _ => ⟨rfl, rfl⟩) (fun h2 => ?_))
 simp only [decide_eq_false_iff_not] at h1 h2
 omega
theorem new_good {n : Int} (h : 1 ≤ n ∧ n ≤ 4096) (w : World) : Calls Tryz.prog 31 #[.int .i64 n] w fun e w' => ∃ b m1 m2, e = .returned (.tuple #[.pointer (some (at0 b)), .int .i64 0]) ∧ Ext w w' ∧
  IsDisk w' b m1 m2 ⟨n, [], [], false⟩ (fun _ => False) ∧ w.heap.size ≤ b ∧ w.heap.size ≤ m1 ∧ w.heap.size ≤ m2 := by
 refine (F31_calls n w (fun v w' => ∃ b m1 m2, v = .tuple #[.pointer (some (at0 b)), .int .i64 0] ∧ Ext w w' ∧
  IsDisk w' b m1 m2 ⟨n, [], [], false⟩ (fun _ => False) ∧ w.heap.size ≤ b ∧ w.heap.size ≤ m1 ∧ w.heap.size ≤ m2) ?_).mono (by rintro e w' ⟨v, rfl, b, m1, m2, rfl, h⟩; exact ⟨b, m1, m2, rfl, h⟩)
 refine condB_of (fun h1 => ?_) (fun _ => condB_of (fun h2 => ?_) (fun _ => ?_))
 ·simp only [decide_eq_true_eq] at h1; omega
 ·simp only [decide_eq_true_eq] at h2; omega
 ·intro k2 w3 h3 k4 w5 h5 k6 w7 h7
  have s3 := h3.size; have s5 := h5.size; have s7 := h7.size
  refine ⟨k6, k2, k4, rfl, (h3.ext.trans h5.ext).trans h7.ext, ?_, by omega, by omega, by omega⟩
  exact ⟨h7.row, ((MapOf.made h3).upd h5.ext id).upd h7.ext id, (MapOf.made h5).upd h7.ext id, .nil, .nil, ⟨by omega, by omega, by omega⟩, fun _ h => h.elim, fun _ h => h.elim⟩
def writeZ (D : Dk) (k : Int) (n : Nat) : Int := if faultZ D.dead D.sectors k ≠ 0 then faultZ D.dead D.sectors k else if n < 1 ∨ 4108 < n then 1 else 0
def writeD (D : Dk) (k : Int) (bs : List UInt8) : Dk := if writeZ D k bs.length = 0 then { D with waits := ins k bs D.waits } else D
def Grows (G G' : Nat → Prop) (w w' : World) : Prop := ∀ x, G' x → G x ∨ (w.heap.size ≤ x ∧ x < w'.heap.size)
theorem write_spec {w : World} {b m1 m2 : Nat} {D : Dk} {G : Nat → Prop} (h : IsDisk w b m1 m2 D G) (k : Int) {p : Option Addr} {l c : Nat} {bs : List UInt8} (hb : BytesAt w p l bs) :
  Calls Tryz.prog 108 #[.pointer (some (at0 b)), .int .i64 k, .slice p l c] w fun e w' => ∃ G', e = .returned (.int .i64 (writeZ D k bs.length)) ∧ Upd (fun x => x = m2) w w' ∧
   IsDisk w' b m1 m2 (writeD D k bs) G' ∧ Grows G G' w w' := by
 refine (F108_calls (some (at0 b)) k p l c w (fun v w' => ∃ G', v = .int .i64 (writeZ D k bs.length) ∧ Upd (fun x => x = m2) w w' ∧
   IsDisk w' b m1 m2 (writeD D k bs) G' ∧ Grows G G' w w') ?_).mono (by rintro e w' ⟨v, rfl, G', rfl, h⟩; exact ⟨G', rfl, h⟩)
 obtain ⟨n1, n2, n3⟩ := h.ne
 have hl := hb.1
 refine (fault_spec h.row).mono ?_
 rintro e w4 ⟨rfl, rfl⟩
 refine ⟨_, rfl, condB_of (fun hf => ?_) (fun hf => ?_)⟩
 ·simp only [Bool.not_eq_true', decide_eq_false_iff_not] at hf
  have hz : writeZ D k bs.length = faultZ D.dead D.sectors k := by simp [writeZ, hf]
  refine ⟨G, by rw [hz], Upd.refl _ _, ?_, fun x hx => .inl hx⟩
  rw [writeD, hz, if_neg hf]; exact h
 ·simp only [Bool.not_eq_false', decide_eq_true_eq] at hf
  have bad : (bs.length < 1 ∨ 4108 < bs.length) → ∃ G', Value.int .i64 1 = .int .i64 (writeZ D k bs.length) ∧ Upd (fun x => x = m2) w4 w4 ∧ IsDisk w4 b m1 m2 (writeD D k bs) G' ∧ Grows G G' w4 w4 := by
   intro hbad
   have hz : writeZ D k bs.length = 1 := by rw [writeZ, if_neg (by simp [hf]), if_pos hbad]
   refine ⟨G, by rw [hz], Upd.refl _ _, ?_, fun x hx => .inl hx⟩
   rw [writeD, hz, if_neg (by omega)]; exact h
  refine condB_of (fun h1 => ?_) (fun h1 => condB_of (fun h2 => ?_) (fun h2 => ?_))
  ·simp only [decide_eq_true_eq] at h1
   exact bad (by omega)
  ·simp only [decide_eq_true_eq] at h2
   exact bad (by omega)
  ·simp only [decide_eq_false_iff_not] at h1 h2
   have hz : writeZ D k bs.length = 0 := by
    rw [writeZ, if_neg (by simp [hf]), if_neg (by omega)]
   have hne : bs ≠ [] := by rintro rfl; simp at hl; omega
   intro w7 hd
   have h7 := h.ext hd.ext
   refine ⟨_, h7.row.row.cell rfl, ?_⟩
   refine (clone_spec (hb.ext hd.ext) (by omega) (fun e => by
    obtain ⟨a, ha, _⟩ := hb.lt hne
    rw [e] at ha; cases ha)).mono ?_
   rintro e w10 ⟨p', c', rfl, hx, hown, _⟩
   have h10 := h7.ext hx
   refine ⟨p', l, c', rfl, ⟨_, h10.row.row.cell rfl, rfl⟩, ?_⟩
   let G' : Nat → Prop := fun x => G x ∨ (w4.heap.size ≤ x ∧ x < w10.heap.size)
   have hsz : w7.heap.size = w4.heap.size := by rw [hd.quiet.heap]
   have hval : SliceVal G' w10 (.slice p' l c') bs := by
    have hb' := BytesAt.of_cells hown.cells
    rw [← hl] at hb'
    refine ⟨p', l, c', rfl, hb', hne, by omega, fun a ha => .inr ?_⟩
    rcases hown.where_ with ⟨hp, hn, _⟩ | ⟨g, hg, hge, hlt, _⟩
    ·rw [hp] at ha; cases ha
    ·rw [hg] at ha
     cases ha
     exact ⟨by rw [← hsz]; exact hge, hlt⟩
   obtain ⟨w14, hr, hu14, hs14, hm14⟩ := (h10.waits.mono fun v x hv => hv.mono (G' := G') fun x hx => .inl hx).update mapT intT k hval
   refine ⟨w14, hr, G', by rw [hz], ?_, ?_, fun x hx => ?_⟩
   ·exact Upd.trans ((hd.ext.trans hx).upd (S := fun x => x = m2)) hu14 fun _ _ h => h
   ·have hG' : ∀ x, G' x → ¬ (x = m2) := by
     rintro x (hx | hx)
     ·exact (h.apart x hx).2.2
     ·have := h.waits.lt; omega
    rw [writeD, hz, if_pos rfl]
    refine ⟨hu14.rowW h10.row n2, (h10.lasts.upd hu14 n3).mono fun v x hv => (hv.mono fun x hx => .inl hx).upd hu14 hG', ?_, h.asc1, ins_asc h.asc2, h.ne, ?_, ?_⟩
    ·exact (hm14.perm (ins_perm k bs D.waits).symm).mono fun v x hv => hv.upd hu14 hG'
    ·rintro x (hx | hx)
     ·exact h.apart x hx
     ·have a1 := h.row.lt; have a2 := h.lasts.lt; have a3 := h.waits.lt
      exact ⟨by omega, by omega, by omega⟩
    ·rintro x (hx' | hx')
     ·rw [hs14]; exact Nat.lt_of_lt_of_le (h7.bound x hx') hx.size
     ·rw [hs14]; exact hx'.2
   ·rcases hx with hx | hx
    ·exact .inl hx
    ·exact .inr (by rw [hs14]; exact hx)
def corIdx (at_ : Int) (n : Nat) : Nat := ((if at_ < 0 then -(at_ + 1) else at_) % (n : Int)).toNat
def corBytes (bs : List UInt8) (at_ : Int) (by_ : UInt8) : List UInt8 := bs.set (corIdx at_ bs.length) (bs.getD (corIdx at_ bs.length) 0 ^^^ by_)
def corruptZ (D : Dk) (k : Int) : Int := if faultZ D.dead D.sectors k ≠ 0 then faultZ D.dead D.sectors k else match get k D.waits with
 | some _ => 0
 | none => match get k D.lasts with
  | some _ => 0
  | none => 1
def corruptD (D : Dk) (k at_ : Int) (by_ : UInt8) : Dk := if faultZ D.dead D.sectors k ≠ 0 then D else match get k D.waits with
 | some bs => { D with waits := ins k (corBytes bs at_ by_) D.waits }
 | none => match get k D.lasts with
  | some bs => { D with lasts := ins k (corBytes bs at_ by_) D.lasts }
  | none => D
theorem xor_u8 (x y : UInt8) : bitsV .xor .u8 (x.toNat : Int) (y.toNat : Int) = ((x ^^^ y).toNat : Int) := by
 have h1 : (BitVec.ofInt 8 (x.toNat : Int)) = x.toBitVec := by
  apply BitVec.eq_of_toNat_eq
  simp
 have h2 : (BitVec.ofInt 8 (y.toNat : Int)) = y.toBitVec := by
  apply BitVec.eq_of_toNat_eq
  simp
 have h3 : (x.toBitVec ^^^ y.toBitVec).toNat = (x ^^^ y).toNat := by simp
 have h4 := (x ^^^ y).toNat_lt
 change IntKind.u8.wrap ((BitVec.ofInt 8 (x.toNat : Int) ^^^ BitVec.ofInt 8 (y.toNat : Int)).toNat : Int) = _
 rw [h1, h2, h3]
 exact IntWalk.u8_in _ ⟨by omega, by omega⟩
end Go.Proofs.YtkolafpgbhpdlaaGreat
namespace Go.Proofs.YtkolafpgbhpdlaaGreat
open Go Go.Vc
theorem owns_of {β : Type} {V : Value → β → Prop} {P : Program} {t : TypeId} (ht : P.underlying t = some (.int .i64)) {w : World} {m : Nat} {L : List (Int × β)} (h : MapOf intK V w m L)
  (hk : ∀ x ∈ L, (Lit.int .i64 x.1).wf = true) (hn : L.length ≤ maxLen) :
  ∃ D : DataW Unit, w.ownsMap P t (fun _ => some (.nil, [])) m L.length D ∧ (intKeys D).Perm (L.map (·.1)) ∧ Maps.size D = L.length := by
 obtain ⟨es, clock, l, hm, hok, hp⟩ := h
 have hlen : es.toList.length = L.length := (hok.ents.length).trans hp.length_eq
 have hk' : ∀ x ∈ l, (Lit.int .i64 x.1).wf = true := fun x hx => hk x (hp.mem_iff.1 hx)
 have hrd : ∀ (xs : List MapEntry) (bs : List (Int × β)), All2 (EntOk intK V) xs bs → (∀ x ∈ bs, (Lit.int .i64 x.1).wf = true) →
   (∀ a ∈ xs, ∃ y, Go.WideElems.rd (H := Unit) P t (fun _ => some (.nil, [])) a = some y) ∧ xs.map (Go.WideElems.rg (H := Unit) P t (fun _ => some (.nil, []))) = bs.map (fun x => (Lit.int .i64 x.1, DataW.nil)) ∧
   xs.map (·.key) = bs.map fun x => Value.int .i64 x.1 := by
  intro xs bs h2
  induction h2 with
  | nil => intro _; exact ⟨fun _ h => (by cases h), rfl, rfl⟩
  | cons h1 _ ih =>
   intro hw
   rename_i a b xs' bs' _
   obtain ⟨i1, i2, i3⟩ := ih fun x hx => hw x (List.mem_cons_of_mem _ hx)
   have hkey : keyOf P t a.key = some (Lit.int .i64 b.1) := by
    rw [h1.1]
    have := hw b List.mem_cons_self
    simp [intK, keyOf, ht, mapKey, this]
   have hr : Go.WideElems.rd (H := Unit) P t (fun _ => some (.nil, [])) a = some (Lit.int .i64 b.1, DataW.nil) := by
    simp [Go.WideElems.rd, hkey]
   refine ⟨?_, ?_, ?_⟩
   ·intro x hx
    rcases List.mem_cons.1 hx with rfl | hx
    ·exact ⟨_, hr⟩
    ·exact i1 x hx
   ·simp only [List.map_cons, i2]
    rw [Go.WideElems.rg_of hr]
   ·simp only [List.map_cons, i3, h1.1]; rfl
 obtain ⟨r1, r2, r3⟩ := hrd _ _ hok.ents hk'
 have hsort := Go.WideShapes.sorted_perm (l.map fun x => (Lit.int .i64 x.1, (DataW.nil : DataW Unit)))
 refine ⟨_, ⟨es, clock, hm, ⟨by rw [← Array.length_toList]; omega, ⟨hok.born, hok.nodup, ?_⟩, r1⟩, by rw [← Array.length_toList]; omega, rfl⟩, ?_, ?_⟩
 ·rw [r3]
  have := hok.keys
  rw [show (l.map fun x => Value.int .i64 x.1) = (l.map (·.1)).map (Value.int .i64) by simp]
  exact List.Pairwise.map _ (fun a b hab h => hab (by simpa using h)) this
 ·rw [r2]
  refine (hsort.map _).trans ?_
  simp only [List.map_map]
  exact hp.map _
 ·rw [r2]
  simp only [Go.Maps.size]
  rw [hsort.length_eq, List.length_map]
  exact hp.length_eq
def KeySort : Prop := ∀ (w : World) (m : Nat) (L : SM) (V : Value → List UInt8 → Prop), MapOf intK V w m L → Asc L → (∀ x ∈ L, 0 ≤ x.1 ∧ x.1 < 4096) → L.length ≤ 4096 →
 Calls Tryz.prog 114 #[.map (some m)] w fun e1 w1 => ∃ v, e1 = .returned v ∧ Calls Tryz.prog 113 #[v] w1 fun e w' => ∃ p l c, e = .returned (.slice p l c) ∧ Ext w w' ∧
  OwnS w' w.heap.size 3 1 p l c (L.map fun x => .int .i64 x.1) ∧ l = L.length
def ByB (w : World) (base : Nat) (y : Nat) : Prop := base ≤ y ∧ ∃ cs fz, w.heap[y]? = some (.cells cs 5 fz)
theorem ByB.lt {w : World} {base y : Nat} (h : ByB w base y) : y < w.heap.size := by
 obtain ⟨_, cs, fz, h⟩ := h
 exact lt_of_heap h
theorem ByB.upd {S : Nat → Prop} {w w' : World} {base y : Nat} (h : ByB w base y) (hu : Upd S w w') (hS : ¬ S y) : ByB w' base y := by
 obtain ⟨h1, cs, fz, h2⟩ := h
 exact ⟨h1, cs, fz, hu.keep h2 hS⟩
def heldCells : List Value → SM → List Value
 | v :: vs, x :: L => .int .i64 x.1 :: v :: heldCells vs L
 | _, _ => []
theorem heldCells_append : ∀ {vs : List Value} {L : SM} (v : Value) (x : Int × List UInt8), vs.length = L.length → heldCells (vs ++ [v]) (L ++ [x]) = heldCells vs L ++ [.int .i64 x.1, v]
 | [], [], _, _, _ => rfl
 | v' :: vs, x' :: L, v, x, h => by
  have := heldCells_append (vs := vs) (L := L) v x (by simpa using h)
  simp only [List.cons_append, heldCells, this]
theorem heldCells_at : ∀ {vs : List Value} {L : SM} {i : Nat} {v : Value} {x : Int × List UInt8}, vs[i]? = some v → L[i]? = some x → (heldCells vs L)[2 * i]? = some (.int .i64 x.1) ∧ (heldCells vs L)[2 * i + 1]? = some v
 | _ :: _, _ :: _, 0, _, _, h1, h2 => by
  simp only [List.getElem?_cons_zero, Option.some.injEq] at h1 h2
  subst h1; subst h2
  exact ⟨rfl, rfl⟩
 | v' :: vs, x' :: L, i + 1, v, x, h1, h2 => by
  have := heldCells_at (vs := vs) (L := L) (i := i) (by simpa using h1) (by simpa using h2)
  rw [show 2 * (i + 1) = 2 * i + 1 + 1 by omega]
  simpa [heldCells] using this
 | [], _, _, _, _, h1, _ => by simp at h1
 | _ :: _, [], _, _, _, _, h2 => by simp at h2
def ElemOwn (w : World) (base : Nat) (v : Value) (bs : List UInt8) : Prop :=
 ∃ p n c, v = .slice p n c ∧ OwnS w base 5 1 p n c (encB bs) ∧ bs ≠ [] ∧ n ≤ 4108
theorem ElemOwn.upd {S : Nat → Prop} {w w' : World} {base : Nat} {v : Value} {bs : List UInt8} (h : ElemOwn w base v bs) (hu : Upd S w w') (hS : ∀ y, ByB w base y → ¬ S y) : ElemOwn w' base v bs := by
 obtain ⟨p, n, c, rfl, ho, h1, h2⟩ := h
 refine ⟨p, n, c, rfl, ho.upd hu fun g hg => ?_, h1, h2⟩
 rcases ho.where_ with ⟨hp, _⟩ | ⟨g', hp, hb, _, _, cur, hg', _⟩
 ·rw [hp] at hg; cases hg
 ·rw [hp] at hg
  simp only [Option.some.injEq, at0, Addr.mk.injEq, and_true] at hg
  subst hg
  exact hS _ ⟨hb, cur, _, hg'⟩
theorem ElemOwn.base_le {w : World} {base base' : Nat} {v : Value} {bs : List UInt8} (h : ElemOwn w base v bs) (hb : base' ≤ base) : ElemOwn w base' v bs := by
 obtain ⟨p, n, c, rfl, ho, h1, h2⟩ := h
 exact ⟨p, n, c, rfl, ho.base_le hb, h1, h2⟩
theorem ElemOwn.val {w : World} {base : Nat} {v : Value} {bs : List UInt8} (h : ElemOwn w base v bs) : SliceVal (ByB w base) w v bs := by
 obtain ⟨p, n, c, rfl, ho, h1, h2⟩ := h
 have hb := BytesAt.of_cells ho.cells
 have hl : n = bs.length := by
  have := ho.length
  rw [encB_length, Nat.mul_one] at this
  exact this.symm
 rw [← hl] at hb
 refine ⟨p, n, c, rfl, hb, h1, h2, fun a ha => ?_⟩
 rcases ho.where_ with ⟨hp, _⟩ | ⟨g, hp, hge, _, _, cur, hg, _⟩
 ·rw [hp] at ha; cases ha
 ·rw [hp] at ha; cases ha
  exact ⟨hge, cur, _, hg⟩
def HeldS (w : World) (base : Nat) (p : Option Addr) (l c : Nat) (L : SM) : Prop :=
 ∃ vs, All2 (fun v (x : Int × List UInt8) => ElemOwn w base v x.2) vs L ∧ OwnS w base 52 2 p l c (heldCells vs L) ∧ l = L.length
theorem all2_imp {α β : Type} {R R' : α → β → Prop} {xs : List α} {bs : List β} (h : All2 R xs bs) (hi : ∀ a b, R a b → R' a b) : All2 R' xs bs := by
 induction h with
 | nil => exact .nil
 | cons h _ ih => exact .cons (hi _ _ h) ih
theorem all2_at {α β : Type} {R : α → β → Prop} {xs : List α} {bs : List β} (h : All2 R xs bs) : ∀ {i : Nat} {b : β}, bs[i]? = some b → ∃ a, xs[i]? = some a ∧ R a b := by
 induction h with
 | nil => intro i b hb; simp at hb
 | cons h _ ih =>
  intro i b hb
  cases i with
  | zero => simp only [List.getElem?_cons_zero, Option.some.injEq] at hb ⊢; subst hb; exact ⟨_, rfl, h⟩
  | succ i => simp only [List.getElem?_cons_succ] at hb ⊢; exact ih hb
theorem HeldS.upd {S : Nat → Prop} {w w' : World} {base : Nat} {p : Option Addr} {l c : Nat} {L : SM} (h : HeldS w base p l c L) (hu : Upd S w w') (hS : ∀ y, base ≤ y → y < w.heap.size → ¬ S y) : HeldS w' base p l c L := by
 obtain ⟨vs, h1, h2, h3⟩ := h
 refine ⟨vs, all2_imp h1 fun v x hv => ?_, h2.upd hu ?_, h3⟩
 ·exact hv.upd hu fun y hy => hS y hy.1 hy.lt
 ·intro g hg
  rcases h2.where_ with ⟨hp, _⟩ | ⟨g', hp, hb, hlt, _⟩
  ·rw [hp] at hg; cases hg
  ·rw [hp] at hg
   simp only [Option.some.injEq, at0, Addr.mk.injEq, and_true] at hg
   subst hg
   exact hS _ hb hlt
theorem HeldS.ext {w w' : World} {base : Nat} {p : Option Addr} {l c : Nat} {L : SM} (h : HeldS w base p l c L) (hu : Ext w w') : HeldS w' base p l c L := h.upd hu fun _ _ _ h => h
theorem HeldS.length {w : World} {base : Nat} {p : Option Addr} {l c : Nat} {L : SM} (h : HeldS w base p l c L) : l = L.length := by
 obtain ⟨_, _, _, h⟩ := h; exact h
theorem HeldS.at {w : World} {base : Nat} {p : Option Addr} {l c : Nat} {L : SM} (h : HeldS w base p l c L) {i : Nat} {x : Int × List UInt8} (hi : L[i]? = some x) :
  ∃ a v, p = some a ∧ w.cell? (a.add (2 * i)) = some (.int .i64 x.1) ∧ w.cell? (a.add (2 * i + 1)) = some v ∧ SliceVal (ByB w base) w v x.2 := by
 obtain ⟨vs, h1, h2, _⟩ := h
 obtain ⟨v, hv, hs⟩ := all2_at h1 hi
 obtain ⟨c1, c2⟩ := heldCells_at hv hi
 obtain ⟨a, ha, e1⟩ := h2.cells _ _ c1
 obtain ⟨a', ha', e2⟩ := h2.cells _ _ c2
 rw [ha] at ha'
 cases ha'
 exact ⟨a, v, ha, e1, e2, hs.val⟩
theorem elemH : ElemOf Tryz.prog 49 52 2 32 := ⟨by kernel_rfl, ⟨Tryz.t52, .agg #[.int .i64 0, .slice none 0 0], by kernel_rfl, by kernel_rfl, by kernel_rfl, by kernel_rfl, by kernel_rfl⟩, by decide⟩
theorem asc_bound {n : Nat} : ∀ {L : SM} {lo : Int}, Asc L → (∀ x ∈ L, lo ≤ x.1 ∧ x.1 < lo + n) → L.length ≤ n := by
 induction n with
 | zero =>
  intro L lo _ h
  cases L with
  | nil => simp
  | cons a L => have := h a List.mem_cons_self; omega
 | succ n ih =>
  intro L lo ha h
  cases L with
  | nil => simp
  | cons a L =>
   obtain ⟨h1, h2⟩ := List.pairwise_cons.1 ha
   have := ih (L := L) (lo := lo + 1) h2 fun x hx => by
    have := h1 x hx; have := h a List.mem_cons_self; have := h x (List.mem_cons_of_mem _ hx)
    omega
   simp only [List.length_cons]; omega
set_option maxHeartbeats 1000000 in
theorem told_spec (KS : KeySort) {w : World} {m : Nat} {L : SM} {G : Nat → Prop} (h : MapOf intK (SliceVal G w) w m L) (ha : Asc L) (hr : ∀ x ∈ L, 0 ≤ x.1 ∧ x.1 < 4096) :
  Calls Tryz.prog 78 #[.map (some m)] w fun e w' => ∃ p l c, e = .returned (.slice p l c) ∧ Ext w w' ∧ HeldS w' w.heap.size p l c L := by
 have hlen : L.length ≤ 4096 := asc_bound (lo := 0) ha fun x hx => by have := hr x hx; omega
 refine (F78_calls (some m) w (fun v w' => ∃ p l c, v = .slice p l c ∧ Ext w w' ∧ HeldS w' w.heap.size p l c L)
  (fun _ _ _ _ w5 p l c n w14 => ∃ i : Nat, n = i ∧ i ≤ L.length ∧ Ext w5 w14 ∧ HeldS w14 w5.heap.size p l c (L.take i))
  (fun _ _ _ _ _ _ _ _ n _ => 4096 - n.toNat) ?_).mono (by rintro e w' ⟨v, rfl, p, l, c, rfl, h⟩; exact ⟨p, l, c, rfl, h⟩)
 refine (KS w m L _ h ha hr hlen).mono ?_
 rintro e w2 ⟨v, rfl, hc⟩
 refine ⟨v, rfl, hc.mono ?_⟩
 rintro e w5 ⟨p7, l7, c7, rfl, hx5, hown5, rfl⟩
 refine ⟨p7, _, c7, rfl, ⟨0, rfl, Nat.zero_le _, Upd.refl _ _, [], .nil, OwnS.nil _ _ _ _, rfl⟩, ?_⟩
 rintro p12 l12 c12 n13 w14 ⟨i, rfl, hi, hx14, hh⟩
 intros
 refine condB_of (fun hlt => ?_) (fun hge => ?_)
 ·simp only [decide_eq_true_eq] at hlt
  have hlt' : i < L.length := by omega
  refine ⟨⟨by omega, hlt⟩, ?_⟩
  obtain ⟨x, hxi⟩ : ∃ x, L[i]? = some x := ⟨L[i], List.getElem?_eq_getElem hlt'⟩
  have hxm : x ∈ L := List.mem_of_getElem? hxi
  obtain ⟨a, ha7, hcell⟩ := (hown5.ext hx14).cells i (.int .i64 x.1) (by rw [List.getElem?_map, hxi]; rfl)
  subst ha7
  refine ⟨x.1, by simpa using hcell, ?_⟩
  have hx : Ext w w14 := Upd.trans hx5 hx14 fun _ _ h => h
  have hm14 : MapOf intK (SliceVal G w14) w14 m L := (h.upd hx id).mono fun v x hv => hv.upd hx fun _ _ h => h
  rcases hm14.lookup mapT intT zeroT x.1 with ⟨y, v, hy, hv, hl⟩ | ⟨hno, _⟩
  rotate_left
  ·have := (get_some ha.nodup (k := x.1) (x := x.2)).1 hxm
   rw [this] at hno; cases hno
  have hyx : y = x.2 := by
   have := (get_some ha.nodup (k := x.1) (x := x.2)).1 hxm
   rw [this] at hy; cases hy; rfl
  subst hyx
  obtain ⟨p, n, c, rfl, hb, hne, hn, _⟩ := hv
  refine ⟨p, n, c, true, hl, ?_⟩
  refine (clone_spec hb (by omega) (fun e => by
   obtain ⟨a, ha, _⟩ := hb.lt hne
   rw [e] at ha; cases ha)).mono ?_
  rintro e w33 ⟨p', c', rfl, hx33, hown33, _⟩
  refine ⟨p', n, c', rfl, ?_⟩
  intro k w37 hk
  obtain ⟨vs, hvs, hownH, hl12⟩ := hh.ext (Upd.trans hx33 hk.ext fun _ _ h => h)
  have hvl : vs.length = (L.take i).length := hvs.length
  have hcs : CellsAt w37 (some (at0 k)) [.int .i64 x.1, .slice p' n c'] := by
   intro j u hj
   refine ⟨_, rfl, ?_⟩
   have hb := hk.at
   match j, hj with
   | 0, hj => cases hj; simp [World.cell?, Addr.add, hb]
   | 1, hj => cases hj; simp [World.cell?, Addr.add, hb]
  have hs37 : w5.heap.size ≤ w37.heap.size := by
   have := hx14.size; have := hx33.size; have := hk.size; omega
  obtain ⟨p39, c39, w38, hrun, hown38, hu38, _⟩ := hownH.append elemH 49 (q := some (at0 k)) (m := 1) (d := 1) (news := [.int .i64 x.1, .slice p' n c']) rfl hcs (fun h => by cases h)
   (by intro u hu; simp only [List.mem_cons, List.not_mem_nil, or_false] at hu; rcases hu with rfl | rfl <;> rfl) (by simp only [List.length_take] at hl12; unfold maxLen; omega) (by simp only [List.length_take] at hl12; omega) hs37
  refine ⟨p39, l12 + 1, c39, w38, hrun, ?_⟩
  have hw : IntKind.i64.wrap ((i : Int) + 1) = ((i + 1 : Nat) : Int) := by
   rw [w64 (by omega)]; omega
  rw [hw]
  have hbuf : ∀ y, ByB w37 w5.heap.size y → ¬ (p12 = some (at0 y)) := by
   rintro y ⟨_, cs, fz, hy⟩ hp
   rcases hownH.where_ with ⟨hp', _⟩ | ⟨g, hp', _, _, _, cur, hg, _⟩
   ·rw [hp] at hp'; cases hp'
   ·rw [hp] at hp'
    simp only [Option.some.injEq, at0, Addr.mk.injEq, and_true] at hp'
    subst hp'
    rw [hy] at hg
    simp at hg
  have hup : ∀ (v : Value) (b : List UInt8), ElemOwn w37 w5.heap.size v b → ElemOwn w38 w5.heap.size v b := fun v b hv => hv.upd hu38 hbuf
  have hnew : ElemOwn w37 w5.heap.size (.slice p' n c') x.2 := ⟨p', n, c', rfl, (hown33.ext hk.ext).base_le hx14.size, hne, hn⟩
  refine ⟨⟨i + 1, rfl, by omega, ?_, vs ++ [.slice p' n c'], ?_, ?_, ?_⟩, ?_⟩
  ·refine Upd.trans (Upd.trans hx14 (Upd.trans hx33 hk.ext fun _ _ h => h) fun _ _ h => h) hu38 fun y hy hs => ?_
   rcases hownH.where_ with ⟨hp', _⟩ | ⟨g, hp', hge, _⟩
   ·rw [hp'] at hs; cases hs
   ·rw [hp'] at hs
    simp only [Option.some.injEq, at0, Addr.mk.injEq, and_true] at hs
    omega
  ·rw [List.take_add_one, hxi]
   exact (all2_imp hvs fun v x hv => hup v x.2 hv).append (.cons (hup _ _ hnew) .nil)
  ·rw [List.take_add_one, hxi]
   simp only [Option.toList_some]
   rw [heldCells_append _ _ hvl]
   exact hown38
  ·simp only [List.length_take] at hl12 ⊢; omega
  ·simp only [Int.toNat_natCast]; omega
 ·simp only [decide_eq_false_iff_not] at hge
  have hi' : i = L.length := by omega
  subst hi'
  rw [List.take_length] at hh
  refine ⟨p12, l12, c12, rfl, Upd.trans hx5 hx14 fun _ _ h => h, ?_⟩
  obtain ⟨vs, h1, h2, h3⟩ := hh
  exact ⟨vs, all2_imp h1 fun v x hv => hv.base_le hx5.size, h2.base_le hx5.size, h3⟩
structure DkOk (D : Dk) : Prop where
 sec : 1 ≤ D.sectors ∧ D.sectors ≤ 4096
 lasts : ∀ x ∈ D.lasts, 0 ≤ x.1 ∧ x.1 < D.sectors
 waits : ∀ x ∈ D.waits, 0 ≤ x.1 ∧ x.1 < D.sectors
end Go.Proofs.YtkolafpgbhpdlaaGreat
namespace Go.Proofs.YtkolafpgbhpdlaaGreat
open Go Go.Proofs Go.RowKit Go.Maps Go.Sort Go.Shelf
def keysA_ren : Go.Shelf.Ren := ⟨fun | 7 => 114 | 10 => 152 | n => n, fun | 23 => 119 | 26 => 3 | 3 => 25 | 28 => 171 | 0 => 0 | 27 => 170 | 33 => 99 | 4 => 4 | n => n, fun | n => n⟩
theorem keysA : Go.Proofs.SlLaysZI.n7 Tryz.prog keysA_ren := {
 mixed := by kernel_rfl
 f7 := ⟨Tryz.f114.name, by decide, Tryz.func114.trans (congrArg some (by kernel_rfl))⟩
 f10 := ⟨Tryz.f152.name, by decide, Tryz.func152.trans (congrArg some (by kernel_rfl))⟩
 t0 := Tryz.underlying0
 a0 := Tryz.isAgg0
 z0 := Tryz.sizeOf0
 v0 := Tryz.zeroValue0
 t4 := Tryz.underlying4
 a4 := Tryz.isAgg4
 z4 := Tryz.sizeOf4
 v4 := Tryz.zeroValue4
 t23 := Tryz.underlying119
 a23 := Tryz.isAgg119
 z23 := Tryz.sizeOf119
 v23 := Tryz.zeroValue119
 t26 := Tryz.underlying3
 a26 := Tryz.isAgg3
 z26 := Tryz.sizeOf3
 v26 := Tryz.zeroValue3
 t27 := Tryz.underlying170
 a27 := Tryz.isAgg170
 z27 := Tryz.sizeOf170
 v27 := Tryz.zeroValue170
 t28 := Tryz.underlying171
 a28 := Tryz.isAgg171
 z28 := Tryz.sizeOf171
 v28 := Tryz.zeroValue171
 t33 := Tryz.underlying99
 a33 := Tryz.isAgg99
 z33 := Tryz.sizeOf99
 v33 := Tryz.zeroValue99 }
def sortedA_ren : Go.Shelf.Ren := ⟨fun | 6 => 113 | 8 => 151 | 9 => 103 | 11 => 188 | 13 => 147 | 12 => 146 | 23 => 186 | 24 => 187 | 14 => 177 | 15 => 178 | 16 => 179 | 17 => 180 | 18 => 181 | 19 => 182 | 20 => 183 | 21 => 184 | 22 => 185 | 25 => 195 | 26 => 196 | 27 => 197 | 28 => 198 | 29 => 199 | 30 => 200 | 31 => 207 | n => n, fun | 26 => 3 | 28 => 171 | 24 => 30 | 0 => 0 | 3 => 3 | 37 => 88 | 48 => 156 | 50 => 220 | 4 => 4 | 40 => 212 | 39 => 211 | 45 => 216 | 5 => 5 | 9 => 9 | 51 => 228 | 55 => 232 | 57 => 240 | 58 => 241 | 33 => 99 | n => n, fun | n => n⟩
theorem sortedA : Go.Proofs.SlLaysZI.n6 Tryz.prog sortedA_ren := {
 mixed := by kernel_rfl
 f6 := ⟨Tryz.f113.name, by decide, Tryz.func113.trans (congrArg some (by kernel_rfl))⟩
 f8 := ⟨Tryz.f151.name, by decide, Tryz.func151.trans (congrArg some (by kernel_rfl))⟩
 f11 := ⟨Tryz.f188.name, by decide, Tryz.func188.trans (congrArg some (by kernel_rfl))⟩
 t0 := Tryz.underlying0
 a0 := Tryz.isAgg0
 z0 := Tryz.sizeOf0
 v0 := Tryz.zeroValue0
 t24 := Tryz.underlying30
 a24 := Tryz.isAgg30
 z24 := Tryz.sizeOf30
 v24 := Tryz.zeroValue30
 t26 := Tryz.underlying3
 a26 := Tryz.isAgg3
 z26 := Tryz.sizeOf3
 v26 := Tryz.zeroValue3
 t28 := Tryz.underlying171
 a28 := Tryz.isAgg171
 z28 := Tryz.sizeOf171
 v28 := Tryz.zeroValue171
 i26 := by kernel_rfl }
def sortA_ren : Go.Shelf.Ren := ⟨fun | 5 => 103 | 8 => 147 | 7 => 146 | 19 => 186 | 20 => 187 | 10 => 177 | 11 => 178 | 12 => 179 | 13 => 180 | 14 => 181 | 15 => 182 | 16 => 183 | 17 => 184 | 18 => 185 | 30 => 195 | 31 => 196 | 32 => 197 | 33 => 198 | 34 => 199 | 35 => 200 | 40 => 207 | n => n, fun | 23 => 30 | 25 => 3 | 3 => 3 | 32 => 88 | 22 => 30 | 0 => 0 | 44 => 156 | 46 => 220 | 4 => 4 | 36 => 212 | 35 => 211 | 41 => 216 | 5 => 5 | 9 => 9 | 53 => 228 | 57 => 232 | 63 => 240 | 64 => 241 | n => n, fun | n => n⟩
theorem sortA : Go.Proofs.SlLaysM.n5 Tryz.prog sortA_ren := {
 mixed := by kernel_rfl
 f5 := ⟨Tryz.f103.name, by decide, Tryz.func103.trans (congrArg some (by kernel_rfl))⟩
 f7 := ⟨Tryz.f146.name, by decide, Tryz.func146.trans (congrArg some (by kernel_rfl))⟩
 f8 := Tryz.func147.trans (congrArg some (by kernel_rfl))
 f10 := ⟨Tryz.f177.name, by decide, Tryz.func177.trans (congrArg some (by kernel_rfl))⟩
 f11 := ⟨Tryz.f178.name, by decide, Tryz.func178.trans (congrArg some (by kernel_rfl))⟩
 f12 := ⟨Tryz.f179.name, by decide, Tryz.func179.trans (congrArg some (by kernel_rfl))⟩
 f13 := ⟨Tryz.f180.name, by decide, Tryz.func180.trans (congrArg some (by kernel_rfl))⟩
 f14 := ⟨Tryz.f181.name, by decide, Tryz.func181.trans (congrArg some (by kernel_rfl))⟩
 f15 := ⟨Tryz.f182.name, by decide, Tryz.func182.trans (congrArg some (by kernel_rfl))⟩
 f16 := ⟨Tryz.f183.name, by decide, Tryz.func183.trans (congrArg some (by kernel_rfl))⟩
 f17 := ⟨Tryz.f184.name, by decide, Tryz.func184.trans (congrArg some (by kernel_rfl))⟩
 f18 := ⟨Tryz.f185.name, by decide, Tryz.func185.trans (congrArg some (by kernel_rfl))⟩
 f19 := Tryz.func186.trans (congrArg some (by kernel_rfl))
 f20 := Tryz.func187.trans (congrArg some (by kernel_rfl))
 f30 := ⟨Tryz.f195.name, by decide, Tryz.func195.trans (congrArg some (by kernel_rfl))⟩
 f31 := Tryz.func196.trans (congrArg some (by kernel_rfl))
 f32 := Tryz.func197.trans (congrArg some (by kernel_rfl))
 f33 := ⟨Tryz.f198.name, by decide, Tryz.func198.trans (congrArg some (by kernel_rfl))⟩
 f34 := ⟨Tryz.f199.name, by decide, Tryz.func199.trans (congrArg some (by kernel_rfl))⟩
 f35 := ⟨Tryz.f200.name, by decide, Tryz.func200.trans (congrArg some (by kernel_rfl))⟩
 f40 := ⟨Tryz.f207.name, by decide, Tryz.func207.trans (congrArg some (by kernel_rfl))⟩
 t0 := Tryz.underlying0
 a0 := Tryz.isAgg0
 z0 := Tryz.sizeOf0
 v0 := Tryz.zeroValue0
 t3 := Tryz.underlying3
 a3 := Tryz.isAgg3
 z3 := Tryz.sizeOf3
 v3 := Tryz.zeroValue3
 t4 := Tryz.underlying4
 a4 := Tryz.isAgg4
 z4 := Tryz.sizeOf4
 v4 := Tryz.zeroValue4
 t5 := Tryz.underlying5
 a5 := Tryz.isAgg5
 z5 := Tryz.sizeOf5
 v5 := Tryz.zeroValue5
 t9 := Tryz.underlying9
 a9 := Tryz.isAgg9
 z9 := Tryz.sizeOf9
 v9 := Tryz.zeroValue9
 t22 := Tryz.underlying30
 a22 := Tryz.isAgg30
 z22 := Tryz.sizeOf30
 v22 := Tryz.zeroValue30
 t23 := Tryz.underlying30
 a23 := Tryz.isAgg30
 z23 := Tryz.sizeOf30
 v23 := Tryz.zeroValue30
 t25 := Tryz.underlying3
 a25 := Tryz.isAgg3
 z25 := Tryz.sizeOf3
 v25 := Tryz.zeroValue3
 t32 := Tryz.underlying88
 a32 := Tryz.isAgg88
 z32 := Tryz.sizeOf88
 v32 := Tryz.zeroValue88
 t35 := Tryz.underlying211
 a35 := Tryz.isAgg211
 z35 := Tryz.sizeOf211
 v35 := Tryz.zeroValue211
 t36 := Tryz.underlying212
 a36 := Tryz.isAgg212
 z36 := Tryz.sizeOf212
 v36 := Tryz.zeroValue212
 t41 := Tryz.underlying216
 a41 := Tryz.isAgg216
 z41 := Tryz.sizeOf216
 v41 := Tryz.zeroValue216
 t44 := Tryz.underlying156
 a44 := Tryz.isAgg156
 z44 := Tryz.sizeOf156
 v44 := Tryz.zeroValue156
 t46 := Tryz.underlying220
 a46 := Tryz.isAgg220
 z46 := Tryz.sizeOf220
 v46 := Tryz.zeroValue220
 t53 := Tryz.underlying228
 a53 := Tryz.isAgg228
 z53 := Tryz.sizeOf228
 v53 := Tryz.zeroValue228
 t57 := Tryz.underlying232
 a57 := Tryz.isAgg232
 z57 := Tryz.sizeOf232
 v57 := Tryz.zeroValue232
 t63 := Tryz.underlying240
 a63 := Tryz.isAgg240
 z63 := Tryz.sizeOf240
 v63 := Tryz.zeroValue240
 t64 := Tryz.underlying241
 a64 := Tryz.isAgg241
 z64 := Tryz.sizeOf241
 v64 := Tryz.zeroValue241 }
theorem sortsA (m : Nat) : AnyZI.SortsIn Tryz.prog sortedA_ren Fence.wide m :=
 ⟨fun blk off cap ss W hH hblk hsz => callsIn_wide.2 (AnyM.slices_Sort_int sortA blk off cap ss W hH hblk hsz),
  fun p cap W => callsIn_wide.2 (AnyM.slices_Sort_int_none sortA p cap W)⟩
end Go.Proofs.YtkolafpgbhpdlaaGreat
namespace Go.Proofs.YtkolafpgbhpdlaaGreat
open Go Go.Vc Go.RowKit Go.Maps Go.Sort Go.Shelf Go.Proofs
theorem sort_asc {L : SM} (ha : Asc L) {ss : List Int} (hp : ss.Perm (L.map (·.1))) : ss.mergeSort (fun x y => decide (x ≤ y)) = L.map (·.1) := by
 have tr : ∀ a b c : Int, leI a b = true → leI b c = true → leI a c = true := fun a b c h1 h2 => by simp only [leI, decide_eq_true_eq] at *; exact Int.le_trans h1 h2
 have to : ∀ a b : Int, (leI a b || leI b a) = true := fun a b => by simp only [leI, Bool.or_eq_true, decide_eq_true_eq]; exact Int.le_total a b
 refine List.Perm.eq_of_pairwise (le := fun a b => leI a b = true) (fun a b _ _ h1 h2 => ?_) (List.pairwise_mergeSort tr to ss) ?_ ((List.mergeSort_perm ss _).trans hp)
 ·simp only [leI, decide_eq_true_eq] at h1 h2
  exact Int.le_antisymm h1 h2
 ·exact (List.pairwise_map.2 (ha.imp fun h => by simp only [leI, decide_eq_true_eq]; exact Int.le_of_lt h))
set_option maxHeartbeats 1000000 in
theorem keySort : KeySort := by
 intro w m L V hm ha hr hlen
 obtain ⟨D, hown, hperm, hsize⟩ := owns_of (P := Tryz.prog) (t := 3) (by kernel_rfl) hm (fun x hx => by
  have := hr x hx
  simp only [Lit.wf, Bool.and_eq_true, decide_eq_true_eq]
  constructor
  ·exact Int.le_trans (by decide) this.1
  ·exact Int.le_trans (Int.le_of_lt this.2) (by decide)) (by unfold maxLen; omega)
 have hbl := hm.lt
 have hseq : SeqGives Fence.wide 2 Tryz.prog 152 #[.pointer (some ⟨w.heap.size, 0, none⟩)] encZ (fun ss => ss.Perm (intKeys D)) (Maps.size D) (w.alloc (.cells #[.map (some m)] 119)) :=
  AnyZI.keys_gives (ρ := keysA_ren) { keysA with } Fence.wide _ trivial rfl (by omega) w.heap.size m L.length D _ (by simp) (by simp) (by
   obtain ⟨es, clock, hb, Ft, hs, hD⟩ := hown
   exact ⟨es, clock, (Below.heap_alloc _ _ m hbl).trans hb, Ft, hs, hD⟩)
 have cK : CallsIn Fence.wide 5 Tryz.prog 114 #[.map (some m)] w fun e w' => e = .returned (.func (.func 152) #[] #[.pointer (some ⟨w.heap.size, 0, none⟩)]) ∧ w' = w.alloc (.cells #[.map (some m)] 119) := AnyZI.keys_in keysA Fence.wide 5 trivial rfl (some m) w
 have cS := AnyZI.sorted_in sortedA Fence.wide 5 trivial trivial trivial trivial rfl (by omega) (sortsA _) (enters_of Tryz.func103 (by kernel_rfl) rfl) 152 #[.pointer (some ⟨w.heap.size, 0, none⟩)] trivial (enters_of Tryz.func152 (by kernel_rfl) rfl) _ _ (by rw [hsize]; unfold maxLen; omega) (by rw [hsize]; omega) _ hseq
 change CallsIn _ _ Tryz.prog 113 _ _ _ at cS
 refine ((callsIn_wide (n := 5)).1 cK).mono ?_
 rintro e w1 ⟨rfl, rfl⟩
 refine ⟨_, rfl, ((callsIn_wide (n := 5)).1 cS).mono ?_⟩
 rintro e w2 ⟨v, ss, rfl, hS, hrow, _, hb⟩
 have hs := sort_asc ha (hS.trans hperm)
 have hlen' : ss.length = L.length := by
  have := (hS.trans hperm).length_eq
  simpa using this
 have hrow' := ownsRow_base_a hrow (show w.heap.size ≤ _ by simp)
 rw [hs, hlen'] at hrow'
 have hv : ∃ p c, v = .slice p L.length c := by
  rcases hrow'.2 with ⟨hv, hn⟩ | ⟨g, cap, cur, hv, _⟩
  ·exact ⟨none, 0, by rw [hv, hn]⟩
  ·exact ⟨_, _, hv⟩
 obtain ⟨p, c, rfl⟩ := hv
 refine ⟨p, L.length, c, rfl, Ext.of_below (((Below.refl _ w).alloc (Nat.le_refl _) _).trans (hb.mono (by simp))), ?_, rfl⟩
 rw [List.map_map] at hrow'
 exact hrow'
theorem lasts_spec {w : World} {b m1 m2 : Nat} {D : Dk} {G : Nat → Prop} (h : IsDisk w b m1 m2 D G) (hk : DkOk D) :
  Calls Tryz.prog 48 #[.pointer (some (at0 b))] w fun e w' => ∃ p l c, e = .returned (.slice p l c) ∧ Ext w w' ∧ HeldS w' w.heap.size p l c D.lasts := by
 refine (F48_calls (some (at0 b)) w (fun v w' => ∃ p l c, v = .slice p l c ∧ Ext w w' ∧ HeldS w' w.heap.size p l c D.lasts) ?_).mono (by rintro e w' ⟨v, rfl, p, l, c, rfl, h⟩; exact ⟨p, l, c, rfl, h⟩)
 refine ⟨_, h.row.row.cell rfl, ?_⟩
 refine (told_spec keySort h.lasts h.asc1 fun x hx => by have := hk.lasts x hx; have := hk.sec; omega).mono ?_
 rintro e w' ⟨p, l, c, rfl, hh⟩
 exact ⟨p, l, c, rfl, p, l, c, rfl, hh⟩
theorem waits_spec {w : World} {b m1 m2 : Nat} {D : Dk} {G : Nat → Prop} (h : IsDisk w b m1 m2 D G) (hk : DkOk D) :
  Calls Tryz.prog 47 #[.pointer (some (at0 b))] w fun e w' => ∃ p l c, e = .returned (.slice p l c) ∧ Ext w w' ∧ HeldS w' w.heap.size p l c D.waits := by
 refine (F47_calls (some (at0 b)) w (fun v w' => ∃ p l c, v = .slice p l c ∧ Ext w w' ∧ HeldS w' w.heap.size p l c D.waits) ?_).mono (by rintro e w' ⟨v, rfl, p, l, c, rfl, h⟩; exact ⟨p, l, c, rfl, h⟩)
 refine ⟨_, h.row.row.cell rfl, ?_⟩
 refine (told_spec keySort h.waits h.asc2 fun x hx => by have := hk.waits x hx; have := hk.sec; omega).mono ?_
 rintro e w' ⟨p, l, c, rfl, hh⟩
 exact ⟨p, l, c, rfl, p, l, c, rfl, hh⟩
end Go.Proofs.YtkolafpgbhpdlaaGreat
namespace Go.Proofs.YtkolafpgbhpdlaaGreat
open Go Go.Vc
theorem encB_set (bs : List UInt8) (i : Nat) (b : UInt8) : (encB bs).set i (.int .u8 (b.toNat : Int)) = encB (bs.set i b) := by
 simp [encB, List.map_set]
theorem fail_spec {w : World} {b m1 m2 : Nat} {D : Dk} {G : Nat → Prop} (h : IsDisk w b m1 m2 D G) :
  Calls Tryz.prog 44 #[.pointer (some (at0 b))] w fun e w' => e = .returned (.tuple #[]) ∧ Upd (Core b m1 m2) w w' ∧ IsDisk w' b m1 m2 { D with dead := true, lasts := [], waits := [] } G := by
 refine (F44_calls (some (at0 b)) w (fun v w' => v = .tuple #[] ∧ Upd (Core b m1 m2) w w' ∧ IsDisk w' b m1 m2 { D with dead := true, lasts := [], waits := [] } G) ?_).mono (by rintro e w' ⟨v, rfl, rfl, h⟩; exact ⟨rfl, h⟩)
 refine (empty_spec h true).mono ?_
 rintro e w2 ⟨rfl, h⟩
 exact ⟨rfl, rfl, h⟩
theorem replace_spec {w : World} {b m1 m2 : Nat} {D : Dk} {G : Nat → Prop} (h : IsDisk w b m1 m2 D G) :
  Calls Tryz.prog 45 #[.pointer (some (at0 b))] w fun e w' => e = .returned (.tuple #[]) ∧ Upd (Core b m1 m2) w w' ∧ IsDisk w' b m1 m2 { D with dead := false, lasts := [], waits := [] } G := by
 refine (F45_calls (some (at0 b)) w (fun v w' => v = .tuple #[] ∧ Upd (Core b m1 m2) w w' ∧ IsDisk w' b m1 m2 { D with dead := false, lasts := [], waits := [] } G) ?_).mono (by rintro e w' ⟨v, rfl, rfl, h⟩; exact ⟨rfl, h⟩)
 refine (empty_spec h false).mono ?_
 rintro e w2 ⟨rfl, h⟩
 exact ⟨rfl, rfl, h⟩
theorem corIdx_lt (a : Int) {n : Nat} (h : 0 < n) : corIdx a n < n := by
 unfold corIdx
 have h1 := Int.emod_lt_of_pos (if a < 0 then -(a + 1) else a) (show (0 : Int) < n by omega)
 have h2 := Int.emod_nonneg (if a < 0 then -(a + 1) else a) (show (n : Int) ≠ 0 by omega)
 omega
set_option maxHeartbeats 1000000 in
theorem corrupt_spec {w : World} {b m1 m2 : Nat} {D : Dk} {G : Nat → Prop} (h : IsDisk w b m1 m2 D G) (k a : Int) (y : UInt8) (ha : -9223372036854775808 ≤ a ∧ a ≤ 9223372036854775807) :
  Calls Tryz.prog 46 #[.pointer (some (at0 b)), .int .i64 k, .int .i64 a, .int .u8 (y.toNat : Int)] w fun e w' => ∃ G', e = .returned (.int .i64 (corruptZ D k)) ∧ Upd (Core b m1 m2) w w' ∧
   IsDisk w' b m1 m2 (corruptD D k a y) G' ∧ Grows G G' w w' := by
 refine (F46_calls (some (at0 b)) k a (y.toNat : Int) w (fun v w' => ∃ G', v = .int .i64 (corruptZ D k) ∧ Upd (Core b m1 m2) w w' ∧
   IsDisk w' b m1 m2 (corruptD D k a y) G' ∧ Grows G G' w w') ?_).mono (by rintro e w' ⟨v, rfl, G', rfl, h⟩; exact ⟨G', rfl, h⟩)
 obtain ⟨n1, n2, n3⟩ := h.ne
 refine (fault_spec h.row).mono ?_
 rintro e w5 ⟨rfl, rfl⟩
 refine ⟨_, rfl, condB_of (fun hf => ?_) (fun hf => ?_)⟩
 ·simp only [Bool.not_eq_true', decide_eq_false_iff_not] at hf
  have hz : corruptZ D k = faultZ D.dead D.sectors k := by simp [corruptZ, hf]
  refine ⟨G, by rw [hz], Upd.refl _ _, ?_, fun x hx => .inl hx⟩
  rw [corruptD, if_pos hf]; exact h
 simp only [Bool.not_eq_false', decide_eq_true_eq] at hf
 refine (at_spec h k).mono ?_
 rintro e w8 ⟨hq, p, l, c, r, rfl, hcase⟩
 refine ⟨p, l, c, some r, rfl, ?_⟩
 have hx8 : Ext w5 w8 := hq.ext
 have h8 := h.ext hx8
 have main : ∀ (bs : List UInt8) (M : SM), SliceVal G w8 (.slice p l c) bs → MapOf intK (SliceVal G w8) w8 r M → Asc M → corruptZ D k = 0 → (r = m1 ∨ r = m2) →
   (∀ w' G', (∀ x, G x → G' x) → Upd (fun x => x = r) w8 w' → (∀ x, G' x → x < w'.heap.size) → Grows G G' w8 w' → MapOf intK (SliceVal G' w') w' r (ins k (corBytes bs a y) M) → Asc (ins k (corBytes bs a y) M) →
    IsDisk w' b m1 m2 (corruptD D k a y) G') →
   ∀ E : Int, E = (if a < 0 then -(a + 1) else a) →
   Calls Tryz.prog 77 #[.slice p l c] w8 fun e13 w12 => (∃ (p14 : Option Addr) (l14 c14 : Nat), e13 = .returned (.slice p14 l14 c14) ∧ (((l14 : Nat) : Int) ≠ 0 ∧ ((0 ≤ (E.tmod ((l14 : Nat) : Int)) ∧ (E.tmod ((l14 : Nat) : Int)) < ((l14 : Nat) : Int)) ∧
    (nilM p14 fun a15 => (∃ (n16 : Int), w12.cell? (a15.add ((E.tmod ((l14 : Nat) : Int)).toNat * 1)) = some (.int .u8 n16) ∧ ((0 ≤ (E.tmod ((l14 : Nat) : Int)) ∧ (E.tmod ((l14 : Nat) : Int)) < ((l14 : Nat) : Int)) ∧
    (nilM p14 fun a17 => (Live w12 (a17.add ((E.tmod ((l14 : Nat) : Int)).toNat * 1)) ∧ (∀ w18 : World, SetC w12 (a17.add ((E.tmod ((l14 : Nat) : Int)).toNat * 1)) (Value.int .u8 (bitsV .xor .u8 n16 (y.toNat : Int))) w18 →
    (∃ w19 : World, Sem.run Tryz.prog (Instr.mapUpdate 119 (.map (some r)) (.int .i64 k) (.slice p14 l14 c14)) w18 = .ok () w19 ∧
     (∃ G', Value.int .i64 0 = .int .i64 (corruptZ D k) ∧ Upd (Core b m1 m2) w5 w19 ∧ IsDisk w19 b m1 m2 (corruptD D k a y) G' ∧ Grows G G' w5 w19))))))))))) := by
  intro bs M hsv hM hasc hz hr hfin E hE
  obtain ⟨p0, l0, c0, he, hb, hne, hn, hG⟩ := hsv
  cases he
  have hl := hb.1
  have hpos : 0 < l := by
   rw [hl]; exact List.length_pos_iff.2 hne
  have hEn : 0 ≤ E := by rw [hE]; split <;> omega
  have htm : E.tmod (l : Int) = E % (l : Int) := Int.tmod_eq_emod_of_nonneg hEn
  have hidx : (E % (l : Int)).toNat = corIdx a bs.length := by rw [hE, ← hl]; rfl
  have hlt := corIdx_lt a (n := bs.length) (by omega)
  refine (clone_spec hb (by omega) (fun e => by
   obtain ⟨a, ha, _⟩ := hb.lt hne
   rw [e] at ha; cases ha)).mono ?_
  rintro e w12 ⟨p', c', rfl, hx12, hown, hnil⟩
  refine ⟨p', l, c', rfl, by omega, ?_⟩
  rw [htm, Nat.mul_one, hidx]
  have hr1 := Int.emod_nonneg E (show (l : Int) ≠ 0 by omega)
  have hr2 := Int.emod_lt_of_pos E (show (0 : Int) < l by omega)
  refine ⟨⟨hr1, hr2⟩, ?_⟩
  have hel : (encB bs)[corIdx a bs.length]? = some (.int .u8 ((bs.getD (corIdx a bs.length) 0).toNat : Int)) := by
   simp [encB, List.getElem?_eq_getElem hlt, List.getD]
  obtain ⟨aa, rfl, hcell⟩ := hown.cells _ _ hel
  refine ⟨_, hcell, ⟨hr1, hr2⟩, hown.live (by rw [encB_length]; exact hlt), ?_⟩
  intro w18 hset
  obtain ⟨hown18, hu18⟩ := hown.set hset
  rw [xor_u8, encB_set] at hown18
  have hag : ∃ g, aa = at0 g ∧ w8.heap.size ≤ g := by
   rcases hown.where_ with ⟨h, _⟩ | ⟨g, h, hge, _⟩
   ·cases h
   ·cases h; exact ⟨g, rfl, hge⟩
  obtain ⟨g, rfl, hge⟩ := hag
  have hx18 : Ext w8 w18 := Upd.trans hx12 hu18 fun x hx hs => by
   have : x = g := hs
   omega
  let G' : Nat → Prop := fun x => G x ∨ (w8.heap.size ≤ x ∧ x < w18.heap.size)
  have hbs' : corBytes bs a y ≠ [] := by
   intro h0
   have := congrArg List.length h0
   simp [corBytes] at this
   exact hne this
  have hval : SliceVal G' w18 (.slice (some (at0 g)) l c') (corBytes bs a y) := by
   have hb' := BytesAt.of_cells hown18.cells
   have hlen : (bs.set (corIdx a bs.length) (bs.getD (corIdx a bs.length) 0 ^^^ y)).length = l := by rw [List.length_set]; exact hl.symm
   rw [hlen] at hb'
   refine ⟨_, l, c', rfl, hb', hbs', by omega, ?_⟩
   rintro a ⟨⟩
   refine .inr ⟨hge, ?_⟩
   rcases hown18.where_ with ⟨h, _⟩ | ⟨g', h, _, hlt, _⟩
   ·cases h
   ·cases h; exact hlt
  obtain ⟨w19, hrun, hu19, hs19, hm19⟩ := (((hM.upd hx18 id).mono fun v x hv => (hv.upd hx18 fun _ _ h => h).mono (G' := G') fun x hx => .inl hx)).update mapT intT k hval
  have hu : Upd (fun x => x = r) w8 w19 := Upd.trans (hx18.upd (S := fun x => x = r)) hu19 fun _ _ h => h
  have hrlt : r < w8.heap.size := hM.lt
  have hGr : ∀ x, G' x → ¬ (x = r) := by
   rintro x (hx | hx)
   ·have := h.apart x hx
    rcases hr with rfl | rfl
    ·exact this.2.1
    ·exact this.2.2
   ·omega
  refine ⟨w19, hrun, G', by rw [hz], ?_, ?_, ?_⟩
  ·refine Upd.trans (hx8.upd) (hu.mono fun x _ hx => ?_) fun _ _ h => h
   rcases hr with rfl | rfl
   ·exact Or.inr (Or.inl hx)
   ·exact Or.inr (Or.inr hx)
  ·refine hfin w19 G' (fun x hx => .inl hx) hu ?_ ?_ ?_ (ins_asc hasc)
   ·rintro x (hx | hx)
    ·have := h8.bound x hx; have := hu.size; omega
    ·rw [hs19]; exact hx.2
   ·rintro x (hx | hx)
    ·exact .inl hx
    ·exact .inr (by rw [hs19]; exact hx)
   ·exact (hm19.perm (ins_perm k _ M).symm).mono fun v x hv => hv.upd hu19 hGr
  ·rintro x (hx | hx)
   ·exact .inl hx
   ·have := hx8.size
    exact .inr (by rw [hs19]; exact ⟨by omega, hx.2⟩)
 have hwrap : a < 0 → IntKind.i64.wrap (0 - IntKind.i64.wrap (a + 1)) = -(a + 1) := fun h0 => by
  rw [w64 (by omega : -9223372036854775808 ≤ a + 1 ∧ a + 1 ≤ 9223372036854775807), w64 (by omega)]; omega
 have up8 : ∀ {v : Value} {bs : List UInt8}, SliceVal G w5 v bs → SliceVal G w8 v bs := fun hv => hv.upd hx8 fun _ _ h => h
 rcases hcase with ⟨bs, hg, hsv, rfl⟩ | ⟨bs, hg1, hg2, hsv, rfl⟩ | ⟨hg1, hg2, rfl, rfl, rfl⟩
 ·have hz : corruptZ D k = 0 := by simp [corruptZ, hf, hg]
  have hD : corruptD D k a y = { D with waits := ins k (corBytes bs a y) D.waits } := by simp [corruptD, hf, hg]
  have hll : l ≠ 0 := by
   obtain ⟨_, _, _, he, hb, hne, _⟩ := hsv
   cases he
   have := hb.1; have := List.length_pos_iff.2 hne; omega
  have fin := main bs D.waits (up8 hsv) h8.waits h.asc2 hz (.inr rfl) (by
   intro w' G' hGG hu hbd hgr hm hasc
   rw [hD]
   refine ⟨hu.rowW h8.row n2, (h8.lasts.upd hu n3).mono fun v x hv => (hv.mono hGG).upd hu ?_, hm, h.asc1, hasc, h.ne, ?_, hbd⟩
   ·intro x hx
    rcases hgr x hx with hx | hx
    ·exact (h.apart x hx).2.2
    ·have := h8.waits.lt; omega
   ·intro x hx
    rcases hgr x hx with hx | hx
    ·exact h.apart x hx
    ·have a1 := h8.row.lt; have a2 := h8.lasts.lt; have a3 := h8.waits.lt
     exact ⟨by omega, by omega, by omega⟩)
  refine condB_of (fun h0 => by simp only [decide_eq_true_eq] at h0; omega) (fun _ => condB_of (fun h0 => ?_) (fun h0 => ?_))
  ·simp only [decide_eq_true_eq] at h0
   exact fin _ (by rw [hwrap h0, if_pos h0])
  ·simp only [decide_eq_false_iff_not] at h0
   exact fin _ (by rw [if_neg h0])
 ·have hz : corruptZ D k = 0 := by simp [corruptZ, hf, hg1, hg2]
  have hD : corruptD D k a y = { D with lasts := ins k (corBytes bs a y) D.lasts } := by simp [corruptD, hf, hg1, hg2]
  have hll : l ≠ 0 := by
   obtain ⟨_, _, _, he, hb, hne, _⟩ := hsv
   cases he
   have := hb.1; have := List.length_pos_iff.2 hne; omega
  have fin := main bs D.lasts (up8 hsv) h8.lasts h.asc1 hz (.inl rfl) (by
   intro w' G' hGG hu hbd hgr hm hasc
   rw [hD]
   refine ⟨hu.rowW h8.row n1, hm, (h8.waits.upd hu (fun e => n3 e.symm)).mono fun v x hv => (hv.mono hGG).upd hu ?_, hasc, h.asc2, h.ne, ?_, hbd⟩
   ·intro x hx
    rcases hgr x hx with hx | hx
    ·exact (h.apart x hx).2.1
    ·have := h8.lasts.lt; omega
   ·intro x hx
    rcases hgr x hx with hx | hx
    ·exact h.apart x hx
    ·have a1 := h8.row.lt; have a2 := h8.lasts.lt; have a3 := h8.waits.lt
     exact ⟨by omega, by omega, by omega⟩)
  refine condB_of (fun h0 => by simp only [decide_eq_true_eq] at h0; omega) (fun _ => condB_of (fun h0 => ?_) (fun h0 => ?_))
  ·simp only [decide_eq_true_eq] at h0
   exact fin _ (by rw [hwrap h0, if_pos h0])
  ·simp only [decide_eq_false_iff_not] at h0
   exact fin _ (by rw [if_neg h0])
 ·have hz : corruptZ D k = 1 := by simp [corruptZ, hf, hg1, hg2]
  refine condB_of (fun _ => ?_) (fun h0 => by simp at h0)
  refine ⟨G, by rw [hz], hx8.upd, ?_, fun x hx => .inl hx⟩
  have hD : corruptD D k a y = D := by simp [corruptD, hf, hg1, hg2]
  rw [hD]; exact h8
end Go.Proofs.YtkolafpgbhpdlaaGreat
namespace Go.Proofs.YtkolafpgbhpdlaaGreat
open Go Go.Vc
structure Step (F F' : Nat → Prop) (w w' : World) : Prop where
 upd : Upd F w w'
 grow : ∀ x, F' x → F x ∨ w.heap.size ≤ x
theorem Step.refl (F : Nat → Prop) (w : World) : Step F F w w := ⟨Upd.refl _ _, fun _ h => .inl h⟩
theorem Step.ext {F : Nat → Prop} {w w' : World} (h : Ext w w') : Step F F w w' := ⟨h.upd, fun _ h => .inl h⟩
theorem Step.trans {F F' F'' : Nat → Prop} {w w' w'' : World} (h : Step F F' w w') (h' : Step F' F'' w' w'') : Step F F'' w w'' := by
 refine ⟨Upd.trans h.upd h'.upd fun x hx hF => ?_, fun x hx => ?_⟩
 ·rcases h.grow x hF with h | h
  ·exact h
  ·omega
 ·rcases h'.grow x hx with h1 | h1
  ·exact h.grow x h1
  ·exact .inr (Nat.le_trans h.upd.size h1)
theorem Step.apart {F F' : Nat → Prop} {w w' : World} (h : Step F F' w w') {x : Nat} (hx : x < w.heap.size) (hF : ¬ F x) : ¬ F' x := fun h' => by
 rcases h.grow x h' with h1 | h1
 ·exact hF h1
 ·omega
end Go.Proofs.YtkolafpgbhpdlaaGreat
namespace Go.Proofs.YtkolafpgbhpdlaaGreat
open Go Go.Vc
theorem ins_mem {k : Int} {x : List UInt8} {L : SM} {y : Int × List UInt8} (h : y ∈ ins k x L) : y = (k, x) ∨ y ∈ L := by
 have := (ins_perm k x L).mem_iff.1 h
 rcases List.mem_cons.1 this with h | h
 ·exact .inl h
 ·exact .inr (List.mem_filter.1 h).1
theorem faultZ_ok {dead : Bool} {s k : Int} (h : faultZ dead s k = 0) : dead = false ∧ 0 ≤ k ∧ k < s := by
 unfold faultZ at h
 cases dead
 ·simp only [Bool.false_eq_true, if_false] at h
  split at h
  ·omega
  ·rename_i h1
   exact ⟨rfl, by omega, by omega⟩
 ·simp at h
theorem DkOk.new {n : Int} (h : 1 ≤ n ∧ n ≤ 4096) : DkOk ⟨n, [], [], false⟩ := ⟨h, fun x hx => (by cases hx), fun x hx => (by cases hx)⟩
theorem DkOk.write {D : Dk} (h : DkOk D) (k : Int) (bs : List UInt8) : DkOk (writeD D k bs) := by
 unfold writeD
 split
 ·rename_i hz
  refine ⟨h.sec, h.lasts, fun x hx => ?_⟩
  rcases ins_mem hx with rfl | hx
  ·have : faultZ D.dead D.sectors k = 0 := by
    unfold writeZ at hz
    split at hz
    ·exact hz
    ·rename_i h; simpa using h
   exact (faultZ_ok this).2
  ·exact h.waits x hx
 ·exact h
theorem DkOk.empty {D : Dk} (h : DkOk D) (dd : Bool) : DkOk { D with dead := dd, lasts := [], waits := [] } := ⟨h.sec, fun x hx => (by cases hx), fun x hx => (by cases hx)⟩
theorem get_mem {k : Int} {bs : List UInt8} : ∀ {L : SM}, get k L = some bs → (k, bs) ∈ L
 | [], h => by cases h
 | (k', x) :: L, h => by
  unfold Vc.get at h
  split at h
  ·rename_i he; subst he; cases h; exact List.mem_cons_self
  ·exact List.mem_cons_of_mem _ (get_mem h)
theorem DkOk.corrupt {D : Dk} (h : DkOk D) (k a : Int) (y : UInt8) : DkOk (corruptD D k a y) := by
 unfold corruptD
 split
 ·exact h
 ·split
  ·rename_i bs hg
   refine ⟨h.sec, h.lasts, fun x hx => ?_⟩
   rcases ins_mem hx with rfl | hx
   ·exact h.waits (k, bs) (get_mem hg)
   ·exact h.waits x hx
  ·split
   ·rename_i bs hg
    refine ⟨h.sec, fun x hx => ?_, h.waits⟩
    rcases ins_mem hx with rfl | hx
    ·exact h.lasts (k, bs) (get_mem hg)
    ·exact h.lasts x hx
   ·exact h
structure Dsk (w : World) (b : Nat) (D : Dk) (F : Nat → Prop) : Prop where
 is : ∃ m1 m2 G, IsDisk w b m1 m2 D G ∧ F = Foot b m1 m2 G
 ok : DkOk D
theorem Dsk.lt {w : World} {b : Nat} {D : Dk} {F : Nat → Prop} (h : Dsk w b D F) : ∀ x, F x → x < w.heap.size := by
 obtain ⟨⟨m1, m2, G, hd, rfl⟩, _⟩ := h
 exact hd.foot
theorem Dsk.upd {S : Nat → Prop} {w w' : World} {b : Nat} {D : Dk} {F : Nat → Prop} (h : Dsk w b D F) (hu : Upd S w w') (hS : ∀ x, S x → ¬ F x) : Dsk w' b D F := by
 obtain ⟨⟨m1, m2, G, hd, rfl⟩, hk⟩ := h
 exact ⟨⟨m1, m2, G, hd.upd hu hS, rfl⟩, hk⟩
theorem Dsk.ext {w w' : World} {b : Nat} {D : Dk} {F : Nat → Prop} (h : Dsk w b D F) (hu : Ext w w') : Dsk w' b D F := h.upd hu fun _ h => h.elim
theorem core_foot {b m1 m2 : Nat} {G : Nat → Prop} (x : Nat) (h : Core b m1 m2 x) : Foot b m1 m2 G x := by
 rcases h with h | h | h
 ·exact .inl h
 ·exact .inr (.inl h)
 ·exact .inr (.inr (.inl h))
theorem grows_step {b m1 m2 : Nat} {G G' : Nat → Prop} {w w' : World} (hu : Upd (Core b m1 m2) w w') (h : Grows G G' w w') : Step (Foot b m1 m2 G) (Foot b m1 m2 G') w w' := by
 refine ⟨hu.mono fun x _ hx => core_foot x hx, ?_⟩
 rintro x (hx | hx | hx | hx)
 ·exact .inl (.inl hx)
 ·exact .inl (.inr (.inl hx))
 ·exact .inl (.inr (.inr (.inl hx)))
 ·rcases h x hx with h | h
  ·exact .inl (.inr (.inr (.inr h)))
  ·exact .inr h.1
section
variable {w : World} {b : Nat} {D : Dk} {F : Nat → Prop}
theorem d_new {n : Int} (h : 1 ≤ n ∧ n ≤ 4096) (w : World) : Calls Tryz.prog 31 #[.int .i64 n] w fun e w' => ∃ b F, e = .returned (.tuple #[.pointer (some (at0 b)), .int .i64 0]) ∧ Ext w w' ∧
  Dsk w' b ⟨n, [], [], false⟩ F ∧ ∀ x, F x → w.heap.size ≤ x := by
 refine (new_good h w).mono ?_
 rintro e w' ⟨b, m1, m2, rfl, hx, hd, h1, h2, h3⟩
 refine ⟨b, _, rfl, hx, ⟨⟨m1, m2, _, hd, rfl⟩, DkOk.new h⟩, ?_⟩
 rintro x (rfl | rfl | rfl | hx)
 ·exact h1
 ·exact h2
 ·exact h3
 ·exact hx.elim
theorem d_dead (h : Dsk w b D F) : Calls Tryz.prog 95 #[.pointer (some (at0 b))] w fun e w' => e = .returned (.bool D.dead) ∧ w' = w := by
 obtain ⟨⟨m1, m2, G, hd, rfl⟩, _⟩ := h
 exact dead_spec hd
theorem d_lasts (h : Dsk w b D F) : Calls Tryz.prog 48 #[.pointer (some (at0 b))] w fun e w' => ∃ p l c, e = .returned (.slice p l c) ∧ Ext w w' ∧ Dsk w' b D F ∧ HeldS w' w.heap.size p l c D.lasts := by
 have h0 := h
 obtain ⟨⟨m1, m2, G, hd, rfl⟩, hk⟩ := h
 refine (lasts_spec hd hk).mono ?_
 rintro e w' ⟨p, l, c, rfl, hx, hh⟩
 exact ⟨p, l, c, rfl, hx, h0.ext hx, hh⟩
theorem d_waits (h : Dsk w b D F) : Calls Tryz.prog 47 #[.pointer (some (at0 b))] w fun e w' => ∃ p l c, e = .returned (.slice p l c) ∧ Ext w w' ∧ Dsk w' b D F ∧ HeldS w' w.heap.size p l c D.waits := by
 have h0 := h
 obtain ⟨⟨m1, m2, G, hd, rfl⟩, hk⟩ := h
 refine (waits_spec hd hk).mono ?_
 rintro e w' ⟨p, l, c, rfl, hx, hh⟩
 exact ⟨p, l, c, rfl, hx, h0.ext hx, hh⟩
theorem d_read (h : Dsk w b D F) (k : Int) : Calls Tryz.prog 96 #[.pointer (some (at0 b)), .int .i64 k] w fun e w' => Ext w w' ∧ Dsk w' b D F ∧
  ∃ p l c bs, e = .returned (.tuple #[.slice p l c, .int .i64 (faultZ D.dead D.sectors k)]) ∧ bs = (if faultZ D.dead D.sectors k = 0 then readD D k else []) ∧ l = bs.length ∧
   OwnS w' w.heap.size 5 1 p l c (encB bs) ∧ l ≤ 4108 := by
 have h0 := h
 obtain ⟨⟨m1, m2, G, hd, rfl⟩, hk⟩ := h
 refine (read_spec hd k).mono ?_
 rintro e w' ⟨hx, hh⟩
 exact ⟨hx, h0.ext hx, hh⟩
theorem d_write (h : Dsk w b D F) (k : Int) {p : Option Addr} {l c : Nat} {bs : List UInt8} (hb : BytesAt w p l bs) :
  Calls Tryz.prog 108 #[.pointer (some (at0 b)), .int .i64 k, .slice p l c] w fun e w' => ∃ F', e = .returned (.int .i64 (writeZ D k bs.length)) ∧ Step F F' w w' ∧ Dsk w' b (writeD D k bs) F' := by
 obtain ⟨⟨m1, m2, G, hd, rfl⟩, hk⟩ := h
 refine (write_spec hd k hb).mono ?_
 rintro e w' ⟨G', rfl, hu, hd', hg⟩
 exact ⟨_, rfl, grows_step (hu.mono fun x _ hx => .inr (.inr hx)) hg, ⟨m1, m2, G', hd', rfl⟩, hk.write k bs⟩
theorem d_fail (h : Dsk w b D F) : Calls Tryz.prog 44 #[.pointer (some (at0 b))] w fun e w' => e = .returned (.tuple #[]) ∧ Step F F w w' ∧ Dsk w' b { D with dead := true, lasts := [], waits := [] } F := by
 obtain ⟨⟨m1, m2, G, hd, rfl⟩, hk⟩ := h
 refine (fail_spec hd).mono ?_
 rintro e w' ⟨rfl, hu, hd'⟩
 exact ⟨rfl, grows_step hu fun _ h => .inl h, ⟨m1, m2, G, hd', rfl⟩, hk.empty true⟩
theorem d_replace (h : Dsk w b D F) : Calls Tryz.prog 45 #[.pointer (some (at0 b))] w fun e w' => e = .returned (.tuple #[]) ∧ Step F F w w' ∧ Dsk w' b { D with dead := false, lasts := [], waits := [] } F := by
 obtain ⟨⟨m1, m2, G, hd, rfl⟩, hk⟩ := h
 refine (replace_spec hd).mono ?_
 rintro e w' ⟨rfl, hu, hd'⟩
 exact ⟨rfl, grows_step hu fun _ h => .inl h, ⟨m1, m2, G, hd', rfl⟩, hk.empty false⟩
theorem d_corrupt (h : Dsk w b D F) (k a : Int) (y : UInt8) (ha : -9223372036854775808 ≤ a ∧ a ≤ 9223372036854775807) :
  Calls Tryz.prog 46 #[.pointer (some (at0 b)), .int .i64 k, .int .i64 a, .int .u8 (y.toNat : Int)] w fun e w' => ∃ F', e = .returned (.int .i64 (corruptZ D k)) ∧ Step F F' w w' ∧ Dsk w' b (corruptD D k a y) F' := by
 obtain ⟨⟨m1, m2, G, hd, rfl⟩, hk⟩ := h
 refine (corrupt_spec hd k a y ha).mono ?_
 rintro e w' ⟨G', rfl, hu, hd', hg⟩
 exact ⟨_, rfl, grows_step hu hg, ⟨m1, m2, G', hd', rfl⟩, hk.corrupt k a y⟩
end
end Go.Proofs.YtkolafpgbhpdlaaGreat
namespace Go.Proofs.YtkolafpgbhpdlaaGreat
open Go Go.Vc
theorem BytesAt.one {w : World} {k : Nat} {b : UInt8} {fz : Nat × Nat} (h : w.heap[k]? = some (.cells #[.int .u8 (b.toNat : Int)] 5 fz)) : BytesAt w (some (at0 k)) 1 [b] := by
 have : CellsAt w (some (at0 k)) (encB [b]) := by
  intro j u hj
  refine ⟨_, rfl, ?_⟩
  match j, hj with
  | 0, hj => cases hj; simp [World.cell?, Addr.add, h]
 exact BytesAt.of_cells this
theorem HeldS.step {F F' : Nat → Prop} {w w' : World} {base : Nat} {p : Option Addr} {l c : Nat} {L : SM} (h : HeldS w base p l c L) (hs : Step F F' w w') (hF : ∀ x, F x → x < base) : HeldS w' base p l c L :=
 h.upd hs.upd fun y hy _ h' => by have := hF y h'; omega
end Go.Proofs.YtkolafpgbhpdlaaGreat
