import Derived.Test.YtnfcfbljdibinaaGa
import Derived.Test.YtnfcfbljdibinaaRepM
import Derived.Test.YtnfcfbljdibinaaRepS
import Derived.Maps.Own
import Derived.Lib.SlKeysI
import Derived.Test.YtnfcfbljdibinaaRep
/- The small functions of bytes, and why a sector is not read or written. -/
namespace Go.Proofs.Ytnfcfbljdibinaa
open Go.Vc

theorem getD_inj {xs ys : List UInt8} (i : Nat) : ((xs.getD i 0).toNat : Int) = ((ys.getD i 0).toNat : Int) ↔ xs.getD i 0 = ys.getD i 0 := by
  constructor
  · intro h; exact UInt8.toNat_inj.1 (by omega)
  · intro h; rw [h]

theorem fault_nil (n : Int) (w : World) : Calls Try.prog 82 #[.pointer none, .int .i64 n] w fun e w' => e = .returned (.int .i64 1) ∧ w' = w :=
  (F82_calls none n w (fun v w' => v = .int .i64 1 ∧ w' = w) ⟨rfl, rfl⟩).mono (by rintro e w' ⟨v, rfl, rfl, h⟩; exact ⟨rfl, h⟩)

/-- why a sector is not read or written -/
def faultZ (dead : Bool) (sectors n : Int) : Int := if dead then 120 else if n < 0 ∨ sectors ≤ n then 121 else 0

theorem fault_spec {b : Nat} {n sectors : Int} {r1 r2 : Option Nat} {dead : Bool} {w : World} (h : RowW w b #[.int .i64 sectors, .map r1, .map r2, .bool dead]) :
    Calls Try.prog 82 #[.pointer (some (at0 b)), .int .i64 n] w fun e w' => e = .returned (.int .i64 (faultZ dead sectors n)) ∧ w' = w := by
  refine (F82_calls (some (at0 b)) n w (fun v w' => v = .int .i64 (faultZ dead sectors n) ∧ w' = w) ?_).mono (by rintro e w' ⟨v, rfl, rfl, h⟩; exact ⟨rfl, h⟩)
  refine ⟨dead, h.row.cell rfl, ?_⟩
  unfold faultZ
  refine condB_of (fun hd => ?_) (fun hd => ?_)
  · simp [hd]
  · refine condB_of (fun h1 => ?_) (fun h1 => ?_)
    · simp only [decide_eq_true_eq] at h1
      simp [hd, h1]
    · simp only [decide_eq_false_iff_not] at h1
      refine ⟨sectors, h.row.cell rfl, condB_of (fun h2 => ?_) (fun h2 => ?_)⟩
      · simp only [decide_eq_true_eq] at h2
        simp [hd, h2]
      · simp only [decide_eq_false_iff_not] at h2
        simp [hd, h1, h2]
end Go.Proofs.Ytnfcfbljdibinaa

/- Slices of ints: is a number there? -/
namespace Go.Proofs.Ytnfcfbljdibinaa
open Go.Vc

/-! ## a slice of ints -/

def IntsAt (w : World) (p : Option Addr) (n : Nat) (xs : List Int) : Prop := n = xs.length ∧ CellsAt w p (xs.map fun x => .int .i64 x)

theorem IntsAt.ext {w w' : World} {p : Option Addr} {n : Nat} {xs : List Int} (h : IntsAt w p n xs) (hu : Ext w w') : IntsAt w' p n xs := ⟨h.1, h.2.ext hu⟩
theorem IntsAt.get {w : World} {p : Option Addr} {n : Nat} {xs : List Int} (h : IntsAt w p n xs) {i : Nat} (hi : i < n) : ∃ a, p = some a ∧ w.cell? (a.add i) = some (.int .i64 (xs.getD i 0)) := by
  have hlt : i < xs.length := by rw [← h.1]; exact hi
  obtain ⟨a, ha, hc⟩ := h.2 i (.int .i64 xs[i]) (by simp [hlt])
  exact ⟨a, ha, by rw [hc]; simp [List.getD_eq_getElem?_getD, hlt]⟩

theorem index_spec {p : Option Addr} {l c : Nat} {x : Int} {w : World} {xs : List Int} (h : IntsAt w p l xs) (hm : l ≤ 9223372036854775807) :
    Calls Try.prog 93 #[.slice p l c, .int .i64 x] w fun e w' => ∃ i : Int, e = .returned (.int .i64 i) ∧ (0 ≤ i ↔ x ∈ xs) ∧ w' = w := by
  have hl := h.1
  refine (F93_calls p l c x w (fun v w' => ∃ i : Int, v = .int .i64 i ∧ (0 ≤ i ↔ x ∈ xs) ∧ w' = w)
    (fun _ _ i w1 => 0 ≤ i ∧ i ≤ l ∧ w1 = w ∧ ∀ j : Nat, (j : Int) < i → xs.getD j 0 ≠ x) (fun _ _ i _ => (l - i).toNat) ?_).mono (by rintro e w' ⟨v, rfl, i, rfl, h⟩; exact ⟨i, rfl, h⟩)
  refine ⟨⟨by omega, by omega, rfl, fun j hj => by omega⟩, ?_⟩
  rintro i w5 ⟨hi0, hi1, rfl, hall⟩
  intros
  refine condB_of (fun ht => ?_) (fun ht => ?_)
  · simp only [decide_eq_true_eq] at ht
    refine ⟨⟨hi0, ht⟩, ?_⟩
    obtain ⟨a, rfl, ha⟩ := h.get (i := i.toNat) (by omega)
    refine ⟨_, by rw [Nat.mul_one]; exact ha, ?_⟩
    refine condB_of (fun he => ?_) (fun he => ?_)
    · simp only [decide_eq_true_eq] at he
      refine ⟨i, rfl, ⟨fun _ => ?_, fun _ => hi0⟩, rfl⟩
      rw [he, List.getD_eq_getElem?_getD, List.getElem?_eq_getElem (by omega)]
      exact List.getElem_mem _
    · simp only [decide_eq_false_iff_not] at he
      rw [w64 (by omega)]
      refine ⟨⟨by omega, by omega, rfl, fun j hj => ?_⟩, by show ((l : Int) - (i + 1)).toNat < ((l : Int) - i).toNat; omega⟩
      by_cases h2 : (j : Int) < i
      · exact hall j h2
      · have : j = i.toNat := by omega
        rw [this]; exact Ne.symm he
  · simp only [decide_eq_false_iff_not] at ht
    refine ⟨-1, rfl, ⟨fun h0 => by omega, fun hx => ?_⟩, rfl⟩
    exfalso
    obtain ⟨j, hj, rfl⟩ := List.getElem_of_mem hx
    exact hall j (by omega) (by simp [List.getD_eq_getElem?_getD, hj])

theorem contains_spec {p : Option Addr} {l c : Nat} {x : Int} {w : World} {xs : List Int} (h : IntsAt w p l xs) (hm : l ≤ 9223372036854775807) :
    Calls Try.prog 78 #[.slice p l c, .int .i64 x] w fun e w' => e = .returned (.bool (decide (x ∈ xs))) ∧ w' = w := by
  refine (F78_calls p l c x w (fun v w' => v = .bool (decide (x ∈ xs)) ∧ w' = w) ?_).mono (by rintro e w' ⟨v, rfl, rfl, h⟩; exact ⟨rfl, h⟩)
  refine (index_spec h hm).mono ?_
  rintro e w' ⟨i, rfl, hi, rfl⟩
  refine ⟨i, rfl, ?_, rfl⟩
  simp only [hi]
end Go.Proofs.Ytnfcfbljdibinaa

/- The disk: copies of bytes, membership, and what its small functions do. -/
namespace Go.Proofs.Ytnfcfbljdibinaa
open Go.Vc

theorem elemB : ElemOf Try.prog 48 5 1 1 := ⟨by kernel_rfl, ⟨Try.t5, .int .u8 0, by kernel_rfl, by kernel_rfl, by kernel_rfl, by kernel_rfl, by kernel_rfl⟩, by omega⟩

theorem clone_spec {p : Option Addr} {l c : Nat} {w : World} {bs : List UInt8} (h : BytesAt w p l bs) (hb : l ≤ 1073741824) (hp : p = none → l = 0) :
    Calls Try.prog 84 #[.slice p l c] w fun e w' => ∃ p' c', e = .returned (.slice p' l c') ∧ Ext w w' ∧ OwnS w' w.heap.size 5 1 p' l c' (encB bs) ∧ (p' = none ↔ p = none) := by
  refine (F84_calls p l c w (fun v w' => ∃ p' c', v = .slice p' l c' ∧ Ext w w' ∧ OwnS w' w.heap.size 5 1 p' l c' (encB bs) ∧ (p' = none ↔ p = none)) ?_).mono (by
    rintro e w' ⟨v, rfl, p', c', rfl, h⟩; exact ⟨p', c', rfl, h⟩)
  refine condB_of (fun hn => ?_) (fun hn => ?_)
  · have : p = none := by simpa using hn
    subst this
    obtain rfl := hp rfl
    have hbs : bs = [] := List.eq_nil_of_length_eq_zero h.1.symm
    subst hbs
    exact ⟨none, 0, rfl, Upd.refl _ _, OwnS.nil _ _ _ _, by simp⟩
  · intro k w3 hk
    have hown : OwnS w3 w.heap.size 5 1 (some (at0 k)) 0 0 [] := OwnS.made hk (by rw [hk.size.1]; exact Nat.le_refl _) (Nat.le_refl _) (by unfold maxLen; omega) rfl
    have hl := h.1
    obtain ⟨p', c', w', hr, hown', hu, hnil⟩ := hown.append elemB 48 (q := p) (m := l) (d := c) (news := encB bs) (by rw [encB_length]; omega) ((h.ext hk.ext).cells) hp
      (encB_one bs) (by unfold maxLen; omega) (by omega) (by rw [hk.size.2]; omega)
    rw [Nat.zero_add] at hr hown'
    refine ⟨p', l, c', w', hr, p', c', rfl, ?_, hown', ?_⟩
    · refine Upd.trans hk.ext hu fun x hx hs => ?_
      simp only [Option.some.injEq, at0, Addr.mk.injEq, and_true] at hs
      rw [hk.size.1] at hs
      omega
    · rw [hnil]
      simp only [Option.isNone_eq_false_iff] at hn
      have : p ≠ none := by rintro rfl; simp at hn
      simp [this]

/-! ## what a disk is -/

structure Dk where
  sectors : Int
  lasts : SM
  waits : SM
  dead : Bool

/-- a value of a disk's map -/
def SliceVal (G : Nat → Prop) (w : World) (v : Value) (bs : List UInt8) : Prop :=
  ∃ p n c, v = .slice p n c ∧ BytesAt w p n bs ∧ bs ≠ [] ∧ n ≤ 4108 ∧ ∀ a, p = some a → G a.block

theorem SliceVal.upd {S G : Nat → Prop} {w w' : World} {v : Value} {bs : List UInt8} (h : SliceVal G w v bs) (hu : Upd S w w') (hS : ∀ x, G x → ¬ S x) : SliceVal G w' v bs := by
  obtain ⟨p, n, c, rfl, hb, hne, hn, hG⟩ := h
  exact ⟨p, n, c, rfl, hb.upd hu (fun a ha _ => hS _ (hG a ha)), hne, hn, hG⟩
theorem SliceVal.mono {G G' : Nat → Prop} {w : World} {v : Value} {bs : List UInt8} (h : SliceVal G w v bs) (hG : ∀ x, G x → G' x) : SliceVal G' w v bs := by
  obtain ⟨p, n, c, rfl, hb, hne, hn, h⟩ := h
  exact ⟨p, n, c, rfl, hb, hne, hn, fun a ha => hG _ (h a ha)⟩

/-- a disk: the block of its fields, of its two maps, and those of its bytes -/
structure IsDisk (w : World) (b m1 m2 : Nat) (D : Dk) (G : Nat → Prop) : Prop where
  row : RowW w b #[.int .i64 D.sectors, .map (some m1), .map (some m2), .bool D.dead]
  lasts : MapOf intK (SliceVal G w) w m1 D.lasts
  waits : MapOf intK (SliceVal G w) w m2 D.waits
  asc1 : Asc D.lasts
  asc2 : Asc D.waits
  ne : b ≠ m1 ∧ b ≠ m2 ∧ m1 ≠ m2
  apart : ∀ x, G x → x ≠ b ∧ x ≠ m1 ∧ x ≠ m2
  bound : ∀ x, G x → x < w.heap.size

/-- all blocks of a disk -/
def Foot (b m1 m2 : Nat) (G : Nat → Prop) : Nat → Prop := fun x => x = b ∨ x = m1 ∨ x = m2 ∨ G x

theorem IsDisk.upd {S : Nat → Prop} {w w' : World} {b m1 m2 : Nat} {D : Dk} {G : Nat → Prop} (h : IsDisk w b m1 m2 D G) (hu : Upd S w w') (hS : ∀ x, S x → ¬ Foot b m1 m2 G x) :
    IsDisk w' b m1 m2 D G := by
  have hG : ∀ x, G x → ¬ S x := fun x hx hs => hS x hs (.inr (.inr (.inr hx)))
  exact ⟨hu.rowW h.row fun hs => hS _ hs (.inl rfl), (h.lasts.upd hu fun hs => hS _ hs (.inr (.inl rfl))).mono fun v x hv => hv.upd hu hG,
    (h.waits.upd hu fun hs => hS _ hs (.inr (.inr (.inl rfl)))).mono fun v x hv => hv.upd hu hG, h.asc1, h.asc2, h.ne, h.apart, fun x hx => Nat.lt_of_lt_of_le (h.bound x hx) hu.size⟩
theorem IsDisk.ext {w w' : World} {b m1 m2 : Nat} {D : Dk} {G : Nat → Prop} (h : IsDisk w b m1 m2 D G) (hu : Ext w w') : IsDisk w' b m1 m2 D G := h.upd hu fun _ h => h.elim
theorem IsDisk.foot {w : World} {b m1 m2 : Nat} {D : Dk} {G : Nat → Prop} (h : IsDisk w b m1 m2 D G) : ∀ x, Foot b m1 m2 G x → x < w.heap.size := by
  rintro x (rfl | rfl | rfl | hx)
  · exact h.row.lt
  · exact h.lasts.lt
  · exact h.waits.lt
  · exact h.bound x hx

theorem dead_nil (w : World) : Calls Try.prog 59 #[.pointer none] w fun e w' => e = .returned (.bool false) ∧ w' = w :=
  (F59_calls none w (fun v w' => v = .bool false ∧ w' = w) ⟨rfl, rfl⟩).mono (by rintro e w' ⟨v, rfl, rfl, h⟩; exact ⟨rfl, h⟩)
theorem dead_spec {w : World} {b m1 m2 : Nat} {D : Dk} {G : Nat → Prop} (h : IsDisk w b m1 m2 D G) :
    Calls Try.prog 59 #[.pointer (some (at0 b))] w fun e w' => e = .returned (.bool D.dead) ∧ w' = w :=
  (F59_calls (some (at0 b)) w (fun v w' => v = .bool D.dead ∧ w' = w) ⟨_, h.row.row.cell rfl, rfl, rfl⟩).mono (by rintro e w' ⟨v, rfl, rfl, h⟩; exact ⟨rfl, h⟩)

theorem mapT : Try.prog.underlying 140 = some (.map 3 48) := by kernel_rfl
theorem intT : Try.prog.underlying 3 = some intK.kd := by kernel_rfl
theorem zeroT : zeroOf Try.prog 48 = some (.slice none 0 0) := by kernel_rfl

theorem empty_nil (dd : Bool) (w : World) : Calls Try.prog 81 #[.pointer none, .bool dd] w fun e w' => e = .returned (.tuple #[]) ∧ w' = w :=
  (F81_calls none dd w (fun v w' => v = .tuple #[] ∧ w' = w) ⟨rfl, rfl⟩).mono (by rintro e w' ⟨v, rfl, rfl, h⟩; exact ⟨rfl, h⟩)

/-- the blocks of its fields and maps -/
def Core (b m1 m2 : Nat) : Nat → Prop := fun x => x = b ∨ x = m1 ∨ x = m2

theorem empty_spec {w : World} {b m1 m2 : Nat} {D : Dk} {G : Nat → Prop} (h : IsDisk w b m1 m2 D G) (dd : Bool) :
    Calls Try.prog 81 #[.pointer (some (at0 b)), .bool dd] w fun e w' => e = .returned (.tuple #[]) ∧ Upd (Core b m1 m2) w w' ∧ IsDisk w' b m1 m2 { D with dead := dd, lasts := [], waits := [] } G := by
  refine (F81_calls (some (at0 b)) dd w (fun v w' => v = .tuple #[] ∧ Upd (Core b m1 m2) w w' ∧ IsDisk w' b m1 m2 { D with dead := dd, lasts := [], waits := [] } G) ?_).mono (by
    rintro e w' ⟨v, rfl, rfl, h⟩; exact ⟨rfl, h⟩)
  obtain ⟨n1, n2, n3⟩ := h.ne
  refine ⟨h.row.live (n := 3) (by simp), fun w4 hs => ?_⟩
  have hu4 : Upd (fun x => x = b) w w4 := by have := hs.upd; rw [add_at0] at this; exact this
  have r4 : RowW w4 b #[.int .i64 D.sectors, .map (some m1), .map (some m2), .bool dd] := hs.row h.row
  refine ⟨_, r4.row.cell rfl, ?_⟩
  obtain ⟨w7, hr7, hu7, _, hm7⟩ := MapOf.clear (P := Try.prog) (ty := 0) (h.lasts.upd hu4 (Ne.symm n1)) mapT
  refine ⟨_, w7, hr7, ?_⟩
  have r7 := hu7.rowW r4 n1
  refine ⟨_, r7.row.cell rfl, ?_⟩
  obtain ⟨w11, hr11, hu11, _, hm11⟩ := MapOf.clear (P := Try.prog) (ty := 0) ((h.waits.upd hu4 (Ne.symm n2)).upd hu7 (Ne.symm n3)) mapT
  refine ⟨_, w11, hr11, rfl, ?_, ?_⟩
  · refine Upd.trans (Upd.trans (S := Core b m1 m2) (hu4.mono fun x _ hx => .inl hx) hu7 fun x _ hx => .inr (.inl hx)) hu11 fun x _ hx => .inr (.inr hx)
  · refine ⟨hu11.rowW r7 n2, ?_, ?_, .nil, .nil, h.ne, h.apart, fun x hx => Nat.lt_of_lt_of_le (h.bound x hx) (Nat.le_trans hu4.size (Nat.le_trans hu7.size hu11.size))⟩
    · exact (hm7.upd hu11 n3).empty
    · exact hm11.empty
end Go.Proofs.Ytnfcfbljdibinaa

/- The disk: a map copied into another one; flushing, crashing, writing, reading, corrupting. -/
namespace Go.Proofs.Ytnfcfbljdibinaa
open Go.Vc

theorem copy_spec {V : Value → List UInt8 → Prop} (hV : ∀ v x, V v x → ∃ p n c, v = .slice p n c) {w : World} {m1 m2 : Nat} {L W : SM} (h1 : MapOf intK V w m1 L) (h2 : MapOf intK V w m2 W) (hne : m1 ≠ m2) :
    Calls Try.prog 79 #[.map (some m1), .map (some m2)] w fun e w' => e = .returned (.tuple #[]) ∧ Upd (fun x => x = m1) w w' ∧ MapOf intK V w' m1 (over L W) := by
  refine (F79_calls (some m1) (some m2) w (fun v w' => v = .tuple #[] ∧ Upd (fun x => x = m1) w w' ∧ MapOf intK V w' m1 (over L W))
    (fun it _ w8 => ∃ k dn rest, it = some (at0 k) ∧ (dn ++ rest).Perm W ∧ ItOf intK V w8 k m2 W rest ∧ MapOf intK V w8 m1 (over L dn) ∧ Upd (fun x => x = m1) w w8 ∧ w.heap.size ≤ k)
    (fun it _ w8 => leftIt w8 it m2) ?_).mono (by rintro e w' ⟨v, rfl, rfl, h⟩; exact ⟨rfl, h⟩)
  obtain ⟨es, c, l, hm, hok, hp⟩ := id h2
  refine ⟨es, c, hm, fun k w6 hk => ⟨⟨k, [], W, rfl, by simp, ItOf.made h2 hm hk, ?_, hk.ext.upd, ?_⟩, ?_⟩⟩
  · rw [over_nil]; exact h1.upd hk.ext id
  · rw [hk.size.1]; exact Nat.le_refl _
  · rintro w8 ⟨k', dn, rest, hkk, hperm, hit, hdst, hu, hks⟩
    simp only [Option.some.injEq, at0, Addr.mk.injEq, _root_.and_true] at hkk
    subst hkk
    intros
    have hkm : k ≠ m1 := by have := h1.lt; omega
    refine hit.next ?_ ?_
    · intro kk x v rest' w21 hperm' hu21 hs21 hat
      obtain ⟨hv, hin⟩ := hat.entry
      obtain ⟨p, n, c', rfl⟩ := hV v x hv
      refine ⟨kk, p, n, c', hat.entryAt, ?_⟩
      have hdst21 := hdst.upd hu21 (Ne.symm hkm)
      obtain ⟨w25, hr25, hu25, hs25, hm25⟩ := hdst21.update mapT intT kk hv
      refine ⟨w25, hr25, ⟨k, dn ++ [(kk, x)], rest', rfl, ?_, (hat.toIt.upd hu25 hkm (Ne.symm hne)), ?_, ?_, hks⟩, ?_⟩
      · refine List.Perm.trans ?_ hperm
        rw [List.append_assoc]
        exact (hperm'.symm).append_left dn
      · have hnd : kk ∉ dn.map (·.1) := by
          have hW := h2.nodup
          have := ((hperm.map (·.1)).nodup_iff).2 hW
          rw [List.map_append, List.nodup_append] at this
          intro hmem
          exact this.2.2 kk hmem kk ((hperm'.map (·.1)).mem_iff.2 (by simp)) rfl
        exact hm25.perm ((over_step hnd).trans (over_perm (List.perm_append_singleton _ _).symm))
      · have hu21' : Upd (fun x => x = m1) w w21 := Upd.trans hu hu21 fun y hy hyk => by omega
        exact Upd.trans hu21' hu25 fun _ _ h => h
      · show leftIt w25 (some (at0 k)) m2 < leftIt w8 (some (at0 k)) m2
        rw [(hat.toIt.upd hu25 hkm (Ne.symm hne)).left, hit.left, hperm'.length_eq]
        simp
    · rintro rfl w22 hq
      rw [List.append_nil] at hperm
      refine ⟨rfl, Upd.trans hu hq.ext (fun _ _ h => h.elim), (hdst.upd hq.ext id).perm (over_perm hperm)⟩

theorem SliceVal.slice {G : Nat → Prop} {w : World} {v : Value} {x : List UInt8} (h : SliceVal G w v x) : ∃ p n c, v = .slice p n c := by
  obtain ⟨p, n, c, rfl, _⟩ := h
  exact ⟨p, n, c, rfl⟩

/-- what waited lasts, and nothing waits: the two steps with which a flush and a crash end -/
theorem settle {w : World} {b m1 m2 : Nat} {D : Dk} {G : Nat → Prop} (h : IsDisk w b m1 m2 D G) {R : World → Prop}
    (hR : ∀ w', Upd (Core b m1 m2) w w' → IsDisk w' b m1 m2 { D with lasts := mrg D.lasts D.waits, waits := [] } G → R w') :
    Calls Try.prog 79 #[.map (some m1), .map (some m2)] w fun e w' => e = .returned (.tuple #[]) ∧
      ∃ r, w'.cell? ((at0 b).add 2) = some (.map r) ∧ ∃ v w'', Sem.run Try.prog (Builtin.clear_ #[140] 0 #[.map r]) w' = .ok v w'' ∧ R w'' := by
  obtain ⟨n1, n2, n3⟩ := h.ne
  refine (copy_spec (fun _ _ hv => hv.slice) h.lasts h.waits n3).mono ?_
  rintro e w1 ⟨rfl, hu1, hm1⟩
  have hr1 := hu1.rowW h.row n1
  refine ⟨rfl, _, hr1.row.cell rfl, ?_⟩
  have hG : ∀ x, G x → ¬ (x = m1) := fun x hx => (h.apart x hx).2.1
  obtain ⟨w2, hr2, hu2, _, hm2⟩ := MapOf.clear (P := Try.prog) (ty := 0) (h.waits.upd hu1 (Ne.symm n3)) mapT
  refine ⟨_, w2, hr2, hR w2 ?_ ?_⟩
  · exact Upd.trans (hu1.mono fun x _ hx => .inr (.inl hx)) hu2 fun x _ hx => .inr (.inr hx)
  · have hG2 : ∀ x, G x → ¬ (x = m2) := fun x hx => (h.apart x hx).2.2
    refine ⟨hu2.rowW hr1 n2, ?_, hm2.empty, mrg_asc h.asc1, .nil, h.ne, h.apart, fun x hx => Nat.lt_of_lt_of_le (h.bound x hx) (Nat.le_trans hu1.size hu2.size)⟩
    have := (hm1.perm (mrg_perm h.asc2.nodup).symm).upd hu2 n3
    exact this.mono fun v x hv => (hv.upd hu1 hG).upd hu2 hG2

theorem flush_nil (w : World) : Calls Try.prog 71 #[.pointer none] w fun e w' => e = .returned (.int .i64 1) ∧ w' = w := by
  refine (F71_calls none w (fun v w' => v = .int .i64 1 ∧ w' = w) ?_).mono (by rintro e w' ⟨v, rfl, rfl, h⟩; exact ⟨rfl, h⟩)
  refine (fault_nil 0 w).mono ?_
  rintro e w2 ⟨rfl, rfl⟩
  exact ⟨1, rfl, condB_of (fun _ => ⟨rfl, rfl⟩) (fun h => by simp at h)⟩

def flushD (D : Dk) : Dk := if D.dead then D else { D with lasts := mrg D.lasts D.waits, waits := [] }

theorem flush_spec {w : World} {b m1 m2 : Nat} {D : Dk} {G : Nat → Prop} (h : IsDisk w b m1 m2 D G) (hs : 1 ≤ D.sectors) :
    Calls Try.prog 71 #[.pointer (some (at0 b))] w fun e w' => e = .returned (.int .i64 (if D.dead then 120 else 0)) ∧ Upd (Core b m1 m2) w w' ∧ IsDisk w' b m1 m2 (flushD D) G := by
  refine (F71_calls (some (at0 b)) w (fun v w' => v = .int .i64 (if D.dead then 120 else 0) ∧ Upd (Core b m1 m2) w w' ∧ IsDisk w' b m1 m2 (flushD D) G) ?_).mono (by
    rintro e w' ⟨v, rfl, rfl, h⟩; exact ⟨rfl, h⟩)
  refine (fault_spec h.row).mono ?_
  rintro e w2 ⟨rfl, rfl⟩
  refine ⟨_, rfl, ?_⟩
  cases hd : D.dead with
  | true =>
    refine condB_of (fun _ => ?_) (fun hf => by simp [faultZ] at hf)
    exact ⟨by simp [faultZ], Upd.refl _ _, by simp [flushD, hd, h]⟩
  | false =>
    refine condB_of (fun hf => by simp [faultZ] at hf; omega) (fun _ => ?_)
    intro w5 hw5
    have h5 := h.ext hw5.ext
    refine ⟨_, h5.row.row.cell rfl, _, h5.row.row.cell rfl, ?_⟩
    refine (settle h5 (R := fun w'' => Value.int .i64 0 = .int .i64 (if false = true then 120 else 0) ∧ Upd (Core b m1 m2) w2 w'' ∧ IsDisk w'' b m1 m2 (flushD D) G) ?_).mono (fun _ _ h => h)
    intro w' hu hD
    exact ⟨rfl, Upd.trans hw5.ext.upd hu fun _ _ h => h, by simpa [flushD, hd] using hD⟩
end Go.Proofs.Ytnfcfbljdibinaa

/- The disk: crashing, reading, writing, making. -/
namespace Go.Proofs.Ytnfcfbljdibinaa
open Go.Vc

theorem crash_nil (p : Option Addr) (l c : Nat) (w : World) : Calls Try.prog 51 #[.pointer none, .slice p l c] w fun e w' => e = .returned (.tuple #[]) ∧ w' = w := by
  refine (F51_calls none p l c w (fun v w' => v = .tuple #[] ∧ w' = w) (fun _ _ _ => False) (fun _ _ _ => 0) ?_).mono (by rintro e w' ⟨v, rfl, rfl, h⟩; exact ⟨rfl, h⟩)
  exact ⟨rfl, rfl⟩

/-- what a crash leaves -/
def crashD (D : Dk) (ks : List Int) : Dk := { D with lasts := mrg D.lasts (D.waits.filter fun y => decide (y.1 ∈ ks)), waits := [] }

theorem crash_spec {w : World} {b m1 m2 : Nat} {D : Dk} {G : Nat → Prop} (h : IsDisk w b m1 m2 D G) {p : Option Addr} {l c : Nat} {ks : List Int} (hk : IntsAt w p l ks) (hl : l ≤ 9223372036854775807)
    (hp : ∀ a, p = some a → ks ≠ [] → a.block ≠ m2) :
    Calls Try.prog 51 #[.pointer (some (at0 b)), .slice p l c] w fun e w' => e = .returned (.tuple #[]) ∧ Upd (Core b m1 m2) w w' ∧ IsDisk w' b m1 m2 (crashD D ks) G := by
  obtain ⟨n1, n2, n3⟩ := h.ne
  have hGm : ∀ x, G x → x ≠ m2 := fun x hx => (h.apart x hx).2.2
  refine (F51_calls (some (at0 b)) p l c w (fun v w' => v = .tuple #[] ∧ Upd (Core b m1 m2) w w' ∧ IsDisk w' b m1 m2 (crashD D ks) G)
    (fun it _ w8 => ∃ k dn rest, it = some (at0 k) ∧ (dn ++ rest).Perm D.waits ∧ ItOf intK (SliceVal G w) w8 k m2 (D.waits.filter fun y => decide (y.1 ∈ ks ∨ y.1 ∉ dn.map (·.1))) rest ∧ Upd (fun x => x = m2) w w8 ∧ w.heap.size ≤ k)
    (fun it _ w8 => leftIt w8 it m2) ?_).mono (by rintro e w' ⟨v, rfl, rfl, h⟩; exact ⟨rfl, h⟩)
  have hW := h.waits
  obtain ⟨es, c0, l0, hm, hok, hperm0⟩ := id hW
  refine ⟨_, h.row.row.cell rfl, es, c0, hm, fun k w8 hn => ⟨⟨k, [], D.waits, rfl, by simp, ?_, hn.ext.upd, by rw [hn.size.1]; exact Nat.le_refl _⟩, ?_⟩⟩
  · have : (D.waits.filter fun y => decide (y.1 ∈ ks ∨ y.1 ∉ ([] : SM).map (·.1))) = D.waits := by
      rw [List.filter_eq_self]; intro y _; simp
    rw [this]
    exact ItOf.made hW hm hn
  · rintro w10 ⟨k', dn, rest, hkk, hperm, hit, hu, hks⟩
    simp only [Option.some.injEq, at0, Addr.mk.injEq, _root_.and_true] at hkk
    subst hkk
    intros
    have hnodup : ((dn ++ rest).map (·.1)).Nodup := ((hperm.map (·.1)).nodup_iff).2 hW.nodup
    refine hit.next ?_ ?_
    · intro kk x v rest' w27 hperm' hu27 hs27 hat
      refine ⟨kk, v, hat.entryAt, ?_⟩
      have hu27' : Upd (fun x => x = m2) w w27 := Upd.trans hu hu27 fun y hy hyk => by omega
      have hk27 : IntsAt w27 p l ks := by
        refine ⟨hk.1, hk.2.upd hu27' fun a ha hne hb => ?_⟩
        exact hp a ha (by rintro rfl; exact hne rfl) hb
      refine (contains_spec hk27 hl).mono ?_
      rintro e w31 ⟨rfl, rfl⟩
      have hnd : kk ∉ dn.map (·.1) := by
        rw [List.map_append, List.nodup_append] at hnodup
        intro hmem
        exact hnodup.2.2 kk hmem kk ((hperm'.map (·.1)).mem_iff.2 (by simp)) rfl
      have hperm2 : ((dn ++ [(kk, x)]) ++ rest').Perm D.waits := by
        refine List.Perm.trans ?_ hperm
        rw [List.append_assoc]
        exact (hperm'.symm).append_left dn
      refine ⟨_, rfl, condB_of (fun hc => ?_) (fun hc => ?_)⟩
      · simp only [Bool.not_eq_true', decide_eq_false_iff_not] at hc
        obtain ⟨w36, hr36, hu36, hs36, hit36⟩ := hat.delete (P := Try.prog) (ty := 0) (t2 := 3) mapT intT
        refine ⟨_, (hu27'.rowW h.row n2).row.cell rfl, _, w36, hr36, ⟨k, dn ++ [(kk, x)], rest', rfl, hperm2, ?_, Upd.trans hu27' hu36 fun _ _ h => h, hks⟩, ?_⟩
        · have : del kk (D.waits.filter fun y => decide (y.1 ∈ ks ∨ y.1 ∉ dn.map (·.1))) = D.waits.filter fun y => decide (y.1 ∈ ks ∨ y.1 ∉ (dn ++ [(kk, x)]).map (·.1)) := by
            unfold del
            rw [List.filter_filter]
            apply List.filter_congr
            intro y _
            by_cases hy : y.1 = kk
            · simp [hy, hc]
            · by_cases h1 : y.1 ∈ ks <;> by_cases h2 : y.1 ∈ dn.map (·.1) <;> simp [hy, h1, h2]
          rw [← this]
          exact hit36
        · show leftIt w36 (some (at0 k)) m2 < leftIt w10 (some (at0 k)) m2
          rw [hit36.left, hit.left, hperm'.length_eq]
          simp
      · simp only [Bool.not_eq_false', decide_eq_true_eq] at hc
        refine ⟨⟨k, dn ++ [(kk, x)], rest', rfl, hperm2, ?_, hu27', hks⟩, ?_⟩
        · have : (D.waits.filter fun y => decide (y.1 ∈ ks ∨ y.1 ∉ dn.map (·.1))) = D.waits.filter fun y => decide (y.1 ∈ ks ∨ y.1 ∉ (dn ++ [(kk, x)]).map (·.1)) := by
            apply List.filter_congr
            intro y _
            by_cases hy : y.1 = kk
            · simp [hy, hc]
            · by_cases h1 : y.1 ∈ ks <;> by_cases h2 : y.1 ∈ dn.map (·.1) <;> simp [hy, h1, h2]
          rw [← this]
          exact hat.toIt
        · show leftIt w31 (some (at0 k)) m2 < leftIt w10 (some (at0 k)) m2
          rw [hat.toIt.left, hit.left, hperm'.length_eq]
          simp
    · rintro rfl w28 hq w38 hd
      rw [List.append_nil] at hperm
      have hfin : (D.waits.filter fun y => decide (y.1 ∈ ks ∨ y.1 ∉ dn.map (·.1))) = D.waits.filter fun y => decide (y.1 ∈ ks) := by
        apply List.filter_congr
        intro y hy
        have : y.1 ∈ dn.map (·.1) := (hperm.map (·.1)).mem_iff.2 (List.mem_map.2 ⟨y, hy, rfl⟩)
        simp [this]
      have hx : Ext w10 w38 := (hq.trans hd.quiet).ext
      have hu38 : Upd (fun x => x = m2) w w38 := Upd.trans hu hx fun _ _ h => h.elim
      have hD : IsDisk w38 b m1 m2 { D with waits := D.waits.filter fun y => decide (y.1 ∈ ks) } G := by
        refine ⟨hu38.rowW h.row n2, (h.lasts.upd hu38 n3).mono fun v x hv => hv.upd hu38 hGm, ?_, h.asc1, h.asc2.filter _, h.ne, h.apart, fun x hx => Nat.lt_of_lt_of_le (h.bound x hx) hu38.size⟩
        have := (hit.upd hx id id).map
        rw [hfin] at this
        exact this.mono fun v x hv => hv.upd hu38 hGm
      refine ⟨_, hD.row.row.cell rfl, _, hD.row.row.cell rfl, ?_⟩
      refine (settle hD (R := fun w'' => Value.tuple #[] = .tuple #[] ∧ Upd (Core b m1 m2) w w'' ∧ IsDisk w'' b m1 m2 (crashD D ks) G) ?_).mono (fun _ _ h => h)
      intro w' hu' hD'
      exact ⟨rfl, Upd.trans (hu38.mono fun x _ hx => .inr (.inr hx)) hu' fun _ _ h => h, hD'⟩

/-- what a sector holds, and where -/
theorem at_spec {w : World} {b m1 m2 : Nat} {D : Dk} {G : Nat → Prop} (h : IsDisk w b m1 m2 D G) (k : Int) :
    Calls Try.prog 83 #[.pointer (some (at0 b)), .int .i64 k] w fun e w' => Quiet w w' ∧ ∃ p l c r, e = .returned (.tuple #[.slice p l c, .map (some r)]) ∧
      ((∃ bs, get k D.waits = some bs ∧ SliceVal G w (.slice p l c) bs ∧ r = m2) ∨ (∃ bs, get k D.waits = none ∧ get k D.lasts = some bs ∧ SliceVal G w (.slice p l c) bs ∧ r = m1) ∨
        (get k D.waits = none ∧ get k D.lasts = none ∧ p = none ∧ l = 0 ∧ r = m1)) := by
  refine (F83_calls (some (at0 b)) k w (fun v w' => Quiet w w' ∧ ∃ p l c r, v = .tuple #[.slice p l c, .map (some r)] ∧
      ((∃ bs, get k D.waits = some bs ∧ SliceVal G w (.slice p l c) bs ∧ r = m2) ∨ (∃ bs, get k D.waits = none ∧ get k D.lasts = some bs ∧ SliceVal G w (.slice p l c) bs ∧ r = m1) ∨
        (get k D.waits = none ∧ get k D.lasts = none ∧ p = none ∧ l = 0 ∧ r = m1))) ?_).mono (by
    rintro e w' ⟨v, rfl, hq, p, l, c, r, rfl, h⟩; exact ⟨hq, p, l, c, r, rfl, h⟩)
  refine ⟨_, h.row.row.cell rfl, ?_⟩
  rcases h.waits.lookup mapT intT zeroT k with ⟨bs, v, hg, hv, hm⟩ | ⟨hg, hm⟩
  · obtain ⟨p, l, c, rfl⟩ := hv.slice
    refine ⟨p, l, c, true, hm, fun w7 hd => ?_⟩
    have h7 := h.ext hd.ext
    exact ⟨_, h7.row.row.cell rfl, hd.quiet, p, l, c, m2, rfl, .inl ⟨bs, hg, hv, rfl⟩⟩
  · refine ⟨none, 0, 0, false, hm, fun w10 hd => ?_⟩
    have h10 := h.ext hd.ext
    refine ⟨_, h10.row.row.cell rfl, ?_⟩
    rcases h10.lasts.lookup mapT intT zeroT k with ⟨bs, v, hg', hv, hm'⟩ | ⟨hg', hm'⟩
    · obtain ⟨p, l, c, rfl⟩ := hv.slice
      refine ⟨p, l, c, true, hm', _, h10.row.row.cell rfl, hd.quiet, p, l, c, m1, rfl, .inr (.inl ⟨bs, hg, hg', ?_, rfl⟩)⟩
      exact hv.upd hd.quiet.symm.ext fun _ _ => id
    · exact ⟨none, 0, 0, false, hm', _, h10.row.row.cell rfl, hd.quiet, none, 0, 0, m1, rfl, .inr (.inr ⟨hg, hg', rfl, rfl, rfl⟩)⟩

/-- what is read: of what waits, or of what lasts -/
def readD (D : Dk) (k : Int) : List UInt8 := match get k D.waits with
  | some bs => bs
  | none => match get k D.lasts with
    | some bs => bs
    | none => []

theorem read_nil (k : Int) (w : World) : Calls Try.prog 61 #[.pointer none, .int .i64 k] w fun e w' => e = .returned (.tuple #[.slice none 0 0, .int .i64 1]) ∧ w' = w := by
  refine (F61_calls none k w (fun v w' => v = .tuple #[.slice none 0 0, .int .i64 1] ∧ w' = w) ?_).mono (by rintro e w' ⟨v, rfl, rfl, h⟩; exact ⟨rfl, h⟩)
  refine (fault_nil k w).mono ?_
  rintro e w2 ⟨rfl, rfl⟩
  exact ⟨1, rfl, condB_of (fun _ => ⟨rfl, rfl⟩) (fun h => by simp at h)⟩

theorem read_spec {w : World} {b m1 m2 : Nat} {D : Dk} {G : Nat → Prop} (h : IsDisk w b m1 m2 D G) (k : Int) :
    Calls Try.prog 61 #[.pointer (some (at0 b)), .int .i64 k] w fun e w' => Ext w w' ∧ ∃ p l c bs, e = .returned (.tuple #[.slice p l c, .int .i64 (faultZ D.dead D.sectors k)]) ∧
      bs = (if faultZ D.dead D.sectors k = 0 then readD D k else []) ∧ l = bs.length ∧ OwnS w' w.heap.size 5 1 p l c (encB bs) ∧ l ≤ 4108 := by
  refine (F61_calls (some (at0 b)) k w (fun v w' => Ext w w' ∧ ∃ p l c bs, v = .tuple #[.slice p l c, .int .i64 (faultZ D.dead D.sectors k)] ∧
      bs = (if faultZ D.dead D.sectors k = 0 then readD D k else []) ∧ l = bs.length ∧ OwnS w' w.heap.size 5 1 p l c (encB bs) ∧ l ≤ 4108) ?_).mono (by
    rintro e w' ⟨v, rfl, hx, p, l, c, bs, rfl, h⟩; exact ⟨hx, p, l, c, bs, rfl, h⟩)
  refine (fault_spec h.row).mono ?_
  rintro e w2 ⟨rfl, rfl⟩
  refine ⟨_, rfl, condB_of (fun hf => ?_) (fun hf => ?_)⟩
  · simp only [Bool.not_eq_true', decide_eq_false_iff_not] at hf
    exact ⟨Upd.refl _ _, none, 0, 0, [], rfl, by rw [if_neg hf], rfl, OwnS.nil _ _ _ _, by omega⟩
  · simp only [Bool.not_eq_false', decide_eq_true_eq] at hf
    refine (at_spec h k).mono ?_
    rintro e w6 ⟨hq, p, l, c, r, rfl, hcase⟩
    refine ⟨p, l, c, some r, rfl, ?_⟩
    have hb : ∃ bs, readD D k = bs ∧ BytesAt w2 p l bs ∧ l ≤ 4108 ∧ (p = none → l = 0) := by
      unfold readD
      rcases hcase with ⟨bs, hg, hv, _⟩ | ⟨bs, hg, hg', hv, _⟩ | ⟨hg, hg', rfl, rfl, _⟩
      · obtain ⟨p', n', c', he, hb, hne, hn, _⟩ := hv
        simp only [Value.slice.injEq] at he
        obtain ⟨rfl, rfl, rfl⟩ := he
        refine ⟨bs, by rw [hg], hb, hn, fun e => ?_⟩
        obtain ⟨a, ha, _⟩ := hb.lt hne
        rw [e] at ha; cases ha
      · obtain ⟨p', n', c', he, hb, hne, hn, _⟩ := hv
        simp only [Value.slice.injEq] at he
        obtain ⟨rfl, rfl, rfl⟩ := he
        refine ⟨bs, by rw [hg, hg'], hb, hn, fun e => ?_⟩
        obtain ⟨a, ha, _⟩ := hb.lt hne
        rw [e] at ha; cases ha
      · exact ⟨[], by rw [hg, hg'], BytesAt.nil _ _, by omega, fun _ => rfl⟩
    obtain ⟨bs, hrd, hb, hn, hp⟩ := hb
    refine (clone_spec (hb.ext hq.ext) (by omega) hp).mono ?_
    rintro e w10 ⟨p', c', rfl, hx, hown, _⟩
    refine ⟨p', l, c', rfl, hq.ext.trans hx, p', l, c', bs, by rw [hf], by rw [if_pos hf, hrd], hb.1, ?_, hn⟩
    rw [← hq.heap]; exact hown
end Go.Proofs.Ytnfcfbljdibinaa

/- The disk: writing, corrupting, making. -/
namespace Go.Proofs.Ytnfcfbljdibinaa
open Go.Vc

theorem new_bad {n : Int} (h : n < 1 ∨ 4096 < n) (w : World) : Calls Try.prog 54 #[.int .i64 n] w fun e w' => e = .returned (.tuple #[.pointer none, .int .i64 1]) ∧ w' = w := by
  refine (F54_calls n w (fun v w' => v = .tuple #[.pointer none, .int .i64 1] ∧ w' = w) ?_).mono (by rintro e w' ⟨v, rfl, rfl, h⟩; exact ⟨rfl, h⟩)
  refine condB_of (fun _ => ⟨rfl, rfl⟩) (fun h1 => condB_of (fun _ => ⟨rfl, rfl⟩) (fun h2 => ?_))
  simp only [decide_eq_false_iff_not] at h1 h2
  omega

theorem new_good {n : Int} (h : 1 ≤ n ∧ n ≤ 4096) (w : World) : Calls Try.prog 54 #[.int .i64 n] w fun e w' => ∃ b m1 m2, e = .returned (.tuple #[.pointer (some (at0 b)), .int .i64 0]) ∧ Ext w w' ∧
    IsDisk w' b m1 m2 ⟨n, [], [], false⟩ (fun _ => False) ∧ w.heap.size ≤ b ∧ w.heap.size ≤ m1 ∧ w.heap.size ≤ m2 := by
  refine (F54_calls n w (fun v w' => ∃ b m1 m2, v = .tuple #[.pointer (some (at0 b)), .int .i64 0] ∧ Ext w w' ∧
    IsDisk w' b m1 m2 ⟨n, [], [], false⟩ (fun _ => False) ∧ w.heap.size ≤ b ∧ w.heap.size ≤ m1 ∧ w.heap.size ≤ m2) ?_).mono (by rintro e w' ⟨v, rfl, b, m1, m2, rfl, h⟩; exact ⟨b, m1, m2, rfl, h⟩)
  refine condB_of (fun h1 => ?_) (fun _ => condB_of (fun h2 => ?_) (fun _ => ?_))
  · simp only [decide_eq_true_eq] at h1; omega
  · simp only [decide_eq_true_eq] at h2; omega
  · intro k2 w3 h3 k4 w5 h5 k6 w7 h7
    have s3 := h3.size; have s5 := h5.size; have s7 := h7.size
    refine ⟨k6, k2, k4, rfl, (h3.ext.trans h5.ext).trans h7.ext, ?_, by omega, by omega, by omega⟩
    exact ⟨h7.row, ((MapOf.made h3).upd h5.ext id).upd h7.ext id, (MapOf.made h5).upd h7.ext id, .nil, .nil, ⟨by omega, by omega, by omega⟩, fun _ h => h.elim, fun _ h => h.elim⟩

/-! ## writing -/

def writeZ (D : Dk) (k : Int) (n : Nat) : Int := if faultZ D.dead D.sectors k ≠ 0 then faultZ D.dead D.sectors k else if n < 1 ∨ 4108 < n then 1 else 0
def writeD (D : Dk) (k : Int) (bs : List UInt8) : Dk := if writeZ D k bs.length = 0 then { D with waits := ins k bs D.waits } else D

theorem write_nil (k : Int) (p : Option Addr) (l c : Nat) (w : World) : Calls Try.prog 70 #[.pointer none, .int .i64 k, .slice p l c] w fun e w' => e = .returned (.int .i64 1) ∧ w' = w := by
  refine (F70_calls none k p l c w (fun v w' => v = .int .i64 1 ∧ w' = w) ?_).mono (by rintro e w' ⟨v, rfl, rfl, h⟩; exact ⟨rfl, h⟩)
  refine (fault_nil k w).mono ?_
  rintro e w2 ⟨rfl, rfl⟩
  exact ⟨1, rfl, condB_of (fun _ => ⟨rfl, rfl⟩) (fun h => by simp at h)⟩

/-- the bytes' blocks behind a step: as they were, and new ones -/
def Grows (G G' : Nat → Prop) (w w' : World) : Prop := ∀ x, G' x → G x ∨ (w.heap.size ≤ x ∧ x < w'.heap.size)

theorem write_spec {w : World} {b m1 m2 : Nat} {D : Dk} {G : Nat → Prop} (h : IsDisk w b m1 m2 D G) (k : Int) {p : Option Addr} {l c : Nat} {bs : List UInt8} (hb : BytesAt w p l bs) :
    Calls Try.prog 70 #[.pointer (some (at0 b)), .int .i64 k, .slice p l c] w fun e w' => ∃ G', e = .returned (.int .i64 (writeZ D k bs.length)) ∧ Upd (fun x => x = m2) w w' ∧
      IsDisk w' b m1 m2 (writeD D k bs) G' ∧ Grows G G' w w' := by
  refine (F70_calls (some (at0 b)) k p l c w (fun v w' => ∃ G', v = .int .i64 (writeZ D k bs.length) ∧ Upd (fun x => x = m2) w w' ∧
      IsDisk w' b m1 m2 (writeD D k bs) G' ∧ Grows G G' w w') ?_).mono (by rintro e w' ⟨v, rfl, G', rfl, h⟩; exact ⟨G', rfl, h⟩)
  obtain ⟨n1, n2, n3⟩ := h.ne
  have hl := hb.1
  refine (fault_spec h.row).mono ?_
  rintro e w4 ⟨rfl, rfl⟩
  refine ⟨_, rfl, condB_of (fun hf => ?_) (fun hf => ?_)⟩
  · simp only [Bool.not_eq_true', decide_eq_false_iff_not] at hf
    have hz : writeZ D k bs.length = faultZ D.dead D.sectors k := by simp [writeZ, hf]
    refine ⟨G, by rw [hz], Upd.refl _ _, ?_, fun x hx => .inl hx⟩
    rw [writeD, hz, if_neg hf]; exact h
  · simp only [Bool.not_eq_false', decide_eq_true_eq] at hf
    have bad : (bs.length < 1 ∨ 4108 < bs.length) → ∃ G', Value.int .i64 1 = .int .i64 (writeZ D k bs.length) ∧ Upd (fun x => x = m2) w4 w4 ∧ IsDisk w4 b m1 m2 (writeD D k bs) G' ∧ Grows G G' w4 w4 := by
      intro hbad
      have hz : writeZ D k bs.length = 1 := by rw [writeZ, if_neg (by simp [hf]), if_pos hbad]
      refine ⟨G, by rw [hz], Upd.refl _ _, ?_, fun x hx => .inl hx⟩
      rw [writeD, hz, if_neg (by omega)]; exact h
    refine condB_of (fun h1 => ?_) (fun h1 => condB_of (fun h2 => ?_) (fun h2 => ?_))
    · simp only [decide_eq_true_eq] at h1
      exact bad (by omega)
    · simp only [decide_eq_true_eq] at h2
      exact bad (by omega)
    · simp only [decide_eq_false_iff_not] at h1 h2
      have hz : writeZ D k bs.length = 0 := by
        rw [writeZ, if_neg (by simp [hf]), if_neg (by omega)]
      have hne : bs ≠ [] := by rintro rfl; simp at hl; omega
      intro w7 hd
      have h7 := h.ext hd.ext
      refine ⟨_, h7.row.row.cell rfl, ?_⟩
      refine (clone_spec (hb.ext hd.ext) (by omega) (fun e => by
        obtain ⟨a, ha, _⟩ := hb.lt hne
        rw [e] at ha; cases ha)).mono ?_
      rintro e w10 ⟨p', c', rfl, hx, hown, _⟩
      have h10 := h7.ext hx
      refine ⟨p', l, c', rfl, ⟨_, h10.row.row.cell rfl, rfl⟩, ?_⟩
      -- the new sector's bytes
      let G' : Nat → Prop := fun x => G x ∨ (w4.heap.size ≤ x ∧ x < w10.heap.size)
      have hsz : w7.heap.size = w4.heap.size := by rw [hd.quiet.heap]
      have hval : SliceVal G' w10 (.slice p' l c') bs := by
        have hb' := BytesAt.of_cells hown.cells
        rw [← hl] at hb'
        refine ⟨p', l, c', rfl, hb', hne, by omega, fun a ha => .inr ?_⟩
        rcases hown.where_ with ⟨hp, hn, _⟩ | ⟨g, hg, hge, hlt, _⟩
        · rw [hp] at ha; cases ha
        · rw [hg] at ha
          cases ha
          exact ⟨by rw [← hsz]; exact hge, hlt⟩
      obtain ⟨w14, hr, hu14, hs14, hm14⟩ := (h10.waits.mono fun v x hv => hv.mono (G' := G') fun x hx => .inl hx).update mapT intT k hval
      refine ⟨w14, hr, G', by rw [hz], ?_, ?_, fun x hx => ?_⟩
      · exact Upd.trans ((hd.ext.trans hx).upd (S := fun x => x = m2)) hu14 fun _ _ h => h
      · have hG' : ∀ x, G' x → ¬ (x = m2) := by
          rintro x (hx | hx)
          · exact (h.apart x hx).2.2
          · have := h.waits.lt; omega
        rw [writeD, hz, if_pos rfl]
        refine ⟨hu14.rowW h10.row n2, (h10.lasts.upd hu14 n3).mono fun v x hv => (hv.mono fun x hx => .inl hx).upd hu14 hG', ?_, h.asc1, ins_asc h.asc2, h.ne, ?_, ?_⟩
        · exact (hm14.perm (ins_perm k bs D.waits).symm).mono fun v x hv => hv.upd hu14 hG'
        · rintro x (hx | hx)
          · exact h.apart x hx
          · have a1 := h.row.lt; have a2 := h.lasts.lt; have a3 := h.waits.lt
            exact ⟨by omega, by omega, by omega⟩
        · rintro x (hx' | hx')
          · rw [hs14]; exact Nat.lt_of_lt_of_le (h7.bound x hx') hx.size
          · rw [hs14]; exact hx'.2
      · rcases hx with hx | hx
        · exact .inl hx
        · exact .inr (by rw [hs14]; exact hx)

/-! ## corrupting -/

/-- which byte -/
def corIdx (at_ : Int) (n : Nat) : Nat := ((if at_ < 0 then -(at_ + 1) else at_) % (n : Int)).toNat
def corBytes (bs : List UInt8) (at_ : Int) (by_ : UInt8) : List UInt8 := bs.set (corIdx at_ bs.length) (bs.getD (corIdx at_ bs.length) 0 ^^^ by_)
def corruptZ (D : Dk) (k : Int) : Int := if faultZ D.dead D.sectors k ≠ 0 then faultZ D.dead D.sectors k else match get k D.waits with
  | some _ => 0
  | none => match get k D.lasts with
    | some _ => 0
    | none => 1
def corruptD (D : Dk) (k at_ : Int) (by_ : UInt8) : Dk := if faultZ D.dead D.sectors k ≠ 0 then D else match get k D.waits with
  | some bs => { D with waits := ins k (corBytes bs at_ by_) D.waits }
  | none => match get k D.lasts with
    | some bs => { D with lasts := ins k (corBytes bs at_ by_) D.lasts }
    | none => D

theorem xor_u8 (x y : UInt8) : bitsV .xor .u8 (x.toNat : Int) (y.toNat : Int) = ((x ^^^ y).toNat : Int) := by
  have h1 : (BitVec.ofInt 8 (x.toNat : Int)) = x.toBitVec := by
    apply BitVec.eq_of_toNat_eq
    simp
  have h2 : (BitVec.ofInt 8 (y.toNat : Int)) = y.toBitVec := by
    apply BitVec.eq_of_toNat_eq
    simp
  have h3 : (x.toBitVec ^^^ y.toBitVec).toNat = (x ^^^ y).toNat := by simp
  have h4 := (x ^^^ y).toNat_lt
  change IntKind.u8.wrap ((BitVec.ofInt 8 (x.toNat : Int) ^^^ BitVec.ofInt 8 (y.toNat : Int)).toNat : Int) = _
  rw [h1, h2, h3]
  exact IntWalk.u8_in _ ⟨by omega, by omega⟩
end Go.Proofs.Ytnfcfbljdibinaa

/- What a disk tells: its sectors, sorted. -/
namespace Go.Proofs.Ytnfcfbljdibinaa
open Go Go.Vc

/-- A MAP OF INTS AS THE KIT's MAPS READ: its keys alone. -/
theorem owns_of {β : Type} {V : Value → β → Prop} {P : Program} {t : TypeId} (ht : P.underlying t = some (.int .i64)) {w : World} {m : Nat} {L : List (Int × β)} (h : MapOf intK V w m L)
    (hk : ∀ x ∈ L, (Lit.int .i64 x.1).wf = true) (hn : L.length ≤ maxLen) :
    ∃ D : DataW Unit, w.ownsMap P t (fun _ => some (.nil, [])) m L.length D ∧ (intKeys D).Perm (L.map (·.1)) ∧ Maps.size D = L.length := by
  obtain ⟨es, clock, l, hm, hok, hp⟩ := h
  have hlen : es.toList.length = L.length := (hok.ents.length).trans hp.length_eq
  have hk' : ∀ x ∈ l, (Lit.int .i64 x.1).wf = true := fun x hx => hk x (hp.mem_iff.1 hx)
  have hrd : ∀ (xs : List MapEntry) (bs : List (Int × β)), All2 (EntOk intK V) xs bs → (∀ x ∈ bs, (Lit.int .i64 x.1).wf = true) →
      (∀ a ∈ xs, ∃ y, Go.WideElems.rd (H := Unit) P t (fun _ => some (.nil, [])) a = some y) ∧ xs.map (Go.WideElems.rg (H := Unit) P t (fun _ => some (.nil, []))) = bs.map (fun x => (Lit.int .i64 x.1, DataW.nil)) ∧
      xs.map (·.key) = bs.map fun x => Value.int .i64 x.1 := by
    intro xs bs h2
    induction h2 with
    | nil => intro _; exact ⟨fun _ h => (by cases h), rfl, rfl⟩
    | cons h1 _ ih =>
      intro hw
      rename_i a b xs' bs' _
      obtain ⟨i1, i2, i3⟩ := ih fun x hx => hw x (List.mem_cons_of_mem _ hx)
      have hkey : keyOf P t a.key = some (Lit.int .i64 b.1) := by
        rw [h1.1]
        have := hw b List.mem_cons_self
        simp [intK, keyOf, ht, mapKey, this]
      have hr : Go.WideElems.rd (H := Unit) P t (fun _ => some (.nil, [])) a = some (Lit.int .i64 b.1, DataW.nil) := by
        simp [Go.WideElems.rd, hkey]
      refine ⟨?_, ?_, ?_⟩
      · intro x hx
        rcases List.mem_cons.1 hx with rfl | hx
        · exact ⟨_, hr⟩
        · exact i1 x hx
      · simp only [List.map_cons, i2]
        rw [Go.WideElems.rg_of hr]
      · simp only [List.map_cons, i3, h1.1]; rfl
  obtain ⟨r1, r2, r3⟩ := hrd _ _ hok.ents hk'
  have hsort := Go.WideShapes.sorted_perm (l.map fun x => (Lit.int .i64 x.1, (DataW.nil : DataW Unit)))
  refine ⟨_, ⟨es, clock, hm, ⟨by rw [← Array.length_toList]; omega, ⟨hok.born, hok.nodup, ?_⟩, r1⟩, by rw [← Array.length_toList]; omega, rfl⟩, ?_, ?_⟩
  · rw [r3]
    have := hok.keys
    rw [show (l.map fun x => Value.int .i64 x.1) = (l.map (·.1)).map (Value.int .i64) by simp]
    exact List.Pairwise.map _ (fun a b hab h => hab (by simpa using h)) this
  · rw [r2]
    refine (hsort.map _).trans ?_
    simp only [List.map_map]
    exact hp.map _
  · rw [r2]
    simp only [Go.Maps.size]
    rw [hsort.length_eq, List.length_map]
    exact hp.length_eq

/-- a block of bytes of a call's own -/
def ByB (w : World) (base : Nat) (y : Nat) : Prop := base ≤ y ∧ ∃ cs fz, w.heap[y]? = some (.cells cs 5 fz)
theorem ByB.lt {w : World} {base y : Nat} (h : ByB w base y) : y < w.heap.size := by
  obtain ⟨_, cs, fz, h⟩ := h
  exact lt_of_heap h
theorem ByB.upd {S : Nat → Prop} {w w' : World} {base y : Nat} (h : ByB w base y) (hu : Upd S w w') (hS : ¬ S y) : ByB w' base y := by
  obtain ⟨h1, cs, fz, h2⟩ := h
  exact ⟨h1, cs, fz, hu.keep h2 hS⟩

def heldCells : List Value → SM → List Value
  | v :: vs, x :: L => .int .i64 x.1 :: v :: heldCells vs L
  | _, _ => []
theorem heldCells_length : ∀ {vs : List Value} {L : SM}, vs.length = L.length → (heldCells vs L).length = 2 * L.length
  | [], [], _ => rfl
  | v :: vs, x :: L, h => by
    have := heldCells_length (vs := vs) (L := L) (by simpa using h)
    simp only [heldCells, List.length_cons, this]; omega
theorem heldCells_append : ∀ {vs : List Value} {L : SM} (v : Value) (x : Int × List UInt8), vs.length = L.length → heldCells (vs ++ [v]) (L ++ [x]) = heldCells vs L ++ [.int .i64 x.1, v]
  | [], [], _, _, _ => rfl
  | v' :: vs, x' :: L, v, x, h => by
    have := heldCells_append (vs := vs) (L := L) v x (by simpa using h)
    simp only [List.cons_append, heldCells, this]
theorem heldCells_at : ∀ {vs : List Value} {L : SM} {i : Nat} {v : Value} {x : Int × List UInt8}, vs[i]? = some v → L[i]? = some x → (heldCells vs L)[2 * i]? = some (.int .i64 x.1) ∧ (heldCells vs L)[2 * i + 1]? = some v
  | _ :: _, _ :: _, 0, _, _, h1, h2 => by
    simp only [List.getElem?_cons_zero, Option.some.injEq] at h1 h2
    subst h1; subst h2
    exact ⟨rfl, rfl⟩
  | v' :: vs, x' :: L, i + 1, v, x, h1, h2 => by
    have := heldCells_at (vs := vs) (L := L) (i := i) (by simpa using h1) (by simpa using h2)
    rw [show 2 * (i + 1) = 2 * i + 1 + 1 by omega]
    simpa [heldCells] using this
  | [], _, _, _, _, h1, _ => by simp at h1
  | _ :: _, [], _, _, _, _, h2 => by simp at h2

/-- bytes of a call's own -/
def ElemOwn (w : World) (base : Nat) (v : Value) (bs : List UInt8) : Prop :=
  ∃ p n c, v = .slice p n c ∧ OwnS w base 5 1 p n c (encB bs) ∧ bs ≠ [] ∧ n ≤ 4108
theorem ElemOwn.upd {S : Nat → Prop} {w w' : World} {base : Nat} {v : Value} {bs : List UInt8} (h : ElemOwn w base v bs) (hu : Upd S w w') (hS : ∀ y, ByB w base y → ¬ S y) : ElemOwn w' base v bs := by
  obtain ⟨p, n, c, rfl, ho, h1, h2⟩ := h
  refine ⟨p, n, c, rfl, ho.upd hu fun g hg => ?_, h1, h2⟩
  rcases ho.where_ with ⟨hp, _⟩ | ⟨g', hp, hb, _, _, cur, hg', _⟩
  · rw [hp] at hg; cases hg
  · rw [hp] at hg
    simp only [Option.some.injEq, at0, Addr.mk.injEq, and_true] at hg
    subst hg
    exact hS _ ⟨hb, cur, _, hg'⟩
theorem ElemOwn.base_le {w : World} {base base' : Nat} {v : Value} {bs : List UInt8} (h : ElemOwn w base v bs) (hb : base' ≤ base) : ElemOwn w base' v bs := by
  obtain ⟨p, n, c, rfl, ho, h1, h2⟩ := h
  exact ⟨p, n, c, rfl, ho.base_le hb, h1, h2⟩
theorem ElemOwn.val {w : World} {base : Nat} {v : Value} {bs : List UInt8} (h : ElemOwn w base v bs) : SliceVal (ByB w base) w v bs := by
  obtain ⟨p, n, c, rfl, ho, h1, h2⟩ := h
  have hb := BytesAt.of_cells ho.cells
  have hl : n = bs.length := by
    have := ho.length
    rw [encB_length, Nat.mul_one] at this
    exact this.symm
  rw [← hl] at hb
  refine ⟨p, n, c, rfl, hb, h1, h2, fun a ha => ?_⟩
  rcases ho.where_ with ⟨hp, _⟩ | ⟨g, hp, hge, _, _, cur, hg, _⟩
  · rw [hp] at ha; cases ha
  · rw [hp] at ha; cases ha
    exact ⟨hge, cur, _, hg⟩

theorem all2_imp {α β : Type} {R R' : α → β → Prop} {xs : List α} {bs : List β} (h : All2 R xs bs) (hi : ∀ a b, R a b → R' a b) : All2 R' xs bs := by
  induction h with
  | nil => exact .nil
  | cons h _ ih => exact .cons (hi _ _ h) ih
theorem all2_at {α β : Type} {R : α → β → Prop} {xs : List α} {bs : List β} (h : All2 R xs bs) : ∀ {i : Nat} {b : β}, bs[i]? = some b → ∃ a, xs[i]? = some a ∧ R a b := by
  induction h with
  | nil => intro i b hb; simp at hb
  | cons h _ ih =>
    intro i b hb
    cases i with
    | zero => simp only [List.getElem?_cons_zero, Option.some.injEq] at hb ⊢; subst hb; exact ⟨_, rfl, h⟩
    | succ i => simp only [List.getElem?_cons_succ] at hb ⊢; exact ih hb

theorem asc_bound {n : Nat} : ∀ {L : SM} {lo : Int}, Asc L → (∀ x ∈ L, lo ≤ x.1 ∧ x.1 < lo + n) → L.length ≤ n := by
  induction n with
  | zero =>
    intro L lo _ h
    cases L with
    | nil => simp
    | cons a L => have := h a List.mem_cons_self; omega
  | succ n ih =>
    intro L lo ha h
    cases L with
    | nil => simp
    | cons a L =>
      obtain ⟨h1, h2⟩ := List.pairwise_cons.1 ha
      have := ih (L := L) (lo := lo + 1) h2 fun x hx => by
        have := h1 x hx; have := h a List.mem_cons_self; have := h x (List.mem_cons_of_mem _ hx)
        omega
      simp only [List.length_cons]; omega

/-- THE BOUNDS OF A DISK THAT WAS MADE -/
structure DkOk (D : Dk) : Prop where
  sec : 1 ≤ D.sectors ∧ D.sectors ≤ 4096
  lasts : ∀ x ∈ D.lasts, 0 ≤ x.1 ∧ x.1 < D.sectors
  waits : ∀ x ∈ D.waits, 0 ≤ x.1 ∧ x.1 < D.sectors
end Go.Proofs.Ytnfcfbljdibinaa

/- A disk's Corrupt, Fail, Replace; a disk as one thing with the blocks that are its own. -/
namespace Go.Proofs.Ytnfcfbljdibinaa
open Go Go.Vc

theorem encB_set (bs : List UInt8) (i : Nat) (b : UInt8) : (encB bs).set i (.int .u8 (b.toNat : Int)) = encB (bs.set i b) := by
  simp [encB, List.map_set]

theorem corrupt_nil (k a y : Int) (w : World) : Calls Try.prog 58 #[.pointer none, .int .i64 k, .int .i64 a, .int .u8 y] w fun e w' => e = .returned (.int .i64 1) ∧ w' = w := by
  refine (F58_calls none k a y w (fun v w' => v = .int .i64 1 ∧ w' = w) ?_).mono (by rintro e w' ⟨v, rfl, rfl, h⟩; exact ⟨rfl, h⟩)
  refine (fault_nil k w).mono ?_
  rintro e w2 ⟨rfl, rfl⟩
  exact ⟨1, rfl, condB_of (fun _ => ⟨rfl, rfl⟩) (fun h => by simp at h)⟩
theorem fail_nil (w : World) : Calls Try.prog 56 #[.pointer none] w fun e w' => e = .returned (.tuple #[]) ∧ w' = w := by
  refine (F56_calls none w (fun v w' => v = .tuple #[] ∧ w' = w) ?_).mono (by rintro e w' ⟨v, rfl, rfl, h⟩; exact ⟨rfl, h⟩)
  refine (empty_nil true w).mono ?_
  rintro e w2 ⟨rfl, rfl⟩
  exact ⟨rfl, rfl, rfl⟩
theorem replace_nil (w : World) : Calls Try.prog 57 #[.pointer none] w fun e w' => e = .returned (.tuple #[]) ∧ w' = w := by
  refine (F57_calls none w (fun v w' => v = .tuple #[] ∧ w' = w) ?_).mono (by rintro e w' ⟨v, rfl, rfl, h⟩; exact ⟨rfl, h⟩)
  refine (empty_nil false w).mono ?_
  rintro e w2 ⟨rfl, rfl⟩
  exact ⟨rfl, rfl, rfl⟩

theorem fail_spec {w : World} {b m1 m2 : Nat} {D : Dk} {G : Nat → Prop} (h : IsDisk w b m1 m2 D G) :
    Calls Try.prog 56 #[.pointer (some (at0 b))] w fun e w' => e = .returned (.tuple #[]) ∧ Upd (Core b m1 m2) w w' ∧ IsDisk w' b m1 m2 { D with dead := true, lasts := [], waits := [] } G := by
  refine (F56_calls (some (at0 b)) w (fun v w' => v = .tuple #[] ∧ Upd (Core b m1 m2) w w' ∧ IsDisk w' b m1 m2 { D with dead := true, lasts := [], waits := [] } G) ?_).mono (by rintro e w' ⟨v, rfl, rfl, h⟩; exact ⟨rfl, h⟩)
  refine (empty_spec h true).mono ?_
  rintro e w2 ⟨rfl, h⟩
  exact ⟨rfl, rfl, h⟩
theorem replace_spec {w : World} {b m1 m2 : Nat} {D : Dk} {G : Nat → Prop} (h : IsDisk w b m1 m2 D G) :
    Calls Try.prog 57 #[.pointer (some (at0 b))] w fun e w' => e = .returned (.tuple #[]) ∧ Upd (Core b m1 m2) w w' ∧ IsDisk w' b m1 m2 { D with dead := false, lasts := [], waits := [] } G := by
  refine (F57_calls (some (at0 b)) w (fun v w' => v = .tuple #[] ∧ Upd (Core b m1 m2) w w' ∧ IsDisk w' b m1 m2 { D with dead := false, lasts := [], waits := [] } G) ?_).mono (by rintro e w' ⟨v, rfl, rfl, h⟩; exact ⟨rfl, h⟩)
  refine (empty_spec h false).mono ?_
  rintro e w2 ⟨rfl, h⟩
  exact ⟨rfl, rfl, h⟩

theorem corIdx_lt (a : Int) {n : Nat} (h : 0 < n) : corIdx a n < n := by
  unfold corIdx
  have h1 := Int.emod_lt_of_pos (if a < 0 then -(a + 1) else a) (show (0 : Int) < n by omega)
  have h2 := Int.emod_nonneg (if a < 0 then -(a + 1) else a) (show (n : Int) ≠ 0 by omega)
  omega

set_option maxHeartbeats 1000000 in
theorem corrupt_spec {w : World} {b m1 m2 : Nat} {D : Dk} {G : Nat → Prop} (h : IsDisk w b m1 m2 D G) (k a : Int) (y : UInt8) (ha : -9223372036854775808 ≤ a ∧ a ≤ 9223372036854775807) :
    Calls Try.prog 58 #[.pointer (some (at0 b)), .int .i64 k, .int .i64 a, .int .u8 (y.toNat : Int)] w fun e w' => ∃ G', e = .returned (.int .i64 (corruptZ D k)) ∧ Upd (Core b m1 m2) w w' ∧
      IsDisk w' b m1 m2 (corruptD D k a y) G' ∧ Grows G G' w w' := by
  refine (F58_calls (some (at0 b)) k a (y.toNat : Int) w (fun v w' => ∃ G', v = .int .i64 (corruptZ D k) ∧ Upd (Core b m1 m2) w w' ∧
      IsDisk w' b m1 m2 (corruptD D k a y) G' ∧ Grows G G' w w') ?_).mono (by rintro e w' ⟨v, rfl, G', rfl, h⟩; exact ⟨G', rfl, h⟩)
  obtain ⟨n1, n2, n3⟩ := h.ne
  refine (fault_spec h.row).mono ?_
  rintro e w5 ⟨rfl, rfl⟩
  refine ⟨_, rfl, condB_of (fun hf => ?_) (fun hf => ?_)⟩
  · simp only [Bool.not_eq_true', decide_eq_false_iff_not] at hf
    have hz : corruptZ D k = faultZ D.dead D.sectors k := by simp [corruptZ, hf]
    refine ⟨G, by rw [hz], Upd.refl _ _, ?_, fun x hx => .inl hx⟩
    rw [corruptD, if_pos hf]; exact h
  simp only [Bool.not_eq_false', decide_eq_true_eq] at hf
  refine (at_spec h k).mono ?_
  rintro e w8 ⟨hq, p, l, c, r, rfl, hcase⟩
  refine ⟨p, l, c, some r, rfl, ?_⟩
  have hx8 : Ext w5 w8 := hq.ext
  have h8 := h.ext hx8
  -- of the two maps, in one
  have main : ∀ (bs : List UInt8) (M : SM), SliceVal G w8 (.slice p l c) bs → MapOf intK (SliceVal G w8) w8 r M → Asc M → corruptZ D k = 0 → (r = m1 ∨ r = m2) →
      (∀ w' G', (∀ x, G x → G' x) → Upd (fun x => x = r) w8 w' → (∀ x, G' x → x < w'.heap.size) → Grows G G' w8 w' → MapOf intK (SliceVal G' w') w' r (ins k (corBytes bs a y) M) → Asc (ins k (corBytes bs a y) M) →
        IsDisk w' b m1 m2 (corruptD D k a y) G') → 
      ∀ E : Int, E = (if a < 0 then -(a + 1) else a) →
      Calls Try.prog 84 #[.slice p l c] w8 fun e13 w12 => (∃ (p14 : Option Addr) (l14 c14 : Nat), e13 = .returned (.slice p14 l14 c14) ∧ (((l14 : Nat) : Int) ≠ 0 ∧ ((0 ≤ (E.tmod ((l14 : Nat) : Int)) ∧ (E.tmod ((l14 : Nat) : Int)) < ((l14 : Nat) : Int)) ∧
        (nilM p14 fun a15 => (∃ (n16 : Int), w12.cell? (a15.add ((E.tmod ((l14 : Nat) : Int)).toNat * 1)) = some (.int .u8 n16) ∧ ((0 ≤ (E.tmod ((l14 : Nat) : Int)) ∧ (E.tmod ((l14 : Nat) : Int)) < ((l14 : Nat) : Int)) ∧
        (nilM p14 fun a17 => (Live w12 (a17.add ((E.tmod ((l14 : Nat) : Int)).toNat * 1)) ∧ (∀ w18 : World, SetC w12 (a17.add ((E.tmod ((l14 : Nat) : Int)).toNat * 1)) (Value.int .u8 (bitsV .xor .u8 n16 (y.toNat : Int))) w18 →
        (∃ w19 : World, Sem.run Try.prog (Instr.mapUpdate 140 (.map (some r)) (.int .i64 k) (.slice p14 l14 c14)) w18 = .ok () w19 ∧
          (∃ G', Value.int .i64 0 = .int .i64 (corruptZ D k) ∧ Upd (Core b m1 m2) w5 w19 ∧ IsDisk w19 b m1 m2 (corruptD D k a y) G' ∧ Grows G G' w5 w19))))))))))) := by
    intro bs M hsv hM hasc hz hr hfin E hE
    obtain ⟨p0, l0, c0, he, hb, hne, hn, hG⟩ := hsv
    cases he
    have hl := hb.1
    have hpos : 0 < l := by
      rw [hl]; exact List.length_pos_iff.2 hne
    have hEn : 0 ≤ E := by rw [hE]; split <;> omega
    have htm : E.tmod (l : Int) = E % (l : Int) := Int.tmod_eq_emod_of_nonneg hEn
    have hidx : (E % (l : Int)).toNat = corIdx a bs.length := by rw [hE, ← hl]; rfl
    have hlt := corIdx_lt a (n := bs.length) (by omega)
    refine (clone_spec hb (by omega) (fun e => by
      obtain ⟨a, ha, _⟩ := hb.lt hne
      rw [e] at ha; cases ha)).mono ?_
    rintro e w12 ⟨p', c', rfl, hx12, hown, hnil⟩
    refine ⟨p', l, c', rfl, by omega, ?_⟩
    rw [htm, Nat.mul_one, hidx]
    have hr1 := Int.emod_nonneg E (show (l : Int) ≠ 0 by omega)
    have hr2 := Int.emod_lt_of_pos E (show (0 : Int) < l by omega)
    refine ⟨⟨hr1, hr2⟩, ?_⟩
    have hel : (encB bs)[corIdx a bs.length]? = some (.int .u8 ((bs.getD (corIdx a bs.length) 0).toNat : Int)) := by
      simp [encB, List.getElem?_eq_getElem hlt, List.getD]
    obtain ⟨aa, rfl, hcell⟩ := hown.cells _ _ hel
    refine ⟨_, hcell, ⟨hr1, hr2⟩, hown.live (by rw [encB_length]; exact hlt), ?_⟩
    intro w18 hset
    obtain ⟨hown18, hu18⟩ := hown.set hset
    rw [xor_u8, encB_set] at hown18
    have hag : ∃ g, aa = at0 g ∧ w8.heap.size ≤ g := by
      rcases hown.where_ with ⟨h, _⟩ | ⟨g, h, hge, _⟩
      · cases h
      · cases h; exact ⟨g, rfl, hge⟩
    obtain ⟨g, rfl, hge⟩ := hag
    have hx18 : Ext w8 w18 := Upd.trans hx12 hu18 fun x hx hs => by
      have : x = g := hs
      omega
    let G' : Nat → Prop := fun x => G x ∨ (w8.heap.size ≤ x ∧ x < w18.heap.size)
    have hbs' : corBytes bs a y ≠ [] := by
      intro h0
      have := congrArg List.length h0
      simp [corBytes] at this
      exact hne this
    have hval : SliceVal G' w18 (.slice (some (at0 g)) l c') (corBytes bs a y) := by
      have hb' := BytesAt.of_cells hown18.cells
      have hlen : (bs.set (corIdx a bs.length) (bs.getD (corIdx a bs.length) 0 ^^^ y)).length = l := by rw [List.length_set]; exact hl.symm
      rw [hlen] at hb'
      refine ⟨_, l, c', rfl, hb', hbs', by omega, ?_⟩
      rintro a ⟨⟩
      refine .inr ⟨hge, ?_⟩
      rcases hown18.where_ with ⟨h, _⟩ | ⟨g', h, _, hlt, _⟩
      · cases h
      · cases h; exact hlt
    obtain ⟨w19, hrun, hu19, hs19, hm19⟩ := (((hM.upd hx18 id).mono fun v x hv => (hv.upd hx18 fun _ _ h => h).mono (G' := G') fun x hx => .inl hx)).update mapT intT k hval
    have hu : Upd (fun x => x = r) w8 w19 := Upd.trans (hx18.upd (S := fun x => x = r)) hu19 fun _ _ h => h
    have hrlt : r < w8.heap.size := hM.lt
    have hGr : ∀ x, G' x → ¬ (x = r) := by
      rintro x (hx | hx)
      · have := h.apart x hx
        rcases hr with rfl | rfl
        · exact this.2.1
        · exact this.2.2
      · omega
    refine ⟨w19, hrun, G', by rw [hz], ?_, ?_, ?_⟩
    · refine Upd.trans (hx8.upd) (hu.mono fun x _ hx => ?_) fun _ _ h => h
      rcases hr with rfl | rfl
      · exact Or.inr (Or.inl hx)
      · exact Or.inr (Or.inr hx)
    · refine hfin w19 G' (fun x hx => .inl hx) hu ?_ ?_ ?_ (ins_asc hasc)
      · rintro x (hx | hx)
        · have := h8.bound x hx; have := hu.size; omega
        · rw [hs19]; exact hx.2
      · rintro x (hx | hx)
        · exact .inl hx
        · exact .inr (by rw [hs19]; exact hx)
      · exact (hm19.perm (ins_perm k _ M).symm).mono fun v x hv => hv.upd hu19 hGr
    · rintro x (hx | hx)
      · exact .inl hx
      · have := hx8.size
        exact .inr (by rw [hs19]; exact ⟨by omega, hx.2⟩)
  have hwrap : a < 0 → IntKind.i64.wrap (0 - IntKind.i64.wrap (a + 1)) = -(a + 1) := fun h0 => by
    rw [w64 (by omega : -9223372036854775808 ≤ a + 1 ∧ a + 1 ≤ 9223372036854775807), w64 (by omega)]; omega
  have up8 : ∀ {v : Value} {bs : List UInt8}, SliceVal G w5 v bs → SliceVal G w8 v bs := fun hv => hv.upd hx8 fun _ _ h => h
  rcases hcase with ⟨bs, hg, hsv, rfl⟩ | ⟨bs, hg1, hg2, hsv, rfl⟩ | ⟨hg1, hg2, rfl, rfl, rfl⟩
  · have hz : corruptZ D k = 0 := by simp [corruptZ, hf, hg]
    have hD : corruptD D k a y = { D with waits := ins k (corBytes bs a y) D.waits } := by simp [corruptD, hf, hg]
    have hll : l ≠ 0 := by
      obtain ⟨_, _, _, he, hb, hne, _⟩ := hsv
      cases he
      have := hb.1; have := List.length_pos_iff.2 hne; omega
    have fin := main bs D.waits (up8 hsv) h8.waits h.asc2 hz (.inr rfl) (by
      intro w' G' hGG hu hbd hgr hm hasc
      rw [hD]
      refine ⟨hu.rowW h8.row n2, (h8.lasts.upd hu n3).mono fun v x hv => (hv.mono hGG).upd hu ?_, hm, h.asc1, hasc, h.ne, ?_, hbd⟩
      · intro x hx
        rcases hgr x hx with hx | hx
        · exact (h.apart x hx).2.2
        · have := h8.waits.lt; omega
      · intro x hx
        rcases hgr x hx with hx | hx
        · exact h.apart x hx
        · have a1 := h8.row.lt; have a2 := h8.lasts.lt; have a3 := h8.waits.lt
          exact ⟨by omega, by omega, by omega⟩)
    refine condB_of (fun h0 => by simp only [decide_eq_true_eq] at h0; omega) (fun _ => condB_of (fun h0 => ?_) (fun h0 => ?_))
    · simp only [decide_eq_true_eq] at h0
      exact fin _ (by rw [hwrap h0, if_pos h0])
    · simp only [decide_eq_false_iff_not] at h0
      exact fin _ (by rw [if_neg h0])
  · have hz : corruptZ D k = 0 := by simp [corruptZ, hf, hg1, hg2]
    have hD : corruptD D k a y = { D with lasts := ins k (corBytes bs a y) D.lasts } := by simp [corruptD, hf, hg1, hg2]
    have hll : l ≠ 0 := by
      obtain ⟨_, _, _, he, hb, hne, _⟩ := hsv
      cases he
      have := hb.1; have := List.length_pos_iff.2 hne; omega
    have fin := main bs D.lasts (up8 hsv) h8.lasts h.asc1 hz (.inl rfl) (by
      intro w' G' hGG hu hbd hgr hm hasc
      rw [hD]
      refine ⟨hu.rowW h8.row n1, hm, (h8.waits.upd hu (fun e => n3 e.symm)).mono fun v x hv => (hv.mono hGG).upd hu ?_, hasc, h.asc2, h.ne, ?_, hbd⟩
      · intro x hx
        rcases hgr x hx with hx | hx
        · exact (h.apart x hx).2.1
        · have := h8.lasts.lt; omega
      · intro x hx
        rcases hgr x hx with hx | hx
        · exact h.apart x hx
        · have a1 := h8.row.lt; have a2 := h8.lasts.lt; have a3 := h8.waits.lt
          exact ⟨by omega, by omega, by omega⟩)
    refine condB_of (fun h0 => by simp only [decide_eq_true_eq] at h0; omega) (fun _ => condB_of (fun h0 => ?_) (fun h0 => ?_))
    · simp only [decide_eq_true_eq] at h0
      exact fin _ (by rw [hwrap h0, if_pos h0])
    · simp only [decide_eq_false_iff_not] at h0
      exact fin _ (by rw [if_neg h0])
  · have hz : corruptZ D k = 1 := by simp [corruptZ, hf, hg1, hg2]
    refine condB_of (fun _ => ?_) (fun h0 => by simp at h0)
    refine ⟨G, by rw [hz], hx8.upd, ?_, fun x hx => .inl hx⟩
    have hD : corruptD D k a y = D := by simp [corruptD, hf, hg1, hg2]
    rw [hD]; exact h8
end Go.Proofs.Ytnfcfbljdibinaa

/- A step: which blocks it may change. -/
namespace Go.Proofs.Ytnfcfbljdibinaa
open Go Go.Vc

/-- A STEP: nothing but these blocks is changed, and what is the disk's behind it was so ahead of it, or is new -/
structure Step (F F' : Nat → Prop) (w w' : World) : Prop where
  upd : Upd F w w'
  grow : ∀ x, F' x → F x ∨ w.heap.size ≤ x

theorem Step.refl (F : Nat → Prop) (w : World) : Step F F w w := ⟨Upd.refl _ _, fun _ h => .inl h⟩
theorem Step.ext {F : Nat → Prop} {w w' : World} (h : Ext w w') : Step F F w w' := ⟨h.upd, fun _ h => .inl h⟩
theorem Step.trans {F F' F'' : Nat → Prop} {w w' w'' : World} (h : Step F F' w w') (h' : Step F' F'' w' w'') : Step F F'' w w'' := by
  refine ⟨Upd.trans h.upd h'.upd fun x hx hF => ?_, fun x hx => ?_⟩
  · rcases h.grow x hF with h | h
    · exact h
    · omega
  · rcases h'.grow x hx with h1 | h1
    · exact h.grow x h1
    · exact .inr (Nat.le_trans h.upd.size h1)
/-- what is nobody's stays nobody's -/
theorem Step.apart {F F' : Nat → Prop} {w w' : World} (h : Step F F' w w') {x : Nat} (hx : x < w.heap.size) (hF : ¬ F x) : ¬ F' x := fun h' => by
  rcases h.grow x h' with h1 | h1
  · exact hF h1
  · omega
end Go.Proofs.Ytnfcfbljdibinaa

/- A disk as one thing: what it holds, and the blocks that are its own. -/
namespace Go.Proofs.Ytnfcfbljdibinaa
open Go Go.Vc

theorem ins_mem {k : Int} {x : List UInt8} {L : SM} {y : Int × List UInt8} (h : y ∈ ins k x L) : y = (k, x) ∨ y ∈ L := by
  have := (ins_perm k x L).mem_iff.1 h
  rcases List.mem_cons.1 this with h | h
  · exact .inl h
  · exact .inr (List.mem_filter.1 h).1
theorem mrg_mem {L W : SM} (hw : Asc W) {y : Int × List UInt8} (h : y ∈ mrg L W) : y ∈ W ∨ y ∈ L := by
  have := (mrg_perm hw.nodup).mem_iff.1 h
  rcases List.mem_append.1 this with h | h
  · exact .inl h
  · exact .inr (List.mem_filter.1 h).1

theorem faultZ_ok {dead : Bool} {s k : Int} (h : faultZ dead s k = 0) : dead = false ∧ 0 ≤ k ∧ k < s := by
  unfold faultZ at h
  cases dead
  · simp only [Bool.false_eq_true, if_false] at h
    split at h
    · omega
    · rename_i h1
      exact ⟨rfl, by omega, by omega⟩
  · simp at h

theorem DkOk.new {n : Int} (h : 1 ≤ n ∧ n ≤ 4096) : DkOk ⟨n, [], [], false⟩ := ⟨h, fun x hx => (by cases hx), fun x hx => (by cases hx)⟩
theorem DkOk.write {D : Dk} (h : DkOk D) (k : Int) (bs : List UInt8) : DkOk (writeD D k bs) := by
  unfold writeD
  split
  · rename_i hz
    refine ⟨h.sec, h.lasts, fun x hx => ?_⟩
    rcases ins_mem hx with rfl | hx
    · have : faultZ D.dead D.sectors k = 0 := by
        unfold writeZ at hz
        split at hz
        · exact hz
        · rename_i h; simpa using h
      exact (faultZ_ok this).2
    · exact h.waits x hx
  · exact h
theorem DkOk.flush {D : Dk} (h : DkOk D) (ha : Asc D.waits) : DkOk (flushD D) := by
  unfold flushD
  split
  · exact h
  · refine ⟨h.sec, fun x hx => ?_, fun x hx => by cases hx⟩
    rcases mrg_mem ha hx with hx | hx
    · exact h.waits x hx
    · exact h.lasts x hx
theorem DkOk.crash {D : Dk} (h : DkOk D) (ha : Asc D.waits) (ks : List Int) : DkOk (crashD D ks) := by
  refine ⟨h.sec, fun x hx => ?_, fun x hx => by cases hx⟩
  rcases mrg_mem (ha.filter _) hx with hx | hx
  · exact h.waits x (List.mem_filter.1 hx).1
  · exact h.lasts x hx
theorem DkOk.empty {D : Dk} (h : DkOk D) (dd : Bool) : DkOk { D with dead := dd, lasts := [], waits := [] } := ⟨h.sec, fun x hx => (by cases hx), fun x hx => (by cases hx)⟩
theorem get_mem {k : Int} {bs : List UInt8} : ∀ {L : SM}, get k L = some bs → (k, bs) ∈ L
  | [], h => by cases h
  | (k', x) :: L, h => by
    unfold Vc.get at h
    split at h
    · rename_i he; subst he; cases h; exact List.mem_cons_self
    · exact List.mem_cons_of_mem _ (get_mem h)
theorem DkOk.corrupt {D : Dk} (h : DkOk D) (k a : Int) (y : UInt8) : DkOk (corruptD D k a y) := by
  unfold corruptD
  split
  · exact h
  · split
    · rename_i bs hg
      refine ⟨h.sec, h.lasts, fun x hx => ?_⟩
      rcases ins_mem hx with rfl | hx
      · exact h.waits (k, bs) (get_mem hg)
      · exact h.waits x hx
    · split
      · rename_i bs hg
        refine ⟨h.sec, fun x hx => ?_, h.waits⟩
        rcases ins_mem hx with rfl | hx
        · exact h.lasts (k, bs) (get_mem hg)
        · exact h.lasts x hx
      · exact h

/-- A DISK AT A BLOCK: what it holds, and which blocks are its own -/
structure Dsk (w : World) (b : Nat) (D : Dk) (F : Nat → Prop) : Prop where
  is : ∃ m1 m2 G, IsDisk w b m1 m2 D G ∧ F = Foot b m1 m2 G
  ok : DkOk D
theorem Dsk.lt {w : World} {b : Nat} {D : Dk} {F : Nat → Prop} (h : Dsk w b D F) : ∀ x, F x → x < w.heap.size := by
  obtain ⟨⟨m1, m2, G, hd, rfl⟩, _⟩ := h
  exact hd.foot
theorem Dsk.asc {w : World} {b : Nat} {D : Dk} {F : Nat → Prop} (h : Dsk w b D F) : Asc D.lasts ∧ Asc D.waits := by
  obtain ⟨⟨m1, m2, G, hd, rfl⟩, _⟩ := h
  exact ⟨hd.asc1, hd.asc2⟩
theorem Dsk.upd {S : Nat → Prop} {w w' : World} {b : Nat} {D : Dk} {F : Nat → Prop} (h : Dsk w b D F) (hu : Upd S w w') (hS : ∀ x, S x → ¬ F x) : Dsk w' b D F := by
  obtain ⟨⟨m1, m2, G, hd, rfl⟩, hk⟩ := h
  exact ⟨⟨m1, m2, G, hd.upd hu hS, rfl⟩, hk⟩
theorem Dsk.ext {w w' : World} {b : Nat} {D : Dk} {F : Nat → Prop} (h : Dsk w b D F) (hu : Ext w w') : Dsk w' b D F := h.upd hu fun _ h => h.elim
theorem core_foot {b m1 m2 : Nat} {G : Nat → Prop} (x : Nat) (h : Core b m1 m2 x) : Foot b m1 m2 G x := by
  rcases h with h | h | h
  · exact .inl h
  · exact .inr (.inl h)
  · exact .inr (.inr (.inl h))
theorem grows_step {b m1 m2 : Nat} {G G' : Nat → Prop} {w w' : World} (hu : Upd (Core b m1 m2) w w') (h : Grows G G' w w') : Step (Foot b m1 m2 G) (Foot b m1 m2 G') w w' := by
  refine ⟨hu.mono fun x _ hx => core_foot x hx, ?_⟩
  rintro x (hx | hx | hx | hx)
  · exact .inl (.inl hx)
  · exact .inl (.inr (.inl hx))
  · exact .inl (.inr (.inr (.inl hx)))
  · rcases h x hx with h | h
    · exact .inl (.inr (.inr (.inr h)))
    · exact .inr h.1

section
variable {w : World} {b : Nat} {D : Dk} {F : Nat → Prop}

theorem d_new {n : Int} (h : 1 ≤ n ∧ n ≤ 4096) (w : World) : Calls Try.prog 54 #[.int .i64 n] w fun e w' => ∃ b F, e = .returned (.tuple #[.pointer (some (at0 b)), .int .i64 0]) ∧ Ext w w' ∧
    Dsk w' b ⟨n, [], [], false⟩ F ∧ ∀ x, F x → w.heap.size ≤ x := by
  refine (new_good h w).mono ?_
  rintro e w' ⟨b, m1, m2, rfl, hx, hd, h1, h2, h3⟩
  refine ⟨b, _, rfl, hx, ⟨⟨m1, m2, _, hd, rfl⟩, DkOk.new h⟩, ?_⟩
  rintro x (rfl | rfl | rfl | hx)
  · exact h1
  · exact h2
  · exact h3
  · exact hx.elim
theorem d_dead (h : Dsk w b D F) : Calls Try.prog 59 #[.pointer (some (at0 b))] w fun e w' => e = .returned (.bool D.dead) ∧ w' = w := by
  obtain ⟨⟨m1, m2, G, hd, rfl⟩, _⟩ := h
  exact dead_spec hd
theorem d_read (h : Dsk w b D F) (k : Int) : Calls Try.prog 61 #[.pointer (some (at0 b)), .int .i64 k] w fun e w' => Ext w w' ∧ Dsk w' b D F ∧
    ∃ p l c bs, e = .returned (.tuple #[.slice p l c, .int .i64 (faultZ D.dead D.sectors k)]) ∧ bs = (if faultZ D.dead D.sectors k = 0 then readD D k else []) ∧ l = bs.length ∧
      OwnS w' w.heap.size 5 1 p l c (encB bs) ∧ l ≤ 4108 := by
  have h0 := h
  obtain ⟨⟨m1, m2, G, hd, rfl⟩, hk⟩ := h
  refine (read_spec hd k).mono ?_
  rintro e w' ⟨hx, hh⟩
  exact ⟨hx, h0.ext hx, hh⟩
theorem d_write (h : Dsk w b D F) (k : Int) {p : Option Addr} {l c : Nat} {bs : List UInt8} (hb : BytesAt w p l bs) :
    Calls Try.prog 70 #[.pointer (some (at0 b)), .int .i64 k, .slice p l c] w fun e w' => ∃ F', e = .returned (.int .i64 (writeZ D k bs.length)) ∧ Step F F' w w' ∧ Dsk w' b (writeD D k bs) F' := by
  obtain ⟨⟨m1, m2, G, hd, rfl⟩, hk⟩ := h
  refine (write_spec hd k hb).mono ?_
  rintro e w' ⟨G', rfl, hu, hd', hg⟩
  exact ⟨_, rfl, grows_step (hu.mono fun x _ hx => .inr (.inr hx)) hg, ⟨m1, m2, G', hd', rfl⟩, hk.write k bs⟩
theorem d_flush (h : Dsk w b D F) : Calls Try.prog 71 #[.pointer (some (at0 b))] w fun e w' => e = .returned (.int .i64 (if D.dead then 120 else 0)) ∧ Step F F w w' ∧ Dsk w' b (flushD D) F := by
  obtain ⟨⟨m1, m2, G, hd, rfl⟩, hk⟩ := h
  refine (flush_spec hd hk.sec.1).mono ?_
  rintro e w' ⟨rfl, hu, hd'⟩
  exact ⟨rfl, grows_step hu fun _ h => .inl h, ⟨m1, m2, G, hd', rfl⟩, hk.flush hd.asc2⟩
theorem d_crash (h : Dsk w b D F) {p : Option Addr} {l c : Nat} {ks : List Int} (hk : IntsAt w p l ks) (hl : l ≤ 9223372036854775807) (hp : ∀ a, p = some a → ks ≠ [] → ¬ F a.block) :
    Calls Try.prog 51 #[.pointer (some (at0 b)), .slice p l c] w fun e w' => e = .returned (.tuple #[]) ∧ Step F F w w' ∧ Dsk w' b (crashD D ks) F := by
  obtain ⟨⟨m1, m2, G, hd, rfl⟩, hok⟩ := h
  refine (crash_spec hd hk hl fun a ha hne e => hp a ha hne (.inr (.inr (.inl e)))).mono ?_
  rintro e w' ⟨rfl, hu, hd'⟩
  exact ⟨rfl, grows_step hu fun _ h => .inl h, ⟨m1, m2, G, hd', rfl⟩, hok.crash hd.asc2 ks⟩
theorem d_fail (h : Dsk w b D F) : Calls Try.prog 56 #[.pointer (some (at0 b))] w fun e w' => e = .returned (.tuple #[]) ∧ Step F F w w' ∧ Dsk w' b { D with dead := true, lasts := [], waits := [] } F := by
  obtain ⟨⟨m1, m2, G, hd, rfl⟩, hk⟩ := h
  refine (fail_spec hd).mono ?_
  rintro e w' ⟨rfl, hu, hd'⟩
  exact ⟨rfl, grows_step hu fun _ h => .inl h, ⟨m1, m2, G, hd', rfl⟩, hk.empty true⟩
theorem d_replace (h : Dsk w b D F) : Calls Try.prog 57 #[.pointer (some (at0 b))] w fun e w' => e = .returned (.tuple #[]) ∧ Step F F w w' ∧ Dsk w' b { D with dead := false, lasts := [], waits := [] } F := by
  obtain ⟨⟨m1, m2, G, hd, rfl⟩, hk⟩ := h
  refine (replace_spec hd).mono ?_
  rintro e w' ⟨rfl, hu, hd'⟩
  exact ⟨rfl, grows_step hu fun _ h => .inl h, ⟨m1, m2, G, hd', rfl⟩, hk.empty false⟩
theorem d_corrupt (h : Dsk w b D F) (k a : Int) (y : UInt8) (ha : -9223372036854775808 ≤ a ∧ a ≤ 9223372036854775807) :
    Calls Try.prog 58 #[.pointer (some (at0 b)), .int .i64 k, .int .i64 a, .int .u8 (y.toNat : Int)] w fun e w' => ∃ F', e = .returned (.int .i64 (corruptZ D k)) ∧ Step F F' w w' ∧ Dsk w' b (corruptD D k a y) F' := by
  obtain ⟨⟨m1, m2, G, hd, rfl⟩, hk⟩ := h
  refine (corrupt_spec hd k a y ha).mono ?_
  rintro e w' ⟨G', rfl, hu, hd', hg⟩
  exact ⟨_, rfl, grows_step hu hg, ⟨m1, m2, G', hd', rfl⟩, hk.corrupt k a y⟩
end
end Go.Proofs.Ytnfcfbljdibinaa

/- Bytes of a call's own, behind steps of others. -/
namespace Go.Proofs.Ytnfcfbljdibinaa
open Go Go.Vc

theorem BytesAt.one {w : World} {k : Nat} {b : UInt8} {fz : Nat × Nat} (h : w.heap[k]? = some (.cells #[.int .u8 (b.toNat : Int)] 5 fz)) : BytesAt w (some (at0 k)) 1 [b] := by
  have : CellsAt w (some (at0 k)) (encB [b]) := by
    intro j u hj
    refine ⟨_, rfl, ?_⟩
    match j, hj with
    | 0, hj => cases hj; simp [World.cell?, Addr.add, h]
  exact BytesAt.of_cells this
theorem cell_own {w : World} {base : Nat} {e : TypeId} {p : Option Addr} {l c : Nat} {b : UInt8} {bs : List UInt8} (h : OwnS w base e 1 p l c (encB (b :: bs))) : ∃ a, p = some a ∧ w.cell? (a.add 0) = some (.int .u8 (b.toNat : Int)) :=
  h.cells 0 _ rfl

theorem ownS_step {F F' : Nat → Prop} {w w' : World} {base : Nat} {e : TypeId} {sz : Nat} {p : Option Addr} {n c : Nat} {xs : List Value} (h : OwnS w base e sz p n c xs) (hs : Step F F' w w') (hF : ∀ x, F x → x < base) :
    OwnS w' base e sz p n c xs := by
  refine h.upd hs.upd fun g hg hg' => ?_
  rcases h.where_ with ⟨h0, _⟩ | ⟨g', h0, hb, _⟩
  · rw [h0] at hg; cases hg
  · rw [h0] at hg
    simp only [Option.some.injEq, at0, Addr.mk.injEq, and_true] at hg
    have := hF g hg'
    omega
end Go.Proofs.Ytnfcfbljdibinaa
