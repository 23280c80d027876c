import Derived.Test.YtkolafpgbhpdlaaGreatProg
import Derived.Shelf.SortM.Plain
import Derived.Shelf.SortM.SortNone
import Derived.Test.YtkolafpgbhpdlaaGreatMI
import Derived.Sort.OwnSortedInts
import Derived.Lib.SliceRun
import Derived.Test.YtkolafpgbhpdlaaGreatGb
import Derived.Test.YtkolafpgbhpdlaaGreatMA
namespace Go.Proofs.YtkolafpgbhpdlaaGreat
open Go Go.Proofs Go.RowKit Go.Sort Go.Shelf
def hsortA_ren : Go.Shelf.Ren := ⟨fun | 5 => 103 | 8 => 147 | 7 => 146 | 19 => 186 | 20 => 187 | 10 => 177 | 11 => 178 | 12 => 179 | 13 => 180 | 14 => 181 | 15 => 182 | 16 => 183 | 17 => 184 | 18 => 185 | 30 => 195 | 31 => 196 | 32 => 197 | 33 => 198 | 34 => 199 | 35 => 200 | 40 => 207 | n => n, fun | 23 => 30 | 25 => 3 | 3 => 3 | 32 => 88 | 22 => 30 | 0 => 0 | 44 => 156 | 46 => 220 | 4 => 4 | 36 => 212 | 35 => 211 | 41 => 216 | 5 => 5 | 9 => 9 | 53 => 228 | 57 => 232 | 63 => 240 | 64 => 241 | n => n, fun | n => n⟩
theorem hsortA : Go.Proofs.SlLaysM.n5 Tryz.prog hsortA_ren := {
 mixed := by kernel_rfl
 f5 := ⟨Tryz.f103.name, by decide, Tryz.func103.trans (congrArg some (by kernel_rfl))⟩
 f7 := ⟨Tryz.f146.name, by decide, Tryz.func146.trans (congrArg some (by kernel_rfl))⟩
 f8 := Tryz.func147.trans (congrArg some (by kernel_rfl))
 f10 := ⟨Tryz.f177.name, by decide, Tryz.func177.trans (congrArg some (by kernel_rfl))⟩
 f11 := ⟨Tryz.f178.name, by decide, Tryz.func178.trans (congrArg some (by kernel_rfl))⟩
 f12 := ⟨Tryz.f179.name, by decide, Tryz.func179.trans (congrArg some (by kernel_rfl))⟩
 f13 := ⟨Tryz.f180.name, by decide, Tryz.func180.trans (congrArg some (by kernel_rfl))⟩
 f14 := ⟨Tryz.f181.name, by decide, Tryz.func181.trans (congrArg some (by kernel_rfl))⟩
 f15 := ⟨Tryz.f182.name, by decide, Tryz.func182.trans (congrArg some (by kernel_rfl))⟩
 f16 := ⟨Tryz.f183.name, by decide, Tryz.func183.trans (congrArg some (by kernel_rfl))⟩
 f17 := ⟨Tryz.f184.name, by decide, Tryz.func184.trans (congrArg some (by kernel_rfl))⟩
 f18 := ⟨Tryz.f185.name, by decide, Tryz.func185.trans (congrArg some (by kernel_rfl))⟩
 f19 := Tryz.func186.trans (congrArg some (by kernel_rfl))
 f20 := Tryz.func187.trans (congrArg some (by kernel_rfl))
 f30 := ⟨Tryz.f195.name, by decide, Tryz.func195.trans (congrArg some (by kernel_rfl))⟩
 f31 := Tryz.func196.trans (congrArg some (by kernel_rfl))
 f32 := Tryz.func197.trans (congrArg some (by kernel_rfl))
 f33 := ⟨Tryz.f198.name, by decide, Tryz.func198.trans (congrArg some (by kernel_rfl))⟩
 f34 := ⟨Tryz.f199.name, by decide, Tryz.func199.trans (congrArg some (by kernel_rfl))⟩
 f35 := ⟨Tryz.f200.name, by decide, Tryz.func200.trans (congrArg some (by kernel_rfl))⟩
 f40 := ⟨Tryz.f207.name, by decide, Tryz.func207.trans (congrArg some (by kernel_rfl))⟩
 t0 := Tryz.underlying0
 a0 := Tryz.isAgg0
 z0 := Tryz.sizeOf0
 v0 := Tryz.zeroValue0
 t3 := Tryz.underlying3
 a3 := Tryz.isAgg3
 z3 := Tryz.sizeOf3
 v3 := Tryz.zeroValue3
 t4 := Tryz.underlying4
 a4 := Tryz.isAgg4
 z4 := Tryz.sizeOf4
 v4 := Tryz.zeroValue4
 t5 := Tryz.underlying5
 a5 := Tryz.isAgg5
 z5 := Tryz.sizeOf5
 v5 := Tryz.zeroValue5
 t9 := Tryz.underlying9
 a9 := Tryz.isAgg9
 z9 := Tryz.sizeOf9
 v9 := Tryz.zeroValue9
 t22 := Tryz.underlying30
 a22 := Tryz.isAgg30
 z22 := Tryz.sizeOf30
 v22 := Tryz.zeroValue30
 t23 := Tryz.underlying30
 a23 := Tryz.isAgg30
 z23 := Tryz.sizeOf30
 v23 := Tryz.zeroValue30
 t25 := Tryz.underlying3
 a25 := Tryz.isAgg3
 z25 := Tryz.sizeOf3
 v25 := Tryz.zeroValue3
 t32 := Tryz.underlying88
 a32 := Tryz.isAgg88
 z32 := Tryz.sizeOf88
 v32 := Tryz.zeroValue88
 t35 := Tryz.underlying211
 a35 := Tryz.isAgg211
 z35 := Tryz.sizeOf211
 v35 := Tryz.zeroValue211
 t36 := Tryz.underlying212
 a36 := Tryz.isAgg212
 z36 := Tryz.sizeOf212
 v36 := Tryz.zeroValue212
 t41 := Tryz.underlying216
 a41 := Tryz.isAgg216
 z41 := Tryz.sizeOf216
 v41 := Tryz.zeroValue216
 t44 := Tryz.underlying156
 a44 := Tryz.isAgg156
 z44 := Tryz.sizeOf156
 v44 := Tryz.zeroValue156
 t46 := Tryz.underlying220
 a46 := Tryz.isAgg220
 z46 := Tryz.sizeOf220
 v46 := Tryz.zeroValue220
 t53 := Tryz.underlying228
 a53 := Tryz.isAgg228
 z53 := Tryz.sizeOf228
 v53 := Tryz.zeroValue228
 t57 := Tryz.underlying232
 a57 := Tryz.isAgg232
 z57 := Tryz.sizeOf232
 v57 := Tryz.zeroValue232
 t63 := Tryz.underlying240
 a63 := Tryz.isAgg240
 z63 := Tryz.sizeOf240
 v63 := Tryz.zeroValue240
 t64 := Tryz.underlying241
 a64 := Tryz.isAgg241
 z64 := Tryz.sizeOf241
 v64 := Tryz.zeroValue241 }
end Go.Proofs.YtkolafpgbhpdlaaGreat
namespace Go.Proofs.YtkolafpgbhpdlaaGreat
open Go Go.Vc Go.Gf
theorem OwnN.le {w : World} {base : Nat} {p : Option Addr} {n c : Nat} {l : List Nat} (h : OwnN w base p n c l) : n ≤ c := by
 rcases h.where_ with ⟨_, rfl, rfl⟩ | ⟨g, _, _, _, h, _⟩
 ·exact Nat.le_refl _
 ·exact h
theorem OwnN.get {w : World} {base : Nat} {p : Option Addr} {n c : Nat} {l : List Nat} (h : OwnN w base p n c l) {i : Nat} (hi : i < n) : ∃ k, p = some (at0 k) ∧ w.cell? ((at0 k).add i) = some (.int .i64 ((l.getD i 0 : Nat) : Int)) ∧ Live w ((at0 k).add i) ∧
  ∀ (v : Nat) w', SetC w ((at0 k).add i) (.int .i64 (v : Int)) w' → OwnN w' base (some (at0 k)) n c (l.set i v) ∧ Upd (fun x => x = k) w w' := by
 have hl := OwnN.len h
 rcases h.where_ with ⟨_, h0, _⟩ | ⟨k, rfl, hb, _⟩
 ·omega
 ·have hlt : i < l.length := by omega
  obtain ⟨a, ha, hc⟩ := OwnS.cells h i (.int .i64 ((l[i] : Nat) : Int)) (by simp [encN, hlt])
  cases ha
  refine ⟨k, rfl, by rw [hc]; simp [List.getD_eq_getElem?_getD, hlt], OwnS.live h (by rw [encN_length]; exact hlt), fun v w' hs => ?_⟩
  obtain ⟨h1, h2⟩ := OwnS.set h hs
  refine ⟨?_, h2⟩
  have : (encN l).set i (.int .i64 (v : Int)) = encN (l.set i v) := by simp [encN, List.map_set]
  rw [this] at h1
  exact h1
theorem OwnN.cut {w : World} {base : Nat} {p : Option Addr} {n c : Nat} {l : List Nat} (h : OwnN w base p n c l) {m : Nat} (hm : m ≤ n) : OwnN w base p m c (l.take m) := by
 have hl := OwnN.len h
 refine ⟨by rw [encN_length, List.length_take]; omega, ?_⟩
 rcases h.2 with ⟨hv, hn⟩ | ⟨g, cap, cur, hv, hb, hg, h1, h2, h3, h4⟩
 ·left
  simp only [Value.slice.injEq] at hv
  obtain ⟨rfl, rfl, rfl⟩ := hv
  have : m = 0 := by omega
  subst this
  exact ⟨rfl, rfl⟩
 ·right
  simp only [Value.slice.injEq] at hv
  obtain ⟨rfl, _, rfl⟩ := hv
  refine ⟨g, c, cur, rfl, hb, hg, by omega, h2, h3, ?_⟩
  rw [Nat.mul_one] at h4 ⊢
  have : encN (l.take m) = (encN l).take m := by simp [encN, List.map_take]
  rw [this, ← h4, List.take_take, Nat.min_eq_left hm]
theorem OwnS.behind {e : TypeId} {base k n c : Nat} {xs : List Value} : ∀ (vs : List Value) (o : Nat) (w : World), n ≤ o → OwnS w base e 1 (some (at0 k)) n c xs → OwnS (w.setCells k o vs) base e 1 (some (at0 k)) n c xs ∧ Upd (fun x => x = k) w (w.setCells k o vs)
 | [], _, w, _, h => ⟨h, Upd.refl _ _⟩
 | v :: vs, o, w, ho, h => by
  have hs : SetC w ⟨k, o, none⟩ v (w.setCell ⟨k, o, none⟩ v) := rfl
  have hu : Upd (fun x => x = k) w (w.setCell ⟨k, o, none⟩ v) := hs.upd
  have h1 : OwnS (w.setCell ⟨k, o, none⟩ v) base e 1 (some (at0 k)) n c xs := by
   refine ⟨h.1, ?_⟩
   rcases h.2 with ⟨hv, _⟩ | ⟨g, cap, cur, hv, hb, hg, h1, h2, h3, h4⟩
   ·simp at hv
   ·right
    simp only [Value.slice.injEq, Option.some.injEq, at0, Addr.mk.injEq, and_true] at hv
    obtain ⟨rfl, _, rfl⟩ := hv
    refine ⟨k, c, cur.setIfInBounds o v, rfl, hb, hs.at hg rfl, h1, h2, by simp [h3], ?_⟩
    rw [Array.toList_setIfInBounds, ← h4, Nat.mul_one]
    refine List.ext_getElem? fun j => ?_
    rw [List.getElem?_take, List.getElem?_take]
    by_cases hj : j < n
    ·rw [if_pos hj, if_pos hj, List.getElem?_set_ne (by omega)]
    ·rw [if_neg hj, if_neg hj]
  obtain ⟨h2, h3⟩ := OwnS.behind vs (o + 1) _ (by omega) h1
  exact ⟨h2, Upd.trans hu h3 fun _ _ h => h⟩
theorem sort_own {w : World} {base : Nat} {p : Option Addr} {n c : Nat} {l : List Nat} (h : OwnN w base p n c l) (hn : n ≤ 1073741824) :
  Calls Tryz.prog 103 #[.slice p n c] w fun e w' => e = .returned (.tuple #[]) ∧ ∃ l', OwnN w' base p n c l' ∧ Upd (fun x => p = some (at0 x)) w w' ∧ l'.Perm l ∧ l'.Pairwise (· ≤ ·) := by
 have hl := OwnN.len h
 rcases h.where_ with ⟨rfl, rfl, rfl⟩ | ⟨g, rfl, hb, hg, hnc, cur, hcur, hcs, htake⟩
 ·refine (AnyM.slices_Sort_int_none hsortA none 0 w).mono ?_
  rintro e w' ⟨rfl, rfl⟩
  have : l = [] := List.eq_nil_of_length_eq_zero hl.symm
  subst this
  exact ⟨rfl, [], h, Upd.refl _ _, List.Perm.refl _, List.Pairwise.nil⟩
 ·have hz : (l.map fun i : Nat => (i : Int)).length = n := by rw [List.length_map, hl]
  have hmap : (l.map fun i : Nat => (i : Int)).map (Value.int .i64) = encN l := by simp [encN]
  have hH := holds_of_blockI (ss := l.map fun i : Nat => (i : Int)) hcur (by rw [hz, hmap, ← htake, Nat.mul_one])
  have hs := AnyM.slices_Sort_int hsortA g 0 c (l.map fun i : Nat => (i : Int)) w hH hg (by rw [hz]; omega)
  rw [hz] at hs
  refine hs.mono ?_
  rintro e w' ⟨rfl, m, os, rfl⟩
  let ts := (l.map fun i : Nat => (i : Int)).mergeSort fun x y => decide (x ≤ y)
  have hp : ts.Perm (l.map fun i : Nat => (i : Int)) := List.mergeSort_perm _ _
  have hsorted : ts.Pairwise (· ≤ ·) := by
   have := List.pairwise_mergeSort (le := fun x y : Int => decide (x ≤ y)) (fun a b c h1 h2 => by simp at *; omega) (fun a b => by simp; omega) (l.map fun i : Nat => (i : Int))
   exact this.imp fun h => by simpa using h
  have hnn : ∀ x ∈ ts, 0 ≤ x := fun x hx => by
   obtain ⟨i, _, rfl⟩ := List.mem_map.1 (hp.mem_iff.1 hx)
   omega
  have hts : (ts.map Int.toNat).map (fun i : Nat => (i : Int)) = ts := by
   rw [List.map_map]
   refine (List.map_congr_left fun x hx => ?_).trans (List.map_id ts)
   have := hnn x hx
   show ((x.toNat : Nat) : Int) = x
   omega
  have henc : encN (ts.map Int.toNat) = ts.map (Value.int .i64) := by
   conv => rhs; rw [← hts]
   simp [encN]
  have hlen : ts.length = (l.map fun i : Nat => (i : Int)).length := hp.length_eq
  refine ⟨rfl, ts.map Int.toNat, ?_, ?_, ?_, ?_⟩
  ·have h1 := ownsRow_sortedI (n := m) (os := os) hlen hb hcur (by rw [hz]; exact hnc) (by
    rcases h.2 with ⟨hv, _⟩ | ⟨g', cap, cur', hv, _, _, _, h2, _⟩
    ·simp at hv
    ·simp only [Value.slice.injEq] at hv
     rw [hv.2.2]; exact h2) hcs
   rw [hz] at h1
   unfold OwnN OwnS
   rw [henc]
   exact h1
  ·have h1 := grownBy_sortedI (w := w) (g := g) (n := m) (os := os) ts.toArray
   refine ⟨h1.os, h1.tape, h1.output, h1.size, fun b hb' hS => h1.block b hb' ?_⟩
   intro e
   simp only [Option.some.injEq] at e
   exact hS (by rw [e])
  ·have h1 := hp.map Int.toNat
   rw [List.map_map] at h1
   have h2 : l.map (Int.toNat ∘ fun i : Nat => (i : Int)) = l := (List.map_congr_left fun x _ => by show ((x : Int)).toNat = x; omega).trans (List.map_id l)
   rwa [h2] at h1
  ·rw [List.pairwise_map]
   exact hsorted.imp_of_mem fun {a b} ha hb h => by
    have := hnn a ha
    have := hnn b hb
    omega
theorem getD_mem {l : List Nat} {i : Nat} (h : i < l.length) : l.getD i 0 ∈ l := by
 rw [List.getD_eq_getElem?_getD, List.getElem?_eq_getElem h]
 exact List.getElem_mem h
theorem sorted_get {l : List Nat} (h : l.Pairwise (· ≤ ·)) {i j : Nat} (hij : i ≤ j) (hj : j < l.length) : l.getD i 0 ≤ l.getD j 0 := by
 rcases Nat.lt_or_ge i j with h1 | h1
 ·simp only [List.getD_eq_getElem?_getD, List.getElem?_eq_getElem hj, List.getElem?_eq_getElem (show i < l.length by omega), Option.getD_some]
  exact List.pairwise_iff_getElem.1 h i j _ _ h1
 ·rw [show i = j by omega]; exact Nat.le_refl _
theorem set_getD (r : List Nat) (i v j : Nat) (hi : i < r.length) : (r.set i v).getD j 0 = if j = i then v else r.getD j 0 := by
 simp only [List.getD_eq_getElem?_getD, List.getElem?_set]
 by_cases h : j = i
 ·subst h; simp [hi]
 ·rw [if_neg (fun e => h e.symm), if_neg h]
structure Comp (l r : List Nat) (i t : Nat) : Prop where
 len : r.length = l.length
 it : 0 < i ∧ i < t ∧ t ≤ l.length
 tail : ∀ j, t ≤ j + 1 → j < l.length → r.getD j 0 = l.getD j 0
 strict : ∀ a b, a < b → b < i → r.getD a 0 < r.getD b 0
 last : r.getD (i - 1) 0 = l.getD (t - 1) 0
 sub : ∀ a, a < i → ∃ b, b < t ∧ r.getD a 0 = l.getD b 0
 sup : ∀ b, b < t → ∃ a, a < i ∧ r.getD a 0 = l.getD b 0
theorem Comp.init {l : List Nat} {i : Nat} (h : ∀ a b, a < b → b < i → l.getD a 0 < l.getD b 0) (h0 : 0 < i) (hi : i < l.length) (he : l.getD i 0 = l.getD (i - 1) 0) : Comp l l i (i + 1) :=
 ⟨rfl, ⟨h0, by omega, by omega⟩, fun _ _ _ => rfl, h, by rw [Nat.add_sub_cancel, he], fun a ha => ⟨a, by omega, rfl⟩, fun b hb => by
  by_cases e : b = i
  ·exact ⟨i - 1, by omega, by rw [e, he]⟩
  ·exact ⟨b, by omega, rfl⟩⟩
theorem Comp.same {l r : List Nat} {i t : Nat} (h : Comp l r i t) (ht : t < l.length) (he : l.getD t 0 = l.getD (t - 1) 0) : Comp l r i (t + 1) := by
 obtain ⟨h0, h1, h2⟩ := h.it
 refine ⟨h.len, ⟨h0, by omega, by omega⟩, fun j hj hl => h.tail j (by omega) hl, h.strict, by rw [h.last, Nat.add_sub_cancel, he], fun a ha => ?_, fun b hb => ?_⟩
 ·obtain ⟨b, hb, e⟩ := h.sub a ha
  exact ⟨b, by omega, e⟩
 ·by_cases e : b = t
  ·obtain ⟨a, ha, e2⟩ := h.sup (t - 1) (by omega)
   exact ⟨a, ha, by rw [e2, e, he]⟩
  ·exact h.sup b (by omega)
theorem Comp.more {l r : List Nat} {i t : Nat} (h : Comp l r i t) (hs : l.Pairwise (· ≤ ·)) (ht : t < l.length) (he : l.getD t 0 ≠ l.getD (t - 1) 0) : Comp l (r.set i (l.getD t 0)) (i + 1) (t + 1) := by
 obtain ⟨h0, h1, h2⟩ := h.it
 have hl := h.len
 have hlt : l.getD (t - 1) 0 < l.getD t 0 := by
  have := sorted_get hs (i := t - 1) (j := t) (by omega) ht
  omega
 have hge : ∀ a, a < i → r.getD a 0 ≤ r.getD (i - 1) 0 := fun a ha => by
  by_cases e : a = i - 1
  ·rw [e]; exact Nat.le_refl _
  ·exact Nat.le_of_lt (h.strict a (i - 1) (by omega) (by omega))
 refine ⟨by rw [List.length_set, hl], ⟨by omega, by omega, by omega⟩, fun j hj hjl => ?_, fun a b hab hb => ?_, ?_, fun a ha => ?_, fun b hb => ?_⟩
 ·rw [set_getD _ _ _ _ (by omega), if_neg (by omega)]
  exact h.tail j (by omega) hjl
 ·rw [set_getD _ _ _ _ (by omega), set_getD _ _ _ _ (by omega), if_neg (by omega)]
  by_cases e : b = i
  ·rw [if_pos e]
   have := hge a (by omega)
   have := h.last
   omega
  ·rw [if_neg e]; exact h.strict a b hab (by omega)
 ·rw [set_getD _ _ _ _ (by omega), if_pos (by omega), Nat.add_sub_cancel]
 ·rw [set_getD _ _ _ _ (by omega)]
  by_cases e : a = i
  ·rw [if_pos e]; exact ⟨t, by omega, rfl⟩
  ·rw [if_neg e]
   obtain ⟨b, hb, e2⟩ := h.sub a (by omega)
   exact ⟨b, by omega, e2⟩
 ·by_cases e : b = t
  ·exact ⟨i, by omega, by rw [set_getD _ _ _ _ (by omega), if_pos rfl, e]⟩
  ·obtain ⟨a, ha, e2⟩ := h.sup b (by omega)
   exact ⟨a, by omega, by rw [set_getD _ _ _ _ (by omega), if_neg (by omega), e2]⟩
theorem Comp.done {l r : List Nat} {i : Nat} (h : Comp l r i l.length) : (r.take i).Pairwise (· < ·) ∧ ∀ x, x ∈ r.take i ↔ x ∈ l := by
 obtain ⟨h0, h1, h2⟩ := h.it
 have hl := h.len
 have hg : ∀ a (ha : a < (r.take i).length), (r.take i)[a] = r.getD a 0 := fun a ha => by
  have : a < r.length := by simp at ha; omega
  simp [List.getD_eq_getElem?_getD, this]
 refine ⟨List.pairwise_iff_getElem.2 fun a b ha hb hab => ?_, fun x => ⟨fun hx => ?_, fun hx => ?_⟩⟩
 ·rw [hg, hg]
  exact h.strict a b hab (by simp at hb; omega)
 ·obtain ⟨a, ha, rfl⟩ := List.getElem_of_mem hx
  rw [hg]
  obtain ⟨b, hb, e⟩ := h.sub a (by simp at ha; omega)
  rw [e]
  exact getD_mem hb
 ·obtain ⟨b, hb, rfl⟩ := List.getElem_of_mem hx
  obtain ⟨a, ha, e⟩ := h.sup b hb
  have e2 : l[b] = l.getD b 0 := by simp [List.getD_eq_getElem?_getD, hb]
  have ha' : a < (r.take i).length := by simp; omega
  rw [e2, ← e, ← hg a ha']
  exact List.getElem_mem ha'
set_option maxHeartbeats 4000000 in
theorem compact_own {w : World} {base : Nat} {p : Option Addr} {n c : Nat} {l : List Nat} (h : OwnN w base p n c l) (hs : l.Pairwise (· ≤ ·)) (hn : n ≤ 1073741824) :
  Calls Tryz.prog 104 #[.slice p n c] w fun e w' => ∃ n' l', e = .returned (.slice p n' c) ∧ OwnN w' base p n' c l' ∧ Upd (fun x => p = some (at0 x)) w w' ∧ l'.Pairwise (· < ·) ∧ ∀ x, x ∈ l' ↔ x ∈ l := by
 have hl := OwnN.len h
 refine (F104_calls p n c w (fun v w' => ∃ n' l', v = .slice p n' c ∧ OwnN w' base p n' c l' ∧ Upd (fun x => p = some (at0 x)) w w' ∧ l'.Pairwise (· < ·) ∧ ∀ x, x ∈ l' ↔ x ∈ l)
  (fun _ i w1 => 1 ≤ i ∧ i ≤ n ∧ Ext w w1 ∧ ∀ a b : Nat, a < b → (b : Int) < i → l.getD a 0 < l.getD b 0) (fun _ i _ => (n - i).toNat)
  (fun _ l2 _ _ i j w1 => 1 ≤ j ∧ j ≤ l2 ∧ l2 ≤ n ∧ 0 ≤ i ∧ Upd (fun x => p = some (at0 x)) w w1 ∧ ∃ r, OwnN w1 base p n c r ∧ Comp l r i.toNat ((n - l2) + j.toNat)) (fun _ l2 _ _ _ j _ => (l2 - j).toNat) ?_).mono (by
  rintro e w' ⟨v, rfl, n', l', rfl, h⟩; exact ⟨n', l', rfl, h⟩)
 unfold F104
 refine condB_of (fun h2 => ?_) (fun h2 => ?_)
 ·simp only [decide_eq_true_eq] at h2
  refine ⟨n, l, rfl, h, Upd.refl _ _, ?_, fun x => Iff.rfl⟩
  match l, hl with
  | [], _ => exact List.Pairwise.nil
  | [a], _ => exact List.pairwise_singleton _ _
  | a :: b :: t, hl => simp at hl; omega
 simp only [decide_eq_false_iff_not] at h2
 refine ⟨⟨by omega, by omega, Upd.refl _ _, fun a b h3 h4 => by omega⟩, ?_⟩
 rintro i w1 ⟨hi0, hi1, hx, hst⟩
 intros
 refine condB_of (fun hs2 => ?_) (fun hs2 => ?_)
 ·simp only [decide_eq_true_eq] at hs2
  intro w57 hd
  have x57 := hx.trans hd.ext
  have o57 : OwnN w57 base p n c l := OwnS.ext h x57
  rw [w64 (n := i - 1) (by omega)]
  obtain ⟨k, rfl, c1, lv1, _⟩ := OwnN.get o57 (i := i.toNat) (by omega)
  obtain ⟨k', hk', c2, _, _⟩ := OwnN.get o57 (i := i.toNat - 1) (by omega)
  cases hk'
  have e1 : (i - 1).toNat = i.toNat - 1 := by omega
  rw [e1, Nat.mul_one, Nat.mul_one]
  refine ⟨⟨by omega, hs2⟩, _, c1, ⟨by omega, by omega⟩, _, c2, condB_of (fun he => ?_) (fun he => ?_)⟩
  ·simp only [decide_eq_true_eq] at he
   have he' : l.getD i.toNat 0 = l.getD (i.toNat - 1) 0 := by omega
   have hcomp : Comp l l i.toNat (i.toNat + 1) := Comp.init (fun a b h3 h4 => hst a b h3 (by omega)) (by omega) (by omega) he'
   refine ⟨⟨by omega, by omega⟩, ⟨by omega, by omega, by omega, by omega, x57.upd, l, o57, ?_⟩, ?_⟩
   ·rw [show n - (n - i.toNat) + (1 : Int).toNat = i.toNat + 1 by have : (1 : Int).toNat = 1 := rfl; omega]
    exact hcomp
   rintro i2 j w67 ⟨hj0, hj1, _, hi20, hu, r, hr, hc⟩
   intros
   have hle := OwnN.le hr
   obtain ⟨q0, q1, q2⟩ := hc.it
   have hcut : cutP (some (at0 k)) c i.toNat 1 = some ((at0 k).add i.toNat) := by
    unfold cutP
    rw [if_neg (by omega)]
    show some ((at0 k).add (i.toNat * 1)) = _
    rw [Nat.mul_one]
   rw [hcut]
   refine condB_of (fun hs3 => ?_) (fun hs3 => ?_)
   ·simp only [decide_eq_true_eq] at hs3
    intro w93 hd93
    have hr93 : OwnN w93 base (some (at0 k)) n c r := OwnS.ext hr hd93.ext
    have u93 : Upd (fun x => some (at0 k) = some (at0 x)) w w93 := Upd.trans hu hd93.ext.upd fun _ _ h => h
    rw [w64 (n := j - 1) (by omega), w64 (n := j + 1) (by omega), w64 (n := i2 + 1) (by omega)]
    have e2 : (j - 1).toNat = j.toNat - 1 := by omega
    obtain ⟨k1, hk1, d1, _, _⟩ := OwnN.get hr93 (i := i.toNat + j.toNat) (by omega)
    cases hk1
    obtain ⟨k1, hk1, d2, _, _⟩ := OwnN.get hr93 (i := i.toNat + (j.toNat - 1)) (by omega)
    cases hk1
    obtain ⟨k1, hk1, _, lv, hset⟩ := OwnN.get hr93 (i := i2.toNat) (by omega)
    cases hk1
    simp only [e2, Nat.mul_one]
    have t1 := hc.tail (i.toNat + j.toNat) (by omega) (by omega)
    have t2 := hc.tail (i.toNat + (j.toNat - 1)) (by omega) (by omega)
    have ht : n - (n - i.toNat) + j.toNat = i.toNat + j.toNat := by omega
    rw [ht] at hc
    have hmeas : (((n - i.toNat : Nat) : Int) - (j + 1)).toNat < (((n - i.toNat : Nat) : Int) - j).toNat := by omega
    refine ⟨⟨by omega, hs3⟩, _, by rw [add_add]; exact d1, ⟨by omega, by omega⟩, _, by rw [add_add]; exact d2, condB_of (fun hne => ?_) (fun hne => ?_)⟩
    ·simp only [Bool.not_eq_true', decide_eq_false_iff_not] at hne
     refine ⟨⟨by omega, by omega⟩, _, by rw [add_add]; exact d1, ⟨by omega, by omega⟩, lv, fun w101 s101 => ?_⟩
     obtain ⟨hr101, u101⟩ := hset _ _ s101
     refine ⟨⟨by omega, by omega, by omega, by omega, Upd.trans u93 (u101.mono fun x _ hx => by rw [show x = k from hx]) fun _ _ h => h, _, hr101, ?_⟩, hmeas⟩
     rw [show n - (n - i.toNat) + (j + 1).toNat = i.toNat + j.toNat + 1 by omega, show (i2 + 1).toNat = i2.toNat + 1 by omega, t1]
     refine hc.more hs (by omega) ?_
     rw [show i.toNat + j.toNat - 1 = i.toNat + (j.toNat - 1) by omega, ← t1, ← t2]
     omega
    ·simp only [Bool.not_eq_false', decide_eq_true_eq] at hne
     refine ⟨⟨by omega, by omega, by omega, by omega, u93, r, hr93, ?_⟩, hmeas⟩
     rw [show n - (n - i.toNat) + (j + 1).toNat = i.toNat + j.toNat + 1 by omega]
     refine hc.same (by omega) ?_
     rw [show i.toNat + j.toNat - 1 = i.toNat + (j.toNat - 1) by omega, ← t1, ← t2]
     omega
   ·simp only [decide_eq_false_iff_not] at hs3
    have ht : n - (n - i.toNat) + j.toNat = l.length := by omega
    rw [ht] at hc q1
    obtain ⟨hd1, hd2⟩ := hc.done
    have hcut2 : cutP (some (at0 k)) c i2.toNat 1 = some ((at0 k).add i2.toNat) := by
     unfold cutP
     rw [if_neg (by omega)]
     show some ((at0 k).add (i2.toNat * 1)) = _
     rw [Nat.mul_one]
    rw [hcut2, cutP0, Nat.sub_zero, Nat.sub_zero, add_at0]
    have hrk := Lib.run_clear_slice (P := Tryz.prog) w67 30 3 0 (.int .i64 0) (by kernel_rfl) (fun w => by kernel_rfl) rfl rfl k i2.toNat (n - i2.toNat) (c - i2.toNat) (by omega)
     (fun t ht => by
      obtain ⟨k1, hk1, d1, _, _⟩ := OwnN.get hr (i := i2.toNat + t) (by omega)
      cases hk1
      rw [add_at0] at d1
      rw [d1]; rfl) (fun t ht => by
      obtain ⟨k1, hk1, _, lv, _⟩ := OwnN.get hr (i := i2.toNat + t) (by omega)
      cases hk1
      have := lv.2
      rwa [add_at0] at this)
    obtain ⟨g1, g2⟩ := OwnS.behind (List.replicate (n - i2.toNat) (.int .i64 0)) i2.toNat w67 (Nat.le_refl _) (OwnN.cut hr (m := i2.toNat) (by omega))
    refine ⟨⟨by omega, by omega⟩, _, _, hrk, ⟨by omega, by omega⟩, i2.toNat, _, rfl, g1, Upd.trans hu (g2.mono fun x _ hx => by rw [show x = k from hx]) fun _ _ h => h, hd1, hd2⟩
  ·simp only [decide_eq_false_iff_not] at he
   rw [w64 (n := i + 1) (by omega)]
   refine ⟨⟨by omega, by omega, x57, fun a b hab hb => ?_⟩, by show ((n : Int) - (i + 1)).toNat < ((n : Int) - i).toNat; omega⟩
   by_cases e : (b : Int) < i
   ·exact hst a b hab e
   ·have hb' : b = i.toNat := by omega
    have h3 := sorted_get hs (i := i.toNat - 1) (j := i.toNat) (by omega) (by omega)
    have h4 : l.getD (i.toNat - 1) 0 < l.getD i.toNat 0 := by omega
    rw [hb']
    by_cases e2 : a = i.toNat - 1
    ·rw [e2]; exact h4
    ·have := hst a (i.toNat - 1) (by omega) (by omega)
     omega
 ·simp only [decide_eq_false_iff_not] at hs2
  refine ⟨n, l, rfl, OwnS.ext h hx, hx.upd, List.pairwise_iff_getElem.2 fun a b ha hb hab => ?_, fun x => Iff.rfl⟩
  have := hst a b hab (by omega)
  simpa [List.getD_eq_getElem?_getD, ha, hb] using this
end Go.Proofs.YtkolafpgbhpdlaaGreat
namespace Go.Proofs.YtkolafpgbhpdlaaGreat
open Go Go.Vc Go.Gf
theorem made_one (e : TypeId) (v : Value) (hz : zeroCellsOf Tryz.prog e = [v]) (n : Nat) : madeRow Tryz.prog e n = (List.replicate n v).toArray := by
 have h1 : (List.replicate n [v]).flatten = List.replicate n v := by
  clear hz
  induction n with
  | zero => rfl
  | succ n ih => rw [List.replicate_succ, List.flatten_cons, ih, List.replicate_succ]; rfl
 show ((List.replicate n (zeroCellsOf Tryz.prog e)).flatten).toArray = _
 rw [hz, h1]
def shardsP (w : World) (k m : Int) (l3 l4 : Nat) (hs : List Bool) (L : List (List UInt8)) (v : Value) (w' : World) : Prop := Ext w w' ∧
 ((¬ kmOk k m ∧ v = .tuple #[.slice none 0 0, .slice none 0 0, .int .i64 50]) ∨
  (kmOk k m ∧ (∀ s, ¬ Sized k m l3 l4 hs L s) ∧ v = .tuple #[.slice none 0 0, .slice none 0 0, .int .i64 60]) ∨
  kmOk k m ∧ ∃ s, Sized k m l3 l4 hs L s ∧ (((∃ x, x < s ∧ decM k.toNat m.toNat (wordAt l3 hs L x) (nots hs) = none) ∧ v = .tuple #[.slice none 0 0, .slice none 0 0, .int .i64 100]) ∨
  ∃ cs : List (List UInt8), cs.length = s ∧ (∀ x, x < s → decM k.toNat m.toNat (wordAt l3 hs L x) (nots hs) = some (cs.getD x [])) ∧ ∃ ko p2 n2 c2 W, v = .tuple #[.slice (some (at0 ko)) l3 l3, .slice p2 n2 c2, .int .i64 0] ∧
   OutAt w' w.heap.size ko l3 (fun i => cs.map fun c => co c i) ∧ OwnN w' w.heap.size p2 n2 c2 W ∧ W.Pairwise (· < ·) ∧ ∀ i, i ∈ W ↔ ∃ x, x < s ∧ i ∈ dif l3 (nots hs) (cs.getD x []) (wordAt l3 hs L x)))
theorem dif_len_le {n : Nat} {ms : List Bool} {a b : List UInt8} : (dif n ms a b).length ≤ n := by
 unfold dif
 refine Nat.le_trans (List.length_filter_le _ _) ?_
 rw [List.length_range]; exact Nat.le_refl _
theorem getD_snoc {cs : List (List UInt8)} {c : List UInt8} {x : Nat} (hx : x < cs.length) : (cs ++ [c]).getD x [] = cs.getD x [] := by
 simp only [List.getD_eq_getElem?_getD]
 rw [List.getElem?_append_left hx]
theorem getD_last (cs : List (List UInt8)) (c : List UInt8) : (cs ++ [c]).getD cs.length [] = c := by simp [List.getD_eq_getElem?_getD]
set_option maxHeartbeats 8000000 in
theorem shards_spec {f p3 p4 : Option Addr} {w : World} {l3 c3 l4 c4 : Nat} {hs : List Bool} {L : List (List UInt8)} (hf : FieldAt w f) (h3 : FlagsAt w p3 l3 hs) (h4 : ListsAt w p4 l4 L) (k m : Int) (bl : ∀ x ∈ L, x.length ≤ 1048576) :
  Calls Tryz.prog 65 #[.pointer f, .int .i64 k, .int .i64 m, .slice p3 l3 c3, .slice p4 l4 c4] w fun e w' => ∃ v, e = .returned v ∧ shardsP w k m l3 l4 hs L v w' := by
 refine F65_calls f k m p3 l3 c3 p4 l4 c4 w (shardsP w k m l3 l4 hs L)
  (fun q33 q36 q8 q10 q12 q42 q14 q6 _ _ s _ fl x w1 => 0 ≤ x ∧ x ≤ s ∧ fl = 0 ∧ ∃ k6 k8 k10 k12 k14 k33 k36 k42 k31 k40 cs wr, q33 = some (at0 k33) ∧ q36 = some (at0 k36) ∧ q8 = some (at0 k8) ∧ q10 = some (at0 k10) ∧ q12 = some (at0 k12) ∧ q42 = some (at0 k42) ∧ q14 = some (at0 k14) ∧ q6 = some (at0 k6) ∧ (cs : List (List UInt8)).length = x.toNat ∧
   (∀ t, t < x.toNat → decM k.toNat m.toNat (wordAt l3 hs L t) (nots hs) = some (cs.getD t [])) ∧ ShSt w w1 k m l3 f p3 p4 l3 c3 l4 c4 k6 k8 k10 k12 k14 k33 k36 k42 k31 k40 (fun i => cs.map fun c => co c i) wr ∧ wr.length ≤ 256 * x.toNat ∧
   ∀ i, i ∈ wr ↔ ∃ t, t < x.toNat ∧ i ∈ dif l3 (nots hs) (cs.getD t []) (wordAt l3 hs L t))
  (fun _ _ _ _ _ _ _ _ _ _ s _ _ x _ => (s - x).toNat) ?_
 intro k6 w7 h6 k8 w9 h8 k10 w11 h10 k12 w13 h12 k14 w15 h14
 have x15 : Ext w w15 := h6.ext.trans (h8.ext.trans (h10.ext.trans (h12.ext.trans h14.ext)))
 have r6 : RowK w15 k6 33 #[.pointer f] := h14.ext.keep (h12.ext.keep (h10.ext.keep (h8.ext.keep h6.at)))
 have r8 : RowK w15 k8 3 #[.int .i64 k] := h14.ext.keep (h12.ext.keep (h10.ext.keep h8.at))
 have r10 : RowK w15 k10 3 #[.int .i64 m] := h14.ext.keep (h12.ext.keep h10.at)
 have r12 : RowK w15 k12 116 #[.slice p3 l3 c3] := h14.ext.keep h12.at
 have r14 : RowK w15 k14 79 #[.slice p4 l4 c4] := h14.at
 refine ⟨_, r6.cell, ?_⟩
 rw [hf.there]
 refine condB_of (fun h => by cases h) fun _ => ⟨_, r8.cell, _, r10.cell, (ccheck_spec k m w15).mono ?_⟩
 rintro e w19 ⟨rfl, rfl⟩
 refine ⟨_, rfl, condB_of (fun hc => ?_) (fun hc => ?_)⟩
 ·simp only [Bool.not_eq_true', decide_eq_false_iff_not] at hc
  have hk : ¬ kmOk k m := fun h => hc (kmE_ok h)
  refine ⟨x15, .inl ⟨hk, ?_⟩⟩
  rw [kmE_bad hk]
 simp only [Bool.not_eq_false', decide_eq_true_eq] at hc
 have hk : kmOk k m := Decidable.byContradiction fun h => by rw [kmE_bad h] at hc; omega
 obtain ⟨a1, a2, a3, a4⟩ := hk
 have hk : kmOk k m := ⟨a1, a2, a3, a4⟩
 refine ⟨_, r8.cell, _, r10.cell, _, _, _, r12.cell, _, _, _, r14.cell, ?_⟩
 refine (size_spec (c3 := c3) (c4 := c4) (h3.ext x15) (h4.ext x15) hk).mono ?_
 rintro e w26 ⟨⟨r, rfl, hr⟩, rfl⟩
 refine ⟨_, rfl, condB_of (fun hneg => ?_) (fun hneg => ?_)⟩
 ·simp only [decide_eq_true_eq] at hneg
  rcases hr with ⟨_, hno⟩ | ⟨h0, _⟩
  ·exact ⟨x15, .inr (.inl ⟨hk, hno, rfl⟩)⟩
  ·omega
 simp only [decide_eq_false_iff_not] at hneg
 rcases hr with ⟨h0, _⟩ | ⟨hr0, hsz⟩
 ·omega
 have e3 := h3.1
 have e4 := h4.1
 have z1 := hsz.1
 have z2 := hsz.2.1
 have hn : (k + m).toNat = l3 := by omega
 have hn2 : k.toNat + m.toNat = l3 := by omega
 refine ⟨_, r8.cell, _, r10.cell, ?_⟩
 rw [w64 (n := k + m) (by omega), hn]
 refine ⟨⟨by omega, by omega, by omega⟩, fun k31 w32 h31 k33 w34 h33 => ?_⟩
 have t33 : RowK w34 k33 79 #[.slice none 0 0] := h33.at
 have m31 := made_one 25 (.slice none 0 0) (by kernel_rfl) l3
 have m40 := made_one 4 (.bool false) (by kernel_rfl) l3
 rw [m31] at h31
 refine ⟨t33.live, fun w35 s35 => ?_⟩
 have t33' := t33.set s35
 have u35 := setK_upd s35
 have k33ge : w26.heap.size ≤ k33 := by rw [h33.size.1]; have := h31.size.2; omega
 have x35 : Ext w26 w35 := OwnB.new_ext (h31.ext.trans h33.ext) u35 fun y hy => by rw [show y = k33 from hy]; exact k33ge
 intro k36 w37 h36
 have x37 : Ext w26 w37 := x35.trans h36.ext
 refine ⟨_, RowK.cell (x37.keep r8), _, RowK.cell (x37.keep r10), ?_⟩
 rw [w64 (n := k + m) (by omega), hn]
 refine ⟨⟨by omega, by omega, by omega⟩, fun k40 w41 h40 k42 w43 h42 => ?_⟩
 rw [m40] at h40
 have t42 : RowK w43 k42 116 #[.slice none 0 0] := h42.at
 refine ⟨t42.live, fun w44 s44 => ?_⟩
 have u44 := setK_upd s44
 have szw := x15.size
 have sz37 := x37.size
 have k40ge : w37.heap.size ≤ k40 := by rw [h40.size.1]; exact Nat.le_refl _
 have k42ge : w37.heap.size ≤ k42 := by rw [h42.size.1]; have := h40.size.2; omega
 have x44 : Ext w37 w44 := OwnB.new_ext (h40.ext.trans h42.ext) u44 fun y hy => by rw [show y = k42 from hy]; exact k42ge
 have x1944 := x37.trans x44
 have xw44 := x15.trans x1944
 have r31 : RowK w35 k31 25 (List.replicate l3 (.slice none 0 0)).toArray := RowK.keep (h33.ext.keep h31.at) u35 fun y hy => ⟨#[.slice none 0 0], _, (0, 0), by rw [show y = k33 from hy]; exact t33, ty_row.2.2.2.1.symm⟩
 have k31ge : w26.heap.size ≤ k31 := by rw [h31.size.1]; exact Nat.le_refl _
 have st0 : ShSt w w44 k m l3 f p3 p4 l3 c3 l4 c4 k6 k8 k10 k12 k14 k33 k36 k42 k31 k40 (fun i => ([] : List (List UInt8)).map fun c => co c i) [] := by
  have h15 : ∀ {k' : Nat} {e : TypeId} {cs : Array Value}, RowK w26 k' e cs → k' < w26.heap.size := fun h => lt_of_heap h
  have lt37 : k31 < w37.heap.size := lt_of_heap (h36.ext.keep r31)
  refine ⟨xw44, by rw [h36.size.1]; exact (x15.trans x35).size, by omega, x1944.keep r6, x1944.keep r8, x1944.keep r10, x1944.keep r12, x1944.keep r14, x44.keep (h36.ext.keep t33'), t42.set s44,
   ⟨by have := h15 r12; omega, by have := h15 r14; omega⟩, ⟨none, 0, 0, w37.heap.size, by omega, x44.size, by have := h15 r8; omega, by have := h15 r10; omega, x44.keep h36.at, OwnS.nil _ _ _ _⟩,
   ⟨⟨_, x44.keep (h36.ext.keep r31), by simp⟩, by omega, fun _ => (none, 0, 0), fun i hi => ⟨?_, OwnS.nil _ _ _ _⟩, fun _ _ _ _ _ g hg => by cases hg⟩, ⟨(List.replicate l3 (.bool false)).toArray, ?_, by simp⟩⟩
  ·rw [rowk_cell (x44.keep (h36.ext.keep r31))]
   simp [hi]
  ·exact RowK.keep (h42.ext.keep h40.at) u44 fun y hy => ⟨#[.slice none 0 0], _, (0, 0), by rw [show y = k42 from hy]; exact t42, ty_all.2.2.2.2.1.symm⟩
 refine ⟨⟨by omega, by omega, rfl, k6, k8, k10, k12, k14, k33, k36, k42, k31, k40, [], [], rfl, rfl, rfl, rfl, rfl, rfl, rfl, rfl, rfl, fun t ht => (Nat.not_lt_zero _ ht).elim, st0, Nat.zero_le _, fun i => ⟨(fun h => by cases h), fun ⟨_, ht, _⟩ => (Nat.not_lt_zero _ ht).elim⟩⟩, ?_⟩
 rintro fl x w58 ⟨hx0, hx1, rfl, k6', k8', k10', k12', k14', k33', k36', k42', k31', k40', cs, wr, g1, g2, g3, g4, g5, g6, g7, g8, hcl, hcs, st, hwl, hwm⟩
 simp only [Option.some.injEq, at0, Addr.mk.injEq, and_true] at g1 g2 g3 g4 g5 g6 g7 g8
 subst g1 g2 g3 g4 g5 g6 g7 g8
 intros
 have hlenL : ∀ i, i < l3 → hs.getD i false = true → r.toNat ≤ 1048576 := fun i hi hb => by
  rw [← hsz.2.2.2 i hi hb, List.getD_eq_getElem?_getD, List.getElem?_eq_getElem (by omega)]
  exact bl _ (List.getElem_mem _)
 obtain ⟨i0, hi0, hb0⟩ := hsz.2.2.1
 have hr20 := hlenL i0 hi0 hb0
 refine condB_of (fun hs2 => ?_) (fun hs2 => ?_)
 ·simp only [decide_eq_true_eq] at hs2
  have hsp := right_spec hf h3 h4 hk (by omega) hsz (x := x.toNat) (by omega) (by omega) (fun t _ => by rw [List.length_map]; omega) hwl st
  rw [show ((x.toNat : Nat) : Int) = x by omega] at hsp
  refine hsp.mono ?_
  rintro e w68 ⟨hx68, ⟨hd, rfl⟩ | ⟨c, hd, rfl, st'⟩⟩
  ·refine ⟨_, rfl, condB_of (fun _ => ?_) (fun h => by simp at h)⟩
   unfold F65_A0
   refine condB_of (fun _ => ?_) (fun h => by simp at h)
   exact ⟨hx68, .inr (.inr ⟨hk, r.toNat, hsz, .inl ⟨⟨x.toNat, by omega, hd⟩, rfl⟩⟩)⟩
  ·refine ⟨_, rfl, condB_of (fun h => by simp at h) fun _ => ?_⟩
   rw [w64 (n := x + 1) (by omega)]
   have hnx : (x + 1).toNat = x.toNat + 1 := by omega
   rw [hn2] at st'
   refine ⟨⟨by omega, by omega, rfl, _, _, _, _, _, _, _, _, k31', k40', cs ++ [c], wr ++ dif l3 (nots hs) c (wordAt l3 hs L x.toNat), rfl, rfl, rfl, rfl, rfl, rfl, rfl, rfl, by simp; omega, fun t ht => ?_, ?_, ?_, fun i => ?_⟩, by show (r - (x + 1)).toNat < (r - x).toNat; omega⟩
   ·by_cases e : t < x.toNat
    ·rw [getD_snoc (by omega)]; exact hcs t e
    ·have e2 : t = cs.length := by omega
     rw [e2, getD_last, hcl]; exact hd
   ·have e1 : (fun i => (cs ++ [c]).map fun c => co c i) = fun i => (cs.map fun c => co c i) ++ [co c i] := by funext i; simp
    rw [e1]; exact st'
   ·have := dif_len_le (n := l3) (ms := nots hs) (a := c) (b := wordAt l3 hs L x.toNat)
    rw [List.length_append]
    omega
   ·rw [List.mem_append, hwm, hnx]
    constructor
    ·rintro (⟨t, ht, hi⟩ | hi)
     ·exact ⟨t, by omega, by rw [getD_snoc (by omega)]; exact hi⟩
     ·exact ⟨x.toNat, by omega, by rw [← hcl, getD_last, hcl]; exact hi⟩
    ·rintro ⟨t, ht, hi⟩
     by_cases e : t < x.toNat
     ·rw [getD_snoc (by omega)] at hi; exact .inl ⟨t, e, hi⟩
     ·have e2 : t = cs.length := by omega
      rw [e2, getD_last, hcl] at hi; exact .inr hi
 ·simp only [decide_eq_false_iff_not] at hs2
  obtain rfl : x = r := by omega
  unfold F65_A0
  refine condB_of (fun h => by simp at h) fun _ => ?_
  obtain ⟨pw_, nw, cw, b, hb1, hb2, _, _, hr36, how⟩ := st.r36
  have hwn := OwnN.len how
  refine ⟨_, _, _, hr36.cell, (sort_own how (by omega)).mono ?_⟩
  rintro e w72 ⟨rfl, l', ho72, u72, hperm, hsrt⟩
  have tyw : ∀ {e : TypeId}, 3 ≠ e → ∀ y, pw_ = some (at0 y) → ∃ (cs : Array Value) (e' : TypeId) (fz : Nat × Nat), w58.heap[y]? = some (Obj.cells cs e' fz) ∧ e' ≠ e := fun he y hy => by
   obtain ⟨cs, e', fz, h7, h8⟩ := OwnS.typed how hy
   exact ⟨cs, e', fz, h7, by rw [h8]; exact he⟩
  have hr36' : RowK w72 k36 30 #[.slice pw_ nw cw] := RowK.keep hr36 u72 (tyw ty_int.2.2.2.2.1)
  have hr33' : RowK w72 k33 79 #[.slice (some (at0 k31')) l3 l3] := RowK.keep st.r33 u72 (tyw ty_int.2.2.2.1)
  have out72 : OutAt w72 w.heap.size k31' l3 (fun i => cs.map fun c => co c i) := OutAt.other st.out u72 fun y hy => by
   obtain ⟨cs, e', fz, h7, h8⟩ := OwnS.typed how hy
   exact ⟨cs, e', fz, h7, by rw [h8]; exact ty_out.2.2.1.symm, by rw [h8]; exact ty_int.2.1⟩
  have x72 : Ext w w72 := OwnB.new_ext st.ext u72 fun y hy => Nat.le_trans hb1 (OwnS.blk how hy)
  refine ⟨rfl, fun w74 hd74 => ?_⟩
  have r36b : RowK w74 k36 30 #[.slice pw_ nw cw] := hd74.ext.keep hr36'
  have r33b : RowK w74 k33 79 #[.slice (some (at0 k31')) l3 l3] := hd74.ext.keep hr33'
  have ho74 : OwnN w74 b pw_ nw cw l' := OwnS.ext ho72 hd74.ext
  refine ⟨_, _, _, r33b.cell, _, _, _, r36b.cell, (compact_own ho74 hsrt (by omega)).mono ?_⟩
  rintro e w77 ⟨n', W, rfl, hoW, u77, hW1, hW2⟩
  have tyw2 : ∀ {e : TypeId}, 3 ≠ e → ∀ y, pw_ = some (at0 y) → ∃ (cs : Array Value) (e' : TypeId) (fz : Nat × Nat), w74.heap[y]? = some (Obj.cells cs e' fz) ∧ e' ≠ e := fun he y hy => by
   obtain ⟨cs, e', fz, h7, h8⟩ := OwnS.typed ho74 hy
   exact ⟨cs, e', fz, h7, by rw [h8]; exact he⟩
  have r33c : RowK w77 k33 79 #[.slice (some (at0 k31')) l3 l3] := RowK.keep r33b u77 (tyw2 ty_int.2.2.2.1)
  refine ⟨_, _, _, rfl, ⟨_, _, _, r33c.cell, rfl⟩, ?_, .inr (.inr ⟨hk, x.toNat, hsz, .inr ⟨cs, hcl, hcs, k31', pw_, n', cw, W, rfl, ?_, OwnS.base_le hoW hb1, hW1, fun i => ?_⟩⟩)⟩
  ·exact OwnB.new_ext (x72.trans hd74.ext) u77 fun y hy => Nat.le_trans hb1 (OwnS.blk ho74 hy)
  ·exact OutAt.other (out72.ext hd74.ext) u77 fun y hy => by
    obtain ⟨cs, e', fz, h7, h8⟩ := OwnS.typed ho74 hy
    exact ⟨cs, e', fz, h7, by rw [h8]; exact ty_out.2.2.1.symm, by rw [h8]; exact ty_int.2.1⟩
  ·rw [hW2, hperm.mem_iff, hwm]
end Go.Proofs.YtkolafpgbhpdlaaGreat
namespace Go.Proofs.YtkolafpgbhpdlaaGreat
open Go Go.Vc Go.Gf
def NatsAt (w : World) (p : Option Addr) (n : Nat) (l : List Nat) : Prop := n = l.length ∧ CellsAt w p (encN l)
theorem NatsAt.ext {w w' : World} {p : Option Addr} {n : Nat} {l : List Nat} (h : NatsAt w p n l) (hu : Ext w w') : NatsAt w' p n l := ⟨h.1, h.2.ext hu⟩
theorem NatsAt.get {w : World} {p : Option Addr} {n : Nat} {l : List Nat} (h : NatsAt w p n l) {i : Nat} (hi : i < n) : ∃ a, p = some a ∧ w.cell? (a.add i) = some (.int .i64 ((l.getD i 0 : Nat) : Int)) := by
 have hlt : i < l.length := by rw [← h.1]; exact hi
 obtain ⟨a, ha, hc⟩ := h.2 i (.int .i64 ((l[i] : Nat) : Int)) (by simp [encN, hlt])
 exact ⟨a, ha, by rw [hc]; simp [List.getD_eq_getElem?_getD, hlt]⟩
theorem Sized.one {k m : Int} {l3 l4 : Nat} {hs : List Bool} {L : List (List UInt8)} {s t : Nat} (h : Sized k m l3 l4 hs L s) (h' : Sized k m l3 l4 hs L t) : s = t := by
 obtain ⟨i, hi, hb⟩ := h.2.2.1
 rw [← h.2.2.2 i hi hb, h'.2.2.2 i hi hb]
end Go.Proofs.YtkolafpgbhpdlaaGreat
namespace Go.Proofs.YtkolafpgbhpdlaaGreat
open Go Go.Vc Go.Gf Go.ChangeShapes Go.WideShapes Go.ChangeAt Go.RowKit
section
variable {H : Type} {enc : TypeId × Value → H} {w : World} {base : Nat} {sp : Nat → Bool} {held : Bool}
theorem open_by {v : Value} {d : DataW H} {ps : List MemPlace} (hs : ∃ a l c, v = .slice a l c) (h : DataW.Trod enc Tryz.prog w base sp held 25 v d ps) :
  ∃ p l c bs, v = .slice p l c ∧ BytesAt w p l bs ∧ l ≤ c ∧ c ≤ maxLen := by
 obtain ⟨a, l, c, rfl⟩ := hs
 obtain ⟨fuel, h⟩ := h
 obtain ⟨p, l', c', bs, he, h1, h2, h3, _⟩ := rd_bytes (t := 25) (e := 5) (by kernel_rfl) (by kernel_rfl) (by kernel_rfl) h
 cases he
 exact ⟨_, _, _, bs, rfl, h1, h2, h3⟩
end
end Go.Proofs.YtkolafpgbhpdlaaGreat
namespace Go.Proofs.YtkolafpgbhpdlaaGreat
open Go Go.Vc Go.Gf
end Go.Proofs.YtkolafpgbhpdlaaGreat
namespace Go.Proofs.YtkolafpgbhpdlaaGreat
open Go Go.Vc Go.Gf
theorem RowK.cell3 {w : World} {k : Nat} {e : TypeId} {cs : Array Value} (h : RowK w k e cs) {i : Nat} {v : Value} (hi : cs[i]? = some v) : w.cell? ((at0 k).add i) = some v := by rw [rowk_cell h, hi]
theorem RowK.cell0 {w : World} {k : Nat} {e : TypeId} {cs : Array Value} (h : RowK w k e cs) {v : Value} (hi : cs[0]? = some v) : w.cell? (at0 k) = some v := by
 rw [show at0 k = (at0 k).add 0 from (add_at0 k 0).symm]
 exact h.cell3 hi
theorem RowK.live3 {w : World} {k : Nat} {e : TypeId} {cs : Array Value} (h : RowK w k e cs) {i : Nat} (hi : i < cs.size) : Live w ((at0 k).add i) := RowW.live ⟨_, h⟩ hi
theorem RowK.live0 {w : World} {k : Nat} {e : TypeId} {cs : Array Value} (h : RowK w k e cs) (hi : 0 < cs.size) : Live w (at0 k) := by
 rw [show at0 k = (at0 k).add 0 from (add_at0 k 0).symm]
 exact h.live3 hi
theorem RowK.set3 {w w' : World} {k : Nat} {e : TypeId} {cs : Array Value} {i : Nat} {u : Value} (h : RowK w k e cs) (hs : SetC w ((at0 k).add i) u w') : RowK w' k e (cs.setIfInBounds i u) ∧ Upd (fun x => x = k) w w' := by
 have hu := hs.upd
 rw [add_block] at hu
 rw [add_at0] at hs
 exact ⟨hs.at h rfl, hu⟩
theorem RowK.set0 {w w' : World} {k : Nat} {e : TypeId} {cs : Array Value} {u : Value} (h : RowK w k e cs) (hs : SetC w (at0 k) u w') : RowK w' k e (cs.setIfInBounds 0 u) ∧ Upd (fun x => x = k) w w' := by
 rw [show at0 k = (at0 k).add 0 from (add_at0 k 0).symm] at hs
 exact h.set3 hs
theorem ext_upd {w0 w w' : World} {k : Nat} (hx : Ext w0 w) (hk : w0.heap.size ≤ k) (hu : Upd (fun x => x = k) w w') : Ext w0 w' := OwnB.new_ext hx hu fun y hy => by rw [show y = k from hy]; exact hk
theorem ty_mat : 137 ≠ 5 ∧ 137 ≠ 33 ∧ 137 ≠ 3 ∧ 137 ≠ 79 ∧ 137 ≠ 25 := by decide
abbrev matV (r c : Int) (p : Option Addr) (l cp : Nat) : Value := .agg #[.int .i64 r, .int .i64 c, .slice p l cp]
abbrev matC (r c : Int) (p : Option Addr) (l cp : Nat) : Array Value := #[.int .i64 r, .int .i64 c, .slice p l cp]
theorem between_spec {f : Option Addr} {w : World} (hf : FieldAt w f) {a b : Nat} (ha : a < 4294967296) (hb : b < 4294967296) :
  Calls Tryz.prog 150 #[.pointer f, .int .i64 (a : Int), .int .i64 (b : Int)] w fun e w' => e = .returned (vb (gi (pt a ^^^ pt b))) ∧ Ext w w' := by
 refine (F150_calls f a b w (fun v w' => v = vb (gi (pt a ^^^ pt b)) ∧ Ext w w') ?_).mono (by rintro e w' ⟨v, rfl, rfl, h⟩; exact ⟨rfl, h⟩)
 unfold F150
 rw [px ha hb]
 refine (finv_spec hf _).mono ?_
 rintro e w2 ⟨rfl, hx⟩
 exact ⟨_, _, rfl, rfl, hx⟩
def parV (k r c : Nat) : UInt8 := gi (pt (k + r) ^^^ pt c)
theorem parity1_spec {f : Option Addr} {w : World} {kf kk k r c : Nat} (hf : FieldAt w f) (h1 : RowK w kf 33 #[.pointer f]) (h2 : RowK w kk 3 #[.int .i64 (k : Int)]) (hk : k ≤ 256) (hr : r ≤ 256) (hc : c ≤ 256) :
  Calls Tryz.prog 149 #[.int .i64 (r : Int), .int .i64 (c : Int), .pointer (some (at0 kf)), .pointer (some (at0 kk))] w fun e w' => e = .returned (vb (parV k r c)) ∧ Ext w w' := by
 refine (F149_calls r c (at0 kf) (at0 kk) w (fun v w' => v = vb (parV k r c) ∧ Ext w w') ?_).mono (by rintro e w' ⟨v, rfl, rfl, h⟩; exact ⟨rfl, h⟩)
 refine ⟨_, h1.cell, _, h2.cell, ?_⟩
 have e1 : IntKind.i64.wrap ((k : Int) + (r : Int)) = ((k + r : Nat) : Int) := by rw [w64 (by omega)]; omega
 rw [e1]
 refine (between_spec hf (by omega) (by omega)).mono ?_
 rintro e w2 ⟨rfl, hx⟩
 exact ⟨_, rfl, rfl, hx⟩
def genA (val : Nat → Nat → UInt8) (cols L : Nat) : List UInt8 := (List.range L).map fun t => val (t / cols) (t % cols)
theorem genA_len (val : Nat → Nat → UInt8) (cols L : Nat) : (genA val cols L).length = L := by simp [genA]
theorem genA_co (val : Nat → Nat → UInt8) {cols L t : Nat} (h : t < L) : co (genA val cols L) t = val (t / cols) (t % cols) := by simp [Gf.co, genA, List.getD_eq_getElem?_getD, h]
theorem genA_succ (val : Nat → Nat → UInt8) {cols r c : Nat} (h : c < cols) : genA val cols (r * cols + c) ++ [val r c] = genA val cols (r * cols + c + 1) := by
 have e1 : (r * cols + c) / cols = r := by
  rw [Nat.mul_comm, Nat.mul_add_div (by omega), Nat.div_eq_of_lt h, Nat.add_zero]
 have e2 : (r * cols + c) % cols = c := by rw [Nat.mul_comm, Nat.mul_add_mod, Nat.mod_eq_of_lt h]
 simp [genA, List.range_succ, e1, e2]
def MadeI (w : World) (val : Nat → Nat → UInt8) (rows cols : Nat) (q6 q23 : Option Addr) (L : Nat) (w1 : World) : Prop :=
 Ext w w1 ∧ ∃ k6 k23 p l c, q6 = some (at0 k6) ∧ q23 = some (at0 k23) ∧ k6 ≠ k23 ∧ w.heap.size ≤ k6 ∧ w.heap.size ≤ k23 ∧ RowK w1 k6 137 (matC 0 0 none 0 0) ∧ RowK w1 k23 137 (matC rows cols p l c) ∧ OwnB w1 w.heap.size p l c (genA val cols L)
set_option maxHeartbeats 4000000 in
theorem made_par_spec {f : Option Addr} {w : World} {qa qb : Addr} {val : Nat → Nat → UInt8} {k m rows cols : Int} (hf : FieldAt w f) (hr : kmOk k m → 0 ≤ rows ∧ rows ≤ 256 ∧ 0 ≤ cols ∧ cols ≤ 256)
  (hcall : ∀ w', Ext w w' → ∀ r c : Nat, kmOk k m → (r : Int) < rows → (c : Int) < cols → Calls Tryz.prog 149 #[.int .i64 (r : Int), .int .i64 (c : Int), .pointer (some qa), .pointer (some qb)] w' fun e w'' => e = .returned (vb (val r c)) ∧ Ext w' w'') :
  Calls Tryz.prog 148 #[.pointer f, .int .i64 k, .int .i64 m, .int .i64 rows, .int .i64 cols, .func (.func 149) #[] #[.pointer (some qa), .pointer (some qb)]] w fun e w' => Ext w w' ∧
   ((¬ kmOk k m ∧ e = .returned (.tuple #[matV 0 0 none 0 0, .int .i64 50])) ∨ kmOk k m ∧ ∃ p l c, e = .returned (.tuple #[matV rows cols p l c, .int .i64 0]) ∧ OwnB w' w.heap.size p l c (genA val cols.toNat (rows.toNat * cols.toNat))) := by
 refine (F148_149_calls f k m rows cols qa qb w (fun v w' => Ext w w' ∧
   ((¬ kmOk k m ∧ v = .tuple #[matV 0 0 none 0 0, .int .i64 50]) ∨ kmOk k m ∧ ∃ p l c, v = .tuple #[matV rows cols p l c, .int .i64 0] ∧ OwnB w' w.heap.size p l c (genA val cols.toNat (rows.toNat * cols.toNat))))
  (fun q6 q23 _ _ r w1 => 0 ≤ r ∧ r ≤ rows ∧ MadeI w val rows.toNat cols.toNat q6 q23 (r.toNat * cols.toNat) w1) (fun _ _ _ _ r _ => (rows - r).toNat)
  (fun q6 q23 r _ _ _ _ c w1 => 0 ≤ c ∧ c ≤ cols ∧ 0 ≤ r ∧ r < rows ∧ MadeI w val rows.toNat cols.toNat q6 q23 (r.toNat * cols.toNat + c.toNat) w1) (fun _ _ _ _ _ _ _ c _ => (cols - c).toNat) ?_).mono (by
  rintro e w' ⟨v, rfl, hx, ⟨h, rfl⟩ | ⟨h, p, l, c, rfl, ho⟩⟩
  ·exact ⟨hx, .inl ⟨h, rfl⟩⟩
  ·exact ⟨hx, .inr ⟨h, p, l, c, rfl, ho⟩⟩)
 intro k6 w7 h6
 have r6 : RowK w7 k6 137 (matC 0 0 none 0 0) := h6.at
 have n6 : w.heap.size ≤ k6 := by rw [h6.size.1]; exact Nat.le_refl _
 have x7 := h6.ext
 rw [hf.there]
 refine condB_of (fun h => by cases h) fun _ => (ccheck_spec k m w7).mono ?_
 rintro e w14 ⟨rfl, rfl⟩
 refine ⟨_, rfl, condB_of (fun hc => ?_) (fun hc => ?_)⟩
 ·simp only [Bool.not_eq_true', decide_eq_false_iff_not] at hc
  have hk : ¬ kmOk k m := fun h => hc (kmE_ok h)
  refine ⟨r6.live0 (by simp), fun w17 s17 => ?_⟩
  obtain ⟨a1, u1⟩ := r6.set0 s17
  refine ⟨a1.live3 (by simp), fun w18 s18 => ?_⟩
  obtain ⟨a2, u2⟩ := a1.set3 s18
  refine ⟨a2.live3 (by simp), fun w19 s19 => ?_⟩
  obtain ⟨a3, u3⟩ := a2.set3 s19
  refine ⟨_, a3.cell0 rfl, _, a3.cell3 rfl, _, _, _, a3.cell3 rfl, ext_upd (ext_upd (ext_upd x7 n6 u1) n6 u2) n6 u3, .inl ⟨hk, ?_⟩⟩
  rw [kmE_bad hk]
 simp only [Bool.not_eq_false', decide_eq_true_eq] at hc
 have hk : kmOk k m := Decidable.byContradiction fun h => by rw [kmE_bad h] at hc; omega
 obtain ⟨b1, b2, b3, b4⟩ := hr hk
 have er : ((rows.toNat : Nat) : Int) = rows := by omega
 have ec : ((cols.toNat : Nat) : Int) = cols := by omega
 intro k23 w24 h23
 have r23 : RowK w24 k23 137 (matC 0 0 none 0 0) := h23.at
 have n23 : w.heap.size ≤ k23 := by rw [h23.size.1]; exact x7.size
 have ne : k6 ≠ k23 := by have := lt_of_heap r6; rw [h23.size.1]; omega
 refine ⟨r23.live0 (by simp), fun w25 s25 => ?_⟩
 obtain ⟨a1, u1⟩ := r23.set0 s25
 refine ⟨a1.live3 (by simp), fun w26 s26 => ?_⟩
 obtain ⟨a2, u2⟩ := a1.set3 s26
 refine ⟨a2.live3 (by simp), fun w27 s27 => ?_⟩
 obtain ⟨a3, u3⟩ := a2.set3 s27
 have x27 := ext_upd (ext_upd (ext_upd (x7.trans h23.ext) n23 u1) n23 u2) n23 u3
 have r6' : RowK w27 k6 137 (matC 0 0 none 0 0) := u3.keep (u2.keep (u1.keep (h23.ext.keep r6) ne) ne) ne
 refine ⟨⟨by omega, b1, x27, k6, k23, none, 0, 0, rfl, rfl, ne, n6, n23, r6', ?_, ?_⟩, ?_⟩
 ·rw [er, ec]; exact a3
 ·rw [show (0 : Int).toNat * cols.toNat = 0 by simp]; exact OwnS.nil _ _ _ _
 rintro r w32 ⟨hr0, hr1, hx, k6', k23', p, l, c, g1, g2, ne', n6', n23', r6'', r23', ho⟩
 simp only [Option.some.injEq, at0, Addr.mk.injEq, and_true] at g1 g2
 subst g1 g2
 intros
 refine condB_of (fun hs => ?_) (fun hs => ?_)
 ·simp only [decide_eq_true_eq] at hs
  refine ⟨⟨by omega, b3, hr0, hs, hx, k6, k23, p, l, c, rfl, rfl, ne', n6', n23', r6'', r23', by rw [show (0 : Int).toNat = 0 from rfl, Nat.add_zero]; exact ho⟩, ?_⟩
  rintro c' w59 ⟨hc0, hc1, _, _, hx59, k6', k23', p', l', cp', g1, g2, _, _, _, s6, s23, ho'⟩
  simp only [Option.some.injEq, at0, Addr.mk.injEq, and_true] at g1 g2
  subst g1 g2
  intros
  refine condB_of (fun ht => ?_) (fun ht => ?_)
  ·simp only [decide_eq_true_eq] at ht
   intro w73 hd
   have x73 := hx59.trans hd.ext
   have s23' : RowK w73 k23 137 (matC rows.toNat cols.toNat p' l' cp') := hd.ext.keep s23
   refine ⟨_, _, _, s23'.cell3 rfl, ?_⟩
   have hsp := hcall w73 x73 r.toNat c'.toNat hk (by omega) (by omega)
   rw [show ((r.toNat : Nat) : Int) = r by omega, show ((c'.toNat : Nat) : Int) = c' by omega] at hsp
   refine hsp.mono ?_
   rintro e w75 ⟨rfl, x75⟩
   have s23'' : RowK w75 k23 137 (matC rows.toNat cols.toNat p' l' cp') := x75.keep s23'
   refine ⟨_, rfl, ⟨_, _, _, s23''.cell3 rfl, rfl⟩, fun k79 w80 h80 => ?_⟩
   have o75 := OwnB.ext (OwnB.ext ho' hd.ext) x75
   have l75 := OwnB.len o75
   rw [genA_len] at l75
   have hbig : r.toNat * cols.toNat ≤ 256 * 256 := Nat.mul_le_mul (by omega) (by omega)
   obtain ⟨p2, c2, w82, hrun, o82, u82⟩ := OwnB.push o75 h80 (x73.trans x75).size (by omega)
   have s80 : RowK w80 k23 137 (matC rows.toNat cols.toNat p' l' cp') := h80.ext.keep s23''
   refine ⟨⟨_, _, _, s80.cell3 rfl, rfl⟩, _, _, _, w82, hrun, ?_⟩
   have keep : ∀ {k : Nat} {cs : Array Value}, RowK w75 k 137 cs → RowK w82 k 137 cs := fun h => RowK.keep h u82 fun y hy => by
    obtain ⟨cs, e', fz, h7, h8⟩ := OwnS.typed o75 hy
    exact ⟨cs, e', fz, h7, by rw [h8]; exact ty_mat.1.symm⟩
   have s82 := keep s23''
   have t82 := keep (x75.keep (hd.ext.keep s6))
   refine ⟨s82.live3 (by simp), fun w84 s84 => ?_⟩
   obtain ⟨b84, u84⟩ := s82.set3 s84
   have x82 := OwnB.new_ext (x73.trans x75) u82 fun y hy => OwnB.blk o75 hy
   rw [w64 (n := c' + 1) (by omega)]
   refine ⟨⟨by omega, by omega, hr0, hs, ext_upd x82 n23' u84, k6, k23, p2, _, c2, rfl, rfl, ne', n6', n23', u84.keep t82 ne', b84, ?_⟩, by show (cols - (c' + 1)).toNat < (cols - c').toNat; omega⟩
   rw [show (c' + 1).toNat = c'.toNat + 1 by omega, ← Nat.add_assoc, ← genA_succ val (by omega)]
   exact OwnB.apart o82 u84 s82 ty_mat.1
  ·simp only [decide_eq_false_iff_not] at ht
   rw [w64 (n := r + 1) (by omega)]
   refine ⟨⟨by omega, by omega, hx59, k6, k23, p', l', cp', rfl, rfl, ne', n6', n23', s6, s23, ?_⟩, by show (rows - (r + 1)).toNat < (rows - r).toNat; omega⟩
   rw [show (r + 1).toNat = r.toNat + 1 by omega, Nat.add_mul, Nat.one_mul, show cols.toNat = c'.toNat by omega] at *
   exact ho'
 ·simp only [decide_eq_false_iff_not] at hs
  refine ⟨_, r23'.cell0 rfl, _, r23'.cell3 rfl, _, _, _, r23'.cell3 rfl, ?_⟩
  refine ⟨r6''.live0 (by simp), fun w88 s88 => ?_⟩
  obtain ⟨c1, v1⟩ := r6''.set0 s88
  refine ⟨c1.live3 (by simp), fun w89 s89 => ?_⟩
  obtain ⟨c2, v2⟩ := c1.set3 s89
  refine ⟨c2.live3 (by simp), fun w90 s90 => ?_⟩
  obtain ⟨c3, v3⟩ := c2.set3 s90
  refine ⟨_, c3.cell0 rfl, _, c3.cell3 rfl, _, _, _, c3.cell3 rfl, ext_upd (ext_upd (ext_upd hx n6' v1) n6' v2) n6' v3, .inr ⟨hk, p, l, c, by rw [er, ec], ?_⟩⟩
  rw [show r.toNat = rows.toNat by omega] at ho
  exact OwnB.apart (OwnB.apart (OwnB.apart ho v1 r6'' ty_mat.1) v2 c1 ty_mat.1) v3 c2 ty_mat.1
set_option maxHeartbeats 1000000 in
theorem cparity_spec {f : Option Addr} {w : World} (hf : FieldAt w f) (k m : Int) :
  Calls Tryz.prog 109 #[.pointer f, .int .i64 k, .int .i64 m] w fun e w' => Ext w w' ∧
   ((¬ kmOk k m ∧ e = .returned (.tuple #[matV 0 0 none 0 0, .int .i64 50])) ∨ kmOk k m ∧ ∃ p l c, e = .returned (.tuple #[matV m k p l c, .int .i64 0]) ∧ OwnB w' w.heap.size p l c (genA (parV k.toNat) k.toNat (m.toNat * k.toNat))) := by
 refine (F109_calls f k m w (fun v w' => Ext w w' ∧
   ((¬ kmOk k m ∧ v = .tuple #[matV 0 0 none 0 0, .int .i64 50]) ∨ kmOk k m ∧ ∃ p l c, v = .tuple #[matV m k p l c, .int .i64 0] ∧ OwnB w' w.heap.size p l c (genA (parV k.toNat) k.toNat (m.toNat * k.toNat)))) ?_).mono (by
  rintro e w' ⟨v, rfl, hx, ⟨h, rfl⟩ | ⟨h, p, l, c, rfl, ho⟩⟩
  ·exact ⟨hx, .inl ⟨h, rfl⟩⟩
  ·exact ⟨hx, .inr ⟨h, p, l, c, rfl, ho⟩⟩)
 intro k4 w5 h4 k6 w7 h6 k8 w9 h8
 have r4 : RowK w9 k4 33 #[.pointer f] := h8.ext.keep (h6.ext.keep h4.at)
 have r6 : RowK w9 k6 3 #[.int .i64 k] := h8.ext.keep h6.at
 have r8 : RowK w9 k8 137 (matC 0 0 none 0 0) := h8.at
 have x9 : Ext w w9 := h4.ext.trans (h6.ext.trans h8.ext)
 have n8 : w.heap.size ≤ k8 := by rw [h8.size.1]; exact (h4.ext.trans h6.ext).size
 refine ⟨_, r4.cell, _, r6.cell, _, r6.cell, ?_⟩
 refine (made_par_spec (qa := at0 k4) (qb := at0 k6) (val := parV k.toNat) (k := k) (m := m) (rows := m) (cols := k) (hf.ext x9) (fun ⟨b1, b2, b3, b4⟩ => ⟨by omega, by omega, by omega, by omega⟩) (fun w' hx r c ⟨b1, b2, b3, b4⟩ hr hc => ?_)).mono ?_
 ·have r6' : RowK w' k6 3 #[.int .i64 ((k.toNat : Nat) : Int)] := by rw [show ((k.toNat : Nat) : Int) = k by omega]; exact hx.keep r6
  exact parity1_spec (hf.ext (x9.trans hx)) (hx.keep r4) r6' (by omega) (by omega) (by omega)
 ·rintro e w13 ⟨x13, hv⟩
  have r8' : RowK w13 k8 137 (matC 0 0 none 0 0) := x13.keep r8
  have fin : ∀ (a b : Int) (p : Option Addr) (l c : Nat) (er : Int) (Q : World → Prop), (∀ w21, Ext w w21 → (∀ {p : Option Addr} {l c : Nat} {bs : List UInt8} {b : Nat}, OwnB w13 b p l c bs → OwnB w21 b p l c bs) → Q w21) →
    (Live w13 (at0 k8) ∧ (∀ w19 : World, SetC w13 (at0 k8) (Value.int .i64 a) w19 → (Live w19 ((at0 k8).add 1) ∧ (∀ w20 : World, SetC w19 ((at0 k8).add 1) (Value.int .i64 b) w20 → (Live w20 ((at0 k8).add 2) ∧ (∀ w21 : World, SetC w20 ((at0 k8).add 2) (Value.slice p l c) w21 →
     w21.cell? (at0 k8) = some (.int .i64 a) ∧ w21.cell? ((at0 k8).add 1) = some (.int .i64 b) ∧ w21.cell? ((at0 k8).add 2) = some (.slice p l c) ∧ Q w21)))))) := by
   intro a b p l c er Q hQ
   refine ⟨r8'.live0 (by simp), fun w19 s19 => ?_⟩
   obtain ⟨c1, v1⟩ := r8'.set0 s19
   refine ⟨c1.live3 (by simp), fun w20 s20 => ?_⟩
   obtain ⟨c2, v2⟩ := c1.set3 s20
   refine ⟨c2.live3 (by simp), fun w21 s21 => ?_⟩
   obtain ⟨c3, v3⟩ := c2.set3 s21
   exact ⟨c3.cell0 rfl, c3.cell3 rfl, c3.cell3 rfl, hQ _ (ext_upd (ext_upd (ext_upd (x9.trans x13) n8 v1) n8 v2) n8 v3) fun o => OwnB.apart (OwnB.apart (OwnB.apart o v1 r8' ty_mat.1) v2 c1 ty_mat.1) v3 c2 ty_mat.1⟩
  rcases hv with ⟨hk, rfl⟩ | ⟨hk, p, l, c, rfl, ho⟩
  ·obtain ⟨g1, g2⟩ := fin 0 0 none 0 0 50 (fun w21 => Ext w w21) fun w21 hx _ => hx
   refine ⟨_, _, _, _, _, _, rfl, g1, fun w19 s19 => ?_⟩
   obtain ⟨g3, g4⟩ := g2 w19 s19
   refine ⟨g3, fun w20 s20 => ?_⟩
   obtain ⟨g5, g6⟩ := g4 w20 s20
   refine ⟨g5, fun w21 s21 => ?_⟩
   obtain ⟨g7, g8, g9, g10⟩ := g6 w21 s21
   exact ⟨_, g7, _, g8, _, _, _, g9, g10, .inl ⟨hk, rfl⟩⟩
  ·obtain ⟨g1, g2⟩ := fin m k p l c 0 (fun w21 => Ext w w21 ∧ OwnB w21 w9.heap.size p l c (genA (parV k.toNat) k.toNat (m.toNat * k.toNat))) fun w21 hx hk => ⟨hx, hk ho⟩
   refine ⟨_, _, _, _, _, _, rfl, g1, fun w19 s19 => ?_⟩
   obtain ⟨g3, g4⟩ := g2 w19 s19
   refine ⟨g3, fun w20 s20 => ?_⟩
   obtain ⟨g5, g6⟩ := g4 w20 s20
   refine ⟨g5, fun w21 s21 => ?_⟩
   obtain ⟨g7, g8, g9, g10, g11⟩ := g6 w21 s21
   exact ⟨_, g7, _, g8, _, _, _, g9, g10, .inr ⟨hk, p, l, c, rfl, OwnB.base_le g11 x9.size⟩⟩
end Go.Proofs.YtkolafpgbhpdlaaGreat
namespace Go.Proofs.YtkolafpgbhpdlaaGreat
open Go Go.Vc Go.Gf
theorem ret3 {w : World} {k6 k14 : Nat} {a b : Int} {p : Option Addr} {l c : Nat} {cs : Array Value} {ev_ : Value} {R : Value → World → Prop} (h14 : RowK w k14 137 (matC a b p l c)) (h6 : RowK w k6 137 cs) (hs : cs.size = 3)
  (hR : ∀ w', Upd (fun x => x = k6) w w' → R (.tuple #[matV a b p l c, ev_]) w') :
  (∃ (n19 : Int), w.cell? (at0 k14) = some (.int .i64 n19) ∧ (∃ (n20 : Int), w.cell? ((at0 k14).add 1) = some (.int .i64 n20) ∧ (∃ (p21 : Option Addr) (l21 c21 : Nat), w.cell? ((at0 k14).add 2) = some (.slice p21 l21 c21) ∧ (Live w (at0 k6) ∧
   (∀ w22 : World, SetC w (at0 k6) (Value.int .i64 n19) w22 → (Live w22 ((at0 k6).add 1) ∧ (∀ w23 : World, SetC w22 ((at0 k6).add 1) (Value.int .i64 n20) w23 → (Live w23 ((at0 k6).add 2) ∧ (∀ w24 : World, SetC w23 ((at0 k6).add 2) (Value.slice p21 l21 c21) w24 →
    (∃ (n25 : Int), w24.cell? (at0 k6) = some (.int .i64 n25) ∧ (∃ (n26 : Int), w24.cell? ((at0 k6).add 1) = some (.int .i64 n26) ∧ (∃ (p27 : Option Addr) (l27 c27 : Nat), w24.cell? ((at0 k6).add 2) = some (.slice p27 l27 c27) ∧ (R (Value.tuple #[.agg #[.int .i64 n25, .int .i64 n26, .slice p27 l27 c27], ev_]) w24))))))))))))) := by
 refine ⟨_, h14.cell0 rfl, _, h14.cell3 rfl, _, _, _, h14.cell3 rfl, h6.live0 (by omega), fun w22 s22 => ?_⟩
 obtain ⟨c1, v1⟩ := h6.set0 s22
 refine ⟨c1.live3 (by simp; omega), fun w23 s23 => ?_⟩
 obtain ⟨c2, v2⟩ := c1.set3 s23
 refine ⟨c2.live3 (by simp; omega), fun w24 s24 => ?_⟩
 obtain ⟨c3, v3⟩ := c2.set3 s24
 have hv : Upd (fun x => x = k6) w w24 := Upd.trans (Upd.trans v1 v2 fun _ _ h => h) v3 fun _ _ h => h
 refine ⟨a, c3.cell0 ?_, b, c3.cell3 ?_, p, l, c, c3.cell3 ?_, hR w24 hv⟩
 ·simp [hs]
 ·simp [hs]
 ·simp [hs]
def Alike (n : Int) (l : Nat) (L : List (List UInt8)) : Prop := (l : Int) = n ∧ ∀ i, i < l → (L.getD i []).length = (L.getD 0 []).length
def chkP (w : World) (k m n : Int) (l5 : Nat) (L : List (List UInt8)) (v : Value) (w' : World) : Prop := Ext w w' ∧
   ((¬ kmOk k m ∧ ∃ a b p l c, v = .tuple #[matV a b p l c, .int .i64 50]) ∨ (kmOk k m ∧ ¬ Alike n l5 L ∧ ∃ a b p l c, v = .tuple #[matV a b p l c, .int .i64 60]) ∨
    kmOk k m ∧ Alike n l5 L ∧ ∃ p l c, v = .tuple #[matV m k p l c, .int .i64 0] ∧ OwnB w' w.heap.size p l c (genA (parV k.toNat) k.toNat (m.toNat * k.toNat)))
set_option maxHeartbeats 2000000 in
theorem checked_spec {f p5 : Option Addr} {w : World} {l5 c5 : Nat} {L : List (List UInt8)} (hf : FieldAt w f) (h5 : ListsAt w p5 l5 L) (bl : ∀ x ∈ L, x.length ≤ 4611686018427387904) (b5 : l5 ≤ 4611686018427387904) (k m n : Int) :
  Calls Tryz.prog 71 #[.pointer f, .int .i64 k, .int .i64 m, .int .i64 n, .slice p5 l5 c5] w fun e w' => Ext w w' ∧
   ((¬ kmOk k m ∧ ∃ a b p l c, e = .returned (.tuple #[matV a b p l c, .int .i64 50])) ∨ (kmOk k m ∧ ¬ Alike n l5 L ∧ ∃ a b p l c, e = .returned (.tuple #[matV a b p l c, .int .i64 60])) ∨
    kmOk k m ∧ Alike n l5 L ∧ ∃ p l c, e = .returned (.tuple #[matV m k p l c, .int .i64 0]) ∧ OwnB w' w.heap.size p l c (genA (parV k.toNat) k.toNat (m.toNat * k.toNat))) := by
 refine (F71_calls f k m n p5 l5 c5 w (chkP w k m n l5 L)
  (fun _ _ _ _ _ _ w18 b i w1 => b = !decide ((l5 : Int) = n) ∧ 0 ≤ i ∧ i ≤ l5 ∧ w1 = w18 ∧ ∀ j : Nat, (j : Int) < i → (L.getD j []).length = (L.getD 0 []).length) (fun _ _ _ _ _ _ _ _ i _ => (l5 - i).toNat) ?_).mono (by
  rintro e w' ⟨v, rfl, hx, ⟨h, a, b, p, l, c, rfl⟩ | ⟨h, h2, a, b, p, l, c, rfl⟩ | ⟨h, h2, p, l, c, rfl, ho⟩⟩
  ·exact ⟨hx, .inl ⟨h, a, b, p, l, c, rfl⟩⟩
  ·exact ⟨hx, .inr (.inl ⟨h, h2, a, b, p, l, c, rfl⟩)⟩
  ·exact ⟨hx, .inr (.inr ⟨h, h2, p, l, c, rfl, ho⟩)⟩)
 have hl5 := h5.1
 have hlen : ∀ i, i < l5 → (L.getD i []).length ≤ 4611686018427387904 := fun i hi => by
  rw [List.getD_eq_getElem?_getD, List.getElem?_eq_getElem (by omega)]
  exact bl _ (List.getElem_mem _)
 intro k6 w7 h6
 have r6 : RowK w7 k6 137 (matC 0 0 none 0 0) := h6.at
 have n6 : w.heap.size ≤ k6 := by rw [h6.size.1]; exact Nat.le_refl _
 refine (cparity_spec (hf.ext h6.ext) k m).mono ?_
 have main : ∀ (w8 : World) (a b : Int) (p : Option Addr) (l c : Nat) (er : Int), Ext w7 w8 → ∀ (K : Nat → World → Prop), (∀ k14 w18, RowK w18 k14 137 (matC a b p l c) → RowK w18 k6 137 (matC 0 0 none 0 0) → k6 ≠ k14 → Ext w8 w18 → K k14 w18) →
   (∀ (k14 : Nat) (w15 : World), NewB w8 k14 (.cells #[.int .i64 (0 : Int), .int .i64 (0 : Int), .slice none 0 0] 137) w15 → (Live w15 (at0 k14) ∧ (∀ w16 : World, SetC w15 (at0 k14) (Value.int .i64 a) w16 → (Live w16 ((at0 k14).add 1) ∧ (∀ w17 : World, SetC w16 ((at0 k14).add 1) (Value.int .i64 b) w17 →
    (Live w17 ((at0 k14).add 2) ∧ (∀ w18 : World, SetC w17 ((at0 k14).add 2) (Value.slice p l c) w18 → K k14 w18))))))) := by
  intro w8 a b p l c er hx K hK k14 w15 h14
  have r14 : RowK w15 k14 137 (matC 0 0 none 0 0) := h14.at
  have n14 : w8.heap.size ≤ k14 := by rw [h14.size.1]; exact Nat.le_refl _
  have ne : k6 ≠ k14 := by have := lt_of_heap r6; have := hx.size; omega
  refine ⟨r14.live0 (by simp), fun w16 s16 => ?_⟩
  obtain ⟨c1, v1⟩ := r14.set0 s16
  refine ⟨c1.live3 (by simp), fun w17 s17 => ?_⟩
  obtain ⟨c2, v2⟩ := c1.set3 s17
  refine ⟨c2.live3 (by simp), fun w18 s18 => ?_⟩
  obtain ⟨c3, v3⟩ := c2.set3 s18
  exact hK k14 w18 c3 (v3.keep (v2.keep (v1.keep (h14.ext.keep (hx.keep r6)) ne) ne) ne) ne (ext_upd (ext_upd (ext_upd h14.ext n14 v1) n14 v2) n14 v3)
 rintro e w8 ⟨x8, ⟨hk, rfl⟩ | ⟨hk, p, l, c, rfl, ho⟩⟩
 ·refine ⟨_, _, _, _, _, _, rfl, main w8 _ _ _ _ _ 50 x8 _ fun k14 w18 r14 r6' ne x18 => condB_of (fun _ => ?_) (fun h => by simp at h)⟩
  exact ret3 (R := chkP w k m n l5 L) r14 r6' rfl fun w' hu => ⟨ext_upd (h6.ext.trans (x8.trans x18)) n6 hu, .inl ⟨hk, _, _, _, _, _, rfl⟩⟩
 ·refine ⟨_, _, _, _, _, _, rfl, main w8 _ _ _ _ _ 0 x8 _ fun k14 w18 r14 r6' ne x18 => condB_of (fun h => by simp at h) fun _ => ?_⟩
  have x18' := h6.ext.trans (x8.trans x18)
  have bad : ¬ Alike n l5 L → F71_A0 w18 k14 k6 (chkP w k m n l5 L)
    (fun _ _ _ _ _ _ w18 b i w1 => b = !decide ((l5 : Int) = n) ∧ 0 ≤ i ∧ i ≤ l5 ∧ w1 = w18 ∧ ∀ j : Nat, (j : Int) < i → (L.getD j []).length = (L.getD 0 []).length) (fun _ _ _ _ _ _ _ _ i _ => (l5 - i).toNat) := fun hna => by
   unfold F71_A0
   exact ret3 (R := chkP w k m n l5 L) r14 r6' rfl fun w' hu => ⟨ext_upd x18' n6 hu, .inr (.inl ⟨hk, hna, _, _, _, _, _, rfl⟩)⟩
  refine ⟨⟨rfl, by omega, by omega, rfl, fun j hj => by omega⟩, ?_⟩
  rintro b i w36 ⟨rfl, hi0, hi1, rfl, hall⟩
  intros
  refine condB_of (fun hs => ?_) (fun hs => ?_)
  ·simp only [decide_eq_true_eq] at hs
   obtain ⟨a, q, ln, cn, rfl, hc, hq, _⟩ := (h5.ext x18').2 i.toNat (by omega)
   obtain ⟨a', q', ln', cn', ha', hc', hq', _⟩ := (h5.ext x18').2 0 (by omega)
   cases ha'
   have e1 := hq.1
   have e2 := hq'.1
   refine ⟨⟨hi0, hs⟩, _, _, _, by rw [Nat.mul_one]; exact hc, ⟨by omega, by omega⟩, _, _, _, hc', condB_of (fun hne => ?_) (fun hne => ?_)⟩
   ·simp only [Bool.not_eq_true', decide_eq_false_iff_not] at hne
    refine bad fun hal => hne ?_
    have := hal.2 i.toNat (by omega)
    omega
   ·simp only [Bool.not_eq_false', decide_eq_true_eq] at hne
    rw [w64 (n := i + 1) (by omega)]
    refine ⟨⟨rfl, by omega, by omega, rfl, fun j hj => ?_⟩, by show ((l5 : Int) - (i + 1)).toNat < ((l5 : Int) - i).toNat; omega⟩
    by_cases h1 : (j : Int) < i
    ·exact hall j h1
    ·rw [show j = i.toNat by omega]; omega
  ·simp only [decide_eq_false_iff_not] at hs
   refine condB_of (fun hn => ?_) (fun hn => ?_)
   ·simp only [Bool.not_eq_true', decide_eq_false_iff_not] at hn
    exact bad fun hal => hn hal.1
   ·simp only [Bool.not_eq_false', decide_eq_true_eq] at hn
    refine ret3 (R := chkP w k m n l5 L) r14 r6' rfl fun w' hu => ⟨ext_upd x18' n6 hu, .inr (.inr ⟨hk, ⟨hn, fun i hi => hall i (by omega)⟩, p, l, c, rfl, ?_⟩)⟩
    exact OwnB.base_le (OwnB.apart (OwnB.ext ho x18) hu r6' ty_mat.1) h6.ext.size
end Go.Proofs.YtkolafpgbhpdlaaGreat
namespace Go.Proofs.YtkolafpgbhpdlaaGreat
open Go Go.Vc Go.Gf
structure RowsAt (w : World) (base : Nat) (a : Addr) (n : Nat) (L : Nat → List UInt8) : Prop where
 typ : 0 < n → ∃ cs, RowK w a.block 25 cs
 own : ∃ P : Nat → Option Addr × Nat × Nat, (∀ i, i < n → w.cell? (a.add i) = some (.slice (P i).1 (P i).2.1 (P i).2.2) ∧ OwnB w base (P i).1 (P i).2.1 (P i).2.2 (L i)) ∧
  ∀ i j, i < n → j < n → i ≠ j → ∀ g, (P i).1 = some (at0 g) → (P j).1 ≠ some (at0 g)
theorem OutAt.rows {w : World} {base k n : Nat} {L : Nat → List UInt8} (h : OutAt w base k n L) : RowsAt w base (at0 k) n L := ⟨fun _ => let ⟨cs, h1, _⟩ := h.row; ⟨cs, h1⟩, h.own⟩
section
variable {w w' : World} {base n : Nat} {a : Addr} {L : Nat → List UInt8}
theorem RowsAt.ext (h : RowsAt w base a n L) (hu : Ext w w') : RowsAt w' base a n L := by
 obtain ⟨P, h3, h4⟩ := h.own
 exact ⟨fun hn => let ⟨cs, h1⟩ := h.typ hn; ⟨cs, hu.keep h1⟩, P, fun i hi => ⟨hu.cell (h3 i hi).1 id, OwnB.ext (h3 i hi).2 hu⟩, h4⟩
theorem RowsAt.base_le {b : Nat} (h : RowsAt w base a n L) (hb : b ≤ base) : RowsAt w b a n L := by
 obtain ⟨P, h3, h4⟩ := h.own
 exact ⟨h.typ, P, fun i hi => ⟨(h3 i hi).1, OwnB.base_le (h3 i hi).2 hb⟩, h4⟩
theorem RowsAt.congr {L' : Nat → List UInt8} (h : RowsAt w base a n L) (hL : ∀ i, i < n → L' i = L i) : RowsAt w base a n L' := by
 obtain ⟨P, h3, h4⟩ := h.own
 exact ⟨h.typ, P, fun i hi => ⟨(h3 i hi).1, by rw [hL i hi]; exact (h3 i hi).2⟩, h4⟩
theorem RowsAt.lists (h : RowsAt w base a n L) : ListsAt w (some a) n ((List.range n).map L) := by
 obtain ⟨P, h3, h4⟩ := h.own
 refine ⟨by simp, fun i hi => ⟨_, _, _, _, rfl, (h3 i hi).1, ?_, OwnB.le (h3 i hi).2⟩⟩
 have : ((List.range n).map L).getD i [] = L i := by simp [List.getD_eq_getElem?_getD, hi]
 rw [this]
 exact OwnB.bytes (h3 i hi).2
theorem RowsAt.at (h : RowsAt w base a n L) {i j : Nat} (hi : i < n) (hj : j < (L i).length) : ∃ p l c g, w.cell? (a.add i) = some (.slice p l c) ∧ l = (L i).length ∧ p = some (at0 g) ∧ base ≤ g ∧ Live w ((at0 g).add j) ∧ w.cell? ((at0 g).add j) = some (vb (co (L i) j)) ∧ (∃ cs, RowK w g 5 cs) ∧
  ∀ b w', SetC w ((at0 g).add j) (vb b) w' → RowsAt w' base a n (fun t => if t = i then (L i).set j b else L t) ∧ Upd (fun x => x = g) w w' := by
 obtain ⟨P, h3, h4⟩ := h.own
 obtain ⟨hc, ho⟩ := h3 i hi
 have hl := OwnB.len ho
 obtain ⟨g, hg, hb, hlive, hcell, hset⟩ := OwnB.at ho (i := j) (by omega)
 have hrow : ∃ cs, RowK w g 5 cs := by
  rw [hg] at ho
  exact OwnB.row ho
 refine ⟨_, _, _, g, hc, hl, hg, hb, hlive, hcell, hrow, fun b w' hs => ?_⟩
 obtain ⟨h5, hu⟩ := hset b w' hs
 obtain ⟨csg, hrow⟩ := hrow
 refine ⟨⟨fun hn => ?_, P, fun t ht => ?_, h4⟩, hu⟩
 ·obtain ⟨cs, h1⟩ := h.typ hn
  exact ⟨cs, hu.keep h1 (RowK.ne h1 hrow ty_out.1.symm)⟩
 ·obtain ⟨cs, h1⟩ := h.typ (by omega)
  refine ⟨hu.cell (h3 t ht).1 (by rw [add_block]; exact RowK.ne h1 hrow ty_out.1.symm), ?_⟩
  by_cases e : t = i
  ·subst e
   rw [if_pos rfl, hg]
   exact h5
  ·rw [if_neg e]
   exact OwnS.upd (h3 t ht).2 hu fun g' hg' he => h4 i t hi ht (fun e2 => e e2.symm) g hg (by rw [hg', show g' = g from he])
end
theorem OutAt.put {w0 w w' : World} {base k n i : Nat} {L : Nat → List UInt8} (h : OutAt w0 base k n L) (hx : Ext w0 w) (hi : i < n) {p : Option Addr} {m c : Nat} {bs : List UInt8} (ho : OwnB w w0.heap.size p m c bs) (hb : base ≤ w0.heap.size)
  (hs : SetC w ((at0 k).add i) (.slice p m c) w') : OutAt w' base k n (fun t => if t = i then bs else L t) ∧ Upd (fun x => x = k) w w' := by
 obtain ⟨cs, h1, h2⟩ := (h.ext hx).row
 obtain ⟨P, h3, h4⟩ := h.own
 obtain ⟨r', hu⟩ := h1.set3 hs
 have fresh : ∀ t, t < n → ∀ g, (P t).1 = some (at0 g) → p ≠ some (at0 g) := fun t ht g hg he => by
  have h5 := (h3 t ht).2
  rw [hg] at h5
  have := OwnS.lt_heap h5
  have := OwnB.blk ho he
  omega
 refine ⟨⟨⟨_, r', by simp [h2]⟩, h.le, fun t => if t = i then (p, m, c) else P t, fun t ht => ?_, ?_⟩, hu⟩
 ·dsimp only
  rw [rowk_cell r', Array.getElem?_setIfInBounds]
  by_cases e : t = i
  ·subst e
   simp only [if_true]
   rw [if_pos (by omega)]
   exact ⟨rfl, OwnB.base_le (OwnB.apart ho hu h1 ty_out.1.symm) hb⟩
  ·rw [if_neg (fun e2 => e e2.symm), if_neg e, if_neg e]
   refine ⟨?_, OwnB.apart (OwnB.ext (h3 t ht).2 hx) hu h1 ty_out.1.symm⟩
   rw [← rowk_cell h1]
   exact hx.cell (h3 t ht).1 id
 ·intro s t hs' ht hst g hg
  dsimp only at hg ⊢
  by_cases h5 : s = i
  ·rw [if_pos h5] at hg
   rw [if_neg (fun e => hst (h5.trans e.symm))]
   exact fun he => fresh t ht g he hg
  ·rw [if_neg h5] at hg
   by_cases h6 : t = i
   ·rw [if_pos h6]; exact fresh s hs' g hg
   ·rw [if_neg h6]; exact h4 s t hs' ht hst g hg
theorem own_spec {p : Option Addr} {l c : Nat} {w : World} {L : List (List UInt8)} (h : ListsAt w p l L) (hl : l ≤ 1048576) (hb : ∀ x ∈ L, x.length ≤ 1073741824) :
  Calls Tryz.prog 72 #[.slice p l c] w fun e w' => ∃ k, e = .returned (.slice (some (at0 k)) l l) ∧ Ext w w' ∧ OutAt w' w.heap.size k l (fun i => L.getD i []) := by
 refine (F72_calls p l c w (fun v w' => ∃ k, v = .slice (some (at0 k)) l l ∧ Ext w w' ∧ OutAt w' w.heap.size k l (fun i => L.getD i []))
  (fun q _ _ _ _ _ _ _ i w1 => 0 ≤ i ∧ i ≤ l ∧ Ext w w1 ∧ ∃ k, q = some (at0 k) ∧ OutAt w1 w.heap.size k l (fun t => if (t : Int) < i then L.getD t [] else [])) (fun _ _ _ _ _ _ _ _ i _ => (l - i).toNat) ?_).mono (by
  rintro e w' ⟨v, rfl, k, rfl, h⟩; exact ⟨k, rfl, h⟩)
 have hL := h.1
 refine ⟨⟨by omega, by omega, by omega⟩, fun k w3 hk => ?_⟩
 rw [Int.toNat_natCast] at hk ⊢
 rw [made_one 25 (.slice none 0 0) (by kernel_rfl) l] at hk
 have r3 : RowK w3 k 25 (List.replicate l (.slice none 0 0)).toArray := hk.at
 have o3 : OutAt w3 w.heap.size k l (fun t => if (t : Int) < 0 then L.getD t [] else []) := by
  refine ⟨⟨_, r3, by simp⟩, by rw [hk.size.1]; exact Nat.le_refl _, fun _ => (none, 0, 0), fun i hi => ⟨?_, ?_⟩, fun _ _ _ _ _ g hg => by cases hg⟩
  ·rw [rowk_cell r3]; simp [hi]
  ·rw [if_neg (by omega)]; exact OwnS.nil _ _ _ _
 refine ⟨⟨by omega, by omega, hk.ext, k, rfl, o3⟩, ?_⟩
 rintro i w12 ⟨hi0, hi1, hx, k', g1, ho⟩
 simp only [Option.some.injEq, at0, Addr.mk.injEq, and_true] at g1
 subst g1
 intros
 refine condB_of (fun hs => ?_) (fun hs => ?_)
 ·simp only [decide_eq_true_eq] at hs
  obtain ⟨a, q, ln, cn, rfl, hc, hq, _⟩ := (h.ext hx).2 i.toNat (by omega)
  have hlen : (L.getD i.toNat []).length ≤ 1073741824 := by
   rw [List.getD_eq_getElem?_getD, List.getElem?_eq_getElem (by omega)]
   exact hb _ (List.getElem_mem _)
  refine ⟨⟨hi0, hs⟩, _, _, _, by rw [Nat.mul_one]; exact hc, (bclone_own hq (by rw [hq.1]; exact hlen)).mono ?_⟩
  rintro e w27 ⟨p', c', rfl, x27, oc⟩
  obtain ⟨cs, hr, hsz⟩ := (ho.ext x27).row
  rw [Nat.mul_one, w64 (n := i + 1) (by omega)]
  refine ⟨_, _, _, rfl, ⟨hi0, by omega⟩, RowW.live ⟨_, hr⟩ (by omega), fun w30 s30 => ?_⟩
  obtain ⟨o30, u30⟩ := ho.put x27 (i := i.toNat) (by omega) oc hx.size s30
  refine ⟨⟨by omega, by omega, ext_upd (hx.trans x27) ho.le u30, k, rfl, o30.congr fun t ht => ?_⟩, by show ((l : Int) - (i + 1)).toNat < ((l : Int) - i).toNat; omega⟩
  by_cases e : t = i.toNat
  ·rw [if_pos (by omega), if_pos e, e]
  ·rw [if_neg e]
   by_cases h1 : (t : Int) < i
   ·rw [if_pos h1, if_pos (by omega)]
   ·rw [if_neg h1, if_neg (by omega)]
 ·simp only [decide_eq_false_iff_not] at hs
  exact ⟨k, rfl, hx, ho.congr fun t ht => by rw [if_pos (by omega)]⟩
theorem adder_spec {f p4 p5 : Option Addr} {a b : Int} {l4 c4 l5 c5 : Nat} {w : World} :
  Calls Tryz.prog 73 #[.pointer f, matV a b p4 l4 c4, .slice p5 l5 c5] w fun e w' => ∃ k6 k8 k10, e = .returned (.func (.func 111) #[] #[.pointer (some (at0 k10)), .pointer (some (at0 k8)), .pointer (some (at0 k6))]) ∧ Ext w w' ∧
   RowK w' k6 33 #[.pointer f] ∧ RowK w' k8 137 (matC a b p4 l4 c4) ∧ RowK w' k10 79 #[.slice p5 l5 c5] := by
 refine (F73_calls f a b p4 l4 c4 p5 l5 c5 w (fun v w' => ∃ k6 k8 k10, v = .func (.func 111) #[] #[.pointer (some (at0 k10)), .pointer (some (at0 k8)), .pointer (some (at0 k6))] ∧ Ext w w' ∧
   RowK w' k6 33 #[.pointer f] ∧ RowK w' k8 137 (matC a b p4 l4 c4) ∧ RowK w' k10 79 #[.slice p5 l5 c5]) ?_).mono (by rintro e w' ⟨v, rfl, k6, k8, k10, rfl, h⟩; exact ⟨k6, k8, k10, rfl, h⟩)
 intro k6 w7 h6 k8 w9 h8 k10 w11 h10
 exact ⟨k6, k8, k10, rfl, h6.ext.trans (h8.ext.trans h10.ext), h10.ext.keep (h8.ext.keep h6.at), h10.ext.keep h8.at, h10.at⟩
def addUp (c : UInt8) (s t : List UInt8) (j : Nat) : List UInt8 := (List.range t.length).map fun n => if n < j then co t n ^^^ gm c (co s n) else co t n
theorem addUp_len (c : UInt8) (s t : List UInt8) (j : Nat) : (addUp c s t j).length = t.length := by simp [addUp]
theorem addUp_co (c : UInt8) (s t : List UInt8) (j n : Nat) (hn : n < t.length) : co (addUp c s t j) n = if n < j then co t n ^^^ gm c (co s n) else co t n := by simp [Gf.co, addUp, List.getD_eq_getElem?_getD, hn]
theorem addUp_zero (c : UInt8) (s t : List UInt8) : addUp c s t 0 = t := co_ext (addUp_len _ _ _ _) fun i hi => by
 rw [addUp_len] at hi
 rw [addUp_co _ _ _ _ _ hi, if_neg (by omega)]
theorem addUp_set (c : UInt8) (s t : List UInt8) {j : Nat} (hj : j < t.length) : (addUp c s t j).set j (co t j ^^^ gm c (co s j)) = addUp c s t (j + 1) := by
 refine co_ext (by rw [List.length_set, addUp_len, addUp_len]) fun i hi => ?_
 rw [List.length_set, addUp_len] at hi
 rw [co_set (by rw [addUp_len]; exact hj), addUp_co _ _ _ _ _ hi, addUp_co _ _ _ _ _ hi]
 by_cases e : i = j
 ·rw [if_pos e, if_pos (by omega), e]
 ·rw [if_neg e]
  by_cases h : i < j
  ·rw [if_pos h, if_pos (by omega)]
  ·rw [if_neg h, if_neg (by omega)]
def addRows (k i : Nat) (val : Nat → UInt8) (s : List UInt8) (L : Nat → List UInt8) (t : Nat) : List UInt8 := if k ≤ t ∧ t < k + i then addUp (val (t - k)) s (L t) s.length else L t
set_option maxHeartbeats 4000000 in
theorem add_spec {w1 w : World} {f p2 pA : Option Addr} {a0 : Addr} {k m j N l2 c2 cp lA cA k6 k8 k10 : Nat} {rows : Int} {s A : List UInt8} {L : Nat → List UInt8} {val : Nat → Nat → UInt8}
  (hf : FieldAt w1 f) (hA : BytesAt w1 pA lA A) (hAl : A = genA val k (m * k)) (hs : BytesAt w1 p2 l2 s) (hj : j < k) (hk : k ≤ 256) (hm : m ≤ 256) (hN : k + m ≤ N) (hsl : l2 ≤ 1073741824)
  (hx : Ext w1 w) (h : RowsAt w w1.heap.size a0 N L) (hlen : ∀ t, k ≤ t → t < k + m → (L t).length = l2)
  (r6 : RowK w k6 33 #[.pointer f]) (r8 : RowK w k8 137 (matC rows (k : Int) pA lA cA)) {pp : Option Addr} (hpp : 0 < m → pp = some (a0.add k)) (r10 : RowK w k10 79 #[.slice pp m cp]) :
  Calls Tryz.prog 111 #[.int .i64 (j : Int), .slice p2 l2 c2, .pointer (some (at0 k10)), .pointer (some (at0 k8)), .pointer (some (at0 k6))] w fun e w' => e = .returned (.tuple #[]) ∧ Ext w1 w' ∧ RowsAt w' w1.heap.size a0 N (addRows k m (fun i => val i j) s L) ∧
   ∀ k' e cs, e ≠ 5 → RowK w k' e cs → RowK w' k' e cs := by
 have sl := hs.1
 have Al := hA.1
 rw [hAl, genA_len] at Al
 refine (F111_calls j p2 l2 c2 (at0 k10) (at0 k8) (at0 k6) w (fun v w' => v = .tuple #[] ∧ Ext w1 w' ∧ RowsAt w' w1.heap.size a0 N (addRows k m (fun i => val i j) s L) ∧
   ∀ k' e cs, e ≠ 5 → RowK w k' e cs → RowK w' k' e cs)
  (fun _ _ _ _ _ _ _ i w' => 0 ≤ i ∧ i ≤ m ∧ Ext w1 w' ∧ RowsAt w' w1.heap.size a0 N (addRows k i.toNat (fun i => val i j) s L) ∧ ∀ k' e cs, e ≠ 5 → RowK w k' e cs → RowK w' k' e cs) (fun _ _ _ _ _ _ _ i _ => (m - i).toNat)
  (fun _ _ p54 l54 c54 c _ _ _ _ i _ _ _ _ _ n w' => 0 ≤ n ∧ n ≤ l2 ∧ 0 ≤ i ∧ i < m ∧ Ext w1 w' ∧ w'.cell? (a0.add (k + i.toNat)) = some (.slice p54 l54 c54) ∧ RowsAt w' w1.heap.size a0 N (fun t => if t = k + i.toNat then addUp (val i.toNat j) s (L t) n.toNat else addRows k i.toNat (fun i => val i j) s L t) ∧
   ∀ k' e cs, e ≠ 5 → RowK w k' e cs → RowK w' k' e cs) (fun _ _ _ _ _ _ _ _ _ _ _ _ _ _ _ _ n _ => (l2 - n).toNat) ?_).mono (by rintro e w' ⟨v, rfl, rfl, h⟩; exact ⟨rfl, h⟩)
 refine ⟨_, _, _, r10.cell, ⟨by omega, by omega, hx, h.congr fun t ht => ?_, fun _ _ _ _ h => h⟩, ?_⟩
 ·unfold addRows
  rw [if_neg (by have : (0 : Int).toNat = 0 := rfl; omega)]
 rintro i w14 ⟨hi0, hi1, hx14, hR, hk14⟩
 intros
 refine condB_of (fun hs' => ?_) (fun hs' => ?_)
 ·simp only [decide_eq_true_eq] at hs'
  have hin : k + i.toNat < N := by omega
  obtain rfl := hpp (by omega)
  obtain ⟨P, h3, _⟩ := hR.own
  obtain ⟨hc, ho⟩ := h3 (k + i.toNat) hin
  have hLi : addRows k i.toNat (fun i => val i j) s L (k + i.toNat) = L (k + i.toNat) := by
   unfold addRows
   rw [if_neg (by omega)]
  rw [hLi] at ho
  have hlo := OwnB.len ho
  have hll := hlen (k + i.toNat) (by omega) (by omega)
  have r8' := hk14 k8 _ _ ty_mat.1 r8
  have hik : i.toNat * k + j < m * k := by
   have : (i.toNat + 1) * k ≤ m * k := Nat.mul_le_mul_right _ (by omega)
   rw [Nat.add_mul] at this
   omega
  have hbig : m * k ≤ 256 * 256 := Nat.mul_le_mul hm hk
  have hmi : i * (k : Int) = ((i.toNat * k : Nat) : Int) := by
   rw [show i = ((i.toNat : Nat) : Int) by omega, Int.toNat_natCast]
   exact (Int.natCast_mul _ _).symm
  refine ⟨⟨hi0, by omega⟩, ?_⟩
  show ∃ (p54 : Option Addr) (l54 c54 : Nat), w14.cell? ((a0.add k).add (i.toNat * 1)) = some (.slice p54 l54 c54) ∧ _
  rw [Nat.mul_one, add_add]
  refine ⟨_, _, _, hc, _, _, _, r8'.cell3 rfl, _, r8'.cell3 rfl, ?_⟩
  rw [hmi, w64 (n := ((i.toNat * k : Nat) : Int)) (by omega), w64 (n := ((i.toNat * k : Nat) : Int) + (j : Int)) (by omega)]
  have e1 : (((i.toNat * k : Nat) : Int) + (j : Int)).toNat = i.toNat * k + j := by omega
  rw [e1, Nat.mul_one]
  obtain ⟨aA, rfl, hcA⟩ := BytesAt.co (hA.ext hx14) (i := i.toNat * k + j) (by omega)
  have eA : co A (i.toNat * k + j) = val i.toNat j := by
   rw [hAl, genA_co _ hik]
   congr 1
   ·rw [Nat.mul_comm, Nat.mul_add_div (by omega), Nat.div_eq_of_lt hj, Nat.add_zero]
   ·rw [Nat.mul_comm, Nat.mul_add_mod, Nat.mod_eq_of_lt hj]
  rw [eA] at hcA
  refine ⟨⟨by omega, by omega⟩, _, hcA, ⟨by omega, by omega, hi0, hs', hx14, hc, hR.congr fun t ht => ?_, hk14⟩, ?_⟩
  ·by_cases e : t = k + i.toNat
   ·rw [if_pos e, show (0 : Int).toNat = 0 from rfl, addUp_zero, e, hLi]
   ·rw [if_neg e]
  rintro n w75 ⟨hn0, hn1, _, _, hx75, hc75, hR75, hk75⟩
  intros
  refine condB_of (fun ht => ?_) (fun ht => ?_)
  ·simp only [decide_eq_true_eq] at ht
   obtain ⟨aS, rfl, hcs⟩ := BytesAt.co (hs.ext hx75) (i := n.toNat) (by omega)
   refine ⟨⟨hn0, ht⟩, _, by rw [Nat.mul_one]; exact hcs, fun w95 hd => ?_⟩
   have x95 := hx75.trans hd.ext
   obtain ⟨p, l, c, g, e2, e3, e4, e5, lv, cell, ⟨csg, hrow⟩, hset⟩ := (hR75.ext hd.ext).at (i := k + i.toNat) (j := n.toNat) hin (by rw [if_pos rfl, addUp_len]; omega)
   have hc95 := hd.ext.cell hc75 id
   rw [hc95] at e2
   simp only [Option.some.injEq, Value.slice.injEq] at e2
   obtain ⟨q1, q2, q3⟩ := e2
   rw [e4] at q1
   rw [q1]
   rw [if_pos rfl, addUp_co _ _ _ _ _ (by omega), if_neg (by omega)] at cell
   rw [if_pos rfl, addUp_len] at e3
   have r6' := hk75 k6 _ _ ty_out.2.1.symm r6
   have r6'' : RowK w95 k6 33 #[.pointer f] := hd.ext.keep r6'
   refine ⟨⟨hn0, by omega⟩, ?_⟩
   show ∃ n97 : Int, w95.cell? ((at0 g).add (n.toNat * 1)) = some (.int .u8 n97) ∧ _
   rw [Nat.mul_one]
   refine ⟨_, cell, _, r6''.cell, (fmul_spec (hf.ext x95) _ _).mono ?_⟩
   rintro e w99 ⟨rfl, x99⟩
   obtain ⟨p', l', c', g', f2, f3, f4, f5, lv', cell', ⟨csg', hrow'⟩, hset'⟩ := ((hR75.ext hd.ext).ext x99).at (i := k + i.toNat) (j := n.toNat) hin (by rw [if_pos rfl, addUp_len]; omega)
   have hc99 := x99.cell hc95 id
   rw [hc99] at f2
   simp only [Option.some.injEq, Value.slice.injEq] at f2
   have hgg : g' = g := by
    rw [q1, f4] at f2
    have := f2.1
    simp only [Option.some.injEq, at0, Addr.mk.injEq, and_true] at this
    exact this.symm
   subst hgg
   refine ⟨_, rfl, ⟨_, x99.cell cell id, rfl⟩, ⟨hn0, by omega⟩, lv', fun w104 s104 => ?_⟩
   rw [bx8] at s104
   obtain ⟨hR104, u104⟩ := hset' _ _ s104
   have x104 : Ext w1 w104 := ext_upd (x95.trans x99) f5 u104
   rw [w64 (n := n + 1) (by omega)]
   obtain ⟨csa, hra⟩ := (((hR75.ext hd.ext).ext x99)).typ (by omega)
   refine ⟨⟨by omega, by omega, hi0, hs', x104, (by rw [← q1]; exact u104.cell hc99 (by rw [add_block]; exact RowK.ne hra hrow' ty_out.1.symm)), hR104.congr fun t ht2 => ?_, fun k' e cs he hr => ?_⟩, by show ((l2 : Int) - (n + 1)).toNat < ((l2 : Int) - n).toNat; omega⟩
   ·by_cases e : t = k + i.toNat
    ·rw [if_pos e, if_pos e, if_pos rfl, e, show (n + 1).toNat = n.toNat + 1 by omega, addUp_set _ _ _ (by omega)]
    ·rw [if_neg e, if_neg e, if_neg e]
   ·have h1 : RowK w99 k' e cs := (hd.ext.trans x99).keep (hk75 k' e cs he hr)
    exact u104.keep h1 (RowK.ne h1 hrow' he)
  ·simp only [decide_eq_false_iff_not] at ht
   rw [w64 (n := i + 1) (by omega)]
   refine ⟨⟨by omega, by omega, hx75, hR75.congr fun t ht2 => ?_, hk75⟩, by show ((m : Int) - (i + 1)).toNat < ((m : Int) - i).toNat; omega⟩
   unfold addRows
   by_cases e : t = k + i.toNat
   ·rw [if_pos e, if_pos (by omega), e, show k + i.toNat - k = i.toNat by omega, show n.toNat = s.length by omega]
   ·rw [if_neg e]
    by_cases h5 : k ≤ t ∧ t < k + i.toNat
    ·rw [if_pos h5, if_pos (by omega)]
    ·rw [if_neg h5, if_neg (by omega)]
 ·simp only [decide_eq_false_iff_not] at hs'
  refine ⟨rfl, hx14, ?_, hk14⟩
  rw [show i.toNat = m by omega] at hR
  exact hR
end Go.Proofs.YtkolafpgbhpdlaaGreat
namespace Go.Proofs.YtkolafpgbhpdlaaGreat
open Go Go.Vc Go.Gf
def RowsS (w : World) (base : Nat) (p : Option Addr) (n c : Nat) (L : Nat → List UInt8) : Prop :=
 ∃ P : Nat → Option Addr × Nat × Nat, OwnS w base 25 1 p n c ((List.range n).map fun t => Value.slice (P t).1 (P t).2.1 (P t).2.2) ∧ (∀ t, t < n → OwnB w base (P t).1 (P t).2.1 (P t).2.2 (L t)) ∧
  ∀ i j, i < n → j < n → i ≠ j → ∀ g, (P i).1 = some (at0 g) → (P j).1 ≠ some (at0 g)
theorem OutAt.rowsS {w : World} {base k n : Nat} {L : Nat → List UInt8} (h : OutAt w base k n L) (hn : n ≤ maxLen) : RowsS w base (some (at0 k)) n n L := by
 obtain ⟨cs, h1, h2⟩ := h.row
 obtain ⟨P, h3, h4⟩ := h.own
 refine ⟨P, ⟨by simp, .inr ⟨k, n, cs, rfl, h.le, h1, Nat.le_refl _, hn, by omega, ?_⟩⟩, fun t ht => (h3 t ht).2, h4⟩
 rw [Nat.mul_one, List.take_of_length_le (by simp [h2])]
 refine List.ext_getElem? fun j => ?_
 rw [Array.getElem?_toList]
 by_cases hj : j < n
 ·rw [← rowk_cell h1, (h3 j hj).1]
  simp [hj]
 ·rw [Array.getElem?_eq_none (by omega), List.getElem?_eq_none (by simp; omega)]
section
variable {w w' : World} {base n c : Nat} {p : Option Addr} {L : Nat → List UInt8}
theorem RowsS.rows (h : RowsS w base p n c L) {a : Addr} (hp : p = some a) : RowsAt w base a n L := by
 obtain ⟨P, h1, h2, h3⟩ := h
 subst hp
 refine ⟨fun hn => ?_, P, fun t ht => ⟨?_, h2 t ht⟩, h3⟩
 ·rcases h1.where_ with ⟨h, _⟩ | ⟨g, h, _, _, _, cur, hc, _⟩
  ·cases h
  ·cases h; exact ⟨cur, hc⟩
 ·obtain ⟨a', ha, hc⟩ := OwnS.cells h1 t (Value.slice (P t).1 (P t).2.1 (P t).2.2) (by simp [ht])
  cases ha
  exact hc
theorem RowsS.ext (h : RowsS w base p n c L) (hu : Ext w w') : RowsS w' base p n c L := by
 obtain ⟨P, h1, h2, h3⟩ := h
 exact ⟨P, OwnS.ext h1 hu, fun t ht => OwnB.ext (h2 t ht) hu, h3⟩
theorem RowsS.push {w1 : World} {k : Nat} {q : Option Addr} {m d : Nat} {bs : List UInt8} (h : RowsS w base p n c L) (hx : Ext w w') (ho : OwnB w' w.heap.size q m d bs) (hk : NewB w' k (.cells #[.slice q m d] 25) w1) (hb : base ≤ w.heap.size) (hn : n ≤ 1073741824) :
  ∃ p' c' w2, Sem.run Tryz.prog (Builtin.append_ #[79, 79] 79 #[.slice p n c, .slice (some (at0 k)) 1 1]) w1 = .ok (.slice p' (n + 1) c') w2 ∧ RowsS w2 base p' (n + 1) c' (fun t => if t = n then bs else L t) ∧
   Upd (fun x => p = some (at0 x)) w' w2 := by
 obtain ⟨P, h1, h2, h3⟩ := h
 have x1 := hx.trans hk.ext
 have o1 := OwnS.ext h1 x1
 have hq : CellsAt w1 (some (at0 k)) [.slice q m d] := by
  intro j u hj
  refine ⟨_, rfl, hk.row.row.cell ?_⟩
  simpa using hj
 obtain ⟨p', c', w2, hr, ho2, hu, _⟩ := o1.append elemX 79 (q := some (at0 k)) (m := 1) (d := 1) (news := [.slice q m d]) rfl hq (fun h => by cases h)
  (fun u hu => by rw [List.mem_singleton] at hu; subst hu; rfl) (by unfold maxLen; omega) (by omega) (Nat.le_trans hb x1.size)
 have keep : ∀ {b : Nat} {p : Option Addr} {n c : Nat} {bs : List UInt8}, OwnB w1 b p n c bs → OwnB w2 b p n c bs := fun o => OwnB.other o hu fun x hx => by
  obtain ⟨cs, e', fz, h4, h5⟩ := OwnS.typed o1 hx
  exact ⟨cs, e', fz, h4, by rw [h5]; exact ty_out.1.symm⟩
 refine ⟨p', c', w2, hr, ⟨fun t => if t = n then (q, m, d) else P t, ?_, fun t ht => ?_, ?_⟩, Upd.trans hk.ext.upd hu fun x _ hx => hx⟩
 ·have e : ((List.range (n + 1)).map fun t => Value.slice (if t = n then (q, m, d) else P t).1 (if t = n then (q, m, d) else P t).2.1 (if t = n then (q, m, d) else P t).2.2) = ((List.range n).map fun t => Value.slice (P t).1 (P t).2.1 (P t).2.2) ++ [.slice q m d] := by
   have e1 : ((List.range n).map fun t => Value.slice (if t = n then (q, m, d) else P t).1 (if t = n then (q, m, d) else P t).2.1 (if t = n then (q, m, d) else P t).2.2) = (List.range n).map fun t => Value.slice (P t).1 (P t).2.1 (P t).2.2 :=
    List.map_congr_left fun t ht => by
     rw [List.mem_range] at ht
     rw [if_neg (by omega)]
   rw [List.range_succ, List.map_append, e1, List.map_cons, List.map_nil, if_pos rfl]
  rw [e]; exact ho2
 ·dsimp only
  by_cases e : t = n
  ·rw [if_pos e, if_pos e]
   exact keep (OwnB.base_le (OwnB.ext ho hk.ext) hb)
  ·rw [if_neg e, if_neg e]
   exact keep (OwnB.ext (h2 t (by omega)) x1)
 ·have fresh : ∀ t, t < n → ∀ g, (P t).1 = some (at0 g) → q ≠ some (at0 g) := fun t ht g hg he => by
   have h5 := h2 t ht
   rw [hg] at h5
   have := OwnS.lt_heap h5
   have := OwnB.blk ho he
   omega
  intro s t hs ht hst g hg
  dsimp only at hg ⊢
  by_cases h5 : s = n
  ·rw [if_pos h5] at hg
   rw [if_neg (fun e => hst (h5.trans e.symm))]
   exact fun he => fresh t (by omega) g he hg
  ·rw [if_neg h5] at hg
   by_cases h6 : t = n
   ·rw [if_pos h6]; exact fresh s (by omega) g hg
   ·rw [if_neg h6]; exact h3 s t (by omega) (by omega) hst g hg
end
def encU (k : Nat) (L : List (List UInt8)) (s j t : Nat) : List UInt8 := if t < k then L.getD t [] else (List.range s).map fun n => xs j fun i => gm (parV k (t - k) i) (co (L.getD i []) n)
def encRow (k m : Nat) (L : List (List UInt8)) (t : Nat) : List UInt8 := (List.range (L.getD 0 []).length).map fun n => co (enc k m (L.map fun x => co x n)) t
theorem range_co {s n : Nat} (f : Nat → UInt8) (h : n < s) : co ((List.range s).map f) n = f n := by simp [Gf.co, List.getD_eq_getElem?_getD, h]
theorem map_co (L : List (List UInt8)) (n i : Nat) : co (L.map fun x => co x n) i = co (L.getD i []) n := by
 simp only [Gf.co, List.getD_eq_getElem?_getD, List.getElem?_map]
 cases L[i]? <;> simp
theorem encU_step {k m j s t : Nat} {L : List (List UInt8)} (hs : (L.getD j []).length = s) (ht : t < k + m) : addRows k m (fun i => parV k i j) (L.getD j []) (encU k L s j) t = encU k L s (j + 1) t := by
 unfold addRows encU
 by_cases h : t < k
 ·rw [if_neg (by omega), if_pos h, if_pos h]
 ·rw [if_pos (by omega), if_neg h, if_neg h]
  refine co_ext (by rw [addUp_len]; simp) fun n hn => ?_
  rw [addUp_len] at hn
  have hn' : n < s := by simpa using hn
  rw [addUp_co _ _ _ _ _ hn, if_pos (by omega), range_co _ hn', range_co _ hn']
  rfl
theorem encU_done {k m t : Nat} {L : List (List UInt8)} (hl : L.length = k) (hall : ∀ i, i < k → (L.getD i []).length = (L.getD 0 []).length) (ht : t < k + m) : encU k L (L.getD 0 []).length k t = encRow k m L t := by
 unfold encU encRow
 have hd : ∀ n, (L.map fun x => co x n).length = k := fun n => by rw [List.length_map, hl]
 by_cases h : t < k
 ·rw [if_pos h]
  refine co_ext (by rw [List.length_map, List.length_range]; exact hall t h) fun n hn => ?_
  rw [range_co _ (by rw [← hall t h]; exact hn), enc_data (hd n) h, map_co]
 ·rw [if_neg h]
  refine List.map_congr_left fun n _ => ?_
  obtain ⟨i, rfl⟩ : ∃ i, t = k + i := ⟨t - k, by omega⟩
  rw [enc_par (hd n) (by omega), show k + i - k = i by omega]
  unfold par
  exact xs_congr fun j _ => by rw [map_co]; rfl
theorem callAdd {j : Int} {p : Option Addr} {l c k10 k8 k6 : Nat} {w : World} {K : Value → World → Prop} (h : Calls Tryz.prog 111 #[.int .i64 j, .slice p l c, .pointer (some (at0 k10)), .pointer (some (at0 k8)), .pointer (some (at0 k6))] w fun e w' => e = .returned (.tuple #[]) ∧ K (.tuple #[]) w') :
  callVW Tryz.prog (.func (.func 111) #[] #[.pointer (some (at0 k10)), .pointer (some (at0 k8)), .pointer (some (at0 k6))]) [.int .i64 j, .slice p l c] w K := by
 have e : callVW Tryz.prog (.func (.func 111) #[] #[.pointer (some (at0 k10)), .pointer (some (at0 k8)), .pointer (some (at0 k6))]) [.int .i64 j, .slice p l c] w K =
  Calls Tryz.prog 111 #[.int .i64 j, .slice p l c, .pointer (some (at0 k10)), .pointer (some (at0 k8)), .pointer (some (at0 k6))] w (fun e w' => e = .returned (.tuple #[]) ∧ K (.tuple #[]) w') := by kernel_rfl
 rw [e]; exact h
def encP (w : World) (k m : Int) (l : Nat) (L : List (List UInt8)) (v : Value) (w' : World) : Prop := Ext w w' ∧ ((¬ kmOk k m ∧ v = .tuple #[.slice none 0 0, .int .i64 50]) ∨ (kmOk k m ∧ ¬ Alike k l L ∧ v = .tuple #[.slice none 0 0, .int .i64 60]) ∨
 kmOk k m ∧ Alike k l L ∧ ∃ a c, v = .tuple #[.slice (some a) (k + m).toNat c, .int .i64 0] ∧ RowsAt w' w.heap.size a (k + m).toNat (encRow k.toNat m.toNat L) ∧ ∃ g, a = at0 g ∧ w.heap.size ≤ g)
def EncS (w : World) (q11 : Option Addr) (k m : Int) (L : List (List UInt8)) (p : Option Addr) (n c : Nat) (w1 : World) : Prop :=
 ∃ w0, Ext w w0 ∧ Ext w0 w1 ∧ RowsS w1 w0.heap.size p n c (encU k.toNat L (L.getD 0 []).length 0) ∧ ∃ k11 pA lA cA A, q11 = some (at0 k11) ∧ A = genA (parV k.toNat) k.toNat (m.toNat * k.toNat) ∧ BytesAt w0 pA lA A ∧ RowK w0 k11 137 (matC m k pA lA cA)
def EncA (w : World) (f : Option Addr) (k m : Int) (L : List (List UInt8)) (p : Option Addr) (n : Nat) (v : Value) (j : Int) (w1 : World) : Prop :=
 ∃ w0 a k6 k8 k10 pA lA cA A pp cp, p = some a ∧ v = .func (.func 111) #[] #[.pointer (some (at0 k10)), .pointer (some (at0 k8)), .pointer (some (at0 k6))] ∧ Ext w w0 ∧ Ext w0 w1 ∧ A = genA (parV k.toNat) k.toNat (m.toNat * k.toNat) ∧ BytesAt w0 pA lA A ∧
  RowK w1 k6 33 #[.pointer f] ∧ RowK w1 k8 137 (matC m k pA lA cA) ∧ (0 < m.toNat → pp = some (a.add k.toNat)) ∧ RowK w1 k10 79 #[.slice pp m.toNat cp] ∧ (n : Int) = k + m ∧ (∃ g, a = at0 g ∧ w0.heap.size ≤ g) ∧ RowsAt w1 w0.heap.size a n (encU k.toNat L (L.getD 0 []).length j.toNat)
set_option maxRecDepth 20000 in
set_option maxHeartbeats 4000000 in
theorem encode_spec {f p : Option Addr} {w : World} {l c : Nat} {L : List (List UInt8)} (hf : FieldAt w f) (h : ListsAt w p l L) (bl : ∀ x ∈ L, x.length ≤ 1073741824) (hl : l ≤ 4611686018427387904) (k m : Int) :
  Calls Tryz.prog 39 #[.pointer f, .int .i64 k, .int .i64 m, .slice p l c] w fun e w' => ∃ v, e = .returned v ∧ encP w k m l L v w' := by
 refine F39_calls f k m p l c w (encP w k m l L)
  (fun q11 _ w16 p21 l21 c21 i w23 => 0 ≤ i ∧ i ≤ m ∧ (l21 : Int) = k + i ∧ EncS w q11 k m L p21 l21 c21 w23) (fun _ _ _ _ _ _ i _ => (m - i).toNat)
  (fun p21 l21 _ v48 _ _ _ _ _ j w58 => 0 ≤ j ∧ j ≤ k ∧ EncA w f k m L p21 l21 v48 j w58) (fun _ _ _ _ _ _ _ _ _ j _ => (k - j).toNat) ?_
 have hL := h.1
 refine (checked_spec hf h (fun x hx => by have := bl x hx; omega) hl k m k).mono ?_
 have main : ∀ (w5 : World) (a b : Int) (p : Option Addr) (l c : Nat), Ext w w5 → ∀ (K : Nat → World → Prop), (∀ k11 w15, RowK w15 k11 137 (matC a b p l c) → Ext w5 w15 → K k11 w15) →
   (∀ (k11 : Nat) (w12 : World), NewB w5 k11 (.cells #[.int .i64 (0 : Int), .int .i64 (0 : Int), .slice none 0 0] 137) w12 → (Live w12 (at0 k11) ∧ (∀ w13 : World, SetC w12 (at0 k11) (Value.int .i64 a) w13 → (Live w13 ((at0 k11).add 1) ∧ (∀ w14 : World, SetC w13 ((at0 k11).add 1) (Value.int .i64 b) w14 →
    (Live w14 ((at0 k11).add 2) ∧ (∀ w15 : World, SetC w14 ((at0 k11).add 2) (Value.slice p l c) w15 → K k11 w15))))))) := by
  intro w5 a b p l c hx K hK k11 w12 h11
  have r11 : RowK w12 k11 137 (matC 0 0 none 0 0) := h11.at
  have n11 : w5.heap.size ≤ k11 := by rw [h11.size.1]; exact Nat.le_refl _
  refine ⟨r11.live0 (by simp), fun w13 s13 => ?_⟩
  obtain ⟨c1, v1⟩ := r11.set0 s13
  refine ⟨c1.live3 (by simp), fun w14 s14 => ?_⟩
  obtain ⟨c2, v2⟩ := c1.set3 s14
  refine ⟨c2.live3 (by simp), fun w15 s15 => ?_⟩
  obtain ⟨c3, v3⟩ := c2.set3 s15
  exact hK k11 w15 c3 (ext_upd (ext_upd (ext_upd h11.ext n11 v1) n11 v2) n11 v3)
 rintro e w5 ⟨x5, ⟨hk, a, b, pA, lA, cA, rfl⟩ | ⟨hk, hal, a, b, pA, lA, cA, rfl⟩ | ⟨hk, hal, pA, lA, cA, rfl, oA⟩⟩
 ·refine ⟨_, _, _, _, _, _, rfl, main w5 _ _ _ _ _ x5 _ fun k11 w15 _ x15 => condB_of (fun _ => ?_) (fun h => by simp at h)⟩
  exact ⟨x5.trans x15, .inl ⟨hk, rfl⟩⟩
 ·refine ⟨_, _, _, _, _, _, rfl, main w5 _ _ _ _ _ x5 _ fun k11 w15 _ x15 => condB_of (fun _ => ?_) (fun h => by simp at h)⟩
  exact ⟨x5.trans x15, .inr (.inl ⟨hk, hal, rfl⟩)⟩
 obtain ⟨a1, a2, a3, a4⟩ := hk
 have hk : kmOk k m := ⟨a1, a2, a3, a4⟩
 have hlk := hal.1
 have hkk : l = k.toNat := by omega
 refine ⟨_, _, _, _, _, _, rfl, main w5 _ _ _ _ _ x5 _ fun k11 w15 r11 x15 => condB_of (fun h => by simp at h) fun _ => ?_⟩
 have xw15 := x5.trans x15
 refine (own_spec (h.ext xw15) (by omega) bl).mono ?_
 rintro e w16 ⟨ko, rfl, x16, out⟩
 have hlen0 : (L.getD 0 []).length ≤ 1073741824 := by
  rw [List.getD_eq_getElem?_getD, List.getElem?_eq_getElem (by omega)]
  exact bl _ (List.getElem_mem _)
 refine ⟨_, _, _, rfl, ⟨by omega, by omega, by omega, w15, xw15, x16, ?_, k11, pA, lA, cA, _, rfl, rfl, OwnB.bytes (OwnB.ext oA x15), r11⟩, ?_⟩
 ·obtain ⟨P, g1, g2, g3⟩ := out.rowsS (by unfold maxLen; omega)
  refine ⟨P, g1, fun t ht => ?_, g3⟩
  have e1 : encU k.toNat L (L.getD 0 []).length 0 t = L.getD t [] := by unfold encU; rw [if_pos (by omega)]
  rw [e1]; exact g2 t ht
 rintro p21 l21 c21 i w23 ⟨hi0, hi1, hli, w0, y1, y2, hR, k11', pA', lA', cA', A, q1, hA, bA, rA⟩
 simp only [Option.some.injEq, at0, Addr.mk.injEq, and_true] at q1
 subst q1
 intros
 have yw := y1.trans y2
 refine condB_of (fun hs => ?_) (fun hs => ?_)
 ·
  simp only [decide_eq_true_eq] at hs
  obtain ⟨a, q, ln, cn, rfl, hc, hq, _⟩ := (h.ext yw).2 0 (by omega)
  have hqn := hq.1
  refine ⟨⟨by omega, by omega⟩, _, _, _, hc, ⟨by omega, by omega, by omega⟩, fun k36 w37 h36 k38 w39 h38 => ?_⟩
  rw [Int.toNat_natCast] at h36 h38
  have o37 : OwnB w37 w23.heap.size (some (at0 k36)) ln ln (List.replicate ln 0) := OwnB.made h36 (by rw [h36.size.1]; exact Nat.le_refl _) (by unfold maxLen; omega)
  obtain ⟨p', c', w40, hr, hR', hu⟩ := hR.push h36.ext o37 h38 y2.size (by omega)
  have y40 : Ext w0 w40 := OwnB.new_ext (y2.trans h36.ext) hu fun x hx => by
   obtain ⟨P, g1, _⟩ := hR
   exact OwnS.blk g1 hx
  rw [w64 (n := i + 1) (by omega)]
  refine ⟨_, _, _, w40, hr, ⟨by omega, by omega, by omega, w0, y1, y40, ?_, k11, pA', lA', cA', A, rfl, hA, bA, rA⟩, by show (m - (i + 1)).toNat < (m - i).toNat; omega⟩
  obtain ⟨P, g1, g2, g3⟩ := hR'
  refine ⟨P, g1, fun t ht => ?_, g3⟩
  have g4 := g2 t ht
  dsimp only at g4
  by_cases e : t = l21
  ·rw [if_pos e] at g4
   have e1 : encU k.toNat L (L.getD 0 []).length 0 t = List.replicate ln 0 := by
    unfold encU
    rw [if_neg (by omega), hqn]
    exact List.ext_getElem (by simp) fun j h1 h2 => by simp [xs]
   rw [e1]; exact g4
  ·rw [if_neg e] at g4
   exact g4
 ·simp only [decide_eq_false_iff_not] at hs
  obtain rfl : i = m := by omega
  intro w42 hd
  have rA42 : RowK w42 k11 137 (matC i k pA' lA' cA') := hd.ext.keep (y2.keep rA)
  obtain ⟨P, g1, g2, g3⟩ := hR
  have hp21 : ∃ a, p21 = some a ∧ ∃ g, a = at0 g ∧ w0.heap.size ≤ g := by
   rcases g1.where_ with ⟨_, h0, _⟩ | ⟨g, h0, hg, _⟩
   ·omega
   ·exact ⟨_, h0, g, rfl, hg⟩
  obtain ⟨a, rfl, hag⟩ := hp21
  have hR : RowsAt w23 w0.heap.size a l21 (encU k.toNat L (L.getD 0 []).length 0) := RowsS.rows ⟨P, g1, g2, g3⟩ rfl
  have hle : l21 ≤ c21 := by
   rcases g1.where_ with ⟨_, h0, _⟩ | ⟨g, _, _, _, h0, _⟩
   ·omega
   ·exact h0
  refine ⟨_, rA42.cell0 rfl, _, rA42.cell3 rfl, _, _, _, rA42.cell3 rfl, ⟨by omega, by omega⟩, adder_spec.mono ?_⟩
  rintro e w46 ⟨k6, k8, k10, rfl, x46, r6, r8, r10⟩
  have hm2 : l21 - k.toNat = i.toNat := by omega
  rw [hm2] at r10
  refine ⟨_, rfl, ⟨by omega, by omega, w0, a, k6, k8, k10, pA', lA', cA', A, _, _, rfl, rfl, y1, (y2.trans hd.ext).trans x46, hA, bA, r6, r8, fun hm0 => ?_, r10, by omega, hag, (hR.ext hd.ext).ext x46⟩, ?_⟩
  ·unfold cutP
   rw [if_neg (by omega)]
   show some (a.add (k.toNat * 1)) = _
   rw [Nat.mul_one]
  rintro j w58 ⟨hj0, hj1, w0', a', k6', k8', k10', pB, lB, cB, B, pp, cp, q1, q2, z1, z2, hB, bB, t6, t8, hpp, t10, _, hag', hRj⟩
  cases q1
  have q3 : k10 = k10' ∧ k8 = k8' ∧ k6 = k6' := by simpa using q2
  obtain ⟨rfl, rfl, rfl⟩ := q3
  intros
  have zw := z1.trans z2
  refine condB_of (fun hs2 => ?_) (fun hs2 => ?_)
  ·simp only [decide_eq_true_eq] at hs2
   obtain ⟨d, q, ln, cn, rfl, hc, hq, _⟩ := (h.ext zw).2 j.toNat (by omega)
   obtain ⟨d', q', ln', cn', hd', hc', hq', _⟩ := (h.ext z1).2 j.toNat (by omega)
   cases hd'
   have hcc := z2.cell hc' id
   rw [hc] at hcc
   simp only [Option.some.injEq, Value.slice.injEq] at hcc
   obtain ⟨rfl, rfl, rfl⟩ := hcc
   have hqn := hq'.1
   have hsame := hal.2 j.toNat (by omega)
   refine ⟨⟨hj0, hs2⟩, _, _, _, by rw [Nat.mul_one]; exact hc, ?_⟩
   refine callAdd ?_
   have e1 : matC i k pB lB cB = matC i ((k.toNat : Nat) : Int) pB lB cB := by rw [show ((k.toNat : Nat) : Int) = k by omega]
   rw [e1] at t8
   have hsp := add_spec (w1 := w0') (m := i.toNat) (j := j.toNat) (N := l21) (c2 := cn) (val := parV k.toNat) (hf.ext z1) bB hB hq' (by omega) (by omega) (by omega) (by omega) (by omega) z2 hRj (fun t ht ht2 => by
    unfold encU
    rw [if_neg (by omega), List.length_map, List.length_range]; omega) t6 t8 hpp t10
   rw [show ((j.toNat : Nat) : Int) = j by omega] at hsp
   refine hsp.mono ?_
   rintro e w73 ⟨rfl, z3, hR3, hk3⟩
   rw [w64 (n := j + 1) (by omega)]
   rw [← e1] at t8
   refine ⟨rfl, ⟨by omega, by omega, w0', a, k6, k8, k10, pB, lB, cB, B, pp, cp, rfl, rfl, z1, z3, hB, bB, hk3 _ _ _ ty_out.2.1.symm t6, hk3 _ _ _ ty_mat.1 t8, hpp, hk3 _ _ _ ty_out.2.2.2.2.1.symm t10, by omega, hag', hR3.congr fun t ht => ?_⟩, by show (k - (j + 1)).toNat < (k - j).toNat; omega⟩
   rw [show (j + 1).toNat = j.toNat + 1 by omega]
   exact (encU_step hsame (by omega)).symm
  ·simp only [decide_eq_false_iff_not] at hs2
   have hn : (k + i).toNat = l21 := by omega
   obtain ⟨gg, hg1, hg2⟩ := hag'
   refine ⟨zw, .inr (.inr ⟨hk, hal, a, c21, ?_, ?_, gg, hg1, Nat.le_trans z1.size hg2⟩)⟩
   ·rw [hn]
   ·rw [hn]
    refine (hRj.congr fun t ht => ?_).base_le z1.size
    rw [show j.toNat = k.toNat by omega]
    exact (encU_done (by omega) (fun i' hi' => hal.2 i' (by omega)) (by omega)).symm
end Go.Proofs.YtkolafpgbhpdlaaGreat
namespace Go.Proofs.YtkolafpgbhpdlaaGreat
open Go Go.Vc Go.Gf
theorem OwnB.append {w : World} {base : Nat} {p q : Option Addr} {n c m d : Nat} {bs cs : List UInt8} (h : OwnB w base p n c bs) (hq : BytesAt w q m cs) (hb : base ≤ w.heap.size) (hn : n + m ≤ 1073741824) :
  ∃ p' c' w2, Sem.run Tryz.prog (Builtin.append_ #[25, 25] 25 #[.slice p n c, .slice q m d]) w = .ok (.slice p' (n + m) c') w2 ∧ OwnB w2 base p' (n + m) c' (bs ++ cs) ∧ Upd (fun x => p = some (at0 x)) w w2 := by
 have hm := hq.1
 obtain ⟨p', c', w2, hr, ho, hu, _⟩ := OwnS.append elemY 25 h (q := q) (m := m) (d := d) (news := encB cs) (by rw [encB_length]; omega) hq.cells (fun e => by
  subst e
  by_cases h0 : cs = []
  ·subst h0; exact hm
  ·obtain ⟨a, ha, _⟩ := hq.2 h0
   cases ha) (encB_one cs) (by unfold maxLen; omega) (by omega) hb
 refine ⟨p', c', w2, hr, ?_, hu⟩
 have : encB bs ++ encB cs = encB (bs ++ cs) := by simp [encB]
 rw [this] at ho
 exact ho
end Go.Proofs.YtkolafpgbhpdlaaGreat
namespace Go.Proofs.YtkolafpgbhpdlaaGreat
open Go Go.Vc Go.Gf
theorem RowsS.congr {w : World} {base n c : Nat} {p : Option Addr} {L L' : Nat → List UInt8} (h : RowsS w base p n c L) (hL : ∀ i, i < n → L' i = L i) : RowsS w base p n c L' := by
 obtain ⟨P, g1, g2, g3⟩ := h
 exact ⟨P, g1, fun t ht => by rw [hL t ht]; exact g2 t ht, g3⟩
theorem RowsS.nil (w : World) (base : Nat) (L : Nat → List UInt8) : RowsS w base none 0 0 L :=
 ⟨fun _ => (none, 0, 0), OwnS.nil _ _ _ _, fun t ht => (Nat.not_lt_zero _ ht).elim, fun _ _ h => (Nat.not_lt_zero _ h).elim⟩
set_option maxHeartbeats 2000000 in
theorem copied_spec {p : Option Addr} {l c : Nat} {w : World} {L : List (List UInt8)} (h : ListsAt w p l L) (hl : l ≤ 1048576) (bl : ∀ x ∈ L, x.length ≤ 1048576) :
  Calls Tryz.prog 118 #[.slice p l c] w fun e w' => ∃ p' c', e = .returned (.slice p' l c') ∧ Ext w w' ∧ RowsS w' w.heap.size p' l c' (fun t => L.getD t []) := by
 refine (F118_calls p l c w (fun v w' => ∃ p' c', v = .slice p' l c' ∧ Ext w w' ∧ RowsS w' w.heap.size p' l c' (fun t => L.getD t []))
  (fun _ p2 l2 c2 i w4 => 0 ≤ i ∧ i ≤ l ∧ Ext w w4 ∧ (l2 : Int) = i ∧ RowsS w4 w.heap.size p2 l2 c2 (fun t => L.getD t [])) (fun _ _ _ _ i _ => (l - i).toNat) ?_).mono (by rintro e w' ⟨v, rfl, p', c', rfl, h⟩; exact ⟨p', c', rfl, h⟩)
 have hL := h.1
 refine ⟨⟨by omega, by omega, Upd.refl _ _, rfl, RowsS.nil _ _ _⟩, ?_⟩
 rintro p2 l2 c2 i w4 ⟨hi0, hi1, hx, hl2, hR⟩
 intros
 refine condB_of (fun hs => ?_) (fun hs => ?_)
 ·simp only [decide_eq_true_eq] at hs
  intro k20 w21 h21
  have o21 : OwnB w21 w4.heap.size (some (at0 k20)) 0 0 [] := OwnS.made h21 (by rw [h21.size.1]; exact Nat.le_refl _) (Nat.le_refl _) (by unfold maxLen; omega) rfl
  obtain ⟨a, q, ln, cn, rfl, hc, hq, _⟩ := (h.ext (hx.trans h21.ext)).2 i.toNat (by omega)
  have hqn := hq.1
  have hlen : (L.getD i.toNat []).length ≤ 1048576 := by
   rw [List.getD_eq_getElem?_getD, List.getElem?_eq_getElem (by omega)]
   exact bl _ (List.getElem_mem _)
  obtain ⟨p25, c25, w24, hr, o24, u24⟩ := OwnB.append (d := cn) o21 hq h21.ext.size (by omega)
  rw [List.nil_append] at o24
  have x24 : Ext w4 w24 := OwnB.new_ext h21.ext u24 fun x hx => OwnB.blk o21 hx
  refine ⟨⟨hi0, hs⟩, _, _, _, by rw [Nat.mul_one]; exact hc, _, _, _, w24, hr, fun k26 w27 h27 => ?_⟩
  obtain ⟨p', c', w28, hr', hR', hu⟩ := hR.push x24 o24 h27 hx.size (by omega)
  rw [w64 (n := i + 1) (by omega)]
  refine ⟨_, _, _, w28, hr', ⟨by omega, by omega, OwnB.new_ext (hx.trans x24) hu fun y hy => ?_, by omega, hR'.congr fun t ht => ?_⟩, by show ((l : Int) - (i + 1)).toNat < ((l : Int) - i).toNat; omega⟩
  ·obtain ⟨P, g1, _⟩ := hR
   exact OwnS.blk g1 hy
  ·by_cases e : t = l2
   ·rw [if_pos e, show t = i.toNat by omega]
   ·rw [if_neg e]
 ·simp only [decide_eq_false_iff_not] at hs
  obtain rfl : l2 = l := by omega
  exact ⟨p2, c2, rfl, hx, hR⟩
theorem RowsAt.put {w0 w w' : World} {base k n i : Nat} {L : Nat → List UInt8} (h : RowsAt w0 base (at0 k) n L) (hx : Ext w0 w) (hi : i < n) {p : Option Addr} {m c : Nat} {bs : List UInt8} (ho : OwnB w w0.heap.size p m c bs) (hb : base ≤ w0.heap.size)
  (hs : SetC w ((at0 k).add i) (.slice p m c) w') : RowsAt w' base (at0 k) n (fun t => if t = i then bs else L t) ∧ Upd (fun x => x = k) w w' := by
 obtain ⟨cs, h1⟩ := (h.ext hx).typ (by omega)
 have h1 : RowK w k 25 cs := h1
 obtain ⟨P, h3, h4⟩ := h.own
 have hcs : i < cs.size := by
  have h5 := hx.cell (h3 i hi).1 id
  rw [rowk_cell h1] at h5
  exact (Array.getElem?_eq_some_iff.1 h5).1
 obtain ⟨r', hu⟩ := h1.set3 hs
 have fresh : ∀ t, t < n → ∀ g, (P t).1 = some (at0 g) → p ≠ some (at0 g) := fun t ht g hg he => by
  have h5 := (h3 t ht).2
  rw [hg] at h5
  have := OwnS.lt_heap h5
  have := OwnB.blk ho he
  omega
 refine ⟨⟨fun _ => ⟨_, r'⟩, fun t => if t = i then (p, m, c) else P t, fun t ht => ?_, ?_⟩, hu⟩
 ·dsimp only
  rw [rowk_cell r', Array.getElem?_setIfInBounds]
  by_cases e : t = i
  ·subst e
   simp only [if_true]
   rw [if_pos hcs]
   exact ⟨rfl, OwnB.base_le (OwnB.apart ho hu h1 ty_out.1.symm) hb⟩
  ·rw [if_neg (fun e2 => e e2.symm), if_neg e, if_neg e]
   refine ⟨?_, OwnB.apart (OwnB.ext (h3 t ht).2 hx) hu h1 ty_out.1.symm⟩
   rw [← rowk_cell h1]
   exact hx.cell (h3 t ht).1 id
 ·intro s t hs' ht hst g hg
  dsimp only at hg ⊢
  by_cases h5 : s = i
  ·rw [if_pos h5] at hg
   rw [if_neg (fun e => hst (h5.trans e.symm))]
   exact fun he => fresh t ht g he hg
  ·rw [if_neg h5] at hg
   by_cases h6 : t = i
   ·rw [if_pos h6]; exact fresh s hs' g hg
   ·rw [if_neg h6]; exact h4 s t hs' ht hst g hg
theorem RowsAt.otherT {w w' : World} {base n : Nat} {a : Addr} {L : Nat → List UInt8} {S : Nat → Prop} (h : RowsAt w base a n L) (hu : Upd S w w') (hS : ∀ x, S x → ∃ (cs : Array Value) (e : TypeId) (fz : Nat × Nat), w.heap[x]? = some (Obj.cells cs e fz) ∧ e ≠ 5 ∧ e ≠ 25) : RowsAt w' base a n L := by
 obtain ⟨P, h3, h4⟩ := h.own
 have hk : 0 < n → ¬ S a.block := fun hn hs => by
  obtain ⟨cs, h1⟩ := h.typ hn
  obtain ⟨cs', e, fz, h5, _, h6⟩ := hS _ hs
  unfold RowK at h1
  rw [h1] at h5
  cases h5
  exact h6 rfl
 refine ⟨fun hn => let ⟨cs, h1⟩ := h.typ hn; ⟨cs, hu.keep h1 (hk hn)⟩, P, fun i hi => ⟨hu.cell (h3 i hi).1 (by rw [add_block]; exact hk (by omega)), OwnB.other (h3 i hi).2 hu fun x hx => ?_⟩, h4⟩
 obtain ⟨cs', e, fz, h5, h6, _⟩ := hS x hx
 exact ⟨cs', e, fz, h5, h6⟩
theorem sorted_ext : ∀ {l l' : List Nat}, l.Pairwise (· < ·) → l'.Pairwise (· < ·) → (∀ x, x ∈ l ↔ x ∈ l') → l = l'
 | [], [], _, _, _ => rfl
 | [], b :: _, _, _, h => by have := (h b).2 List.mem_cons_self; cases this
 | a :: _, [], _, _, h => by have := (h a).1 List.mem_cons_self; cases this
 | a :: l, b :: l', h1, h2, h => by
  rw [List.pairwise_cons] at h1 h2
  have e : a = b := by
   rcases List.mem_cons.1 ((h a).1 List.mem_cons_self) with e | e
   ·exact e
   ·rcases List.mem_cons.1 ((h b).2 List.mem_cons_self) with e2 | e2
    ·exact e2.symm
    ·have := h2.1 _ e
     have := h1.1 _ e2
     omega
  subst e
  rw [sorted_ext h1.2 h2.2 fun x => ⟨fun hx => ?_, fun hx => ?_⟩]
  ·rcases List.mem_cons.1 ((h x).1 (List.mem_cons_of_mem _ hx)) with e | e
   ·have := h1.1 _ hx; omega
   ·exact e
  ·rcases List.mem_cons.1 ((h x).2 (List.mem_cons_of_mem _ hx)) with e | e
   ·have := h2.1 _ hx; omega
   ·exact e
theorem mis_some {n : Nat} {ms : List Bool} (h : (mis n ms).length < n) : ∃ i, i < n ∧ ms.getD i false = false := by
 refine Decidable.byContradiction fun hno => ?_
 have : mis n ms = List.range n := by
  unfold mis
  refine List.filter_eq_self.2 fun i hi => ?_
  rw [List.mem_range] at hi
  cases hb : ms.getD i false with
  | true => rfl
  | false => exact (hno ⟨i, hi, hb⟩).elim
 rw [this, List.length_range] at h
 omega
section
variable {k m n s : Nat} {hs bad : List Bool} {b : UInt8} {L : List (List UInt8)} {Lc : List (List UInt8)}
theorem encRow_len (k m : Nat) (L : List (List UInt8)) (t : Nat) : (encRow k m L t).length = (L.getD 0 []).length := by simp [encRow]
theorem encRow_co {k m : Nat} {L : List (List UInt8)} {t x : Nat} (hx : x < (L.getD 0 []).length) : co (encRow k m L t) x = co (enc k m (L.map fun y => co y x)) t := range_co _ hx
theorem filter_len_le {n : Nat} {f g : Nat → Bool} (h : ∀ t, f t = true → g t = true) : ((List.range n).filter f).length ≤ ((List.range n).filter g).length := by
 induction n with
 | zero => simp
 | succ n ih =>
  rw [range_filter_succ, range_filter_succ, List.length_append, List.length_append]
  by_cases h1 : f n = true
  ·rw [if_pos h1, if_pos (h n h1)]; simpa using ih
  ·rw [if_neg h1]
   simp only [List.length_nil]; omega
end
set_option maxHeartbeats 2000000 in
theorem checked_long {f p5 : Option Addr} {w : World} {l5 c5 : Nat} {L : List (List UInt8)} (hf : FieldAt w f) (h5 : ListsAt w p5 l5 L) (b5 : l5 ≤ 4611686018427387904) (k m n : Int) :
  Calls Tryz.prog 71 #[.pointer f, .int .i64 k, .int .i64 m, .int .i64 n, .slice p5 l5 c5] w fun e w' => Ext w w' ∧
   ((¬ kmOk k m ∧ ∃ a b p l c, e = .returned (.tuple #[matV a b p l c, .int .i64 50])) ∨ (kmOk k m ∧ ¬ Alike n l5 L ∧ ∃ a b p l c, e = .returned (.tuple #[matV a b p l c, .int .i64 60])) ∨
    kmOk k m ∧ Alike n l5 L ∧ ∃ p l c, e = .returned (.tuple #[matV m k p l c, .int .i64 0]) ∧ OwnB w' w.heap.size p l c (genA (parV k.toNat) k.toNat (m.toNat * k.toNat))) := by
 refine (F71_calls f k m n p5 l5 c5 w (chkP w k m n l5 L)
  (fun _ _ _ _ _ _ w18 b i w1 => b = !decide ((l5 : Int) = n) ∧ 0 ≤ i ∧ i ≤ l5 ∧ w1 = w18 ∧ ∀ j : Nat, (j : Int) < i → (L.getD j []).length = (L.getD 0 []).length) (fun _ _ _ _ _ _ _ _ i _ => (l5 - i).toNat) ?_).mono (by
  rintro e w' ⟨v, rfl, hx, ⟨h, a, b, p, l, c, rfl⟩ | ⟨h, h2, a, b, p, l, c, rfl⟩ | ⟨h, h2, p, l, c, rfl, ho⟩⟩
  ·exact ⟨hx, .inl ⟨h, a, b, p, l, c, rfl⟩⟩
  ·exact ⟨hx, .inr (.inl ⟨h, h2, a, b, p, l, c, rfl⟩)⟩
  ·exact ⟨hx, .inr (.inr ⟨h, h2, p, l, c, rfl, ho⟩)⟩)
 have hl5 := h5.1
 intro k6 w7 h6
 have r6 : RowK w7 k6 137 (matC 0 0 none 0 0) := h6.at
 have n6 : w.heap.size ≤ k6 := by rw [h6.size.1]; exact Nat.le_refl _
 refine (cparity_spec (hf.ext h6.ext) k m).mono ?_
 have main : ∀ (w8 : World) (a b : Int) (p : Option Addr) (l c : Nat) (er : Int), Ext w7 w8 → ∀ (K : Nat → World → Prop), (∀ k14 w18, RowK w18 k14 137 (matC a b p l c) → RowK w18 k6 137 (matC 0 0 none 0 0) → k6 ≠ k14 → Ext w8 w18 → K k14 w18) →
   (∀ (k14 : Nat) (w15 : World), NewB w8 k14 (.cells #[.int .i64 (0 : Int), .int .i64 (0 : Int), .slice none 0 0] 137) w15 → (Live w15 (at0 k14) ∧ (∀ w16 : World, SetC w15 (at0 k14) (Value.int .i64 a) w16 → (Live w16 ((at0 k14).add 1) ∧ (∀ w17 : World, SetC w16 ((at0 k14).add 1) (Value.int .i64 b) w17 →
    (Live w17 ((at0 k14).add 2) ∧ (∀ w18 : World, SetC w17 ((at0 k14).add 2) (Value.slice p l c) w18 → K k14 w18))))))) := by
  intro w8 a b p l c er hx K hK k14 w15 h14
  have r14 : RowK w15 k14 137 (matC 0 0 none 0 0) := h14.at
  have n14 : w8.heap.size ≤ k14 := by rw [h14.size.1]; exact Nat.le_refl _
  have ne : k6 ≠ k14 := by have := lt_of_heap r6; have := hx.size; omega
  refine ⟨r14.live0 (by simp), fun w16 s16 => ?_⟩
  obtain ⟨c1, v1⟩ := r14.set0 s16
  refine ⟨c1.live3 (by simp), fun w17 s17 => ?_⟩
  obtain ⟨c2, v2⟩ := c1.set3 s17
  refine ⟨c2.live3 (by simp), fun w18 s18 => ?_⟩
  obtain ⟨c3, v3⟩ := c2.set3 s18
  exact hK k14 w18 c3 (v3.keep (v2.keep (v1.keep (h14.ext.keep (hx.keep r6)) ne) ne) ne) ne (ext_upd (ext_upd (ext_upd h14.ext n14 v1) n14 v2) n14 v3)
 rintro e w8 ⟨x8, ⟨hk, rfl⟩ | ⟨hk, p, l, c, rfl, ho⟩⟩
 ·refine ⟨_, _, _, _, _, _, rfl, main w8 _ _ _ _ _ 50 x8 _ fun k14 w18 r14 r6' ne x18 => condB_of (fun _ => ?_) (fun h => by simp at h)⟩
  exact ret3 (R := chkP w k m n l5 L) r14 r6' rfl fun w' hu => ⟨ext_upd (h6.ext.trans (x8.trans x18)) n6 hu, .inl ⟨hk, _, _, _, _, _, rfl⟩⟩
 ·refine ⟨_, _, _, _, _, _, rfl, main w8 _ _ _ _ _ 0 x8 _ fun k14 w18 r14 r6' ne x18 => condB_of (fun h => by simp at h) fun _ => ?_⟩
  have x18' := h6.ext.trans (x8.trans x18)
  have bad : ¬ Alike n l5 L → F71_A0 w18 k14 k6 (chkP w k m n l5 L)
    (fun _ _ _ _ _ _ w18 b i w1 => b = !decide ((l5 : Int) = n) ∧ 0 ≤ i ∧ i ≤ l5 ∧ w1 = w18 ∧ ∀ j : Nat, (j : Int) < i → (L.getD j []).length = (L.getD 0 []).length) (fun _ _ _ _ _ _ _ _ i _ => (l5 - i).toNat) := fun hna => by
   unfold F71_A0
   exact ret3 (R := chkP w k m n l5 L) r14 r6' rfl fun w' hu => ⟨ext_upd x18' n6 hu, .inr (.inl ⟨hk, hna, _, _, _, _, _, rfl⟩)⟩
  refine ⟨⟨rfl, by omega, by omega, rfl, fun j hj => by omega⟩, ?_⟩
  rintro b i w36 ⟨rfl, hi0, hi1, rfl, hall⟩
  intros
  refine condB_of (fun hs => ?_) (fun hs => ?_)
  ·simp only [decide_eq_true_eq] at hs
   obtain ⟨a, q, ln, cn, rfl, hc, hq, _⟩ := (h5.ext x18').2 i.toNat (by omega)
   obtain ⟨a', q', ln', cn', ha', hc', hq', _⟩ := (h5.ext x18').2 0 (by omega)
   cases ha'
   have e1 := hq.1
   have e2 := hq'.1
   refine ⟨⟨hi0, hs⟩, _, _, _, by rw [Nat.mul_one]; exact hc, ⟨by omega, by omega⟩, _, _, _, hc', condB_of (fun hne => ?_) (fun hne => ?_)⟩
   ·simp only [Bool.not_eq_true', decide_eq_false_iff_not] at hne
    refine bad fun hal => hne ?_
    have := hal.2 i.toNat (by omega)
    omega
   ·simp only [Bool.not_eq_false', decide_eq_true_eq] at hne
    rw [w64 (n := i + 1) (by omega)]
    refine ⟨⟨rfl, by omega, by omega, rfl, fun j hj => ?_⟩, by show ((l5 : Int) - (i + 1)).toNat < ((l5 : Int) - i).toNat; omega⟩
    by_cases h1 : (j : Int) < i
    ·exact hall j h1
    ·rw [show j = i.toNat by omega]; omega
  ·simp only [decide_eq_false_iff_not] at hs
   refine condB_of (fun hn => ?_) (fun hn => ?_)
   ·simp only [Bool.not_eq_true', decide_eq_false_iff_not] at hn
    exact bad fun hal => hn hal.1
   ·simp only [Bool.not_eq_false', decide_eq_true_eq] at hn
    refine ret3 (R := chkP w k m n l5 L) r14 r6' rfl fun w' hu => ⟨ext_upd x18' n6 hu, .inr (.inr ⟨hk, ⟨hn, fun i hi => hall i (by omega)⟩, p, l, c, rfl, ?_⟩)⟩
    exact OwnB.base_le (OwnB.apart (OwnB.ext ho x18) hu r6' ty_mat.1) h6.ext.size
set_option maxHeartbeats 2000000 in
theorem encode_not {f p : Option Addr} {w : World} {l c : Nat} {L : List (List UInt8)} (hf : FieldAt w f) (h : ListsAt w p l L) (hl : l ≤ 4611686018427387904) (k m : Int) (hna : ¬ Alike k l L) :
  Calls Tryz.prog 39 #[.pointer f, .int .i64 k, .int .i64 m, .slice p l c] w fun e w' => ∃ v, e = .returned v ∧ encP w k m l L v w' := by
 refine F39_calls f k m p l c w (encP w k m l L) (fun _ _ _ _ _ _ _ _ => False) (fun _ _ _ _ _ _ _ _ => 0) (fun _ _ _ _ _ _ _ _ _ _ _ => False) (fun _ _ _ _ _ _ _ _ _ _ _ => 0) ?_
 refine (checked_long hf h hl k m k).mono ?_
 have main : ∀ (w5 : World) (a b : Int) (p : Option Addr) (l c : Nat), Ext w w5 → ∀ (K : Nat → World → Prop), (∀ k11 w15, Ext w5 w15 → K k11 w15) →
   (∀ (k11 : Nat) (w12 : World), NewB w5 k11 (.cells #[.int .i64 (0 : Int), .int .i64 (0 : Int), .slice none 0 0] 137) w12 → (Live w12 (at0 k11) ∧ (∀ w13 : World, SetC w12 (at0 k11) (Value.int .i64 a) w13 → (Live w13 ((at0 k11).add 1) ∧ (∀ w14 : World, SetC w13 ((at0 k11).add 1) (Value.int .i64 b) w14 →
    (Live w14 ((at0 k11).add 2) ∧ (∀ w15 : World, SetC w14 ((at0 k11).add 2) (Value.slice p l c) w15 → K k11 w15))))))) := by
  intro w5 a b p l c hx K hK k11 w12 h11
  have r11 : RowK w12 k11 137 (matC 0 0 none 0 0) := h11.at
  have n11 : w5.heap.size ≤ k11 := by rw [h11.size.1]; exact Nat.le_refl _
  refine ⟨r11.live0 (by simp), fun w13 s13 => ?_⟩
  obtain ⟨c1, v1⟩ := r11.set0 s13
  refine ⟨c1.live3 (by simp), fun w14 s14 => ?_⟩
  obtain ⟨c2, v2⟩ := c1.set3 s14
  refine ⟨c2.live3 (by simp), fun w15 s15 => ?_⟩
  obtain ⟨c3, v3⟩ := c2.set3 s15
  exact hK k11 w15 (ext_upd (ext_upd (ext_upd h11.ext n11 v1) n11 v2) n11 v3)
 rintro e w5 ⟨x5, ⟨hk, a, b, pA, lA, cA, rfl⟩ | ⟨hk, hal, a, b, pA, lA, cA, rfl⟩ | ⟨hk, hal, _⟩⟩
 ·refine ⟨_, _, _, _, _, _, rfl, main w5 _ _ _ _ _ x5 _ fun k11 w15 x15 => condB_of (fun _ => ?_) (fun h => by simp at h)⟩
  exact ⟨x5.trans x15, .inl ⟨hk, rfl⟩⟩
 ·refine ⟨_, _, _, _, _, _, rfl, main w5 _ _ _ _ _ x5 _ fun k11 w15 x15 => condB_of (fun _ => ?_) (fun h => by simp at h)⟩
  exact ⟨x5.trans x15, .inr (.inl ⟨hk, hal, rfl⟩)⟩
 ·exact (hna hal).elim
theorem encode_any {f p : Option Addr} {w : World} {l c : Nat} {L : List (List UInt8)} (hf : FieldAt w f) (h : ListsAt w p l L) (h0 : (L.getD 0 []).length ≤ 1048576) (hl : l ≤ 4611686018427387904) (k m : Int) :
  Calls Tryz.prog 39 #[.pointer f, .int .i64 k, .int .i64 m, .slice p l c] w fun e w' => ∃ v, e = .returned v ∧ encP w k m l L v w' := by
 by_cases hal : Alike k l L
 ·refine encode_spec hf h (fun x hx => ?_) hl k m
  obtain ⟨i, hi, rfl⟩ := List.getElem_of_mem hx
  have h1 := hal.2 i (by rw [h.1]; exact hi)
  rw [List.getD_eq_getElem?_getD, List.getElem?_eq_getElem hi, Option.getD_some] at h1
  omega
 ·exact encode_not hf h hl k m hal
end Go.Proofs.YtkolafpgbhpdlaaGreat
namespace Go.Proofs.YtkolafpgbhpdlaaGreat
open Go Go.Vc Go.Gf
section
variable (k m n : Nat) (hs : List Bool) (L : List (List UInt8))
noncomputable def colD (t : Nat) : List UInt8 := (decM k m (wordAt n hs L t) (nots hs)).getD []
noncomputable def difD (t : Nat) : List Nat := dif n (nots hs) (colD k m n hs L t) (wordAt n hs L t)
noncomputable def rowD (x i : Nat) : List UInt8 := (List.range x).map fun t => co (colD k m n hs L t) i
noncomputable def flgD (x i : Nat) : Bool := (List.range x).any fun t => decide (i ∈ difD k m n hs L t)
theorem rowD_len (x i : Nat) : (rowD k m n hs L x i).length = x := by simp [rowD]
theorem flgD_iff (x i : Nat) : flgD k m n hs L x i = true ↔ ∃ t, t < x ∧ i ∈ difD k m n hs L t := by simp [flgD]
end
def fRow (n : Nat) (ff : Nat → Bool) : Array Value := ((List.range n).map fun i => Value.bool (ff i)).toArray
theorem fRow_get {n i : Nat} {ff : Nat → Bool} (hi : i < n) : (fRow n ff)[i]? = some (.bool (ff i)) := by simp [fRow, hi]
theorem fRow_set {n x : Nat} {ff : Nat → Bool} : (fRow n ff).setIfInBounds x (.bool true) = fRow n fun i => ff i || decide (i = x) := by
 apply Array.ext_getElem?
 intro i
 rw [Array.getElem?_setIfInBounds]
 by_cases hi : i < n
 ·rw [fRow_get hi, fRow_get hi]
  by_cases e : x = i
  ·subst e
   rw [if_pos rfl, if_pos (by simp [fRow, hi])]
   simp
  ·rw [if_neg e, decide_eq_false (fun h => e h.symm), Bool.or_false]
 ·have h1 : (fRow n ff)[i]? = none := by simp [fRow, hi]
  have h2 : (fRow n fun i => ff i || decide (i = x))[i]? = none := by simp [fRow, hi]
  rw [h1, h2]
  split
  ·rw [if_neg (by simp [fRow]; omega)]
  ·rfl
theorem fRow_put {n x : Nat} {ff : Nat → Bool} (b : Bool) : (fRow n ff).setIfInBounds x (.bool b) = fRow n fun i => if i = x then b else ff i := by
 apply Array.ext_getElem?
 intro i
 rw [Array.getElem?_setIfInBounds]
 by_cases hi : i < n
 ·rw [fRow_get hi, fRow_get hi]
  by_cases e : x = i
  ·subst e
   rw [if_pos rfl, if_pos (by simp [fRow, hi])]
   simp
  ·rw [if_neg e, if_neg (fun h => e h.symm)]
 ·have h1 : (fRow n ff)[i]? = none := by simp [fRow, hi]
  have h2 : (fRow n fun i => if i = x then b else ff i)[i]? = none := by simp [fRow, hi]
  rw [h1, h2]
  split
  ·rw [if_neg (by simp [fRow]; omega)]
  ·rfl
theorem fRow_len (n : Nat) (ff : Nat → Bool) : (fRow n ff).size = n := by simp [fRow]
end Go.Proofs.YtkolafpgbhpdlaaGreat
