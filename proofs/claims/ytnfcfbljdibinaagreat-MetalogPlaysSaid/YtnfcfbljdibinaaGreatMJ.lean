import Derived.Test.YtnfcfbljdibinaaGreatMR
import Derived.Test.YtnfcfbljdibinaaGreatMV
import Derived.Test.YtnfcfbljdibinaaGreatMA
set_option maxHeartbeats 4000000
namespace Go.Proofs.YtnfcfbljdibinaaGreat
open Go Go.Vc
open Go.IntKind (i64)
open Go.Value (int)
open Go.Proofs.Tryz (prog)
def QC2 (g : Geo) (i n : Int) (L : List Int) : Int := if QS g /\ 0 <= i /\ i < n then L.foldl (fun a x => i64.wrap (a + x)) (i64.wrap (1 + i)) else 0
theorem Q14 (g : Geo) (i n : Int) {p : σ} {l c : Nat} {L : List Int} {w : World} (h : Ql w p l L) (hl : l <= 4611686018427387904) : Calls prog 98 #[gV g, int i64 i, int i64 n, .slice p l c] w fun e w' => e = .returned (int i64 (QC2 g i n L)) /\ Ext w w' := by
 refine (F98_calls g.k g.m g.size g.stripes g.slots g.objects i n p l c w (fun v w' => v = int i64 (QC2 g i n L) /\ Ext w w')
  (fun _ _ _ _ w18 n25 n26 w27 => ∃ j : Nat, n26 = j /\ j <= l /\ w27 = w18 /\ n25 = (L.take j).foldl (fun a x => i64.wrap (a + x)) (i64.wrap (1 + i))) (fun _ _ _ _ _ _ n26 _ => 4611686018427387905 - n26.toNat) ?_).mono (by rintro e w' ⟨v, rfl, rfl, h⟩; exact ⟨rfl, h⟩)
 have hlen := h.1
 intro k10 w11 hk
 have r : RowW w11 k10 _ := ⟨_, hk.at⟩
 refine ⟨_, r.row.cell (n := 0) rfl, _, r.c rfl, _, r.c rfl, _, r.c rfl, _, r.c rfl, _, r.c rfl, (QM3 g w11).mono ?_⟩
 rintro e w18 ⟨rfl, x18⟩
 have y18 := hk.ext.trans x18
 have bad : ¬ (QS g /\ 0 <= i /\ i < n) -> int i64 0 = int i64 (QC2 g i n L) /\ Ext w w18 := fun hn => ⟨by unfold QC2; rw [if_neg hn], y18⟩
 refine ⟨_, rfl, Q0 (fun hc => bad fun hh => ?_) fun hc => Q0 (fun h1 => bad fun hh => ?_) fun h1 => Q0 (fun h2 => bad fun hh => ?_) fun h2 => ?_⟩
 ·unfold Qo at hc; rw [if_pos hh.1] at hc; cases hc
 ·simp only [Za] at h1; omega
 ·simp only [Za] at h2; omega
 simp only [Zb] at h1 h2
 have hg : QS g := by
  by_cases hg : QS g
  ·exact hg
  ·unfold Qo at hc; rw [if_neg hg] at hc; cases hc
 have hok : QS g /\ 0 <= i /\ i < n := ⟨hg, by omega, by omega⟩
 refine ⟨⟨0, rfl, Nat.zero_le _, rfl, rfl⟩, ?_⟩
 rintro n25 n26 w27 ⟨j, rfl, hj, rfl, rfl⟩
 intros
 refine Q0 (fun hlt => ?_) (fun hge => ?_)
 ·simp only [Za] at hlt
  obtain ⟨x, hx⟩ : ∃ x, L[j]? = some x := ⟨L[j]'(by omega), Zc _⟩
  obtain ⟨a, rfl, ca⟩ := (h.ext y18).2 j (int i64 x) (by rw [Zq, hx]; rfl)
  refine ⟨⟨by omega, hlt⟩, x, by rw [Ze, Nat.mul_one]; exact ca, ?_⟩
  rw [w64 (n := (j : Int) + 1) (by omega)]
  refine ⟨⟨j + 1, by omega, by omega, rfl, ?_⟩, ?_⟩
  ·rw [Zn, hx, List.foldl_append]; rfl
  ·show 4611686018427387905 - ((j : Int) + 1).toNat < 4611686018427387905 - (j : Int).toNat
   omega
 ·simp only [Zb] at hge
  rw [Zh (by omega)]
  exact ⟨by unfold QC2; rw [if_pos hok], y18⟩
theorem Qk1 {w w' : World} {k : Nat} {L : List Int} (h : RowW w k (L.map (Value.int .i64)).toArray) (_ : w' = w) : Ql w (some (at0 k)) L.length L := ⟨rfl, fun j u hj => ⟨_, rfl, h.row.cell (by simpa using hj)⟩⟩
def Q70 (g : Geo) (i : Int) : Int := if QS g /\ 0 <= i /\ i < g.slots then 5 + i else 0
def Ql0 (g : Geo) (a i : Int) : Int := if QS g /\ (0 <= a /\ a < 2) /\ 0 <= i /\ i < 2 then 1 + i + 2 * a else 0
theorem QR7 (g : Geo) (i : Int) (w : World) : Calls prog 52 #[gV g, int i64 i] w fun e w' => e = .returned (int i64 (Q70 g i)) /\ Ext w w' := by
 refine (F52_calls g.k g.m g.size g.stripes g.slots g.objects i w (fun v w' => v = int i64 (Q70 g i) /\ Ext w w') ?_).mono (by rintro e w' ⟨v, rfl, rfl, h⟩; exact ⟨rfl, h⟩)
 intro k8 w9 hk
 have r : RowW w9 k8 _ := ⟨_, hk.at⟩
 refine ⟨_, r.row.cell (n := 0) rfl, _, r.c rfl, _, r.c rfl, _, r.c rfl, _, r.c rfl, _, r.c rfl, _, r.c rfl, fun k17 w18 hk17 => ?_⟩
 refine (Q14 g i g.slots (L := [4]) (Qk1 (L := [4]) (w' := w18) ⟨_, hk17.at⟩ rfl) (by simp)).mono ?_
 rintro e w19 ⟨rfl, x19⟩
 refine ⟨_, rfl, ?_, (hk.ext.trans hk17.ext).trans x19⟩
 unfold QC2 Q70
 by_cases h : QS g /\ 0 <= i /\ i < g.slots
 ·rw [if_pos h, if_pos h]
  have := h.1.2.2.2.1
  show int i64 (i64.wrap (i64.wrap (1 + i) + 4)) = _
  rw [w64 (n := 1 + i) (by omega), w64 (by omega)]
  congr 1
  omega
 ·rw [if_neg h, if_neg h]
theorem Q97 (g : Geo) (a i : Int) (w : World) : Calls prog 49 #[gV g, int i64 a, int i64 i] w fun e w' => e = .returned (int i64 (Ql0 g a i)) /\ Ext w w' := by
 refine (F49_calls g.k g.m g.size g.stripes g.slots g.objects a i w (fun v w' => v = int i64 (Ql0 g a i) /\ Ext w w') ?_).mono (by rintro e w' ⟨v, rfl, rfl, h⟩; exact ⟨rfl, h⟩)
 intro k9 w10 hk
 have r : RowW w10 k9 _ := ⟨_, hk.at⟩
 refine ⟨_, r.row.cell (n := 0) rfl, _, r.c rfl, _, r.c rfl, _, r.c rfl, _, r.c rfl, _, r.c rfl, ?_⟩
 have hnil : Ql w10 none 0 [] := ⟨rfl, Q8.nil _ _⟩
 refine (Q14 g a 2 (c := 0) hnil (by omega)).mono ?_
 rintro e w17 ⟨rfl, x17⟩
 have r17 : RowW w17 k9 _ := x17.rowW r id
 have y17 := hk.ext.trans x17
 by_cases ha : QS g /\ 0 <= a /\ a < 2
 ·have e1 : QC2 g a 2 [] = 1 + a := by unfold QC2; rw [if_pos ha]; show i64.wrap (1 + a) = _; rw [w64 (by omega)]
  rw [e1]
  refine ⟨_, rfl, Q0 (fun hz => by simp only [Za] at hz; omega) fun _ => ⟨_, r17.row.cell (n := 0) rfl, _, r17.c rfl, _, r17.c rfl, _, r17.c rfl, _, r17.c rfl, _, r17.c rfl, fun k26 w27 hk26 => ?_⟩⟩
  rw [w64 (n := a * 2) (by omega)] at hk26
  refine (Q14 g i 2 (L := [a * 2]) (Qk1 (L := [a * 2]) (w' := w27) ⟨_, hk26.at⟩ rfl) (by simp)).mono ?_
  rintro e w28 ⟨rfl, x28⟩
  refine ⟨_, rfl, ?_, (y17.trans hk26.ext).trans x28⟩
  unfold QC2 Ql0
  by_cases h : 0 <= i /\ i < 2
  ·rw [if_pos ⟨ha.1, h⟩, if_pos ⟨ha.1, ha.2, h⟩]
   show int i64 (i64.wrap (i64.wrap (1 + i) + a * 2)) = _
   rw [w64 (n := 1 + i) (by omega), w64 (by omega)]
   congr 1
   omega
  ·rw [if_neg (fun hh => h hh.2), if_neg (fun hh => h hh.2.2)]
 ·have e1 : QC2 g a 2 [] = 0 := by unfold QC2; rw [if_neg ha]
  rw [e1]
  refine ⟨_, rfl, Q0 (fun _ => ⟨?_, y17⟩) fun h => by simp at h⟩
  unfold Ql0
  rw [if_neg (fun hh => ha ⟨hh.1, hh.2.1⟩)]
def Qz : List Int -> Int
 | [] => 0
 | x :: l => if x = 0 then Qz l else x
theorem Qn1 {p : σ} {l c : Nat} {L : List Int} {w : World} (h : Ql w p l L) (hl : l <= 1000) : Calls prog 45 #[.slice p l c] w fun e w' => e = .returned (int i64 (Qz L)) /\ w' = w := by
 refine (F45_calls p l c w (fun v w' => v = int i64 (Qz L) /\ w' = w) (fun _ _ _ _ _ n6 w7 => ∃ j : Nat, n6 = j /\ j <= l /\ w7 = w /\ Qz (L.drop j) = Qz L) (fun _ _ _ _ _ n6 _ => 1001 - n6.toNat) ?_).mono (by rintro e w' ⟨v, rfl, rfl, h⟩; exact ⟨rfl, h⟩)
 have hlen := h.1
 refine ⟨⟨0, rfl, Nat.zero_le _, rfl, rfl⟩, ?_⟩
 rintro n6 w7 ⟨j, rfl, hj, rfl, hd⟩
 intros
 refine Q0 (fun hlt => ?_) (fun hge => ?_)
 ·simp only [Za] at hlt
  obtain ⟨x, hx⟩ : ∃ x, L[j]? = some x := ⟨L[j]'(by omega), Zc _⟩
  obtain ⟨a, rfl, ca⟩ := h.2 j (int i64 x) (by rw [Zq, hx]; rfl)
  have hdx : L.drop j = x :: L.drop (j + 1) := by
   have hjl : j < L.length := by omega
   rw [List.drop_eq_getElem_cons hjl]
   congr 1
   exact (Zd.1 hx).2
  rw [hdx, Qz] at hd
  refine ⟨⟨by omega, hlt⟩, x, by rw [Ze, Nat.mul_one]; exact ca, Q0 (fun hn => ?_) fun hz => ?_⟩
  ·simp only [Zg, Zb] at hn
   rw [if_neg hn] at hd
   exact ⟨by rw [hd], rfl⟩
  ·simp only [Zf, Za] at hz
   rw [if_pos hz] at hd
   rw [w64 (by omega)]
   exact ⟨⟨j + 1, by omega, by omega, rfl, hd⟩, by show 1001 - ((j : Int) + 1).toNat < 1001 - (j : Int).toNat; omega⟩
 ·simp only [Zb] at hge
  rw [List.drop_of_length_le (by omega)] at hd
  exact ⟨by rw [← hd]; rfl, rfl⟩
theorem QE0 (b : Bool) (z : Int) (w : World) : Calls prog 47 #[.bool b, int i64 z] w fun e w' => e = .returned (int i64 (if b then 0 else z)) /\ w' = w := by
 refine (F47_calls b z w (fun v w' => v = int i64 (if b then 0 else z) /\ w' = w) ?_).mono (by rintro e w' ⟨v, rfl, rfl, h⟩; exact ⟨rfl, h⟩)
 cases b <;> exact ⟨rfl, rfl⟩
def QN (p : σ) (g : Geo) : Int := if p.isNone then 1 else Qo g
theorem Qe2 (p : σ) (g : Geo) (w : World) : Calls prog 46 #[.pointer p, gV g] w fun e w' => e = .returned (int i64 (QN p g)) /\ Ext w w' := by
 refine (F46_calls p g.k g.m g.size g.stripes g.slots g.objects w (fun v w' => v = int i64 (QN p g) /\ Ext w w') ?_).mono (by rintro e w' ⟨v, rfl, rfl, h⟩; exact ⟨rfl, h⟩)
 intro k8 w9 hk w10 d10
 have r : RowW w10 k8 _ := d10.ext.rowW ⟨_, hk.at⟩ id
 have y10 := hk.ext.trans d10.ext
 refine ⟨_, r.row.cell (n := 0) rfl, _, r.c rfl, _, r.c rfl, _, r.c rfl, _, r.c rfl, _, r.c rfl, (QE0 _ 1 w10).mono ?_⟩
 rintro e w17 ⟨rfl, rfl⟩
 refine ⟨_, rfl, ⟨_, r.row.cell (n := 0) rfl, _, r.c rfl, _, r.c rfl, _, r.c rfl, _, r.c rfl, _, r.c rfl, rfl⟩, (QM3 g _).mono ?_⟩
 rintro e w26 ⟨rfl, x26⟩
 refine ⟨_, rfl, fun k29 w30 hk29 => ?_⟩
 refine (Qn1 (L := [_, _]) (Qk1 (L := [_, _]) (w' := w30) ⟨_, hk29.at⟩ rfl) (by simp)).mono ?_
 rintro e w31 ⟨rfl, rfl⟩
 refine ⟨_, rfl, ?_, (y10.trans x26).trans hk29.ext⟩
 cases p with
 | none => rfl
 | some a =>
  show int i64 (Qz [0, Qo g]) = int i64 (Qo g)
  simp [Qz]
  intro h; rw [h]
def QVa : τ := Qx 0 0 [76]
theorem QZ5 (w : World) : Calls prog 40 #[] w fun e w' => ∃ k c', e = .returned (.slice (some (at0 k)) 13 c') /\ Ext w w' /\ w.heap.size <= k /\ Q3 w' (some (at0 k)) 13 QVa := by
 refine (F40_calls w (fun v w' => ∃ k c', v = .slice (some (at0 k)) 13 c' /\ Ext w w' /\ w.heap.size <= k /\ Q3 w' (some (at0 k)) 13 QVa) ?_).mono (by rintro e w' ⟨v, rfl, k, c', rfl, h⟩; exact ⟨k, c', rfl, h⟩)
 intro k1 w2 hk1
 refine (Qz7 0 0 (Q3.one (b := 76) hk1.at) (by omega)).mono ?_
 rintro e w3 ⟨x3, hp⟩
 rw [if_pos ⟨⟨by omega, by omega⟩, ⟨by omega, by omega⟩, by simp⟩] at hp
 obtain ⟨k, c', hk, rfl, hb⟩ := hp
 have hl : (Qx 0 0 [76]).length = 13 := QC1 _ _ _
 rw [hl] at hb
 refine ⟨_, _, _, _, rfl, k, c', by rw [hl], hk1.ext.trans x3, Zu hk1.ext.size hk, hb⟩
open Go Go.Vc
open Go.IntKind (i64)
open Go.Value (int)
open Go.Proofs.Tryz (prog)
def QB8 (s : StA) (d n : Int) (l : Nat) : Int := if s.down then 130 else if 0 <= d then match s.M[d.toNat]? with
 | some m => Qj m.d n l
 | none => 1 else 1
theorem QK8 {w : World} {a : Nat} {s : StA} {F : Nat -> Prop} (h : IsA w a s F) (ho : OkA s) (d n : Int) {p : σ} {l c : Nat} {b : τ} (hb : Q3 w p l b) :
  Calls prog 39 #[.pointer (some (at0 a)), int i64 d, int i64 n, .slice p l c] w fun e w' => ∃ F', e = .returned (int i64 (QB8 s d n b.length)) /\ Qf F F' w w' /\ IsA w' a (QL s d n b) F' := by
 obtain ⟨M, left, down⟩ := s
 cases down with
 | true =>
  refine (Q13 h d n p l c).mono ?_
  rintro e w' ⟨rfl, rfl⟩
  exact ⟨F, rfl, Qf.refl _ _, by simpa [QL] using h⟩
 | false =>
  by_cases hr : 0 <= d /\ d < M.length
  ·obtain ⟨i, m, rfl, hm⟩ := QM0 hr
   refine (Q23 h ho.2 hm n hb).mono ?_
   rintro e w' ⟨F', rfl, hs, h'⟩
   refine ⟨F', by simp [QB8, hm], hs, ?_⟩
   have : QL ⟨M, left, false⟩ (i : Int) n b = ⟨M.set i { m with d := Q30 m.d n b }, if Qj m.d n b.length = 0 /\ 0 < left then left - 1 else left, decide (Qj m.d n b.length = 0 /\ left = 1)⟩ := by
    unfold QL
    simp [hm]
   rw [this]; exact h'
  ·refine (QJ5 h hr n p l c).mono ?_
   rintro e w' ⟨rfl, rfl⟩
   have hn : 0 <= d -> M[d.toNat]? = none := fun h0 => Zr (by omega)
   refine ⟨F, ?_, Qf.refl _ _, ?_⟩
   ·unfold QB8
    by_cases h0 : 0 <= d
    ·simp [h0, hn h0]
    ·simp [h0]
   ·have : QL ⟨M, left, false⟩ d n b = ⟨M, left, false⟩ := by
     unfold QL
     by_cases h0 : 0 <= d
     ·simp [h0, hn h0]
     ·simp [h0]
    rw [this]; exact h
def Q12 (s : StA) : StA := if s.down then s else { s with M := Q50 s.M.length s.M }
theorem Q93 {w : World} {a : Nat} {s : StA} {F : Nat -> Prop} (h : IsA w a s F) (ho : OkA s) : Calls prog 41 #[.pointer (some (at0 a))] w fun e w' => ∃ F', e = .returned (int i64 (if s.down then 130 else 0)) /\ Qf F F' w w' /\ IsA w' a (Q12 s) F' := by
 obtain ⟨M, left, down⟩ := s
 have hM : M.length <= 32 := ho.1
 cases down with
 | true =>
  refine (QQ4 (show Qb w a M left true F from h)).mono ?_
  rintro e w' ⟨rfl, rfl⟩
  exact ⟨F, rfl, Qf.refl _ _, by simpa [Q12] using h⟩
 | false =>
  refine (QR4 (show Qb w a M left false F from h) (by omega)).mono ?_
  rintro e w' ⟨F', rfl, hs, h'⟩
  exact ⟨F', rfl, hs, h'⟩
def Qz2 (L : List Int) (s : StA) : Nat -> StA × Bool
 | 0 => (s, false)
 | i + 1 => if (Qz2 L s i).2 then Qz2 L s i else (QL (Qz2 L s i).1 (L.getD i 0) 0 QVa, decide (QB8 (Qz2 L s i).1 (L.getD i 0) 0 13 = 130))
theorem QB6 {L : List Int} {s : StA} (h : OkA s) : ∀ i, OkA (Qz2 L s i).1 /\ (Qz2 L s i).1.M.length = s.M.length
 | 0 => ⟨h, rfl⟩
 | i + 1 => by
  have ih := QB6 (L := L) h i
  simp only [Qz2]
  split
  ·exact ih
  ·exact ⟨ih.1.write _ _ _, by rw [QJ9]; exact ih.2⟩
theorem QT3 {L : List Int} {s : StA} {i : Nat} (h : (Qz2 L s i).2 = true) : ∀ j, Qz2 L s (i + j) = Qz2 L s i
 | 0 => rfl
 | j + 1 => by
  have ih := QT3 h j
  rw [← Nat.add_assoc]
  simp only [Qz2]
  rw [ih, if_pos h]
def Qy0 (L : List Int) (s : StA) : StA × Int := if (Qz2 L s L.length).2 then ((Qz2 L s L.length).1, 130) else (Q12 (Qz2 L s L.length).1, if (Qz2 L s L.length).1.down then 130 else 0)
theorem Qb5 {w : World} {a : Nat} {s : StA} {F : Nat -> Prop} (h : IsA w a s F) (ho : OkA s) {p : σ} {l c : Nat} {L : List Int} (hL : ∀ F' w', Qf F F' w w' -> Ql w' p l L) (hl : l <= 1000000) :
  Calls prog 11 #[.pointer (some (at0 a)), .slice p l c] w fun e w' => ∃ F', e = .returned (int i64 (Qy0 L s).2) /\ Qf F F' w w' /\ IsA w' a (Qy0 L s).1 F' := by
 refine (F11_calls (some (at0 a)) p l c w (fun v w' => ∃ F', v = int i64 (Qy0 L s).2 /\ Qf F F' w w' /\ IsA w' a (Qy0 L s).1 F')
  (fun _ _ _ _ _ n7 w8 => ∃ (i : Nat) (F' : Nat -> Prop), n7 = i /\ i <= l /\ (Qz2 L s i).2 = false /\ Qf F F' w w8 /\ IsA w8 a (Qz2 L s i).1 F') (fun _ _ _ _ _ n7 _ => 2000000 - n7.toNat) ?_).mono (by rintro e w' ⟨v, rfl, F', rfl, h⟩; exact ⟨F', rfl, h⟩)
 have hlen := (hL F w (Qf.refl _ _)).1
 refine ⟨⟨0, F, rfl, Nat.zero_le _, rfl, Qf.refl _ _, h⟩, ?_⟩
 rintro n7 w8 ⟨i, F', rfl, hi, hgo, hst, hA⟩
 intros
 have hok := QB6 (L := L) ho i
 refine Q0 (fun hlt => ?_) (fun hge => ?_)
 ·simp only [Za] at hlt
  obtain ⟨x, hxx⟩ : ∃ x, L[i]? = some x := ⟨L[i]'(by omega), Zc _⟩
  obtain ⟨ap, rfl, ca⟩ := (hL _ _ hst).2 i (int i64 x) (by rw [Zq, hxx]; rfl)
  have hgd : L.getD i 0 = x := by rw [Zj, hxx]; rfl
  refine ⟨⟨by omega, hlt⟩, x, by rw [Ze, Nat.mul_one]; exact ca, (QZ5 w8).mono ?_⟩
  rintro e w22 ⟨k, c', rfl, x22, hk, hb⟩
  refine ⟨_, _, _, rfl, (QK8 ((hA : Qb w8 a _ _ _ F').ext x22) hok.1 x 0 hb).mono ?_⟩
  rintro e w25 ⟨F'', rfl, hst25, hA25⟩
  have hl13 : QVa.length = 13 := QC1 _ _ _
  rw [hl13]
  have e1 : Qz2 L s (i + 1) = (QL (Qz2 L s i).1 x 0 QVa, decide (QB8 (Qz2 L s i).1 x 0 13 = 130)) := by
   simp only [Qz2, hgo, hgd]; rfl
  have hT : Qf F F'' w w25 := (hst.trans (Qf.ext x22)).trans hst25
  refine ⟨_, rfl, Q0 (fun h130 => ?_) (fun h130 => ?_)⟩
  ·have hc : (Qz2 L s (i + 1)).2 = true := by rw [e1]; exact h130
   have hall := QT3 hc (L.length - (i + 1))
   rw [show i + 1 + (L.length - (i + 1)) = L.length by omega] at hall
   have e2 : Qy0 L s = ((Qz2 L s (i + 1)).1, 130) := by unfold Qy0; rw [hall, if_pos hc]
   rw [e2]
   refine ⟨F'', rfl, hT, ?_⟩
   rw [e1]; exact hA25
  ·rw [w64 (by omega)]
   refine ⟨⟨i + 1, F'', by omega, by omega, by rw [e1]; exact h130, hT, by rw [e1]; exact hA25⟩, by show 2000000 - ((i : Int) + 1).toNat < 2000000 - (i : Int).toNat; omega⟩
 ·simp only [Zb] at hge
  have hil : i = L.length := by omega
  subst hil
  refine (Q93 hA hok.1).mono ?_
  rintro e w28 ⟨F'', rfl, hst28, hA28⟩
  have e2 : Qy0 L s = (Q12 (Qz2 L s L.length).1, if (Qz2 L s L.length).1.down then 130 else 0) := by unfold Qy0; rw [if_neg (by rw [hgo]; simp)]
  rw [e2]
  exact ⟨_, rfl, F'', rfl, hst.trans hst28, hA28⟩
def QX1 (m : Mem) : Bool := decide (Qe m.d.dead m.d.sectors 0 = 0) && decide (Ql1 m.d 0 = QVa)
theorem Q4f : QI0 prog 36 4 1 1 := ⟨by kernel_rfl, ⟨Tryz.t4, .bool false, by kernel_rfl, by kernel_rfl, by kernel_rfl, by kernel_rfl, by kernel_rfl⟩, by decide⟩
open Go Go.Vc
open Go.IntKind (i64)
open Go.Value (int)
open Go.Proofs.Tryz (prog)
theorem QI8 {p1 p2 : σ} {l1 c1 l2 c2 : Nat} {w : World} {xs ys : τ} (h1 : Q3 w p1 l1 xs) (h2 : Q3 w p2 l2 ys) : Calls prog 43 #[.slice p1 l1 c1, .slice p2 l2 c2] w fun e w' => e = .returned (.bool (decide (xs = ys))) /\ w' = w := by
 refine (F43_calls p1 l1 c1 p2 l2 c2 w (fun v w' => v = .bool (decide (xs = ys)) /\ w' = w) ?_).mono (by rintro e w' ⟨v, rfl, rfl, h⟩; exact ⟨rfl, h⟩)
 refine ⟨_, QG5 h1, _, QG5 h2, ?_, rfl⟩
 congr 1
 rw [decide_eq_decide]
 exact ⟨Qf9, fun h => by rw [h]⟩
theorem Qqa {dead : Bool} {sectors n : Int} : Qe dead sectors n ≠ 130 := by
 unfold Qe
 split
 ·omega
 ·split <;> omega
theorem QB4 {w0 w : World} (hx : Ext w0 w) {p : σ} {n c : Nat} {xs : List Bool} (h : Qc w w0.heap.size 4 1 p n c (xs.map Value.bool)) {k : Nat} {w1 : World} {b : Bool} (hk : QU1 w k (.cells #[.bool b] 4) w1) (hn : n <= 1000) :
  ∃ (p' : σ) (l' c' : Nat), ∃ w', Sem.run prog (Builtin.append_ #[36, 36] 36 #[.slice p n c, .slice (some (at0 k)) 1 1]) w1 = .ok (.slice p' l' c') w' /\ Qc w' w0.heap.size 4 1 p' l' c' ((xs ++ [b]).map Value.bool) /\ l' = n + 1 /\ Ext w0 w' := by
 have r : RowW w1 k #[.bool b] := ⟨_, hk.at⟩
 have hc : Q8 w1 (some (at0 k)) [.bool b] := fun j u hj => ⟨_, rfl, r.row.cell (by simpa using hj)⟩
 have hz := (hx.trans hk.ext).size
 obtain ⟨p', c', w', hr, ho, hu, _⟩ := (h.ext hk.ext).append Q4f 36 (q := some (at0 k)) (m := 1) (d := 1) (news := [.bool b]) rfl hc (fun h => by cases h) (by simp [Value.oneCell']) (by unfold maxLen; omega) (by omega) hz
 refine ⟨p', _, c', w', hr, ?_, rfl, Qb2 (hx.trans hk.ext) (h.ext hk.ext) hu⟩
 rw [Zp]; exact ho
theorem Qa5 {w : World} {a : Nat} {s : StA} {F : Nat -> Prop} (h : IsA w a s F) (ho : OkA s) (h1 : 1 <= s.M.length) : Calls prog 12 #[.pointer (some (at0 a))] w fun e w' => Ext w w' /\ (s.down = true -> e = .returned (.tuple #[.slice none 0 0, int i64 130])) ∧
  (s.down = false -> ∃ p c, e = .returned (.tuple #[.slice p s.M.length c, int i64 0]) /\ Qc w' w.heap.size 4 1 p s.M.length c ((s.M.map QX1).map Value.bool)) := by
 refine (F12_calls (some (at0 a)) w (fun v w' => Ext w w' /\ (s.down = true -> v = .tuple #[.slice none 0 0, int i64 130]) ∧
  (s.down = false -> ∃ p c, v = .tuple #[.slice p s.M.length c, int i64 0] /\ Qc w' w.heap.size 4 1 p s.M.length c ((s.M.map QX1).map Value.bool)))
  (fun _ _ p6 l6 c6 n7 w8 => ∃ i : Nat, n7 = i /\ i <= s.M.length /\ l6 = i /\ Ext w w8 /\ (i = 0 \/ s.down = false) /\ Qc w8 w.heap.size 4 1 p6 l6 c6 (((s.M.take i).map QX1).map Value.bool)) (fun _ _ _ _ _ n7 _ => 100 - n7.toNat) ?_).mono (by
  rintro e w' ⟨v, rfl, hx, h2, h3⟩
  exact ⟨hx, fun hd => by rw [h2 hd], fun hd => by obtain ⟨p, c, rfl, h⟩ := h3 hd; exact ⟨p, c, rfl, h⟩⟩)
 have hM : s.M.length <= 32 := ho.1
 refine Q0 (fun h => by cases h) fun _ => (Qr3 h (by omega)).mono ?_
 rintro e w2 ⟨p4, l4, c4, rfl, x2, rfl, _⟩
 refine ⟨_, _, _, rfl, ⟨0, rfl, Nat.zero_le _, rfl, x2, .inl rfl, Qc.nil _ _ _ _⟩, ?_⟩
 rintro p6 l6 c6 n7 w8 ⟨i, rfl, hi, rfl, x8, hd0, own8⟩
 intros
 refine Q0 (fun hlt => ?_) (fun hge => ?_)
 ·simp only [Za] at hlt
  obtain ⟨m, hm⟩ : ∃ m, s.M[l6]? = some m := ⟨s.M[l6]'(by omega), Zc _⟩
  have tk : s.M.take (l6 + 1) = s.M.take l6 ++ [m] := by rw [Zn, hm]; rfl
  have mu : 100 - (((l6 : Int)) + 1).toNat < 100 - ((l6 : Int)).toNat := by omega
  have h8 := (h : Qb w a _ _ _ F).ext x8
  obtain ⟨M, left, down⟩ := s
  cases down with
  | true =>
   refine (QI3 h8 (l6 : Int) 0).mono ?_
   rintro e w36 ⟨rfl, rfl⟩
   exact ⟨_, _, _, _, rfl, Q0 (fun _ => ⟨x8, fun _ => rfl, fun h => by cases h⟩) fun h => by simp at h⟩
  | false =>
   refine (QJ3 h8 hm 0).mono ?_
   rintro e w36 ⟨x36, p38, l38, c38, bs, rfl, hbs, hl38, own38, _⟩
   have y36 := x8.trans x36
   refine ⟨_, _, _, _, rfl, Q0 (fun h0 => ?_) fun _ => Q0 (fun hz => ?_) fun hnz => fun k50 w51 hk50 => ?_⟩
   ·simp only [Za] at h0
    exact absurd h0 Qqa
   ·simp only [Za] at hz
    rw [if_pos hz] at hbs
    refine (QZ5 w36).mono ?_
    rintro e w40 ⟨k42, c42, rfl, x40, _, hb42⟩
    refine ⟨_, _, _, rfl, (QI8 ((Qp1 own38).ext x40) hb42).mono ?_⟩
    rintro e w43 ⟨rfl, rfl⟩
    refine ⟨_, rfl, fun k46 w47 hk46 => ?_⟩
    obtain ⟨p49, l49, c49, w48, hr, own49, hl49, x48⟩ := QB4 (y36.trans x40) ((own8.ext x36).ext x40) hk46 (by omega)
    rw [w64 (by omega)]
    refine ⟨_, _, _, _, hr, ⟨l6 + 1, by omega, by omega, by omega, x48, .inr rfl, ?_⟩, mu⟩
    have : (((M.take (l6 + 1)).map QX1)) = ((M.take l6).map QX1) ++ [decide (bs = QVa)] := by
     rw [show M.take (l6 + 1) = M.take l6 ++ [m] from tk, Zp]
     simp [QX1, hz, hbs]
    rw [this]; exact own49
   ·simp only [Zb] at hnz
    obtain ⟨p49, l49, c49, w48, hr, own49, hl49, x48⟩ := QB4 y36 (own8.ext x36) hk50 (by omega)
    rw [w64 (by omega)]
    refine ⟨_, _, _, _, hr, ⟨l6 + 1, by omega, by omega, by omega, x48, .inr rfl, ?_⟩, mu⟩
    have : (((M.take (l6 + 1)).map QX1)) = ((M.take l6).map QX1) ++ [false] := by
     rw [show M.take (l6 + 1) = M.take l6 ++ [m] from tk, Zp]
     simp [QX1, hnz]
    rw [this]; exact own49
 ·simp only [Zb] at hge
  have hil : l6 = s.M.length := by omega
  subst hil
  rw [List.take_length] at own8
  refine ⟨x8, fun hd => ?_, fun _ => ⟨p6, c6, rfl, own8⟩⟩
  rcases hd0 with h0 | h0
  ·omega
  ·rw [h0] at hd; cases hd
open Go Go.Vc
open Go.IntKind (i64)
open Go.Value (int)
open Go.Proofs.Tryz (prog)
def okZ (base count : Int) : Int := if 0 <= base /\ 0 <= count /\ base <= 2147483547 then 0 else 1
def QGc (p : σ) (g : Geo) (base count z : Int) : Int := Qz [QN p g, okZ base count, z]
def Qc3 (p : σ) (g : Geo) (base count z : Int) : Int := if QGc p g base count z = 0 then (if count < g.slots then 0 else 180) else QGc p g base count z
def Qe1 (g : Geo) : Array Value := #[int i64 g.k, int i64 g.m, int i64 g.size, int i64 g.stripes, int i64 g.slots, int i64 g.objects]
theorem QSe {p : σ} {g : Geo} {base count z : Int} {w w35 : World} {k14 : Nat} {p24 : σ} {l24 c24 : Nat} {R : φ} (hx : Ext w w35) (hr : RowW w35 k14 (Qe1 g))
  (hbad : ∀ w', Ext w w' -> Qc3 p g base count z ≠ 0 -> R (int i64 (Qc3 p g base count z)) w')
  (hgood : ∀ w', Ext w w' -> Ext w35 w' -> RowW w' k14 (Qe1 g) -> Qc3 p g base count z = 0 -> F16_A2 0 w' k14 count p base p24 l24 c24 R) :
  F16_A1 (.returned (int i64 (okZ base count))) w35 (QN p g) z k14 count p base p24 l24 c24 R := by
 refine ⟨_, rfl, fun k38 w39 hk38 => ?_⟩
 refine (Qn1 (L := [_, _, _]) (Qk1 (L := [_, _, _]) (w' := w39) ⟨_, hk38.at⟩ rfl) (by simp)).mono ?_
 rintro e w40 ⟨rfl, rfl⟩
 have x39 := hx.trans hk38.ext
 have r39 : RowW w40 k14 (Qe1 g) := hk38.ext.rowW hr id
 have ee : Qz [QN p g, okZ base count, z] = QGc p g base count z := rfl
 rw [ee]
 refine ⟨_, rfl, Q0 (fun h0 => ⟨_, r39.c rfl, (QE0 _ 180 w40).mono ?_⟩) fun hn => ?_⟩
 ·simp only [Za] at h0
  rintro e w44 ⟨rfl, rfl⟩
  refine ⟨_, rfl, ?_⟩
  by_cases hc : count < g.slots
  ·have e1 : (if decide (count < g.slots) = true then (0 : Int) else 180) = 0 := by simp [hc]
   rw [e1]
   exact hgood _ x39 hk38.ext r39 (by unfold Qc3; rw [if_pos h0, if_pos hc])
  ·have e1 : (if decide (count < g.slots) = true then (0 : Int) else 180) = Qc3 p g base count z := by unfold Qc3; rw [if_pos h0]; simp [hc]
   have e2 : Qc3 p g base count z = 180 := by unfold Qc3; rw [if_pos h0, if_neg hc]
   rw [e1]
   exact Q0 (fun _ => hbad _ x39 (by rw [e2]; omega)) fun h => by rw [e2] at h; simp at h
 ·simp only [Zb] at hn
  have e1 : QGc p g base count z = Qc3 p g base count z := by unfold Qc3; rw [if_neg hn]
  rw [e1] at hn ⊢
  exact Q0 (fun _ => hbad _ x39 hn) fun h => by simp [hn] at h
theorem QZd (p : σ) (g : Geo) (base count kind : Int) (key : ByteArray) (len : Int) {p13 : σ} {l13 c13 : Nat} {st : List Int} {w : World} (hst : Ql w p13 l13 st) (hl : l13 <= 9223372036854775807) {R : φ}
  (hbad : ∀ w', Ext w w' -> Qc3 p g base count (QR0 kind key len st) ≠ 0 -> R (int i64 (Qc3 p g base count (QR0 kind key len st))) w')
  (hgood : ∀ w' k14 p24 l24 c24, Ext w w' -> RowW w' k14 (Qe1 g) -> Qc0 kind key len st -> Q3 w' p24 l24 (Qg2 kind key len st) -> Qc3 p g base count (QR0 kind key len st) = 0 -> F16_A2 0 w' k14 count p base p24 l24 c24 R) :
  F16 p g.k g.m g.size g.stripes g.slots g.objects base count kind key len p13 l13 c13 w R := by
 intro k14 w15 hk14 k16 w17 hk16
 have r16 : RowW w17 k16 _ := ⟨_, hk16.at⟩
 have r14 : RowW w17 k14 (Qe1 g) := hk16.ext.rowW ⟨_, hk14.at⟩ id
 have x17 := hk14.ext.trans hk16.ext
 refine ⟨_, r16.row.cell (n := 0) rfl, _, r16.c rfl, _, r16.c rfl, _, _, _, r16.c rfl, (Qs8 (hst.ext x17) hl).mono ?_⟩
 rintro e w22 ⟨x22, hh⟩
 obtain ⟨p24, l24, c24, rfl, hb⟩ : ∃ (p24 : σ) (l24 c24 : Nat), e = .returned (.tuple #[.slice p24 l24 c24, int i64 (QR0 kind key len st)]) /\ (QR0 kind key len st = 0 -> Qc0 kind key len st /\ Q3 w22 p24 l24 (Qg2 kind key len st)) := by
  by_cases hk : Qc0 kind key len st
  ·have e0 : QR0 kind key len st = 0 := by unfold QR0; rw [if_pos hk]
   rw [if_pos hk] at hh
   obtain ⟨p', l', c', rfl, own⟩ := hh
   exact ⟨p', l', c', by rw [e0], fun _ => ⟨hk, Qp1 own⟩⟩
  ·have e0 : QR0 kind key len st = 1 := by unfold QR0; rw [if_neg hk]
   rw [if_neg hk] at hh
   exact ⟨none, 0, 0, by rw [e0]; exact hh, fun h => by rw [e0] at h; cases h⟩
 have y22 := x17.trans x22
 have q14 : RowW w22 k14 (Qe1 g) := x22.rowW r14 id
 refine ⟨_, _, _, _, rfl, _, q14.row.cell (n := 0) rfl, _, q14.c rfl, _, q14.c rfl, _, q14.c rfl, _, q14.c rfl, _, q14.c rfl, (Qe2 p g w22).mono ?_⟩
 rintro e w32 ⟨rfl, x32⟩
 have y32 := y22.trans x32
 have q32 : RowW w32 k14 (Qe1 g) := x32.rowW q14 id
 have fin : ∀ (b : Bool), (if b = true then (0 : Int) else 1) = okZ base count -> Calls prog 47 #[.bool b, int i64 1] w32 fun e36 w35 => F16_A1 e36 w35 (QN p g) (QR0 kind key len st) k14 count p base p24 l24 c24 R := fun b hb2 => by
  refine (QE0 b 1 w32).mono ?_
  rintro e w35 ⟨rfl, rfl⟩
  rw [hb2]
  refine QSe y32 q32 hbad fun w' hx hx2 hr hz => ?_
  have hrz : QR0 kind key len st = 0 := by
   by_cases h0 : QR0 kind key len st = 0
   ·exact h0
   ·exfalso
    unfold Qc3 at hz
    split at hz
    ·rename_i h1
     unfold QGc Qz at h1
     split at h1
     ·unfold Qz at h1
      split at h1
      ·unfold Qz at h1
       split at h1
       ·contradiction
       ·contradiction
      ·contradiction
     ·contradiction
    ·contradiction
  exact hgood w' k14 p24 l24 c24 hx hr (hb hrz).1 ((hb hrz).2.ext (x32.trans hx2)) hz
 refine ⟨_, rfl, Q0 (fun h0 => Q0 (fun h1 => fin _ ?_) fun h1 => fin _ ?_) fun h0 => fin _ ?_⟩
 ·simp only [Za] at h0 h1
  unfold okZ
  by_cases h2 : base <= 2147483547
  ·simp [h0, h1, h2]
  ·simp [h2]
 ·simp only [Zb] at h1
  unfold okZ
  simp [h1]
 ·simp only [Zb] at h0
  unfold okZ
  simp [h0]
def QF3 (g : Geo) (base count kind : Int) (key : ByteArray) (len : Int) (st : List Int) (s : StA) : StA × Int :=
 if Qc3 (some (at0 0)) g base count (QR0 kind key len st) = 0 then
  (if (Qf0 (fun _ => true) (Q70 g count) (base + count + 1) (Qg2 kind key len st) s).2.2 = 0 then
   (Q12 (Qf0 (fun _ => true) (Q70 g count) (base + count + 1) (Qg2 kind key len st) s).1, Qz [if (Qf0 (fun _ => true) (Q70 g count) (base + count + 1) (Qg2 kind key len st) s).1.down then 130 else 0, if 0 < (Qf0 (fun _ => true) (Q70 g count) (base + count + 1) (Qg2 kind key len st) s).2.1 then 0 else 150])
  else ((Qf0 (fun _ => true) (Q70 g count) (base + count + 1) (Qg2 kind key len st) s).1, (Qf0 (fun _ => true) (Q70 g count) (base + count + 1) (Qg2 kind key len st) s).2.2))
 else (s, Qc3 (some (at0 0)) g base count (QR0 kind key len st))
theorem QH9 (a : Addr) (g : Geo) (base count z : Int) : Qc3 (some a) g base count z = Qc3 (some (at0 0)) g base count z := rfl
theorem QG4 {to : Nat -> Bool} {addr epoch : Int} {d : τ} {s : StA} (h : OkA s) : OkA (Qf0 to addr epoch d s).1 /\ (Qf0 to addr epoch d s).1.M.length = s.M.length := by
 have := QN6 (to := to) (n := addr) (b := Qx addr epoch d) h s.M.length
 unfold Qf0
 split
 ·split <;> exact ⟨this.1, this.2.1⟩
 ·exact ⟨h, rfl⟩
theorem QB2 {w : World} {a : Nat} {s : StA} {F : Nat -> Prop} (h : IsA w a s F) (ho : OkA s) (g : Geo) (base count kind : Int) (key : ByteArray) (len : Int) {p13 : σ} {l13 c13 : Nat} {st : List Int} (hst : Ql w p13 l13 st) (hl : l13 <= 9223372036854775807) :
  Calls prog 16 #[.pointer (some (at0 a)), gV g, int i64 base, int i64 count, .agg #[int i64 kind, .string key, int i64 len, .slice p13 l13 c13]] w fun e w' => ∃ F', e = .returned (int i64 (QF3 g base count kind key len st s).2) /\ Qf F F' w w' /\ IsA w' a (QF3 g base count kind key len st s).1 F' := by
 refine (F16_calls (some (at0 a)) g.k g.m g.size g.stripes g.slots g.objects base count kind key len p13 l13 c13 w (fun v w' => ∃ F', v = int i64 (QF3 g base count kind key len st s).2 /\ Qf F F' w w' /\ IsA w' a (QF3 g base count kind key len st s).1 F') ?_).mono (by rintro e w' ⟨v, rfl, F', rfl, h⟩; exact ⟨F', rfl, h⟩)
 refine QZd (some (at0 a)) g base count kind key len hst hl (fun w' hx hz => ?_) fun w' k14 p24 l24 c24 hx hr hok hb hz => ?_
 ·rw [QH9] at hz ⊢
  have e1 : QF3 g base count kind key len st s = (s, Qc3 (some (at0 0)) g base count (QR0 kind key len st)) := by unfold QF3; rw [if_neg hz]
  rw [e1]
  exact ⟨F, rfl, Qf.ext hx, (h : Qb w a _ _ _ F).ext hx⟩
 ·rw [QH9] at hz
  have hcs : (0 <= base /\ base <= 2147483547) /\ 0 <= count /\ count < 64 := by
   have hz' := hz
   unfold Qc3 at hz'
   split at hz'
   ·rename_i h1
    split at hz'
    ·rename_i h2
     unfold QGc Qz at h1
     split at h1
     ·rename_i hm
      unfold Qz at h1
      split at h1
      ·rename_i hk
       unfold okZ at hk
       split at hk
       ·rename_i hh
        have hg : QS g := by
         unfold QN Qo at hm
         by_cases hg : QS g
         ·exact hg
         ·simp [hg] at hm
        have := hg.2.2.2.1
        omega
       ·cases hk
      ·contradiction
     ·contradiction
    ·cases hz'
   ·contradiction
  have hw : i64.wrap ((i64.wrap (base + count)) + (1 : Int)) = base + count + 1 := by rw [w64 (n := base + count) (by omega), w64 (by omega)]
  refine Q0 (fun h => by simp at h) fun _ => ⟨_, hr.row.cell (n := 0) rfl, _, hr.c rfl, _, hr.c rfl, _, hr.c rfl, _, hr.c rfl, _, hr.c rfl, (QR7 g count w').mono ?_⟩
  rintro e w53 ⟨rfl, x53⟩
  rw [hw]
  have hA53 : IsA w53 a s F := (h : Qb w a _ _ _ F).ext (hx.trans x53)
  have hbl := hb.1
  have hrl := Qe3 kind key len st
  have := hok.1.2.1
  have := hok.1.2.2.2
  refine ⟨_, rfl, (Qr5 hA53 ho (Q70 g count) (base + count + 1) (hb.ext x53) (by omega)).mono ?_⟩
  rintro e w56 ⟨F', rfl, hst56, hA56⟩
  have hok56 := (QG4 (to := fun _ => true) (addr := Q70 g count) (epoch := base + count + 1) (d := Qg2 kind key len st) ho).1
  have hT := (Qf.ext (hx.trans x53)).trans hst56
  refine ⟨_, _, rfl, Q0 (fun hz2 => ?_) fun hz2 => ?_⟩
  ·have hz3 : ¬ (Qf0 (fun _ => true) (Q70 g count) (base + count + 1) (Qg2 kind key len st) s).2.2 = 0 := by simpa using hz2
   have e1 : QF3 g base count kind key len st s = ((Qf0 (fun _ => true) (Q70 g count) (base + count + 1) (Qg2 kind key len st) s).1, (Qf0 (fun _ => true) (Q70 g count) (base + count + 1) (Qg2 kind key len st) s).2.2) := by unfold QF3; rw [if_pos hz, if_neg hz3]
   rw [e1]
   exact ⟨F', rfl, hT, hA56⟩
  ·have hz3 : (Qf0 (fun _ => true) (Q70 g count) (base + count + 1) (Qg2 kind key len st) s).2.2 = 0 := by simpa using hz2
   refine (Q93 hA56 hok56).mono ?_
   rintro e w60 ⟨F'', rfl, hst60, hA60⟩
   refine ⟨_, rfl, (QE0 _ 150 w60).mono ?_⟩
   rintro e w63 ⟨rfl, rfl⟩
   refine ⟨_, rfl, fun k66 w67 hk66 => ?_⟩
   refine (Qn1 (L := [_, _]) (Qk1 (L := [_, _]) (w' := w67) ⟨_, hk66.at⟩ rfl) (by simp)).mono ?_
   rintro e w68 ⟨rfl, rfl⟩
   refine ⟨_, rfl, F'', ?_, (hT.trans hst60).trans (Qf.ext hk66.ext), ?_⟩
   ·unfold QF3
    rw [if_pos hz, if_pos hz3]
    simp
   ·unfold QF3
    rw [if_pos hz, if_pos hz3]
    exact (hA60 : Qb _ a _ _ _ F'').ext hk66.ext
open Go Go.Vc
open Go.IntKind (i64)
open Go.Value (int)
open Go.Proofs.Tryz (prog)
def svZ (area epoch : Int) : Int := if 0 <= area /\ area <= 1 /\ 0 <= epoch /\ epoch <= 2147483547 then 0 else 1
def Qx5 (p : σ) (g : Geo) (area epoch z : Int) : Int := Qz [QN p g, svZ area epoch, z]
open Classical in
noncomputable def Qz9 (L : List ObV) : Int := if Qu0 L then 0 else 1
theorem QE8 {L : List ObV} (h : Qu0 L) : Qz9 L = 0 := by unfold Qz9; simp [h]
theorem QD8 {L : List ObV} (h : ¬ Qu0 L) : Qz9 L = 1 := by unfold Qz9; simp [h]
def QU0 (g : Geo) (area epoch : Int) (P : List (τ)) (s : StA) : Nat -> StA × Bool × Int
 | 0 => (s, true, 0)
 | i + 1 => if (QU0 g area epoch P s i).2.2 = 0 then
   ((Qf0 (fun _ => true) (Ql0 g area i) epoch (P.getD i []) (QU0 g area epoch P s i).1).1, (QU0 g area epoch P s i).2.1 && decide (0 < (Qf0 (fun _ => true) (Ql0 g area i) epoch (P.getD i []) (QU0 g area epoch P s i).1).2.1),
    (Qf0 (fun _ => true) (Ql0 g area i) epoch (P.getD i []) (QU0 g area epoch P s i).1).2.2)
  else QU0 g area epoch P s i
theorem QW6 {g : Geo} {area epoch : Int} {P : List (τ)} {s : StA} (h : OkA s) : ∀ i, OkA (QU0 g area epoch P s i).1 /\ (QU0 g area epoch P s i).1.M.length = s.M.length
 | 0 => ⟨h, rfl⟩
 | i + 1 => by
  have ih := QW6 (g := g) (area := area) (epoch := epoch) (P := P) h i
  simp only [QU0]
  split
  ·have := QG4 (to := fun _ => true) (addr := Ql0 g area i) (epoch := epoch) (d := P.getD i []) ih.1
   exact ⟨this.1, this.2.trans ih.2⟩
  ·exact ih
theorem Q44 {g : Geo} {area epoch : Int} {P : List (τ)} {s : StA} {i : Nat} (h : ¬ (QU0 g area epoch P s i).2.2 = 0) : ∀ j, QU0 g area epoch P s (i + j) = QU0 g area epoch P s i
 | 0 => rfl
 | j + 1 => by
  have ih := Q44 h j
  rw [← Nat.add_assoc]
  simp only [QU0]
  rw [ih, if_neg h]
def Qy4 (g : Geo) (area epoch : Int) (P : List (τ)) (s : StA) : StA × Int :=
 if (QU0 g area epoch P s 2).2.2 = 0 then (Q12 (QU0 g area epoch P s 2).1, Qz [if (QU0 g area epoch P s 2).1.down then 130 else 0, if (QU0 g area epoch P s 2).2.1 then 0 else 150])
 else ((QU0 g area epoch P s 2).1, (QU0 g area epoch P s 2).2.2)
noncomputable def svM (g : Geo) (area epoch : Int) (L : List ObV) (s : StA) : StA × Int :=
 if Qx5 (some (at0 0)) g area epoch (Qz9 L) = 0 then Qy4 g area epoch [QR (Qd L) 0, QR (Qd L) 1] s else (s, Qx5 (some (at0 0)) g area epoch (Qz9 L))
theorem Qme (B : τ) (i : Nat) : (QR B i).length <= 4096 := by unfold QR; simp; omega
def Q54 (area epoch : Int) (p : σ) (l c : Nat) : Array Value := #[int i64 area, int i64 epoch, .slice p l c]
def QP4 (w : World) (B : Nat -> Prop) (p : σ) (n : Nat) (P : List (τ)) : Prop := n = P.length /\ ∀ i bs, P[i]? = some bs -> ∃ a q m d, p = some a /\ B a.block /\ w.cell? (a.add (i * 1)) = some (.slice q m d) /\ Q3 w q m bs /\ (∀ a', q = some a' -> bs ≠ [] -> B a'.block) /\ m <= d
theorem QP4.upd {S B : Nat -> Prop} {w w' : World} {p : σ} {n : Nat} {P : List (τ)} (h : QP4 w B p n P) (hu : Upd S w w') (hS : ∀ x, B x -> ¬ S x) : QP4 w' B p n P := by
 refine ⟨h.1, fun i bs hi => ?_⟩
 obtain ⟨a, q, m, d, h0, hb, h1, h2, h3, h4⟩ := h.2 i bs hi
 exact ⟨a, q, m, d, h0, hb, hu.cell h1 (by rw [Qr]; exact hS _ hb), h2.upd hu fun a' ha' hne => hS _ (h3 a' ha' hne), h3, h4⟩
theorem QP4.of {w : World} {base : Nat} {p : σ} {n : Nat} {P : List (τ)} (h : QS0 w base p n P) : QP4 w (fun x => base <= x /\ x < w.heap.size) p n P := by
 refine ⟨h.1, fun i bs hi => ?_⟩
 obtain ⟨a, q, m, d, h0, hb, h1, h2, h3, h4⟩ := h.2 i bs hi
 have hlt := Qi8 h1
 rw [Qr] at hlt
 refine ⟨a, q, m, d, h0, ⟨hb, hlt⟩, h1, h2, fun a' ha' hne => ⟨h3 a' ha', ?_⟩, h4⟩
 obtain ⟨a2, ha2, hl⟩ := h2.lt hne
 rw [ha'] at ha2
 cases ha2
 exact hl
def svI (a : Nat) (g : Geo) (area epoch : Int) (P : List (τ)) (s : StA) (w : World) (F : Nat -> Prop) : σ -> σ -> σ -> Nat -> Nat -> Int -> World -> Bool -> Int -> ψ := fun q11 q13 p18 l18 _ _ _ b49 n50 w51 =>
 ∃ (k11 k13 i top : Nat) (F' : Nat -> Prop) (p : σ) (l c : Nat), q11 = some (at0 k11) /\ q13 = some (at0 k13) /\ n50 = i /\ i <= 2 /\ l18 = 2 /\ (QU0 g area epoch P s i).2.2 = 0 /\ b49 = (QU0 g area epoch P s i).2.1 /\ Qf F F' w w51 /\ IsA w51 a (QU0 g area epoch P s i).1 F' ∧
  RowW w51 k11 (Qe1 g) /\ RowW w51 k13 (Q54 area epoch p l c) /\ w.heap.size <= k11 /\ w.heap.size <= k13 /\ k11 < top /\ k13 < top /\ top <= w51.heap.size /\ QP4 w51 (fun x => w.heap.size <= x /\ x < top) p18 2 P /\ ∀ x, F' x -> x < w.heap.size \/ top <= x
theorem Q5g {w w35 : World} {a : Nat} {s : StA} {F : Nat -> Prop} (h : IsA w a s F) (ho : OkA s) {g : Geo} {area epoch z : Int} {P : List (τ)} (hP : ∀ x ∈ P, x.length <= 4096) (hx : Ext w w35) {k11 k13 : Nat} {p : σ} {l c : Nat} (r11 : RowW w35 k11 (Qe1 g)) (r13 : RowW w35 k13 (Q54 area epoch p l c)) (h11 : w.heap.size <= k11) (h13 : w.heap.size <= k13)
  {p18 : σ} {l18 c18 : Nat} (hparts : z = 0 -> l18 = 2 /\ QS0 w35 w.heap.size p18 2 P) {R : φ}
  (hR : ∀ w' F', Qf F F' w w' -> IsA w' a (if Qx5 (some (at0 a)) g area epoch z = 0 then Qy4 g area epoch P s else (s, Qx5 (some (at0 a)) g area epoch z)).1 F' -> R (int i64 (if Qx5 (some (at0 a)) g area epoch z = 0 then Qy4 g area epoch P s else (s, Qx5 (some (at0 a)) g area epoch z)).2) w') :
  F13_A1 (.returned (int i64 (svZ area epoch))) w35 (QN (some (at0 a)) g) z k11 k13 p18 l18 c18 (some (at0 a)) R (svI a g area epoch P s w F) (fun _ _ _ _ _ _ _ _ n50 _ => 5 - n50.toNat) := by
 refine ⟨_, rfl, fun k38 w39 hk38 => ?_⟩
 refine (Qn1 (L := [_, _, _]) (Qk1 (L := [_, _, _]) (w' := w39) ⟨_, hk38.at⟩ rfl) (by simp)).mono ?_
 rintro e w40 ⟨rfl, rfl⟩
 have x39 := hx.trans hk38.ext
 have ee : Qz [QN (some (at0 a)) g, svZ area epoch, z] = Qx5 (some (at0 a)) g area epoch z := rfl
 rw [ee]
 refine ⟨_, rfl, Q0 (fun hn => ?_) fun h0 => ?_⟩
 ·have hn' : ¬ Qx5 (some (at0 a)) g area epoch z = 0 := by simpa using hn
  rw [if_neg hn'] at hR
  exact hR _ F (Qf.ext x39) ((h : Qb w a _ _ _ F).ext x39)
 have h0' : Qx5 (some (at0 a)) g area epoch z = 0 := by simpa using h0
 rw [if_pos h0'] at hR
 have hz : z = 0 := by
  have hz' := h0'
  unfold Qx5 Qz at hz'
  split at hz'
  ·unfold Qz at hz'
   split at hz'
   ·unfold Qz at hz'
    split at hz'
    ·assumption
    ·contradiction
   ·contradiction
  ·contradiction
 obtain ⟨rfl, hpb⟩ := hparts hz
 have hFlt := Qb.lt (h : Qb w a _ _ _ F)
 refine ⟨⟨k11, k13, 0, w40.heap.size, F, p, l, c, rfl, rfl, rfl, by omega, rfl, rfl, rfl, Qf.ext x39, (h : Qb w a _ _ _ F).ext x39, hk38.ext.rowW r11 id, hk38.ext.rowW r13 id, h11, h13, (hk38.ext.rowW r11 id).lt, (hk38.ext.rowW r13 id).lt, Nat.le_refl _, QP4.of (hpb.upd hk38.ext fun _ _ h => h), fun x hf => .inl (hFlt x hf)⟩, ?_⟩
 clear hpb r11 r13 h11 h13
 rintro b49 n50 w51 ⟨k11', k13', i, top, F', p', l', c', e1, e2, rfl, hi, _, hgo, rfl, hst, hA, r11, r13, g11, g13, t11, t13, ht, hparts, hF'⟩
 simp only [Zi, at0, Zv, and_true] at e1 e2
 subst e1
 subst e2
 intros
 have hok := QW6 (g := g) (area := area) (epoch := epoch) (P := P) ho i
 refine Q0 (fun hlt => ?_) (fun hge => ?_)
 ·simp only [Za] at hlt
  obtain ⟨x, hxx⟩ : ∃ x, P[i]? = some x := ⟨P[i]'(by have := hparts.1; omega), Zc _⟩
  obtain ⟨ap, q, m, d, rfl, hab, hcell, hbx, hqb, _⟩ := hparts.2 i x hxx
  have hxl := hP x (Zs hxx)
  have hm := hbx.1
  have hgd : P.getD i [] = x := by rw [Zj, hxx]; rfl
  rw [Ze]
  refine ⟨⟨by omega, hlt⟩, _, _, _, hcell, fun w85 d85 => ?_⟩
  have r11b : RowW w85 k11 (Qe1 g) := d85.ext.rowW r11 id
  have r13b : RowW w85 k13 (Q54 area epoch p' l' c') := d85.ext.rowW r13 id
  refine ⟨_, r11b.row.cell (n := 0) rfl, _, r11b.c rfl, _, r11b.c rfl, _, r11b.c rfl, _, r11b.c rfl, _, r11b.c rfl, _, r13b.c rfl, _, r13b.c rfl, (Q97 g area (i : Int) w85).mono ?_⟩
  rintro e w94 ⟨rfl, x94⟩
  have y94 := d85.ext.trans x94
  refine ⟨_, rfl, ⟨_, (x94.rowW r13b id).row.cell rfl, rfl⟩, (Qr5 ((hA : Qb w51 a _ _ _ F').ext y94) hok.1 (Ql0 g area i) epoch (hbx.ext y94) (by omega)).mono ?_⟩
  rintro e w98 ⟨F'', rfl, hst98, hA98⟩
  have hT : Qf F F'' w w98 := (hst.trans (Qf.ext y94)).trans hst98
  have z94 := y94.size
  have z98 := hst98.upd.size
  have u98 : Upd F' w51 w98 := Upd.trans (Ext.upd y94) hst98.upd fun _ _ h => h
  have e1 : QU0 g area epoch P s (i + 1) = ((Qf0 (fun _ => true) (Ql0 g area i) epoch x (QU0 g area epoch P s i).1).1, (QU0 g area epoch P s i).2.1 && decide (0 < (Qf0 (fun _ => true) (Ql0 g area i) epoch x (QU0 g area epoch P s i).1).2.1),
    (Qf0 (fun _ => true) (Ql0 g area i) epoch x (QU0 g area epoch P s i).1).2.2) := by
   simp only [QU0, if_pos hgo, hgd]
  have hap : ∀ x, w.heap.size <= x /\ x < top -> ¬ F' x := fun x hx hf => by rcases hF' x hf with h1 | h1 <;> omega
  refine ⟨_, _, rfl, Q0 (fun hn => ?_) fun h0 => ?_⟩
  ·have hn' : ¬ (QU0 g area epoch P s (i + 1)).2.2 = 0 := by rw [e1]; simpa using hn
   have hall := Q44 hn' (2 - (i + 1))
   rw [show i + 1 + (2 - (i + 1)) = 2 by omega] at hall
   have e2 : Qy4 g area epoch P s = ((QU0 g area epoch P s (i + 1)).1, (QU0 g area epoch P s (i + 1)).2.2) := by unfold Qy4; rw [hall, if_neg hn']
   rw [e2, e1] at hR
   exact hR _ F'' hT hA98
  ·have h0'' : (QU0 g area epoch P s (i + 1)).2.2 = 0 := by rw [e1]; simpa using h0
   rw [w64 (by omega)]
   have mu : 5 - ((i : Int) + 1).toNat < 5 - (i : Int).toNat := by omega
   have next : ∀ b, b = (QU0 g area epoch P s (i + 1)).2.1 -> svI a g area epoch P s w F (some (at0 k11)) (some (at0 k13)) (some ap) 2 c18 2 w40 b ((i : Int) + 1) w98 := fun b hb =>
    ⟨k11, k13, i + 1, top, F'', p', l', c', rfl, rfl, by omega, by omega, rfl, h0'', hb, hT, by rw [e1]; exact hA98, u98.rowW r11 (hap _ ⟨g11, t11⟩), u98.rowW r13 (hap _ ⟨g13, t13⟩), g11, g13, t11, t13, by omega, hparts.upd u98 hap, fun x hf => by
     rcases hst98.grow x hf with h1 | h1
     ·exact hF' x h1
     ·right; omega⟩
   refine Q0 (fun hb => ⟨next _ ?_, mu⟩) fun hb => ⟨next _ ?_, mu⟩
   ·rw [e1, hb, Bool.true_and]
   ·rw [e1, hb, Bool.false_and]
 ·simp only [Zb] at hge
  have hi2 : i = 2 := by omega
  subst hi2
  refine (Q93 hA hok.1).mono ?_
  rintro e w102 ⟨F'', rfl, hst102, hA102⟩
  refine ⟨_, rfl, (QE0 _ 150 w102).mono ?_⟩
  rintro e w105 ⟨rfl, rfl⟩
  refine ⟨_, rfl, fun k108 w109 hk108 => ?_⟩
  refine (Qn1 (L := [_, _]) (Qk1 (L := [_, _]) (w' := w109) ⟨_, hk108.at⟩ rfl) (by simp)).mono ?_
  rintro e w110 ⟨rfl, rfl⟩
  have e2 : Qy4 g area epoch P s = (Q12 (QU0 g area epoch P s 2).1, Qz [if (QU0 g area epoch P s 2).1.down then 130 else 0, if (QU0 g area epoch P s 2).2.1 then 0 else 150]) := by unfold Qy4; rw [if_pos hgo]
  rw [e2] at hR
  exact ⟨_, rfl, hR _ F'' ((hst.trans hst102).trans (Qf.ext hk108.ext)) ((hA102 : Qb _ a _ _ _ F'').ext hk108.ext)⟩
open Go Go.Vc
open Go.IntKind (i64)
open Go.Value (int)
open Go.Proofs.Tryz (prog)
theorem QS0.base_le {w : World} {base base' : Nat} {p : σ} {n : Nat} {P : List (τ)} (h : QS0 w base p n P) (hb : base' <= base) : QS0 w base' p n P := by
 refine ⟨h.1, fun i bs hi => ?_⟩
 obtain ⟨a, q, m, d, h0, h1, h2, h3, h4, h5⟩ := h.2 i bs hi
 exact ⟨a, q, m, d, h0, Zu hb h1, h2, h3, fun a' ha => Zu hb (h4 a' ha), h5⟩
theorem Q06 {w : World} {a : Nat} {s : StA} {F : Nat -> Prop} (h : IsA w a s F) (ho : OkA s) (g : Geo) (area epoch : Int) {p10 : σ} {l10 c10 : Nat} {L : List ObV} (hL : Q57 w p10 l10 L) (hl : l10 <= 1000000) :
  Calls prog 13 #[.pointer (some (at0 a)), gV g, .agg #[int i64 area, int i64 epoch, .slice p10 l10 c10]] w fun e w' => ∃ F', e = .returned (int i64 (svM g area epoch L s).2) /\ Qf F F' w w' /\ IsA w' a (svM g area epoch L s).1 F' := by
 refine (F13_calls (some (at0 a)) g.k g.m g.size g.stripes g.slots g.objects area epoch p10 l10 c10 w (fun v w' => ∃ F', v = int i64 (svM g area epoch L s).2 /\ Qf F F' w w' /\ IsA w' a (svM g area epoch L s).1 F')
  (svI a g area epoch [QR (Qd L) 0, QR (Qd L) 1] s w F) (fun _ _ _ _ _ _ _ _ n50 _ => 5 - n50.toNat) ?_).mono (by rintro e w' ⟨v, rfl, F', rfl, h⟩; exact ⟨F', rfl, h⟩)
 intro k11 w12 hk11 k13 w14 hk13
 have x14 := hk11.ext.trans hk13.ext
 have s11 := hk11.size
 have s13 := hk13.size
 have r13 : RowW w14 k13 (Q54 area epoch p10 l10 c10) := ⟨_, hk13.at⟩
 have r11 : RowW w14 k11 (Qe1 g) := hk13.ext.rowW ⟨_, hk11.at⟩ id
 refine ⟨_, _, _, r13.c rfl, (Qkc (hL.ext x14) hl).mono ?_⟩
 rintro e w16 ⟨x16, hh⟩
 obtain ⟨p18, l18, c18, rfl, hparts⟩ : ∃ (p18 : σ) (l18 c18 : Nat), e = .returned (.tuple #[.slice p18 l18 c18, int i64 (Qz9 L)]) /\ (Qz9 L = 0 -> l18 = 2 /\ QS0 w16 w.heap.size p18 2 [QR (Qd L) 0, QR (Qd L) 1]) := by
  rcases hh with ⟨hno, rfl⟩ | ⟨hyes, po, co, rfl, hp⟩
  ·exact ⟨none, 0, 0, by rw [QD8 hno], fun h => by rw [QD8 hno] at h; cases h⟩
  ·exact ⟨po, 2, co, by rw [QE8 hyes], fun _ => ⟨rfl, hp.base_le x14.size⟩⟩
 refine ⟨_, _, _, _, rfl, fun w20 d20 => ?_⟩
 have y20 := x16.trans d20.ext
 have q11 : RowW w20 k11 (Qe1 g) := y20.rowW r11 id
 have q13 : RowW w20 k13 (Q54 area epoch p10 l10 c10) := y20.rowW r13 id
 refine ⟨_, q11.row.cell (n := 0) rfl, _, q11.c rfl, _, q11.c rfl, _, q11.c rfl, _, q11.c rfl, _, q11.c rfl, _, q13.c rfl, (Qe2 (some (at0 a)) g w20).mono ?_⟩
 rintro e w28 ⟨rfl, x28⟩
 have z28 : Ext w w28 := (x14.trans y20).trans x28
 have t13 : RowW w28 k13 (Q54 area epoch p10 l10 c10) := x28.rowW q13 id
 have t11 : RowW w28 k11 (Qe1 g) := x28.rowW q11 id
 have fin : ∀ (b : Bool), (if b = true then (0 : Int) else 1) = svZ area epoch -> Calls prog 47 #[.bool b, int i64 1] w28 fun e36 w35 => F13_A1 e36 w35 (QN (some (at0 a)) g) (Qz9 L) k11 k13 p18 l18 c18 (some (at0 a)) (fun v w' => ∃ F', v = int i64 (svM g area epoch L s).2 /\ Qf F F' w w' /\ IsA w' a (svM g area epoch L s).1 F')
   (svI a g area epoch [QR (Qd L) 0, QR (Qd L) 1] s w F) (fun _ _ _ _ _ _ _ _ n50 _ => 5 - n50.toNat) := fun b hb => by
  refine (QE0 b 1 w28).mono ?_
  rintro e w35 ⟨rfl, rfl⟩
  rw [hb]
  refine Q5g h ho (fun x hx => ?_) z28 t11 t13 (by omega) (by have := hk11.ext.size; omega) (fun hz => ⟨(hparts hz).1, (hparts hz).2.upd (d20.ext.trans x28) fun _ _ h => h⟩) fun w' F' hs hA => ⟨F', rfl, hs, hA⟩
  simp only [List.mem_cons, List.not_mem_nil, or_false] at hx
  rcases hx with rfl | rfl <;> exact Qme _ _
 refine ⟨_, rfl, ⟨_, t13.c rfl, rfl⟩, Q0 (fun h1 => ⟨_, t13.c rfl, Q0 (fun h2 => ⟨_, t13.c rfl, Q0 (fun h3 => ⟨_, t13.c rfl, fin _ ?_⟩) fun h3 => fin _ ?_⟩) fun h2 => fin _ ?_⟩) fun h1 => fin _ ?_⟩
 ·simp only [Za] at h1 h2 h3
  unfold svZ
  by_cases h4 : epoch <= 2147483547
  ·simp [h1, h2, h3, h4]
  ·simp [h4]
 ·simp only [Zb] at h3
  unfold svZ
  simp [h3]
 ·simp only [Zb] at h2
  unfold svZ
  simp [h2]
 ·simp only [Zb] at h1
  unfold svZ
  simp [h1]
open Go Go.Vc
open Go.IntKind (i64)
open Go.Value (int)
open Go.Proofs.Tryz (prog)
theorem Q51 {w0 w : World} (hx : Ext w0 w) {p : σ} {n c : Nat} {rows : List Value} (own : Qc w w0.heap.size 42 1 p n c rows) {k : Nat} {w1 : World} {q : σ} {m d : Nat} (hk : QU1 w k (.cells #[.slice q m d] 42) w1) (hn : n <= 100) :
  ∃ (p' : σ) (l' c' : Nat), ∃ w', Sem.run prog (Builtin.append_ #[103, 103] 103 #[.slice p n c, .slice (some (at0 k)) 1 1]) w1 = .ok (.slice p' l' c') w' /\ l' = n + 1 /\ Qc w' w0.heap.size 42 1 p' l' c' (rows ++ [.slice q m d]) /\ Ext w0 w' /\ Upd (fun b => p = some (at0 b)) w1 w' := by
 have r : RowW w1 k #[.slice q m d] := ⟨_, hk.at⟩
 have hc : Q8 w1 (some (at0 k)) [.slice q m d] := fun j u hj => ⟨_, rfl, r.row.cell (by simpa using hj)⟩
 have hz := (hx.trans hk.ext).size
 obtain ⟨p', c', w', hr, ho, hu, _⟩ := (own.ext hk.ext).append Qpb 103 (q := some (at0 k)) (m := 1) (d := 1) (news := [.slice q m d]) rfl hc (fun h => by cases h) (by simp [Value.oneCell']) (by unfold maxLen; omega) (by omega) hz
 exact ⟨p', _, c', w', hr, rfl, ho, Qb2 (hx.trans hk.ext) (own.ext hk.ext) hu, hu⟩
def arM : σ -> σ -> World -> Bool -> Bool -> σ -> Nat -> Nat -> Int -> World -> Nat := fun _ _ _ _ _ _ _ _ n20 _ => 5 - n20.toNat
theorem QIf {w w104 w14 w21 : World} {k10 k12 k87 : Nat} {b17 b18 has wt : Bool} {ep E which n4 n20 : Int} {q : σ} {m d : Nat} {p19 : σ} {l19 c19 : Nat} {rows : List Value} {R : φ} {I0 : σ -> σ -> World -> Bool -> Bool -> σ -> Nat -> Nat -> Int -> ψ}
  (r87 : RowW w104 k87 #[.bool has, int i64 ep, .slice q m d, int i64 n4, .bool wt]) (r12 : RowW w104 k12 #[int i64 which, int i64 E, .slice none 0 0]) (own : Qc w104 w.heap.size 42 1 p19 l19 c19 rows) (hx : Ext w w104) (hl : l19 <= 10)
  (hmu : 5 - (i64.wrap (n20 + 1)).toNat < 5 - n20.toNat)
  (hI : ∀ b17' b18' p' l' c' w1 w', b17' = (b17 && (has && decide (ep = E))) -> b18' = (b18 && wt) -> l' = l19 + 1 -> Qc w' w.heap.size 42 1 p' l' c' (rows ++ [.slice q m d]) -> Ext w w' -> Ext w104 w1 -> Upd (fun b => p19 = some (at0 b)) w1 w' →
   I0 (some (at0 k10)) (some (at0 k12)) w14 b17' b18' p' l' c' (i64.wrap (n20 + 1)) w') :
  F50_A0 b17 w104 k87 k12 b18 p19 l19 c19 k10 w14 n20 w21 R I0 arM := by
 have a1 : (b17 && (has && decide (ep = E))) = false -> F50_A1 b18 w104 k87 p19 l19 c19 k10 k12 w14 n20 b17 w21 R I0 arM := fun hf => by
  refine Q0 (fun h18 => ⟨_, r87.c rfl, _, _, _, r87.c rfl, fun k121 w122 hk => ?_⟩) fun h18 => ⟨_, _, _, r87.c rfl, fun k126 w127 hk => ?_⟩
  ·obtain ⟨p', l', c', w', hr, hl', ho, hx', hu⟩ := Q51 hx own hk (by omega)
   exact ⟨_, _, _, _, hr, hI _ _ _ _ _ _ _ hf.symm (by rw [h18, Bool.true_and]) hl' ho hx' hk.ext hu, hmu⟩
  ·obtain ⟨p', l', c', w', hr, hl', ho, hx', hu⟩ := Q51 hx own hk (by omega)
   exact ⟨_, _, _, _, hr, hI _ _ _ _ _ _ _ hf.symm (by rw [h18, Bool.false_and]) hl' ho hx' hk.ext hu, hmu⟩
 refine Q0 (fun h17 => ⟨_, r87.c rfl, Q0 (fun hh => ⟨_, r87.c rfl, _, r12.c rfl, Q0 (fun h18 => ⟨_, r87.c rfl, _, _, _, r87.c rfl, fun k110 w111 hk => ?_⟩) fun h18 => ⟨_, _, _, r87.c rfl, fun k115 w116 hk => ?_⟩⟩) fun hh => a1 (by rw [hh]; simp)⟩) fun h17 => a1 (by rw [h17]; rfl)
 ·obtain ⟨p', l', c', w', hr, hl', ho, hx', hu⟩ := Q51 hx own hk (by omega)
  exact ⟨_, _, _, _, hr, hI _ _ _ _ _ _ _ (by rw [h17, hh, Bool.true_and, Bool.true_and]) (by rw [h18, Bool.true_and]) hl' ho hx' hk.ext hu, hmu⟩
 ·obtain ⟨p', l', c', w', hr, hl', ho, hx', hu⟩ := Q51 hx own hk (by omega)
  exact ⟨_, _, _, _, hr, hI _ _ _ _ _ _ _ (by rw [h17, hh, Bool.true_and, Bool.true_and]) (by rw [h18, Bool.false_and]) hl' ho hx' hk.ext hu, hmu⟩
theorem Q8d {w : World} {base : Nat} {p : σ} {n c : Nat} {rows : List Value} (own : Qc w base 42 1 p n c rows) {q : σ} {m d : Nat} (h0 : rows[0]? = some (.slice q m d)) {k l : Nat} {bs : τ} (hb : Q3 w (some (at0 k)) l bs) (hne : bs ≠ []) : p ≠ some (at0 k) := by
 intro hp
 obtain ⟨a, ha, hc⟩ := own.cells 0 _ h0
 rw [hp] at ha
 cases ha
 obtain ⟨a', ha', hc'⟩ := hb.get (i := 0) (by rw [hb.1]; exact List.length_pos_iff.2 hne)
 cases ha'
 rw [hc] at hc'
 cases hc'
open Go Go.Vc
open Go.IntKind (i64)
open Go.Value (int)
open Go.Proofs.Tryz (prog)
theorem Qa1 {w : World} {k : Nat} {e : TypeId} {c0 c1 c2 v0 v1 v2 : Value} (hr : QD e w k #[c0, c1, c2]) {T : ψ} (h : ∀ w3, Upd (fun x => x = k) w w3 -> QD e w3 k #[v0, v1, v2] -> T w3) :
  QL1 w (at0 k) /\ ∀ w1 : World, QT w (at0 k) v0 w1 -> (QL1 w1 ((at0 k).add 1) /\ ∀ w2 : World, QT w1 ((at0 k).add 1) v1 w2 -> (QL1 w2 ((at0 k).add 2) /\ ∀ w3 : World, QT w2 ((at0 k).add 2) v2 w3 -> T w3)) := by
 refine ⟨hr.row.live (n := 0) (by simp), fun w1 s1 => ?_⟩
 have s1' : QT w ((at0 k).add 0) v0 w1 := s1
 have r1 := hr.set s1'
 refine ⟨r1.row.live (by simp), fun w2 s2 => ?_⟩
 have r2 := r1.set s2
 refine ⟨r2.row.live (by simp), fun w3 s3 => ?_⟩
 exact h w3 (((Qw0 s1').trans (Qw0 s2) fun _ _ h => h).trans (Qw0 s3) fun _ _ h => h) (r2.set s3)
theorem Qd4 {w : World} {k : Nat} {e : TypeId} {c0 c1 c2 c3 c4 v0 v1 v2 v3 v4 : Value} (hr : QD e w k #[c0, c1, c2, c3, c4]) {T : ψ} (h : ∀ w5, Upd (fun x => x = k) w w5 -> QD e w5 k #[v0, v1, v2, v3, v4] -> T w5) :
  QL1 w (at0 k) /\ ∀ w1 : World, QT w (at0 k) v0 w1 -> (QL1 w1 ((at0 k).add 1) /\ ∀ w2 : World, QT w1 ((at0 k).add 1) v1 w2 -> (QL1 w2 ((at0 k).add 2) /\ ∀ w3 : World, QT w2 ((at0 k).add 2) v2 w3 -> (QL1 w3 ((at0 k).add 3) /\ ∀ w4 : World, QT w3 ((at0 k).add 3) v3 w4 -> (QL1 w4 ((at0 k).add 4) /\ ∀ w5 : World, QT w4 ((at0 k).add 4) v4 w5 -> T w5)))) := by
 refine ⟨hr.row.live (n := 0) (by simp), fun w1 s1 => ?_⟩
 have s1' : QT w ((at0 k).add 0) v0 w1 := s1
 have r1 := hr.set s1'
 refine ⟨r1.row.live (by simp), fun w2 s2 => ?_⟩
 have r2 := r1.set s2
 refine ⟨r2.row.live (by simp), fun w3 s3 => ?_⟩
 have r3 := r2.set s3
 refine ⟨r3.row.live (by simp), fun w4 s4 => ?_⟩
 have r4 := r3.set s4
 refine ⟨r4.row.live (by simp), fun w5 s5 => ?_⟩
 exact h w5 (((((Qw0 s1').trans (Qw0 s2) fun _ _ h => h).trans (Qw0 s3) fun _ _ h => h).trans (Qw0 s4) fun _ _ h => h).trans (Qw0 s5) fun _ _ h => h) (r4.set s5)
def QJ1 (V : List (Say × Nat)) (E : Int) : Bool := V.all fun v => decide (0 < v.2) && decide (v.1.1 = E)
def Qh3 (g : Geo) (which : Int) (s : StA) (ks : List Bool) (i : Nat) : Bool := (List.range i).all fun j => wit ks (Qn (Ql0 g which (j : Int)) s.M)
theorem Qs5 (V : List (Say × Nat)) (v : Say × Nat) (E : Int) : QJ1 (V ++ [v]) E = (QJ1 V E && (decide (0 < v.2) && decide (v.1.1 = E))) := by simp [QJ1]
theorem Qf6 (g : Geo) (which : Int) (s : StA) (ks : List Bool) (i : Nat) : Qh3 g which s ks (i + 1) = (Qh3 g which s ks i && wit ks (Qn (Ql0 g which (i : Int)) s.M)) := by simp [Qh3, List.range_succ]
def QT9 (g : Geo) (which : Int) (s : StA) (V : List (Say × Nat)) : Prop := ∀ (j : Nat) (v : Say × Nat), V[j]? = some v -> QM4 (Qe0 (Qn (Ql0 g which (j : Int)) s.M)) v.1 v.2
def QG1 (area epoch : Int) (p : σ) (l c : Nat) : Value := .agg #[int i64 area, int i64 epoch, .slice p l c]
def arI (g : Geo) (which : Int) (s : StA) (ks : List Bool) (w : World) : σ -> σ -> World -> Bool -> Bool -> σ -> Nat -> Nat -> Int -> ψ := fun q10 q12 _ b17 b18 p19 l19 c19 n20 w21 =>
 ∃ (k10 k12 i : Nat) (V : List (Say × Nat)) (E : Int) (rows : List Value), q10 = some (at0 k10) /\ q12 = some (at0 k12) /\ n20 = i /\ i <= 2 /\ V.length = i /\ l19 = i /\ (i = 0 \/ s.down = false) /\ Ext w w21 /\ w.heap.size <= k10 /\ w.heap.size <= k12 /\ k10 ≠ k12 /\ QD 23 w21 k10 (Qe1 g) ∧
  QD 41 w21 k12 #[int i64 which, int i64 E, .slice none 0 0] /\ (i = 0 -> E = 0) /\ (0 < i -> ∃ v, V[0]? = some v /\ v.1.1 = E) /\ QT9 g which s V /\ b17 = QJ1 V E /\ b18 = Qh3 g which s ks i /\ Qc w21 w.heap.size 42 1 p19 l19 c19 rows ∧
  ∀ (j : Nat) (v : Say × Nat), V[j]? = some v -> ∃ (k m d : Nat), rows[j]? = some (Value.slice (some (at0 k)) m d) /\ Q3 w21 (some (at0 k)) m v.1.2 /\ k ≠ k12
def arR (g : Geo) (which : Int) (s : StA) (ks : List Bool) (w : World) : φ := fun v w' => Ext w w' /\ (s.down = true -> ∃ E, v = .tuple #[QG1 which E none 0 0, .bool false, .bool false, int i64 130]) ∧
 (s.down = false -> ∃ (v0 v1 : Say × Nat) (os : List ObV) (p : σ) (c : Nat) (rows : List Value), QT9 g which s [v0, v1] /\ os = (unD [v0.1.2, v1.1.2]).getD [] ∧
  v = .tuple #[QG1 which v0.1.1 p os.length c, .bool (QJ1 [v0, v1] v0.1.1 && (unD [v0.1.2, v1.1.2]).isSome), .bool (Qh3 g which s ks 2), int i64 0] /\ Qc w' w.heap.size 78 4 p os.length c rows /\ QH w' w.heap.size rows os)
theorem Qu3 {n : Int} {M : List Mem} {b : Say} {c : Nat} (h : QM4 (Qe0 (Qn n M)) b c) : b.2.length <= 4096 := by
 rcases h with ⟨_, rfl, _⟩ | ⟨hm, _⟩
 ·simp
 ·exact (Qgc hm).2.2
theorem Qna {w : World} {a : Nat} {s : StA} {F : Nat -> Prop} (h : IsA w a s F) (ho : OkA s) (h1 : 1 <= s.M.length) (g : Geo) {p8 : σ} {l8 c8 : Nat} {ks : List Bool} (hks : QA w p8 l8 ks) (which : Int) :
  Calls prog 50 #[.pointer (some (at0 a)), gV g, .slice p8 l8 c8, int i64 which] w fun e w' => ∃ v, e = .returned v /\ arR g which s ks w v w' := by
 refine F50_calls (some (at0 a)) g.k g.m g.size g.stripes g.slots g.objects p8 l8 c8 which w (arR g which s ks w) (arI g which s ks w) arM ?_
 have hM : s.M.length <= 32 := ho.1
 intro k10 w11 hk10 k12 w13 hk12
 have s10 := hk10.size
 have s12 := hk12.size
 have x13 := hk10.ext.trans hk12.ext
 have r12 : QD 41 w13 k12 #[int i64 0, int i64 0, .slice none 0 0] := hk12.at
 have r10 : QD 23 w13 k10 (Qe1 g) := QD.upd (show QD _ w11 k10 (Qe1 g) from hk10.at) hk12.ext id
 refine ⟨r12.row.live (by simp), fun w14 s14 => ?_⟩
 have x14 : Ext w w14 := Q7 x13 (Qw0 s14) (by omega)
 refine ⟨⟨k10, k12, 0, [], 0, [], rfl, rfl, rfl, by omega, rfl, rfl, .inl rfl, x14, by omega, by omega, by omega, r10.upd (Qw0 s14) (by omega), r12.set s14, fun _ => rfl, fun h => by omega, fun j v hj => by simp at hj, rfl, rfl, Qc.nil _ _ _ _, fun j v hj => by simp at hj⟩, ?_⟩
 clear r12 r10 x13 x14
 rintro b17 b18 p19 l19 c19 n20 w21 ⟨k10', k12', i, V, E, rows, e10, e12, rfl, hi, hVl, rfl, hdn, x21, g10, g12, gne, r10, r12, hE0, hE1, hV, rfl, rfl, own, hrows⟩
 simp only [Zi, at0, Zv, and_true] at e10 e12
 subst e10
 subst e12
 intros
 have z21 := x21.size
 refine Q0 (fun hlt => ?_) (fun hge => ?_)
 ·simp only [Za] at hlt
  refine ⟨_, r10.row.row.cell (n := 0) rfl, _, r10.row.c rfl, _, r10.row.c rfl, _, r10.row.c rfl, _, r10.row.c rfl, _, r10.row.c rfl, (Q97 g which (l19 : Int) w21).mono ?_⟩
  rintro e w76 ⟨rfl, x76⟩
  have y76 := x21.trans x76
  have z76 := x76.size
  refine ⟨_, rfl, ?_⟩
  obtain ⟨M, left, down⟩ := s
  cases down with
  | true =>
   refine (Qh6 ((h : Qb w a M left true F).ext y76) (by omega) h1 p8 l8 c8 _).mono ?_
   rintro e w79 ⟨rfl, x79⟩
   refine ⟨_, _, _, _, _, _, _, _, rfl, fun k87 w88 hk87 => ?_⟩
   have s87 := hk87.size
   have z79 := x79.size
   refine Qd4 (e := 117) (v0 := .bool false) (v1 := int i64 0) (v2 := .slice none 0 0) (v3 := int i64 0) (v4 := .bool false) hk87.at fun w93 u93 r93 => ?_
   have x93 : Ext w21 w93 := Q7 ((x76.trans x79).trans hk87.ext) u93 (by omega)
   have q12 := r12.upd x93 id
   refine Q0 (fun _ => ⟨_, q12.row.row.cell (n := 0) rfl, _, q12.row.c rfl, _, _, _, q12.row.c rfl, ?_⟩) fun h => by simp at h
   refine Qa1 (v0 := int i64 which) (v1 := int i64 E) (v2 := .slice none 0 0) q12 fun w99 u99 r99 => ?_
   exact ⟨_, r99.row.row.cell (n := 0) rfl, _, r99.row.c rfl, _, _, _, r99.row.c rfl, Q7 (x21.trans x93) u99 (by omega), fun _ => ⟨E, rfl⟩, fun h => by cases h⟩
  | false =>
   refine (QPa ((h : Qb w a M left false F).ext y76) (by omega) h1 (hks.ext y76) _).mono ?_
   rintro e w79 ⟨x79, v, b, c, kd, cc, rfl, hbest, rfl, hnew, hdat⟩
   refine ⟨_, _, _, _, _, _, _, _, rfl, fun k87 w88 hk87 => ?_⟩
   have s87 := hk87.size
   have z79 := x79.size
   refine Qd4 (e := 117) (v0 := .bool (decide (0 < c))) (v1 := int i64 b.1) (v2 := .slice (some (at0 kd)) b.2.length cc) (v3 := int i64 ((c : Nat) : Int)) (v4 := .bool (wit ks (Qn (Ql0 g which (l19 : Int)) M))) hk87.at fun w93 u93 r93 => ?_
   have x79_93 : Ext w79 w93 := Q7 hk87.ext u93 (by omega)
   have x93 : Ext w21 w93 := (x76.trans x79).trans x79_93
   have q12 := r12.upd x93 id
   have q10 := r10.upd x93 id
   have own93 := own.ext x93
   have hd93 := hdat.ext x79_93
   have hl10 : l19 <= 10 := by omega
   have hmu : 5 - (i64.wrap ((l19 : Int) + 1)).toNat < 5 - ((l19 : Int)).toNat := by rw [w64 (by omega)]; omega
   have step : ∀ (E' : Int) (w104 : World), (∃ S, Upd S w93 w104 /\ (∀ x, S x -> x = k12)) -> QD 41 w104 k12 #[int i64 which, int i64 E', .slice none 0 0] -> (0 < l19 -> E' = E) -> (l19 = 0 -> E' = b.1) →
     F50_A0 (QJ1 V E) w104 k87 k12 (Qh3 g which ⟨M, left, false⟩ ks l19) p19 l19 c19 k10 w14 (l19 : Int) w21 (arR g which ⟨M, left, false⟩ ks w) (arI g which ⟨M, left, false⟩ ks w) arM := by
    rintro E' w104 ⟨S, uS, hS⟩ r12' hEp hEz
    have u104 : Upd (fun x => x = k12) w93 w104 := uS.mono fun x _ hx => hS x hx
    have x104 : Ext w w104 := Q7 (x21.trans x93) u104 (by omega)
    have h12lt := r12.row.lt
    have r87 : RowW w104 k87 _ := u104.rowW r93.row (by omega)
    have own104 := own93.upd u104 fun g' hg' hgk => by
     have := (QC own93 hg').2.2
     obtain ⟨cur, hc⟩ := this
     exact Qr0 (hgk ▸ q12) hc (by decide)
    have hne12 : kd ≠ k12 := by have := r12.row.lt; omega
    have hd104 : Q3 w104 (some (at0 kd)) b.2.length b.2 := hd93.upd u104 fun a' ha' _ hx => by cases ha'; exact hne12 hx
    refine QIf r87 r12'.row own104 x104 hl10 hmu fun b17' b18' p' l' c' w1 w' hb17 hb18 hl' own' hx' hx1 hu1 => ?_
    rw [w64 (by omega)]
    have keepB : ∀ {k m : Nat} {bs : τ}, Q3 w104 (some (at0 k)) m bs -> (p19 = some (at0 k) -> bs ≠ [] -> False) -> Q3 w' (some (at0 k)) m bs := fun {k m bs} hb hn => (hb.ext hx1).upd hu1 fun a' ha' hne hp => by cases ha'; exact hn hp hne
    have own1 := own104.ext hx1
    refine ⟨k10, k12, l19 + 1, V ++ [(b, c)], E', _, rfl, rfl, by omega, by omega, by simp [hVl], by omega, .inr rfl, hx', g10, g12, gne, ?_, ?_, fun h => by omega, fun _ => ?_, fun j v hj => ?_, ?_, ?_, own', fun j v hj => ?_⟩
    ·exact ((q10.upd u104 (by omega)).upd hx1 id).upd hu1 fun hp => by
      obtain ⟨cur, hc⟩ := (QC own1 hp).2.2
      exact Qr0 ((q10.upd u104 (by omega)).upd hx1 id) hc (by decide)
    ·exact (r12'.upd hx1 id).upd hu1 fun hp => by
      obtain ⟨cur, hc⟩ := (QC own1 hp).2.2
      exact Qr0 (r12'.upd hx1 id) hc (by decide)
    ·rcases Nat.eq_zero_or_pos l19 with h0 | h0
     ·have : V = [] := Zk (by omega)
      subst this
      exact ⟨(b, c), rfl, (hEz h0).symm⟩
     ·obtain ⟨v, hv, he⟩ := hE1 h0
      refine ⟨v, by rw [Zl (by omega)]; exact hv, by rw [he, hEp h0]⟩
    ·rw [List.getElem?_append] at hj
     split at hj
     ·exact hV j v hj
     ·have hj0 : j - V.length = 0 := by
       rcases hq : j - V.length with _ | q
       ·rfl
       ·rw [hq] at hj; simp at hj
      rw [hj0] at hj
      cases hj
      have : j = l19 := by omega
      subst this
      exact hbest
    ·rw [hb17, Qs5]
     rcases Nat.eq_zero_or_pos l19 with h0 | h0
     ·have : V = [] := Zk (by omega)
      subst this
      rfl
     ·rw [hEp h0]
    ·rw [hb18, Qf6]
    ·have hrl := own104.length
     rw [Nat.mul_one] at hrl
     rw [List.getElem?_append] at hj
     split at hj
     ·obtain ⟨k, m, d, g1, g2, g3⟩ := hrows j v hj
      have hjl : j < l19 := by omega
      refine ⟨k, m, d, by rw [Zl (by omega)]; exact g1, keepB (((g2.ext x93)).upd u104 fun a' ha' _ hx => by cases ha'; exact g3 hx) fun hp hne => ?_, g3⟩
      obtain ⟨v0, hv0⟩ : ∃ v, V[0]? = some v := ⟨V[0]'(by omega), Zc _⟩
      obtain ⟨k0, m0, d0, h00, _⟩ := hrows 0 v0 hv0
      exact Q8d own h00 g2 hne hp
     ·have hj0 : j - V.length = 0 := by
       rcases hq : j - V.length with _ | q
       ·rfl
       ·rw [hq] at hj; simp at hj
      rw [hj0] at hj
      cases hj
      refine ⟨kd, _, cc, by rw [Zm (by omega), show j - rows.length = 0 by omega]; rfl, keepB hd104 fun hp hne => ?_, hne12⟩
      have := (QC own hp).2.1
      omega
   refine Q0 (fun h => by simp at h) fun _ => Q0 (fun h0 => ?_) fun h0 => ?_
   ·have hl0 : l19 = 0 := by simp only [Za] at h0; omega
    refine ⟨_, r93.row.c rfl, q12.row.live (by simp), fun w104 s104 => ?_⟩
    exact step b.1 w104 ⟨_, Qw0 s104, fun x hx => hx⟩ (q12.set s104) (fun h => by omega) fun _ => rfl
   ·have hl0 : 0 < l19 := by simp only [Zb] at h0; omega
    exact step E w93 ⟨fun _ => False, Upd.refl _ _, fun x hx => hx.elim⟩ q12 (fun _ => rfl) fun h => by omega
 ·simp only [Zb] at hge
  have hi2 : l19 = 2 := by omega
  subst hi2
  have hdown : s.down = false := hdn.resolve_left (by omega)
  obtain ⟨v0, v1, rfl⟩ : ∃ v0 v1, V = [v0, v1] := by
   match V, hVl with
   | [v0, v1], _ => exact ⟨v0, v1, rfl⟩
  obtain ⟨v, hv0, hEv⟩ := hE1 (by omega)
  have hE : E = v0.1.1 := by simp only [List.getElem?_cons_zero, Zi] at hv0; rw [← hEv, hv0]
  subst hE
  have hlen0 := Qu3 (hV 0 v0 rfl)
  have hlen1 := Qu3 (hV 1 v1 rfl)
  have hparts : Ql6 w21 p19 2 [v0.1.2, v1.1.2] := by
   refine ⟨rfl, fun j bs hj => ?_⟩
   have hcase : (j = 0 /\ bs = v0.1.2) \/ (j = 1 /\ bs = v1.1.2) := by
    match j, hj with
    | 0, hj => left; exact ⟨rfl, by simpa using hj.symm⟩
    | 1, hj => right; exact ⟨rfl, by simpa using hj.symm⟩
    | j + 2, hj => simp at hj
   rcases hcase with ⟨rfl, rfl⟩ | ⟨rfl, rfl⟩
   ·obtain ⟨k, m, d, g1, g2, _⟩ := hrows 0 v0 rfl
    obtain ⟨ap, ha, hc⟩ := own.cells _ _ g1
    exact ⟨ap, _, m, d, ha, hc, g2⟩
   ·obtain ⟨k, m, d, g1, g2, _⟩ := hrows 1 v1 rfl
    obtain ⟨ap, ha, hc⟩ := own.cells _ _ g1
    exact ⟨ap, _, m, d, ha, hc, g2⟩
  have g12lt := r12.row.lt
  refine (Q99 (c1 := c19) hparts (fun x hx => by
   simp only [List.mem_cons, List.not_mem_nil, or_false] at hx
   rcases hx with rfl | rfl
   ·exact hlen0
   ·exact hlen1)).mono ?_
  rintro e w177 ⟨v2, rfl, x177, hh⟩
  have y177 := x21.trans x177
  have q12 := r12.upd x177 id
  obtain ⟨os, p, c, rows2, z, rfl, hos, hz, own2, hr2⟩ : ∃ (os : List ObV) (p : σ) (c : Nat) (rows2 : List Value) (z : Int), v2 = .tuple #[.slice p os.length c, int i64 z] /\ os = (unD [v0.1.2, v1.1.2]).getD [] /\ decide (z = 0) = (unD [v0.1.2, v1.1.2]).isSome /\ Qc w177 w21.heap.size 78 4 p os.length c rows2 /\ QH w177 w21.heap.size rows2 os := by
   rcases hh with ⟨os, p, c, rows2, hU, rfl, own2, hr2⟩ | ⟨hU, rfl⟩
   ·exact ⟨os, p, c, rows2, 0, rfl, by rw [hU]; rfl, by rw [hU]; rfl, own2, hr2⟩
   ·exact ⟨[], none, 0, [], 160, rfl, by rw [hU]; rfl, by rw [hU]; rfl, Qc.nil _ _ _ _, QH.nil _ _⟩
  refine ⟨_, _, _, _, rfl, q12.row.live (by simp), fun w181 s181 => ?_⟩
  have t12 := q12.set s181
  have u181 := Qw0 s181
  refine ⟨_, t12.row.row.cell (n := 0) rfl, _, t12.row.c rfl, _, _, _, t12.row.c rfl, ?_⟩
  have fin2 : ∀ (w187 : World), Upd (fun x => x = k12) w181 w187 -> ∀ wh, wh = (QJ1 [v0, v1] v0.1.1 && (unD [v0.1.2, v1.1.2]).isSome) -> arR g which s ks w (.tuple #[QG1 which v0.1.1 p os.length c, .bool wh, .bool (Qh3 g which s ks 2), int i64 0]) w187 := fun w187 u187 wh hwh => by
   have uu : Upd (fun x => x = k12) w177 w187 := u181.trans u187 fun _ _ h => h
   refine ⟨Q7 y177 uu g12, fun h => (by rw [hdown] at h; cases h), fun _ => ⟨v0, v1, os, p, c, rows2, hV, hos, by rw [hwh], (own2.upd uu fun g' hg' hgk => by have := (QC own2 hg').1; omega).base_le z21, (hr2.upd uu fun x hx => by omega).base_le z21⟩⟩
  refine Q0 (fun hw => ?_) fun hw => ?_
  ·refine Qa1 (v0 := int i64 which) (v1 := int i64 v0.1.1) (v2 := .slice p os.length c) t12 fun w187 u187 t187 => ?_
   exact ⟨_, t187.row.row.cell (n := 0) rfl, _, t187.row.c rfl, _, _, _, t187.row.c rfl, fin2 w187 u187 _ (by rw [hw, Bool.true_and, hz])⟩
  ·refine Qa1 (v0 := int i64 which) (v1 := int i64 v0.1.1) (v2 := .slice p os.length c) t12 fun w187 u187 t187 => ?_
   exact ⟨_, t187.row.row.cell (n := 0) rfl, _, t187.row.c rfl, _, _, _, t187.row.c rfl, fin2 w187 u187 _ (by rw [hw, Bool.false_and])⟩
open Go Go.Vc
open Go.IntKind (i64)
open Go.Value (int)
open Go.Proofs.Tryz (prog)
structure ARd where
 epoch : Int
 os : List ObV
 whole : Bool
 seen : Bool
def Qr2 (g : Geo) (s : StA) (ks : List Bool) (which : Int) (r : ARd) : Prop := ∃ v0 v1 : Say × Nat, QT9 g which s [v0, v1] /\ r = ⟨v0.1.1, (unD [v0.1.2, v1.1.2]).getD [], QJ1 [v0, v1] v0.1.1 && (unD [v0.1.2, v1.1.2]).isSome, Qh3 g which s ks 2⟩
structure QGf where
 found : Bool
 sure : Bool
 area : Int
 epoch : Int
 os : List ObV
def Q80 (A : Nat -> ARd) : Nat -> QGf
 | 0 => ⟨false, true, 0, 0, []⟩
 | i + 1 => if (A i).whole && (!(Q80 A i).found || decide ((Q80 A i).epoch < (A i).epoch)) then ⟨true, (Q80 A i).sure && ((A i).whole || (A i).seen), i, (A i).epoch, (A i).os⟩
  else { Q80 A i with sure := (Q80 A i).sure && ((A i).whole || (A i).seen) }
theorem QU3 {A A' : Nat -> ARd} : ∀ i, (∀ j, j < i -> A j = A' j) -> Q80 A i = Q80 A' i
 | 0, _ => rfl
 | i + 1, h => by
  have ih := QU3 i fun j hj => h j (by omega)
  simp only [Q80]
  rw [ih, h i (by omega)]
theorem QH.upd1 {w w' : World} {base : Nat} {rows : List Value} {os : List ObV} (h : QH w base rows os) {k : Nat} {e : TypeId} {cs : Array Value} (hk : QD e w k cs) (hne : e ≠ 3) (hu : Upd (fun x => x = k) w w') : QH w' base rows os := by
 refine ⟨h.len, fun i o hi => ?_⟩
 obtain ⟨q, n, c, h1, h2, h3, h4, h5, h6⟩ := h.row i o hi
 refine ⟨q, n, c, h1, h2, h3, h4, h5.upd hu fun g hg hs => ?_, h6⟩
 obtain ⟨cur, hc⟩ := (QC h5 hg).2.2
 exact Qr0 hk (hs ▸ hc) hne
def QTf (g : Geo) (s : StA) (ks : List Bool) (w : World) : σ -> σ -> σ -> World -> Bool -> Bool -> Int -> ψ := fun q9 q11 q28 _ b33 b34 n35 w36 =>
 ∃ (k9 k11 k28 i : Nat) (A : Nat -> ARd) (p : σ) (c : Nat) (rows : List Value), q9 = some (at0 k9) /\ q11 = some (at0 k11) /\ q28 = some (at0 k28) /\ n35 = i /\ i <= 2 /\ w.heap.size <= k9 /\ k9 < k11 /\ k11 < k28 /\ (i = 0 \/ s.down = false) /\ Ext w w36 /\ QD 23 w36 k9 (Qe1 g) ∧
  QD 41 w36 k11 #[int i64 0, int i64 0, .slice none 0 0] /\ QD 41 w36 k28 #[int i64 (Q80 A i).area, int i64 (Q80 A i).epoch, .slice p (Q80 A i).os.length c] /\ Qc w36 w.heap.size 78 4 p (Q80 A i).os.length c rows /\ QH w36 w.heap.size rows (Q80 A i).os ∧
  (∀ j, j < i -> Qr2 g s ks (j : Int) (A j)) /\ b33 = (Q80 A i).found /\ b34 = (Q80 A i).sure
def Qhg : σ -> σ -> σ -> World -> Bool -> Bool -> Int -> World -> Nat := fun _ _ _ _ _ _ n35 _ => 5 - n35.toNat
def Qx9 (g : Geo) (s : StA) (ks : List Bool) (w : World) : φ := fun v w' => Ext w w' /\ (Qo g ≠ 0 -> v = .tuple #[QG1 0 0 none 0 0, int i64 (Qo g)]) /\ (Qo g = 0 -> (s.down = true -> v = .tuple #[QG1 0 0 none 0 0, int i64 130]) ∧
 (s.down = false -> ∃ A : Nat -> ARd, (∀ j : Nat, j < 2 -> Qr2 g s ks (j : Int) (A j)) /\ (((Q80 A 2).found && (Q80 A 2).sure) = false -> v = .tuple #[QG1 0 0 none 0 0, int i64 150]) ∧
  (((Q80 A 2).found && (Q80 A 2).sure) = true -> ∃ p c rows, v = .tuple #[QG1 (Q80 A 2).area (Q80 A 2).epoch p (Q80 A 2).os.length c, int i64 0] /\ Qc w' w.heap.size 78 4 p (Q80 A 2).os.length c rows /\ QH w' w.heap.size rows (Q80 A 2).os)))
theorem QId {w w19 : World} {k11 : Nat} {z : Int} {R : φ} {I0 : σ -> σ -> σ -> World -> Bool -> Bool -> Int -> ψ} {M0 : σ -> σ -> σ -> World -> Bool -> Bool -> Int -> World -> Nat}
  (hx : Ext w w19) (hk : w.heap.size <= k11) (hr : QD 41 w19 k11 #[int i64 0, int i64 0, .slice none 0 0]) (hR : ∀ w', Ext w w' -> R (.tuple #[QG1 0 0 none 0 0, int i64 z]) w') : F15_A4 w19 k11 z R I0 M0 := by
 refine Qa1 (v0 := int i64 0) (v1 := int i64 0) (v2 := .slice none 0 0) hr fun w24 u24 r24 => ?_
 exact ⟨_, r24.row.row.cell (n := 0) rfl, _, r24.row.c rfl, _, _, _, r24.row.c rfl, hR _ (Q7 hx u24 hk)⟩
theorem Qm4 {w : World} {a : Nat} {s : StA} {F : Nat -> Prop} (h : IsA w a s F) (ho : OkA s) (h1 : 1 <= s.M.length) (g : Geo) {p8 : σ} {l8 c8 : Nat} {ks : List Bool} (hks : QA w p8 l8 ks) :
  Calls prog 15 #[.pointer (some (at0 a)), gV g, .slice p8 l8 c8] w fun e w' => ∃ v, e = .returned v /\ Qx9 g s ks w v w' := by
 refine F15_calls (some (at0 a)) g.k g.m g.size g.stripes g.slots g.objects p8 l8 c8 w (Qx9 g s ks w) (QTf g s ks w) Qhg ?_
 intro k9 w10 hk9 k11 w12 hk11
 have s9 := hk9.size
 have s11 := hk11.size
 have x12 := hk9.ext.trans hk11.ext
 have r9 : QD 23 w12 k9 (Qe1 g) := QD.upd (show QD _ w10 k9 (Qe1 g) from hk9.at) hk11.ext id
 have r11 : QD 41 w12 k11 #[int i64 0, int i64 0, .slice none 0 0] := hk11.at
 refine ⟨_, r9.row.row.cell (n := 0) rfl, _, r9.row.c rfl, _, r9.row.c rfl, _, r9.row.c rfl, _, r9.row.c rfl, _, r9.row.c rfl, (Qe2 (some (at0 a)) g w12).mono ?_⟩
 rintro e w19 ⟨rfl, x19⟩
 have hmc : QN (some (at0 a)) g = Qo g := rfl
 rw [hmc]
 refine ⟨_, rfl, Q0 (fun hn => ?_) fun hz => fun k28 w29 hk28 => ?_⟩
 ·have hn' : Qo g ≠ 0 := by simpa using hn
  exact QId (x12.trans x19) (by omega) (r11.upd x19 id) fun w' hx => ⟨hx, fun _ => rfl, fun h => (hn' h).elim⟩
 have hz' : Qo g = 0 := by simpa using hz
 have s28 := hk28.size
 have z19 := x19.size
 refine ⟨⟨k9, k11, k28, 0, fun _ => ⟨0, [], false, false⟩, none, 0, [], rfl, rfl, rfl, rfl, by omega, by omega, by omega, by omega, .inl rfl, (x12.trans x19).trans hk28.ext, (r9.upd x19 id).upd hk28.ext id, (r11.upd x19 id).upd hk28.ext id, hk28.at, Qc.nil _ _ _ _, QH.nil _ _, fun j hj => by omega, rfl, rfl⟩, ?_⟩
 clear r9 r11 x12
 rintro b33 b34 n35 w36 ⟨k9', k11', k28', i, A, p, c, rows, e9, e11, e28, rfl, hi, g9, g911, g1128, hdn, x36, r9, r11, r28, own, hrows, hA, rfl, rfl⟩
 simp only [Zi, at0, Zv, and_true] at e9 e11 e28
 subst e9
 subst e11
 subst e28
 intros
 refine Q0 (fun hlt => ?_) (fun hge => ?_)
 ·simp only [Za] at hlt
  refine ⟨_, r9.row.row.cell (n := 0) rfl, _, r9.row.c rfl, _, r9.row.c rfl, _, r9.row.c rfl, _, r9.row.c rfl, _, r9.row.c rfl, (Qna ((h : Qb w a _ _ _ F).ext x36) ho h1 g (hks.ext x36) (i : Int)).mono ?_⟩
  rintro e w86 ⟨v, rfl, x86, hd, hu⟩
  have z36 := x36.size
  have z86 := x86.size
  have h28lt := r28.row.lt
  cases hdown : s.down with
  | true =>
   obtain ⟨E, rfl⟩ := hd hdown
   refine ⟨_, _, _, _, _, _, _, _, rfl, fun k94 w95 hk94 => ?_⟩
   have s94 := hk94.size
   refine Qa1 (e := 41) (v0 := int i64 (i : Int)) (v1 := int i64 E) (v2 := .slice none 0 0) hk94.at fun w98 u98 r98 => ?_
   have x98 : Ext w36 w98 := Q7 (x86.trans hk94.ext) u98 (by omega)
   refine Q0 (fun _ => QId (x36.trans x98) (by omega) (r11.upd x98 id) fun w' hx => ⟨hx, fun h => (h hz').elim, fun _ => ⟨fun _ => rfl, fun h => by rw [hdown] at h; cases h⟩⟩) fun h => by simp at h
  | false =>
   obtain ⟨v0, v1, os, p', c', rows2, hrd, hos, rfl, own2, hrows2⟩ := hu hdown
   refine ⟨_, _, _, _, _, _, _, _, rfl, fun k94 w95 hk94 => ?_⟩
   have s94 := hk94.size
   refine Qa1 (e := 41) (v0 := int i64 (i : Int)) (v1 := int i64 v0.1.1) (v2 := .slice p' os.length c') hk94.at fun w98 u98 r98 => ?_
   have x98' : Ext w86 w98 := Q7 hk94.ext u98 (by omega)
   have x98 : Ext w36 w98 := x86.trans x98'
   have q28 := r28.upd x98 id
   generalize hwh : (QJ1 [v0, v1] v0.1.1 && (unD [v0.1.2, v1.1.2]).isSome) = wh
   generalize hsn : Qh3 g (i : Int) s ks 2 = sn
   obtain ⟨r, hr⟩ : ∃ r : ARd, r = ⟨v0.1.1, os, wh, sn⟩ := ⟨_, rfl⟩
   obtain ⟨A', hA'⟩ : ∃ A' : Nat -> ARd, A' = fun j => if j = i then r else A j := ⟨_, rfl⟩
   have hAi : A' i = r := by rw [hA']; simp
   have hAr : Qr2 g s ks (i : Int) r := ⟨v0, v1, hrd, by rw [hr, hos, hwh, hsn]⟩
   have hcong : Q80 A' i = Q80 A i := QU3 i fun j hj => by rw [hA']; simp [show j ≠ i by omega]
   have hall : ∀ j, j < i + 1 -> Qr2 g s ks (j : Int) (A' j) := fun j hj => by
    by_cases hji : j = i
    ·subst hji; rw [hAi]; exact hAr
    ·rw [hA']; simp only [hji, if_false]; exact hA j (by omega)
   have hstep : Q80 A' (i + 1) = if wh && (!(Q80 A i).found || decide ((Q80 A i).epoch < v0.1.1)) then ⟨true, (Q80 A i).sure && (wh || sn), i, v0.1.1, os⟩ else { Q80 A i with sure := (Q80 A i).sure && (wh || sn) } := by
    rw [Q80, hcong, hAi, hr]
   have hwr : i64.wrap ((i : Int) + 1) = (i : Int) + 1 := w64 (by omega)
   have mu : 5 - (i64.wrap ((i : Int) + 1)).toNat < 5 - (i : Int).toNat := by rw [hwr]; omega
   have base : ∀ {wx : World}, Ext w36 wx -> QD 41 wx k28 #[int i64 (Q80 A i).area, int i64 (Q80 A i).epoch, .slice p (Q80 A i).os.length c] -> (wh && (!(Q80 A i).found || decide ((Q80 A i).epoch < v0.1.1))) = false -> ∀ b34', b34' = ((Q80 A i).sure && (wh || sn)) →
     QTf g s ks w (some (at0 k9)) (some (at0 k11)) (some (at0 k28)) w29 (Q80 A i).found b34' (i64.wrap ((i : Int) + 1)) wx := fun {wx} hx hk hf b34' hb => by
    rw [hf] at hstep
    have hst2 : Q80 A' (i + 1) = { Q80 A i with sure := (Q80 A i).sure && (wh || sn) } := by rw [hstep]; rfl
    exact ⟨k9, k11, k28, i + 1, A', p, c, rows, rfl, rfl, rfl, by rw [hwr]; omega, by omega, g9, g911, g1128, .inr hdown, x36.trans hx, r9.upd hx id, r11.upd hx id, by rw [hst2]; exact hk, by rw [hst2]; exact own.ext hx, by rw [hst2]; exact hrows.ext hx, hall, by rw [hst2], by rw [hst2]; exact hb⟩
   have take : ∀ (b34' : Bool) (wx : World), Upd (fun x => x = k28) w98 wx -> QD 41 wx k28 #[int i64 (i : Int), int i64 v0.1.1, .slice p' os.length c'] -> (wh && (!(Q80 A i).found || decide ((Q80 A i).epoch < v0.1.1))) = true -> b34' = ((Q80 A i).sure && (wh || sn)) →
     QTf g s ks w (some (at0 k9)) (some (at0 k11)) (some (at0 k28)) w29 true b34' (i64.wrap ((i : Int) + 1)) wx := fun b34' wx ux hk ht hb => by
    rw [ht] at hstep
    have hst2 : Q80 A' (i + 1) = ⟨true, (Q80 A i).sure && (wh || sn), i, v0.1.1, os⟩ := by rw [hstep]; rfl
    have o98 := own2.ext x98'
    have own3 : Qc wx w.heap.size 78 4 p' os.length c' rows2 := (o98.upd ux fun g' hg' hgk => by
     obtain ⟨cur, hc⟩ := (QC o98 hg').2.2
     exact Qr0 q28 (hgk ▸ hc) (by decide)).base_le z36
    exact ⟨k9, k11, k28, i + 1, A', p', c', rows2, rfl, rfl, rfl, by rw [hwr]; omega, by omega, g9, g911, g1128, .inr hdown, Q7 (x36.trans x98) ux (by omega), (r9.upd x98 id).upd ux (by omega), (r11.upd x98 id).upd ux (by omega), by rw [hst2]; exact hk, by rw [hst2]; exact own3, by rw [hst2]; exact ((hrows2.ext x98').upd1 q28 (by decide) ux).base_le z36, hall, by rw [hst2], by rw [hst2]; exact hb⟩
   refine Q0 (fun h => by simp at h) fun _ => ?_
   refine Q0 (fun h34 => Q0 (fun hw => Q0 (fun _ => Q0 (fun hf => ?_) fun hf => ⟨_, r98.row.c rfl, _, q28.row.c rfl, Q0 (fun hlt2 => ?_) fun hnl => ⟨base x98 q28 ?_ _ ?_, mu⟩⟩) fun h => by rw [hw] at h; cases h) fun hw => Q0 (fun h => by rw [hw] at h; cases h) fun _ => ⟨base x98 q28 ?_ _ ?_, mu⟩) fun h34 => Q0 (fun hw => Q0 (fun hf => ?_) fun hf => ⟨_, r98.row.c rfl, _, q28.row.c rfl, Q0 (fun hlt2 => ?_) fun hnl => ⟨base x98 q28 ?_ _ ?_, mu⟩⟩) fun hw => ⟨base x98 q28 ?_ _ ?_, mu⟩
   ·refine ⟨_, r98.row.row.cell (n := 0) rfl, _, r98.row.c rfl, _, _, _, r98.row.c rfl, Qa1 (v0 := int i64 (i : Int)) (v1 := int i64 v0.1.1) (v2 := .slice p' os.length c') q28 fun wx ux rx => ⟨take _ wx ux rx ?_ ?_, mu⟩⟩
    ·rw [hw]; simp only [Zg] at hf; rw [hf]; rfl
    ·rw [h34, hw]; rfl
   ·refine ⟨_, r98.row.row.cell (n := 0) rfl, _, r98.row.c rfl, _, _, _, r98.row.c rfl, Qa1 (v0 := int i64 (i : Int)) (v1 := int i64 v0.1.1) (v2 := .slice p' os.length c') q28 fun wx ux rx => ⟨take _ wx ux rx ?_ ?_, mu⟩⟩
    ·rw [hw, hlt2]; simp
    ·rw [h34, hw]; rfl
   ·rw [hw, hnl]; simp only [Zf] at hf; rw [hf]; rfl
   ·rw [h34, hw]; rfl
   ·rw [hw]; rfl
   ·rw [h34, hw]; rfl
   ·refine ⟨_, r98.row.row.cell (n := 0) rfl, _, r98.row.c rfl, _, _, _, r98.row.c rfl, Qa1 (v0 := int i64 (i : Int)) (v1 := int i64 v0.1.1) (v2 := .slice p' os.length c') q28 fun wx ux rx => ⟨take _ wx ux rx ?_ ?_, mu⟩⟩
    ·rw [hw]; simp only [Zg] at hf; rw [hf]; rfl
    ·rw [h34]; rfl
   ·refine ⟨_, r98.row.row.cell (n := 0) rfl, _, r98.row.c rfl, _, _, _, r98.row.c rfl, Qa1 (v0 := int i64 (i : Int)) (v1 := int i64 v0.1.1) (v2 := .slice p' os.length c') q28 fun wx ux rx => ⟨take _ wx ux rx ?_ ?_, mu⟩⟩
    ·rw [hw, hlt2]; simp
    ·rw [h34]; rfl
   ·rw [hw, hnl]; simp only [Zf] at hf; rw [hf]; rfl
   ·rw [h34]; rfl
   ·rw [hw]; rfl
   ·rw [h34]; rfl
 ·simp only [Zb] at hge
  have hi2 : i = 2 := by omega
  subst hi2
  have hdown : s.down = false := hdn.resolve_left (by omega)
  have z36 := x36.size
  have no : ((Q80 A 2).found && (Q80 A 2).sure) = false -> ∀ {I0 : σ -> σ -> σ -> World -> Bool -> Bool -> Int -> ψ} {M0 : σ -> σ -> σ -> World -> Bool -> Bool -> Int -> World -> Nat}, F15_A3 w36 k11 (Qx9 g s ks w) I0 M0 := fun hf {I0 M0} => by
   refine Qa1 (v0 := int i64 0) (v1 := int i64 0) (v2 := .slice none 0 0) r11 fun w24 u24 r24 => ?_
   exact ⟨_, r24.row.row.cell (n := 0) rfl, _, r24.row.c rfl, _, _, _, r24.row.c rfl, Q7 x36 u24 (by omega), fun h => (h hz').elim, fun _ => ⟨fun h => (by rw [hdown] at h; cases h), fun _ => ⟨A, hA, fun _ => rfl, fun h => by rw [hf] at h; cases h⟩⟩⟩
  refine Q0 (fun hf => no ?_) fun hf => Q0 (fun hsu => no ?_) fun hsu => ⟨_, r28.row.row.cell (n := 0) rfl, _, r28.row.c rfl, _, _, _, r28.row.c rfl, ?_⟩
  ·simp only [Zg] at hf; rw [hf]; rfl
  ·simp only [Zg] at hsu; rw [hsu, Bool.and_false]
  ·simp only [Zf] at hf hsu
   refine Qa1 (v0 := int i64 (Q80 A 2).area) (v1 := int i64 (Q80 A 2).epoch) (v2 := .slice p (Q80 A 2).os.length c) r11 fun w164 u164 r164 => ?_
   refine ⟨_, r164.row.row.cell (n := 0) rfl, _, r164.row.c rfl, _, _, _, r164.row.c rfl, Q7 x36 u164 (by omega), fun h => (h hz').elim, fun _ => ⟨fun h => (by rw [hdown] at h; cases h), fun _ => ⟨A, hA, fun h => (by rw [hf, hsu] at h; cases h), fun _ => ⟨p, c, rows, rfl, own.upd u164 fun g' hg' hgk => ?_, hrows.upd1 r11 (by decide) u164⟩⟩⟩⟩
   obtain ⟨cur, hc⟩ := (QC own hg').2.2
   exact Qr0 r11 (hgk ▸ hc) (by decide)
open Go Go.Vc
open Go.IntKind (i64)
open Go.Value (int)
open Go.Proofs.Tryz (prog)
theorem Qjf (w : World) (d : τ) (hl : d.length <= 4096) : ∃ c w', Sem.run prog (convert 9 42 (.string (QF d))) w = .ok (.slice (some (at0 w.heap.size)) d.length c) w' /\ Ext w w' /\ Q3 w' (some (at0 w.heap.size)) d.length d /\ w.heap.size < w'.heap.size /\ (d.length <= c /\ c <= 9223372036854775807) := by
 have hr := run_bytes_of_string (P := prog) w 9 42 5 (QF d) (by kernel_rfl) (by kernel_rfl) (by kernel_rfl)
 rw [Qd7] at hr
 have hx : Ext w w.drew := Qh1.ext ⟨rfl, rfl, rfl, rfl⟩
 refine ⟨_, _, hr, ?_, ?_, by show w.heap.size < (w.heap.push _).size; simp, grownCap_ge _ _ _ _, ?_⟩
 ·refine ⟨rfl, rfl, rfl, by show w.heap.size <= (w.heap.push _).size; simp, fun k hk _ => ?_⟩
  show (w.heap.push _)[k]? = _
  rw [Array.getElem?_push, if_neg (by omega)]
 ·refine Q3.of_cells fun j u hj => ⟨_, rfl, Row.cell ⟨_, _, by show (w.heap.push _)[w.heap.size]? = _; rw [Array.getElem?_push, if_pos rfl]⟩ ?_⟩
  have hj' : j < d.length := by
   have := (Zd.1 hj).1
   simpa [QB] using this
  unfold bytesRow
  rw [Array.getElem?_append_left (by simp [QF, hj'])]
  simpa [QF, QB] using hj
 ·have := grownCap_le_maxLen w d.length 0 5 (by unfold maxLen; omega)
  unfold maxLen at this
  omega
section
variable {w : World} {a : Nat} {M : List Mem} {left : Int} {down : Bool} {F : Nat -> Prop}
theorem Qb9 (h : Qb w a M left false F) (hM : M.length <= 100) (h1 : 1 <= M.length) {p2 : σ} {l2 c2 : Nat} {ks : List Bool} (hks : QA w p2 l2 ks) (n : Int) :
  Calls prog 53 #[.pointer (some (at0 a)), .slice p2 l2 c2, int i64 n] w fun e w' => Ext w w' /\ ∃ v b c k cc, e = .returned (.tuple #[v, int i64 0]) /\ QBf w w' (Qn n M) ks v b c k cc /\ (b.2.length <= cc /\ cc <= 9223372036854775807) := by
 refine (F53_calls (some (at0 a)) p2 l2 c2 n w (fun v w' => Ext w w' /\ ∃ v1 b c k cc, v = .tuple #[v1, int i64 0] /\ QBf w w' (Qn n M) ks v1 b c k cc /\ (b.2.length <= cc /\ cc <= 9223372036854775807))
  (fun p4 p33 p8 l8 _ _ w39 n46 w47 => ∃ (k4 k33 kd i : Nat) (b : Say) (c cc : Nat), p4 = some (at0 k4) /\ p33 = some (at0 k33) /\ l8 = M.length /\ n46 = i /\ i <= M.length /\ w.heap.size <= k4 /\ w.heap.size <= k33 /\ k4 ≠ k33 /\ w.heap.size <= kd /\ kd ≠ k4 /\ kd ≠ k33 /\ Ext w w47 ∧
   Q8 w47 p8 (QE1 (Qn n M)) /\ (∀ a, p8 = some a -> a.block ≠ k33) /\ RowW w47 k4 #[.bool false, int i64 0, .slice none 0 0, int i64 0, .bool false] /\ QM4 (Qe0 (Qn n M)) b c ∧
   RowW w47 k33 #[.bool (decide (0 < c)), int i64 b.1, .slice (some (at0 kd)) b.2.length cc, int i64 (c : Int), .bool (wit ks ((Qn n M).take i))] /\ Q3 w47 (some (at0 kd)) b.2.length b.2 /\ (b.2.length <= cc /\ cc <= 9223372036854775807))
  (fun _ _ _ _ _ _ _ n46 _ => 100 - n46.toNat) ?_).mono (by rintro e w' ⟨v, rfl, hx, v1, b, c, k, cc, rfl, h⟩; exact ⟨hx, v1, b, c, k, cc, rfl, h⟩)
 unfold F53
 intro k4 w5 hk4
 have s4 : w.heap.size <= k4 := by rw [hk4.size.1]; exact Nat.le_refl _
 refine (Qp6 (h.ext hk4.ext) hM h1 n).mono ?_
 rintro e w6 ⟨x6, h6⟩
 rw [if_neg (by simp)] at h6
 obtain ⟨p8, c8, rfl, ho⟩ := h6
 refine ⟨_, _, _, _, rfl, Q0 (fun h => by cases h) fun _ => ?_⟩
 have hls : (Qn n M).length = M.length := by simp [Qn]
 refine (QP5 (L := Qn n M) (by rw [hls]) ho.cells (by omega)).mono ?_
 rintro e w20 ⟨x20, b, c, hb, rfl⟩
 refine ⟨_, _, _, rfl, fun k25 w26 hk25 => ?_⟩
 have xa : Ext w w20 := (hk4.ext.trans x6).trans x20
 have s25 : w20.heap.size <= k25 := by rw [hk25.size.1]; exact Nat.le_refl _
 have r26 : RowW w26 k25 _ := ⟨_, hk25.at⟩
 have e25 : (at0 k25) = (at0 k25).add 0 := (Qi k25 0).symm
 refine ⟨by rw [e25]; exact r26.live (by simp), fun w27 s27 => ?_⟩
 rw [e25] at s27
 have r27 := s27.row r26
 refine ⟨r27.live (by simp), fun w28 s28 => ?_⟩
 have r28 := s28.row r27
 have x28 : Ext w20 w28 := Q5 (Q5 hk25.ext s25 s27) s25 s28
 refine ⟨_, r28.c rfl, _, r28.c rfl, ?_⟩
 obtain ⟨cc, w31, hr, x31, hd, sz31, hcc⟩ := Qjf w28 b.2 (Qu3 hb)
 have xb : Ext w w31 := (xa.trans x28).trans x31
 refine ⟨_, _, _, w31, hr, fun k33 w34 hk33 => ?_⟩
 have s33 : w31.heap.size <= k33 := by rw [hk33.size.1]; exact Nat.le_refl _
 have e33 : (at0 k33) = (at0 k33).add 0 := (Qi k33 0).symm
 have r34 : RowW w34 k33 _ := ⟨_, hk33.at⟩
 refine ⟨by rw [e33]; exact r34.live (by simp), fun w35 s35 => ?_⟩
 rw [e33] at s35
 have r35 := s35.row r34
 refine ⟨r35.live (by simp), fun w36 s36 => ?_⟩
 have r36 := s36.row r35
 refine ⟨r36.live (by simp), fun w37 s37 => ?_⟩
 have r37 := s37.row r36
 refine ⟨r37.live (by simp), fun w38 s38 => ?_⟩
 have r38 := s38.row r37
 refine ⟨r38.live (by simp), fun w39 s39 => ?_⟩
 have r39 := s39.row r38
 have x39 : Ext w31 w39 := Q5 (Q5 (Q5 (Q5 (Q5 hk33.ext s33 s35) s33 s36) s33 s37) s33 s38) s33 s39
 have xc : Ext w w39 := xb.trans x39
 have d39 : Q3 w39 (some (at0 w28.heap.size)) b.2.length b.2 := hd.ext x39
 have sd : w.heap.size <= w28.heap.size := (xa.trans x28).size
 have k4lt : k4 < w28.heap.size := Zo (Qk hk4.at) ((x6.trans x20).trans x28).size
 have hpb : ∀ a, p8 = some a -> a.block < w28.heap.size := by
  intro a ha
  rcases ho.where_ with ⟨h0, _⟩ | ⟨g, h0, _, hlt, _⟩
  ·rw [h0] at ha; cases ha
  ·rw [h0] at ha
   cases ha
   exact Zo hlt (x20.trans x28).size
 have hk33ne : k4 ≠ k33 := by omega
 refine ⟨⟨k4, k33, w28.heap.size, 0, b, c, cc, rfl, rfl, rfl, rfl, Nat.zero_le _, s4, by omega, hk33ne, sd, by omega, by omega, xc,
  ho.cells.ext (((x20.trans x28).trans x31).trans x39), fun a ha => by have := hpb a ha; omega, ((((x6.trans x20).trans x28).trans x31).trans x39).rowW ⟨_, hk4.at⟩ id, hb, ?_, d39, hcc⟩, ?_⟩
 ·have : decide ((0 : Int) < (c : Int)) = decide (0 < c) := by rw [decide_eq_decide]; omega
  rw [this] at r39
  have hw0 : wit ks ((Qn n M).take 0) = false := by simp [wit]
  rw [hw0]
  exact r39
 rintro n46 w47 ⟨k4', k33', kd, i, b, c, cc, e1, e2, _, rfl, hi, _, s33', hne, sd', hd4, hd33, x47, hcs, hpk, r4, hb, r33, d47, hcc⟩
 simp only [Zi, at0, Zv, and_true] at e1 e2
 subst e1
 subst e2
 intros
 refine Q0 (fun hlt => ?_) (fun hge => ?_)
 ·simp only [Za] at hlt
  obtain ⟨s, hsI⟩ : ∃ s, (Qn n M)[i]? = some s := ⟨(Qn n M)[i]'(by omega), Zc _⟩
  obtain ⟨pa, rfl, c0⟩ := hcs (i * 4 + 0) _ (QF1 hsI (j := 0) rfl)
  have ccs : ∀ j v, (Q34 s)[j]? = some v -> w47.cell? ((pa.add (i * 4)).add j) = some v := by
   intro j v hj
   obtain ⟨a', ha', h'⟩ := hcs (i * 4 + j) v (QF1 hsI hj)
   cases ha'
   rw [Qt]; exact h'
  rw [Ze]
  refine ⟨⟨by omega, hlt⟩, _, c0, _, ccs 1 _ rfl, _, ccs 2 _ rfl, _, ccs 3 _ rfl, fun k79 w80 hk79 => ?_⟩
  have hk0 : w47.heap.size <= k79 := by rw [hk79.size.1]; exact Nat.le_refl _
  have r80 : RowW w80 k79 _ := ⟨_, hk79.at⟩
  have e79 : (at0 k79) = (at0 k79).add 0 := (Qi k79 0).symm
  refine ⟨by rw [e79]; exact r80.live (by simp), fun w81 s81 => ?_⟩
  rw [e79] at s81
  have r81 := s81.row r80
  refine ⟨r81.live (by simp), fun w82 s82 => ?_⟩
  have r82 := s82.row r81
  refine ⟨r82.live (by simp), fun w83 s83 => ?_⟩
  have r83 := s83.row r82
  refine ⟨r83.live (by simp), fun w84 s84 => ?_⟩
  have r84 : RowW w84 k79 #[int i64 s.epoch, .string (QF s.data), .bool s.is, .bool s.none] := s84.row r83
  have x84 : Ext w47 w84 := Q5 (Q5 (Q5 (Q5 hk79.ext hk0 s81) hk0 s82) hk0 s83) hk0 s84
  have hw : i64.wrap ((i : Int) + 1) = ((i + 1 : Nat) : Int) := by rw [w64 (by omega)]; omega
  rw [hw]
  have hstep := QL4 (ks := ks) hsI
  have r33' : RowW w84 k33 _ := x84.rowW r33 id
  have mu : 100 - (((i + 1 : Nat) : Int)).toNat < 100 - ((i : Int)).toNat := by omega
  have keep : QR9 (ks.getD i false, s) = false -> _ := fun hf => (show
    (∃ (k4_1 k33_1 kd i_1 : Nat) (b : Say) (c cc : Nat), some (at0 k4) = some (at0 k4_1) /\ some (at0 k33) = some (at0 k33_1) /\ M.length = M.length /\ ((i + 1 : Nat) : Int) = i_1 /\ i_1 <= M.length /\ w.heap.size <= k4_1 /\ w.heap.size <= k33_1 /\ k4_1 ≠ k33_1 /\ w.heap.size <= kd /\ kd ≠ k4_1 /\ kd ≠ k33_1 /\ Ext w w84 ∧
   Q8 w84 (some pa) (QE1 (Qn n M)) /\ (∀ a, some pa = some a -> a.block ≠ k33_1) /\ RowW w84 k4_1 #[.bool false, int i64 0, .slice none 0 0, int i64 0, .bool false] /\ QM4 (Qe0 (Qn n M)) b c ∧
   RowW w84 k33_1 #[.bool (decide (0 < c)), int i64 b.1, .slice (some (at0 kd)) b.2.length cc, int i64 (c : Int), .bool (wit ks ((Qn n M).take i_1))] /\ Q3 w84 (some (at0 kd)) b.2.length b.2 /\ (b.2.length <= cc /\ cc <= 9223372036854775807)) /\ 100 - (((i + 1 : Nat) : Int)).toNat < 100 - ((i : Int)).toNat from
    ⟨⟨k4, k33, kd, i + 1, b, c, cc, rfl, rfl, rfl, rfl, by omega, s4, s33', hne, sd', hd4, hd33, x47.trans x84, hcs.ext x84, hpk, x84.rowW r4 id, hb, by rw [hstep, hf, Bool.or_false]; exact r33', d47.ext x84, hcc⟩, mu⟩)
  have set : QR9 (ks.getD i false, s) = true -> ∀ w88, QT w84 ((at0 k33).add 4) (.bool true) w88 -> _ := fun hf w88 s88 => (show
    (∃ (k4_1 k33_1 kd i_1 : Nat) (b : Say) (c cc : Nat), some (at0 k4) = some (at0 k4_1) /\ some (at0 k33) = some (at0 k33_1) /\ M.length = M.length /\ ((i + 1 : Nat) : Int) = i_1 /\ i_1 <= M.length /\ w.heap.size <= k4_1 /\ w.heap.size <= k33_1 /\ k4_1 ≠ k33_1 /\ w.heap.size <= kd /\ kd ≠ k4_1 /\ kd ≠ k33_1 /\ Ext w w88 ∧
   Q8 w88 (some pa) (QE1 (Qn n M)) /\ (∀ a, some pa = some a -> a.block ≠ k33_1) /\ RowW w88 k4_1 #[.bool false, int i64 0, .slice none 0 0, int i64 0, .bool false] /\ QM4 (Qe0 (Qn n M)) b c ∧
   RowW w88 k33_1 #[.bool (decide (0 < c)), int i64 b.1, .slice (some (at0 kd)) b.2.length cc, int i64 (c : Int), .bool (wit ks ((Qn n M).take i_1))] /\ Q3 w88 (some (at0 kd)) b.2.length b.2 /\ (b.2.length <= cc /\ cc <= 9223372036854775807)) /\ 100 - (((i + 1 : Nat) : Int)).toNat < 100 - ((i : Int)).toNat from by
    have u88 := s88.upd
    rw [Qr] at u88
    have r88 := s88.row r33'
    refine ⟨⟨k4, k33, kd, i + 1, b, c, cc, rfl, rfl, rfl, rfl, by omega, s4, s33', hne, sd', hd4, hd33, Q5 (x47.trans x84) s33' s88, (hcs.ext x84).upd u88 (fun a ha _ => hpk a ha), hpk, u88.rowW (x84.rowW r4 id) hne, hb, ?_, (d47.ext x84).upd u88 (fun a ha _ => by cases ha; exact hd33), hcc⟩, mu⟩
    rw [hstep, hf, Bool.or_true]
    exact r88)
  refine Q0 (fun h2 => ?_) (fun h2 => ?_)
  ·simp only [Za] at h2
   obtain ⟨a2, rfl, hc2⟩ := (hks.ext (x47.trans x84)).get (i := i) (by omega)
   refine ⟨⟨by omega, h2⟩, _, hc2, Q0 (fun h3 => ?_) (fun h3 => ?_)⟩
   ·refine ⟨_, r84.c rfl, Q0 (fun h4 => ?_) (fun h4 => ?_)⟩
    ·exact ⟨r33'.live (by simp), set (by show (ks.getD i false && (s.is || s.none)) = _; rw [h3, h4]; rfl)⟩
    ·refine ⟨_, r84.c rfl, Q0 (fun h5 => ?_) (fun h5 => ?_)⟩
     ·exact ⟨r33'.live (by simp), set (by show (ks.getD i false && (s.is || s.none)) = _; rw [h3, h5]; exact Bool.or_true _)⟩
     ·exact keep (by show (ks.getD i false && (s.is || s.none)) = _; rw [h4, h5]; exact Bool.and_false _)
   ·exact keep (by show (ks.getD i false && (s.is || s.none)) = _; rw [h3]; rfl)
  ·simp only [Zb] at h2
   have : ks.getD i false = false := by
    have := hks.1
    rw [Zj, Zr (by omega)]; rfl
   exact keep (by show (ks.getD i false && (s.is || s.none)) = _; rw [this]; rfl)
 ·simp only [Zb] at hge
  have hil : i = M.length := by omega
  have htk : (Qn n M).take i = Qn n M := Zh (by omega)
  rw [htk] at r33
  have e4 : (at0 k4) = (at0 k4).add 0 := (Qi k4 0).symm
  refine ⟨_, by rw [e33]; exact r33.c rfl, _, r33.c rfl, _, _, _, r33.c rfl, _, r33.c rfl, _, r33.c rfl, ?_⟩
  refine ⟨by rw [e4]; exact r4.live (by simp), fun w96 s96 => ?_⟩
  rw [e4] at s96
  have r96 := s96.row r4
  refine ⟨r96.live (by simp), fun w97 s97 => ?_⟩
  have r97 := s97.row r96
  refine ⟨r97.live (by simp), fun w98 s98 => ?_⟩
  have r98 := s98.row r97
  refine ⟨r98.live (by simp), fun w99 s99 => ?_⟩
  have r99 := s99.row r98
  refine ⟨r99.live (by simp), fun w100 s100 => ?_⟩
  have r100 := s100.row r99
  have x100 : Ext w w100 := Q5 (Q5 (Q5 (Q5 (Q5 x47 s4 s96) s4 s97) s4 s98) s4 s99) s4 s100
  refine ⟨_, by rw [e4]; exact r100.c rfl, _, r100.c rfl, _, _, _, r100.c rfl, _, r100.c rfl, _, r100.c rfl, x100, _, b, c, kd, cc, rfl, ⟨hb, rfl, sd', ?_⟩, hcc⟩
  have u : ∀ {j : Nat} {v : Value} {wa wb : World}, QT wa ((at0 k4).add j) v wb -> Q3 wa (some (at0 kd)) b.2.length b.2 -> Q3 wb (some (at0 kd)) b.2.length b.2 := by
   intro j v wa wb hs hB
   have hu := hs.upd
   rw [Qr] at hu
   exact hB.upd hu fun a ha _ => by cases ha; exact hd4
  exact u s100 (u s99 (u s98 (u s97 (u s96 d47))))
end
open Go Go.Vc
open Go.IntKind (i64)
open Go.Value (int)
open Go.Proofs.Tryz (prog)
structure Qo0 (w : World) (base : Nat) (rows : List Value) (os : List Qp2) : Prop where
 len : rows.length = 4 * os.length
 row : ∀ i o, os[i]? = some o -> ∃ q n c, rows[i * 4 + 0]? = some (int i64 o.kind) /\ rows[i * 4 + 1]? = some (.string (QF o.key)) /\ rows[i * 4 + 2]? = some (int i64 o.len) /\ rows[i * 4 + 3]? = some (.slice q n c) /\ Qc w base 3 1 q n c (Qu2 o.st) /\ n <= 70000
theorem Qo0.nil (w : World) (base : Nat) : Qo0 w base [] [] := ⟨rfl, fun i o h => by simp at h⟩
theorem Qo0.upd {S : Nat -> Prop} {w w' : World} {base : Nat} {rows : List Value} {os : List Qp2} (h : Qo0 w base rows os) (hu : Upd S w w') (hS : ∀ x, S x -> x < base) : Qo0 w' base rows os := by
 refine ⟨h.len, fun i o hi => ?_⟩
 obtain ⟨q, n, c, h1, h2, h3, h4, h5, h6⟩ := h.row i o hi
 refine ⟨q, n, c, h1, h2, h3, h4, h5.upd hu fun g hg hs => ?_, h6⟩
 have := hS g hs
 rcases h5.where_ with ⟨h0, _⟩ | ⟨g', h0, hge, _⟩
 ·rw [h0] at hg; cases hg
 ·rw [h0] at hg
  simp only [Zi, at0, Zv, and_true] at hg
  omega
theorem Qo0.ext {w w' : World} {base : Nat} {rows : List Value} {os : List Qp2} (h : Qo0 w base rows os) (hx : Ext w w') : Qo0 w' base rows os := h.upd hx fun _ h => h.elim
theorem Qo0.keep {w w' : World} {base : Nat} {rows : List Value} {os : List Qp2} (h : Qo0 w base rows os) {base2 : Nat} {p : σ} {n c : Nat} {xs : List Value} (own : Qc w base2 38 4 p n c xs) (hu : Upd (fun b => p = some (at0 b)) w w') : Qo0 w' base rows os := by
 have hk := Qn0.of_own own hu
 refine ⟨h.len, fun i o hi => ?_⟩
 obtain ⟨q, n', c', h1, h2, h3, h4, h5, h6⟩ := h.row i o hi
 refine ⟨q, n', c', h1, h2, h3, h4, h5.upd hu fun g hg hs => ?_, h6⟩
 rcases h5.where_ with ⟨h0, _⟩ | ⟨g', h0, _, _, _, cur, hc, _⟩
 ·rw [h0] at hg; cases hg
 ·rw [h0] at hg
  simp only [Zi, at0, Zv, and_true] at hg
  subst hg
  rcases own.where_ with ⟨h0', _⟩ | ⟨g2, h0', _, _, _, cur2, hc2, _⟩
  ·rw [h0'] at hs; cases hs
  ·rw [h0'] at hs
   simp only [Zi, at0, Zv, and_true] at hs
   subst hs
   rw [hc] at hc2
   have : 3 = 38 := by simpa using (Option.some.inj hc2 |> fun e => (Obj.cells.inj e).2.1)
   exact absurd this (by decide)
theorem Qo0.snoc {w : World} {base : Nat} {rows : List Value} {os : List Qp2} (h : Qo0 w base rows os) {o : Qp2} {q : σ} {n c : Nat} (own : Qc w base 3 1 q n c (Qu2 o.st)) (hn : n <= 70000) : Qo0 w base (rows ++ [int i64 o.kind, .string (QF o.key), int i64 o.len, .slice q n c]) (os ++ [o]) := by
 have hl := h.len
 refine ⟨by simp [hl]; omega, fun i x hi => ?_⟩
 rw [List.getElem?_append] at hi
 split at hi
 ·rename_i hlt
  obtain ⟨q', n', c', h1, h2, h3, h4, h5⟩ := h.row i x hi
  have hb : ∀ k, k < 4 -> i * 4 + k < rows.length := fun k hk => by omega
  exact ⟨q', n', c', by rw [Zl (hb 0 (by omega))]; exact h1, by rw [Zl (hb 1 (by omega))]; exact h2, by rw [Zl (hb 2 (by omega))]; exact h3, by rw [Zl (hb 3 (by omega))]; exact h4, h5⟩
 ·rename_i hge
  have hi0 : i - os.length = 0 := by
   rcases hq : i - os.length with _ | k
   ·rfl
   ·rw [hq] at hi; simp at hi
  rw [hi0] at hi
  cases hi
  have hil : i = os.length := by omega
  have hb : ∀ k, rows.length <= i * 4 + k := fun k => by omega
  have hs : ∀ k, i * 4 + k - rows.length = k := fun k => by omega
  exact ⟨q, n, c, by rw [Zm (hb 0), hs]; rfl, by rw [Zm (hb 1), hs]; rfl, by rw [Zm (hb 2), hs]; rfl, by rw [Zm (hb 3), hs]; rfl, own, hn⟩
theorem QEd : QI0 prog 59 38 4 56 := ⟨by kernel_rfl, ⟨Tryz.t38, .agg #[int i64 0, .string ⟨#[]⟩, int i64 0, .slice none 0 0], by kernel_rfl, by kernel_rfl, by kernel_rfl, by kernel_rfl, by kernel_rfl⟩, by decide⟩
def okB (base : Int) : Int := if 0 <= base /\ base <= 2147483547 then 0 else 1
def QO8 (p : σ) (g : Geo) (base : Int) : Int := Qz [QN p g, okB base]
def QT2 (g : Geo) (s : StA) (base : Int) (j : Nat) (x : Qp2) : Prop := ∃ b c, QM4 (Qe0 (Qn (Q70 g (j : Int)) s.M)) b c /\ 0 < c /\ b.1 = base + j + 1 /\ Qa4 b.2 = some x
def Qj2 (g : Geo) (s : StA) (base : Int) (j : Nat) : Prop := ∃ b c, QM4 (Qe0 (Qn (Q70 g (j : Int)) s.M)) b c /\ ¬ (0 < c /\ b.1 = base + j + 1 /\ ∃ x, Qa4 b.2 = some x)
def QDa (g : Geo) (s : StA) (ks : List Bool) (base : Int) (w : World) : φ := fun v w' => Ext w w' /\ (QO8 (some (at0 0)) g base ≠ 0 -> v = .tuple #[.slice none 0 0, int i64 (QO8 (some (at0 0)) g base)]) /\ (QO8 (some (at0 0)) g base = 0 →
 (s.down = true -> v = .tuple #[.slice none 0 0, int i64 130]) /\ (s.down = false -> ∃ L : List Qp2, (∀ j x, L[j]? = some x -> QT2 g s base j x) ∧
  ((((L.length : Int) = g.slots \/ ((L.length : Int) < g.slots /\ Qj2 g s base L.length /\ wit ks (Qn (Q70 g (L.length : Int)) s.M) = true)) /\ ∃ p c rows, v = .tuple #[.slice p L.length c, int i64 0] /\ Qc w' w.heap.size 38 4 p L.length c rows /\ Qo0 w' w.heap.size rows L) ∨
   ((L.length : Int) < g.slots /\ Qj2 g s base L.length /\ wit ks (Qn (Q70 g (L.length : Int)) s.M) = false /\ v = .tuple #[.slice none 0 0, int i64 150]))))
def Q0g (g : Geo) (s : StA) (base : Int) (w : World) : σ -> Int -> World -> σ -> Nat -> Nat -> Bool -> Int -> ψ := fun q10 n29 _ p32 l32 c32 b33 n34 w35 =>
 ∃ (k10 i : Nat) (L : List Qp2) (rows : List Value), q10 = some (at0 k10) /\ n29 = g.slots /\ n34 = i /\ (i : Int) <= g.slots /\ L.length = i /\ l32 = i /\ b33 = true /\ w.heap.size <= k10 /\ (i = 0 \/ s.down = false) /\ Ext w w35 /\ QD 23 w35 k10 (Qe1 g) /\ (∀ j x, L[j]? = some x -> QT2 g s base j x) ∧
  Qc w35 w.heap.size 38 4 p32 l32 c32 rows /\ Qo0 w35 w.heap.size rows L
def Q1g : σ -> Int -> World -> σ -> Nat -> Nat -> Bool -> Int -> World -> Nat := fun _ _ _ _ _ _ _ n34 _ => 100 - n34.toNat
open Go Go.Vc
open Go.IntKind (i64)
open Go.Value (int)
open Go.Proofs.Tryz (prog)
theorem Q8c {bs : τ} {x : Qp2} {r : τ} (hD : QJ4 bs = some (x, r)) : x.ok := by
 unfold QJ4 at hD
 repeat (split at hD; · cases hD)
 unfold Q9c at hD
 split at hD
 ·cases hD
 ·split at hD
  ·rename_i hok
   simp only [Zi, Prod.mk.injEq] at hD
   rw [← hD.1]; exact hok
  ·cases hD
theorem Qn8 {bs : τ} {x : Qp2} (h : Qa4 bs = some x) : x.st.length <= 256 := by
 unfold Qa4 at h
 split at h
 ·rename_i y hD
  simp only [Zi] at h
  subst h
  exact (Q8c hD).1.2.2.2
 ·cases h
theorem Qmf {w w21 : World} {a : Nat} {s : StA} {F : Nat -> Prop} (h : IsA w a s F) (ho : OkA s) (h1 : 1 <= s.M.length) (g : Geo) {p8 : σ} {l8 c8 : Nat} {ks : List Bool} (hks : QA w p8 l8 ks) (base : Int) {k10 : Nat} (hx : Ext w w21) (hr : QD 23 w21 k10 (Qe1 g)) (hk : w.heap.size <= k10) :
  F17_A0 (.returned (int i64 (okB base))) w21 (QN (some (at0 a)) g) k10 (some (at0 a)) p8 l8 c8 base (QDa g s ks base w) (Q0g g s base w) Q1g := by
 have hM : s.M.length <= 32 := ho.1
 refine ⟨_, rfl, fun k24 w25 hk24 => ?_⟩
 refine (Qn1 (L := [_, _]) (Qk1 (L := [_, _]) (w' := w25) ⟨_, hk24.at⟩ rfl) (by simp)).mono ?_
 rintro e w26 ⟨rfl, rfl⟩
 have x26 := hx.trans hk24.ext
 have ee : Qz [QN (some (at0 a)) g, okB base] = QO8 (some (at0 0)) g base := rfl
 rw [ee]
 have r26 : QD 23 w26 k10 (Qe1 g) := hr.upd hk24.ext id
 refine ⟨_, rfl, Q0 (fun hn => ?_) fun hz => ⟨_, r26.row.c rfl, ?_⟩⟩
 ·have hn' : QO8 (some (at0 0)) g base ≠ 0 := by simpa using hn
  exact ⟨x26, fun _ => rfl, fun h => (hn' h).elim⟩
 have hz' : QO8 (some (at0 0)) g base = 0 := by simpa using hz
 have hgb : QS g /\ 0 <= base /\ base <= 2147483547 := by
  have hp := hz'
  unfold QO8 Qz at hp
  split at hp
  ·rename_i hm
   unfold Qz at hp
   split at hp
   ·rename_i hb
    unfold okB at hb
    split at hb
    ·rename_i hh
     refine ⟨?_, hh⟩
     unfold QN Qo at hm
     by_cases hg : QS g
     ·exact hg
     ·simp [hg] at hm
    ·cases hb
   ·contradiction
  ·contradiction
 have hsl := hgb.1.2.2.2.1
 refine ⟨⟨k10, 0, [], [], rfl, rfl, rfl, by omega, rfl, rfl, rfl, hk, .inl rfl, x26, r26, fun j x hj => by simp at hj, Qc.nil _ _ _ _, Qo0.nil _ _⟩, ?_⟩
 clear hr r26
 rintro p32 l32 c32 b33 n34 w35 ⟨k10', i, L, rows, e10, _, rfl, hi, hLl, rfl, rfl, _, hdn, x35, r10, hL, own, hrows⟩
 simp only [Zi, at0, Zv, and_true] at e10
 subst e10
 intros
 have z35 := x35.size
 refine Q0 (fun hlt => ?_) (fun hge => ?_)
 ·simp only [Za] at hlt
  refine ⟨_, r10.row.row.cell (n := 0) rfl, _, r10.row.c rfl, _, r10.row.c rfl, _, r10.row.c rfl, _, r10.row.c rfl, _, r10.row.c rfl, (QR7 g (l32 : Int) w35).mono ?_⟩
  rintro e w91 ⟨rfl, x91⟩
  have y91 := x35.trans x91
  have z91 := x91.size
  refine ⟨_, rfl, ?_⟩
  obtain ⟨M, left, down⟩ := s
  cases down with
  | true =>
   refine (Qh6 ((h : Qb w a M left true F).ext y91) (by omega) h1 p8 l8 c8 _).mono ?_
   rintro e w94 ⟨rfl, x94⟩
   refine ⟨_, _, _, _, _, _, _, _, rfl, fun k102 w103 hk102 => ?_⟩
   have s102 := hk102.size
   have z94 := x94.size
   refine Qd4 (e := 117) (v0 := .bool false) (v1 := int i64 0) (v2 := .slice none 0 0) (v3 := int i64 0) (v4 := .bool false) hk102.at fun w108 u108 r108 => ?_
   have x108 : Ext w35 w108 := Q7 ((x91.trans x94).trans hk102.ext) u108 (by omega)
   exact Q0 (fun _ => ⟨x35.trans x108, fun h => (h hz').elim, fun _ => ⟨fun _ => rfl, fun h => by cases h⟩⟩) fun h => by simp at h
  | false =>
   refine (Qb9 ((h : Qb w a M left false F).ext y91) (by omega) h1 (hks.ext y91) _).mono ?_
   rintro e w94 ⟨x94, v, b, c, kd, cc, rfl, ⟨hbest, rfl, hnew, hdat⟩, hcc1, hcc2⟩
   refine ⟨_, _, _, _, _, _, _, _, rfl, fun k102 w103 hk102 => ?_⟩
   have s102 := hk102.size
   have z94 := x94.size
   refine Qd4 (e := 117) (v0 := .bool (decide (0 < c))) (v1 := int i64 b.1) (v2 := .slice (some (at0 kd)) b.2.length cc) (v3 := int i64 ((c : Nat) : Int)) (v4 := .bool (wit ks (Qn (Q70 g (l32 : Int)) M))) hk102.at fun w108 u108 r108 => ?_
   have x94_108 : Ext w94 w108 := Q7 hk102.ext u108 (by omega)
   have x108 : Ext w35 w108 := (x91.trans x94).trans x94_108
   refine Q0 (fun h => by simp at h) fun _ => ⟨_, _, _, r108.row.c rfl, (Qo8 (hdat.ext x94_108) hcc1 hcc2).mono ?_⟩
   rintro e w110 ⟨v, rfl, x110, hdec⟩
   obtain ⟨kd1, sd1, ld1, pd1, nd1, cd1, z1, rfl, hres⟩ : ∃ (kd1 : Int) (sd1 : ByteArray) (ld1 : Int) (pd1 : σ) (nd1 cd1 : Nat) (z1 : Int), v = .tuple #[.agg #[int i64 kd1, .string sd1, int i64 ld1, .slice pd1 nd1 cd1], int i64 z1] ∧
     ((∃ x : Qp2, Qa4 b.2 = some x /\ kd1 = x.kind /\ sd1 = QF x.key /\ ld1 = x.len /\ z1 = 0 /\ Qc w110 w108.heap.size 3 1 pd1 nd1 cd1 (Qu2 x.st)) \/ (Qa4 b.2 = none /\ z1 = 160)) := by
    rcases hdec with ⟨x, p, l, c2, hd, rfl, hown⟩ | ⟨hd, rfl⟩
    ·exact ⟨_, _, _, _, _, _, _, rfl, .inl ⟨x, hd, rfl, rfl, rfl, rfl, hown⟩⟩
    ·exact ⟨_, _, _, _, _, _, _, rfl, .inr ⟨hd, rfl⟩⟩
   refine ⟨_, _, _, _, _, _, _, rfl, fun k117 w118 hk117 => ?_⟩
   have s117 := hk117.size
   have z110 := x110.size
   refine QO1 (e := 38) (v0 := int i64 kd1) (v1 := .string sd1) (v2 := int i64 ld1) (v3 := .slice pd1 nd1 cd1) hk117.at fun w122 u122 r122 => ?_
   have x110_122 : Ext w110 w122 := Q7 hk117.ext u122 (by omega)
   have x122 : Ext w35 w122 := x108.trans (x110.trans x110_122)
   have q102 : QD 117 w122 k102 _ := r108.upd (x110.trans x110_122) id
   have y122 := x35.trans x122
   have own122 := own.ext x122
   have rows122 := hrows.ext x122
   have hwe : i64.wrap ((i64.wrap (base + (l32 : Int))) + (1 : Int)) = base + (l32 : Int) + 1 := by rw [w64 (n := base + (l32 : Int)) (by omega), w64 (by omega)]
   have stop : ¬ (0 < c /\ b.1 = base + l32 + 1 /\ ∃ x, Qa4 b.2 = some x) -> ∃ b124, w122.cell? ((at0 k102).add 4) = some (.bool b124) /\ Q2 (!b124) (QDa g ⟨M, left, false⟩ ks base w (.tuple #[.slice none 0 0, int i64 150]) w122) (QDa g ⟨M, left, false⟩ ks base w (.tuple #[.slice p32 l32 c32, int i64 0]) w122) := fun hno => by
    have hsn : Qj2 g ⟨M, left, false⟩ base l32 := ⟨b, c, hbest, hno⟩
    refine ⟨_, q102.row.c rfl, Q0 (fun hw => ?_) fun hw => ?_⟩
    ·refine ⟨y122, fun h => (h hz').elim, fun _ => ⟨fun h => (by cases h), fun _ => ⟨L, hL, .inr ⟨by omega, by rw [hLl]; exact hsn, by rw [hLl]; simpa using hw, rfl⟩⟩⟩⟩
    ·refine ⟨y122, fun h => (h hz').elim, fun _ => ⟨fun h => (by cases h), fun _ => ⟨L, hL, .inl ⟨.inr ⟨by omega, by rw [hLl]; exact hsn, by rw [hLl]; simpa using hw⟩, p32, c32, rows, by rw [hLl], by rw [hLl]; exact own122, rows122⟩⟩⟩⟩
   refine ⟨_, q102.row.c rfl, Q0 (fun hh => stop fun hg => ?_) fun hh => ⟨_, q102.row.c rfl, Q0 (fun he => stop fun hg => ?_) fun he => Q0 (fun hd => stop fun hg => ?_) fun hd => ?_⟩⟩
   ·have : ¬ 0 < c := by simpa using hh
    exact this hg.1
   ·rw [hwe] at he
    have : ¬ b.1 = base + (l32 : Int) + 1 := by simpa using he
    exact this hg.2.1
   ·obtain ⟨x, hx2⟩ := hg.2.2
    rcases hres with ⟨x', hx', _, _, _, hz1, _⟩ | ⟨hno, _⟩
    ·rw [hz1] at hd; simp at hd
    ·rw [hno] at hx2; cases hx2
   ·rw [hwe] at he
    have hc : 0 < c := by simpa using hh
    have hep : b.1 = base + (l32 : Int) + 1 := by simpa using he
    obtain ⟨x, hx2, rfl, rfl, rfl, _, ownx⟩ : ∃ x : Qp2, Qa4 b.2 = some x /\ kd1 = x.kind /\ sd1 = QF x.key /\ ld1 = x.len /\ z1 = 0 /\ Qc w110 w108.heap.size 3 1 pd1 nd1 cd1 (Qu2 x.st) := by
     rcases hres with hh | ⟨_, hz1⟩
     ·exact hh
     ·rw [hz1] at hd; simp at hd
    refine ⟨_, r122.row.row.cell (n := 0) rfl, _, r122.row.c rfl, _, r122.row.c rfl, _, _, _, r122.row.c rfl, fun k132 w133 hk132 => ?_⟩
    have q132 : RowW w133 k132 #[int i64 x.kind, .string (QF x.key), int i64 x.len, .slice pd1 nd1 cd1] := ⟨_, hk132.at⟩
    have c132 : Q8 w133 (some (at0 k132)) [int i64 x.kind, .string (QF x.key), int i64 x.len, .slice pd1 nd1 cd1] := fun j u hj => ⟨_, rfl, q132.row.cell (by simpa using hj)⟩
    have x133 : Ext w35 w133 := x122.trans hk132.ext
    have own133 := own.ext x133
    have hz133 := (x35.trans x133).size
    obtain ⟨p135, c135, w134, hr, own134, hu134, _⟩ := own133.append QEd 59 (q := some (at0 k132)) (m := 1) (d := 1) (news := [int i64 x.kind, .string (QF x.key), int i64 x.len, .slice pd1 nd1 cd1]) rfl c132 (fun h => by cases h) (by
     intro u hu
     simp only [List.mem_cons, List.not_mem_nil, or_false] at hu
     rcases hu with rfl | rfl | rfl | rfl <;> rfl) (by unfold maxLen; omega) (by omega) hz133
    have hst := Qn8 hx2
    have hnl := ownx.length
    rw [Qa2] at hnl
    have z108 := x108.size
    have rows134 : Qo0 w134 w.heap.size (rows ++ [int i64 x.kind, .string (QF x.key), int i64 x.len, .slice pd1 nd1 cd1]) (L ++ [x]) :=
     ((hrows.ext x133).snoc (o := x) (q := pd1) (n := nd1) (c := cd1) (((ownx.ext x110_122).ext hk132.ext).base_le (by omega)) (by omega)).keep own133 hu134
    have r10' : QD 23 w134 k10 (Qe1 g) := (r10.upd x133 id).upd hu134 fun hp => by
     obtain ⟨cur, hc⟩ := (QC own133 hp).2.2
     exact Qr0 (r10.upd x133 id) hc (by decide)
    have hwr : i64.wrap ((l32 : Int) + 1) = (l32 : Int) + 1 := w64 (by omega)
    refine ⟨_, _, _, _, hr, ⟨k10, l32 + 1, L ++ [x], _, rfl, rfl, by rw [hwr]; omega, by omega, by simp [hLl], rfl, rfl, hk, .inr rfl, Qb2 (x35.trans x133) own133 hu134, r10', fun j y hj => ?_, own134, rows134⟩, by rw [hwr]; show 100 - ((l32 : Int) + 1).toNat < 100 - (l32 : Int).toNat; omega⟩
    rw [List.getElem?_append] at hj
    split at hj
    ·exact hL j y hj
    ·have hj0 : j - L.length = 0 := by
      rcases hq : j - L.length with _ | q
      ·rfl
      ·rw [hq] at hj; simp at hj
     rw [hj0] at hj
     cases hj
     have : j = l32 := by omega
     subst this
     exact ⟨b, c, hbest, hc, hep, hx2⟩
 ·simp only [Zb] at hge
  have hdown : s.down = false := hdn.resolve_left (by omega)
  refine Q0 (fun h => by simp at h) fun _ => ⟨x35, fun h => (h hz').elim, fun _ => ⟨fun h => (by rw [hdown] at h; cases h), fun _ => ⟨L, hL, .inl ⟨.inl (by omega), p32, c32, rows, by rw [hLl], by rw [hLl]; exact own, hrows⟩⟩⟩⟩
theorem Qn4 {w : World} {a : Nat} {s : StA} {F : Nat -> Prop} (h : IsA w a s F) (ho : OkA s) (h1 : 1 <= s.M.length) (g : Geo) {p8 : σ} {l8 c8 : Nat} {ks : List Bool} (hks : QA w p8 l8 ks) (base : Int) :
  Calls prog 17 #[.pointer (some (at0 a)), gV g, .slice p8 l8 c8, int i64 base] w fun e w' => ∃ v, e = .returned v /\ QDa g s ks base w v w' := by
 refine F17_calls (some (at0 a)) g.k g.m g.size g.stripes g.slots g.objects p8 l8 c8 base w (QDa g s ks base w) (Q0g g s base w) Q1g ?_
 intro k10 w11 hk10
 have s10 := hk10.size
 have r10 : QD 23 w11 k10 (Qe1 g) := hk10.at
 refine ⟨_, r10.row.row.cell (n := 0) rfl, _, r10.row.c rfl, _, r10.row.c rfl, _, r10.row.c rfl, _, r10.row.c rfl, _, r10.row.c rfl, (Qe2 (some (at0 a)) g w11).mono ?_⟩
 rintro e w18 ⟨rfl, x18⟩
 have fin : ∀ (b : Bool), (if b = true then (0 : Int) else 1) = okB base -> Calls prog 47 #[.bool b, int i64 1] w18 fun e22 w21 => F17_A0 e22 w21 (QN (some (at0 a)) g) k10 (some (at0 a)) p8 l8 c8 base (QDa g s ks base w) (Q0g g s base w) Q1g := fun b hb => by
  refine (QE0 b 1 w18).mono ?_
  rintro e w21 ⟨rfl, rfl⟩
  rw [hb]
  exact Qmf h ho h1 g hks base (hk10.ext.trans x18) (r10.upd x18 id) (by omega)
 refine ⟨_, rfl, Q0 (fun h0 => fin _ ?_) fun h0 => fin _ ?_⟩
 ·simp only [Za] at h0
  unfold okB
  by_cases h2 : base <= 2147483547
  ·simp [h0, h2]
  ·simp [h2]
 ·simp only [Zb] at h0
  unfold okB
  simp [h0]
open Go Go.Vc
open Go.IntKind (i64)
open Go.Value (int)
open Go.Proofs.Tryz (prog)
def Qq0 : Geo := ⟨1, 1, 1, 2, 2, 2⟩
def mw0 : StA := Q2a 2 9
def mw1 : StA := (Qy0 [0, 1] mw0).1
def mw2 : StA := (Qy4 Qq0 0 0 [QR (Qd []) 0, QR (Qd []) 1] mw1).1
def QCb : ByteArray := ⟨#[97]⟩
def mw3 : StA := (QF3 Qq0 0 0 1 QCb 0 [] mw2).1
theorem mo1 : (Qy0 [0, 1] mw0).2 = 0 := by kernel_rfl
theorem mo2 : (Qy4 Qq0 0 0 [QR (Qd []) 0, QR (Qd []) 1] mw1).2 = 0 := by kernel_rfl
theorem mo3 : (QF3 Qq0 0 0 1 QCb 0 [] mw2).2 = 0 := by kernel_rfl
theorem mo4 : (QF3 Qq0 0 2 1 QCb 0 [] mw3).2 = 180 := by kernel_rfl
theorem mk1 : mw1.M.map QX1 = [true, true] := by kernel_rfl
theorem md1 : mw1.down = false := by kernel_rfl
theorem md2 : mw2.down = false := by kernel_rfl
theorem md3 : mw3.down = false := by kernel_rfl
theorem ml1 : mw1.M.length = 2 := by kernel_rfl
theorem ml2 : mw2.M.length = 2 := by kernel_rfl
theorem ml3 : mw3.M.length = 2 := by kernel_rfl
theorem mf1 : mw1.left = -1 := by kernel_rfl
theorem mf2 : mw2.left = -1 := by kernel_rfl
theorem mf3 : mw3.left = -1 := by kernel_rfl
theorem QYa {s : StA} (h1 : s.M.length = 2) (h2 : s.left = -1) (h3 : s.down = false) : OkA s := by
 obtain ⟨M, left, down⟩ := s
 simp only at h1 h2 h3
 subst h2
 subst h3
 exact ⟨by simp [h1], by simp, by simp⟩
theorem mc : Qo Qq0 = 0 := by kernel_rfl
theorem ms0 : Qe0 (Qn (Ql0 Qq0 0 0) mw2.M) = [(0, [0, 0]), (0, [0, 0])] := by kernel_rfl
theorem ms1 : Qe0 (Qn (Ql0 Qq0 0 1) mw2.M) = [(0, []), (0, [])] := by kernel_rfl
theorem ms2 : Qe0 (Qn (Ql0 Qq0 1 0) mw2.M) = [] := by kernel_rfl
theorem msn : Qh3 Qq0 1 mw2 [true, true] 2 = true := by kernel_rfl
theorem mr0 : Qe0 (Qn (Q70 Qq0 0) mw3.M) = [(1, Qg2 1 QCb 0 []), (1, Qg2 1 QCb 0 [])] := by kernel_rfl
theorem mr1 : Qe0 (Qn (Q70 Qq0 1) mw3.M) = [] := by kernel_rfl
theorem mr2 : (Qa4 (Qg2 1 QCb 0 [])).isSome = true := by kernel_rfl
theorem mrw : wit [true, true] (Qn (Q70 Qq0 1) mw3.M) = true := by kernel_rfl
theorem mrp : QO8 (some (at0 0)) Qq0 0 = 0 := by kernel_rfl
theorem msp : Qx5 (some (at0 0)) Qq0 0 0 0 = 0 := by kernel_rfl
theorem Qr6 (b : Say) : QM4 [b, b] b 2 := .inr ⟨by simp, by simp, fun y hy => by
 have : y = b := by simpa using hy
 subst this
 simp only [List.count_cons_self, List.count_nil]
 exact QV4 _ _⟩
theorem Qc7 : QM4 ([] : List Say) (0, []) 0 := .inl ⟨rfl, rfl, rfl⟩
theorem QIb : Qu0 [] := ⟨fun j hj => by simp at hj, by simp [Qb1], by simp⟩
theorem Quf : unD [[0, 0], []] = some [] := by
 have h1 : Q27 [[0, 0], []] 2 = false := by kernel_rfl
 have h2 : QQ0 (nvL (([[0, 0], []] : List (τ)).flatten.take 2)) (([[0, 0], []] : List (τ)).flatten.drop 2) = some ([], []) := by kernel_rfl
 unfold unD
 rw [h1, if_neg (by simp), if_neg (by simp), h2]
 exact Qwc QIb
theorem Qqc : svM Qq0 0 0 [] mw1 = (mw2, 0) := by
 unfold svM
 rw [QE8 QIb, if_pos msp]
 exact Prod.ext rfl mo2
theorem QJf {r : ARd} (h : Qr2 Qq0 mw2 [true, true] 0 r) : r.epoch = 0 /\ r.os = [] /\ r.whole = true := by
 obtain ⟨v0, v1, hr, rfl⟩ := h
 have b0 := hr 0 v0 rfl
 have b1 := hr 1 v1 rfl
 have e0 : Qe0 (Qn (Ql0 Qq0 0 ((0 : Nat) : Int)) mw2.M) = [(0, [0, 0]), (0, [0, 0])] := ms0
 have e1 : Qe0 (Qn (Ql0 Qq0 0 ((1 : Nat) : Int)) mw2.M) = [(0, []), (0, [])] := ms1
 rw [e0] at b0
 rw [e1] at b1
 obtain ⟨h0, h0'⟩ := b0.unique (Qr6 _)
 obtain ⟨h1, h1'⟩ := b1.unique (Qr6 _)
 obtain ⟨v0a, v0b⟩ := v0
 obtain ⟨v1a, v1b⟩ := v1
 simp only at h0 h0' h1 h1'
 subst h0
 subst h0'
 subst h1
 subst h1'
 rw [Quf]
 exact ⟨rfl, rfl, rfl⟩
theorem QKf {r : ARd} (h : Qr2 Qq0 mw2 [true, true] 1 r) : r.whole = false /\ r.seen = true := by
 obtain ⟨v0, v1, hr, rfl⟩ := h
 have b0 := hr 0 v0 rfl
 have e0 : Qe0 (Qn (Ql0 Qq0 1 ((0 : Nat) : Int)) mw2.M) = [] := ms2
 rw [e0] at b0
 obtain ⟨h0, h0'⟩ := b0.unique Qc7
 refine ⟨?_, msn⟩
 simp only [QJ1, List.all_cons, h0']
 simp
theorem QFb {A : Nat -> ARd} (h : ∀ j : Nat, j < 2 -> Qr2 Qq0 mw2 [true, true] (j : Int) (A j)) : (Q80 A 2).found = true /\ (Q80 A 2).sure = true /\ (Q80 A 2).epoch = 0 := by
 obtain ⟨h1, h2, h3⟩ := QJf (h 0 (by omega))
 obtain ⟨h4, h5⟩ := QKf (h 1 (by omega))
 have e1 : Q80 A 1 = ⟨true, true && ((A 0).whole || (A 0).seen), 0, (A 0).epoch, (A 0).os⟩ := by
  rw [Q80, Q80, h3]
  rfl
 rw [Q80, e1, h4, h5, h3, h1]
 exact ⟨rfl, rfl, rfl⟩
open Go Go.Vc
open Go.IntKind (i64)
open Go.Value (int)
open Go.Proofs.Tryz (prog)
theorem QF2 (w : World) : Calls prog 14 #[] w fun e w' => e = .returned (gV Qq0) /\ Ext w w' := by
 refine (F14_calls w (fun v w' => v = gV Qq0 /\ Ext w w') ?_).mono (by rintro e w' ⟨v, rfl, rfl, h⟩; exact ⟨rfl, h⟩)
 intro k1 w2 hk
 have s1 := hk.size
 have r2 : QD 23 w2 k1 #[int i64 0, int i64 0, int i64 0, int i64 0, int i64 0, int i64 0] := hk.at
 refine ⟨r2.row.live (n := 0) (by simp), fun w3 s3 => ?_⟩
 have s3' : QT w2 ((at0 k1).add 0) (int i64 1) w3 := s3
 have r3 := r2.set s3'
 refine ⟨r3.row.live (by simp), fun w4 s4 => ?_⟩
 have r4 := r3.set s4
 refine ⟨r4.row.live (by simp), fun w5 s5 => ?_⟩
 have r5 := r4.set s5
 refine ⟨r5.row.live (by simp), fun w6 s6 => ?_⟩
 have r6 := r5.set s6
 refine ⟨r6.row.live (by simp), fun w7 s7 => ?_⟩
 have r7 := r6.set s7
 refine ⟨r7.row.live (by simp), fun w8 s8 => ?_⟩
 have r8 := r7.set s8
 have x2 : Ext w w2 := hk.ext
 have x8 : Ext w w8 := Q7 (Q7 (Q7 (Q7 (Q7 (Q7 x2 (Qw0 s3') (by omega)) (Qw0 s4) (by omega)) (Qw0 s5) (by omega)) (Qw0 s6) (by omega)) (Qw0 s7) (by omega)) (Qw0 s8) (by omega)
 exact ⟨_, r8.row.row.cell (n := 0) rfl, _, r8.row.c rfl, _, r8.row.c rfl, _, r8.row.c rfl, _, r8.row.c rfl, _, r8.row.c rfl, rfl, x8⟩
theorem Qc8 (w : World) : Calls prog 4 #[] w fun e w' => e = .returned (.bool true) /\ Ext w w' := by
 refine (F4_calls w (fun v w' => v = .bool true /\ Ext w w') ?_).mono (by rintro e w' ⟨v, rfl, rfl, h⟩; exact ⟨rfl, h⟩)
 refine (Q77 (n := 2) (s := 9) ⟨by omega, by omega⟩ ⟨by omega, by omega⟩ w).mono ?_
 rintro e w1 ⟨a, F, rfl, x1, h1, hF⟩
 have hF1 := Qb.lt h1
 refine ⟨_, _, rfl, QA0 rfl fun k5 w6 hk5 => ?_⟩
 have s5 := hk5.size
 refine QO1 (e := 38) (v0 := int i64 1) (v1 := .string QCb) (v2 := int i64 0) (v3 := .slice none 0 0) hk5.at fun w10 u10 r10 => fun k11 w12 hk11 => ?_
 have s11 := hk11.size
 have z10 := u10.size
 have x1_10 : Ext w1 w10 := Q7 hk5.ext u10 (by omega)
 have x1_12 : Ext w1 w12 := x1_10.trans hk11.ext
 have x12 : Ext w w12 := x1.trans x1_12
 have h12 : IsA w12 a mw0 F := Qb.ext (show Qb w1 a mw0.M mw0.left mw0.down F from h1) x1_12
 have k5F : ¬ F k5 := fun hf => by have := hF1 _ hf; omega
 have k11F : ¬ F k11 := fun hf => by have := hF1 _ hf; omega
 have q12 : QD 38 w12 k5 _ := r10.upd hk11.ext id
 have row11 : RowW w12 k11 #[int i64 0, int i64 1] := ⟨_, hk11.at⟩
 have ok0 : OkA mw0 := Q7b (by omega)
 have ok1 : OkA mw1 := QYa ml1 mf1 md1
 have ok2 : OkA mw2 := QYa ml2 mf2 md2
 have ok3 : OkA mw3 := QYa ml3 mf3 md3
 refine (Qb5 h12 ok0 (L := [0, 1]) (fun F' w' hs => Qk1 (L := [0, 1]) (w' := w') (hs.upd.rowW row11 k11F) rfl) (by simp)).mono ?_
 rintro e w13 ⟨F13, rfl, st13, h13⟩
 obtain ⟨x13, hF13⟩ := Qx0 x12 st13 hF
 have h13 : IsA w13 a mw1 F13 := h13
 have k5F13 : ¬ F13 k5 := st13.apart q12.row.lt k5F
 have q13 : QD 38 w13 k5 _ := q12.upd st13.upd k5F
 refine ⟨_, rfl, (Qa5 h13 ok1 (by rw [ml1]; omega)).mono ?_⟩
 rintro e w16 ⟨x16, _, hkn⟩
 obtain ⟨p18, c18, rfl, ownk⟩ := hkn md1
 have lt13 := Qb.lt (show Qb w13 a mw1.M mw1.left mw1.down F13 from h13)
 obtain ⟨gk, hgk⟩ : ∃ gk, p18 = some (at0 gk) := by
  rcases ownk.where_ with ⟨_, h0, _⟩ | ⟨g, h0, _⟩
  ·rw [ml1] at h0; cases h0
  ·exact ⟨g, h0⟩
 obtain ⟨gkge, gklt, _⟩ := QC ownk hgk
 have kn16 : QA w16 p18 mw1.M.length [true, true] := ⟨by rw [ml1]; rfl, by have := ownk.cells; rw [mk1] at this; exact this⟩
 refine ⟨_, _, _, _, rfl, (QF2 w16).mono ?_⟩
 rintro e w20 ⟨rfl, x20⟩
 have h20 : IsA w20 a mw1 F13 := Qb.ext (show Qb w13 a mw1.M mw1.left mw1.down F13 from h13) (x16.trans x20)
 refine ⟨_, _, _, _, _, _, rfl, (Q06 h20 ok1 Qq0 0 0 (c10 := 0) (Q57.nil w20 none) (by omega)).mono ?_⟩
 rw [Qqc]
 rintro e w28 ⟨F28, rfl, st28, h28⟩
 obtain ⟨x28, hF28⟩ := Qx0 (x13.trans (x16.trans x20)) st28 hF13
 have gkF : ¬ F13 gk := fun hf => by have := lt13 _ hf; omega
 have gkF28 : ¬ F28 gk := st28.apart (Zo gklt x20.size) gkF
 have q20 : QD 38 w20 k5 _ := q13.upd (x16.trans x20) id
 have k5F28 : ¬ F28 k5 := st28.apart q20.row.lt k5F13
 have q28 : QD 38 w28 k5 _ := q20.upd st28.upd k5F13
 have kn20 := kn16.ext x20
 have kn28 : QA w28 p18 mw1.M.length [true, true] := ⟨kn20.1, kn20.2.upd st28.upd fun a' ha' _ => by rw [hgk] at ha'; cases ha'; exact gkF⟩
 refine ⟨_, rfl, (QF2 w28).mono ?_⟩
 rintro e w31 ⟨rfl, x31⟩
 have h31 : IsA w31 a mw2 F28 := Qb.ext (show Qb w28 a mw2.M mw2.left mw2.down F28 from h28) x31
 refine ⟨_, _, _, _, _, _, rfl, (Qm4 h31 ok2 (by rw [ml2]; omega) Qq0 (kn28.ext x31)).mono ?_⟩
 rintro e w39 ⟨v, rfl, x39, _, hlat⟩
 obtain ⟨A, hA, _, hyes⟩ := (hlat mc).2 md2
 obtain ⟨hf, hsu, hep⟩ := QFb hA
 obtain ⟨p43, c43, rows43, rfl, _, _⟩ := hyes (by rw [hf, hsu]; rfl)
 rw [hep]
 refine ⟨_, _, _, _, _, _, rfl, fun k45 w46 hk45 => ?_⟩
 have s45 := hk45.size
 refine Qa1 (e := 41) (v0 := int i64 (Q80 A 2).area) (v1 := int i64 0) (v2 := .slice p43 (Q80 A 2).os.length c43) hk45.at fun w49 u49 r49 => fun w50 d50 => ?_
 have x39_49 : Ext w39 w49 := Q7 hk45.ext u49 (by omega)
 have x28_50 : Ext w28 w50 := ((x31.trans x39).trans x39_49).trans d50.ext
 have q50 : QD 38 w50 k5 _ := q28.upd x28_50 id
 have t50 : QD 41 w50 k45 _ := r49.upd d50.ext id
 have lt28 := Qb.lt (show Qb w28 a mw2.M mw2.left mw2.down F28 from h28)
 have z28_39 := (x31.trans x39).size
 have k45F : ¬ F28 k45 := fun hf => by have := lt28 _ hf; omega
 refine ⟨_, q50.row.row.cell (n := 0) rfl, _, q50.row.c rfl, _, q50.row.c rfl, _, _, _, q50.row.c rfl, (QF2 w50).mono ?_⟩
 rintro e w55 ⟨rfl, x55⟩
 have q55 : QD 38 w55 k5 _ := q50.upd x55 id
 have t55 : QD 41 w55 k45 _ := t50.upd x55 id
 have h55 : IsA w55 a mw2 F28 := Qb.ext (show Qb w28 a mw2.M mw2.left mw2.down F28 from h28) (x28_50.trans x55)
 have inil : ∀ wx : World, Ql wx none 0 [] := fun wx => ⟨rfl, Q8.nil _ _⟩
 refine ⟨_, _, _, _, _, _, rfl, ⟨_, q55.row.row.cell (n := 0) rfl, _, q55.row.c rfl, _, q55.row.c rfl, _, _, _, q55.row.c rfl, rfl⟩, (QB2 h55 ok2 Qq0 0 0 1 QCb 0 (c13 := 0) (inil w55) (by omega)).mono ?_⟩
 rintro e w67 ⟨F67, rfl, st67, h67⟩
 have h67 : IsA w67 a mw3 F67 := h67
 obtain ⟨x67, hF67⟩ := Qx0 ((x28.trans x28_50).trans x55) st67 hF28
 have q67 : QD 38 w67 k5 _ := q55.upd st67.upd k5F28
 have t67 : QD 41 w67 k45 _ := t55.upd st67.upd k45F
 have k5F67 : ¬ F67 k5 := st67.apart q55.row.lt k5F28
 have k45F67 : ¬ F67 k45 := st67.apart t55.row.lt k45F
 have kn55 := (kn28.ext x28_50).ext x55
 have kn67 : QA w67 p18 mw1.M.length [true, true] := ⟨kn55.1, kn55.2.upd st67.upd fun a' ha' _ => by rw [hgk] at ha'; cases ha'; exact gkF28⟩
 refine ⟨_, rfl, (QF2 w67).mono ?_⟩
 rintro e w70 ⟨rfl, x70⟩
 have h70 : IsA w70 a mw3 F67 := Qb.ext (show Qb w67 a mw3.M mw3.left mw3.down F67 from h67) x70
 refine ⟨_, _, _, _, _, _, rfl, (Qn4 h70 ok3 (by rw [ml3]; omega) Qq0 (kn67.ext x70) 0).mono ?_⟩
 rintro e w78 ⟨v, rfl, x78, _, hrep⟩
 obtain ⟨L, hL, hres⟩ := (hrep mrp).2 md3
 have hslot1 : ∀ x, ¬ QT2 Qq0 mw3 0 1 x := fun x hx => by
  obtain ⟨b, c, hb, hc, _⟩ := hx
  have e1 : Qe0 (Qn (Q70 Qq0 ((1 : Nat) : Int)) mw3.M) = [] := mr1
  rw [e1] at hb
  have := (hb.unique Qc7).2
  omega
 have hslot0 : ¬ Qj2 Qq0 mw3 0 0 := fun hx => by
  obtain ⟨b, c, hb, hno⟩ := hx
  have e0 : Qe0 (Qn (Q70 Qq0 ((0 : Nat) : Int)) mw3.M) = [(1, Qg2 1 QCb 0 []), (1, Qg2 1 QCb 0 [])] := mr0
  rw [e0] at hb
  obtain ⟨rfl, rfl⟩ := hb.unique (Qr6 _)
  exact hno ⟨by omega, by rfl, Option.isSome_iff_exists.1 mr2⟩
 have hlen2 : L.length < 2 := by
  rcases Nat.lt_or_ge L.length 2 with h | h
  ·exact h
  ·exfalso
   have h1 : L[1]? = some L[1] := Zc (by omega)
   exact hslot1 _ (hL 1 _ h1)
 have htg : Qq0.slots = 2 := rfl
 have hlen : L.length = 1 := by
  rcases Nat.eq_zero_or_pos L.length with h0 | h0
  ·exfalso
   rcases hres with ⟨h | ⟨_, h, _⟩, _⟩ | ⟨_, h, _⟩
   ·rw [htg] at h; omega
   ·rw [h0] at h; exact hslot0 h
   ·rw [h0] at h; exact hslot0 h
  ·omega
 obtain ⟨p80, c80, rfl⟩ : ∃ p c, v = .tuple #[.slice p 1 c, int i64 0] := by
  rcases hres with ⟨_, p, c, rows, hv, _⟩ | ⟨_, _, hw, _⟩
  ·rw [hlen] at hv; exact ⟨p, c, hv⟩
  ·rw [hlen] at hw
   have : wit [true, true] (Qn (Q70 Qq0 ((1 : Nat) : Int)) mw3.M) = true := mrw
   rw [this] at hw; cases hw
 refine ⟨_, _, _, _, rfl, fun w82 d82 => ?_⟩
 have x67_82 : Ext w67 w82 := (x70.trans x78).trans d82.ext
 have q82 : QD 38 w82 k5 _ := q67.upd x67_82 id
 refine ⟨_, q82.row.row.cell (n := 0) rfl, _, q82.row.c rfl, _, q82.row.c rfl, _, _, _, q82.row.c rfl, (QF2 w82).mono ?_⟩
 rintro e w87 ⟨rfl, x87⟩
 have q87 : QD 38 w87 k5 _ := q82.upd x87 id
 have t87 : QD 41 w87 k45 _ := (t67.upd x67_82 id).upd x87 id
 have h87 : IsA w87 a mw3 F67 := Qb.ext (show Qb w67 a mw3.M mw3.left mw3.down F67 from h67) (x67_82.trans x87)
 refine ⟨_, _, _, _, _, _, rfl, ⟨_, q87.row.row.cell (n := 0) rfl, _, q87.row.c rfl, _, q87.row.c rfl, _, _, _, q87.row.c rfl, rfl⟩, (QB2 h87 ok3 Qq0 0 2 1 QCb 0 (c13 := 0) (inil w87) (by omega)).mono ?_⟩
 rintro e w99 ⟨F99, rfl, st99, h99⟩
 obtain ⟨x99, _⟩ := Qx0 ((x67.trans x67_82).trans x87) st99 hF67
 have t99 : QD 41 w99 k45 _ := t87.upd st99.upd k45F67
 rw [mo1, mo3, mo4, ml1]
 exact ⟨_, rfl, Q40 rfl (Q40 rfl (Q40 rfl (Q40 rfl ⟨_, t99.row.c rfl, Q40 rfl (Q40 rfl (Q40 rfl (Q40 rfl (Q40 rfl ⟨rfl, x99⟩))))⟩)))⟩
open Go Go.Vc
open Go.IntKind (i64)
open Go.Value (int)
open Go.Proofs.Tryz (prog)
open Go Go.Vc Go.ChangeShapes Go.WideShapes Go.ChangeAt
open Go.IntKind (i64)
open Go.Value (int)
open Go.Proofs.Tryz (prog)
section
variable {H : Type} {enc : TypeId × Value -> H} {w : World} {base : Nat} {sp : Nat -> Bool} {held : Bool}
theorem Qhf {α : Type} (l : List α) (h : l.length = 6) : ∃ y0 y1 y2 y3 y4 y5, l = [y0, y1, y2, y3, y4, y5] := by
 match l, h with
 | [y0, y1, y2, y3, y4, y5], _ => exact ⟨y0, y1, y2, y3, y4, y5, rfl⟩
theorem QW : Tryz.prog.cellsOf 3 = 1 := by kernel_rfl
theorem QX3 : Tryz.prog.cellsOf 35 = 1 := by kernel_rfl
theorem Qs7 : Tryz.prog.cellsOf 9 = 1 := by kernel_rfl
theorem QJb : Tryz.prog.cellsOf 23 = 6 := by kernel_rfl
theorem QLb : Tryz.prog.cellsOf 38 = 4 := by kernel_rfl
theorem Qw4 {P : Program} {n' : Nat} {xs : List (DataW H × List MemPlace)} {m j off : Nat} {ys : List Value} {t : TypeId} {sz : Nat} (hxl : xs.length = m) (hj : j < m) (hf : DataW.trod enc P w base sp held n' t ((ys.drop off).take (P.cellsOf t)) = xs[j]?) (hc : P.cellsOf t = sz) :
  ∃ x, DataW.trod enc P w base sp held n' t ((ys.drop off).take sz) = some x := by
 rw [hc] at hf
 exact ⟨xs[j]'(by omega), by rw [hf, Zc]⟩
theorem Q7d {v : Value} {d : DataW H} {ps : List MemPlace} (hs : ∃ cs, v = .agg cs /\ cs.size = Tryz.prog.cellsOf 23) (h : DataW.Trod enc prog w base sp held 23 v d ps) : ∃ g : Geo, v = gV g := by
 obtain ⟨cs, rfl, hc⟩ := hs
 obtain ⟨fuel, h⟩ := h
 rw [QJb] at hc
 obtain ⟨xs, n', _, _, _, hxl, hf⟩ := DataW.trod_struct Tryz.underlying23 h
 obtain ⟨y0, y1, y2, y3, y4, y5, hy⟩ := Qhf cs.toList (by simpa using hc)
 have hcells : (Value.agg cs).cells.toList = [y0, y1, y2, y3, y4, y5] := hy
 rw [hcells] at hf
 have hxl' : xs.length = 6 := hxl
 obtain ⟨x0, f0⟩ := Qw4 hxl' (by omega) (hf 0 _ rfl) QW
 obtain ⟨x1, f1⟩ := Qw4 hxl' (by omega) (hf 1 _ rfl) QW
 obtain ⟨x2, f2⟩ := Qw4 hxl' (by omega) (hf 2 _ rfl) QW
 obtain ⟨x3, f3⟩ := Qw4 hxl' (by omega) (hf 3 _ rfl) QW
 obtain ⟨x4, f4⟩ := Qw4 hxl' (by omega) (hf 4 _ rfl) QW
 obtain ⟨x5, f5⟩ := Qw4 hxl' (by omega) (hf 5 _ rfl) QW
 obtain ⟨n0, q0, g0⟩ := QG0 Tryz.underlying3 f0
 obtain ⟨n1, q1, g1⟩ := QG0 Tryz.underlying3 f1
 obtain ⟨n2, q2, g2⟩ := QG0 Tryz.underlying3 f2
 obtain ⟨n3, q3, g3⟩ := QG0 Tryz.underlying3 f3
 obtain ⟨n4, q4, g4⟩ := QG0 Tryz.underlying3 f4
 obtain ⟨n5, q5, g5⟩ := QG0 Tryz.underlying3 f5
 cases q0; cases q1; cases q2; cases q3; cases q4; cases q5
 exact ⟨⟨n0, n1, n2, n3, n4, n5⟩, congrArg Value.agg (Array.toList_inj.1 hy)⟩
theorem QKd {α : Type} (l : List α) (h : l.length = 4) : ∃ y0 y1 y2 y3, l = [y0, y1, y2, y3] := by
 match l, h with
 | [y0, y1, y2, y3], _ => exact ⟨y0, y1, y2, y3, rfl⟩
end
open Go Go.Vc
open Go.IntKind (i64)
open Go.Value (int)
open Go.Proofs.Tryz (prog)
open Go Go.Vc
open Go.IntKind (i64)
open Go.Value (int)
open Go.Proofs.Tryz (prog)
theorem QI6 : ∀ (l : τ) (a : Nat), l.foldl (fun a x => a * 256 + x.toNat) a = a * 256 ^ l.length + nvL l
 | [], a => by simp [nvL]
 | x :: l, a => by
  have h1 := QI6 l (a * 256 + x.toNat)
  have h2 := QI6 l x.toNat
  rw [List.foldl_cons, h1]
  have : nvL (x :: l) = x.toNat * 256 ^ l.length + nvL l := by
   unfold nvL
   rw [List.foldl_cons, Nat.zero_mul, Nat.zero_add]
   exact h2
  rw [this, List.length_cons, Nat.pow_succ, Nat.mul_comm (256 ^ l.length) 256, ← Nat.mul_assoc, Nat.add_mul]
  omega
theorem QC9 (x : UInt8) (l : τ) : nvL (x :: l) = x.toNat * 256 ^ l.length + nvL l := by
 have h2 := QI6 l x.toNat
 unfold nvL
 rw [List.foldl_cons, Nat.zero_mul, Nat.zero_add]
 exact h2
theorem QJ6 (x : UInt8) : nvL [x] = x.toNat := by simp [nvL]
theorem Qqd {a b : UInt8} {K L4 C2 R : τ} (hK : K.length = b.toNat) (h4 : L4.length = 4) (h2 : C2.length = 2) : QJ4 (a :: b :: (K ++ (L4 ++ (C2 ++ R)))) = Q9c (nvL [a]) K (nvL L4) (stD (nvL C2) R) := by
 have d1 : (a :: b :: (K ++ (L4 ++ (C2 ++ R)))).drop 1 = b :: (K ++ (L4 ++ (C2 ++ R))) := rfl
 have d2 : (b :: (K ++ (L4 ++ (C2 ++ R)))).drop 1 = K ++ (L4 ++ (C2 ++ R)) := rfl
 have t1 : (a :: b :: (K ++ (L4 ++ (C2 ++ R)))).take 1 = [a] := rfl
 have t2 : (b :: (K ++ (L4 ++ (C2 ++ R)))).take 1 = [b] := rfl
 have d3 : (K ++ (L4 ++ (C2 ++ R))).drop b.toNat = L4 ++ (C2 ++ R) := List.drop_left' hK
 have t3 : (K ++ (L4 ++ (C2 ++ R))).take b.toNat = K := List.take_left' hK
 have d4 : (L4 ++ (C2 ++ R)).drop 4 = C2 ++ R := List.drop_left' h4
 have t4 : (L4 ++ (C2 ++ R)).take 4 = L4 := List.take_left' h4
 have d5 : (C2 ++ R).drop 2 = R := List.drop_left' h2
 have t5 : (C2 ++ R).take 2 = C2 := List.take_left' h2
 unfold QJ4
 rw [d1, d2, t1, t2, QJ6 b, d3, t3, d4, t4, d5, t5]
 rw [if_neg (by simp), if_neg (by simp), if_neg (by simp [hK]), if_neg (by simp [h4]), if_neg (by simp [h2])]
theorem Qu0.all {L : List ObV} (h : Qu0 L) : ∀ o ∈ L, Qc0 1 o.key o.len o.st /\ 0 <= o.epoch /\ o.epoch <= 2147483647 := by
 intro o ho
 obtain ⟨i, hi, rfl⟩ := List.getElem_of_mem ho
 obtain ⟨h1, h2, _⟩ := h.1 i hi _ (Zc hi)
 exact ⟨h1, h2⟩
theorem Qjc {L : List ObV} (h : Qu0 L) : (Qd L).length <= 5378 := by
 have := Qc2 h (i := L.length) (Nat.le_refl _)
 rw [List.take_length] at this
 unfold Qd
 rw [List.length_append, Q41]
 omega
open Go Go.Vc
open Go.IntKind (i64)
open Go.Value (int)
open Go.Proofs.Tryz (prog)
open Go Go.Vc
open Go.IntKind (i64)
open Go.Value (int)
open Go.Proofs.Tryz (prog)
def Has (s : StA) (addr : Int) (b : Say) : Prop := ∃ c, 0 < c /\ QM4 (Qe0 (Qn addr s.M)) b c
section
variable {keep : Int} {N : Int} {n : Nat} {V : Int -> τ} {s : StA}
end
section
variable {N : Int} {n : Nat} {V V' : Int -> τ} {s : StA}
end
def Whole (g : Geo) (s : StA) (a : Int) (E : Int) (L : List ObV) : Prop := Qu0 L /\ Has s (Ql0 g a 0) (E, QR (Qd L) 0) /\ Has s (Ql0 g a 1) (E, QR (Qd L) 1)
structure QKc where
 kind : Int
 key : ByteArray
 len : Int
 st : List Int
open Go Go.Vc
open Go.IntKind (i64)
open Go.Value (int)
open Go.Proofs.Tryz (prog)
def QSd (g : Geo) : Prop := QS g -> g.k + g.m <= 7 /\ g.size <= 8 /\ g.stripes <= 20
theorem Q69 (g : Geo) (w : World) : Calls prog 5 #[gV g] w fun e w' => ∃ b, e = .returned (.bool b) /\ (b = true ↔ QSd g) /\ Ext w w' := by
 refine (F5_calls g.k g.m g.size g.stripes g.slots g.objects w (fun v w' => ∃ b, v = .bool b /\ (b = true ↔ QSd g) /\ Ext w w') ?_).mono (by rintro e w' ⟨v, rfl, b, rfl, h⟩; exact ⟨b, rfl, h⟩)
 intro k7 w8 hk7
 have r7 : RowW w8 k7 (Qe1 g) := ⟨_, hk7.at⟩
 refine ⟨_, r7.row.cell (n := 0) rfl, _, r7.c rfl, _, r7.c rfl, _, r7.c rfl, _, r7.c rfl, _, r7.c rfl, (QM3 g w8).mono ?_⟩
 rintro e w15 ⟨rfl, x15⟩
 have y15 := hk7.ext.trans x15
 have q7 : RowW w15 k7 (Qe1 g) := x15.rowW r7 id
 refine ⟨_, rfl, Q0 (fun h => ?_) fun h => ?_⟩
 ·simp only [Zg, Zb] at h
  refine ⟨true, rfl, ⟨fun _ hg => absurd (show Qo g = 0 by unfold Qo; rw [if_pos hg]) h, fun _ => rfl⟩, y15⟩
 ·simp only [Zf, Za] at h
  have hg : QS g := by
   by_cases hg : QS g
   ·exact hg
   ·unfold Qo at h; rw [if_neg hg] at h; cases h
  have hg' := hg
  obtain ⟨⟨g1, g2, g3⟩, _⟩ := hg'
  refine ⟨_, q7.row.cell (n := 0) rfl, _, q7.c rfl, ?_⟩
  try dsimp only
  rw [w64 (n := g.k + g.m) (by omega)]
  refine Q0 (fun h1 => ⟨_, q7.c rfl, Q0 (fun h2 => ⟨_, q7.c rfl, _, rfl, ?_, y15⟩) fun h2 => ⟨false, rfl, ?_, y15⟩⟩) fun h1 => ⟨false, rfl, ?_, y15⟩
  ·simp only [Za] at h1 h2 ⊢
   exact ⟨fun h3 _ => ⟨h1, h2, h3⟩, fun h => (h hg).2.2⟩
  ·simp only [Zb] at h2
   exact ⟨fun h => (by cases h), fun h => absurd (h hg).2.1 h2⟩
  ·simp only [Zb] at h1
   exact ⟨fun h => (by cases h), fun h => absurd (h hg).1 h1⟩
def Qj3 (w : World) (p : σ) (l : Nat) (R : List QKc) : Prop := l = R.length /\ ∀ i r, R[i]? = some r -> ∃ a q n c, p = some a /\ w.cell? (a.add (i * 4)) = some (int i64 r.kind) /\ w.cell? ((a.add (i * 4)).add 1) = some (.string r.key) ∧
 w.cell? ((a.add (i * 4)).add 2) = some (int i64 r.len) /\ w.cell? ((a.add (i * 4)).add 3) = some (.slice q n c) /\ Ql w q n r.st /\ n <= 9223372036854775807
theorem Qj3.ext {w w' : World} {p : σ} {l : Nat} {R : List QKc} (h : Qj3 w p l R) (hx : Ext w w') : Qj3 w' p l R := by
 refine ⟨h.1, fun i r hi => ?_⟩
 obtain ⟨a, q, n, c, h1, h2, h3, h4, h5, h6, h7⟩ := h.2 i r hi
 exact ⟨a, q, n, c, h1, Qm0 h2 hx, Qm0 h3 hx, Qm0 h4 hx, Qm0 h5 hx, h6.ext hx, h7⟩
def Q38 (w : World) (p : σ) (l : Nat) (L : List ObV) : Prop := l = L.length /\ ∀ i o, L[i]? = some o -> ∃ a q n c, p = some a /\ w.cell? (a.add (i * 4)) = some (.string o.key) /\ w.cell? ((a.add (i * 4)).add 1) = some (int i64 o.len) ∧
 w.cell? ((a.add (i * 4)).add 2) = some (int i64 o.epoch) /\ w.cell? ((a.add (i * 4)).add 3) = some (.slice q n c) /\ Ql w q n o.st
theorem Q38.ext {w w' : World} {p : σ} {l : Nat} {L : List ObV} (h : Q38 w p l L) (hx : Ext w w') : Q38 w' p l L := by
 refine ⟨h.1, fun i o hi => ?_⟩
 obtain ⟨a, q, n, c, h1, h2, h3, h4, h5, h6⟩ := h.2 i o hi
 exact ⟨a, q, n, c, h1, Qm0 h2 hx, Qm0 h3 hx, Qm0 h4 hx, Qm0 h5 hx, h6.ext hx⟩
theorem Q57.w {w : World} {p : σ} {l : Nat} {L : List ObV} (h : Q57 w p l L) : Q38 w p l L := ⟨h.1, fun i o hi => by
 obtain ⟨a, q, n, c, h1, h2, h3, h4, h5, h6, _⟩ := h.2 i o hi
 exact ⟨a, q, n, c, h1, h2, h3, h4, h5, h6⟩⟩
theorem Q38.v {w : World} {p : σ} {l : Nat} {L : List ObV} (h : Q38 w p l L) (hs : ∀ o ∈ L, o.st.length <= 20) : Q57 w p l L := ⟨h.1, fun i o hi => by
 obtain ⟨a, q, n, c, h1, h2, h3, h4, h5, h6⟩ := h.2 i o hi
 exact ⟨a, q, n, c, h1, h2, h3, h4, h5, h6, by have := hs o (Zs hi); have := h6.1; omega⟩⟩
theorem Qh2 (key : ByteArray) (len epoch : Int) (p : σ) (l c : Nat) (w : World) : Calls prog 73 #[.agg #[.string key, int i64 len, int i64 epoch, .slice p l c]] w fun e w' => e = .returned (.agg #[int i64 1, .string key, int i64 len, .slice p l c]) /\ Ext w w' := by
 refine (F73_calls key len epoch p l c w (fun v w' => v = .agg #[int i64 1, .string key, int i64 len, .slice p l c] /\ Ext w w') ?_).mono (by rintro e w' ⟨v, rfl, rfl, h⟩; exact ⟨rfl, h⟩)
 intro k5 w6 hk5 k7 w8 hk7
 have r5 : RowW w8 k5 _ := hk7.ext.rowW ⟨_, hk5.at⟩ id
 have s5 := hk5.size
 have s7 := hk7.size
 refine ⟨_, r5.c rfl, _, r5.c rfl, _, _, _, r5.c rfl, ?_⟩
 refine QO1 (e := 38) (v0 := int i64 1) (v1 := .string key) (v2 := int i64 len) (v3 := .slice p l c) hk7.at fun w15 u15 n15 => ?_
 exact ⟨_, n15.row.row.cell (n := 0) rfl, _, n15.row.c rfl, _, n15.row.c rfl, _, _, _, n15.row.c rfl, rfl, Q7 (hk5.ext.trans hk7.ext) u15 (by omega)⟩
theorem Qo4 {w : World} (n1 : Int) (s2 : ByteArray) (n3 : Int) {p4 : σ} {l4 c4 : Nat} {A : List Int} (n5 : Int) (s6 : ByteArray) (n7 : Int) {p8 : σ} {l8 c8 : Nat} {B : List Int} (h1 : Ql w p4 l4 A) (h2 : Ql w p8 l8 B) (hl : l4 <= 1000) :
  Calls prog 69 #[.agg #[int i64 n1, .string s2, int i64 n3, .slice p4 l4 c4], .agg #[int i64 n5, .string s6, int i64 n7, .slice p8 l8 c8]] w fun e w' => ∃ b, e = .returned (.bool b) /\ (b = true ↔ n1 = n5 /\ s2 = s6 /\ n3 = n7 /\ A = B) /\ Ext w w' := by
 refine (F69_calls n1 s2 n3 p4 l4 c4 n5 s6 n7 p8 l8 c8 w (fun v w' => ∃ b, v = .bool b /\ (b = true ↔ n1 = n5 /\ s2 = s6 /\ n3 = n7 /\ A = B) /\ Ext w w') ?_).mono (by rintro e w' ⟨v, rfl, b, rfl, h⟩; exact ⟨b, rfl, h⟩)
 intro k9 w10 hk9 k11 w12 hk11
 have x12 := hk9.ext.trans hk11.ext
 have r9 : RowW w12 k9 _ := hk11.ext.rowW ⟨_, hk9.at⟩ id
 have r11 : RowW w12 k11 _ := ⟨_, hk11.at⟩
 refine ⟨_, _, _, r9.c rfl, _, _, _, r11.c rfl, (QY5 (h1.ext x12) (h2.ext x12) hl).mono ?_⟩
 rintro e w15 ⟨rfl, x15⟩
 have y15 := x12.trans x15
 have q9 : RowW w15 k9 _ := x15.rowW r9 id
 have q11 : RowW w15 k11 _ := x15.rowW r11 id
 refine ⟨_, rfl, Q0 (fun a1 => ⟨_, q9.c rfl, _, q11.c rfl, Q0 (fun a2 => ⟨_, q9.c rfl, _, q11.c rfl, Q0 (fun a3 => ⟨_, q9.c rfl, _, q11.c rfl, _, rfl, ?_, y15⟩) fun a3 => ?_⟩) fun a2 => ?_⟩) fun a1 => ?_⟩
 ·simp only [Za] at a1 a2 a3 ⊢
  exact ⟨fun h => ⟨a2, a3, h, a1⟩, fun h => h.2.2.1⟩
 ·simp only [Zb] at a3
  exact ⟨false, rfl, ⟨fun h => (by cases h), fun h => absurd h.2.1 a3⟩, y15⟩
 ·simp only [Zb] at a2
  exact ⟨false, rfl, ⟨fun h => (by cases h), fun h => absurd h.1 a2⟩, y15⟩
 ·simp only [Zb] at a1
  exact ⟨false, rfl, ⟨fun h => (by cases h), fun h => absurd h.2.2.2 a1⟩, y15⟩
theorem QW7 {α : Type} {A B : List α} {i : Nat} {x y : α} (h : A.take i = B.take i) (hx : A[i]? = some x) (hy : B[i]? = some y) (he : x = y) : A.take (i + 1) = B.take (i + 1) := by
 rw [Zn, Zn, h, hx, hy, he]
theorem ObV.eq_of {x y : ObV} (h1 : x.key = y.key) (h2 : x.len = y.len) (h3 : x.epoch = y.epoch) (h4 : x.st = y.st) : x = y := by
 obtain ⟨a, b, c, d⟩ := x
 obtain ⟨a', b', c', d'⟩ := y
 simp only at h1 h2 h3 h4
 subst h1; subst h2; subst h3; subst h4
 rfl
theorem QKc.eq_of {x y : QKc} (h1 : x.kind = y.kind) (h2 : x.key = y.key) (h3 : x.len = y.len) (h4 : x.st = y.st) : x = y := by
 obtain ⟨a, b, c, d⟩ := x
 obtain ⟨a', b', c', d'⟩ := y
 simp only at h1 h2 h3 h4
 subst h1; subst h2; subst h3; subst h4
 rfl
theorem Qv7 {w : World} {p1 p2 : σ} {l1 c1 l2 c2 : Nat} {A B : List ObV} (h1 : Q38 w p1 l1 A) (h2 : Q38 w p2 l2 B) (hl : l1 <= 1000) (hs : ∀ o ∈ A, o.st.length <= 1000) :
  Calls prog 29 #[.slice p1 l1 c1, .slice p2 l2 c2] w fun e w' => ∃ b, e = .returned (.bool b) /\ (b = true ↔ A = B) /\ Ext w w' := by
 refine (F29_calls p1 l1 c1 p2 l2 c2 w (fun v w' => ∃ b, v = .bool b /\ (b = true ↔ A = B) /\ Ext w w') (fun _ n w4 => ∃ i : Nat, n = i /\ i <= l1 /\ Ext w w4 /\ A.take i = B.take i) (fun _ n _ => 1000 - n.toNat) ?_).mono (by rintro e w' ⟨v, rfl, b, rfl, h⟩; exact ⟨b, rfl, h⟩)
 have e1 := h1.1
 have e2 := h2.1
 refine Q0 (fun hne => ?_) (fun heq => ?_)
 ·simp only [Zg, Zb] at hne
  exact ⟨false, rfl, ⟨fun h => (by cases h), fun h => by subst h; omega⟩, Upd.refl _ _⟩
 simp only [Zf, Za] at heq
 refine ⟨⟨0, rfl, Nat.zero_le _, Upd.refl _ _, by simp⟩, ?_⟩
 rintro n w4 ⟨i, rfl, hi, x4, ht⟩
 intros
 refine Q0 (fun hlt => ?_) (fun hge => ?_)
 ·simp only [Za] at hlt
  intro w39 d39
  have x39 := x4.trans d39.ext
  obtain ⟨x, hx⟩ : ∃ x, A[i]? = some x := ⟨A[i]'(by omega), Zc _⟩
  obtain ⟨y, hy⟩ : ∃ y, B[i]? = some y := ⟨B[i]'(by omega), Zc _⟩
  obtain ⟨a, qa, na, ca, rfl, a1, a2, a3, a4, a5⟩ := (h1.ext x39).2 i x hx
  obtain ⟨b, qb, nb, cb, rfl, b1, b2, b3, b4, b5⟩ := (h2.ext x39).2 i y hy
  have hsx := hs x (Zs hx)
  have hna := a5.1
  rw [Ze]
  refine ⟨⟨by omega, hlt⟩, _, a1, _, a2, _, a3, _, _, _, a4, ⟨by omega, by omega⟩, _, b1, _, b2, _, b3, _, _, _, b4, (Qh2 _ _ _ _ _ _ w39).mono ?_⟩
  rintro e w50 ⟨rfl, x50⟩
  refine ⟨_, _, _, _, _, _, rfl, ⟨_, Qm0 b1 x50, _, Qm0 b2 x50, _, Qm0 b3 x50, _, _, _, Qm0 b4 x50, rfl⟩, (Qh2 _ _ _ _ _ _ w50).mono ?_⟩
  rintro e w60 ⟨rfl, x60⟩
  have x3960 := x50.trans x60
  refine ⟨_, _, _, _, _, _, rfl, (Qo4 _ _ _ _ _ _ (a5.ext x3960) (b5.ext x3960) (by omega)).mono ?_⟩
  rintro e w66 ⟨bb, rfl, hbb, x66⟩
  refine ⟨_, rfl, fun w69 d69 => ?_⟩
  have x3969 := (x3960.trans x66).trans d69.ext
  have x69 := x39.trans x3969
  have ne : x ≠ y -> A ≠ B := fun h hh => h (by rw [hh, hy] at hx; exact (Option.some.inj hx).symm)
  refine Q0 (fun hn => ?_) (fun hp => ⟨⟨by omega, hlt⟩, _, Qm0 a3 x3969, ⟨by omega, by omega⟩, _, Qm0 b3 x3969, Q0 (fun hn => ?_) fun he => ?_⟩)
  ·refine ⟨false, rfl, ⟨fun h => (by cases h), fun h => absurd h (ne fun hxy => ?_)⟩, x69⟩
   subst hxy
   rw [hbb.2 ⟨rfl, rfl, rfl, rfl⟩] at hn
   cases hn
  ·simp only [Zg, Zb] at hn
   exact ⟨false, rfl, ⟨fun h => (by cases h), fun h => absurd h (ne fun hxy => hn (by rw [hxy]))⟩, x69⟩
  ·simp only [Zf, Za] at he hp
   obtain ⟨_, g1, g2, g3⟩ := hbb.1 hp
   try dsimp only
   rw [w64 (by omega)]
   exact ⟨⟨i + 1, by omega, by omega, x69, QW7 ht hx hy (ObV.eq_of g1 g2 he g3)⟩, by show 1000 - ((i : Int) + 1).toNat < 1000 - (i : Int).toNat; omega⟩
 ·simp only [Zb] at hge
  rw [Zh (by omega), Zh (by omega)] at ht
  exact ⟨true, rfl, ⟨fun _ => ht, fun _ => rfl⟩, x4⟩
theorem QJ7 {w : World} {p1 p2 : σ} {l1 c1 l2 c2 : Nat} {A B : List QKc} (h1 : Qj3 w p1 l1 A) (h2 : Qj3 w p2 l2 B) (hl : l1 <= 1000) (hs : ∀ o ∈ A, o.st.length <= 1000) :
  Calls prog 26 #[.slice p1 l1 c1, .slice p2 l2 c2] w fun e w' => ∃ b, e = .returned (.bool b) /\ (b = true ↔ A = B) /\ Ext w w' := by
 refine (F26_calls p1 l1 c1 p2 l2 c2 w (fun v w' => ∃ b, v = .bool b /\ (b = true ↔ A = B) /\ Ext w w') (fun _ n w4 => ∃ i : Nat, n = i /\ i <= l1 /\ Ext w w4 /\ A.take i = B.take i) (fun _ n _ => 1000 - n.toNat) ?_).mono (by rintro e w' ⟨v, rfl, b, rfl, h⟩; exact ⟨b, rfl, h⟩)
 have e1 := h1.1
 have e2 := h2.1
 refine Q0 (fun hne => ?_) (fun heq => ?_)
 ·simp only [Zg, Zb] at hne
  exact ⟨false, rfl, ⟨fun h => (by cases h), fun h => by subst h; omega⟩, Upd.refl _ _⟩
 simp only [Zf, Za] at heq
 refine ⟨⟨0, rfl, Nat.zero_le _, Upd.refl _ _, by simp⟩, ?_⟩
 rintro n w4 ⟨i, rfl, hi, x4, ht⟩
 intros
 refine Q0 (fun hlt => ?_) (fun hge => ?_)
 ·simp only [Za] at hlt
  intro w39 d39
  have x39 := x4.trans d39.ext
  obtain ⟨x, hx⟩ : ∃ x, A[i]? = some x := ⟨A[i]'(by omega), Zc _⟩
  obtain ⟨y, hy⟩ : ∃ y, B[i]? = some y := ⟨B[i]'(by omega), Zc _⟩
  obtain ⟨a, qa, na, ca, rfl, a1, a2, a3, a4, a5, _⟩ := (h1.ext x39).2 i x hx
  obtain ⟨b, qb, nb, cb, rfl, b1, b2, b3, b4, b5, _⟩ := (h2.ext x39).2 i y hy
  have hsx := hs x (Zs hx)
  have hna := a5.1
  rw [Ze]
  refine ⟨⟨by omega, hlt⟩, _, a1, _, a2, _, a3, _, _, _, a4, ⟨by omega, by omega⟩, _, b1, _, b2, _, b3, _, _, _, b4, (Qo4 _ _ _ _ _ _ a5 b5 (by omega)).mono ?_⟩
  rintro e w35 ⟨bb, rfl, hbb, x35⟩
  have x69 := x39.trans x35
  have ne : x ≠ y -> A ≠ B := fun h hh => h (by rw [hh, hy] at hx; exact (Option.some.inj hx).symm)
  refine ⟨_, rfl, Q0 (fun hn => ?_) (fun hp => ?_)⟩
  ·refine ⟨false, rfl, ⟨fun h => (by cases h), fun h => absurd h (ne fun hxy => ?_)⟩, x69⟩
   subst hxy
   rw [hbb.2 ⟨rfl, rfl, rfl, rfl⟩] at hn
   cases hn
  ·simp only [Zf] at hp
   obtain ⟨g0, g1, g2, g3⟩ := hbb.1 hp
   try dsimp only
   rw [w64 (by omega)]
   exact ⟨⟨i + 1, by omega, by omega, x69, QW7 ht hx hy (QKc.eq_of g0 g1 g2 g3)⟩, by show 1000 - ((i : Int) + 1).toNat < 1000 - (i : Int).toNat; omega⟩
 ·simp only [Zb] at hge
  rw [Zh (by omega), Zh (by omega)] at ht
  exact ⟨true, rfl, ⟨fun _ => ht, fun _ => rfl⟩, x4⟩
def Qg6 (L : List ObV) : Prop := ∀ o ∈ L, o.key.size <= 100 /\ o.st.length <= 20
theorem QS7 {w : World} (n1 n2 n3 : Int) (p4 : σ) (l4 c4 : Nat) (p5 : σ) (l5 c5 : Nat) (n6 : Int) (s7 : ByteArray) (n8 : Int) (p9 : σ) (l9 c9 : Nat) (n10 n11 : Int) {p12 : σ} {l12 c12 : Nat} {L : List ObV} (h : Q38 w p12 l12 L)
  (n13 n14 n15 n16 n17 : Int) (p18 : σ) (l18 c18 : Nat) (p19 : σ) (l19 c19 : Nat) :
  Calls prog 8 #[.agg #[int i64 n1, int i64 n2, int i64 n3, .slice p4 l4 c4, .slice p5 l5 c5, int i64 n6, .string s7, int i64 n8, .slice p9 l9 c9, int i64 n10, int i64 n11, .slice p12 l12 c12, int i64 n13, int i64 n14, int i64 n15, int i64 n16, .int .u8 n17, .slice p18 l18 c18, .slice p19 l19 c19]] w
   fun e w' => ∃ b, e = .returned (.bool b) /\ (b = true ↔ l4 <= 20 /\ l5 <= 40 /\ s7.size <= 100 /\ l9 <= 20 /\ l12 <= 20 /\ Qg6 L) /\ Ext w w' := by
 refine (F8_calls n1 n2 n3 p4 l4 c4 p5 l5 c5 n6 s7 n8 p9 l9 c9 n10 n11 p12 l12 c12 n13 n14 n15 n16 n17 p18 l18 c18 p19 l19 c19 w (fun v w' => ∃ b, v = .bool b /\ (b = true ↔ l4 <= 20 /\ l5 <= 40 /\ s7.size <= 100 /\ l9 <= 20 /\ l12 <= 20 /\ Qg6 L) /\ Ext w w')
  (fun _ w21 n28 w29 => ∃ i : Nat, n28 = i /\ i <= l12 /\ Ext w21 w29 /\ Qg6 (L.take i)) (fun _ _ n28 _ => 100 - n28.toNat) ?_).mono (by rintro e w' ⟨v, rfl, b, rfl, h⟩; exact ⟨b, rfl, h⟩)
 intro k20 w21 hk20
 have r20 : RowW w21 k20 _ := ⟨_, hk20.at⟩
 have hlen := h.1
 have no : ∀ {w'}, Ext w w' -> (¬ (l4 <= 20 /\ l5 <= 40 /\ s7.size <= 100 /\ l9 <= 20 /\ l12 <= 20 /\ Qg6 L)) -> ∃ b, Value.bool false = .bool b /\ (b = true ↔ l4 <= 20 /\ l5 <= 40 /\ s7.size <= 100 /\ l9 <= 20 /\ l12 <= 20 /\ Qg6 L) /\ Ext w w' :=
  fun hx hn => ⟨false, rfl, ⟨fun h => (by cases h), fun h => absurd h hn⟩, hx⟩
 refine ⟨_, _, _, r20.c rfl, Q0 (fun a => no hk20.ext fun hh => by simp only [Za] at a; omega) fun a1 => ⟨_, _, _, r20.c rfl, Q0 (fun a => no hk20.ext fun hh => by simp only [Za] at a; omega) fun a2 =>
  ⟨_, by rw [Qt]; exact r20.c rfl, Q0 (fun a => no hk20.ext fun hh => by simp only [Za] at a; omega) fun a3 => ⟨_, _, _, by rw [Qt]; exact r20.c rfl, Q0 (fun a => no hk20.ext fun hh => by simp only [Za] at a; omega) fun a4 =>
  ⟨_, _, _, by rw [Qt]; exact r20.c rfl, Q0 (fun a => no hk20.ext fun hh => by simp only [Za] at a; omega) fun a5 => ⟨⟨0, rfl, Nat.zero_le _, Upd.refl _ _, by simp [Qg6]⟩, ?_⟩⟩⟩⟩⟩⟩
 simp only [Zb] at a1 a2 a3 a4 a5
 rintro n28 w29 ⟨i, rfl, hi, x29, hs⟩
 intros
 have y29 := hk20.ext.trans x29
 have q20 : RowW w29 k20 _ := x29.rowW r20 id
 have c11 : w29.cell? (((at0 k20).add 9).add 2) = some (.slice p12 l12 c12) := by rw [Qt]; exact q20.c rfl
 refine ⟨_, _, _, c11, Q0 (fun hlt => ?_) fun hge => ?_⟩
 ·simp only [Za] at hlt
  obtain ⟨x, hx⟩ : ∃ x, L[i]? = some x := ⟨L[i]'(by omega), Zc _⟩
  obtain ⟨a, qa, na, ca, rfl, b1, b2, b3, b4, b5⟩ := (h.ext y29).2 i x hx
  have hna := b5.1
  refine ⟨_, _, _, c11, ⟨by omega, hlt⟩, _, by rw [Ze, Qt, Nat.add_zero]; exact b1, Q0 (fun hh => no y29 fun hz => ?_) fun c1 => ⟨_, _, _, c11, ⟨by omega, hlt⟩, _, _, _, by rw [Ze]; exact b4, Q0 (fun hh => no y29 fun hz => ?_) fun c2 => ?_⟩⟩
  ·simp only [Za] at hh
   have := (hz.2.2.2.2.2 x (Zs hx)).1
   omega
  ·simp only [Za] at hh
   have := (hz.2.2.2.2.2 x (Zs hx)).2
   omega
  ·simp only [Zb] at c1 c2
   try dsimp only
   rw [w64 (by omega)]
   refine ⟨⟨i + 1, by omega, by omega, x29, fun o ho => ?_⟩, by show 100 - ((i : Int) + 1).toNat < 100 - (i : Int).toNat; omega⟩
   rw [Zn, hx] at ho
   rcases List.mem_append.1 ho with ho | ho
   ·exact hs o ho
   ·simp at ho; subst ho; exact ⟨by omega, by omega⟩
 ·simp only [Zb] at hge
  rw [Zh (by omega)] at hs
  exact ⟨true, rfl, ⟨fun _ => ⟨by omega, by omega, by omega, by omega, by omega, hs⟩, fun _ => rfl⟩, y29⟩
open Go Go.Vc Go.ChangeShapes Go.WideShapes Go.ChangeAt
open Go.IntKind (i64)
open Go.Value (int)
open Go.Proofs.Tryz (prog)
theorem Qi4 {α : Type} {l : Nat} {Q : Nat -> α -> Prop} (h : ∀ i, i < l -> ∃ x, Q i x) : ∃ L : List α, l = L.length /\ ∀ i x, L[i]? = some x -> Q i x := by
 induction l with
 | zero => exact ⟨[], rfl, fun i x hi => by simp at hi⟩
 | succ k ih =>
  obtain ⟨L, hL, hall⟩ := ih fun i hi => h i (by omega)
  obtain ⟨x, hx⟩ := h k (by omega)
  refine ⟨L ++ [x], by simp; exact hL, fun i y hi => ?_⟩
  rw [List.getElem?_append] at hi
  split at hi
  ·exact hall i y hi
  ·rename_i hge
   have : i - L.length = 0 := by
    rcases hq : i - L.length with _ | j
    ·rfl
    ·rw [hq] at hi; simp at hi
   rw [this] at hi
   cases hi
   have : i = k := by omega
   rw [this]; exact hx
section
variable {H : Type} {enc : TypeId × Value -> H} {w : World} {base : Nat} {sp : Nat -> Bool} {held : Bool}
theorem Qte {fuel : Nat} {ys : List Value} {y : DataW H × List MemPlace} (hlen : ys.length = 4) (hy : DataW.trod enc prog w base sp held fuel 78 ys = some y) :
  ∃ (o : ObV) (p : σ) (l c : Nat), ys = [.string o.key, int i64 o.len, int i64 o.epoch, .slice p l c] /\ Ql w p l o.st := by
 obtain ⟨xs, n', _, _, _, hxl, hf⟩ := DataW.trod_struct Tryz.underlying78 hy
 obtain ⟨y0, y1, y2, y3, rfl⟩ := QKd ys hlen
 have hxl' : xs.length = 4 := hxl
 obtain ⟨x0, f0⟩ := Qw4 hxl' (by omega) (hf 0 _ rfl) Qs7
 obtain ⟨x1, f1⟩ := Qw4 hxl' (by omega) (hf 1 _ rfl) QW
 obtain ⟨x2, f2⟩ := Qw4 hxl' (by omega) (hf 2 _ rfl) QW
 obtain ⟨x3, f3⟩ := Qw4 hxl' (by omega) (hf 3 _ rfl) QX3
 obtain ⟨s, q0, _, _⟩ := DataW.trod_string Tryz.underlying9 f0
 obtain ⟨n1, q1, g1⟩ := QG0 Tryz.underlying3 f1
 obtain ⟨n2, q2, g2⟩ := QG0 Tryz.underlying3 f2
 obtain ⟨p, l, c, st, q3, hl, hcells, h1, h2, h3, _⟩ := Qf5 (e := 3) (k := .i64) (by kernel_rfl) (by kernel_rfl) (by kernel_rfl) f3
 cases q0; cases q1; cases q2; cases q3
 exact ⟨⟨s, n1, n2, st⟩, p, l, c, rfl, ⟨hl, hcells⟩⟩
theorem Qmd {fuel : Nat} {cs : List Value} {x : DataW H × List MemPlace} (h : DataW.trod enc prog w base sp held fuel 39 cs = some x) : ∃ p l c L, cs = [.slice p l c] /\ Q38 w p l L := by
 obtain ⟨p, l, c, rfl, _, _, _, hrow⟩ := QQ6 (t := 39) (e := 78) (k := 4) (by kernel_rfl) (by kernel_rfl) h
 obtain ⟨L, hL, hall⟩ := Qi4 (l := l) (Q := fun i (o : ObV) => ∃ a q n c, p = some a /\ w.cell? (a.add (i * 4)) = some (.string o.key) /\ w.cell? ((a.add (i * 4)).add 1) = some (int i64 o.len) /\ w.cell? ((a.add (i * 4)).add 2) = some (int i64 o.epoch) /\ w.cell? ((a.add (i * 4)).add 3) = some (.slice q n c) /\ Ql w q n o.st) fun i hi => by
  obtain ⟨a, ys, n, y, ha, hy, hlen, hcell⟩ := hrow i hi
  obtain ⟨o, q, m, d, rfl, g1⟩ := Qte hlen hy
  exact ⟨o, a, q, m, d, ha, by have := hcell 0 (by omega); rw [Qt] at this; exact this, hcell 1 (by omega), hcell 2 (by omega), hcell 3 (by omega), g1⟩
 exact ⟨p, l, c, L, rfl, hL, hall⟩
theorem Qnd {fuel : Nat} {ys : List Value} {y : DataW H × List MemPlace} (hlen : ys.length = 4) (hy : DataW.trod enc prog w base sp held fuel 38 ys = some y) :
  ∃ (o : QKc) (p : σ) (l c : Nat), ys = [int i64 o.kind, .string o.key, int i64 o.len, .slice p l c] /\ Ql w p l o.st /\ l <= 9223372036854775807 := by
 obtain ⟨xs, n', _, _, _, hxl, hf⟩ := DataW.trod_struct Tryz.underlying38 hy
 obtain ⟨y0, y1, y2, y3, rfl⟩ := QKd ys hlen
 have hxl' : xs.length = 4 := hxl
 obtain ⟨x0, f0⟩ := Qw4 hxl' (by omega) (hf 0 _ rfl) QW
 obtain ⟨x1, f1⟩ := Qw4 hxl' (by omega) (hf 1 _ rfl) Qs7
 obtain ⟨x2, f2⟩ := Qw4 hxl' (by omega) (hf 2 _ rfl) QW
 obtain ⟨x3, f3⟩ := Qw4 hxl' (by omega) (hf 3 _ rfl) QX3
 obtain ⟨n0, q0, g0⟩ := QG0 Tryz.underlying3 f0
 obtain ⟨s, q1, _, _⟩ := DataW.trod_string Tryz.underlying9 f1
 obtain ⟨n2, q2, g2⟩ := QG0 Tryz.underlying3 f2
 obtain ⟨p, l, c, st, q3, hl, hcells, h1, h2, h3, _⟩ := Qf5 (e := 3) (k := .i64) (by kernel_rfl) (by kernel_rfl) (by kernel_rfl) f3
 cases q0; cases q1; cases q2; cases q3
 exact ⟨⟨n0, s, n2, st⟩, p, l, c, rfl, ⟨hl, hcells⟩, by unfold maxLen at h2; omega⟩
theorem Qgf {α : Type} (l : List α) (h : l.length = 3) : ∃ y0 y1 y2, l = [y0, y1, y2] := by
 match l, h with
 | [y0, y1, y2], _ => exact ⟨y0, y1, y2, rfl⟩
theorem QH8 : Tryz.prog.cellsOf 41 = 3 := by kernel_rfl
theorem QKb : Tryz.prog.cellsOf 39 = 1 := by kernel_rfl
theorem Qod {fuel : Nat} {ys : List Value} {y : DataW H × List MemPlace} (hlen : ys.length = 3) (hy : DataW.trod enc prog w base sp held fuel 41 ys = some y) :
  ∃ (a e : Int) (p : σ) (l c : Nat) (L : List ObV), ys = [int i64 a, int i64 e, .slice p l c] /\ Q38 w p l L := by
 obtain ⟨xs, n', _, _, _, hxl, hf⟩ := DataW.trod_struct Tryz.underlying41 hy
 obtain ⟨y0, y1, y2, rfl⟩ := Qgf ys hlen
 have hxl' : xs.length = 3 := hxl
 obtain ⟨x0, f0⟩ := Qw4 hxl' (by omega) (hf 0 _ rfl) QW
 obtain ⟨x1, f1⟩ := Qw4 hxl' (by omega) (hf 1 _ rfl) QW
 obtain ⟨x2, f2⟩ := Qw4 hxl' (by omega) (hf 2 _ rfl) QKb
 obtain ⟨n0, q0, g0⟩ := QG0 Tryz.underlying3 f0
 obtain ⟨n1, q1, g1⟩ := QG0 Tryz.underlying3 f1
 obtain ⟨p, l, c, L, q2, hL⟩ := Qmd f2
 cases q0; cases q1; cases q2
 exact ⟨n0, n1, p, l, c, L, rfl, hL⟩
end
end Go.Proofs.YtnfcfbljdibinaaGreat
