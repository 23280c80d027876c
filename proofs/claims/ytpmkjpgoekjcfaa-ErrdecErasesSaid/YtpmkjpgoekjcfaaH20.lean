/- What the statements compare with; calls whose answers are fixed. -/
import Derived.Test.YtpmkjpgoekjcfaaH19
import Derived.Test.YtpmkjpgoekjcfaaGb
namespace Go.Proofs.Ytpmkjpgoekjcfaa
open Go Go.Vc Go.Gf

def NatsAt (w : World) (p : Option Addr) (n : Nat) (l : List Nat) : Prop := n = l.length ∧ CellsAt w p (encN l)
theorem NatsAt.ext {w w' : World} {p : Option Addr} {n : Nat} {l : List Nat} (h : NatsAt w p n l) (hu : Ext w w') : NatsAt w' p n l := ⟨h.1, h.2.ext hu⟩
theorem NatsAt.get {w : World} {p : Option Addr} {n : Nat} {l : List Nat} (h : NatsAt w p n l) {i : Nat} (hi : i < n) : ∃ a, p = some a ∧ w.cell? (a.add i) = some (.int .i64 ((l.getD i 0 : Nat) : Int)) := by
  have hlt : i < l.length := by rw [← h.1]; exact hi
  obtain ⟨a, ha, hc⟩ := h.2 i (.int .i64 ((l[i] : Nat) : Int)) (by simp [encN, hlt])
  exact ⟨a, ha, by rw [hc]; simp [List.getD_eq_getElem?_getD, hlt]⟩
theorem OwnN.nats {w : World} {base : Nat} {p : Option Addr} {n c : Nat} {l : List Nat} (h : OwnN w base p n c l) : NatsAt w p n l := ⟨OwnN.len h, OwnS.cells h⟩
theorem getD_ext {xs ys : List Nat} (hl : xs.length = ys.length) (h : ∀ i, i < xs.length → xs.getD i 0 = ys.getD i 0) : xs = ys := by
  refine List.ext_getElem hl fun i hi hj => ?_
  have := h i hi
  simpa [List.getD_eq_getElem?_getD, hi, hj] using this

theorem ints_spec {p1 p2 : Option Addr} {l1 c1 l2 c2 : Nat} {w : World} {xs ys : List Nat} (h1 : NatsAt w p1 l1 xs) (h2 : NatsAt w p2 l2 ys) (hm : l1 ≤ 4611686018427387904) :
    Calls Try.prog 15 #[.slice p1 l1 c1, .slice p2 l2 c2] w fun e w' => e = .returned (.bool (decide (xs = ys))) ∧ Ext w w' := by
  refine (F15_calls p1 l1 c1 p2 l2 c2 w (fun v w' => v = .bool (decide (xs = ys)) ∧ Ext w w')
    (fun _ i w1 => 0 ≤ i ∧ i ≤ l1 ∧ Ext w w1 ∧ ∀ j : Nat, (j : Int) < i → xs.getD j 0 = ys.getD j 0) (fun _ i _ => (l1 - i).toNat) ?_).mono (by rintro e w' ⟨v, rfl, rfl, h⟩; exact ⟨rfl, h⟩)
  unfold F15
  have hx := h1.1
  have hy := h2.1
  refine condB_of (fun hc => ?_) (fun hc => ?_)
  · simp only [Bool.not_eq_true', decide_eq_false_iff_not] at hc
    have : xs ≠ ys := by rintro rfl; omega
    exact ⟨by simp [this], Upd.refl _ _⟩
  · simp only [Bool.not_eq_false', decide_eq_true_eq] at hc
    refine ⟨⟨by omega, by omega, Upd.refl _ _, fun j hj => by omega⟩, ?_⟩
    rintro i w4 ⟨hi0, hi1, hq, hall⟩
    intros
    refine condB_of (fun ht => ?_) (fun ht => ?_)
    · simp only [decide_eq_true_eq] at ht
      intro w21 hd
      have hq2 := hq.trans hd.ext
      refine ⟨⟨hi0, ht⟩, ?_⟩
      obtain ⟨a, rfl, ha⟩ := (h1.ext hq2).get (i := i.toNat) (by omega)
      obtain ⟨b, rfl, hb⟩ := (h2.ext hq2).get (i := i.toNat) (by omega)
      refine ⟨_, by rw [Nat.mul_one]; exact ha, ⟨hi0, by omega⟩, _, by rw [Nat.mul_one]; exact hb, ?_⟩
      refine condB_of (fun hn => ?_) (fun hn => ?_)
      · simp only [Bool.not_eq_true', decide_eq_false_iff_not] at hn
        have : xs ≠ ys := by rintro rfl; exact hn rfl
        exact ⟨by simp [this], hq2⟩
      · simp only [Bool.not_eq_false', decide_eq_true_eq] at hn
        rw [w64 (by omega)]
        refine ⟨⟨by omega, by omega, hq2, fun j hj => ?_⟩, by show ((l1 : Int) - (i + 1)).toNat < ((l1 : Int) - i).toNat; omega⟩
        by_cases h : (j : Int) < i
        · exact hall j h
        · have : j = i.toNat := by omega
          rw [this]; omega
    · simp only [decide_eq_false_iff_not] at ht
      have : xs = ys := getD_ext (by omega) fun j hj => hall j (by omega)
      exact ⟨by simp [this], hq⟩

theorem lsame_spec {p1 p2 : Option Addr} {l1 c1 l2 c2 : Nat} {w : World} {xs ys : List (List UInt8)} (h1 : ListsAt w p1 l1 xs) (h2 : ListsAt w p2 l2 ys) (hm : l1 ≤ 4611686018427387904) (hb : ∀ x ∈ xs, x.length ≤ 4611686018427387904) :
    Calls Try.prog 18 #[.slice p1 l1 c1, .slice p2 l2 c2] w fun e w' => e = .returned (.bool (decide (xs = ys))) ∧ Ext w w' := by
  refine (F18_calls p1 l1 c1 p2 l2 c2 w (fun v w' => v = .bool (decide (xs = ys)) ∧ Ext w w')
    (fun _ i w1 => 0 ≤ i ∧ i ≤ l1 ∧ Ext w w1 ∧ ∀ j : Nat, (j : Int) < i → xs.getD j [] = ys.getD j []) (fun _ i _ => (l1 - i).toNat) ?_).mono (by rintro e w' ⟨v, rfl, rfl, h⟩; exact ⟨rfl, h⟩)
  unfold F18
  have hx := h1.1
  have hy := h2.1
  refine condB_of (fun hc => ?_) (fun hc => ?_)
  · simp only [Bool.not_eq_true', decide_eq_false_iff_not] at hc
    have : xs ≠ ys := by rintro rfl; omega
    exact ⟨by simp [this], Upd.refl _ _⟩
  · simp only [Bool.not_eq_false', decide_eq_true_eq] at hc
    refine ⟨⟨by omega, by omega, Upd.refl _ _, fun j hj => by omega⟩, ?_⟩
    rintro i w4 ⟨hi0, hi1, hq, hall⟩
    intros
    refine condB_of (fun ht => ?_) (fun ht => ?_)
    · simp only [decide_eq_true_eq] at ht
      intro w21 hd
      have hq2 := hq.trans hd.ext
      refine ⟨⟨hi0, ht⟩, ?_⟩
      obtain ⟨a, q, n, c, rfl, ha, hqb, _⟩ := (h1.ext hq2).2 i.toNat (by omega)
      obtain ⟨b, q', n', c', rfl, hb', hqb', _⟩ := (h2.ext hq2).2 i.toNat (by omega)
      have hlx : (xs.getD i.toNat []).length ≤ 4611686018427387904 := by
        rw [List.getD_eq_getElem?_getD, List.getElem?_eq_getElem (by omega)]
        exact hb _ (List.getElem_mem _)
      refine ⟨_, _, _, by rw [Nat.mul_one]; exact ha, ⟨hi0, by omega⟩, _, _, _, by rw [Nat.mul_one]; exact hb', ?_⟩
      refine (same_spec hqb hqb' (by rw [hqb.1]; exact hlx)).mono ?_
      rintro e w29 ⟨rfl, hq29⟩
      have hx29 := hq2.trans hq29.ext
      refine ⟨_, rfl, condB_of (fun hn => ?_) (fun hn => ?_)⟩
      · simp only [Bool.not_eq_true', decide_eq_false_iff_not] at hn
        have : xs ≠ ys := by rintro rfl; exact hn rfl
        exact ⟨by simp [this], hx29⟩
      · simp only [Bool.not_eq_false', decide_eq_true_eq] at hn
        rw [w64 (by omega)]
        refine ⟨⟨by omega, by omega, hx29, fun j hj => ?_⟩, by show ((l1 : Int) - (i + 1)).toNat < ((l1 : Int) - i).toNat; omega⟩
        by_cases h : (j : Int) < i
        · exact hall j h
        · have : j = i.toNat := by omega
          rw [this]; exact hn
    · simp only [decide_eq_false_iff_not] at ht
      have : xs = ys := by
        refine List.ext_getElem (by omega) fun j hj1 hj2 => ?_
        have := hall j (by omega)
        simpa [List.getD_eq_getElem?_getD, hj1, hj2] using this
      exact ⟨by simp [this], hq⟩

/-! ## the answers -/
theorem dA : decM 1 2 [5, 9, 140] [false, false, false] = some [5, 5, 140] := by
  refine decM_some (by decide) ⟨⟨rfl, fun l hl => ?_⟩, by decide⟩
  rcases (by omega : l = 0 ∨ l = 1) with rfl | rfl
  · kernel_rfl
  · kernel_rfl
theorem dif_A : dif 3 [false, false, false] [5, 5, 140] [5, 9, 140] = [1] := by decide
theorem dB_all : (alln 256 fun n => !decide (2 * (dif 3 [false, false, false] (enc 1 2 [pt n]) [5, 9, 7]).length + (mis 3 [false, false, false]).length ≤ 2)) = true := by kernel_rfl
theorem pt_toNat (a : UInt8) : pt a.toNat = a := by unfold pt; exact UInt8.ofNat_toNat
theorem dB : decM 1 2 [5, 9, 7] [false, false, false] = none := by
  refine decM_none fun c hc => ?_
  have he := hc.code.enc (by decide)
  have hl := hc.code.1
  obtain ⟨a, ha⟩ : ∃ a, c.take 1 = [a] := by
    match c, hl with
    | a :: _, _ => exact ⟨a, rfl⟩
  rw [ha] at he
  have h1 := alln_of dB_all a.toNat (u8lt a)
  rw [pt_toNat, ← he] at h1
  have := hc.few
  simp only [Bool.not_eq_true', decide_eq_false_iff_not] at h1
  exact h1 this
theorem dC : decM 1 2 (wordAt 3 [true, false, true] [[14], [], [7]] 0) (nots [true, false, true]) = some [14, 14, 7] := by
  refine decM_some (by decide) ⟨⟨rfl, fun l hl => ?_⟩, by decide⟩
  rcases (by omega : l = 0 ∨ l = 1) with rfl | rfl
  · kernel_rfl
  · kernel_rfl
theorem flags_row {w w1 : World} {k : Nat} {ks : List Bool} (hk : NewB w k (.cells (ks.map Value.bool).toArray 4) w1) : FlagsAt w1 (some (at0 k)) ks.length ks :=
  ⟨rfl, fun j u hj => ⟨_, rfl, hk.row.row.cell (by rw [List.getElem?_toArray]; exact hj)⟩⟩
theorem kmOk12 : kmOk 1 2 := by decide
theorem sized12 : Sized 1 2 3 3 [true, false, true] [[14], [], [7]] 1 := by
  refine ⟨by decide, by decide, ⟨0, by decide, rfl⟩, fun i hi hb => ?_⟩
  rcases (by omega : i = 0 ∨ i = 1 ∨ i = 2) with rfl | rfl | rfl
  · rfl
  · cases hb
  · rfl
theorem Sized.one {k m : Int} {l3 l4 : Nat} {hs : List Bool} {L : List (List UInt8)} {s t : Nat} (h : Sized k m l3 l4 hs L s) (h' : Sized k m l3 l4 hs L t) : s = t := by
  obtain ⟨i, hi, hb⟩ := h.2.2.1
  rw [← h.2.2.2 i hi hb, h'.2.2.2 i hi hb]

set_option maxHeartbeats 4000000 in
theorem awake_spec (w : World) : Calls Try.prog 9 #[] w fun e w' => e = .returned (.bool true) ∧ Ext w w' := by
  refine (F9_calls w (fun v w' => v = .bool true ∧ Ext w w') ?_).mono (by rintro e w' ⟨v, rfl, rfl, h⟩; exact ⟨rfl, h⟩)
  refine (fnew_spec w).mono ?_
  rintro e w1 ⟨k, rfl, x1, _, hf⟩
  refine ⟨_, rfl, condB_of (fun h => by cases h) fun _ => ?_⟩
  intro k4 w5 h5 k6 w7 h7
  have o5 := row_bytes (bs := [5, 9, 140]) h5 (by unfold maxLen; simp)
  have f7 := flags_row (ks := [false, false, false]) h7
  have x7 := h5.ext.trans h7.ext
  refine (word_spec (c4 := 3) (c5 := 3) (hf.ext x7) (OwnB.bytes (OwnB.ext o5 h7.ext)) f7 1 2).mono ?_
  rintro e w8 ⟨v, rfl, x8, ⟨h, _⟩ | ⟨_, h, _⟩ | ⟨_, _, _, ⟨h, _⟩ | ⟨c, hc, p1, c1, p2, n2, c2, rfl, oc, od⟩⟩⟩
  · exact (h kmOk12).elim
  · exact (h ⟨rfl, rfl⟩).elim
  · rw [show (1 : Int).toNat = 1 from rfl, show (2 : Int).toNat = 2 from rfl, dA] at h; cases h
  rw [show (1 : Int).toNat = 1 from rfl, show (2 : Int).toNat = 2 from rfl, dA] at hc
  cases hc
  have od' : OwnN w8 w7.heap.size p2 n2 c2 [1] := od
  have ln2 := OwnN.len od'
  have xx8 := x1.trans (x7.trans x8)
  refine ⟨_, _, _, _, _, _, _, rfl, fun k13 w14 h14 k15 w16 h16 => ?_⟩
  have o14 := row_bytes (bs := [5, 9, 7]) h14 (by unfold maxLen; simp)
  have f16 := flags_row (ks := [false, false, false]) h16
  have x16 := h14.ext.trans h16.ext
  refine (word_spec (c4 := 3) (c5 := 3) (hf.ext (x7.trans (x8.trans x16))) (OwnB.bytes (OwnB.ext o14 h16.ext)) f16 1 2).mono ?_
  rintro e w17 ⟨v, rfl, x17, ⟨h, _⟩ | ⟨_, h, _⟩ | ⟨_, _, _, ⟨_, rfl⟩ | ⟨c, hc, _⟩⟩⟩
  · exact (h kmOk12).elim
  · exact (h ⟨rfl, rfl⟩).elim
  rotate_left
  · rw [show (1 : Int).toNat = 1 from rfl, show (2 : Int).toNat = 2 from rfl, dB] at hc; cases hc
  refine ⟨_, _, _, _, _, _, _, rfl, fun k22 w23 h23 k24 w25 h25 k26 w27 h27 k28 w29 h29 => ?_⟩
  have f23 := flags_row (ks := [true, false, true]) h23
  have o25 := row_bytes (bs := [14]) h25 (by unfold maxLen; simp)
  have o27 := row_bytes (bs := [7]) h27 (by unfold maxLen; simp)
  have x29 : Ext w17 w29 := h23.ext.trans (h25.ext.trans (h27.ext.trans h29.ext))
  have l29 : ListsAt w29 (some (at0 k28)) 3 [[14], [], [7]] := by
    refine ⟨rfl, fun i hi => ?_⟩
    rcases (by omega : i = 0 ∨ i = 1 ∨ i = 2) with rfl | rfl | rfl
    · exact ⟨_, _, _, _, rfl, h29.row.row.cell rfl, OwnB.bytes (OwnB.ext o25 (h27.ext.trans h29.ext)), Nat.le_refl _⟩
    · exact ⟨_, _, _, _, rfl, h29.row.row.cell rfl, BytesAt.nil _ _, Nat.le_refl _⟩
    · exact ⟨_, _, _, _, rfl, h29.row.row.cell rfl, OwnB.bytes (OwnB.ext o27 h29.ext), Nat.le_refl _⟩
  have x29' : Ext w1 w29 := x7.trans (x8.trans (x16.trans (x17.trans x29)))
  refine (shards_spec (c3 := 3) (c4 := 3) (hf.ext x29') (f23.ext (h25.ext.trans (h27.ext.trans h29.ext))) l29 1 2 (fun x hx => by
    rcases List.mem_cons.1 hx with rfl | hx
    · simp
    · rcases List.mem_cons.1 hx with rfl | hx
      · simp
      · rw [List.mem_singleton] at hx; subst hx; simp)).mono ?_
  rintro e w30 ⟨v, rfl, x30, ⟨h, _⟩ | ⟨_, h, _⟩ | ⟨_, s, hs, hv⟩⟩
  · exact (h kmOk12).elim
  · exact (h 1 sized12).elim
  obtain rfl : s = 1 := hs.one sized12
  have dC' : decM (1 : Int).toNat (2 : Int).toNat (wordAt 3 [true, false, true] [[14], [], [7]] 0) (nots [true, false, true]) = some [14, 14, 7] := dC
  rcases hv with ⟨⟨x, hx, hno⟩, _⟩ | ⟨cs, hcl, hcs, ko, p33, n33, c33, W, rfl, out, oW, hW1, hW2⟩
  · obtain rfl : x = 0 := by omega
    rw [show wordAt [true, false, true].length _ _ _ = wordAt 3 _ _ _ from rfl, dC'] at hno
    cases hno
  have h0 := hcs 0 (by omega)
  rw [show wordAt [true, false, true].length [true, false, true] [[14], [], [7]] 0 = wordAt 3 [true, false, true] [[14], [], [7]] 0 from rfl, dC'] at h0
  have hcs1 : cs = [[14, 14, 7]] := by
    match cs, hcl with
    | [c], _ =>
      simp only [List.getD_cons_zero, Option.some.injEq] at h0
      rw [h0]
  subst hcs1
  have hWn : W = [] := by
    refine List.eq_nil_iff_forall_not_mem.2 fun i hi => ?_
    obtain ⟨x, hx, hd⟩ := (hW2 i).1 hi
    obtain rfl : x = 0 := by omega
    have : dif 3 (nots [true, false, true]) [14, 14, 7] (wordAt 3 [true, false, true] [[14], [], [7]] 0) = [] := by decide
    rw [show dif [true, false, true].length (nots [true, false, true]) ([[14, 14, 7]].getD 0 []) (wordAt [true, false, true].length [true, false, true] [[14], [], [7]] 0) = [] from this] at hd
    cases hd
  subst hWn
  have ln33 := OwnN.len oW
  have xx30 := x29'.trans x30
  have x830 : Ext w8 w30 := x16.trans (x17.trans (x29.trans x30))
  refine ⟨_, _, _, _, _, _, _, rfl, fun k35 w36 h36 => ?_⟩
  have o36 := row_bytes (bs := [5, 5, 140]) h36 (by unfold maxLen; simp)
  refine (same_spec (c1 := c1) (OwnB.bytes (OwnB.ext oc (x830.trans h36.ext))) (OwnB.bytes o36) (by simp)).mono ?_
  rintro e w37 ⟨rfl, q37⟩
  have x37 := h36.ext.trans q37.ext
  refine ⟨_, rfl, fun k40 w41 h41 k42 w43 h43 k44 w45 h45 k46 w47 h47 => ?_⟩
  have o41 := row_bytes (bs := [14]) h41 (by unfold maxLen; simp)
  have o43 := row_bytes (bs := [14]) h43 (by unfold maxLen; simp)
  have o45 := row_bytes (bs := [7]) h45 (by unfold maxLen; simp)
  have x47 : Ext w30 w47 := x37.trans (h41.ext.trans (h43.ext.trans (h45.ext.trans h47.ext)))
  have l47 : ListsAt w47 (some (at0 k46)) 3 [[14], [14], [7]] := by
    refine ⟨rfl, fun i hi => ?_⟩
    rcases (by omega : i = 0 ∨ i = 1 ∨ i = 2) with rfl | rfl | rfl
    · exact ⟨_, _, _, _, rfl, h47.row.row.cell rfl, OwnB.bytes (OwnB.ext o41 (h43.ext.trans (h45.ext.trans h47.ext))), Nat.le_refl _⟩
    · exact ⟨_, _, _, _, rfl, h47.row.row.cell rfl, OwnB.bytes (OwnB.ext o43 (h45.ext.trans h47.ext)), Nat.le_refl _⟩
    · exact ⟨_, _, _, _, rfl, h47.row.row.cell rfl, OwnB.bytes (OwnB.ext o45 h47.ext), Nat.le_refl _⟩
  have lo : ListsAt w47 (some (at0 ko)) 3 [[14], [14], [7]] := (OutAt.lists out).ext x47
  refine (lsame_spec (c1 := 3) (c2 := 3) lo l47 (by omega) (fun x hx => by
    rcases List.mem_cons.1 hx with rfl | hx
    · simp
    · rcases List.mem_cons.1 hx with rfl | hx
      · simp
      · rw [List.mem_singleton] at hx; subst hx; simp)).mono ?_
  rintro e w48 ⟨rfl, x48⟩
  have od48 : OwnN w48 w7.heap.size p2 n2 c2 [1] := OwnS.ext od' (x830.trans (x47.trans x48))
  obtain ⟨k2, rfl, hcell, _⟩ := OwnN.get od48 (i := 0) (by rw [ln2]; decide)
  have hl2 : n2 = 1 := ln2
  have hl3 : n33 = 0 := ln33
  subst hl2 hl3
  have xall := x1.trans (xx30.trans (x47.trans x48))
  refine ⟨_, rfl, ?_⟩
  refine condB_of (fun _ => ?_) (fun h => by simp at h)
  refine condB_of (fun _ => ?_) (fun h => by simp at h)
  refine condB_of (fun _ => ?_) (fun h => by simp at h)
  refine ⟨⟨by omega, by omega⟩, _, hcell, ?_⟩
  refine condB_of (fun _ => ?_) (fun h => by simp at h)
  refine condB_of (fun _ => ?_) (fun h => by simp at h)
  refine condB_of (fun _ => ?_) (fun h => by simp at h)
  refine condB_of (fun _ => ?_) (fun h => by simp at h)
  exact ⟨rfl, xall⟩
end Go.Proofs.Ytpmkjpgoekjcfaa
