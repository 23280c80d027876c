/- Some rows of a matrix. -/
import Derived.Test.YtpmkjpgoekjcfaaH30
namespace Go.Proofs.Ytpmkjpgoekjcfaa
open Go Go.Vc Go.Gf

/-- a matrix that is read -/
def MatR (w : World) (a : Addr) (R C : Nat) (V : Nat → Nat → UInt8) : Prop := ∀ r, r < R → BytesAt w (some (a.add (r * C))) C ((List.range C).map (V r))
theorem MatR.ext {w w' : World} {a : Addr} {R C : Nat} {V : Nat → Nat → UInt8} (h : MatR w a R C V) (hu : Ext w w') : MatR w' a R C V := fun r hr => (h r hr).ext hu
theorem MatM.read {w : World} {base k R C : Nat} {V : Nat → Nat → UInt8} (h : MatM w base k R C V) : MatR w (at0 k) R C V := fun r hr => by
  have h1 := h.bytes (s := 0) hr (Nat.zero_le _)
  simp only [Nat.add_zero, Nat.sub_zero, Nat.zero_add] at h1
  exact h1
theorem gen_read {w : World} {base R C l c : Nat} {p : Option Addr} {val : Nat → Nat → UInt8} (h : OwnB w base p l c (genA val C (R * C))) (hC : 0 < C) (hR : 0 < R) : ∃ a, p = some a ∧ R * C ≤ c ∧ l = R * C ∧ MatR w a R C val := by
  have hl := OwnB.len h
  have hle := OwnB.le h
  rw [genA_len] at hl
  have hpos : 0 < R * C := Nat.mul_pos hR hC
  obtain ⟨a, rfl, _⟩ := BytesAt.co (OwnB.bytes h) (i := 0) (by omega)
  refine ⟨a, rfl, by omega, hl, fun r hr => ⟨by simp, fun _ => ⟨_, rfl, fun i hi => ?_⟩⟩⟩
  have hi' : i < C := by simpa using hi
  have hix := ix_lt hr hi'
  obtain ⟨a', ha, h1⟩ := BytesAt.co (OwnB.bytes h) (i := r * C + i) (by omega)
  cases ha
  rw [add_add, h1, genA_co _ (by omega)]
  have e1 : (r * C + i) / C = r := by rw [Nat.mul_comm, Nat.mul_add_div (by omega), Nat.div_eq_of_lt hi', Nat.add_zero]
  have e2 : (r * C + i) % C = i := by rw [Nat.mul_comm, Nat.mul_add_mod, Nat.mod_eq_of_lt hi']
  rw [e1, e2]
  simp [hi']

theorem new_mat {w5 : World} {a b : Int} {p : Option Addr} {l c : Nat} {K : Nat → World → Prop} (hK : ∀ k11 w15, RowK w15 k11 82 (matC a b p l c) → w5.heap.size ≤ k11 → Ext w5 w15 → K k11 w15) :
    ∀ (k11 : Nat) (w12 : World), NewB w5 k11 (.cells #[.int .i64 (0 : Int), .int .i64 (0 : Int), .slice none 0 0] 82) w12 → (Live w12 (at0 k11) ∧ (∀ w13 : World, SetC w12 (at0 k11) (Value.int .i64 a) w13 → (Live w13 ((at0 k11).add 1) ∧ (∀ w14 : World, SetC w13 ((at0 k11).add 1) (Value.int .i64 b) w14 →
        (Live w14 ((at0 k11).add 2) ∧ (∀ w15 : World, SetC w14 ((at0 k11).add 2) (Value.slice p l c) w15 → K k11 w15)))))) := by
  intro k11 w12 h11
  have r11 : RowK w12 k11 82 (matC 0 0 none 0 0) := h11.at
  have n11 : w5.heap.size ≤ k11 := by rw [h11.size.1]; exact Nat.le_refl _
  refine ⟨r11.live0 (by simp), fun w13 s13 => ?_⟩
  obtain ⟨c1, v1⟩ := r11.set0 s13
  refine ⟨c1.live3 (by simp), fun w14 s14 => ?_⟩
  obtain ⟨c2, v2⟩ := c1.set3 s14
  refine ⟨c2.live3 (by simp), fun w15 s15 => ?_⟩
  obtain ⟨c3, v3⟩ := c2.set3 s15
  exact hK k11 w15 c3 n11 (ext_upd (ext_upd (ext_upd h11.ext n11 v1) n11 v2) n11 v3)

/-- what picked rows are told as -/
def pickP (w : World) (m C : Nat) (V : Nat → Nat → UInt8) (v : Value) (w' : World) : Prop := ∃ k, v = .tuple #[matV m C (some (at0 k)) (m * C) (m * C), .int .i64 0] ∧ MatM w' w.heap.size k m C V ∧ Ext w w'

set_option maxHeartbeats 4000000 in
theorem pick_spec {w : World} {a : Addr} {c R C m c4 : Nat} {p4 : Option Addr} {V : Nat → Nat → UInt8} {L : List Nat} (hA : MatR w a R C V) (hL : NatsAt w p4 m L) (hlt : ∀ t ∈ L, t < R) (hm : m ≤ 256) (hR : R ≤ 256) (hC : C ≤ 256) (hC0 : 0 < C) (hc : R * C ≤ c) :
    Calls Try.prog 53 #[.agg #[.int .i64 (R : Int), .int .i64 (C : Int), .slice (some a) (R * C) c], .slice p4 m c4] w fun e w' => ∃ v, e = .returned v ∧ pickP w m C (fun r c => V (L.getD r 0) c) v w' := by
  refine F53_calls R C (some a) (R * C) c p4 m c4 w (pickP w m C (fun r c => V (L.getD r 0) c))
    (fun q5 q7 q33 _ _ _ _ _ i w1 => 0 ≤ i ∧ i ≤ m ∧ Ext w w1 ∧ ∃ k5 k7 k33 km, q5 = some (at0 k5) ∧ q7 = some (at0 k7) ∧ q33 = some (at0 k33) ∧ w.heap.size ≤ k7 ∧ RowK w1 k5 82 (matC R C (some a) (R * C) c) ∧ RowK w1 k7 82 (matC 0 0 none 0 0) ∧
      RowK w1 k33 82 (matC m C (some (at0 km)) (m * C) (m * C)) ∧ MatM w1 w.heap.size km m C (fun r c => if (r : Int) < i then V (L.getD r 0) c else 0)) (fun _ _ _ _ _ _ _ _ i _ => (m - i).toNat) ?_
  have hml := hL.1
  have hmC : m * C ≤ 256 * 256 := Nat.mul_le_mul hm hC
  have hRC : R * C ≤ 256 * 256 := Nat.mul_le_mul hR hC
  intro k5 w6 h5 k7 w8 h7
  have r5 : RowK w8 k5 82 (matC R C (some a) (R * C) c) := h7.ext.keep h5.at
  have r7 : RowK w8 k7 82 (matC 0 0 none 0 0) := h7.at
  have x8 := h5.ext.trans h7.ext
  have n7 : w.heap.size ≤ k7 := by rw [h7.size.1]; exact h5.ext.size
  refine ⟨_, r5.cell0 rfl, _, r5.cell3 rfl, _, _, _, r5.cell3 rfl, (mcheck_spec hR hC).mono ?_⟩
  rintro e w12 ⟨rfl, x12⟩
  have x12' := x8.trans x12
  have r5' : RowK w12 k5 82 (matC R C (some a) (R * C) c) := x12.keep r5
  have r7' : RowK w12 k7 82 (matC 0 0 none 0 0) := x12.keep r7
  refine ⟨_, rfl, condB_of (fun h => by simp at h) fun _ => condB_of (fun h => by simp only [decide_eq_true_eq] at h; omega) fun _ => ⟨_, r5'.cell3 rfl, (empty_spec (R := m) (C := C) (by omega)).mono ?_⟩⟩
  rintro e w28 ⟨km, rfl, mm, x28⟩
  refine ⟨_, _, _, _, _, rfl, new_mat fun k33 w37 r33 _ x37 => ?_⟩
  have x2837 := x28.trans x37
  refine ⟨⟨by omega, by omega, x12'.trans x2837, k5, k7, k33, km, rfl, rfl, rfl, n7, x2837.keep r5', x2837.keep r7', r33, ((mm.ext x37).base_le x12'.size).congr fun r c _ _ => by rw [if_neg (by omega)]⟩, ?_⟩
  rintro i w46 ⟨hi0, hi1, hx, k5', k7', k33', km', g1, g2, g3, _, s5, s7, s33, sm⟩
  simp only [Option.some.injEq, at0, Addr.mk.injEq, and_true] at g1 g2 g3
  subst g1 g2 g3
  intros
  refine condB_of (fun hs => ?_) (fun hs => ?_)
  · simp only [decide_eq_true_eq] at hs
    obtain ⟨t, rfl⟩ := Int.eq_ofNat_of_zero_le hi0
    obtain ⟨b, rfl, hb⟩ := (hL.ext hx).get (i := t) (by omega)
    have hLt : L.getD t 0 < R := by
      rw [List.getD_eq_getElem?_getD, List.getElem?_eq_getElem (by omega)]
      exact hlt _ (List.getElem_mem _)
    refine ⟨⟨hi0, hs⟩, _, by rw [Int.toNat_natCast, Nat.mul_one]; exact hb, condB_of (fun h => by simp only [decide_eq_true_eq] at h; omega) fun _ => ⟨_, s5.cell3 rfl, condB_of (fun h => by simp only [decide_eq_true_eq] at h; omega) fun _ => fun w86 hd => ?_⟩⟩
    have s5a : RowK w86 k5 82 (matC R C (some a) (R * C) c) := hd.ext.keep s5
    have s33a : RowK w86 k33 82 (matC m C (some (at0 km')) (m * C) (m * C)) := hd.ext.keep s33
    have m1 : (t + 1) * C ≤ m * C := Nat.mul_le_mul_right C (by omega)
    have m2 : (L.getD t 0 + 1) * C ≤ R * C := Nat.mul_le_mul_right C (by omega)
    refine ⟨_, s33a.cell0 rfl, _, s33a.cell3 rfl, _, _, _, s33a.cell3 rfl, _, s5a.cell0 rfl, _, s5a.cell3 rfl, _, _, _, s5a.cell3 rfl, (row_spec hC0 (by omega) (by omega) (by omega)).mono ?_⟩
    rintro e w93 ⟨rfl, x93⟩
    have s5b : RowK w93 k5 82 (matC R C (some a) (R * C) c) := x93.keep s5a
    refine ⟨_, _, _, rfl, ⟨_, s5b.cell0 rfl, _, s5b.cell3 rfl, _, _, _, s5b.cell3 rfl, rfl⟩, (row_spec hC0 (by omega) (by omega) (by omega)).mono ?_⟩
    rintro e w99 ⟨rfl, x99⟩
    have x4699 : Ext w46 w99 := hd.ext.trans (x93.trans x99)
    obtain ⟨n, w102, hrun, sm', u'⟩ := (sm.ext x4699).copy (r := t) (dcap := m * C - t * C) (c := c - L.getD t 0 * C) (by omega) ((hA.ext (hx.trans x4699)) _ hLt) (Nat.le_refl _)
    obtain ⟨csm, rowm⟩ := (sm.ext x4699).typ
    rw [w64 (n := (t : Int) + 1) (by omega)]
    refine ⟨_, _, _, rfl, n, w102, hrun, ⟨by omega, by omega, ext_upd (hx.trans x4699) sm.le u', k5, k7, k33, km', rfl, rfl, rfl, n7, u'.keep (x4699.keep s5) (RowK.ne (x4699.keep s5) rowm ty_mat.1), u'.keep (x4699.keep s7) (RowK.ne (x4699.keep s7) rowm ty_mat.1), u'.keep (x4699.keep s33) (RowK.ne (x4699.keep s33) rowm ty_mat.1), sm'.congr fun r cc _ hcc => ?_⟩, by show ((m : Int) - ((t : Int) + 1)).toNat < ((m : Int) - (t : Int)).toNat; omega⟩
    by_cases e : r = t
    · rw [if_pos (show (r : Int) < t + 1 by omega), if_pos ⟨e, hcc⟩, e, range_co _ hcc]
    · rw [if_neg (show ¬ (r = t ∧ cc < C) from fun h => e h.1)]
      by_cases e2 : (r : Int) < t
      · rw [if_pos e2, if_pos (show (r : Int) < t + 1 by omega)]
      · rw [if_neg e2, if_neg (show ¬ (r : Int) < t + 1 by omega)]
  · simp only [decide_eq_false_iff_not] at hs
    refine ret3 (R := pickP w m C (fun r c => V (L.getD r 0) c)) s33 s7 rfl fun w' hu => ⟨km', rfl, (sm.keep hu s7 ty_mat.1).congr fun r cc hr _ => by rw [if_pos (by omega)], ext_upd hx n7 hu⟩
end Go.Proofs.Ytpmkjpgoekjcfaa
