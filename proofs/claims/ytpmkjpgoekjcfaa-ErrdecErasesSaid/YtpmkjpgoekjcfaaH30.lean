/- Matrices in memory: rows, sums of rows, copies into rows. -/
import Derived.Test.YtpmkjpgoekjcfaaH29
namespace Go.Proofs.Ytpmkjpgoekjcfaa
open Go Go.Vc Go.Gf

theorem ix_lt {R C r c : Nat} (hr : r < R) (hc : c < C) : r * C + c < R * C := by
  have := Nat.mul_le_mul_right C (show r + 1 ≤ R from hr)
  rw [Nat.add_mul, Nat.one_mul] at this
  omega
theorem ix_inj {C r c r' c' : Nat} (hc : c < C) (hc' : c' < C) (h : r * C + c = r' * C + c') : r = r' ∧ c = c' := by
  have e : ∀ r c, c < C → (r * C + c) / C = r ∧ (r * C + c) % C = c := fun r c hc => by
    rw [Nat.mul_comm]
    exact ⟨by rw [Nat.mul_add_div (by omega), Nat.div_eq_of_lt hc, Nat.add_zero], by rw [Nat.mul_add_mod, Nat.mod_eq_of_lt hc]⟩
  have h1 := e r c hc
  have h2 := e r' c' hc'
  rw [h] at h1
  exact ⟨h1.1.symm.trans h2.1, h1.2.symm.trans h2.2⟩

/-- a matrix' numbers, row by row, in a row of their own -/
structure MatM (w : World) (base k R C : Nat) (V : Nat → Nat → UInt8) : Prop where
  le : base ≤ k
  row : ∃ bs : List UInt8, bs.length = R * C ∧ RowK w k 5 (encB bs).toArray ∧ ∀ r c, r < R → c < C → co bs (r * C + c) = V r c
section
variable {w w' : World} {base k R C : Nat} {V : Nat → Nat → UInt8}
theorem MatM.ext (h : MatM w base k R C V) (hu : Ext w w') : MatM w' base k R C V := by
  obtain ⟨bs, h1, h2, h3⟩ := h.row
  exact ⟨h.le, bs, h1, hu.keep h2, h3⟩
theorem MatM.base_le {b : Nat} (h : MatM w base k R C V) (hb : b ≤ base) : MatM w b k R C V := ⟨Nat.le_trans hb h.le, h.row⟩
theorem MatM.congr {V' : Nat → Nat → UInt8} (h : MatM w base k R C V) (hV : ∀ r c, r < R → c < C → V' r c = V r c) : MatM w base k R C V' := by
  obtain ⟨bs, h1, h2, h3⟩ := h.row
  exact ⟨h.le, bs, h1, h2, fun r c hr hc => by rw [h3 r c hr hc, hV r c hr hc]⟩
theorem MatM.typ (h : MatM w base k R C V) : ∃ cs, RowK w k 5 cs := let ⟨_, _, h2, _⟩ := h.row; ⟨_, h2⟩
theorem MatM.lt (h : MatM w base k R C V) : k < w.heap.size := let ⟨_, h2⟩ := h.typ; lt_of_heap h2
theorem MatM.keep {k' : Nat} {e : TypeId} {cs : Array Value} (h : MatM w base k R C V) (hu : Upd (fun x => x = k') w w') (hk : RowK w k' e cs) (he : e ≠ 5) : MatM w' base k R C V := by
  obtain ⟨bs, h1, h2, h3⟩ := h.row
  exact ⟨h.le, bs, h1, hu.keep h2 (RowK.ne h2 hk he.symm), h3⟩
theorem MatM.apart {k' : Nat} (h : MatM w base k R C V) (hu : Upd (fun x => x = k') w w') (hk : k ≠ k') : MatM w' base k R C V := by
  obtain ⟨bs, h1, h2, h3⟩ := h.row
  exact ⟨h.le, bs, h1, hu.keep h2 hk, h3⟩
theorem encB_get {bs : List UInt8} {i : Nat} (hi : i < bs.length) : (encB bs).toArray[i]? = some (vb (co bs i)) := by
  simp [encB, Gf.co, List.getD_eq_getElem?_getD, hi]
theorem MatM.at (h : MatM w base k R C V) {r c : Nat} (hr : r < R) (hc : c < C) : Live w (((at0 k).add (r * C)).add c) ∧ w.cell? (((at0 k).add (r * C)).add c) = some (vb (V r c)) ∧
    ∀ b w', SetC w (((at0 k).add (r * C)).add c) (vb b) w' → MatM w' base k R C (fun i j => if i = r ∧ j = c then b else V i j) ∧ Upd (fun x => x = k) w w' := by
  obtain ⟨bs, h1, h2, h3⟩ := h.row
  have hlt := ix_lt hr hc
  rw [add_add]
  refine ⟨h2.live3 (by simp [encB_length]; omega), h2.cell3 (by rw [encB_get (by omega), h3 r c hr hc]), fun b w' hs => ?_⟩
  obtain ⟨h4, hu⟩ := h2.set3 hs
  refine ⟨⟨h.le, bs.set (r * C + c) b, by simpa using h1, ?_, fun i j hi hj => ?_⟩, hu⟩
  · have e : (encB bs).toArray.setIfInBounds (r * C + c) (vb b) = (encB (bs.set (r * C + c) b)).toArray := by simp [encB, List.map_set]
    rw [← e]; exact h4
  · rw [co_set (by omega)]
    by_cases e : i * C + j = r * C + c
    · rw [if_pos e, if_pos (ix_inj hj hc e)]
    · rw [if_neg e, if_neg (fun h => e (by rw [h.1, h.2])), h3 i j hi hj]
theorem MatM.bytes (h : MatM w base k R C V) {r s : Nat} (hr : r < R) (hs : s ≤ C) : BytesAt w (some ((at0 k).add (r * C + s))) (C - s) ((List.range (C - s)).map fun c => V r (s + c)) := by
  refine ⟨by simp, fun _ => ⟨_, rfl, fun i hi => ?_⟩⟩
  have hi' : i < C - s := by simpa using hi
  have h1 := (h.at (c := s + i) hr (by omega)).2.1
  rw [add_add] at h1
  rw [add_add, Nat.add_assoc, h1]
  simp [hi']
/-- bytes are copied into a row -/
theorem MatM.copy (h : MatM w base k R C V) {r dcap l c : Nat} {q : Addr} {xs : List UInt8} (hr : r < R) (hq : BytesAt w (some q) l xs) (hl : l ≤ C) :
    ∃ n : Int, ∃ w', Sem.run Try.prog (Builtin.copy_ #[22, 22] 3 #[.slice (some ((at0 k).add (r * C))) C dcap, .slice (some q) l c]) w = .ok (.int .i64 n) w' ∧
      MatM w' base k R C (fun i j => if i = r ∧ j < l then co xs j else V i j) ∧ Upd (fun x => x = k) w w' := by
  obtain ⟨bs, h1, h2, h3⟩ := h.row
  have hxl := hq.1
  have hC : r * C + C ≤ R * C := by
    have := Nat.mul_le_mul_right C (show r + 1 ≤ R from hr)
    rw [Nat.add_mul, Nat.one_mul] at this
    omega
  have hcs := hq.cells
  have hrun := run_copy_row (P := Try.prog) w 22 22 3 5 k (r * C) C dcap q l c (encB bs).toArray 5 (encB xs) (by kernel_rfl) (by kernel_rfl) h2
      (by rw [encB_length]; show _ = min _ _; omega) (fun j v hj => by
        obtain ⟨a', ha', hv⟩ := hcs j v hj
        cases ha'
        exact hv) (by simp [encB_length]; omega) (encB_one xs)
  let bs' := bs.take (r * C) ++ xs ++ bs.drop (r * C + xs.length)
  have he : (encB bs).toArray.toList.take (r * C) ++ encB xs ++ (encB bs).toArray.toList.drop (r * C + (encB xs).length) = encB bs' := by
    simp [bs', encB, List.map_take, List.map_drop]
  rw [he] at hrun
  rw [add_at0]
  refine ⟨((encB xs).length : Int), w.setRow k (encB bs').toArray, hrun, ⟨h.le, bs', ?_, setRow_heap _ _ _ _ _ _ h2, fun i j hi hj => ?_⟩, ?_⟩
  · simp only [bs', List.length_append, List.length_take, List.length_drop]; omega
  · have hij := ix_lt hi hj
    have hv := h3 i j hi hj
    simp only [Gf.co, List.getD_eq_getElem?_getD, bs'] at hv ⊢
    by_cases e1 : i = r
    · subst e1
      by_cases e2 : j < l
      · rw [if_pos ⟨rfl, e2⟩, List.getElem?_append_left (by simp; omega), List.getElem?_append_right (by simp; omega)]
        simp only [List.length_take]
        rw [show i * C + j - min (i * C) bs.length = j by omega]
      · rw [if_neg fun h => e2 h.2, List.getElem?_append_right (by simp; omega), ← hv, List.getElem?_drop, show i * C + xs.length + (i * C + j - (bs.take (i * C) ++ xs).length) = i * C + j by
          simp only [List.length_append, List.length_take]; omega]
    · rw [if_neg fun h => e1 h.1, ← hv]
      by_cases e2 : i < r
      · have h5 := ix_lt e2 hj
        rw [List.append_assoc, List.getElem?_append_left (by simp; omega), List.getElem?_take, if_pos h5]
      · have h5 : r * C + C ≤ i * C := by
          have := Nat.mul_le_mul_right C (show r + 1 ≤ i by omega)
          rw [Nat.add_mul, Nat.one_mul] at this
          omega
        rw [List.getElem?_append_right (by simp; omega), List.getElem?_drop, show r * C + xs.length + (i * C + j - (bs.take (r * C) ++ xs).length) = i * C + j by
          simp only [List.length_append, List.length_take]; omega]
  · exact ⟨rfl, rfl, rfl, by simp [World.setRow], fun x _ hS => by
      unfold World.setRow
      rw [Array.getElem?_modify, if_neg (fun e => hS e.symm)]⟩
end
theorem wmul {a b : Nat} (h : a * b ≤ 1073741824) : IntKind.i64.wrap ((a : Int) * (b : Int)) = ((a * b : Nat) : Int) := by
  rw [← Int.natCast_mul]
  exact w64 (by omega)

/-- a row, as it lies -/
theorem row_spec {w : World} {a : Addr} {l c C r : Nat} {rows : Int} (hC : 0 < C) (hc : (r + 1) * C ≤ c) (hb : (r + 1) * C ≤ 1048576) (hr : r ≤ 1048576) :
    Calls Try.prog 79 #[.agg #[.int .i64 rows, .int .i64 (C : Int), .slice (some a) l c], .int .i64 (r : Int)] w fun e w' => e = .returned (.slice (some (a.add (r * C))) C (c - r * C)) ∧ Ext w w' := by
  refine (F79_calls rows C (some a) l c r w (fun v w' => v = .slice (some (a.add (r * C))) C (c - r * C) ∧ Ext w w') ?_).mono (by rintro e w' ⟨v, rfl, rfl, h⟩; exact ⟨rfl, h⟩)
  intro k5 w6 h6
  have r6 : RowK w6 k5 82 (matC rows C (some a) l c) := h6.at
  have e0 : (r + 1) * C = r * C + C := by rw [Nat.add_mul, Nat.one_mul]
  have e1 : IntKind.i64.wrap ((r : Int) + 1) = ((r + 1 : Nat) : Int) := w64 (by omega)
  rw [e1]
  refine ⟨_, _, _, r6.cell3 rfl, _, r6.cell3 rfl, _, r6.cell3 rfl, ?_⟩
  rw [wmul (by omega), wmul (by omega)]
  refine ⟨⟨by omega, by omega⟩, ⟨by omega, by omega⟩, ?_, h6.ext⟩
  rw [Int.toNat_natCast, Int.toNat_natCast]
  unfold cutP
  rw [if_neg (by omega), e0]
  show Value.slice (some (a.add (r * C * 1))) _ _ = _
  rw [Nat.mul_one, Nat.add_sub_cancel_left]

theorem in256_spec {w : World} {n : Nat} (hn : n ≤ 256) : Calls Try.prog 100 #[.int .i64 (n : Int)] w fun e w' => e = .returned (.bool true) ∧ w' = w := by
  refine (F100_calls n w (fun v w' => v = .bool true ∧ w' = w) ?_).mono (by rintro e w' ⟨v, rfl, rfl, h⟩; exact ⟨rfl, h⟩)
  refine condB_of (fun _ => ⟨by simp; omega, rfl⟩) fun h => by simp only [decide_eq_false_iff_not] at h; omega
theorem mcheck_spec {w : World} {p : Option Addr} {c R C : Nat} (hR : R ≤ 256) (hC : C ≤ 256) :
    Calls Try.prog 77 #[.agg #[.int .i64 (R : Int), .int .i64 (C : Int), .slice p (R * C) c]] w fun e w' => e = .returned (.int .i64 0) ∧ Ext w w' := by
  refine (F77_calls R C p (R * C) c w (fun v w' => v = .int .i64 0 ∧ Ext w w') ?_).mono (by rintro e w' ⟨v, rfl, rfl, h⟩; exact ⟨rfl, h⟩)
  intro k4 w5 h4
  have r4 : RowK w5 k4 82 (matC R C p (R * C) c) := h4.at
  have hm : R * C ≤ 256 * 256 := Nat.mul_le_mul hR hC
  refine ⟨_, r4.cell3 rfl, (in256_spec hR).mono ?_⟩
  rintro e w7 ⟨rfl, rfl⟩
  refine ⟨_, rfl, condB_of (fun h => by simp at h) fun _ => ⟨_, r4.cell3 rfl, (in256_spec hC).mono ?_⟩⟩
  rintro e w11 ⟨rfl, rfl⟩
  refine ⟨_, rfl, condB_of (fun h => by simp at h) fun _ => ⟨_, _, _, r4.cell3 rfl, _, r4.cell3 rfl, _, r4.cell3 rfl, ?_⟩⟩
  rw [wmul (by omega)]
  exact condB_of (fun h => by simp at h) fun _ => ⟨rfl, h4.ext⟩

theorem empty_spec {w : World} {R C : Nat} (hm : R * C ≤ 1048576) :
    Calls Try.prog 78 #[.int .i64 (R : Int), .int .i64 (C : Int)] w fun e w' => ∃ k, e = .returned (matV R C (some (at0 k)) (R * C) (R * C)) ∧ MatM w' w.heap.size k R C (fun _ _ => 0) ∧ Ext w w' := by
  refine (F78_calls R C w (fun v w' => ∃ k, v = matV R C (some (at0 k)) (R * C) (R * C) ∧ MatM w' w.heap.size k R C (fun _ _ => 0) ∧ Ext w w') ?_).mono (by rintro e w' ⟨v, rfl, k, rfl, h⟩; exact ⟨k, rfl, h⟩)
  intro k3 w4 h3
  have r3 : RowK w4 k3 82 (matC 0 0 none 0 0) := h3.at
  have n3 : w.heap.size ≤ k3 := by rw [h3.size.1]; exact Nat.le_refl _
  rw [wmul (by omega), Int.toNat_natCast]
  refine ⟨⟨by omega, by omega, by omega⟩, fun k5 w6 h5 => ?_⟩
  rw [made_one 5 (.int .u8 0) (by kernel_rfl) (R * C)] at h5
  have r5 : RowK w6 k5 5 (encB (List.replicate (R * C) 0)).toArray := by
    have e : (encB (List.replicate (R * C) 0)).toArray = (List.replicate (R * C) (Value.int .u8 0)).toArray := by simp [encB]
    rw [e]; exact h5.at
  have m5 : MatM w6 w.heap.size k5 R C (fun _ _ => 0) := ⟨by rw [h5.size.1]; exact h3.ext.size, _, by simp, r5, fun r c hr hc => by
    have := ix_lt hr hc
    simp [Gf.co, List.getD_eq_getElem?_getD, this]⟩
  have r3' : RowK w6 k3 82 (matC 0 0 none 0 0) := h5.ext.keep r3
  refine ⟨r3'.live0 (by simp), fun w7 s7 => ?_⟩
  obtain ⟨c1, v1⟩ := r3'.set0 s7
  refine ⟨c1.live3 (by simp), fun w8 s8 => ?_⟩
  obtain ⟨c2, v2⟩ := c1.set3 s8
  refine ⟨c2.live3 (by simp), fun w9 s9 => ?_⟩
  obtain ⟨c3, v3⟩ := c2.set3 s9
  refine ⟨_, c3.cell0 rfl, _, c3.cell3 rfl, _, _, _, c3.cell3 rfl, k5, rfl, ((m5.keep v1 r3' ty_mat.1).keep v2 c1 ty_mat.1).keep v3 c2 ty_mat.1, ext_upd (ext_upd (ext_upd (h3.ext.trans h5.ext) n3 v1) n3 v2) n3 v3⟩

set_option maxHeartbeats 1000000 in
/-- a row's multiple is added to another one -/
theorem adds_spec {f : Option Addr} {w0 w : World} {base k R C t s ct cf : Nat} {V : Nat → Nat → UInt8} (hf : FieldAt w0 f) (hx : Ext w0 w) (hb : w0.heap.size ≤ base) (h : MatM w base k R C V) (ht : t < R) (hs : s < R) (hts : t ≠ s) (hC : C ≤ 1048576) (x : UInt8) :
    Calls Try.prog 80 #[.pointer f, .slice (some ((at0 k).add (t * C))) C ct, .slice (some ((at0 k).add (s * C))) C cf, vb x] w fun e w' => e = .returned (.tuple #[]) ∧ MatM w' base k R C (gadd t s x V) ∧ Upd (fun y => y = k) w w' := by
  refine (F80_calls f (some ((at0 k).add (t * C))) C ct (some ((at0 k).add (s * C))) C cf x.toNat w (fun v w' => v = .tuple #[] ∧ MatM w' base k R C (gadd t s x V) ∧ Upd (fun y => y = k) w w')
    (fun _ _ _ _ _ i w1 => 0 ≤ i ∧ i ≤ C ∧ Upd (fun y => y = k) w w1 ∧ MatM w1 base k R C (fun r c => if r = t ∧ (c : Int) < i then V t c ^^^ gm (V s c) x else V r c)) (fun _ _ _ _ _ i _ => (C - i).toNat) ?_).mono (by rintro e w' ⟨v, rfl, rfl, h⟩; exact ⟨rfl, h⟩)
  have hk := h.le
  refine ⟨⟨by omega, by omega, Upd.refl _ _, h.congr fun r c _ _ => by rw [if_neg (by omega)]⟩, ?_⟩
  rintro i w10 ⟨hi0, hi1, hu, hm⟩
  intros
  refine condB_of (fun h1 => ?_) (fun h1 => ?_)
  · simp only [decide_eq_true_eq] at h1
    obtain ⟨_, c1, _⟩ := hm.at (r := s) (c := i.toNat) hs (by omega)
    rw [if_neg (fun e => hts e.1.symm)] at c1
    refine ⟨⟨hi0, h1⟩, _, by rw [Nat.mul_one]; exact c1, fun w30 hd => ?_⟩
    have hm30 := hm.ext hd.ext
    have x30 : Ext w0 w30 := (OwnB.new_ext hx hu fun y hy => by rw [show y = k from hy]; omega).trans hd.ext
    obtain ⟨_, c2, _⟩ := hm30.at (r := t) (c := i.toNat) ht (by omega)
    rw [if_neg (by omega)] at c2
    refine ⟨⟨hi0, h1⟩, _, by rw [Nat.mul_one]; exact c2, (fmul_spec (hf.ext x30) (V s i.toNat) x).mono ?_⟩
    rintro e w33 ⟨rfl, x33⟩
    obtain ⟨l3, c3, s3⟩ := (hm30.ext x33).at (r := t) (c := i.toNat) ht (by omega)
    rw [if_neg (by omega)] at c3
    refine ⟨_, rfl, ⟨_, by rw [Nat.mul_one]; exact c3, rfl⟩, ⟨hi0, h1⟩, by rw [Nat.mul_one]; exact l3, fun w38 s38 => ?_⟩
    rw [Nat.mul_one, bx8] at s38
    obtain ⟨hm', u'⟩ := s3 _ _ s38
    rw [w64 (n := i + 1) (by omega)]
    refine ⟨⟨by omega, by omega, Upd.trans (hu.trans (hd.ext.trans x33).upd fun _ _ h => h) u' fun _ _ h => h, hm'.congr fun r c _ _ => ?_⟩, by show ((C : Int) - (i + 1)).toNat < ((C : Int) - i).toNat; omega⟩
    by_cases e : r = t ∧ c = i.toNat
    · rw [if_pos e, if_pos ⟨e.1, by omega⟩, e.2]
    · rw [if_neg e]
      by_cases e2 : r = t ∧ (c : Int) < i
      · rw [if_pos e2, if_pos ⟨e2.1, by omega⟩]
      · rw [if_neg e2, if_neg (fun e3 => by omega)]
  · simp only [decide_eq_false_iff_not] at h1
    refine ⟨rfl, hm.congr fun r c _ hc => ?_, hu⟩
    unfold gadd
    by_cases e : r = t
    · rw [if_pos e, if_pos ⟨e, by omega⟩]
    · rw [if_neg e, if_neg fun h => e h.1]
end Go.Proofs.Ytpmkjpgoekjcfaa
