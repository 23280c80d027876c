/- Cauchy's matrices. -/
import Derived.Test.YtpmkjpgoekjcfaaH21
namespace Go.Proofs.Ytpmkjpgoekjcfaa
open Go Go.Vc Go.Gf

theorem RowK.cell3 {w : World} {k : Nat} {e : TypeId} {cs : Array Value} (h : RowK w k e cs) {i : Nat} {v : Value} (hi : cs[i]? = some v) : w.cell? ((at0 k).add i) = some v := by rw [rowk_cell h, hi]
theorem RowK.cell0 {w : World} {k : Nat} {e : TypeId} {cs : Array Value} (h : RowK w k e cs) {v : Value} (hi : cs[0]? = some v) : w.cell? (at0 k) = some v := by
  rw [show at0 k = (at0 k).add 0 from (add_at0 k 0).symm]
  exact h.cell3 hi
theorem RowK.live3 {w : World} {k : Nat} {e : TypeId} {cs : Array Value} (h : RowK w k e cs) {i : Nat} (hi : i < cs.size) : Live w ((at0 k).add i) := RowW.live ⟨_, h⟩ hi
theorem RowK.live0 {w : World} {k : Nat} {e : TypeId} {cs : Array Value} (h : RowK w k e cs) (hi : 0 < cs.size) : Live w (at0 k) := by
  rw [show at0 k = (at0 k).add 0 from (add_at0 k 0).symm]
  exact h.live3 hi
theorem RowK.set3 {w w' : World} {k : Nat} {e : TypeId} {cs : Array Value} {i : Nat} {u : Value} (h : RowK w k e cs) (hs : SetC w ((at0 k).add i) u w') : RowK w' k e (cs.setIfInBounds i u) ∧ Upd (fun x => x = k) w w' := by
  have hu := hs.upd
  rw [add_block] at hu
  rw [add_at0] at hs
  exact ⟨hs.at h rfl, hu⟩
theorem RowK.set0 {w w' : World} {k : Nat} {e : TypeId} {cs : Array Value} {u : Value} (h : RowK w k e cs) (hs : SetC w (at0 k) u w') : RowK w' k e (cs.setIfInBounds 0 u) ∧ Upd (fun x => x = k) w w' := by
  rw [show at0 k = (at0 k).add 0 from (add_at0 k 0).symm] at hs
  exact h.set3 hs
theorem ext_upd {w0 w w' : World} {k : Nat} (hx : Ext w0 w) (hk : w0.heap.size ≤ k) (hu : Upd (fun x => x = k) w w') : Ext w0 w' := OwnB.new_ext hx hu fun y hy => by rw [show y = k from hy]; exact hk
theorem ty_mat : 82 ≠ 5 ∧ 82 ≠ 25 ∧ 82 ≠ 3 ∧ 82 ≠ 36 ∧ 82 ≠ 22 := by decide
/-- a matrix in memory, as a value -/
abbrev matV (r c : Int) (p : Option Addr) (l cp : Nat) : Value := .agg #[.int .i64 r, .int .i64 c, .slice p l cp]
abbrev matC (r c : Int) (p : Option Addr) (l cp : Nat) : Array Value := #[.int .i64 r, .int .i64 c, .slice p l cp]

theorem between_spec {f : Option Addr} {w : World} (hf : FieldAt w f) {a b : Nat} (ha : a < 4294967296) (hb : b < 4294967296) :
    Calls Try.prog 76 #[.pointer f, .int .i64 (a : Int), .int .i64 (b : Int)] w fun e w' => e = .returned (vb (gi (pt a ^^^ pt b))) ∧ Ext w w' := by
  refine (F76_calls f a b w (fun v w' => v = vb (gi (pt a ^^^ pt b)) ∧ Ext w w') ?_).mono (by rintro e w' ⟨v, rfl, rfl, h⟩; exact ⟨rfl, h⟩)
  unfold F76
  rw [px ha hb]
  refine (finv_spec hf _).mono ?_
  rintro e w2 ⟨rfl, hx⟩
  exact ⟨_, _, rfl, rfl, hx⟩
def parV (k r c : Nat) : UInt8 := gi (pt (k + r) ^^^ pt c)
theorem parity1_spec {f : Option Addr} {w : World} {kf kk k r c : Nat} (hf : FieldAt w f) (h1 : RowK w kf 25 #[.pointer f]) (h2 : RowK w kk 3 #[.int .i64 (k : Int)]) (hk : k ≤ 256) (hr : r ≤ 256) (hc : c ≤ 256) :
    Calls Try.prog 99 #[.int .i64 (r : Int), .int .i64 (c : Int), .pointer (some (at0 kf)), .pointer (some (at0 kk))] w fun e w' => e = .returned (vb (parV k r c)) ∧ Ext w w' := by
  refine (F99_calls r c (at0 kf) (at0 kk) w (fun v w' => v = vb (parV k r c) ∧ Ext w w') ?_).mono (by rintro e w' ⟨v, rfl, rfl, h⟩; exact ⟨rfl, h⟩)
  refine ⟨_, h1.cell, _, h2.cell, ?_⟩
  have e1 : IntKind.i64.wrap ((k : Int) + (r : Int)) = ((k + r : Nat) : Int) := by rw [w64 (by omega)]; omega
  rw [e1]
  refine (between_spec hf (by omega) (by omega)).mono ?_
  rintro e w2 ⟨rfl, hx⟩
  exact ⟨_, rfl, rfl, hx⟩
/-- the first so many numbers of a matrix -/
def genA (val : Nat → Nat → UInt8) (cols L : Nat) : List UInt8 := (List.range L).map fun t => val (t / cols) (t % cols)
theorem genA_len (val : Nat → Nat → UInt8) (cols L : Nat) : (genA val cols L).length = L := by simp [genA]
theorem genA_co (val : Nat → Nat → UInt8) {cols L t : Nat} (h : t < L) : co (genA val cols L) t = val (t / cols) (t % cols) := by simp [Gf.co, genA, List.getD_eq_getElem?_getD, h]
theorem genA_succ (val : Nat → Nat → UInt8) {cols r c : Nat} (h : c < cols) : genA val cols (r * cols + c) ++ [val r c] = genA val cols (r * cols + c + 1) := by
  have e1 : (r * cols + c) / cols = r := by
    rw [Nat.mul_comm, Nat.mul_add_div (by omega), Nat.div_eq_of_lt h, Nat.add_zero]
  have e2 : (r * cols + c) % cols = c := by rw [Nat.mul_comm, Nat.mul_add_mod, Nat.mod_eq_of_lt h]
  simp [genA, List.range_succ, e1, e2]
/-- while a matrix is made -/
def MadeI (w : World) (val : Nat → Nat → UInt8) (rows cols : Nat) (q6 q23 : Option Addr) (L : Nat) (w1 : World) : Prop :=
  Ext w w1 ∧ ∃ k6 k23 p l c, q6 = some (at0 k6) ∧ q23 = some (at0 k23) ∧ k6 ≠ k23 ∧ w.heap.size ≤ k6 ∧ w.heap.size ≤ k23 ∧ RowK w1 k6 82 (matC 0 0 none 0 0) ∧ RowK w1 k23 82 (matC rows cols p l c) ∧ OwnB w1 w.heap.size p l c (genA val cols L)

set_option maxHeartbeats 4000000 in
theorem made_par_spec {f : Option Addr} {w : World} {qa qb : Addr} {val : Nat → Nat → UInt8} {k m rows cols : Int} (hf : FieldAt w f) (hr : kmOk k m → 0 ≤ rows ∧ rows ≤ 256 ∧ 0 ≤ cols ∧ cols ≤ 256)
    (hcall : ∀ w', Ext w w' → ∀ r c : Nat, kmOk k m → (r : Int) < rows → (c : Int) < cols → Calls Try.prog 99 #[.int .i64 (r : Int), .int .i64 (c : Int), .pointer (some qa), .pointer (some qb)] w' fun e w'' => e = .returned (vb (val r c)) ∧ Ext w' w'') :
    Calls Try.prog 73 #[.pointer f, .int .i64 k, .int .i64 m, .int .i64 rows, .int .i64 cols, .func (.func 99) #[] #[.pointer (some qa), .pointer (some qb)]] w fun e w' => Ext w w' ∧
      ((¬ kmOk k m ∧ e = .returned (.tuple #[matV 0 0 none 0 0, .int .i64 50])) ∨ kmOk k m ∧ ∃ p l c, e = .returned (.tuple #[matV rows cols p l c, .int .i64 0]) ∧ OwnB w' w.heap.size p l c (genA val cols.toNat (rows.toNat * cols.toNat))) := by
  refine (F73_99_calls f k m rows cols qa qb w (fun v w' => Ext w w' ∧
      ((¬ kmOk k m ∧ v = .tuple #[matV 0 0 none 0 0, .int .i64 50]) ∨ kmOk k m ∧ ∃ p l c, v = .tuple #[matV rows cols p l c, .int .i64 0] ∧ OwnB w' w.heap.size p l c (genA val cols.toNat (rows.toNat * cols.toNat))))
    (fun q6 q23 _ _ r w1 => 0 ≤ r ∧ r ≤ rows ∧ MadeI w val rows.toNat cols.toNat q6 q23 (r.toNat * cols.toNat) w1) (fun _ _ _ _ r _ => (rows - r).toNat)
    (fun q6 q23 r _ _ _ _ c w1 => 0 ≤ c ∧ c ≤ cols ∧ 0 ≤ r ∧ r < rows ∧ MadeI w val rows.toNat cols.toNat q6 q23 (r.toNat * cols.toNat + c.toNat) w1) (fun _ _ _ _ _ _ _ c _ => (cols - c).toNat) ?_).mono (by
    rintro e w' ⟨v, rfl, hx, ⟨h, rfl⟩ | ⟨h, p, l, c, rfl, ho⟩⟩
    · exact ⟨hx, .inl ⟨h, rfl⟩⟩
    · exact ⟨hx, .inr ⟨h, p, l, c, rfl, ho⟩⟩)
  intro k6 w7 h6
  have r6 : RowK w7 k6 82 (matC 0 0 none 0 0) := h6.at
  have n6 : w.heap.size ≤ k6 := by rw [h6.size.1]; exact Nat.le_refl _
  have x7 := h6.ext
  rw [hf.there]
  refine condB_of (fun h => by cases h) fun _ => (ccheck_spec k m w7).mono ?_
  rintro e w14 ⟨rfl, rfl⟩
  refine ⟨_, rfl, condB_of (fun hc => ?_) (fun hc => ?_)⟩
  · simp only [Bool.not_eq_true', decide_eq_false_iff_not] at hc
    have hk : ¬ kmOk k m := fun h => hc (kmE_ok h)
    refine ⟨r6.live0 (by simp), fun w17 s17 => ?_⟩
    obtain ⟨a1, u1⟩ := r6.set0 s17
    refine ⟨a1.live3 (by simp), fun w18 s18 => ?_⟩
    obtain ⟨a2, u2⟩ := a1.set3 s18
    refine ⟨a2.live3 (by simp), fun w19 s19 => ?_⟩
    obtain ⟨a3, u3⟩ := a2.set3 s19
    refine ⟨_, a3.cell0 rfl, _, a3.cell3 rfl, _, _, _, a3.cell3 rfl, ext_upd (ext_upd (ext_upd x7 n6 u1) n6 u2) n6 u3, .inl ⟨hk, ?_⟩⟩
    rw [kmE_bad hk]
  simp only [Bool.not_eq_false', decide_eq_true_eq] at hc
  have hk : kmOk k m := Decidable.byContradiction fun h => by rw [kmE_bad h] at hc; omega
  obtain ⟨b1, b2, b3, b4⟩ := hr hk
  have er : ((rows.toNat : Nat) : Int) = rows := by omega
  have ec : ((cols.toNat : Nat) : Int) = cols := by omega
  intro k23 w24 h23
  have r23 : RowK w24 k23 82 (matC 0 0 none 0 0) := h23.at
  have n23 : w.heap.size ≤ k23 := by rw [h23.size.1]; exact x7.size
  have ne : k6 ≠ k23 := by have := lt_of_heap r6; rw [h23.size.1]; omega
  refine ⟨r23.live0 (by simp), fun w25 s25 => ?_⟩
  obtain ⟨a1, u1⟩ := r23.set0 s25
  refine ⟨a1.live3 (by simp), fun w26 s26 => ?_⟩
  obtain ⟨a2, u2⟩ := a1.set3 s26
  refine ⟨a2.live3 (by simp), fun w27 s27 => ?_⟩
  obtain ⟨a3, u3⟩ := a2.set3 s27
  have x27 := ext_upd (ext_upd (ext_upd (x7.trans h23.ext) n23 u1) n23 u2) n23 u3
  have r6' : RowK w27 k6 82 (matC 0 0 none 0 0) := u3.keep (u2.keep (u1.keep (h23.ext.keep r6) ne) ne) ne
  refine ⟨⟨by omega, b1, x27, k6, k23, none, 0, 0, rfl, rfl, ne, n6, n23, r6', ?_, ?_⟩, ?_⟩
  · rw [er, ec]; exact a3
  · rw [show (0 : Int).toNat * cols.toNat = 0 by simp]; exact OwnS.nil _ _ _ _
  rintro r w32 ⟨hr0, hr1, hx, k6', k23', p, l, c, g1, g2, ne', n6', n23', r6'', r23', ho⟩
  simp only [Option.some.injEq, at0, Addr.mk.injEq, and_true] at g1 g2
  subst g1 g2
  intros
  refine condB_of (fun hs => ?_) (fun hs => ?_)
  · simp only [decide_eq_true_eq] at hs
    refine ⟨⟨by omega, b3, hr0, hs, hx, k6, k23, p, l, c, rfl, rfl, ne', n6', n23', r6'', r23', by rw [show (0 : Int).toNat = 0 from rfl, Nat.add_zero]; exact ho⟩, ?_⟩
    rintro c' w59 ⟨hc0, hc1, _, _, hx59, k6', k23', p', l', cp', g1, g2, _, _, _, s6, s23, ho'⟩
    simp only [Option.some.injEq, at0, Addr.mk.injEq, and_true] at g1 g2
    subst g1 g2
    intros
    refine condB_of (fun ht => ?_) (fun ht => ?_)
    · simp only [decide_eq_true_eq] at ht
      intro w73 hd
      have x73 := hx59.trans hd.ext
      have s23' : RowK w73 k23 82 (matC rows.toNat cols.toNat p' l' cp') := hd.ext.keep s23
      refine ⟨_, _, _, s23'.cell3 rfl, ?_⟩
      have hsp := hcall w73 x73 r.toNat c'.toNat hk (by omega) (by omega)
      rw [show ((r.toNat : Nat) : Int) = r by omega, show ((c'.toNat : Nat) : Int) = c' by omega] at hsp
      refine hsp.mono ?_
      rintro e w75 ⟨rfl, x75⟩
      have s23'' : RowK w75 k23 82 (matC rows.toNat cols.toNat p' l' cp') := x75.keep s23'
      refine ⟨_, rfl, ⟨_, _, _, s23''.cell3 rfl, rfl⟩, fun k79 w80 h80 => ?_⟩
      have o75 := OwnB.ext (OwnB.ext ho' hd.ext) x75
      have l75 := OwnB.len o75
      rw [genA_len] at l75
      have hbig : r.toNat * cols.toNat ≤ 256 * 256 := Nat.mul_le_mul (by omega) (by omega)
      obtain ⟨p2, c2, w82, hrun, o82, u82⟩ := OwnB.push o75 h80 (x73.trans x75).size (by omega)
      have s80 : RowK w80 k23 82 (matC rows.toNat cols.toNat p' l' cp') := h80.ext.keep s23''
      refine ⟨⟨_, _, _, s80.cell3 rfl, rfl⟩, _, _, _, w82, hrun, ?_⟩
      have keep : ∀ {k : Nat} {cs : Array Value}, RowK w75 k 82 cs → RowK w82 k 82 cs := fun h => RowK.keep h u82 fun y hy => by
        obtain ⟨cs, e', fz, h7, h8⟩ := OwnS.typed o75 hy
        exact ⟨cs, e', fz, h7, by rw [h8]; exact ty_mat.1.symm⟩
      have s82 := keep s23''
      have t82 := keep (x75.keep (hd.ext.keep s6))
      refine ⟨s82.live3 (by simp), fun w84 s84 => ?_⟩
      obtain ⟨b84, u84⟩ := s82.set3 s84
      have x82 := OwnB.new_ext (x73.trans x75) u82 fun y hy => OwnB.blk o75 hy
      rw [w64 (n := c' + 1) (by omega)]
      refine ⟨⟨by omega, by omega, hr0, hs, ext_upd x82 n23' u84, k6, k23, p2, _, c2, rfl, rfl, ne', n6', n23', u84.keep t82 ne', b84, ?_⟩, by show (cols - (c' + 1)).toNat < (cols - c').toNat; omega⟩
      rw [show (c' + 1).toNat = c'.toNat + 1 by omega, ← Nat.add_assoc, ← genA_succ val (by omega)]
      exact OwnB.apart o82 u84 s82 ty_mat.1
    · simp only [decide_eq_false_iff_not] at ht
      rw [w64 (n := r + 1) (by omega)]
      refine ⟨⟨by omega, by omega, hx59, k6, k23, p', l', cp', rfl, rfl, ne', n6', n23', s6, s23, ?_⟩, by show (rows - (r + 1)).toNat < (rows - r).toNat; omega⟩
      rw [show (r + 1).toNat = r.toNat + 1 by omega, Nat.add_mul, Nat.one_mul, show cols.toNat = c'.toNat by omega] at *
      exact ho'
  · simp only [decide_eq_false_iff_not] at hs
    refine ⟨_, r23'.cell0 rfl, _, r23'.cell3 rfl, _, _, _, r23'.cell3 rfl, ?_⟩
    refine ⟨r6''.live0 (by simp), fun w88 s88 => ?_⟩
    obtain ⟨c1, v1⟩ := r6''.set0 s88
    refine ⟨c1.live3 (by simp), fun w89 s89 => ?_⟩
    obtain ⟨c2, v2⟩ := c1.set3 s89
    refine ⟨c2.live3 (by simp), fun w90 s90 => ?_⟩
    obtain ⟨c3, v3⟩ := c2.set3 s90
    refine ⟨_, c3.cell0 rfl, _, c3.cell3 rfl, _, _, _, c3.cell3 rfl, ext_upd (ext_upd (ext_upd hx n6' v1) n6' v2) n6' v3, .inr ⟨hk, p, l, c, by rw [er, ec], ?_⟩⟩
    rw [show r.toNat = rows.toNat by omega] at ho
    exact OwnB.apart (OwnB.apart (OwnB.apart ho v1 r6'' ty_mat.1) v2 c1 ty_mat.1) v3 c2 ty_mat.1

set_option maxHeartbeats 1000000 in
theorem cparity_spec {f : Option Addr} {w : World} (hf : FieldAt w f) (k m : Int) :
    Calls Try.prog 71 #[.pointer f, .int .i64 k, .int .i64 m] w fun e w' => Ext w w' ∧
      ((¬ kmOk k m ∧ e = .returned (.tuple #[matV 0 0 none 0 0, .int .i64 50])) ∨ kmOk k m ∧ ∃ p l c, e = .returned (.tuple #[matV m k p l c, .int .i64 0]) ∧ OwnB w' w.heap.size p l c (genA (parV k.toNat) k.toNat (m.toNat * k.toNat))) := by
  refine (F71_calls f k m w (fun v w' => Ext w w' ∧
      ((¬ kmOk k m ∧ v = .tuple #[matV 0 0 none 0 0, .int .i64 50]) ∨ kmOk k m ∧ ∃ p l c, v = .tuple #[matV m k p l c, .int .i64 0] ∧ OwnB w' w.heap.size p l c (genA (parV k.toNat) k.toNat (m.toNat * k.toNat)))) ?_).mono (by
    rintro e w' ⟨v, rfl, hx, ⟨h, rfl⟩ | ⟨h, p, l, c, rfl, ho⟩⟩
    · exact ⟨hx, .inl ⟨h, rfl⟩⟩
    · exact ⟨hx, .inr ⟨h, p, l, c, rfl, ho⟩⟩)
  intro k4 w5 h4 k6 w7 h6 k8 w9 h8
  have r4 : RowK w9 k4 25 #[.pointer f] := h8.ext.keep (h6.ext.keep h4.at)
  have r6 : RowK w9 k6 3 #[.int .i64 k] := h8.ext.keep h6.at
  have r8 : RowK w9 k8 82 (matC 0 0 none 0 0) := h8.at
  have x9 : Ext w w9 := h4.ext.trans (h6.ext.trans h8.ext)
  have n8 : w.heap.size ≤ k8 := by rw [h8.size.1]; exact (h4.ext.trans h6.ext).size
  refine ⟨_, r4.cell, _, r6.cell, _, r6.cell, ?_⟩
  refine (made_par_spec (qa := at0 k4) (qb := at0 k6) (val := parV k.toNat) (k := k) (m := m) (rows := m) (cols := k) (hf.ext x9) (fun ⟨b1, b2, b3, b4⟩ => ⟨by omega, by omega, by omega, by omega⟩) (fun w' hx r c ⟨b1, b2, b3, b4⟩ hr hc => ?_)).mono ?_
  · have r6' : RowK w' k6 3 #[.int .i64 ((k.toNat : Nat) : Int)] := by rw [show ((k.toNat : Nat) : Int) = k by omega]; exact hx.keep r6
    exact parity1_spec (hf.ext (x9.trans hx)) (hx.keep r4) r6' (by omega) (by omega) (by omega)
  · rintro e w13 ⟨x13, hv⟩
    have r8' : RowK w13 k8 82 (matC 0 0 none 0 0) := x13.keep r8
    have fin : ∀ (a b : Int) (p : Option Addr) (l c : Nat) (er : Int) (Q : World → Prop), (∀ w21, Ext w w21 → (∀ {p : Option Addr} {l c : Nat} {bs : List UInt8} {b : Nat}, OwnB w13 b p l c bs → OwnB w21 b p l c bs) → Q w21) →
        (Live w13 (at0 k8) ∧ (∀ w19 : World, SetC w13 (at0 k8) (Value.int .i64 a) w19 → (Live w19 ((at0 k8).add 1) ∧ (∀ w20 : World, SetC w19 ((at0 k8).add 1) (Value.int .i64 b) w20 → (Live w20 ((at0 k8).add 2) ∧ (∀ w21 : World, SetC w20 ((at0 k8).add 2) (Value.slice p l c) w21 →
          w21.cell? (at0 k8) = some (.int .i64 a) ∧ w21.cell? ((at0 k8).add 1) = some (.int .i64 b) ∧ w21.cell? ((at0 k8).add 2) = some (.slice p l c) ∧ Q w21)))))) := by
      intro a b p l c er Q hQ
      refine ⟨r8'.live0 (by simp), fun w19 s19 => ?_⟩
      obtain ⟨c1, v1⟩ := r8'.set0 s19
      refine ⟨c1.live3 (by simp), fun w20 s20 => ?_⟩
      obtain ⟨c2, v2⟩ := c1.set3 s20
      refine ⟨c2.live3 (by simp), fun w21 s21 => ?_⟩
      obtain ⟨c3, v3⟩ := c2.set3 s21
      exact ⟨c3.cell0 rfl, c3.cell3 rfl, c3.cell3 rfl, hQ _ (ext_upd (ext_upd (ext_upd (x9.trans x13) n8 v1) n8 v2) n8 v3) fun o => OwnB.apart (OwnB.apart (OwnB.apart o v1 r8' ty_mat.1) v2 c1 ty_mat.1) v3 c2 ty_mat.1⟩
    rcases hv with ⟨hk, rfl⟩ | ⟨hk, p, l, c, rfl, ho⟩
    · obtain ⟨g1, g2⟩ := fin 0 0 none 0 0 50 (fun w21 => Ext w w21) fun w21 hx _ => hx
      refine ⟨_, _, _, _, _, _, rfl, g1, fun w19 s19 => ?_⟩
      obtain ⟨g3, g4⟩ := g2 w19 s19
      refine ⟨g3, fun w20 s20 => ?_⟩
      obtain ⟨g5, g6⟩ := g4 w20 s20
      refine ⟨g5, fun w21 s21 => ?_⟩
      obtain ⟨g7, g8, g9, g10⟩ := g6 w21 s21
      exact ⟨_, g7, _, g8, _, _, _, g9, g10, .inl ⟨hk, rfl⟩⟩
    · obtain ⟨g1, g2⟩ := fin m k p l c 0 (fun w21 => Ext w w21 ∧ OwnB w21 w9.heap.size p l c (genA (parV k.toNat) k.toNat (m.toNat * k.toNat))) fun w21 hx hk => ⟨hx, hk ho⟩
      refine ⟨_, _, _, _, _, _, rfl, g1, fun w19 s19 => ?_⟩
      obtain ⟨g3, g4⟩ := g2 w19 s19
      refine ⟨g3, fun w20 s20 => ?_⟩
      obtain ⟨g5, g6⟩ := g4 w20 s20
      refine ⟨g5, fun w21 s21 => ?_⟩
      obtain ⟨g7, g8, g9, g10, g11⟩ := g6 w21 s21
      exact ⟨_, g7, _, g8, _, _, _, g9, g10, .inr ⟨hk, p, l, c, rfl, OwnB.base_le g11 x9.size⟩⟩
end Go.Proofs.Ytpmkjpgoekjcfaa
