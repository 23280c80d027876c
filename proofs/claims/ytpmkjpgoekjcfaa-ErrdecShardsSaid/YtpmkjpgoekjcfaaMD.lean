import Derived.Test.YtpmkjpgoekjcfaaMC
import Derived.Test.YtpmkjpgoekjcfaaME
/- Cauchy's generator. -/
namespace Go.Proofs.Ytpmkjpgoekjcfaa
open Go Go.Vc Go.Gf

theorem gen1_spec {f : Option Addr} {w : World} {kf kk k r c : Nat} (hf : FieldAt w f) (h1 : RowK w kf 25 #[.pointer f]) (h2 : RowK w kk 3 #[.int .i64 (k : Int)]) (_hk : k ≤ 256) (hr : r ≤ 256) (hc : c ≤ 256) :
    Calls Try.prog 74 #[.int .i64 (r : Int), .int .i64 (c : Int), .pointer (some (at0 kk)), .pointer (some (at0 kf))] w fun e w' => e = .returned (vb (genV k r c)) ∧ Ext w w' := by
  refine (F74_calls r c (at0 kk) (at0 kf) w (fun v w' => v = vb (genV k r c) ∧ Ext w w') ?_).mono (by rintro e w' ⟨v, rfl, rfl, h⟩; exact ⟨rfl, h⟩)
  unfold F74 genV
  refine ⟨_, h2.cell, condB_of (fun h => ?_) (fun h => ?_)⟩
  · simp only [decide_eq_true_eq] at h
    rw [if_pos (show r < k by omega)]
    refine (F75_calls r c w (fun v w' => v = vb (if r = c then 1 else 0) ∧ w' = w) ?_).mono ?_
    · unfold F75
      refine condB_of (fun h => ?_) (fun h => ?_)
      · simp only [decide_eq_true_eq] at h
        rw [if_pos (show r = c by omega)]
        exact ⟨rfl, rfl⟩
      · simp only [decide_eq_false_iff_not] at h
        rw [if_neg (show ¬ r = c by omega)]
        exact ⟨rfl, rfl⟩
    · rintro e w' ⟨v, rfl, rfl, rfl⟩
      exact ⟨_, rfl, rfl, Upd.refl _ _⟩
  · simp only [decide_eq_false_iff_not] at h
    rw [if_neg (show ¬ r < k by omega)]
    refine ⟨_, h1.cell, (between_spec hf (by omega) (by omega)).mono ?_⟩
    rintro e w2 ⟨rfl, hx⟩
    exact ⟨_, rfl, rfl, hx⟩

set_option maxHeartbeats 4000000 in
theorem made_gen_spec {f : Option Addr} {w : World} {qa qb : Addr} {val : Nat → Nat → UInt8} {k m rows cols : Int} (hf : FieldAt w f) (hr : kmOk k m → 0 ≤ rows ∧ rows ≤ 256 ∧ 0 ≤ cols ∧ cols ≤ 256)
    (hcall : ∀ w', Ext w w' → ∀ r c : Nat, kmOk k m → (r : Int) < rows → (c : Int) < cols → Calls Try.prog 74 #[.int .i64 (r : Int), .int .i64 (c : Int), .pointer (some qa), .pointer (some qb)] w' fun e w'' => e = .returned (vb (val r c)) ∧ Ext w' w'') :
    Calls Try.prog 73 #[.pointer f, .int .i64 k, .int .i64 m, .int .i64 rows, .int .i64 cols, .func (.func 74) #[] #[.pointer (some qa), .pointer (some qb)]] w fun e w' => Ext w w' ∧
      ((¬ kmOk k m ∧ e = .returned (.tuple #[matV 0 0 none 0 0, .int .i64 50])) ∨ kmOk k m ∧ ∃ p l c, e = .returned (.tuple #[matV rows cols p l c, .int .i64 0]) ∧ OwnB w' w.heap.size p l c (genA val cols.toNat (rows.toNat * cols.toNat))) := by
  refine (F73_74_calls f k m rows cols qa qb w (fun v w' => Ext w w' ∧
      ((¬ kmOk k m ∧ v = .tuple #[matV 0 0 none 0 0, .int .i64 50]) ∨ kmOk k m ∧ ∃ p l c, v = .tuple #[matV rows cols p l c, .int .i64 0] ∧ OwnB w' w.heap.size p l c (genA val cols.toNat (rows.toNat * cols.toNat))))
    (fun q6 q23 _ _ r w1 => 0 ≤ r ∧ r ≤ rows ∧ MadeI w val rows.toNat cols.toNat q6 q23 (r.toNat * cols.toNat) w1) (fun _ _ _ _ r _ => (rows - r).toNat)
    (fun q6 q23 r _ _ _ _ c w1 => 0 ≤ c ∧ c ≤ cols ∧ 0 ≤ r ∧ r < rows ∧ MadeI w val rows.toNat cols.toNat q6 q23 (r.toNat * cols.toNat + c.toNat) w1) (fun _ _ _ _ _ _ _ c _ => (cols - c).toNat) ?_).mono (by
    rintro e w' ⟨v, rfl, hx, ⟨h, rfl⟩ | ⟨h, p, l, c, rfl, ho⟩⟩
    · exact ⟨hx, .inl ⟨h, rfl⟩⟩
    · exact ⟨hx, .inr ⟨h, p, l, c, rfl, ho⟩⟩)
  intro k6 w7 h6
  have r6 : RowK w7 k6 82 (matC 0 0 none 0 0) := h6.at
  have n6 : w.heap.size ≤ k6 := by rw [h6.size.1]; exact Nat.le_refl _
  have x7 := h6.ext
  rw [hf.there]
  refine condB_of (fun h => by cases h) fun _ => (ccheck_spec k m w7).mono ?_
  rintro e w14 ⟨rfl, rfl⟩
  refine ⟨_, rfl, condB_of (fun hc => ?_) (fun hc => ?_)⟩
  · simp only [Bool.not_eq_true', decide_eq_false_iff_not] at hc
    have hk : ¬ kmOk k m := fun h => hc (kmE_ok h)
    refine ⟨r6.live0 (by simp), fun w17 s17 => ?_⟩
    obtain ⟨a1, u1⟩ := r6.set0 s17
    refine ⟨a1.live3 (by simp), fun w18 s18 => ?_⟩
    obtain ⟨a2, u2⟩ := a1.set3 s18
    refine ⟨a2.live3 (by simp), fun w19 s19 => ?_⟩
    obtain ⟨a3, u3⟩ := a2.set3 s19
    refine ⟨_, a3.cell0 rfl, _, a3.cell3 rfl, _, _, _, a3.cell3 rfl, ext_upd (ext_upd (ext_upd x7 n6 u1) n6 u2) n6 u3, .inl ⟨hk, ?_⟩⟩
    rw [kmE_bad hk]
  simp only [Bool.not_eq_false', decide_eq_true_eq] at hc
  have hk : kmOk k m := Decidable.byContradiction fun h => by rw [kmE_bad h] at hc; omega
  obtain ⟨b1, b2, b3, b4⟩ := hr hk
  have er : ((rows.toNat : Nat) : Int) = rows := by omega
  have ec : ((cols.toNat : Nat) : Int) = cols := by omega
  intro k23 w24 h23
  have r23 : RowK w24 k23 82 (matC 0 0 none 0 0) := h23.at
  have n23 : w.heap.size ≤ k23 := by rw [h23.size.1]; exact x7.size
  have ne : k6 ≠ k23 := by have := lt_of_heap r6; rw [h23.size.1]; omega
  refine ⟨r23.live0 (by simp), fun w25 s25 => ?_⟩
  obtain ⟨a1, u1⟩ := r23.set0 s25
  refine ⟨a1.live3 (by simp), fun w26 s26 => ?_⟩
  obtain ⟨a2, u2⟩ := a1.set3 s26
  refine ⟨a2.live3 (by simp), fun w27 s27 => ?_⟩
  obtain ⟨a3, u3⟩ := a2.set3 s27
  have x27 := ext_upd (ext_upd (ext_upd (x7.trans h23.ext) n23 u1) n23 u2) n23 u3
  have r6' : RowK w27 k6 82 (matC 0 0 none 0 0) := u3.keep (u2.keep (u1.keep (h23.ext.keep r6) ne) ne) ne
  refine ⟨⟨by omega, b1, x27, k6, k23, none, 0, 0, rfl, rfl, ne, n6, n23, r6', ?_, ?_⟩, ?_⟩
  · rw [er, ec]; exact a3
  · rw [show (0 : Int).toNat * cols.toNat = 0 by simp]; exact OwnS.nil _ _ _ _
  rintro r w32 ⟨hr0, hr1, hx, k6', k23', p, l, c, g1, g2, ne', n6', n23', r6'', r23', ho⟩
  simp only [Option.some.injEq, at0, Addr.mk.injEq, and_true] at g1 g2
  subst g1 g2
  intros
  refine condB_of (fun hs => ?_) (fun hs => ?_)
  · simp only [decide_eq_true_eq] at hs
    refine ⟨⟨by omega, b3, hr0, hs, hx, k6, k23, p, l, c, rfl, rfl, ne', n6', n23', r6'', r23', by rw [show (0 : Int).toNat = 0 from rfl, Nat.add_zero]; exact ho⟩, ?_⟩
    rintro c' w59 ⟨hc0, hc1, _, _, hx59, k6', k23', p', l', cp', g1, g2, _, _, _, s6, s23, ho'⟩
    simp only [Option.some.injEq, at0, Addr.mk.injEq, and_true] at g1 g2
    subst g1 g2
    intros
    refine condB_of (fun ht => ?_) (fun ht => ?_)
    · simp only [decide_eq_true_eq] at ht
      intro w73 hd
      have x73 := hx59.trans hd.ext
      have s23' : RowK w73 k23 82 (matC rows.toNat cols.toNat p' l' cp') := hd.ext.keep s23
      refine ⟨_, _, _, s23'.cell3 rfl, ?_⟩
      have hsp := hcall w73 x73 r.toNat c'.toNat hk (by omega) (by omega)
      rw [show ((r.toNat : Nat) : Int) = r by omega, show ((c'.toNat : Nat) : Int) = c' by omega] at hsp
      refine hsp.mono ?_
      rintro e w75 ⟨rfl, x75⟩
      have s23'' : RowK w75 k23 82 (matC rows.toNat cols.toNat p' l' cp') := x75.keep s23'
      refine ⟨_, rfl, ⟨_, _, _, s23''.cell3 rfl, rfl⟩, fun k79 w80 h80 => ?_⟩
      have o75 := OwnB.ext (OwnB.ext ho' hd.ext) x75
      have l75 := OwnB.len o75
      rw [genA_len] at l75
      have hbig : r.toNat * cols.toNat ≤ 256 * 256 := Nat.mul_le_mul (by omega) (by omega)
      obtain ⟨p2, c2, w82, hrun, o82, u82⟩ := OwnB.push o75 h80 (x73.trans x75).size (by omega)
      have s80 : RowK w80 k23 82 (matC rows.toNat cols.toNat p' l' cp') := h80.ext.keep s23''
      refine ⟨⟨_, _, _, s80.cell3 rfl, rfl⟩, _, _, _, w82, hrun, ?_⟩
      have keep : ∀ {k : Nat} {cs : Array Value}, RowK w75 k 82 cs → RowK w82 k 82 cs := fun h => RowK.keep h u82 fun y hy => by
        obtain ⟨cs, e', fz, h7, h8⟩ := OwnS.typed o75 hy
        exact ⟨cs, e', fz, h7, by rw [h8]; exact ty_mat.1.symm⟩
      have s82 := keep s23''
      have t82 := keep (x75.keep (hd.ext.keep s6))
      refine ⟨s82.live3 (by simp), fun w84 s84 => ?_⟩
      obtain ⟨b84, u84⟩ := s82.set3 s84
      have x82 := OwnB.new_ext (x73.trans x75) u82 fun y hy => OwnB.blk o75 hy
      rw [w64 (n := c' + 1) (by omega)]
      refine ⟨⟨by omega, by omega, hr0, hs, ext_upd x82 n23' u84, k6, k23, p2, _, c2, rfl, rfl, ne', n6', n23', u84.keep t82 ne', b84, ?_⟩, by show (cols - (c' + 1)).toNat < (cols - c').toNat; omega⟩
      rw [show (c' + 1).toNat = c'.toNat + 1 by omega, ← Nat.add_assoc, ← genA_succ val (by omega)]
      exact OwnB.apart o82 u84 s82 ty_mat.1
    · simp only [decide_eq_false_iff_not] at ht
      rw [w64 (n := r + 1) (by omega)]
      refine ⟨⟨by omega, by omega, hx59, k6, k23, p', l', cp', rfl, rfl, ne', n6', n23', s6, s23, ?_⟩, by show (rows - (r + 1)).toNat < (rows - r).toNat; omega⟩
      rw [show (r + 1).toNat = r.toNat + 1 by omega, Nat.add_mul, Nat.one_mul, show cols.toNat = c'.toNat by omega] at *
      exact ho'
  · simp only [decide_eq_false_iff_not] at hs
    refine ⟨_, r23'.cell0 rfl, _, r23'.cell3 rfl, _, _, _, r23'.cell3 rfl, ?_⟩
    refine ⟨r6''.live0 (by simp), fun w88 s88 => ?_⟩
    obtain ⟨c1, v1⟩ := r6''.set0 s88
    refine ⟨c1.live3 (by simp), fun w89 s89 => ?_⟩
    obtain ⟨c2, v2⟩ := c1.set3 s89
    refine ⟨c2.live3 (by simp), fun w90 s90 => ?_⟩
    obtain ⟨c3, v3⟩ := c2.set3 s90
    refine ⟨_, c3.cell0 rfl, _, c3.cell3 rfl, _, _, _, c3.cell3 rfl, ext_upd (ext_upd (ext_upd hx n6' v1) n6' v2) n6' v3, .inr ⟨hk, p, l, c, by rw [er, ec], ?_⟩⟩
    rw [show r.toNat = rows.toNat by omega] at ho
    exact OwnB.apart (OwnB.apart (OwnB.apart ho v1 r6'' ty_mat.1) v2 c1 ty_mat.1) v3 c2 ty_mat.1

set_option maxHeartbeats 1000000 in
theorem cgen_spec {f : Option Addr} {w : World} (hf : FieldAt w f) (k m : Int) :
    Calls Try.prog 51 #[.pointer f, .int .i64 k, .int .i64 m] w fun e w' => Ext w w' ∧
      ((¬ kmOk k m ∧ e = .returned (.tuple #[matV 0 0 none 0 0, .int .i64 50])) ∨ kmOk k m ∧ ∃ p l c, e = .returned (.tuple #[matV (k + m) k p l c, .int .i64 0]) ∧ OwnB w' w.heap.size p l c (genA (genV k.toNat) k.toNat ((k + m).toNat * k.toNat))) := by
  refine (F51_calls f k m w (fun v w' => Ext w w' ∧
      ((¬ kmOk k m ∧ v = .tuple #[matV 0 0 none 0 0, .int .i64 50]) ∨ kmOk k m ∧ ∃ p l c, v = .tuple #[matV (k + m) k p l c, .int .i64 0] ∧ OwnB w' w.heap.size p l c (genA (genV k.toNat) k.toNat ((k + m).toNat * k.toNat)))) ?_).mono (by
    rintro e w' ⟨v, rfl, hx, ⟨h, rfl⟩ | ⟨h, p, l, c, rfl, ho⟩⟩
    · exact ⟨hx, .inl ⟨h, rfl⟩⟩
    · exact ⟨hx, .inr ⟨h, p, l, c, rfl, ho⟩⟩)
  intro k4 w5 h4 k6 w7 h6 k8 w9 h8
  have r4 : RowK w9 k4 25 #[.pointer f] := h8.ext.keep (h6.ext.keep h4.at)
  have r6 : RowK w9 k6 3 #[.int .i64 k] := h8.ext.keep h6.at
  have r8 : RowK w9 k8 82 (matC 0 0 none 0 0) := h8.at
  have x9 : Ext w w9 := h4.ext.trans (h6.ext.trans h8.ext)
  have n8 : w.heap.size ≤ k8 := by rw [h8.size.1]; exact (h4.ext.trans h6.ext).size
  refine ⟨_, r4.cell, _, r6.cell, _, r6.cell, _, r6.cell, ?_⟩
  refine (made_gen_spec (qa := at0 k6) (qb := at0 k4) (val := genV k.toNat) (k := k) (m := m) (rows := IntKind.i64.wrap (k + m)) (cols := k) (hf.ext x9) (fun ⟨b1, b2, b3, b4⟩ => by rw [w64 (n := k + m) (by omega)]; exact ⟨by omega, by omega, by omega, by omega⟩) (fun w' hx r c ⟨b1, b2, b3, b4⟩ hr hc => ?_)).mono ?_
  · rw [w64 (n := k + m) (by omega)] at hr
    have r6' : RowK w' k6 3 #[.int .i64 ((k.toNat : Nat) : Int)] := by rw [show ((k.toNat : Nat) : Int) = k by omega]; exact hx.keep r6
    exact gen1_spec (hf.ext (x9.trans hx)) (hx.keep r4) r6' (by omega) (by omega) (by omega)
  · rintro e w13 ⟨x13, hv⟩
    have r8' : RowK w13 k8 82 (matC 0 0 none 0 0) := x13.keep r8
    have fin : ∀ (a b : Int) (p : Option Addr) (l c : Nat) (er : Int) (Q : World → Prop), (∀ w21, Ext w w21 → (∀ {p : Option Addr} {l c : Nat} {bs : List UInt8} {b : Nat}, OwnB w13 b p l c bs → OwnB w21 b p l c bs) → Q w21) →
        (Live w13 (at0 k8) ∧ (∀ w19 : World, SetC w13 (at0 k8) (Value.int .i64 a) w19 → (Live w19 ((at0 k8).add 1) ∧ (∀ w20 : World, SetC w19 ((at0 k8).add 1) (Value.int .i64 b) w20 → (Live w20 ((at0 k8).add 2) ∧ (∀ w21 : World, SetC w20 ((at0 k8).add 2) (Value.slice p l c) w21 →
          w21.cell? (at0 k8) = some (.int .i64 a) ∧ w21.cell? ((at0 k8).add 1) = some (.int .i64 b) ∧ w21.cell? ((at0 k8).add 2) = some (.slice p l c) ∧ Q w21)))))) := by
      intro a b p l c er Q hQ
      refine ⟨r8'.live0 (by simp), fun w19 s19 => ?_⟩
      obtain ⟨c1, v1⟩ := r8'.set0 s19
      refine ⟨c1.live3 (by simp), fun w20 s20 => ?_⟩
      obtain ⟨c2, v2⟩ := c1.set3 s20
      refine ⟨c2.live3 (by simp), fun w21 s21 => ?_⟩
      obtain ⟨c3, v3⟩ := c2.set3 s21
      exact ⟨c3.cell0 rfl, c3.cell3 rfl, c3.cell3 rfl, hQ _ (ext_upd (ext_upd (ext_upd (x9.trans x13) n8 v1) n8 v2) n8 v3) fun o => OwnB.apart (OwnB.apart (OwnB.apart o v1 r8' ty_mat.1) v2 c1 ty_mat.1) v3 c2 ty_mat.1⟩
    rcases hv with ⟨hk, rfl⟩ | ⟨hk, p, l, c, rfl, ho⟩
    · obtain ⟨g1, g2⟩ := fin 0 0 none 0 0 50 (fun w21 => Ext w w21) fun w21 hx _ => hx
      refine ⟨_, _, _, _, _, _, rfl, g1, fun w19 s19 => ?_⟩
      obtain ⟨g3, g4⟩ := g2 w19 s19
      refine ⟨g3, fun w20 s20 => ?_⟩
      obtain ⟨g5, g6⟩ := g4 w20 s20
      refine ⟨g5, fun w21 s21 => ?_⟩
      obtain ⟨g7, g8, g9, g10⟩ := g6 w21 s21
      exact ⟨_, g7, _, g8, _, _, _, g9, g10, .inl ⟨hk, rfl⟩⟩
    · obtain ⟨a1, a2, a3, a4⟩ := hk
      have hk : kmOk k m := ⟨a1, a2, a3, a4⟩
      rw [w64 (n := k + m) (by omega)] at ho
      have ew : IntKind.i64.wrap (k + m) = k + m := w64 (by omega)
      rw [ew]
      obtain ⟨g1, g2⟩ := fin (k + m) k p l c 0 (fun w21 => Ext w w21 ∧ OwnB w21 w9.heap.size p l c (genA (genV k.toNat) k.toNat ((k + m).toNat * k.toNat))) fun w21 hx hk => ⟨hx, hk ho⟩
      refine ⟨_, _, _, _, _, _, rfl, g1, fun w19 s19 => ?_⟩
      obtain ⟨g3, g4⟩ := g2 w19 s19
      refine ⟨g3, fun w20 s20 => ?_⟩
      obtain ⟨g5, g6⟩ := g4 w20 s20
      refine ⟨g5, fun w21 s21 => ?_⟩
      obtain ⟨g7, g8, g9, g10, g11⟩ := g6 w21 s21
      exact ⟨_, g7, _, g8, _, _, _, g9, g10, .inr ⟨hk, p, l, c, rfl, OwnB.base_le g11 x9.size⟩⟩
end Go.Proofs.Ytpmkjpgoekjcfaa

/- Matrices in memory: rows, sums of rows, copies into rows. -/
namespace Go.Proofs.Ytpmkjpgoekjcfaa
open Go Go.Vc Go.Gf

theorem ix_lt {R C r c : Nat} (hr : r < R) (hc : c < C) : r * C + c < R * C := by
  have := Nat.mul_le_mul_right C (show r + 1 ≤ R from hr)
  rw [Nat.add_mul, Nat.one_mul] at this
  omega
theorem ix_inj {C r c r' c' : Nat} (hc : c < C) (hc' : c' < C) (h : r * C + c = r' * C + c') : r = r' ∧ c = c' := by
  have e : ∀ r c, c < C → (r * C + c) / C = r ∧ (r * C + c) % C = c := fun r c hc => by
    rw [Nat.mul_comm]
    exact ⟨by rw [Nat.mul_add_div (by omega), Nat.div_eq_of_lt hc, Nat.add_zero], by rw [Nat.mul_add_mod, Nat.mod_eq_of_lt hc]⟩
  have h1 := e r c hc
  have h2 := e r' c' hc'
  rw [h] at h1
  exact ⟨h1.1.symm.trans h2.1, h1.2.symm.trans h2.2⟩

/-- a matrix' numbers, row by row, in a row of their own -/
structure MatM (w : World) (base k R C : Nat) (V : Nat → Nat → UInt8) : Prop where
  le : base ≤ k
  row : ∃ bs : List UInt8, bs.length = R * C ∧ RowK w k 5 (encB bs).toArray ∧ ∀ r c, r < R → c < C → co bs (r * C + c) = V r c
section
variable {w w' : World} {base k R C : Nat} {V : Nat → Nat → UInt8}
theorem MatM.ext (h : MatM w base k R C V) (hu : Ext w w') : MatM w' base k R C V := by
  obtain ⟨bs, h1, h2, h3⟩ := h.row
  exact ⟨h.le, bs, h1, hu.keep h2, h3⟩
theorem MatM.base_le {b : Nat} (h : MatM w base k R C V) (hb : b ≤ base) : MatM w b k R C V := ⟨Nat.le_trans hb h.le, h.row⟩
theorem MatM.congr {V' : Nat → Nat → UInt8} (h : MatM w base k R C V) (hV : ∀ r c, r < R → c < C → V' r c = V r c) : MatM w base k R C V' := by
  obtain ⟨bs, h1, h2, h3⟩ := h.row
  exact ⟨h.le, bs, h1, h2, fun r c hr hc => by rw [h3 r c hr hc, hV r c hr hc]⟩
theorem MatM.typ (h : MatM w base k R C V) : ∃ cs, RowK w k 5 cs := let ⟨_, _, h2, _⟩ := h.row; ⟨_, h2⟩
theorem MatM.lt (h : MatM w base k R C V) : k < w.heap.size := let ⟨_, h2⟩ := h.typ; lt_of_heap h2
theorem MatM.keep {k' : Nat} {e : TypeId} {cs : Array Value} (h : MatM w base k R C V) (hu : Upd (fun x => x = k') w w') (hk : RowK w k' e cs) (he : e ≠ 5) : MatM w' base k R C V := by
  obtain ⟨bs, h1, h2, h3⟩ := h.row
  exact ⟨h.le, bs, h1, hu.keep h2 (RowK.ne h2 hk he.symm), h3⟩
theorem MatM.apart {k' : Nat} (h : MatM w base k R C V) (hu : Upd (fun x => x = k') w w') (hk : k ≠ k') : MatM w' base k R C V := by
  obtain ⟨bs, h1, h2, h3⟩ := h.row
  exact ⟨h.le, bs, h1, hu.keep h2 hk, h3⟩
theorem encB_get {bs : List UInt8} {i : Nat} (hi : i < bs.length) : (encB bs).toArray[i]? = some (vb (co bs i)) := by
  simp [encB, Gf.co, List.getD_eq_getElem?_getD, hi]
theorem MatM.at (h : MatM w base k R C V) {r c : Nat} (hr : r < R) (hc : c < C) : Live w (((at0 k).add (r * C)).add c) ∧ w.cell? (((at0 k).add (r * C)).add c) = some (vb (V r c)) ∧
    ∀ b w', SetC w (((at0 k).add (r * C)).add c) (vb b) w' → MatM w' base k R C (fun i j => if i = r ∧ j = c then b else V i j) ∧ Upd (fun x => x = k) w w' := by
  obtain ⟨bs, h1, h2, h3⟩ := h.row
  have hlt := ix_lt hr hc
  rw [add_add]
  refine ⟨h2.live3 (by simp [encB_length]; omega), h2.cell3 (by rw [encB_get (by omega), h3 r c hr hc]), fun b w' hs => ?_⟩
  obtain ⟨h4, hu⟩ := h2.set3 hs
  refine ⟨⟨h.le, bs.set (r * C + c) b, by simpa using h1, ?_, fun i j hi hj => ?_⟩, hu⟩
  · have e : (encB bs).toArray.setIfInBounds (r * C + c) (vb b) = (encB (bs.set (r * C + c) b)).toArray := by simp [encB, List.map_set]
    rw [← e]; exact h4
  · rw [co_set (by omega)]
    by_cases e : i * C + j = r * C + c
    · rw [if_pos e, if_pos (ix_inj hj hc e)]
    · rw [if_neg e, if_neg (fun h => e (by rw [h.1, h.2])), h3 i j hi hj]
theorem MatM.bytes (h : MatM w base k R C V) {r s : Nat} (hr : r < R) (hs : s ≤ C) : BytesAt w (some ((at0 k).add (r * C + s))) (C - s) ((List.range (C - s)).map fun c => V r (s + c)) := by
  refine ⟨by simp, fun _ => ⟨_, rfl, fun i hi => ?_⟩⟩
  have hi' : i < C - s := by simpa using hi
  have h1 := (h.at (c := s + i) hr (by omega)).2.1
  rw [add_add] at h1
  rw [add_add, Nat.add_assoc, h1]
  simp [hi']
/-- bytes are copied into a row -/
theorem MatM.copy (h : MatM w base k R C V) {r dcap l c : Nat} {q : Addr} {xs : List UInt8} (hr : r < R) (hq : BytesAt w (some q) l xs) (hl : l ≤ C) :
    ∃ n : Int, ∃ w', Sem.run Try.prog (Builtin.copy_ #[22, 22] 3 #[.slice (some ((at0 k).add (r * C))) C dcap, .slice (some q) l c]) w = .ok (.int .i64 n) w' ∧
      MatM w' base k R C (fun i j => if i = r ∧ j < l then co xs j else V i j) ∧ Upd (fun x => x = k) w w' := by
  obtain ⟨bs, h1, h2, h3⟩ := h.row
  have hxl := hq.1
  have hC : r * C + C ≤ R * C := by
    have := Nat.mul_le_mul_right C (show r + 1 ≤ R from hr)
    rw [Nat.add_mul, Nat.one_mul] at this
    omega
  have hcs := hq.cells
  have hrun := run_copy_row (P := Try.prog) w 22 22 3 5 k (r * C) C dcap q l c (encB bs).toArray 5 (encB xs) (by kernel_rfl) (by kernel_rfl) h2
      (by rw [encB_length]; show _ = min _ _; omega) (fun j v hj => by
        obtain ⟨a', ha', hv⟩ := hcs j v hj
        cases ha'
        exact hv) (by simp [encB_length]; omega) (encB_one xs)
  let bs' := bs.take (r * C) ++ xs ++ bs.drop (r * C + xs.length)
  have he : (encB bs).toArray.toList.take (r * C) ++ encB xs ++ (encB bs).toArray.toList.drop (r * C + (encB xs).length) = encB bs' := by
    simp [bs', encB, List.map_take, List.map_drop]
  rw [he] at hrun
  rw [add_at0]
  refine ⟨((encB xs).length : Int), w.setRow k (encB bs').toArray, hrun, ⟨h.le, bs', ?_, setRow_heap _ _ _ _ _ _ h2, fun i j hi hj => ?_⟩, ?_⟩
  · simp only [bs', List.length_append, List.length_take, List.length_drop]; omega
  · have hij := ix_lt hi hj
    have hv := h3 i j hi hj
    simp only [Gf.co, List.getD_eq_getElem?_getD, bs'] at hv ⊢
    by_cases e1 : i = r
    · subst e1
      by_cases e2 : j < l
      · rw [if_pos ⟨rfl, e2⟩, List.getElem?_append_left (by simp; omega), List.getElem?_append_right (by simp; omega)]
        simp only [List.length_take]
        rw [show i * C + j - min (i * C) bs.length = j by omega]
      · rw [if_neg fun h => e2 h.2, List.getElem?_append_right (by simp; omega), ← hv, List.getElem?_drop, show i * C + xs.length + (i * C + j - (bs.take (i * C) ++ xs).length) = i * C + j by
          simp only [List.length_append, List.length_take]; omega]
    · rw [if_neg fun h => e1 h.1, ← hv]
      by_cases e2 : i < r
      · have h5 := ix_lt e2 hj
        rw [List.append_assoc, List.getElem?_append_left (by simp; omega), List.getElem?_take, if_pos h5]
      · have h5 : r * C + C ≤ i * C := by
          have := Nat.mul_le_mul_right C (show r + 1 ≤ i by omega)
          rw [Nat.add_mul, Nat.one_mul] at this
          omega
        rw [List.getElem?_append_right (by simp; omega), List.getElem?_drop, show r * C + xs.length + (i * C + j - (bs.take (r * C) ++ xs).length) = i * C + j by
          simp only [List.length_append, List.length_take]; omega]
  · exact ⟨rfl, rfl, rfl, by simp [World.setRow], fun x _ hS => by
      unfold World.setRow
      rw [Array.getElem?_modify, if_neg (fun e => hS e.symm)]⟩
end
theorem wmul {a b : Nat} (h : a * b ≤ 1073741824) : IntKind.i64.wrap ((a : Int) * (b : Int)) = ((a * b : Nat) : Int) := by
  rw [← Int.natCast_mul]
  exact w64 (by omega)

/-- a row, as it lies -/
theorem row_spec {w : World} {a : Addr} {l c C r : Nat} {rows : Int} (hC : 0 < C) (hc : (r + 1) * C ≤ c) (hb : (r + 1) * C ≤ 1048576) (hr : r ≤ 1048576) :
    Calls Try.prog 79 #[.agg #[.int .i64 rows, .int .i64 (C : Int), .slice (some a) l c], .int .i64 (r : Int)] w fun e w' => e = .returned (.slice (some (a.add (r * C))) C (c - r * C)) ∧ Ext w w' := by
  refine (F79_calls rows C (some a) l c r w (fun v w' => v = .slice (some (a.add (r * C))) C (c - r * C) ∧ Ext w w') ?_).mono (by rintro e w' ⟨v, rfl, rfl, h⟩; exact ⟨rfl, h⟩)
  intro k5 w6 h6
  have r6 : RowK w6 k5 82 (matC rows C (some a) l c) := h6.at
  have e0 : (r + 1) * C = r * C + C := by rw [Nat.add_mul, Nat.one_mul]
  have e1 : IntKind.i64.wrap ((r : Int) + 1) = ((r + 1 : Nat) : Int) := w64 (by omega)
  rw [e1]
  refine ⟨_, _, _, r6.cell3 rfl, _, r6.cell3 rfl, _, r6.cell3 rfl, ?_⟩
  rw [wmul (by omega), wmul (by omega)]
  refine ⟨⟨by omega, by omega⟩, ⟨by omega, by omega⟩, ?_, h6.ext⟩
  rw [Int.toNat_natCast, Int.toNat_natCast]
  unfold cutP
  rw [if_neg (by omega), e0]
  show Value.slice (some (a.add (r * C * 1))) _ _ = _
  rw [Nat.mul_one, Nat.add_sub_cancel_left]

theorem in256_spec {w : World} {n : Nat} (hn : n ≤ 256) : Calls Try.prog 100 #[.int .i64 (n : Int)] w fun e w' => e = .returned (.bool true) ∧ w' = w := by
  refine (F100_calls n w (fun v w' => v = .bool true ∧ w' = w) ?_).mono (by rintro e w' ⟨v, rfl, rfl, h⟩; exact ⟨rfl, h⟩)
  refine condB_of (fun _ => ⟨by simp; omega, rfl⟩) fun h => by simp only [decide_eq_false_iff_not] at h; omega
theorem mcheck_spec {w : World} {p : Option Addr} {c R C : Nat} (hR : R ≤ 256) (hC : C ≤ 256) :
    Calls Try.prog 77 #[.agg #[.int .i64 (R : Int), .int .i64 (C : Int), .slice p (R * C) c]] w fun e w' => e = .returned (.int .i64 0) ∧ Ext w w' := by
  refine (F77_calls R C p (R * C) c w (fun v w' => v = .int .i64 0 ∧ Ext w w') ?_).mono (by rintro e w' ⟨v, rfl, rfl, h⟩; exact ⟨rfl, h⟩)
  intro k4 w5 h4
  have r4 : RowK w5 k4 82 (matC R C p (R * C) c) := h4.at
  have hm : R * C ≤ 256 * 256 := Nat.mul_le_mul hR hC
  refine ⟨_, r4.cell3 rfl, (in256_spec hR).mono ?_⟩
  rintro e w7 ⟨rfl, rfl⟩
  refine ⟨_, rfl, condB_of (fun h => by simp at h) fun _ => ⟨_, r4.cell3 rfl, (in256_spec hC).mono ?_⟩⟩
  rintro e w11 ⟨rfl, rfl⟩
  refine ⟨_, rfl, condB_of (fun h => by simp at h) fun _ => ⟨_, _, _, r4.cell3 rfl, _, r4.cell3 rfl, _, r4.cell3 rfl, ?_⟩⟩
  rw [wmul (by omega)]
  exact condB_of (fun h => by simp at h) fun _ => ⟨rfl, h4.ext⟩

theorem empty_spec {w : World} {R C : Nat} (hm : R * C ≤ 1048576) :
    Calls Try.prog 78 #[.int .i64 (R : Int), .int .i64 (C : Int)] w fun e w' => ∃ k, e = .returned (matV R C (some (at0 k)) (R * C) (R * C)) ∧ MatM w' w.heap.size k R C (fun _ _ => 0) ∧ Ext w w' := by
  refine (F78_calls R C w (fun v w' => ∃ k, v = matV R C (some (at0 k)) (R * C) (R * C) ∧ MatM w' w.heap.size k R C (fun _ _ => 0) ∧ Ext w w') ?_).mono (by rintro e w' ⟨v, rfl, k, rfl, h⟩; exact ⟨k, rfl, h⟩)
  intro k3 w4 h3
  have r3 : RowK w4 k3 82 (matC 0 0 none 0 0) := h3.at
  have n3 : w.heap.size ≤ k3 := by rw [h3.size.1]; exact Nat.le_refl _
  rw [wmul (by omega), Int.toNat_natCast]
  refine ⟨⟨by omega, by omega, by omega⟩, fun k5 w6 h5 => ?_⟩
  rw [made_one 5 (.int .u8 0) (by kernel_rfl) (R * C)] at h5
  have r5 : RowK w6 k5 5 (encB (List.replicate (R * C) 0)).toArray := by
    have e : (encB (List.replicate (R * C) 0)).toArray = (List.replicate (R * C) (Value.int .u8 0)).toArray := by simp [encB]
    rw [e]; exact h5.at
  have m5 : MatM w6 w.heap.size k5 R C (fun _ _ => 0) := ⟨by rw [h5.size.1]; exact h3.ext.size, _, by simp, r5, fun r c hr hc => by
    have := ix_lt hr hc
    simp [Gf.co, List.getD_eq_getElem?_getD, this]⟩
  have r3' : RowK w6 k3 82 (matC 0 0 none 0 0) := h5.ext.keep r3
  refine ⟨r3'.live0 (by simp), fun w7 s7 => ?_⟩
  obtain ⟨c1, v1⟩ := r3'.set0 s7
  refine ⟨c1.live3 (by simp), fun w8 s8 => ?_⟩
  obtain ⟨c2, v2⟩ := c1.set3 s8
  refine ⟨c2.live3 (by simp), fun w9 s9 => ?_⟩
  obtain ⟨c3, v3⟩ := c2.set3 s9
  refine ⟨_, c3.cell0 rfl, _, c3.cell3 rfl, _, _, _, c3.cell3 rfl, k5, rfl, ((m5.keep v1 r3' ty_mat.1).keep v2 c1 ty_mat.1).keep v3 c2 ty_mat.1, ext_upd (ext_upd (ext_upd (h3.ext.trans h5.ext) n3 v1) n3 v2) n3 v3⟩

set_option maxHeartbeats 1000000 in
/-- a row's multiple is added to another one -/
theorem adds_spec {f : Option Addr} {w0 w : World} {base k R C t s ct cf : Nat} {V : Nat → Nat → UInt8} (hf : FieldAt w0 f) (hx : Ext w0 w) (hb : w0.heap.size ≤ base) (h : MatM w base k R C V) (ht : t < R) (hs : s < R) (hts : t ≠ s) (hC : C ≤ 1048576) (x : UInt8) :
    Calls Try.prog 80 #[.pointer f, .slice (some ((at0 k).add (t * C))) C ct, .slice (some ((at0 k).add (s * C))) C cf, vb x] w fun e w' => e = .returned (.tuple #[]) ∧ MatM w' base k R C (gadd t s x V) ∧ Upd (fun y => y = k) w w' := by
  refine (F80_calls f (some ((at0 k).add (t * C))) C ct (some ((at0 k).add (s * C))) C cf x.toNat w (fun v w' => v = .tuple #[] ∧ MatM w' base k R C (gadd t s x V) ∧ Upd (fun y => y = k) w w')
    (fun _ _ _ _ _ i w1 => 0 ≤ i ∧ i ≤ C ∧ Upd (fun y => y = k) w w1 ∧ MatM w1 base k R C (fun r c => if r = t ∧ (c : Int) < i then V t c ^^^ gm (V s c) x else V r c)) (fun _ _ _ _ _ i _ => (C - i).toNat) ?_).mono (by rintro e w' ⟨v, rfl, rfl, h⟩; exact ⟨rfl, h⟩)
  have hk := h.le
  refine ⟨⟨by omega, by omega, Upd.refl _ _, h.congr fun r c _ _ => by rw [if_neg (by omega)]⟩, ?_⟩
  rintro i w10 ⟨hi0, hi1, hu, hm⟩
  intros
  refine condB_of (fun h1 => ?_) (fun h1 => ?_)
  · simp only [decide_eq_true_eq] at h1
    obtain ⟨_, c1, _⟩ := hm.at (r := s) (c := i.toNat) hs (by omega)
    rw [if_neg (fun e => hts e.1.symm)] at c1
    refine ⟨⟨hi0, h1⟩, _, by rw [Nat.mul_one]; exact c1, fun w30 hd => ?_⟩
    have hm30 := hm.ext hd.ext
    have x30 : Ext w0 w30 := (OwnB.new_ext hx hu fun y hy => by rw [show y = k from hy]; omega).trans hd.ext
    obtain ⟨_, c2, _⟩ := hm30.at (r := t) (c := i.toNat) ht (by omega)
    rw [if_neg (by omega)] at c2
    refine ⟨⟨hi0, h1⟩, _, by rw [Nat.mul_one]; exact c2, (fmul_spec (hf.ext x30) (V s i.toNat) x).mono ?_⟩
    rintro e w33 ⟨rfl, x33⟩
    obtain ⟨l3, c3, s3⟩ := (hm30.ext x33).at (r := t) (c := i.toNat) ht (by omega)
    rw [if_neg (by omega)] at c3
    refine ⟨_, rfl, ⟨_, by rw [Nat.mul_one]; exact c3, rfl⟩, ⟨hi0, h1⟩, by rw [Nat.mul_one]; exact l3, fun w38 s38 => ?_⟩
    rw [Nat.mul_one, bx8] at s38
    obtain ⟨hm', u'⟩ := s3 _ _ s38
    rw [w64 (n := i + 1) (by omega)]
    refine ⟨⟨by omega, by omega, Upd.trans (hu.trans (hd.ext.trans x33).upd fun _ _ h => h) u' fun _ _ h => h, hm'.congr fun r c _ _ => ?_⟩, by show ((C : Int) - (i + 1)).toNat < ((C : Int) - i).toNat; omega⟩
    by_cases e : r = t ∧ c = i.toNat
    · rw [if_pos e, if_pos ⟨e.1, by omega⟩, e.2]
    · rw [if_neg e]
      by_cases e2 : r = t ∧ (c : Int) < i
      · rw [if_pos e2, if_pos ⟨e2.1, by omega⟩]
      · rw [if_neg e2, if_neg (fun e3 => by omega)]
  · simp only [decide_eq_false_iff_not] at h1
    refine ⟨rfl, hm.congr fun r c _ hc => ?_, hu⟩
    unfold gadd
    by_cases e : r = t
    · rw [if_pos e, if_pos ⟨e, by omega⟩]
    · rw [if_neg e, if_neg fun h => e h.1]
end Go.Proofs.Ytpmkjpgoekjcfaa

/- Some rows of a matrix. -/
namespace Go.Proofs.Ytpmkjpgoekjcfaa
open Go Go.Vc Go.Gf

/-- a matrix that is read -/
def MatR (w : World) (a : Addr) (R C : Nat) (V : Nat → Nat → UInt8) : Prop := ∀ r, r < R → BytesAt w (some (a.add (r * C))) C ((List.range C).map (V r))
theorem MatR.ext {w w' : World} {a : Addr} {R C : Nat} {V : Nat → Nat → UInt8} (h : MatR w a R C V) (hu : Ext w w') : MatR w' a R C V := fun r hr => (h r hr).ext hu
theorem MatM.read {w : World} {base k R C : Nat} {V : Nat → Nat → UInt8} (h : MatM w base k R C V) : MatR w (at0 k) R C V := fun r hr => by
  have h1 := h.bytes (s := 0) hr (Nat.zero_le _)
  simp only [Nat.add_zero, Nat.sub_zero, Nat.zero_add] at h1
  exact h1
theorem gen_read {w : World} {base R C l c : Nat} {p : Option Addr} {val : Nat → Nat → UInt8} (h : OwnB w base p l c (genA val C (R * C))) (hC : 0 < C) (hR : 0 < R) : ∃ a, p = some a ∧ R * C ≤ c ∧ l = R * C ∧ MatR w a R C val := by
  have hl := OwnB.len h
  have hle := OwnB.le h
  rw [genA_len] at hl
  have hpos : 0 < R * C := Nat.mul_pos hR hC
  obtain ⟨a, rfl, _⟩ := BytesAt.co (OwnB.bytes h) (i := 0) (by omega)
  refine ⟨a, rfl, by omega, hl, fun r hr => ⟨by simp, fun _ => ⟨_, rfl, fun i hi => ?_⟩⟩⟩
  have hi' : i < C := by simpa using hi
  have hix := ix_lt hr hi'
  obtain ⟨a', ha, h1⟩ := BytesAt.co (OwnB.bytes h) (i := r * C + i) (by omega)
  cases ha
  rw [add_add, h1, genA_co _ (by omega)]
  have e1 : (r * C + i) / C = r := by rw [Nat.mul_comm, Nat.mul_add_div (by omega), Nat.div_eq_of_lt hi', Nat.add_zero]
  have e2 : (r * C + i) % C = i := by rw [Nat.mul_comm, Nat.mul_add_mod, Nat.mod_eq_of_lt hi']
  rw [e1, e2]
  simp [hi']

theorem new_mat {w5 : World} {a b : Int} {p : Option Addr} {l c : Nat} {K : Nat → World → Prop} (hK : ∀ k11 w15, RowK w15 k11 82 (matC a b p l c) → w5.heap.size ≤ k11 → Ext w5 w15 → K k11 w15) :
    ∀ (k11 : Nat) (w12 : World), NewB w5 k11 (.cells #[.int .i64 (0 : Int), .int .i64 (0 : Int), .slice none 0 0] 82) w12 → (Live w12 (at0 k11) ∧ (∀ w13 : World, SetC w12 (at0 k11) (Value.int .i64 a) w13 → (Live w13 ((at0 k11).add 1) ∧ (∀ w14 : World, SetC w13 ((at0 k11).add 1) (Value.int .i64 b) w14 →
        (Live w14 ((at0 k11).add 2) ∧ (∀ w15 : World, SetC w14 ((at0 k11).add 2) (Value.slice p l c) w15 → K k11 w15)))))) := by
  intro k11 w12 h11
  have r11 : RowK w12 k11 82 (matC 0 0 none 0 0) := h11.at
  have n11 : w5.heap.size ≤ k11 := by rw [h11.size.1]; exact Nat.le_refl _
  refine ⟨r11.live0 (by simp), fun w13 s13 => ?_⟩
  obtain ⟨c1, v1⟩ := r11.set0 s13
  refine ⟨c1.live3 (by simp), fun w14 s14 => ?_⟩
  obtain ⟨c2, v2⟩ := c1.set3 s14
  refine ⟨c2.live3 (by simp), fun w15 s15 => ?_⟩
  obtain ⟨c3, v3⟩ := c2.set3 s15
  exact hK k11 w15 c3 n11 (ext_upd (ext_upd (ext_upd h11.ext n11 v1) n11 v2) n11 v3)

/-- what picked rows are told as -/
def pickP (w : World) (m C : Nat) (V : Nat → Nat → UInt8) (v : Value) (w' : World) : Prop := ∃ k, v = .tuple #[matV m C (some (at0 k)) (m * C) (m * C), .int .i64 0] ∧ MatM w' w.heap.size k m C V ∧ Ext w w'

set_option maxHeartbeats 4000000 in
theorem pick_spec {w : World} {a : Addr} {c R C m c4 : Nat} {p4 : Option Addr} {V : Nat → Nat → UInt8} {L : List Nat} (hA : MatR w a R C V) (hL : NatsAt w p4 m L) (hlt : ∀ t ∈ L, t < R) (hm : m ≤ 256) (hR : R ≤ 256) (hC : C ≤ 256) (hC0 : 0 < C) (hc : R * C ≤ c) :
    Calls Try.prog 53 #[.agg #[.int .i64 (R : Int), .int .i64 (C : Int), .slice (some a) (R * C) c], .slice p4 m c4] w fun e w' => ∃ v, e = .returned v ∧ pickP w m C (fun r c => V (L.getD r 0) c) v w' := by
  refine F53_calls R C (some a) (R * C) c p4 m c4 w (pickP w m C (fun r c => V (L.getD r 0) c))
    (fun q5 q7 q33 _ _ _ _ _ i w1 => 0 ≤ i ∧ i ≤ m ∧ Ext w w1 ∧ ∃ k5 k7 k33 km, q5 = some (at0 k5) ∧ q7 = some (at0 k7) ∧ q33 = some (at0 k33) ∧ w.heap.size ≤ k7 ∧ RowK w1 k5 82 (matC R C (some a) (R * C) c) ∧ RowK w1 k7 82 (matC 0 0 none 0 0) ∧
      RowK w1 k33 82 (matC m C (some (at0 km)) (m * C) (m * C)) ∧ MatM w1 w.heap.size km m C (fun r c => if (r : Int) < i then V (L.getD r 0) c else 0)) (fun _ _ _ _ _ _ _ _ i _ => (m - i).toNat) ?_
  have hml := hL.1
  have hmC : m * C ≤ 256 * 256 := Nat.mul_le_mul hm hC
  have hRC : R * C ≤ 256 * 256 := Nat.mul_le_mul hR hC
  intro k5 w6 h5 k7 w8 h7
  have r5 : RowK w8 k5 82 (matC R C (some a) (R * C) c) := h7.ext.keep h5.at
  have r7 : RowK w8 k7 82 (matC 0 0 none 0 0) := h7.at
  have x8 := h5.ext.trans h7.ext
  have n7 : w.heap.size ≤ k7 := by rw [h7.size.1]; exact h5.ext.size
  refine ⟨_, r5.cell0 rfl, _, r5.cell3 rfl, _, _, _, r5.cell3 rfl, (mcheck_spec hR hC).mono ?_⟩
  rintro e w12 ⟨rfl, x12⟩
  have x12' := x8.trans x12
  have r5' : RowK w12 k5 82 (matC R C (some a) (R * C) c) := x12.keep r5
  have r7' : RowK w12 k7 82 (matC 0 0 none 0 0) := x12.keep r7
  refine ⟨_, rfl, condB_of (fun h => by simp at h) fun _ => condB_of (fun h => by simp only [decide_eq_true_eq] at h; omega) fun _ => ⟨_, r5'.cell3 rfl, (empty_spec (R := m) (C := C) (by omega)).mono ?_⟩⟩
  rintro e w28 ⟨km, rfl, mm, x28⟩
  refine ⟨_, _, _, _, _, rfl, new_mat fun k33 w37 r33 _ x37 => ?_⟩
  have x2837 := x28.trans x37
  refine ⟨⟨by omega, by omega, x12'.trans x2837, k5, k7, k33, km, rfl, rfl, rfl, n7, x2837.keep r5', x2837.keep r7', r33, ((mm.ext x37).base_le x12'.size).congr fun r c _ _ => by rw [if_neg (by omega)]⟩, ?_⟩
  rintro i w46 ⟨hi0, hi1, hx, k5', k7', k33', km', g1, g2, g3, _, s5, s7, s33, sm⟩
  simp only [Option.some.injEq, at0, Addr.mk.injEq, and_true] at g1 g2 g3
  subst g1 g2 g3
  intros
  refine condB_of (fun hs => ?_) (fun hs => ?_)
  · simp only [decide_eq_true_eq] at hs
    obtain ⟨t, rfl⟩ := Int.eq_ofNat_of_zero_le hi0
    obtain ⟨b, rfl, hb⟩ := (hL.ext hx).get (i := t) (by omega)
    have hLt : L.getD t 0 < R := by
      rw [List.getD_eq_getElem?_getD, List.getElem?_eq_getElem (by omega)]
      exact hlt _ (List.getElem_mem _)
    refine ⟨⟨hi0, hs⟩, _, by rw [Int.toNat_natCast, Nat.mul_one]; exact hb, condB_of (fun h => by simp only [decide_eq_true_eq] at h; omega) fun _ => ⟨_, s5.cell3 rfl, condB_of (fun h => by simp only [decide_eq_true_eq] at h; omega) fun _ => fun w86 hd => ?_⟩⟩
    have s5a : RowK w86 k5 82 (matC R C (some a) (R * C) c) := hd.ext.keep s5
    have s33a : RowK w86 k33 82 (matC m C (some (at0 km')) (m * C) (m * C)) := hd.ext.keep s33
    have m1 : (t + 1) * C ≤ m * C := Nat.mul_le_mul_right C (by omega)
    have m2 : (L.getD t 0 + 1) * C ≤ R * C := Nat.mul_le_mul_right C (by omega)
    refine ⟨_, s33a.cell0 rfl, _, s33a.cell3 rfl, _, _, _, s33a.cell3 rfl, _, s5a.cell0 rfl, _, s5a.cell3 rfl, _, _, _, s5a.cell3 rfl, (row_spec hC0 (by omega) (by omega) (by omega)).mono ?_⟩
    rintro e w93 ⟨rfl, x93⟩
    have s5b : RowK w93 k5 82 (matC R C (some a) (R * C) c) := x93.keep s5a
    refine ⟨_, _, _, rfl, ⟨_, s5b.cell0 rfl, _, s5b.cell3 rfl, _, _, _, s5b.cell3 rfl, rfl⟩, (row_spec hC0 (by omega) (by omega) (by omega)).mono ?_⟩
    rintro e w99 ⟨rfl, x99⟩
    have x4699 : Ext w46 w99 := hd.ext.trans (x93.trans x99)
    obtain ⟨n, w102, hrun, sm', u'⟩ := (sm.ext x4699).copy (r := t) (dcap := m * C - t * C) (c := c - L.getD t 0 * C) (by omega) ((hA.ext (hx.trans x4699)) _ hLt) (Nat.le_refl _)
    obtain ⟨csm, rowm⟩ := (sm.ext x4699).typ
    rw [w64 (n := (t : Int) + 1) (by omega)]
    refine ⟨_, _, _, rfl, n, w102, hrun, ⟨by omega, by omega, ext_upd (hx.trans x4699) sm.le u', k5, k7, k33, km', rfl, rfl, rfl, n7, u'.keep (x4699.keep s5) (RowK.ne (x4699.keep s5) rowm ty_mat.1), u'.keep (x4699.keep s7) (RowK.ne (x4699.keep s7) rowm ty_mat.1), u'.keep (x4699.keep s33) (RowK.ne (x4699.keep s33) rowm ty_mat.1), sm'.congr fun r cc _ hcc => ?_⟩, by show ((m : Int) - ((t : Int) + 1)).toNat < ((m : Int) - (t : Int)).toNat; omega⟩
    by_cases e : r = t
    · rw [if_pos (show (r : Int) < t + 1 by omega), if_pos ⟨e, hcc⟩, e, range_co _ hcc]
    · rw [if_neg (show ¬ (r = t ∧ cc < C) from fun h => e h.1)]
      by_cases e2 : (r : Int) < t
      · rw [if_pos e2, if_pos (show (r : Int) < t + 1 by omega)]
      · rw [if_neg e2, if_neg (show ¬ (r : Int) < t + 1 by omega)]
  · simp only [decide_eq_false_iff_not] at hs
    refine ret3 (R := pickP w m C (fun r c => V (L.getD r 0) c)) s33 s7 rfl fun w' hu => ⟨km', rfl, (sm.keep hu s7 ty_mat.1).congr fun r cc hr _ => by rw [if_pos (by omega)], ext_upd hx n7 hu⟩
end Go.Proofs.Ytpmkjpgoekjcfaa

/- A matrix is inverted. -/
namespace Go.Proofs.Ytpmkjpgoekjcfaa
open Go Go.Vc Go.Gf

def RowQ (w : World) (q : Option Addr) (e : TypeId) (cs : Array Value) : Prop := ∃ k, q = some (at0 k) ∧ RowK w k e cs
theorem RowQ.get {w : World} {k : Nat} {e : TypeId} {cs : Array Value} (h : RowQ w (some (at0 k)) e cs) : RowK w k e cs := by
  obtain ⟨k', h1, h2⟩ := h
  simp only [Option.some.injEq, at0, Addr.mk.injEq, and_true] at h1
  subst h1
  exact h2
theorem RowQ.of {w : World} {k : Nat} {e : TypeId} {cs : Array Value} (h : RowK w k e cs) : RowQ w (some (at0 k)) e cs := ⟨k, rfl, h⟩
theorem RowQ.ext {w w' : World} {q : Option Addr} {e : TypeId} {cs : Array Value} (h : RowQ w q e cs) (hu : Ext w w') : RowQ w' q e cs := let ⟨k, h1, h2⟩ := h; ⟨k, h1, hu.keep h2⟩
theorem RowQ.keep {w w' : World} {q : Option Addr} {k' : Nat} {e : TypeId} {cs cs' : Array Value} (h : RowQ w q e cs) (hu : Upd (fun x => x = k') w w') (hk : RowK w k' 5 cs') (he : e ≠ 5) : RowQ w' q e cs := let ⟨k, h1, h2⟩ := h; ⟨k, h1, hu.keep h2 (RowK.ne h2 hk he)⟩
theorem at0_add_inj {k k' i : Nat} (h : (some ((at0 k).add i) : Option Addr) = some ((at0 k').add i)) : k = k' := by
  rw [add_at0, add_at0] at h
  simp only [Option.some.injEq, Addr.mk.injEq, and_true] at h
  exact h

/-- while a matrix is worked on -/
structure InvK (w : World) (n : Nat) (q7 q41 : Option Addr) (kw : Nat) (W : Nat → Nat → UInt8) (w1 : World) : Prop where
  ext : Ext w w1
  n7 : ∀ k, q7 = some (at0 k) → w.heap.size ≤ k
  r7 : RowQ w1 q7 82 (matC 0 0 none 0 0)
  r41 : RowQ w1 q41 82 (matC n ((2 * n : Nat) : Int) (some (at0 kw)) (n * (2 * n)) (n * (2 * n)))
  mat : MatM w1 w.heap.size kw n (2 * n) W
section
variable {w : World} {n kw : Nat} {q7 q41 : Option Addr} {W W' A : Nat → Nat → UInt8} {w1 w2 : World}
theorem InvK.mono (h : InvK w n q7 q41 kw W w1) (hu : Ext w1 w2) : InvK w n q7 q41 kw W w2 := ⟨h.ext.trans hu, h.n7, h.r7.ext hu, h.r41.ext hu, h.mat.ext hu⟩
theorem InvK.write (h : InvK w n q7 q41 kw W w1) (hm : MatM w2 w.heap.size kw n (2 * n) W') (hu : Upd (fun x => x = kw) w1 w2) : InvK w n q7 q41 kw W' w2 := by
  obtain ⟨cs, hr⟩ := h.mat.typ
  exact ⟨ext_upd h.ext hm.le hu, h.n7, h.r7.keep hu hr ty_mat.1, h.r41.keep hu hr ty_mat.1, hm⟩
theorem InvK.congr (h : InvK w n q7 q41 kw W w1) (e : ∀ r c, r < n → c < 2 * n → W' r c = W r c) : InvK w n q7 q41 kw W' w1 := ⟨h.ext, h.n7, h.r7, h.r41, h.mat.congr e⟩
end

def invP (w : World) (n : Nat) (A : Nat → Nat → UInt8) (v : Value) (w' : World) : Prop := ∃ k V, v = .tuple #[matV n n (some (at0 k)) (n * n) (n * n), .int .i64 0] ∧ MatM w' w.heap.size k n n V ∧
  (∀ r, r < n → ∀ c, c < n → xs n (fun j => gm (V r j) (A j c)) = if r = c then 1 else 0) ∧ Ext w w'
section
variable (w : World) (n : Nat) (a : Addr) (cp : Nat) (A : Nat → Nat → UInt8)
def GI0 : Option Addr → Option Addr → Int → Option Addr → Int → World → Int → World → Prop := fun q5 q7 _ q41 _ _ i w1 => 0 ≤ i ∧ i ≤ n ∧ RowQ w1 q5 82 (matC n n (some a) (n * n) cp) ∧
  ∃ kw, InvK w n q7 q41 kw (fun r c => if (r : Int) < i then gstart n A r c else 0) w1
def GI1 : Option Addr → Int → Option Addr → Int → World → Int → World → Prop := fun q7 _ q41 _ _ c w1 => 0 ≤ c ∧ c ≤ n ∧ ∃ kw W, InvK w n q7 q41 kw W w1 ∧ GInv n A W ∧ GDone n W c.toNat
def GI2 : Option Addr → Int → Option Addr → Int → Int → Int → World → Int → World → Prop := fun q7 _ q41 c _ _ _ p w1 => 0 ≤ c ∧ c < n ∧ c ≤ p ∧ p ≤ n ∧ ∃ kw W, InvK w n q7 q41 kw W w1 ∧ GInv n A W ∧ GDone n W c.toNat ∧ ∀ t : Nat, c ≤ (t : Int) → (t : Int) < p → W t c.toNat = 0
def GI3 : Option Addr → Int → Option Addr → Int → Option Addr → Nat → Nat → Int → Int → Int → Option Addr → Nat → Nat → Int → World → Int → World → Prop := fun q7 _ q41 c p _ _ x _ _ _ _ _ _ _ i w1 => 0 ≤ i ∧ i ≤ ((2 * n : Nat) : Int) ∧
  ∃ kw W, p = some ((at0 kw).add (c.toNat * (2 * n))) ∧ x = ((gi (W c.toNat c.toNat)).toNat : Int) ∧ W c.toNat c.toNat ≠ 0 ∧ GInv n A W ∧ GDone n W c.toNat ∧ InvK w n q7 q41 kw (fun r t => if r = c.toNat ∧ (t : Int) < i then gm (gi (W c.toNat c.toNat)) (W c.toNat t) else W r t) w1
def GI4 : Option Addr → Int → Option Addr → Int → Option Addr → Nat → Nat → Int → Int → Int → World → Int → World → Prop := fun q7 _ q41 c p _ _ _ _ _ _ r w1 => 0 ≤ r ∧ r ≤ n ∧
  ∃ kw W, p = some ((at0 kw).add (c.toNat * (2 * n))) ∧ InvK w n q7 q41 kw W w1 ∧ GInv n A W ∧ GDone n W c.toNat ∧ W c.toNat c.toNat = 1 ∧ ∀ t : Nat, (t : Int) < r → t ≠ c.toNat → W t c.toNat = 0
def GI5 : Option Addr → Int → Option Addr → Option Addr → Int → World → Int → World → Prop := fun q7 _ q41 q488 _ _ i w1 => 0 ≤ i ∧ i ≤ n ∧ ∃ kw W ko, InvK w n q7 q41 kw W w1 ∧ GInv n A W ∧ GDone n W n ∧ RowQ w1 q488 82 (matC n n (some (at0 ko)) (n * n) (n * n)) ∧ ko ≠ kw ∧
  MatM w1 w.heap.size ko n n (fun r t => if (r : Int) < i then W r (n + t) else 0)
def GM0 : Option Addr → Option Addr → Int → Option Addr → Int → World → Int → World → Nat := fun _ _ _ _ _ _ i _ => (n - i).toNat
def GM1 : Option Addr → Int → Option Addr → Int → World → Int → World → Nat := fun _ _ _ _ _ i _ => (n - i).toNat
def GM2 : Option Addr → Int → Option Addr → Int → Int → Int → World → Int → World → Nat := fun _ _ _ _ _ _ _ i _ => (n - i).toNat
def GM3 : Option Addr → Int → Option Addr → Int → Option Addr → Nat → Nat → Int → Int → Int → Option Addr → Nat → Nat → Int → World → Int → World → Nat := fun _ _ _ _ _ _ _ _ _ _ _ _ _ _ _ i _ => (((2 * n : Nat) : Int) - i).toNat
def GM4 : Option Addr → Int → Option Addr → Int → Option Addr → Nat → Nat → Int → Int → Int → World → Int → World → Nat := fun _ _ _ _ _ _ _ _ _ _ _ i _ => (n - i).toNat
def GM5 : Option Addr → Int → Option Addr → Option Addr → Int → World → Int → World → Nat := fun _ _ _ _ _ _ i _ => (n - i).toNat
end
theorem row2_le {n r : Nat} (hr : r < n) (hn : n ≤ 256) : (r + 1) * (2 * n) ≤ n * (2 * n) ∧ (r + 1) * (2 * n) ≤ 1048576 := by
  have h1 : (r + 1) * (2 * n) ≤ n * (2 * n) := Nat.mul_le_mul_right _ hr
  have h2 : n * (2 * n) ≤ 256 * 512 := Nat.mul_le_mul hn (by omega)
  exact ⟨h1, by omega⟩

set_option maxHeartbeats 4000000 in
/-- a column is done, where its pivot is there -/
theorem inv_tail {f : Option Addr} {w : World} {n cp kw k7 k41 cc c : Nat} {a : Addr} {A W : Nat → Nat → UInt8} {w52 w102 w287 : World} (hf : FieldAt w f) (hn : n ≤ 256) (hc : c < n) (hK : InvK w n (some (at0 k7)) (some (at0 k41)) kw W w287) (hG : GInv n A W) (hD : GDone n W c) (hp : W c c ≠ 0) :
    F54_A0 (c : Int) (2 * n) (some ((at0 kw).add (c * (2 * n)))) w287 f k7 (n : Int) k41 cc w52 w102 (invP w n A) (GI0 w n a cp A) (GM0 n) (GI1 w n A) (GM1 n) (GI2 w n A) (GM2 n) (GI3 w n A) (GM3 n) (GI4 w n A) (GM4 n) (GI5 w n A) (GM5 n) := by
  refine ⟨⟨by omega, by omega⟩, ?_⟩
  have c0 := (hK.mat.at (r := c) (c := c) hc (by omega)).2.1
  refine ⟨_, by rw [Int.toNat_natCast, Nat.mul_one]; exact c0, (finv_spec (hf.ext hK.ext) (W c c)).mono ?_⟩
  rintro e w291 ⟨rfl, x291⟩
  refine ⟨_, _, rfl, ⟨by omega, by omega, kw, W, rfl, rfl, hp, hG, hD, (hK.mono x291).congr fun r t _ _ => by rw [if_neg (by omega)]⟩, ?_⟩
  rintro i w310 ⟨hi0, hi1, kw', W', hp', hx', hne, hG', hD', hK'⟩
  obtain rfl := at0_add_inj hp'
  simp only [Int.toNat_natCast] at hx' hne hD' hK'
  have hgi : gi (W c c) = gi (W' c c) := vb_inj.1 hx'
  intros
  refine condB_of (fun hs => ?_) (fun hs => ?_)
  · simp only [decide_eq_true_eq] at hs
    have c1 := (hK'.mat.at (r := c) (c := i.toNat) hc (by omega)).2.1
    rw [if_neg (by omega)] at c1
    refine ⟨⟨hi0, hs⟩, _, by rw [Nat.mul_one]; exact c1, (fmul_spec (hf.ext hK'.ext) (gi (W c c)) (W' c i.toNat)).mono ?_⟩
    rintro e w327 ⟨rfl, x327⟩
    have hK2 := hK'.mono x327
    obtain ⟨l2, _, s2⟩ := hK2.mat.at (r := c) (c := i.toNat) hc (by omega)
    refine ⟨_, rfl, ⟨hi0, hs⟩, by rw [Nat.mul_one]; exact l2, fun w331 s331 => ?_⟩
    rw [Nat.mul_one] at s331
    obtain ⟨hm, hu⟩ := s2 _ _ s331
    rw [w64 (n := i + 1) (by omega)]
    refine ⟨⟨by omega, by omega, kw, W', rfl, hx', hne, hG', hD', (hK2.write hm hu).congr fun r t _ _ => ?_⟩, by show (((2 * n : Nat) : Int) - (i + 1)).toNat < (((2 * n : Nat) : Int) - i).toNat; omega⟩
    simp only [Int.toNat_natCast]
    by_cases e : r = c ∧ t = i.toNat
    · rw [if_pos (show r = c ∧ (t : Int) < i + 1 by omega), if_pos e, hgi, e.2]
    · rw [if_neg e]
      by_cases e2 : r = c ∧ (t : Int) < i
      · rw [if_pos e2, if_pos (show r = c ∧ (t : Int) < i + 1 by omega)]
      · rw [if_neg e2, if_neg (show ¬ (r = c ∧ (t : Int) < i + 1) by omega)]
  · simp only [decide_eq_false_iff_not] at hs
    have hgne : gi (W' c c) ≠ 0 := gi_ne hne
    have hK2 : InvK w n (some (at0 k7)) (some (at0 k41)) kw (gscale c (gi (W' c c)) W') w310 := hK'.congr fun r t _ ht => by
      unfold gscale
      by_cases e : r = c
      · rw [if_pos e, if_pos ⟨e, by omega⟩]
      · rw [if_neg e, if_neg fun h => e h.1]
    refine ⟨⟨by omega, by omega, kw, _, rfl, hK2, hG'.scale hgne hc, hD'.scale _ (Nat.le_refl _), ?_, fun t ht => by omega⟩, ?_⟩
    · show gscale c (gi (W' c c)) W' c c = 1
      unfold gscale
      rw [if_pos rfl, gi_gm hne]
    rintro r w343 ⟨hr0, hr1, kw', W2, hp', hK3, hG3, hD3, hone, hz⟩
    obtain rfl := at0_add_inj hp'
    simp only [Int.toNat_natCast] at hD3 hone hz
    intros
    refine condB_of (fun hs2 => ?_) (fun hs2 => ?_)
    · simp only [decide_eq_true_eq] at hs2
      obtain ⟨t, rfl⟩ := Int.eq_ofNat_of_zero_le hr0
      have hmeas : ((n : Int) - ((t : Int) + 1)).toNat < ((n : Int) - t).toNat := by omega
      rw [w64 (n := (t : Int) + 1) (by omega)]
      refine condB_of (fun hne2 => ?_) (fun heq => ?_)
      · simp only [Bool.not_eq_true', decide_eq_false_iff_not] at hne2
        have htc : t ≠ c := fun e => hne2 (by rw [e])
        intro w363 hd
        have hK4 := hK3.mono hd.ext
        have s41 := hK4.r41.get
        obtain ⟨b1, b2⟩ := row2_le (r := t) (n := n) (by omega) hn
        refine ⟨_, s41.cell0 rfl, _, s41.cell3 rfl, _, _, _, s41.cell3 rfl, _, s41.cell0 rfl, _, s41.cell3 rfl, _, _, _, s41.cell3 rfl, (row_spec (by omega) b1 b2 (by omega)).mono ?_⟩
        rintro e w370 ⟨rfl, x370⟩
        have hK5 := hK4.mono x370
        have s41b := hK5.r41.get
        refine ⟨_, _, _, rfl, ⟨_, s41b.cell0 rfl, _, s41b.cell3 rfl, _, _, _, s41b.cell3 rfl, rfl⟩, (row_spec (by omega) b1 b2 (by omega)).mono ?_⟩
        rintro e w376 ⟨rfl, x376⟩
        have hK6 := hK5.mono x376
        have c6 := (hK6.mat.at (r := t) (c := c) (by omega) (by omega)).2.1
        refine ⟨_, _, _, rfl, ⟨by omega, by omega⟩, _, by rw [Int.toNat_natCast, Nat.mul_one]; exact c6, (adds_spec hf hK6.ext (Nat.le_refl _) hK6.mat (t := t) (s := c) (by omega) hc htc (by omega) (W2 t c)).mono ?_⟩
        rintro e w381 ⟨rfl, hm, hu⟩
        refine ⟨rfl, ⟨by omega, by omega, kw, _, rfl, hK6.write hm hu, hG3.add _ htc (by omega) hc, hD3.add _ (by omega) hc (Nat.le_refl _), ?_, fun u hu1 hu2 => ?_⟩, hmeas⟩
        · show gadd t c (W2 t c) W2 c c = 1
          unfold gadd
          rw [if_neg (fun e => htc e.symm)]; exact hone
        · simp only [Int.toNat_natCast] at hu2 ⊢
          unfold gadd
          by_cases e : u = t
          · rw [if_pos e, hone, one_gm, xx]
          · rw [if_neg e]; exact hz u (by omega) hu2
      · simp only [Bool.not_eq_false', decide_eq_true_eq] at heq
        refine ⟨⟨by omega, by omega, kw, W2, rfl, hK3, hG3, hD3, hone, fun u hu1 hu2 => hz u (by simp only [Int.toNat_natCast] at hu2; omega) hu2⟩, hmeas⟩
    · simp only [decide_eq_false_iff_not] at hs2
      rw [w64 (n := (c : Int) + 1) (by omega)]
      refine ⟨⟨by omega, by omega, kw, W2, hK3, hG3, ?_⟩, by show ((n : Int) - ((c : Int) + 1)).toNat < ((n : Int) - c).toNat; omega⟩
      rw [show ((c : Int) + 1).toNat = c + 1 by omega]
      exact hD3.next hone fun r hr hrc => hz r (by omega) hrc
end Go.Proofs.Ytpmkjpgoekjcfaa

/- A matrix is inverted (2). -/
namespace Go.Proofs.Ytpmkjpgoekjcfaa
open Go Go.Vc Go.Gf

set_option maxRecDepth 20000 in
set_option maxHeartbeats 8000000 in
theorem invert_spec {f : Option Addr} {w : World} {n cp : Nat} {a : Addr} {A : Nat → Nat → UInt8} (hf : FieldAt w f) (hn : n ≤ 256) (hn0 : 0 < n) (hA : MatR w a n n A) (hcp : n * n ≤ cp)
    (hinj : ∀ x : Nat → UInt8, (∀ r, r < n → xs n (fun j => gm (A r j) (x j)) = 0) → ∀ j, j < n → x j = 0) :
    Calls Try.prog 54 #[.pointer f, .agg #[.int .i64 (n : Int), .int .i64 (n : Int), .slice (some a) (n * n) cp]] w fun e w' => ∃ v, e = .returned v ∧ invP w n A v w' := by
  refine F54_calls f n n (some a) (n * n) cp w (invP w n A) (GI0 w n a cp A) (GM0 n) (GI1 w n A) (GM1 n) (GI2 w n A) (GM2 n) (GI3 w n A) (GM3 n) (GI4 w n A) (GM4 n) (GI5 w n A) (GM5 n) ?_
  have hnn : n * n ≤ 256 * 256 := Nat.mul_le_mul hn hn
  have hn2 : n * (2 * n) ≤ 256 * 512 := Nat.mul_le_mul hn (by omega)
  intro k5 w6 h5 k7 w8 h7
  have r5 : RowK w8 k5 82 (matC n n (some a) (n * n) cp) := h7.ext.keep h5.at
  have r7 : RowK w8 k7 82 (matC 0 0 none 0 0) := h7.at
  have x8 := h5.ext.trans h7.ext
  have n7 : w.heap.size ≤ k7 := by rw [h7.size.1]; exact h5.ext.size
  rw [hf.there]
  refine condB_of (fun h => by cases h) fun _ => ⟨_, r5.cell0 rfl, _, r5.cell3 rfl, _, _, _, r5.cell3 rfl, (mcheck_spec hn hn).mono ?_⟩
  rintro e w18 ⟨rfl, x18⟩
  have r5a : RowK w18 k5 82 (matC n n (some a) (n * n) cp) := x18.keep r5
  refine ⟨_, rfl, condB_of (fun h => by simp at h) fun _ => ⟨_, r5a.cell3 rfl, _, r5a.cell3 rfl, condB_of (fun h => by simp at h) fun _ => ⟨_, r5a.cell3 rfl, ?_⟩⟩⟩
  rw [show IntKind.i64.wrap ((2 : Int) * (n : Int)) = ((2 * n : Nat) : Int) from wmul (a := 2) (by omega)]
  refine (empty_spec (R := n) (C := 2 * n) (by omega)).mono ?_
  rintro e w36 ⟨kw, rfl, mm, x36⟩
  refine ⟨_, _, _, _, _, rfl, new_mat fun k41 w45 r41 _ x45 => ?_⟩
  have x1845 := x36.trans x45
  have xw45 := x8.trans (x18.trans x1845)
  have hKs : InvK w n (some (at0 k7)) (some (at0 k41)) kw (fun _ _ => 0) w45 := ⟨xw45, fun k hk => by
    simp only [Option.some.injEq, at0, Addr.mk.injEq, and_true] at hk
    omega, RowQ.of (x1845.keep (x18.keep r7)), RowQ.of r41, (mm.ext x45).base_le (x8.trans x18).size⟩
  refine ⟨⟨by omega, by omega, RowQ.of (x1845.keep r5a), kw, hKs.congr fun r t _ _ => by rw [if_neg (by omega)]⟩, ?_⟩
  clear hKs mm r41 xw45 x1845 x45 x36
  rintro i w52 ⟨hi0, hi1, hq5, kw, hK⟩
  intros
  refine condB_of (fun hs => ?_) (fun hs => ?_)
  · simp only [decide_eq_true_eq] at hs
    obtain ⟨t, rfl⟩ := Int.eq_ofNat_of_zero_le hi0
    intro w71 hd
    have hK1 := hK.mono hd.ext
    have s41 := hK1.r41.get
    have s5 := (hq5.ext hd.ext).get
    obtain ⟨b1, b2⟩ := row2_le (r := t) (n := n) (by omega) hn
    have b3 : (t + 1) * n ≤ n * n := Nat.mul_le_mul_right n (by omega)
    refine ⟨_, s41.cell0 rfl, _, s41.cell3 rfl, _, _, _, s41.cell3 rfl, _, s5.cell0 rfl, _, s5.cell3 rfl, _, _, _, s5.cell3 rfl, (row_spec (by omega) b1 b2 (by omega)).mono ?_⟩
    rintro e w78 ⟨rfl, x78⟩
    have s5b := ((hq5.ext hd.ext).ext x78).get
    refine ⟨_, _, _, rfl, ⟨_, s5b.cell0 rfl, _, s5b.cell3 rfl, _, _, _, s5b.cell3 rfl, rfl⟩, (row_spec (by omega) (by omega) (by omega) (by omega)).mono ?_⟩
    rintro e w84 ⟨rfl, x84⟩
    have hK2 := (hK1.mono x78).mono x84
    have hq5' := ((hq5.ext hd.ext).ext x78).ext x84
    obtain ⟨m, w87, hrun, hm87, hu87⟩ := hK2.mat.copy (r := t) (dcap := n * (2 * n) - t * (2 * n)) (c := cp - t * n) (by omega) ((hA.ext hK2.ext) t (by omega)) (by omega)
    obtain ⟨csw, hroww⟩ := hK2.mat.typ
    have hK3 := hK2.write hm87 hu87
    have hq5'' := hq5'.keep hu87 hroww ty_mat.1
    have s41b := hK3.r41.get
    refine ⟨_, _, _, rfl, m, w87, hrun, _, s41b.cell0 rfl, _, s41b.cell3 rfl, _, _, _, s41b.cell3 rfl, (row_spec (by omega) b1 b2 (by omega)).mono ?_⟩
    rintro e w92 ⟨rfl, x92⟩
    have hK4 := hK3.mono x92
    have ew : IntKind.i64.wrap ((n : Int) + (t : Int)) = ((n + t : Nat) : Int) := w64 (by omega)
    rw [ew, w64 (n := (t : Int) + 1) (by omega)]
    obtain ⟨l4, _, s4⟩ := hK4.mat.at (r := t) (c := n + t) (by omega) (by omega)
    refine ⟨_, _, _, rfl, ⟨by omega, by omega⟩, by rw [Int.toNat_natCast, Nat.mul_one]; exact l4, fun w96 s96 => ?_⟩
    rw [Int.toNat_natCast, Nat.mul_one] at s96
    obtain ⟨hm96, hu96⟩ := s4 1 _ s96
    obtain ⟨csw4, hroww4⟩ := hK4.mat.typ
    refine ⟨⟨by omega, by omega, (hq5''.ext x92).keep hu96 hroww4 ty_mat.1, kw, (hK4.write hm96 hu96).congr fun r c _ hc => ?_⟩, by show ((n : Int) - ((t : Int) + 1)).toNat < ((n : Int) - t).toNat; omega⟩
    by_cases e : r = t
    · subst e
      rw [if_pos (show (r : Int) < r + 1 by omega)]
      unfold gstart
      by_cases e1 : c < n
      · rw [if_pos e1, if_neg (show ¬ (r = r ∧ c = n + r) by omega), if_pos ⟨rfl, e1⟩, range_co _ e1]
      · rw [if_neg e1]
        by_cases e2 : c = n + r
        · rw [if_pos e2, if_pos ⟨rfl, e2⟩]
        · rw [if_neg e2, if_neg fun h => e2 h.2, if_neg fun h => e1 h.2, if_neg (by omega)]
    · rw [if_neg (show ¬ (r = t ∧ c = n + t) from fun h => e h.1), if_neg (show ¬ (r = t ∧ c < n) from fun h => e h.1)]
      by_cases e2 : (r : Int) < t
      · rw [if_pos e2, if_pos (show (r : Int) < t + 1 by omega)]
      · rw [if_neg e2, if_neg (show ¬ (r : Int) < t + 1 by omega)]
  simp only [decide_eq_false_iff_not] at hs
  refine ⟨⟨by omega, by omega, kw, gstart n A, hK.congr fun r c _ _ => by rw [if_pos (by omega)], GInv.start n A, GDone.zero _ _⟩, ?_⟩
  clear hK hs hq5
  rintro cI w102 ⟨hc0, hc1, kw, W, hK, hG, hD⟩
  obtain ⟨c, rfl⟩ := Int.eq_ofNat_of_zero_le hc0
  simp only [Int.ofNat_eq_natCast, Int.toNat_natCast] at hD
  intros
  refine condB_of (fun hs => ?_) (fun hs => ?_)
  · simp only [decide_eq_true_eq] at hs
    have hcn : c < n := by omega
    refine ⟨⟨by omega, hs, by omega, by omega, kw, W, hK, hG, hD, fun t h1 h2 => by omega⟩, ?_⟩
    clear hK hG hD
    rintro pI w192 ⟨_, _, hp0, hp1, kw, W, hK, hG, hD, hz⟩
    obtain ⟨p, rfl⟩ := Int.eq_ofNat_of_zero_le (show 0 ≤ pI by omega)
    simp only [Int.toNat_natCast] at hD hz
    intros
    refine condB_of (fun hs2 => ?_) (fun hs2 => ?_)
    · simp only [decide_eq_true_eq] at hs2
      have s41 := hK.r41.get
      obtain ⟨b1, b2⟩ := row2_le (r := p) (n := n) (by omega) hn
      obtain ⟨d1, d2⟩ := row2_le (r := c) (n := n) (by omega) hn
      refine ⟨_, s41.cell0 rfl, _, s41.cell3 rfl, _, _, _, s41.cell3 rfl, (row_spec (by omega) b1 b2 (by omega)).mono ?_⟩
      rintro e w270 ⟨rfl, x270⟩
      have hK1 := hK.mono x270
      have c1 := (hK1.mat.at (r := p) (c := c) (by omega) (by omega)).2.1
      refine ⟨_, _, _, rfl, ⟨by omega, by omega⟩, _, by rw [Int.toNat_natCast, Nat.mul_one]; exact c1, condB_of (fun hz0 => ?_) (fun hz0 => ?_)⟩
      · simp only [decide_eq_true_eq] at hz0
        rw [vb_zero] at hz0
        rw [w64 (n := (p : Int) + 1) (by omega)]
        refine ⟨⟨by omega, hs, by omega, by omega, kw, W, hK1, hG, hD, fun t h1 h2 => ?_⟩, by show ((n : Int) - ((p : Int) + 1)).toNat < ((n : Int) - p).toNat; omega⟩
        simp only [Int.toNat_natCast]
        by_cases e : t = p
        · rw [e]; exact hz0
        · exact hz t h1 (by omega)
      · simp only [decide_eq_false_iff_not] at hz0
        rw [vb_zero] at hz0
        have s41b := hK1.r41.get
        refine ⟨_, s41b.cell0 rfl, _, s41b.cell3 rfl, _, _, _, s41b.cell3 rfl, (row_spec (by omega) d1 d2 (by omega)).mono ?_⟩
        rintro e w278 ⟨rfl, x278⟩
        have hK2 := hK1.mono x278
        refine ⟨_, _, _, rfl, condB_of (fun hne => ?_) (fun heq => ?_)⟩
        · simp only [Bool.not_eq_true', decide_eq_false_iff_not] at hne
          have hpc : p ≠ c := fun e => hne (by rw [e])
          have s41c := hK2.r41.get
          refine ⟨_, s41c.cell0 rfl, _, s41c.cell3 rfl, _, _, _, s41c.cell3 rfl, (row_spec (by omega) b1 b2 (by omega)).mono ?_⟩
          rintro e w284 ⟨rfl, x284⟩
          have hK3 := hK2.mono x284
          refine ⟨_, _, _, rfl, (adds_spec hf hK3.ext (Nat.le_refl _) hK3.mat (t := c) (s := p) hcn (by omega) (fun e => hpc e.symm) (by omega) 1).mono ?_⟩
          rintro e w287 ⟨rfl, hm, hu⟩
          refine ⟨rfl, inv_tail (a := a) hf hn hcn (hK3.write hm hu) (hG.add 1 (fun e => hpc e.symm) hcn (by omega)) (hD.add 1 hcn (by omega) (by omega)) ?_⟩
          unfold gadd
          rw [if_pos rfl, hz c (by omega) (by omega), gm_one, zx]
          exact hz0
        · simp only [Bool.not_eq_false', decide_eq_true_eq] at heq
          obtain rfl : p = c := by omega
          exact inv_tail (a := a) hf hn hcn hK2 hG hD hz0
    · simp only [decide_eq_false_iff_not] at hs2
      exact (hG.pivot hD hcn hinj fun t h1 h2 => hz t (by omega) (by omega)).elim
  · simp only [decide_eq_false_iff_not] at hs
    obtain rfl : c = n := by omega
    refine (empty_spec (R := c) (C := c) (by omega)).mono ?_
    rintro e w483 ⟨ko, rfl, mo, x483⟩
    refine ⟨_, _, _, _, _, rfl, new_mat fun k488 w492 r488 _ x492 => ?_⟩
    have hKo := hK.mono (x483.trans x492)
    have hne : ko ≠ kw := by have := mo.le; have := hK.mat.lt; omega
    refine ⟨⟨by omega, by omega, kw, W, ko, hKo, hG, hD, RowQ.of r488, hne, ((mo.ext x492).base_le hK.ext.size).congr fun r t _ _ => by rw [if_neg (by omega)]⟩, ?_⟩
    clear hKo hne mo r488 x492 x483 hK hG hD
    rintro iI w499 ⟨hi0, hi1, kw, W, ko, hK, hG, hD, q488, hne, mo⟩
    obtain ⟨i, rfl⟩ := Int.eq_ofNat_of_zero_le hi0
    intros
    refine condB_of (fun hs2 => ?_) (fun hs2 => ?_)
    · simp only [decide_eq_true_eq] at hs2
      intro w513 hd
      have hK1 := hK.mono hd.ext
      have q1 := q488.ext hd.ext
      have s41 := hK1.r41.get
      have s488 := q1.get
      obtain ⟨b1, b2⟩ := row2_le (r := i) (n := c) (by omega) hn
      have b3 : (i + 1) * c ≤ c * c := Nat.mul_le_mul_right c (by omega)
      refine ⟨_, s488.cell0 rfl, _, s488.cell3 rfl, _, _, _, s488.cell3 rfl, _, s41.cell0 rfl, _, s41.cell3 rfl, _, _, _, s41.cell3 rfl, (row_spec (by omega) (by omega) (by omega) (by omega)).mono ?_⟩
      rintro e w520 ⟨rfl, x520⟩
      have hK2 := hK1.mono x520
      have s41b := hK2.r41.get
      refine ⟨_, _, _, rfl, ⟨_, s41b.cell0 rfl, _, s41b.cell3 rfl, _, _, _, s41b.cell3 rfl, rfl⟩, (row_spec (by omega) b1 b2 (by omega)).mono ?_⟩
      rintro e w526 ⟨rfl, x526⟩
      have hK3 := hK2.mono x526
      have mo3 := ((mo.ext hd.ext).ext x520).ext x526
      have q3 := (q1.ext x520).ext x526
      have e0 : (i + 1) * (2 * c) = i * (2 * c) + 2 * c := by rw [Nat.add_mul, Nat.one_mul]
      have hcut : cutP (some ((at0 kw).add (i * (2 * c)))) (c * (2 * c) - i * (2 * c)) ((c : Int).toNat) 1 = some ((at0 kw).add (i * (2 * c) + c)) := by
        unfold cutP
        rw [Int.toNat_natCast, if_neg (by omega)]
        show some (((at0 kw).add (i * (2 * c))).add (c * 1)) = _
        rw [Nat.mul_one, add_add]
      have hsrc := hK3.mat.bytes (r := i) (s := c) (by omega) (by omega)
      obtain ⟨m, w529, hrun, hm, hu⟩ := mo3.copy (r := i) (dcap := c * c - i * c) (c := c * (2 * c) - i * (2 * c) - (c : Int).toNat) (by omega) hsrc (by omega)
      obtain ⟨cso, hrowo⟩ := mo3.typ
      rw [w64 (n := (i : Int) + 1) (by omega)]
      refine ⟨_, _, _, rfl, ⟨by omega, by omega⟩, m, w529, by rw [hcut]; exact hrun, ⟨by omega, by omega, kw, W, ko, ⟨ext_upd hK3.ext mo3.le hu, hK3.n7, hK3.r7.keep hu hrowo ty_mat.1, hK3.r41.keep hu hrowo ty_mat.1, hK3.mat.apart hu (fun e => hne e.symm)⟩, hG, hD, q3.keep hu hrowo ty_mat.1, hne, hm.congr fun r t _ ht => ?_⟩, by show ((c : Int) - ((i : Int) + 1)).toNat < ((c : Int) - i).toNat; omega⟩
      by_cases e : r = i
      · subst e
        rw [if_pos (show (r : Int) < r + 1 by omega), if_pos ⟨rfl, by omega⟩, range_co _ (by omega)]
      · rw [if_neg (show ¬ (r = i ∧ t < 2 * c - c) from fun h => e h.1)]
        by_cases e2 : (r : Int) < i
        · rw [if_pos e2, if_pos (show (r : Int) < i + 1 by omega)]
        · rw [if_neg e2, if_neg (show ¬ (r : Int) < i + 1 by omega)]
    · simp only [decide_eq_false_iff_not] at hs2
      have s488 := q488.get
      refine ret3 (R := invP w c A) s488 hK.r7.get rfl fun w' hu => ⟨ko, fun r t => W r (c + t), rfl, (mo.keep hu hK.r7.get ty_mat.1).congr fun r t hr _ => by rw [if_pos (by omega)], hG.done hD, ext_upd hK.ext n7 hu⟩
end Go.Proofs.Ytpmkjpgoekjcfaa

/- Shards that are there; a data shard out of them. -/
namespace Go.Proofs.Ytpmkjpgoekjcfaa
open Go Go.Vc Go.Gf

def foundP (w : World) (k n : Nat) (hs : List Bool) (v : Value) (w' : World) : Prop := Ext w w' ∧
  (((mis n hs).length < k ∧ v = .tuple #[.slice none 0 0, .int .i64 70]) ∨ k ≤ (mis n hs).length ∧ ∃ p c, v = .tuple #[.slice p k c, .int .i64 0] ∧ OwnN w' w.heap.size p k c ((mis n hs).take k))

set_option maxHeartbeats 2000000 in
theorem found_spec {p2 p3 : Option Addr} {w : World} {n c2 l3 c3 k s : Nat} {hs : List Bool} {L : List (List UInt8)} (h2 : FlagsAt w p2 n hs) (h3 : ListsAt w p3 l3 L) (hn : n ≤ l3) (hl : l3 ≤ 1048576) (hlen : ∀ i, i < n → hs.getD i false = true → (L.getD i []).length = s) :
    Calls Try.prog 52 #[.int .i64 (k : Int), .slice p2 n c2, .slice p3 l3 c3] w fun e w' => ∃ v, e = .returned v ∧ foundP w k n hs v w' := by
  refine F52_calls k p2 n c2 p3 l3 c3 w (foundP w k n hs)
    (fun _ _ _ _ _ p8 l8 c8 z i w1 => 0 ≤ i ∧ i ≤ n ∧ Ext w w1 ∧ OwnN w1 w.heap.size p8 l8 c8 ((mis i.toNat hs).take k) ∧ (z = -1 ∨ z = (s : Int))) (fun _ _ _ _ _ _ _ _ _ i _ => (n - i).toNat) ?_
  have e0 : (mis (0 : Int).toNat hs).take k = [] := by simp [mis]
  refine ⟨⟨by omega, by omega, Upd.refl _ _, by rw [e0]; exact OwnS.nil _ _ _ _, .inl rfl⟩, ?_⟩
  rintro p8 l8 c8 z i w11 ⟨hi0, hi1, hx, ho, hz⟩
  have hol := OwnN.len ho
  rw [List.length_take] at hol
  have hmle := mis_le i.toNat hs
  intros
  refine condB_of (fun ht => ?_) (fun ht => ?_)
  · simp only [decide_eq_true_eq] at ht
    obtain ⟨a, rfl, ha⟩ := (h2.ext hx).get (i := i.toNat) (by omega)
    have hnx : (i + 1).toNat = i.toNat + 1 := by omega
    have hmeas : ((n : Int) - (i + 1)).toNat < ((n : Int) - i).toNat := by omega
    rw [w64 (n := i + 1) (by omega)]
    refine ⟨⟨hi0, ht⟩, _, by rw [Nat.mul_one]; exact ha, condB_of (fun hno => ?_) (fun hyes => ?_)⟩
    · have hno' : hs.getD i.toNat false = false := by simpa using hno
      refine ⟨⟨by omega, by omega, hx, ?_, hz⟩, hmeas⟩
      rw [hnx, mis_succ, hno', if_neg (by simp), List.append_nil]; exact ho
    · have hyes' : hs.getD i.toNat false = true := by simpa using hyes
      obtain ⟨b, q, ln, cn, rfl, hc, hq, _⟩ := (h3.ext hx).2 i.toNat (by omega)
      have hqs : ln = s := by rw [hq.1]; exact hlen i.toNat (by omega) hyes'
      have full : ¬ (l8 : Int) < k → OwnN w11 w.heap.size p8 l8 c8 ((mis (i + 1).toNat hs).take k) := fun hk => by
        rw [hnx, mis_succ, hyes', if_pos rfl, List.take_append_of_le_length (by omega)]; exact ho
      have push : (l8 : Int) < k → ∀ (k52 : Nat) (w53 : World), NewB w11 k52 (.cells #[.int .i64 i] 3) w53 → ∃ (p55 : Option Addr) (l55 c55 : Nat), ∃ w54 : World, Sem.run Try.prog (Builtin.append_ #[28, 28] 28 #[.slice p8 l8 c8, .slice (some (at0 k52)) 1 1]) w53 = .ok (.slice p55 l55 c55) w54 ∧
          Ext w w54 ∧ OwnN w54 w.heap.size p55 l55 c55 ((mis (i + 1).toNat hs).take k) := fun hk k52 w53 h53 => by
        rw [show i = ((i.toNat : Nat) : Int) by omega] at h53
        obtain ⟨p', c', w2, hr, ho', hu⟩ := OwnN.push ho h53 hx.size (by omega)
        refine ⟨p', _, c', w2, hr, OwnB.new_ext hx hu fun y hy => OwnS.blk ho hy, ?_⟩
        have e : (mis (i + 1).toNat hs).take k = (mis i.toNat hs).take k ++ [i.toNat] := by
          rw [hnx, mis_succ, hyes', if_pos rfl, List.take_of_length_le (by rw [List.length_append, List.length_singleton]; omega), List.take_of_length_le (by omega)]
        rw [e]; exact ho'
      refine condB_of (fun hz0 => ?_) (fun hz0 => ?_)
      · refine ⟨⟨hi0, by omega⟩, _, _, _, by rw [Nat.mul_one]; exact hc, condB_of (fun hk => ?_) (fun hk => ?_)⟩
        · simp only [decide_eq_true_eq] at hk
          intro k52 w53 h53
          obtain ⟨p55, l55, c55, w54, hr, x54, o54⟩ := push hk k52 w53 h53
          exact ⟨p55, l55, c55, w54, hr, ⟨by omega, by omega, x54, o54, .inr (by omega)⟩, hmeas⟩
        · simp only [decide_eq_false_iff_not] at hk
          exact ⟨⟨by omega, by omega, hx, full hk, .inr (by omega)⟩, hmeas⟩
      · simp only [decide_eq_false_iff_not] at hz0
        have hzs : z = (s : Int) := by rcases hz with h | h <;> omega
        refine ⟨⟨hi0, by omega⟩, _, _, _, by rw [Nat.mul_one]; exact hc, condB_of (fun hne => ?_) (fun _ => condB_of (fun hk => ?_) (fun hk => ?_))⟩
        · simp only [Bool.not_eq_true', decide_eq_false_iff_not] at hne
          exact (hne (by omega)).elim
        · simp only [decide_eq_true_eq] at hk
          intro k52 w53 h53
          obtain ⟨p55, l55, c55, w54, hr, x54, o54⟩ := push hk k52 w53 h53
          exact ⟨p55, l55, c55, w54, hr, ⟨by omega, by omega, x54, o54, hz⟩, hmeas⟩
        · simp only [decide_eq_false_iff_not] at hk
          exact ⟨⟨by omega, by omega, hx, full hk, hz⟩, hmeas⟩
  · simp only [decide_eq_false_iff_not] at ht
    have hin : i.toNat = n := by omega
    rw [hin] at hol ho
    refine condB_of (fun hk => ?_) (fun hk => ?_)
    · simp only [decide_eq_true_eq] at hk
      exact ⟨hx, .inl ⟨by omega, rfl⟩⟩
    · simp only [decide_eq_false_iff_not] at hk
      obtain rfl : l8 = k := by omega
      exact ⟨hx, .inr ⟨by omega, p8, c8, rfl, ho⟩⟩

/-- a data shard, out of those that are there -/
def dcol (V : Nat → Nat → UInt8) (l : List Nat) (L : List (List UInt8)) (j s i : Nat) : List UInt8 := (List.range s).map fun x => xs i fun t => gm (V j t) (co (L.getD (l.getD t 0) []) x)

set_option maxHeartbeats 4000000 in
theorem made1_spec {f p5 pl : Option Addr} {w : World} {k10 k34 k62 k8 k6 l5 c5 cl k j s kv base : Nat} {V : Nat → Nat → UInt8} {l : List Nat} {L : List (List UInt8)} (hf : FieldAt w f)
    (r10 : RowK w k10 36 #[.slice p5 l5 c5]) (r34 : RowK w k34 28 #[.slice pl k cl]) (r62 : RowK w k62 82 (matC k k (some (at0 kv)) (k * k) (k * k))) (r8 : RowK w k8 3 #[.int .i64 (k : Int)]) (r6 : RowK w k6 25 #[.pointer f])
    (hm : MatM w base kv k k V) (h5 : ListsAt w p5 l5 L) (hl : NatsAt w pl k l) (hlt : ∀ t ∈ l, t < l5 ∧ (L.getD t []).length = s) (hj : j < k) (hk : k ≤ 256) (hs : s ≤ 1048576) :
    Calls Try.prog 55 #[.int .i64 (j : Int), .pointer (some (at0 k10)), .pointer (some (at0 k34)), .pointer (some (at0 k62)), .pointer (some (at0 k8)), .pointer (some (at0 k6))] w fun e w' => ∃ p c, e = .returned (.slice p s c) ∧ Ext w w' ∧ OwnB w' w.heap.size p s c (dcol V l L j s k) := by
  refine (F55_calls j (at0 k10) (at0 k34) (at0 k62) (at0 k8) (at0 k6) w (fun v w' => ∃ p c, v = .slice p s c ∧ Ext w w' ∧ OwnB w' w.heap.size p s c (dcol V l L j s k))
    (fun _ _ _ _ q14 _ _ _ _ _ _ _ i w1 => 0 ≤ i ∧ i ≤ k ∧ Ext w w1 ∧ OwnB w1 w.heap.size q14 s s (dcol V l L j s i.toNat)) (fun _ _ _ _ _ _ _ _ _ _ _ _ i _ => (k - i).toNat)
    (fun _ _ _ _ q14 _ _ _ _ _ _ _ i _ _ _ _ _ x w1 => 0 ≤ x ∧ x ≤ s ∧ 0 ≤ i ∧ i < k ∧ Ext w w1 ∧ ∃ z, OwnB w1 w.heap.size q14 s s z ∧ ∀ y : Nat, y < s → co z y = if (y : Int) < x then co (dcol V l L j s (i.toNat + 1)) y else co (dcol V l L j s i.toNat) y) (fun _ _ _ _ _ _ _ _ _ _ _ _ _ _ _ _ _ _ x _ => (s - x).toNat) ?_).mono (by rintro e w' ⟨v, rfl, p, c, rfl, h⟩; exact ⟨p, c, rfl, h⟩)
  have hll := hl.1
  have hdl : ∀ i, (dcol V l L j s i).length = s := fun i => by simp [dcol]
  have hkk : k * k ≤ 256 * 256 := Nat.mul_le_mul hk hk
  have hin : ∀ t, t < k → l.getD t 0 < l5 ∧ (L.getD (l.getD t 0) []).length = s := fun t ht => by
    have : l.getD t 0 ∈ l := by
      rw [List.getD_eq_getElem?_getD, List.getElem?_eq_getElem (by omega)]
      exact List.getElem_mem _
    exact hlt _ this
  intro w7 hd
  have x7 := hd.ext
  have R10 : ∀ {w'}, Ext w w' → RowK w' k10 36 #[.slice p5 l5 c5] := fun hx => hx.keep r10
  have R34 : ∀ {w'}, Ext w w' → RowK w' k34 28 #[.slice pl k cl] := fun hx => hx.keep r34
  have R62 : ∀ {w'}, Ext w w' → RowK w' k62 82 (matC k k (some (at0 kv)) (k * k) (k * k)) := fun hx => hx.keep r62
  have R8 : ∀ {w'}, Ext w w' → RowK w' k8 3 #[.int .i64 (k : Int)] := fun hx => hx.keep r8
  have R6 : ∀ {w'}, Ext w w' → RowK w' k6 25 #[.pointer f] := fun hx => hx.keep r6
  obtain ⟨al, ha0, hc0⟩ := (hl.ext x7).get (i := 0) (by omega)
  subst ha0
  obtain ⟨h0a, h0b⟩ := hin 0 (by omega)
  obtain ⟨b, q, ln, cn, hb0, hcell, hq, _⟩ := (h5.ext x7).2 (l.getD 0 0) h0a
  subst hb0
  have hqs := hq.1
  obtain rfl : ln = s := by omega
  refine ⟨_, _, _, (R10 x7).cell, _, _, _, (R34 x7).cell, ⟨by omega, by omega⟩, _, hc0, ⟨by omega, by omega⟩, _, _, _, by rw [Int.toNat_natCast, Nat.mul_one]; exact hcell, ⟨by omega, by omega, by omega⟩, fun k14 w15 h15 => ?_⟩
  rw [Int.toNat_natCast] at h15 ⊢
  have o15 : OwnB w15 w.heap.size (some (at0 k14)) ln ln (List.replicate ln 0) := OwnB.made h15 (by rw [h15.size.1]; exact x7.size) (by unfold maxLen; omega)
  refine ⟨_, _, _, (R34 (x7.trans h15.ext)).cell, ⟨by omega, by omega, x7.trans h15.ext, ?_⟩, ?_⟩
  · have e : dcol V l L j ln (0 : Int).toNat = List.replicate ln 0 := by
      unfold dcol
      refine List.ext_getElem (by simp) fun y h1 h2 => ?_
      simp [xs]
    rw [e]; exact o15
  clear o15 h15
  rintro i w29 ⟨hi0, hi1, hx, ho⟩
  intros
  refine condB_of (fun hs1 => ?_) (fun hs1 => ?_)
  · simp only [decide_eq_true_eq] at hs1
    obtain ⟨t, rfl⟩ := Int.eq_ofNat_of_zero_le hi0
    obtain ⟨al', ha', hct⟩ := (hl.ext hx).get (i := t) (by omega)
    cases ha'
    obtain ⟨hta, htb⟩ := hin t (by omega)
    obtain ⟨b', q', ln', cn', hb', hcell0, hq', _⟩ := h5.2 (l.getD t 0) hta
    cases hb'
    have hcell' := hx.cell hcell0 id
    have hstep : ∀ y, y < ln → co (dcol V l L j ln (t + 1)) y = co (dcol V l L j ln t) y ^^^ gm (V j t) (co (L.getD (l.getD t 0) []) y) := fun y hy => by
      unfold dcol
      rw [range_co _ hy, range_co _ hy]
      rfl
    have hqs' := hq'.1
    obtain rfl : ln' = ln := by omega
    have cv := ((hm.ext hx).at (r := j) (c := t) hj (by omega)).2.1
    have hix := ix_lt hj (show t < k by omega)
    have ew : IntKind.i64.wrap (IntKind.i64.wrap ((j : Int) * (k : Int)) + (t : Int)) = ((j * k + t : Nat) : Int) := by
      rw [wmul (by omega)]
      exact w64 (by omega)
    refine ⟨⟨hi0, hs1⟩, _, by rw [Int.toNat_natCast, Nat.mul_one]; exact hct, _, _, _, (R62 hx).cell3 rfl, _, (R8 hx).cell, ?_⟩
    rw [ew]
    refine ⟨⟨by omega, by omega⟩, _, by rw [Int.toNat_natCast, Nat.mul_one, ← add_add]; exact cv, _, _, _, (R10 hx).cell, ⟨by omega, by omega⟩, _, _, _, by rw [Int.toNat_natCast, Nat.mul_one]; exact hcell', ⟨by omega, by omega, hi0, hs1, hx, _, ho, fun y hy => by rw [if_neg (by omega)]⟩, ?_⟩
    rintro x w97 ⟨hx0, hx1, _, _, hx97, z, hoz, hz⟩
    intros
    refine condB_of (fun hs2 => ?_) (fun hs2 => ?_)
    · simp only [decide_eq_true_eq] at hs2
      obtain ⟨aq, haq, hbx⟩ := BytesAt.co (hq'.ext hx97) (i := x.toNat) (by omega)
      subst haq
      refine ⟨⟨hx0, by omega⟩, _, by rw [Nat.mul_one]; exact hbx, fun w117 hd117 => ?_⟩
      have x117 := hx97.trans hd117.ext
      have hoz117 := OwnB.ext hoz hd117.ext
      obtain ⟨kz, hkz, _, _, cz, _⟩ := OwnB.at hoz117 (i := x.toNat) (by omega)
      simp only [Option.some.injEq, at0, Addr.mk.injEq, and_true] at hkz
      subst hkz
      refine ⟨⟨hx0, by omega⟩, _, by rw [Nat.mul_one]; exact cz, _, (R6 x117).cell, (fmul_spec (hf.ext x117) (V j t) (co (L.getD (l.getD t 0) []) x.toNat)).mono ?_⟩
      rintro e w120 ⟨rfl, x120⟩
      have hoz120 := OwnB.ext hoz117 x120
      obtain ⟨kz, hkz, hbz, lz, cz, hset⟩ := OwnB.at hoz120 (i := x.toNat) (by omega)
      simp only [Option.some.injEq, at0, Addr.mk.injEq, and_true] at hkz
      subst hkz
      refine ⟨_, rfl, ⟨_, by rw [Nat.mul_one]; exact cz, rfl⟩, ⟨hx0, by omega⟩, by rw [Nat.mul_one]; exact lz, fun w124 s124 => ?_⟩
      rw [Nat.mul_one, bx8] at s124
      obtain ⟨hoz', hu⟩ := hset _ _ s124
      have lz0 := OwnB.len hoz
      rw [w64 (n := x + 1) (by omega)]
      refine ⟨⟨by omega, by omega, hi0, hs1, ext_upd (x117.trans x120) hbz hu, _, hoz', fun y hy => ?_⟩, by show ((ln' : Int) - (x + 1)).toNat < ((ln' : Int) - x).toNat; omega⟩
      simp only [Int.toNat_natCast] at hz ⊢
      rw [co_set (by omega)]
      by_cases e : y = x.toNat
      · subst e
        rw [if_pos rfl, if_pos (by omega), hz _ hy, if_neg (by omega), hstep _ hy]
      · rw [if_neg e, hz y hy]
        by_cases e2 : (y : Int) < x
        · rw [if_pos e2, if_pos (by omega)]
        · rw [if_neg e2, if_neg (by omega)]
    · simp only [decide_eq_false_iff_not] at hs2
      rw [w64 (n := (t : Int) + 1) (by omega)]
      refine ⟨⟨by omega, by omega, hx97, ?_⟩, by show ((k : Int) - ((t : Int) + 1)).toNat < ((k : Int) - t).toNat; omega⟩
      have lz0 := OwnB.len hoz
      have e : z = dcol V l L j ln' ((t : Int) + 1).toNat := by
        rw [show ((t : Int) + 1).toNat = t + 1 by omega]
        refine co_ext (by rw [hdl]; omega) fun y hy => ?_
        rw [hz y (by omega), if_pos (by omega)]
        rfl
      rw [← e]; exact hoz
  · simp only [decide_eq_false_iff_not] at hs1
    have hik : i.toNat = k := by omega
    rw [hik] at ho
    exact ⟨_, _, rfl, hx, ho⟩
end Go.Proofs.Ytpmkjpgoekjcfaa

/- All shards, out of those that are there. -/
namespace Go.Proofs.Ytpmkjpgoekjcfaa
open Go Go.Vc Go.Gf

theorem mem_mis {n t : Nat} {hs : List Bool} : t ∈ mis n hs ↔ t < n ∧ hs.getD t false = true := by simp [mis]
theorem mis_sorted (n : Nat) (hs : List Bool) : (mis n hs).Pairwise (· < ·) := List.Pairwise.filter _ List.pairwise_lt_range
theorem pick_count {n k : Nat} {hs : List Bool} (hk : k ≤ (mis n hs).length) : ((List.range n).filter fun i => decide (i ∈ (mis n hs).take k)).length = k := by
  have e : ((List.range n).filter fun i => decide (i ∈ (mis n hs).take k)) = (mis n hs).take k := by
    refine sorted_ext (List.Pairwise.filter _ List.pairwise_lt_range) (List.Pairwise.sublist (List.take_sublist _ _) (mis_sorted n hs)) fun x => ?_
    simp only [List.mem_filter, List.mem_range, decide_eq_true_eq]
    exact ⟨fun h => h.2, fun h => ⟨(mem_mis.1 (List.mem_of_mem_take h)).1, h⟩⟩
  rw [e, List.length_take]; omega

/-- what is made anew is what was -/
theorem dcol_back {k m n s : Nat} {hs : List Bool} {L D0 : List (List UInt8)} {V : Nat → Nat → UInt8} (hn : n = k + m) (hk : k ≤ (mis n hs).length) (hD : D0.length = k) (hall : ∀ i, i < k → (D0.getD i []).length = s) (hs0 : (D0.getD 0 []).length = s)
    (hL : ∀ i, i < n → hs.getD i false = true → L.getD i [] = encRow k m D0 i)
    (hV : ∀ r, r < k → ∀ c, c < k → xs k (fun j => gm (V r j) (genV k (((mis n hs).take k).getD j 0) c)) = if r = c then 1 else 0) {j : Nat} (hj : j < k) : dcol V ((mis n hs).take k) L j s k = D0.getD j [] := by
  refine co_ext (by rw [hall j hj]; simp [dcol]) fun x hx => ?_
  have hx' : x < s := by simpa [dcol] using hx
  unfold dcol
  rw [range_co _ hx']
  have hcl : (D0.map fun y => co y x).length = k := by rw [List.length_map, hD]
  have h1 : xs k (fun t => gm (V j t) (co (L.getD (((mis n hs).take k).getD t 0) []) x)) = xs k (fun t => gm (V j t) (xs k fun c => gm (genV k (((mis n hs).take k).getD t 0) c) (co (D0.map fun y => co y x) c))) := xs_congr fun t ht => by
    have hm : ((mis n hs).take k).getD t 0 ∈ mis n hs := by
      rw [List.getD_eq_getElem?_getD, List.getElem?_eq_getElem (by rw [List.length_take]; omega)]
      exact List.mem_of_mem_take (List.getElem_mem _)
    obtain ⟨m1, m2⟩ := mem_mis.1 hm
    rw [hL _ m1 m2, encRow_co (by rw [hs0]; exact hx'), gen_row hcl (m := m) (by omega)]
  rw [h1, inv_back (n := k) (A := fun r c => genV k (((mis n hs).take k).getD r 0) c) hV (fun c => co (D0.map fun y => co y x) c) hj, map_co]

def decP (w : World) (k m n : Nat) (hs : List Bool) (D0 : List (List UInt8)) (v : Value) (w' : World) : Prop := Ext w w' ∧
  (((mis n hs).length < k ∧ v = .tuple #[.slice none 0 0, .int .i64 70]) ∨ k ≤ (mis n hs).length ∧ ∃ a c, v = .tuple #[.slice (some a) n c, .int .i64 0] ∧ RowsAt w' w.heap.size a n (encRow k m D0))

set_option maxRecDepth 20000 in
set_option maxHeartbeats 4000000 in
theorem decode_spec {f p4 p5 : Option Addr} {w : World} {k m n c4 c5 : Nat} {hs : List Bool} {L D0 : List (List UInt8)} (hf : FieldAt w f) (h4 : FlagsAt w p4 n hs) (h5 : ListsAt w p5 n L) (hk1 : 1 ≤ k) (hn : n = k + m) (hkm : n ≤ 256)
    (hD : D0.length = k) (hall : ∀ i, i < k → (D0.getD i []).length = (D0.getD 0 []).length) (hs0 : (D0.getD 0 []).length ≤ 1048576) (hL : ∀ i, i < n → hs.getD i false = true → L.getD i [] = encRow k m D0 i) :
    Calls Try.prog 26 #[.pointer f, .int .i64 (k : Int), .int .i64 (m : Int), .slice p4 n c4, .slice p5 n c5] w fun e w' => ∃ v, e = .returned v ∧ decP w k m n hs D0 v w' := by
  refine F26_calls f k m p4 n c4 p5 n c5 w (decP w k m n hs D0)
    (fun _ _ _ w66 p l c j w1 => 0 ≤ j ∧ j ≤ k ∧ (l : Int) = j ∧ Ext w66 w1 ∧ RowsS w1 w66.heap.size p l c (fun t => D0.getD t [])) (fun _ _ _ _ _ _ _ j _ => (k - j).toNat) ?_
  have hkok : kmOk (k : Int) (m : Int) := ⟨by omega, by omega, by omega, by omega⟩
  have ekm : (k : Int) + (m : Int) = (n : Int) := by omega
  have hnk : n * k ≤ 256 * 256 := Nat.mul_le_mul hkm (by omega)
  have hlenR : ∀ i, i < n → hs.getD i false = true → (L.getD i []).length = (D0.getD 0 []).length := fun i hi hb => by rw [hL i hi hb, encRow_len]
  intro k6 w7 h6 k8 w9 h8 k10 w11 h10
  have x11 : Ext w w11 := h6.ext.trans (h8.ext.trans h10.ext)
  have R6 : ∀ {w'}, Ext w11 w' → RowK w' k6 25 #[.pointer f] := fun hx => hx.keep (h10.ext.keep (h8.ext.keep h6.at))
  have R8 : ∀ {w'}, Ext w11 w' → RowK w' k8 3 #[.int .i64 (k : Int)] := fun hx => hx.keep (h10.ext.keep h8.at)
  have R10 : ∀ {w'}, Ext w11 w' → RowK w' k10 36 #[.slice p5 n c5] := fun hx => hx.keep h10.at
  have x0 : Ext w11 w11 := Upd.refl _ _
  refine ⟨_, (R6 x0).cell, _, (R8 x0).cell, (cgen_spec (hf.ext x11) k m).mono ?_⟩
  rintro e w14 ⟨x14, ⟨hno, _⟩ | ⟨_, pg, lg, cg, he, og⟩⟩
  · exact (hno hkok).elim
  rw [ekm] at he og
  subst he
  simp only [Int.toNat_natCast] at og
  obtain ⟨ag, rfl, hcg, rfl, hGr⟩ := gen_read og (by omega) (by omega)
  refine ⟨_, _, _, _, _, _, rfl, new_mat fun k20 w24 r20 _ x24 => ?_⟩
  have x24' := x14.trans x24
  refine condB_of (fun h => by simp at h) fun _ => ⟨_, (R8 x24').cell, ?_⟩
  rw [ekm, w64 (n := (n : Int)) (by omega)]
  refine condB_of (fun h => by simp at h) fun _ => ⟨_, _, _, (R10 x24').cell, _, (R8 x24').cell, ?_⟩
  rw [ekm, w64 (n := (n : Int)) (by omega)]
  refine condB_of (fun h => by simp at h) fun _ => ⟨_, (R8 x24').cell, _, _, _, (R10 x24').cell, (found_spec (c2 := c4) (c3 := c5) (k := k) (h4.ext (x11.trans x24')) (h5.ext (x11.trans x24')) (Nat.le_refl _) (by omega) hlenR).mono ?_⟩
  rintro e w30 ⟨v, rfl, x30, hv⟩
  have x30' := x24'.trans x30
  have mk : ∀ (p : Option Addr) (l c : Nat) (K : Nat → World → Prop), (∀ k34 w36, RowK w36 k34 28 #[.slice p l c] → Ext w30 w36 → K k34 w36) → ∀ (k34 : Nat) (w35 : World), NewB w30 k34 (.cells #[.slice none 0 0] 28) w35 → (Live w35 (at0 k34) ∧ (∀ w36 : World, SetC w35 (at0 k34) (Value.slice p l c) w36 → K k34 w36)) := by
    intro p l c K hK k34 w35 h35
    have r34 : RowK w35 k34 28 #[.slice none 0 0] := h35.at
    exact ⟨r34.live, fun w36 s36 => hK k34 w36 (r34.set s36) (ext_upd h35.ext (by rw [h35.size.1]; exact Nat.le_refl _) (setK_upd s36))⟩
  rcases hv with ⟨hfew, rfl⟩ | ⟨hok, pl, cl, rfl, ol⟩
  · refine ⟨_, _, _, _, rfl, mk _ _ _ _ fun k34 w36 r34 x36 => condB_of (fun _ => ?_) (fun h => by simp at h)⟩
    exact ⟨x11.trans (x30'.trans x36), .inl ⟨hfew, rfl⟩⟩
  have hlk : ((mis n hs).take k).length = k := by rw [List.length_take]; omega
  have hmem : ∀ t ∈ (mis n hs).take k, t < n ∧ hs.getD t false = true := fun t ht => mem_mis.1 (List.mem_of_mem_take ht)
  refine ⟨_, _, _, _, rfl, mk _ _ _ _ fun k34 w36 r34 x36 => condB_of (fun h => by simp at h) fun _ => ?_⟩
  have x36' := x30'.trans x36
  have r20' : RowK w36 k20 82 (matC n k (some ag) (n * k) cg) := x36.keep (x30.keep r20)
  refine ⟨_, r20'.cell0 rfl, _, r20'.cell3 rfl, _, _, _, r20'.cell3 rfl, _, _, _, r34.cell, (pick_spec (c4 := cl) (hGr.ext (x24.trans (x30.trans x36))) (OwnN.nats (OwnS.ext ol x36)) (fun t ht => (hmem t ht).1) (by omega) (by omega) (by omega) (by omega) hcg).mono ?_⟩
  rintro e w41 ⟨v, rfl, km, rfl, mm, x41⟩
  refine ⟨_, _, _, _, _, _, rfl, new_mat fun k47 w51 r47 _ x51 => ?_⟩
  have x51' := x36'.trans (x41.trans x51)
  refine ⟨_, (R6 x51').cell, _, r47.cell0 rfl, _, r47.cell3 rfl, _, _, _, r47.cell3 rfl, (invert_spec (hf.ext (x11.trans x51')) (by omega) (by omega) (mm.ext x51).read (Nat.le_refl _) ?_).mono ?_⟩
  · exact gen_inj (k := k) (m := m) (by omega) hlk (by rw [← hn]; exact pick_count hok) (fun t ht => by have := (hmem t ht).1; omega)
  rintro e w56 ⟨v, rfl, kv, V, rfl, mv, hinv, x56⟩
  refine ⟨_, _, _, _, _, _, rfl, new_mat fun k62 w66 r62 _ x66 => condB_of (fun h => by simp at h) fun _ => ?_⟩
  have x66' := x51'.trans (x56.trans x66)
  have xw66 := x11.trans x66'
  have r34' : RowK w66 k34 28 #[.slice pl k cl] := x66.keep (x56.keep (x51.keep (x41.keep r34)))
  have ol' := OwnS.ext (OwnS.ext (OwnS.ext (OwnS.ext (OwnS.ext ol x36) x41) x51) x56) x66
  have mv' := mv.ext x66
  refine ⟨_, (R8 x66').cell, ⟨by omega, by omega, rfl, Upd.refl _ _, RowsS.nil _ _ _⟩, ?_⟩
  rintro p71 l71 c71 j w73 ⟨hj0, hj1, hlj, hx, hR⟩
  intros
  have x73 := x66'.trans hx
  have xw73 := xw66.trans hx
  refine condB_of (fun hs1 => ?_) (fun hs1 => ?_)
  · simp only [decide_eq_true_eq] at hs1
    obtain ⟨t, rfl⟩ := Int.eq_ofNat_of_zero_le hj0
    refine (made1_spec (s := (D0.getD 0 []).length) (hf.ext xw73) (R10 x73) (hx.keep r34') (hx.keep r62) (R8 x73) (R6 x73) (mv'.ext hx) (h5.ext xw73) (OwnN.nats (OwnS.ext ol' hx)) (fun u hu => ⟨(hmem u hu).1, hlenR u (hmem u hu).1 (hmem u hu).2⟩) (by omega) (by omega) hs0).mono ?_
    rintro e w84 ⟨p86, c86, rfl, x84, o84⟩
    refine ⟨_, _, _, rfl, fun k87 w88 h88 => ?_⟩
    rw [dcol_back hn hok hD hall rfl hL hinv (by omega)] at o84
    obtain ⟨p', c', w89, hr, hR', hu⟩ := hR.push x84 o84 h88 hx.size (by omega)
    rw [w64 (n := (t : Int) + 1) (by omega)]
    refine ⟨_, _, _, w89, hr, ⟨by omega, by omega, by omega, OwnB.new_ext (hx.trans x84) hu fun y hy => ?_, hR'.congr fun u _ => ?_⟩, by show ((k : Int) - ((t : Int) + 1)).toNat < ((k : Int) - t).toNat; omega⟩
    · obtain ⟨P, g1, _⟩ := hR
      exact OwnS.blk g1 hy
    · by_cases e : u = l71
      · rw [if_pos e, show u = t by omega]
      · rw [if_neg e]
  · simp only [decide_eq_false_iff_not] at hs1
    obtain rfl : l71 = k := by omega
    obtain ⟨g, rfl, _, hRa⟩ := hR.first (by omega)
    have hDe : (List.range l71).map (fun t => D0.getD t []) = D0 := by
      refine List.ext_getElem (by simp [hD]) fun i h1 h2 => ?_
      simp [List.getD_eq_getElem?_getD, h2]
    have hlists := hRa.lists
    rw [hDe] at hlists
    refine ⟨_, (R6 x73).cell, _, (R8 x73).cell, (encode_spec (c := c71) (hf.ext xw73) hlists (fun y hy => ?_) (by omega) l71 m).mono ?_⟩
    · obtain ⟨i, hi, rfl⟩ := List.getElem_of_mem hy
      have := hall i (by omega)
      rw [List.getD_eq_getElem?_getD, List.getElem?_eq_getElem hi, Option.getD_some] at this
      omega
    · rintro e w93 ⟨v, rfl, x93, ⟨h, _⟩ | ⟨_, h, _⟩ | ⟨_, _, a, c, rfl, hrows⟩⟩
      · exact (h hkok).elim
      · exact (h ⟨rfl, fun i hi => hall i hi⟩).elim
      · refine ⟨_, _, _, _, rfl, xw73.trans x93, .inr ⟨hok, a, c, ?_, ?_⟩⟩
        · rw [ekm, Int.toNat_natCast]
        · rw [ekm] at hrows
          simp only [Int.toNat_natCast] at hrows
          exact hrows.base_le xw73.size
end Go.Proofs.Ytpmkjpgoekjcfaa
