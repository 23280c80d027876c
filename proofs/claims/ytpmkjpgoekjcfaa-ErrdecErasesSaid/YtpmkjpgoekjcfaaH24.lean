/- Shards: checked, copied; what is added to parity. -/
import Derived.Test.YtpmkjpgoekjcfaaH23
namespace Go.Proofs.Ytpmkjpgoekjcfaa
open Go Go.Vc Go.Gf

/-- a matrix is copied into a result, and handed back -/
theorem ret3 {w : World} {k6 k14 : Nat} {a b : Int} {p : Option Addr} {l c : Nat} {cs : Array Value} {ev_ : Value} {R : Value → World → Prop} (h14 : RowK w k14 82 (matC a b p l c)) (h6 : RowK w k6 82 cs) (hs : cs.size = 3)
    (hR : ∀ w', Upd (fun x => x = k6) w w' → R (.tuple #[matV a b p l c, ev_]) w') :
    (∃ (n19 : Int), w.cell? (at0 k14) = some (.int .i64 n19) ∧ (∃ (n20 : Int), w.cell? ((at0 k14).add 1) = some (.int .i64 n20) ∧ (∃ (p21 : Option Addr) (l21 c21 : Nat), w.cell? ((at0 k14).add 2) = some (.slice p21 l21 c21) ∧ (Live w (at0 k6) ∧
      (∀ w22 : World, SetC w (at0 k6) (Value.int .i64 n19) w22 → (Live w22 ((at0 k6).add 1) ∧ (∀ w23 : World, SetC w22 ((at0 k6).add 1) (Value.int .i64 n20) w23 → (Live w23 ((at0 k6).add 2) ∧ (∀ w24 : World, SetC w23 ((at0 k6).add 2) (Value.slice p21 l21 c21) w24 →
        (∃ (n25 : Int), w24.cell? (at0 k6) = some (.int .i64 n25) ∧ (∃ (n26 : Int), w24.cell? ((at0 k6).add 1) = some (.int .i64 n26) ∧ (∃ (p27 : Option Addr) (l27 c27 : Nat), w24.cell? ((at0 k6).add 2) = some (.slice p27 l27 c27) ∧ (R (Value.tuple #[.agg #[.int .i64 n25, .int .i64 n26, .slice p27 l27 c27], ev_]) w24))))))))))))) := by
  refine ⟨_, h14.cell0 rfl, _, h14.cell3 rfl, _, _, _, h14.cell3 rfl, h6.live0 (by omega), fun w22 s22 => ?_⟩
  obtain ⟨c1, v1⟩ := h6.set0 s22
  refine ⟨c1.live3 (by simp; omega), fun w23 s23 => ?_⟩
  obtain ⟨c2, v2⟩ := c1.set3 s23
  refine ⟨c2.live3 (by simp; omega), fun w24 s24 => ?_⟩
  obtain ⟨c3, v3⟩ := c2.set3 s24
  have hv : Upd (fun x => x = k6) w w24 := Upd.trans (Upd.trans v1 v2 fun _ _ h => h) v3 fun _ _ h => h
  refine ⟨a, c3.cell0 ?_, b, c3.cell3 ?_, p, l, c, c3.cell3 ?_, hR w24 hv⟩
  · simp [hs]
  · simp [hs]
  · simp [hs]
/-- so many shards, all of one length -/
def Alike (n : Int) (l : Nat) (L : List (List UInt8)) : Prop := (l : Int) = n ∧ ∀ i, i < l → (L.getD i []).length = (L.getD 0 []).length

/-- what shards that are checked are told as -/
def chkP (w : World) (k m n : Int) (l5 : Nat) (L : List (List UInt8)) (v : Value) (w' : World) : Prop := Ext w w' ∧
      ((¬ kmOk k m ∧ ∃ a b p l c, v = .tuple #[matV a b p l c, .int .i64 50]) ∨ (kmOk k m ∧ ¬ Alike n l5 L ∧ ∃ a b p l c, v = .tuple #[matV a b p l c, .int .i64 60]) ∨
        kmOk k m ∧ Alike n l5 L ∧ ∃ p l c, v = .tuple #[matV m k p l c, .int .i64 0] ∧ OwnB w' w.heap.size p l c (genA (parV k.toNat) k.toNat (m.toNat * k.toNat)))

set_option maxHeartbeats 2000000 in
theorem checked_spec {f p5 : Option Addr} {w : World} {l5 c5 : Nat} {L : List (List UInt8)} (hf : FieldAt w f) (h5 : ListsAt w p5 l5 L) (bl : ∀ x ∈ L, x.length ≤ 4611686018427387904) (b5 : l5 ≤ 4611686018427387904) (k m n : Int) :
    Calls Try.prog 48 #[.pointer f, .int .i64 k, .int .i64 m, .int .i64 n, .slice p5 l5 c5] w fun e w' => Ext w w' ∧
      ((¬ kmOk k m ∧ ∃ a b p l c, e = .returned (.tuple #[matV a b p l c, .int .i64 50])) ∨ (kmOk k m ∧ ¬ Alike n l5 L ∧ ∃ a b p l c, e = .returned (.tuple #[matV a b p l c, .int .i64 60])) ∨
        kmOk k m ∧ Alike n l5 L ∧ ∃ p l c, e = .returned (.tuple #[matV m k p l c, .int .i64 0]) ∧ OwnB w' w.heap.size p l c (genA (parV k.toNat) k.toNat (m.toNat * k.toNat))) := by
  refine (F48_calls f k m n p5 l5 c5 w (chkP w k m n l5 L)
    (fun _ _ _ _ _ _ w18 b i w1 => b = !decide ((l5 : Int) = n) ∧ 0 ≤ i ∧ i ≤ l5 ∧ w1 = w18 ∧ ∀ j : Nat, (j : Int) < i → (L.getD j []).length = (L.getD 0 []).length) (fun _ _ _ _ _ _ _ _ i _ => (l5 - i).toNat) ?_).mono (by
    rintro e w' ⟨v, rfl, hx, ⟨h, a, b, p, l, c, rfl⟩ | ⟨h, h2, a, b, p, l, c, rfl⟩ | ⟨h, h2, p, l, c, rfl, ho⟩⟩
    · exact ⟨hx, .inl ⟨h, a, b, p, l, c, rfl⟩⟩
    · exact ⟨hx, .inr (.inl ⟨h, h2, a, b, p, l, c, rfl⟩)⟩
    · exact ⟨hx, .inr (.inr ⟨h, h2, p, l, c, rfl, ho⟩)⟩)
  have hl5 := h5.1
  have hlen : ∀ i, i < l5 → (L.getD i []).length ≤ 4611686018427387904 := fun i hi => by
    rw [List.getD_eq_getElem?_getD, List.getElem?_eq_getElem (by omega)]
    exact bl _ (List.getElem_mem _)
  intro k6 w7 h6
  have r6 : RowK w7 k6 82 (matC 0 0 none 0 0) := h6.at
  have n6 : w.heap.size ≤ k6 := by rw [h6.size.1]; exact Nat.le_refl _
  refine (cparity_spec (hf.ext h6.ext) k m).mono ?_
  have main : ∀ (w8 : World) (a b : Int) (p : Option Addr) (l c : Nat) (er : Int), Ext w7 w8 → ∀ (K : Nat → World → Prop), (∀ k14 w18, RowK w18 k14 82 (matC a b p l c) → RowK w18 k6 82 (matC 0 0 none 0 0) → k6 ≠ k14 → Ext w8 w18 → K k14 w18) →
      (∀ (k14 : Nat) (w15 : World), NewB w8 k14 (.cells #[.int .i64 (0 : Int), .int .i64 (0 : Int), .slice none 0 0] 82) w15 → (Live w15 (at0 k14) ∧ (∀ w16 : World, SetC w15 (at0 k14) (Value.int .i64 a) w16 → (Live w16 ((at0 k14).add 1) ∧ (∀ w17 : World, SetC w16 ((at0 k14).add 1) (Value.int .i64 b) w17 →
        (Live w17 ((at0 k14).add 2) ∧ (∀ w18 : World, SetC w17 ((at0 k14).add 2) (Value.slice p l c) w18 → K k14 w18))))))) := by
    intro w8 a b p l c er hx K hK k14 w15 h14
    have r14 : RowK w15 k14 82 (matC 0 0 none 0 0) := h14.at
    have n14 : w8.heap.size ≤ k14 := by rw [h14.size.1]; exact Nat.le_refl _
    have ne : k6 ≠ k14 := by have := lt_of_heap r6; have := hx.size; omega
    refine ⟨r14.live0 (by simp), fun w16 s16 => ?_⟩
    obtain ⟨c1, v1⟩ := r14.set0 s16
    refine ⟨c1.live3 (by simp), fun w17 s17 => ?_⟩
    obtain ⟨c2, v2⟩ := c1.set3 s17
    refine ⟨c2.live3 (by simp), fun w18 s18 => ?_⟩
    obtain ⟨c3, v3⟩ := c2.set3 s18
    exact hK k14 w18 c3 (v3.keep (v2.keep (v1.keep (h14.ext.keep (hx.keep r6)) ne) ne) ne) ne (ext_upd (ext_upd (ext_upd h14.ext n14 v1) n14 v2) n14 v3)
  rintro e w8 ⟨x8, ⟨hk, rfl⟩ | ⟨hk, p, l, c, rfl, ho⟩⟩
  · refine ⟨_, _, _, _, _, _, rfl, main w8 _ _ _ _ _ 50 x8 _ fun k14 w18 r14 r6' ne x18 => condB_of (fun _ => ?_) (fun h => by simp at h)⟩
    exact ret3 (R := chkP w k m n l5 L) r14 r6' rfl fun w' hu => ⟨ext_upd (h6.ext.trans (x8.trans x18)) n6 hu, .inl ⟨hk, _, _, _, _, _, rfl⟩⟩
  · refine ⟨_, _, _, _, _, _, rfl, main w8 _ _ _ _ _ 0 x8 _ fun k14 w18 r14 r6' ne x18 => condB_of (fun h => by simp at h) fun _ => ?_⟩
    have x18' := h6.ext.trans (x8.trans x18)
    have bad : ¬ Alike n l5 L → F48_A0 w18 k14 k6 (chkP w k m n l5 L)
        (fun _ _ _ _ _ _ w18 b i w1 => b = !decide ((l5 : Int) = n) ∧ 0 ≤ i ∧ i ≤ l5 ∧ w1 = w18 ∧ ∀ j : Nat, (j : Int) < i → (L.getD j []).length = (L.getD 0 []).length) (fun _ _ _ _ _ _ _ _ i _ => (l5 - i).toNat) := fun hna => by
      unfold F48_A0
      exact ret3 (R := chkP w k m n l5 L) r14 r6' rfl fun w' hu => ⟨ext_upd x18' n6 hu, .inr (.inl ⟨hk, hna, _, _, _, _, _, rfl⟩)⟩
    refine ⟨⟨rfl, by omega, by omega, rfl, fun j hj => by omega⟩, ?_⟩
    rintro b i w36 ⟨rfl, hi0, hi1, rfl, hall⟩
    intros
    refine condB_of (fun hs => ?_) (fun hs => ?_)
    · simp only [decide_eq_true_eq] at hs
      obtain ⟨a, q, ln, cn, rfl, hc, hq, _⟩ := (h5.ext x18').2 i.toNat (by omega)
      obtain ⟨a', q', ln', cn', ha', hc', hq', _⟩ := (h5.ext x18').2 0 (by omega)
      cases ha'
      have e1 := hq.1
      have e2 := hq'.1
      refine ⟨⟨hi0, hs⟩, _, _, _, by rw [Nat.mul_one]; exact hc, ⟨by omega, by omega⟩, _, _, _, hc', condB_of (fun hne => ?_) (fun hne => ?_)⟩
      · simp only [Bool.not_eq_true', decide_eq_false_iff_not] at hne
        refine bad fun hal => hne ?_
        have := hal.2 i.toNat (by omega)
        omega
      · simp only [Bool.not_eq_false', decide_eq_true_eq] at hne
        rw [w64 (n := i + 1) (by omega)]
        refine ⟨⟨rfl, by omega, by omega, rfl, fun j hj => ?_⟩, by show ((l5 : Int) - (i + 1)).toNat < ((l5 : Int) - i).toNat; omega⟩
        by_cases h1 : (j : Int) < i
        · exact hall j h1
        · rw [show j = i.toNat by omega]; omega
    · simp only [decide_eq_false_iff_not] at hs
      refine condB_of (fun hn => ?_) (fun hn => ?_)
      · simp only [Bool.not_eq_true', decide_eq_false_iff_not] at hn
        exact bad fun hal => hn hal.1
      · simp only [Bool.not_eq_false', decide_eq_true_eq] at hn
        refine ret3 (R := chkP w k m n l5 L) r14 r6' rfl fun w' hu => ⟨ext_upd x18' n6 hu, .inr (.inr ⟨hk, ⟨hn, fun i hi => hall i (by omega)⟩, p, l, c, rfl, ?_⟩)⟩
        exact OwnB.base_le (OwnB.apart (OwnB.ext ho x18) hu r6' ty_mat.1) h6.ext.size
end Go.Proofs.Ytpmkjpgoekjcfaa
