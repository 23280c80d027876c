/- The document's disk: corrupting. -/
import Derived.Test.YtbidancfbilbkaaN4
namespace Go.Proofs.Ytbidancfbilbkaa
open Go Go.Vc

theorem corBytes_len (bs : List UInt8) (a : Int) (y : UInt8) : (corBytes bs a y).length = bs.length := by simp [corBytes]

set_option maxHeartbeats 1000000 in
theorem changed_spec {w : World} {p : Option Addr} {l c : Nat} {bs : List UInt8} (hb : BytesAt w p l bs) (hne : bs ≠ []) (hl : l ≤ 4108) (a : Int) (ha : -9223372036854775808 ≤ a ∧ a ≤ 9223372036854775807) (y : UInt8) :
    Calls Try.prog 76 #[.slice p l c, .int .i64 a, .int .u8 (y.toNat : Int)] w fun e w' => ∃ p' l' c', e = .returned (.slice p' l' c') ∧ Ext w w' ∧ OwnS w' w.heap.size 5 1 p' l' c' (encB (corBytes bs a y)) := by
  refine (F76_calls p l c a (y.toNat : Int) w (fun v w' => ∃ p' l' c', v = .slice p' l' c' ∧ Ext w w' ∧ OwnS w' w.heap.size 5 1 p' l' c' (encB (corBytes bs a y))) ?_).mono (by rintro e w' ⟨v, rfl, p', l', c', rfl, h⟩; exact ⟨p', l', c', rfl, h⟩)
  have hll := hb.1
  have hpos : 0 < bs.length := List.length_pos_iff.2 hne
  have hlt := corIdx_lt a hpos
  have main : ∀ E : Int, E = (if a < 0 then -(a + 1) else a) → ∀ (k4 : Nat) (w5 : World), NewB w k4 (.cells #[] 5) w5 → (∃ (p7 : Option Addr) (l7 c7 : Nat), ∃ w6 : World, Sem.run Try.prog (Builtin.append_ #[29, 29] 29 #[.slice (some (at0 k4)) 0 0, .slice p l c]) w5 = .ok (.slice p7 l7 c7) w6 ∧
      (∀ w8 : World, Drew w6 w8 → (((l : Nat) : Int) ≠ 0 ∧ (((l : Nat) : Int) ≠ 0 ∧ ((0 ≤ (E.tmod ((l : Nat) : Int)) ∧ (E.tmod ((l : Nat) : Int)) < ((l7 : Nat) : Int)) ∧ (nilM p7 fun a9 => (∃ (n10 : Int), w8.cell? (a9.add ((E.tmod ((l : Nat) : Int)).toNat * 1)) = some (.int .u8 n10) ∧
        ((0 ≤ (E.tmod ((l : Nat) : Int)) ∧ (E.tmod ((l : Nat) : Int)) < ((l7 : Nat) : Int)) ∧ (nilM p7 fun a11 => (Live w8 (a11.add ((E.tmod ((l : Nat) : Int)).toNat * 1)) ∧ (∀ w12 : World, SetC w8 (a11.add ((E.tmod ((l : Nat) : Int)).toNat * 1)) (Value.int .u8 (bitsV .xor .u8 n10 (y.toNat : Int))) w12 →
          (∃ p' l' c', Value.slice p7 l7 c7 = .slice p' l' c' ∧ Ext w w12 ∧ OwnS w12 w.heap.size 5 1 p' l' c' (encB (corBytes bs a y)))))))))))))) := by
    intro E hE k4 w5 hk
    have hEn : 0 ≤ E := by rw [hE]; split <;> omega
    have htm : E.tmod (l : Int) = E % (l : Int) := Int.tmod_eq_emod_of_nonneg hEn
    have hidx : (E % (l : Int)).toNat = corIdx a bs.length := by rw [hE, ← hll]; rfl
    obtain ⟨p', c', w6, hr, x6, own⟩ := dup_app hk hb (c := c) (by omega)
    refine ⟨p', l, c', w6, hr, ?_⟩
    intro w8 d8
    have own8 := own.ext d8.ext
    rw [htm, Nat.mul_one, hidx]
    have hr1 := Int.emod_nonneg E (show (l : Int) ≠ 0 by omega)
    have hr2 := Int.emod_lt_of_pos E (show (0 : Int) < l by omega)
    have hel : (encB bs)[corIdx a bs.length]? = some (.int .u8 ((bs.getD (corIdx a bs.length) 0).toNat : Int)) := by
      simp [encB, List.getElem?_eq_getElem hlt, List.getD]
    obtain ⟨aa, rfl, hcell⟩ := own8.cells _ _ hel
    refine ⟨by omega, by omega, ⟨hr1, hr2⟩, _, hcell, ⟨hr1, hr2⟩, own8.live (by rw [encB_length]; exact hlt), ?_⟩
    intro w12 hset
    obtain ⟨own12, hu12⟩ := own8.set hset
    rw [xor_u8, encB_set] at own12
    refine ⟨_, l, c', rfl, ?_, own12⟩
    refine Upd.trans (x6.trans d8.ext) hu12 fun x hx hs => ?_
    rcases own8.where_ with ⟨h, _⟩ | ⟨g, h, hge, _⟩
    · cases h
    · cases h
      have : x = g := hs
      omega
  refine condB_of (fun h0 => ?_) (fun h0 => ?_)
  · simp only [decide_eq_true_eq] at h0
    exact main _ (by rw [w64 (by omega : -9223372036854775808 ≤ a + 1 ∧ a + 1 ≤ 9223372036854775807), w64 (by omega), if_pos h0]; omega)
  · simp only [decide_eq_false_iff_not] at h0
    exact main _ (by rw [if_neg h0])

set_option maxHeartbeats 1000000 in
theorem rcorrupt_spec {w : World} {b : Nat} {D : Dk} {G : Nat → Prop} (h : IsRef w b D G) (hok : DkOk D) (k a : Int) (y : UInt8) (ha : -9223372036854775808 ≤ a ∧ a ≤ 9223372036854775807) :
    Calls Try.prog 68 #[.pointer (some (at0 b)), .int .i64 k, .int .i64 a, .int .u8 (y.toNat : Int)] w fun e w' => ∃ G', e = .returned (.int .i64 (corruptZ D k)) ∧ RStep b G G' w w' ∧ IsRef w' b (corruptD D k a y) G' := by
  have h' := h
  obtain ⟨pL, lL, cL, pW, lW, cW, i1, i2, i3, i4, i5, i6, i7⟩ := h'
  refine (F68_calls (some (at0 b)) k a (y.toNat : Int) w (fun v w' => ∃ G', v = .int .i64 (corruptZ D k) ∧ RStep b G G' w w' ∧ IsRef w' b (corruptD D k a y) G') ?_).mono (by rintro e w' ⟨v, rfl, G', rfl, h⟩; exact ⟨G', rfl, h⟩)
  have hlen := ref_len hok i4 i5
  have hbl := i1.lt
  refine (rfault_spec h k).mono ?_
  rintro e w5 ⟨rfl, rfl⟩
  refine ⟨_, rfl, condB_of (fun hf => ?_) (fun hf => ?_)⟩
  · simp only [Bool.not_eq_true', decide_eq_false_iff_not] at hf
    have hz : corruptZ D k = faultZ D.dead D.sectors k := by simp [corruptZ, hf]
    refine ⟨G, by rw [hz], RStep.refl _ _ _, ?_⟩
    rw [corruptD, if_pos hf]; exact h
  simp only [Bool.not_eq_false', decide_eq_true_eq] at hf
  refine ⟨_, _, _, i1.row.cell rfl, ?_⟩
  refine (rfind_spec i3 hlen.2 k).mono ?_
  rintro e w10 ⟨x10, ⟨i, bs, rfl, hi, hg⟩ | ⟨rfl, hg⟩⟩
  · refine ⟨_, rfl, condB_of (fun _ w13 d13 => ?_) (fun h0 => by simp at h0)⟩
    have x13 := x10.trans d13.ext
    have hil : i < D.waits.length := (List.getElem?_eq_some_iff.1 hi).1
    obtain ⟨aa, q, n, c', rfl, _, _, hc, q', n', c'', he, hb, hne, hn, _⟩ := (i3.ext x13).at hi
    cases he
    rw [Int.toNat_natCast]
    refine ⟨_, _, _, (x13.rowW i1 id).row.cell rfl, _, _, _, (x13.rowW i1 id).row.cell rfl, ⟨by omega, by have := i3.1; omega⟩, q, n, c', hc, ?_⟩
    refine (changed_spec hb hne hn a ha y).mono ?_
    rintro e w20 ⟨p', l', c2, rfl, x20', own⟩
    have x20 := x13.trans x20'
    refine ⟨p', l', c2, rfl, ⟨_, _, _, (x20.rowW i1 id).row.cell rfl, rfl⟩, ?_⟩
    have hn' : bs.length ≤ 4108 := by have e : n = bs.length := hb.1; omega
    have hne' : corBytes bs a y ≠ [] := by
      intro h0
      have := congrArg List.length h0
      rw [corBytes_len] at this
      exact hne (List.eq_nil_of_length_eq_zero this)
    have hv : SliceVal (Gn G w5.heap.size w20.heap.size) w20 (.slice p' l' c2) (corBytes bs a y) := (own_val (w := w5) own x13.size hne' (by rw [corBytes_len]; exact hn')).mono fun x hx => .inr hx
    refine (with_spec ((i3.ext x20).mono (G' := Gn G w5.heap.size w20.heap.size) fun x hx => .inl hx) i5 hlen.2 k hv).mono ?_
    rintro e w24 ⟨p3, l3, c3, rfl, x24', hL⟩
    have x24 := x20.trans x24'
    refine ⟨p3, l3, c3, rfl, (x24.rowW i1 id).live (by simp), fun w28 hs => ?_⟩
    have hL' : RefL w24 (Gn G w5.heap.size w24.heap.size) p3 l3 c3 (ins k (corBytes bs a y) D.waits) := hL.mono fun x hx => by
      have s1 := x20.size; have s2 := x24'.size
      rcases hx with (hx | hx) | hx
      · exact .inl hx
      · exact .inr ⟨hx.1, by omega⟩
      · exact .inr ⟨by omega, hx.2⟩
    obtain ⟨r1, r2⟩ := h.setW x24 hL' (fun x hx => .inl hx) (fun hx => hx.elim i6 fun h => by omega) (by
      have s1 := x24.size
      rintro x (hx | hx)
      · have := i7 x hx; omega
      · exact hx.2) (ins_asc i5) hs
    refine ⟨Gn G w5.heap.size w24.heap.size, by simp [corruptZ, hf, hg], ⟨r2, fun x hx => ?_⟩, ?_⟩
    · rcases hx with hx | hx
      · exact .inl hx
      · exact .inr ⟨hx.1, by have := (setc_upd hs).size; omega⟩
    · have : corruptD D k a y = { D with waits := ins k (corBytes bs a y) D.waits } := by simp [corruptD, hf, hg]
      rw [this]; exact r1
  refine ⟨_, rfl, condB_of (fun h0 => by simp at h0) (fun _ => ?_)⟩
  refine ⟨_, _, _, (x10.rowW i1 id).row.cell rfl, ?_⟩
  refine (rfind_spec (i2.ext x10) hlen.1 k).mono ?_
  rintro e w31 ⟨x31', ⟨i, bs, rfl, hi, hg2⟩ | ⟨rfl, hg2⟩⟩
  · refine ⟨_, rfl, condB_of (fun h0 => by simp only [decide_eq_true_eq] at h0; omega) (fun _ w13 d13 => ?_)⟩
    have x13 := (x10.trans x31').trans d13.ext
    have hil : i < D.lasts.length := (List.getElem?_eq_some_iff.1 hi).1
    obtain ⟨aa, q, n, c', rfl, _, _, hc, q', n', c'', he, hb, hne, hn, _⟩ := (i2.ext x13).at hi
    cases he
    rw [Int.toNat_natCast]
    refine ⟨_, _, _, (x13.rowW i1 id).row.cell rfl, _, _, _, (x13.rowW i1 id).row.cell rfl, ⟨by omega, by have := i2.1; omega⟩, q, n, c', hc, ?_⟩
    refine (changed_spec hb hne hn a ha y).mono ?_
    rintro e w20 ⟨p', l', c2, rfl, x20', own⟩
    have x20 := x13.trans x20'
    refine ⟨p', l', c2, rfl, ⟨_, _, _, (x20.rowW i1 id).row.cell rfl, rfl⟩, ?_⟩
    have hn' : bs.length ≤ 4108 := by have e : n = bs.length := hb.1; omega
    have hne' : corBytes bs a y ≠ [] := by
      intro h0
      have := congrArg List.length h0
      rw [corBytes_len] at this
      exact hne (List.eq_nil_of_length_eq_zero this)
    have hv : SliceVal (Gn G w5.heap.size w20.heap.size) w20 (.slice p' l' c2) (corBytes bs a y) := (own_val (w := w5) own x13.size hne' (by rw [corBytes_len]; exact hn')).mono fun x hx => .inr hx
    refine (with_spec ((i2.ext x20).mono (G' := Gn G w5.heap.size w20.heap.size) fun x hx => .inl hx) i4 hlen.1 k hv).mono ?_
    rintro e w24 ⟨p3, l3, c3, rfl, x24', hL⟩
    have x24 := x20.trans x24'
    refine ⟨p3, l3, c3, rfl, (x24.rowW i1 id).live (by simp), fun w28 hs => ?_⟩
    have hL' : RefL w24 (Gn G w5.heap.size w24.heap.size) p3 l3 c3 (ins k (corBytes bs a y) D.lasts) := hL.mono fun x hx => by
      have s1 := x20.size; have s2 := x24'.size
      rcases hx with (hx | hx) | hx
      · exact .inl hx
      · exact .inr ⟨hx.1, by omega⟩
      · exact .inr ⟨by omega, hx.2⟩
    obtain ⟨r1, r2⟩ := h.setL x24 hL' (fun x hx => .inl hx) (fun hx => hx.elim i6 fun h => by omega) (by
      have s1 := x24.size
      rintro x (hx | hx)
      · have := i7 x hx; omega
      · exact hx.2) (ins_asc i4) hs
    refine ⟨Gn G w5.heap.size w24.heap.size, by simp [corruptZ, hf, hg, hg2], ⟨r2, fun x hx => ?_⟩, ?_⟩
    · rcases hx with hx | hx
      · exact .inl hx
      · exact .inr ⟨hx.1, by have := (setc_upd hs).size; omega⟩
    · have : corruptD D k a y = { D with lasts := ins k (corBytes bs a y) D.lasts } := by simp [corruptD, hf, hg, hg2]
      rw [this]; exact r1
  · refine ⟨_, rfl, condB_of (fun _ => ?_) (fun h0 => by simp at h0)⟩
    refine ⟨G, by simp [corruptZ, hf, hg, hg2], RStep.ext (x10.trans x31'), ?_⟩
    have : corruptD D k a y = D := by simp [corruptD, hf, hg, hg2]
    rw [this]; exact h.ext (x10.trans x31')
end Go.Proofs.Ytbidancfbilbkaa
