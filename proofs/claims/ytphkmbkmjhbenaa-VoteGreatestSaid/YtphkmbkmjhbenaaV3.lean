/- A sector is packed. -/
import Derived.Test.YtphkmbkmjhbenaaV2
namespace Go.Proofs.Ytphkmbkmjhbenaa
open Go Go.Vc

def RowB (w : World) (k : Nat) (bs : List UInt8) : Prop := w.heap[k]? = some (.cells (encB bs).toArray 5 (0, 0))
theorem RowB.bytes {w : World} {k : Nat} {bs : List UInt8} (h : RowB w k bs) : BytesAt w (some (at0 k)) bs.length bs :=
  BytesAt.of_cells fun j u hj => ⟨_, rfl, Row.cell ⟨_, _, h⟩ (by simpa using hj)⟩
theorem RowB.upd {S : Nat → Prop} {w w' : World} {k : Nat} {bs : List UInt8} (h : RowB w k bs) (hu : Upd S w w') (hS : ¬ S k) : RowB w' k bs := hu.keep h hS

set_option maxHeartbeats 1000000 in
theorem pput_spec {w : World} {kc kb a : Nat} {L : Nat} {bs : List UInt8} {x : Int} (hx0 : 0 ≤ x) (hc : RowW w kc #[.slice (some (at0 kb)) L L]) (hb : RowB w kb bs) (hL : L = bs.length) (ha : a + 4 ≤ L) :
    Calls Try.prog 54 #[.int .i64 (a : Int), .int .u32 x, .pointer (some (at0 kc))] w fun e w' => e = .returned (.tuple #[]) ∧ Upd (fun b => b = kb) w w' ∧ RowB w' kb (paste a (fourM x) bs) := by
  refine (F54_calls (a : Int) x (at0 kc) w (fun v w' => v = .tuple #[] ∧ Upd (fun b => b = kb) w w' ∧ RowB w' kb (paste a (fourM x) bs)) ?_).mono (by rintro e w' ⟨v, rfl, rfl, h⟩; exact ⟨rfl, h⟩)
  refine (four_spec x hx0 w).mono ?_
  rintro e w4 ⟨rfl, hx4⟩
  refine ⟨_, _, _, _, rfl, fun k w11 hk => ?_⟩
  have r3 : RowW w11 k #[.int .u8 0, .int .u8 0, .int .u8 0, .int .u8 0] := ⟨_, hk.at⟩
  have e0 : (at0 k) = (at0 k).add 0 := (add_at0 k 0).symm
  refine ⟨by rw [e0]; exact r3.live (by simp), fun w12 s4 => ?_⟩
  rw [e0] at s4
  have r4 := s4.row r3
  refine ⟨r4.live (by simp), fun w13 s5 => ?_⟩
  have r5 := s5.row r4
  refine ⟨r5.live (by simp), fun w14 s6 => ?_⟩
  have r6 := s6.row r5
  refine ⟨r6.live (by simp), fun w15 s7 => ?_⟩
  have r7 := s7.row r6
  have hsz : w.heap.size ≤ k := by rw [hk.size.1]; exact hx4.size
  have x7 : Ext w w15 := setc_new (setc_new (setc_new (setc_new (hx4.trans hk.ext) hsz s4) hsz s5) hsz s6) hsz s7
  intro w16 hd
  have x8 : Ext w w16 := x7.trans hd.ext
  have hkc : RowW w16 kc _ := x8.rowW hc id
  have e1 : (at0 kc) = (at0 kc).add 0 := (add_at0 kc 0).symm
  refine ⟨_, _, _, by rw [e1]; exact hkc.row.cell rfl, ⟨by omega, by omega⟩, ?_⟩
  have hb16 : RowB w16 kb bs := hb.upd x8 id
  have hsrc : BytesAt w16 (some (at0 k)) 4 (fourM x) := by
    have this : RowW w16 k (encB (fourM x)).toArray := hd.ext.rowW r7 id
    exact BytesAt.of_cells (bs := fourM x) fun j u hj => ⟨_, rfl, Row.cell this.row (by rw [List.getElem?_toArray]; exact hj)⟩
  have hsrc' : BytesAt w16 (cutP (some (at0 k)) 4 0 1) (4 - 0) (fourM x) := cutB hsrc (b := 4) (a := 0) (by omega) (by omega) (by omega)
  obtain ⟨n, w', hr, hrow, hu⟩ := copy_bytes (dCap := L - a) (c := 4 - 0) hb16 (a := a) (by rw [fourM_len]; omega) hsrc'
  have hcut : cutP (some (at0 kb)) L ((a : Int).toNat) 1 = some ((at0 kb).add (a * 1)) := by
    unfold cutP
    rw [if_neg (by omega)]
    rfl
  rw [hcut]
  rw [← hL] at hr
  exact ⟨n, w', hr, rfl, Upd.trans (Ext.upd x8) hu fun y _ hy => hy, hrow⟩

theorem zeroB : zeroCellsOf Try.prog 5 = [.int .u8 0] := by kernel_rfl
theorem made_bytes (n : Nat) : madeRow Try.prog 5 n = (encB (List.replicate n 0)).toArray := by
  unfold madeRow
  rw [zeroB]
  congr 1
  induction n with
  | zero => rfl
  | succ n ih =>
    rw [List.replicate_succ, List.flatten_cons, ih, List.replicate_succ]
    rfl

theorem paste_take {a : Nat} {xs bs : List UInt8} (h : a ≤ bs.length) : (paste a xs bs).take a = bs.take a := by
  unfold paste
  rw [List.take_append_of_le_length (by simp; omega), List.take_take, Nat.min_self]
theorem paste_all (A B C X : List UInt8) (hA : A.length = 4) (hB : B.length = 4) (hC : C.length = 4) : paste (8 + X.length) C (paste 8 X (paste 4 B (paste 0 A (List.replicate (12 + X.length) 0)))) = (A ++ (B ++ X)) ++ C := by
  have e : (List.replicate (12 + X.length) 0 : List UInt8) = [] ++ (List.replicate 4 0 ++ (List.replicate 4 0 ++ (List.replicate X.length 0 ++ List.replicate 4 0))) := by
    simp only [List.replicate_append_replicate, List.nil_append]
    congr 1; omega
  rw [e, paste_mid (a := 0) rfl (by simp [hA]), List.nil_append, paste_mid (a := 4) hA (by simp [hB]), ← List.append_assoc A B, paste_mid (a := 8) (by simp [hA, hB]) (by simp)]
  have : (A ++ B) ++ (X ++ List.replicate 4 0) = ((A ++ B) ++ X) ++ (List.replicate 4 0 ++ []) := by simp
  rw [this, paste_mid (by simp [hA, hB]; omega) (by simp [hC])]
  simp

set_option maxHeartbeats 1000000 in
theorem pack_spec (addr epoch : Int) {p : Option Addr} {l c : Nat} {w : World} {d : List UInt8} (h : BytesAt w p l d) (hm : l ≤ 4611686018427387904) :
    Calls Try.prog 43 #[.int .i64 addr, .int .i64 epoch, .slice p l c] w fun e w' => Ext w w' ∧
      if fitsP addr ∧ fitsP epoch ∧ d.length ≤ 4096 then ∃ k c', w.heap.size ≤ k ∧ e = .returned (.tuple #[.slice (some (at0 k)) (packM addr epoch d).length c', .int .i64 0]) ∧ BytesAt w' (some (at0 k)) (packM addr epoch d).length (packM addr epoch d)
      else e = .returned (.tuple #[.slice none 0 0, .int .i64 1]) := by
  refine (F43_calls addr epoch p l c w (fun v w' => Ext w w' ∧ if fitsP addr ∧ fitsP epoch ∧ d.length ≤ 4096 then ∃ k c', w.heap.size ≤ k ∧ v = .tuple #[.slice (some (at0 k)) (packM addr epoch d).length c', .int .i64 0] ∧ BytesAt w' (some (at0 k)) (packM addr epoch d).length (packM addr epoch d)
      else v = .tuple #[.slice none 0 0, .int .i64 1]) ?_).mono (by
    rintro e w' ⟨v, rfl, hx, h⟩
    refine ⟨hx, ?_⟩
    split at h
    · rw [if_pos (by assumption)]; obtain ⟨k, c', h0, rfl, h⟩ := h; exact ⟨k, c', h0, rfl, h⟩
    · rw [if_neg (by assumption), h])
  have hl := h.1
  refine (fits_spec addr w).mono ?_
  rintro e w4 ⟨rfl, rfl⟩
  refine ⟨_, rfl, condB_of (fun h1 => ?_) (fun h1 => ?_)⟩
  · simp only [Bool.not_eq_true', decide_eq_false_iff_not] at h1
    exact ⟨Upd.refl _ _, by rw [if_neg (fun hk => h1 hk.1)]⟩
  simp only [Bool.not_eq_false', decide_eq_true_eq] at h1
  refine (fits_spec epoch w4).mono ?_
  rintro e w5 ⟨rfl, rfl⟩
  refine ⟨_, rfl, condB_of (fun h2 => ?_) (fun h2 => ?_)⟩
  · simp only [Bool.not_eq_true', decide_eq_false_iff_not] at h2
    exact ⟨Upd.refl _ _, by rw [if_neg (fun hk => h2 hk.2.1)]⟩
  simp only [Bool.not_eq_false', decide_eq_true_eq] at h2
  refine condB_of (fun h3 => ?_) (fun h3 => ?_)
  · simp only [decide_eq_true_eq] at h3
    exact ⟨Upd.refl _ _, by rw [if_neg (fun hk => by have := hk.2.2; omega)]⟩
  simp only [decide_eq_false_iff_not] at h3
  have hfit : fitsP addr ∧ fitsP epoch ∧ d.length ≤ 4096 := ⟨h1, h2, by omega⟩
  have w1 : IntKind.i64.wrap ((12 : Int) + (l : Int)) = ((12 + l : Nat) : Int) := by rw [w64 (by omega)]; omega
  have w2 : IntKind.i64.wrap ((8 : Int) + (l : Int)) = ((8 + l : Nat) : Int) := by rw [w64 (by omega)]; omega
  rw [w1, w2]
  refine ⟨⟨by omega, by omega, by have : (2 : Int) ^ 48 = 281474976710656 := rfl; rw [this]; omega⟩, fun kb w11 hkb kc w13 hkc => ?_⟩
  have e0 : (at0 kc) = (at0 kc).add 0 := (add_at0 kc 0).symm
  have r13 : RowW w13 kc #[.slice none 0 0] := ⟨_, hkc.at⟩
  refine ⟨by rw [e0]; exact r13.live (by simp), fun w14 s14 => ?_⟩
  rw [e0] at s14
  have r14 : RowW w14 kc #[.slice (some (at0 kb)) (12 + l) (12 + l)] := s14.row r13
  have hbsz : w5.heap.size ≤ kb := by rw [hkb.size.1]; exact Nat.le_refl _
  have hcsz : w5.heap.size ≤ kc := by rw [hkc.size.1]; exact hkb.ext.size
  have hne : kb ≠ kc := by
    rw [hkc.size.1]
    exact Nat.ne_of_lt (lt_of_heap hkb.at)
  have hcne : kc ≠ kb := fun e => hne e.symm
  have x14 : Ext w5 w14 := setc_new (hkb.ext.trans hkc.ext) hcsz s14
  have b11 : RowB w11 kb (List.replicate (12 + l) 0) := by
    have := hkb.at
    rw [made_bytes] at this
    exact this
  have b14 : RowB w14 kb (List.replicate (12 + l) 0) := by
    refine (b11.upd hkc.ext id).upd s14.upd ?_
    rw [add_block]; exact hne
  have step : ∀ {w1 w2 : World}, Ext w5 w1 → Upd (fun b => b = kb) w1 w2 → Ext w5 w2 := fun hx hu => Upd.trans hx hu fun y hy he => by omega
  have fb : IntKind.u32.wrap addr = addr := by rw [IntKind.wrap_u32']; have := h1.1; have := h1.2; omega
  have fe : IntKind.u32.wrap epoch = epoch := by rw [IntKind.wrap_u32']; have := h2.1; have := h2.2; omega
  rw [fb, fe]
  refine (pput_spec (a := 0) h1.1 r14 b14 (by simp) (by omega)).mono ?_
  rintro e w15 ⟨rfl, u15, b15⟩
  refine ⟨rfl, ?_⟩
  have r15 : RowW w15 kc _ := u15.rowW r14 hcne
  have l15 : (paste 0 (fourM addr) (List.replicate (12 + l) 0)).length = 12 + l := by simp [paste, fourM_len]; omega
  refine (pput_spec (a := 4) h2.1 r15 b15 l15.symm (by omega)).mono ?_
  rintro e w17 ⟨rfl, u17, b17⟩
  have r17 : RowW w17 kc _ := u17.rowW r15 hcne
  have l17 : (paste 4 (fourM epoch) (paste 0 (fourM addr) (List.replicate (12 + l) 0))).length = 12 + l := by simp [paste, fourM_len]; omega
  refine ⟨rfl, _, _, _, by rw [e0]; exact r17.row.cell rfl, ⟨by omega, by omega⟩, ?_⟩
  have x17 : Ext w5 w17 := step (step x14 u15) u17
  obtain ⟨n, w20, hr, b20, u20⟩ := copy_bytes (dCap := 12 + l - 8) (c := c) b17 (a := 8) (by omega) (h.ext x17)
  have hcut : cutP (some (at0 kb)) (12 + l) ((8 : Int).toNat) 1 = some ((at0 kb).add (8 * 1)) := by
    unfold cutP
    rw [if_neg (show ¬ 12 + l = (8 : Int).toNat by have : (8 : Int).toNat = 8 := rfl; omega)]
    rfl
  rw [hcut]
  rw [l17] at hr
  have r20 : RowW w20 kc _ := u20.rowW r17 hcne
  refine ⟨n, w20, hr, _, _, _, by rw [e0]; exact r20.row.cell rfl, ⟨by omega, by omega⟩, ?_⟩
  have l20 : (paste 8 d (paste 4 (fourM epoch) (paste 0 (fourM addr) (List.replicate (12 + l) 0)))).length = 12 + l := by simp [paste, fourM_len]; omega
  have hB := RowB.bytes (show RowB w20 kb _ from b20)
  rw [l20] at hB
  have hB' := cutB hB (c := 12 + l) (a := 0) (b := 8 + l) (by omega) (by omega) (Nat.le_refl _)
  rw [List.drop_zero] at hB'
  refine (sum_spec hB' (by omega)).mono ?_
  rintro e w23 ⟨rfl, rfl⟩
  have hall := paste_all (fourM addr) (fourM epoch) (fourM (crcM (packH addr epoch d))) d rfl rfl rfl
  have hhead : (paste 8 d (paste 4 (fourM epoch) (paste 0 (fourM addr) (List.replicate (12 + l) 0)))).take (8 + l) = packH addr epoch d := by
    rw [hl]
    rw [hl] at l20
    have := congrArg (List.take (8 + d.length)) hall
    rw [paste_take (by omega)] at this
    rw [this, show fourM addr ++ (fourM epoch ++ d) = packH addr epoch d from rfl]
    exact List.take_left' (packH_len addr epoch d)
  rw [hhead]
  refine ⟨_, rfl, ?_⟩
  have hcr := crcM_range (packH addr epoch d)
  refine (pput_spec (a := 8 + l) hcr.1 r20 b20 l20.symm (by omega)).mono ?_
  rintro e w26 ⟨rfl, u26, b26⟩
  have r26 : RowW w26 kc _ := u26.rowW r20 hcne
  refine ⟨rfl, _, _, _, by rw [e0]; exact r26.row.cell rfl, step (step x17 u20) u26, ?_⟩
  rw [if_pos hfit]
  have hfin : paste (8 + l) (fourM (crcM (packH addr epoch d))) (paste 8 d (paste 4 (fourM epoch) (paste 0 (fourM addr) (List.replicate (12 + l) 0)))) = packM addr epoch d := by
    rw [hl]; exact hall
  rw [hfin] at b26
  have hpl : (packM addr epoch d).length = 12 + l := by rw [packM_len]; omega
  have := RowB.bytes (show RowB w26 kb _ from b26)
  refine ⟨kb, 12 + l, hbsz, by rw [hpl], this⟩
end Go.Proofs.Ytphkmbkmjhbenaa
