/- The document's disk: writing, reading, flushing, crashing. -/
import Derived.Test.YtbidancfbilbkaaN2
namespace Go.Proofs.Ytbidancfbilbkaa
open Go Go.Vc

/-- the blocks of lists behind a step -/
abbrev Gn (G : Nat → Prop) (n m : Nat) : Nat → Prop := fun x => G x ∨ (n ≤ x ∧ x < m)

theorem ref_len {D : Dk} (h : DkOk D) (h1 : Asc D.lasts) (h2 : Asc D.waits) : D.lasts.length ≤ 4096 ∧ D.waits.length ≤ 4096 := dk_len h ⟨h1, h2⟩

set_option maxHeartbeats 1000000 in
theorem rwrite_spec {w : World} {b : Nat} {D : Dk} {G : Nat → Prop} (h : IsRef w b D G) (hok : DkOk D) (k : Int) {p : Option Addr} {l c : Nat} {bs : List UInt8} (hb : BytesAt w p l bs) :
    Calls Try.prog 62 #[.pointer (some (at0 b)), .int .i64 k, .slice p l c] w fun e w' => ∃ G', e = .returned (.int .i64 (writeZ D k bs.length)) ∧ Upd (fun x => x = b) w w' ∧ IsRef w' b (writeD D k bs) G' ∧ Grows G G' w w' := by
  refine (F62_calls (some (at0 b)) k p l c w (fun v w' => ∃ G', v = .int .i64 (writeZ D k bs.length) ∧ Upd (fun x => x = b) w w' ∧ IsRef w' b (writeD D k bs) G' ∧ Grows G G' w w') ?_).mono (by rintro e w' ⟨v, rfl, G', rfl, h⟩; exact ⟨G', rfl, h⟩)
  have hl := hb.1
  refine (rfault_spec h k).mono ?_
  rintro e w4 ⟨rfl, rfl⟩
  have same : writeZ D k bs.length ≠ 0 → ∃ G', Value.int .i64 (writeZ D k bs.length) = .int .i64 (writeZ D k bs.length) ∧ Upd (fun x => x = b) w4 w4 ∧ IsRef w4 b (writeD D k bs) G' ∧ Grows G G' w4 w4 := fun hz =>
    ⟨G, rfl, Upd.refl _ _, by rw [write_no hz]; exact h, fun x hx => .inl hx⟩
  refine ⟨_, rfl, condB_of (fun hf => ?_) (fun hf => ?_)⟩
  · simp only [Bool.not_eq_true', decide_eq_false_iff_not] at hf
    have hz : writeZ D k bs.length = faultZ D.dead D.sectors k := by simp [writeZ, hf]
    rw [← hz]
    exact same (by rw [hz]; exact hf)
  simp only [Bool.not_eq_false', decide_eq_true_eq] at hf
  have bad : (bs.length < 1 ∨ 4108 < bs.length) → writeZ D k bs.length = 1 := fun hbad => by rw [writeZ, if_neg (by simp [hf]), if_pos hbad]
  refine condB_of (fun h1 => ?_) (fun h1 => condB_of (fun h2 => ?_) (fun h2 => ?_))
  · simp only [decide_eq_true_eq] at h1
    have := bad (by omega)
    have := same (by rw [this]; decide)
    rw [bad (by omega)] at this ⊢; exact this
  · simp only [decide_eq_true_eq] at h2
    have := bad (by omega)
    have := same (by rw [this]; decide)
    rw [bad (by omega)] at this ⊢; exact this
  simp only [decide_eq_false_iff_not] at h1 h2
  have hz : writeZ D k bs.length = 0 := by rw [writeZ, if_neg (by simp [hf]), if_neg (by omega)]
  have hne : bs ≠ [] := by rintro rfl; simp at hl; omega
  intro w7 hd
  obtain ⟨pL, lL, cL, pW, lW, cW, i1, i2, i3, i4, i5, i6, i7⟩ := h
  have hlen := ref_len hok i4 i5
  have x7 := hd.ext
  refine ⟨_, _, _, (x7.rowW i1 id).row.cell rfl, ?_⟩
  intro k10 w11 hk
  have x11 := x7.trans hk.ext
  obtain ⟨p14, c14, w13, hr, x13', own⟩ := dup_app hk (hb.ext x7) (c := c) (by omega)
  have x13 := x7.trans x13'
  refine ⟨⟨_, _, _, (x11.rowW i1 id).row.cell rfl, rfl⟩, p14, l, c14, w13, hr, ⟨_, _, _, (x13.rowW i1 id).row.cell rfl, rfl⟩, ?_⟩
  have hv : SliceVal (Gn G w4.heap.size w13.heap.size) w13 (.slice p14 l c14) bs := (own_val (w := w4) own x7.size hne (by omega)).mono fun x hx => .inr hx
  refine (with_spec ((i3.ext x13).mono (G' := Gn G w4.heap.size w13.heap.size) fun x hx => .inl hx) i5 hlen.2 k hv).mono ?_
  rintro e w16 ⟨p', l', c', rfl, x16', hL⟩
  have x16 := x13.trans x16'
  refine ⟨p', l', c', rfl, (x16.rowW i1 id).live (by simp), fun w20 hs => ?_⟩
  have hL' : RefL w16 (Gn G w4.heap.size w16.heap.size) p' l' c' (ins k bs D.waits) := hL.mono fun x hx => by
    have s1 := x13.size; have s2 := x16'.size
    rcases hx with (hx | hx) | hx
    · exact .inl hx
    · exact .inr ⟨hx.1, by omega⟩
    · exact .inr ⟨by omega, hx.2⟩
  have hbl := i1.lt
  have href : IsRef w4 b D G := ⟨pL, lL, cL, pW, lW, cW, i1, i2, i3, i4, i5, i6, i7⟩
  obtain ⟨r1, r2⟩ := href.setW x16 hL' (fun x hx => .inl hx) (fun hx => hx.elim i6 fun h => by omega) (by
    have s1 := x16.size
    rintro x (hx | hx)
    · have := i7 x hx; omega
    · exact hx.2) (ins_asc i5) hs
  refine ⟨Gn G w4.heap.size w16.heap.size, by rw [hz], r2, ?_, fun x hx => ?_⟩
  · rw [writeD, if_pos hz]; exact r1
  · rcases hx with hx | hx
    · exact .inl hx
    · exact .inr ⟨hx.1, by have := (setc_upd hs).size; omega⟩

theorem rread_spec {w : World} {b : Nat} {D : Dk} {G : Nat → Prop} (h : IsRef w b D G) (hok : DkOk D) (k : Int) :
    Calls Try.prog 63 #[.pointer (some (at0 b)), .int .i64 k] w fun e w' => Ext w w' ∧ ∃ p l c bs, e = .returned (.tuple #[.slice p l c, .int .i64 (faultZ D.dead D.sectors k)]) ∧
      bs = (if faultZ D.dead D.sectors k = 0 then readD D k else []) ∧ BytesAt w' p l bs ∧ l ≤ 4108 := by
  refine (F63_calls (some (at0 b)) k w (fun v w' => Ext w w' ∧ ∃ p l c bs, v = .tuple #[.slice p l c, .int .i64 (faultZ D.dead D.sectors k)] ∧
      bs = (if faultZ D.dead D.sectors k = 0 then readD D k else []) ∧ BytesAt w' p l bs ∧ l ≤ 4108) ?_).mono (by rintro e w' ⟨v, rfl, hx, p, l, c, bs, rfl, h⟩; exact ⟨hx, p, l, c, bs, rfl, h⟩)
  refine (rfault_spec h k).mono ?_
  rintro e w4 ⟨rfl, rfl⟩
  refine ⟨_, rfl, condB_of (fun hf => ?_) (fun hf => ?_)⟩
  · simp only [Bool.not_eq_true', decide_eq_false_iff_not] at hf
    exact ⟨Upd.refl _ _, none, 0, 0, [], rfl, by rw [if_neg hf], BytesAt.nil _ _, by omega⟩
  simp only [Bool.not_eq_false', decide_eq_true_eq] at hf
  obtain ⟨pL, lL, cL, pW, lW, cW, i1, i2, i3, i4, i5, i6, i7⟩ := h
  have hlen := ref_len hok i4 i5
  refine ⟨_, _, _, i1.row.cell rfl, ?_⟩
  have done : ∀ {L : SM} {p : Option Addr} {l c : Nat} {i : Nat} {bs : List UInt8} {w8 : World}, RefL w8 G p l c L → L[i]? = some (k, bs) → readD D k = bs → Ext w4 w8 → ∀ (k11 : Nat) (w12 : World), NewB w8 k11 (.cells #[] 5) w12 →
      (0 ≤ (i : Int) ∧ (i : Int) < ((l : Nat) : Int)) ∧ (nilM p fun a15 => (∃ (p16 : Option Addr) (l16 c16 : Nat), w12.cell? ((a15.add ((i : Int).toNat * 2)).add 1) = some (.slice p16 l16 c16) ∧ (∃ (p18 : Option Addr) (l18 c18 : Nat), ∃ w17 : World,
        Sem.run Try.prog (Builtin.append_ #[29, 29] 29 #[.slice (some (at0 k11)) 0 0, .slice p16 l16 c16]) w12 = .ok (.slice p18 l18 c18) w17 ∧
        (Ext w4 w17 ∧ ∃ p l c bs, (Value.tuple #[.slice p18 l18 c18, .int .i64 (0 : Int)]) = .tuple #[.slice p l c, .int .i64 (faultZ D.dead D.sectors k)] ∧ bs = (if faultZ D.dead D.sectors k = 0 then readD D k else []) ∧ BytesAt w17 p l bs ∧ l ≤ 4108)))) := by
    intro L p l c i bs w8 hL hi hrd hx k11 w12 hk
    have hil : i < L.length := (List.getElem?_eq_some_iff.1 hi).1
    obtain ⟨a, q, n, c', rfl, _, _, hc, q', n', c'', he, hb, hne, hn, _⟩ := hL.at hi
    cases he
    refine ⟨⟨by omega, by have := hL.1; omega⟩, ?_⟩
    obtain ⟨p18, c18, w17, hr, x17, own⟩ := dup_app hk hb (c := c') (by omega)
    refine ⟨q, n, c', by rw [Int.toNat_natCast]; exact cellN hc hk.ext, p18, n, c18, w17, hr, hx.trans x17, p18, n, c18, bs, by rw [hf], by rw [if_pos hf, hrd], ?_, hn⟩
    have := BytesAt.of_cells own.cells
    rw [← hb.1] at this
    exact this
  refine (rfind_spec i3 hlen.2 k).mono ?_
  rintro e w8 ⟨x8, ⟨i, bs, rfl, hi, hg⟩ | ⟨rfl, hg⟩⟩
  · refine ⟨_, rfl, condB_of (fun _ k11 w12 hk => ?_) (fun h0 => by simp at h0)⟩
    exact ⟨_, _, _, ((x8.trans hk.ext).rowW i1 id).row.cell rfl, done (i3.ext x8) hi (by simp [readD, hg]) x8 k11 w12 hk⟩
  · refine ⟨_, rfl, condB_of (fun h0 => by simp at h0) (fun _ => ?_)⟩
    refine ⟨_, _, _, (x8.rowW i1 id).row.cell rfl, ?_⟩
    refine (rfind_spec (i2.ext x8) hlen.1 k).mono ?_
    rintro e w21 ⟨x21, ⟨i, bs, rfl, hi, hg2⟩ | ⟨rfl, hg2⟩⟩
    · refine ⟨_, rfl, condB_of (fun _ k11 w12 hk => ?_) (fun h0 => by simp at h0)⟩
      exact ⟨_, _, _, (((x8.trans x21).trans hk.ext).rowW i1 id).row.cell rfl, done (i2.ext (x8.trans x21)) hi (by simp [readD, hg, hg2]) (x8.trans x21) k11 w12 hk⟩
    · refine ⟨_, rfl, condB_of (fun h0 => by simp at h0) (fun _ => ?_)⟩
      exact ⟨x8.trans x21, none, 0, 0, [], by rw [hf], by rw [if_pos hf]; simp [readD, hg, hg2], BytesAt.nil _ _, by omega⟩

theorem mrg_snoc (L W : SM) (x : Int × List UInt8) : mrg L (W ++ [x]) = ins x.1 x.2 (mrg L W) := by simp [mrg, List.foldl_append]

theorem rempty {w : World} {b : Nat} {D : Dk} {G : Nat → Prop} (h : IsRef w b D G) (dd : Bool) {w3 w5 w7 : World} (s3 : SetC w ((at0 b).add 3) (.bool dd) w3) (s5 : SetC w3 ((at0 b).add 1) (.slice none 0 0) w5) (s7 : SetC w5 ((at0 b).add 2) (.slice none 0 0) w7) :
    Upd (fun x => x = b) w w7 ∧ IsRef w7 b { D with dead := dd, lasts := [], waits := [] } G := by
  obtain ⟨pL, lL, cL, pW, lW, cW, i1, i2, i3, i4, i5, i6, i7⟩ := h
  have hu := Upd.trans (Upd.trans (setc_upd s3) (setc_upd s5) fun _ _ h => h) (setc_upd s7) fun _ _ h => h
  exact ⟨hu, none, 0, 0, none, 0, 0, s7.row (s5.row (s3.row i1)), RefL.nil _ _, RefL.nil _ _, List.Pairwise.nil, List.Pairwise.nil, i6, fun x hx => Nat.lt_of_lt_of_le (i7 x hx) hu.size⟩
theorem rfail_spec {w : World} {b : Nat} {D : Dk} {G : Nat → Prop} (h : IsRef w b D G) :
    Calls Try.prog 66 #[.pointer (some (at0 b))] w fun e w' => e = .returned (.tuple #[]) ∧ Upd (fun x => x = b) w w' ∧ IsRef w' b { D with dead := true, lasts := [], waits := [] } G := by
  refine (F66_calls (some (at0 b)) w (fun v w' => v = .tuple #[] ∧ Upd (fun x => x = b) w w' ∧ IsRef w' b { D with dead := true, lasts := [], waits := [] } G) ?_).mono (by rintro e w' ⟨v, rfl, rfl, h⟩; exact ⟨rfl, h⟩)
  have h' := h
  obtain ⟨pL, lL, cL, pW, lW, cW, i1, _⟩ := h'
  exact ⟨i1.live (by simp), fun w3 s3 => ⟨(s3.row i1).live (by simp), fun w5 s5 => ⟨(s5.row (s3.row i1)).live (by simp), fun w7 s7 => ⟨rfl, rempty h true s3 s5 s7⟩⟩⟩⟩
theorem rreplace_spec {w : World} {b : Nat} {D : Dk} {G : Nat → Prop} (h : IsRef w b D G) :
    Calls Try.prog 67 #[.pointer (some (at0 b))] w fun e w' => e = .returned (.tuple #[]) ∧ Upd (fun x => x = b) w w' ∧ IsRef w' b { D with dead := false, lasts := [], waits := [] } G := by
  refine (F67_calls (some (at0 b)) w (fun v w' => v = .tuple #[] ∧ Upd (fun x => x = b) w w' ∧ IsRef w' b { D with dead := false, lasts := [], waits := [] } G) ?_).mono (by rintro e w' ⟨v, rfl, rfl, h⟩; exact ⟨rfl, h⟩)
  have h' := h
  obtain ⟨pL, lL, cL, pW, lW, cW, i1, _⟩ := h'
  exact ⟨i1.live (by simp), fun w3 s3 => ⟨(s3.row i1).live (by simp), fun w5 s5 => ⟨(s5.row (s3.row i1)).live (by simp), fun w7 s7 => ⟨rfl, rempty h false s3 s5 s7⟩⟩⟩⟩
end Go.Proofs.Ytbidancfbilbkaa
