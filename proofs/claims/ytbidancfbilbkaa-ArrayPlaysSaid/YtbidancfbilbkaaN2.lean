/- The document's disk: what it is, and its plain calls. -/
import Derived.Test.YtbidancfbilbkaaN1
namespace Go.Proofs.Ytbidancfbilbkaa
open Go Go.Vc

theorem cellN {w w' : World} {a : Addr} {v : Value} (h : w.cell? a = some v) (hu : Ext w w') : w'.cell? a = some v := Upd.cell hu h id

theorem RefL.upd {S G : Nat → Prop} {w w' : World} {p : Option Addr} {l c : Nat} {L : SM} (h : RefL w G p l c L) (hu : Upd S w w') (hS : ∀ x, G x → ¬ S x) : RefL w' G p l c L := by
  obtain ⟨h1, h2, h3, h4, vs, h5, h6⟩ := h
  exact ⟨h1, h2, h3, h4, vs, all2_imp h5 fun v x hv => hv.upd hu hS, h6.upd hu fun a ha _ => hS _ (h4 a ha)⟩
theorem RefL.ext {G : Nat → Prop} {w w' : World} {p : Option Addr} {l c : Nat} {L : SM} (h : RefL w G p l c L) (hu : Ext w w') : RefL w' G p l c L := h.upd hu fun _ _ h => h
theorem RefL.mono {G G' : Nat → Prop} {w : World} {p : Option Addr} {l c : Nat} {L : SM} (h : RefL w G p l c L) (hG : ∀ x, G x → G' x) : RefL w G' p l c L := by
  obtain ⟨h1, h2, h3, h4, vs, h5, h6⟩ := h
  exact ⟨h1, h2, h3, fun a ha => hG _ (h4 a ha), vs, all2_imp h5 fun v x hv => hv.mono hG, h6⟩
theorem RefL.nil (w : World) (G : Nat → Prop) : RefL w G none 0 0 [] := ⟨rfl, Nat.le_refl _, fun _ => rfl, fun a h => (by cases h), [], .nil, CellsAt.nil _ _⟩
theorem RefL.at {G : Nat → Prop} {w : World} {p : Option Addr} {l c : Nat} {L : SM} (h : RefL w G p l c L) {i : Nat} {x : Int × List UInt8} (hx : L[i]? = some x) :
    ∃ a q n c', p = some a ∧ w.cell? (a.add (i * 2)) = some (.int .i64 x.1) ∧ w.cell? ((a.add (i * 2)).add 0) = some (.int .i64 x.1) ∧ w.cell? ((a.add (i * 2)).add 1) = some (.slice q n c') ∧ SliceVal G w (.slice q n c') x.2 := by
  obtain ⟨h1, h2, h3, h4, vs, h5, h6⟩ := h
  obtain ⟨v, hv, hs⟩ := all2_at h5 hx
  obtain ⟨c1, c2⟩ := heldCells_at hv hx
  obtain ⟨a, ha, e1⟩ := h6 _ _ c1
  obtain ⟨a', ha', e2⟩ := h6 _ _ c2
  rw [ha] at ha'
  cases ha'
  have hs' := hs
  obtain ⟨q, n, c', rfl, _⟩ := hs
  exact ⟨a, q, n, c', ha, by rw [Nat.mul_comm]; exact e1, by rw [add_add, Nat.add_zero, Nat.mul_comm]; exact e1, by rw [add_add, Nat.mul_comm]; exact e2, hs'⟩
theorem RefL.read {G : Nat → Prop} {w : World} {p : Option Addr} {l c : Nat} {L : SM} (h : RefL w G p l c L) (hl : L.length ≤ 4096) : HeldR w p l L := by
  refine ⟨h.1, by rw [h.1]; exact hl, fun i x hi => ?_⟩
  obtain ⟨a, q, n, c', hp, _, h1, h2, q', n', c'', he, hb, _, hn, _⟩ := h.at hi
  cases he
  exact ⟨a, q, n, c', hp, h1, h2, hb, hn⟩

/-- the document's disk: its fields' block, and the blocks of its lists -/
def IsRef (w : World) (b : Nat) (D : Dk) (G : Nat → Prop) : Prop :=
  ∃ pL lL cL pW lW cW, RowW w b #[.int .i64 D.sectors, .slice pL lL cL, .slice pW lW cW, .bool D.dead] ∧ RefL w G pL lL cL D.lasts ∧ RefL w G pW lW cW D.waits ∧ Asc D.lasts ∧ Asc D.waits ∧ ¬ G b ∧ ∀ x, G x → x < w.heap.size

theorem IsRef.upd {S G : Nat → Prop} {w w' : World} {b : Nat} {D : Dk} (h : IsRef w b D G) (hu : Upd S w w') (hS : ∀ x, S x → ¬ (x = b ∨ G x)) : IsRef w' b D G := by
  obtain ⟨pL, lL, cL, pW, lW, cW, h1, h2, h3, h4, h5, h6, h7⟩ := h
  have hG : ∀ x, G x → ¬ S x := fun x hx hs => hS x hs (.inr hx)
  exact ⟨pL, lL, cL, pW, lW, cW, hu.rowW h1 fun hs => hS _ hs (.inl rfl), h2.upd hu hG, h3.upd hu hG, h4, h5, h6, fun x hx => Nat.lt_of_lt_of_le (h7 x hx) hu.size⟩
theorem IsRef.ext {G : Nat → Prop} {w w' : World} {b : Nat} {D : Dk} (h : IsRef w b D G) (hu : Ext w w') : IsRef w' b D G := h.upd hu fun _ h => h.elim
theorem IsRef.lt {G : Nat → Prop} {w : World} {b : Nat} {D : Dk} (h : IsRef w b D G) : b < w.heap.size := by
  obtain ⟨_, _, _, _, _, _, h1, _⟩ := h
  exact h1.lt

theorem setc_upd {w w' : World} {b j : Nat} {v : Value} (h : SetC w ((at0 b).add j) v w') : Upd (fun x => x = b) w w' := by
  have := h.upd
  rw [add_at0] at this
  exact this

theorem IsRef.setW {w w1 w' : World} {b : Nat} {D : Dk} {G G' : Nat → Prop} (h : IsRef w b D G) (hx : Ext w w1) {p : Option Addr} {l c : Nat} {L : SM} (hL : RefL w1 G' p l c L) (hGG : ∀ x, G x → G' x) (hb : ¬ G' b) (hlt : ∀ x, G' x → x < w1.heap.size)
    (ha : Asc L) (hs : SetC w1 ((at0 b).add 2) (.slice p l c) w') : IsRef w' b { D with waits := L } G' ∧ Upd (fun x => x = b) w w' := by
  obtain ⟨pL, lL, cL, pW, lW, cW, h1, h2, h3, h4, h5, h6, h7⟩ := h
  have hu := setc_upd hs
  have hG : ∀ x, G' x → ¬ (x = b) := by rintro x hx rfl; exact hb hx
  refine ⟨⟨pL, lL, cL, p, l, c, hs.row (hx.rowW h1 id), ((h2.ext hx).mono hGG).upd hu hG, hL.upd hu hG, h4, ha, hb, fun x hx => Nat.lt_of_lt_of_le (hlt x hx) hu.size⟩, ?_⟩
  exact Upd.trans (hx.upd (S := fun x => x = b)) hu fun _ _ h => h
theorem IsRef.setL {w w1 w' : World} {b : Nat} {D : Dk} {G G' : Nat → Prop} (h : IsRef w b D G) (hx : Ext w w1) {p : Option Addr} {l c : Nat} {L : SM} (hL : RefL w1 G' p l c L) (hGG : ∀ x, G x → G' x) (hb : ¬ G' b) (hlt : ∀ x, G' x → x < w1.heap.size)
    (ha : Asc L) (hs : SetC w1 ((at0 b).add 1) (.slice p l c) w') : IsRef w' b { D with lasts := L } G' ∧ Upd (fun x => x = b) w w' := by
  obtain ⟨pL, lL, cL, pW, lW, cW, h1, h2, h3, h4, h5, h6, h7⟩ := h
  have hu := setc_upd hs
  have hG : ∀ x, G' x → ¬ (x = b) := by rintro x hx rfl; exact hb hx
  refine ⟨⟨p, l, c, pW, lW, cW, hs.row (hx.rowW h1 id), hL.upd hu hG, ((h3.ext hx).mono hGG).upd hu hG, ha, h5, hb, fun x hx => Nat.lt_of_lt_of_le (hlt x hx) hu.size⟩, ?_⟩
  exact Upd.trans (hx.upd (S := fun x => x = b)) hu fun _ _ h => h

theorem rnew_bad {n : Int} (h : n < 1 ∨ 4096 < n) (w : World) : Calls Try.prog 40 #[.int .i64 n] w fun e w' => e = .returned (.tuple #[.pointer none, .int .i64 1]) ∧ w' = w := by
  refine (F40_calls n w (fun v w' => v = .tuple #[.pointer none, .int .i64 1] ∧ w' = w) ?_).mono (by rintro e w' ⟨v, rfl, rfl, h⟩; exact ⟨rfl, h⟩)
  refine condB_of (fun _ => ⟨rfl, rfl⟩) (fun h1 => condB_of (fun _ => ⟨rfl, rfl⟩) (fun h2 => ?_))
  simp only [decide_eq_false_iff_not] at h1 h2
  omega
theorem rnew_good {n : Int} (h : 1 ≤ n ∧ n ≤ 4096) (w : World) : Calls Try.prog 40 #[.int .i64 n] w fun e w' => ∃ b, e = .returned (.tuple #[.pointer (some (at0 b)), .int .i64 0]) ∧ Ext w w' ∧ IsRef w' b ⟨n, [], [], false⟩ (fun _ => False) ∧ w.heap.size ≤ b := by
  refine (F40_calls n w (fun v w' => ∃ b, v = .tuple #[.pointer (some (at0 b)), .int .i64 0] ∧ Ext w w' ∧ IsRef w' b ⟨n, [], [], false⟩ (fun _ => False) ∧ w.heap.size ≤ b) ?_).mono (by rintro e w' ⟨v, rfl, b, rfl, h⟩; exact ⟨b, rfl, h⟩)
  refine condB_of (fun h1 => ?_) (fun h1 => condB_of (fun h2 => ?_) (fun h2 => ?_))
  · simp only [decide_eq_true_eq] at h1; omega
  · simp only [decide_eq_true_eq] at h2; omega
  intro k w3 hk
  exact ⟨k, rfl, hk.ext, ⟨none, 0, 0, none, 0, 0, ⟨_, hk.at⟩, RefL.nil _ _, RefL.nil _ _, List.Pairwise.nil, List.Pairwise.nil, id, fun x h => h.elim⟩, by rw [hk.size.1]; exact Nat.le_refl _⟩

theorem rfault_spec {w : World} {b : Nat} {D : Dk} {G : Nat → Prop} (h : IsRef w b D G) (k : Int) : Calls Try.prog 73 #[.pointer (some (at0 b)), .int .i64 k] w fun e w' => e = .returned (.int .i64 (faultZ D.dead D.sectors k)) ∧ w' = w := by
  obtain ⟨pL, lL, cL, pW, lW, cW, h1, _⟩ := h
  refine (F73_calls (some (at0 b)) k w (fun v w' => v = .int .i64 (faultZ D.dead D.sectors k) ∧ w' = w) ?_).mono (by rintro e w' ⟨v, rfl, rfl, h⟩; exact ⟨rfl, h⟩)
  refine ⟨D.dead, h1.row.cell rfl, ?_⟩
  unfold faultZ
  refine condB_of (fun hd => ⟨by rw [if_pos hd], rfl⟩) (fun hd => ?_)
  rw [if_neg (by simp [hd])]
  refine condB_of (fun h2 => ⟨?_, rfl⟩) (fun h2 => ⟨_, h1.row.cell rfl, condB_of (fun h3 => ⟨?_, rfl⟩) (fun h3 => ⟨?_, rfl⟩)⟩)
  · simp only [decide_eq_true_eq] at h2
    rw [if_pos (.inl h2)]
  · simp only [decide_eq_true_eq] at h3
    rw [if_pos (.inr h3)]
  · simp only [decide_eq_false_iff_not] at h2 h3
    rw [if_neg (by omega)]

theorem rfind_spec {w : World} {G : Nat → Prop} {p : Option Addr} {l c : Nat} {L : SM} (h : RefL w G p l c L) (hlen : L.length ≤ 4096) (k : Int) :
    Calls Try.prog 75 #[.slice p l c, .int .i64 k] w fun e w' => Ext w w' ∧ ((∃ (i : Nat) (bs : List UInt8), e = .returned (.int .i64 (i : Int)) ∧ L[i]? = some (k, bs) ∧ get k L = some bs) ∨ (e = .returned (.int .i64 (-1)) ∧ get k L = none)) := by
  refine (F75_calls p l c k w (fun v w' => Ext w w' ∧ ((∃ (i : Nat) (bs : List UInt8), v = .int .i64 (i : Int) ∧ L[i]? = some (k, bs) ∧ get k L = some bs) ∨ (v = .int .i64 (-1) ∧ get k L = none)))
    (fun _ n w4 => ∃ i : Nat, n = i ∧ i ≤ l ∧ Ext w w4 ∧ get k (L.take i) = none) (fun _ n _ => 4096 - n.toNat) ?_).mono (by
      rintro e w' ⟨v, rfl, hx, ⟨i, bs, rfl, h⟩ | ⟨rfl, h⟩⟩
      · exact ⟨hx, .inl ⟨i, bs, rfl, h⟩⟩
      · exact ⟨hx, .inr ⟨rfl, h⟩⟩)
  have hl := h.1
  refine ⟨⟨0, rfl, Nat.zero_le _, Upd.refl _ _, by simp [Vc.get]⟩, ?_⟩
  rintro n w4 ⟨i, rfl, hi, hx4, hno⟩
  intros
  refine condB_of (fun hlt => ?_) (fun hge => ?_)
  · simp only [decide_eq_true_eq] at hlt
    obtain ⟨x, hxi⟩ : ∃ x, L[i]? = some x := ⟨L[i]'(by omega), List.getElem?_eq_getElem _⟩
    obtain ⟨a, q, nn, cc, rfl, _, ca, _⟩ := (h.ext hx4).at hxi
    rw [Int.toNat_natCast]
    refine ⟨⟨by omega, hlt⟩, _, ca, condB_of (fun hk => ?_) (fun hk => ?_)⟩
    · simp only [decide_eq_true_eq] at hk
      refine ⟨hx4, .inl ⟨i, x.2, rfl, ?_, ?_⟩⟩
      · rw [hxi, ← hk]
      · have e : L = L.take i ++ L.drop i := (List.take_append_drop i L).symm
        have hlt2 : i < L.length := by omega
        rw [e, get_append, hno, List.drop_eq_getElem_cons hlt2]
        have : L[i] = x := (List.getElem?_eq_some_iff.1 hxi).2
        rw [this]
        obtain ⟨u, v⟩ := x
        simp only [Vc.get]
        rw [if_pos hk]; rfl
    · simp only [decide_eq_false_iff_not] at hk
      rw [w64 (by omega)]
      refine ⟨⟨i + 1, by omega, by omega, hx4, ?_⟩, by show 4096 - ((i : Int) + 1).toNat < 4096 - (i : Int).toNat; omega⟩
      rw [List.take_add_one, hxi, get_append, hno]
      obtain ⟨u, v⟩ := x
      simp only [Option.toList_some, Vc.get]
      rw [if_neg hk]; rfl
  · simp only [decide_eq_false_iff_not] at hge
    have e1 : L.take i = L := List.take_of_length_le (by omega)
    rw [e1] at hno
    exact ⟨hx4, .inr ⟨rfl, hno⟩⟩

theorem bytes_none {w : World} {p : Option Addr} {l : Nat} {bs : List UInt8} (h : BytesAt w p l bs) : p = none → l = 0 := by
  intro hp
  cases bs with
  | nil => rw [h.1]; rfl
  | cons b bs =>
    obtain ⟨a, ha, _⟩ := h.2 (by simp)
    rw [hp] at ha; cases ha

theorem dup_app {w w1 : World} {k : Nat} (hk : NewB w k (.cells #[] 5) w1) {p : Option Addr} {l c : Nat} {bs : List UInt8} (hb : BytesAt w p l bs) (hl : l ≤ 4300) :
    ∃ p' c' w', Sem.run Try.prog (Builtin.append_ #[29, 29] 29 #[.slice (some (at0 k)) 0 0, .slice p l c]) w1 = .ok (.slice p' l c') w' ∧ Ext w w' ∧ OwnS w' w.heap.size 5 1 p' l c' (encB bs) := by
  have hll := hb.1
  have hs := hk.size
  have own : OwnS w1 w.heap.size 5 1 (some (at0 k)) 0 0 [] := OwnS.made hk (by rw [hs.1]; exact Nat.le_refl _) (Nat.le_refl _) (by unfold maxLen; omega) rfl
  obtain ⟨p', c', w', hr, ho, hu, _⟩ := own.append elemB 29 (q := p) (m := l) (d := c) (news := encB bs) (by rw [encB_length]; omega) ((hb.ext hk.ext).cells) (bytes_none hb)
    (encB_one bs) (by unfold maxLen; omega) (by omega) (by omega)
  rw [Nat.zero_add] at hr ho
  rw [List.nil_append] at ho
  refine ⟨p', c', w', hr, ?_, ho⟩
  refine Upd.trans hk.ext hu fun x hx hs' => ?_
  simp only [Option.some.injEq, at0, Addr.mk.injEq, and_true] at hs'
  omega

theorem own_val {w w' : World} {base : Nat} {p : Option Addr} {l c : Nat} {bs : List UInt8} (ho : OwnS w' base 5 1 p l c (encB bs)) (hb : w.heap.size ≤ base) (hne : bs ≠ []) (hl : bs.length ≤ 4108) :
    SliceVal (fun x => w.heap.size ≤ x ∧ x < w'.heap.size) w' (.slice p l c) bs := by
  have h1 := BytesAt.of_cells ho.cells
  have hlen := ho.length
  rw [encB_length, Nat.mul_one] at hlen
  rw [hlen] at h1
  refine ⟨p, l, c, rfl, h1, hne, by omega, fun a ha => ?_⟩
  rcases ho.where_ with ⟨h2, _⟩ | ⟨g, h2, hge, hlt, _⟩
  · rw [h2] at ha; cases ha
  · rw [h2] at ha; cases ha
    exact ⟨Nat.le_trans hb hge, hlt⟩
end Go.Proofs.Ytbidancfbilbkaa
