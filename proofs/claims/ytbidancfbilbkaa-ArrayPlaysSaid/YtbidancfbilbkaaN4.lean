/- The document's disk: flushing, crashing, corrupting. -/
import Derived.Test.YtbidancfbilbkaaN3
namespace Go.Proofs.Ytbidancfbilbkaa
open Go Go.Vc

theorem DkOk.mrg {D : Dk} (h : DkOk D) {W : SM} (hW : ∀ x ∈ W, x ∈ D.waits) (ha : Asc W) : DkOk { D with lasts := mrg D.lasts W } := by
  refine ⟨h.sec, fun x hx => ?_, h.waits⟩
  rcases mrg_mem ha hx with hx | hx
  · exact h.waits x (hW x hx)
  · exact h.lasts x hx

/-- what a step of lists is -/
structure RStep (b : Nat) (G G' : Nat → Prop) (w w' : World) : Prop where
  upd : Upd (fun x => x = b) w w'
  grow : Grows G G' w w'
theorem RStep.refl (b : Nat) (G : Nat → Prop) (w : World) : RStep b G G w w := ⟨Upd.refl _ _, fun _ h => .inl h⟩
theorem RStep.ext {b : Nat} {G : Nat → Prop} {w w' : World} (h : Ext w w') : RStep b G G w w' := ⟨h.upd, fun _ h => .inl h⟩
theorem RStep.trans {b : Nat} {G G' G'' : Nat → Prop} {w w' w'' : World} (h : RStep b G G' w w') (h' : RStep b G' G'' w' w'') : RStep b G G'' w w'' := by
  refine ⟨Upd.trans h.upd h'.upd fun _ _ h => h, fun x hx => ?_⟩
  have s1 := h.upd.size
  have s2 := h'.upd.size
  rcases h'.grow x hx with h1 | h1
  · rcases h.grow x h1 with h2 | h2
    · exact .inl h2
    · exact .inr ⟨h2.1, by omega⟩
  · exact .inr ⟨by omega, h1.2⟩

/-- one sector laid into what lasts -/
theorem put_last {w : World} {b : Nat} {D : Dk} {G : Nat → Prop} {pL : Option Addr} {lL cL : Nat} {pW : Option Addr} {lW cW : Nat}
    (i1 : RowW w b #[.int .i64 D.sectors, .slice pL lL cL, .slice pW lW cW, .bool D.dead]) (i2 : RefL w G pL lL cL D.lasts) (i3 : RefL w G pW lW cW D.waits) (i4 : Asc D.lasts) (i6 : ¬ G b) (i7 : ∀ x, G x → x < w.heap.size)
    (hlen : D.lasts.length ≤ 4096) (k : Int) {pv : Option Addr} {lv cv : Nat} {bs : List UInt8} (hv : SliceVal G w (.slice pv lv cv) bs) :
    Calls Try.prog 74 #[.slice pL lL cL, .agg #[.int .i64 k, .slice pv lv cv]] w fun e w1 => ∃ p' l' c', e = .returned (.slice p' l' c') ∧ Live w1 ((at0 b).add 1) ∧ ∀ w', SetC w1 ((at0 b).add 1) (.slice p' l' c') w' →
      ∃ G', RStep b G G' w w' ∧ RowW w' b #[.int .i64 D.sectors, .slice p' l' c', .slice pW lW cW, .bool D.dead] ∧ RefL w' G' p' l' c' (ins k bs D.lasts) ∧ RefL w' G' pW lW cW D.waits ∧ ¬ G' b ∧ (∀ x, G' x → x < w'.heap.size) := by
  refine (with_spec i2 i4 hlen k hv).mono ?_
  rintro e w1 ⟨p', l', c', rfl, x1, hL⟩
  have hb := i1.lt
  refine ⟨p', l', c', rfl, (x1.rowW i1 id).live (by simp), fun w' hs => ?_⟩
  have hu := setc_upd hs
  have hnb : ¬ Gn G w.heap.size w1.heap.size b := fun hx => hx.elim i6 fun h => by omega
  have hG : ∀ x, Gn G w.heap.size w1.heap.size x → ¬ (x = b) := by rintro x hx rfl; exact hnb hx
  refine ⟨Gn G w.heap.size w1.heap.size, ⟨Upd.trans (x1.upd (S := fun x => x = b)) hu fun _ _ h => h, fun x hx => ?_⟩, hs.row (x1.rowW i1 id), hL.upd hu hG, ((i3.ext x1).mono fun x hx => .inl hx).upd hu hG, hnb, fun x hx => ?_⟩
  · rcases hx with hx | hx
    · exact .inl hx
    · exact .inr ⟨hx.1, by have := hu.size; omega⟩
  · have s1 := x1.size
    have s2 := hu.size
    rcases hx with hx | hx
    · have := i7 x hx; omega
    · omega

/-- while it flushes or crashes -/
structure Mid (w : World) (b : Nat) (D : Dk) (G : Nat → Prop) (w' : World) (M : SM) (pW : Option Addr) (lW cW : Nat) : Prop where
  ex : ∃ G' pL lL cL, RStep b G G' w w' ∧ RowW w' b #[.int .i64 D.sectors, .slice pL lL cL, .slice pW lW cW, .bool D.dead] ∧ RefL w' G' pL lL cL (mrg D.lasts M) ∧ RefL w' G' pW lW cW D.waits ∧ ¬ G' b ∧ ∀ x, G' x → x < w'.heap.size

theorem Mid.ext {w : World} {b : Nat} {D : Dk} {G : Nat → Prop} {w' w'' : World} {M : SM} {pW : Option Addr} {lW cW : Nat} (h : Mid w b D G w' M pW lW cW) (hx : Ext w' w'') : Mid w b D G w'' M pW lW cW := by
  obtain ⟨G', pL, lL, cL, h1, h2, h3, h4, h5, h6⟩ := h
  exact ⟨G', pL, lL, cL, h1.trans (RStep.ext hx), hx.rowW h2 id, h3.ext hx, h4.ext hx, h5, fun x hx' => Nat.lt_of_lt_of_le (h6 x hx') hx.size⟩

theorem Mid.done {w : World} {b : Nat} {D : Dk} {G : Nat → Prop} {w' w'' : World} {M : SM} {pW : Option Addr} {lW cW : Nat} (h : Mid w b D G w' M pW lW cW) (a1 : Asc D.lasts) (hs : SetC w' ((at0 b).add 2) (.slice none 0 0) w'') :
    ∃ G', RStep b G G' w w'' ∧ IsRef w'' b { D with lasts := mrg D.lasts M, waits := [] } G' := by
  obtain ⟨G', pL, lL, cL, h1, h2, h3, h4, h5, h6⟩ := h
  have hu := setc_upd hs
  have hG : ∀ x, G' x → ¬ (x = b) := by rintro x hx rfl; exact h5 hx
  refine ⟨G', h1.trans ⟨hu, fun _ h => .inl h⟩, pL, lL, cL, none, 0, 0, hs.row h2, h3.upd hu hG, RefL.nil _ _, mrg_asc a1, List.Pairwise.nil, h5, fun x hx => Nat.lt_of_lt_of_le (h6 x hx) hu.size⟩

/-- one of what waits, laid into what lasts -/
theorem Mid.put {w : World} {b : Nat} {D : Dk} {G : Nat → Prop} {w' : World} {M : SM} {pW : Option Addr} {lW cW : Nat} (h : Mid w b D G w' M pW lW cW) (hok : DkOk D) (a1 : Asc D.lasts) (a2 : Asc D.waits) (hM : ∀ x ∈ M, x ∈ D.waits) (aM : Asc M)
    {i : Nat} {x : Int × List UInt8} (hx : D.waits[i]? = some x) :
    ∃ pL lL cL a q n c, w'.cell? ((at0 b).add 1) = some (.slice pL lL cL) ∧ w'.cell? ((at0 b).add 2) = some (.slice pW lW cW) ∧ pW = some a ∧ w'.cell? (a.add (i * 2)) = some (.int .i64 x.1) ∧ w'.cell? ((a.add (i * 2)).add 1) = some (.slice q n c) ∧
      Calls Try.prog 74 #[.slice pL lL cL, .agg #[.int .i64 x.1, .slice q n c]] w' fun e w1 => ∃ p' l' c', e = .returned (.slice p' l' c') ∧ Live w1 ((at0 b).add 1) ∧ ∀ w'', SetC w1 ((at0 b).add 1) (.slice p' l' c') w'' → Mid w b D G w'' (M ++ [x]) pW lW cW := by
  obtain ⟨G', pL, lL, cL, h1, h2, h3, h4, h5, h6⟩ := h
  obtain ⟨a, q, n, c, hp, c0, _, c1, hv⟩ := h4.at hx
  refine ⟨pL, lL, cL, a, q, n, c, h2.row.cell rfl, h2.row.cell rfl, hp, c0, c1, ?_⟩
  have hok' := hok.mrg hM aM
  have hlen := (ref_len hok' (mrg_asc a1) a2).1
  have := put_last (D := { D with lasts := mrg D.lasts M }) h2 h3 h4 (mrg_asc a1) h5 h6 hlen x.1 hv
  refine this.mono ?_
  rintro e w1 ⟨p', l', c', rfl, hl, hall⟩
  refine ⟨p', l', c', rfl, hl, fun w'' hs => ?_⟩
  obtain ⟨G2, k1, k2, k3, k4, k5, k6⟩ := hall w'' hs
  refine ⟨G2, p', l', c', h1.trans k1, k2, ?_, k4, k5, k6⟩
  rw [mrg_snoc]; exact k3

theorem rflush_spec {w : World} {b : Nat} {D : Dk} {G : Nat → Prop} (h : IsRef w b D G) (hok : DkOk D) :
    Calls Try.prog 64 #[.pointer (some (at0 b))] w fun e w' => ∃ G', e = .returned (.int .i64 (if D.dead then 120 else 0)) ∧ RStep b G G' w w' ∧ IsRef w' b (flushD D) G' := by
  have h' := h
  obtain ⟨pL, lL, cL, pW, lW, cW, i1, i2, i3, i4, i5, i6, i7⟩ := h'
  refine (F64_calls (some (at0 b)) w (fun v w' => ∃ G', v = .int .i64 (if D.dead then 120 else 0) ∧ RStep b G G' w w' ∧ IsRef w' b (flushD D) G')
    (fun _ n w5 => ∃ i : Nat, n = i ∧ i ≤ D.waits.length ∧ Mid w b D G w5 (D.waits.take i) pW lW cW) (fun _ n _ => 4096 - n.toNat) ?_).mono (by rintro e w' ⟨v, rfl, G', rfl, h⟩; exact ⟨G', rfl, h⟩)
  have hlen := ref_len hok i4 i5
  refine ⟨_, i1.row.cell rfl, condB_of (fun hd => ⟨G, by rw [if_pos hd], RStep.refl _ _ _, ?_⟩) (fun hd => ?_)⟩
  · unfold flushD; rw [if_pos hd]; exact h
  refine ⟨⟨0, rfl, Nat.zero_le _, G, pL, lL, cL, RStep.refl _ _ _, i1, i2, i3, i6, i7⟩, ?_⟩
  rintro n w5 ⟨i, rfl, hi, hm⟩
  intros
  have hm' := hm
  obtain ⟨G', pL', lL', cL', k1, k2, k3, k4, k5, k6⟩ := hm'
  refine ⟨_, _, _, k2.row.cell rfl, condB_of (fun hlt => ?_) (fun hge => ?_)⟩
  · simp only [decide_eq_true_eq] at hlt
    have hl := i3.1
    intro w32 d32
    obtain ⟨x, hxi⟩ : ∃ x, D.waits[i]? = some x := ⟨D.waits[i]'(by omega), List.getElem?_eq_getElem _⟩
    obtain ⟨p1, l1, c1, a, q, nn, cc, e1, e2, rfl, e3, e4, hc⟩ := (hm.ext d32.ext).put hok i4 i5 (fun x hx => List.mem_of_mem_take hx) (List.Pairwise.sublist (List.take_sublist _ _) i5) hxi
    rw [Int.toNat_natCast]
    refine ⟨_, _, _, e1, _, _, _, e2, ⟨by omega, hlt⟩, _, e3, _, _, _, e4, hc.mono ?_⟩
    rintro e w40 ⟨p', l', c', rfl, hl', hall⟩
    refine ⟨p', l', c', rfl, hl', fun w44 hs => ?_⟩
    rw [w64 (by omega)]
    refine ⟨⟨i + 1, by omega, by omega, ?_⟩, by show 4096 - ((i : Int) + 1).toNat < 4096 - (i : Int).toNat; omega⟩
    rw [List.take_add_one, hxi]
    exact hall w44 hs
  · simp only [decide_eq_false_iff_not] at hge
    have hl := i3.1
    have e1 : D.waits.take i = D.waits := List.take_of_length_le (by omega)
    rw [e1] at hm
    refine ⟨k2.live (by simp), fun w46 hs => ?_⟩
    obtain ⟨G2, r1, r2⟩ := hm.done i4 hs
    refine ⟨G2, by rw [if_neg (by simp [hd])], r1, ?_⟩
    unfold flushD
    rw [if_neg (by simp [hd])]
    exact r2

set_option maxHeartbeats 1000000 in
theorem rcrash_spec {w : World} {b : Nat} {D : Dk} {G : Nat → Prop} (h : IsRef w b D G) (hok : DkOk D) {p : Option Addr} {l c : Nat} {ks : List Int} (hk : IntsAt w p l ks) (hkl : l ≤ 4096) (hkb : ∀ a, p = some a → ks ≠ [] → a.block ≠ b) :
    Calls Try.prog 65 #[.pointer (some (at0 b)), .slice p l c] w fun e w' => ∃ G', e = .returned (.tuple #[]) ∧ RStep b G G' w w' ∧ IsRef w' b (crashD D ks) G' := by
  have h' := h
  obtain ⟨pL, lL, cL, pW, lW, cW, i1, i2, i3, i4, i5, i6, i7⟩ := h'
  refine (F65_calls (some (at0 b)) p l c w (fun v w' => ∃ G', v = .tuple #[] ∧ RStep b G G' w w' ∧ IsRef w' b (crashD D ks) G')
    (fun _ n w5 => ∃ i : Nat, n = i ∧ i ≤ D.waits.length ∧ Mid w b D G w5 ((D.waits.take i).filter fun y => decide (y.1 ∈ ks)) pW lW cW) (fun _ n _ => 4096 - n.toNat)
    (fun n3 w4 b57 n58 w59 => ∃ j : Nat, n58 = j ∧ j ≤ l ∧ Ext w4 w59 ∧ ∀ x, D.waits[n3.toNat]? = some x → b57 = decide (x.1 ∈ ks.take j)) (fun _ _ _ n _ => 4096 - n.toNat) ?_).mono (by rintro e w' ⟨v, rfl, G', rfl, h⟩; exact ⟨G', rfl, h⟩)
  have hlen := ref_len hok i4 i5
  have hl := i3.1
  have hkl' := hk.1
  refine ⟨⟨0, rfl, Nat.zero_le _, G, pL, lL, cL, RStep.refl _ _ _, i1, i2, i3, i6, i7⟩, ?_⟩
  rintro n w5 ⟨i, rfl, hi, hm⟩
  intros
  have hm' := hm
  obtain ⟨G', pL', lL', cL', k1, k2, k3, k4, k5, k6⟩ := hm'
  refine ⟨_, _, _, k2.row.cell rfl, condB_of (fun hlt => ?_) (fun hge => ?_)⟩
  · simp only [decide_eq_true_eq] at hlt
    obtain ⟨x, hxi⟩ : ∃ x, D.waits[i]? = some x := ⟨D.waits[i]'(by omega), List.getElem?_eq_getElem _⟩
    refine ⟨⟨0, rfl, Nat.zero_le _, Upd.refl _ _, fun x _ => by simp⟩, ?_⟩
    rintro b57 n58 w59 ⟨j, rfl, hj, x59, hkept⟩
    intros
    have hb57 := hkept x (by rw [Int.toNat_natCast]; exact hxi)
    subst hb57
    have hm59 := hm.ext x59
    have tk : (D.waits.take (i + 1)).filter (fun y => decide (y.1 ∈ ks)) = (D.waits.take i).filter (fun y => decide (y.1 ∈ ks)) ++ (if x.1 ∈ ks then [x] else []) := by
      rw [List.take_add_one, hxi, List.filter_append]
      congr 1
      by_cases hin : x.1 ∈ ks <;> simp [hin]
    refine condB_of (fun hjl => ?_) (fun hjl => ?_)
    · simp only [decide_eq_true_eq] at hjl
      intro w82 d82
      obtain ⟨z, hz⟩ : ∃ z, ks[j]? = some z := ⟨ks[j]'(by omega), List.getElem?_eq_getElem _⟩
      have hmu : 4096 - ((j : Int) + 1).toNat < 4096 - (j : Int).toNat := by omega
      have tm : ∀ y : Int × List UInt8, y.1 ∈ ks.take (j + 1) ↔ (y.1 ∈ ks.take j ∨ z = y.1) := fun y => by
        rw [List.take_add_one, hz]; simp [eq_comm]
      refine condB_of (fun hb => ?_) (fun hb => ?_)
      · simp only [decide_eq_true_eq] at hb
        rw [w64 (by omega)]
        refine ⟨⟨j + 1, by omega, by omega, x59.trans d82.ext, fun y hy => ?_⟩, hmu⟩
        rw [Int.toNat_natCast, hxi] at hy
        cases hy
        exact (decide_eq_true ((tm x).2 (.inl hb))).symm
      · simp only [decide_eq_false_iff_not] at hb
        obtain ⟨G2, pL2, lL2, cL2, q1, q2, q3, q4, q5, q6⟩ := hm59.ext d82.ext
        have hkc : CellsAt w82 p (ks.map fun x => .int .i64 x) := hk.2.upd q1.upd fun a ha hne => hkb a ha (by rintro rfl; exact hne rfl)
        obtain ⟨a, ha, hc⟩ := hkc j (.int .i64 z) (by rw [List.getElem?_map, hz]; rfl)
        subst ha
        obtain ⟨a2, q, nn, cc, rfl, _, c0, _, _⟩ := q4.at hxi
        rw [Int.toNat_natCast, Int.toNat_natCast]
        refine ⟨⟨by omega, hjl⟩, z, by rw [Nat.mul_one]; exact hc, _, _, _, q2.row.cell rfl, ⟨by omega, hlt⟩, _, c0, ?_⟩
        rw [w64 (by omega)]
        refine ⟨⟨j + 1, by omega, by omega, x59.trans d82.ext, fun y hy => ?_⟩, hmu⟩
        rw [Int.toNat_natCast, hxi] at hy
        cases hy
        apply decide_eq_decide.2
        rw [tm x]
        simp [hb]
    · simp only [decide_eq_false_iff_not] at hjl
      have ej : ks.take j = ks := List.take_of_length_le (by omega)
      rw [ej]
      have hmu : 4096 - ((i : Int) + 1).toNat < 4096 - (i : Int).toNat := by omega
      refine condB_of (fun hb => ?_) (fun hb => ?_)
      · simp only [decide_eq_true_eq] at hb
        intro w89 d89
        obtain ⟨p1, l1, c1, a, q, nn, cc, e1, e2, rfl, e3, e4, hc⟩ := (hm59.ext d89.ext).put hok i4 i5 (fun x hx => List.mem_of_mem_take (List.mem_filter.1 hx).1) (Asc.filter (List.Pairwise.sublist (List.take_sublist _ _) i5) _) hxi
        rw [Int.toNat_natCast]
        refine ⟨_, _, _, e1, _, _, _, e2, ⟨by omega, hlt⟩, _, e3, _, _, _, e4, hc.mono ?_⟩
        rintro e w40 ⟨p', l', c', rfl, hl', hall⟩
        refine ⟨p', l', c', rfl, hl', fun w44 hs => ?_⟩
        rw [w64 (by omega)]
        refine ⟨⟨i + 1, by omega, by omega, ?_⟩, hmu⟩
        rw [tk, if_pos hb]
        exact hall w44 hs
      · simp only [decide_eq_false_iff_not] at hb
        rw [w64 (by omega)]
        refine ⟨⟨i + 1, by omega, by omega, ?_⟩, hmu⟩
        rw [tk, if_neg hb, List.append_nil]
        exact hm59
  · simp only [decide_eq_false_iff_not] at hge
    have e1 : D.waits.take i = D.waits := List.take_of_length_le (by omega)
    rw [e1] at hm
    refine ⟨k2.live (by simp), fun w46 hs => ?_⟩
    obtain ⟨G2, r1, r2⟩ := hm.done i4 hs
    exact ⟨G2, rfl, r1, r2⟩
end Go.Proofs.Ytbidancfbilbkaa
