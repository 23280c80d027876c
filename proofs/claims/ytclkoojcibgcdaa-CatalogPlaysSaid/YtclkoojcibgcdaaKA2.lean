/- Two lists of objects: are they the same? Lists of objects that grow. -/
import Derived.Test.YtclkoojcibgcdaaKA1
namespace Go.Proofs.Ytclkoojcibgcdaa
open Go Go.Vc

instance : DecidableEq Ob := fun a b =>
  if h : a.key = b.key ∧ a.len = b.len ∧ a.epoch = b.epoch ∧ a.st = b.st then .isTrue (by
    obtain ⟨k, l, e, s⟩ := a
    obtain ⟨k', l', e', s'⟩ := b
    obtain ⟨h1, h2, h3, h4⟩ := h
    simp only at h1 h2 h3 h4
    subst h1; subst h2; subst h3; subst h4
    rfl) else .isFalse (by rintro rfl; exact h ⟨rfl, rfl, rfl, rfl⟩)

theorem condB_t {b : Bool} {T E : Prop} (h : b = true) (t : T) : condB b T E := by subst h; exact t
theorem condB_f {b : Bool} {T E : Prop} (h : b = false) (t : E) : condB b T E := by subst h; exact t

theorem rput_spec (s : ByteArray) (n m : Int) (p : Option Addr) (l c : Nat) (w : World) : Calls Try.prog 42 #[.agg #[.string s, .int .i64 n, .int .i64 m, .slice p l c]] w fun e w' => e = .returned (.agg #[.int .i64 1, .string s, .int .i64 n, .slice p l c]) ∧ Ext w w' := by
  refine (F42_calls s n m p l c w (fun v w' => v = .agg #[.int .i64 1, .string s, .int .i64 n, .slice p l c] ∧ Ext w w') ?_).mono (by rintro e w' ⟨v, rfl, rfl, h⟩; exact ⟨rfl, h⟩)
  intro k5 w6 hk5 k7 w8 hk7
  have r6 : RowW w6 k5 _ := ⟨_, hk5.at⟩
  have r8 : RowW w8 k7 _ := ⟨_, hk7.at⟩
  have q8 := hk7.ext.rowW r6 id
  have h5 := hk5.size
  have h7 := hk7.size
  refine ⟨_, q8.row.cell (n := 0) rfl, _, q8.row.cell rfl, _, _, _, q8.row.cell rfl, fill4 (hk5.ext.trans hk7.ext) (by omega) r8 fun w15 x15 _ r15 => ?_⟩
  exact ⟨_, r15.row.cell (n := 0) rfl, _, r15.row.cell rfl, _, r15.row.cell rfl, _, _, _, r15.row.cell rfl, rfl, x15⟩
theorem rsame16_spec (n1 n5 : Int) (s2 s6 : ByteArray) (n3 n7 : Int) {p4 p8 : Option Addr} {l4 c4 l8 c8 : Nat} {A B : List Int} {w : World} (h1 : IntsAt w p4 l4 A) (h2 : IntsAt w p8 l8 B) (hl : l4 ≤ 1000) :
    Calls Try.prog 41 #[.agg #[.int .i64 n1, .string s2, .int .i64 n3, .slice p4 l4 c4], .agg #[.int .i64 n5, .string s6, .int .i64 n7, .slice p8 l8 c8]] w fun e w' => e = .returned (.bool (decide (A = B ∧ n1 = n5 ∧ s2 = s6 ∧ n3 = n7))) ∧ Ext w w' := by
  refine (F41_calls n1 s2 n3 p4 l4 c4 n5 s6 n7 p8 l8 c8 w (fun v w' => v = .bool (decide (A = B ∧ n1 = n5 ∧ s2 = s6 ∧ n3 = n7)) ∧ Ext w w') ?_).mono (by rintro e w' ⟨v, rfl, rfl, h⟩; exact ⟨rfl, h⟩)
  intro k9 w10 hk9 k11 w12 hk11
  have r10 : RowW w10 k9 _ := ⟨_, hk9.at⟩
  have r12 : RowW w12 k11 _ := ⟨_, hk11.at⟩
  have q12 := hk11.ext.rowW r10 id
  have x12 := hk9.ext.trans hk11.ext
  refine ⟨_, _, _, q12.row.cell rfl, _, _, _, r12.row.cell rfl, (eqi_spec (h1.ext x12) (h2.ext x12) hl).mono ?_⟩
  rintro e w15 ⟨rfl, x15⟩
  have q15 := x15.rowW q12 id
  have r15 := x15.rowW r12 id
  have y15 := x12.trans x15
  have no : ¬ (A = B ∧ n1 = n5 ∧ s2 = s6 ∧ n3 = n7) → (Value.bool false = .bool (decide (A = B ∧ n1 = n5 ∧ s2 = s6 ∧ n3 = n7)) ∧ Ext w w15) := fun h => ⟨by rw [decide_eq_false h], y15⟩
  refine ⟨_, rfl, condB_of (fun g1 => ⟨_, q15.row.cell (n := 0) rfl, _, r15.row.cell (n := 0) rfl, condB_of (fun g2 => ⟨_, q15.row.cell rfl, _, r15.row.cell rfl, condB_of (fun g3 => ⟨_, q15.row.cell rfl, _, r15.row.cell rfl, ?_, y15⟩) fun g3 => no ?_⟩) fun g2 => no ?_⟩) fun g1 => no ?_⟩ <;> simp only [decide_eq_true_eq, decide_eq_false_iff_not] at *
  · congr 1
    exact decide_eq_decide.2 ⟨fun h => ⟨g1, g2, g3, h⟩, fun h => h.2.2.2⟩
  · exact fun h => g3 h.2.2.1
  · exact fun h => g2 h.2.1
  · exact fun h => g1 h.1

set_option maxHeartbeats 1000000 in
theorem objs_spec {w : World} {p1 p2 : Option Addr} {l1 c1 l2 c2 : Nat} {A B : List Ob} (h1 : ObsR w p1 l1 A) (h2 : ObsR w p2 l2 B) (hl : l1 ≤ 1000) (hs : ∀ o ∈ A, o.st.length ≤ 1000) :
    Calls Try.prog 17 #[.slice p1 l1 c1, .slice p2 l2 c2] w fun e w' => e = .returned (.bool (decide (A = B))) ∧ Ext w w' := by
  refine (F17_calls p1 l1 c1 p2 l2 c2 w (fun v w' => v = .bool (decide (A = B)) ∧ Ext w w') (fun _ n w4 => ∃ i : Nat, n = i ∧ i ≤ l1 ∧ Ext w w4 ∧ A.take i = B.take i) (fun _ n _ => 1000 - n.toNat) ?_).mono (by rintro e w' ⟨v, rfl, rfl, h⟩; exact ⟨rfl, h⟩)
  have e1 := h1.1
  have e2 := h2.1
  refine condB_of (fun hne => ?_) (fun heq => ?_)
  · simp only [Bool.not_eq_true', decide_eq_false_iff_not] at hne
    refine ⟨?_, Upd.refl _ _⟩
    have : ¬ A = B := by rintro rfl; omega
    simp [this]
  simp only [Bool.not_eq_false', decide_eq_true_eq] at heq
  refine ⟨⟨0, rfl, Nat.zero_le _, Upd.refl _ _, by simp⟩, ?_⟩
  rintro n w4 ⟨i, rfl, hi, x4, ht⟩
  intros
  refine condB_of (fun hlt => ?_) (fun hge => ?_)
  · simp only [decide_eq_true_eq] at hlt
    intro w39 d39
    have x39 := x4.trans d39.ext
    obtain ⟨x, hx⟩ : ∃ x, A[i]? = some x := ⟨A[i]'(by omega), List.getElem?_eq_getElem _⟩
    obtain ⟨y, hy⟩ : ∃ y, B[i]? = some y := ⟨B[i]'(by omega), List.getElem?_eq_getElem _⟩
    obtain ⟨a, q, m, d, rfl, a0, a1, a2, a3, ai, _⟩ := (h1.ext x39).2 i x hx
    obtain ⟨b, q', m', d', rfl, b0, b1, b2, b3, bi, _⟩ := (h2.ext x39).2 i y hy
    rw [Int.toNat_natCast]
    refine ⟨⟨by omega, hlt⟩, _, a0, _, a1, _, a2, _, _, _, a3, ⟨by omega, by omega⟩, _, b0, _, b1, _, b2, _, _, _, b3, (rput_spec _ _ _ _ _ _ w39).mono ?_⟩
    rintro e w50 ⟨rfl, x50⟩
    refine ⟨_, _, _, _, _, _, rfl, ⟨_, cellk b0 x50, _, cellk b1 x50, _, cellk b2 x50, _, _, _, cellk b3 x50, rfl⟩, (rput_spec _ _ _ _ _ _ w50).mono ?_⟩
    rintro e w60 ⟨rfl, x60⟩
    have x3960 := x50.trans x60
    have hsx := hs x (List.mem_of_getElem? hx)
    have hai := ai.1
    refine ⟨_, _, _, _, _, _, rfl, (rsame16_spec 1 1 x.key y.key x.len y.len (ai.ext x3960) (bi.ext x3960) (by omega)).mono ?_⟩
    rintro e w66 ⟨rfl, x66⟩
    refine ⟨_, rfl, fun w69 d69 => ?_⟩
    have x3969 := (x3960.trans x66).trans d69.ext
    refine condB_of (fun hb => ?_) (fun hb => ?_)
    · simp only [Bool.not_eq_true', decide_eq_false_iff_not] at hb
      refine ⟨?_, x39.trans x3969⟩
      have : ¬ A = B := by
        rintro rfl
        rw [hx] at hy
        cases hy
        exact hb ⟨rfl, trivial, rfl, rfl⟩
      simp [this]
    simp only [Bool.not_eq_false', decide_eq_true_eq] at hb
    refine ⟨⟨by omega, hlt⟩, _, cellk a2 x3969, ⟨by omega, by omega⟩, _, cellk b2 x3969, condB_of (fun he => ?_) (fun he => ?_)⟩
    · simp only [Bool.not_eq_true', decide_eq_false_iff_not] at he
      refine ⟨?_, x39.trans x3969⟩
      have : ¬ A = B := by
        rintro rfl
        rw [hx] at hy
        cases hy
        exact he rfl
      simp [this]
    · simp only [Bool.not_eq_false', decide_eq_true_eq] at he
      have hxy : x = y := by
        obtain ⟨k, l, e, s⟩ := x
        obtain ⟨k', l', e', s'⟩ := y
        obtain ⟨g1, _, g2, g3⟩ := hb
        simp only at g1 g2 g3 he
        subst g1; subst g2; subst g3; subst he
        rfl
      subst hxy
      rw [w64 (by omega)]
      refine ⟨⟨i + 1, by omega, by omega, x39.trans x3969, ?_⟩, by show 1000 - ((i : Int) + 1).toNat < 1000 - (i : Int).toNat; omega⟩
      rw [List.take_add_one, List.take_add_one, ht, hx, hy]
  · simp only [decide_eq_false_iff_not] at hge
    refine ⟨?_, x4⟩
    have f1 : A.take i = A := List.take_of_length_le (by omega)
    have f2 : B.take i = B := List.take_of_length_le (by omega)
    rw [f1, f2] at ht
    simp [ht]

/-- a list of objects that grows, of objects that lay before -/
def ObsT (w : World) (base base2 : Nat) (p : Option Addr) (l c : Nat) (O : List Ob) : Prop :=
  ∃ vs, All2 (fun v (o : Ob) => ∃ q n d, v = Value.slice q n d ∧ OwnS w base 3 1 q n d (encI o.st)) vs O ∧ OwnS w base2 52 4 p l c (obCells vs O) ∧ l = O.length
theorem ObsT.nil (w : World) (base base2 : Nat) : ObsT w base base2 none 0 0 [] := ⟨[], .nil, OwnS.nil _ _ _ _, rfl⟩
theorem ObsT.length {w : World} {base base2 : Nat} {p : Option Addr} {l c : Nat} {O : List Ob} (h : ObsT w base base2 p l c O) : l = O.length := by
  obtain ⟨_, _, _, h⟩ := h; exact h
theorem ObsT.ext {w w' : World} {base base2 : Nat} {p : Option Addr} {l c : Nat} {O : List Ob} (h : ObsT w base base2 p l c O) (hu : Ext w w') : ObsT w' base base2 p l c O := by
  obtain ⟨vs, h1, h2, h3⟩ := h
  exact ⟨vs, h1.mono fun v o ⟨q, n, d, hv, hh⟩ => ⟨q, n, d, hv, hh.ext hu⟩, h2.ext hu, h3⟩
theorem ObsT.read {w : World} {base base2 : Nat} {p : Option Addr} {l c : Nat} {O : List Ob} (h : ObsT w base base2 p l c O) (hl : ∀ o ∈ O, o.len ≤ 9223372036854775807) : ObsR w p l O := by
  obtain ⟨vs, h1, h2, h3⟩ := h
  exact ObsS.read (base := min base base2) ⟨vs, h1.mono fun v o ⟨q, n, d, hv, hh⟩ => ⟨q, n, d, hv, hh.base_le (Nat.min_le_left _ _)⟩, h2.base_le (Nat.min_le_right _ _), h3⟩ hl
/-- an object of a list, as its cells -/
theorem ObsS.at {w : World} {base : Nat} {p : Option Addr} {l c : Nat} {O : List Ob} (h : ObsS w base p l c O) {i : Nat} {o : Ob} (hi : O[i]? = some o) :
    ∃ a q n d, p = some a ∧ w.cell? (a.add (i * 4)) = some (.string o.key) ∧ w.cell? ((a.add (i * 4)).add 1) = some (.int .i64 o.len) ∧ w.cell? ((a.add (i * 4)).add 2) = some (.int .i64 o.epoch) ∧
      w.cell? ((a.add (i * 4)).add 3) = some (.slice q n d) ∧ OwnS w base 3 1 q n d (encI o.st) := by
  obtain ⟨vs, h1, h2, h3⟩ := h
  obtain ⟨v, hv, q, n, d, rfl, hh⟩ := all2_atK h1 hi
  obtain ⟨c1, c2, c3, c4⟩ := obCells_at hv hi
  obtain ⟨a, ha, e1⟩ := h2.cells _ _ c1
  obtain ⟨a2, ha2, e2⟩ := h2.cells _ _ c2
  obtain ⟨a3, ha3, e3⟩ := h2.cells _ _ c3
  obtain ⟨a4, ha4, e4⟩ := h2.cells _ _ c4
  rw [ha] at ha2 ha3 ha4
  cases ha2; cases ha3; cases ha4
  exact ⟨a, q, n, d, ha, e1, by rw [add_add]; exact e2, by rw [add_add]; exact e3, by rw [add_add]; exact e4, hh⟩
theorem ObsT.app {w w1 : World} {base base2 : Nat} {p : Option Addr} {l c : Nat} {O : List Ob} (h : ObsT w base base2 p l c O) (hl : l ≤ 1000) (hb : base2 ≤ w.heap.size) (o : Ob) {q : Option Addr} {n d : Nat} (hq : OwnS w base 3 1 q n d (encI o.st)) {k : Nat}
    (hk : NewB w k (.cells #[.string o.key, .int .i64 o.len, .int .i64 o.epoch, .slice q n d] 52) w1) :
    ∃ p' c' w2, (Builtin.append_ #[25, 25] 25 #[.slice p l c, .slice (some (at0 k)) 1 1]).run Try.prog w1 = .ok (.slice p' (l + 1) c') w2 ∧ ObsT w2 base base2 p' (l + 1) c' (O ++ [o]) ∧ ∀ w0, Ext w0 w → w0.heap.size ≤ base2 → Ext w0 w2 := by
  obtain ⟨vs, hvs, hown, hl14⟩ := h.ext hk.ext
  have hvl : vs.length = O.length := hvs.length
  have hcs : CellsAt w1 (some (at0 k)) [.string o.key, .int .i64 o.len, .int .i64 o.epoch, .slice q n d] := by
    intro j u hj
    refine ⟨_, rfl, ?_⟩
    have hb := hk.at
    match j, hj with
    | 0, hj => cases hj; simp [World.cell?, Addr.add, hb]
    | 1, hj => cases hj; simp [World.cell?, Addr.add, hb]
    | 2, hj => cases hj; simp [World.cell?, Addr.add, hb]
    | 3, hj => cases hj; simp [World.cell?, Addr.add, hb]
  obtain ⟨p', c', w2, hr, own2, u2, _⟩ := hown.append elemOb 25 (q := some (at0 k)) (m := 1) (d := 1) (news := [.string o.key, .int .i64 o.len, .int .i64 o.epoch, .slice q n d]) rfl hcs (fun h => by cases h)
    (by intro u hu; simp only [List.mem_cons, List.not_mem_nil, or_false] at hu; rcases hu with rfl | rfl | rfl | rfl <;> rfl) (by unfold maxLen; omega) (by omega) (Nat.le_trans hb hk.ext.size)
  have hT : ∀ {q : Option Addr} {n d : Nat} {xs : List Value}, OwnS w1 base 3 1 q n d xs → OwnS w2 base 3 1 q n d xs := fun ho => ho.upd u2 fun g hg hp => by
    obtain ⟨_, _, cur, h1⟩ := own_inK ho hg
    obtain ⟨_, _, cur', h2⟩ := own_inK hown hp
    rw [h1] at h2
    simp at h2
  refine ⟨p', c', w2, hr, ⟨vs ++ [.slice q n d], (hvs.mono fun v o' ⟨q, n, d, hv, hq⟩ => ⟨q, n, d, hv, hT hq⟩).append (.cons ⟨q, n, d, rfl, hT (hq.ext hk.ext)⟩ .nil), ?_, by simp [hl14]⟩, fun w0 hx hle => Upd.trans (hx.trans hk.ext) u2 fun y hy hp => ?_⟩
  · rw [obCells_append _ _ hvl]
    exact own2
  · have := (own_inK hown hp).1
    omega

/-! ## plain facts -/
theorem perm_drop {o : Ob} : ∀ {O : List Ob}, Keys O → o ∈ O → O.Perm (o :: dropO o.key O)
  | [], _, h => by cases h
  | a :: O, hk, h => by
    have hk' : a.key ∉ O.map (·.key) ∧ Keys O := by
      have : ((a :: O).map (·.key)).Nodup := hk
      rw [List.map_cons, List.nodup_cons] at this
      exact this
    by_cases hao : a = o
    · subst hao
      have : dropO a.key (a :: O) = O := by
        unfold dropO
        rw [List.filter_cons_of_neg (by simp)]
        exact dropO_none fun o ho e => hk'.1 (List.mem_map.2 ⟨o, ho, e⟩)
      rw [this]
    · have ho : o ∈ O := by
        rcases List.mem_cons.1 h with h | h
        · exact absurd h.symm hao
        · exact h
      have hne : a.key ≠ o.key := fun e => hk'.1 (List.mem_map.2 ⟨o, ho, e.symm⟩)
      have : dropO o.key (a :: O) = a :: dropO o.key O := by
        unfold dropO
        rw [List.filter_cons_of_pos (by simpa using hne)]
      rw [this]
      exact ((perm_drop hk'.2 ho).cons a).trans (List.Perm.swap _ _ _)
theorem stripes_perm {O O' : List Ob} (h : O.Perm O') : (stripesO O).Perm (stripesO O') := h.flatMap_right _
theorem stripes_drop_len {o : Ob} {O : List Ob} (hk : Keys O) (h : o ∈ O) : (stripesO O).length = o.st.length + (stripesO (dropO o.key O)).length := by
  have := (stripes_perm (perm_drop hk h)).length_eq
  rw [this]
  show (o.st ++ stripesO (dropO o.key O)).length = _
  rw [List.length_append]
theorem getO_drop (k : ByteArray) (O : List Ob) : getO k (dropO k O) = none := getO_none.2 fun o ho => by simpa using (List.mem_filter.1 ho).2
theorem getO_ins {o : Ob} {O : List Ob} (h : KAsc O) : getO o.key (insO o O) = some o := (getO_some (insO_asc h).keys).2 ⟨(insO_perm o O).mem_iff.2 List.mem_cons_self, rfl⟩
theorem nodup_sub : ∀ {A S : List Int}, A.Nodup → (∀ x ∈ A, x ∈ S) → A.length ≤ S.length
  | [], _, _, _ => Nat.zero_le _
  | a :: A, S, hn, h => by
    rw [List.nodup_cons] at hn
    have ha := h a List.mem_cons_self
    have := nodup_sub (A := A) (S := S.erase a) hn.2 fun x hx => (List.mem_erase_of_ne (fun e => hn.1 (by rw [← e]; exact hx))).2 (h x (List.mem_cons_of_mem _ hx))
    have hl := List.length_erase_of_mem ha
    have hpos : 0 < S.length := List.length_pos_of_mem ha
    simp only [List.length_cons]
    omega
theorem range_nodup (m : Nat) : ((List.range m).map fun (i : Nat) => (i : Int)).Nodup := by
  rw [List.Nodup, List.pairwise_map]
  exact List.nodup_range.imp fun h e => h (by omega)
theorem planL_full {O : List Ob} {n m : Nat} (h : n + (stripesO O).length ≤ m) : (planL O n m).length = n := by
  unfold planL
  have h1 : ((List.range m).map fun (i : Nat) => (i : Int)).length = m := by simp
  have h2 := List.length_eq_countP_add_countP (fun s => decide (s ∉ stripesO O)) (l := (List.range m).map fun (i : Nat) => (i : Int))
  rw [h1, List.countP_eq_length_filter, List.countP_eq_length_filter] at h2
  have h3 := nodup_sub (A := ((List.range m).map fun (i : Nat) => (i : Int)).filter fun a => decide (¬ (decide (a ∉ stripesO O)) = true)) (S := stripesO O) ((range_nodup m).filter _) fun x hx => by
    have := (List.mem_filter.1 hx).2
    simpa using this
  rw [List.length_take]
  omega
theorem planL_mem {O : List Ob} {n m : Nat} {s : Int} (h : s ∈ planL O n m) : 0 ≤ s ∧ s < m ∧ s ∉ stripesO O := by
  have h1 := List.mem_filter.1 (List.mem_of_mem_take h)
  obtain ⟨i, hi, rfl⟩ := List.mem_map.1 h1.1
  have := List.mem_range.1 hi
  exact ⟨by omega, by omega, by simpa using h1.2⟩
theorem planL_nodup (O : List Ob) (n m : Nat) : (planL O n m).Nodup := ((range_nodup m).filter _).sublist (List.take_sublist _ _)
end Go.Proofs.Ytclkoojcibgcdaa
