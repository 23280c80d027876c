import Derived.Test.YtenfnapoigafmaaGreatMA
/- The document's disk: a sector laid into a sorted list. -/
namespace Go.Proofs.YtenfnapoigafmaaGreat
open Go Go.Vc

/-- condB where both ways meet -/
theorem condB_join {c : Bool} {A X Q : Prop} (hA : c = true → (Q → X) → A) (hQ : c = false → Q) (hX : Q → X) : condB c A X :=
  condB_of (fun h => hA h hX) fun h => hX (hQ h)

theorem nilM_of {p : Option Addr} {a : Addr} {K : Addr → Prop} (h : p = some a) (hk : K a) : nilM p K := by
  subst h; exact hk

theorem ins_of {k : Int} {bs : List UInt8} {A C B : SM} (hA : ∀ x ∈ A, x.1 < k) (hC : ∀ x ∈ C, x.1 = k) (hB : ∀ x ∈ B, k < x.1) : ins k bs (A ++ C ++ B) = A ++ (k, bs) :: B := by
  unfold ins
  have a1 : A.filter (fun y => decide (y.1 < k)) = A := List.filter_eq_self.2 fun x hx => by simpa using hA x hx
  have a2 : A.filter (fun y => decide (k < y.1)) = [] := List.filter_eq_nil_iff.2 fun x hx => by have := hA x hx; simp; omega
  have c1 : C.filter (fun y => decide (y.1 < k)) = [] := List.filter_eq_nil_iff.2 fun x hx => by have := hC x hx; simp; omega
  have c2 : C.filter (fun y => decide (k < y.1)) = [] := List.filter_eq_nil_iff.2 fun x hx => by have := hC x hx; simp; omega
  have b1 : B.filter (fun y => decide (y.1 < k)) = [] := List.filter_eq_nil_iff.2 fun x hx => by have := hB x hx; simp; omega
  have b2 : B.filter (fun y => decide (k < y.1)) = B := List.filter_eq_self.2 fun x hx => by simpa using hB x hx
  simp only [List.filter_append, a1, a2, c1, c2, b1, b2, List.append_nil, List.nil_append]

theorem heldCells_app : ∀ {vs : List Value} {L : SM} {us : List Value} {M : SM}, vs.length = L.length → heldCells (vs ++ us) (L ++ M) = heldCells vs L ++ heldCells us M
  | [], [], _, _, _ => rfl
  | v :: vs, x :: L, us, M, h => by
    have := heldCells_app (vs := vs) (L := L) (us := us) (M := M) (by simpa using h)
    simp only [List.cons_append, heldCells, this]
theorem heldCells_drop : ∀ (j : Nat) {vs : List Value} {L : SM}, vs.length = L.length → (heldCells vs L).drop (j * 2) = heldCells (vs.drop j) (L.drop j)
  | 0, _, _, _ => by simp
  | j + 1, [], [], _ => by simp [heldCells]
  | j + 1, v :: vs, x :: L, h => by
    have := heldCells_drop j (vs := vs) (L := L) (by simpa using h)
    rw [show (j + 1) * 2 = j * 2 + 1 + 1 by omega]
    simpa [heldCells] using this
theorem heldCells_take : ∀ (j : Nat) {vs : List Value} {L : SM}, vs.length = L.length → (heldCells vs L).take (j * 2) = heldCells (vs.take j) (L.take j)
  | 0, _, _, _ => by simp [heldCells]
  | j + 1, [], [], _ => by simp [heldCells]
  | j + 1, v :: vs, x :: L, h => by
    have := heldCells_take j (vs := vs) (L := L) (by simpa using h)
    rw [show (j + 1) * 2 = j * 2 + 1 + 1 by omega]
    simpa [heldCells] using this
theorem heldCells_one {R : Value → Int × List UInt8 → Prop} (hR : ∀ v x, R v x → ∃ p l c, v = .slice p l c) {vs : List Value} {L : SM} (h : All2 R vs L) : ∀ u ∈ heldCells vs L, u.oneCell' = true := by
  induction h with
  | nil => intro u hu; cases hu
  | cons h _ ih =>
    intro u hu
    obtain ⟨p, l, c, rfl⟩ := hR _ _ h
    simp only [heldCells, List.mem_cons] at hu
    rcases hu with rfl | rfl | hu
    · rfl
    · rfl
    · exact ih u hu
theorem all2_take {α β : Type} {R : α → β → Prop} {xs : List α} {bs : List β} (h : All2 R xs bs) : ∀ j, All2 R (xs.take j) (bs.take j) := by
  induction h with
  | nil => intro j; simp; exact .nil
  | cons h _ ih =>
    intro j
    cases j with
    | zero => exact .nil
    | succ j => exact .cons h (ih j)
theorem all2_drop {α β : Type} {R : α → β → Prop} {xs : List α} {bs : List β} (h : All2 R xs bs) : ∀ j, All2 R (xs.drop j) (bs.drop j) := by
  induction h with
  | nil => intro j; simp; exact .nil
  | cons h h2 ih =>
    intro j
    cases j with
    | zero => exact .cons h h2
    | succ j => exact ih j

theorem cells_cut {w : World} {p : Option Addr} {xs : List Value} (h : CellsAt w p xs) {c j : Nat} (hj : c = j → xs.drop (j * 2) = []) : CellsAt w (cutP p c j 2) (xs.drop (j * 2)) := by
  unfold cutP
  split
  · rename_i e
    rw [hj e]
    exact CellsAt.nil _ _
  · cases p with
    | none =>
      intro i u hi
      rw [List.getElem?_drop] at hi
      obtain ⟨a, ha, _⟩ := h _ u hi
      cases ha
    | some a => exact h.drop (j * 2)
theorem cutP_none {p : Option Addr} {c j : Nat} (h : cutP p c j 2 = none) : p = none := by
  unfold cutP at h
  split at h
  · exact h
  · cases p with
    | none => rfl
    | some a => cases h

/-- a list of sectors that is only read -/
def RefL (w : World) (G : Nat → Prop) (p : Option Addr) (l c : Nat) (L : SM) : Prop :=
  l = L.length ∧ l ≤ c ∧ (p = none → l = 0) ∧ (∀ a, p = some a → G a.block) ∧ ∃ vs, All2 (fun v (x : Int × List UInt8) => SliceVal G w v x.2) vs L ∧ CellsAt w p (heldCells vs L)

theorem own_app {w0 w : World} (hx : Ext w0 w) {p : Option Addr} {n c : Nat} {xs : List Value} (h : OwnS w w0.heap.size 109 2 p n c xs) {q : Option Addr} {m d : Nat} {news : List Value} (hl : news.length = m * 2)
    (hq : CellsAt w q news) (hqn : q = none → m = 0) (h1 : ∀ u ∈ news, u.oneCell' = true) (hb : n + m ≤ 9000) :
    ∃ p' c' w', Sem.run Tryz.prog (Builtin.append_ #[71, 71] 71 #[.slice p n c, .slice q m d]) w = .ok (.slice p' (n + m) c') w' ∧ OwnS w' w0.heap.size 109 2 p' (n + m) c' (xs ++ news) ∧
      Ext w0 w' ∧ Upd (fun b => p = some (at0 b)) w w' := by
  obtain ⟨p', c', w', hr, ho, hu, _⟩ := h.append elemH 71 (q := q) (m := m) (d := d) (news := news) hl hq hqn h1 (by unfold maxLen; omega) (by omega) hx.size
  refine ⟨p', c', w', hr, ho, ?_, hu⟩
  refine Upd.trans hx hu fun x hx' hs => ?_
  rcases h.where_ with ⟨h0, _⟩ | ⟨g, h0, hge, _⟩
  · rw [h0] at hs; cases hs
  · rw [h0] at hs
    simp only [Option.some.injEq, at0, Addr.mk.injEq, and_true] at hs
    omega

theorem box_cells {w : World} {k : Nat} {a b : Value} {e : TypeId} {fz : Nat × Nat} (h : w.heap[k]? = some (.cells #[a, b] e fz)) : CellsAt w (some (at0 k)) [a, b] := by
  intro j u hj
  refine ⟨_, rfl, ?_⟩
  match j, hj with
  | 0, hj => cases hj; simp [World.cell?, Addr.add, h]
  | 1, hj => cases hj; simp [World.cell?, Addr.add, h]

theorem asc_split {L : SM} (ha : Asc L) {k : Int} {i : Nat} {x : Int × List UInt8} (hx : L[i]? = some x) (hk : k ≤ x.1) : ∀ y ∈ L.drop (i + 1), k < y.1 := by
  intro y hy
  have hlt : i < L.length := (List.getElem?_eq_some_iff.1 hx).1
  have hxe : L[i] = x := (List.getElem?_eq_some_iff.1 hx).2
  have h2 : Asc (L.drop i) := List.Pairwise.sublist (List.drop_sublist i L) ha
  rw [List.drop_eq_getElem_cons hlt, hxe] at h2
  have := (List.pairwise_cons.1 h2).1 y hy
  omega

set_option maxHeartbeats 8000000 in
theorem with_spec {w : World} {G : Nat → Prop} {p : Option Addr} {l c : Nat} {L : SM} (h : RefL w G p l c L) (ha : Asc L) (hlen : L.length ≤ 4096) (k : Int) {pv : Option Addr} {lv cv : Nat} {bs : List UInt8} (hv : SliceVal G w (.slice pv lv cv) bs) :
    Calls Tryz.prog 91 #[.slice p l c, .agg #[.int .i64 k, .slice pv lv cv]] w fun e w' => ∃ p' l' c', e = .returned (.slice p' l' c') ∧ Ext w w' ∧
      RefL w' (fun x => G x ∨ (w.heap.size ≤ x ∧ x < w'.heap.size)) p' l' c' (ins k bs L) := by
  refine (F91_calls p l c k pv lv cv w (fun v w' => ∃ p' l' c', v = .slice p' l' c' ∧ Ext w w' ∧ RefL w' (fun x => G x ∨ (w.heap.size ≤ x ∧ x < w'.heap.size)) p' l' c' (ins k bs L))
    (fun _ w5 n w8 => ∃ i : Nat, n = i ∧ i ≤ l ∧ Ext w5 w8 ∧ ∀ x ∈ L.take i, x.1 < k) (fun _ _ n _ => 4096 - n.toNat) ?_).mono (by rintro e w' ⟨v, rfl, p', l', c', rfl, h⟩; exact ⟨p', l', c', rfl, h⟩)
  obtain ⟨hl, hlc, hpn, hpG, vs, hvs, hcells⟩ := h
  have hvl : vs.length = L.length := hvs.length
  have hone := heldCells_one (fun v x (h : SliceVal G w v x.2) => by obtain ⟨p, n, c, rfl, _⟩ := h; exact ⟨p, n, c, rfl⟩) hvs
  intro k4 w5 hk4
  have x5 := hk4.ext
  have r5 : RowW w5 k4 _ := ⟨_, hk4.at⟩
  refine ⟨⟨0, rfl, Nat.zero_le _, Upd.refl _ _, by simp⟩, ?_⟩
  rintro n7 w8 ⟨i, rfl, hi, x8, hlo⟩
  intros
  rename_i w25 d25
  have x25 := x8.trans d25.ext
  have row : ∀ w', Ext w5 w' → w'.cell? ((at0 k4).add 0) = some (.int .i64 k) ∧ w'.cell? ((at0 k4).add 1) = some (.slice pv lv cv) := fun w' hx => by
    have := hx.rowW r5 id
    exact ⟨this.row.cell rfl, this.row.cell rfl⟩
  have st : ∀ w', Ext w5 w' → ∃ n, w'.cell? (at0 k4) = some (.int .i64 n) ∧ ∃ p l c, w'.cell? ((at0 k4).add 1) = some (.slice p l c) ∧ (Value.agg #[.int .i64 n, .slice p l c]) = (Value.agg #[.int .i64 k, .slice pv lv cv]) :=
    fun w' hx => ⟨k, (row w' hx).1, pv, lv, cv, (row w' hx).2, rfl⟩
  have cellK : ∀ j x, L[j]? = some x → ∀ w', Ext w5 w' → ∃ a, p = some a ∧ w'.cell? ((a.add (j * 2)).add 0) = some (.int .i64 x.1) := by
    intro j x hx w' hx'
    obtain ⟨v, hvj, _⟩ := all2_at hvs hx
    obtain ⟨a, hpa, hc⟩ := (hcells.ext (x5.trans hx')) _ _ (heldCells_at hvj hx).1
    exact ⟨a, hpa, by rw [add_add, Nat.add_zero, Nat.mul_comm]; exact hc⟩
  -- the prefix
  have hprel : ((heldCells vs L).take (i * 2)).length = i * 2 := by rw [List.length_take, heldCells_length hvl]; omega
  have hpre : ∀ w', Ext w w' → CellsAt w' (cutP p c 0 2) ((heldCells vs L).take (i * 2)) := fun w' hx => by
    have := cells_cut (hcells.ext hx) (c := c) (j := 0) (fun e => by
      have : L.length = 0 := by omega
      have : (heldCells vs L).length = 0 := by rw [heldCells_length hvl]; omega
      rw [List.eq_nil_of_length_eq_zero this]; rfl)
    rw [Nat.zero_mul, List.drop_zero] at this
    exact this.take _
  have hpren : cutP p c 0 2 = none → i = 0 := fun e => by have := hpn (cutP_none e); omega
  have hpre1 : ∀ u ∈ (heldCells vs L).take (i * 2), u.oneCell' = true := fun u hu => hone u (List.mem_of_mem_take hu)
  have hbox1 : ∀ u ∈ [Value.int .i64 k, .slice pv lv cv], u.oneCell' = true := by
    intro u hu
    simp only [List.mem_cons, List.not_mem_nil, or_false] at hu
    rcases hu with rfl | rfl <;> rfl
  have box : ∀ {w' : World} {kk : Nat} {e : TypeId} {fz : Nat × Nat}, w'.heap[kk]? = some (.cells #[.int .i64 k, .slice pv lv cv] e fz) → CellsAt w' (some (at0 kk)) [.int .i64 k, .slice pv lv cv] := fun h => box_cells h
  -- the end
  have fin0 : ∀ j, i ≤ j → j ≤ L.length → ins k bs L = L.take i ++ (k, bs) :: L.drop j → ∀ w' p' n' c', Ext w5 w' → OwnS w' w5.heap.size 109 2 p' n' c' ([] ++ (heldCells vs L).take (i * 2) ++ [.int .i64 k, .slice pv lv cv] ++ (heldCells vs L).drop (j * 2)) →
      ∃ p'' l'' c'', Value.slice p' n' c' = .slice p'' l'' c'' ∧ Ext w w' ∧ RefL w' (fun x => G x ∨ (w.heap.size ≤ x ∧ x < w'.heap.size)) p'' l'' c'' (ins k bs L) := by
    intro j hij hj hins w' p' n' c' hx ho
    have xw := x5.trans hx
    rw [heldCells_take i hvl, heldCells_drop j hvl] at ho
    have e1 : [] ++ heldCells (vs.take i) (L.take i) ++ [.int .i64 k, .slice pv lv cv] ++ heldCells (vs.drop j) (L.drop j) = heldCells (vs.take i ++ .slice pv lv cv :: vs.drop j) (L.take i ++ (k, bs) :: L.drop j) := by
      rw [heldCells_app (by simp [hvl]), List.nil_append, List.append_assoc]; rfl
    rw [e1] at ho
    have hup : ∀ v (b : List UInt8), SliceVal G w v b → SliceVal (fun x => G x ∨ (w.heap.size ≤ x ∧ x < w'.heap.size)) w' v b := fun v b hv => (hv.upd xw fun _ _ h => h).mono fun x hx => .inl hx
    have hlenx : n' = (ins k bs L).length := by
      have := ho.length
      rw [heldCells_length (by simp [hvl])] at this
      rw [hins]; omega
    refine ⟨p', n', c', rfl, xw, hlenx, ?_, ?_, ?_, vs.take i ++ .slice pv lv cv :: vs.drop j, ?_, ?_⟩
    · rcases ho.where_ with ⟨_, h0, h1⟩ | ⟨g, _, _, _, h1, _⟩
      · omega
      · exact h1
    · intro h0
      rcases ho.where_ with ⟨_, h1, _⟩ | ⟨g, h1, _⟩
      · exact h1
      · rw [h0] at h1; cases h1
    · intro a hpa
      rcases ho.where_ with ⟨h1, _⟩ | ⟨g, h1, hge, hlt, _⟩
      · rw [h1] at hpa; cases hpa
      · rw [h1] at hpa; cases hpa
        exact .inr ⟨Nat.le_trans x5.size hge, hlt⟩
    · rw [hins]
      exact (all2_imp (all2_take hvs i) fun v x hv => hup v x.2 hv).append (.cons (hup _ _ hv) (all2_imp (all2_drop hvs j) fun v x hv => hup v x.2 hv))
    · rw [hins]
      exact ho.cells
  refine condB_join (Q := i = l ∨ ∃ x, L[i]? = some x ∧ k ≤ x.1) (fun hlt hX => ?_) (fun hge => ?_) (fun hexit => ?_)
  · simp only [decide_eq_true_eq] at hlt
    obtain ⟨x, hxi⟩ : ∃ x, L[i]? = some x := ⟨L[i]'(by omega), List.getElem?_eq_getElem _⟩
    obtain ⟨a, rfl, hc⟩ := cellK i x hxi w25 x25
    rw [Int.toNat_natCast]
    refine ⟨⟨by omega, hlt⟩, _, hc, k, (row w25 x25).1, condB_of (fun hk => ?_) (fun hk => ?_)⟩
    · simp only [decide_eq_true_eq] at hk
      rw [w64 (by omega)]
      refine ⟨⟨i + 1, by omega, by omega, x25, fun y hy => ?_⟩, by show 4096 - ((i : Int) + 1).toNat < 4096 - (i : Int).toNat; omega⟩
      rw [List.take_add_one, hxi] at hy
      rcases List.mem_append.1 hy with hy | hy
      · exact hlo y hy
      · simp at hy; subst hy; exact hk
    · simp only [decide_eq_false_iff_not] at hk
      exact hX (.inr ⟨x, hxi, by omega⟩)
  · simp only [decide_eq_false_iff_not] at hge
    exact .inl (by omega)
  refine ⟨⟨by omega, by omega⟩, ?_⟩
  intro w29 d29
  have x29 := x25.trans d29.ext
  simp only [Int.toNat_natCast, Nat.sub_zero]
  refine condB_join (Q := ∀ y ∈ L.drop i, k < y.1) (fun hlt hX => ?_) (fun hge => ?_) (fun hrestk => ?_)
  · simp only [decide_eq_true_eq] at hlt
    obtain ⟨x, hxi⟩ : ∃ x, L[i]? = some x := ⟨L[i]'(by omega), List.getElem?_eq_getElem _⟩
    have hkx : k ≤ x.1 := by
      rcases hexit with h0 | ⟨x', hx', hk⟩
      · omega
      · rw [hxi] at hx'; cases hx'; exact hk
    obtain ⟨a, hpa, hc⟩ := cellK i x hxi w29 x29
    have hci : ¬ c = i := by omega
    have hcut : cutP p c i 2 = some (a.add (i * 2)) := by rw [hpa]; unfold cutP; rw [if_neg hci]; rfl
    refine ⟨⟨by omega, by omega⟩, nilM_of hcut ?_⟩
    refine ⟨_, hc, k, (row w29 x29).1, condB_of (fun hk => ?_) (fun hk => ?_)⟩
    · simp only [decide_eq_true_eq] at hk
      refine ⟨⟨by omega, by omega⟩, ?_⟩
      intro w33 d33
      have x33 := x29.trans d33.ext
      refine ⟨⟨by omega, by omega⟩, k, (row w33 x33).1, pv, lv, cv, (row w33 x33).2, ?_⟩
      have hlt' : i < L.length := (List.getElem?_eq_some_iff.1 hxi).1
      have hins : ins k bs L = L.take i ++ (k, bs) :: L.drop (i + 1) := by
        have e : L = L.take i ++ [x] ++ L.drop (i + 1) := by
          rw [List.append_assoc]
          have : L[i] = x := (List.getElem?_eq_some_iff.1 hxi).2
          rw [← this, List.singleton_append, ← List.drop_eq_getElem_cons hlt', List.take_append_drop]
        conv => lhs; rw [e]
        exact ins_of hlo (fun y hy => by simp at hy; subst hy; exact hk) (asc_split ha hxi hkx)
      have fin := fin0 (i + 1) (by omega) (by omega) hins
      have hrestl : ((heldCells vs L).drop ((i + 1) * 2)).length = (l - i - 1) * 2 := by rw [List.length_drop, heldCells_length hvl]; omega
      have hrest : ∀ w', Ext w w' → CellsAt w' (cutP (cutP p c i 2) (c - i) 1 2) ((heldCells vs L).drop ((i + 1) * 2)) := fun w' hx => by
        have h1 := cells_cut (hcells.ext hx) (c := c) (j := i) (fun e => by omega)
        have h2 := cells_cut h1 (c := c - i) (j := 1) (fun e => by
          apply List.eq_nil_of_length_eq_zero
          rw [List.length_drop, List.length_drop, heldCells_length hvl]; omega)
        rw [List.drop_drop] at h2
        rw [show (i + 1) * 2 = i * 2 + 1 * 2 by omega]
        exact h2
      have hrestn : cutP (cutP p c i 2) (c - i) 1 2 = none → l - i - 1 = 0 := fun e => by have := hpn (cutP_none (cutP_none e)); omega
      have hrest1 : ∀ u ∈ (heldCells vs L).drop ((i + 1) * 2), u.oneCell' = true := fun u hu => hone u (List.mem_of_mem_drop hu)
      refine ⟨fun k50 w51 hk50 => ?_, fun k36 w37 hk36 w39' w39 hk38 => ?_⟩
      · have x51 := x33.trans hk50.ext
        have own51 : OwnS w51 w5.heap.size 109 2 (some (at0 k50)) 0 0 [] := OwnS.made hk50 (by rw [hk50.size.1]; exact x33.size) (Nat.le_refl _) (by unfold maxLen; omega) rfl
        refine ⟨st _ x51, ?_, fun k54 w55 hk54 => ?_⟩
        · obtain ⟨p1', c1', w64, r64, own64, x64, _⟩ := own_app x51 own51 (q := cutP p c 0 2) (m := i) (d := c) hprel (hpre _ (x5.trans x51)) hpren hpre1 (by omega)
          refine ⟨_, _, _, _, r64, st _ x64, fun k68 w69 hk68 => ?_⟩
          obtain ⟨p2', c2', w70, r70, own70, x70, _⟩ := own_app (x64.trans hk68.ext) (own64.ext hk68.ext) (q := some (at0 k68)) (m := 1) (d := 1) rfl (box hk68.at) (fun h => by cases h) hbox1 (by omega)
          refine ⟨_, _, _, _, r70, ?_⟩
          obtain ⟨p3', c3', w72, r72, own72, x72, _⟩ := own_app x70 own70 (q := cutP (cutP p c i 2) (c - i) 1 2) (m := l - i - 1) (d := c - i - 1) (hrestl) (hrest _ (x5.trans x70)) hrestn hrest1 (by omega)
          exact ⟨_, _, _, _, r72, fin _ _ _ _ x72 own72⟩
        · have x55 := x51.trans hk54.ext
          obtain ⟨p1', c1', w56, r56, own56, x56, u56⟩ := own_app x55 (own51.ext hk54.ext) (q := cutP p c 0 2) (m := i) (d := c) hprel (hpre _ (x5.trans x55)) hpren hpre1 (by omega)
          refine ⟨_, _, _, _, r56, st _ x56, ?_⟩
          have hb54 := u56.keep hk54.at (by intro e; simp only [Option.some.injEq, at0, Addr.mk.injEq, and_true] at e; have := hk54.size.1; have := hk50.size; omega)
          obtain ⟨p2', c2', w60, r60, own60, x60, _⟩ := own_app x56 own56 (q := some (at0 k54)) (m := 1) (d := 1) rfl (box hb54) (fun h => by cases h) hbox1 (by omega)
          refine ⟨_, _, _, _, r60, ?_⟩
          obtain ⟨p3', c3', w62, r62, own62, x62, _⟩ := own_app x60 own60 (q := cutP (cutP p c i 2) (c - i) 1 2) (m := l - i - 1) (d := c - i - 1) (hrestl) (hrest _ (x5.trans x60)) hrestn hrest1 (by omega)
          exact ⟨_, _, _, _, r62, fin _ _ _ _ x62 own62⟩
      · have x37 := x33.trans hk36.ext
        have x39 := x37.trans hk38.ext
        have own39 : OwnS w39 w5.heap.size 109 2 (some (at0 w39')) 0 0 [] := OwnS.made hk38 (by rw [hk38.size.1]; exact x37.size) (Nat.le_refl _) (by unfold maxLen; omega) rfl
        obtain ⟨p1', c1', w42, r42, own42, x42, u42⟩ := own_app x39 own39 (q := cutP p c 0 2) (m := i) (d := c) hprel (hpre _ (x5.trans x39)) hpren hpre1 (by omega)
        refine ⟨st _ x39, _, _, _, _, r42, st _ x42, ?_⟩
        have hb36 := u42.keep (hk38.ext.keep hk36.at) (by intro e; simp only [Option.some.injEq, at0, Addr.mk.injEq, and_true] at e; have := hk36.size; have := hk38.size.1; omega)
        obtain ⟨p2', c2', w46, r46, own46, x46, _⟩ := own_app x42 own42 (q := some (at0 k36)) (m := 1) (d := 1) rfl (box hb36) (fun h => by cases h) hbox1 (by omega)
        refine ⟨_, _, _, _, r46, ?_⟩
        obtain ⟨p3', c3', w48, r48, own48, x48, _⟩ := own_app x46 own46 (q := cutP (cutP p c i 2) (c - i) 1 2) (m := l - i - 1) (d := c - i - 1) (hrestl) (hrest _ (x5.trans x46)) hrestn hrest1 (by omega)
        exact ⟨_, _, _, _, r48, fin _ _ _ _ x48 own48⟩
    · simp only [decide_eq_false_iff_not] at hk
      refine hX fun y hy => ?_
      have hlt' : i < L.length := (List.getElem?_eq_some_iff.1 hxi).1
      have hxe : L[i] = x := (List.getElem?_eq_some_iff.1 hxi).2
      rw [List.drop_eq_getElem_cons hlt', hxe] at hy
      rcases List.mem_cons.1 hy with rfl | hy
      · omega
      · exact asc_split ha hxi hkx y hy
  · simp only [decide_eq_false_iff_not] at hge
    have : L.drop i = [] := List.drop_eq_nil_of_le (by omega)
    rw [this]
    intro y hy; cases hy
  · intro w33 d33
    have x33 := x29.trans d33.ext
    refine ⟨⟨by omega, by omega⟩, k, (row w33 x33).1, pv, lv, cv, (row w33 x33).2, ?_⟩
    have hins : ins k bs L = L.take i ++ (k, bs) :: L.drop i := by
      have e : L = L.take i ++ [] ++ L.drop i := by simp
      conv => lhs; rw [e]
      exact ins_of hlo (fun y hy => by cases hy) hrestk
    have fin := fin0 i (Nat.le_refl _) (by omega) hins
    have hrestl : ((heldCells vs L).drop (i * 2)).length = (l - i) * 2 := by rw [List.length_drop, heldCells_length hvl]; omega
    have hrest : ∀ w', Ext w w' → CellsAt w' (cutP p c i 2) ((heldCells vs L).drop (i * 2)) := fun w' hx =>
      cells_cut (hcells.ext hx) (c := c) (j := i) (fun e => by
        apply List.eq_nil_of_length_eq_zero
        rw [List.length_drop, heldCells_length hvl]; omega)
    have hrestn : cutP p c i 2 = none → l - i = 0 := fun e => by have := hpn (cutP_none e); omega
    have hrest1 : ∀ u ∈ (heldCells vs L).drop (i * 2), u.oneCell' = true := fun u hu => hone u (List.mem_of_mem_drop hu)
    refine ⟨fun k50 w51 hk50 => ?_, fun k36 w37 hk36 w39' w39 hk38 => ?_⟩
    · have x51 := x33.trans hk50.ext
      have own51 : OwnS w51 w5.heap.size 109 2 (some (at0 k50)) 0 0 [] := OwnS.made hk50 (by rw [hk50.size.1]; exact x33.size) (Nat.le_refl _) (by unfold maxLen; omega) rfl
      refine ⟨st _ x51, ?_, fun k54 w55 hk54 => ?_⟩
      · obtain ⟨p1', c1', w64, r64, own64, x64, _⟩ := own_app x51 own51 (q := cutP p c 0 2) (m := i) (d := c) hprel (hpre _ (x5.trans x51)) hpren hpre1 (by omega)
        refine ⟨_, _, _, _, r64, st _ x64, fun k68 w69 hk68 => ?_⟩
        obtain ⟨p2', c2', w70, r70, own70, x70, _⟩ := own_app (x64.trans hk68.ext) (own64.ext hk68.ext) (q := some (at0 k68)) (m := 1) (d := 1) rfl (box hk68.at) (fun h => by cases h) hbox1 (by omega)
        refine ⟨_, _, _, _, r70, ?_⟩
        obtain ⟨p3', c3', w72, r72, own72, x72, _⟩ := own_app x70 own70 (q := cutP p c i 2) (m := l - i) (d := c - i) (hrestl) (hrest _ (x5.trans x70)) hrestn hrest1 (by omega)
        exact ⟨_, _, _, _, r72, fin _ _ _ _ x72 own72⟩
      · have x55 := x51.trans hk54.ext
        obtain ⟨p1', c1', w56, r56, own56, x56, u56⟩ := own_app x55 (own51.ext hk54.ext) (q := cutP p c 0 2) (m := i) (d := c) hprel (hpre _ (x5.trans x55)) hpren hpre1 (by omega)
        refine ⟨_, _, _, _, r56, st _ x56, ?_⟩
        have hb54 := u56.keep hk54.at (by intro e; simp only [Option.some.injEq, at0, Addr.mk.injEq, and_true] at e; have := hk54.size.1; have := hk50.size; omega)
        obtain ⟨p2', c2', w60, r60, own60, x60, _⟩ := own_app x56 own56 (q := some (at0 k54)) (m := 1) (d := 1) rfl (box hb54) (fun h => by cases h) hbox1 (by omega)
        refine ⟨_, _, _, _, r60, ?_⟩
        obtain ⟨p3', c3', w62, r62, own62, x62, _⟩ := own_app x60 own60 (q := cutP p c i 2) (m := l - i) (d := c - i) (hrestl) (hrest _ (x5.trans x60)) hrestn hrest1 (by omega)
        exact ⟨_, _, _, _, r62, fin _ _ _ _ x62 own62⟩
    · have x37 := x33.trans hk36.ext
      have x39 := x37.trans hk38.ext
      have own39 : OwnS w39 w5.heap.size 109 2 (some (at0 w39')) 0 0 [] := OwnS.made hk38 (by rw [hk38.size.1]; exact x37.size) (Nat.le_refl _) (by unfold maxLen; omega) rfl
      obtain ⟨p1', c1', w42, r42, own42, x42, u42⟩ := own_app x39 own39 (q := cutP p c 0 2) (m := i) (d := c) hprel (hpre _ (x5.trans x39)) hpren hpre1 (by omega)
      refine ⟨st _ x39, _, _, _, _, r42, st _ x42, ?_⟩
      have hb36 := u42.keep (hk38.ext.keep hk36.at) (by intro e; simp only [Option.some.injEq, at0, Addr.mk.injEq, and_true] at e; have := hk36.size; have := hk38.size.1; omega)
      obtain ⟨p2', c2', w46, r46, own46, x46, _⟩ := own_app x42 own42 (q := some (at0 k36)) (m := 1) (d := 1) rfl (box hb36) (fun h => by cases h) hbox1 (by omega)
      refine ⟨_, _, _, _, r46, ?_⟩
      obtain ⟨p3', c3', w48, r48, own48, x48, _⟩ := own_app x46 own46 (q := cutP p c i 2) (m := l - i) (d := c - i) (hrestl) (hrest _ (x5.trans x46)) hrestn hrest1 (by omega)
      exact ⟨_, _, _, _, r48, fin _ _ _ _ x48 own48⟩
end Go.Proofs.YtenfnapoigafmaaGreat

/- The document's disk: what it is, and its plain calls. -/
namespace Go.Proofs.YtenfnapoigafmaaGreat
open Go Go.Vc

theorem cellN {w w' : World} {a : Addr} {v : Value} (h : w.cell? a = some v) (hu : Ext w w') : w'.cell? a = some v := Upd.cell hu h id

theorem RefL.upd {S G : Nat → Prop} {w w' : World} {p : Option Addr} {l c : Nat} {L : SM} (h : RefL w G p l c L) (hu : Upd S w w') (hS : ∀ x, G x → ¬ S x) : RefL w' G p l c L := by
  obtain ⟨h1, h2, h3, h4, vs, h5, h6⟩ := h
  exact ⟨h1, h2, h3, h4, vs, all2_imp h5 fun v x hv => hv.upd hu hS, h6.upd hu fun a ha _ => hS _ (h4 a ha)⟩
theorem RefL.ext {G : Nat → Prop} {w w' : World} {p : Option Addr} {l c : Nat} {L : SM} (h : RefL w G p l c L) (hu : Ext w w') : RefL w' G p l c L := h.upd hu fun _ _ h => h
theorem RefL.mono {G G' : Nat → Prop} {w : World} {p : Option Addr} {l c : Nat} {L : SM} (h : RefL w G p l c L) (hG : ∀ x, G x → G' x) : RefL w G' p l c L := by
  obtain ⟨h1, h2, h3, h4, vs, h5, h6⟩ := h
  exact ⟨h1, h2, h3, fun a ha => hG _ (h4 a ha), vs, all2_imp h5 fun v x hv => hv.mono hG, h6⟩
theorem RefL.nil (w : World) (G : Nat → Prop) : RefL w G none 0 0 [] := ⟨rfl, Nat.le_refl _, fun _ => rfl, fun a h => (by cases h), [], .nil, CellsAt.nil _ _⟩
theorem RefL.at {G : Nat → Prop} {w : World} {p : Option Addr} {l c : Nat} {L : SM} (h : RefL w G p l c L) {i : Nat} {x : Int × List UInt8} (hx : L[i]? = some x) :
    ∃ a q n c', p = some a ∧ w.cell? (a.add (i * 2)) = some (.int .i64 x.1) ∧ w.cell? ((a.add (i * 2)).add 0) = some (.int .i64 x.1) ∧ w.cell? ((a.add (i * 2)).add 1) = some (.slice q n c') ∧ SliceVal G w (.slice q n c') x.2 := by
  obtain ⟨h1, h2, h3, h4, vs, h5, h6⟩ := h
  obtain ⟨v, hv, hs⟩ := all2_at h5 hx
  obtain ⟨c1, c2⟩ := heldCells_at hv hx
  obtain ⟨a, ha, e1⟩ := h6 _ _ c1
  obtain ⟨a', ha', e2⟩ := h6 _ _ c2
  rw [ha] at ha'
  cases ha'
  have hs' := hs
  obtain ⟨q, n, c', rfl, _⟩ := hs
  exact ⟨a, q, n, c', ha, by rw [Nat.mul_comm]; exact e1, by rw [add_add, Nat.add_zero, Nat.mul_comm]; exact e1, by rw [add_add, Nat.mul_comm]; exact e2, hs'⟩
theorem RefL.read {G : Nat → Prop} {w : World} {p : Option Addr} {l c : Nat} {L : SM} (h : RefL w G p l c L) (hl : L.length ≤ 4096) : HeldR w p l L := by
  refine ⟨h.1, by rw [h.1]; exact hl, fun i x hi => ?_⟩
  obtain ⟨a, q, n, c', hp, _, h1, h2, q', n', c'', he, hb, _, hn, _⟩ := h.at hi
  cases he
  exact ⟨a, q, n, c', hp, h1, h2, hb, hn⟩

/-- the document's disk: its fields' block, and the blocks of its lists -/
def IsRef (w : World) (b : Nat) (D : Dk) (G : Nat → Prop) : Prop :=
  ∃ pL lL cL pW lW cW, RowW w b #[.int .i64 D.sectors, .slice pL lL cL, .slice pW lW cW, .bool D.dead] ∧ RefL w G pL lL cL D.lasts ∧ RefL w G pW lW cW D.waits ∧ Asc D.lasts ∧ Asc D.waits ∧ ¬ G b ∧ ∀ x, G x → x < w.heap.size

theorem IsRef.upd {S G : Nat → Prop} {w w' : World} {b : Nat} {D : Dk} (h : IsRef w b D G) (hu : Upd S w w') (hS : ∀ x, S x → ¬ (x = b ∨ G x)) : IsRef w' b D G := by
  obtain ⟨pL, lL, cL, pW, lW, cW, h1, h2, h3, h4, h5, h6, h7⟩ := h
  have hG : ∀ x, G x → ¬ S x := fun x hx hs => hS x hs (.inr hx)
  exact ⟨pL, lL, cL, pW, lW, cW, hu.rowW h1 fun hs => hS _ hs (.inl rfl), h2.upd hu hG, h3.upd hu hG, h4, h5, h6, fun x hx => Nat.lt_of_lt_of_le (h7 x hx) hu.size⟩
theorem IsRef.ext {G : Nat → Prop} {w w' : World} {b : Nat} {D : Dk} (h : IsRef w b D G) (hu : Ext w w') : IsRef w' b D G := h.upd hu fun _ h => h.elim
theorem IsRef.lt {G : Nat → Prop} {w : World} {b : Nat} {D : Dk} (h : IsRef w b D G) : b < w.heap.size := by
  obtain ⟨_, _, _, _, _, _, h1, _⟩ := h
  exact h1.lt

theorem setc_upd {w w' : World} {b j : Nat} {v : Value} (h : SetC w ((at0 b).add j) v w') : Upd (fun x => x = b) w w' := by
  have := h.upd
  rw [add_at0] at this
  exact this

theorem IsRef.setW {w w1 w' : World} {b : Nat} {D : Dk} {G G' : Nat → Prop} (h : IsRef w b D G) (hx : Ext w w1) {p : Option Addr} {l c : Nat} {L : SM} (hL : RefL w1 G' p l c L) (hGG : ∀ x, G x → G' x) (hb : ¬ G' b) (hlt : ∀ x, G' x → x < w1.heap.size)
    (ha : Asc L) (hs : SetC w1 ((at0 b).add 2) (.slice p l c) w') : IsRef w' b { D with waits := L } G' ∧ Upd (fun x => x = b) w w' := by
  obtain ⟨pL, lL, cL, pW, lW, cW, h1, h2, h3, h4, h5, h6, h7⟩ := h
  have hu := setc_upd hs
  have hG : ∀ x, G' x → ¬ (x = b) := by rintro x hx rfl; exact hb hx
  refine ⟨⟨pL, lL, cL, p, l, c, hs.row (hx.rowW h1 id), ((h2.ext hx).mono hGG).upd hu hG, hL.upd hu hG, h4, ha, hb, fun x hx => Nat.lt_of_lt_of_le (hlt x hx) hu.size⟩, ?_⟩
  exact Upd.trans (hx.upd (S := fun x => x = b)) hu fun _ _ h => h
theorem IsRef.setL {w w1 w' : World} {b : Nat} {D : Dk} {G G' : Nat → Prop} (h : IsRef w b D G) (hx : Ext w w1) {p : Option Addr} {l c : Nat} {L : SM} (hL : RefL w1 G' p l c L) (hGG : ∀ x, G x → G' x) (hb : ¬ G' b) (hlt : ∀ x, G' x → x < w1.heap.size)
    (ha : Asc L) (hs : SetC w1 ((at0 b).add 1) (.slice p l c) w') : IsRef w' b { D with lasts := L } G' ∧ Upd (fun x => x = b) w w' := by
  obtain ⟨pL, lL, cL, pW, lW, cW, h1, h2, h3, h4, h5, h6, h7⟩ := h
  have hu := setc_upd hs
  have hG : ∀ x, G' x → ¬ (x = b) := by rintro x hx rfl; exact hb hx
  refine ⟨⟨p, l, c, pW, lW, cW, hs.row (hx.rowW h1 id), hL.upd hu hG, ((h3.ext hx).mono hGG).upd hu hG, ha, h5, hb, fun x hx => Nat.lt_of_lt_of_le (hlt x hx) hu.size⟩, ?_⟩
  exact Upd.trans (hx.upd (S := fun x => x = b)) hu fun _ _ h => h

theorem rnew_bad {n : Int} (h : n < 1 ∨ 4096 < n) (w : World) : Calls Tryz.prog 15 #[.int .i64 n] w fun e w' => e = .returned (.tuple #[.pointer none, .int .i64 1]) ∧ w' = w := by
  refine (F15_calls n w (fun v w' => v = .tuple #[.pointer none, .int .i64 1] ∧ w' = w) ?_).mono (by rintro e w' ⟨v, rfl, rfl, h⟩; exact ⟨rfl, h⟩)
  refine condB_of (fun _ => ⟨rfl, rfl⟩) (fun h1 => condB_of (fun _ => ⟨rfl, rfl⟩) (fun h2 => ?_))
  simp only [decide_eq_false_iff_not] at h1 h2
  omega
theorem rnew_good {n : Int} (h : 1 ≤ n ∧ n ≤ 4096) (w : World) : Calls Tryz.prog 15 #[.int .i64 n] w fun e w' => ∃ b, e = .returned (.tuple #[.pointer (some (at0 b)), .int .i64 0]) ∧ Ext w w' ∧ IsRef w' b ⟨n, [], [], false⟩ (fun _ => False) ∧ w.heap.size ≤ b := by
  refine (F15_calls n w (fun v w' => ∃ b, v = .tuple #[.pointer (some (at0 b)), .int .i64 0] ∧ Ext w w' ∧ IsRef w' b ⟨n, [], [], false⟩ (fun _ => False) ∧ w.heap.size ≤ b) ?_).mono (by rintro e w' ⟨v, rfl, b, rfl, h⟩; exact ⟨b, rfl, h⟩)
  refine condB_of (fun h1 => ?_) (fun h1 => condB_of (fun h2 => ?_) (fun h2 => ?_))
  · simp only [decide_eq_true_eq] at h1; omega
  · simp only [decide_eq_true_eq] at h2; omega
  intro k w3 hk
  exact ⟨k, rfl, hk.ext, ⟨none, 0, 0, none, 0, 0, ⟨_, hk.at⟩, RefL.nil _ _, RefL.nil _ _, List.Pairwise.nil, List.Pairwise.nil, id, fun x h => h.elim⟩, by rw [hk.size.1]; exact Nat.le_refl _⟩

theorem rfault_spec {w : World} {b : Nat} {D : Dk} {G : Nat → Prop} (h : IsRef w b D G) (k : Int) : Calls Tryz.prog 90 #[.pointer (some (at0 b)), .int .i64 k] w fun e w' => e = .returned (.int .i64 (faultZ D.dead D.sectors k)) ∧ w' = w := by
  obtain ⟨pL, lL, cL, pW, lW, cW, h1, _⟩ := h
  refine (F90_calls (some (at0 b)) k w (fun v w' => v = .int .i64 (faultZ D.dead D.sectors k) ∧ w' = w) ?_).mono (by rintro e w' ⟨v, rfl, rfl, h⟩; exact ⟨rfl, h⟩)
  refine ⟨D.dead, h1.row.cell rfl, ?_⟩
  unfold faultZ
  refine condB_of (fun hd => ⟨by rw [if_pos hd], rfl⟩) (fun hd => ?_)
  rw [if_neg (by simp [hd])]
  refine condB_of (fun h2 => ⟨?_, rfl⟩) (fun h2 => ⟨_, h1.row.cell rfl, condB_of (fun h3 => ⟨?_, rfl⟩) (fun h3 => ⟨?_, rfl⟩)⟩)
  · simp only [decide_eq_true_eq] at h2
    rw [if_pos (.inl h2)]
  · simp only [decide_eq_true_eq] at h3
    rw [if_pos (.inr h3)]
  · simp only [decide_eq_false_iff_not] at h2 h3
    rw [if_neg (by omega)]

theorem rfind_spec {w : World} {G : Nat → Prop} {p : Option Addr} {l c : Nat} {L : SM} (h : RefL w G p l c L) (hlen : L.length ≤ 4096) (k : Int) :
    Calls Tryz.prog 93 #[.slice p l c, .int .i64 k] w fun e w' => Ext w w' ∧ ((∃ (i : Nat) (bs : List UInt8), e = .returned (.int .i64 (i : Int)) ∧ L[i]? = some (k, bs) ∧ get k L = some bs) ∨ (e = .returned (.int .i64 (-1)) ∧ get k L = none)) := by
  refine (F93_calls p l c k w (fun v w' => Ext w w' ∧ ((∃ (i : Nat) (bs : List UInt8), v = .int .i64 (i : Int) ∧ L[i]? = some (k, bs) ∧ get k L = some bs) ∨ (v = .int .i64 (-1) ∧ get k L = none)))
    (fun _ n w4 => ∃ i : Nat, n = i ∧ i ≤ l ∧ Ext w w4 ∧ get k (L.take i) = none) (fun _ n _ => 4096 - n.toNat) ?_).mono (by
      rintro e w' ⟨v, rfl, hx, ⟨i, bs, rfl, h⟩ | ⟨rfl, h⟩⟩
      · exact ⟨hx, .inl ⟨i, bs, rfl, h⟩⟩
      · exact ⟨hx, .inr ⟨rfl, h⟩⟩)
  have hl := h.1
  refine ⟨⟨0, rfl, Nat.zero_le _, Upd.refl _ _, by simp [Vc.get]⟩, ?_⟩
  rintro n w4 ⟨i, rfl, hi, hx4, hno⟩
  intros
  refine condB_of (fun hlt => ?_) (fun hge => ?_)
  · simp only [decide_eq_true_eq] at hlt
    obtain ⟨x, hxi⟩ : ∃ x, L[i]? = some x := ⟨L[i]'(by omega), List.getElem?_eq_getElem _⟩
    obtain ⟨a, q, nn, cc, rfl, _, ca, _⟩ := (h.ext hx4).at hxi
    rw [Int.toNat_natCast]
    refine ⟨⟨by omega, hlt⟩, _, ca, condB_of (fun hk => ?_) (fun hk => ?_)⟩
    · simp only [decide_eq_true_eq] at hk
      refine ⟨hx4, .inl ⟨i, x.2, rfl, ?_, ?_⟩⟩
      · rw [hxi, ← hk]
      · have e : L = L.take i ++ L.drop i := (List.take_append_drop i L).symm
        have hlt2 : i < L.length := by omega
        rw [e, get_append, hno, List.drop_eq_getElem_cons hlt2]
        have : L[i] = x := (List.getElem?_eq_some_iff.1 hxi).2
        rw [this]
        obtain ⟨u, v⟩ := x
        simp only [Vc.get]
        rw [if_pos hk]; rfl
    · simp only [decide_eq_false_iff_not] at hk
      rw [w64 (by omega)]
      refine ⟨⟨i + 1, by omega, by omega, hx4, ?_⟩, by show 4096 - ((i : Int) + 1).toNat < 4096 - (i : Int).toNat; omega⟩
      rw [List.take_add_one, hxi, get_append, hno]
      obtain ⟨u, v⟩ := x
      simp only [Option.toList_some, Vc.get]
      rw [if_neg hk]; rfl
  · simp only [decide_eq_false_iff_not] at hge
    have e1 : L.take i = L := List.take_of_length_le (by omega)
    rw [e1] at hno
    exact ⟨hx4, .inr ⟨rfl, hno⟩⟩

theorem bytes_none {w : World} {p : Option Addr} {l : Nat} {bs : List UInt8} (h : BytesAt w p l bs) : p = none → l = 0 := by
  intro hp
  cases bs with
  | nil => rw [h.1]; rfl
  | cons b bs =>
    obtain ⟨a, ha, _⟩ := h.2 (by simp)
    rw [hp] at ha; cases ha

theorem dup_app {w w1 : World} {k : Nat} (hk : NewB w k (.cells #[] 5) w1) {p : Option Addr} {l c : Nat} {bs : List UInt8} (hb : BytesAt w p l bs) (hl : l ≤ 4300) :
    ∃ p' c' w', Sem.run Tryz.prog (Builtin.append_ #[32, 32] 32 #[.slice (some (at0 k)) 0 0, .slice p l c]) w1 = .ok (.slice p' l c') w' ∧ Ext w w' ∧ OwnS w' w.heap.size 5 1 p' l c' (encB bs) := by
  have hll := hb.1
  have hs := hk.size
  have own : OwnS w1 w.heap.size 5 1 (some (at0 k)) 0 0 [] := OwnS.made hk (by rw [hs.1]; exact Nat.le_refl _) (Nat.le_refl _) (by unfold maxLen; omega) rfl
  obtain ⟨p', c', w', hr, ho, hu, _⟩ := own.append elemB 32 (q := p) (m := l) (d := c) (news := encB bs) (by rw [encB_length]; omega) ((hb.ext hk.ext).cells) (bytes_none hb)
    (encB_one bs) (by unfold maxLen; omega) (by omega) (by omega)
  rw [Nat.zero_add] at hr ho
  rw [List.nil_append] at ho
  refine ⟨p', c', w', hr, ?_, ho⟩
  refine Upd.trans hk.ext hu fun x hx hs' => ?_
  simp only [Option.some.injEq, at0, Addr.mk.injEq, and_true] at hs'
  omega

theorem own_val {w w' : World} {base : Nat} {p : Option Addr} {l c : Nat} {bs : List UInt8} (ho : OwnS w' base 5 1 p l c (encB bs)) (hb : w.heap.size ≤ base) (hne : bs ≠ []) (hl : bs.length ≤ 4108) :
    SliceVal (fun x => w.heap.size ≤ x ∧ x < w'.heap.size) w' (.slice p l c) bs := by
  have h1 := BytesAt.of_cells ho.cells
  have hlen := ho.length
  rw [encB_length, Nat.mul_one] at hlen
  rw [hlen] at h1
  refine ⟨p, l, c, rfl, h1, hne, by omega, fun a ha => ?_⟩
  rcases ho.where_ with ⟨h2, _⟩ | ⟨g, h2, hge, hlt, _⟩
  · rw [h2] at ha; cases ha
  · rw [h2] at ha; cases ha
    exact ⟨Nat.le_trans hb hge, hlt⟩
end Go.Proofs.YtenfnapoigafmaaGreat

/- The document's disk: writing, reading, flushing, crashing. -/
namespace Go.Proofs.YtenfnapoigafmaaGreat
open Go Go.Vc

/-- the blocks of lists behind a step -/
abbrev Gn (G : Nat → Prop) (n m : Nat) : Nat → Prop := fun x => G x ∨ (n ≤ x ∧ x < m)

theorem ref_len {D : Dk} (h : DkOk D) (h1 : Asc D.lasts) (h2 : Asc D.waits) : D.lasts.length ≤ 4096 ∧ D.waits.length ≤ 4096 := dk_len h ⟨h1, h2⟩

set_option maxHeartbeats 1000000 in
theorem rwrite_spec {w : World} {b : Nat} {D : Dk} {G : Nat → Prop} (h : IsRef w b D G) (hok : DkOk D) (k : Int) {p : Option Addr} {l c : Nat} {bs : List UInt8} (hb : BytesAt w p l bs) :
    Calls Tryz.prog 67 #[.pointer (some (at0 b)), .int .i64 k, .slice p l c] w fun e w' => ∃ G', e = .returned (.int .i64 (writeZ D k bs.length)) ∧ Upd (fun x => x = b) w w' ∧ IsRef w' b (writeD D k bs) G' ∧ Grows G G' w w' := by
  refine (F67_calls (some (at0 b)) k p l c w (fun v w' => ∃ G', v = .int .i64 (writeZ D k bs.length) ∧ Upd (fun x => x = b) w w' ∧ IsRef w' b (writeD D k bs) G' ∧ Grows G G' w w') ?_).mono (by rintro e w' ⟨v, rfl, G', rfl, h⟩; exact ⟨G', rfl, h⟩)
  have hl := hb.1
  refine (rfault_spec h k).mono ?_
  rintro e w4 ⟨rfl, rfl⟩
  have same : writeZ D k bs.length ≠ 0 → ∃ G', Value.int .i64 (writeZ D k bs.length) = .int .i64 (writeZ D k bs.length) ∧ Upd (fun x => x = b) w4 w4 ∧ IsRef w4 b (writeD D k bs) G' ∧ Grows G G' w4 w4 := fun hz =>
    ⟨G, rfl, Upd.refl _ _, by rw [write_no hz]; exact h, fun x hx => .inl hx⟩
  refine ⟨_, rfl, condB_of (fun hf => ?_) (fun hf => ?_)⟩
  · simp only [Bool.not_eq_true', decide_eq_false_iff_not] at hf
    have hz : writeZ D k bs.length = faultZ D.dead D.sectors k := by simp [writeZ, hf]
    rw [← hz]
    exact same (by rw [hz]; exact hf)
  simp only [Bool.not_eq_false', decide_eq_true_eq] at hf
  have bad : (bs.length < 1 ∨ 4108 < bs.length) → writeZ D k bs.length = 1 := fun hbad => by rw [writeZ, if_neg (by simp [hf]), if_pos hbad]
  refine condB_of (fun h1 => ?_) (fun h1 => condB_of (fun h2 => ?_) (fun h2 => ?_))
  · simp only [decide_eq_true_eq] at h1
    have := bad (by omega)
    have := same (by rw [this]; decide)
    rw [bad (by omega)] at this ⊢; exact this
  · simp only [decide_eq_true_eq] at h2
    have := bad (by omega)
    have := same (by rw [this]; decide)
    rw [bad (by omega)] at this ⊢; exact this
  simp only [decide_eq_false_iff_not] at h1 h2
  have hz : writeZ D k bs.length = 0 := by rw [writeZ, if_neg (by simp [hf]), if_neg (by omega)]
  have hne : bs ≠ [] := by rintro rfl; simp at hl; omega
  intro w7 hd
  obtain ⟨pL, lL, cL, pW, lW, cW, i1, i2, i3, i4, i5, i6, i7⟩ := h
  have hlen := ref_len hok i4 i5
  have x7 := hd.ext
  refine ⟨_, _, _, (x7.rowW i1 id).row.cell rfl, ?_⟩
  intro k10 w11 hk
  have x11 := x7.trans hk.ext
  obtain ⟨p14, c14, w13, hr, x13', own⟩ := dup_app hk (hb.ext x7) (c := c) (by omega)
  have x13 := x7.trans x13'
  refine ⟨⟨_, _, _, (x11.rowW i1 id).row.cell rfl, rfl⟩, p14, l, c14, w13, hr, ⟨_, _, _, (x13.rowW i1 id).row.cell rfl, rfl⟩, ?_⟩
  have hv : SliceVal (Gn G w4.heap.size w13.heap.size) w13 (.slice p14 l c14) bs := (own_val (w := w4) own x7.size hne (by omega)).mono fun x hx => .inr hx
  refine (with_spec ((i3.ext x13).mono (G' := Gn G w4.heap.size w13.heap.size) fun x hx => .inl hx) i5 hlen.2 k hv).mono ?_
  rintro e w16 ⟨p', l', c', rfl, x16', hL⟩
  have x16 := x13.trans x16'
  refine ⟨p', l', c', rfl, (x16.rowW i1 id).live (by simp), fun w20 hs => ?_⟩
  have hL' : RefL w16 (Gn G w4.heap.size w16.heap.size) p' l' c' (ins k bs D.waits) := hL.mono fun x hx => by
    have s1 := x13.size; have s2 := x16'.size
    rcases hx with (hx | hx) | hx
    · exact .inl hx
    · exact .inr ⟨hx.1, by omega⟩
    · exact .inr ⟨by omega, hx.2⟩
  have hbl := i1.lt
  have href : IsRef w4 b D G := ⟨pL, lL, cL, pW, lW, cW, i1, i2, i3, i4, i5, i6, i7⟩
  obtain ⟨r1, r2⟩ := href.setW x16 hL' (fun x hx => .inl hx) (fun hx => hx.elim i6 fun h => by omega) (by
    have s1 := x16.size
    rintro x (hx | hx)
    · have := i7 x hx; omega
    · exact hx.2) (ins_asc i5) hs
  refine ⟨Gn G w4.heap.size w16.heap.size, by rw [hz], r2, ?_, fun x hx => ?_⟩
  · rw [writeD, if_pos hz]; exact r1
  · rcases hx with hx | hx
    · exact .inl hx
    · exact .inr ⟨hx.1, by have := (setc_upd hs).size; omega⟩

theorem rread_own {w : World} {b : Nat} {D : Dk} {G : Nat → Prop} (h : IsRef w b D G) (hok : DkOk D) (k : Int) :
    Calls Tryz.prog 69 #[.pointer (some (at0 b)), .int .i64 k] w fun e w' => Ext w w' ∧ ∃ p l c bs, e = .returned (.tuple #[.slice p l c, .int .i64 (faultZ D.dead D.sectors k)]) ∧
      bs = (if faultZ D.dead D.sectors k = 0 then readD D k else []) ∧ BytesAt w' p l bs ∧ l ≤ 4108 ∧ OwnS w' w.heap.size 5 1 p l c (encB bs) := by
  refine (F69_calls (some (at0 b)) k w (fun v w' => Ext w w' ∧ ∃ p l c bs, v = .tuple #[.slice p l c, .int .i64 (faultZ D.dead D.sectors k)] ∧
      bs = (if faultZ D.dead D.sectors k = 0 then readD D k else []) ∧ BytesAt w' p l bs ∧ l ≤ 4108 ∧ OwnS w' w.heap.size 5 1 p l c (encB bs)) ?_).mono (by rintro e w' ⟨v, rfl, hx, p, l, c, bs, rfl, h⟩; exact ⟨hx, p, l, c, bs, rfl, h⟩)
  refine (rfault_spec h k).mono ?_
  rintro e w4 ⟨rfl, rfl⟩
  refine ⟨_, rfl, condB_of (fun hf => ?_) (fun hf => ?_)⟩
  · simp only [Bool.not_eq_true', decide_eq_false_iff_not] at hf
    exact ⟨Upd.refl _ _, none, 0, 0, [], rfl, by rw [if_neg hf], BytesAt.nil _ _, by omega, OwnS.nil _ _ _ _⟩
  simp only [Bool.not_eq_false', decide_eq_true_eq] at hf
  obtain ⟨pL, lL, cL, pW, lW, cW, i1, i2, i3, i4, i5, i6, i7⟩ := h
  have hlen := ref_len hok i4 i5
  refine ⟨_, _, _, i1.row.cell rfl, ?_⟩
  have done : ∀ {L : SM} {p : Option Addr} {l c : Nat} {i : Nat} {bs : List UInt8} {w8 : World}, RefL w8 G p l c L → L[i]? = some (k, bs) → readD D k = bs → Ext w4 w8 → ∀ (k11 : Nat) (w12 : World), NewB w8 k11 (.cells #[] 5) w12 →
      (0 ≤ (i : Int) ∧ (i : Int) < ((l : Nat) : Int)) ∧ (nilM p fun a15 => (∃ (p16 : Option Addr) (l16 c16 : Nat), w12.cell? ((a15.add ((i : Int).toNat * 2)).add 1) = some (.slice p16 l16 c16) ∧ (∃ (p18 : Option Addr) (l18 c18 : Nat), ∃ w17 : World,
        Sem.run Tryz.prog (Builtin.append_ #[32, 32] 32 #[.slice (some (at0 k11)) 0 0, .slice p16 l16 c16]) w12 = .ok (.slice p18 l18 c18) w17 ∧
        (Ext w4 w17 ∧ ∃ p l c bs, (Value.tuple #[.slice p18 l18 c18, .int .i64 (0 : Int)]) = .tuple #[.slice p l c, .int .i64 (faultZ D.dead D.sectors k)] ∧ bs = (if faultZ D.dead D.sectors k = 0 then readD D k else []) ∧ BytesAt w17 p l bs ∧ l ≤ 4108 ∧ OwnS w17 w4.heap.size 5 1 p l c (encB bs))))) := by
    intro L p l c i bs w8 hL hi hrd hx k11 w12 hk
    have hil : i < L.length := (List.getElem?_eq_some_iff.1 hi).1
    obtain ⟨a, q, n, c', rfl, _, _, hc, q', n', c'', he, hb, hne, hn, _⟩ := hL.at hi
    cases he
    refine ⟨⟨by omega, by have := hL.1; omega⟩, ?_⟩
    obtain ⟨p18, c18, w17, hr, x17, own⟩ := dup_app hk hb (c := c') (by omega)
    refine ⟨q, n, c', by rw [Int.toNat_natCast]; exact cellN hc hk.ext, p18, n, c18, w17, hr, hx.trans x17, p18, n, c18, bs, by rw [hf], by rw [if_pos hf, hrd], ?_, hn, own.base_le hx.size⟩
    have := BytesAt.of_cells own.cells
    rw [← hb.1] at this
    exact this
  refine (rfind_spec i3 hlen.2 k).mono ?_
  rintro e w8 ⟨x8, ⟨i, bs, rfl, hi, hg⟩ | ⟨rfl, hg⟩⟩
  · refine ⟨_, rfl, condB_of (fun _ k11 w12 hk => ?_) (fun h0 => by simp at h0)⟩
    exact ⟨_, _, _, ((x8.trans hk.ext).rowW i1 id).row.cell rfl, done (i3.ext x8) hi (by simp [readD, hg]) x8 k11 w12 hk⟩
  · refine ⟨_, rfl, condB_of (fun h0 => by simp at h0) (fun _ => ?_)⟩
    refine ⟨_, _, _, (x8.rowW i1 id).row.cell rfl, ?_⟩
    refine (rfind_spec (i2.ext x8) hlen.1 k).mono ?_
    rintro e w21 ⟨x21, ⟨i, bs, rfl, hi, hg2⟩ | ⟨rfl, hg2⟩⟩
    · refine ⟨_, rfl, condB_of (fun _ k11 w12 hk => ?_) (fun h0 => by simp at h0)⟩
      exact ⟨_, _, _, (((x8.trans x21).trans hk.ext).rowW i1 id).row.cell rfl, done (i2.ext (x8.trans x21)) hi (by simp [readD, hg, hg2]) (x8.trans x21) k11 w12 hk⟩
    · refine ⟨_, rfl, condB_of (fun h0 => by simp at h0) (fun _ => ?_)⟩
      exact ⟨x8.trans x21, none, 0, 0, [], by rw [hf], by rw [if_pos hf]; simp [readD, hg, hg2], BytesAt.nil _ _, by omega, OwnS.nil _ _ _ _⟩
theorem rread_spec {w : World} {b : Nat} {D : Dk} {G : Nat → Prop} (h : IsRef w b D G) (hok : DkOk D) (k : Int) :
    Calls Tryz.prog 69 #[.pointer (some (at0 b)), .int .i64 k] w fun e w' => Ext w w' ∧ ∃ p l c bs, e = .returned (.tuple #[.slice p l c, .int .i64 (faultZ D.dead D.sectors k)]) ∧
      bs = (if faultZ D.dead D.sectors k = 0 then readD D k else []) ∧ BytesAt w' p l bs ∧ l ≤ 4108 :=
  (rread_own h hok k).mono fun _ _ ⟨hx, p, l, c, bs, he, hb, hc, hl, _⟩ => ⟨hx, p, l, c, bs, he, hb, hc, hl⟩

theorem mrg_snoc (L W : SM) (x : Int × List UInt8) : mrg L (W ++ [x]) = ins x.1 x.2 (mrg L W) := by simp [mrg, List.foldl_append]

theorem rempty {w : World} {b : Nat} {D : Dk} {G : Nat → Prop} (h : IsRef w b D G) (dd : Bool) {w3 w5 w7 : World} (s3 : SetC w ((at0 b).add 3) (.bool dd) w3) (s5 : SetC w3 ((at0 b).add 1) (.slice none 0 0) w5) (s7 : SetC w5 ((at0 b).add 2) (.slice none 0 0) w7) :
    Upd (fun x => x = b) w w7 ∧ IsRef w7 b { D with dead := dd, lasts := [], waits := [] } G := by
  obtain ⟨pL, lL, cL, pW, lW, cW, i1, i2, i3, i4, i5, i6, i7⟩ := h
  have hu := Upd.trans (Upd.trans (setc_upd s3) (setc_upd s5) fun _ _ h => h) (setc_upd s7) fun _ _ h => h
  exact ⟨hu, none, 0, 0, none, 0, 0, s7.row (s5.row (s3.row i1)), RefL.nil _ _, RefL.nil _ _, List.Pairwise.nil, List.Pairwise.nil, i6, fun x hx => Nat.lt_of_lt_of_le (i7 x hx) hu.size⟩
theorem rfail_spec {w : World} {b : Nat} {D : Dk} {G : Nat → Prop} (h : IsRef w b D G) :
    Calls Tryz.prog 75 #[.pointer (some (at0 b))] w fun e w' => e = .returned (.tuple #[]) ∧ Upd (fun x => x = b) w w' ∧ IsRef w' b { D with dead := true, lasts := [], waits := [] } G := by
  refine (F75_calls (some (at0 b)) w (fun v w' => v = .tuple #[] ∧ Upd (fun x => x = b) w w' ∧ IsRef w' b { D with dead := true, lasts := [], waits := [] } G) ?_).mono (by rintro e w' ⟨v, rfl, rfl, h⟩; exact ⟨rfl, h⟩)
  have h' := h
  obtain ⟨pL, lL, cL, pW, lW, cW, i1, _⟩ := h'
  exact ⟨i1.live (by simp), fun w3 s3 => ⟨(s3.row i1).live (by simp), fun w5 s5 => ⟨(s5.row (s3.row i1)).live (by simp), fun w7 s7 => ⟨rfl, rempty h true s3 s5 s7⟩⟩⟩⟩
theorem rreplace_spec {w : World} {b : Nat} {D : Dk} {G : Nat → Prop} (h : IsRef w b D G) :
    Calls Tryz.prog 76 #[.pointer (some (at0 b))] w fun e w' => e = .returned (.tuple #[]) ∧ Upd (fun x => x = b) w w' ∧ IsRef w' b { D with dead := false, lasts := [], waits := [] } G := by
  refine (F76_calls (some (at0 b)) w (fun v w' => v = .tuple #[] ∧ Upd (fun x => x = b) w w' ∧ IsRef w' b { D with dead := false, lasts := [], waits := [] } G) ?_).mono (by rintro e w' ⟨v, rfl, rfl, h⟩; exact ⟨rfl, h⟩)
  have h' := h
  obtain ⟨pL, lL, cL, pW, lW, cW, i1, _⟩ := h'
  exact ⟨i1.live (by simp), fun w3 s3 => ⟨(s3.row i1).live (by simp), fun w5 s5 => ⟨(s5.row (s3.row i1)).live (by simp), fun w7 s7 => ⟨rfl, rempty h false s3 s5 s7⟩⟩⟩⟩
end Go.Proofs.YtenfnapoigafmaaGreat

/- The document's disk: flushing, crashing, corrupting. -/
namespace Go.Proofs.YtenfnapoigafmaaGreat
open Go Go.Vc

theorem DkOk.mrg {D : Dk} (h : DkOk D) {W : SM} (hW : ∀ x ∈ W, x ∈ D.waits) (ha : Asc W) : DkOk { D with lasts := mrg D.lasts W } := by
  refine ⟨h.sec, fun x hx => ?_, h.waits⟩
  rcases mrg_mem ha hx with hx | hx
  · exact h.waits x (hW x hx)
  · exact h.lasts x hx

/-- what a step of lists is -/
structure RStep (b : Nat) (G G' : Nat → Prop) (w w' : World) : Prop where
  upd : Upd (fun x => x = b) w w'
  grow : Grows G G' w w'
theorem RStep.refl (b : Nat) (G : Nat → Prop) (w : World) : RStep b G G w w := ⟨Upd.refl _ _, fun _ h => .inl h⟩
theorem RStep.ext {b : Nat} {G : Nat → Prop} {w w' : World} (h : Ext w w') : RStep b G G w w' := ⟨h.upd, fun _ h => .inl h⟩
theorem RStep.trans {b : Nat} {G G' G'' : Nat → Prop} {w w' w'' : World} (h : RStep b G G' w w') (h' : RStep b G' G'' w' w'') : RStep b G G'' w w'' := by
  refine ⟨Upd.trans h.upd h'.upd fun _ _ h => h, fun x hx => ?_⟩
  have s1 := h.upd.size
  have s2 := h'.upd.size
  rcases h'.grow x hx with h1 | h1
  · rcases h.grow x h1 with h2 | h2
    · exact .inl h2
    · exact .inr ⟨h2.1, by omega⟩
  · exact .inr ⟨by omega, h1.2⟩

/-- one sector laid into what lasts -/
theorem put_last {w : World} {b : Nat} {D : Dk} {G : Nat → Prop} {pL : Option Addr} {lL cL : Nat} {pW : Option Addr} {lW cW : Nat}
    (i1 : RowW w b #[.int .i64 D.sectors, .slice pL lL cL, .slice pW lW cW, .bool D.dead]) (i2 : RefL w G pL lL cL D.lasts) (i3 : RefL w G pW lW cW D.waits) (i4 : Asc D.lasts) (i6 : ¬ G b) (i7 : ∀ x, G x → x < w.heap.size)
    (hlen : D.lasts.length ≤ 4096) (k : Int) {pv : Option Addr} {lv cv : Nat} {bs : List UInt8} (hv : SliceVal G w (.slice pv lv cv) bs) :
    Calls Tryz.prog 91 #[.slice pL lL cL, .agg #[.int .i64 k, .slice pv lv cv]] w fun e w1 => ∃ p' l' c', e = .returned (.slice p' l' c') ∧ Live w1 ((at0 b).add 1) ∧ ∀ w', SetC w1 ((at0 b).add 1) (.slice p' l' c') w' →
      ∃ G', RStep b G G' w w' ∧ RowW w' b #[.int .i64 D.sectors, .slice p' l' c', .slice pW lW cW, .bool D.dead] ∧ RefL w' G' p' l' c' (ins k bs D.lasts) ∧ RefL w' G' pW lW cW D.waits ∧ ¬ G' b ∧ (∀ x, G' x → x < w'.heap.size) := by
  refine (with_spec i2 i4 hlen k hv).mono ?_
  rintro e w1 ⟨p', l', c', rfl, x1, hL⟩
  have hb := i1.lt
  refine ⟨p', l', c', rfl, (x1.rowW i1 id).live (by simp), fun w' hs => ?_⟩
  have hu := setc_upd hs
  have hnb : ¬ Gn G w.heap.size w1.heap.size b := fun hx => hx.elim i6 fun h => by omega
  have hG : ∀ x, Gn G w.heap.size w1.heap.size x → ¬ (x = b) := by rintro x hx rfl; exact hnb hx
  refine ⟨Gn G w.heap.size w1.heap.size, ⟨Upd.trans (x1.upd (S := fun x => x = b)) hu fun _ _ h => h, fun x hx => ?_⟩, hs.row (x1.rowW i1 id), hL.upd hu hG, ((i3.ext x1).mono fun x hx => .inl hx).upd hu hG, hnb, fun x hx => ?_⟩
  · rcases hx with hx | hx
    · exact .inl hx
    · exact .inr ⟨hx.1, by have := hu.size; omega⟩
  · have s1 := x1.size
    have s2 := hu.size
    rcases hx with hx | hx
    · have := i7 x hx; omega
    · omega

/-- while it flushes or crashes -/
structure Mid (w : World) (b : Nat) (D : Dk) (G : Nat → Prop) (w' : World) (M : SM) (pW : Option Addr) (lW cW : Nat) : Prop where
  ex : ∃ G' pL lL cL, RStep b G G' w w' ∧ RowW w' b #[.int .i64 D.sectors, .slice pL lL cL, .slice pW lW cW, .bool D.dead] ∧ RefL w' G' pL lL cL (mrg D.lasts M) ∧ RefL w' G' pW lW cW D.waits ∧ ¬ G' b ∧ ∀ x, G' x → x < w'.heap.size

theorem Mid.ext {w : World} {b : Nat} {D : Dk} {G : Nat → Prop} {w' w'' : World} {M : SM} {pW : Option Addr} {lW cW : Nat} (h : Mid w b D G w' M pW lW cW) (hx : Ext w' w'') : Mid w b D G w'' M pW lW cW := by
  obtain ⟨G', pL, lL, cL, h1, h2, h3, h4, h5, h6⟩ := h
  exact ⟨G', pL, lL, cL, h1.trans (RStep.ext hx), hx.rowW h2 id, h3.ext hx, h4.ext hx, h5, fun x hx' => Nat.lt_of_lt_of_le (h6 x hx') hx.size⟩

theorem Mid.done {w : World} {b : Nat} {D : Dk} {G : Nat → Prop} {w' w'' : World} {M : SM} {pW : Option Addr} {lW cW : Nat} (h : Mid w b D G w' M pW lW cW) (a1 : Asc D.lasts) (hs : SetC w' ((at0 b).add 2) (.slice none 0 0) w'') :
    ∃ G', RStep b G G' w w'' ∧ IsRef w'' b { D with lasts := mrg D.lasts M, waits := [] } G' := by
  obtain ⟨G', pL, lL, cL, h1, h2, h3, h4, h5, h6⟩ := h
  have hu := setc_upd hs
  have hG : ∀ x, G' x → ¬ (x = b) := by rintro x hx rfl; exact h5 hx
  refine ⟨G', h1.trans ⟨hu, fun _ h => .inl h⟩, pL, lL, cL, none, 0, 0, hs.row h2, h3.upd hu hG, RefL.nil _ _, mrg_asc a1, List.Pairwise.nil, h5, fun x hx => Nat.lt_of_lt_of_le (h6 x hx) hu.size⟩

/-- one of what waits, laid into what lasts -/
theorem Mid.put {w : World} {b : Nat} {D : Dk} {G : Nat → Prop} {w' : World} {M : SM} {pW : Option Addr} {lW cW : Nat} (h : Mid w b D G w' M pW lW cW) (hok : DkOk D) (a1 : Asc D.lasts) (a2 : Asc D.waits) (hM : ∀ x ∈ M, x ∈ D.waits) (aM : Asc M)
    {i : Nat} {x : Int × List UInt8} (hx : D.waits[i]? = some x) :
    ∃ pL lL cL a q n c, w'.cell? ((at0 b).add 1) = some (.slice pL lL cL) ∧ w'.cell? ((at0 b).add 2) = some (.slice pW lW cW) ∧ pW = some a ∧ w'.cell? (a.add (i * 2)) = some (.int .i64 x.1) ∧ w'.cell? ((a.add (i * 2)).add 1) = some (.slice q n c) ∧
      Calls Tryz.prog 91 #[.slice pL lL cL, .agg #[.int .i64 x.1, .slice q n c]] w' fun e w1 => ∃ p' l' c', e = .returned (.slice p' l' c') ∧ Live w1 ((at0 b).add 1) ∧ ∀ w'', SetC w1 ((at0 b).add 1) (.slice p' l' c') w'' → Mid w b D G w'' (M ++ [x]) pW lW cW := by
  obtain ⟨G', pL, lL, cL, h1, h2, h3, h4, h5, h6⟩ := h
  obtain ⟨a, q, n, c, hp, c0, _, c1, hv⟩ := h4.at hx
  refine ⟨pL, lL, cL, a, q, n, c, h2.row.cell rfl, h2.row.cell rfl, hp, c0, c1, ?_⟩
  have hok' := hok.mrg hM aM
  have hlen := (ref_len hok' (mrg_asc a1) a2).1
  have := put_last (D := { D with lasts := mrg D.lasts M }) h2 h3 h4 (mrg_asc a1) h5 h6 hlen x.1 hv
  refine this.mono ?_
  rintro e w1 ⟨p', l', c', rfl, hl, hall⟩
  refine ⟨p', l', c', rfl, hl, fun w'' hs => ?_⟩
  obtain ⟨G2, k1, k2, k3, k4, k5, k6⟩ := hall w'' hs
  refine ⟨G2, p', l', c', h1.trans k1, k2, ?_, k4, k5, k6⟩
  rw [mrg_snoc]; exact k3

theorem rflush_spec {w : World} {b : Nat} {D : Dk} {G : Nat → Prop} (h : IsRef w b D G) (hok : DkOk D) :
    Calls Tryz.prog 71 #[.pointer (some (at0 b))] w fun e w' => ∃ G', e = .returned (.int .i64 (if D.dead then 120 else 0)) ∧ RStep b G G' w w' ∧ IsRef w' b (flushD D) G' := by
  have h' := h
  obtain ⟨pL, lL, cL, pW, lW, cW, i1, i2, i3, i4, i5, i6, i7⟩ := h'
  refine (F71_calls (some (at0 b)) w (fun v w' => ∃ G', v = .int .i64 (if D.dead then 120 else 0) ∧ RStep b G G' w w' ∧ IsRef w' b (flushD D) G')
    (fun _ n w5 => ∃ i : Nat, n = i ∧ i ≤ D.waits.length ∧ Mid w b D G w5 (D.waits.take i) pW lW cW) (fun _ n _ => 4096 - n.toNat) ?_).mono (by rintro e w' ⟨v, rfl, G', rfl, h⟩; exact ⟨G', rfl, h⟩)
  have hlen := ref_len hok i4 i5
  refine ⟨_, i1.row.cell rfl, condB_of (fun hd => ⟨G, by rw [if_pos hd], RStep.refl _ _ _, ?_⟩) (fun hd => ?_)⟩
  · unfold flushD; rw [if_pos hd]; exact h
  refine ⟨⟨0, rfl, Nat.zero_le _, G, pL, lL, cL, RStep.refl _ _ _, i1, i2, i3, i6, i7⟩, ?_⟩
  rintro n w5 ⟨i, rfl, hi, hm⟩
  intros
  have hm' := hm
  obtain ⟨G', pL', lL', cL', k1, k2, k3, k4, k5, k6⟩ := hm'
  refine ⟨_, _, _, k2.row.cell rfl, condB_of (fun hlt => ?_) (fun hge => ?_)⟩
  · simp only [decide_eq_true_eq] at hlt
    have hl := i3.1
    intro w32 d32
    obtain ⟨x, hxi⟩ : ∃ x, D.waits[i]? = some x := ⟨D.waits[i]'(by omega), List.getElem?_eq_getElem _⟩
    obtain ⟨p1, l1, c1, a, q, nn, cc, e1, e2, rfl, e3, e4, hc⟩ := (hm.ext d32.ext).put hok i4 i5 (fun x hx => List.mem_of_mem_take hx) (List.Pairwise.sublist (List.take_sublist _ _) i5) hxi
    rw [Int.toNat_natCast]
    refine ⟨_, _, _, e1, _, _, _, e2, ⟨by omega, hlt⟩, _, e3, _, _, _, e4, hc.mono ?_⟩
    rintro e w40 ⟨p', l', c', rfl, hl', hall⟩
    refine ⟨p', l', c', rfl, hl', fun w44 hs => ?_⟩
    rw [w64 (by omega)]
    refine ⟨⟨i + 1, by omega, by omega, ?_⟩, by show 4096 - ((i : Int) + 1).toNat < 4096 - (i : Int).toNat; omega⟩
    rw [List.take_add_one, hxi]
    exact hall w44 hs
  · simp only [decide_eq_false_iff_not] at hge
    have hl := i3.1
    have e1 : D.waits.take i = D.waits := List.take_of_length_le (by omega)
    rw [e1] at hm
    refine ⟨k2.live (by simp), fun w46 hs => ?_⟩
    obtain ⟨G2, r1, r2⟩ := hm.done i4 hs
    refine ⟨G2, by rw [if_neg (by simp [hd])], r1, ?_⟩
    unfold flushD
    rw [if_neg (by simp [hd])]
    exact r2

set_option maxHeartbeats 1000000 in
theorem rcrash_spec {w : World} {b : Nat} {D : Dk} {G : Nat → Prop} (h : IsRef w b D G) (hok : DkOk D) {p : Option Addr} {l c : Nat} {ks : List Int} (hk : IntsAt w p l ks) (hkl : l ≤ 9223372036854775807) (hkb : ∀ a, p = some a → ks ≠ [] → a.block ≠ b) :
    Calls Tryz.prog 73 #[.pointer (some (at0 b)), .slice p l c] w fun e w' => ∃ G', e = .returned (.tuple #[]) ∧ RStep b G G' w w' ∧ IsRef w' b (crashD D ks) G' := by
  have h' := h
  obtain ⟨pL, lL, cL, pW, lW, cW, i1, i2, i3, i4, i5, i6, i7⟩ := h'
  refine (F73_calls (some (at0 b)) p l c w (fun v w' => ∃ G', v = .tuple #[] ∧ RStep b G G' w w' ∧ IsRef w' b (crashD D ks) G')
    (fun _ n w5 => ∃ i : Nat, n = i ∧ i ≤ D.waits.length ∧ Mid w b D G w5 ((D.waits.take i).filter fun y => decide (y.1 ∈ ks)) pW lW cW) (fun _ n _ => 4096 - n.toNat)
    (fun n3 w4 b57 n58 w59 => ∃ j : Nat, n58 = j ∧ j ≤ l ∧ Ext w4 w59 ∧ ∀ x, D.waits[n3.toNat]? = some x → b57 = decide (x.1 ∈ ks.take j)) (fun _ _ _ n _ => 9223372036854775807 - n.toNat) ?_).mono (by rintro e w' ⟨v, rfl, G', rfl, h⟩; exact ⟨G', rfl, h⟩)
  have hlen := ref_len hok i4 i5
  have hl := i3.1
  have hkl' := hk.1
  refine ⟨⟨0, rfl, Nat.zero_le _, G, pL, lL, cL, RStep.refl _ _ _, i1, i2, i3, i6, i7⟩, ?_⟩
  rintro n w5 ⟨i, rfl, hi, hm⟩
  intros
  have hm' := hm
  obtain ⟨G', pL', lL', cL', k1, k2, k3, k4, k5, k6⟩ := hm'
  refine ⟨_, _, _, k2.row.cell rfl, condB_of (fun hlt => ?_) (fun hge => ?_)⟩
  · simp only [decide_eq_true_eq] at hlt
    obtain ⟨x, hxi⟩ : ∃ x, D.waits[i]? = some x := ⟨D.waits[i]'(by omega), List.getElem?_eq_getElem _⟩
    refine ⟨⟨0, rfl, Nat.zero_le _, Upd.refl _ _, fun x _ => by simp⟩, ?_⟩
    rintro b57 n58 w59 ⟨j, rfl, hj, x59, hkept⟩
    intros
    have hb57 := hkept x (by rw [Int.toNat_natCast]; exact hxi)
    subst hb57
    have hm59 := hm.ext x59
    have tk : (D.waits.take (i + 1)).filter (fun y => decide (y.1 ∈ ks)) = (D.waits.take i).filter (fun y => decide (y.1 ∈ ks)) ++ (if x.1 ∈ ks then [x] else []) := by
      rw [List.take_add_one, hxi, List.filter_append]
      congr 1
      by_cases hin : x.1 ∈ ks <;> simp [hin]
    refine condB_of (fun hjl => ?_) (fun hjl => ?_)
    · simp only [decide_eq_true_eq] at hjl
      intro w82 d82
      obtain ⟨z, hz⟩ : ∃ z, ks[j]? = some z := ⟨ks[j]'(by omega), List.getElem?_eq_getElem _⟩
      have hmu : 9223372036854775807 - ((j : Int) + 1).toNat < 9223372036854775807 - (j : Int).toNat := by omega
      have tm : ∀ y : Int × List UInt8, y.1 ∈ ks.take (j + 1) ↔ (y.1 ∈ ks.take j ∨ z = y.1) := fun y => by
        rw [List.take_add_one, hz]; simp [eq_comm]
      refine condB_of (fun hb => ?_) (fun hb => ?_)
      · simp only [decide_eq_true_eq] at hb
        rw [w64 (by omega)]
        refine ⟨⟨j + 1, by omega, by omega, x59.trans d82.ext, fun y hy => ?_⟩, hmu⟩
        rw [Int.toNat_natCast, hxi] at hy
        cases hy
        exact (decide_eq_true ((tm x).2 (.inl hb))).symm
      · simp only [decide_eq_false_iff_not] at hb
        obtain ⟨G2, pL2, lL2, cL2, q1, q2, q3, q4, q5, q6⟩ := hm59.ext d82.ext
        have hkc : CellsAt w82 p (ks.map fun x => .int .i64 x) := hk.2.upd q1.upd fun a ha hne => hkb a ha (by rintro rfl; exact hne rfl)
        obtain ⟨a, ha, hc⟩ := hkc j (.int .i64 z) (by rw [List.getElem?_map, hz]; rfl)
        subst ha
        obtain ⟨a2, q, nn, cc, rfl, _, c0, _, _⟩ := q4.at hxi
        rw [Int.toNat_natCast, Int.toNat_natCast]
        refine ⟨⟨by omega, hjl⟩, z, by rw [Nat.mul_one]; exact hc, _, _, _, q2.row.cell rfl, ⟨by omega, hlt⟩, _, c0, ?_⟩
        rw [w64 (by omega)]
        refine ⟨⟨j + 1, by omega, by omega, x59.trans d82.ext, fun y hy => ?_⟩, hmu⟩
        rw [Int.toNat_natCast, hxi] at hy
        cases hy
        apply decide_eq_decide.2
        rw [tm x]
        simp [hb]
    · simp only [decide_eq_false_iff_not] at hjl
      have ej : ks.take j = ks := List.take_of_length_le (by omega)
      rw [ej]
      have hmu : 4096 - ((i : Int) + 1).toNat < 4096 - (i : Int).toNat := by omega
      refine condB_of (fun hb => ?_) (fun hb => ?_)
      · simp only [decide_eq_true_eq] at hb
        intro w89 d89
        obtain ⟨p1, l1, c1, a, q, nn, cc, e1, e2, rfl, e3, e4, hc⟩ := (hm59.ext d89.ext).put hok i4 i5 (fun x hx => List.mem_of_mem_take (List.mem_filter.1 hx).1) (Asc.filter (List.Pairwise.sublist (List.take_sublist _ _) i5) _) hxi
        rw [Int.toNat_natCast]
        refine ⟨_, _, _, e1, _, _, _, e2, ⟨by omega, hlt⟩, _, e3, _, _, _, e4, hc.mono ?_⟩
        rintro e w40 ⟨p', l', c', rfl, hl', hall⟩
        refine ⟨p', l', c', rfl, hl', fun w44 hs => ?_⟩
        rw [w64 (by omega)]
        refine ⟨⟨i + 1, by omega, by omega, ?_⟩, hmu⟩
        rw [tk, if_pos hb]
        exact hall w44 hs
      · simp only [decide_eq_false_iff_not] at hb
        rw [w64 (by omega)]
        refine ⟨⟨i + 1, by omega, by omega, ?_⟩, hmu⟩
        rw [tk, if_neg hb, List.append_nil]
        exact hm59
  · simp only [decide_eq_false_iff_not] at hge
    have e1 : D.waits.take i = D.waits := List.take_of_length_le (by omega)
    rw [e1] at hm
    refine ⟨k2.live (by simp), fun w46 hs => ?_⟩
    obtain ⟨G2, r1, r2⟩ := hm.done i4 hs
    exact ⟨G2, rfl, r1, r2⟩
end Go.Proofs.YtenfnapoigafmaaGreat

/- The document's disk: corrupting. -/
namespace Go.Proofs.YtenfnapoigafmaaGreat
open Go Go.Vc

theorem corBytes_len (bs : List UInt8) (a : Int) (y : UInt8) : (corBytes bs a y).length = bs.length := by simp [corBytes]

set_option maxHeartbeats 1000000 in
theorem changed_spec {w : World} {p : Option Addr} {l c : Nat} {bs : List UInt8} (hb : BytesAt w p l bs) (hne : bs ≠ []) (hl : l ≤ 4108) (a : Int) (ha : -9223372036854775808 ≤ a ∧ a ≤ 9223372036854775807) (y : UInt8) :
    Calls Tryz.prog 96 #[.slice p l c, .int .i64 a, .int .u8 (y.toNat : Int)] w fun e w' => ∃ p' l' c', e = .returned (.slice p' l' c') ∧ Ext w w' ∧ OwnS w' w.heap.size 5 1 p' l' c' (encB (corBytes bs a y)) := by
  refine (F96_calls p l c a (y.toNat : Int) w (fun v w' => ∃ p' l' c', v = .slice p' l' c' ∧ Ext w w' ∧ OwnS w' w.heap.size 5 1 p' l' c' (encB (corBytes bs a y))) ?_).mono (by rintro e w' ⟨v, rfl, p', l', c', rfl, h⟩; exact ⟨p', l', c', rfl, h⟩)
  have hll := hb.1
  have hpos : 0 < bs.length := List.length_pos_iff.2 hne
  have hlt := corIdx_lt a hpos
  have main : ∀ E : Int, E = (if a < 0 then -(a + 1) else a) → ∀ (k4 : Nat) (w5 : World), NewB w k4 (.cells #[] 5) w5 → (∃ (p7 : Option Addr) (l7 c7 : Nat), ∃ w6 : World, Sem.run Tryz.prog (Builtin.append_ #[32, 32] 32 #[.slice (some (at0 k4)) 0 0, .slice p l c]) w5 = .ok (.slice p7 l7 c7) w6 ∧
      (∀ w8 : World, Drew w6 w8 → (((l : Nat) : Int) ≠ 0 ∧ (((l : Nat) : Int) ≠ 0 ∧ ((0 ≤ (E.tmod ((l : Nat) : Int)) ∧ (E.tmod ((l : Nat) : Int)) < ((l7 : Nat) : Int)) ∧ (nilM p7 fun a9 => (∃ (n10 : Int), w8.cell? (a9.add ((E.tmod ((l : Nat) : Int)).toNat * 1)) = some (.int .u8 n10) ∧
        ((0 ≤ (E.tmod ((l : Nat) : Int)) ∧ (E.tmod ((l : Nat) : Int)) < ((l7 : Nat) : Int)) ∧ (nilM p7 fun a11 => (Live w8 (a11.add ((E.tmod ((l : Nat) : Int)).toNat * 1)) ∧ (∀ w12 : World, SetC w8 (a11.add ((E.tmod ((l : Nat) : Int)).toNat * 1)) (Value.int .u8 (bitsV .xor .u8 n10 (y.toNat : Int))) w12 →
          (∃ p' l' c', Value.slice p7 l7 c7 = .slice p' l' c' ∧ Ext w w12 ∧ OwnS w12 w.heap.size 5 1 p' l' c' (encB (corBytes bs a y)))))))))))))) := by
    intro E hE k4 w5 hk
    have hEn : 0 ≤ E := by rw [hE]; split <;> omega
    have htm : E.tmod (l : Int) = E % (l : Int) := Int.tmod_eq_emod_of_nonneg hEn
    have hidx : (E % (l : Int)).toNat = corIdx a bs.length := by rw [hE, ← hll]; rfl
    obtain ⟨p', c', w6, hr, x6, own⟩ := dup_app hk hb (c := c) (by omega)
    refine ⟨p', l, c', w6, hr, ?_⟩
    intro w8 d8
    have own8 := own.ext d8.ext
    rw [htm, Nat.mul_one, hidx]
    have hr1 := Int.emod_nonneg E (show (l : Int) ≠ 0 by omega)
    have hr2 := Int.emod_lt_of_pos E (show (0 : Int) < l by omega)
    have hel : (encB bs)[corIdx a bs.length]? = some (.int .u8 ((bs.getD (corIdx a bs.length) 0).toNat : Int)) := by
      simp [encB, List.getElem?_eq_getElem hlt, List.getD]
    obtain ⟨aa, rfl, hcell⟩ := own8.cells _ _ hel
    refine ⟨by omega, by omega, ⟨hr1, hr2⟩, _, hcell, ⟨hr1, hr2⟩, own8.live (by rw [encB_length]; exact hlt), ?_⟩
    intro w12 hset
    obtain ⟨own12, hu12⟩ := own8.set hset
    rw [xor_u8, encB_set] at own12
    refine ⟨_, l, c', rfl, ?_, own12⟩
    refine Upd.trans (x6.trans d8.ext) hu12 fun x hx hs => ?_
    rcases own8.where_ with ⟨h, _⟩ | ⟨g, h, hge, _⟩
    · cases h
    · cases h
      have : x = g := hs
      omega
  refine condB_of (fun h0 => ?_) (fun h0 => ?_)
  · simp only [decide_eq_true_eq] at h0
    exact main _ (by rw [w64 (by omega : -9223372036854775808 ≤ a + 1 ∧ a + 1 ≤ 9223372036854775807), w64 (by omega), if_pos h0]; omega)
  · simp only [decide_eq_false_iff_not] at h0
    exact main _ (by rw [if_neg h0])

set_option maxHeartbeats 1000000 in
theorem rcorrupt_spec {w : World} {b : Nat} {D : Dk} {G : Nat → Prop} (h : IsRef w b D G) (hok : DkOk D) (k a : Int) (y : UInt8) (ha : -9223372036854775808 ≤ a ∧ a ≤ 9223372036854775807) :
    Calls Tryz.prog 78 #[.pointer (some (at0 b)), .int .i64 k, .int .i64 a, .int .u8 (y.toNat : Int)] w fun e w' => ∃ G', e = .returned (.int .i64 (corruptZ D k)) ∧ RStep b G G' w w' ∧ IsRef w' b (corruptD D k a y) G' := by
  have h' := h
  obtain ⟨pL, lL, cL, pW, lW, cW, i1, i2, i3, i4, i5, i6, i7⟩ := h'
  refine (F78_calls (some (at0 b)) k a (y.toNat : Int) w (fun v w' => ∃ G', v = .int .i64 (corruptZ D k) ∧ RStep b G G' w w' ∧ IsRef w' b (corruptD D k a y) G') ?_).mono (by rintro e w' ⟨v, rfl, G', rfl, h⟩; exact ⟨G', rfl, h⟩)
  have hlen := ref_len hok i4 i5
  have hbl := i1.lt
  refine (rfault_spec h k).mono ?_
  rintro e w5 ⟨rfl, rfl⟩
  refine ⟨_, rfl, condB_of (fun hf => ?_) (fun hf => ?_)⟩
  · simp only [Bool.not_eq_true', decide_eq_false_iff_not] at hf
    have hz : corruptZ D k = faultZ D.dead D.sectors k := by simp [corruptZ, hf]
    refine ⟨G, by rw [hz], RStep.refl _ _ _, ?_⟩
    rw [corruptD, if_pos hf]; exact h
  simp only [Bool.not_eq_false', decide_eq_true_eq] at hf
  refine ⟨_, _, _, i1.row.cell rfl, ?_⟩
  refine (rfind_spec i3 hlen.2 k).mono ?_
  rintro e w10 ⟨x10, ⟨i, bs, rfl, hi, hg⟩ | ⟨rfl, hg⟩⟩
  · refine ⟨_, rfl, condB_of (fun _ w13 d13 => ?_) (fun h0 => by simp at h0)⟩
    have x13 := x10.trans d13.ext
    have hil : i < D.waits.length := (List.getElem?_eq_some_iff.1 hi).1
    obtain ⟨aa, q, n, c', rfl, _, _, hc, q', n', c'', he, hb, hne, hn, _⟩ := (i3.ext x13).at hi
    cases he
    rw [Int.toNat_natCast]
    refine ⟨_, _, _, (x13.rowW i1 id).row.cell rfl, _, _, _, (x13.rowW i1 id).row.cell rfl, ⟨by omega, by have := i3.1; omega⟩, q, n, c', hc, ?_⟩
    refine (changed_spec hb hne hn a ha y).mono ?_
    rintro e w20 ⟨p', l', c2, rfl, x20', own⟩
    have x20 := x13.trans x20'
    refine ⟨p', l', c2, rfl, ⟨_, _, _, (x20.rowW i1 id).row.cell rfl, rfl⟩, ?_⟩
    have hn' : bs.length ≤ 4108 := by have e : n = bs.length := hb.1; omega
    have hne' : corBytes bs a y ≠ [] := by
      intro h0
      have := congrArg List.length h0
      rw [corBytes_len] at this
      exact hne (List.eq_nil_of_length_eq_zero this)
    have hv : SliceVal (Gn G w5.heap.size w20.heap.size) w20 (.slice p' l' c2) (corBytes bs a y) := (own_val (w := w5) own x13.size hne' (by rw [corBytes_len]; exact hn')).mono fun x hx => .inr hx
    refine (with_spec ((i3.ext x20).mono (G' := Gn G w5.heap.size w20.heap.size) fun x hx => .inl hx) i5 hlen.2 k hv).mono ?_
    rintro e w24 ⟨p3, l3, c3, rfl, x24', hL⟩
    have x24 := x20.trans x24'
    refine ⟨p3, l3, c3, rfl, (x24.rowW i1 id).live (by simp), fun w28 hs => ?_⟩
    have hL' : RefL w24 (Gn G w5.heap.size w24.heap.size) p3 l3 c3 (ins k (corBytes bs a y) D.waits) := hL.mono fun x hx => by
      have s1 := x20.size; have s2 := x24'.size
      rcases hx with (hx | hx) | hx
      · exact .inl hx
      · exact .inr ⟨hx.1, by omega⟩
      · exact .inr ⟨by omega, hx.2⟩
    obtain ⟨r1, r2⟩ := h.setW x24 hL' (fun x hx => .inl hx) (fun hx => hx.elim i6 fun h => by omega) (by
      have s1 := x24.size
      rintro x (hx | hx)
      · have := i7 x hx; omega
      · exact hx.2) (ins_asc i5) hs
    refine ⟨Gn G w5.heap.size w24.heap.size, by simp [corruptZ, hf, hg], ⟨r2, fun x hx => ?_⟩, ?_⟩
    · rcases hx with hx | hx
      · exact .inl hx
      · exact .inr ⟨hx.1, by have := (setc_upd hs).size; omega⟩
    · have : corruptD D k a y = { D with waits := ins k (corBytes bs a y) D.waits } := by simp [corruptD, hf, hg]
      rw [this]; exact r1
  refine ⟨_, rfl, condB_of (fun h0 => by simp at h0) (fun _ => ?_)⟩
  refine ⟨_, _, _, (x10.rowW i1 id).row.cell rfl, ?_⟩
  refine (rfind_spec (i2.ext x10) hlen.1 k).mono ?_
  rintro e w31 ⟨x31', ⟨i, bs, rfl, hi, hg2⟩ | ⟨rfl, hg2⟩⟩
  · refine ⟨_, rfl, condB_of (fun h0 => by simp only [decide_eq_true_eq] at h0; omega) (fun _ w13 d13 => ?_)⟩
    have x13 := (x10.trans x31').trans d13.ext
    have hil : i < D.lasts.length := (List.getElem?_eq_some_iff.1 hi).1
    obtain ⟨aa, q, n, c', rfl, _, _, hc, q', n', c'', he, hb, hne, hn, _⟩ := (i2.ext x13).at hi
    cases he
    rw [Int.toNat_natCast]
    refine ⟨_, _, _, (x13.rowW i1 id).row.cell rfl, _, _, _, (x13.rowW i1 id).row.cell rfl, ⟨by omega, by have := i2.1; omega⟩, q, n, c', hc, ?_⟩
    refine (changed_spec hb hne hn a ha y).mono ?_
    rintro e w20 ⟨p', l', c2, rfl, x20', own⟩
    have x20 := x13.trans x20'
    refine ⟨p', l', c2, rfl, ⟨_, _, _, (x20.rowW i1 id).row.cell rfl, rfl⟩, ?_⟩
    have hn' : bs.length ≤ 4108 := by have e : n = bs.length := hb.1; omega
    have hne' : corBytes bs a y ≠ [] := by
      intro h0
      have := congrArg List.length h0
      rw [corBytes_len] at this
      exact hne (List.eq_nil_of_length_eq_zero this)
    have hv : SliceVal (Gn G w5.heap.size w20.heap.size) w20 (.slice p' l' c2) (corBytes bs a y) := (own_val (w := w5) own x13.size hne' (by rw [corBytes_len]; exact hn')).mono fun x hx => .inr hx
    refine (with_spec ((i2.ext x20).mono (G' := Gn G w5.heap.size w20.heap.size) fun x hx => .inl hx) i4 hlen.1 k hv).mono ?_
    rintro e w24 ⟨p3, l3, c3, rfl, x24', hL⟩
    have x24 := x20.trans x24'
    refine ⟨p3, l3, c3, rfl, (x24.rowW i1 id).live (by simp), fun w28 hs => ?_⟩
    have hL' : RefL w24 (Gn G w5.heap.size w24.heap.size) p3 l3 c3 (ins k (corBytes bs a y) D.lasts) := hL.mono fun x hx => by
      have s1 := x20.size; have s2 := x24'.size
      rcases hx with (hx | hx) | hx
      · exact .inl hx
      · exact .inr ⟨hx.1, by omega⟩
      · exact .inr ⟨by omega, hx.2⟩
    obtain ⟨r1, r2⟩ := h.setL x24 hL' (fun x hx => .inl hx) (fun hx => hx.elim i6 fun h => by omega) (by
      have s1 := x24.size
      rintro x (hx | hx)
      · have := i7 x hx; omega
      · exact hx.2) (ins_asc i4) hs
    refine ⟨Gn G w5.heap.size w24.heap.size, by simp [corruptZ, hf, hg, hg2], ⟨r2, fun x hx => ?_⟩, ?_⟩
    · rcases hx with hx | hx
      · exact .inl hx
      · exact .inr ⟨hx.1, by have := (setc_upd hs).size; omega⟩
    · have : corruptD D k a y = { D with lasts := ins k (corBytes bs a y) D.lasts } := by simp [corruptD, hf, hg, hg2]
      rw [this]; exact r1
  · refine ⟨_, rfl, condB_of (fun _ => ?_) (fun h0 => by simp at h0)⟩
    refine ⟨G, by simp [corruptZ, hf, hg, hg2], RStep.ext (x10.trans x31'), ?_⟩
    have : corruptD D k a y = D := by simp [corruptD, hf, hg, hg2]
    rw [this]; exact h.ext (x10.trans x31')
end Go.Proofs.YtenfnapoigafmaaGreat
