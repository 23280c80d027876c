/- The document's disk: a sector laid into a sorted list. -/
import Derived.Test.YtbidancfbilbkaaAL5
namespace Go.Proofs.Ytbidancfbilbkaa
open Go Go.Vc

/-- condB where both ways meet -/
theorem condB_join {c : Bool} {A X Q : Prop} (hA : c = true → (Q → X) → A) (hQ : c = false → Q) (hX : Q → X) : condB c A X :=
  condB_of (fun h => hA h hX) fun h => hX (hQ h)

theorem nilM_of {p : Option Addr} {a : Addr} {K : Addr → Prop} (h : p = some a) (hk : K a) : nilM p K := by
  subst h; exact hk

theorem ins_of {k : Int} {bs : List UInt8} {A C B : SM} (hA : ∀ x ∈ A, x.1 < k) (hC : ∀ x ∈ C, x.1 = k) (hB : ∀ x ∈ B, k < x.1) : ins k bs (A ++ C ++ B) = A ++ (k, bs) :: B := by
  unfold ins
  have a1 : A.filter (fun y => decide (y.1 < k)) = A := List.filter_eq_self.2 fun x hx => by simpa using hA x hx
  have a2 : A.filter (fun y => decide (k < y.1)) = [] := List.filter_eq_nil_iff.2 fun x hx => by have := hA x hx; simp; omega
  have c1 : C.filter (fun y => decide (y.1 < k)) = [] := List.filter_eq_nil_iff.2 fun x hx => by have := hC x hx; simp; omega
  have c2 : C.filter (fun y => decide (k < y.1)) = [] := List.filter_eq_nil_iff.2 fun x hx => by have := hC x hx; simp; omega
  have b1 : B.filter (fun y => decide (y.1 < k)) = [] := List.filter_eq_nil_iff.2 fun x hx => by have := hB x hx; simp; omega
  have b2 : B.filter (fun y => decide (k < y.1)) = B := List.filter_eq_self.2 fun x hx => by simpa using hB x hx
  simp only [List.filter_append, a1, a2, c1, c2, b1, b2, List.append_nil, List.nil_append]

theorem heldCells_app : ∀ {vs : List Value} {L : SM} {us : List Value} {M : SM}, vs.length = L.length → heldCells (vs ++ us) (L ++ M) = heldCells vs L ++ heldCells us M
  | [], [], _, _, _ => rfl
  | v :: vs, x :: L, us, M, h => by
    have := heldCells_app (vs := vs) (L := L) (us := us) (M := M) (by simpa using h)
    simp only [List.cons_append, heldCells, this]
theorem heldCells_drop : ∀ (j : Nat) {vs : List Value} {L : SM}, vs.length = L.length → (heldCells vs L).drop (j * 2) = heldCells (vs.drop j) (L.drop j)
  | 0, _, _, _ => by simp
  | j + 1, [], [], _ => by simp [heldCells]
  | j + 1, v :: vs, x :: L, h => by
    have := heldCells_drop j (vs := vs) (L := L) (by simpa using h)
    rw [show (j + 1) * 2 = j * 2 + 1 + 1 by omega]
    simpa [heldCells] using this
theorem heldCells_take : ∀ (j : Nat) {vs : List Value} {L : SM}, vs.length = L.length → (heldCells vs L).take (j * 2) = heldCells (vs.take j) (L.take j)
  | 0, _, _, _ => by simp [heldCells]
  | j + 1, [], [], _ => by simp [heldCells]
  | j + 1, v :: vs, x :: L, h => by
    have := heldCells_take j (vs := vs) (L := L) (by simpa using h)
    rw [show (j + 1) * 2 = j * 2 + 1 + 1 by omega]
    simpa [heldCells] using this
theorem heldCells_one {R : Value → Int × List UInt8 → Prop} (hR : ∀ v x, R v x → ∃ p l c, v = .slice p l c) {vs : List Value} {L : SM} (h : All2 R vs L) : ∀ u ∈ heldCells vs L, u.oneCell' = true := by
  induction h with
  | nil => intro u hu; cases hu
  | cons h _ ih =>
    intro u hu
    obtain ⟨p, l, c, rfl⟩ := hR _ _ h
    simp only [heldCells, List.mem_cons] at hu
    rcases hu with rfl | rfl | hu
    · rfl
    · rfl
    · exact ih u hu
theorem all2_take {α β : Type} {R : α → β → Prop} {xs : List α} {bs : List β} (h : All2 R xs bs) : ∀ j, All2 R (xs.take j) (bs.take j) := by
  induction h with
  | nil => intro j; simp; exact .nil
  | cons h _ ih =>
    intro j
    cases j with
    | zero => exact .nil
    | succ j => exact .cons h (ih j)
theorem all2_drop {α β : Type} {R : α → β → Prop} {xs : List α} {bs : List β} (h : All2 R xs bs) : ∀ j, All2 R (xs.drop j) (bs.drop j) := by
  induction h with
  | nil => intro j; simp; exact .nil
  | cons h h2 ih =>
    intro j
    cases j with
    | zero => exact .cons h h2
    | succ j => exact ih j

theorem cells_cut {w : World} {p : Option Addr} {xs : List Value} (h : CellsAt w p xs) {c j : Nat} (hj : c = j → xs.drop (j * 2) = []) : CellsAt w (cutP p c j 2) (xs.drop (j * 2)) := by
  unfold cutP
  split
  · rename_i e
    rw [hj e]
    exact CellsAt.nil _ _
  · cases p with
    | none =>
      intro i u hi
      rw [List.getElem?_drop] at hi
      obtain ⟨a, ha, _⟩ := h _ u hi
      cases ha
    | some a => exact h.drop (j * 2)
theorem cutP_none {p : Option Addr} {c j : Nat} (h : cutP p c j 2 = none) : p = none := by
  unfold cutP at h
  split at h
  · exact h
  · cases p with
    | none => rfl
    | some a => cases h

/-- a list of sectors that is only read -/
def RefL (w : World) (G : Nat → Prop) (p : Option Addr) (l c : Nat) (L : SM) : Prop :=
  l = L.length ∧ l ≤ c ∧ (p = none → l = 0) ∧ (∀ a, p = some a → G a.block) ∧ ∃ vs, All2 (fun v (x : Int × List UInt8) => SliceVal G w v x.2) vs L ∧ CellsAt w p (heldCells vs L)

theorem own_app {w0 w : World} (hx : Ext w0 w) {p : Option Addr} {n c : Nat} {xs : List Value} (h : OwnS w w0.heap.size 85 2 p n c xs) {q : Option Addr} {m d : Nat} {news : List Value} (hl : news.length = m * 2)
    (hq : CellsAt w q news) (hqn : q = none → m = 0) (h1 : ∀ u ∈ news, u.oneCell' = true) (hb : n + m ≤ 9000) :
    ∃ p' c' w', Sem.run Try.prog (Builtin.append_ #[33, 33] 33 #[.slice p n c, .slice q m d]) w = .ok (.slice p' (n + m) c') w' ∧ OwnS w' w0.heap.size 85 2 p' (n + m) c' (xs ++ news) ∧
      Ext w0 w' ∧ Upd (fun b => p = some (at0 b)) w w' := by
  obtain ⟨p', c', w', hr, ho, hu, _⟩ := h.append elemH 33 (q := q) (m := m) (d := d) (news := news) hl hq hqn h1 (by unfold maxLen; omega) (by omega) hx.size
  refine ⟨p', c', w', hr, ho, ?_, hu⟩
  refine Upd.trans hx hu fun x hx' hs => ?_
  rcases h.where_ with ⟨h0, _⟩ | ⟨g, h0, hge, _⟩
  · rw [h0] at hs; cases hs
  · rw [h0] at hs
    simp only [Option.some.injEq, at0, Addr.mk.injEq, and_true] at hs
    omega

theorem box_cells {w : World} {k : Nat} {a b : Value} {e : TypeId} {fz : Nat × Nat} (h : w.heap[k]? = some (.cells #[a, b] e fz)) : CellsAt w (some (at0 k)) [a, b] := by
  intro j u hj
  refine ⟨_, rfl, ?_⟩
  match j, hj with
  | 0, hj => cases hj; simp [World.cell?, Addr.add, h]
  | 1, hj => cases hj; simp [World.cell?, Addr.add, h]

theorem asc_split {L : SM} (ha : Asc L) {k : Int} {i : Nat} {x : Int × List UInt8} (hx : L[i]? = some x) (hk : k ≤ x.1) : ∀ y ∈ L.drop (i + 1), k < y.1 := by
  intro y hy
  have hlt : i < L.length := (List.getElem?_eq_some_iff.1 hx).1
  have hxe : L[i] = x := (List.getElem?_eq_some_iff.1 hx).2
  have h2 : Asc (L.drop i) := List.Pairwise.sublist (List.drop_sublist i L) ha
  rw [List.drop_eq_getElem_cons hlt, hxe] at h2
  have := (List.pairwise_cons.1 h2).1 y hy
  omega

set_option maxHeartbeats 8000000 in
theorem with_spec {w : World} {G : Nat → Prop} {p : Option Addr} {l c : Nat} {L : SM} (h : RefL w G p l c L) (ha : Asc L) (hlen : L.length ≤ 4096) (k : Int) {pv : Option Addr} {lv cv : Nat} {bs : List UInt8} (hv : SliceVal G w (.slice pv lv cv) bs) :
    Calls Try.prog 74 #[.slice p l c, .agg #[.int .i64 k, .slice pv lv cv]] w fun e w' => ∃ p' l' c', e = .returned (.slice p' l' c') ∧ Ext w w' ∧
      RefL w' (fun x => G x ∨ (w.heap.size ≤ x ∧ x < w'.heap.size)) p' l' c' (ins k bs L) := by
  refine (F74_calls p l c k pv lv cv w (fun v w' => ∃ p' l' c', v = .slice p' l' c' ∧ Ext w w' ∧ RefL w' (fun x => G x ∨ (w.heap.size ≤ x ∧ x < w'.heap.size)) p' l' c' (ins k bs L))
    (fun _ w5 n w8 => ∃ i : Nat, n = i ∧ i ≤ l ∧ Ext w5 w8 ∧ ∀ x ∈ L.take i, x.1 < k) (fun _ _ n _ => 4096 - n.toNat) ?_).mono (by rintro e w' ⟨v, rfl, p', l', c', rfl, h⟩; exact ⟨p', l', c', rfl, h⟩)
  obtain ⟨hl, hlc, hpn, hpG, vs, hvs, hcells⟩ := h
  have hvl : vs.length = L.length := hvs.length
  have hone := heldCells_one (fun v x (h : SliceVal G w v x.2) => by obtain ⟨p, n, c, rfl, _⟩ := h; exact ⟨p, n, c, rfl⟩) hvs
  intro k4 w5 hk4
  have x5 := hk4.ext
  have r5 : RowW w5 k4 _ := ⟨_, hk4.at⟩
  refine ⟨⟨0, rfl, Nat.zero_le _, Upd.refl _ _, by simp⟩, ?_⟩
  rintro n7 w8 ⟨i, rfl, hi, x8, hlo⟩
  intros
  rename_i w25 d25
  have x25 := x8.trans d25.ext
  have row : ∀ w', Ext w5 w' → w'.cell? ((at0 k4).add 0) = some (.int .i64 k) ∧ w'.cell? ((at0 k4).add 1) = some (.slice pv lv cv) := fun w' hx => by
    have := hx.rowW r5 id
    exact ⟨this.row.cell rfl, this.row.cell rfl⟩
  have st : ∀ w', Ext w5 w' → ∃ n, w'.cell? (at0 k4) = some (.int .i64 n) ∧ ∃ p l c, w'.cell? ((at0 k4).add 1) = some (.slice p l c) ∧ (Value.agg #[.int .i64 n, .slice p l c]) = (Value.agg #[.int .i64 k, .slice pv lv cv]) :=
    fun w' hx => ⟨k, (row w' hx).1, pv, lv, cv, (row w' hx).2, rfl⟩
  have cellK : ∀ j x, L[j]? = some x → ∀ w', Ext w5 w' → ∃ a, p = some a ∧ w'.cell? ((a.add (j * 2)).add 0) = some (.int .i64 x.1) := by
    intro j x hx w' hx'
    obtain ⟨v, hvj, _⟩ := all2_at hvs hx
    obtain ⟨a, hpa, hc⟩ := (hcells.ext (x5.trans hx')) _ _ (heldCells_at hvj hx).1
    exact ⟨a, hpa, by rw [add_add, Nat.add_zero, Nat.mul_comm]; exact hc⟩
  -- the prefix
  have hprel : ((heldCells vs L).take (i * 2)).length = i * 2 := by rw [List.length_take, heldCells_length hvl]; omega
  have hpre : ∀ w', Ext w w' → CellsAt w' (cutP p c 0 2) ((heldCells vs L).take (i * 2)) := fun w' hx => by
    have := cells_cut (hcells.ext hx) (c := c) (j := 0) (fun e => by
      have : L.length = 0 := by omega
      have : (heldCells vs L).length = 0 := by rw [heldCells_length hvl]; omega
      rw [List.eq_nil_of_length_eq_zero this]; rfl)
    rw [Nat.zero_mul, List.drop_zero] at this
    exact this.take _
  have hpren : cutP p c 0 2 = none → i = 0 := fun e => by have := hpn (cutP_none e); omega
  have hpre1 : ∀ u ∈ (heldCells vs L).take (i * 2), u.oneCell' = true := fun u hu => hone u (List.mem_of_mem_take hu)
  have hbox1 : ∀ u ∈ [Value.int .i64 k, .slice pv lv cv], u.oneCell' = true := by
    intro u hu
    simp only [List.mem_cons, List.not_mem_nil, or_false] at hu
    rcases hu with rfl | rfl <;> rfl
  have box : ∀ {w' : World} {kk : Nat} {e : TypeId} {fz : Nat × Nat}, w'.heap[kk]? = some (.cells #[.int .i64 k, .slice pv lv cv] e fz) → CellsAt w' (some (at0 kk)) [.int .i64 k, .slice pv lv cv] := fun h => box_cells h
  -- the end
  have fin0 : ∀ j, i ≤ j → j ≤ L.length → ins k bs L = L.take i ++ (k, bs) :: L.drop j → ∀ w' p' n' c', Ext w5 w' → OwnS w' w5.heap.size 85 2 p' n' c' ([] ++ (heldCells vs L).take (i * 2) ++ [.int .i64 k, .slice pv lv cv] ++ (heldCells vs L).drop (j * 2)) →
      ∃ p'' l'' c'', Value.slice p' n' c' = .slice p'' l'' c'' ∧ Ext w w' ∧ RefL w' (fun x => G x ∨ (w.heap.size ≤ x ∧ x < w'.heap.size)) p'' l'' c'' (ins k bs L) := by
    intro j hij hj hins w' p' n' c' hx ho
    have xw := x5.trans hx
    rw [heldCells_take i hvl, heldCells_drop j hvl] at ho
    have e1 : [] ++ heldCells (vs.take i) (L.take i) ++ [.int .i64 k, .slice pv lv cv] ++ heldCells (vs.drop j) (L.drop j) = heldCells (vs.take i ++ .slice pv lv cv :: vs.drop j) (L.take i ++ (k, bs) :: L.drop j) := by
      rw [heldCells_app (by simp [hvl]), List.nil_append, List.append_assoc]; rfl
    rw [e1] at ho
    have hup : ∀ v (b : List UInt8), SliceVal G w v b → SliceVal (fun x => G x ∨ (w.heap.size ≤ x ∧ x < w'.heap.size)) w' v b := fun v b hv => (hv.upd xw fun _ _ h => h).mono fun x hx => .inl hx
    have hlenx : n' = (ins k bs L).length := by
      have := ho.length
      rw [heldCells_length (by simp [hvl])] at this
      rw [hins]; omega
    refine ⟨p', n', c', rfl, xw, hlenx, ?_, ?_, ?_, vs.take i ++ .slice pv lv cv :: vs.drop j, ?_, ?_⟩
    · rcases ho.where_ with ⟨_, h0, h1⟩ | ⟨g, _, _, _, h1, _⟩
      · omega
      · exact h1
    · intro h0
      rcases ho.where_ with ⟨_, h1, _⟩ | ⟨g, h1, _⟩
      · exact h1
      · rw [h0] at h1; cases h1
    · intro a hpa
      rcases ho.where_ with ⟨h1, _⟩ | ⟨g, h1, hge, hlt, _⟩
      · rw [h1] at hpa; cases hpa
      · rw [h1] at hpa; cases hpa
        exact .inr ⟨Nat.le_trans x5.size hge, hlt⟩
    · rw [hins]
      exact (all2_imp (all2_take hvs i) fun v x hv => hup v x.2 hv).append (.cons (hup _ _ hv) (all2_imp (all2_drop hvs j) fun v x hv => hup v x.2 hv))
    · rw [hins]
      exact ho.cells
  refine condB_join (Q := i = l ∨ ∃ x, L[i]? = some x ∧ k ≤ x.1) (fun hlt hX => ?_) (fun hge => ?_) (fun hexit => ?_)
  · simp only [decide_eq_true_eq] at hlt
    obtain ⟨x, hxi⟩ : ∃ x, L[i]? = some x := ⟨L[i]'(by omega), List.getElem?_eq_getElem _⟩
    obtain ⟨a, rfl, hc⟩ := cellK i x hxi w25 x25
    rw [Int.toNat_natCast]
    refine ⟨⟨by omega, hlt⟩, _, hc, k, (row w25 x25).1, condB_of (fun hk => ?_) (fun hk => ?_)⟩
    · simp only [decide_eq_true_eq] at hk
      rw [w64 (by omega)]
      refine ⟨⟨i + 1, by omega, by omega, x25, fun y hy => ?_⟩, by show 4096 - ((i : Int) + 1).toNat < 4096 - (i : Int).toNat; omega⟩
      rw [List.take_add_one, hxi] at hy
      rcases List.mem_append.1 hy with hy | hy
      · exact hlo y hy
      · simp at hy; subst hy; exact hk
    · simp only [decide_eq_false_iff_not] at hk
      exact hX (.inr ⟨x, hxi, by omega⟩)
  · simp only [decide_eq_false_iff_not] at hge
    exact .inl (by omega)
  refine ⟨⟨by omega, by omega⟩, ?_⟩
  intro w29 d29
  have x29 := x25.trans d29.ext
  simp only [Int.toNat_natCast, Nat.sub_zero]
  refine condB_join (Q := ∀ y ∈ L.drop i, k < y.1) (fun hlt hX => ?_) (fun hge => ?_) (fun hrestk => ?_)
  · simp only [decide_eq_true_eq] at hlt
    obtain ⟨x, hxi⟩ : ∃ x, L[i]? = some x := ⟨L[i]'(by omega), List.getElem?_eq_getElem _⟩
    have hkx : k ≤ x.1 := by
      rcases hexit with h0 | ⟨x', hx', hk⟩
      · omega
      · rw [hxi] at hx'; cases hx'; exact hk
    obtain ⟨a, hpa, hc⟩ := cellK i x hxi w29 x29
    have hci : ¬ c = i := by omega
    have hcut : cutP p c i 2 = some (a.add (i * 2)) := by rw [hpa]; unfold cutP; rw [if_neg hci]; rfl
    refine ⟨⟨by omega, by omega⟩, nilM_of hcut ?_⟩
    refine ⟨_, hc, k, (row w29 x29).1, condB_of (fun hk => ?_) (fun hk => ?_)⟩
    · simp only [decide_eq_true_eq] at hk
      refine ⟨⟨by omega, by omega⟩, ?_⟩
      intro w33 d33
      have x33 := x29.trans d33.ext
      refine ⟨⟨by omega, by omega⟩, k, (row w33 x33).1, pv, lv, cv, (row w33 x33).2, ?_⟩
      have hlt' : i < L.length := (List.getElem?_eq_some_iff.1 hxi).1
      have hins : ins k bs L = L.take i ++ (k, bs) :: L.drop (i + 1) := by
        have e : L = L.take i ++ [x] ++ L.drop (i + 1) := by
          rw [List.append_assoc]
          have : L[i] = x := (List.getElem?_eq_some_iff.1 hxi).2
          rw [← this, List.singleton_append, ← List.drop_eq_getElem_cons hlt', List.take_append_drop]
        conv => lhs; rw [e]
        exact ins_of hlo (fun y hy => by simp at hy; subst hy; exact hk) (asc_split ha hxi hkx)
      have fin := fin0 (i + 1) (by omega) (by omega) hins
      have hrestl : ((heldCells vs L).drop ((i + 1) * 2)).length = (l - i - 1) * 2 := by rw [List.length_drop, heldCells_length hvl]; omega
      have hrest : ∀ w', Ext w w' → CellsAt w' (cutP (cutP p c i 2) (c - i) 1 2) ((heldCells vs L).drop ((i + 1) * 2)) := fun w' hx => by
        have h1 := cells_cut (hcells.ext hx) (c := c) (j := i) (fun e => by omega)
        have h2 := cells_cut h1 (c := c - i) (j := 1) (fun e => by
          apply List.eq_nil_of_length_eq_zero
          rw [List.length_drop, List.length_drop, heldCells_length hvl]; omega)
        rw [List.drop_drop] at h2
        rw [show (i + 1) * 2 = i * 2 + 1 * 2 by omega]
        exact h2
      have hrestn : cutP (cutP p c i 2) (c - i) 1 2 = none → l - i - 1 = 0 := fun e => by have := hpn (cutP_none (cutP_none e)); omega
      have hrest1 : ∀ u ∈ (heldCells vs L).drop ((i + 1) * 2), u.oneCell' = true := fun u hu => hone u (List.mem_of_mem_drop hu)
      refine ⟨fun k50 w51 hk50 => ?_, fun k36 w37 hk36 w39' w39 hk38 => ?_⟩
      · have x51 := x33.trans hk50.ext
        have own51 : OwnS w51 w5.heap.size 85 2 (some (at0 k50)) 0 0 [] := OwnS.made hk50 (by rw [hk50.size.1]; exact x33.size) (Nat.le_refl _) (by unfold maxLen; omega) rfl
        refine ⟨st _ x51, ?_, fun k54 w55 hk54 => ?_⟩
        · obtain ⟨p1', c1', w64, r64, own64, x64, _⟩ := own_app x51 own51 (q := cutP p c 0 2) (m := i) (d := c) hprel (hpre _ (x5.trans x51)) hpren hpre1 (by omega)
          refine ⟨_, _, _, _, r64, st _ x64, fun k68 w69 hk68 => ?_⟩
          obtain ⟨p2', c2', w70, r70, own70, x70, _⟩ := own_app (x64.trans hk68.ext) (own64.ext hk68.ext) (q := some (at0 k68)) (m := 1) (d := 1) rfl (box hk68.at) (fun h => by cases h) hbox1 (by omega)
          refine ⟨_, _, _, _, r70, ?_⟩
          obtain ⟨p3', c3', w72, r72, own72, x72, _⟩ := own_app x70 own70 (q := cutP (cutP p c i 2) (c - i) 1 2) (m := l - i - 1) (d := c - i - 1) (hrestl) (hrest _ (x5.trans x70)) hrestn hrest1 (by omega)
          exact ⟨_, _, _, _, r72, fin _ _ _ _ x72 own72⟩
        · have x55 := x51.trans hk54.ext
          obtain ⟨p1', c1', w56, r56, own56, x56, u56⟩ := own_app x55 (own51.ext hk54.ext) (q := cutP p c 0 2) (m := i) (d := c) hprel (hpre _ (x5.trans x55)) hpren hpre1 (by omega)
          refine ⟨_, _, _, _, r56, st _ x56, ?_⟩
          have hb54 := u56.keep hk54.at (by intro e; simp only [Option.some.injEq, at0, Addr.mk.injEq, and_true] at e; have := hk54.size.1; have := hk50.size; omega)
          obtain ⟨p2', c2', w60, r60, own60, x60, _⟩ := own_app x56 own56 (q := some (at0 k54)) (m := 1) (d := 1) rfl (box hb54) (fun h => by cases h) hbox1 (by omega)
          refine ⟨_, _, _, _, r60, ?_⟩
          obtain ⟨p3', c3', w62, r62, own62, x62, _⟩ := own_app x60 own60 (q := cutP (cutP p c i 2) (c - i) 1 2) (m := l - i - 1) (d := c - i - 1) (hrestl) (hrest _ (x5.trans x60)) hrestn hrest1 (by omega)
          exact ⟨_, _, _, _, r62, fin _ _ _ _ x62 own62⟩
      · have x37 := x33.trans hk36.ext
        have x39 := x37.trans hk38.ext
        have own39 : OwnS w39 w5.heap.size 85 2 (some (at0 w39')) 0 0 [] := OwnS.made hk38 (by rw [hk38.size.1]; exact x37.size) (Nat.le_refl _) (by unfold maxLen; omega) rfl
        obtain ⟨p1', c1', w42, r42, own42, x42, u42⟩ := own_app x39 own39 (q := cutP p c 0 2) (m := i) (d := c) hprel (hpre _ (x5.trans x39)) hpren hpre1 (by omega)
        refine ⟨st _ x39, _, _, _, _, r42, st _ x42, ?_⟩
        have hb36 := u42.keep (hk38.ext.keep hk36.at) (by intro e; simp only [Option.some.injEq, at0, Addr.mk.injEq, and_true] at e; have := hk36.size; have := hk38.size.1; omega)
        obtain ⟨p2', c2', w46, r46, own46, x46, _⟩ := own_app x42 own42 (q := some (at0 k36)) (m := 1) (d := 1) rfl (box hb36) (fun h => by cases h) hbox1 (by omega)
        refine ⟨_, _, _, _, r46, ?_⟩
        obtain ⟨p3', c3', w48, r48, own48, x48, _⟩ := own_app x46 own46 (q := cutP (cutP p c i 2) (c - i) 1 2) (m := l - i - 1) (d := c - i - 1) (hrestl) (hrest _ (x5.trans x46)) hrestn hrest1 (by omega)
        exact ⟨_, _, _, _, r48, fin _ _ _ _ x48 own48⟩
    · simp only [decide_eq_false_iff_not] at hk
      refine hX fun y hy => ?_
      have hlt' : i < L.length := (List.getElem?_eq_some_iff.1 hxi).1
      have hxe : L[i] = x := (List.getElem?_eq_some_iff.1 hxi).2
      rw [List.drop_eq_getElem_cons hlt', hxe] at hy
      rcases List.mem_cons.1 hy with rfl | hy
      · omega
      · exact asc_split ha hxi hkx y hy
  · simp only [decide_eq_false_iff_not] at hge
    have : L.drop i = [] := List.drop_eq_nil_of_le (by omega)
    rw [this]
    intro y hy; cases hy
  · intro w33 d33
    have x33 := x29.trans d33.ext
    refine ⟨⟨by omega, by omega⟩, k, (row w33 x33).1, pv, lv, cv, (row w33 x33).2, ?_⟩
    have hins : ins k bs L = L.take i ++ (k, bs) :: L.drop i := by
      have e : L = L.take i ++ [] ++ L.drop i := by simp
      conv => lhs; rw [e]
      exact ins_of hlo (fun y hy => by cases hy) hrestk
    have fin := fin0 i (Nat.le_refl _) (by omega) hins
    have hrestl : ((heldCells vs L).drop (i * 2)).length = (l - i) * 2 := by rw [List.length_drop, heldCells_length hvl]; omega
    have hrest : ∀ w', Ext w w' → CellsAt w' (cutP p c i 2) ((heldCells vs L).drop (i * 2)) := fun w' hx =>
      cells_cut (hcells.ext hx) (c := c) (j := i) (fun e => by
        apply List.eq_nil_of_length_eq_zero
        rw [List.length_drop, heldCells_length hvl]; omega)
    have hrestn : cutP p c i 2 = none → l - i = 0 := fun e => by have := hpn (cutP_none e); omega
    have hrest1 : ∀ u ∈ (heldCells vs L).drop (i * 2), u.oneCell' = true := fun u hu => hone u (List.mem_of_mem_drop hu)
    refine ⟨fun k50 w51 hk50 => ?_, fun k36 w37 hk36 w39' w39 hk38 => ?_⟩
    · have x51 := x33.trans hk50.ext
      have own51 : OwnS w51 w5.heap.size 85 2 (some (at0 k50)) 0 0 [] := OwnS.made hk50 (by rw [hk50.size.1]; exact x33.size) (Nat.le_refl _) (by unfold maxLen; omega) rfl
      refine ⟨st _ x51, ?_, fun k54 w55 hk54 => ?_⟩
      · obtain ⟨p1', c1', w64, r64, own64, x64, _⟩ := own_app x51 own51 (q := cutP p c 0 2) (m := i) (d := c) hprel (hpre _ (x5.trans x51)) hpren hpre1 (by omega)
        refine ⟨_, _, _, _, r64, st _ x64, fun k68 w69 hk68 => ?_⟩
        obtain ⟨p2', c2', w70, r70, own70, x70, _⟩ := own_app (x64.trans hk68.ext) (own64.ext hk68.ext) (q := some (at0 k68)) (m := 1) (d := 1) rfl (box hk68.at) (fun h => by cases h) hbox1 (by omega)
        refine ⟨_, _, _, _, r70, ?_⟩
        obtain ⟨p3', c3', w72, r72, own72, x72, _⟩ := own_app x70 own70 (q := cutP p c i 2) (m := l - i) (d := c - i) (hrestl) (hrest _ (x5.trans x70)) hrestn hrest1 (by omega)
        exact ⟨_, _, _, _, r72, fin _ _ _ _ x72 own72⟩
      · have x55 := x51.trans hk54.ext
        obtain ⟨p1', c1', w56, r56, own56, x56, u56⟩ := own_app x55 (own51.ext hk54.ext) (q := cutP p c 0 2) (m := i) (d := c) hprel (hpre _ (x5.trans x55)) hpren hpre1 (by omega)
        refine ⟨_, _, _, _, r56, st _ x56, ?_⟩
        have hb54 := u56.keep hk54.at (by intro e; simp only [Option.some.injEq, at0, Addr.mk.injEq, and_true] at e; have := hk54.size.1; have := hk50.size; omega)
        obtain ⟨p2', c2', w60, r60, own60, x60, _⟩ := own_app x56 own56 (q := some (at0 k54)) (m := 1) (d := 1) rfl (box hb54) (fun h => by cases h) hbox1 (by omega)
        refine ⟨_, _, _, _, r60, ?_⟩
        obtain ⟨p3', c3', w62, r62, own62, x62, _⟩ := own_app x60 own60 (q := cutP p c i 2) (m := l - i) (d := c - i) (hrestl) (hrest _ (x5.trans x60)) hrestn hrest1 (by omega)
        exact ⟨_, _, _, _, r62, fin _ _ _ _ x62 own62⟩
    · have x37 := x33.trans hk36.ext
      have x39 := x37.trans hk38.ext
      have own39 : OwnS w39 w5.heap.size 85 2 (some (at0 w39')) 0 0 [] := OwnS.made hk38 (by rw [hk38.size.1]; exact x37.size) (Nat.le_refl _) (by unfold maxLen; omega) rfl
      obtain ⟨p1', c1', w42, r42, own42, x42, u42⟩ := own_app x39 own39 (q := cutP p c 0 2) (m := i) (d := c) hprel (hpre _ (x5.trans x39)) hpren hpre1 (by omega)
      refine ⟨st _ x39, _, _, _, _, r42, st _ x42, ?_⟩
      have hb36 := u42.keep (hk38.ext.keep hk36.at) (by intro e; simp only [Option.some.injEq, at0, Addr.mk.injEq, and_true] at e; have := hk36.size; have := hk38.size.1; omega)
      obtain ⟨p2', c2', w46, r46, own46, x46, _⟩ := own_app x42 own42 (q := some (at0 k36)) (m := 1) (d := 1) rfl (box hb36) (fun h => by cases h) hbox1 (by omega)
      refine ⟨_, _, _, _, r46, ?_⟩
      obtain ⟨p3', c3', w48, r48, own48, x48, _⟩ := own_app x46 own46 (q := cutP p c i 2) (m := l - i) (d := c - i) (hrestl) (hrest _ (x5.trans x46)) hrestn hrest1 (by omega)
      exact ⟨_, _, _, _, r48, fin _ _ _ _ x48 own48⟩
end Go.Proofs.Ytbidancfbilbkaa
