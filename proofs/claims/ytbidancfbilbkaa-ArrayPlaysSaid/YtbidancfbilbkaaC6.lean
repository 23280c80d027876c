/- What a disk tells: its sectors, sorted. -/
import Derived.Test.YtbidancfbilbkaaC5
import Derived.Maps.Own
import Derived.Lib.SlKeysI
namespace Go.Proofs.Ytbidancfbilbkaa
open Go Go.Vc

/-- A MAP OF INTS AS THE KIT's MAPS READ: its keys alone. -/
theorem owns_of {β : Type} {V : Value → β → Prop} {P : Program} {t : TypeId} (ht : P.underlying t = some (.int .i64)) {w : World} {m : Nat} {L : List (Int × β)} (h : MapOf intK V w m L)
    (hk : ∀ x ∈ L, (Lit.int .i64 x.1).wf = true) (hn : L.length ≤ maxLen) :
    ∃ D : DataW Unit, w.ownsMap P t (fun _ => some (.nil, [])) m L.length D ∧ (intKeys D).Perm (L.map (·.1)) ∧ Maps.size D = L.length := by
  obtain ⟨es, clock, l, hm, hok, hp⟩ := h
  have hlen : es.toList.length = L.length := (hok.ents.length).trans hp.length_eq
  have hk' : ∀ x ∈ l, (Lit.int .i64 x.1).wf = true := fun x hx => hk x (hp.mem_iff.1 hx)
  have hrd : ∀ (xs : List MapEntry) (bs : List (Int × β)), All2 (EntOk intK V) xs bs → (∀ x ∈ bs, (Lit.int .i64 x.1).wf = true) →
      (∀ a ∈ xs, ∃ y, Go.WideElems.rd (H := Unit) P t (fun _ => some (.nil, [])) a = some y) ∧ xs.map (Go.WideElems.rg (H := Unit) P t (fun _ => some (.nil, []))) = bs.map (fun x => (Lit.int .i64 x.1, DataW.nil)) ∧
      xs.map (·.key) = bs.map fun x => Value.int .i64 x.1 := by
    intro xs bs h2
    induction h2 with
    | nil => intro _; exact ⟨fun _ h => (by cases h), rfl, rfl⟩
    | cons h1 _ ih =>
      intro hw
      rename_i a b xs' bs' _
      obtain ⟨i1, i2, i3⟩ := ih fun x hx => hw x (List.mem_cons_of_mem _ hx)
      have hkey : keyOf P t a.key = some (Lit.int .i64 b.1) := by
        rw [h1.1]
        have := hw b List.mem_cons_self
        simp [intK, keyOf, ht, mapKey, this]
      have hr : Go.WideElems.rd (H := Unit) P t (fun _ => some (.nil, [])) a = some (Lit.int .i64 b.1, DataW.nil) := by
        simp [Go.WideElems.rd, hkey]
      refine ⟨?_, ?_, ?_⟩
      · intro x hx
        rcases List.mem_cons.1 hx with rfl | hx
        · exact ⟨_, hr⟩
        · exact i1 x hx
      · simp only [List.map_cons, i2]
        rw [Go.WideElems.rg_of hr]
      · simp only [List.map_cons, i3, h1.1]; rfl
  obtain ⟨r1, r2, r3⟩ := hrd _ _ hok.ents hk'
  have hsort := Go.WideShapes.sorted_perm (l.map fun x => (Lit.int .i64 x.1, (DataW.nil : DataW Unit)))
  refine ⟨_, ⟨es, clock, hm, ⟨by rw [← Array.length_toList]; omega, ⟨hok.born, hok.nodup, ?_⟩, r1⟩, by rw [← Array.length_toList]; omega, rfl⟩, ?_, ?_⟩
  · rw [r3]
    have := hok.keys
    rw [show (l.map fun x => Value.int .i64 x.1) = (l.map (·.1)).map (Value.int .i64) by simp]
    exact List.Pairwise.map _ (fun a b hab h => hab (by simpa using h)) this
  · rw [r2]
    refine (hsort.map _).trans ?_
    simp only [List.map_map]
    exact hp.map _
  · rw [r2]
    simp only [Go.Maps.size]
    rw [hsort.length_eq, List.length_map]
    exact hp.length_eq

/-- slices.Sorted(maps.Keys(m)) -/
def KeySort : Prop := ∀ (w : World) (m : Nat) (L : SM) (V : Value → List UInt8 → Prop), MapOf intK V w m L → Asc L → (∀ x ∈ L, 0 ≤ x.1 ∧ x.1 < 4096) → L.length ≤ 4096 →
  Calls Try.prog 71 #[.map (some m)] w fun e1 w1 => ∃ v, e1 = .returned v ∧ Calls Try.prog 70 #[v] w1 fun e w' => ∃ p l c, e = .returned (.slice p l c) ∧ Ext w w' ∧
    OwnS w' w.heap.size 3 1 p l c (L.map fun x => .int .i64 x.1) ∧ l = L.length

/-- a block of bytes of a call's own -/
def ByB (w : World) (base : Nat) (y : Nat) : Prop := base ≤ y ∧ ∃ cs fz, w.heap[y]? = some (.cells cs 5 fz)
theorem ByB.lt {w : World} {base y : Nat} (h : ByB w base y) : y < w.heap.size := by
  obtain ⟨_, cs, fz, h⟩ := h
  exact lt_of_heap h
theorem ByB.upd {S : Nat → Prop} {w w' : World} {base y : Nat} (h : ByB w base y) (hu : Upd S w w') (hS : ¬ S y) : ByB w' base y := by
  obtain ⟨h1, cs, fz, h2⟩ := h
  exact ⟨h1, cs, fz, hu.keep h2 hS⟩

def heldCells : List Value → SM → List Value
  | v :: vs, x :: L => .int .i64 x.1 :: v :: heldCells vs L
  | _, _ => []
theorem heldCells_length : ∀ {vs : List Value} {L : SM}, vs.length = L.length → (heldCells vs L).length = 2 * L.length
  | [], [], _ => rfl
  | v :: vs, x :: L, h => by
    have := heldCells_length (vs := vs) (L := L) (by simpa using h)
    simp only [heldCells, List.length_cons, this]; omega
theorem heldCells_append : ∀ {vs : List Value} {L : SM} (v : Value) (x : Int × List UInt8), vs.length = L.length → heldCells (vs ++ [v]) (L ++ [x]) = heldCells vs L ++ [.int .i64 x.1, v]
  | [], [], _, _, _ => rfl
  | v' :: vs, x' :: L, v, x, h => by
    have := heldCells_append (vs := vs) (L := L) v x (by simpa using h)
    simp only [List.cons_append, heldCells, this]
theorem heldCells_at : ∀ {vs : List Value} {L : SM} {i : Nat} {v : Value} {x : Int × List UInt8}, vs[i]? = some v → L[i]? = some x → (heldCells vs L)[2 * i]? = some (.int .i64 x.1) ∧ (heldCells vs L)[2 * i + 1]? = some v
  | _ :: _, _ :: _, 0, _, _, h1, h2 => by
    simp only [List.getElem?_cons_zero, Option.some.injEq] at h1 h2
    subst h1; subst h2
    exact ⟨rfl, rfl⟩
  | v' :: vs, x' :: L, i + 1, v, x, h1, h2 => by
    have := heldCells_at (vs := vs) (L := L) (i := i) (by simpa using h1) (by simpa using h2)
    rw [show 2 * (i + 1) = 2 * i + 1 + 1 by omega]
    simpa [heldCells] using this
  | [], _, _, _, _, h1, _ => by simp at h1
  | _ :: _, [], _, _, _, _, h2 => by simp at h2

/-- bytes of a call's own -/
def ElemOwn (w : World) (base : Nat) (v : Value) (bs : List UInt8) : Prop :=
  ∃ p n c, v = .slice p n c ∧ OwnS w base 5 1 p n c (encB bs) ∧ bs ≠ [] ∧ n ≤ 4108
theorem ElemOwn.upd {S : Nat → Prop} {w w' : World} {base : Nat} {v : Value} {bs : List UInt8} (h : ElemOwn w base v bs) (hu : Upd S w w') (hS : ∀ y, ByB w base y → ¬ S y) : ElemOwn w' base v bs := by
  obtain ⟨p, n, c, rfl, ho, h1, h2⟩ := h
  refine ⟨p, n, c, rfl, ho.upd hu fun g hg => ?_, h1, h2⟩
  rcases ho.where_ with ⟨hp, _⟩ | ⟨g', hp, hb, _, _, cur, hg', _⟩
  · rw [hp] at hg; cases hg
  · rw [hp] at hg
    simp only [Option.some.injEq, at0, Addr.mk.injEq, and_true] at hg
    subst hg
    exact hS _ ⟨hb, cur, _, hg'⟩
theorem ElemOwn.base_le {w : World} {base base' : Nat} {v : Value} {bs : List UInt8} (h : ElemOwn w base v bs) (hb : base' ≤ base) : ElemOwn w base' v bs := by
  obtain ⟨p, n, c, rfl, ho, h1, h2⟩ := h
  exact ⟨p, n, c, rfl, ho.base_le hb, h1, h2⟩
theorem ElemOwn.val {w : World} {base : Nat} {v : Value} {bs : List UInt8} (h : ElemOwn w base v bs) : SliceVal (ByB w base) w v bs := by
  obtain ⟨p, n, c, rfl, ho, h1, h2⟩ := h
  have hb := BytesAt.of_cells ho.cells
  have hl : n = bs.length := by
    have := ho.length
    rw [encB_length, Nat.mul_one] at this
    exact this.symm
  rw [← hl] at hb
  refine ⟨p, n, c, rfl, hb, h1, h2, fun a ha => ?_⟩
  rcases ho.where_ with ⟨hp, _⟩ | ⟨g, hp, hge, _, _, cur, hg, _⟩
  · rw [hp] at ha; cases ha
  · rw [hp] at ha; cases ha
    exact ⟨hge, cur, _, hg⟩

/-- WHAT IS TOLD: a slice of the call's own, of sectors and their bytes, of the call's own as well -/
def HeldS (w : World) (base : Nat) (p : Option Addr) (l c : Nat) (L : SM) : Prop :=
  ∃ vs, All2 (fun v (x : Int × List UInt8) => ElemOwn w base v x.2) vs L ∧ OwnS w base 85 2 p l c (heldCells vs L) ∧ l = L.length

theorem all2_imp {α β : Type} {R R' : α → β → Prop} {xs : List α} {bs : List β} (h : All2 R xs bs) (hi : ∀ a b, R a b → R' a b) : All2 R' xs bs := by
  induction h with
  | nil => exact .nil
  | cons h _ ih => exact .cons (hi _ _ h) ih
theorem all2_at {α β : Type} {R : α → β → Prop} {xs : List α} {bs : List β} (h : All2 R xs bs) : ∀ {i : Nat} {b : β}, bs[i]? = some b → ∃ a, xs[i]? = some a ∧ R a b := by
  induction h with
  | nil => intro i b hb; simp at hb
  | cons h _ ih =>
    intro i b hb
    cases i with
    | zero => simp only [List.getElem?_cons_zero, Option.some.injEq] at hb ⊢; subst hb; exact ⟨_, rfl, h⟩
    | succ i => simp only [List.getElem?_cons_succ] at hb ⊢; exact ih hb

theorem HeldS.upd {S : Nat → Prop} {w w' : World} {base : Nat} {p : Option Addr} {l c : Nat} {L : SM} (h : HeldS w base p l c L) (hu : Upd S w w') (hS : ∀ y, base ≤ y → y < w.heap.size → ¬ S y) : HeldS w' base p l c L := by
  obtain ⟨vs, h1, h2, h3⟩ := h
  refine ⟨vs, all2_imp h1 fun v x hv => ?_, h2.upd hu ?_, h3⟩
  · exact hv.upd hu fun y hy => hS y hy.1 hy.lt
  · intro g hg
    rcases h2.where_ with ⟨hp, _⟩ | ⟨g', hp, hb, hlt, _⟩
    · rw [hp] at hg; cases hg
    · rw [hp] at hg
      simp only [Option.some.injEq, at0, Addr.mk.injEq, and_true] at hg
      subst hg
      exact hS _ hb hlt
theorem HeldS.ext {w w' : World} {base : Nat} {p : Option Addr} {l c : Nat} {L : SM} (h : HeldS w base p l c L) (hu : Ext w w') : HeldS w' base p l c L := h.upd hu fun _ _ _ h => h
theorem HeldS.length {w : World} {base : Nat} {p : Option Addr} {l c : Nat} {L : SM} (h : HeldS w base p l c L) : l = L.length := by
  obtain ⟨_, _, _, h⟩ := h; exact h
/-- the sector that is told at a place -/
theorem HeldS.at {w : World} {base : Nat} {p : Option Addr} {l c : Nat} {L : SM} (h : HeldS w base p l c L) {i : Nat} {x : Int × List UInt8} (hi : L[i]? = some x) :
    ∃ a v, p = some a ∧ w.cell? (a.add (2 * i)) = some (.int .i64 x.1) ∧ w.cell? (a.add (2 * i + 1)) = some v ∧ SliceVal (ByB w base) w v x.2 := by
  obtain ⟨vs, h1, h2, _⟩ := h
  obtain ⟨v, hv, hs⟩ := all2_at h1 hi
  obtain ⟨c1, c2⟩ := heldCells_at hv hi
  obtain ⟨a, ha, e1⟩ := h2.cells _ _ c1
  obtain ⟨a', ha', e2⟩ := h2.cells _ _ c2
  rw [ha] at ha'
  cases ha'
  exact ⟨a, v, ha, e1, e2, hs.val⟩

theorem elemH : ElemOf Try.prog 33 85 2 32 := ⟨by kernel_rfl, ⟨Try.t85, .agg #[.int .i64 0, .slice none 0 0], by kernel_rfl, by kernel_rfl, by kernel_rfl, by kernel_rfl, by kernel_rfl⟩, by decide⟩

theorem asc_bound {n : Nat} : ∀ {L : SM} {lo : Int}, Asc L → (∀ x ∈ L, lo ≤ x.1 ∧ x.1 < lo + n) → L.length ≤ n := by
  induction n with
  | zero =>
    intro L lo _ h
    cases L with
    | nil => simp
    | cons a L => have := h a List.mem_cons_self; omega
  | succ n ih =>
    intro L lo ha h
    cases L with
    | nil => simp
    | cons a L =>
      obtain ⟨h1, h2⟩ := List.pairwise_cons.1 ha
      have := ih (L := L) (lo := lo + 1) h2 fun x hx => by
        have := h1 x hx; have := h a List.mem_cons_self; have := h x (List.mem_cons_of_mem _ hx)
        omega
      simp only [List.length_cons]; omega

set_option maxHeartbeats 1000000 in
theorem told_spec (KS : KeySort) {w : World} {m : Nat} {L : SM} {G : Nat → Prop} (h : MapOf intK (SliceVal G w) w m L) (ha : Asc L) (hr : ∀ x ∈ L, 0 ≤ x.1 ∧ x.1 < 4096) :
    Calls Try.prog 59 #[.map (some m)] w fun e w' => ∃ p l c, e = .returned (.slice p l c) ∧ Ext w w' ∧ HeldS w' w.heap.size p l c L := by
  have hlen : L.length ≤ 4096 := asc_bound (lo := 0) ha fun x hx => by have := hr x hx; omega
  refine (F59_calls (some m) w (fun v w' => ∃ p l c, v = .slice p l c ∧ Ext w w' ∧ HeldS w' w.heap.size p l c L)
    (fun _ _ _ _ w5 p l c n w14 => ∃ i : Nat, n = i ∧ i ≤ L.length ∧ Ext w5 w14 ∧ HeldS w14 w5.heap.size p l c (L.take i))
    (fun _ _ _ _ _ _ _ _ n _ => 4096 - n.toNat) ?_).mono (by rintro e w' ⟨v, rfl, p, l, c, rfl, h⟩; exact ⟨p, l, c, rfl, h⟩)
  refine (KS w m L _ h ha hr hlen).mono ?_
  rintro e w2 ⟨v, rfl, hc⟩
  refine ⟨v, rfl, hc.mono ?_⟩
  rintro e w5 ⟨p7, l7, c7, rfl, hx5, hown5, rfl⟩
  refine ⟨p7, _, c7, rfl, ⟨0, rfl, Nat.zero_le _, Upd.refl _ _, [], .nil, OwnS.nil _ _ _ _, rfl⟩, ?_⟩
  rintro p12 l12 c12 n13 w14 ⟨i, rfl, hi, hx14, hh⟩
  intros
  refine condB_of (fun hlt => ?_) (fun hge => ?_)
  · simp only [decide_eq_true_eq] at hlt
    have hlt' : i < L.length := by omega
    refine ⟨⟨by omega, hlt⟩, ?_⟩
    obtain ⟨x, hxi⟩ : ∃ x, L[i]? = some x := ⟨L[i], List.getElem?_eq_getElem hlt'⟩
    have hxm : x ∈ L := List.mem_of_getElem? hxi
    obtain ⟨a, ha7, hcell⟩ := (hown5.ext hx14).cells i (.int .i64 x.1) (by rw [List.getElem?_map, hxi]; rfl)
    subst ha7
    refine ⟨x.1, by simpa using hcell, ?_⟩
    have hx : Ext w w14 := Upd.trans hx5 hx14 fun _ _ h => h
    have hm14 : MapOf intK (SliceVal G w14) w14 m L := (h.upd hx id).mono fun v x hv => hv.upd hx fun _ _ h => h
    rcases hm14.lookup mapT intT zeroT x.1 with ⟨y, v, hy, hv, hl⟩ | ⟨hno, _⟩
    rotate_left
    · have := (get_some ha.nodup (k := x.1) (x := x.2)).1 hxm
      rw [this] at hno; cases hno
    have hyx : y = x.2 := by
      have := (get_some ha.nodup (k := x.1) (x := x.2)).1 hxm
      rw [this] at hy; cases hy; rfl
    subst hyx
    obtain ⟨p, n, c, rfl, hb, hne, hn, _⟩ := hv
    refine ⟨p, n, c, true, hl, ?_⟩
    refine (clone_spec hb (by omega) (fun e => by
      obtain ⟨a, ha, _⟩ := hb.lt hne
      rw [e] at ha; cases ha)).mono ?_
    rintro e w33 ⟨p', c', rfl, hx33, hown33, _⟩
    refine ⟨p', n, c', rfl, ?_⟩
    intro k w37 hk
    obtain ⟨vs, hvs, hownH, hl12⟩ := hh.ext (Upd.trans hx33 hk.ext fun _ _ h => h)
    have hvl : vs.length = (L.take i).length := hvs.length
    have hcs : CellsAt w37 (some (at0 k)) [.int .i64 x.1, .slice p' n c'] := by
      intro j u hj
      refine ⟨_, rfl, ?_⟩
      have hb := hk.at
      match j, hj with
      | 0, hj => cases hj; simp [World.cell?, Addr.add, hb]
      | 1, hj => cases hj; simp [World.cell?, Addr.add, hb]
    have hs37 : w5.heap.size ≤ w37.heap.size := by
      have := hx14.size; have := hx33.size; have := hk.size; omega
    obtain ⟨p39, c39, w38, hrun, hown38, hu38, _⟩ := hownH.append elemH 33 (q := some (at0 k)) (m := 1) (d := 1) (news := [.int .i64 x.1, .slice p' n c']) rfl hcs (fun h => by cases h)
      (by intro u hu; simp only [List.mem_cons, List.not_mem_nil, or_false] at hu; rcases hu with rfl | rfl <;> rfl) (by simp only [List.length_take] at hl12; unfold maxLen; omega) (by simp only [List.length_take] at hl12; omega) hs37
    refine ⟨p39, l12 + 1, c39, w38, hrun, ?_⟩
    have hw : IntKind.i64.wrap ((i : Int) + 1) = ((i + 1 : Nat) : Int) := by
      rw [w64 (by omega)]; omega
    rw [hw]
    -- the buffer is no block of bytes
    have hbuf : ∀ y, ByB w37 w5.heap.size y → ¬ (p12 = some (at0 y)) := by
      rintro y ⟨_, cs, fz, hy⟩ hp
      rcases hownH.where_ with ⟨hp', _⟩ | ⟨g, hp', _, _, _, cur, hg, _⟩
      · rw [hp] at hp'; cases hp'
      · rw [hp] at hp'
        simp only [Option.some.injEq, at0, Addr.mk.injEq, and_true] at hp'
        subst hp'
        rw [hy] at hg
        simp at hg
    have hup : ∀ (v : Value) (b : List UInt8), ElemOwn w37 w5.heap.size v b → ElemOwn w38 w5.heap.size v b := fun v b hv => hv.upd hu38 hbuf
    have hnew : ElemOwn w37 w5.heap.size (.slice p' n c') x.2 := ⟨p', n, c', rfl, (hown33.ext hk.ext).base_le hx14.size, hne, hn⟩
    refine ⟨⟨i + 1, rfl, by omega, ?_, vs ++ [.slice p' n c'], ?_, ?_, ?_⟩, ?_⟩
    · refine Upd.trans (Upd.trans hx14 (Upd.trans hx33 hk.ext fun _ _ h => h) fun _ _ h => h) hu38 fun y hy hs => ?_
      rcases hownH.where_ with ⟨hp', _⟩ | ⟨g, hp', hge, _⟩
      · rw [hp'] at hs; cases hs
      · rw [hp'] at hs
        simp only [Option.some.injEq, at0, Addr.mk.injEq, and_true] at hs
        omega
    · rw [List.take_add_one, hxi]
      exact (all2_imp hvs fun v x hv => hup v x.2 hv).append (.cons (hup _ _ hnew) .nil)
    · rw [List.take_add_one, hxi]
      simp only [Option.toList_some]
      rw [heldCells_append _ _ hvl]
      exact hown38
    · simp only [List.length_take] at hl12 ⊢; omega
    · simp only [Int.toNat_natCast]; omega
  · simp only [decide_eq_false_iff_not] at hge
    have hi' : i = L.length := by omega
    subst hi'
    rw [List.take_length] at hh
    refine ⟨p12, l12, c12, rfl, Upd.trans hx5 hx14 fun _ _ h => h, ?_⟩
    obtain ⟨vs, h1, h2, h3⟩ := hh
    exact ⟨vs, all2_imp h1 fun v x hv => hv.base_le hx5.size, h2.base_le hx5.size, h3⟩
end Go.Proofs.Ytbidancfbilbkaa
