/- What a disk tells: its sectors, sorted. -/
import Derived.Test.YtphkmbkmjhbenaaC5
import Derived.Maps.Own
import Derived.Lib.SlKeysI
namespace Go.Proofs.Ytphkmbkmjhbenaa
open Go Go.Vc

/-- A MAP OF INTS AS THE KIT's MAPS READ: its keys alone. -/
theorem owns_of {β : Type} {V : Value → β → Prop} {P : Program} {t : TypeId} (ht : P.underlying t = some (.int .i64)) {w : World} {m : Nat} {L : List (Int × β)} (h : MapOf intK V w m L)
    (hk : ∀ x ∈ L, (Lit.int .i64 x.1).wf = true) (hn : L.length ≤ maxLen) :
    ∃ D : DataW Unit, w.ownsMap P t (fun _ => some (.nil, [])) m L.length D ∧ (intKeys D).Perm (L.map (·.1)) ∧ Maps.size D = L.length := by
  obtain ⟨es, clock, l, hm, hok, hp⟩ := h
  have hlen : es.toList.length = L.length := (hok.ents.length).trans hp.length_eq
  have hk' : ∀ x ∈ l, (Lit.int .i64 x.1).wf = true := fun x hx => hk x (hp.mem_iff.1 hx)
  have hrd : ∀ (xs : List MapEntry) (bs : List (Int × β)), All2 (EntOk intK V) xs bs → (∀ x ∈ bs, (Lit.int .i64 x.1).wf = true) →
      (∀ a ∈ xs, ∃ y, Go.WideElems.rd (H := Unit) P t (fun _ => some (.nil, [])) a = some y) ∧ xs.map (Go.WideElems.rg (H := Unit) P t (fun _ => some (.nil, []))) = bs.map (fun x => (Lit.int .i64 x.1, DataW.nil)) ∧
      xs.map (·.key) = bs.map fun x => Value.int .i64 x.1 := by
    intro xs bs h2
    induction h2 with
    | nil => intro _; exact ⟨fun _ h => (by cases h), rfl, rfl⟩
    | cons h1 _ ih =>
      intro hw
      rename_i a b xs' bs' _
      obtain ⟨i1, i2, i3⟩ := ih fun x hx => hw x (List.mem_cons_of_mem _ hx)
      have hkey : keyOf P t a.key = some (Lit.int .i64 b.1) := by
        rw [h1.1]
        have := hw b List.mem_cons_self
        simp [intK, keyOf, ht, mapKey, this]
      have hr : Go.WideElems.rd (H := Unit) P t (fun _ => some (.nil, [])) a = some (Lit.int .i64 b.1, DataW.nil) := by
        simp [Go.WideElems.rd, hkey]
      refine ⟨?_, ?_, ?_⟩
      · intro x hx
        rcases List.mem_cons.1 hx with rfl | hx
        · exact ⟨_, hr⟩
        · exact i1 x hx
      · simp only [List.map_cons, i2]
        rw [Go.WideElems.rg_of hr]
      · simp only [List.map_cons, i3, h1.1]; rfl
  obtain ⟨r1, r2, r3⟩ := hrd _ _ hok.ents hk'
  have hsort := Go.WideShapes.sorted_perm (l.map fun x => (Lit.int .i64 x.1, (DataW.nil : DataW Unit)))
  refine ⟨_, ⟨es, clock, hm, ⟨by rw [← Array.length_toList]; omega, ⟨hok.born, hok.nodup, ?_⟩, r1⟩, by rw [← Array.length_toList]; omega, rfl⟩, ?_, ?_⟩
  · rw [r3]
    have := hok.keys
    rw [show (l.map fun x => Value.int .i64 x.1) = (l.map (·.1)).map (Value.int .i64) by simp]
    exact List.Pairwise.map _ (fun a b hab h => hab (by simpa using h)) this
  · rw [r2]
    refine (hsort.map _).trans ?_
    simp only [List.map_map]
    exact hp.map _
  · rw [r2]
    simp only [Go.Maps.size]
    rw [hsort.length_eq, List.length_map]
    exact hp.length_eq

/-- a block of bytes of a call's own -/
def ByB (w : World) (base : Nat) (y : Nat) : Prop := base ≤ y ∧ ∃ cs fz, w.heap[y]? = some (.cells cs 5 fz)
theorem ByB.lt {w : World} {base y : Nat} (h : ByB w base y) : y < w.heap.size := by
  obtain ⟨_, cs, fz, h⟩ := h
  exact lt_of_heap h
theorem ByB.upd {S : Nat → Prop} {w w' : World} {base y : Nat} (h : ByB w base y) (hu : Upd S w w') (hS : ¬ S y) : ByB w' base y := by
  obtain ⟨h1, cs, fz, h2⟩ := h
  exact ⟨h1, cs, fz, hu.keep h2 hS⟩

def heldCells : List Value → SM → List Value
  | v :: vs, x :: L => .int .i64 x.1 :: v :: heldCells vs L
  | _, _ => []
theorem heldCells_length : ∀ {vs : List Value} {L : SM}, vs.length = L.length → (heldCells vs L).length = 2 * L.length
  | [], [], _ => rfl
  | v :: vs, x :: L, h => by
    have := heldCells_length (vs := vs) (L := L) (by simpa using h)
    simp only [heldCells, List.length_cons, this]; omega
theorem heldCells_append : ∀ {vs : List Value} {L : SM} (v : Value) (x : Int × List UInt8), vs.length = L.length → heldCells (vs ++ [v]) (L ++ [x]) = heldCells vs L ++ [.int .i64 x.1, v]
  | [], [], _, _, _ => rfl
  | v' :: vs, x' :: L, v, x, h => by
    have := heldCells_append (vs := vs) (L := L) v x (by simpa using h)
    simp only [List.cons_append, heldCells, this]
theorem heldCells_at : ∀ {vs : List Value} {L : SM} {i : Nat} {v : Value} {x : Int × List UInt8}, vs[i]? = some v → L[i]? = some x → (heldCells vs L)[2 * i]? = some (.int .i64 x.1) ∧ (heldCells vs L)[2 * i + 1]? = some v
  | _ :: _, _ :: _, 0, _, _, h1, h2 => by
    simp only [List.getElem?_cons_zero, Option.some.injEq] at h1 h2
    subst h1; subst h2
    exact ⟨rfl, rfl⟩
  | v' :: vs, x' :: L, i + 1, v, x, h1, h2 => by
    have := heldCells_at (vs := vs) (L := L) (i := i) (by simpa using h1) (by simpa using h2)
    rw [show 2 * (i + 1) = 2 * i + 1 + 1 by omega]
    simpa [heldCells] using this
  | [], _, _, _, _, h1, _ => by simp at h1
  | _ :: _, [], _, _, _, _, h2 => by simp at h2

/-- bytes of a call's own -/
def ElemOwn (w : World) (base : Nat) (v : Value) (bs : List UInt8) : Prop :=
  ∃ p n c, v = .slice p n c ∧ OwnS w base 5 1 p n c (encB bs) ∧ bs ≠ [] ∧ n ≤ 4108
theorem ElemOwn.upd {S : Nat → Prop} {w w' : World} {base : Nat} {v : Value} {bs : List UInt8} (h : ElemOwn w base v bs) (hu : Upd S w w') (hS : ∀ y, ByB w base y → ¬ S y) : ElemOwn w' base v bs := by
  obtain ⟨p, n, c, rfl, ho, h1, h2⟩ := h
  refine ⟨p, n, c, rfl, ho.upd hu fun g hg => ?_, h1, h2⟩
  rcases ho.where_ with ⟨hp, _⟩ | ⟨g', hp, hb, _, _, cur, hg', _⟩
  · rw [hp] at hg; cases hg
  · rw [hp] at hg
    simp only [Option.some.injEq, at0, Addr.mk.injEq, and_true] at hg
    subst hg
    exact hS _ ⟨hb, cur, _, hg'⟩
theorem ElemOwn.base_le {w : World} {base base' : Nat} {v : Value} {bs : List UInt8} (h : ElemOwn w base v bs) (hb : base' ≤ base) : ElemOwn w base' v bs := by
  obtain ⟨p, n, c, rfl, ho, h1, h2⟩ := h
  exact ⟨p, n, c, rfl, ho.base_le hb, h1, h2⟩
theorem ElemOwn.val {w : World} {base : Nat} {v : Value} {bs : List UInt8} (h : ElemOwn w base v bs) : SliceVal (ByB w base) w v bs := by
  obtain ⟨p, n, c, rfl, ho, h1, h2⟩ := h
  have hb := BytesAt.of_cells ho.cells
  have hl : n = bs.length := by
    have := ho.length
    rw [encB_length, Nat.mul_one] at this
    exact this.symm
  rw [← hl] at hb
  refine ⟨p, n, c, rfl, hb, h1, h2, fun a ha => ?_⟩
  rcases ho.where_ with ⟨hp, _⟩ | ⟨g, hp, hge, _, _, cur, hg, _⟩
  · rw [hp] at ha; cases ha
  · rw [hp] at ha; cases ha
    exact ⟨hge, cur, _, hg⟩

theorem all2_imp {α β : Type} {R R' : α → β → Prop} {xs : List α} {bs : List β} (h : All2 R xs bs) (hi : ∀ a b, R a b → R' a b) : All2 R' xs bs := by
  induction h with
  | nil => exact .nil
  | cons h _ ih => exact .cons (hi _ _ h) ih
theorem all2_at {α β : Type} {R : α → β → Prop} {xs : List α} {bs : List β} (h : All2 R xs bs) : ∀ {i : Nat} {b : β}, bs[i]? = some b → ∃ a, xs[i]? = some a ∧ R a b := by
  induction h with
  | nil => intro i b hb; simp at hb
  | cons h _ ih =>
    intro i b hb
    cases i with
    | zero => simp only [List.getElem?_cons_zero, Option.some.injEq] at hb ⊢; subst hb; exact ⟨_, rfl, h⟩
    | succ i => simp only [List.getElem?_cons_succ] at hb ⊢; exact ih hb

theorem asc_bound {n : Nat} : ∀ {L : SM} {lo : Int}, Asc L → (∀ x ∈ L, lo ≤ x.1 ∧ x.1 < lo + n) → L.length ≤ n := by
  induction n with
  | zero =>
    intro L lo _ h
    cases L with
    | nil => simp
    | cons a L => have := h a List.mem_cons_self; omega
  | succ n ih =>
    intro L lo ha h
    cases L with
    | nil => simp
    | cons a L =>
      obtain ⟨h1, h2⟩ := List.pairwise_cons.1 ha
      have := ih (L := L) (lo := lo + 1) h2 fun x hx => by
        have := h1 x hx; have := h a List.mem_cons_self; have := h x (List.mem_cons_of_mem _ hx)
        omega
      simp only [List.length_cons]; omega

/-- THE BOUNDS OF A DISK THAT WAS MADE -/
structure DkOk (D : Dk) : Prop where
  sec : 1 ≤ D.sectors ∧ D.sectors ≤ 4096
  lasts : ∀ x ∈ D.lasts, 0 ≤ x.1 ∧ x.1 < D.sectors
  waits : ∀ x ∈ D.waits, 0 ≤ x.1 ∧ x.1 < D.sectors
end Go.Proofs.Ytphkmbkmjhbenaa
