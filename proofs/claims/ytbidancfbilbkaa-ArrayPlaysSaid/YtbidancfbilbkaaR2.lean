/- The document's array as one thing. -/
import Derived.Test.YtbidancfbilbkaaR1
import Derived.Test.YtbidancfbilbkaaA4
namespace Go.Proofs.Ytbidancfbilbkaa
open Go Go.Vc

def ptrsR (bs : List Nat) : List Value := bs.map fun b => .pointer (some (at0 b))
def intsR (B : List Int) : List Value := B.map fun n => .int .i64 n

/-- THE DOCUMENT'S ARRAY AT A BLOCK: disks, births, how many writes are left, off -/
def IsRA (w : World) (r : Nat) (Ds : List Dk) (B : List Int) (left : Int) (off : Bool) (F : Nat → Prop) : Prop :=
  ∃ (pD : Option Addr) (cD : Nat) (pB : Option Addr) (cB : Nat) (bs : List Nat) (Fs : Nat → Nat → Prop), RowW w r #[.slice pD Ds.length cD, .slice pB B.length cB, .int .i64 left, .bool off] ∧
    OwnS w 0 78 1 pD Ds.length cD (ptrsR bs) ∧ OwnS w 0 3 1 pB B.length cB (intsR B) ∧ bs.length = Ds.length ∧
    (∀ (i : Nat) (D : Dk), Ds[i]? = some D → ∃ b, bs[i]? = some b ∧ RDsk w b D (Fs i)) ∧ (∀ (i j x : Nat), i < Ds.length → j < Ds.length → Fs i x → Fs j x → i = j) ∧
    (∀ (i x : Nat), i < Ds.length → Fs i x → x ≠ r ∧ pD ≠ some (at0 x) ∧ pB ≠ some (at0 x)) ∧ (pD ≠ some (at0 r) ∧ pB ≠ some (at0 r) ∧ ∀ x : Nat, pD = some (at0 x) → pB ≠ some (at0 x)) ∧
    (∀ x : Nat, F x ↔ x = r ∨ pD = some (at0 x) ∨ pB = some (at0 x) ∨ ∃ i, i < Ds.length ∧ Fs i x)

section
variable {w w' : World} {r : Nat} {Ds : List Dk} {B : List Int} {left : Int} {off : Bool} {F : Nat → Prop}

theorem IsRA.lt (h : IsRA w r Ds B left off F) : ∀ x, F x → x < w.heap.size := by
  obtain ⟨pD, cD, pB, cB, bs, Fs, h1, h2, h3, h4, h5, h6, h7, h8, h9⟩ := h
  intro x hx
  rcases (h9 x).1 hx with rfl | hx | hx | ⟨i, hi, hx⟩
  · exact h1.lt
  · exact own_lt h2 hx
  · exact own_lt h3 hx
  · obtain ⟨b, _, hd⟩ := h5 i Ds[i] (List.getElem?_eq_getElem hi)
    exact hd.lt x hx
theorem IsRA.upd {S : Nat → Prop} (h : IsRA w r Ds B left off F) (hu : Upd S w w') (hS : ∀ x, S x → ¬ F x) : IsRA w' r Ds B left off F := by
  obtain ⟨pD, cD, pB, cB, bs, Fs, h1, h2, h3, h4, h5, h6, h7, h8, h9⟩ := h
  refine ⟨pD, cD, pB, cB, bs, Fs, hu.rowW h1 fun hs => hS _ hs ((h9 _).2 (.inl rfl)), h2.upd hu fun g hg hs => hS _ hs ((h9 _).2 (.inr (.inl hg))), h3.upd hu fun g hg hs => hS _ hs ((h9 _).2 (.inr (.inr (.inl hg)))), h4, fun i m hi => ?_, h6, h7, h8, h9⟩
  obtain ⟨b, hb, hd⟩ := h5 i m hi
  exact ⟨b, hb, hd.upd hu fun x hs hf => hS _ hs ((h9 _).2 (.inr (.inr (.inr ⟨i, (List.getElem?_eq_some_iff.1 hi).1, hf⟩))))⟩
theorem IsRA.ext (h : IsRA w r Ds B left off F) (hu : Ext w w') : IsRA w' r Ds B left off F := h.upd hu fun _ h => h.elim
theorem IsRA.row (h : IsRA w r Ds B left off F) : ∃ pD cD pB cB, RowW w r #[.slice pD Ds.length cD, .slice pB B.length cB, .int .i64 left, .bool off] := by
  obtain ⟨pD, cD, pB, cB, bs, Fs, h1, _⟩ := h
  exact ⟨pD, cD, pB, cB, h1⟩

/-- a field of numbers is set -/
theorem IsRA.setField (h : IsRA w r Ds B left off F) {j : Nat} {v : Value} (hs : SetC w ((at0 r).add j) v w') {l2 : Int} {o2 : Bool}
    (hrow : ∀ a b, (#[a, b, .int .i64 left, .bool off] : Array Value).setIfInBounds j v = #[a, b, .int .i64 l2, .bool o2]) : IsRA w' r Ds B l2 o2 F ∧ Step F F w w' := by
  obtain ⟨pD, cD, pB, cB, bs, Fs, h1, h2, h3, h4, h5, h6, h7, h8, h9⟩ := h
  have hu : Upd (fun x => x = r) w w' := by
    have := hs.upd
    rw [add_block] at this
    exact this
  have hr := hs.row h1
  rw [hrow] at hr
  refine ⟨⟨pD, cD, pB, cB, bs, Fs, hr, h2.upd hu (by rintro g hg rfl; exact h8.1 hg), h3.upd hu (by rintro g hg rfl; exact h8.2.1 hg), h4, fun i m hi => ?_, h6, h7, h8, h9⟩, hu.mono fun x _ hx => (h9 x).2 (.inl hx), fun x hx => .inl hx⟩
  obtain ⟨b, hb, hd⟩ := h5 i m hi
  exact ⟨b, hb, hd.upd hu fun x hx hf => (h7 i x (List.getElem?_eq_some_iff.1 hi).1 hf).1 hx⟩
theorem IsRA.setLeft (h : IsRA w r Ds B left off F) {v : Int} (hs : SetC w ((at0 r).add 2) (.int .i64 v) w') : IsRA w' r Ds B v off F ∧ Step F F w w' := h.setField hs fun _ _ => rfl
theorem IsRA.setOff (h : IsRA w r Ds B left off F) {v : Bool} (hs : SetC w ((at0 r).add 3) (.bool v) w') : IsRA w' r Ds B left v F ∧ Step F F w w' := h.setField hs fun _ _ => rfl

/-- a disk of it -/
theorem IsRA.at (h : IsRA w r Ds B left off F) {i : Nat} {D : Dk} (hi : Ds[i]? = some D) :
    ∃ ap cD b Fi, w.cell? ((at0 r).add 0) = some (.slice (some ap) Ds.length cD) ∧ w.cell? (ap.add (i * 1)) = some (.pointer (some (at0 b))) ∧ RDsk w b D Fi ∧ (∀ x, Fi x → F x ∧ x ≠ r) ∧
      (∀ w' D' F', Step Fi F' w w' → RDsk w' b D' F' → ∃ F2, IsRA w' r (Ds.set i D') B left off F2 ∧ Step F F2 w w') := by
  have hlt := h.lt
  obtain ⟨pD, cD, pB, cB, bs, Fs, h1, h2, h3, h4, h5, h6, h7, h8, h9⟩ := h
  obtain ⟨b, hb, hd⟩ := h5 i D hi
  have hil : i < Ds.length := (List.getElem?_eq_some_iff.1 hi).1
  obtain ⟨ap, hp, e1⟩ := h2.cells i _ (by unfold ptrsR; rw [List.getElem?_map, hb]; rfl)
  subst hp
  refine ⟨ap, cD, b, Fs i, h1.row.cell rfl, by rw [Nat.mul_one]; exact e1, hd, fun x hx => ⟨(h9 x).2 (.inr (.inr (.inr ⟨i, hil, hx⟩))), (h7 i x hil hx).1⟩, ?_⟩
  intro w' D' F' hs hd'
  have hlen : (Ds.set i D').length = Ds.length := List.length_set
  refine ⟨fun x => x = r ∨ some ap = some (at0 x) ∨ pB = some (at0 x) ∨ ∃ j, j < Ds.length ∧ (if j = i then F' else Fs j) x, ⟨some ap, cD, pB, cB, bs, fun j => if j = i then F' else Fs j, ?_, ?_, ?_, by rw [hlen]; exact h4, ?_, ?_, ?_, h8, ?_⟩, ?_, ?_⟩
  · rw [hlen]; exact hs.upd.rowW h1 fun hf => (h7 i r hil hf).1 rfl
  · rw [hlen]; exact h2.upd hs.upd fun g hg hf => (h7 i g hil hf).2.1 hg
  · exact h3.upd hs.upd fun g hg hf => (h7 i g hil hf).2.2 hg
  · intro j mj hj
    by_cases hji : j = i
    · subst hji
      rw [List.getElem?_set_self hil] at hj
      cases hj
      exact ⟨b, hb, by simpa using hd'⟩
    · rw [List.getElem?_set_ne (fun e => hji e.symm)] at hj
      obtain ⟨bj, hbj, hdj⟩ := h5 j mj hj
      refine ⟨bj, hbj, ?_⟩
      simp only [if_neg hji]
      exact hdj.upd hs.upd fun x hx hf => hji (h6 j i x (List.getElem?_eq_some_iff.1 hj).1 hil hf hx)
  · intro j k x hj hk hfj hfk
    rw [hlen] at hj hk
    have old : ∀ q, q < Ds.length → Fs q x → x < w.heap.size := fun q hq hf => hlt x ((h9 x).2 (.inr (.inr (.inr ⟨q, hq, hf⟩))))
    by_cases hji : j = i <;> by_cases hki : k = i
    · omega
    · simp only [if_pos hji] at hfj; simp only [if_neg hki] at hfk
      rcases hs.grow x hfj with h | h
      · have := h6 i k x hil hk h hfk; omega
      · have := old k hk hfk; omega
    · simp only [if_neg hji] at hfj; simp only [if_pos hki] at hfk
      rcases hs.grow x hfk with h | h
      · have := h6 j i x hj hil hfj h; omega
      · have := old j hj hfj; omega
    · simp only [if_neg hji] at hfj; simp only [if_neg hki] at hfk
      exact h6 j k x hj hk hfj hfk
  · intro j x hj hf
    rw [hlen] at hj
    by_cases hji : j = i
    · simp only [if_pos hji] at hf
      rcases hs.grow x hf with h | h
      · exact h7 i x hil h
      · refine ⟨?_, fun e => ?_, fun e => ?_⟩
        · have := h1.lt; omega
        · have := own_lt h2 e; omega
        · have := own_lt h3 e; omega
    · simp only [if_neg hji] at hf
      exact h7 j x hj hf
  · intro x
    rw [hlen]
  · exact hs.upd.mono fun x _ hx => (h9 x).2 (.inr (.inr (.inr ⟨i, hil, hx⟩)))
  · rintro x (rfl | hx | hx | ⟨j, hj, hx⟩)
    · exact .inl ((h9 _).2 (.inl rfl))
    · exact .inl ((h9 _).2 (.inr (.inl hx)))
    · exact .inl ((h9 _).2 (.inr (.inr (.inl hx))))
    · by_cases hji : j = i
      · simp only [if_pos hji] at hx
        rcases hs.grow x hx with h | h
        · exact .inl ((h9 _).2 (.inr (.inr (.inr ⟨i, hil, h⟩))))
        · exact .inr h
      · simp only [if_neg hji] at hx
        exact .inl ((h9 _).2 (.inr (.inr (.inr ⟨j, hj, hx⟩))))

/-- a disk is born anew -/
theorem IsRA.born (h : IsRA w r Ds B left off F) {i : Nat} {n : Int} (hi : B[i]? = some n) :
    ∃ ap cB, w.cell? ((at0 r).add 1) = some (.slice (some ap) B.length cB) ∧ w.cell? (ap.add (i * 1)) = some (.int .i64 n) ∧ Live w (ap.add (i * 1)) ∧
      ∀ v w', SetC w (ap.add (i * 1)) (.int .i64 v) w' → IsRA w' r Ds (B.set i v) left off F ∧ Step F F w w' := by
  obtain ⟨pD, cD, pB, cB, bs, Fs, h1, h2, h3, h4, h5, h6, h7, h8, h9⟩ := h
  have hil : i < B.length := (List.getElem?_eq_some_iff.1 hi).1
  obtain ⟨ap, hp, e2⟩ := h3.cells i _ (by unfold intsR; rw [List.getElem?_map, hi]; rfl)
  subst hp
  refine ⟨ap, cB, h1.row.cell rfl, by rw [Nat.mul_one]; exact e2, by rw [Nat.mul_one]; exact h3.live (by simpa [intsR] using hil), fun v w' hs => ?_⟩
  rw [Nat.mul_one] at hs
  obtain ⟨h3', hu⟩ := h3.set hs
  obtain ⟨g, hg⟩ : ∃ g, ap = at0 g := by
    rcases h3.where_ with ⟨h0, _⟩ | ⟨g, h0, _⟩
    · cases h0
    · cases h0; exact ⟨g, rfl⟩
  subst hg
  have hlen : (B.set i v).length = B.length := List.length_set
  have hne : ¬ r = g := fun e => h8.2.1 (by rw [e])
  refine ⟨⟨pD, cD, some (at0 g), cB, bs, Fs, ?_, ?_, ?_, h4, ?_, h6, h7, h8, h9⟩, ?_, fun x hx => .inl hx⟩
  · rw [hlen]; exact hu.rowW h1 hne
  · exact h2.upd hu fun q hq e => h8.2.2 q hq (by rw [show q = g from e])
  · rw [hlen]
    have : intsR (B.set i v) = (intsR B).set i (.int .i64 v) := by unfold intsR; rw [List.map_set]
    rw [this]; exact h3'
  · intro j m hj
    obtain ⟨b, hb, hd⟩ := h5 j m hj
    exact ⟨b, hb, hd.upd hu fun x hx hf => (h7 j x (List.getElem?_eq_some_iff.1 hj).1 hf).2.2 (by rw [show x = g from hx])⟩
  · exact hu.mono fun x _ hx => (h9 x).2 (.inr (.inr (.inl (by rw [show x = g from hx]))))
end
end Go.Proofs.Ytbidancfbilbkaa
