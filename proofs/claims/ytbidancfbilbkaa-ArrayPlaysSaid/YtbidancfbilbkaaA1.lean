/- An array of disks, as one thing. -/
import Derived.Test.YtbidancfbilbkaaL00
import Derived.Test.YtbidancfbilbkaaGb
namespace Go.Proofs.Ytbidancfbilbkaa
open Go Go.Vc

/-- a disk of an array, and how often it was born -/
structure Mem where
  d : Dk
  births : Int

def memCells : List Nat → List Mem → List Value
  | b :: bs, m :: ms => .pointer (some (at0 b)) :: .int .i64 m.births :: memCells bs ms
  | _, _ => []
theorem memCells_at : ∀ {bs : List Nat} {M : List Mem} {i b : Nat} {m : Mem}, bs[i]? = some b → M[i]? = some m → (memCells bs M)[i * 2]? = some (.pointer (some (at0 b))) ∧ (memCells bs M)[i * 2 + 1]? = some (.int .i64 m.births)
  | _ :: _, _ :: _, 0, _, _, h1, h2 => by
    simp only [List.getElem?_cons_zero, Option.some.injEq] at h1 h2
    subst h1; subst h2
    exact ⟨rfl, rfl⟩
  | b' :: bs, m' :: M, i + 1, b, m, h1, h2 => by
    have := memCells_at (bs := bs) (M := M) (i := i) (by simpa using h1) (by simpa using h2)
    rw [show (i + 1) * 2 = i * 2 + 1 + 1 by omega]
    simpa [memCells] using this
  | [], _, _, _, _, h1, _ => by simp at h1
  | _ :: _, [], _, _, _, _, h2 => by simp at h2
theorem memCells_app : ∀ {bs : List Nat} {M : List Mem} (b : Nat) (m : Mem), bs.length = M.length → memCells (bs ++ [b]) (M ++ [m]) = memCells bs M ++ [.pointer (some (at0 b)), .int .i64 m.births]
  | [], [], _, _, _ => rfl
  | b' :: bs, m' :: M, b, m, h => by
    have := memCells_app (bs := bs) (M := M) b m (by simpa using h)
    simp only [List.cons_append, memCells, this]
theorem memCells_set : ∀ {bs : List Nat} {M : List Mem} {i : Nat} {m m' : Mem}, M[i]? = some m → m'.births = m.births → memCells bs (M.set i m') = memCells bs M
  | [], _, _, _, _, _, _ => by cases ‹List Mem› <;> rfl
  | _ :: _, [], _, _, _, h, _ => by simp at h
  | b :: bs, m0 :: M, 0, m, m', h, hb => by
    simp only [List.getElem?_cons_zero, Option.some.injEq] at h
    subst h
    simp [memCells, hb]
  | b :: bs, m0 :: M, i + 1, m, m', h, hb => by
    have := memCells_set (bs := bs) (M := M) (i := i) (m := m) (m' := m') (by simpa using h) hb
    simp only [List.set_cons_succ, memCells, this]
theorem memCells_born : ∀ {bs : List Nat} {M : List Mem} {i : Nat} {m m' : Mem}, bs.length = M.length → M[i]? = some m → memCells bs (M.set i m') = (memCells bs M).set (i * 2 + 1) (.int .i64 m'.births)
  | _ :: _, [], _, _, _, _, h => by simp at h
  | [], _ :: _, _, _, _, h, _ => by simp at h
  | [], [], _, _, _, _, h => by simp at h
  | b :: bs, m0 :: M, 0, m, m', _, h => by simp [memCells]
  | b :: bs, m0 :: M, i + 1, m, m', hl, h => by
    have := memCells_born (bs := bs) (M := M) (i := i) (m := m) (m' := m') (by simpa using hl) (by simpa using h)
    rw [show (i + 1) * 2 + 1 = i * 2 + 1 + 1 + 1 by omega]
    simp only [List.set_cons_succ, memCells, this]

/-- AN ARRAY AT A BLOCK -/
def IsArr (w : World) (a : Nat) (M : List Mem) (left : Int) (down : Bool) (F : Nat → Prop) : Prop :=
  ∃ (p : Option Addr) (cm : Nat) (bs : List Nat) (Fs : Nat → Nat → Prop), RowW w a #[.slice p M.length cm, .int .i64 left, .bool down] ∧ OwnS w 0 69 2 p M.length cm (memCells bs M) ∧ bs.length = M.length ∧
    (∀ (i : Nat) (m : Mem), M[i]? = some m → ∃ b, bs[i]? = some b ∧ Dsk w b m.d (Fs i)) ∧ (∀ (i j x : Nat), i < M.length → j < M.length → Fs i x → Fs j x → i = j) ∧
    (∀ (i x : Nat), i < M.length → Fs i x → x ≠ a ∧ p ≠ some (at0 x)) ∧ p ≠ some (at0 a) ∧ (∀ x : Nat, F x ↔ x = a ∨ p = some (at0 x) ∨ ∃ i, i < M.length ∧ Fs i x)

theorem own_lt {w : World} {base : Nat} {e : TypeId} {sz : Nat} {p : Option Addr} {n c : Nat} {xs : List Value} (h : OwnS w base e sz p n c xs) {x : Nat} (hx : p = some (at0 x)) : x < w.heap.size := by
  rcases h.where_ with ⟨h0, _⟩ | ⟨g, h0, _, hlt, _⟩
  · rw [h0] at hx; cases hx
  · rw [h0] at hx
    simp only [Option.some.injEq, at0, Addr.mk.injEq, and_true] at hx
    omega

theorem IsArr.lt {w : World} {a : Nat} {M : List Mem} {left : Int} {down : Bool} {F : Nat → Prop} (h : IsArr w a M left down F) : ∀ x, F x → x < w.heap.size := by
  obtain ⟨p, cm, bs, Fs, h1, h2, h3, h4, h5, h6, h7, h8⟩ := h
  intro x hx
  rcases (h8 x).1 hx with rfl | hx | ⟨i, hi, hx⟩
  · exact h1.lt
  · exact own_lt h2 hx
  · obtain ⟨b, _, hd⟩ := h4 i M[i] (List.getElem?_eq_getElem hi)
    exact hd.lt x hx

theorem IsArr.upd {S : Nat → Prop} {w w' : World} {a : Nat} {M : List Mem} {left : Int} {down : Bool} {F : Nat → Prop} (h : IsArr w a M left down F) (hu : Upd S w w') (hS : ∀ x, S x → ¬ F x) : IsArr w' a M left down F := by
  obtain ⟨p, cm, bs, Fs, h1, h2, h3, h4, h5, h6, h7, h8⟩ := h
  refine ⟨p, cm, bs, Fs, hu.rowW h1 fun hs => hS _ hs ((h8 _).2 (.inl rfl)), h2.upd hu fun g hg hs => hS _ hs ((h8 _).2 (.inr (.inl hg))), h3, fun i m hi => ?_, h5, h6, h7, h8⟩
  obtain ⟨b, hb, hd⟩ := h4 i m hi
  exact ⟨b, hb, hd.upd hu fun x hs hf => hS _ hs ((h8 _).2 (.inr (.inr ⟨i, (List.getElem?_eq_some_iff.1 hi).1, hf⟩)))⟩
theorem IsArr.ext {w w' : World} {a : Nat} {M : List Mem} {left : Int} {down : Bool} {F : Nat → Prop} (h : IsArr w a M left down F) (hu : Ext w w') : IsArr w' a M left down F := h.upd hu fun _ h => h.elim

theorem IsArr.row {w : World} {a : Nat} {M : List Mem} {left : Int} {down : Bool} {F : Nat → Prop} (h : IsArr w a M left down F) : ∃ p cm, RowW w a #[.slice p M.length cm, .int .i64 left, .bool down] := by
  obtain ⟨p, cm, bs, Fs, h1, _⟩ := h
  exact ⟨p, cm, h1⟩

theorem IsArr.setLeft {w w' : World} {a : Nat} {M : List Mem} {left : Int} {down : Bool} {F : Nat → Prop} (h : IsArr w a M left down F) {v : Int} (hs : SetC w ((at0 a).add 1) (.int .i64 v) w') : IsArr w' a M v down F ∧ Step F F w w' := by
  obtain ⟨p, cm, bs, Fs, h1, h2, h3, h4, h5, h6, h7, h8⟩ := h
  have hu : Upd (fun x => x = a) w w' := by
    have := hs.upd
    rw [add_at0] at this
    exact this
  refine ⟨⟨p, cm, bs, Fs, hs.row h1, h2.upd hu (by rintro g hg rfl; exact h7 hg), h3, fun i m hi => ?_, h5, h6, h7, h8⟩, hu.mono fun x _ hx => (h8 x).2 (.inl hx), fun x hx => .inl hx⟩
  obtain ⟨b, hb, hd⟩ := h4 i m hi
  exact ⟨b, hb, hd.upd hu fun x hx hf => (h6 i x (List.getElem?_eq_some_iff.1 hi).1 hf).1 hx⟩
theorem IsArr.setDown {w w' : World} {a : Nat} {M : List Mem} {left : Int} {down : Bool} {F : Nat → Prop} (h : IsArr w a M left down F) {v : Bool} (hs : SetC w ((at0 a).add 2) (.bool v) w') : IsArr w' a M left v F ∧ Step F F w w' := by
  obtain ⟨p, cm, bs, Fs, h1, h2, h3, h4, h5, h6, h7, h8⟩ := h
  have hu : Upd (fun x => x = a) w w' := by
    have := hs.upd
    rw [add_at0] at this
    exact this
  refine ⟨⟨p, cm, bs, Fs, hs.row h1, h2.upd hu (by rintro g hg rfl; exact h7 hg), h3, fun i m hi => ?_, h5, h6, h7, h8⟩, hu.mono fun x _ hx => (h8 x).2 (.inl hx), fun x hx => .inl hx⟩
  obtain ⟨b, hb, hd⟩ := h4 i m hi
  exact ⟨b, hb, hd.upd hu fun x hx hf => (h6 i x (List.getElem?_eq_some_iff.1 hi).1 hf).1 hx⟩

/-- a disk of it: where it lies, and what a step of it does to the array -/
theorem IsArr.at {w : World} {a : Nat} {M : List Mem} {left : Int} {down : Bool} {F : Nat → Prop} (h : IsArr w a M left down F) {i : Nat} {m : Mem} (hi : M[i]? = some m) :
    ∃ ap cm b Fi, w.cell? ((at0 a).add 0) = some (.slice (some ap) M.length cm) ∧ w.cell? (ap.add (i * 2)) = some (.pointer (some (at0 b))) ∧ w.cell? ((ap.add (i * 2)).add 0) = some (.pointer (some (at0 b))) ∧
      w.cell? ((ap.add (i * 2)).add 1) = some (.int .i64 m.births) ∧ Dsk w b m.d Fi ∧ (∀ x, Fi x → F x ∧ x ≠ a) ∧
      (∀ w' D' F', Step Fi F' w w' → Dsk w' b D' F' → ∃ F2, IsArr w' a (M.set i { m with d := D' }) left down F2 ∧ Step F F2 w w') := by
  have hlt := h.lt
  obtain ⟨p, cm, bs, Fs, h1, h2, h3, h4, h5, h6, h7, h8⟩ := h
  obtain ⟨b, hb, hd⟩ := h4 i m hi
  have hil : i < M.length := (List.getElem?_eq_some_iff.1 hi).1
  obtain ⟨c1, c2⟩ := memCells_at hb hi
  obtain ⟨ap, hp, e1⟩ := h2.cells _ _ c1
  obtain ⟨ap', hp', e2⟩ := h2.cells _ _ c2
  rw [hp] at hp'
  cases hp'
  subst hp
  refine ⟨ap, cm, b, Fs i, h1.row.cell rfl, e1, by rw [add_add]; exact e1, by rw [add_add]; exact e2, hd, fun x hx => ⟨(h8 x).2 (.inr (.inr ⟨i, hil, hx⟩)), (h6 i x hil hx).1⟩, ?_⟩
  intro w' D' F' hs hd'
  have hlen : (M.set i { m with d := D' }).length = M.length := List.length_set
  refine ⟨fun x => x = a ∨ some ap = some (at0 x) ∨ ∃ j, j < M.length ∧ (if j = i then F' else Fs j) x, ⟨some ap, cm, bs, fun j => if j = i then F' else Fs j, ?_, ?_, by rw [hlen]; exact h3, ?_, ?_, ?_, h7, ?_⟩, ?_, ?_⟩
  · rw [hlen]; exact hs.upd.rowW h1 fun hf => (h6 i a hil hf).1 rfl
  · rw [hlen, memCells_set (m' := { m with d := D' }) hi rfl]
    exact h2.upd hs.upd fun g hg hf => (h6 i g hil hf).2 hg
  · intro j mj hj
    by_cases hji : j = i
    · subst hji
      rw [List.getElem?_set_self hil] at hj
      cases hj
      exact ⟨b, hb, by simpa using hd'⟩
    · rw [List.getElem?_set_ne (fun e => hji e.symm)] at hj
      obtain ⟨bj, hbj, hdj⟩ := h4 j mj hj
      refine ⟨bj, hbj, ?_⟩
      simp only [if_neg hji]
      exact hdj.upd hs.upd fun x hx hf => hji (h5 j i x (List.getElem?_eq_some_iff.1 hj).1 hil hf hx)
  · intro j k x hj hk hfj hfk
    rw [hlen] at hj hk
    have old : ∀ q, q < M.length → Fs q x → x < w.heap.size := fun q hq hf => hlt x ((h8 x).2 (.inr (.inr ⟨q, hq, hf⟩)))
    by_cases hji : j = i <;> by_cases hki : k = i
    · omega
    · simp only [if_pos hji] at hfj; simp only [if_neg hki] at hfk
      rcases hs.grow x hfj with h | h
      · have := h5 i k x hil hk h hfk; omega
      · have := old k hk hfk; omega
    · simp only [if_neg hji] at hfj; simp only [if_pos hki] at hfk
      rcases hs.grow x hfk with h | h
      · have := h5 j i x hj hil hfj h; omega
      · have := old j hj hfj; omega
    · simp only [if_neg hji] at hfj; simp only [if_neg hki] at hfk
      exact h5 j k x hj hk hfj hfk
  · intro j x hj hf
    rw [hlen] at hj
    by_cases hji : j = i
    · simp only [if_pos hji] at hf
      rcases hs.grow x hf with h | h
      · exact h6 i x hil h
      · refine ⟨?_, fun e => ?_⟩
        · have := h1.lt; omega
        · have := own_lt h2 e; omega
    · simp only [if_neg hji] at hf
      exact h6 j x hj hf
  · intro x
    rw [hlen]
  · exact hs.upd.mono fun x _ hx => (h8 x).2 (.inr (.inr ⟨i, hil, hx⟩))
  · rintro x (rfl | hx | ⟨j, hj, hx⟩)
    · exact .inl ((h8 _).2 (.inl rfl))
    · exact .inl ((h8 _).2 (.inr (.inl hx)))
    · by_cases hji : j = i
      · simp only [if_pos hji] at hx
        rcases hs.grow x hx with h | h
        · exact .inl ((h8 _).2 (.inr (.inr ⟨i, hil, h⟩)))
        · exact .inr h
      · simp only [if_neg hji] at hx
        exact .inl ((h8 _).2 (.inr (.inr ⟨j, hj, hx⟩)))

/-- one is born anew -/
theorem IsArr.born {w : World} {a : Nat} {M : List Mem} {left : Int} {down : Bool} {F : Nat → Prop} (h : IsArr w a M left down F) {i : Nat} {m : Mem} (hi : M[i]? = some m) :
    ∃ ap cm, w.cell? ((at0 a).add 0) = some (.slice (some ap) M.length cm) ∧ w.cell? ((ap.add (i * 2)).add 1) = some (.int .i64 m.births) ∧ Live w ((ap.add (i * 2)).add 1) ∧
      ∀ v w', SetC w ((ap.add (i * 2)).add 1) (.int .i64 v) w' → IsArr w' a (M.set i { m with births := v }) left down F ∧ Step F F w w' := by
  obtain ⟨p, cm, bs, Fs, h1, h2, h3, h4, h5, h6, h7, h8⟩ := h
  obtain ⟨b, hb, hd⟩ := h4 i m hi
  have hil : i < M.length := (List.getElem?_eq_some_iff.1 hi).1
  obtain ⟨c1, c2⟩ := memCells_at hb hi
  obtain ⟨ap, hp, e2⟩ := h2.cells _ _ c2
  subst hp
  have hlen2 : i * 2 + 1 < (memCells bs M).length := (List.getElem?_eq_some_iff.1 c2).1
  refine ⟨ap, cm, h1.row.cell rfl, by rw [add_add]; exact e2, by rw [add_add]; exact h2.live hlen2, fun v w' hs => ?_⟩
  rw [add_add] at hs
  obtain ⟨h2', hu⟩ := h2.set hs
  obtain ⟨g, hg⟩ : ∃ g, ap = at0 g := by
    rcases h2.where_ with ⟨h0, _⟩ | ⟨g, h0, _⟩
    · cases h0
    · cases h0; exact ⟨g, rfl⟩
  subst hg
  have hlen : (M.set i { m with births := v }).length = M.length := List.length_set
  have hne : ¬ a = g := fun e => h7 (by rw [e])
  refine ⟨⟨some (at0 g), cm, bs, Fs, ?_, ?_, by rw [hlen]; exact h3, ?_, by rw [hlen]; exact h5, by rw [hlen]; exact h6, h7, by rw [hlen]; exact h8⟩, ?_⟩
  · rw [hlen]; exact hu.rowW h1 hne
  · rw [hlen, memCells_born h3 hi]; exact h2'
  · intro j mj hj
    have hdj : ∃ mj', M[j]? = some mj' ∧ mj'.d = mj.d := by
      by_cases hji : j = i
      · subst hji
        rw [List.getElem?_set_self hil] at hj
        cases hj
        exact ⟨m, hi, rfl⟩
      · rw [List.getElem?_set_ne (fun e => hji e.symm)] at hj
        exact ⟨mj, hj, rfl⟩
    obtain ⟨mj', hj', hdd⟩ := hdj
    obtain ⟨bj, hbj, hdj⟩ := h4 j mj' hj'
    refine ⟨bj, hbj, ?_⟩
    rw [← hdd]
    exact hdj.upd hu fun x hx hf => (h6 j x (List.getElem?_eq_some_iff.1 hj').1 hf).2 (by rw [show x = g from hx])
  · exact ⟨hu.mono fun x _ hx => (h8 x).2 (.inr (.inl (by rw [show x = g from hx]))), fun x hx => .inl hx⟩
end Go.Proofs.Ytbidancfbilbkaa
