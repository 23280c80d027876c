/- A catalog: objects by their keys, keys by their stripes; one is taken away. -/
import Derived.Test.YtclkoojcibgcdaaK2
namespace Go.Proofs.Ytclkoojcibgcdaa
open Go Go.Vc

theorem mapSO : Try.prog.underlying 69 = some (.map 9 52) := by kernel_rfl
theorem mapIS : Try.prog.underlying 70 = some (.map 3 9) := by kernel_rfl
theorem strT : Try.prog.underlying 9 = some strK.kd := by kernel_rfl
theorem intT' : Try.prog.underlying 3 = some intK.kd := by kernel_rfl
theorem zeroOb : zeroOf Try.prog 52 = some (.agg #[.string ⟨#[]⟩, .int .i64 0, .int .i64 0, .slice none 0 0]) := by kernel_rfl
theorem zeroStr : zeroOf Try.prog 9 = some (.string ⟨#[]⟩) := by kernel_rfl

theorem setc_newk {w0 w w' : World} {k j : Nat} {v : Value} (h : Ext w0 w) (hk : w0.heap.size ≤ k) (hs : SetC w ((at0 k).add j) v w') : Ext w0 w' := by
  refine Upd.trans h hs.upd fun x hx he => ?_
  have : x = k := by
    rw [add_at0] at he
    exact he
  omega
/-- four cells of a new block are written -/
theorem fill4 {w0 w : World} {k : Nat} {c0 c1 c2 c3 v0 v1 v2 v3 : Value} (h0 : Ext w0 w) (hk : w0.heap.size ≤ k) (hr : RowW w k #[c0, c1, c2, c3]) {T : World → Prop} (h : ∀ w4, Ext w0 w4 → Upd (fun x => x = k) w w4 → RowW w4 k #[v0, v1, v2, v3] → T w4) :
    Live w (at0 k) ∧ ∀ w1 : World, SetC w (at0 k) v0 w1 → (Live w1 ((at0 k).add 1) ∧ ∀ w2 : World, SetC w1 ((at0 k).add 1) v1 w2 → (Live w2 ((at0 k).add 2) ∧ ∀ w3 : World, SetC w2 ((at0 k).add 2) v2 w3 → (Live w3 ((at0 k).add 3) ∧ ∀ w4 : World, SetC w3 ((at0 k).add 3) v3 w4 → T w4))) := by
  have bl : ∀ {a b : World} {j : Nat} {v : Value}, SetC a ((at0 k).add j) v b → Upd (fun x => x = k) a b := fun hs => by
    have := hs.upd
    rw [add_at0] at this
    exact this
  refine ⟨hr.live (n := 0) (by simp), fun w1 s1 => ?_⟩
  have s1' : SetC w ((at0 k).add 0) v0 w1 := s1
  have r1 := s1'.row hr
  refine ⟨r1.live (by simp), fun w2 s2 => ?_⟩
  have r2 := s2.row r1
  refine ⟨r2.live (by simp), fun w3 s3 => ?_⟩
  have r3 := s3.row r2
  refine ⟨r3.live (by simp), fun w4 s4 => ?_⟩
  have r4 := s4.row r3
  exact h w4 (setc_newk (setc_newk (setc_newk (setc_newk h0 hk s1') hk s2) hk s3) hk s4)
    ((((bl s1').trans (bl s2) fun _ _ h => h).trans (bl s3) fun _ _ h => h).trans (bl s4) fun _ _ h => h) r4

structure Ob where
  key : ByteArray
  len : Int
  epoch : Int
  st : List Int

def owns (O : List Ob) : List (Int × ByteArray) := O.flatMap fun o => o.st.map fun s => (s, o.key)
def stripesO (O : List Ob) : List Int := O.flatMap (·.st)
theorem owns_keys (O : List Ob) : (owns O).map (·.1) = stripesO O := by
  induction O with
  | nil => rfl
  | cons o O ih =>
    show ((o.st.map fun s => (s, o.key)) ++ owns O).map (·.1) = o.st ++ stripesO O
    rw [List.map_append, ih, List.map_map]
    show (o.st.map fun s => s) ++ _ = _
    rw [List.map_id']
def dropO (k : ByteArray) (O : List Ob) : List Ob := O.filter fun o => decide (o.key ≠ k)
def getO (k : ByteArray) (O : List Ob) : Option Ob := get k (O.map fun o => (o.key, o))
def Keys (O : List Ob) : Prop := (O.map (·.key)).Nodup
theorem keys_pairs (O : List Ob) : (O.map fun o => (o.key, o)).map (·.1) = O.map (·.key) := by rw [List.map_map]; rfl
theorem getO_some {k : ByteArray} {o : Ob} {O : List Ob} (hn : Keys O) : getO k O = some o ↔ o ∈ O ∧ o.key = k := by
  unfold getO
  rw [← get_some (by rw [keys_pairs]; exact hn)]
  simp only [List.mem_map, Prod.mk.injEq]
  constructor
  · rintro ⟨o', h1, h2, rfl⟩; exact ⟨h1, h2⟩
  · rintro ⟨h1, h2⟩; exact ⟨o, h1, h2, rfl⟩
theorem getO_none {k : ByteArray} {O : List Ob} : getO k O = none ↔ ∀ o ∈ O, o.key ≠ k := by
  unfold getO
  rw [get_none, keys_pairs]
  simp only [List.mem_map, not_exists, not_and]
theorem del_pairs (k : ByteArray) (O : List Ob) : del k (O.map fun o => (o.key, o)) = (dropO k O).map fun o => (o.key, o) := by
  unfold del dropO
  rw [List.filter_map]
  rfl
theorem dropO_none {k : ByteArray} {O : List Ob} (h : ∀ o ∈ O, o.key ≠ k) : dropO k O = O := by
  unfold dropO
  rw [List.filter_eq_self]
  intro o ho
  simpa using h o ho
theorem owns_drop {o : Ob} : ∀ {O : List Ob}, Keys O → (stripesO O).Nodup → o ∈ O → ((owns O).filter fun y => decide (y.1 ∉ o.st)) = owns (dropO o.key O)
  | [], _, _, h => by cases h
  | a :: O, hk, hs, h => by
    have hk' : a.key ∉ O.map (·.key) ∧ Keys O := by
      have : ((a :: O).map (·.key)).Nodup := hk
      rw [List.map_cons, List.nodup_cons] at this
      exact this
    have hs' : a.st.Nodup ∧ (stripesO O).Nodup ∧ ∀ x ∈ a.st, ∀ y ∈ stripesO O, x ≠ y := by
      have : (a.st ++ stripesO O).Nodup := hs
      rw [List.nodup_append] at this
      exact this
    have e : owns (a :: O) = (a.st.map fun s => (s, a.key)) ++ owns O := rfl
    rw [e, List.filter_append]
    have inO : ∀ y ∈ owns O, y.1 ∈ stripesO O := fun y hy => by rw [← owns_keys]; exact List.mem_map.2 ⟨y, hy, rfl⟩
    by_cases hao : a = o
    · subst hao
      have h1 : ((a.st.map fun s => (s, a.key)).filter fun y => decide (y.1 ∉ a.st)) = [] := by
        rw [List.filter_eq_nil_iff]
        intro y hy
        obtain ⟨s, hs, rfl⟩ := List.mem_map.1 hy
        simp [hs]
      have h2 : ((owns O).filter fun y => decide (y.1 ∉ a.st)) = owns O := by
        rw [List.filter_eq_self]
        intro y hy
        simp only [decide_eq_true_eq]
        exact fun h => hs'.2.2 y.1 h y.1 (inO y hy) rfl
      have h3 : dropO a.key (a :: O) = O := by
        unfold dropO
        rw [List.filter_cons_of_neg (by simp)]
        exact dropO_none fun o ho e => hk'.1 (List.mem_map.2 ⟨o, ho, e⟩)
      rw [h1, h2, h3, List.nil_append]
    · have ho : o ∈ O := by
        rcases List.mem_cons.1 h with h | h
        · exact absurd h.symm hao
        · exact h
      have ih := owns_drop hk'.2 hs'.2.1 ho
      have hne : a.key ≠ o.key := fun e => hk'.1 (List.mem_map.2 ⟨o, ho, e.symm⟩)
      have h1 : ((a.st.map fun s => (s, a.key)).filter fun y => decide (y.1 ∉ o.st)) = a.st.map fun s => (s, a.key) := by
        rw [List.filter_eq_self]
        intro y hy
        obtain ⟨s, hs, rfl⟩ := List.mem_map.1 hy
        simp only [decide_eq_true_eq]
        exact fun h => hs'.2.2 s hs s (List.mem_flatMap.2 ⟨o, ho, h⟩) rfl
      have h3 : dropO o.key (a :: O) = a :: dropO o.key O := by
        unfold dropO
        rw [List.filter_cons_of_pos (by simpa using hne)]
      rw [h1, ih, h3]
      rfl

/-- an object as a value, whose stripes lie in certain blocks -/
def ObV (G : Nat → Prop) (w : World) (v : Value) (o : Ob) : Prop :=
  ∃ p n c, v = .agg #[.string o.key, .int .i64 o.len, .int .i64 o.epoch, .slice p n c] ∧ IntsAt w p n o.st ∧ (∀ a, p = some a → o.st ≠ [] → G a.block) ∧ n ≤ 256 ∧ (p = none → n = 0)
theorem ObV.upd {S G : Nat → Prop} {w w' : World} {v : Value} {o : Ob} (h : ObV G w v o) (hu : Upd S w w') (hS : ∀ x, G x → ¬ S x) : ObV G w' v o := by
  obtain ⟨p, n, c, rfl, h1, h2, h3, h4⟩ := h
  refine ⟨p, n, c, rfl, ⟨h1.1, h1.2.upd hu fun a ha hne => hS _ (h2 a ha ?_)⟩, h2, h3, h4⟩
  rintro h
  rw [h] at hne
  exact hne rfl
theorem ObV.more {G G' : Nat → Prop} {w : World} {v : Value} {o : Ob} (h : ObV G w v o) (hG : ∀ x, G x → G' x) : ObV G' w v o := by
  obtain ⟨p, n, c, rfl, h1, h2, h3⟩ := h
  exact ⟨p, n, c, rfl, h1, fun a ha hne => hG _ (h2 a ha hne), h3⟩

/-- A CATALOG AT A BLOCK -/
structure IsCat (w : World) (b : Nat) (g : Geo) (O : List Ob) (m1 m2 : Nat) (G : Nat → Prop) : Prop where
  row : RowW w b #[.int .i64 g.k, .int .i64 g.m, .int .i64 g.size, .int .i64 g.stripes, .int .i64 g.slots, .int .i64 g.objects, .map (some m1), .map (some m2)]
  objs : MapOf strK (ObV G w) w m1 (O.map fun o => (o.key, o))
  owners : MapOf intK (fun v k => v = .string k) w m2 (owns O)
  n1 : b ≠ m1
  n2 : b ≠ m2
  n3 : m1 ≠ m2
  gb : ¬ G b
  g1 : ¬ G m1
  g2 : ¬ G m2
  lt : ∀ x, G x → x < w.heap.size
theorem IsCat.keys {w : World} {b : Nat} {g : Geo} {O : List Ob} {m1 m2 : Nat} {G : Nat → Prop} (h : IsCat w b g O m1 m2 G) : Keys O := by
  have := h.objs.nodup
  rw [keys_pairs] at this
  exact this
theorem IsCat.nodup {w : World} {b : Nat} {g : Geo} {O : List Ob} {m1 m2 : Nat} {G : Nat → Prop} (h : IsCat w b g O m1 m2 G) : (stripesO O).Nodup := by
  have := h.owners.nodup
  rw [owns_keys] at this
  exact this
theorem IsCat.upd {S : Nat → Prop} {w w' : World} {b : Nat} {g : Geo} {O : List Ob} {m1 m2 : Nat} {G : Nat → Prop} (h : IsCat w b g O m1 m2 G) (hu : Upd S w w') (hb : ¬ S b) (h1 : ¬ S m1) (h2 : ¬ S m2) (hG : ∀ x, G x → ¬ S x) : IsCat w' b g O m1 m2 G :=
  ⟨hu.rowW h.row hb, (h.objs.upd hu h1).mono fun _ _ hv => hv.upd hu hG, h.owners.upd hu h2, h.n1, h.n2, h.n3, h.gb, h.g1, h.g2, fun x hx => Nat.lt_of_lt_of_le (h.lt x hx) hu.size⟩
theorem IsCat.ext {w w' : World} {b : Nat} {g : Geo} {O : List Ob} {m1 m2 : Nat} {G : Nat → Prop} (h : IsCat w b g O m1 m2 G) (hu : Ext w w') : IsCat w' b g O m1 m2 G := h.upd hu id id id fun _ _ => id

section
variable {w : World} {b : Nat} {g : Geo} {O : List Ob} {m1 m2 : Nat} {G : Nat → Prop}

set_option maxHeartbeats 1000000 in
theorem drop_spec (h : IsCat w b g O m1 m2 G) (k : ByteArray) : Calls Try.prog 49 #[.pointer (some (at0 b)), .string k] w fun e w' => e = .returned (.tuple #[]) ∧ Upd (fun x => x = m1 ∨ x = m2) w w' ∧ w'.heap.size = w.heap.size ∧
    IsCat w' b g (dropO k O) m1 m2 G := by
  refine (F49_calls (some (at0 b)) k w (fun v w' => v = .tuple #[] ∧ Upd (fun x => x = m1 ∨ x = m2) w w' ∧ w'.heap.size = w.heap.size ∧ IsCat w' b g (dropO k O) m1 m2 G)
    (fun _ _ _ l w n w15 => ∃ (i : Nat) (st : List Int), (n = i ∧ i ≤ st.length) ∧ l = (st.length : Int) ∧ st = ((getO k O).map (·.st)).getD [] ∧ Upd (fun x => x = m2) w w15 ∧ w15.heap.size = w.heap.size ∧ MapOf intK (fun v k => v = .string k) w15 m2 ((owns O).filter fun y => decide (y.1 ∉ st.take i)))
    (fun _ _ _ l _ n _ => (l - n).toNat) ?_).mono (by rintro e w' ⟨v, rfl, rfl, h⟩; exact ⟨rfl, h⟩)
  have hrow := h.row.row
  have zero : ((owns O).filter fun y => decide (y.1 ∉ (([] : List Int).take 0))) = owns O := by rw [List.filter_eq_self]; simp
  have fin : ∀ {w15 : World}, Upd (fun x => x = m2) w w15 → w15.heap.size = w.heap.size → MapOf intK (fun v k => v = .string k) w15 m2 (owns (dropO k O)) →
      (∃ r33 : Option Nat, w15.cell? ((at0 b).add 6) = some (.map r33) ∧ ∃ (v35 : Value), ∃ w34 : World, Sem.run Try.prog (Builtin.delete_ #[69, 9] 0 #[.map r33, .string k]) w15 = .ok v35 w34 ∧
        ((Value.tuple #[] : Value) = .tuple #[] ∧ Upd (fun x => x = m1 ∨ x = m2) w w34 ∧ w34.heap.size = w.heap.size ∧ IsCat w34 b g (dropO k O) m1 m2 G)) := by
    intro w15 u15 z15 hm
    have r15 := u15.rowW h.row h.n2
    have o15 := h.objs.upd u15 h.n3
    obtain ⟨w34, hr, hu, hz, hm1⟩ := o15.delete (P := Try.prog) (ty := 0) (t2 := 9) mapSO strT k
    rw [del_pairs] at hm1
    have uu : Upd (fun x => x = m1 ∨ x = m2) w w34 := Upd.trans (u15.mono fun x _ hx => .inr hx) hu fun x _ hx => .inl hx
    refine ⟨_, r15.row.cell rfl, _, w34, hr, rfl, uu, by omega, ?_⟩
    refine ⟨hu.rowW r15 h.n1, hm1.mono fun _ _ hv => hv.upd uu fun x hx hs => ?_, hm.upd hu (Ne.symm h.n3), h.n1, h.n2, h.n3, h.gb, h.g1, h.g2, fun x hx => Nat.lt_of_lt_of_le (h.lt x hx) uu.size⟩
    rcases hs with rfl | rfl
    · exact h.g1 hx
    · exact h.g2 hx
  refine ⟨_, hrow.cell (n := 6) rfl, ?_⟩
  rcases h.objs.lookup mapSO strT zeroOb k with ⟨o, v, hget, ⟨p, n, c, rfl, hst, hG, hn, hpn⟩, hl⟩ | ⟨hno, hl⟩
  · have hgo : getO k O = some o := hget
    have hst0 : ((getO k O).map (·.st)).getD [] = o.st := by rw [hgo]; rfl
    have hlen := hst.1
    obtain ⟨hoO, hok⟩ := (getO_some h.keys).1 hgo
    refine ⟨_, _, _, p, n, c, true, hl, ⟨0, o.st, ⟨rfl, Nat.zero_le _⟩, by omega, hst0.symm, Upd.refl _ _, rfl, ?_⟩, ?_⟩
    · rw [List.take_zero]
      have : ((owns O).filter fun y => decide (y.1 ∉ ([] : List Int))) = owns O := by rw [List.filter_eq_self]; simp
      rw [this]
      exact h.owners
    rintro n14 w15 ⟨i, st, ⟨rfl, hi⟩, hl2, rfl, u15, z15, hm⟩
    rw [hst0] at hi hl2 hm
    intros
    refine condB_of (fun hlt => ?_) (fun hge => ?_)
    · simp only [decide_eq_true_eq] at hlt
      obtain ⟨s, hs⟩ : ∃ s, o.st[i]? = some s := ⟨o.st[i]'(by omega), List.getElem?_eq_getElem _⟩
      have hne : o.st ≠ [] := by intro e; rw [e] at hs; simp at hs
      have hcells : CellsAt w15 p (o.st.map fun x => .int .i64 x) := hst.2.upd u15 fun a ha _ e => h.g2 (by rw [← e]; exact hG a ha hne)
      obtain ⟨a, rfl, ca⟩ := hcells i (.int .i64 s) (by rw [List.getElem?_map, hs]; rfl)
      have r15 := u15.rowW h.row h.n2
      obtain ⟨w30, hr, hu, hz, hm2⟩ := hm.delete (P := Try.prog) (ty := 0) (t2 := 3) mapIS intT' s
      rw [Int.toNat_natCast, Nat.mul_one]
      refine ⟨⟨by omega, hlt⟩, s, ca, _, r15.row.cell rfl, _, w30, hr, ?_⟩
      rw [w64 (by omega)]
      refine ⟨⟨i + 1, o.st, ⟨by omega, by omega⟩, by omega, hst0.symm, Upd.trans u15 hu fun _ _ h => h, by omega, ?_⟩, by show ((n : Int) - ((i : Int) + 1)).toNat < ((n : Int) - (i : Int)).toNat; omega⟩
      have : del s ((owns O).filter fun y => decide (y.1 ∉ o.st.take i)) = (owns O).filter fun y => decide (y.1 ∉ o.st.take (i + 1)) := by
        unfold del
        rw [List.filter_filter]
        apply List.filter_congr
        intro y _
        rw [List.take_add_one, hs]
        simp only [Option.toList_some, List.mem_append, List.mem_singleton, not_or]
        by_cases a1 : y.1 = s <;> by_cases a2 : y.1 ∈ o.st.take i <;> simp [a1, a2]
      rw [← this]
      exact hm2
    · simp only [decide_eq_false_iff_not] at hge
      have e1 : o.st.take i = o.st := List.take_of_length_le (by omega)
      rw [e1, owns_drop h.keys h.nodup hoO, hok] at hm
      exact fin u15 z15 hm
  · have hgo : getO k O = none := hno
    have hst0 : ((getO k O).map (·.st)).getD [] = [] := by rw [hgo]; rfl
    have hdrop : dropO k O = O := dropO_none (getO_none.1 hgo)
    refine ⟨_, _, _, none, 0, 0, false, hl, ⟨0, [], ⟨rfl, Nat.le_refl _⟩, rfl, hst0.symm, Upd.refl _ _, rfl, by rw [zero]; exact h.owners⟩, ?_⟩
    rintro n14 w15 ⟨i, st, ⟨rfl, hi⟩, hl2, rfl, u15, z15, hm⟩
    rw [hst0] at hi hm
    intros
    refine condB_of (fun hlt => ?_) (fun hge => ?_)
    · simp only [decide_eq_true_eq] at hlt
      omega
    · have : ((owns O).filter fun y => decide (y.1 ∉ (([] : List Int).take i))) = owns O := by rw [List.filter_eq_self]; simp
      rw [this] at hm
      refine fin u15 z15 ?_
      rw [hdrop]
      exact hm
end
end Go.Proofs.Ytclkoojcibgcdaa
