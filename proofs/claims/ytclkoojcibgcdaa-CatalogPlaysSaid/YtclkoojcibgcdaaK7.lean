/- A catalog: what is planned, and what is applied. -/
import Derived.Test.YtclkoojcibgcdaaK6
namespace Go.Proofs.Ytclkoojcibgcdaa
open Go Go.Vc

theorem nodup_len {n : Nat} : ∀ {L : List Int}, L.Nodup → (∀ x ∈ L, 0 ≤ x ∧ x < n) → L.length ≤ n := by
  induction n with
  | zero =>
    intro L _ h
    cases L with
    | nil => simp
    | cons a L => have := h a List.mem_cons_self; omega
  | succ n ih =>
    intro L hn h
    have := ih (L := L.erase (n : Int)) (hn.erase _) fun x hx => by
      have h1 := (hn.mem_erase_iff).1 hx
      have h2 := h x h1.2
      have := h1.1
      omega
    have hl := List.length_erase (a := (n : Int)) (l := L)
    split at hl <;> omega
theorem Cat.stripes_len {w : World} {b : Nat} {g : Geo} {O : List Ob} {F : Nat → Prop} (h : Cat w b g O F) : ((stripesO O).length : Int) ≤ g.stripes := by
  have hg := h.ok.geo
  have := nodup_len (n := g.stripes.toNat) h.nodup fun x hx => by
    obtain ⟨o, ho, hs⟩ := List.mem_flatMap.1 hx
    have h1 := (h.ok.obs o ho).1.2.1 x hs
    have h2 := (h.ok.obs o ho).2.2.2 x hs
    omega
  have h3 := hg.2.2.1
  omega

/-- the first free stripes -/
def planL (O : List Ob) (n m : Nat) : List Int := (((List.range m).map fun (i : Nat) => (i : Int)).filter fun s => decide (s ∉ stripesO O)).take n
theorem planL_zero (O : List Ob) (n : Nat) : planL O n 0 = [] := by simp [planL]
theorem planL_succ (O : List Ob) (n i : Nat) : planL O n (i + 1) = if (i : Int) ∉ stripesO O ∧ (planL O n i).length < n then planL O n i ++ [(i : Int)] else planL O n i := by
  have e : planL O n (i + 1) = ((((List.range i).map fun (j : Nat) => (j : Int)).filter fun s => decide (s ∉ stripesO O)) ++ if (i : Int) ∉ stripesO O then [(i : Int)] else []).take n := by
    unfold planL
    rw [List.range_succ, List.map_append, List.filter_append]
    congr 2
    by_cases h : (i : Int) ∈ stripesO O <;> simp [h]
  rw [e]
  unfold planL
  generalize ((List.range i).map fun (j : Nat) => (j : Int)).filter (fun s => decide (s ∉ stripesO O)) = A
  by_cases h : (i : Int) ∈ stripesO O
  · simp [h]
  · rw [if_pos h, List.take_append]
    by_cases hl : A.length < n
    · have h1 : A.take n = A := List.take_of_length_le (by omega)
      have h2 : [(i : Int)].take (n - A.length) = [(i : Int)] := List.take_of_length_le (by simp; omega)
      rw [h1, h2, if_pos ⟨h, hl⟩]
    · have h2 : n - A.length = 0 := by omega
      rw [h2, List.take_zero, List.append_nil, if_neg (fun hc => by have := hc.2; simp only [List.length_take] at this; omega)]
theorem planL_len (O : List Ob) (n m : Nat) : (planL O n m).length ≤ m := by
  unfold planL
  have h1 := List.length_filter_le (fun s => decide (s ∉ stripesO O)) ((List.range m).map fun (i : Nat) => (i : Int))
  simp only [List.length_map, List.length_range] at h1
  simp only [List.length_take]
  omega

def planO (g : Geo) (O : List Ob) (k : ByteArray) (n : Int) : List Int × Int :=
  if k.size < 1 ∨ 64 < k.size then ([], 190) else if n < 0 ∨ 2147483647 < n then ([], 1) else if FullO g O k then ([], 191)
  else if g.stripes - ((stripesO O).length : Int) < needsG g n then ([], 192) else (planL O (needsG g n).toNat g.stripes.toNat, 0)

theorem empty_size {k : ByteArray} : k = ⟨#[]⟩ ↔ k.size < 1 := by
  obtain ⟨⟨l⟩⟩ := k
  cases l with
  | nil => simp [ByteArray.size]
  | cons a l => simp [ByteArray.size]

section
variable {w : World} {b : Nat} {g : Geo} {O : List Ob} {F : Nat → Prop}

set_option maxHeartbeats 1000000 in
theorem plan1_spec (h : Cat w b g O F) {k4 k22 k32 : Nat} {n : Int} (c4 : w.cell? (at0 k4) = some (.pointer (some (at0 b)))) (c22 : w.cell? (at0 k22) = some (.int .i64 n)) {p : Option Addr} {l c : Nat} (r32 : RowW w k32 #[.slice p l c]) {base : Nat} {out : List Int}
    (own : OwnS w base 3 1 p l c (encI out)) (hb : base ≤ w.heap.size) (hl : l ≤ 1000) (h32 : k32 < base) (s : Int) :
    Calls Try.prog 47 #[.int .i64 s, .pointer (some (at0 k4)), .pointer (some (at0 k32)), .pointer (some (at0 k22))] w fun e w' => e = .returned (.tuple #[]) ∧ ∃ p' l' c', Upd (fun x => x = k32 ∨ base ≤ x) w w' ∧ RowW w' k32 #[.slice p' l' c'] ∧
      OwnS w' base 3 1 p' l' c' (encI (if s ∉ stripesO O ∧ (out.length : Int) < n then out ++ [s] else out)) := by
  obtain ⟨⟨m1, m2, G, hi, rfl⟩, hk⟩ := h
  refine (F47_calls s (at0 k4) (at0 k32) (at0 k22) w (fun v w' => v = .tuple #[] ∧ ∃ p' l' c', Upd (fun x => x = k32 ∨ base ≤ x) w w' ∧ RowW w' k32 #[.slice p' l' c'] ∧
      OwnS w' base 3 1 p' l' c' (encI (if s ∉ stripesO O ∧ (out.length : Int) < n then out ++ [s] else out))) ?_).mono (by rintro e w' ⟨v, rfl, rfl, h⟩; exact ⟨rfl, h⟩)
  have hlen : l = out.length := (own_ints own).1
  refine ⟨_, c4, _, hi.row.row.cell rfl, ?_⟩
  rcases hi.owner s with ⟨k, hk', hl'⟩ | ⟨hno, hl'⟩
  · refine ⟨_, true, hl', condB_of (fun h => by cases h) fun _ => ⟨rfl, p, l, c, Upd.refl _ _, r32, ?_⟩⟩
    rw [if_neg]
    · exact own
    · rintro ⟨h1, _⟩
      apply h1
      rw [← owns_keys]
      exact List.mem_map.2 ⟨_, hk', rfl⟩
  · refine ⟨_, false, hl', condB_of (fun _ => ⟨_, _, _, r32.row.cell (n := 0) rfl, _, c22, condB_of (fun hlt => ?_) fun hge => ?_⟩) fun h => by cases h⟩
    · simp only [decide_eq_true_eq] at hlt
      refine ⟨_, _, _, r32.row.cell (n := 0) rfl, fun k13 w14 hk13 => ?_⟩
      have hbox : CellsAt w14 (some (at0 k13)) (encI [s]) := by
        intro j u hj
        refine ⟨_, rfl, ?_⟩
        have hb := hk13.at
        match j, hj with
        | 0, hj => cases hj; simp [World.cell?, Addr.add, hb]
      obtain ⟨p', c', w15, hr, own15, u15, _⟩ := (own.ext hk13.ext).append elemI 37 (q := some (at0 k13)) (m := 1) (d := 1) (news := encI [s]) rfl hbox (fun h => by cases h) (encI_one _) (by unfold maxLen; omega) (by omega) (Nat.le_trans hb hk13.ext.size)
      have hfar : ∀ x, p = some (at0 x) → base ≤ x := fun x hx => by
        rcases own.where_ with ⟨h0, _⟩ | ⟨g', h0, hge, _⟩
        · rw [h0] at hx; cases hx
        · rw [h0] at hx
          simp only [Option.some.injEq, at0, Addr.mk.injEq, and_true] at hx
          omega
      have r15 := u15.rowW (hk13.ext.rowW r32 id) (fun hx => by have := hfar _ hx; omega)
      refine ⟨p', l + 1, c', w15, hr, r15.live (n := 0) (by simp), fun w17 s17 => ?_⟩
      have s17' : SetC w15 ((at0 k32).add 0) (.slice p' (l + 1) c') w17 := s17
      have u17 : Upd (fun x => x = k32) w15 w17 := by
        have := s17'.upd
        rw [add_at0] at this
        exact this
      refine ⟨rfl, p', l + 1, c', ?_, s17'.row r15, ?_⟩
      · exact Upd.trans (Upd.trans hk13.ext.upd u15 fun x _ hx => .inr (hfar x hx)) u17 fun x _ hx => .inl hx
      · rw [if_pos ⟨hno, by omega⟩]
        have e : encI (out ++ [s]) = encI out ++ encI [s] := by simp [encI]
        rw [e]
        refine own15.upd u17 fun g' hg' e' => ?_
        rcases own15.where_ with ⟨h0, _⟩ | ⟨g2, h0, hge, _⟩
        · rw [h0] at hg'; cases hg'
        · rw [h0] at hg'
          simp only [Option.some.injEq, at0, Addr.mk.injEq, and_true] at hg'
          omega
    · simp only [decide_eq_false_iff_not] at hge
      refine ⟨rfl, p, l, c, Upd.refl _ _, r32, ?_⟩
      rw [if_neg (fun h => hge (by omega))]
      exact own

set_option maxHeartbeats 2000000 in
theorem plan_spec (h : Cat w b g O F) (k : ByteArray) (n : Int) :
    Calls Try.prog 25 #[.pointer (some (at0 b)), .string k, .int .i64 n] w fun e w' => ∃ p l c, e = .returned (.tuple #[.slice p l c, .int .i64 (planO g O k n).2]) ∧ Ext w w' ∧ OwnS w' w.heap.size 3 1 p l c (encI (planO g O k n).1) := by
  refine (F25_calls (some (at0 b)) k n w (fun v w' => ∃ p l c, v = .tuple #[.slice p l c, .int .i64 (planO g O k n).2] ∧ Ext w w' ∧ OwnS w' w.heap.size 3 1 p l c (encI (planO g O k n).1))
    (fun q _ w33 m w40 => ∃ (k32 i : Nat) (p : Option Addr) (l c : Nat), q = some (at0 k32) ∧ m = i ∧ (i : Int) ≤ g.stripes ∧ Upd (fun x => x = k32) w33 w40 ∧ RowW w40 k32 #[.slice p l c] ∧ OwnS w40 w33.heap.size 3 1 p l c (encI (planL O (needsG g n).toNat i)))
    (fun _ _ _ m _ => 256 - m.toNat) ?_).mono (by rintro e w' ⟨v, rfl, p, l, c, rfl, h⟩; exact ⟨p, l, c, rfl, h⟩)
  have hgeo := h.ok.geo
  have fail : ∀ {w' : World} (z : Int), Ext w w' → planO g O k n = ([], z) → ∃ p l c, (Value.tuple #[.slice none 0 0, .int .i64 z] : Value) = .tuple #[.slice p l c, .int .i64 (planO g O k n).2] ∧ Ext w w' ∧ OwnS w' w.heap.size 3 1 p l c (encI (planO g O k n).1) :=
    fun z hx hp => ⟨none, 0, 0, by rw [hp], hx, by rw [hp]; exact OwnS.nil _ _ _ _⟩
  intro k4 w5 hk4
  have hk4' := hk4.size
  have r5 : RowW w5 k4 _ := ⟨_, hk4.at⟩
  have x5 := hk4.ext
  refine ⟨_, r5.row.cell (n := 0) rfl, condB_of (fun h => by cases h) fun _ => condB_of (fun h1 => fail 190 x5 ?_) fun h1 => condB_of (fun h2 => fail 190 x5 ?_) fun h2 => condB_of (fun h3 => fail 1 x5 ?_) fun h3 => condB_of (fun h4 => fail 1 x5 ?_) fun h4 => ?_⟩
  · simp only [decide_eq_true_eq] at h1
    unfold planO
    rw [if_pos (.inl (empty_size.1 h1))]
  · simp only [decide_eq_true_eq] at h2
    unfold planO
    rw [if_pos (.inr (by omega))]
  · simp only [decide_eq_true_eq, decide_eq_false_iff_not] at h1 h2 h3
    have h1' : ¬ k.size < 1 := fun h => h1 (empty_size.2 h)
    unfold planO
    rw [if_neg (by omega), if_pos (.inl h3)]
  · simp only [decide_eq_true_eq, decide_eq_false_iff_not] at h1 h2 h4
    have h1' : ¬ k.size < 1 := fun h => h1 (empty_size.2 h)
    unfold planO
    rw [if_neg (by omega), if_pos (.inr h4)]
  simp only [decide_eq_false_iff_not] at h1 h2 h3 h4
  have h1' : ¬ k.size < 1 := fun h => h1 (empty_size.2 h)
  have hp1 : planO g O k n = if FullO g O k then ([], 191) else if g.stripes - ((stripesO O).length : Int) < needsG g n then ([], 192) else (planL O (needsG g n).toNat g.stripes.toNat, 0) := by
    unfold planO
    rw [if_neg (by omega), if_neg (by omega)]
  refine ⟨_, r5.row.cell (n := 0) rfl, (full_spec (h.ext x5) k).mono ?_⟩
  rintro e w8 ⟨rfl, x8⟩
  have y8 := x5.trans x8
  have r8 := x8.rowW r5 id
  refine ⟨_, rfl, condB_of (fun hf => fail 191 y8 ?_) fun hf => ?_⟩
  · simp only [decide_eq_true_eq] at hf
    rw [hp1, if_pos hf]
  simp only [decide_eq_false_iff_not] at hf
  rw [if_neg hf] at hp1
  have h8 := h.ext y8
  obtain ⟨⟨m1, m2, G, hi8, rfl⟩, _⟩ := h8
  refine ⟨_, r8.row.cell (n := 0) rfl, _, hi8.row.row.cell (n := 0) rfl, _, hi8.row.row.cell (n := 1) rfl, _, hi8.row.row.cell (n := 2) rfl, _, hi8.row.row.cell (n := 3) rfl, _, hi8.row.row.cell (n := 4) rfl, _, hi8.row.row.cell (n := 5) rfl, (needs_spec g n (by omega) w8).mono ?_⟩
  rintro e w19 ⟨rfl, x19⟩
  have y19 := y8.trans x19
  have r19 := x19.rowW r8 id
  refine ⟨_, rfl, fun k22 w23 hk22 => ?_⟩
  have hk22' := hk22.size
  have r23 : RowW w23 k22 _ := ⟨_, hk22.at⟩
  refine ⟨r23.live (n := 0) (by simp), fun w24 s24 w25 d25 => ?_⟩
  have s24' : SetC w23 ((at0 k22).add 0) (.int .i64 (needsG g n)) w24 := s24
  have x24 : Ext w19 w24 := setc_newk hk22.ext (by omega) s24'
  have x25 := x24.trans d25.ext
  have y25 := y19.trans x25
  have r25 : RowW w25 k22 #[.int .i64 (needsG g n)] := d25.ext.rowW (s24'.row r23) id
  have q25 := x25.rowW r19 id
  have h25 := h.ext y25
  refine ⟨_, r25.row.cell (n := 0) rfl, _, q25.row.cell (n := 0) rfl, (free_spec h25).mono ?_⟩
  rintro e w28 ⟨rfl, x28⟩
  have y28 := y25.trans x28
  have r28 := x28.rowW r25 id
  have q28 := x28.rowW q25 id
  have hsl := h.stripes_len
  have hgs := hgeo.2.2.1
  rw [w64 (by omega)]
  refine ⟨_, rfl, ⟨_, r28.row.cell (n := 0) rfl, rfl⟩, condB_of (fun hlt => fail 192 y28 ?_) fun hge => fun k32 w33 hk32 => ?_⟩
  · simp only [decide_eq_true_eq] at hlt
    rw [hp1, if_pos hlt]
  simp only [decide_eq_false_iff_not] at hge
  rw [if_neg hge] at hp1
  have hk32' := hk32.size
  have y33 := y28.trans hk32.ext
  have q33 := hk32.ext.rowW q28 id
  have r33 := hk32.ext.rowW r28 id
  have h33 := h.ext y33
  obtain ⟨⟨m1', m2', G', hi33, _⟩, _⟩ := h33
  refine ⟨_, q33.row.cell (n := 0) rfl, _, hi33.row.row.cell (n := 3) rfl, ⟨k32, 0, none, 0, 0, rfl, rfl, by omega, Upd.refl _ _, ⟨_, hk32.at⟩, by rw [planL_zero]; exact OwnS.nil _ _ _ _⟩, ?_⟩
  rintro n39 w40 ⟨k', i, p, l, c, hq, rfl, hi, u40, r40, own40⟩
  cases hq
  intros
  have zz := y33.size
  have z28 := y28.size
  have hlt28 := r28.lt
  have hltq := q28.lt
  refine condB_of (fun hlt => ?_) (fun hge => ?_)
  · simp only [decide_eq_true_eq] at hlt
    have h40 : Cat w40 b g O _ := (h.ext y33).upd u40 fun x hx hf => by have := h.lt x hf; omega
    have c4 := (u40.rowW q33 (by omega)).row.cell (n := 0) rfl
    have c22 := (u40.rowW r33 (by omega)).row.cell (n := 0) rfl
    have hll := (own_ints own40).1
    have hpl := planL_len O (needsG g n).toNat i
    refine (plan1_spec h40 c4 c22 r40 own40 u40.size (by omega) (by omega) (i : Int)).mono ?_
    rintro e w48 ⟨rfl, p', l', c', u48, r48, own48⟩
    rw [w64 (by omega)]
    refine ⟨rfl, ⟨k32, i + 1, p', l', c', rfl, by omega, by omega, Upd.trans u40 u48 fun x hx hs => by omega, r48, ?_⟩, by show 256 - ((i : Int) + 1).toNat < 256 - (i : Int).toNat; omega⟩
    rw [planL_succ]
    have hnn := (needsG_bound (g := g) (n := n) (by omega)).1
    by_cases hc : (i : Int) ∉ stripesO O ∧ (planL O (needsG g n).toNat i).length < (needsG g n).toNat
    · rw [if_pos hc]
      rw [if_pos ⟨hc.1, by omega⟩] at own48
      exact own48
    · rw [if_neg hc]
      rw [if_neg (fun h => hc ⟨h.1, by omega⟩)] at own48
      exact own48
  · simp only [decide_eq_false_iff_not] at hge
    have hi' : i = g.stripes.toNat := by omega
    subst hi'
    refine ⟨_, _, _, r40.row.cell (n := 0) rfl, p, l, c, by rw [hp1], Upd.trans y33 u40 fun x hx hs => by omega, ?_⟩
    rw [hp1]
    exact own40.base_le zz

def applyO (g : Geo) (O : List Ob) (kind : Int) (k : ByteArray) (n : Int) (st : List Int) (epoch : Int) : List Ob × Int :=
  if ¬ RecOk kind k n st then (O, 1) else if kind = 2 ∧ getO k O = none then (O, 193) else if kind = 2 then (dropO k O, 0) else if FullO g O k then (O, 191)
  else if ¬ FitsO g O ⟨k, n, epoch, st⟩ then (O, 1) else (insO ⟨k, n, epoch, st⟩ O, 0)

set_option maxHeartbeats 2000000 in
theorem apply_spec (h : Cat w b g O F) (kind : Int) (k : ByteArray) (n : Int) (hn : n ≤ 9223372036854775807) (epoch : Int) {p : Option Addr} {l c : Nat} {st : List Int} (hst : IntsAt w p l st) (hl : l ≤ 4611686018427387904) (hlc : l ≤ c) (hp : p = none → l = 0) :
    Calls Try.prog 26 #[.pointer (some (at0 b)), .agg #[.int .i64 kind, .string k, .int .i64 n, .slice p l c], .int .i64 epoch] w fun e w' => ∃ F', e = .returned (.int .i64 (applyO g O kind k n st epoch).2) ∧ Step F F' w w' ∧ Cat w' b g (applyO g O kind k n st epoch).1 F' := by
  refine (F26_calls (some (at0 b)) kind k n p l c epoch w (fun v w' => ∃ F', v = .int .i64 (applyO g O kind k n st epoch).2 ∧ Step F F' w w' ∧ Cat w' b g (applyO g O kind k n st epoch).1 F') ?_).mono (by rintro e w' ⟨v, rfl, F', rfl, h⟩; exact ⟨F', rfl, h⟩)
  have same : ∀ {w' : World} (z : Int), Ext w w' → applyO g O kind k n st epoch = (O, z) → ∃ F', (Value.int .i64 z : Value) = .int .i64 (applyO g O kind k n st epoch).2 ∧ Step F F' w w' ∧ Cat w' b g (applyO g O kind k n st epoch).1 F' :=
    fun z hx he => ⟨F, by rw [he], Step.ext hx, by rw [he]; exact h.ext hx⟩
  have hlen := hst.1
  intro k7 w8 hk7
  have hk7' := hk7.size
  have r8 : RowW w8 k7 _ := ⟨_, hk7.at⟩
  have x8 := hk7.ext
  refine condB_of (fun h => by cases h) fun _ => ⟨_, r8.row.cell (n := 0) rfl, _, r8.row.cell rfl, _, r8.row.cell rfl, _, _, _, r8.row.cell rfl, (rec_spec kind k n (hst.ext x8) hl).mono ?_⟩
  rintro e w13 ⟨rfl, x13⟩
  have y13 := x8.trans x13
  have r13 := x13.rowW r8 id
  refine ⟨_, rfl, condB_of (fun h1 => same 1 y13 ?_) fun h1 => ?_⟩
  · have : ¬ RecOk kind k n st := fun hr => by simp [recZ, hr] at h1
    unfold applyO
    rw [if_pos this]
  have hr : RecOk kind k n st := by
    by_cases hr : RecOk kind k n st
    · exact hr
    · simp [recZ, hr] at h1
  have ha1 : applyO g O kind k n st epoch = if kind = 2 ∧ getO k O = none then (O, 193) else if kind = 2 then (dropO k O, 0) else if FullO g O k then (O, 191) else if ¬ FitsO g O ⟨k, n, epoch, st⟩ then (O, 1) else (insO ⟨k, n, epoch, st⟩ O, 0) := by
    unfold applyO
    rw [if_neg (fun h => h hr)]
  refine ⟨_, r13.row.cell rfl, _, r13.row.cell rfl, _, _, _, r13.row.cell rfl, fun k19 w20 hk19 => ?_⟩
  have hk19' := hk19.size
  have z13 := y13.size
  have r20 : RowW w20 k19 _ := ⟨_, hk19.at⟩
  refine fill4 (v0 := .string k) (v1 := .int .i64 n) (v2 := .int .i64 epoch) (v3 := .slice p l c) hk19.ext (by omega) r20 fun w24 x24 _ r24 => ?_
  intro w25 d25
  have x25 := x24.trans d25.ext
  have r25 := d25.ext.rowW r24 id
  have q25 := x25.rowW r13 id
  have y25 := y13.trans x25
  have h25 := h.ext y25
  obtain ⟨⟨m1, m2, G, hi25, hFe⟩, _⟩ := h25
  refine ⟨_, hi25.row.row.cell rfl, _, q25.row.cell rfl, ?_⟩
  -- behind the look-up, whatever it tells
  have main : ∀ (bb : Bool) (w46 : World), (bb = true ↔ getO k O ≠ none) → Ext w25 w46 → RowW w46 k7 #[.int .i64 kind, .string k, .int .i64 n, .slice p l c] → RowW w46 k19 #[.string k, .int .i64 n, .int .i64 epoch, .slice p l c] →
      ∃ n47 : Int, w46.cell? ((at0 k7).add 0) = some (.int .i64 n47) ∧ condB (decide (n47 = (2 : Int))) (condB (!bb) (∃ F', (Value.int .i64 193 : Value) = .int .i64 (applyO g O kind k n st epoch).2 ∧ Step F F' w w46 ∧ Cat w46 b g (applyO g O kind k n st epoch).1 F')
        (F26_A0 w46 k7 (some (at0 b)) k19 (fun v w' => ∃ F', v = .int .i64 (applyO g O kind k n st epoch).2 ∧ Step F F' w w' ∧ Cat w' b g (applyO g O kind k n st epoch).1 F')))
        (F26_A0 w46 k7 (some (at0 b)) k19 (fun v w' => ∃ F', v = .int .i64 (applyO g O kind k n st epoch).2 ∧ Step F F' w w' ∧ Cat w' b g (applyO g O kind k n st epoch).1 F')) := by
    intro bb w46 hbb x46 q46 r46
    have y46 := y25.trans x46
    have rest : ¬ (kind = 2 ∧ getO k O = none) → F26_A0 w46 k7 (some (at0 b)) k19 (fun v w' => ∃ F', v = .int .i64 (applyO g O kind k n st epoch).2 ∧ Step F F' w w' ∧ Cat w' b g (applyO g O kind k n st epoch).1 F') := by
      intro hno
      rw [if_neg hno] at ha1
      have h46 := h.ext y46
      refine ⟨_, q46.row.cell (n := 0) rfl, condB_of (fun h2 => ⟨_, q46.row.cell rfl, ?_⟩) fun h2 => ⟨_, q46.row.cell rfl, (full_spec h46 k).mono ?_⟩⟩
      · simp only [decide_eq_true_eq] at h2
        rw [if_pos h2] at ha1
        obtain ⟨⟨m1', m2', G', hi46, rfl⟩, hok⟩ := h46
        refine (drop_spec hi46 k).mono ?_
        rintro e w50 ⟨rfl, u50, _, h50⟩
        refine ⟨rfl, _, by rw [ha1], ⟨Upd.trans y46.upd u50 fun x hx hs => ?_, fun x hx => .inl hx⟩, ?_⟩
        · rcases hs with rfl | rfl
          · exact .inr (.inl rfl)
          · exact .inr (.inr (.inl rfl))
        · rw [ha1]
          exact ⟨⟨m1', m2', G', h50, rfl⟩, hok.drop k⟩
      simp only [decide_eq_false_iff_not] at h2
      rw [if_neg h2] at ha1
      rintro e w53 ⟨rfl, x53⟩
      have y53 := y46.trans x53
      refine ⟨_, rfl, condB_of (fun hf => same 191 y53 ?_) fun hf => ?_⟩
      · simp only [decide_eq_true_eq] at hf
        rw [ha1, if_pos hf]
      simp only [decide_eq_false_iff_not] at hf
      rw [if_neg hf] at ha1
      have r53 := x53.rowW r46 id
      have h53 := h.ext y53
      obtain ⟨⟨m1', m2', G', hi53, hFe'⟩, hok⟩ := h53
      refine ⟨_, r53.row.cell (n := 0) rfl, _, r53.row.cell rfl, _, r53.row.cell rfl, _, _, _, r53.row.cell rfl, (fits_spec hi53 ⟨k, n, epoch, st⟩ (hst.ext y53) hl hlc hn).mono ?_⟩
      rintro e w60 ⟨rfl, x60⟩
      have y60 := y53.trans x60
      refine ⟨_, rfl, condB_of (fun hfit => same 1 y60 ?_) fun hfit => ?_⟩
      · simp only [Bool.not_eq_true', decide_eq_false_iff_not] at hfit
        rw [ha1, if_pos hfit]
      simp only [Bool.not_eq_false', decide_eq_true_eq] at hfit
      rw [if_neg (fun h => h hfit)] at ha1
      have r60 := x60.rowW r53 id
      have hi60 := hi53.ext x60
      refine ⟨_, r60.row.cell (n := 0) rfl, _, r60.row.cell rfl, _, r60.row.cell rfl, _, _, _, r60.row.cell rfl, (put_spec hi60 ⟨k, n, epoch, st⟩ (hst.ext y60) (by have := hfit.1.1.2.2.2; simp only at this; omega) hp hfit.2.2.2.2 (fun s hs => (hfit.2.2.2.1 s hs).1)).mono ?_⟩
      rintro e w67 ⟨rfl, G2, u67, h67, hG2⟩
      refine ⟨rfl, CatF b m1' m2' G2, by rw [ha1], ⟨Upd.trans y60.upd u67 fun x hx hs => ?_, ?_⟩, ?_⟩
      · rw [hFe']
        rcases hs with rfl | rfl
        · exact .inr (.inl rfl)
        · exact .inr (.inr (.inl rfl))
      · rw [hFe']
        rintro x (hx | hx | hx | hx)
        · exact .inl (.inl hx)
        · exact .inl (.inr (.inl hx))
        · exact .inl (.inr (.inr (.inl hx)))
        · rcases hG2 x hx with h | h
          · exact .inl (.inr (.inr (.inr h)))
          · exact .inr (Nat.le_trans y60.size h)
      · rw [ha1]
        exact ⟨⟨m1', m2', G2, h67.perm (insO_perm ⟨k, n, epoch, st⟩ O).symm, rfl⟩, hok.ins hfit hf⟩
    refine ⟨_, q46.row.cell (n := 0) rfl, condB_of (fun h2 => condB_of (fun hb => same 193 y46 ?_) fun hb => rest ?_) fun h2 => rest ?_⟩ <;> simp only [decide_eq_true_eq, decide_eq_false_iff_not, Bool.not_eq_true', Bool.not_eq_false'] at *
    · have hnone : getO k O = none := by
        cases hg : getO k O with
        | none => rfl
        | some o => have := hbb.2 (by rw [hg]; simp); rw [hb] at this; cases this
      rw [ha1, if_pos ⟨h2, hnone⟩]
    · exact fun h => hbb.1 hb h.2
    · exact fun h => h2 h.1
  rcases lookupU (P := Try.prog) hi25.objs mapSO strT zeroOb k with ⟨o', v, hget, ⟨p1, n1, c1, rfl, _⟩, hl'⟩ | ⟨hno, hl'⟩
  · have hg : getO k O = some o' := hget
    refine ⟨_, _, _, p1, n1, c1, true, hl' w25 rfl, fun k34 w35 hk34 => ?_⟩
    have hk34' := hk34.size
    have hh : w35.heap[m1]? = w25.heap[m1]? := hk34.ext.block m1 hi25.objs.lt id
    have r35 : RowW w35 k34 _ := ⟨_, hk34.at⟩
    refine ⟨⟨_, (hi25.ext hk34.ext).row.row.cell rfl, rfl⟩, ⟨_, (hk34.ext.rowW q25 id).row.cell rfl, rfl⟩, ⟨_, _, _, _, _, _, _, hl' w35 hh, rfl⟩, ?_⟩
    refine fill4 (w0 := w25) hk34.ext (by omega) r35 fun w46 x46 _ _ => ?_
    exact main true w46 (by rw [hg]; simp) x46 (x46.rowW q25 id) (x46.rowW r25 id)
  · have hg : getO k O = none := hno
    refine ⟨_, _, _, none, 0, 0, false, hl' w25 rfl, fun k34 w35 hk34 => ?_⟩
    have hk34' := hk34.size
    have hh : w35.heap[m1]? = w25.heap[m1]? := hk34.ext.block m1 hi25.objs.lt id
    have r35 : RowW w35 k34 _ := ⟨_, hk34.at⟩
    refine ⟨⟨_, (hi25.ext hk34.ext).row.row.cell rfl, rfl⟩, ⟨_, (hk34.ext.rowW q25 id).row.cell rfl, rfl⟩, ⟨_, _, _, none, 0, 0, false, hl' w35 hh, rfl⟩, ?_⟩
    refine fill4 (w0 := w25) hk34.ext (by omega) r35 fun w46 x46 _ _ => ?_
    exact main false w46 (by rw [hg]; simp) x46 (x46.rowW q25 id) (x46.rowW r25 id)
end
end Go.Proofs.Ytclkoojcibgcdaa
