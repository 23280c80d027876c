/- An array's calls on all disks. -/
import Derived.Test.YtbidancfbilbkaaA3
namespace Go.Proofs.Ytbidancfbilbkaa
open Go Go.Vc

theorem app_one {P : Program} {t e : TypeId} {bytes : Nat} (E : ElemOf P t e 1 bytes) (hby : bytes ≤ 64) {w0 w : World} (hx : Ext w0 w) {p : Option Addr} {n c : Nat} {xs : List Value} (h : OwnS w w0.heap.size e 1 p n c xs) {k : Nat} {v : Value} {w1 : World}
    (hk : NewB w k (.cells #[v] e) w1) (hv : v.oneCell' = true) (hn : n ≤ 100000) :
    ∃ p' c' w', Sem.run P (Builtin.append_ #[t, t] t #[.slice p n c, .slice (some (at0 k)) 1 1]) w1 = .ok (.slice p' (n + 1) c') w' ∧ OwnS w' w0.heap.size e 1 p' (n + 1) c' (xs ++ [v]) ∧ Ext w0 w' := by
  have hbox : CellsAt w1 (some (at0 k)) [v] := by
    intro j u hj
    refine ⟨_, rfl, ?_⟩
    have hb := hk.at
    match j, hj with
    | 0, hj => cases hj; simp [World.cell?, Addr.add, hb]
  have hx1 := hx.trans hk.ext
  have h' := h.ext hk.ext
  have hmul : (n + 1) * bytes ≤ (100000 + 1) * 64 := Nat.mul_le_mul (by omega) hby
  obtain ⟨p', c', w', hr, ho, hu, _⟩ := h'.append E t (q := some (at0 k)) (m := 1) (d := 1) (news := [v]) rfl hbox (fun h => by cases h) (by intro u hu; simp only [List.mem_singleton] at hu; subst hu; exact hv) (by unfold maxLen; omega) (by omega) hx1.size
  refine ⟨p', c', w', hr, ho, ?_⟩
  refine Upd.trans hx1 hu fun x hx' hs => ?_
  rcases h'.where_ with ⟨h0, _⟩ | ⟨g, h0, hge, _⟩
  · rw [h0] at hs; cases hs
  · rw [h0] at hs
    simp only [Option.some.injEq, at0, Addr.mk.injEq, and_true] at hs
    omega

theorem elemBool : ElemOf Try.prog 54 4 1 1 := ⟨by kernel_rfl, ⟨Try.t4, .bool false, by kernel_rfl, by kernel_rfl, by kernel_rfl, by kernel_rfl, by kernel_rfl⟩, by decide⟩
theorem elemInt : ElemOf Try.prog 56 3 1 8 := ⟨by kernel_rfl, ⟨Try.t3, .int .i64 0, by kernel_rfl, by kernel_rfl, by kernel_rfl, by kernel_rfl, by kernel_rfl⟩, by decide⟩

theorem setc_new {w0 w w' : World} {k j : Nat} {v : Value} (h : Ext w0 w) (hk : w0.heap.size ≤ k) (hs : SetC w ((at0 k).add j) v w') : Ext w0 w' := by
  refine Upd.trans h hs.upd fun x hx he => ?_
  have : x = k := by
    rw [add_at0] at he
    exact he
  omega

section
variable {w : World} {a : Nat} {M : List Mem} {left : Int} {down : Bool} {F : Nat → Prop}

/-- a copy of a disk's entry -/
theorem IsArr.entry (h : IsArr w a M left down F) {p : Option Addr} {cm : Nat} (hr : RowW w a #[.slice p M.length cm, .int .i64 left, .bool down]) {i : Nat} {m : Mem} (hi : M[i]? = some m) :
    ∃ ap b Fi, p = some ap ∧ w.cell? (ap.add (i * 2)) = some (.pointer (some (at0 b))) ∧ w.cell? ((ap.add (i * 2)).add 1) = some (.int .i64 m.births) ∧ Dsk w b m.d Fi ∧ (∀ x, Fi x → F x ∧ x ≠ a) ∧
      ∀ w' D' F', Step Fi F' w w' → Dsk w' b D' F' → ∃ F2, IsArr w' a (M.set i { m with d := D' }) left down F2 ∧ Step F F2 w w' := by
  obtain ⟨ap, cm', b, Fi, e0, e1, _, e2, hd, hF, hs⟩ := h.at hi
  have := hr.row.cell (n := 0) rfl
  rw [e0] at this
  cases this
  exact ⟨ap, b, Fi, rfl, e1, e2, hd, hF, hs⟩

set_option maxHeartbeats 1000000 in
theorem live_spec (h : IsArr w a M left down F) (hM : M.length ≤ 100) : Calls Try.prog 28 #[.pointer (some (at0 a))] w fun e w' => ∃ p l c, e = .returned (.slice p l c) ∧ Ext w w' ∧ l = M.length ∧
    OwnS w' w.heap.size 4 1 p l c (M.map fun m => .bool (!m.d.dead)) := by
  refine (F28_calls (some (at0 a)) w (fun v w' => ∃ p l c, v = .slice p l c ∧ Ext w w' ∧ l = M.length ∧ OwnS w' w.heap.size 4 1 p l c (M.map fun m => .bool (!m.d.dead)))
    (fun _ _ _ _ _ p8 l8 c8 n9 w10 => ∃ i : Nat, n9 = i ∧ i ≤ M.length ∧ Ext w w10 ∧ l8 = i ∧ OwnS w10 w.heap.size 4 1 p8 l8 c8 ((M.take i).map fun m => .bool (!m.d.dead))) (fun _ _ _ _ _ _ _ _ n9 _ => 100 - n9.toNat) ?_).mono (by
      rintro e w' ⟨v, rfl, p, l, c, rfl, h⟩; exact ⟨p, l, c, rfl, h⟩)
  obtain ⟨p, cm, hr⟩ := h.row
  refine condB_of (fun h => by cases h) fun _ => ⟨_, _, _, hr.row.cell rfl, ⟨0, rfl, Nat.zero_le _, Upd.refl _ _, rfl, OwnS.nil _ _ _ _⟩, ?_⟩
  rintro p8 l8 c8 n9 w10 ⟨i, rfl, hi, x10, rfl, own⟩
  intros
  refine condB_of (fun hlt => ?_) (fun hge => ?_)
  · simp only [decide_eq_true_eq] at hlt
    obtain ⟨m, hm⟩ : ∃ m, M[l8]? = some m := ⟨M[l8]'(by omega), List.getElem?_eq_getElem _⟩
    obtain ⟨ap, b, Fi, rfl, e1, e2, hd, _, _⟩ := (h.ext x10).entry (x10.rowW hr id) hm
    rw [Int.toNat_natCast]
    refine ⟨⟨by omega, hlt⟩, _, e1, _, e2, fun k26 w27 hk => ?_⟩
    have hk0 : w10.heap.size ≤ k26 := by rw [hk.size.1]; exact Nat.le_refl _
    have r27 : RowW w27 k26 _ := ⟨_, hk.at⟩
    refine ⟨r27.live (n := 0) (by simp), fun w28 s28 => ?_⟩
    have s28' : SetC w27 ((at0 k26).add 0) (.pointer (some (at0 b))) w28 := s28
    have r28 := s28'.row r27
    have x28 := setc_new hk.ext hk0 s28'
    refine ⟨r28.live (by simp), fun w29 s29 => ?_⟩
    have r29 := s29.row r28
    have x29 := setc_new x28 hk0 s29
    refine ⟨some (at0 b), r29.row.cell rfl, ?_⟩
    refine (d_dead (hd.ext x29)).mono ?_
    rintro e w31 ⟨rfl, rfl⟩
    refine ⟨_, rfl, fun k34 w35 hk34 => ?_⟩
    have x31 := x10.trans x29
    obtain ⟨p', c', w36, hrun, own36, x36⟩ := app_one elemBool (by omega) x31 (own.ext x29) hk34 rfl (by omega)
    refine ⟨p', l8 + 1, c', w36, hrun, ?_⟩
    rw [w64 (by omega)]
    refine ⟨⟨l8 + 1, by omega, by omega, x36, rfl, ?_⟩, by show 100 - ((l8 : Int) + 1).toNat < 100 - (l8 : Int).toNat; omega⟩
    rw [List.take_add_one, hm]
    simpa using own36
  · simp only [decide_eq_false_iff_not] at hge
    have : M.take l8 = M := List.take_of_length_le (by omega)
    rw [this] at own
    exact ⟨p8, l8, c8, rfl, x10, by omega, own⟩

set_option maxHeartbeats 1000000 in
theorem births_spec (h : IsArr w a M left down F) (hM : M.length ≤ 100) : Calls Try.prog 29 #[.pointer (some (at0 a))] w fun e w' => ∃ p l c, e = .returned (.slice p l c) ∧ Ext w w' ∧ l = M.length ∧
    OwnS w' w.heap.size 3 1 p l c (M.map fun m => .int .i64 m.births) := by
  refine (F29_calls (some (at0 a)) w (fun v w' => ∃ p l c, v = .slice p l c ∧ Ext w w' ∧ l = M.length ∧ OwnS w' w.heap.size 3 1 p l c (M.map fun m => .int .i64 m.births))
    (fun _ _ _ _ _ p8 l8 c8 n9 w10 => ∃ i : Nat, n9 = i ∧ i ≤ M.length ∧ Ext w w10 ∧ l8 = i ∧ OwnS w10 w.heap.size 3 1 p8 l8 c8 ((M.take i).map fun m => .int .i64 m.births)) (fun _ _ _ _ _ _ _ _ n9 _ => 100 - n9.toNat) ?_).mono (by
      rintro e w' ⟨v, rfl, p, l, c, rfl, h⟩; exact ⟨p, l, c, rfl, h⟩)
  obtain ⟨p, cm, hr⟩ := h.row
  refine condB_of (fun h => by cases h) fun _ => ⟨_, _, _, hr.row.cell rfl, ⟨0, rfl, Nat.zero_le _, Upd.refl _ _, rfl, OwnS.nil _ _ _ _⟩, ?_⟩
  rintro p8 l8 c8 n9 w10 ⟨i, rfl, hi, x10, rfl, own⟩
  intros
  refine condB_of (fun hlt => ?_) (fun hge => ?_)
  · simp only [decide_eq_true_eq] at hlt
    obtain ⟨m, hm⟩ : ∃ m, M[l8]? = some m := ⟨M[l8]'(by omega), List.getElem?_eq_getElem _⟩
    obtain ⟨ap, b, Fi, rfl, e1, e2, hd, _, _⟩ := (h.ext x10).entry (x10.rowW hr id) hm
    rw [Int.toNat_natCast]
    refine ⟨⟨by omega, hlt⟩, _, e1, _, e2, fun k26 w27 hk => ?_⟩
    have hk0 : w10.heap.size ≤ k26 := by rw [hk.size.1]; exact Nat.le_refl _
    have r27 : RowW w27 k26 _ := ⟨_, hk.at⟩
    refine ⟨r27.live (n := 0) (by simp), fun w28 s28 => ?_⟩
    have s28' : SetC w27 ((at0 k26).add 0) (.pointer (some (at0 b))) w28 := s28
    have r28 := s28'.row r27
    have x28 := setc_new hk.ext hk0 s28'
    refine ⟨r28.live (by simp), fun w29 s29 => ?_⟩
    have r29 := s29.row r28
    have x29 := setc_new x28 hk0 s29
    refine ⟨m.births, r29.row.cell rfl, fun k34 w35 hk34 => ?_⟩
    have x31 := x10.trans x29
    obtain ⟨p', c', w36, hrun, own36, x36⟩ := app_one elemInt (by omega) x31 (own.ext x29) hk34 rfl (by omega)
    refine ⟨p', l8 + 1, c', w36, hrun, ?_⟩
    rw [w64 (by omega)]
    refine ⟨⟨l8 + 1, by omega, by omega, x36, rfl, ?_⟩, by show 100 - ((l8 : Int) + 1).toNat < 100 - (l8 : Int).toNat; omega⟩
    rw [List.take_add_one, hm]
    simpa using own36
  · simp only [decide_eq_false_iff_not] at hge
    have : M.take l8 = M := List.take_of_length_le (by omega)
    rw [this] at own
    exact ⟨p8, l8, c8, rfl, x10, by omega, own⟩

theorem cell_upd {S : Nat → Prop} {w w' : World} {a : Addr} {v : Value} (h : w.cell? a = some v) (hu : Upd S w w') (hS : ¬ S a.block) : w'.cell? a = some v := by
  have : CellsAt w (some a) [v] := fun j u hj => ⟨a, rfl, by
    match j, hj with
    | 0, hj => cases hj; simpa [Addr.add] using h⟩
  obtain ⟨a', ha, h⟩ := (this.upd hu fun a' ha _ => by cases ha; exact hS) 0 v rfl
  cases ha
  simpa [Addr.add] using h
/-- lists of ints, in a slice, in certain blocks -/
def KeepAt (w : World) (KB : Nat → Prop) (p : Option Addr) (l : Nat) (KS : List (List Int)) : Prop :=
  l = KS.length ∧ ∀ i ks, KS[i]? = some ks → ∃ a q n c, p = some a ∧ KB a.block ∧ w.cell? (a.add (i * 1)) = some (.slice q n c) ∧ IntsAt w q n ks ∧ (ks ≠ [] → ∀ a', q = some a' → KB a'.block) ∧ n ≤ 4611686018427387904
theorem KeepAt.upd {S KB : Nat → Prop} {w w' : World} {p : Option Addr} {l : Nat} {KS : List (List Int)} (h : KeepAt w KB p l KS) (hu : Upd S w w') (hS : ∀ x, KB x → ¬ S x) : KeepAt w' KB p l KS := by
  refine ⟨h.1, fun i ks hi => ?_⟩
  obtain ⟨a, q, n, c, h1, h2, h3, h4, h5, h6⟩ := h.2 i ks hi
  refine ⟨a, q, n, c, h1, h2, cell_upd h3 hu (by rw [add_block]; exact hS _ h2), ⟨h4.1, h4.2.upd hu fun a' ha hne => hS _ (h5 (by rintro rfl; exact hne rfl) a' ha)⟩, h5, h6⟩
theorem ints_block {w : World} {p : Option Addr} {l : Nat} {ks : List Int} (h : IntsAt w p l ks) (hne : ks ≠ []) {a : Addr} (ha : p = some a) : a.block < w.heap.size := by
  obtain ⟨k, ks', rfl⟩ := List.exists_cons_of_ne_nil hne
  obtain ⟨a', ha', hc⟩ := h.2 0 _ rfl
  rw [ha] at ha'
  cases ha'
  have : (a.add 0).block = a.block := rfl
  rw [← this]
  unfold World.cell? at hc
  split at hc
  · rename_i h1; exact lt_of_heap h1
  all_goals cases hc

/-- behind a restart, as far as the disk at i -/
def crashM (KS : List (List Int)) (i : Nat) (M : List Mem) : List Mem := M.mapIdx fun j m => if j < i then { m with d := crashD m.d (KS.getD j []) } else m
theorem crashM_len (KS : List (List Int)) (i : Nat) (M : List Mem) : (crashM KS i M).length = M.length := by simp [crashM]
theorem crashM_at {KS : List (List Int)} {i : Nat} {M : List Mem} {m : Mem} (h : M[i]? = some m) : (crashM KS i M)[i]? = some m := by simp [crashM, h]
theorem crashM_set {KS : List (List Int)} {i : Nat} {M : List Mem} {m : Mem} (h : M[i]? = some m) : (crashM KS i M).set i { m with d := crashD m.d (KS.getD i []) } = crashM KS (i + 1) M := by
  apply List.ext_getElem?
  intro j
  rw [List.getElem?_set]
  by_cases hij : i = j
  · subst hij
    have hl : i < M.length := (List.getElem?_eq_some_iff.1 h).1
    have hMi : M[i] = m := (List.getElem?_eq_some_iff.1 h).2
    subst hMi
    simp [crashM, hl]
  · rw [if_neg hij]
    simp only [crashM, List.getElem?_mapIdx]
    cases M[j]? with
    | none => rfl
    | some mj =>
      simp only [Option.map_some, Option.some.injEq]
      by_cases h1 : j < i
      · rw [if_pos h1, if_pos (by omega)]
      · rw [if_neg h1, if_neg (by omega)]

set_option maxHeartbeats 1000000 in
theorem restart_spec (h : IsArr w a M left down F) (hM : M.length ≤ 100) {KB : Nat → Prop} (hKF : ∀ x, KB x → ¬ F x) (hKnew : ∀ x, KB x → ¬ w.heap.size ≤ x) {p : Option Addr} {l c : Nat} {KS : List (List Int)} (hK : KeepAt w KB p l KS) :
    Calls Try.prog 18 #[.pointer (some (at0 a)), .slice p l c] w fun e w' => ∃ F', e = .returned (.tuple #[]) ∧ Step F F' w w' ∧ IsArr w' a (crashM KS M.length M) (-1) false F' := by
  obtain ⟨p4, c4, hr⟩ := h.row
  refine (F18_calls (some (at0 a)) p l c w (fun v w' => ∃ F', v = .tuple #[] ∧ Step F F' w w' ∧ IsArr w' a (crashM KS M.length M) (-1) false F')
    (fun _ _ _ _ _ n9 w10 => ∃ (i : Nat) (F' : Nat → Prop), n9 = i ∧ i ≤ M.length ∧ Step F F' w w10 ∧ IsArr w10 a (crashM KS i M) left down F' ∧ RowW w10 a #[.slice p4 M.length c4, .int .i64 left, .bool down]) (fun _ _ _ _ _ n9 _ => 100 - n9.toNat) ?_).mono (by
      rintro e w' ⟨v, rfl, F', rfl, h⟩; exact ⟨F', rfl, h⟩)
  have hl := hK.1
  have hzero : crashM KS 0 M = M := by
    apply List.ext_getElem?
    intro j
    simp [crashM]
  refine condB_of (fun h => by cases h) fun _ => ⟨_, _, _, hr.row.cell rfl, ⟨0, F, rfl, Nat.zero_le _, Step.refl _ _, by rw [hzero]; exact h, hr⟩, ?_⟩
  rintro n9 w10 ⟨i, F', rfl, hi, s10, h10, r10⟩
  intros
  refine condB_of (fun hlt => ?_) (fun hge => ?_)
  · simp only [decide_eq_true_eq] at hlt
    obtain ⟨m, hm⟩ : ∃ m, M[i]? = some m := ⟨M[i]'(by omega), List.getElem?_eq_getElem _⟩
    have hcm := crashM_at (KS := KS) hm
    have r10' : RowW w10 a #[.slice p4 (crashM KS i M).length c4, .int .i64 left, .bool down] := by rw [crashM_len]; exact r10
    obtain ⟨ap, b, Fi, rfl, e1, e2, hd, hFi, hstep⟩ := h10.entry r10' hcm
    rw [Int.toNat_natCast]
    refine ⟨⟨by omega, hlt⟩, _, e1, _, e2, fun k26 w27 hk => ?_⟩
    have hk0 : w10.heap.size ≤ k26 := by rw [hk.size.1]; exact Nat.le_refl _
    have r27 : RowW w27 k26 _ := ⟨_, hk.at⟩
    refine ⟨r27.live (n := 0) (by simp), fun w28 s28 => ?_⟩
    have s28' : SetC w27 ((at0 k26).add 0) (.pointer (some (at0 b))) w28 := s28
    have r28 := s28'.row r27
    have x28 := setc_new hk.ext hk0 s28'
    refine ⟨r28.live (by simp), fun w29 s29 => ?_⟩
    have r29 := s29.row r28
    have x29 := setc_new x28 hk0 s29
    have hd29 := hd.ext x29
    have hmu : 100 - ((i : Int) + 1).toNat < 100 - (i : Int).toNat := by omega
    have done : ∀ w41, Step Fi Fi w29 w41 → Dsk w41 b (crashD m.d (KS.getD i [])) Fi → (∃ (i' : Nat) (F' : Nat → Prop), IntKind.i64.wrap ((i : Int) + 1) = i' ∧ i' ≤ M.length ∧ Step F F' w w41 ∧ IsArr w41 a (crashM KS i' M) left down F' ∧ RowW w41 a #[.slice (some ap) M.length c4, .int .i64 left, .bool down]) ∧
        100 - (IntKind.i64.wrap ((i : Int) + 1)).toNat < 100 - (i : Int).toNat := by
      intro w41 hs hd'
      have hs' : Step Fi Fi w10 w41 := (Step.ext x29).trans hs
      obtain ⟨F2, h2, s2⟩ := hstep w41 _ _ hs' hd'
      rw [crashM_set hm] at h2
      rw [w64 (by omega)]
      exact ⟨⟨i + 1, F2, by omega, by omega, s10.trans s2, h2, hs'.upd.rowW r10 fun hf => (hFi a hf).2 rfl⟩, hmu⟩
    refine condB_of (fun hil => ?_) (fun hil => ?_)
    · simp only [decide_eq_true_eq] at hil
      obtain ⟨ks, hks⟩ : ∃ ks, KS[i]? = some ks := ⟨KS[i]'(by omega), List.getElem?_eq_getElem _⟩
      obtain ⟨aa, q, nn, cc, rfl, hka, ec, hints, hkb, hnn⟩ := ((hK.upd s10.upd hKF).upd x29 fun _ _ h => h).2 i ks hks
      refine ⟨⟨by omega, hil⟩, _, _, _, ec, some (at0 b), r29.row.cell rfl, ?_⟩
      refine (d_crash hd29 hints hnn fun a' ha hne hf => ?_).mono ?_
      · have hw := hkb hne a' ha
        rcases s10.grow _ (hFi _ hf).1 with h1 | h1
        · exact hKF _ hw h1
        · exact hKnew _ hw h1
      rintro e w41 ⟨rfl, hs, hd'⟩
      have : KS.getD i [] = ks := by simp [List.getD, hks]
      exact ⟨rfl, done w41 hs (by rw [this]; exact hd')⟩
    · simp only [decide_eq_false_iff_not] at hil
      refine ⟨some (at0 b), r29.row.cell rfl, ?_⟩
      have hnil : IntsAt w29 none 0 [] := ⟨rfl, CellsAt.nil _ _⟩
      refine (d_crash hd29 hnil (by omega) fun a' ha => by cases ha).mono ?_
      rintro e w41 ⟨rfl, hs, hd'⟩
      have : KS.getD i [] = [] := by
        have : KS[i]? = none := List.getElem?_eq_none (by omega)
        simp [List.getD, this]
      exact ⟨rfl, done w41 hs (by rw [this]; exact hd')⟩
  · simp only [decide_eq_false_iff_not] at hge
    have : i = M.length := by omega
    subst this
    refine ⟨r10.live (by simp), fun w47 s47 => ?_⟩
    obtain ⟨h47, st47⟩ := h10.setLeft s47
    obtain ⟨p5, c5, r47⟩ := h47.row
    refine ⟨r47.live (by simp), fun w49 s49 => ?_⟩
    obtain ⟨h49, st49⟩ := h47.setDown s49
    exact ⟨F', rfl, (s10.trans st47).trans st49, h49⟩
end
end Go.Proofs.Ytbidancfbilbkaa
