/- A catalog: an object is put in; does one fit? -/
import Derived.Test.YtclkoojcibgcdaaK3
namespace Go.Proofs.Ytclkoojcibgcdaa
open Go Go.Vc

theorem cut0 {w : World} {p : Option Addr} {xs : List Value} (h : CellsAt w p xs) (c n : Nat) : CellsAt w (cutP p c 0 n) xs := by
  unfold cutP
  split
  · exact h
  · intro j u hj
    obtain ⟨a, rfl, hc⟩ := h j u hj
    refine ⟨a, ?_, hc⟩
    rw [Nat.zero_mul]
    rfl

/-- ints do not lie in a map -/
theorem ints_map {κ : Type} [DecidableEq κ] {β : Type} {K : KE κ} {V : Value → β → Prop} {w : World} {m : Nat} {L : List (κ × β)} {p : Option Addr} {l : Nat} {ks : List Int} (h : IntsAt w p l ks) (hm : MapOf K V w m L) {a : Addr} (ha : p = some a) (hne : ks ≠ []) : a.block ≠ m := by
  intro e
  obtain ⟨k, ks', rfl⟩ := List.exists_cons_of_ne_nil hne
  obtain ⟨a', ha', hc⟩ := h.2 0 _ rfl
  rw [ha] at ha'
  cases ha'
  obtain ⟨es, cl, l', hm, _⟩ := hm
  have hb : (a.add 0).block = a.block := rfl
  unfold World.cell? at hc
  rw [hb, e, hm] at hc
  cases hc

theorem owns_perm {O O' : List Ob} (h : O.Perm O') : (owns O).Perm (owns O') := h.flatMap_right _
theorem IsCat.perm {w : World} {b : Nat} {g : Geo} {O O' : List Ob} {m1 m2 : Nat} {G : Nat → Prop} (h : IsCat w b g O m1 m2 G) (hp : O.Perm O') : IsCat w b g O' m1 m2 G :=
  ⟨h.row, h.objs.perm (hp.map _), h.owners.perm (owns_perm hp), h.n1, h.n2, h.n3, h.gb, h.g1, h.g2, h.lt⟩
theorem stripes_drop {k : ByteArray} {O : List Ob} {s : Int} (h : s ∈ stripesO (dropO k O)) : s ∈ stripesO O := by
  obtain ⟨o, ho, hs⟩ := List.mem_flatMap.1 h
  exact List.mem_flatMap.2 ⟨o, (List.mem_filter.1 ho).1, hs⟩
theorem dropO_twice (k : ByteArray) (O : List Ob) : dropO k (dropO k O) = dropO k O := by
  unfold dropO
  rw [List.filter_filter]
  simp

section
variable {w : World} {b : Nat} {g : Geo} {O : List Ob} {m1 m2 : Nat} {G : Nat → Prop}

set_option maxHeartbeats 2000000 in
theorem put_spec (h : IsCat w b g O m1 m2 G) (o : Ob) {p : Option Addr} {l c : Nat} (hst : IntsAt w p l o.st) (hl : l ≤ 256) (hp : p = none → l = 0) (hnd : o.st.Nodup) (hfree : ∀ s ∈ o.st, s ∉ stripesO O) :
    Calls Try.prog 32 #[.pointer (some (at0 b)), .agg #[.string o.key, .int .i64 o.len, .int .i64 o.epoch, .slice p l c]] w fun e w' => e = .returned (.tuple #[]) ∧ ∃ G', Upd (fun x => x = m1 ∨ x = m2) w w' ∧
      IsCat w' b g (o :: dropO o.key O) m1 m2 G' ∧ ∀ x, G' x → G x ∨ w.heap.size ≤ x := by
  refine (F32_calls (some (at0 b)) o.key o.len o.epoch p l c w (fun v w' => v = .tuple #[] ∧ ∃ G', Upd (fun x => x = m1 ∨ x = m2) w w' ∧ IsCat w' b g (o :: dropO o.key O) m1 m2 G' ∧ ∀ x, G' x → G x ∨ w.heap.size ≤ x)
    (fun _ _ _ _ _ w24 n w32 => ∃ i : Nat, n = i ∧ i ≤ o.st.length ∧ Upd (fun x => x = m2) w24 w32 ∧ MapOf intK (fun v k => v = .string k) w32 m2 (((o.st.take i).map fun s => (s, o.key)) ++ owns (dropO o.key O)))
    (fun _ _ _ _ _ _ n _ => o.st.length - n.toNat) ?_).mono (by rintro e w' ⟨v, rfl, rfl, h⟩; exact ⟨rfl, h⟩)
  have hlen := hst.1
  have ltb : b < w.heap.size := h.row.lt
  have lt1 : m1 < w.heap.size := h.objs.lt
  have lt2 : m2 < w.heap.size := h.owners.lt
  intro k6 w7 hk
  have hk6 := hk.size
  have r7 : RowW w7 k6 _ := ⟨_, hk.at⟩
  have x7 := hk.ext
  refine ⟨_, r7.row.cell (n := 0) rfl, (drop_spec (h.ext x7) o.key).mono ?_⟩
  rintro e w9 ⟨rfl, u9, z9, h9⟩
  have nk1 : k6 ≠ m1 := by omega
  have nk2 : k6 ≠ m2 := by omega
  have nkb : k6 ≠ b := by omega
  have r9 := u9.rowW r7 (by rintro (h | h) <;> omega)
  have hst7 : IntsAt w7 p l o.st := hst.ext x7
  have hst9 : IntsAt w9 p l o.st := ⟨hlen, hst7.2.upd u9 fun a ha hne e => by
    have hne' : o.st ≠ [] := by rintro h0; rw [h0] at hne; exact hne rfl
    rcases e with e | e
    · exact ints_map hst7 (h.objs.upd x7 id) ha hne' e
    · exact ints_map hst7 (h.owners.upd x7 id) ha hne' e⟩
  refine ⟨rfl, _, _, _, r9.row.cell rfl, (clonei_spec hst9 (by omega) hp).mono ?_⟩
  rintro e w12 ⟨p14, c14, rfl, x12, own12⟩
  have r12 := x12.rowW r9 id
  refine ⟨_, _, _, rfl, r12.live (by simp), fun w15 s15 w16 d16 => ?_⟩
  have r15 := s15.row r12
  have r16 := d16.ext.rowW r15 id
  have u15 : Upd (fun x => x = k6) w12 w15 := by
    have := s15.upd
    rw [add_at0] at this
    exact this
  have u16 : Upd (fun x => x = k6) w9 w16 := Upd.trans (Upd.trans x12.upd u15 fun _ _ h => h) d16.ext.upd fun _ _ h => h
  have own16 : OwnS w16 w9.heap.size 3 1 p14 l c14 (encI o.st) := (own12.upd u15 fun g hg e => by
    have := own12.where_
    rcases this with ⟨hn, _⟩ | ⟨g', hg', hge, _⟩
    · rw [hn] at hg; cases hg
    · rw [hg'] at hg
      simp only [Option.some.injEq, at0, Addr.mk.injEq, and_true] at hg
      omega).ext d16.ext
  have h16 := h9.upd u16 (Ne.symm nkb) (Ne.symm nk1) (Ne.symm nk2) (fun x hx e => by have := h.lt x hx; omega)
  let G' : Nat → Prop := fun x => G x ∨ (w9.heap.size ≤ x ∧ x < w16.heap.size ∧ x ≠ k6)
  have hG16 : ∀ a, p14 = some a → o.st ≠ [] → G' a.block := fun a ha hne => by
    rcases own12.where_ with ⟨hn, _⟩ | ⟨g', hg', hge, hlt, _⟩
    · rw [hn] at ha; cases ha
    · rw [hg'] at ha
      cases ha
      have := u15.size
      have := d16.ext.size
      exact .inr ⟨hge, by show g' < _; omega, by show g' ≠ _; omega⟩
  have ob16 : ObV G' w16 (.agg #[.string o.key, .int .i64 o.len, .int .i64 o.epoch, .slice p14 l c14]) o := ⟨p14, l, c14, rfl, own_ints own16, hG16, hl, fun hn => by
    rcases own12.where_ with ⟨_, h0, _⟩ | ⟨g', hg', _⟩
    · exact h0
    · rw [hn] at hg'; cases hg'⟩
  have objs16 : MapOf strK (ObV G' w16) w16 m1 ((dropO o.key O).map fun o => (o.key, o)) := h16.objs.mono fun _ _ hv => hv.more fun _ hx => .inl hx
  obtain ⟨w24, hr24, u24, z24, hm24⟩ := objs16.update (P := Try.prog) mapSO strT o.key ob16
  rw [del_pairs, dropO_twice] at hm24
  have hG1 : ¬ G' m1 := fun h' => h'.elim (fun h' => h.g1 h') fun h' => by omega
  have hG2 : ¬ G' m2 := fun h' => h'.elim (fun h' => h.g2 h') fun h' => by omega
  have hGb : ¬ G' b := fun h' => h'.elim (fun h' => h.gb h') fun h' => by omega
  have r24 := u24.rowW r16 nk1
  have rc16 := h16.row
  refine ⟨_, rc16.row.cell rfl, _, r16.row.cell (n := 0) rfl, _, r16.row.cell (n := 0) rfl, _, r16.row.cell rfl, _, r16.row.cell rfl, _, _, _, r16.row.cell rfl, w24, hr24, _, _, _, r24.row.cell rfl, ⟨0, rfl, Nat.zero_le _, Upd.refl _ _, h16.owners.upd u24 (Ne.symm h.n3)⟩, ?_⟩
  rintro n31 w32 ⟨i, rfl, hi, u32, hm32⟩
  intros
  have rc32 := u32.rowW (u24.rowW rc16 h.n1) h.n2
  have r32 := u32.rowW r24 nk2
  have uw32 : Upd (fun x => x = m1 ∨ x = m2) w w32 := by
    refine Upd.trans (Upd.trans (Upd.trans (Upd.trans x7.upd u9 (fun _ _ h => h)) u16 fun x hx e => ?_) u24 fun x _ e => .inl e) u32 fun x _ e => .inr e
    omega
  refine condB_of (fun hlt => ?_) (fun hge => ?_)
  · simp only [decide_eq_true_eq] at hlt
    obtain ⟨s, hs⟩ : ∃ s, o.st[i]? = some s := ⟨o.st[i]'(by omega), List.getElem?_eq_getElem _⟩
    have hsm : s ∈ o.st := List.mem_of_getElem? hs
    have i24 : IntsAt w32 p14 l o.st := ⟨hlen, ((own_ints own16).2.upd u24 fun a ha hne e => hG1 (by rw [← e]; exact hG16 a ha (by rintro h0; rw [h0] at hne; exact hne rfl))).upd u32 fun a ha hne e => hG2 (by rw [← e]; exact hG16 a ha (by rintro h0; rw [h0] at hne; exact hne rfl))⟩
    obtain ⟨a, rfl, ca⟩ := i24.2 i (.int .i64 s) (by rw [List.getElem?_map, hs]; rfl)
    rw [Int.toNat_natCast, Nat.mul_one]
    refine ⟨⟨by omega, hlt⟩, s, ca, fun w47 d47 => ?_⟩
    have r47 := d47.ext.rowW r32 id
    have rc47 := d47.ext.rowW rc32 id
    have hm47 := hm32.upd d47.ext id
    obtain ⟨w51, hr51, u51, z51, hm51⟩ := hm47.update (P := Try.prog) (V := fun v k => v = .string k) mapIS intT' s (v := .string o.key) (x := o.key) rfl
    have hno : s ∉ (((o.st.take i).map fun s => (s, o.key)) ++ owns (dropO o.key O)).map (·.1) := by
      rw [List.map_append, owns_keys, List.map_map]
      simp only [List.mem_append, not_or]
      refine ⟨fun hx => ?_, fun hx => hfree s hsm (stripes_drop hx)⟩
      have hx' : s ∈ o.st.take i := by
        obtain ⟨y, hy, hys⟩ := List.mem_map.1 hx
        have : y = s := hys
        rw [← this]; exact hy
      obtain ⟨j, hj, hjs⟩ := List.getElem_of_mem hx'
      simp only [List.length_take] at hj
      rw [List.getElem_take] at hjs
      have hsi : o.st[i]'(by omega) = s := (List.getElem?_eq_some_iff.1 hs).2
      have := (List.nodup_iff_pairwise_ne.1 hnd)
      rw [List.pairwise_iff_getElem] at this
      exact this j i (by omega) (by omega) (by omega) (by rw [hjs, hsi])
    rw [del_none (get_none.2 hno)] at hm51
    refine ⟨_, rc47.row.cell rfl, _, r47.row.cell (n := 0) rfl, w51, hr51, ?_⟩
    rw [w64 (by omega)]
    refine ⟨⟨i + 1, by omega, by omega, Upd.trans (Upd.trans u32 d47.ext.upd fun _ _ h => h) u51 fun _ _ h => h, ?_⟩, by show o.st.length - ((i : Int) + 1).toNat < o.st.length - (i : Int).toNat; omega⟩
    refine hm51.perm ?_
    rw [List.take_add_one, hs, List.map_append, List.append_assoc]
    exact List.perm_middle.symm
  · simp only [decide_eq_false_iff_not] at hge
    have e1 : o.st.take i = o.st := List.take_of_length_le (by omega)
    rw [e1] at hm32
    refine ⟨rfl, G', uw32, ⟨rc32, ?_, hm32, h.n1, h.n2, h.n3, hGb, hG1, hG2, fun x hx => ?_⟩, fun x hx => ?_⟩
    · have hm := (hm24.mono fun _ _ hv => hv.upd u24 fun x hx e => hG1 (by rw [← e]; exact hx)).upd u32 h.n3
      exact hm.mono fun _ _ hv => hv.upd u32 fun x hx e => hG2 (by rw [← e]; exact hx)
    · rcases hx with hx | hx
      · exact Nat.lt_of_lt_of_le (h.lt x hx) uw32.size
      · have := u24.size; have := u32.size; omega
    · rcases hx with hx | hx
      · exact .inl hx
      · have := x7.size; exact .inr (by omega)

/-- does an object fit? -/
def FitsO (g : Geo) (O : List Ob) (o : Ob) : Prop := RecOk 1 o.key o.len o.st ∧ (0 ≤ o.epoch ∧ o.epoch ≤ 2147483647) ∧ (o.st.length : Int) = needsG g o.len ∧ (∀ s ∈ o.st, s ∉ stripesO O ∧ s < g.stripes) ∧ o.st.Nodup
instance (g : Geo) (O : List Ob) (o : Ob) : Decidable (FitsO g O o) := inferInstanceAs (Decidable (_ ∧ _))

theorem getO_owner {O : List Ob} {s : Int} (h : s ∈ stripesO O) : ∃ k, (s, k) ∈ owns O := by
  rw [← owns_keys] at h
  obtain ⟨y, hy, rfl⟩ := List.mem_map.1 h
  exact ⟨y.2, hy⟩
/-- whose is a stripe? -/
theorem IsCat.owner (h : IsCat w b g O m1 m2 G) (s : Int) : (∃ k, (s, k) ∈ owns O ∧ mapAt Try.prog 70 (.map (some m2)) (.int .i64 s) w (.string k) true) ∨ (s ∉ stripesO O ∧ mapAt Try.prog 70 (.map (some m2)) (.int .i64 s) w (.string ⟨#[]⟩) false) := by
  rcases h.owners.lookup mapIS intT' zeroStr s with ⟨k, v, hg, rfl, hl⟩ | ⟨hno, hl⟩
  · exact .inl ⟨k, (get_some h.owners.nodup).2 hg, hl⟩
  · refine .inr ⟨?_, hl⟩
    rw [get_none, owns_keys] at hno
    exact hno

set_option maxHeartbeats 2000000 in
theorem fits_spec (h : IsCat w b g O m1 m2 G) (o : Ob) {p : Option Addr} {l c : Nat} (hst : IntsAt w p l o.st) (hl : l ≤ 4611686018427387904) (hlc : l ≤ c) (hlen' : o.len ≤ 9223372036854775807) :
    Calls Try.prog 31 #[.pointer (some (at0 b)), .agg #[.string o.key, .int .i64 o.len, .int .i64 o.epoch, .slice p l c]] w fun e w' => e = .returned (.bool (decide (FitsO g O o))) ∧ Ext w w' := by
  refine (F31_calls (some (at0 b)) o.key o.len o.epoch p l c w (fun v w' => v = .bool (decide (FitsO g O o)) ∧ Ext w w')
    (fun _ _ _ _ _ w26 n w37 => ∃ i : Nat, n = i ∧ i ≤ o.st.length ∧ w37 = w26 ∧ (∀ s ∈ o.st.take i, s ∉ stripesO O ∧ s < g.stripes) ∧ (o.st.take i).Nodup)
    (fun _ _ _ _ _ _ n _ => o.st.length - n.toNat) ?_).mono (by rintro e w' ⟨v, rfl, rfl, h⟩; exact ⟨rfl, h⟩)
  have hlen := hst.1
  have no : ∀ {w' : World}, Ext w w' → ¬ FitsO g O o → (Value.bool false = .bool (decide (FitsO g O o)) ∧ Ext w w') := fun hx hn => ⟨by rw [decide_eq_false hn], hx⟩
  intro k6 w7 hk
  have r7 : RowW w7 k6 _ := ⟨_, hk.at⟩
  have x7 := hk.ext
  refine ⟨_, r7.row.cell (n := 0) rfl, _, r7.row.cell rfl, _, _, _, r7.row.cell rfl, (rec_spec 1 o.key o.len (hst.ext x7) hl).mono ?_⟩
  rintro e w11 ⟨rfl, x11⟩
  refine ⟨_, rfl, fun w14 d14 => ?_⟩
  have y14 := (x7.trans x11).trans d14.ext
  have r14 := (x11.trans d14.ext).rowW r7 id
  refine condB_of (fun h1 => no y14 fun hf => ?_) fun h1 => ⟨_, r14.row.cell (n := 2) rfl, condB_of (fun h2 => no y14 fun hf => ?_) fun h2 => ⟨_, r14.row.cell (n := 2) rfl, condB_of (fun h3 => no y14 fun hf => ?_) fun h3 => ?_⟩⟩
  · simp [recZ, hf.1] at h1
  · simp only [decide_eq_true_eq] at h2; have := hf.2.1.1; omega
  · simp only [decide_eq_true_eq] at h3; have := hf.2.1.2; omega
  have hrec : RecOk 1 o.key o.len o.st := by
    by_cases hr : RecOk 1 o.key o.len o.st
    · exact hr
    · simp [recZ, hr] at h1
  simp only [decide_eq_false_iff_not] at h2 h3
  have h14 := h.ext y14
  have rc := h14.row
  refine ⟨_, _, _, r14.row.cell rfl, _, rc.row.cell (n := 0) rfl, _, rc.row.cell (n := 1) rfl, _, rc.row.cell (n := 2) rfl, _, rc.row.cell (n := 3) rfl, _, rc.row.cell (n := 4) rfl, _, rc.row.cell (n := 5) rfl, _, r14.row.cell rfl, (needs_spec g o.len hlen' w14).mono ?_⟩
  rintro e w26 ⟨rfl, x26⟩
  have y26 := y14.trans x26
  have r26 := x26.rowW r14 id
  refine ⟨_, rfl, ⟨_, _, _, r26.row.cell rfl, rfl⟩, condB_of (fun h4 => no y26 fun hf => ?_) fun h4 => ⟨_, _, _, r26.row.cell rfl, ⟨0, rfl, Nat.zero_le _, rfl, by simp, by simp⟩, ?_⟩⟩
  · simp only [Bool.not_eq_true', decide_eq_false_iff_not] at h4
    have := hf.2.2.1
    omega
  simp only [Bool.not_eq_false', decide_eq_true_eq] at h4
  rintro n36 w37 ⟨i, rfl, hi, rfl, hall, hnd⟩
  intros
  have h37 := h.ext y26
  have rc37 := h37.row
  refine condB_of (fun hlt => ?_) (fun hge => ⟨?_, y26⟩)
  · simp only [decide_eq_true_eq] at hlt
    obtain ⟨s, hs⟩ : ∃ s, o.st[i]? = some s := ⟨o.st[i]'(by omega), List.getElem?_eq_getElem _⟩
    have hsm : s ∈ o.st := List.mem_of_getElem? hs
    have st37 := hst.ext y26
    obtain ⟨a, rfl, ca⟩ := st37.2 i (.int .i64 s) (by rw [List.getElem?_map, hs]; rfl)
    rw [Int.toNat_natCast, Nat.mul_one]
    refine ⟨⟨by omega, hlt⟩, s, ca, _, rc37.row.cell rfl, ?_⟩
    rcases h37.owner s with ⟨k, hk', hl'⟩ | ⟨hno, hl'⟩
    · refine ⟨k, true, hl', no y26 fun hf => (hf.2.2.2.1 s hsm).1 ?_⟩
      rw [← owns_keys]
      exact List.mem_map.2 ⟨_, hk', rfl⟩
    refine ⟨_, false, hl', _, rc37.row.cell (n := 3) rfl, condB_of (fun h5 => no y26 fun hf => ?_) fun h5 => ⟨_, _, _, r26.row.cell rfl, ⟨by omega, by omega⟩, ?_⟩⟩
    · simp only [decide_eq_true_eq] at h5
      have := (hf.2.2.2.1 s hsm).2
      omega
    simp only [decide_eq_false_iff_not] at h5
    have hcut : IntsAt w37 (cutP (some a) c 0 1) (i - 0) (o.st.take i) := by
      refine ⟨by rw [List.length_take]; omega, ?_⟩
      rw [List.map_take]
      exact cut0 (st37.2.take i) c 1
    refine (contains_spec hcut (by omega)).mono ?_
    rintro e w84 ⟨rfl, rfl⟩
    refine ⟨_, rfl, condB_of (fun h6 => no y26 fun hf => ?_) fun h6 => ?_⟩
    · simp only [decide_eq_true_eq] at h6
      have hn := hf.2.2.2.2
      obtain ⟨j, hj, hjs⟩ := List.getElem_of_mem h6
      simp only [List.length_take] at hj
      rw [List.getElem_take] at hjs
      have hsi : o.st[i]'(by omega) = s := (List.getElem?_eq_some_iff.1 hs).2
      have := (List.nodup_iff_pairwise_ne.1 hn)
      rw [List.pairwise_iff_getElem] at this
      exact this j i (by omega) (by omega) (by omega) (by rw [hjs, hsi])
    simp only [decide_eq_false_iff_not] at h6
    rw [w64 (by omega)]
    refine ⟨⟨i + 1, by omega, by omega, rfl, ?_, ?_⟩, by show o.st.length - ((i : Int) + 1).toNat < o.st.length - (i : Int).toNat; omega⟩
    · rw [List.take_add_one, hs]
      intro x hx
      rcases List.mem_append.1 hx with hx | hx
      · exact hall x hx
      · simp at hx; subst hx; exact ⟨hno, by omega⟩
    · rw [List.take_add_one, hs, List.nodup_append]
      refine ⟨hnd, by simp, ?_⟩
      intro x hx y hy
      simp at hy; subst hy
      rintro rfl
      exact h6 hx
  · simp only [decide_eq_false_iff_not] at hge
    have e1 : o.st.take i = o.st := List.take_of_length_le (by omega)
    rw [e1] at hall hnd
    have : FitsO g O o := ⟨hrec, ⟨by omega, by omega⟩, by omega, hall, hnd⟩
    rw [decide_eq_true this]
end
end Go.Proofs.Ytclkoojcibgcdaa
