/- The document's catalog: which objects fit. -/
import Derived.Test.YtclkoojcibgcdaaQ5
namespace Go.Proofs.Ytclkoojcibgcdaa
open Go Go.Vc

section
variable {w : World} {b : Nat} {g : Geo} {O : List Ob} {F : Nat → Prop}

set_option maxHeartbeats 2000000 in
theorem rfits_spec (h : RCat w b g O F) (k : ByteArray) (n : Int) (hn : n ≤ 9223372036854775807) (m : Int) {p : Option Addr} {l c : Nat} {st : List Int} (hst : IntsAt w p l st) (hl : l ≤ 4611686018427387904) :
    Calls Try.prog 34 #[.pointer (some (at0 b)), .agg #[.string k, .int .i64 n, .int .i64 m, .slice p l c]] w fun e w' => e = .returned (.bool (decide (FitsO g O ⟨k, n, m, st⟩))) ∧ Ext w w' := by
  refine (F34_calls (some (at0 b)) k n m p l c w (fun v w' => v = .bool (decide (FitsO g O ⟨k, n, m, st⟩)) ∧ Ext w w')
    (fun _ w26 n31 w32 => ∃ i : Nat, n31 = i ∧ i ≤ st.length ∧ Ext w26 w32 ∧ (∀ s ∈ st.take i, s ∉ stripesO O ∧ s < g.stripes) ∧ (st.take i).Nodup) (fun _ _ n31 _ => 300 - n31.toNat)
    (fun _ n31 w92 n100 w101 => ∃ (i j : Nat) (x : Int), n31 = i ∧ n100 = j ∧ j ≤ i ∧ st[i]? = some x ∧ Ext w92 w101 ∧ x ∉ st.take j) (fun _ _ _ n100 _ => 300 - n100.toNat) ?_).mono (by rintro e w' ⟨v, rfl, rfl, h⟩; exact ⟨rfl, h⟩)
  have hlen := hst.1
  intro k6 w7 hk
  have r7 : RowW w7 k6 #[.string k, .int .i64 n, .int .i64 m, .slice p l c] := ⟨_, hk.at⟩
  have no : ∀ {wx : World}, Ext w wx → ¬ FitsO g O ⟨k, n, m, st⟩ → (Value.bool false = .bool (decide (FitsO g O ⟨k, n, m, st⟩)) ∧ Ext w wx) := fun hx hf => ⟨by rw [decide_eq_false hf], hx⟩
  refine ⟨_, r7.row.cell rfl, _, r7.row.cell rfl, _, _, _, r7.row.cell rfl, (rrec_spec 1 k n (hst.ext hk.ext) hl).mono ?_⟩
  rintro e w11 ⟨rfl, x11⟩
  refine ⟨_, rfl, fun w14 hd14 => ?_⟩
  have x14 := (hk.ext.trans x11).trans hd14.ext
  have r14 : RowW w14 k6 _ := (x11.trans hd14.ext).rowW r7 id
  have h14 := h.ext x14
  refine condB_of (fun hz => no x14 fun hf => ?_) fun hz => ⟨_, r14.row.cell rfl, condB_of (fun h1 => no x14 fun hf => ?_) fun h1 => ⟨_, r14.row.cell rfl, condB_of (fun h2 => no x14 fun hf => ?_) fun h2 => ?_⟩⟩
  · have : recZ 1 k n st = 0 := by rw [recZ, if_pos hf.1]
    rw [this] at hz; simp at hz
  · simp only [decide_eq_true_eq] at h1
    have h3 : 0 ≤ m := hf.2.1.1
    omega
  · simp only [decide_eq_true_eq] at h2
    have h3 : m ≤ 2147483647 := hf.2.1.2
    omega
  have hrec : RecOk 1 k n st := by
    by_cases hr : RecOk 1 k n st
    · exact hr
    · rw [recZ, if_neg hr] at hz; simp at hz
  simp only [decide_eq_false_iff_not] at h1 h2
  have hcount : st.length ≤ 256 := hrec.1.2.2.2
  obtain ⟨pc, lc, cc, G, hrow, _⟩ := h14.is
  refine ⟨_, _, _, r14.row.cell rfl, _, hrow.row.cell rfl, _, by rw [add_add]; exact hrow.row.cell rfl, _, by rw [add_add]; exact hrow.row.cell rfl, _, by rw [add_add]; exact hrow.row.cell rfl, _, by rw [add_add]; exact hrow.row.cell rfl, _, by rw [add_add]; exact hrow.row.cell rfl, _, r14.row.cell rfl, ?_⟩
  refine (rneeds_spec g n hn w14).mono ?_
  rintro e w26 ⟨rfl, x26⟩
  have y26 := x14.trans x26
  have r26 : RowW w26 k6 _ := x26.rowW r14 id
  refine ⟨_, rfl, ⟨_, _, _, r26.row.cell rfl, rfl⟩, condB_of (fun hne => no y26 fun hf => ?_) fun heq => ⟨⟨0, rfl, Nat.zero_le _, Upd.refl _ _, fun s hs => by simp at hs, by simp⟩, ?_⟩⟩
  · simp only [Bool.not_eq_true', decide_eq_false_iff_not] at hne
    have h3 : (st.length : Int) = needsG g n := hf.2.2.1
    exact hne (by rw [hlen]; exact h3)
  simp only [Bool.not_eq_false', decide_eq_true_eq] at heq
  rintro n31 w32 ⟨i, rfl, hi, x32, hall, hnd⟩
  intros
  have y32 := y26.trans x32
  have r32 : RowW w32 k6 _ := x32.rowW r26 id
  refine ⟨_, _, _, r32.row.cell rfl, condB_of (fun hlt => ?_) (fun hge => ?_)⟩
  · simp only [decide_eq_true_eq] at hlt
    obtain ⟨x, hxs⟩ : ∃ x, st[i]? = some x := ⟨st[i]'(by omega), List.getElem?_eq_getElem _⟩
    have hmem : x ∈ st := List.mem_of_getElem? hxs
    have cellAt : ∀ {wx : World}, Ext w wx → ∀ {j : Nat} {y : Int}, st[j]? = some y → ∃ a, p = some a ∧ wx.cell? (a.add (j * 1)) = some (.int .i64 y) := by
      intro wx hx j y hy
      obtain ⟨a, ha, hc⟩ := (hst.ext hx).get (i := j) (by have := (List.getElem?_eq_some_iff.1 hy).1; omega)
      refine ⟨a, ha, ?_⟩
      rw [Nat.mul_one, hc]
      simp [List.getD_eq_getElem?_getD, hy]
    obtain ⟨a, rfl, hc⟩ := cellAt y32 hxs
    refine ⟨_, _, _, r32.row.cell rfl, ⟨by omega, hlt⟩, _, by rw [Int.toNat_natCast]; exact hc, (rowner_spec (h.ext y32) x).mono ?_⟩
    rintro e w88 ⟨rfl, rfl⟩
    have bad1 : ∀ {wx : World}, Ext w wx → ¬ (x ∉ stripesO O ∧ x < g.stripes) → (Value.bool false = .bool (decide (FitsO g O ⟨k, n, m, st⟩)) ∧ Ext w wx) := fun hx hb => no hx fun hf => hb (hf.2.2.2.1 x hmem)
    cases ho : ownO x O with
    | some o =>
      refine ⟨_, _, rfl, fun w92 hd92 => condB_of (fun _ => bad1 (y32.trans hd92.ext) fun hh => ?_) fun hh => by cases hh⟩
      rw [ownO_none.2 hh.1] at ho; cases ho
    | none =>
      have hfree := ownO_none.1 ho
      refine ⟨_, _, rfl, fun w92 hd92 => condB_of (fun hh => by cases hh) fun _ => ?_⟩
      have x92 := x32.trans hd92.ext
      have y92 := y32.trans hd92.ext
      have r92 : RowW w92 k6 _ := hd92.ext.rowW r32 id
      obtain ⟨a', ha', hc92⟩ := cellAt y92 hxs
      cases ha'
      obtain ⟨pc2, lc2, cc2, G2, hrow2, _⟩ := (h.ext y92).is
      refine ⟨_, _, _, r92.row.cell rfl, ⟨by omega, hlt⟩, _, by rw [Int.toNat_natCast]; exact hc92, _, by rw [add_add]; exact hrow2.row.cell rfl, condB_of (fun hge => bad1 y92 fun hh => ?_) fun hge => ⟨⟨i, 0, x, rfl, rfl, Nat.zero_le _, hxs, Upd.refl _ _, by simp⟩, ?_⟩⟩
      · simp only [decide_eq_true_eq] at hge; have := hh.2; omega
      simp only [decide_eq_false_iff_not] at hge
      rintro n100 w101 ⟨i', j, x', e1, rfl, hj, hxs', x101, hnot⟩
      have hii : i' = i := by omega
      subst hii
      rw [hxs] at hxs'
      cases hxs'
      intros
      have y101 := y92.trans x101
      refine condB_of (fun hjlt => ?_) (fun hjge => ?_)
      · simp only [decide_eq_true_eq] at hjlt
        intro w119 hd119
        have y119 := y101.trans hd119.ext
        have r119 : RowW w119 k6 _ := (x101.trans hd119.ext).rowW r92 id
        obtain ⟨y, hys⟩ : ∃ y, st[j]? = some y := ⟨st[j]'(by omega), List.getElem?_eq_getElem _⟩
        obtain ⟨a1, ha1, hcj⟩ := cellAt y119 hys
        cases ha1
        obtain ⟨a2, ha2, hci⟩ := cellAt y119 hxs
        cases ha2
        refine ⟨_, _, _, r119.row.cell rfl, ⟨by omega, by omega⟩, _, by rw [Int.toNat_natCast]; exact hcj, _, _, _, r119.row.cell rfl, ⟨by omega, hlt⟩, _, by rw [Int.toNat_natCast]; exact hci, condB_of (fun he => no y119 fun hf => ?_) fun he => ?_⟩
        · simp only [decide_eq_true_eq] at he
          have hn2 : st.Nodup := hf.2.2.2.2
          have hji : st[j]? = st[i']? := by rw [hys, hxs, he]
          have : j = i' := (List.getElem?_inj (show j < st.length by omega) hn2).1 hji
          omega
        · simp only [decide_eq_false_iff_not] at he
          rw [w64 (by omega)]
          refine ⟨⟨i', j + 1, x, rfl, by omega, by omega, hxs, x101.trans hd119.ext, ?_⟩, by show 300 - ((j : Int) + 1).toNat < 300 - (j : Int).toNat; omega⟩
          rw [List.take_add_one, hys]
          intro hm
          rcases List.mem_append.1 hm with h | h
          · exact hnot h
          · simp only [Option.toList_some, List.mem_singleton] at h
            exact he h.symm
      · simp only [decide_eq_false_iff_not] at hjge
        have hji : j = i' := by omega
        subst hji
        rw [w64 (by omega)]
        refine ⟨⟨j + 1, by omega, by omega, x92.trans x101, ?_, ?_⟩, by show 300 - ((j : Int) + 1).toNat < 300 - (j : Int).toNat; omega⟩
        · rw [List.take_add_one, hxs]
          intro s hs
          rcases List.mem_append.1 hs with h | h
          · exact hall s h
          · simp only [Option.toList_some, List.mem_singleton] at h
            subst h; exact ⟨hfree, by omega⟩
        · rw [List.take_add_one, hxs, List.nodup_append]
          refine ⟨hnd, by simp, ?_⟩
          intro u hu v hv
          simp only [Option.toList_some, List.mem_singleton] at hv
          subst hv
          rintro rfl
          exact hnot hu
  · simp only [decide_eq_false_iff_not] at hge
    rw [List.take_of_length_le (by omega)] at hall hnd
    have hf : FitsO g O ⟨k, n, m, st⟩ := ⟨hrec, ⟨by show 0 ≤ m; omega, by show m ≤ 2147483647; omega⟩, by show (st.length : Int) = needsG g n; rw [← hlen]; exact heq, hall, hnd⟩
    exact ⟨by rw [decide_eq_true hf], y32⟩
end
end Go.Proofs.Ytclkoojcibgcdaa
