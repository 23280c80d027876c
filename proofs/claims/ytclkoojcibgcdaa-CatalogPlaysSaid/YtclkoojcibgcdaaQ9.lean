/- The document's catalog: New. -/
import Derived.Test.YtclkoojcibgcdaaQ8K
namespace Go.Proofs.Ytclkoojcibgcdaa
open Go Go.Vc

theorem RefO.none {w : World} {G : Nat → Prop} {p : Option Addr} {l : Nat} {O : List Ob} (h : RefO w G p l O) : p = none → l = 0 := by
  intro hp
  rw [h.1]
  cases O with
  | nil => rfl
  | cons o O =>
    obtain ⟨a, _, _, _, e, _⟩ := h.2 0 o rfl
    rw [hp] at e; cases e
/-- the list of a catalog is another one -/
theorem RCat.set {w1 w2 : World} {b : Nat} {g : Geo} {O' : List Ob} {F' G' : Nat → Prop} {p p' : Option Addr} {l c l' c' : Nat} (hr : RowW w1 b (gRow g p l c)) (hs : SetC w1 ((at0 b).add 6) (.slice p' l' c') w2)
    (hO : RefO w1 G' p' l' O') (hG : ∀ x, G' x → F' x ∧ x ≠ b) (hb : F' b) (hlc : l' ≤ c') (hlt : ∀ x, F' x → x < w1.heap.size) (hk : CatOk g O') : RCat w2 b g O' F' ∧ Upd (fun x => x = b) w1 w2 := by
  have u : Upd (fun x => x = b) w1 w2 := by
    have := hs.upd
    rw [add_at0] at this
    exact this
  exact ⟨⟨⟨p', l', c', G', hs.row hr, hO.upd u fun x hx => (hG x hx).2, hG, hb, hlc⟩, fun x hx => Nat.lt_of_lt_of_le (hlt x hx) u.size, hk⟩, u⟩

theorem ints_block {w : World} {p : Option Addr} {n : Nat} {st : List Int} (h : IntsAt w p n st) : ∀ a, p = some a → st ≠ [] → a.block < w.heap.size := by
  rintro a rfl hne
  obtain ⟨x, r, rfl⟩ := List.exists_cons_of_ne_nil hne
  obtain ⟨a', e, hc⟩ := h.2 0 (.int .i64 x) rfl
  cases e
  have : (a.add 0).block < w.heap.size := cell_lt hc
  exact this

set_option maxHeartbeats 4000000 in
theorem rnew_spec (g : Geo) {w0 w : World} (hx0 : Ext w0 w) {p : Option Addr} {l c : Nat} {L : List Ob} (hL : ObsR w0 p l L) (hs : ∀ o ∈ L, o.st.length ≤ 4611686018427387904) (hll : l ≤ 4611686018427387904) :
    Calls Try.prog 14 #[gV g, .slice p l c] w fun e w' => Ext w w' ∧ ((¬ GeoOk g ∧ e = .returned (.tuple #[.pointer none, .int .i64 50])) ∨
      (GeoOk g ∧ (g.objects < (L.length : Int) ∨ newO g L = none) ∧ e = .returned (.tuple #[.pointer none, .int .i64 1])) ∨
      (GeoOk g ∧ (L.length : Int) ≤ g.objects ∧ ∃ b O F, newO g L = some O ∧ e = .returned (.tuple #[.pointer (some (at0 b)), .int .i64 0]) ∧ RCat w' b g O F ∧ w.heap.size ≤ b ∧ ∀ x, F x → x < w0.heap.size ∨ w.heap.size ≤ x)) := by
  have hlen := hL.1
  refine (F14_calls g.k g.m g.size g.stripes g.slots g.objects p l c w (fun v w' => Ext w w' ∧ ((¬ GeoOk g ∧ v = .tuple #[.pointer none, .int .i64 50]) ∨
      (GeoOk g ∧ (g.objects < (L.length : Int) ∨ newO g L = none) ∧ v = .tuple #[.pointer none, .int .i64 1]) ∨
      (GeoOk g ∧ (L.length : Int) ≤ g.objects ∧ ∃ b O F, newO g L = some O ∧ v = .tuple #[.pointer (some (at0 b)), .int .i64 0] ∧ RCat w' b g O F ∧ w.heap.size ≤ b ∧ ∀ x, F x → x < w0.heap.size ∨ w.heap.size ≤ x)))
    (fun q w27 n w30 => ∃ (b i : Nat) (O : List Ob) (F : Nat → Prop), q = some (at0 b) ∧ n = i ∧ i ≤ L.length ∧ Ext w w30 ∧ newO g (L.take i) = some O ∧ O.length ≤ i ∧ RCat w30 b g O F ∧ w.heap.size ≤ b ∧ ∀ x, F x → x < w0.heap.size ∨ w.heap.size ≤ x)
    (fun _ _ n _ => L.length - n.toNat) ?_).mono (by
    rintro e w' ⟨v, rfl, hx, ⟨h, rfl⟩ | ⟨h1, h2, rfl⟩ | ⟨h1, h2, b, O, F, h3, rfl, h4⟩⟩
    · exact ⟨hx, .inl ⟨h, rfl⟩⟩
    · exact ⟨hx, .inr (.inl ⟨h1, h2, rfl⟩)⟩
    · exact ⟨hx, .inr (.inr ⟨h1, h2, b, O, F, h3, rfl, h4⟩)⟩)
  intro k8 w9 hk8
  have r9 : RowW w9 k8 _ := ⟨_, hk8.at⟩
  have x9 := hk8.ext
  refine ⟨_, r9.row.cell (n := 0) rfl, _, r9.row.cell rfl, _, r9.row.cell rfl, _, r9.row.cell rfl, _, r9.row.cell rfl, _, r9.row.cell rfl, (rcheck_spec g w9).mono ?_⟩
  rintro e w16 ⟨rfl, x16⟩
  have y16 := x9.trans x16
  have r16 := x16.rowW r9 id
  refine ⟨_, rfl, condB_of (fun h => ⟨y16, .inl ⟨fun hg => by simp [checkG, hg] at h, ?_⟩⟩) fun h1 => ?_⟩
  · have : ¬ GeoOk g := fun hg => by simp [checkG, hg] at h
    simp [checkG, this]
  have hg : GeoOk g := by
    by_cases hg : GeoOk g
    · exact hg
    · simp [checkG, hg] at h1
  refine ⟨_, r16.row.cell rfl, condB_of (fun h => ⟨y16, .inr (.inl ⟨hg, .inl ?_, rfl⟩)⟩) fun h2 => ?_⟩
  · simp only [decide_eq_true_eq] at h; omega
  simp only [decide_eq_false_iff_not] at h2
  refine ⟨_, r16.row.cell (n := 0) rfl, _, r16.row.cell rfl, _, r16.row.cell rfl, _, r16.row.cell rfl, _, r16.row.cell rfl, _, r16.row.cell rfl, fun k26 w27 hk26 => ?_⟩
  have z1 := hk26.size
  have zz := y16.size
  have y27 := y16.trans hk26.ext
  refine ⟨⟨k26, 0, [], fun x => x = k26, rfl, rfl, Nat.zero_le _, y27, rfl, Nat.le_refl _, ⟨⟨none, 0, 0, fun _ => False, ⟨_, hk26.at⟩, ⟨rfl, fun i o hi => by simp at hi⟩, fun _ h => h.elim, rfl, Nat.le_refl _⟩, fun x hx => by omega, ⟨hg, fun _ h => (by cases h), ?_, by simp [KAsc]⟩⟩, by omega, fun x hx => .inr (by omega)⟩, ?_⟩
  · have := hg.2.2.2.2.1
    simp only [List.length_nil]; omega
  rintro n29 w30 ⟨b, i, O, F, hq, rfl, hi, x30, hnew, hOi, h30, hb, hF⟩
  cases hq
  intros
  refine condB_of (fun hlt => ?_) (fun hge => ?_)
  · simp only [decide_eq_true_eq] at hlt
    obtain ⟨o, ho⟩ : ∃ o, L[i]? = some o := ⟨L[i]'(by omega), List.getElem?_eq_getElem _⟩
    have hom : o ∈ L := List.mem_of_getElem? ho
    have hsn : newO g (L.take (i + 1)) = if getO o.key O = none ∧ FitsO g O o then some (insO o O) else none := by
      rw [List.take_add_one, ho]
      unfold newO at hnew ⊢
      rw [Option.toList_some, addO'_snoc, hnew]
      rfl
    have hbad : newO g (L.take (i + 1)) = none → newO g L = none := fun hn => by
      have : L = L.take (i + 1) ++ L.drop (i + 1) := (List.take_append_drop _ _).symm
      rw [this]
      unfold newO at hn ⊢
      rw [addO'_app, hn]
      rfl
    obtain ⟨a0, q0, n0, d0, e0, _, _, _, c30, hst0, _⟩ := hL.2 i o ho
    obtain ⟨a, q, n, d, rfl, c0, c1, c2, c3, hst, hnd, hq0, hlo⟩ := (hL.ext (hx0.trans x30)).2 i o ho
    cases e0
    have := cellk c30 (hx0.trans x30)
    rw [this] at c3
    cases c3
    rw [Int.toNat_natCast]
    refine ⟨⟨by omega, hlt⟩, _, c0, _, c1, _, c2, _, _, _, this, (rfits_spec h30 o.key o.len hlo o.epoch hst (by have := hst.1; have := hs o hom; omega)).mono ?_⟩
    rintro e w75 ⟨rfl, x75⟩
    have y75 := x30.trans x75
    have h75 := h30.ext x75
    refine ⟨_, rfl, condB_of (fun h => ⟨y75, .inr (.inl ⟨hg, .inr (hbad ?_), rfl⟩)⟩) fun hfit => ?_⟩
    · simp only [Bool.not_eq_true', decide_eq_false_iff_not] at h
      rw [hsn, if_neg (fun h' => h h'.2)]
    simp only [Bool.not_eq_false', decide_eq_true_eq] at hfit
    refine ⟨⟨by omega, hlt⟩, _, by rw [add_add]; exact cellk c0 x75, (rfind_spec h75 o.key).mono ?_⟩
    rintro e w80 ⟨rfl, ⟨rfl, hno⟩ | ⟨j, o', rfl, hj, hk⟩⟩
    · refine ⟨_, rfl, condB_of (fun h => by simp at h) fun _ => ?_⟩
      intro w83 d83
      have x83 := x75.trans d83.ext
      have h83 := h30.ext x83
      obtain ⟨p1, l1, c1', G, hr83, hO83, hG83, hFb, hlc⟩ := h83.is
      have hget : getO o.key O = none := getO_none.2 hno
      have h256 : o.st.length ≤ 256 := hfit.1.1.2.2.2
      have hst83 := hst.ext x83
      have hsv : StV w83 (fun x => G x ∨ x < w0.heap.size) (.slice q0 n0 d0) o := ⟨q0, n0, d0, rfl, hst83, fun a' ha hne => .inr (ints_block hst0 a' ha hne), by have := hst.1; omega⟩
      have hO83' : RefO w83 (fun x => G x ∨ x < w0.heap.size) p1 l1 O := ⟨hO83.1, fun i o hi => by
        obtain ⟨a, q, n, c, h1, h2, h3, h4, h5, h6, h7, h8, h9⟩ := hO83.2 i o hi
        exact ⟨a, q, n, c, h1, .inl h2, h3, h4, h5, h6, h7, fun a' ha hne => .inl (h8 a' ha hne), h9⟩⟩
      have hgeo := hg
      unfold GeoOk at hgeo
      have hfew := h83.ok.few
      refine ⟨_, _, _, hr83.row.cell rfl, ⟨by omega, hlt⟩, _, cellk c0 x83, _, cellk c1 x83, _, cellk c2 x83, _, _, _, cellk this x83, (rwith_spec hO83' hlc hO83.none h83.ok.asc (by omega) o hsv).mono ?_⟩
      rintro e w90 ⟨p', l', c', rfl, x90, hlc', hO90⟩
      have r90 := x90.rowW hr83 id
      have y90 := x83.trans x90
      refine ⟨_, _, _, rfl, r90.live (n := 6) (by simp [gRow]), fun w93 s93 => ?_⟩
      have hz83 := (x30.trans x83).size
      have hz0 := hx0.size
      have hnb : ∀ x, G x → x ≠ k26 := fun x hx => (hG83 x hx).2
      have hb83 := h83.lt k26 hFb
      have hG1 : ∀ x, ((G x ∨ x < w0.heap.size) ∨ (w83.heap.size ≤ x ∧ x < w90.heap.size)) → (F x ∨ x < w0.heap.size ∨ (w83.heap.size ≤ x ∧ x < w90.heap.size)) ∧ x ≠ k26 := by
        rintro x ((hx | hx) | hx)
        · exact ⟨.inl (hG83 x hx).1, hnb x hx⟩
        · exact ⟨.inr (.inl hx), by omega⟩
        · exact ⟨.inr (.inr hx), by omega⟩
      have hlt1 : ∀ x, (F x ∨ x < w0.heap.size ∨ (w83.heap.size ≤ x ∧ x < w90.heap.size)) → x < w90.heap.size := by
        have := x90.size
        rintro x (hx | hx | hx)
        · have := h83.lt x hx; omega
        · omega
        · omega
      obtain ⟨h93, u93⟩ := RCat.set r90 s93 hO90 hG1 (.inl hFb) hlc' hlt1 (h83.ok.ins hfit fun hf => by have := hf.2; omega)
      rw [w64 (by omega)]
      refine ⟨⟨k26, i + 1, insO o O, _, rfl, by omega, by omega, Upd.trans (x30.trans y90) u93 fun x hx hs => by omega, by rw [hsn, if_pos ⟨hget, hfit⟩], ?_, h93, hb, fun x hx => ?_⟩, by show L.length - ((i : Int) + 1).toNat < L.length - (i : Int).toNat; omega⟩
      · have hdrop : dropO o.key O = O := dropO_none hno
        have hp := (insO_perm o O).length_eq
        rw [hdrop] at hp
        simp only [List.length_cons] at hp
        omega
      · rcases hx with hx | hx | hx
        · exact hF x hx
        · exact .inl hx
        · exact .inr (by omega)
    · refine ⟨_, rfl, condB_of (fun _ => ⟨y75, .inr (.inl ⟨hg, .inr (hbad ?_), rfl⟩)⟩) fun h => ?_⟩
      · rw [hsn, if_neg (fun h' => getO_none.1 h'.1 o' (List.mem_of_getElem? hj) hk)]
      · simp only [decide_eq_false_iff_not] at h
        exact absurd (Int.natCast_nonneg j) h
  · simp only [decide_eq_false_iff_not] at hge
    have e1 : L.take i = L := List.take_of_length_le (by omega)
    rw [e1] at hnew
    exact ⟨x30, .inr (.inr ⟨hg, by omega, k26, O, _, hnew, rfl, h30, hb, hF⟩)⟩
end Go.Proofs.Ytclkoojcibgcdaa
