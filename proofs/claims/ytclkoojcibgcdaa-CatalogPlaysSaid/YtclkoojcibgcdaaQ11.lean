/- The document's catalog: Apply. -/
import Derived.Test.YtclkoojcibgcdaaQ10
namespace Go.Proofs.Ytclkoojcibgcdaa
open Go Go.Vc

theorem own_clone {w0 w : World} (hx : Ext w0 w) {k : Nat} (own : OwnS w w0.heap.size 3 1 (some (at0 k)) 0 0 []) {q : Option Addr} {m d : Nat} {st : List Int} (h : IntsAt w q m st) (hqn : q = none → m = 0) (hm : m ≤ 9000) :
    ∃ (p' : Option Addr) (l' c' : Nat), ∃ w' : World, Sem.run Try.prog (Builtin.append_ #[37, 37] 37 #[.slice (some (at0 k)) 0 0, .slice q m d]) w = .ok (.slice p' l' c') w' ∧ OwnS w' w0.heap.size 3 1 p' l' c' (encI st) ∧ l' = m ∧
      Ext w0 w' ∧ Upd (fun b => some (at0 k) = some (at0 b)) w w' := by
  have hl := h.1
  obtain ⟨p', c', w', hr, ho, hu, _⟩ := own.append elemI 37 (q := q) (m := m) (d := d) (news := encI st) (by rw [encI_length]; omega) h.2 hqn (encI_one st) (by unfold maxLen; omega) (by omega) hx.size
  refine ⟨p', _, c', w', hr, ho, by omega, ?_, hu⟩
  refine Upd.trans hx hu fun x hx' hs => ?_
  simp only [Option.some.injEq, at0, Addr.mk.injEq, and_true] at hs
  rcases own.where_ with ⟨h0, _⟩ | ⟨g, h0, hge, _⟩
  · cases h0
  · simp only [Option.some.injEq, at0, Addr.mk.injEq, and_true] at h0
    omega

section
variable {w : World} {b : Nat} {g : Geo} {O : List Ob} {F : Nat → Prop}

set_option maxHeartbeats 1000000 in
theorem apply_A1 (h : RCat w b g O F) {w89 : World} (hx : Ext w w89) {k7 k83 k88 : Nat} {kind : Int} {k : ByteArray} {n epoch : Int} {p : Option Addr} {l c : Nat} {st : List Int} (h7 : RowW w89 k7 #[.int .i64 kind, .string k, .int .i64 n, .slice p l c]) (h7n : k7 ≠ k83)
    (own : OwnS w89 w.heap.size 3 1 (some (at0 k83)) 0 0 []) (h88 : w89.heap[k88]? = some (.cells #[.string ⟨#[]⟩, .int .i64 0, .int .i64 0, .slice none 0 0] 52)) (hk : w.heap.size ≤ k88) (hkk : k88 ≠ k83)
    (hn : n ≤ 9223372036854775807) (hst : IntsAt w89 p l st) (hp : p = none → l = 0) (hl : l ≤ 256) (hfull : ¬ FullO g O k) {R : Value → World → Prop} (hbad : ∀ w', ¬ FitsO g O ⟨k, n, epoch, st⟩ → Ext w w' → R (.int .i64 1) w')
    (hgood : ∀ w' F', FitsO g O ⟨k, n, epoch, st⟩ → StepR b F F' w w' → RCat w' b g (insO ⟨k, n, epoch, st⟩ O) F' → R (.int .i64 0) w') : F38_A1 w89 k7 k n p l c k83 k88 epoch (some (at0 b)) R := by
  obtain ⟨p', l', c', w93, hr, ho, hl', x93, u93⟩ := own_clone hx own (d := c) hst hp (by omega)
  have ne83 : ∀ {y : Nat}, y ≠ k83 → ¬ (some (at0 k83) = some (at0 y)) := fun hy hs => by
    simp only [Option.some.injEq, at0, Addr.mk.injEq, and_true] at hs
    exact hy hs.symm
  have r93 := u93.rowW h7 (ne83 h7n)
  have h88' := u93.keep h88 (ne83 hkk)
  refine ⟨⟨_, h7.row.cell rfl, rfl⟩, ⟨_, h7.row.cell rfl, rfl⟩, ⟨_, _, _, h7.row.cell rfl, rfl⟩, _, _, _, _, hr, ⟨_, r93.row.cell rfl, rfl⟩, ⟨_, r93.row.cell rfl, rfl⟩, ?_⟩
  refine apply_A2 h x93 hk ⟨_, h88'⟩ hn (own_ints ho) (fun a ha hne => ?_) (by omega) hfull hbad hgood
  rcases ho.where_ with ⟨h0, _⟩ | ⟨q, h0, hge, _, _, cur, hc, _⟩
  · rw [h0] at ha; cases ha
  · rw [h0] at ha
    cases ha
    refine ⟨hge, ?_⟩
    intro e
    have e' : q = k88 := e
    rw [e', h88'] at hc
    simp only [Option.some.injEq, Obj.cells.injEq] at hc
    exact absurd hc.2.1 (by decide)

set_option maxHeartbeats 2000000 in
theorem apply_A0 (h : RCat w b g O F) {w37 : World} (hx : Ext w w37) {k7 : Nat} {kind : Int} {k : ByteArray} {n epoch : Int} {p : Option Addr} {l c : Nat} {st : List Int} (h7 : RowW w37 k7 #[.int .i64 kind, .string k, .int .i64 n, .slice p l c])
    (hn : n ≤ 9223372036854775807) (hst : IntsAt w37 p l st) (hp : p = none → l = 0) (hl : l ≤ 256) (hfull : ¬ FullO g O k) {R : Value → World → Prop} (hbad : ∀ w', ¬ FitsO g O ⟨k, n, epoch, st⟩ → Ext w w' → R (.int .i64 1) w')
    (hgood : ∀ w' F', FitsO g O ⟨k, n, epoch, st⟩ → StepR b F F' w w' → RCat w' b g (insO ⟨k, n, epoch, st⟩ O) F' → R (.int .i64 0) w') : F38_A0 w37 k7 epoch (some (at0 b)) R := by
  intro w42 d42
  have x42 := hx.trans d42.ext
  have r42 := d42.ext.rowW h7 id
  have hst42 := hst.ext d42.ext
  have hlt7 := r42.lt
  have own0 : ∀ {wa wb : World} {k : Nat}, Ext w wa → NewB wa k (.cells #[] 3) wb → OwnS wb w.heap.size 3 1 (some (at0 k)) 0 0 [] := fun x hk =>
    OwnS.made hk (by rw [hk.size.1]; exact x.size) (Nat.le_refl _) (by unfold maxLen; omega) rfl
  refine ⟨_, r42.row.cell rfl, _, r42.row.cell rfl, _, _, _, r42.row.cell rfl, fun k83 w84 hk83 => ?_, fun k46 w47 hk46 => ?_⟩
  · have x84 := x42.trans hk83.ext
    have r84 := hk83.ext.rowW r42 id
    have z83 := hk83.size
    have zz := x42.size
    refine ⟨⟨_, r84.row.cell rfl, rfl⟩, ⟨_, r84.row.cell rfl, rfl⟩, ⟨_, _, _, r84.row.cell rfl, rfl⟩, ?_, fun k88 w89 hk88 => ?_⟩
    · obtain ⟨p', l', c', w93, hr, ho, hl', x93, u93⟩ := own_clone x84 (own0 x42 hk83) (d := c) (hst42.ext hk83.ext) hp (by omega)
      have r93 := u93.rowW r84 (fun hs => by
        simp only [Option.some.injEq, at0, Addr.mk.injEq, and_true] at hs
        omega)
      refine ⟨_, _, _, _, hr, ⟨_, r93.row.cell rfl, rfl⟩, ⟨_, r93.row.cell rfl, rfl⟩, fun k124 w125 hk124 => ?_⟩
      have z124 := hk124.size
      have r125 := hk124.ext.rowW r93 id
      have z93 := x93.size
      refine ⟨⟨_, r125.row.cell rfl, rfl⟩, ⟨_, r125.row.cell rfl, rfl⟩, ⟨_, _, _, r125.row.cell rfl, rfl⟩, ?_⟩
      refine apply_A2 h (x93.trans hk124.ext) (by omega) ⟨_, hk124.at⟩ hn ((own_ints ho).ext hk124.ext) (fun a ha hne => ?_) (by omega) hfull hbad hgood
      rcases ho.where_ with ⟨h0, _⟩ | ⟨q, h0, hge, hlt, _⟩
      · rw [h0] at ha; cases ha
      · rw [h0] at ha
        cases ha
        exact ⟨hge, by show q ≠ k124; omega⟩
    · have z88 := hk88.size
      exact apply_A1 h (x84.trans hk88.ext) (hk88.ext.rowW r84 id) (by omega) ((own0 x42 hk83).ext hk88.ext) hk88.at (by omega) (by omega) hn ((hst42.ext hk83.ext).ext hk88.ext) hp hl hfull hbad hgood
  · have x47 := x42.trans hk46.ext
    have r47 := hk46.ext.rowW r42 id
    have z46 := hk46.size
    have zz := x42.size
    refine ⟨⟨_, r47.row.cell rfl, rfl⟩, ⟨_, r47.row.cell rfl, rfl⟩, ⟨_, _, _, r47.row.cell rfl, rfl⟩, fun k51 w52 hk51 => ?_⟩
    have z51 := hk51.size
    exact apply_A1 h (x47.trans hk51.ext) (hk51.ext.rowW r47 id) (by omega) (own0 x47 hk51) (hk51.ext.keep hk46.at) (by omega) (by omega) hn ((hst42.ext hk46.ext).ext hk51.ext) hp hl hfull hbad hgood

set_option maxHeartbeats 4000000 in
theorem rapply_spec (h : RCat w b g O F) (kind : Int) (k : ByteArray) (n : Int) (hn : n ≤ 9223372036854775807) (epoch : Int) {p : Option Addr} {l c : Nat} {st : List Int} (hst : IntsAt w p l st) (hl : l ≤ 4611686018427387904) (hp : p = none → l = 0) :
    Calls Try.prog 38 #[.pointer (some (at0 b)), .agg #[.int .i64 kind, .string k, .int .i64 n, .slice p l c], .int .i64 epoch] w fun e w' => ∃ F', e = .returned (.int .i64 (applyO g O kind k n st epoch).2) ∧ StepR b F F' w w' ∧ RCat w' b g (applyO g O kind k n st epoch).1 F' := by
  refine (F38_calls (some (at0 b)) kind k n p l c epoch w (fun v w' => ∃ F', v = .int .i64 (applyO g O kind k n st epoch).2 ∧ StepR b F F' w w' ∧ RCat w' b g (applyO g O kind k n st epoch).1 F') ?_).mono (by rintro e w' ⟨v, rfl, F', rfl, h⟩; exact ⟨F', rfl, h⟩)
  have same : ∀ {w' : World} (z : Int), Ext w w' → applyO g O kind k n st epoch = (O, z) → ∃ F', (Value.int .i64 z : Value) = .int .i64 (applyO g O kind k n st epoch).2 ∧ StepR b F F' w w' ∧ RCat w' b g (applyO g O kind k n st epoch).1 F' :=
    fun z hx he => ⟨F, by rw [he], StepR.ext hx, by rw [he]; exact h.ext hx⟩
  have hlen := hst.1
  intro k7 w8 hk7
  have r8 : RowW w8 k7 _ := ⟨_, hk7.at⟩
  have x8 := hk7.ext
  refine ⟨_, r8.row.cell (n := 0) rfl, _, r8.row.cell rfl, _, r8.row.cell rfl, _, _, _, r8.row.cell rfl, (rrec_spec kind k n (hst.ext x8) hl).mono ?_⟩
  rintro e w13 ⟨rfl, x13⟩
  have y13 := x8.trans x13
  have r13 := x13.rowW r8 id
  refine ⟨_, rfl, condB_of (fun h1 => same 1 y13 ?_) fun h1 => ?_⟩
  · have : ¬ RecOk kind k n st := fun hr => by simp [recZ, hr] at h1
    unfold applyO
    rw [if_pos this]
  have hr : RecOk kind k n st := by
    by_cases hr : RecOk kind k n st
    · exact hr
    · simp [recZ, hr] at h1
  have ha1 : applyO g O kind k n st epoch = if kind = 2 ∧ getO k O = none then (O, 193) else if kind = 2 then (dropO k O, 0) else if FullO g O k then (O, 191) else if ¬ FitsO g O ⟨k, n, epoch, st⟩ then (O, 1) else (insO ⟨k, n, epoch, st⟩ O, 0) := by
    unfold applyO
    rw [if_neg (fun h => h hr)]
  have h256 : st.length ≤ 256 := hr.1.2.2.2
  refine ⟨_, r13.row.cell rfl, (rfind_spec (h.ext y13) k).mono ?_⟩
  rintro e w17 ⟨rfl, hfind⟩
  have put : ¬ kind = 2 → ∀ {w37 : World}, Ext w w37 → RowW w37 k7 #[.int .i64 kind, .string k, .int .i64 n, .slice p l c] → ¬ FullO g O k →
      F38_A0 w37 k7 epoch (some (at0 b)) (fun v w' => ∃ F', v = .int .i64 (applyO g O kind k n st epoch).2 ∧ StepR b F F' w w' ∧ RCat w' b g (applyO g O kind k n st epoch).1 F') := by
    intro h2 w37 x37 r37 hnf
    rw [if_neg (fun h => h2 h.1), if_neg h2, if_neg hnf] at ha1
    refine apply_A0 h x37 r37 hn (hst.ext x37) hp (by omega) hnf (fun w' hno hx => ?_) (fun w' F' hfit hs hc => ?_)
    · exact same 1 hx (by rw [ha1, if_pos hno])
    · rw [if_neg (fun h => h hfit)] at ha1
      exact ⟨F', by rw [ha1], hs, by rw [ha1]; exact hc⟩
  have hgeo := h.ok.geo
  unfold GeoOk at hgeo
  have hfew := h.ok.few
  rcases hfind with ⟨rfl, hno⟩ | ⟨i, o, rfl, ho, hkey⟩
  · have hnone : getO k O = none := getO_none.2 hno
    refine ⟨_, rfl, _, r13.row.cell (n := 0) rfl, condB_of (fun h2 => condB_of (fun _ => same 193 y13 ?_) fun h => by simp at h) fun h2 => fun w37 d37 => condB_of (fun _ => ?_) fun h => by simp at h⟩
    · simp only [decide_eq_true_eq] at h2
      rw [ha1, if_pos ⟨h2, hnone⟩]
    · simp only [decide_eq_false_iff_not] at h2
      have x37 := y13.trans d37.ext
      obtain ⟨p1, l1, c1, G, hr37, hO, _⟩ := (h.ext x37).is
      have hl1 := hO.1
      refine ⟨_, _, _, hr37.row.cell rfl, _, by rw [add_add]; exact hr37.row.cell rfl, condB_of (fun hge => same 191 x37 ?_) fun hlt => put h2 x37 (d37.ext.rowW r13 id) fun hf => ?_⟩
      · simp only [decide_eq_true_eq] at hge
        rw [ha1, if_neg (fun h => h2 h.1), if_neg h2, if_pos ⟨hnone, by omega⟩]
      · simp only [decide_eq_false_iff_not] at hlt
        have := hf.2
        omega
  · have hg : getO k O = some o := (getO_some h.ok.asc.keys).2 ⟨List.mem_of_getElem? ho, hkey⟩
    have hil : i < O.length := (List.getElem?_eq_some_iff.1 ho).1
    refine ⟨_, rfl, _, r13.row.cell (n := 0) rfl, condB_of (fun h2 => condB_of (fun h => ?_) fun _ => fun w21 d21 => ?_) fun h2 => fun w37 d37 => condB_of (fun h => ?_) fun _ => ?_⟩
    · simp only [decide_eq_true_eq] at h; omega
    · simp only [decide_eq_true_eq] at h2
      have x21 := y13.trans d21.ext
      have h21 := h.ext x21
      obtain ⟨p1, l1, c1, G, hr21, hO, hG, hFb, hlc⟩ := h21.is
      have hl1 := hO.1
      obtain ⟨vs, hvl, hvs, hcells⟩ := hO.cells
      have hol := objCells_length hvl
      have hone := objCells_one hvl fun i v o hv ho => by obtain ⟨q, n, c, rfl, _⟩ := hvs i v o hv ho; exact ⟨q, n, c, rfl⟩
      have hw1 : IntKind.i64.wrap ((i : Int) + 1) = ((i + 1 : Nat) : Int) := by rw [w64 (by omega)]; omega
      refine ⟨_, _, _, hr21.row.cell rfl, ⟨by omega, by omega⟩, _, _, _, hr21.row.cell rfl, ⟨by rw [hw1]; omega, by rw [hw1]; omega⟩, fun k26 w27 hk26 => ?_⟩
      rw [hw1, Int.toNat_natCast, Int.toNat_natCast]
      have x27 := hk26.ext
      have r27 := x27.rowW hr21 id
      have own0 : OwnS w27 w21.heap.size 52 4 (some (at0 k26)) 0 0 [] := OwnS.made hk26 (by rw [hk26.size.1]; exact Nat.le_refl _) (Nat.le_refl _) (by unfold maxLen; omega) rfl
      obtain ⟨p3, l3, c3, w30, r30, own30, x30, u30⟩ := with_pre (Upd.refl _ _) x27 hl1 hlc (by omega) hvl hcells hone hO.none (i := i) (by omega) own0
      have q30 := x30.rowW hr21 id
      have hl3 : l3 = i := by
        have := own30.length
        simp only [List.nil_append, List.length_take, hol] at this
        omega
      have hrestl : ((objCells vs O).drop ((i + 1) * 4)).length = (l1 - (i + 1)) * 4 := by rw [List.length_drop, hol]; omega
      have hrest : CellsAt w30 (cutP p1 c1 (i + 1) 4) ((objCells vs O).drop ((i + 1) * 4)) := cells_cut4 (hcells.ext x30) (c := c1) (j := i + 1) (fun e => by
        apply List.eq_nil_of_length_eq_zero
        rw [List.length_drop, hol]; omega)
      obtain ⟨p4, c4, w33, r33, own33, x33, _⟩ := own_appO x30 own30 (q := cutP p1 c1 (i + 1) 4) (m := l1 - (i + 1)) (d := c1 - (i + 1)) hrestl hrest (fun e => by have := hO.none (cutP_none4 e); omega) (fun u hu => hone u (List.mem_of_mem_drop hu)) (by omega)
      have q33 := x33.rowW hr21 id
      refine ⟨⟨_, _, _, r27.row.cell rfl, rfl⟩, ⟨_, _, _, r27.row.cell rfl, rfl⟩, _, _, _, _, r30, ⟨_, _, _, q30.row.cell rfl, rfl⟩, _, _, _, _, r33, q33.live (n := 6) (by simp [gRow]), fun w36 s36 => ?_⟩
      obtain ⟨hlc', hO33⟩ := del_fin hvl hvs x33 (Nat.le_refl _) (by omega) own33
      have hd : dropO k O = O.take i ++ O.drop (i + 1) := by
        rw [← hkey]
        exact dropO_at h.ok.asc ho
      rw [← hd] at hO33
      have hbw := h21.lt b hFb
      have z33 := x33.size
      have hG1 : ∀ x, (G x ∨ (w21.heap.size ≤ x ∧ x < w33.heap.size)) → (F x ∨ (w21.heap.size ≤ x ∧ x < w33.heap.size)) ∧ x ≠ b := by
        rintro x (hx | hx)
        · exact ⟨.inl (hG x hx).1, (hG x hx).2⟩
        · exact ⟨.inr hx, by omega⟩
      have hlt1 : ∀ x, (F x ∨ (w21.heap.size ≤ x ∧ x < w33.heap.size)) → x < w33.heap.size := by
        rintro x (hx | hx)
        · have := h21.lt x hx; omega
        · omega
      obtain ⟨h36, u36⟩ := RCat.set q33 s36 hO33 hG1 (.inl hFb) hlc' hlt1 (h.ok.drop k)
      rw [if_neg (fun h => by rw [h.2] at hg; cases hg), if_pos h2] at ha1
      refine ⟨_, by rw [ha1], ⟨Upd.trans ((x21.trans x33).mono fun _ _ h => h.elim) u36 fun x _ hs => hs, ?_⟩, by rw [ha1]; exact h36⟩
      have := x21.size
      rintro x (hx | hx)
      · exact .inl hx
      · exact .inr (by omega)
    · simp only [decide_eq_true_eq] at h; omega
    · simp only [decide_eq_false_iff_not] at h2
      exact put h2 (y13.trans d37.ext) (d37.ext.rowW r13 id) fun hf => by rw [hf.1] at hg; cases hg
end
end Go.Proofs.Ytclkoojcibgcdaa
