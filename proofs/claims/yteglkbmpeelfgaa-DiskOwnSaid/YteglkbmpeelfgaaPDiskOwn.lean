/- DiskOwn returns true, whatever the script, the place and the bytes. No conditions. -/
import Derived.Test.YteglkbmpeelfgaaL5
import Derived.Test.YteglkbmpeelfgaaRows
namespace Go.Proofs.Yteglkbmpeelfgaa
open Go Go.Vc Go.ChangeShapes Go.WideShapes Go.ChangeAt Go.RowKit

theorem heldCells_keys : ∀ {vs : List Value} {L M : SM}, L.map (·.1) = M.map (·.1) → heldCells vs L = heldCells vs M
  | [], [], [], _ => rfl
  | [], _ :: _, _ :: _, _ => rfl
  | _ :: _, [], [], _ => rfl
  | _ :: vs, x :: L, y :: M, h => by
    simp only [List.map_cons, List.cons.injEq] at h
    simp only [heldCells, h.1, heldCells_keys h.2]
  | _, [], _ :: _, h => by cases h
  | _, _ :: _, [], h => by cases h

theorem ElemOwn.set {w w' : World} {base : Nat} {v : Value} {bs : List UInt8} {g : Nat} {z : UInt8} (h : ElemOwn w base v bs) (hs : SetC w ((at0 g).add 0) (.int .u8 (z.toNat : Int)) w') : ∃ bs', ElemOwn w' base v bs' := by
  obtain ⟨p, n, c, rfl, ho, h1, h2⟩ := h
  by_cases hp : p = some (at0 g)
  · subst hp
    obtain ⟨ho', _⟩ := ho.set hs
    rw [encB_set] at ho'
    refine ⟨_, _, n, c, rfl, ho', fun h0 => ?_, h2⟩
    have := congrArg List.length h0
    simp at this
    exact h1 this
  · refine ⟨bs, p, n, c, rfl, ho.upd hs.upd (fun g' hg' hS => ?_), h1, h2⟩
    rw [add_at0] at hS
    apply hp
    rw [hg', show g' = g from hS]

theorem HeldS.set {w w' : World} {base : Nat} {p : Option Addr} {l c : Nat} {L : SM} {g : Nat} {z : UInt8} (h : HeldS w base p l c L) (hty : ByB w base g) (hs : SetC w ((at0 g).add 0) (.int .u8 (z.toNat : Int)) w') :
    ∃ L', HeldS w' base p l c L' := by
  obtain ⟨vs, h1, h2, h3⟩ := h
  have hL : ∀ {us : List Value} {M : SM}, All2 (fun v (x : Int × List UInt8) => ElemOwn w base v x.2) us M → ∃ M' : SM, All2 (fun v (x : Int × List UInt8) => ElemOwn w' base v x.2) us M' ∧ M.map (·.1) = M'.map (·.1) := by
    intro us M h
    induction h with
    | nil => exact ⟨[], .nil, rfl⟩
    | cons h _ ih =>
      rename_i a b us' M' _
      obtain ⟨M2, i1, i2⟩ := ih
      obtain ⟨bs', hb⟩ := h.set hs
      exact ⟨(b.1, bs') :: M2, .cons hb i1, by simp [i2]⟩
  obtain ⟨L', a1, a2⟩ := hL h1
  refine ⟨L', vs, a1, ?_, ?_⟩
  · rw [← heldCells_keys a2]
    refine h2.upd hs.upd fun g' hg' hS => ?_
    rw [add_at0] at hS
    have : g' = g := hS
    subst this
    obtain ⟨_, cs, fz, hg⟩ := hty
    rcases h2.where_ with ⟨hp, _⟩ | ⟨g2, hp, _, _, _, cur, hg2, _⟩
    · rw [hp] at hg'; cases hg'
    · rw [hp] at hg'
      simp only [Option.some.injEq, at0, Addr.mk.injEq, and_true] at hg'
      subst hg'
      rw [hg] at hg2
      simp at hg2
  · have := congrArg List.length a2
    simp at this
    omega

theorem HeldS.elem {w : World} {base : Nat} {p : Option Addr} {l c : Nat} {L : SM} (h : HeldS w base p l c L) {i : Nat} (hi : i < l) :
    ∃ a g n c' b bs, p = some a ∧ w.cell? ((a.add (i * 2)).add 1) = some (.slice (some (at0 g)) n c') ∧ 0 < n ∧ ByB w base g ∧ OwnS w base 5 1 (some (at0 g)) n c' (encB (b :: bs)) := by
  obtain ⟨vs, h1, h2, h3⟩ := h
  obtain ⟨x, hx⟩ : ∃ x, L[i]? = some x := ⟨L[i]'(by omega), List.getElem?_eq_getElem _⟩
  obtain ⟨v, hv, q, n, c', rfl, ho, hne, hn⟩ := all2_at h1 hx
  obtain ⟨_, c2⟩ := heldCells_at hv hx
  obtain ⟨a, ha, e2⟩ := h2.cells _ _ c2
  obtain ⟨b, bs, hb⟩ := List.exists_cons_of_ne_nil hne
  rw [hb] at ho
  have hlen := ho.length
  rw [encB_length] at hlen
  simp only [List.length_cons, Nat.mul_one] at hlen
  rcases ho.where_ with ⟨_, h0, _⟩ | ⟨g, rfl, hge, _, _, cur, hg, _⟩
  · omega
  · exact ⟨a, g, n, c', b, bs, ha, by rw [add_add, Nat.mul_comm]; exact e2, by omega, ⟨hge, cur, _, hg⟩, ho⟩

set_option maxHeartbeats 4000000 in
theorem diskOwn_walk {w : World} (n : Int) {p : Option Addr} {l c : Nat} {L : List CallR} (hL : CallsAt w p l L) (k : Int) {p4 : Option Addr} {l4 c4 : Nat} {bs : List UInt8} (hb : BytesAt w p4 l4 bs) (hp4 : p4 = none → l4 = 0) :
    Calls Try.prog 9 #[.int .i64 n, .slice p l c, .int .i64 k, .slice p4 l4 c4] w fun e w' => e = .returned (.bool true) ∧ Ext w w' := by
  refine (F9_calls n p l c k p4 l4 c4 w (fun v w' => v = .bool true ∧ Ext w w')
    (fun _ p10 p35 l35 c35 _ n41 w42 => ∃ (i b base : Nat) (D' : Dk) (F : Nat → Prop) (L' : SM), n41 = i ∧ i ≤ l35 ∧ l35 ≤ 4096 ∧ p10 = some (at0 b) ∧ Dsk w42 b D' F ∧ (∀ x, F x → x < base) ∧ w.heap.size ≤ base ∧
      faultZ D'.dead D'.sectors k = 0 ∧ readD D' k = bs ∧ Ext w w42 ∧ HeldS w42 base p35 l35 c35 L') (fun _ _ _ _ _ _ n41 _ => 4096 - n41.toNat) ?_).mono (by rintro e w' ⟨v, rfl, rfl, h⟩; exact ⟨rfl, h⟩)
  refine (awake_spec w).mono ?_
  rintro e w6 ⟨rfl, x6⟩
  refine ⟨true, rfl, ?_⟩
  refine (done_spec (n := n) (hL.ext x6)).mono ?_
  rintro e w8 ⟨x9, ⟨hbad, rfl⟩ | ⟨hn, b, F, rfl, h8, hF⟩⟩
  · exact ⟨none, rfl, condB_of (fun _ => ⟨rfl, x6.trans x9⟩) fun h => by simp at h⟩
  have y8 := x6.trans x9
  replace hF : ∀ x, F x → w.heap.size ≤ x := fun x hx => Nat.le_trans x6.size (hF x hx)
  generalize doneD ⟨n, [], [], false⟩ (L.take 60) = D at h8
  refine ⟨some (at0 b), rfl, condB_of (fun h => by simp at h) fun _ => condB_of (fun _ => ⟨rfl, y8⟩) fun g1 => ?_⟩
  simp only [decide_eq_false_iff_not] at g1
  have hl := hb.1
  intro k11 w12 hk
  have hs12 := hk.size
  have own12 : OwnS w12 w8.heap.size 5 1 (some (at0 k11)) 0 0 [] := OwnS.made hk (by rw [hs12.1]; exact Nat.le_refl _) (Nat.le_refl _) (by unfold maxLen; omega) rfl
  obtain ⟨p14, c14, w13, hr, own13, hu13, _⟩ := own12.append elemB 24 (q := p4) (m := l4) (d := c4) (news := encB bs) (by rw [encB_length]; omega) ((hb.ext (y8.trans hk.ext)).cells) hp4
    (encB_one bs) (by unfold maxLen; omega) (by omega) (by omega)
  rw [Nat.zero_add] at hr own13
  rw [List.nil_append] at own13
  have x13 : Ext w8 w13 := by
    refine Upd.trans hk.ext hu13 fun x hx hs => ?_
    simp only [Option.some.injEq, at0, Addr.mk.injEq, and_true] at hs
    omega
  refine ⟨p14, l4, c14, w13, hr, ?_⟩
  have b13 : BytesAt w13 p14 l4 bs := by
    have := BytesAt.of_cells own13.cells
    rw [← hl] at this
    exact this
  refine (d_write (h8.ext x13) k b13).mono ?_
  rintro e w15 ⟨F', rfl, s15, h15⟩
  obtain ⟨y15, hF'⟩ := ext_step (y8.trans x13) s15 hF
  refine ⟨_, rfl, condB_of (fun _ => ⟨rfl, y15⟩) fun hz => condB_of (fun _ => ⟨rfl, y15⟩) fun hne => ?_⟩
  simp only [Bool.not_eq_false', decide_eq_true_eq, decide_eq_false_iff_not] at hz hne
  have own15 := ownS_step own13 s15 h8.lt
  obtain ⟨b0, bs', rfl⟩ : ∃ b0 bs', bs = b0 :: bs' := by
    cases bs with
    | nil => simp at hl; omega
    | cons b0 bs' => exact ⟨b0, bs', rfl⟩
  have hfk : faultZ D.dead D.sectors k = 0 := by
    unfold writeZ at hz
    split at hz
    · exact hz
    · rename_i h; simpa using h
  obtain ⟨g, rfl, hge, hglt⟩ : ∃ g, p14 = some (at0 g) ∧ w8.heap.size ≤ g ∧ g < w13.heap.size := by
    rcases own13.where_ with ⟨_, h0, _⟩ | ⟨g, hg, h1, h2, _⟩
    · omega
    · exact ⟨g, hg, h1, h2⟩
  obtain ⟨a', ha', hcell⟩ := cell_own own15
  cases ha'
  refine ⟨⟨by decide, by omega⟩, _, hcell, ⟨by decide, by omega⟩, own15.live (i := 0) (by rw [encB_length]; simp), fun w21 s21 => ?_⟩
  have s21' : SetC w15 ((at0 g).add 0) (.int .u8 (bitsV .xor .u8 (b0.toNat : Int) 1)) w21 := s21
  have u21 : Upd (fun x => x = g) w15 w21 := by
    have := s21'.upd
    rw [add_at0] at this
    exact this
  have hgF : ¬ F' g := fun h => by
    rcases s15.grow g h with h1 | h1
    · have := h8.lt g h1; omega
    · omega
  have h21 := h15.upd u21 (by rintro x rfl; exact hgF)
  have y21 : Ext w w21 := Upd.trans y15 u21 fun x hx he => by
    have := y8.size; omega
  refine (d_read h21 k).mono ?_
  rintro e w22 ⟨x22, h22, p24, l24, c24, bs24, rfl, e24, l24e, own24, _⟩
  refine ⟨_, _, _, _, rfl, ?_⟩
  rw [dead_write, sectors_write, if_pos hfk, read_write_same hz] at e24
  subst e24
  have b24 : BytesAt w22 p24 l24 (b0 :: bs') := by
    have := BytesAt.of_cells own24.cells
    rw [← l24e] at this
    exact this
  have y22 := y21.trans x22
  refine (same_spec b24 (hb.ext y22) (by omega)).mono ?_
  rintro e w26 ⟨rfl, q26⟩
  refine ⟨_, rfl, condB_of (fun h => by simp at h) fun _ => ?_⟩
  have own26 := own24.ext q26.ext
  obtain ⟨g2, rfl, hge2⟩ : ∃ g, p24 = some (at0 g) ∧ w21.heap.size ≤ g := by
    rcases own26.where_ with ⟨_, h0, _⟩ | ⟨g, hg, h1, _⟩
    · omega
    · exact ⟨g, hg, h1⟩
  obtain ⟨a', ha', hcell2⟩ := cell_own own26
  cases ha'
  refine ⟨⟨by decide, by omega⟩, _, hcell2, ⟨by decide, by omega⟩, own26.live (i := 0) (by rw [encB_length]; simp), fun w32 s32 => ?_⟩
  have s32' : SetC w26 ((at0 g2).add 0) (.int .u8 (bitsV .xor .u8 (b0.toNat : Int) 1)) w32 := s32
  have u32 : Upd (fun x => x = g2) w26 w32 := by
    have := s32'.upd
    rw [add_at0] at this
    exact this
  have h26 := h22.ext q26.ext
  have h32 := h26.upd u32 (by
    rintro x rfl hf
    have := h21.lt _ hf
    omega)
  have y32 : Ext w w32 := Upd.trans (y22.trans q26.ext) u32 fun x hx he => by
    have := y21.size; omega
  refine (d_waits h32).mono ?_
  rintro e w33 ⟨p35, l35, c35, rfl, x33, h33, held⟩
  have hle := dk_len h32.ok h32.asc
  have hl35 := held.length
  refine ⟨_, _, _, rfl, ⟨0, b, w32.heap.size, _, F', _, rfl, Nat.zero_le _, by omega, rfl, h33, h32.lt, y32.size, by rw [dead_write, sectors_write]; exact hfk, read_write_same hz, y32.trans x33, held⟩, ?_⟩
  clear held hl35 hle h33
  rintro n41 w42 ⟨i, b2, base, D', F2, L', rfl, hi, hl35, hbb, h42, hF2, hwb, hf2, hr2, y42, hh⟩
  cases hbb
  intros
  refine condB_of (fun hlt => ?_) (fun hge => ?_)
  · simp only [decide_eq_true_eq] at hlt
    have hi' : i < l35 := by omega
    obtain ⟨a, g, nn, cc, z0, zs, rfl, hc, hpos, hby, ho⟩ := hh.elem hi'
    rw [Int.toNat_natCast]
    refine ⟨⟨by omega, hlt⟩, _, _, _, hc, condB_of (fun _ => ?_) fun h => by simp at h; omega⟩
    intro w72 d72
    have x72 := d72.ext
    have hh72 := hh.ext x72
    have hc72 := cell_ext hc x72
    have ho72 := ho.ext x72
    obtain ⟨a2, ha2, hcell⟩ := cell_own ho72
    cases ha2
    refine ⟨⟨by omega, hlt⟩, _, _, _, hc72, ⟨by omega, hlt⟩, _, _, _, hc72, ⟨by decide, by omega⟩, _, hcell, ⟨by decide, by omega⟩, ho72.live (i := 0) (by rw [encB_length]; simp), fun w80 s80 => ?_⟩
    have e80 : bitsV .xor .u8 (z0.toNat : Int) 1 = ((z0 ^^^ 1).toNat : Int) := xor_u8 z0 1
    rw [e80] at s80
    have s80' : SetC w72 ((at0 g).add 0) (.int .u8 ((z0 ^^^ 1).toNat : Int)) w80 := s80
    have u80 : Upd (fun x => x = g) w72 w80 := by
      have := s80'.upd
      rw [add_at0] at this
      exact this
    obtain ⟨L2, hh80⟩ := hh72.set (hby.upd x72 id) s80'
    rw [w64 (by omega)]
    refine ⟨⟨i + 1, b, base, D', F2, L2, by omega, by omega, hl35, rfl, (h42.ext x72).upd u80 ?_, hF2, hwb, hf2, hr2, ?_, hh80⟩, by show 4096 - ((i : Int) + 1).toNat < 4096 - (i : Int).toNat; omega⟩
    · rintro x rfl hx
      have := hF2 _ hx
      have := hby.1
      omega
    · refine Upd.trans (y42.trans x72) u80 fun x hx he => ?_
      have := hby.1
      omega
  · refine (d_read h42 k).mono ?_
    rintro e w81 ⟨x81, h81, p83, l83, c83, bs83, rfl, e83, l83e, own83, _⟩
    refine ⟨_, _, _, _, rfl, ?_⟩
    rw [if_pos hf2, hr2] at e83
    subst e83
    have b83 : BytesAt w81 p83 l83 (b0 :: bs') := by
      have := BytesAt.of_cells own83.cells
      rw [← l83e] at this
      exact this
    have y81 := y42.trans x81
    refine (same_spec b83 (hb.ext y81) (by omega)).mono ?_
    rintro e w85 ⟨rfl, q85⟩
    exact ⟨_, rfl, condB_of (fun _ => ⟨by simp, y81.trans q85.ext⟩) fun h => by cases h⟩

set_option maxRecDepth 100000 in
theorem diskOwn_lifted (os : Os) (started : os.Started) (H : Type) (enc : TypeId × Value → H) :
    ReturnsInHanded {} Try.checked os 9 .any (Rows.diskOwnSpec.pre6 enc Try.prog Try.f9 Rows.diskOwnRow.domain false) (Rows.diskOwnSpec.post enc Try.prog Try.f9 false true false false) := by
  refine returnsInHanded_of_change (C := Try.checked) lawOwn started (by kernel_rfl) Try.func9
    (ChangeSpec.witness6 (enc := enc) (C := Try.checked) false ⟨#[], #[.int .i64 0, .slice none 0 0, .int .i64 0, .slice none 0 0], []⟩ 8 (by kernel_rfl) (by kernel_rfl) (by kernel_rfl) (by kernel_rfl)) ?_
  intro W base args ds gs before hval0 hW hcnd _
  have hval : ∀ (j : Nat) t v, Try.f9.params[j]? = some t → args[j]? = some v → Value.okWide Try.prog W .any base t v := hval0
  have hW' := hW
  obtain ⟨p, q, hA0, hV, rfl, hfz, hnd⟩ := hW
  have hA : DataW.TrodAll enc Try.prog W 0 (fun _ => true) true Try.f9.params.toList args.toList ds p := hA0
  rw [Try.params9] at hA hval
  obtain ⟨v0, vs0, d0, ds0, p0, q0, hargs, rfl, rfl, h0, r0⟩ := trodAll_cons hA
  obtain ⟨v1, vs1, d1, ds1, p1, q1, rfl, rfl, rfl, h1, r1⟩ := trodAll_cons r0
  obtain ⟨v2, vs2, d2, ds2, p2, q2, rfl, rfl, rfl, h2, r2⟩ := trodAll_cons r1
  obtain ⟨v3, vs3, d3, ds3, p3, q3, rfl, rfl, rfl, h3, r3⟩ := trodAll_cons r2
  obtain ⟨rfl, rfl, rfl⟩ := trodAll_nil r3
  obtain rfl : args = #[v0, v1, v2, v3] := by cases args; simp_all
  obtain ⟨rfl, rfl⟩ := trodVars_none hV
  obtain ⟨n0, rfl, rfl, rfl, wn0⟩ := open_int Try.underlying3 (hval 0 3 v0 rfl rfl) h0
  obtain ⟨a1, l1, c1, L1, rfl, hL1⟩ := open_script (okWide_slice Try.underlying23 (hval 1 23 v1 rfl rfl)) h1
  obtain ⟨n2, rfl, rfl, rfl, wn2⟩ := open_int Try.underlying3 (hval 2 3 v2 rfl rfl) h2
  obtain ⟨a3, l3, c3, bs3, rfl, hb3, _, _, hp3⟩ := open_bs (okWide_slice Try.underlying24 (hval 3 24 v3 rfl rfl)) h3
  refine (diskOwn_walk n0 hL1 n2 hb3 hp3).mono fun e W' ⟨he, hg⟩ => ?_
  subst he
  exact ⟨_, rfl, post_true lawLaid rfl (by kernel_rfl) rfl Try.underlying4 hW' rfl hg.below⟩

/-- ████ THE STATEMENT ████ -/
theorem diskOwn_holds : Rows.DiskOwnSaid :=
  OpenClaim.holds_of_wide 9 Try.f9 rfl rfl rfl rfl rfl rfl rfl ⟨rfl, rfl, rfl, rfl, rfl⟩ rfl rfl rfl rfl rfl (by kernel_rfl) Try.func9 (by kernel_rfl)
    (of_decide_eq_true (by kernel_rfl)) (by unfold Func.isWrapper; first | (rw [if_pos (by decide +kernel)]; kernel_rfl) | (rw [if_neg (by decide +kernel)]; exact ⟨rfl, rfl⟩))
    (fun os started H enc _ => diskOwn_lifted os started H enc)
end Go.Proofs.Yteglkbmpeelfgaa
