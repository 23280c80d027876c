/- DiskCrashes returns true, whatever the script and what is kept. No conditions. -/
import Derived.Test.YteglkbmpeelfgaaL5
import Derived.Test.YteglkbmpeelfgaaRows
namespace Go.Proofs.Yteglkbmpeelfgaa
open Go Go.Vc Go.ChangeShapes Go.WideShapes Go.ChangeAt Go.RowKit

theorem get_take_none {k : Int} {L : SM} {i : Nat} {x : Int × List UInt8} (h : get k (L.take i) = none) (hx : L[i]? = some x) (hk : x.1 ≠ k) : get k (L.take (i + 1)) = none := by
  rw [List.take_add_one, hx, get_append, h]
  obtain ⟨a, b⟩ := x
  simp only [Option.toList_some, Vc.get]
  rw [if_neg hk]; rfl
theorem get_at {k : Int} {L : SM} {i : Nat} {x : Int × List UInt8} (h : get k (L.take i) = none) (hx : L[i]? = some x) (hk : x.1 = k) : get k L = some x.2 := by
  have hlt : i < L.length := (List.getElem?_eq_some_iff.1 hx).1
  have e : L = L.take i ++ L.drop i := (List.take_append_drop i L).symm
  rw [e, get_append, h]
  rw [List.drop_eq_getElem_cons hlt]
  have : L[i] = x := (List.getElem?_eq_some_iff.1 hx).2
  rw [this]
  obtain ⟨a, b⟩ := x
  simp only [Vc.get]
  rw [if_pos hk]; rfl

theorem held_spec {w : World} {p : Option Addr} {l c : Nat} {L : SM} (h : HeldR w p l L) (k : Int) :
    Calls Try.prog 28 #[.slice p l c, .int .i64 k] w fun e w' => ∃ q n c', e = .returned (.tuple #[.slice q n c', .bool (get k L).isSome]) ∧ Ext w w' ∧ BytesAt w' q n ((get k L).getD []) ∧ n ≤ 4108 := by
  refine (F28_calls p l c k w (fun v w' => ∃ q n c', v = .tuple #[.slice q n c', .bool (get k L).isSome] ∧ Ext w w' ∧ BytesAt w' q n ((get k L).getD []) ∧ n ≤ 4108)
    (fun _ n w4 => ∃ i : Nat, n = i ∧ i ≤ l ∧ Ext w w4 ∧ get k (L.take i) = none) (fun _ n _ => 4096 - n.toNat) ?_).mono (by rintro e w' ⟨v, rfl, q, n, c', rfl, h⟩; exact ⟨q, n, c', rfl, h⟩)
  have hl := h.1
  have hle := h.2.1
  refine ⟨⟨0, rfl, Nat.zero_le _, Upd.refl _ _, by simp [Vc.get]⟩, ?_⟩
  rintro n w4 ⟨i, rfl, hi, hx4, hno⟩
  intros
  refine condB_of (fun hlt => ?_) (fun hge => ?_)
  · simp only [decide_eq_true_eq] at hlt
    obtain ⟨x, hxi⟩ : ∃ x, L[i]? = some x := ⟨L[i]'(by omega), List.getElem?_eq_getElem _⟩
    obtain ⟨a, q, nn, cc, rfl, ca, cb, cbytes, cn⟩ := (h.ext hx4).2.2 i x hxi
    rw [Int.toNat_natCast]
    refine ⟨⟨by omega, hlt⟩, _, ca, condB_of (fun hk => ?_) (fun hk => ?_)⟩
    · simp only [decide_eq_true_eq] at hk
      have hg := get_at hno hxi hk
      refine ⟨⟨by omega, hlt⟩, _, _, _, cb, q, nn, cc, ?_, hx4, ?_, cn⟩
      · rw [hg]; rfl
      · rw [hg]; exact cbytes
    · simp only [decide_eq_false_iff_not] at hk
      rw [w64 (by omega)]
      exact ⟨⟨i + 1, by omega, by omega, hx4, get_take_none hno hxi hk⟩, by show 4096 - ((i : Int) + 1).toNat < 4096 - (i : Int).toNat; omega⟩
  · simp only [decide_eq_false_iff_not] at hge
    have e1 : L.take i = L := List.take_of_length_le (by omega)
    rw [e1] at hno
    refine ⟨none, 0, 0, ?_, hx4, ?_, by omega⟩
    · rw [hno]; rfl
    · rw [hno]; exact BytesAt.nil _ _

theorem crash_get {D : Dk} (ha : Asc D.waits) (ks : List Int) (k : Int) : get k (crashD D ks).lasts = if k ∈ ks ∧ (get k D.waits).isSome then get k D.waits else get k D.lasts := by
  have h1 : get k (crashD D ks).lasts = (get k (D.waits.filter fun y => decide (y.1 ∈ ks))).or (get k D.lasts) := get_mrg k _ _ (ha.filter _).nodup
  rw [h1]
  by_cases hk : k ∈ ks
  · rw [get_filter_ne (q := fun z => decide (z ∈ ks)) (by simpa using hk)]
    cases get k D.waits <;> simp [hk]
  · rw [get_filter_no (q := fun z => decide (z ∈ ks)) (by simpa using hk)]
    simp [hk]

theorem take_mem {k : Int} {ks : List Int} {j : Nat} {z : Int} (h : ks[j]? = some z) : (k ∈ ks.take (j + 1)) ↔ (k ∈ ks.take j ∨ z = k) := by
  rw [List.take_add_one, h]
  simp [eq_comm]

set_option maxHeartbeats 4000000 in
theorem diskCrashes_walk {w : World} (n : Int) {p : Option Addr} {l c : Nat} {L : List CallR} (hL : CallsAt w p l L) {p4 : Option Addr} {l4 c4 : Nat} {ks : List Int} (hk : IntsAt w p4 l4 ks) :
    Calls Try.prog 8 #[.int .i64 n, .slice p l c, .slice p4 l4 c4] w fun e w' => e = .returned (.bool true) ∧ Ext w w' := by
  refine (F8_calls n p l c p4 l4 c4 w (fun v w' => v = .bool true ∧ Ext w w')
    (fun _ _ _ _ _ _ _ _ _ _ _ w18 n32 w33 => ∃ i : Nat, n32 = i ∧ Ext w18 w33) (fun _ _ _ _ _ _ _ _ _ _ _ _ n32 _ => (n - n32).toNat)
    (fun _ _ _ _ _ _ _ _ _ _ _ n32 w33 b116 n117 w118 => ∃ j : Nat, n117 = j ∧ j ≤ l4 ∧ Ext w33 w118 ∧ b116 = decide (n32 ∈ ks.take j)) (fun _ _ _ _ _ _ _ _ _ _ _ _ _ _ n117 _ => 200 - n117.toNat) ?_).mono (by rintro e w' ⟨v, rfl, rfl, h⟩; exact ⟨rfl, h⟩)
  refine (awake_spec w).mono ?_
  rintro e w6 ⟨rfl, x6⟩
  refine ⟨true, rfl, ?_⟩
  refine (done_spec (n := n) (hL.ext x6)).mono ?_
  rintro e w7 ⟨x9, ⟨hbad, rfl⟩ | ⟨hn, b, F, rfl, h9, hF⟩⟩
  · exact ⟨none, rfl, condB_of (fun _ => ⟨rfl, x6.trans x9⟩) fun h => by simp at h⟩
  have y9 := x6.trans x9
  replace hF : ∀ x, F x → w.heap.size ≤ x := fun x hx => Nat.le_trans x6.size (hF x hx)
  generalize doneD ⟨n, [], [], false⟩ (L.take 60) = D at h9
  refine ⟨some (at0 b), rfl, condB_of (fun h => by simp at h) fun _ => condB_of (fun _ => ⟨rfl, y9⟩) fun g1 => condB_of (fun _ => ⟨rfl, y9⟩) fun g2 => ?_⟩
  simp only [decide_eq_false_iff_not] at g1 g2
  have hks := hk.1
  refine (d_lasts h9).mono ?_
  rintro e w10 ⟨p12, l12, c12, rfl, x10, h10, held12⟩
  refine ⟨_, _, _, rfl, ?_⟩
  refine (d_waits h10).mono ?_
  rintro e w13 ⟨p15, l15, c15, rfl, x13, h13, held15⟩
  refine ⟨_, _, _, rfl, ?_⟩
  have y13 := (y9.trans x10).trans x13
  refine (d_crash h13 (hk.ext y13) (by omega) (by
    rintro a ha hne hf
    have h1 := ints_lt hk hne ha
    have h2 := hF _ hf
    omega)).mono ?_
  rintro e w16 ⟨rfl, s16, h16⟩
  obtain ⟨y16, hF16⟩ := ext_step y13 s16 hF
  refine ⟨rfl, ?_⟩
  refine (d_lasts h16).mono ?_
  rintro e w18 ⟨p20, l20, c20, rfl, x18, h18, held20⟩
  have y18 := y16.trans x18
  have le1 := dk_len h9.ok h9.asc
  have le2 := dk_len h16.ok h16.asc
  have R12 : HeldR w18 p12 l12 D.lasts := (((held12.ext x13).step s16 h9.lt).ext x18).read le1.1
  have R15 : HeldR w18 p15 l15 D.waits := ((held15.step s16 h10.lt).ext x18).read le1.2
  have R20 : HeldR w18 p20 l20 (crashD D ks).lasts := held20.read le2.1
  have asc9 := h9.asc
  refine ⟨_, _, _, rfl, ⟨0, rfl, Upd.refl _ _⟩, ?_⟩
  rintro n32 w33 ⟨i, rfl, x33⟩
  intros
  refine condB_of (fun hlt => ?_) (fun hge => ?_)
  · simp only [decide_eq_true_eq] at hlt
    refine ⟨⟨0, rfl, Nat.zero_le _, Upd.refl _ _, by simp⟩, ?_⟩
    rintro b116 n117 w118 ⟨j, rfl, hj, x118, rfl⟩
    intros
    have xx := x33.trans x118
    refine condB_of (fun hjl => ?_) (fun hjl => ?_)
    · simp only [decide_eq_true_eq] at hjl
      obtain ⟨z, hz⟩ : ∃ z, ks[j]? = some z := ⟨ks[j]'(by omega), List.getElem?_eq_getElem _⟩
      have hmu : 200 - ((j : Int) + 1).toNat < 200 - (j : Int).toNat := by omega
      refine condB_of (fun hb => ?_) (fun hb => ?_)
      · simp only [decide_eq_true_eq] at hb
        rw [w64 (by omega)]
        refine ⟨⟨j + 1, by omega, by omega, x118, ?_⟩, hmu⟩
        exact (decide_eq_true ((take_mem hz).2 (.inl hb))).symm
      · simp only [decide_eq_false_iff_not] at hb
        obtain ⟨a, ha, hc⟩ := (hk.ext (y18.trans xx)).2 j (.int .i64 z) (by rw [List.getElem?_map, hz]; rfl)
        subst ha
        refine ⟨⟨by omega, hjl⟩, z, by rw [Int.toNat_natCast, Nat.mul_one]; exact hc, ?_⟩
        rw [w64 (by omega)]
        refine ⟨⟨j + 1, by omega, by omega, x118, ?_⟩, hmu⟩
        apply decide_eq_decide.2
        rw [take_mem hz]
        simp [hb]
    · simp only [decide_eq_false_iff_not] at hjl
      have ej : ks.take j = ks := List.take_of_length_le (by omega)
      rw [ej]
      refine (held_spec (R12.ext xx) (i : Int)).mono ?_
      rintro e w136 ⟨qa, na, ca, rfl, xa, ba, ma⟩
      refine ⟨_, _, _, _, rfl, ?_⟩
      refine (held_spec (R15.ext (xx.trans xa)) (i : Int)).mono ?_
      rintro e w140 ⟨qb, nb, cb, rfl, xb, bb, mb⟩
      refine ⟨_, _, _, _, rfl, ?_⟩
      refine (held_spec (R20.ext ((xx.trans xa).trans xb)) (i : Int)).mono ?_
      rintro e w144 ⟨qc, nc, cc, rfl, xc, bc, mc⟩
      refine ⟨_, _, _, _, rfl, ?_⟩
      have ba' := (ba.ext xb).ext xc
      have bb' := bb.ext xc
      have x144 := ((xx.trans xa).trans xb).trans xc
      have hg := crash_get asc9.2 ks (i : Int)
      have next : ∀ w' : World, Ext w144 w' → (∃ i' : Nat, IntKind.i64.wrap ((i : Int) + 1) = i' ∧ Ext w18 w') ∧ (n - IntKind.i64.wrap ((i : Int) + 1)).toNat < (n - (i : Int)).toNat := by
        intro w' hx
        rw [w64 (by omega)]
        exact ⟨⟨i + 1, by omega, x144.trans hx⟩, by omega⟩
      by_cases hcase : (i : Int) ∈ ks ∧ (get (i : Int) D.waits).isSome = true
      · rw [if_pos hcase] at hg
        rw [hg] at bc ⊢
        refine condB_of (fun _ => condB_of (fun _ => ?_) fun h => by simp [hcase.1] at h) fun h => by simp [hcase.2] at h
        refine (same_spec bc bb' (by omega)).mono ?_
        rintro e w148 ⟨rfl, q⟩
        refine ⟨_, rfl, condB_of (fun h => by simp [hcase.2] at h) fun _ => condB_of (fun h => by simp at h) fun _ => next _ q.ext⟩
      · rw [if_neg hcase] at hg
        rw [hg] at bc ⊢
        have tail : Calls Try.prog 15 #[.slice qc nc cc, .slice qa na ca] w144 fun e152 w151 => (∃ (b153 : Bool), e152 = .returned (.bool b153) ∧ (condB (!((get (i : Int) D.lasts).isSome == (get (i : Int) D.lasts).isSome))
            ((Value.bool false : Value) = .bool true ∧ Ext w w151) (condB (get (i : Int) D.lasts).isSome (condB (!b153) ((Value.bool false : Value) = .bool true ∧ Ext w w151)
              ((∃ i' : Nat, IntKind.i64.wrap ((i : Int) + 1) = i' ∧ Ext w18 w151) ∧ (n - IntKind.i64.wrap ((i : Int) + 1)).toNat < (n - (i : Int)).toNat))
              ((∃ i' : Nat, IntKind.i64.wrap ((i : Int) + 1) = i' ∧ Ext w18 w151) ∧ (n - IntKind.i64.wrap ((i : Int) + 1)).toNat < (n - (i : Int)).toNat)))) := by
          refine (same_spec bc ba' (by omega)).mono ?_
          rintro e w148 ⟨rfl, q⟩
          exact ⟨_, rfl, condB_of (fun h => by simp at h) fun _ => condB_of (fun _ => condB_of (fun h => by simp at h) fun _ => next _ q.ext) fun _ => next _ q.ext⟩
        exact condB_of (fun h1 => condB_of (fun h2 => absurd ⟨by simpa using h2, h1⟩ hcase) fun _ => tail) fun _ => tail
  · refine condB_of (fun _ => ?_) fun h => by cases h
    refine (d_waits (h18.ext x33)).mono ?_
    rintro e w157 ⟨p159, l159, c159, rfl, x157, h157, held⟩
    refine ⟨_, _, _, rfl, ?_, (y18.trans x33).trans x157⟩
    have : l159 = 0 := by rw [held.length]; rfl
    subst this
    rfl

set_option maxRecDepth 100000 in
theorem diskCrashes_lifted (os : Os) (started : os.Started) (H : Type) (enc : TypeId × Value → H) :
    ReturnsInHanded {} Try.checked os 8 .any (Rows.diskCrashesSpec.pre6 enc Try.prog Try.f8 Rows.diskCrashesRow.domain false) (Rows.diskCrashesSpec.post enc Try.prog Try.f8 false true false false) := by
  refine returnsInHanded_of_change (C := Try.checked) lawOwn started (by kernel_rfl) Try.func8
    (ChangeSpec.witness6 (enc := enc) (C := Try.checked) false ⟨#[], #[.int .i64 0, .slice none 0 0, .slice none 0 0], []⟩ 8 (by kernel_rfl) (by kernel_rfl) (by kernel_rfl) (by kernel_rfl)) ?_
  intro W base args ds gs before hval0 hW hcnd _
  have hval : ∀ (j : Nat) t v, Try.f8.params[j]? = some t → args[j]? = some v → Value.okWide Try.prog W .any base t v := hval0
  have hW' := hW
  obtain ⟨p, q, hA0, hV, rfl, hfz, hnd⟩ := hW
  have hA : DataW.TrodAll enc Try.prog W 0 (fun _ => true) true Try.f8.params.toList args.toList ds p := hA0
  rw [Try.params8] at hA hval
  obtain ⟨v0, vs0, d0, ds0, p0, q0, hargs, rfl, rfl, h0, r0⟩ := trodAll_cons hA
  obtain ⟨v1, vs1, d1, ds1, p1, q1, rfl, rfl, rfl, h1, r1⟩ := trodAll_cons r0
  obtain ⟨v2, vs2, d2, ds2, p2, q2, rfl, rfl, rfl, h2, r2⟩ := trodAll_cons r1
  obtain ⟨rfl, rfl, rfl⟩ := trodAll_nil r2
  obtain rfl : args = #[v0, v1, v2] := by cases args; simp_all
  obtain ⟨rfl, rfl⟩ := trodVars_none hV
  obtain ⟨n0, rfl, rfl, rfl, wn0⟩ := open_int Try.underlying3 (hval 0 3 v0 rfl rfl) h0
  obtain ⟨a1, l1, c1, L1, rfl, hL1⟩ := open_script (okWide_slice Try.underlying23 (hval 1 23 v1 rfl rfl)) h1
  obtain ⟨a2, l2, c2, ks2, rfl, hk2, _, _⟩ := open_is (okWide_slice Try.underlying34 (hval 2 34 v2 rfl rfl)) h2
  refine (diskCrashes_walk n0 hL1 hk2).mono fun e W' ⟨he, hg⟩ => ?_
  subst he
  exact ⟨_, rfl, post_true lawLaid rfl (by kernel_rfl) rfl Try.underlying4 hW' rfl hg.below⟩

/-- ████ THE STATEMENT ████ -/
theorem diskCrashes_holds : Rows.DiskCrashesSaid :=
  OpenClaim.holds_of_wide 8 Try.f8 rfl rfl rfl rfl rfl rfl rfl ⟨rfl, rfl, rfl, rfl, rfl⟩ rfl rfl rfl rfl rfl (by kernel_rfl) Try.func8 (by kernel_rfl)
    (of_decide_eq_true (by kernel_rfl)) (by unfold Func.isWrapper; first | (rw [if_pos (by decide +kernel)]; kernel_rfl) | (rw [if_neg (by decide +kernel)]; exact ⟨rfl, rfl⟩))
    (fun os started H enc _ => diskCrashes_lifted os started H enc)
end Go.Proofs.Yteglkbmpeelfgaa
