/- VoteKnows returns true, whatever the script and what is known. No conditions. -/
import Derived.Test.YtphkmbkmjhbenaaV11
import Derived.Test.YtphkmbkmjhbenaaRows
namespace Go.Proofs.Ytphkmbkmjhbenaa
open Go Go.Vc Go.ChangeShapes Go.WideShapes Go.ChangeAt Go.RowKit

set_option maxHeartbeats 4000000 in
theorem voteKnows_walk (n1 : Int) {w : World} {p2 : Option Addr} {l2 c2 : Nat} {L : List CallA} (hL : CallsAAt w p2 l2 L) {p3 : Option Addr} {l3 c3 : Nat} {ks : List Bool} (hks : BoolsAt w p3 l3 ks) (n4 : Int) :
    Calls Try.prog 5 #[.int .i64 n1, .slice p2 l2 c2, .slice p3 l3 c3, .int .i64 n4] w fun e w' => e = .returned (.bool true) ∧ Ext w w' := by
  generalize hs : doneA (begA n1.toNat 12) (L.take 50) = s
  refine (F5_calls n1 p2 l2 c2 p3 l3 c3 n4 w (fun v w' => v = .bool true ∧ Ext w w')
    (fun _ _ _ w43 b50 n51 w52 => ∃ i : Nat, n51 = i ∧ i ≤ s.M.length ∧ i ≤ l3 ∧ Ext w43 w52 ∧ b50 = wit ks ((saysM n4 s.M).take i)) (fun _ _ _ _ _ n51 _ => 100 - n51.toNat) ?_).mono (by rintro e w' ⟨v, rfl, rfl, h⟩; exact ⟨rfl, h⟩)
  unfold F5
  refine (awake_spec w).mono ?_
  rintro e w5 ⟨rfl, x5⟩
  refine ⟨true, rfl, condB_f rfl (condB_of (fun _ => ⟨rfl, x5⟩) fun h1 => condB_of (fun _ => ⟨rfl, x5⟩) fun h2 => condB_of (fun _ => ⟨rfl, x5⟩) fun h3 => ?_)⟩
  simp only [decide_eq_false_iff_not] at h1 h2 h3
  refine (anew_good (n := n1) (s := 12) ⟨by omega, by omega⟩ ⟨by omega, by omega⟩ w5).mono ?_
  rintro e w8 ⟨a, F, rfl, x8, h8, hF⟩
  have y8 := x5.trans x8
  replace hF : ∀ x, F x → w.heap.size ≤ x := fun x hx => Nat.le_trans x5.size (hF x hx)
  refine ⟨_, _, rfl, condB_f rfl ?_⟩
  have hA8 : IsA w8 a (begA n1.toNat 12) F := h8
  refine (doneA_spec (w0 := w) hA8 (begA_ok (by omega)) y8 hF (hL.two y8) (fun ap hap hne hf => by have := calls_block hL hap hne; have := hF _ hf; omega)).mono ?_
  rintro e w12 ⟨rfl, F12, s12, h12, ho12⟩
  rw [hs] at h12 ho12
  have hlen : s.M.length = n1.toNat := by rw [← hs, doneA_len]; simp [begA]
  obtain ⟨y12, hF12⟩ := ext_stepA y8 s12 hF
  refine ⟨rfl, ?_⟩
  have h12a : IsArr w12 a s.M s.left s.down F12 := h12
  have hM : s.M.length ≤ 100 := by omega
  have hM1 : 1 ≤ s.M.length := by omega
  cases hdn : s.down with
  | true =>
    rw [hdn] at h12a
    refine (vread_down h12a hM hM1 none 0 0 n4).mono ?_
    rintro e w14 ⟨rfl, x14⟩
    refine ⟨_, _, _, _, _, _, _, _, rfl, vote_cells fun k22 w28 _ r22 x28 => ?_⟩
    have h28 := IsArr.ext (IsArr.ext h12a x14) x28
    refine (vread_down h28 hM hM1 p3 l3 c3 n4).mono ?_
    rintro e w29 ⟨rfl, x29⟩
    refine ⟨_, _, _, _, _, _, _, _, rfl, vote_cells fun k37 w43 _ r37 x43 => ?_⟩
    refine condB_f rfl (condB_t rfl ?_)
    refine (adown_spec (IsArr.ext (IsArr.ext h28 x29) x43)).mono ?_
    rintro e w44 ⟨rfl, rfl⟩
    exact ⟨_, rfl, rfl, (((y12.trans x14).trans x28).trans x29).trans x43⟩
  | false =>
    rw [hdn] at h12a
    refine (vread_spec h12a hM hM1 (BoolsAt.none w12 none) n4).mono ?_
    rintro e w14 ⟨x14, v, b, c, kd, cc, rfl, td⟩
    obtain ⟨hb, rfl, hkd, hdat⟩ := td
    have hw0 : wit [] (saysM n4 s.M) = false := by simp [wit]
    rw [hw0]
    refine ⟨_, _, _, _, _, _, _, _, rfl, vote_cells fun k22 w28 hk22 r22 x28 => ?_⟩
    have h28 := IsArr.ext (IsArr.ext h12a x14) x28
    have y28 := (y12.trans x14).trans x28
    refine (vread_spec h28 hM hM1 (hks.ext y28) n4).mono ?_
    rintro e w29 ⟨x29, v, b', c', kd', cc', rfl, td⟩
    obtain ⟨hb', rfl, hkd', hdat'⟩ := td
    obtain ⟨rfl, rfl⟩ := hb.unique hb'
    refine ⟨_, _, _, _, _, _, _, _, rfl, vote_cells fun k37 w43 hk37 r37 x43 => ?_⟩
    have h43 := IsArr.ext (IsArr.ext h28 x29) x43
    have y43 := (y28.trans x29).trans x43
    refine condB_f rfl (condB_f rfl ⟨⟨0, rfl, Nat.zero_le _, Nat.zero_le _, Upd.refl _ _, by simp [wit]⟩, ?_⟩)
    rintro b50 n51 w52 ⟨i, rfl, hi, hi3, x52, rfl⟩
    intros
    have hls : (saysM n4 s.M).length = s.M.length := by simp [saysM]
    have fin : wit ks ((saysM n4 s.M).take i) = wit ks (saysM n4 s.M) → F5_A0 w52 k37 k22 (wit ks ((saysM n4 s.M).take i)) (fun v w' => v = .bool true ∧ Ext w w') (fun _ _ _ w43 b50 n51 w52 => ∃ i : Nat, n51 = i ∧ i ≤ s.M.length ∧ i ≤ l3 ∧ Ext w43 w52 ∧ b50 = wit ks ((saysM n4 s.M).take i)) (fun _ _ _ _ _ n51 _ => 100 - n51.toNat) := by
      intro hw
      rw [hw]
      have y52 := y43.trans x52
      have r37' : RowW w52 k37 _ := x52.rowW r37 id
      have r22' : RowW w52 k22 _ := (((x29.trans x43).trans x52)).rowW r22 id
      refine ⟨_, r37'.row.cell rfl, _, r22'.row.cell rfl, r37'.live (by simp), fun w116 s116 => ?_⟩
      have r37b := s116.row r37'
      have u116 := s116.upd
      rw [add_block] at u116
      have z29 := x29.size
      have z14 := x14.size
      have z28 := x28.size
      have l22 := r22.lt
      have ldat := hdat'.lt
      have r22b : RowW w116 k22 _ := u116.rowW r22' (by show ¬ k22 = k37; omega)
      have x116 : Ext w w116 := setc_new y52 (by have := y28.size; omega) s116
      have hd0 : BytesAt w116 (some (at0 kd)) b.2.length b.2 := (hdat.ext (((x28.trans x29).trans x43).trans x52)).upd u116 fun a ha hne => by
        obtain ⟨a', ha', hlt⟩ := hdat.lt hne
        cases ha
        cases ha'
        show ¬ kd = k37
        have : kd < w14.heap.size := hlt
        omega
      have hd1 : BytesAt w116 (some (at0 kd')) b.2.length b.2 := (hdat'.ext (x43.trans x52)).upd u116 fun a ha hne => by
        obtain ⟨a', ha', hlt⟩ := hdat'.lt hne
        cases ha
        cases ha'
        show ¬ kd' = k37
        have : kd' < w29.heap.size := hlt
        omega
      have e22 : (at0 k22) = (at0 k22).add 0 := (add_at0 k22 0).symm
      have e37 : (at0 k37) = (at0 k37).add 0 := (add_at0 k37 0).symm
      refine ⟨_, by rw [e22]; exact r22b.row.cell rfl, _, r22b.row.cell rfl, _, _, _, r22b.row.cell rfl, _, r22b.row.cell rfl, _, r22b.row.cell rfl, _, by rw [e37]; exact r37b.row.cell rfl, _, r37b.row.cell rfl, _, _, _, r37b.row.cell rfl, _, r37b.row.cell rfl, _, r37b.row.cell rfl, ?_⟩
      have hbl : b.2.length ≤ 4611686018427387904 := by
        rcases hb with ⟨_, rfl, _⟩ | ⟨hm, _⟩
        · simp
        · have := (say_bound hm).2.2; omega
      refine (vsame_spec hd0 hd1 hbl).mono ?_
      rintro e w127 ⟨rfl, x127⟩
      have r22c : RowW w127 k22 _ := x127.rowW r22b id
      exact ⟨_, rfl, condB_t rfl (condB_t (by simp) ⟨_, r22c.row.cell rfl, rfl, x116.trans x127⟩)⟩
    refine condB_of (fun hlt => ?_) (fun hge => ?_)
    · simp only [decide_eq_true_eq] at hlt
      refine condB_of (fun hlt3 => ?_) (fun hge3 => ?_)
      · simp only [decide_eq_true_eq] at hlt3
        obtain ⟨m, hm⟩ : ∃ m, s.M[i]? = some m := ⟨s.M[i]'(by omega), List.getElem?_eq_getElem _⟩
        have hsI : (saysM n4 s.M)[i]? = some (saidOf n4 m) := by simp [saysM, hm]
        have hstep := wit_step (ks := ks) hsI
        refine read_unpack (IsArr.ext h43 x52) hm n4 ?_
        rintro e w103 x103 ⟨p, l, c5, rfl, rfl, hun⟩
        refine ⟨_, _, _, _, rfl, hun.mono ?_⟩
        rintro e w107 ⟨v, rfl, x107, hv⟩
        have hwr : IntKind.i64.wrap ((i : Int) + 1) = ((i + 1 : Nat) : Int) := by rw [w64 (by omega)]; omega
        have mu : 100 - (((i + 1 : Nat) : Int)).toNat < 100 - ((i : Int)).toNat := by omega
        have x52' := (x52.trans x103).trans x107
        obtain ⟨ak, hak, hck⟩ := (hks.ext (y43.trans x52')).get (i := i) (by omega)
        have go : ∀ bb, bb = wit ks ((saysM n4 s.M).take (i + 1)) → (∃ i_1 : Nat, ((i + 1 : Nat) : Int) = i_1 ∧ i_1 ≤ s.M.length ∧ i_1 ≤ l3 ∧ Ext w43 w107 ∧ bb = wit ks ((saysM n4 s.M).take i_1)) ∧ 100 - (((i + 1 : Nat) : Int)).toNat < 100 - ((i : Int)).toNat :=
          fun bb hbb => ⟨⟨i + 1, rfl, by omega, by omega, x52', hbb⟩, mu⟩
        rw [hwr]
        subst hak
        cases hu : unpackM n4 (readA n4 m) with
        | none =>
          rw [hu] at hv
          subst hv
          have hsd := said_none hu
          refine ⟨_, _, _, _, _, rfl, condB_of (fun hb1 => go _ (by rw [hstep, hb1]; rfl)) fun hb1 => ⟨⟨by omega, hlt3⟩, _, hck, condB_of (fun hb2 => ?_) (fun hb2 => go _ ?_)⟩⟩
          · refine condB_of (fun hz => ?_) (fun hz => go _ ?_)
            · refine condB_f rfl (go _ ?_)
              rw [hstep, hb1, hsd]
              simp only [decide_eq_true_eq] at hz
              show decide _ = (false || (ks.getD i false && (false || decide _)))
              rw [hb2, Bool.false_or, Bool.true_and, Bool.false_or, decide_eq_decide]
              exact ⟨fun h => ⟨hz, List.eq_nil_of_length_eq_zero (by omega)⟩, fun h => by rw [h.2]; rfl⟩
            · rw [hstep, hb1, hsd]
              simp only [decide_eq_false_iff_not] at hz
              show false = (false || (ks.getD i false && (false || decide _)))
              rw [decide_eq_false (fun h => hz h.1)]
              simp
          · rw [hstep, hb1]
            show false = (false || (ks.getD i false && _))
            rw [hb2]; rfl
        | some ed =>
          obtain ⟨ee, dd⟩ := ed
          rw [hu] at hv
          obtain ⟨p', c', rfl, _⟩ := hv
          obtain ⟨hsd, hz0, hne⟩ := said_some hu
          refine ⟨_, _, _, _, _, rfl, condB_of (fun hb1 => go _ (by rw [hstep, hb1]; rfl)) fun hb1 => ⟨⟨by omega, hlt3⟩, _, hck, condB_of (fun hb2 => ?_) (fun hb2 => go _ ?_)⟩⟩
          · refine condB_t (decide_eq_true hz0) (condB_t rfl (go _ ?_))
            rw [hstep, hb1, hsd]
            show true = (false || (ks.getD i false && (true || false)))
            rw [hb2]; rfl
          · rw [hstep, hb1]
            show false = (false || (ks.getD i false && _))
            rw [hb2]; rfl
      · simp only [decide_eq_false_iff_not] at hge3
        exact fin (wit_full (by have := hks.1; omega))
    · simp only [decide_eq_false_iff_not] at hge
      exact fin (by rw [List.take_of_length_le (by omega)])
set_option maxRecDepth 100000 in
theorem voteKnows_lifted (os : Os) (started : os.Started) (H : Type) (enc : TypeId × Value → H) :
    ReturnsInHanded {} Try.checked os 5 .any (Rows.voteKnowsSpec.pre6 enc Try.prog Try.f5 Rows.voteKnowsRow.domain false) (Rows.voteKnowsSpec.post enc Try.prog Try.f5 false true false false) := by
  refine returnsInHanded_of_change (C := Try.checked) lawOwn started (by kernel_rfl) Try.func5
    (ChangeSpec.witness6 (enc := enc) (C := Try.checked) false ⟨#[], #[.int .i64 0, .slice none 0 0, .slice none 0 0, .int .i64 0], []⟩ 8 (by kernel_rfl) (by kernel_rfl) (by kernel_rfl) (by kernel_rfl)) ?_
  intro W base args ds gs before hval0 hW hcnd _
  have hval : ∀ (j : Nat) t v, Try.f5.params[j]? = some t → args[j]? = some v → Value.okWide Try.prog W .any base t v := hval0
  have hW' := hW
  obtain ⟨p, q, hA0, hV, rfl, hfz, hnd⟩ := hW
  have hA : DataW.TrodAll enc Try.prog W 0 (fun _ => true) true Try.f5.params.toList args.toList ds p := hA0
  rw [Try.params5] at hA hval
  obtain ⟨v0, vs0, d0, ds0, p0, q0, hargs, rfl, rfl, h0, r0⟩ := trodAll_cons hA
  obtain ⟨v1, vs1, d1, ds1, p1, q1, rfl, rfl, rfl, h1, r1⟩ := trodAll_cons r0
  obtain ⟨v2, vs2, d2, ds2, p2, q2, rfl, rfl, rfl, h2, r2⟩ := trodAll_cons r1
  obtain ⟨v3, vs3, d3, ds3, p3, q3, rfl, rfl, rfl, h3, r3⟩ := trodAll_cons r2
  obtain ⟨rfl, rfl, rfl⟩ := trodAll_nil r3
  obtain rfl : args = #[v0, v1, v2, v3] := by cases args; simp_all
  obtain ⟨rfl, rfl⟩ := trodVars_none hV
  obtain ⟨n0, rfl, rfl, rfl, wn0⟩ := open_int Try.underlying3 (hval 0 3 v0 rfl rfl) h0
  obtain ⟨a1, l1, c1, L1, rfl, hL1⟩ := open_script (okWide_slice Try.underlying45 (hval 1 45 v1 rfl rfl)) h1
  obtain ⟨a2, l2, c2, ks2, rfl, hk2⟩ := open_bools (okWide_slice Try.underlying37 (hval 2 37 v2 rfl rfl)) h2
  obtain ⟨n3, rfl, rfl, rfl, wn3⟩ := open_int Try.underlying3 (hval 3 3 v3 rfl rfl) h3
  refine (voteKnows_walk n0 hL1 hk2 n3).mono fun e W' ⟨he, hg⟩ => ?_
  subst he
  exact ⟨_, rfl, post_true lawLaid rfl (by kernel_rfl) rfl Try.underlying4 hW' rfl hg.below⟩

/-- ████ THE STATEMENT ████ -/
theorem voteKnows_holds : Rows.VoteKnowsSaid :=
  OpenClaim.holds_of_wide 5 Try.f5 rfl rfl rfl rfl rfl rfl rfl ⟨rfl, rfl, rfl, rfl, rfl⟩ rfl rfl rfl rfl rfl (by kernel_rfl) Try.func5 (by kernel_rfl)
    (of_decide_eq_true (by kernel_rfl)) (by unfold Func.isWrapper; first | (rw [if_pos (by decide +kernel)]; kernel_rfl) | (rw [if_neg (by decide +kernel)]; exact ⟨rfl, rfl⟩))
    (fun os started H enc _ => voteKnows_lifted os started H enc)
end Go.Proofs.Ytphkmbkmjhbenaa
