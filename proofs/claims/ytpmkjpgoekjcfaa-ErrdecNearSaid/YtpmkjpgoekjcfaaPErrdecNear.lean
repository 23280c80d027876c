/- ErrdecNear returns true, whatever the word. No conditions. -/
import Derived.Test.YtpmkjpgoekjcfaaH22
import Derived.Test.YtpmkjpgoekjcfaaRows
namespace Go.Proofs.Ytpmkjpgoekjcfaa
open Go Go.Vc Go.Gf Go.ChangeShapes Go.WideShapes Go.ChangeAt Go.RowKit

set_option maxHeartbeats 4000000 in
theorem errdecNear_walk (n1 n2 : Int) {w : World} {p3 : Option Addr} {l3 c3 : Nat} {bs : List UInt8} (hb : BytesAt w p3 l3 bs) {p4 : Option Addr} {l4 c4 : Nat} {ms : List Bool} (hm : FlagsAt w p4 l4 ms) :
    Calls Try.prog 5 #[.int .i64 n1, .int .i64 n2, .slice p3 l3 c3, .slice p4 l4 c4] w fun e w' => e = .returned (.bool true) ∧ Ext w w' := by
  refine (F5_calls n1 n2 p3 l3 c3 p4 l4 c4 w (fun v w' => v = .bool true ∧ Ext w w')
    (fun _ _ _ _ _ _ _ _ _ w19 i w33 => 0 ≤ i ∧ i ≤ n2 ∧ Ext w19 w33) (fun _ _ _ _ _ _ _ _ _ _ i _ => (n2 - i).toNat)
    (fun p16 l16 c16 _ _ _ w33 p54 l54 c54 i w56 => 0 ≤ i ∧ i ≤ n1 + n2 ∧ Ext w33 w56 ∧ ∃ c, BytesAt w33 p16 l16 c ∧ OwnN w56 w33.heap.size p54 l54 c54 (dif i.toNat ms c bs)) (fun _ _ _ _ _ _ _ _ _ _ i _ => (n1 + n2 - i).toNat) ?_).mono (by rintro e w' ⟨v, rfl, rfl, h⟩; exact ⟨rfl, h⟩)
  have hbl := hb.1
  have hml := hm.1
  refine (awake_spec w).mono ?_
  rintro e w5 ⟨rfl, x5⟩
  refine ⟨_, rfl, (fnew_spec w5).mono ?_⟩
  rintro e w8 ⟨kf, rfl, x8, _, hf⟩
  refine ⟨_, rfl, condB_of (fun h => by cases h) fun _ => condB_of (fun h => by cases h) fun _ => (ccheck_spec n1 n2 w8).mono ?_⟩
  rintro e w11 ⟨rfl, rfl⟩
  have xw := x5.trans x8
  refine ⟨_, rfl, condB_of (fun h => ⟨rfl, xw⟩) fun hk0 => ?_⟩
  simp only [Bool.not_eq_false', decide_eq_true_eq] at hk0
  have hk : kmOk n1 n2 := Decidable.byContradiction fun h => by rw [kmE_bad h] at hk0; omega
  obtain ⟨a1, a2, a3, a4⟩ := hk
  have hk : kmOk n1 n2 := ⟨a1, a2, a3, a4⟩
  rw [w64 (n := n1 + n2) (by omega)]
  refine condB_of (fun h => ⟨rfl, xw⟩) fun _ => condB_of (fun h => ⟨rfl, xw⟩) fun h3 => condB_of (fun h => ⟨rfl, xw⟩) fun h4 => ?_
  simp only [Bool.not_eq_false', decide_eq_true_eq] at h3 h4
  refine (word_spec (c4 := c3) (c5 := c4) hf (hb.ext xw) (hm.ext xw) n1 n2).mono ?_
  rintro e w14 ⟨v, rfl, x14, ⟨h, _⟩ | ⟨_, h, _⟩ | ⟨_, _, _, ⟨_, rfl⟩ | ⟨c, hd, p1, c1, p2, m2, c2, rfl, oc, od⟩⟩⟩
  · exact (h hk).elim
  · exact (h ⟨h3, h4⟩).elim
  · refine ⟨_, _, _, _, _, _, _, rfl, condB_of (fun _ => ?_) (fun h => by simp at h)⟩
    refine condB_of (fun _ => ?_) (fun h => by simp at h)
    refine condB_of (fun _ => ⟨rfl, xw.trans x14⟩) (fun h => by simp at h)
  have hnear := decM_near hd
  have hkm : n1.toNat + n2.toNat = l4 := by omega
  have hl34 : l3 = l4 := by omega
  refine ⟨_, _, _, _, _, _, _, rfl, condB_of (fun h => by simp at h) fun _ => ?_⟩
  refine (synof_spec (hf.ext x14) (OwnB.bytes oc) (by omega) n1 n2).mono ?_
  rintro e w19 ⟨x19, ⟨h, _⟩ | ⟨_, h, _⟩ | ⟨_, _, pS, cS, S, rfl, oS, hS⟩⟩
  · exact (h hk).elim
  · exact (h h3).elim
  have lS := OwnB.len oS
  have hS0 : ∀ l, l < n2.toNat → co S l = 0 := fun l hl => by rw [hS l hl]; exact hnear.code.2 l hl
  have xw19 := (xw.trans x14).trans x19
  refine ⟨_, _, _, _, rfl, condB_of (fun h => by simp at h) fun _ => condB_of (fun h => by simp only [Bool.not_eq_true', decide_eq_false_iff_not] at h; omega) fun _ => ?_⟩
  refine ⟨⟨by omega, by omega, Upd.refl _ _⟩, ?_⟩
  rintro i w33 ⟨hi0, hi1, hx33⟩
  intros
  refine condB_of (fun hs => ?_) (fun hs => ?_)
  · simp only [decide_eq_true_eq] at hs
    obtain ⟨a, rfl, ha⟩ := BytesAt.co ((OwnB.bytes oS).ext hx33) (i := i.toNat) (by omega)
    rw [hS0 _ (by omega)] at ha
    refine ⟨⟨hi0, hs⟩, _, by rw [Nat.mul_one]; exact ha, condB_of (fun h => by simp at h) fun _ => ?_⟩
    rw [w64 (n := i + 1) (by omega)]
    exact ⟨⟨by omega, by omega, hx33⟩, by show (n2 - (i + 1)).toNat < (n2 - i).toNat; omega⟩
  · simp only [decide_eq_false_iff_not] at hs
    have oc33 := OwnB.ext (OwnB.ext oc x19) hx33
    refine ⟨⟨by omega, by omega, Upd.refl _ _, c, OwnB.bytes oc33, OwnS.nil _ _ _ _⟩, ?_⟩
    rintro p54 l54 c54 j w56 ⟨hj0, hj1, hx56, c', hc', od'⟩
    obtain rfl : c' = c := co_ext (by have := hc'.1; have := OwnB.len oc33; omega) fun t ht => by
      have h1 := hc'.1
      obtain ⟨a, ha, e1⟩ := BytesAt.co hc' (i := t) (by omega)
      obtain ⟨a', ha', e2⟩ := BytesAt.co (OwnB.bytes oc33) (i := t) (by omega)
      rw [ha] at ha'
      cases ha'
      rw [e1] at e2
      simp only [Option.some.injEq, Value.int.injEq, true_and] at e2
      exact vb_inj.1 e2
    intros
    have xw56 := (xw19.trans hx33).trans hx56
    have hdl : (dif j.toNat ms c' bs).length ≤ j.toNat := dif_len_le
    refine condB_of (fun hs2 => ?_) (fun hs2 => ?_)
    · simp only [decide_eq_true_eq] at hs2
      intro w84 hd84
      have x84 := xw56.trans hd84.ext
      have hx84 := hx56.trans hd84.ext
      obtain ⟨a, rfl, ha⟩ := (hm.ext x84).get (i := j.toNat) (by omega)
      obtain ⟨b, rfl, hbv⟩ := BytesAt.co (hc'.ext hx84) (i := j.toNat) (by omega)
      obtain ⟨d, rfl, hdv⟩ := BytesAt.co (hb.ext x84) (i := j.toNat) (by omega)
      rw [w64 (n := j + 1) (by omega)]
      have hnx : (j + 1).toNat = j.toNat + 1 := by omega
      have hmeas : (n1 + n2 - (j + 1)).toNat < (n1 + n2 - j).toNat := by omega
      refine ⟨⟨hj0, by omega⟩, _, by rw [Nat.mul_one]; exact ha, condB_of (fun hms => ?_) (fun hms => ?_)⟩
      · have hms' : ms.getD j.toNat false = false := by simpa using hms
        refine ⟨⟨hj0, by omega⟩, _, by rw [Nat.mul_one]; exact hbv, ⟨hj0, by omega⟩, _, by rw [Nat.mul_one]; exact hdv, condB_of (fun hne => ?_) (fun hne => ?_)⟩
        · simp only [Bool.not_eq_true', decide_eq_false_iff_not, vb_inj] at hne
          intro k91 w92 h92
          rw [show j = ((j.toNat : Nat) : Int) by omega] at h92
          obtain ⟨p', c'', w93, hr, ho, hu⟩ := OwnN.push (OwnS.ext od' hd84.ext) h92 hx84.size (by have := OwnN.len od'; omega)
          refine ⟨_, _, _, w93, hr, ⟨by omega, by omega, OwnB.new_ext hx84 hu fun y hy => OwnS.blk od' hy, c', hc', ?_⟩, hmeas⟩
          rw [hnx, dif_succ, hms', decide_eq_true hne]
          exact ho
        · simp only [Bool.not_eq_false', decide_eq_true_eq, vb_inj] at hne
          refine ⟨⟨by omega, by omega, hx84, c', hc', ?_⟩, hmeas⟩
          rw [hnx, dif_succ, hne]
          simpa using OwnS.ext od' hd84.ext
      · have hms' : ms.getD j.toNat false = true := by simpa using hms
        refine ⟨⟨by omega, by omega, hx84, c', hc', ?_⟩, hmeas⟩
        rw [hnx, dif_succ, hms']
        simpa using OwnS.ext od' hd84.ext
    · simp only [decide_eq_false_iff_not] at hs2
      have e1 : dif j.toNat ms c' bs = dif (n1.toNat + n2.toNat) ms c' bs := by rw [show j.toNat = n1.toNat + n2.toNat by omega]
      rw [e1] at od'
      have od56 := OwnS.ext (OwnS.ext (OwnS.ext od x19) hx33) hx56
      have ln := OwnN.len od
      refine (ints_spec (c1 := c2) (c2 := c54) (OwnN.nats od56) (OwnN.nats od') (by have : (dif (n1.toNat + n2.toNat) ms c' bs).length ≤ n1.toNat + n2.toNat := dif_len_le; omega)).mono ?_
      rintro e w95 ⟨rfl, x95⟩
      refine ⟨_, rfl, condB_of (fun _ => ?_) (fun h => by simp at h)⟩
      refine (count_spec (c := c4) (hm.ext (xw56.trans x95)) (by omega)).mono ?_
      rintro e w98 ⟨rfl, rfl⟩
      have hfew := hnear.few
      rw [hkm] at hfew ln
      refine ⟨_, rfl, ?_, xw56.trans x95⟩
      have hml2 := mis_le l4 ms
      have hdl2 : (dif l4 ms c' bs).length ≤ l4 := dif_len_le
      rw [w64 (n := 2 * (m2 : Int)) (by omega), w64 (by omega)]
      congr 1
      rw [decide_eq_true_eq]
      omega
set_option maxRecDepth 100000 in
theorem errdecNear_lifted (os : Os) (started : os.Started) (H : Type) (enc : TypeId × Value → H) :
    ReturnsInHanded {} Try.checked os 5 .any (Rows.errdecNearSpec.pre6 enc Try.prog Try.f5 Rows.errdecNearRow.domain false) (Rows.errdecNearSpec.post enc Try.prog Try.f5 false true false false) := by
  refine returnsInHanded_of_change (C := Try.checked) lawOwn started (by kernel_rfl) Try.func5
    (ChangeSpec.witness6 (enc := enc) (C := Try.checked) false ⟨#[], #[.int .i64 0, .int .i64 0, .slice none 0 0, .slice none 0 0], []⟩ 8 (by kernel_rfl) (by kernel_rfl) (by kernel_rfl) (by kernel_rfl)) ?_
  intro W base args ds gs before hval0 hW hcnd _
  have hval : ∀ (j : Nat) t v, Try.f5.params[j]? = some t → args[j]? = some v → Value.okWide Try.prog W .any base t v := hval0
  have hW' := hW
  obtain ⟨p, q, hA0, hV, rfl, hfz, hnd⟩ := hW
  have hA : DataW.TrodAll enc Try.prog W 0 (fun _ => true) true Try.f5.params.toList args.toList ds p := hA0
  rw [Try.params5] at hA hval
  obtain ⟨v0, vs0, d0, ds0, p0, q0, hargs, rfl, rfl, h0, r0⟩ := trodAll_cons hA
  obtain ⟨v1, vs1, d1, ds1, p1, q1, rfl, rfl, rfl, h1, r1⟩ := trodAll_cons r0
  obtain ⟨v2, vs2, d2, ds2, p2, q2, rfl, rfl, rfl, h2, r2⟩ := trodAll_cons r1
  obtain ⟨v3, vs3, d3, ds3, p3, q3, rfl, rfl, rfl, h3, r3⟩ := trodAll_cons r2
  obtain ⟨rfl, rfl, rfl⟩ := trodAll_nil r3
  obtain rfl : args = #[v0, v1, v2, v3] := by cases args; simp_all
  obtain ⟨rfl, rfl⟩ := trodVars_none hV
  obtain ⟨n0, rfl, rfl, rfl, wn0⟩ := open_int Try.underlying3 (hval 0 3 v0 rfl rfl) h0
  obtain ⟨n1, rfl, rfl, rfl, wn1⟩ := open_int Try.underlying3 (hval 1 3 v1 rfl rfl) h1
  obtain ⟨a2, l2, c2, bs2, rfl, hb2, _, _⟩ := open_by (okWide_slice Try.underlying22 (hval 2 22 v2 rfl rfl)) h2
  obtain ⟨a3, l3, c3, ks3, rfl, hk3, _, _⟩ := open_flags (okWide_slice Try.underlying23 (hval 3 23 v3 rfl rfl)) h3
  refine (errdecNear_walk n0 n1 hb2 hk3).mono fun e W' ⟨he, hg⟩ => ?_
  subst he
  exact ⟨_, rfl, post_true lawLaid rfl (by kernel_rfl) rfl Try.underlying4 hW' rfl hg.below⟩

/-- ████ THE STATEMENT ████ -/
theorem errdecNear_holds : Rows.ErrdecNearSaid :=
  OpenClaim.holds_of_wide 5 Try.f5 rfl rfl rfl rfl rfl rfl rfl ⟨rfl, rfl, rfl, rfl, rfl⟩ rfl rfl rfl rfl rfl (by kernel_rfl) Try.func5 (by kernel_rfl)
    (of_decide_eq_true (by kernel_rfl)) (by unfold Func.isWrapper; first | (rw [if_pos (by decide +kernel)]; kernel_rfl) | (rw [if_neg (by decide +kernel)]; exact ⟨rfl, rfl⟩))
    (fun os started H enc _ => errdecNear_lifted os started H enc)
end Go.Proofs.Ytpmkjpgoekjcfaa
