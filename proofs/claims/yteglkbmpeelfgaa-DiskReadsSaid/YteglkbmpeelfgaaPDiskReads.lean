/- DiskReads returns true, whatever the script, the place and the bytes. No conditions. -/
import Derived.Test.YteglkbmpeelfgaaL4
import Derived.Test.YteglkbmpeelfgaaRows
namespace Go.Proofs.Yteglkbmpeelfgaa
open Go Go.Vc Go.ChangeShapes Go.WideShapes Go.ChangeAt Go.RowKit

set_option maxHeartbeats 2000000 in
theorem diskReads_walk {w : World} (n : Int) {p : Option Addr} {l c : Nat} {L : List CallR} (hL : CallsAt w p l L) (k : Int) {p4 : Option Addr} {l4 c4 : Nat} {bs : List UInt8} (hb : BytesAt w p4 l4 bs) (o : Int) :
    Calls Try.prog 4 #[.int .i64 n, .slice p l c, .int .i64 k, .slice p4 l4 c4, .int .i64 o] w fun e w' => e = .returned (.bool true) ∧ Ext w w' := by
  refine (F4_calls n p l c k p4 l4 c4 o w (fun v w' => v = .bool true ∧ Ext w w') ?_).mono (by rintro e w' ⟨v, rfl, rfl, h⟩; exact ⟨rfl, h⟩)
  refine (awake_spec w).mono ?_
  rintro e w6 ⟨rfl, x6⟩
  refine ⟨true, rfl, ?_⟩
  refine (done_spec (n := n) (hL.ext x6)).mono ?_
  rintro e w9 ⟨x9, ⟨hbad, rfl⟩ | ⟨hn, b, F, rfl, h9, hF⟩⟩
  · exact ⟨none, rfl, condB_of (fun _ => ⟨rfl, x6.trans x9⟩) fun h => by simp at h⟩
  have y9 := x6.trans x9
  replace hF : ∀ x, F x → w.heap.size ≤ x := fun x hx => Nat.le_trans x6.size (hF x hx)
  generalize doneD ⟨n, [], [], false⟩ (L.take 60) = D at h9
  refine ⟨some (at0 b), rfl, condB_of (fun h => by simp at h) fun _ => condB_of (fun _ => ⟨rfl, y9⟩) fun hl4 => ?_⟩
  simp only [decide_eq_false_iff_not] at hl4
  have hl := hb.1
  refine (d_read h9 o).mono ?_
  rintro e w12 ⟨x12, h12, p14, l14, c14, bs14, rfl, e14, l14e, own14, m14⟩
  refine ⟨_, _, _, _, rfl, ?_⟩
  have y12 := y9.trans x12
  refine (d_write h12 k (hb.ext y12)).mono ?_
  rintro e w16 ⟨F', rfl, s16, h16⟩
  refine ⟨_, rfl, ?_⟩
  obtain ⟨y16, hF'⟩ := ext_step y12 s16 hF
  refine (d_read h16 o).mono ?_
  rintro e w19 ⟨x19, h19, p21, l21, c21, bs21, rfl, e21, l21e, own21, m21⟩
  refine ⟨_, _, _, _, rfl, ?_⟩
  refine (d_read h19 k).mono ?_
  rintro e w23 ⟨x23, h23, p25, l25, c25, bs25, rfl, e25, l25e, own25, m25⟩
  refine ⟨_, _, _, _, rfl, ?_⟩
  have y23 := (y16.trans x19).trans x23
  have b14 : BytesAt w23 p14 l14 bs14 := by
    have := BytesAt.of_cells (ownS_step own14 ((s16.trans (Step.ext x19)).trans (Step.ext x23)) h9.lt).cells
    rw [← l14e] at this
    exact this
  have b21 : BytesAt w23 p21 l21 bs21 := by
    have := BytesAt.of_cells (own21.ext x23).cells
    rw [← l21e] at this
    exact this
  have b25 : BytesAt w23 p25 l25 bs25 := by
    have := BytesAt.of_cells own25.cells
    rw [← l25e] at this
    exact this
  rw [dead_write, sectors_write] at e21 e25
  by_cases hz : writeZ D k bs.length = 0
  · refine condB_of (fun h => by simp [hz] at h) fun _ => ?_
    have hfk : faultZ D.dead D.sectors k = 0 := by
      unfold writeZ at hz
      split at hz
      · exact hz
      · rename_i h; simpa using h
    have hx : bs25 = bs := by rw [e25, if_pos hfk, read_write_same hz]
    refine (same_spec b25 (hb.ext y23) (by omega)).mono ?_
    rintro e w33 ⟨rfl, q33⟩
    refine ⟨_, rfl, ?_⟩
    refine (same_spec (b14.ext q33.ext) (b21.ext q33.ext) (by omega)).mono ?_
    rintro e w36 ⟨rfl, q36⟩
    have yend := (y23.trans q33.ext).trans q36.ext
    refine ⟨_, rfl, condB_of (fun _ => condB_of (fun _ => condB_of (fun _ => condB_of (fun _ => ⟨rfl, yend⟩) fun ho => condB_of (fun _ => ⟨?_, yend⟩) fun h => ?_) fun h => ?_) fun h => ?_) fun h => by cases h⟩
    · simp [dead_write, sectors_write]
    · exfalso
      simp only [decide_eq_false_iff_not] at h ho
      apply h
      rw [e14, e21, read_write_other ho]
    · exfalso
      simp only [decide_eq_false_iff_not] at h
      exact h (by rw [dead_write, sectors_write]; exact hfk)
    · exfalso
      simp only [decide_eq_false_iff_not] at h
      exact h hx
  · refine condB_of (fun _ => ?_) fun h => by simp [hz] at h
    have hw := write_no hz
    refine (same_spec b14 b21 (by omega)).mono ?_
    rintro e w27 ⟨rfl, q27⟩
    refine ⟨_, rfl, condB_of (fun _ => condB_of (fun _ => condB_of (fun _ => ?_) fun h => ?_) fun h => ?_) fun h => by cases h⟩
    · refine (d_dead (h23.ext q27.ext)).mono ?_
      rintro e w30 ⟨rfl, rfl⟩
      refine ⟨_, rfl, ?_, y23.trans q27.ext⟩
      rw [dead_write]
      have := writeZ_dead (D := D) (k := k) (n := bs.length)
      by_cases hd : D.dead = true
      · simp [this.2 hd, hd]
      · have h1 : ¬ writeZ D k bs.length = 120 := fun e => hd (this.1 e)
        simp [h1, hd]
    · exfalso
      simp only [decide_eq_false_iff_not] at h
      apply h
      rw [dead_write, sectors_write]
    · exfalso
      simp only [decide_eq_false_iff_not] at h
      apply h
      rw [e14, e21, hw]

set_option maxRecDepth 100000 in
theorem diskReads_lifted (os : Os) (started : os.Started) (H : Type) (enc : TypeId × Value → H) :
    ReturnsInHanded {} Try.checked os 4 .any (Rows.diskReadsSpec.pre6 enc Try.prog Try.f4 Rows.diskReadsRow.domain false) (Rows.diskReadsSpec.post enc Try.prog Try.f4 false true false false) := by
  refine returnsInHanded_of_change (C := Try.checked) lawOwn started (by kernel_rfl) Try.func4
    (ChangeSpec.witness6 (enc := enc) (C := Try.checked) false ⟨#[], #[.int .i64 0, .slice none 0 0, .int .i64 0, .slice none 0 0, .int .i64 0], []⟩ 8 (by kernel_rfl) (by kernel_rfl) (by kernel_rfl) (by kernel_rfl)) ?_
  intro W base args ds gs before hval0 hW hcnd _
  have hval : ∀ (j : Nat) t v, Try.f4.params[j]? = some t → args[j]? = some v → Value.okWide Try.prog W .any base t v := hval0
  have hW' := hW
  obtain ⟨p, q, hA0, hV, rfl, hfz, hnd⟩ := hW
  have hA : DataW.TrodAll enc Try.prog W 0 (fun _ => true) true Try.f4.params.toList args.toList ds p := hA0
  rw [Try.params4] at hA hval
  obtain ⟨v0, vs0, d0, ds0, p0, q0, hargs, rfl, rfl, h0, r0⟩ := trodAll_cons hA
  obtain ⟨v1, vs1, d1, ds1, p1, q1, rfl, rfl, rfl, h1, r1⟩ := trodAll_cons r0
  obtain ⟨v2, vs2, d2, ds2, p2, q2, rfl, rfl, rfl, h2, r2⟩ := trodAll_cons r1
  obtain ⟨v3, vs3, d3, ds3, p3, q3, rfl, rfl, rfl, h3, r3⟩ := trodAll_cons r2
  obtain ⟨v4, vs4, d4, ds4, p4, q4, rfl, rfl, rfl, h4, r4⟩ := trodAll_cons r3
  obtain ⟨rfl, rfl, rfl⟩ := trodAll_nil r4
  obtain rfl : args = #[v0, v1, v2, v3, v4] := by cases args; simp_all
  obtain ⟨rfl, rfl⟩ := trodVars_none hV
  obtain ⟨n0, rfl, rfl, rfl, wn0⟩ := open_int Try.underlying3 (hval 0 3 v0 rfl rfl) h0
  obtain ⟨a1, l1, c1, L1, rfl, hL1⟩ := open_script (okWide_slice Try.underlying23 (hval 1 23 v1 rfl rfl)) h1
  obtain ⟨n2, rfl, rfl, rfl, wn2⟩ := open_int Try.underlying3 (hval 2 3 v2 rfl rfl) h2
  obtain ⟨a3, l3, c3, bs3, rfl, hb3, _, _, _⟩ := open_bs (okWide_slice Try.underlying24 (hval 3 24 v3 rfl rfl)) h3
  obtain ⟨n4, rfl, rfl, rfl, wn4⟩ := open_int Try.underlying3 (hval 4 3 v4 rfl rfl) h4
  refine (diskReads_walk n0 hL1 n2 hb3 n4).mono fun e W' ⟨he, hg⟩ => ?_
  subst he
  exact ⟨_, rfl, post_true lawLaid rfl (by kernel_rfl) rfl Try.underlying4 hW' rfl hg.below⟩

/-- ████ THE STATEMENT ████ -/
theorem diskReads_holds : Rows.DiskReadsSaid :=
  OpenClaim.holds_of_wide 4 Try.f4 rfl rfl rfl rfl rfl rfl rfl ⟨rfl, rfl, rfl, rfl, rfl⟩ rfl rfl rfl rfl rfl (by kernel_rfl) Try.func4 (by kernel_rfl)
    (of_decide_eq_true (by kernel_rfl)) (by unfold Func.isWrapper; first | (rw [if_pos (by decide +kernel)]; kernel_rfl) | (rw [if_neg (by decide +kernel)]; exact ⟨rfl, rfl⟩))
    (fun os started H enc _ => diskReads_lifted os started H enc)
end Go.Proofs.Yteglkbmpeelfgaa
