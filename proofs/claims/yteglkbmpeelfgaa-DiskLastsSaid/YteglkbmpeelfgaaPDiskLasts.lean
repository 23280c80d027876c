/- DiskLasts returns true, whatever the script and what is kept. No conditions. -/
import Derived.Test.YteglkbmpeelfgaaL5
import Derived.Test.YteglkbmpeelfgaaRows
namespace Go.Proofs.Yteglkbmpeelfgaa
open Go Go.Vc Go.ChangeShapes Go.WideShapes Go.ChangeAt Go.RowKit

set_option maxHeartbeats 2000000 in
theorem diskLasts_walk {w : World} (n : Int) {p : Option Addr} {l c : Nat} {L : List CallR} (hL : CallsAt w p l L) {p4 : Option Addr} {l4 c4 : Nat} {ks : List Int} (hk : IntsAt w p4 l4 ks) :
    Calls Try.prog 7 #[.int .i64 n, .slice p l c, .slice p4 l4 c4] w fun e w' => e = .returned (.bool true) ∧ Ext w w' := by
  refine (F7_calls n p l c p4 l4 c4 w (fun v w' => v = .bool true ∧ Ext w w') ?_).mono (by rintro e w' ⟨v, rfl, rfl, h⟩; exact ⟨rfl, h⟩)
  refine (awake_spec w).mono ?_
  rintro e w6 ⟨rfl, x6⟩
  refine ⟨true, rfl, ?_⟩
  refine (done_spec (n := n) (hL.ext x6)).mono ?_
  rintro e w9 ⟨x9, ⟨hbad, rfl⟩ | ⟨hn, b, F, rfl, h9, hF⟩⟩
  · exact ⟨none, rfl, condB_of (fun _ => ⟨rfl, x6.trans x9⟩) fun h => by simp at h⟩
  have y9 := x6.trans x9
  replace hF : ∀ x, F x → w.heap.size ≤ x := fun x hx => Nat.le_trans x6.size (hF x hx)
  have hvoid : Void (doneD ⟨n, [], [], false⟩ (L.take 60)) := Void.done (fun h => by cases h) _
  generalize doneD ⟨n, [], [], false⟩ (L.take 60) = D at h9 hvoid
  refine ⟨some (at0 b), rfl, condB_of (fun h => by simp at h) fun _ => condB_of (fun _ => ⟨rfl, y9⟩) fun g1 => ?_⟩
  simp only [decide_eq_false_iff_not] at g1
  refine (d_flush h9).mono ?_
  rintro e w10 ⟨rfl, s10, h10⟩
  obtain ⟨y10, hF10⟩ := ext_step y9 s10 hF
  have wz : (flushD D).waits = [] := by
    unfold flushD
    split
    · rename_i hd; exact (hvoid hd).2
    · rfl
  refine ⟨_, rfl, ?_⟩
  refine (d_lasts h10).mono ?_
  rintro e w13 ⟨p15, l15, c15, rfl, x13, h13, held15⟩
  refine ⟨_, _, _, rfl, ?_⟩
  refine (d_waits h13).mono ?_
  rintro e w16 ⟨p18, l18, c18, rfl, x16, h16, held18⟩
  have y16 := (y10.trans x13).trans x16
  refine ⟨_, _, _, rfl, ?_⟩
  refine (d_crash h16 (hk.ext y16) (by omega) (by
    rintro a ha hne hf
    have h1 := ints_lt hk hne ha
    have h2 := hF10 _ hf
    omega)).mono ?_
  rintro e w19 ⟨rfl, s19, h19⟩
  obtain ⟨y19, hF19⟩ := ext_step y16 s19 hF10
  refine ⟨rfl, ?_⟩
  have held15' := (held15.ext x16).step s19 h10.lt
  refine (d_lasts h19).mono ?_
  rintro e w21 ⟨p23, l23, c23, rfl, x21, h21, held23⟩
  refine ⟨_, _, _, rfl, ?_⟩
  have y21 := y19.trans x21
  have hle := dk_len h10.ok h10.asc
  have hle' := dk_len h19.ok h19.asc
  have ecr : (crashD (flushD D) ks).lasts = (flushD D).lasts := by simp [crashD, wz, mrg]
  refine (rsame_spec (held23.read hle'.1) ((held15'.ext x21).read hle.1)).mono ?_
  rintro e w24 ⟨rfl, x24⟩
  have y24 := y21.trans x24
  have q18 : l18 = 0 := by rw [held18.length, wz]; rfl
  refine ⟨_, rfl, condB_of (fun _ => condB_of (fun _ => condB_of (fun _ => ?_) fun h => by subst q18; simp at h) fun h => by simp [ecr] at h) fun h => by cases h⟩
  refine (d_dead (h21.ext x24)).mono ?_
  rintro e w27 ⟨rfl, rfl⟩
  refine ⟨_, rfl, ?_, y24⟩
  have : (crashD (flushD D) ks).dead = D.dead := by
    unfold crashD flushD
    split <;> simp_all
  rw [this]
  cases D.dead <;> simp

set_option maxRecDepth 100000 in
theorem diskLasts_lifted (os : Os) (started : os.Started) (H : Type) (enc : TypeId × Value → H) :
    ReturnsInHanded {} Try.checked os 7 .any (Rows.diskLastsSpec.pre6 enc Try.prog Try.f7 Rows.diskLastsRow.domain false) (Rows.diskLastsSpec.post enc Try.prog Try.f7 false true false false) := by
  refine returnsInHanded_of_change (C := Try.checked) lawOwn started (by kernel_rfl) Try.func7
    (ChangeSpec.witness6 (enc := enc) (C := Try.checked) false ⟨#[], #[.int .i64 0, .slice none 0 0, .slice none 0 0], []⟩ 8 (by kernel_rfl) (by kernel_rfl) (by kernel_rfl) (by kernel_rfl)) ?_
  intro W base args ds gs before hval0 hW hcnd _
  have hval : ∀ (j : Nat) t v, Try.f7.params[j]? = some t → args[j]? = some v → Value.okWide Try.prog W .any base t v := hval0
  have hW' := hW
  obtain ⟨p, q, hA0, hV, rfl, hfz, hnd⟩ := hW
  have hA : DataW.TrodAll enc Try.prog W 0 (fun _ => true) true Try.f7.params.toList args.toList ds p := hA0
  rw [Try.params7] at hA hval
  obtain ⟨v0, vs0, d0, ds0, p0, q0, hargs, rfl, rfl, h0, r0⟩ := trodAll_cons hA
  obtain ⟨v1, vs1, d1, ds1, p1, q1, rfl, rfl, rfl, h1, r1⟩ := trodAll_cons r0
  obtain ⟨v2, vs2, d2, ds2, p2, q2, rfl, rfl, rfl, h2, r2⟩ := trodAll_cons r1
  obtain ⟨rfl, rfl, rfl⟩ := trodAll_nil r2
  obtain rfl : args = #[v0, v1, v2] := by cases args; simp_all
  obtain ⟨rfl, rfl⟩ := trodVars_none hV
  obtain ⟨n0, rfl, rfl, rfl, wn0⟩ := open_int Try.underlying3 (hval 0 3 v0 rfl rfl) h0
  obtain ⟨a1, l1, c1, L1, rfl, hL1⟩ := open_script (okWide_slice Try.underlying23 (hval 1 23 v1 rfl rfl)) h1
  obtain ⟨a2, l2, c2, ks2, rfl, hk2, _, _⟩ := open_is (okWide_slice Try.underlying34 (hval 2 34 v2 rfl rfl)) h2
  refine (diskLasts_walk n0 hL1 hk2).mono fun e W' ⟨he, hg⟩ => ?_
  subst he
  exact ⟨_, rfl, post_true lawLaid rfl (by kernel_rfl) rfl Try.underlying4 hW' rfl hg.below⟩

/-- ████ THE STATEMENT ████ -/
theorem diskLasts_holds : Rows.DiskLastsSaid :=
  OpenClaim.holds_of_wide 7 Try.f7 rfl rfl rfl rfl rfl rfl rfl ⟨rfl, rfl, rfl, rfl, rfl⟩ rfl rfl rfl rfl rfl (by kernel_rfl) Try.func7 (by kernel_rfl)
    (of_decide_eq_true (by kernel_rfl)) (by unfold Func.isWrapper; first | (rw [if_pos (by decide +kernel)]; kernel_rfl) | (rw [if_neg (by decide +kernel)]; exact ⟨rfl, rfl⟩))
    (fun os started H enc _ => diskLasts_lifted os started H enc)
end Go.Proofs.Yteglkbmpeelfgaa
