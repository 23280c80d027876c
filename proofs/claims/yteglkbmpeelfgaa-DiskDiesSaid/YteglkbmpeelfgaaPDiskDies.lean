/- DiskDies returns true, whatever the script, the place and the bytes. No conditions. -/
import Derived.Test.YteglkbmpeelfgaaL4
import Derived.Test.YteglkbmpeelfgaaRows
namespace Go.Proofs.Yteglkbmpeelfgaa
open Go Go.Vc Go.ChangeShapes Go.WideShapes Go.ChangeAt Go.RowKit

set_option maxHeartbeats 2000000 in
theorem diskDies_walk {w : World} (n : Int) {p : Option Addr} {l c : Nat} {L : List CallR} (hL : CallsAt w p l L) (k : Int) {p4 : Option Addr} {l4 c4 : Nat} {bs : List UInt8} (hb : BytesAt w p4 l4 bs) :
    Calls Try.prog 5 #[.int .i64 n, .slice p l c, .int .i64 k, .slice p4 l4 c4] w fun e w' => e = .returned (.bool true) ∧ Ext w w' := by
  refine (F5_calls n p l c k p4 l4 c4 w (fun v w' => v = .bool true ∧ Ext w w') ?_).mono (by rintro e w' ⟨v, rfl, rfl, h⟩; exact ⟨rfl, h⟩)
  refine (awake_spec w).mono ?_
  rintro e w6 ⟨rfl, x6⟩
  refine ⟨true, rfl, ?_⟩
  refine (done_spec (n := n) (hL.ext x6)).mono ?_
  rintro e w9 ⟨x9, ⟨hbad, rfl⟩ | ⟨hn, b, F, rfl, h9, hF⟩⟩
  · exact ⟨none, rfl, condB_of (fun _ => ⟨rfl, x6.trans x9⟩) fun h => by simp at h⟩
  have y9 := x6.trans x9
  replace hF : ∀ x, F x → w.heap.size ≤ x := fun x hx => Nat.le_trans x6.size (hF x hx)
  have hsec := sectors_done (L.take 60) ⟨n, [], [], false⟩
  generalize doneD ⟨n, [], [], false⟩ (L.take 60) = D at h9 hsec
  simp only at hsec
  have hl := hb.1
  refine ⟨some (at0 b), rfl, condB_of (fun h => by simp at h) fun _ => condB_of (fun _ => ⟨rfl, y9⟩) fun g1 => condB_of (fun _ => ⟨rfl, y9⟩) fun g2 => condB_of (fun _ => ⟨rfl, y9⟩) fun g3 => condB_of (fun _ => ⟨rfl, y9⟩) fun g4 => ?_⟩
  simp only [decide_eq_false_iff_not] at g1 g2 g3 g4
  refine (d_fail h9).mono ?_
  rintro e w11 ⟨rfl, s11, h11⟩
  obtain ⟨y11, hF11⟩ := ext_step y9 s11 hF
  refine ⟨rfl, ?_⟩
  intro k13 w14 hk
  have hi : IntsAt w14 (some (at0 k13)) 1 [k] := ⟨rfl, fun j u hj => ⟨_, rfl, by
    match j, hj with
    | 0, hj => cases hj; simp [World.cell?, Addr.add, hk.at]⟩⟩
  have y14 := y11.trans hk.ext
  refine (d_crash (h11.ext hk.ext) hi (by omega) (by
    rintro a ⟨⟩ _ hf
    have := h11.lt _ hf
    have h2 := hk.size.1
    have h3 : (at0 k13).block = k13 := rfl
    omega)).mono ?_
  rintro e w15 ⟨rfl, s15, h15⟩
  obtain ⟨y15, hF15⟩ := ext_step y14 s15 hF11
  have e15 : crashD { D with dead := true, lasts := [], waits := [] } [k] = { D with dead := true, lasts := [], waits := [] } := rfl
  rw [e15] at h15
  refine ⟨rfl, ?_⟩
  refine (d_read h15 k).mono ?_
  rintro e w17 ⟨x17, h17, p19, l19, c19, bs19, rfl, e19, l19e, _, _⟩
  refine ⟨_, _, _, _, rfl, ?_⟩
  have y17 := y15.trans x17
  refine (d_write h17 k (hb.ext y17)).mono ?_
  rintro e w21 ⟨F', rfl, s21, h21⟩
  obtain ⟨y21, hF21⟩ := ext_step y17 s21 hF15
  have z21 : writeZ { D with dead := true, lasts := [], waits := [] } k bs.length = 120 := writeZ_dead.2 rfl
  rw [write_no (by rw [z21]; decide)] at h21
  refine ⟨_, rfl, ?_⟩
  refine (d_flush h21).mono ?_
  rintro e w24 ⟨rfl, s24, h24⟩
  obtain ⟨y24, hF24⟩ := ext_step y21 s24 hF21
  refine ⟨_, rfl, ?_⟩
  refine (d_dead h24).mono ?_
  rintro e w27 ⟨rfl, rfl⟩
  refine ⟨_, rfl, ?_⟩
  refine (d_replace h24).mono ?_
  rintro e w30 ⟨rfl, s30, h30⟩
  obtain ⟨y30, hF30⟩ := ext_step y24 s30 hF24
  refine ⟨rfl, ?_⟩
  refine (d_read h30 k).mono ?_
  rintro e w32 ⟨x32, h32, p34, l34, c34, bs34, rfl, e34, l34e, _, _⟩
  refine ⟨_, _, _, _, rfl, ?_⟩
  have y32 := y30.trans x32
  refine (d_write h32 k (hb.ext y32)).mono ?_
  rintro e w36 ⟨F36, rfl, s36, h36⟩
  obtain ⟨y36, hF36⟩ := ext_step y32 s36 hF30
  refine ⟨_, rfl, ?_⟩
  have q19 : l19 = 0 := by rw [l19e, e19]; rfl
  have f30 : faultZ false (flushD { D with dead := true, lasts := [], waits := [] }).sectors k = 0 := by
    rw [sectors_flush]
    simp only [hsec]
    unfold faultZ
    simp only [Bool.false_eq_true, if_false]
    rw [if_neg (by omega)]
  have q34 : l34 = 0 := by
    rw [l34e, e34]
    simp only [f30, if_true]
    rfl
  refine condB_of (fun _ => ?_) fun h => by cases h
  refine condB_of (fun _ => ?_) fun h => by subst q19; simp at h
  refine condB_of (fun _ => ?_) fun h => by simp [faultZ] at h
  refine condB_of (fun _ => ?_) fun h => by simp [z21] at h
  refine condB_of (fun _ => ?_) fun h => by simp at h
  refine condB_of (fun _ => ?_) fun h => by simp [flushD] at h
  refine condB_of (fun _ => ?_) fun h => by subst q34; simp at h
  refine condB_of (fun _ => ?_) fun h => by simp [f30] at h
  refine (d_lasts h36).mono ?_
  rintro e w39 ⟨p41, l41, c41, rfl, x39, h39, held⟩
  have q41 : l41 = 0 := by
    rw [held.length]
    unfold writeD
    split <;> rfl
  refine ⟨_, _, _, rfl, condB_of (fun _ => ?_) fun h => by subst q41; simp at h⟩
  refine (d_dead h39).mono ?_
  rintro e w42 ⟨rfl, rfl⟩
  refine ⟨_, rfl, condB_of (fun _ => ⟨?_, y36.trans x39⟩) fun h => by simp [dead_write] at h⟩
  congr 1
  unfold writeZ
  rw [if_neg (by simp [f30])]
  by_cases hle : l4 ≤ 4108
  · rw [if_neg (by omega)]
    have : ((l4 : Nat) : Int) ≤ 4108 := by omega
    simp [this]
  · rw [if_pos (by omega)]
    have : ¬ ((l4 : Nat) : Int) ≤ 4108 := by omega
    simp [this]

set_option maxRecDepth 100000 in
theorem diskDies_lifted (os : Os) (started : os.Started) (H : Type) (enc : TypeId × Value → H) :
    ReturnsInHanded {} Try.checked os 5 .any (Rows.diskDiesSpec.pre6 enc Try.prog Try.f5 Rows.diskDiesRow.domain false) (Rows.diskDiesSpec.post enc Try.prog Try.f5 false true false false) := by
  refine returnsInHanded_of_change (C := Try.checked) lawOwn started (by kernel_rfl) Try.func5
    (ChangeSpec.witness6 (enc := enc) (C := Try.checked) false ⟨#[], #[.int .i64 0, .slice none 0 0, .int .i64 0, .slice none 0 0], []⟩ 8 (by kernel_rfl) (by kernel_rfl) (by kernel_rfl) (by kernel_rfl)) ?_
  intro W base args ds gs before hval0 hW hcnd _
  have hval : ∀ (j : Nat) t v, Try.f5.params[j]? = some t → args[j]? = some v → Value.okWide Try.prog W .any base t v := hval0
  have hW' := hW
  obtain ⟨p, q, hA0, hV, rfl, hfz, hnd⟩ := hW
  have hA : DataW.TrodAll enc Try.prog W 0 (fun _ => true) true Try.f5.params.toList args.toList ds p := hA0
  rw [Try.params5] at hA hval
  obtain ⟨v0, vs0, d0, ds0, p0, q0, hargs, rfl, rfl, h0, r0⟩ := trodAll_cons hA
  obtain ⟨v1, vs1, d1, ds1, p1, q1, rfl, rfl, rfl, h1, r1⟩ := trodAll_cons r0
  obtain ⟨v2, vs2, d2, ds2, p2, q2, rfl, rfl, rfl, h2, r2⟩ := trodAll_cons r1
  obtain ⟨v3, vs3, d3, ds3, p3, q3, rfl, rfl, rfl, h3, r3⟩ := trodAll_cons r2
  obtain ⟨rfl, rfl, rfl⟩ := trodAll_nil r3
  obtain rfl : args = #[v0, v1, v2, v3] := by cases args; simp_all
  obtain ⟨rfl, rfl⟩ := trodVars_none hV
  obtain ⟨n0, rfl, rfl, rfl, wn0⟩ := open_int Try.underlying3 (hval 0 3 v0 rfl rfl) h0
  obtain ⟨a1, l1, c1, L1, rfl, hL1⟩ := open_script (okWide_slice Try.underlying23 (hval 1 23 v1 rfl rfl)) h1
  obtain ⟨n2, rfl, rfl, rfl, wn2⟩ := open_int Try.underlying3 (hval 2 3 v2 rfl rfl) h2
  obtain ⟨a3, l3, c3, bs3, rfl, hb3, _, _, _⟩ := open_bs (okWide_slice Try.underlying24 (hval 3 24 v3 rfl rfl)) h3
  refine (diskDies_walk n0 hL1 n2 hb3).mono fun e W' ⟨he, hg⟩ => ?_
  subst he
  exact ⟨_, rfl, post_true lawLaid rfl (by kernel_rfl) rfl Try.underlying4 hW' rfl hg.below⟩

/-- ████ THE STATEMENT ████ -/
theorem diskDies_holds : Rows.DiskDiesSaid :=
  OpenClaim.holds_of_wide 5 Try.f5 rfl rfl rfl rfl rfl rfl rfl ⟨rfl, rfl, rfl, rfl, rfl⟩ rfl rfl rfl rfl rfl (by kernel_rfl) Try.func5 (by kernel_rfl)
    (of_decide_eq_true (by kernel_rfl)) (by unfold Func.isWrapper; first | (rw [if_pos (by decide +kernel)]; kernel_rfl) | (rw [if_neg (by decide +kernel)]; exact ⟨rfl, rfl⟩))
    (fun os started H enc _ => diskDies_lifted os started H enc)
end Go.Proofs.Yteglkbmpeelfgaa
