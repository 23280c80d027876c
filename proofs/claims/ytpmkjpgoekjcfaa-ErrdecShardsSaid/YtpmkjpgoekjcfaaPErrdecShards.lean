import Derived.Test.YtpmkjpgoekjcfaaMK
import Derived.Test.YtpmkjpgoekjcfaaRows
/- ErrdecShards returns true, whatever the shards. No conditions. -/
namespace Go.Proofs.Ytpmkjpgoekjcfaa
open Go Go.Vc Go.Gf Go.ChangeShapes Go.WideShapes Go.ChangeAt Go.RowKit

set_option maxHeartbeats 2000000 in
theorem errdecShards_walk (n1 n2 : Int) {w : World} {p3 : Option Addr} {l3 c3 : Nat} {hs : List Bool} (hm : FlagsAt w p3 l3 hs) {p4 : Option Addr} {l4 c4 : Nat} {L : List (List UInt8)} (hL : ListsAt w p4 l4 L) (_hb : ∀ x ∈ L, x.length ≤ maxLen) :
    Calls Try.prog 4 #[.int .i64 n1, .int .i64 n2, .slice p3 l3 c3, .slice p4 l4 c4] w fun e w' => e = .returned (.bool true) ∧ Ext w w' := by
  refine (F4_calls n1 n2 p3 l3 c3 p4 l4 c4 w (fun v w' => v = .bool true ∧ Ext w w')
    (fun _ w11 i w16 => 0 ≤ i ∧ i ≤ l4 ∧ w16 = w11 ∧ l4 ≤ 10 ∧ ∀ j : Nat, (j : Int) < i → (L.getD j []).length ≤ 6) (fun _ _ i _ => (l4 - i).toNat) ?_).mono (by rintro e w' ⟨v, rfl, rfl, h⟩; exact ⟨rfl, h⟩)
  have hLl := hL.1
  refine (awake_spec w).mono ?_
  rintro e w5 ⟨rfl, x5⟩
  refine ⟨_, rfl, (fnew_spec w5).mono ?_⟩
  rintro e w8 ⟨kf, rfl, x8, _, hf⟩
  have xw := x5.trans x8
  refine ⟨_, rfl, condB_of (fun h => by cases h) fun _ => condB_of (fun h => by cases h) fun _ => (few_spec n1 n2 w8).mono ?_⟩
  rintro e w11 ⟨b, rfl, rfl⟩
  refine ⟨_, rfl, condB_of (fun h => ⟨rfl, xw⟩) fun _ => condB_of (fun h => ⟨rfl, xw⟩) fun h10 => ?_⟩
  simp only [decide_eq_false_iff_not] at h10
  refine ⟨⟨by omega, by omega, rfl, by omega, fun j hj => by omega⟩, ?_⟩
  rintro i w16 ⟨hi0, hi1, rfl, _, hlen⟩
  intros
  refine condB_of (fun hs1 => ?_) (fun hs1 => ?_)
  · simp only [decide_eq_true_eq] at hs1
    obtain ⟨a, q, ln, cn, rfl, hc, hq, _⟩ := (hL.ext xw).2 i.toNat (by omega)
    have hqn := hq.1
    rw [w64 (n := i + 1) (by omega)]
    refine ⟨⟨hi0, hs1⟩, _, _, _, by rw [Nat.mul_one]; exact hc, condB_of (fun _ => ⟨rfl, xw⟩) fun h6 => ⟨⟨by omega, by omega, rfl, by omega, fun j hj => ?_⟩, by show ((l4 : Int) - (i + 1)).toNat < ((l4 : Int) - i).toNat; omega⟩⟩
    simp only [decide_eq_false_iff_not] at h6
    by_cases e : (j : Int) < i
    · exact hlen j e
    · rw [show j = i.toNat by omega]; omega
  · simp only [decide_eq_false_iff_not] at hs1
    have b6 : ∀ j, j < l4 → (L.getD j []).length ≤ 6 := fun j hj => hlen j (by omega)
    have bl : ∀ x ∈ L, x.length ≤ 1048576 := fun x hx => by
      obtain ⟨j, hj, rfl⟩ := List.getElem_of_mem hx
      have := b6 j (by omega)
      rw [List.getD_eq_getElem?_getD, List.getElem?_eq_getElem hj, Option.getD_some] at this
      omega
    refine (shards_spec (c3 := c3) (c4 := c4) hf (hm.ext xw) (hL.ext xw) n1 n2 bl).mono ?_
    rintro e w32 ⟨v, rfl, hv⟩
    obtain ⟨x32, A, B, er, p1, m1, d1, p2, m2, d2, rfl, hQ, bA, bB, hm1, hm2, hA⟩ := hv.ans
    refine ⟨_, _, _, _, _, _, _, rfl, ?_⟩
    have xw32 := xw.trans x32
    refine (rshards_spec (c3 := c3) (c4 := c4) (hm.ext xw32) (hL.ext xw32) n1 n2 bl).mono ?_
    rintro e w37 ⟨v, rfl, hv⟩
    obtain ⟨x37, A', B', er', q1, u1, e1, q2, u2, e2, rfl, hQ', bA', bB', _, _, _⟩ := hv.ans
    obtain ⟨rfl, rfl, rfl⟩ := hQ.one hQ'
    refine ⟨_, _, _, _, _, _, _, rfl, ?_⟩
    refine (lsame_spec (c1 := d1) (c2 := e1) (bA.ext x37) bA' (by omega) fun x hx => ?_).mono ?_
    · obtain ⟨t, _, _, ht⟩ := hA x hx
      rw [ht]
      by_cases h : t < L.length
      · have := b6 t (by omega); omega
      · rw [List.getD_eq_getElem?_getD, List.getElem?_eq_none (by omega)]; simp
    rintro e w42 ⟨rfl, x42⟩
    refine ⟨_, rfl, ?_⟩
    refine (ints_spec (c1 := d2) (c2 := e2) ((bB.ext x37).ext x42) (bB'.ext x42) (by omega)).mono ?_
    rintro e w45 ⟨rfl, x45⟩
    refine ⟨_, rfl, ?_⟩
    have fin : Ext w w45 := xw32.trans (x37.trans (x42.trans x45))
    exact condB_of (fun _ => condB_of (fun _ => ⟨by simp, fin⟩) fun h => by simp at h) fun h => by simp at h
set_option maxRecDepth 100000 in
theorem errdecShards_lifted (os : Os) (started : os.Started) (H : Type) (enc : TypeId × Value → H) :
    ReturnsInHanded {} Try.checked os 4 .any (Rows.errdecShardsSpec.pre6 enc Try.prog Try.f4 Rows.errdecShardsRow.domain false) (Rows.errdecShardsSpec.post enc Try.prog Try.f4 false true false false) := by
  refine returnsInHanded_of_change (C := Try.checked) lawOwn started (by kernel_rfl) Try.func4
    (ChangeSpec.witness6 (enc := enc) (C := Try.checked) false ⟨#[], #[.int .i64 0, .int .i64 0, .slice none 0 0, .slice none 0 0], []⟩ 8 (by kernel_rfl) (by kernel_rfl) (by kernel_rfl) (by kernel_rfl)) ?_
  intro W base args ds gs before hval0 hW hcnd _
  have hval : ∀ (j : Nat) t v, Try.f4.params[j]? = some t → args[j]? = some v → Value.okWide Try.prog W .any base t v := hval0
  have hW' := hW
  obtain ⟨p, q, hA0, hV, rfl, hfz, hnd⟩ := hW
  have hA : DataW.TrodAll enc Try.prog W 0 (fun _ => true) true Try.f4.params.toList args.toList ds p := hA0
  rw [Try.params4] at hA hval
  obtain ⟨v0, vs0, d0, ds0, p0, q0, hargs, rfl, rfl, h0, r0⟩ := trodAll_cons hA
  obtain ⟨v1, vs1, d1, ds1, p1, q1, rfl, rfl, rfl, h1, r1⟩ := trodAll_cons r0
  obtain ⟨v2, vs2, d2, ds2, p2, q2, rfl, rfl, rfl, h2, r2⟩ := trodAll_cons r1
  obtain ⟨v3, vs3, d3, ds3, p3, q3, rfl, rfl, rfl, h3, r3⟩ := trodAll_cons r2
  obtain ⟨rfl, rfl, rfl⟩ := trodAll_nil r3
  obtain rfl : args = #[v0, v1, v2, v3] := by cases args; simp_all
  obtain ⟨rfl, rfl⟩ := trodVars_none hV
  obtain ⟨n0, rfl, rfl, rfl, wn0⟩ := open_int Try.underlying3 (hval 0 3 v0 rfl rfl) h0
  obtain ⟨n1, rfl, rfl, rfl, wn1⟩ := open_int Try.underlying3 (hval 1 3 v1 rfl rfl) h1
  obtain ⟨a2, l2, c2, ks2, rfl, hk2, _, _⟩ := open_flags (okWide_slice Try.underlying23 (hval 2 23 v2 rfl rfl)) h2
  obtain ⟨a3, l3, c3, L3, rfl, hL3, _, _, hx3⟩ := open_lists (okWide_slice Try.underlying36 (hval 3 36 v3 rfl rfl)) h3
  refine (errdecShards_walk n0 n1 hk2 hL3 hx3).mono fun e W' ⟨he, hg⟩ => ?_
  subst he
  exact ⟨_, rfl, post_true lawLaid rfl (by kernel_rfl) rfl Try.underlying4 hW' rfl hg.below⟩

/-- ████ THE STATEMENT ████ -/
theorem errdecShards_holds : Rows.ErrdecShardsSaid :=
  OpenClaim.holds_of_wide 4 Try.f4 rfl rfl rfl rfl rfl rfl rfl ⟨rfl, rfl, rfl, rfl, rfl⟩ rfl rfl rfl rfl rfl (by kernel_rfl) Try.func4 (by kernel_rfl)
    (of_decide_eq_true (by kernel_rfl)) (by unfold Func.isWrapper; first | (rw [if_pos (by decide +kernel)]; kernel_rfl) | (rw [if_neg (by decide +kernel)]; exact ⟨rfl, rfl⟩))
    (fun os started H enc _ => errdecShards_lifted os started H enc)
end Go.Proofs.Ytpmkjpgoekjcfaa
