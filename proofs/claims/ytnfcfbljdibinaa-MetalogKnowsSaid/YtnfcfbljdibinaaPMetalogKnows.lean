import Derived.Test.YtnfcfbljdibinaaMJ
import Derived.Test.YtnfcfbljdibinaaRows
/- MetalogKnows returns true, whatever the number of disks and the lists. No conditions. -/
namespace Go.Proofs.Ytnfcfbljdibinaa
open Go Go.Vc Go.ChangeShapes Go.WideShapes Go.ChangeAt Go.RowKit

theorem among_spec {p : Option Addr} {l c : Nat} {L : List Int} {w : World} (x : Int) (h : IntsAt w p l L) (hl : l ≤ 1000) : Calls Try.prog 28 #[.slice p l c, .int .i64 x] w fun e w' => e = .returned (.bool (decide (x ∈ L))) ∧ w' = w := by
  refine (F28_calls p l c x w (fun v w' => v = .bool (decide (x ∈ L)) ∧ w' = w) (fun _ n3 w4 => ∃ j : Nat, n3 = j ∧ j ≤ l ∧ w4 = w ∧ ¬ x ∈ L.take j) (fun _ n3 _ => 1001 - n3.toNat) ?_).mono (by rintro e w' ⟨v, rfl, rfl, h⟩; exact ⟨rfl, h⟩)
  have hlen := h.1
  refine ⟨⟨0, rfl, Nat.zero_le _, rfl, by simp⟩, ?_⟩
  rintro n3 w4 ⟨j, rfl, hj, rfl, hd⟩
  intros
  refine condB_of (fun hlt => ?_) (fun hge => ?_)
  · simp only [decide_eq_true_eq] at hlt
    obtain ⟨y, hy⟩ : ∃ y, L[j]? = some y := ⟨L[j]'(by omega), List.getElem?_eq_getElem _⟩
    obtain ⟨a, rfl, ca⟩ := h.2 j (.int .i64 y) (by rw [List.getElem?_map, hy]; rfl)
    refine ⟨⟨by omega, hlt⟩, y, by rw [Int.toNat_natCast, Nat.mul_one]; exact ca, condB_of (fun he => ?_) fun hne => ?_⟩
    · simp only [decide_eq_true_eq] at he
      exact ⟨by rw [decide_eq_true (by rw [← he]; exact List.mem_of_getElem? hy)], rfl⟩
    · simp only [decide_eq_false_iff_not] at hne
      rw [w64 (by omega)]
      refine ⟨⟨j + 1, by omega, by omega, rfl, fun hx => ?_⟩, by show 1001 - ((j : Int) + 1).toNat < 1001 - (j : Int).toNat; omega⟩
      rw [List.take_add_one, hy] at hx
      rcases List.mem_append.1 hx with hx | hx
      · exact hd hx
      · simp at hx; exact hne hx.symm
  · simp only [decide_eq_false_iff_not] at hge
    rw [List.take_of_length_le (by omega)] at hd
    exact ⟨by rw [decide_eq_false hd], rfl⟩
def failF : Mem → Mem := fun m => ⟨{ m.d with dead := true, lasts := [], waits := [] }, IntKind.i64.wrap (m.births + 1)⟩
def replF : Mem → Mem := fun m => ⟨{ m.d with dead := false, lasts := [], waits := [] }, IntKind.i64.wrap (m.births + 1)⟩
/-- an array of this call's, in a state -/
def OwnA (w w' : World) (p : Option Addr) (s : StA) : Prop := ∃ (a : Nat) (F : Nat → Prop), p = some (at0 a) ∧ Ext w w' ∧ (∀ x, F x → w.heap.size ≤ x) ∧ IsA w' a s F

set_option maxHeartbeats 4000000 in
theorem metalogKnows_walk (n1 : Int) {w : World} {p2 : Option Addr} {l2 c2 : Nat} {L : List Int} (hL : IntsAt w p2 l2 L) {p3 : Option Addr} {l3 c3 : Nat} {FL : List Int} (hF : IntsAt w p3 l3 FL) {p4 : Option Addr} {l4 c4 : Nat} {RL : List Int} (hR : IntsAt w p4 l4 RL)
    {p5 : Option Addr} {l5 c5 : Nat} {HL : List Int} (hH : IntsAt w p5 l5 HL) (hcap : l5 ≤ c5) :
    Calls Try.prog 6 #[.int .i64 n1, .slice p2 l2 c2, .slice p3 l3 c3, .slice p4 l4 c4, .slice p5 l5 c5] w fun e w' => e = .returned (.bool true) ∧ Ext w w' := by
  obtain ⟨hz0, kn0⟩ := label_beg n1.toNat L
  generalize hs0 : (labelM L (begA n1.toNat 4)).1 = s0 at kn0
  have kn1 := kn0.gone (f := failF) (fun m => ⟨rfl, rfl, rfl⟩) FL
  generalize hs1 : hurtS FL failF s0 = s1 at kn1
  have kn2 := kn1.gone (f := replF) (fun m => ⟨rfl, rfl, rfl⟩) RL
  generalize hs2 : hurtS RL replF s1 = s2 at kn2
  refine (F6_calls n1 p2 l2 c2 p3 l3 c3 p4 l4 c4 p5 l5 c5 w (fun v w' => v = .bool true ∧ Ext w w')
    (fun p11 _ n17 w18 => ∃ i : Nat, n17 = i ∧ i ≤ l3 ∧ OwnA w w18 p11 (hurtS (FL.take i) failF s0)) (fun _ _ n17 _ => 100 - n17.toNat)
    (fun p11 _ n17 w18 => ∃ i : Nat, n17 = i ∧ i ≤ l4 ∧ OwnA w w18 p11 (hurtS (RL.take i) replF s1)) (fun _ _ n17 _ => 100 - n17.toNat)
    (fun p11 _ n17 w18 => ∃ i : Nat, n17 = i ∧ i ≤ l5 ∧ OwnA w w18 p11 (corS HL s2 i)) (fun _ _ n17 _ => 100 - n17.toNat)
    (fun p94 l94 _ w92 n99 w100 => ∃ i : Nat, n99 = i ∧ (i : Int) ≤ n1 ∧ Ext w92 w100) (fun _ _ _ _ n99 _ => 100 - n99.toNat) ?_).mono (by rintro e w' ⟨v, rfl, rfl, h⟩; exact ⟨rfl, h⟩)
  refine (awakeM_spec w).mono ?_
  rintro e w6 ⟨rfl, x6⟩
  have t : ∀ {P : Prop}, P → Value.bool true = .bool true ∧ P := fun h => ⟨rfl, h⟩
  refine ⟨true, rfl, condB_f rfl (condB_of (fun _ => t x6) fun h1 => condB_of (fun _ => t x6) fun h2 => condB_of (fun _ => t x6) fun h3 => condB_of (fun _ => t x6) fun h4 => condB_of (fun _ => t x6) fun h5 => condB_of (fun _ => t x6) fun h6 => ?_)⟩
  simp only [decide_eq_false_iff_not] at h1 h2 h3 h4 h5 h6
  refine (anew_good (n := n1) (s := 4) ⟨by omega, by omega⟩ ⟨by omega, by omega⟩ w6).mono ?_
  rintro e w9 ⟨a, F, rfl, x9, h9, hF9⟩
  have y9 := x6.trans x9
  replace hF9 : ∀ x, F x → w.heap.size ≤ x := fun x hx => Nat.le_trans x6.size (hF9 x hx)
  refine ⟨_, _, rfl, condB_f rfl ?_⟩
  have hA9 : IsA w9 a (begA n1.toNat 4) F := h9
  refine (mlabel_spec hA9 (begA_ok (by omega)) (fun F' w' hs => hL.ext (ext_stepA y9 hs hF9).1) (by omega)).mono ?_
  rintro e w13 ⟨F13, rfl, st13, h13⟩
  rw [hs0] at h13
  rw [hz0]
  obtain ⟨y13, hF13⟩ := ext_stepA y9 st13 hF9
  refine ⟨_, rfl, condB_f rfl ⟨⟨0, rfl, Nat.zero_le _, a, F13, rfl, y13, hF13, by simpa [hurtS] using h13⟩, ?_⟩⟩
  rintro n17 w18 ⟨i, rfl, hi, a', F', hp, y18, hF18, h18⟩
  cases hp
  intros
  have ok1 : ∀ {x : Nat} {L' : List Int} {f : Mem → Mem}, True := fun {_ _ _} => trivial
  clear ok1
  refine condB_of (fun hlt => ?_) (fun hge => ?_)
  · simp only [decide_eq_true_eq] at hlt
    have hlen := hF.1
    obtain ⟨y, hy⟩ : ∃ y, FL[i]? = some y := ⟨FL[i]'(by omega), List.getElem?_eq_getElem _⟩
    obtain ⟨ap, rfl, ca⟩ := (hF.ext y18).2 i (.int .i64 y) (by rw [List.getElem?_map, hy]; rfl)
    refine ⟨⟨by omega, hlt⟩, y, by rw [Int.toNat_natCast, Nat.mul_one]; exact ca, (fail_any h18 y).mono ?_⟩
    rintro e w33 ⟨F', z, rfl, st, h33⟩
    obtain ⟨y33, hF33⟩ := ext_stepA y18 st hF18
    refine ⟨z, rfl, ?_⟩
    rw [w64 (by omega)]
    refine ⟨⟨i + 1, by omega, by omega, a, F', rfl, y33, hF33, ?_⟩, by show 100 - ((i : Int) + 1).toNat < 100 - (i : Int).toNat; omega⟩
    rw [List.take_add_one, hy]
    show IsA w33 a (hurtS (FL.take i ++ [y]) failF s0) F'
    rw [hurtS_snoc]
    exact h33
  simp only [decide_eq_false_iff_not] at hge
  rw [List.take_of_length_le (by have := hF.1; omega), hs1] at h18
  refine ⟨⟨0, rfl, Nat.zero_le _, a, F', rfl, y18, hF18, by simpa [hurtS] using h18⟩, ?_⟩
  rintro n37 w38 ⟨i, rfl, hi, a', F38, hp, y38, hF38, h38⟩
  cases hp
  intros
  refine condB_of (fun hlt => ?_) (fun hge => ?_)
  · simp only [decide_eq_true_eq] at hlt
    have hlen := hR.1
    obtain ⟨y, hy⟩ : ∃ y, RL[i]? = some y := ⟨RL[i]'(by omega), List.getElem?_eq_getElem _⟩
    obtain ⟨ap, rfl, ca⟩ := (hR.ext y38).2 i (.int .i64 y) (by rw [List.getElem?_map, hy]; rfl)
    refine ⟨⟨by omega, hlt⟩, y, by rw [Int.toNat_natCast, Nat.mul_one]; exact ca, (replace_any h38 y).mono ?_⟩
    rintro e w53 ⟨F', z, rfl, st, h53⟩
    obtain ⟨y53, hF53⟩ := ext_stepA y38 st hF38
    refine ⟨z, rfl, ?_⟩
    rw [w64 (by omega)]
    refine ⟨⟨i + 1, by omega, by omega, a, F', rfl, y53, hF53, ?_⟩, by show 100 - ((i : Int) + 1).toNat < 100 - (i : Int).toNat; omega⟩
    rw [List.take_add_one, hy]
    show IsA w53 a (hurtS (RL.take i ++ [y]) replF s1) F'
    rw [hurtS_snoc]
    exact h53
  simp only [decide_eq_false_iff_not] at hge
  rw [List.take_of_length_le (by have := hR.1; omega), hs2] at h38
  refine ⟨⟨0, rfl, Nat.zero_le _, a, F38, rfl, y38, hF38, h38⟩, ?_⟩
  rintro n57 w58 ⟨i, rfl, hi, a', F58, hp, y58, hF58, h58⟩
  cases hp
  intros
  have hlen := hH.1
  refine condB_of (fun hlt => ?_) (fun hge => ?_)
  · simp only [decide_eq_true_eq] at hlt
    intro w81 d81
    have y81 := y58.trans d81.ext
    have h81 := IsArr.ext h58 d81.ext
    obtain ⟨y, hy⟩ : ∃ y, HL[i]? = some y := ⟨HL[i]'(by omega), List.getElem?_eq_getElem _⟩
    have hyd : HL.getD i 0 = y := by rw [List.getD_eq_getElem?_getD, hy]; rfl
    obtain ⟨ap, hap, ca⟩ := (hH.ext y81).2 i (.int .i64 y) (by rw [List.getElem?_map, hy]; rfl)
    have hcut : IntsAt w81 (cutP p5 c5 0 1) (i - 0) (HL.take i) := ⟨by rw [List.length_take]; omega, by
      rw [cut0]
      intro j u hj
      rw [List.getElem?_map] at hj
      have hji : j < i := by
        by_cases hh : j < i
        · exact hh
        · rw [List.getElem?_eq_none (by rw [List.length_take]; omega)] at hj; cases hj
      rw [List.getElem?_take_of_lt hji] at hj
      exact (hH.ext y81).2 j u (by rw [List.getElem?_map]; exact hj)⟩
    subst hap
    refine ⟨⟨by omega, by omega⟩, ⟨by omega, hlt⟩, y, by rw [Int.toNat_natCast, Nat.mul_one]; exact ca, (among_spec (c := c5 - 0) y (by rw [Int.toNat_natCast]; exact hcut) (by omega)).mono ?_⟩
    rintro e w84 ⟨rfl, rfl⟩
    refine ⟨_, rfl, condB_of (fun hnin => ?_) (fun hin => ?_)⟩
    · simp only [Bool.not_eq_true', decide_eq_false_iff_not] at hnin
      refine ⟨⟨by omega, hlt⟩, y, by rw [Int.toNat_natCast, Nat.mul_one]; exact ca, (corrupt_any h81 y 0 (i : Int) 1 ⟨by omega, by omega⟩).mono ?_⟩
      rintro e w89 ⟨F', z, rfl, st, h89⟩
      obtain ⟨y89, hF89⟩ := ext_stepA y81 st hF58
      refine ⟨z, rfl, ?_⟩
      rw [w64 (by omega)]
      refine ⟨⟨i + 1, by omega, by omega, a, F', rfl, y89, hF89, ?_⟩, by show 100 - ((i : Int) + 1).toNat < 100 - (i : Int).toNat; omega⟩
      have e1 : corS HL s2 (i + 1) = onDisk (corS HL s2 i) y fun m => { m with d := corruptD m.d 0 (i : Int) 1 } := by
        simp only [corS, hyd]; rw [if_neg hnin]
      rw [e1]
      exact h89
    · simp only [Bool.not_eq_false', decide_eq_true_eq] at hin
      rw [w64 (by omega)]
      refine ⟨⟨i + 1, by omega, by omega, a, F58, rfl, y81, hF58, ?_⟩, by show 100 - ((i : Int) + 1).toNat < 100 - (i : Int).toNat; omega⟩
      have e1 : corS HL s2 (i + 1) = corS HL s2 i := by
        simp only [corS, hyd]; rw [if_pos hin]
      rw [e1]
      exact h81
  simp only [decide_eq_false_iff_not] at hge
  have hil : i = HL.length := by omega
  subst hil
  have hL20 : HL.length ≤ 20 := by omega
  obtain ⟨c1, c2', c3', _⟩ := corS_at kn2 hL20 HL.length (Nat.le_refl _)
  have know : ∀ {j : Nat} {m : Mem}, (corS HL s2 HL.length).M[j]? = some m → knowB m = _ := fun hj => corS_know kn2 hL20 hj
  generalize corS HL s2 HL.length = s3 at h58 c1 c2' c3' know
  have hn1 : ((n1.toNat : Nat) : Int) = n1 := by omega
  have ok3 : OkA s3 := ⟨by omega, by rw [c1]; exact Int.le_refl _, by rw [c1]; decide⟩
  refine (mknows_spec h58 ok3 (by omega)).mono ?_
  rintro e w92 ⟨x92, _, hk⟩
  obtain ⟨p94, c94, rfl, own⟩ := hk c2'
  have y92 := y58.trans x92
  refine ⟨_, _, _, _, rfl, condB_f rfl (condB_f (by simp only [Bool.not_eq_false', decide_eq_true_eq]; omega) ⟨⟨0, rfl, by omega, Upd.refl _ _⟩, ?_⟩)⟩
  rintro n99 w100 ⟨i, rfl, hi, x100⟩
  intros
  refine condB_of (fun hlt => ?_) (fun hge => t (y92.trans x100))
  simp only [decide_eq_true_eq] at hlt
  intro w133 d133
  have x133 := x100.trans d133.ext
  have y133 := y92.trans x133
  obtain ⟨m, hm⟩ : ∃ m, s3.M[i]? = some m := ⟨s3.M[i]'(by omega), List.getElem?_eq_getElem _⟩
  have hkm := know hm
  obtain ⟨ap, hap, ca⟩ := (own.ext x133).cells i (.bool (knowB m)) (by rw [List.getElem?_map, List.getElem?_map, hm]; rfl)
  subst hap
  have ca' : w133.cell? (ap.add ((i : Int).toNat * 1)) = some (.bool (knowB m)) := by rw [Int.toNat_natCast, Nat.mul_one]; exact ca
  have nx : ∃ j : Nat, IntKind.i64.wrap ((i : Int) + 1) = j ∧ (j : Int) ≤ n1 ∧ Ext w92 w133 := by rw [w64 (by omega)]; exact ⟨i + 1, by omega, by omega, x133⟩
  have mu : 100 - (IntKind.i64.wrap ((i : Int) + 1)).toNat < 100 - (i : Int).toNat := by rw [w64 (by omega)]; omega
  refine ⟨⟨by omega, by omega⟩, knowB m, ca', (among_spec (c := c2) (i : Int) (hL.ext y133) (by omega)).mono ?_⟩
  rintro e w136 ⟨rfl, rfl⟩
  rw [hkm]
  rw [hkm] at ca'
  refine ⟨_, rfl, ⟨_, ca', rfl⟩, condB_of (fun b1 => ?_) (fun b1 => ?_)⟩
  · refine (among_spec (c := c3) (i : Int) (hF.ext y133) (by omega)).mono ?_
    rintro e w140 ⟨rfl, rfl⟩
    refine ⟨_, rfl, ⟨_, ca', rfl⟩, condB_of (fun b2 => ?_) (fun b2 => ?_)⟩
    · refine (among_spec (c := c4) (i : Int) (hR.ext y133) (by omega)).mono ?_
      rintro e w144 ⟨rfl, rfl⟩
      refine ⟨_, rfl, ⟨_, ca', rfl⟩, condB_of (fun b3 => ?_) (fun b3 => ?_)⟩
      · refine (among_spec (c := c5) (i : Int) (hH.ext y133) (by omega)).mono ?_
        rintro e w148 ⟨rfl, rfl⟩
        refine ⟨_, rfl, ⟨_, ca', rfl⟩, condB_f ?_ ⟨nx, mu⟩⟩
        rw [b1, b2, b3]; simp
      · refine ⟨⟨_, ca', rfl⟩, condB_f ?_ ⟨nx, mu⟩⟩
        rw [b3]; simp
    · refine ⟨⟨_, ca', rfl⟩, ⟨_, ca', rfl⟩, condB_f ?_ ⟨nx, mu⟩⟩
      rw [b2]; simp
  · refine ⟨⟨_, ca', rfl⟩, ⟨_, ca', rfl⟩, ⟨_, ca', rfl⟩, condB_f ?_ ⟨nx, mu⟩⟩
    rw [b1]; simp
set_option maxRecDepth 100000 in
theorem metalogKnows_lifted (os : Os) (started : os.Started) (H : Type) (enc : TypeId × Value → H) :
    ReturnsInHanded {} Try.checked os 6 .any (Rows.metalogKnowsSpec.pre6 enc Try.prog Try.f6 Rows.metalogKnowsRow.domain false) (Rows.metalogKnowsSpec.post enc Try.prog Try.f6 false true false false) := by
  refine returnsInHanded_of_change (C := Try.checked) lawOwn started (by kernel_rfl) Try.func6
    (ChangeSpec.witness6 (enc := enc) (C := Try.checked) false ⟨#[], #[.int .i64 0, .slice none 0 0, .slice none 0 0, .slice none 0 0, .slice none 0 0], []⟩ 8 (by kernel_rfl) (by kernel_rfl) (by kernel_rfl) (by kernel_rfl)) ?_
  intro W base args ds gs before hval0 hW hcnd _
  have hval : ∀ (j : Nat) t v, Try.f6.params[j]? = some t → args[j]? = some v → Value.okWide Try.prog W .any base t v := hval0
  have hW' := hW
  obtain ⟨p, q, hA0, hV, rfl, hfz, hnd⟩ := hW
  have hA : DataW.TrodAll enc Try.prog W 0 (fun _ => true) true Try.f6.params.toList args.toList ds p := hA0
  rw [Try.params6] at hA hval
  obtain ⟨v0, vs0, d0, ds0, p0, q0, hargs, rfl, rfl, h0, r0⟩ := trodAll_cons hA
  obtain ⟨v1, vs1, d1, ds1, p1, q1, rfl, rfl, rfl, h1, r1⟩ := trodAll_cons r0
  obtain ⟨v2, vs2, d2, ds2, p2, q2, rfl, rfl, rfl, h2, r2⟩ := trodAll_cons r1
  obtain ⟨v3, vs3, d3, ds3, p3, q3, rfl, rfl, rfl, h3, r3⟩ := trodAll_cons r2
  obtain ⟨v4, vs4, d4, ds4, p4, q4, rfl, rfl, rfl, h4, r4⟩ := trodAll_cons r3
  obtain ⟨rfl, rfl, rfl⟩ := trodAll_nil r4
  obtain rfl : args = #[v0, v1, v2, v3, v4] := by cases args; simp_all
  obtain ⟨rfl, rfl⟩ := trodVars_none hV
  obtain ⟨n0, rfl, rfl, rfl, wn0⟩ := open_int Try.underlying3 (hval 0 3 v0 rfl rfl) h0
  obtain ⟨a1, l1, c1, ks1, rfl, hk1, _, _⟩ := open_is (okWide_slice Try.underlying25 (hval 1 25 v1 rfl rfl)) h1
  obtain ⟨a2, l2, c2, ks2, rfl, hk2, _, _⟩ := open_is (okWide_slice Try.underlying25 (hval 2 25 v2 rfl rfl)) h2
  obtain ⟨a3, l3, c3, ks3, rfl, hk3, _, _⟩ := open_is (okWide_slice Try.underlying25 (hval 3 25 v3 rfl rfl)) h3
  obtain ⟨a4, l4, c4, ks4, rfl, hk4, hc4, _⟩ := open_is (okWide_slice Try.underlying25 (hval 4 25 v4 rfl rfl)) h4
  refine (metalogKnows_walk n0 hk1 hk2 hk3 hk4 hc4).mono fun e W' ⟨he, hg⟩ => ?_
  subst he
  exact ⟨_, rfl, post_true lawLaid rfl (by kernel_rfl) rfl Try.underlying4 hW' rfl hg.below⟩

/-- ████ THE STATEMENT ████ -/
theorem metalogKnows_holds : Rows.MetalogKnowsSaid :=
  OpenClaim.holds_of_wide 6 Try.f6 rfl rfl rfl rfl rfl rfl rfl ⟨rfl, rfl, rfl, rfl, rfl⟩ rfl rfl rfl rfl rfl (by kernel_rfl) Try.func6 (by kernel_rfl)
    (of_decide_eq_true (by kernel_rfl)) (by unfold Func.isWrapper; first | (rw [if_pos (by decide +kernel)]; kernel_rfl) | (rw [if_neg (by decide +kernel)]; exact ⟨rfl, rfl⟩))
    (fun os started H enc _ => metalogKnows_lifted os started H enc)
end Go.Proofs.Ytnfcfbljdibinaa
