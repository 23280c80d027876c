/- ArrayApart returns true, whatever the script and the call. No conditions. -/
import Derived.Test.YtbidancfbilbkaaA13
import Derived.Test.YtbidancfbilbkaaRows
namespace Go.Proofs.Ytbidancfbilbkaa
open Go Go.Vc Go.ChangeShapes Go.WideShapes Go.ChangeAt Go.RowKit

set_option maxHeartbeats 4000000 in
theorem arrayApart_walk {w : World} {p1 : Option Addr} {l1 c1 : Nat} {L : List CallA} (hL : CallsAAt w p1 l1 L) {cl : CallA} {p7 : Option Addr} {l7 c7 : Nat} {p8 : Option Addr} {l8 c8 : Nat} (hb : BytesAt w p7 l7 cl.b)
    (hK : l8 = cl.keep.length ∧ ∀ (i : Nat) (ks : List Int), cl.keep[i]? = some ks → ∃ a q n c, p8 = some a ∧ w.cell? (a.add (i * 1)) = some (.slice q n c) ∧ IntsAt w q n ks)
    (hn : -9223372036854775808 ≤ cl.n ∧ cl.n ≤ 9223372036854775807) (hm : -9223372036854775808 ≤ cl.m ∧ cl.m ≤ 9223372036854775807) :
    Calls Try.prog 6 #[.slice p1 l1 c1, .agg #[.int .i64 cl.kind, .int .i64 cl.d, .int .i64 cl.n, .int .i64 cl.m, .int .u8 (cl.y.toNat : Int), .slice p7 l7 c7, .slice p8 l8 c8]] w fun e w' => e = .returned (.bool true) ∧ Ext w w' := by
  have hlen : (doneA (begA 4 8) (L.take 50)).M.length = 4 := doneA_len _ _
  generalize hs : doneA (begA 4 8) (L.take 50) = s at hlen
  refine (F6_calls p1 l1 c1 cl.kind cl.d cl.n cl.m (cl.y.toNat : Int) p7 l7 c7 p8 l8 c8 w (fun v w' => v = .bool true ∧ Ext w w')
    (fun _ _ _ w30 p35 l35 c35 p36 l36 c36 n37 w38 => ∃ i : Nat, n37 = i ∧ i ≤ 4 ∧ Ext w30 w38 ∧ Two w38 w30.heap.size p35 l35 c35 p36 l36 c36 ((s.M.take i).map fun m => m.d.lasts) ((s.M.take i).map fun m => m.d.waits))
    (fun _ _ _ _ _ _ _ _ _ _ n37 _ => 4 - n37.toNat)
    (fun _ _ _ _ _ _ _ _ _ w78 n89 w90 => ∃ i : Nat, n89 = i ∧ i ≤ 4 ∧ Ext w78 w90) (fun _ _ _ _ _ _ _ _ _ _ n89 _ => 4 - n89.toNat) ?_).mono (by rintro e w' ⟨v, rfl, rfl, h⟩; exact ⟨rfl, h⟩)
  intro k9 w10 hk9
  have r10 : RowW w10 k9 _ := ⟨_, hk9.at⟩
  have x10 := hk9.ext
  refine (awake_spec w10).mono ?_
  rintro e w11 ⟨rfl, x11⟩
  refine ⟨true, rfl, ?_⟩
  refine (anew_good (n := 4) (s := 8) ⟨by omega, by omega⟩ ⟨by omega, by omega⟩ w11).mono ?_
  rintro e w14 ⟨a, F, rfl, x14, h14, hF⟩
  have y14 := (x10.trans x11).trans x14
  have z14 := x11.trans x14
  replace hF : ∀ x, F x → w10.heap.size ≤ x := fun x hx => Nat.le_trans x11.size (hF x hx)
  have r14 := z14.rowW r10 id
  have hk10 := hk9.size
  refine ⟨_, _, rfl, condB_of (fun h => by simp at h) fun _ => condB_of (fun h => by simp at h) fun _ => ?_⟩
  refine ⟨_, r14.row.cell (n := 0) rfl, _, r14.row.cell rfl, _, r14.row.cell rfl, _, r14.row.cell rfl, _, r14.row.cell rfl, _, _, _, r14.row.cell rfl, _, _, _, r14.row.cell rfl, ?_⟩
  have hK14 : l8 = cl.keep.length ∧ ∀ (i : Nat) (ks : List Int), cl.keep[i]? = some ks → ∃ a q n c, p8 = some a ∧ w14.cell? (a.add (i * 1)) = some (.slice q n c) ∧ IntsAt w14 q n ks :=
    ⟨hK.1, fun i ks hi => by
      obtain ⟨a, q, n, c, g1, g2, g3⟩ := hK.2 i ks hi
      exact ⟨a, q, n, c, g1, cellx g2 y14, g3.1, g3.2.ext y14⟩⟩
  refine (smallA_spec (w := w14) cl.kind cl.d cl.n cl.m (cl.y.toNat : Int) hK14).mono ?_
  rintro e w25 ⟨rfl, x25⟩
  have y25 := y14.trans x25
  have z25 := z14.trans x25
  have r25 := x25.rowW r14 id
  refine ⟨_, rfl, condB_of (fun _ => ⟨rfl, y25⟩) fun hsm => ⟨_, r25.row.cell rfl, condB_of (fun _ => ⟨rfl, y25⟩) fun e3 => ⟨_, r25.row.cell rfl, condB_of (fun _ => ⟨rfl, y25⟩) fun e5 => ?_⟩⟩⟩
  simp only [Bool.not_eq_false', decide_eq_true_eq] at hsm
  simp only [decide_eq_false_iff_not] at e3 e5
  have h25 : IsA w25 a (begA 4 8) F := IsArr.ext h14 x25
  have hF0 : ∀ x, F x → w.heap.size ≤ x := fun x hx => Nat.le_trans x10.size (hF x hx)
  refine (doneA_spec (w0 := w) h25 (begA_ok (by omega)) y25 hF0 (hL.two y25) (fun ap hap hne hf => by have := calls_block hL hap hne; have := hF0 _ hf; omega)).mono ?_
  rintro e w30 ⟨rfl, F30, s30, h30, ho30⟩
  rw [hs] at h30 ho30
  obtain ⟨y30, hF30⟩ := ext_stepA y25 s30 hF0
  obtain ⟨z30, hG30⟩ := ext_stepA z25 s30 hF
  have r30 := z30.rowW r10 id
  refine ⟨rfl, ⟨0, rfl, by omega, Upd.refl _ _, Two.nil _ _⟩, ?_⟩
  rintro p35 l35 c35 p36 l36 c36 n37 w38 ⟨i, rfl, hi, x38, t38⟩
  intros
  have e29 := t38.one.length
  have e30 := t38.two.length
  simp only [List.length_map, List.length_take] at e29 e30
  refine condB_of (fun hlt => ?_) (fun hge => ?_)
  · simp only [decide_eq_true_eq] at hlt
    obtain ⟨m, hm⟩ : ∃ m, s.M[i]? = some m := ⟨s.M[i]'(by omega), List.getElem?_eq_getElem _⟩
    refine (alasts_spec (IsArr.ext h30 x38) hm).mono ?_
    rintro e w49 ⟨p51, l51, c51, rfl, x49, held⟩
    refine ⟨_, _, _, rfl, fun k52 w53 hk52 => ?_⟩
    obtain ⟨p55, c55, w54, hr, t54, k54⟩ := (t38.ext x49).app1 (by omega) (x38.trans x49).size (held.base_le x38.size) hk52
    have x54 : Ext w30 w54 := k54 w30 (x38.trans x49) (Nat.le_refl _)
    refine ⟨p55, l35 + 1, c55, w54, hr, ?_⟩
    refine (awaits_spec (IsArr.ext h30 x54) hm).mono ?_
    rintro e w56 ⟨p58, l58, c58, rfl, x56, held2⟩
    refine ⟨_, _, _, rfl, fun k59 w60 hk59 => ?_⟩
    obtain ⟨p62, c62, w61, hr2, t61, k61⟩ := (t54.ext x56).app2 (by omega) (x54.trans x56).size (held2.base_le x54.size) hk59
    have x61 : Ext w30 w61 := k61 w30 (x54.trans x56) (Nat.le_refl _)
    refine ⟨p62, l36 + 1, c62, w61, hr2, ?_⟩
    rw [w64 (by omega)]
    refine ⟨⟨i + 1, by omega, by omega, x61, ?_⟩, by show 4 - ((i : Int) + 1).toNat < 4 - (i : Int).toNat; omega⟩
    rw [List.take_add_one, hm, List.map_append, List.map_append]
    exact t61
  simp only [decide_eq_false_iff_not] at hge
  have hi4 : i = 4 := by omega
  subst hi4
  have etake : s.M.take 4 = s.M := List.take_of_length_le (by omega)
  rw [etake] at t38
  have h38 : IsA w38 a s F30 := IsArr.ext h30 x38
  have r38 := x38.rowW r30 id
  refine ⟨_, r38.row.cell (n := 0) rfl, _, r38.row.cell rfl, _, r38.row.cell rfl, _, r38.row.cell rfl, _, r38.row.cell rfl, _, _, _, r38.row.cell rfl, _, _, _, r38.row.cell rfl, fun k76 w77 hk76 => ?_⟩
  have h77 : IsA w77 a s F30 := IsArr.ext h38 hk76.ext
  have y77 := (y30.trans x38).trans hk76.ext
  have r77 : RowW w77 k76 _ := ⟨_, hk76.at⟩
  have hk77 := hk76.size
  have hlt38 := h38.lt
  have hC : CallsA2 w77 w (some (at0 k76)) 1 [cl] := by
    refine ⟨rfl, fun j c hj => ?_⟩
    match j, hj with
    | 0, hj =>
      cases hj
      exact ⟨at0 k76, p7, l7, c7, p8, l8, c8, rfl, r77.row.cell (n := 0) rfl, r77.row.cell (n := 1) rfl, r77.row.cell (n := 2) rfl, r77.row.cell (n := 3) rfl, r77.row.cell (n := 4) rfl, r77.row.cell (n := 5) rfl, hb, r77.row.cell (n := 6) rfl, hK, hn, hm⟩
  refine (doneA_spec (w0 := w) h77 ho30 y77 hF30 hC (fun ap hap _ hf => by cases hap; have := hlt38 _ hf; have : (at0 k76).block = k76 := rfl; omega)).mono ?_
  rintro e w78 ⟨rfl, F78, s78, h78, _⟩
  have hsm' : smallA cl := by
    have e1 := hb.1
    have e2 := hK.1
    unfold smallA
    rw [← e1, ← e2]
    exact hsm
  have hd1 : doneA s ([cl].take 50) = callA s cl := by
    show (if smallA cl then callA s cl else s) = _
    rw [if_pos hsm']
  rw [hd1] at h78
  have hlen2 : (callA s cl).M.length = 4 := by rw [callA_len]; exact hlen
  have hlt30 := h30.lt
  have t78 := (t38.ext hk76.ext).upd s78.upd fun y hy _ hf => by have := hlt30 y hf; omega
  have x1077 : Ext w10 w77 := (z30.trans x38).trans hk76.ext
  have r78 := s78.upd.rowW (x1077.rowW r10 id) fun hf => by have := hG30 _ hf; omega
  obtain ⟨y78, hF78⟩ := ext_stepA y77 s78 hF30
  refine ⟨rfl, ⟨0, rfl, by omega, Upd.refl _ _⟩, ?_⟩
  rintro n89 w90 ⟨i, rfl, hi', x90⟩
  intros
  refine condB_of (fun hlt => ?_) (fun hge => ⟨rfl, y78.trans x90⟩)
  simp only [decide_eq_true_eq] at hlt
  intro w126 d126
  have x126 := x90.trans d126.ext
  obtain ⟨m, hm0⟩ : ∃ m, s.M[i]? = some m := ⟨s.M[i]'(by omega), List.getElem?_eq_getElem _⟩
  obtain ⟨m', hm'⟩ : ∃ m, (callA s cl).M[i]? = some m := ⟨(callA s cl).M[i]'(by omega), List.getElem?_eq_getElem _⟩
  have hfew := h30.few hm0
  have hfew' := IsArr.few h78 hm'
  obtain ⟨a1, q, n, d, rfl, ca, held⟩ := (t78.one.ext x126).at (i := i) (L := m.d.lasts) (by rw [List.getElem?_map, hm0]; rfl)
  refine ⟨⟨by omega, by omega⟩, q, n, d, by rw [Int.toNat_natCast]; exact ca, ?_⟩
  refine (alasts_spec (IsArr.ext h78 x126) hm').mono ?_
  rintro e w129 ⟨p131, l131, c131, rfl, x129, held1⟩
  refine ⟨_, _, _, rfl, ⟨_, _, _, by rw [Int.toNat_natCast]; exact cellx ca x129, rfl⟩, ?_⟩
  refine (rsame_spec (held1.read hfew'.1) ((held.ext x129).read hfew.1)).mono ?_
  rintro e w133 ⟨rfl, x133⟩
  refine ⟨_, rfl, fun w136 d136 => ?_⟩
  have x136 := ((x126.trans x129).trans x133).trans d136.ext
  obtain ⟨a2, q2, n2, d2, rfl, ca2, held3⟩ := (t78.two.ext x136).at (i := i) (L := m.d.waits) (by rw [List.getElem?_map, hm0]; rfl)
  refine ⟨⟨by omega, by omega⟩, q2, n2, d2, by rw [Int.toNat_natCast]; exact ca2, ?_⟩
  refine (awaits_spec (IsArr.ext h78 x136) hm').mono ?_
  rintro e w139 ⟨p141, l141, c141, rfl, x139, held2⟩
  refine ⟨_, _, _, rfl, ⟨_, _, _, by rw [Int.toNat_natCast]; exact cellx ca2 x139, rfl⟩, ?_⟩
  refine (rsame_spec (held2.read hfew'.2) ((held3.ext x139).read hfew.2)).mono ?_
  rintro e w143 ⟨rfl, x143⟩
  have x78143 := (x136.trans x139).trans x143
  have next : (∃ j : Nat, IntKind.i64.wrap ((i : Int) + 1) = j ∧ j ≤ 4 ∧ Ext w78 w143) ∧ 4 - (IntKind.i64.wrap ((i : Int) + 1)).toNat < 4 - (i : Int).toNat := by
    rw [w64 (by omega)]
    exact ⟨⟨i + 1, by omega, by omega, x78143⟩, by omega⟩
  have r143 := x78143.rowW r78 id
  refine ⟨_, rfl, _, r143.row.cell rfl, condB_of (fun hne => ?_) fun _ => next⟩
  simp only [Bool.not_eq_true', decide_eq_false_iff_not] at hne
  have hsame := callA_other (s := s) hne e3 e5
  rw [hm0, hm'] at hsame
  cases hsame
  exact condB_of (fun h => by simp at h) fun _ => condB_of (fun h => by simp at h) fun _ => next
set_option maxRecDepth 100000 in
theorem arrayApart_lifted (os : Os) (started : os.Started) (H : Type) (enc : TypeId × Value → H) :
    ReturnsInHanded {} Try.checked os 6 .any (Rows.arrayApartSpec.pre6 enc Try.prog Try.f6 Rows.arrayApartRow.domain false) (Rows.arrayApartSpec.post enc Try.prog Try.f6 false true false false) := by
  refine returnsInHanded_of_change (C := Try.checked) lawOwn started (by kernel_rfl) Try.func6
    (ChangeSpec.witness6 (enc := enc) (C := Try.checked) false ⟨#[], #[.slice none 0 0, .agg #[.int .i64 0, .int .i64 0, .int .i64 0, .int .i64 0, .int .u8 0, .slice none 0 0, .slice none 0 0]], []⟩ 8 (by kernel_rfl) (by kernel_rfl) (by kernel_rfl) (by kernel_rfl)) ?_
  intro W base args ds gs before hval0 hW hcnd _
  have hval : ∀ (j : Nat) t v, Try.f6.params[j]? = some t → args[j]? = some v → Value.okWide Try.prog W .any base t v := hval0
  have hW' := hW
  obtain ⟨p, q, hA0, hV, rfl, hfz, hnd⟩ := hW
  have hA : DataW.TrodAll enc Try.prog W 0 (fun _ => true) true Try.f6.params.toList args.toList ds p := hA0
  rw [Try.params6] at hA hval
  obtain ⟨v0, vs0, d0, ds0, p0, q0, hargs, rfl, rfl, h0, r0⟩ := trodAll_cons hA
  obtain ⟨v1, vs1, d1, ds1, p1, q1, rfl, rfl, rfl, h1, r1⟩ := trodAll_cons r0
  obtain ⟨rfl, rfl, rfl⟩ := trodAll_nil r1
  obtain rfl : args = #[v0, v1] := by cases args; simp_all
  obtain ⟨rfl, rfl⟩ := trodVars_none hV
  obtain ⟨a0, l0, c0, L0, rfl, hL0⟩ := open_script (okWide_slice Try.underlying37 (hval 0 37 v0 rfl rfl)) h0
  obtain ⟨cl1, pb1, lb1, cb1, pk1, lk1, ck1, rfl, hb1, hk1, hn1, hm1⟩ := open_call (okWide_struct Try.underlying44 (hval 1 44 v1 rfl rfl)) h1
  refine (arrayApart_walk hL0 hb1 hk1 hn1 hm1).mono fun e W' ⟨he, hg⟩ => ?_
  subst he
  exact ⟨_, rfl, post_true lawLaid rfl (by kernel_rfl) rfl Try.underlying4 hW' rfl hg.below⟩

/-- ████ THE STATEMENT ████ -/
theorem arrayApart_holds : Rows.ArrayApartSaid :=
  OpenClaim.holds_of_wide 6 Try.f6 rfl rfl rfl rfl rfl rfl rfl ⟨rfl, rfl, rfl, rfl, rfl⟩ rfl rfl rfl rfl rfl (by kernel_rfl) Try.func6 (by kernel_rfl)
    (of_decide_eq_true (by kernel_rfl)) (by unfold Func.isWrapper; first | (rw [if_pos (by decide +kernel)]; kernel_rfl) | (rw [if_neg (by decide +kernel)]; exact ⟨rfl, rfl⟩))
    (fun os started H enc _ => arrayApart_lifted os started H enc)
end Go.Proofs.Ytbidancfbilbkaa
