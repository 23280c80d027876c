/- ArrayPlays returns true, whatever the script. No conditions. -/
import Derived.Test.YtbidancfbilbkaaR11
import Derived.Test.YtbidancfbilbkaaGs
import Derived.Test.YtbidancfbilbkaaRows
namespace Go.Proofs.Ytbidancfbilbkaa
open Go Go.Vc Go.ChangeShapes Go.WideShapes Go.ChangeAt Go.RowKit

def PlayI (w : World) (pa pr : Option Addr) (n17 : Int) (w18 : World) : Prop :=
  ∃ (i a r : Nat) (s : StA) (F G : Nat → Prop), pa = some (at0 a) ∧ pr = some (at0 r) ∧ n17 = i ∧ i ≤ 50 ∧ Ext w w18 ∧ (∀ x, F x ∨ G x → w.heap.size ≤ x) ∧ Pair w18 a r s F G ∧ OkA s ∧ 1 ≤ s.M.length

set_option maxHeartbeats 4000000 in
theorem plays_rest {w w0 w11 : World} {p3 : Option Addr} {l3 : Nat} {L : List CallA} (hL : CallsAAt w p3 l3 L) (x0 : Ext w w0) {p q : Option Addr} {e f : Int} (hm : Made w0 w11 p e q f) :
    F5s_A1 (.returned (.tuple #[.pointer q, .int .i64 f])) true w11 e p l3 p3 (fun v w' => v = .bool true ∧ Ext w w') (fun pa pr _ n17 w18 => PlayI w pa pr n17 w18) (fun _ _ _ n17 _ => 50 - n17.toNat) := by
  rcases hm with ⟨rfl, rfl, rfl, rfl, hx⟩ | ⟨rfl, rfl, a, r, s, F, G, rfl, rfl, hx, hP, hok, hlen, hFG⟩
  · exact ⟨_, _, rfl, condB_of (fun h => by cases h) fun _ => condB_of (fun h => by simp at h) fun _ => condB_of (fun h => by simp at h) fun _ => condB_of (fun _ => ⟨rfl, x0.trans hx⟩) fun h => by simp at h⟩
  · refine ⟨_, _, rfl, condB_of (fun h => by cases h) fun _ => condB_of (fun h => by simp at h) fun _ => condB_of (fun h => by simp at h) fun _ => condB_of (fun h => by cases h) fun _ => ⟨⟨0, a, r, s, F, G, rfl, rfl, rfl, by omega, x0.trans hx, fun x h => Nat.le_trans x0.size (hFG x h), hP, hok, hlen⟩, ?_⟩⟩
    clear hP hok hlen hFG
    rintro n17 w18 ⟨i, a', r', s, F, G, e1, e2, rfl, hi, x18, hFG, hP, hok, hlen⟩
    simp only [Option.some.injEq, at0, Addr.mk.injEq, and_true] at e1 e2
    subst e1
    subst e2
    intros
    refine condB_of (fun hlt => ?_) (fun _ => ⟨rfl, x18⟩)
    refine condB_of (fun hlt50 => ?_) (fun _ => ⟨rfl, x18⟩)
    simp only [decide_eq_true_eq] at hlt hlt50
    obtain ⟨cl, hcl⟩ : ∃ cl, L[i]? = some cl := ⟨L[i]'(by have := hL.1; omega), List.getElem?_eq_getElem _⟩
    obtain ⟨ap, p5, l5, c5, p6, l6, c6, rfl, hv⟩ := hL.2 i cl hcl
    rw [Int.toNat_natCast]
    have hv18 := hv.ext x18
    refine ⟨⟨by omega, hlt⟩, _, hv18.kind, _, hv18.d, _, hv18.n, _, hv18.m, _, hv18.y, _, _, _, hv18.b, _, _, _, hv18.keep, ?_⟩
    refine (smallA_spec (w := w18) _ _ _ _ _ (p5 := p5) (l5 := l5) (c5 := c5) hv18.ints).mono ?_
    rintro e w62 ⟨rfl, x62⟩
    have y62 := x18.trans x62
    have hwr : IntKind.i64.wrap ((i : Int) + 1) = ((i + 1 : Nat) : Int) := by rw [Go.Vc.w64 (by omega)]; omega
    have mu : 50 - (((i + 1 : Nat) : Int)).toNat < 50 - ((i : Int)).toNat := by omega
    rw [hwr]
    refine ⟨_, rfl, condB_of (fun _ => ⟨⟨i + 1, a, r, s, F, G, rfl, rfl, rfl, by omega, y62, hFG, hP.ext x62, hok, hlen⟩, mu⟩) fun hsm => ?_⟩
    simp only [Bool.not_eq_false', decide_eq_true_eq] at hsm
    have hv62 := hv.ext y62
    refine ⟨⟨by omega, hlt⟩, _, hv62.kind, _, hv62.d, _, hv62.n, _, hv62.m, _, hv62.y, _, _, _, hv62.b, _, _, _, hv62.keep, ?_⟩
    refine (did_spec (w0 := w) (hP.ext x62) hok y62 (fun x hx => hFG x (.inl hx)) (fun x hx => hFG x (.inr hx)) hv.bytes hv.ints hv.mr hsm.2.2).mono ?_
    rintro e w73 ⟨rfl, F', G', hP', hst⟩
    obtain ⟨y73, hFG'⟩ := ext_stepA y62 hst hFG
    have hok' := hok.call hv.nr
    have hlen' : 1 ≤ (callA s cl).M.length := by rw [callA_len]; exact hlen
    refine ⟨_, rfl, (shows_spec hP' hok' hlen').mono ?_⟩
    rintro e w76 ⟨rfl, x76⟩
    exact ⟨_, rfl, condB_of (fun h => by cases h) fun _ => condB_of (fun h => by cases h) fun _ => ⟨⟨i + 1, a, r, callA s cl, F', G', rfl, rfl, rfl, by omega, y73.trans x76, hFG', hP'.ext x76, hok', hlen'⟩, mu⟩⟩

theorem arrayPlays_walk (n1 n2 : Int) {w : World} {p3 : Option Addr} {l3 c3 : Nat} {L : List CallA} (hL : CallsAAt w p3 l3 L) :
    Calls Try.prog 5 #[.int .i64 n1, .int .i64 n2, .slice p3 l3 c3] w fun e w' => e = .returned (.bool true) ∧ Ext w w' := by
  refine (F5s_calls n1 n2 p3 l3 c3 w (fun v w' => v = .bool true ∧ Ext w w') (fun pa pr _ n17 w18 => PlayI w pa pr n17 w18) (fun _ _ _ n17 _ => 50 - n17.toNat) ?_).mono (by rintro e w' ⟨v, rfl, rfl, h⟩; exact ⟨rfl, h⟩)
  unfold F5s
  refine (awake_spec w).mono ?_
  rintro e w4 ⟨rfl, x4⟩
  have a0 : F5s_A0 n1 n2 w4 true l3 p3 (fun v w' => v = .bool true ∧ Ext w w') (fun pa pr _ n17 w18 => PlayI w pa pr n17 w18) (fun _ _ _ n17 _ => 50 - n17.toNat) := by
    unfold F5s_A0
    exact both_new n1 n2 w4 (T := fun w7 p9 n10 w11 e12 => F5s_A1 e12 true w11 n10 p9 l3 p3 (fun v w' => v = .bool true ∧ Ext w w') (fun pa pr _ n17 w18 => PlayI w pa pr n17 w18) (fun _ _ _ n17 _ => 50 - n17.toNat)) fun w1 w2 p e q f hm => plays_rest hL x4 hm
  refine ⟨true, rfl, condB_of (fun _ => condB_of (fun _ => ?_) fun _ => a0) fun _ => a0⟩
  exact both_new 8 n2 w4 (T := fun w7 p9 n10 w11 e12 => F5s_A1 e12 true w11 n10 p9 l3 p3 (fun v w' => v = .bool true ∧ Ext w w') (fun pa pr _ n17 w18 => PlayI w pa pr n17 w18) (fun _ _ _ n17 _ => 50 - n17.toNat)) fun w1 w2 p e q f hm => plays_rest hL x4 hm
set_option maxRecDepth 100000 in
theorem arrayPlays_lifted (os : Os) (started : os.Started) (H : Type) (enc : TypeId × Value → H) :
    ReturnsInHanded {} Try.checked os 5 .any (Rows.arrayPlaysSpec.pre6 enc Try.prog Try.f5 Rows.arrayPlaysRow.domain false) (Rows.arrayPlaysSpec.post enc Try.prog Try.f5 false true false false) := by
  refine returnsInHanded_of_change (C := Try.checked) lawOwn started (by kernel_rfl) Try.func5
    (ChangeSpec.witness6 (enc := enc) (C := Try.checked) false ⟨#[], #[.int .i64 0, .int .i64 0, .slice none 0 0], []⟩ 8 (by kernel_rfl) (by kernel_rfl) (by kernel_rfl) (by kernel_rfl)) ?_
  intro W base args ds gs before hval0 hW hcnd _
  have hval : ∀ (j : Nat) t v, Try.f5.params[j]? = some t → args[j]? = some v → Value.okWide Try.prog W .any base t v := hval0
  have hW' := hW
  obtain ⟨p, q, hA0, hV, rfl, hfz, hnd⟩ := hW
  have hA : DataW.TrodAll enc Try.prog W 0 (fun _ => true) true Try.f5.params.toList args.toList ds p := hA0
  rw [Try.params5] at hA hval
  obtain ⟨v0, vs0, d0, ds0, p0, q0, hargs, rfl, rfl, h0, r0⟩ := trodAll_cons hA
  obtain ⟨v1, vs1, d1, ds1, p1, q1, rfl, rfl, rfl, h1, r1⟩ := trodAll_cons r0
  obtain ⟨v2, vs2, d2, ds2, p2, q2, rfl, rfl, rfl, h2, r2⟩ := trodAll_cons r1
  obtain ⟨rfl, rfl, rfl⟩ := trodAll_nil r2
  obtain rfl : args = #[v0, v1, v2] := by cases args; simp_all
  obtain ⟨rfl, rfl⟩ := trodVars_none hV
  obtain ⟨n0, rfl, rfl, rfl, wn0⟩ := open_int Try.underlying3 (hval 0 3 v0 rfl rfl) h0
  obtain ⟨n1, rfl, rfl, rfl, wn1⟩ := open_int Try.underlying3 (hval 1 3 v1 rfl rfl) h1
  obtain ⟨a2, l2, c2, L2, rfl, hL2⟩ := open_script (okWide_slice Try.underlying37 (hval 2 37 v2 rfl rfl)) h2
  refine (arrayPlays_walk n0 n1 hL2).mono fun e W' ⟨he, hg⟩ => ?_
  subst he
  exact ⟨_, rfl, post_true lawLaid rfl (by kernel_rfl) rfl Try.underlying4 hW' rfl hg.below⟩

/-- ████ THE STATEMENT ████ -/
theorem arrayPlays_holds : Rows.ArrayPlaysSaid :=
  OpenClaim.holds_of_wide 5 Try.f5 rfl rfl rfl rfl rfl rfl rfl ⟨rfl, rfl, rfl, rfl, rfl⟩ rfl rfl rfl rfl rfl (by kernel_rfl) Try.func5 (by kernel_rfl)
    (of_decide_eq_true (by kernel_rfl)) (by unfold Func.isWrapper; first | (rw [if_pos (by decide +kernel)]; kernel_rfl) | (rw [if_neg (by decide +kernel)]; exact ⟨rfl, rfl⟩))
    (fun os started H enc _ => arrayPlays_lifted os started H enc)
end Go.Proofs.Ytbidancfbilbkaa
