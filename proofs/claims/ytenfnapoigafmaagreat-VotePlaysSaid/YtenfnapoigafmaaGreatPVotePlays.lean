import Derived.Test.YtenfnapoigafmaaGreatMX
import Derived.Test.YtenfnapoigafmaaGreatRows
/- VotePlays returns true, whatever the script. No conditions. -/
namespace Go.Proofs.YtenfnapoigafmaaGreat
open Go Go.Vc Go.ChangeShapes Go.WideShapes Go.ChangeAt Go.RowKit

def PlayI (w : World) (pa pr : Option Addr) (n17 : Int) (w18 : World) : Prop :=
  ∃ (i a r : Nat) (s : StA) (F G : Nat → Prop), pa = some (at0 a) ∧ pr = some (at0 r) ∧ n17 = i ∧ i ≤ 30 ∧ Ext w w18 ∧ (∀ x, F x ∨ G x → w.heap.size ≤ x) ∧ Pair w18 a r s F G ∧ OkA s ∧ 1 ≤ s.M.length

set_option maxHeartbeats 4000000 in
theorem votePlays_walk (n1 : Int) {w : World} {p2 : Option Addr} {l2 c2 : Nat} {L : List CallV} (hL : CallsVAt w p2 l2 L) :
    Calls Tryz.prog 3 #[.int .i64 n1, .slice p2 l2 c2] w fun e w' => e = .returned (.bool true) ∧ Ext w w' := by
  refine (F3_calls n1 p2 l2 c2 w (fun v w' => v = .bool true ∧ Ext w w') (fun pa pr _ n16 w17 => PlayI w pa pr n16 w17) (fun _ _ _ n16 _ => 50 - n16.toNat) ?_).mono (by rintro e w' ⟨v, rfl, rfl, h⟩; exact ⟨rfl, h⟩)
  unfold F3
  refine (awake_spec w).mono ?_
  rintro e w3 ⟨rfl, x3⟩
  refine ⟨true, rfl, condB_f rfl (condB_of (fun _ => ⟨rfl, x3⟩) fun h1 => condB_of (fun _ => ⟨rfl, x3⟩) fun h2 => ?_)⟩
  simp only [decide_eq_false_iff_not] at h1 h2
  refine (both_good (n := n1) (s := 12) ⟨by omega, by omega⟩ ⟨by omega, by omega⟩ w3).mono ?_
  rintro e w6 ⟨a, rfl, hc⟩
  refine ⟨_, _, rfl, hc.mono ?_⟩
  rintro e w10 ⟨r, F, G, rfl, x10, hP, hok, hlen, hFG⟩
  refine ⟨_, _, rfl, condB_f rfl (condB_f rfl (condB_f (by simp) (condB_f (by simp) ⟨⟨0, a, r, _, F, G, rfl, rfl, rfl, by omega, x3.trans x10, fun x h => Nat.le_trans x3.size (hFG x h), hP, hok, hlen⟩, ?_⟩)))⟩
  clear hP hok hlen hFG
  rintro n16 w17 ⟨i, a', r', s, F, G, e1, e2, rfl, hi, x17, hFG, hP, hok, hlen⟩
  simp only [Option.some.injEq, at0, Addr.mk.injEq, and_true] at e1 e2
  subst e1
  subst e2
  intros
  refine condB_of (fun hlt => ?_) (fun _ => ⟨rfl, x17⟩)
  refine condB_of (fun hlt30 => ?_) (fun _ => ⟨rfl, x17⟩)
  simp only [decide_eq_true_eq] at hlt hlt30
  obtain ⟨cl, hcl⟩ : ∃ cl, L[i]? = some cl := ⟨L[i]'(by have := hL.1; omega), List.getElem?_eq_getElem _⟩
  obtain ⟨ap, p3, l3, c3, p4, l4, c4, p5, l5, c5, p6, l6, c6, rfl, hv⟩ := hL.2 i cl hcl
  rw [Int.toNat_natCast]
  have ce : ∀ {w' : World} {b : Addr} {v : Value}, Ext w w' → w.cell? b = some v → w'.cell? b = some v := fun hx hc => hx.cell hc id
  have c5' : ∀ {j : Nat} {v : Value}, w.cell? (((ap.add (i * 12)).add 5).add j) = some v → w.cell? ((ap.add (i * 12)).add (5 + j)) = some v := fun h => by rw [add_add] at h; exact h
  have hwr : IntKind.i64.wrap ((i : Int) + 1) = ((i + 1 : Nat) : Int) := by rw [Go.Vc.w64 (by omega)]; omega
  have mu : 50 - (((i + 1 : Nat) : Int)).toNat < 50 - ((i : Int)).toNat := by omega
  rw [hwr]
  have va := hv.arr
  refine ⟨⟨by omega, hlt⟩, _, ce x17 hv.kind, _, ce x17 hv.n, _, ce x17 hv.m, _, _, _, ce x17 hv.dat, _, _, _, ce x17 hv.kn, _, ce x17 va.kind, _, ce x17 (c5' va.d), _, ce x17 (c5' va.n), _, ce x17 (c5' va.m), _, ce x17 (c5' va.y), _, _, _, ce x17 (c5' va.b), _, _, _, ce x17 (c5' va.keep), ?_⟩
  refine (smallV_spec _ _ _ _ _ _ _ _ _ _ _ _ _ _ _ _ _ _ _ _ w17).mono ?_
  rintro e w66 ⟨rfl, x66⟩
  have y66 := x17.trans x66
  refine ⟨_, rfl, condB_of (fun _ => ⟨⟨i + 1, a, r, s, F, G, rfl, rfl, rfl, by omega, y66, hFG, hP.ext x66, hok, hlen⟩, mu⟩) fun hsm => ?_⟩
  simp only [Bool.not_eq_false', decide_eq_true_eq] at hsm
  refine ⟨⟨by omega, hlt⟩, _, ce y66 hv.kind, _, ce y66 hv.n, _, ce y66 hv.m, _, _, _, ce y66 hv.dat, _, _, _, ce y66 hv.kn, _, ce y66 va.kind, _, ce y66 (c5' va.d), _, ce y66 (c5' va.n), _, ce y66 (c5' va.m), _, ce y66 (c5' va.y), _, _, _, ce y66 (c5' va.b), _, _, _, ce y66 (c5' va.keep), ?_⟩
  refine (didV_spec (w0 := w) (hP.ext x66) hok hlen y66 (fun x hx => hFG x (.inl hx)) (fun x hx => hFG x (.inr hx)) hv.bytes (by omega) hv.bools va.bytes va.ints va.nr va.mr hv.kl).mono ?_
  rintro e w82 ⟨rfl, s', F', G', hP', hst, hok', hlen'⟩
  obtain ⟨y82, hFG'⟩ := ext_stepA y66 hst hFG
  refine ⟨_, rfl, (shows_spec hP' hok' (by omega)).mono ?_⟩
  rintro e w85 ⟨rfl, x85⟩
  exact ⟨_, rfl, condB_f rfl (condB_f rfl ⟨⟨i + 1, a, r, s', F', G', rfl, rfl, rfl, by omega, y82.trans x85, hFG', hP'.ext x85, hok', by omega⟩, mu⟩)⟩
set_option maxRecDepth 100000 in
theorem votePlays_lifted (os : Os) (started : os.Started) (H : Type) (enc : TypeId × Value → H) :
    ReturnsInHanded {} Tryz.checked os 3 .any (Rows.votePlaysSpec.pre6 enc Tryz.prog Tryz.f3 Rows.votePlaysRow.domain false) (Rows.votePlaysSpec.post enc Tryz.prog Tryz.f3 false true false false) := by
  refine returnsInHanded_of_change (C := Tryz.checked) lawOwn started (by kernel_rfl) Tryz.func3
    (ChangeSpec.witness6 (enc := enc) (C := Tryz.checked) false ⟨#[], #[.int .i64 0, .slice none 0 0], []⟩ 8 (by kernel_rfl) (by kernel_rfl) (by kernel_rfl) (by kernel_rfl)) ?_
  intro W base args ds gs before hval0 hW hcnd _
  have hval : ∀ (j : Nat) t v, Tryz.f3.params[j]? = some t → args[j]? = some v → Value.okWide Tryz.prog W .any base t v := hval0
  have hW' := hW
  obtain ⟨p, q, hA0, hV, rfl, hfz, hnd⟩ := hW
  have hA : DataW.TrodAll enc Tryz.prog W 0 (fun _ => true) true Tryz.f3.params.toList args.toList ds p := hA0
  rw [Tryz.params3] at hA hval
  obtain ⟨v0, vs0, d0, ds0, p0, q0, hargs, rfl, rfl, h0, r0⟩ := trodAll_cons hA
  obtain ⟨v1, vs1, d1, ds1, p1, q1, rfl, rfl, rfl, h1, r1⟩ := trodAll_cons r0
  obtain ⟨rfl, rfl, rfl⟩ := trodAll_nil r1
  obtain rfl : args = #[v0, v1] := by cases args; simp_all
  obtain ⟨rfl, rfl⟩ := trodVars_none hV
  obtain ⟨n0, rfl, rfl, rfl, wn0⟩ := open_int Tryz.underlying3 (hval 0 3 v0 rfl rfl) h0
  obtain ⟨a1, l1, c1, L1, rfl, hL1⟩ := open_scriptV (okWide_slice Tryz.underlying22 (hval 1 22 v1 rfl rfl)) h1
  refine (votePlays_walk n0 hL1).mono fun e W' ⟨he, hg⟩ => ?_
  subst he
  exact ⟨_, rfl, post_true lawLaid rfl (by kernel_rfl) rfl Tryz.underlying4 hW' rfl hg.below⟩

/-- ████ THE STATEMENT ████ -/
theorem votePlays_holds : Rows.VotePlaysSaid :=
  OpenClaim.holds_of_wide 3 Tryz.f3 rfl rfl rfl rfl rfl rfl rfl ⟨rfl, rfl, rfl, rfl, rfl⟩ rfl rfl rfl rfl rfl (by kernel_rfl) Tryz.func3 (by kernel_rfl)
    (of_decide_eq_true (by kernel_rfl)) (by unfold Func.isWrapper; first | (rw [if_pos (by decide +kernel)]; kernel_rfl) | (rw [if_neg (by decide +kernel)]; exact ⟨rfl, rfl⟩))
    (fun os started H enc _ => votePlays_lifted os started H enc)
end Go.Proofs.YtenfnapoigafmaaGreat
