import Derived.Test.YtnfcfbljdibinaaGreatMY
import Derived.Test.YtnfcfbljdibinaaGreatRows
set_option maxHeartbeats 8000000
namespace Go.Proofs.YtnfcfbljdibinaaGreat
open Go Go.Vc Go.ChangeShapes Go.WideShapes Go.ChangeAt Go.RowKit
open Go.IntKind (i64)
open Go.Value (int)
open Go.Proofs.Tryz (prog)
def QHf (w : World) (g : Geo) (pg pa pr : σ) (n17 : Int) (w18 : World) : Prop :=
 ∃ (i k9 a r B : Nat) (s : StA) (F G : Nat -> Prop), pg = some (at0 k9) /\ pa = some (at0 a) /\ pr = some (at0 r) /\ n17 = i /\ i <= 25 /\ Ext w w18 /\ k9 < B /\ w.heap.size <= B /\ B <= w18.heap.size /\ RowW w18 k9 (Qe1 g) /\ (∀ x, F x \/ G x -> B <= x) /\ QH5 w18 a r s F G /\ OkA s /\ 1 <= s.M.length
theorem QY3 (g : Geo) (n1 : Int) {w : World} {p2 : σ} {l2 c2 : Nat} {L : List Q58} (hL : Qc9 w p2 l2 L) :
  Calls prog 3 #[gV g, int i64 n1, .slice p2 l2 c2] w fun e w' => e = .returned (.bool true) /\ Ext w w' := by
 refine (F3_calls g.k g.m g.size g.stripes g.slots g.objects n1 p2 l2 c2 w (fun v w' => v = .bool true /\ Ext w w') (fun pg pa pr _ n16 w17 => QHf w g pg pa pr n16 w17) (fun _ _ _ _ n16 _ => 50 - n16.toNat) ?_).mono (by rintro e w' ⟨v, rfl, rfl, h⟩; exact ⟨rfl, h⟩)
 intro k9 w10 hk9
 have s9 := hk9.size
 have r9 : RowW w10 k9 (Qe1 g) := ⟨_, hk9.at⟩
 refine (Qc8 w10).mono ?_
 rintro e w11 ⟨rfl, x11⟩
 have q9 := x11.rowW r9 id
 refine ⟨true, rfl, QA0 rfl ⟨_, q9.row.cell (n := 0) rfl, _, q9.c rfl, _, q9.c rfl, _, q9.c rfl, _, q9.c rfl, _, q9.c rfl, (Q69 g w11).mono ?_⟩⟩
 rintro e w20 ⟨bs, rfl, hbs, x20⟩
 have y20 := (hk9.ext.trans x11).trans x20
 have t9 := x20.rowW q9 id
 refine ⟨_, rfl, Q0 (fun _ => ⟨rfl, y20⟩) fun _ => Q0 (fun _ => ⟨rfl, y20⟩) fun h1 => Q0 (fun _ => ⟨rfl, y20⟩) fun h2 => ?_⟩
 simp only [Zb] at h1 h2
 refine (Qf8 (n := n1) (s := 40) ⟨by omega, by omega⟩ ⟨by omega, by omega⟩ w20).mono ?_
 rintro e w23 ⟨a, rfl, hc⟩
 refine ⟨_, _, rfl, hc.mono ?_⟩
 rintro e w27 ⟨r, F, G, rfl, x27, hP, hok, hlen, hFG⟩
 have z20 := t9.lt
 refine ⟨_, _, rfl, QA0 rfl (QA0 rfl (QA0 (by simp) (QA0 (by simp) ⟨⟨0, k9, a, r, w20.heap.size, _, F, G, rfl, rfl, rfl, rfl, by omega, y20.trans x27, z20, y20.size, x27.size, x27.rowW t9 id, hFG, hP, hok, hlen⟩, ?_⟩)))⟩
 clear hP hok hlen hFG t9 q9 r9
 rintro n16 w17 ⟨i, k9', a', r', B, s, F, G, e0, e1, e2, rfl, hi, x17, hkB, hB, hBw, t9, hFG, hP, hok, hlen⟩
 simp only [Zi, at0, Zv, and_true] at e0 e1 e2
 subst e0
 subst e1
 subst e2
 intros
 refine Q0 (fun hlt => ?_) (fun _ => ⟨rfl, x17⟩)
 refine Q0 (fun hlt30 => ?_) (fun _ => ⟨rfl, x17⟩)
 simp only [Za] at hlt hlt30
 obtain ⟨cl, hcl⟩ : ∃ cl, L[i]? = some cl := ⟨L[i]'(by have := hL.1; omega), Zc _⟩
 obtain ⟨ap, p12, l12, c12, p13, l13, c13, p17, l17, c17, p20, l20, c20, p26, l26, c26, p27, l27, c27, rfl, hv⟩ := hL.2 i cl hcl
 try dsimp only
 rw [Ze]
 have hwr : i64.wrap ((i : Int) + 1) = ((i + 1 : Nat) : Int) := by rw [Go.Vc.w64 (by omega)]; omega
 have mu : 50 - (((i + 1 : Nat) : Int)).toNat < 50 - ((i : Int)).toNat := by omega
 rw [hwr]
 have ce : ∀ {w' : World} (j : Nat) (v : Value), Ext w w' -> j < 19 -> (Qdb cl p12 l12 c12 p13 l13 c13 p17 l17 c17 p20 l20 c20 p26 l26 c26 p27 l27 c27).toList[j]? = some v -> w'.cell? ((ap.add (i * 19)).add j) = some v := fun j v hx hj hjv => hx.cell ((hv.cells j hj).trans hjv) id
 refine ⟨⟨by omega, hlt⟩, _, ce 0 _ x17 (by omega) rfl, _, ce 1 _ x17 (by omega) rfl, _, ce 2 _ x17 (by omega) rfl, _, _, _, ce 3 _ x17 (by omega) rfl, _, _, _, ce 4 _ x17 (by omega) rfl, _, ce 5 _ x17 (by omega) rfl, _, ce 6 _ x17 (by omega) rfl, _, ce 7 _ x17 (by omega) rfl, _, _, _, ce 8 _ x17 (by omega) rfl, _, ce 9 _ x17 (by omega) rfl, _, ce 10 _ x17 (by omega) rfl, _, _, _, ce 11 _ x17 (by omega) rfl,
  _, ce 12 _ x17 (by omega) rfl, _, ce 13 _ x17 (by omega) rfl, _, ce 14 _ x17 (by omega) rfl, _, ce 15 _ x17 (by omega) rfl, _, ce 16 _ x17 (by omega) rfl, _, _, _, ce 17 _ x17 (by omega) rfl, _, _, _, ce 18 _ x17 (by omega) rfl, ?_⟩
 refine (QS7 _ _ _ _ _ _ _ _ _ _ _ _ _ _ _ _ _ (hv.obs.ext x17) _ _ _ _ _ _ _ _ _ _ _).mono ?_
 rintro e w66 ⟨bb, rfl, hbb, x66⟩
 have y66 := x17.trans x66
 have u9 := x66.rowW t9 id
 refine ⟨_, rfl, Q0 (fun _ => ⟨⟨i + 1, k9, a, r, B, s, F, G, rfl, rfl, rfl, rfl, by omega, y66, hkB, hB, Zu hBw x66.size, u9, hFG, hP.ext x66, hok, hlen⟩, mu⟩) fun hsm => ?_⟩
 simp only [Zf] at hsm
 obtain ⟨b1, b2, b3, b4, b5, b6⟩ := hbb.1 hsm
 intro w95 d95
 have x95 := d95.ext
 have y95 := y66.trans x95
 have v9 := x95.rowW u9 id
 have hFB : ∀ x, F x \/ G x -> w.heap.size <= x := fun x hx => Zu hB (hFG x hx)
 refine ⟨_, v9.row.cell (n := 0) rfl, _, v9.c rfl, _, v9.c rfl, _, v9.c rfl, _, v9.c rfl, _, v9.c rfl, ⟨by omega, hlt⟩, _, ce 0 _ y95 (by omega) rfl, _, ce 1 _ y95 (by omega) rfl, _, ce 2 _ y95 (by omega) rfl, _, _, _, ce 3 _ y95 (by omega) rfl, _, _, _, ce 4 _ y95 (by omega) rfl, _, ce 5 _ y95 (by omega) rfl, _, ce 6 _ y95 (by omega) rfl, _, ce 7 _ y95 (by omega) rfl, _, _, _, ce 8 _ y95 (by omega) rfl, _, ce 9 _ y95 (by omega) rfl, _, ce 10 _ y95 (by omega) rfl, _, _, _, ce 11 _ y95 (by omega) rfl,
  _, ce 12 _ y95 (by omega) rfl, _, ce 13 _ y95 (by omega) rfl, _, ce 14 _ y95 (by omega) rfl, _, ce 15 _ y95 (by omega) rfl, _, ce 16 _ y95 (by omega) rfl, _, _, _, ce 17 _ y95 (by omega) rfl, _, _, _, ce 18 _ y95 (by omega) rfl, ?_⟩
 refine (Qnb (w0 := w) (c := cl) ((hP.ext x66).ext x95) hok hlen y95 (fun x hx => hFB x (.inl hx)) (fun x hx => hFB x (.inr hx)) g hv.disks (by omega) hv.bools hv.st (by omega) (hv.obs.v fun o ho => (b6 o ho).2) (by omega) hv.bytes hv.ints hv.nr hv.mr hv.kl).mono ?_
 rintro e w122 ⟨rfl, s', F', G', hP', hst, hok', hlen'⟩
 obtain ⟨y122, _⟩ := Qx0 y95 hst hFB
 have hFG' : ∀ x, F' x \/ G' x -> B <= x := fun x hx => by
  rcases hst.grow x hx with h | h
  ·exact hFG x h
  ·exact Zu (Zu hBw (x66.trans x95).size) h
 have n9 : RowW w122 k9 (Qe1 g) := hst.upd.rowW v9 fun hf => by have := hFG _ hf; omega
 refine ⟨_, rfl, (QKa hP' hok' (by omega)).mono ?_⟩
 rintro e w125 ⟨rfl, x125⟩
 exact ⟨_, rfl, QA0 rfl (QA0 rfl ⟨⟨i + 1, k9, a, r, B, s', F', G', rfl, rfl, rfl, rfl, by omega, y122.trans x125, hkB, hB, Zu hBw (Zu ((x66.trans x95).size) (Zu hst.upd.size x125.size)), x125.rowW n9 id, hFG', hP'.ext x125, hok', by omega⟩, mu⟩)⟩
set_option maxRecDepth 100000 in
theorem metalogPlays_lifted (os : Os) (started : os.Started) (H : Type) (enc : TypeId × Value -> H) :
  ReturnsInHanded {} Tryz.checked os 3 .any (Rows.metalogPlaysSpec.pre6 enc prog Tryz.f3 Rows.metalogPlaysRow.domain false) (Rows.metalogPlaysSpec.post enc prog Tryz.f3 false true false false) := by
 refine returnsInHanded_of_change (C := Tryz.checked) Qdf started (by kernel_rfl) Tryz.func3
  (ChangeSpec.witness6 (enc := enc) (C := Tryz.checked) false ⟨#[], #[.agg #[int i64 0, int i64 0, int i64 0, int i64 0, int i64 0, int i64 0], int i64 0, .slice none 0 0], []⟩ 8 (by kernel_rfl) (by kernel_rfl) (by kernel_rfl) (by kernel_rfl)) ?_
 intro W base args ds gs before hval0 hW hcnd _
 have hval : ∀ (j : Nat) t v, Tryz.f3.params[j]? = some t -> args[j]? = some v -> Value.okWide prog W .any base t v := hval0
 have hW' := hW
 obtain ⟨p, q, hA0, hV, rfl, hfz, hnd⟩ := hW
 have hA : DataW.TrodAll enc prog W 0 (fun _ => true) true Tryz.f3.params.toList args.toList ds p := hA0
 rw [Tryz.params3] at hA hval
 obtain ⟨v0, vs0, d0, ds0, p0, q0, hargs, rfl, rfl, h0, r0⟩ := trodAll_cons hA
 obtain ⟨v1, vs1, d1, ds1, p1, q1, rfl, rfl, rfl, h1, r1⟩ := trodAll_cons r0
 obtain ⟨v2, vs2, d2, ds2, p2, q2, rfl, rfl, rfl, h2, r2⟩ := trodAll_cons r1
 obtain ⟨rfl, rfl, rfl⟩ := trodAll_nil r2
 obtain rfl : args = #[v0, v1, v2] := by cases args; simp_all
 obtain ⟨rfl, rfl⟩ := trodVars_none hV
 obtain ⟨g0, rfl⟩ := Q7d (okWide_struct Tryz.underlying23 (hval 0 23 v0 rfl rfl)) h0
 obtain ⟨n1, rfl, rfl, rfl, wn1⟩ := open_int Tryz.underlying3 (hval 1 3 v1 rfl rfl) h1
 obtain ⟨a2, l2, c2, L2, rfl, hL2⟩ := Qw7 (okWide_slice Tryz.underlying24 (hval 2 24 v2 rfl rfl)) h2
 refine (QY3 g0 n1 hL2).mono fun e W' ⟨he, hg⟩ => ?_
 subst he
 exact ⟨_, rfl, QUb Qde rfl (by kernel_rfl) rfl Tryz.underlying4 hW' rfl hg.below⟩
theorem metalogPlays_holds : Rows.MetalogPlaysSaid :=
 OpenClaim.holds_of_wide 3 Tryz.f3 rfl rfl rfl rfl rfl rfl rfl ⟨rfl, rfl, rfl, rfl, rfl⟩ rfl rfl rfl rfl rfl (by kernel_rfl) Tryz.func3 (by kernel_rfl)
  (of_decide_eq_true (by kernel_rfl)) (by unfold Func.isWrapper; first | (rw [if_pos (by decide +kernel)]; kernel_rfl) | (rw [if_neg (by decide +kernel)]; exact ⟨rfl, rfl⟩))
  (fun os started H enc _ => metalogPlays_lifted os started H enc)
end Go.Proofs.YtnfcfbljdibinaaGreat
