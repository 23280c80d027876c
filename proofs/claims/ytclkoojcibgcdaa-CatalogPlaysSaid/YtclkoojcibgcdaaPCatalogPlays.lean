/- CatalogPlays returns true, whatever the geometry, the objects and the script. No conditions. -/
import Derived.Test.YtclkoojcibgcdaaQ13
import Derived.Test.YtclkoojcibgcdaaRows
namespace Go.Proofs.Ytclkoojcibgcdaa
open Go Go.Vc Go.ChangeShapes Go.WideShapes Go.ChangeAt Go.RowKit

def PlayC (w : World) (g : Geo) (pa pr : Option Addr) (n : Int) (w' : World) : Prop :=
  ∃ (i b r : Nat) (O : List Ob) (F G : Nat → Prop), pa = some (at0 b) ∧ pr = some (at0 r) ∧ n = i ∧ i ≤ 40 ∧ Ext w w' ∧ PairC w' b r g O F G ∧ (∀ x, F x → w.heap.size ≤ x) ∧ w.heap.size ≤ r

set_option maxHeartbeats 4000000 in
theorem playC_rest {w w23 : World} (g : Geo) {p : Option Addr} {l c : Nat} {L : List Ob} (hL : ObsR w p l L) (hlit : LittleL L) {p8 : Option Addr} {l8 : Nat} {S : List CallC} (hS : CallsCAt w p8 l8 S) (x23 : Ext w w23) {k9 : Nat} (r23 : RowW w23 k9 #[.int .i64 g.k, .int .i64 g.m, .int .i64 g.size, .int .i64 g.stripes, .int .i64 g.slots, .int .i64 g.objects]) :
    F4_A0 w23 k9 p l c l8 p8 (fun v w' => v = .bool true ∧ Ext w w') (fun pa pr _ n w' => PlayC w g pa pr n w') (fun _ _ _ n _ => 40 - n.toNat) := by
  have hl1 := hL.1
  have hst40 : ∀ o ∈ L, o.st.length ≤ 4611686018427387904 := fun o ho => by have := (hlit.2 o ho).2; omega
  have hl70 := hlit.1
  refine ⟨_, r23.row.cell (n := 0) rfl, _, r23.row.cell rfl, _, r23.row.cell rfl, _, r23.row.cell rfl, _, r23.row.cell rfl, _, r23.row.cell rfl, (cnew_spec g (hL.ext x23) hst40 (by omega)).mono ?_⟩
  rintro e w33 ⟨x33, hc⟩
  have y33 := x23.trans x33
  have r33 := x33.rowW r23 id
  have second : ∀ {T : Ending → World → Prop}, (∀ e w', (Ext w33 w' ∧ ((¬ GeoOk g ∧ e = .returned (.tuple #[.pointer none, .int .i64 50])) ∨
      (GeoOk g ∧ (g.objects < (L.length : Int) ∨ newO g L = none) ∧ e = .returned (.tuple #[.pointer none, .int .i64 1])) ∨
      (GeoOk g ∧ (L.length : Int) ≤ g.objects ∧ ∃ b O F, newO g L = some O ∧ e = .returned (.tuple #[.pointer (some (at0 b)), .int .i64 0]) ∧ RCat w' b g O F ∧ w33.heap.size ≤ b ∧ ∀ x, F x → x < w.heap.size ∨ w33.heap.size ≤ x))) → T e w') →
      (∃ (n37 : Int), w33.cell? (at0 k9) = some (.int .i64 n37) ∧ (∃ (n38 : Int), w33.cell? ((at0 k9).add 1) = some (.int .i64 n38) ∧ (∃ (n39 : Int), w33.cell? ((at0 k9).add 2) = some (.int .i64 n39) ∧ (∃ (n40 : Int), w33.cell? ((at0 k9).add 3) = some (.int .i64 n40) ∧ (∃ (n41 : Int), w33.cell? ((at0 k9).add 4) = some (.int .i64 n41) ∧ (∃ (n42 : Int), w33.cell? ((at0 k9).add 5) = some (.int .i64 n42) ∧
        (Calls Try.prog 14 #[.agg #[.int .i64 n37, .int .i64 n38, .int .i64 n39, .int .i64 n40, .int .i64 n41, .int .i64 n42], .slice p l c] w33 T))))))) := fun hT =>
    ⟨_, r33.row.cell (n := 0) rfl, _, r33.row.cell rfl, _, r33.row.cell rfl, _, r33.row.cell rfl, _, r33.row.cell rfl, _, r33.row.cell rfl, (rnew_spec g y33 hL hst40 (by omega)).mono hT⟩
  rcases hc with ⟨hb, rfl⟩ | ⟨hg, hb, rfl⟩ | ⟨hg, hfew, b, O, F, hnew, rfl, h33, hF⟩
  · refine ⟨_, _, rfl, second ?_⟩
    rintro e w43 ⟨x43, ⟨_, rfl⟩ | ⟨hg, _⟩ | ⟨hg, _⟩⟩
    · exact ⟨_, _, rfl, condB_of (fun h => by simp at h) fun _ => condB_of (fun h => by cases h) fun _ => condB_of (fun _ => ⟨rfl, y33.trans x43⟩) fun h => by cases h⟩
    · exact absurd hg hb
    · exact absurd hg hb
  · refine ⟨_, _, rfl, second ?_⟩
    rintro e w43 ⟨x43, ⟨hg', _⟩ | ⟨_, _, rfl⟩ | ⟨_, hfew, b2, O2, F2, hnew, _⟩⟩
    · exact absurd hg hg'
    · exact ⟨_, _, rfl, condB_of (fun h => by simp at h) fun _ => condB_of (fun h => by cases h) fun _ => condB_of (fun _ => ⟨rfl, y33.trans x43⟩) fun h => by cases h⟩
    · rcases hb with hb | hb
      · omega
      · rw [hb] at hnew; cases hnew
  refine ⟨_, _, rfl, second ?_⟩
  rintro e w43 ⟨x43, ⟨hg', _⟩ | ⟨_, hb, _⟩ | ⟨_, _, r, O2, G, hnew2, rfl, h43, hr, hG⟩⟩
  · exact absurd hg hg'
  · rcases hb with hb | hb
    · omega
    · rw [hb] at hnew; cases hnew
  rw [hnew] at hnew2
  cases hnew2
  have z23 := x23.size
  have z33 := x33.size
  have hP : PairC w43 b r g O F G := ⟨h33.ext x43, h43, fun x hf hg => by
    have h1 := hF x hf
    have h2 := h33.lt x hf
    have h3 := hG x hg
    omega⟩
  refine ⟨_, _, rfl, condB_of (fun h => by simp at h) fun _ => condB_of (fun h => by cases h) fun _ => condB_of (fun h => by cases h) fun _ => ⟨⟨0, b, r, O, F, G, rfl, rfl, rfl, by omega, y33.trans x43, hP, fun x hx => by have := hF x hx; omega, by omega⟩, ?_⟩⟩
  clear hP h43 hG hr h33 hF hnew
  rintro n49 w50 ⟨i, b', r', O, F, G, e1, e2, rfl, hi, x50, hP, hF, hr⟩
  simp only [Option.some.injEq, at0, Addr.mk.injEq, and_true] at e1 e2
  subst e1
  subst e2
  intros
  refine condB_of (fun hlt => ?_) (fun _ => ⟨rfl, x50⟩)
  refine condB_of (fun hlt40 => ?_) (fun _ => ⟨rfl, x50⟩)
  simp only [decide_eq_true_eq] at hlt hlt40
  obtain ⟨cl, hcl⟩ : ∃ cl, S[i]? = some cl := ⟨S[i]'(by have := hS.1; omega), List.getElem?_eq_getElem _⟩
  obtain ⟨a, q, n, d, rfl, hv⟩ := hS.2 i cl hcl
  rw [Int.toNat_natCast]
  have hv50 := hv.ext x50
  refine ⟨⟨by omega, hlt⟩, _, hv50.kind, _, hv50.rk, _, hv50.key, _, hv50.len, _, _, _, hv50.st, _, hv50.epoch, (smallc_spec _ _ _ _ _ _ _ _ w50).mono ?_⟩
  rintro e w104 ⟨rfl, x104⟩
  have y104 := x50.trans x104
  have hv104 := hv.ext y104
  have hwr : IntKind.i64.wrap ((i : Int) + 1) = ((i + 1 : Nat) : Int) := by rw [w64 (by omega)]; omega
  have mu : 40 - (((i + 1 : Nat) : Int)).toNat < 40 - i := by omega
  rw [hwr]
  refine ⟨_, rfl, condB_of (fun _ => ⟨⟨i + 1, b, r, O, F, G, rfl, rfl, rfl, by omega, y104, hP.ext x104, hF, hr⟩, mu⟩) fun hsm => ?_⟩
  simp only [Bool.not_eq_false', decide_eq_true_eq] at hsm
  refine ⟨⟨by omega, hlt⟩, _, hv104.kind, _, hv104.rk, _, hv104.key, _, hv104.len, _, _, _, hv104.st, _, hv104.epoch, (didC_spec (hP.ext x104) y104 hF hv.ints hv.lc hv.nil (by omega) hv.lr.2).mono ?_⟩
  rintro e w114 ⟨rfl, F', G', hP', hst⟩
  have hF' : ∀ x, F' x → w.heap.size ≤ x := fun x hx => by
    rcases hst.cat x hx with h | h
    · exact hF x h
    · exact Nat.le_trans y104.size h
  have y114 : Ext w w114 := Upd.trans y104 hst.upd fun x hx hs => by
    rcases hs with h | h
    · have := hF x h; omega
    · omega
  generalize callO g O cl = O' at hP'
  refine ⟨_, rfl, fun w117 d117 => ?_⟩
  have h117 := hP'.ext d117.ext
  obtain ⟨p1, l1, c1, G1, hr117, hO, _⟩ := h117.ref.is
  refine ⟨_, _, _, hr117.row.cell rfl, (all_spec h117.cat).mono ?_⟩
  rintro e w120 ⟨p2, l2, c2, rfl, x120, obs⟩
  have hr120 := x120.rowW hr117 id
  have hok := h117.cat.ok
  have hgeo := hg
  unfold GeoOk at hgeo
  have hfew := hok.few
  have hll := obs.length
  have hlen64 : ∀ o ∈ O', o.len ≤ 9223372036854775807 := fun o ho => by have := (hok.obs o ho).1.1.2.2.1.2; omega
  have hst256 : ∀ o ∈ O', o.st.length ≤ 256 := fun o ho => (hok.obs o ho).1.1.2.2.2
  refine ⟨_, _, _, rfl, ⟨_, _, _, hr120.row.cell rfl, rfl⟩, (objsL_spec (obs.read hlen64).obl (hO.ext x120).obl (by omega) (fun o ho => by have := hst256 o ho; omega)).mono ?_⟩
  rintro e w124 ⟨rfl, x124⟩
  have h124 := h117.ext (x120.trans x124)
  refine ⟨_, rfl, condB_of (fun h => by cases h) fun _ => condB_of (fun h => by simp at h) fun _ => (free_spec h124.cat).mono ?_⟩
  rintro e w127 ⟨rfl, x127⟩
  have h127 := h124.ext x127
  refine ⟨_, rfl, (rfree_spec h127.ref).mono ?_⟩
  rintro e w130 ⟨rfl, rfl⟩
  have hfr := h127.free
  have y127 := (((y114.trans d117.ext).trans x120).trans x124).trans x127
  refine ⟨_, rfl, condB_of (fun h => ?_) fun _ => ⟨⟨i + 1, b, r, O', F', G', rfl, rfl, rfl, by omega, y127, h127, hF', hr⟩, mu⟩⟩
  rw [w64 (n := g.stripes - ((stripesO O').length : Int)) (by omega), hfr] at h
  simp at h

theorem catalogPlays_walk {w : World} (g : Geo) {p : Option Addr} {l c : Nat} {L : List Ob} (hL : ObsR w p l L) {p8 : Option Addr} {l8 c8 : Nat} {S : List CallC} (hS : CallsCAt w p8 l8 S) :
    Calls Try.prog 4 #[gV g, .slice p l c, .slice p8 l8 c8] w fun e w' => e = .returned (.bool true) ∧ Ext w w' := by
  refine (F4_calls g.k g.m g.size g.stripes g.slots g.objects p l c p8 l8 c8 w (fun v w' => v = .bool true ∧ Ext w w') (fun pa pr _ n w' => PlayC w g pa pr n w') (fun _ _ _ n _ => 40 - n.toNat) ?_).mono (by rintro e w' ⟨v, rfl, rfl, h⟩; exact ⟨rfl, h⟩)
  intro k9 w10 hk9
  have r10 : RowW w10 k9 _ := ⟨_, hk9.at⟩
  have x10 := hk9.ext
  refine (awake_spec w10).mono ?_
  rintro e w11 ⟨rfl, x11⟩
  have y11 := x10.trans x11
  have r11 := x11.rowW r10 id
  refine ⟨_, rfl, condB_of (fun h => by cases h) fun _ => (little_spec (hL.ext y11)).mono ?_⟩
  rintro e w14 ⟨b, rfl, hlit, rfl⟩
  refine ⟨_, rfl, condB_of (fun _ => ⟨rfl, y11⟩) fun hb => ?_⟩
  have hb' : b = true := by simpa using hb
  refine ⟨_, r11.row.cell (n := 0) rfl, _, r11.row.cell rfl, _, r11.row.cell rfl, _, r11.row.cell rfl, _, r11.row.cell rfl, _, r11.row.cell rfl, (check_spec g _).mono ?_⟩
  rintro e w23 ⟨rfl, x23⟩
  have y23 := y11.trans x23
  have r23 := x23.rowW r11 id
  exact ⟨_, rfl, condB_of (fun _ => ⟨_, r23.row.cell rfl, condB_of (fun _ => ⟨rfl, y23⟩) fun _ => playC_rest g hL (hlit hb') hS y23 r23⟩) fun _ => playC_rest g hL (hlit hb') hS y23 r23⟩

set_option maxRecDepth 100000 in
theorem catalogPlays_lifted (os : Os) (started : os.Started) (H : Type) (enc : TypeId × Value → H) :
    ReturnsInHanded {} Try.checked os 4 .any (Rows.catalogPlaysSpec.pre6 enc Try.prog Try.f4 Rows.catalogPlaysRow.domain false) (Rows.catalogPlaysSpec.post enc Try.prog Try.f4 false true false false) := by
  refine returnsInHanded_of_change (C := Try.checked) lawOwn started (by kernel_rfl) Try.func4
    (ChangeSpec.witness6 (enc := enc) (C := Try.checked) false ⟨#[], #[.agg #[.int .i64 0, .int .i64 0, .int .i64 0, .int .i64 0, .int .i64 0, .int .i64 0], .slice none 0 0, .slice none 0 0], []⟩ 8 (by kernel_rfl) (by kernel_rfl) (by kernel_rfl) (by kernel_rfl)) ?_
  intro W base args ds gs before hval0 hW hcnd _
  have hval : ∀ (j : Nat) t v, Try.f4.params[j]? = some t → args[j]? = some v → Value.okWide Try.prog W .any base t v := hval0
  have hW' := hW
  obtain ⟨p, q, hA0, hV, rfl, hfz, hnd⟩ := hW
  have hA : DataW.TrodAll enc Try.prog W 0 (fun _ => true) true Try.f4.params.toList args.toList ds p := hA0
  rw [Try.params4] at hA hval
  obtain ⟨v0, vs0, d0, ds0, p0, q0, hargs, rfl, rfl, h0, r0⟩ := trodAll_cons hA
  obtain ⟨v1, vs1, d1, ds1, p1, q1, rfl, rfl, rfl, h1, r1⟩ := trodAll_cons r0
  obtain ⟨v2, vs2, d2, ds2, p2, q2, rfl, rfl, rfl, h2, r2⟩ := trodAll_cons r1
  obtain ⟨rfl, rfl, rfl⟩ := trodAll_nil r2
  obtain rfl : args = #[v0, v1, v2] := by cases args; simp_all
  obtain ⟨rfl, rfl⟩ := trodVars_none hV
  obtain ⟨g0, rfl⟩ := open_geo (okWide_struct Try.underlying24 (hval 0 24 v0 rfl rfl)) h0
  obtain ⟨a1, l1, c1, L1, rfl, hL1⟩ := open_obs (okWide_slice Try.underlying25 (hval 1 25 v1 rfl rfl)) h1
  obtain ⟨a2, l2, c2, L2, rfl, hL2⟩ := open_scriptC (okWide_slice Try.underlying26 (hval 2 26 v2 rfl rfl)) h2
  refine (catalogPlays_walk g0 hL1 hL2).mono fun e W' ⟨he, hg⟩ => ?_
  subst he
  exact ⟨_, rfl, post_true lawLaid rfl (by kernel_rfl) rfl Try.underlying4 hW' rfl hg.below⟩

/-- ████ THE STATEMENT ████ -/
theorem catalogPlays_holds : Rows.CatalogPlaysSaid :=
  OpenClaim.holds_of_wide 4 Try.f4 rfl rfl rfl rfl rfl rfl rfl ⟨rfl, rfl, rfl, rfl, rfl⟩ rfl rfl rfl rfl rfl (by kernel_rfl) Try.func4 (by kernel_rfl)
    (of_decide_eq_true (by kernel_rfl)) (by unfold Func.isWrapper; first | (rw [if_pos (by decide +kernel)]; kernel_rfl) | (rw [if_neg (by decide +kernel)]; exact ⟨rfl, rfl⟩))
    (fun os started H enc _ => catalogPlays_lifted os started H enc)
end Go.Proofs.Ytclkoojcibgcdaa
