import Derived.Test.YtnfcfbljdibinaaMK
import Derived.Test.YtnfcfbljdibinaaRows
/- MetalogCuts returns true, whatever is laid, appended or saved, and wherever the crash comes. No conditions. -/
namespace Go.Proofs.Ytnfcfbljdibinaa
open Go Go.Vc Go.ChangeShapes Go.WideShapes Go.ChangeAt Go.RowKit

def recRow (r : RecK) (p : Option Addr) (l c : Nat) : Array Value := #[.int .i64 r.kind, .string r.key, .int .i64 r.len, .slice p l c]
/-- what is told behind a crash -/
def CutT (g : Geo) (b : Bool) (area epoch epoch2 : Int) (L L2 : List ObV) (WAS : List RecK) (r : RecK) (s : StA) : Prop :=
  Whole g s area epoch L ∧ (b = true → epoch < epoch2 ∧ (Whole g s (1 - area) epoch2 L2 ∨ Broken g s (s.M.map knowB) (1 - area))) ∧
    (b = false → Broken g s (s.M.map knowB) (1 - area) ∧ (Jou g s (s.M.map knowB) epoch WAS ∨ Jou g s (s.M.map knowB) epoch (WAS ++ [r])))

set_option maxHeartbeats 8000000 in
theorem cuts_A0 {w w160 : World} {g : Geo} (hg : GeoOk g) {area epoch epoch2 : Int} (ha : area = 0 ∨ area = 1) (hE : 0 ≤ epoch ∧ epoch ≤ 2147483547) {L L2 : List ObV} {WAS : List RecK} {r : RecK} (b : Bool) {a k21 k23 k25 k27 B : Nat} {F160 : Nat → Prop} {s : StA}
    (h160 : IsA w160 a s F160) (ok : OkA s) (h1 : 1 ≤ s.M.length) (hx : Ext w w160) (hB : w.heap.size ≤ B) (hF : ∀ x, F160 x → B ≤ x) (kb21 : k21 < B) (kb23 : k23 < B) (kb25 : k25 < B) (kb27 : k27 < B)
    {p9 : Option Addr} {l9 c9 : Nat} (hL : ObsV w p9 l9 L) (hl9 : l9 ≤ 20) (hsL : smallO L) {p20 : Option Addr} {l20 c20 : Nat} (hL2 : ObsV w p20 l20 L2) (hl20 : l20 ≤ 20) (hsL2 : smallO L2)
    {p14 : Option Addr} {l14 c14 : Nat} (hr : IntsAt w p14 l14 r.st) (hl14 : l14 ≤ 20)
    (r21 : RowW w160 k21 (gRow g)) (r23 : RowW w160 k23 (svRow area epoch p9 l9 c9)) (r25 : RowW w160 k25 (recRow r p14 l14 c14)) (r27 : RowW w160 k27 (svRow (1 - area) epoch2 p20 l20 c20))
    {p16 : Option Addr} {l16 c16 : Nat} {KS : List (List Int)} (hK : l16 = KS.length ∧ ∀ i ks, KS[i]? = some ks → ∃ a q n c, p16 = some a ∧ w.cell? (a.add (i * 1)) = some (.slice q n c) ∧ IntsAt w q n ks) (hKs : ∀ ks ∈ KS, ks.length ≤ 9223372036854775807)
    {p148 : Option Addr} {l148 c148 base : Nat} {rows : List Value} (hown : ∀ F' w', Step F160 F' w160 w' → OwnS w' base 27 4 p148 l148 c148 rows) (hrows : RowsI w rows WAS) (hW : l148 ≤ 64) (hWs : ∀ x ∈ WAS, x.st.length ≤ 1000)
    (told : CutT g b area epoch epoch2 L L2 WAS r ⟨crashM KS s.M.length s.M, -1, false⟩) {Rt : Value → World → Prop} (done : ∀ w', Ext w w' → Rt (.bool true) w')
    {I0 : Option Addr → Option Addr → Option Addr → Option Addr → World → Int → World → Prop} {M0 : Option Addr → Option Addr → Option Addr → Option Addr → World → Int → World → Nat} {I1 : Option Addr → Option Addr → Option Addr → Option Addr → World → Int → World → Prop} {M1 : Option Addr → Option Addr → Option Addr → Option Addr → World → Int → World → Nat} :
    F5_A0 (some (at0 a)) p16 l16 c16 w160 k21 k23 k27 b p148 l148 c148 k25 Rt I0 M0 I1 M1 := by
  refine (restart_any (w0 := w) h160 ok hx (fun x hx => Nat.le_trans hB (hF x hx)) hK hKs).mono ?_
  rintro e w163 ⟨F163, rfl, st163, h163⟩
  have x163 := (ext_stepA hx st163 fun x hx => Nat.le_trans hB (hF x hx)).1
  have q21 : RowW w163 k21 (gRow g) := st163.upd.rowW r21 (fun hf => by have := hF _ hf; omega)
  have q23 : RowW w163 k23 (svRow area epoch p9 l9 c9) := st163.upd.rowW r23 (fun hf => by have := hF _ hf; omega)
  have q25 : RowW w163 k25 (recRow r p14 l14 c14) := st163.upd.rowW r25 (fun hf => by have := hF _ hf; omega)
  have q27 : RowW w163 k27 (svRow (1 - area) epoch2 p20 l20 c20) := st163.upd.rowW r27 (fun hf => by have := hF _ hf; omega)
  have own163 := hown _ _ st163
  have hlen : (⟨crashM KS s.M.length s.M, -1, false⟩ : StA).M.length = s.M.length := crashM_len _ _ _
  have ok2 : OkA ⟨crashM KS s.M.length s.M, -1, false⟩ := ⟨by rw [hlen]; exact ok.1, by show (-1 : Int) ≤ -1; omega, by show (-1 : Int) ≤ _; omega⟩
  have one2 : 1 ≤ (⟨crashM KS s.M.length s.M, -1, false⟩ : StA).M.length := by rw [hlen]; exact h1
  have hdn : (⟨crashM KS s.M.length s.M, -1, false⟩ : StA).down = false := rfl
  generalize (⟨crashM KS s.M.length s.M, -1, false⟩ : StA) = s2 at h163 told ok2 one2 hdn
  refine ⟨rfl, (mknows_spec h163 ok2 one2).mono ?_⟩
  rintro e w165 ⟨x165, _, hkn⟩
  obtain ⟨p167, c167, rfl, own167⟩ := hkn hdn
  have g21 : RowW w165 k21 (gRow g) := x165.rowW q21 id
  have bools : BoolsAt w165 p167 s2.M.length (s2.M.map knowB) := ⟨by simp, own167.cells⟩
  refine ⟨_, _, _, _, rfl, _, g21.row.cell (n := 0) rfl, _, g21.row.cell rfl, _, g21.row.cell rfl, _, g21.row.cell rfl, _, g21.row.cell rfl, _, g21.row.cell rfl, (mlatest_spec (IsArr.ext h163 x165) ok2 one2 g bools).mono ?_⟩
  rintro e w175 ⟨v175, rfl, x175, _, hlat⟩
  obtain ⟨A, hA, _, hlat⟩ := (hlat (checkG_ok hg)).2 hdn
  obtain ⟨whole, tb, tf⟩ := told
  have hT : ((latS A 2).found && (latS A 2).sure) = true ∧ (((latS A 2).epoch = epoch ∧ (latS A 2).os = L) ∨ (b = true ∧ (latS A 2).epoch = epoch2 ∧ (latS A 2).os = L2)) := by
    cases b with
    | true =>
      obtain ⟨hlt, h | h⟩ := tb rfl
      · rw [lat_two hA ha whole h hlt]; exact ⟨rfl, .inr ⟨rfl, rfl, rfl⟩⟩
      · rw [lat_one hA ha whole h]; exact ⟨rfl, .inl ⟨rfl, rfl⟩⟩
    | false =>
      rw [lat_one hA ha whole (tf rfl).1]; exact ⟨rfl, .inl ⟨rfl, rfl⟩⟩
  generalize latS A 2 = T at hT hlat
  obtain ⟨hf, hT⟩ := hT
  obtain ⟨p179, c179, rows179, rfl, own179, rob179⟩ := hlat hf
  have hTl : T.os.length ≤ 20 ∧ ∀ o ∈ T.os, o.st.length ≤ 1000 := by
    rcases hT with ⟨_, h⟩ | ⟨_, _, h⟩
    · rw [h]; exact ⟨by have := hL.1; omega, fun o ho => Nat.le_trans (hsL o ho).2 (by omega)⟩
    · rw [h]; exact ⟨by have := hL2.1; omega, fun o ho => Nat.le_trans (hsL2 o ho).2 (by omega)⟩
  refine ⟨_, _, _, _, _, _, rfl, fun k181 w182 hk181 => ?_⟩
  have s181 := hk181.size
  refine fill3 (e := 37) (v0 := .int .i64 T.area) (v1 := .int .i64 T.epoch) (v2 := .slice p179 T.os.length c179) hk181.at fun w185 u185 r185 => ?_
  have x175185 : Ext w175 w185 := upd_new hk181.ext u185 (by omega)
  have y185 : Ext w163 w185 := (x165.trans x175).trans x175185
  have a23 : RowW w185 k23 (svRow area epoch p9 l9 c9) := y185.rowW q23 id
  refine condB_f rfl (condB_f rfl ⟨_, _, _, r185.row.row.cell rfl, _, _, _, a23.row.cell rfl, (objects_spec ((rob179.ext x175185).obs (own179.ext x175185)).w (hL.ext (x163.trans y185)).w (by omega) hTl.2).mono ?_⟩)
  rintro e w188 ⟨b190, rfl, hb190, x188⟩
  have r188 : RowT 37 w188 k181 _ := r185.upd x188 id
  have y188 : Ext w163 w188 := y185.trans x188
  have a27 : RowW w188 k27 (svRow (1 - area) epoch2 p20 l20 c20) := y188.rowW q27 id
  refine ⟨_, rfl, _, _, _, r188.row.row.cell rfl, _, _, _, a27.row.cell rfl, (objects_spec ((rob179.ext (x175185.trans x188)).obs (own179.ext (x175185.trans x188))).w (hL2.ext (x163.trans y188)).w (by omega) hTl.2).mono ?_⟩
  rintro e w193 ⟨b195, rfl, hb195, x193⟩
  have r193 : RowT 37 w193 k181 _ := r188.upd x193 id
  have y193 : Ext w163 w193 := y188.trans x193
  have c21 : RowW w193 k21 (gRow g) := y193.rowW q21 id
  have c23 : RowW w193 k23 (svRow area epoch p9 l9 c9) := y193.rowW q23 id
  have c27 : RowW w193 k27 (svRow (1 - area) epoch2 p20 l20 c20) := y193.rowW q27 id
  refine ⟨_, rfl, ?_⟩
  cases b with
  | true =>
    obtain ⟨hlt, _⟩ := tb rfl
    refine ⟨_, r193.row.row.cell rfl, _, c23.row.cell rfl, condB_of (fun he => condB_of (fun _ => done _ (x163.trans y193)) fun hn => ?_) fun hne => ?_⟩
    · simp only [decide_eq_true_eq] at he
      rcases hT with ⟨_, h⟩ | ⟨_, h, _⟩
      · rw [hb190.2 h] at hn; cases hn
      · omega
    · simp only [decide_eq_false_iff_not] at hne
      rcases hT with ⟨h, _⟩ | ⟨_, h, h2⟩
      · exact absurd h hne
      · refine ⟨_, r193.row.row.cell rfl, _, c27.row.cell rfl, condB_t (decide_eq_true h) ?_⟩
        rw [hb195.2 h2]
        exact done _ (x163.trans y193)
  | false =>
    obtain ⟨_, hjou⟩ := tf rfl
    have hTe : T.epoch = epoch ∧ T.os = L := hT.elim id fun h => by cases h.1
    refine ⟨_, c21.row.cell (n := 0) rfl, _, c21.row.cell rfl, _, c21.row.cell rfl, _, c21.row.cell rfl, _, c21.row.cell rfl, _, c21.row.cell rfl, _, c23.row.cell rfl, (mreplay_spec (IsArr.ext h163 y193) ok2 one2 g (bools.ext (x175.trans (x175185.trans (x188.trans x193)))) epoch).mono ?_⟩
    rintro e w209 ⟨v209, rfl, x209, _, hrep⟩
    have hpre : preR (some (at0 0)) g epoch = 0 := by
      unfold preR mcheckZ okB
      rw [checkG_ok hg, if_pos hE]
      rfl
    obtain ⟨b1, b2, b3, b4, b5, b6⟩ := geo_bounds hg
    obtain ⟨RL, hRL, hcase⟩ := (hrep hpre).2 hdn
    have key : ∃ RK, (RK = WAS ∨ RK = WAS ++ [r]) ∧ RL = RK.map (·.v) ∧ ((RL.length : Int) < g.slots → wit (s2.M.map knowB) (saysM (slotZ g (RL.length : Int)) s2.M) = true) := by
      have hle : (RL.length : Int) ≤ g.slots ∧ ((RL.length : Int) = g.slots ∨ SlotNo g s2 epoch RL.length) := by
        rcases hcase with ⟨h1, _⟩ | ⟨h1, h2, _⟩
        · rcases h1 with h1 | ⟨h1, h2, _⟩
          · exact ⟨by omega, .inl h1⟩
          · exact ⟨by omega, .inr h2⟩
        · exact ⟨by omega, .inr h2⟩
      rcases hjou with jou | jou
      · exact ⟨_, .inl rfl, jou.told hRL hle.1 hle.2⟩
      · exact ⟨_, .inr rfl, jou.told hRL hle.1 hle.2⟩
    obtain ⟨RK, hRK, rfl, hw⟩ := key
    rcases hcase with ⟨_, p211, c211, rows211, rfl, own211, rrc211⟩ | ⟨h1, _, h3, _⟩
    rotate_left
    · rw [hw h1] at h3; cases h3
    have y209 : Ext w163 w209 := y193.trans x209
    have x209' : Ext w w209 := x163.trans y209
    have hrl := hrows.len
    have ol := own163.length
    have hWl : WAS.length ≤ 64 := by omega
    have hRKl : RK.length ≤ 65 := by
      rcases hRK with h | h
      · rw [h]; omega
      · rw [h]; simp; omega
    have hrl14 := hr.1
    have hRKs : ∀ x ∈ RK, x.st.length ≤ 1000 := by
      rcases hRK with h | h
      · rw [h]; exact hWs
      · rw [h]
        intro x hx
        rcases List.mem_append.1 hx with hx | hx
        · exact hWs x hx
        · simp at hx; rw [hx]; omega
    refine ⟨_, _, _, _, rfl, (records_spec (A := RK) (B := WAS) (rrc211.recs own211) ((hrows.ext x209').at_ (own163.ext y209)) (by rw [List.length_map]; omega) hRKs).mono ?_⟩
    rintro e w213 ⟨b215, rfl, hb215, x213⟩
    refine ⟨_, rfl, fun w216 d216 => ?_⟩
    have x209216 : Ext w209 w216 := x213.trans d216.ext
    have y216 : Ext w163 w216 := y209.trans x209216
    have x216 : Ext w w216 := x163.trans y216
    have d25 : RowW w216 k25 (recRow r p14 l14 c14) := y216.rowW q25 id
    have d23 : RowW w216 k23 (svRow area epoch p9 l9 c9) := y216.rowW q23 id
    have d181 : RowT 37 w216 k181 _ := r193.upd (x209.trans x209216) id
    have own216 := own163.ext y216
    have same : ∀ {w' : World}, Ext w216 w' → (∃ (n252 : Int), w'.cell? (at0 k25) = some (.int .i64 n252) ∧ (∃ (s253 : ByteArray), w'.cell? ((at0 k25).add 1) = some (.string s253) ∧ (∃ (n254 : Int), w'.cell? ((at0 k25).add 2) = some (.int .i64 n254) ∧ (∃ (p255 : Option Addr) (l255 c255 : Nat), w'.cell? ((at0 k25).add 3) = some (.slice p255 l255 c255) ∧ (Value.agg #[.int .i64 n252, .string s253, .int .i64 n254, .slice p255 l255 c255]) = (Value.agg #[.int .i64 r.kind, .string r.key, .int .i64 r.len, .slice p14 l14 c14]))))) := fun {w'} hx' => by
      have rr : RowW w' k25 (recRow r p14 l14 c14) := hx'.rowW d25 id
      exact ⟨_, rr.row.cell (n := 0) rfl, _, rr.row.cell rfl, _, rr.row.cell rfl, _, _, _, rr.row.cell rfl, rfl⟩
    have a2 : ∀ {w270 : World} {p264 : Option Addr} {c264 k269 : Nat}, Ext w216 w270 → OwnS w270 w216.heap.size 27 4 p264 l148 c264 rows → CellsAt w270 (some (at0 k269)) (recV4 r p14 l14 c14) →
        F5_A2 p264 l148 c264 k269 w270 p211 (RK.map (·.v)).length c211 0 k181 k23 b190 b215 Rt I0 M0 I1 M1 := fun {w270 p264 c264 k269} x270 own270 cc => by
      obtain ⟨p272, c272, w271, hr271, own271, rows271, x271⟩ := rec_app2 x270 own270 hrows hr (by omega) cc (by omega)
      refine ⟨p272, _, c272, w271, hr271, (records_spec (A := RK) (B := WAS ++ [r]) ((rrc211.ext (x209216.trans x271)).recs (own211.ext (x209216.trans x271))) ((rows271.ext (x216.trans x271)).at_ own271) (by rw [List.length_map]; omega) hRKs).mono ?_⟩
      rintro e w273 ⟨b275, rfl, hb275, x273⟩
      have z181 : RowT 37 w273 k181 _ := d181.upd (x271.trans x273) id
      have z23 : RowW w273 k23 (svRow area epoch p9 l9 c9) := (x271.trans x273).rowW d23 id
      have xw : Ext w w273 := x216.trans (x271.trans x273)
      refine ⟨_, rfl, condB_t rfl ⟨_, z181.row.row.cell rfl, _, z23.row.cell rfl, condB_t (decide_eq_true hTe.1) (condB_t (hb190.2 hTe.2) (condB_of (fun _ => done _ xw) fun hn => ?_))⟩⟩
      rcases hRK with h | h
      · rw [hb215.2 h] at hn; cases hn
      · rw [hb275.2 h]; exact done _ xw
    have own0 : ∀ {wa wb : World} {k : Nat}, Ext w216 wa → NewB wa k (.cells #[] 27) wb → OwnS wb w216.heap.size 27 4 (some (at0 k)) 0 0 [] := fun x hk =>
      OwnS.made hk (by rw [hk.size.1]; exact x.size) (Nat.le_refl _) (by unfold maxLen; omega) rfl
    have box : ∀ {wa wb : World} {k : Nat}, NewB wa k (.cells (recRow r p14 l14 c14) 27) wb → RowT 27 wb k (recRow r p14 l14 c14) := fun hk => hk.at
    have ccs : ∀ {wa : World} {k : Nat}, RowT 27 wa k (recRow r p14 l14 c14) → CellsAt wa (some (at0 k)) (recV4 r p14 l14 c14) := fun h j u hj => ⟨_, rfl, h.row.row.cell (by simpa [recRow, recV4] using hj)⟩
    have a1 : ∀ {w249 : World} {k242 k248 : Nat}, Ext w216 w249 → OwnS w249 w216.heap.size 27 4 (some (at0 k242)) 0 0 [] → RowT 27 w249 k248 (recRow r p14 l14 c14) → k248 ≠ k242 →
        F5_A1 k242 p148 l148 c148 w249 k25 r.kind r.key r.len p14 l14 c14 k248 p211 (RK.map (·.v)).length c211 0 k181 k23 b190 b215 Rt I0 M0 I1 M1 := fun {w249 k242 k248} x249 o0 rb hne => by
      obtain ⟨p251, c251, w250, hr250, own250, x250, u250⟩ := was_app x249 o0 (own216.ext x249) hrows (by omega)
      exact ⟨p251, _, c251, w250, hr250, same x250, a2 x250 own250 (ccs (rb.upd u250 hne))⟩
    refine ⟨_, d25.row.cell (n := 0) rfl, _, d25.row.cell rfl, _, d25.row.cell rfl, _, _, _, d25.row.cell rfl, fun k242 w243 hk242 => ⟨same hk242.ext, ?_, fun k248 w249 hk248 => ?_⟩, fun k221 w222 hk221 k223 w224 hk223 => ⟨same (hk221.ext.trans hk223.ext), ?_⟩⟩
    · obtain ⟨p264, c264, w263, hr263, own263, x263, _⟩ := was_app hk242.ext (own0 (Upd.refl _ _) hk242) (own216.ext hk242.ext) hrows (by omega)
      refine ⟨p264, _, c264, w263, hr263, same x263, fun k269 w270 hk269 => ?_⟩
      exact a2 (x263.trans hk269.ext) (own263.ext hk269.ext) (ccs (box hk269))
    · have s242 := hk242.size
      have s248 := hk248.size
      exact a1 (hk242.ext.trans hk248.ext) ((own0 (Upd.refl _ _) hk242).ext hk248.ext) (box hk248) (by omega)
    · have s221 := hk221.size
      have s223 := hk223.size
      exact a1 (hk221.ext.trans hk223.ext) (own0 hk221.ext hk223) ((box hk221).upd hk223.ext id) (by omega)

set_option maxHeartbeats 8000000 in
theorem metalogCuts_walk (g : Geo) (area epoch : Int) {w : World} {p9 : Option Addr} {l9 c9 : Nat} {L : List ObV} (hL : ObsW w p9 l9 L) {p10 : Option Addr} {l10 c10 : Nat} {R : List RecK} (hR : RecsAt w p10 l10 R) (hl10 : l10 ≤ 9223372036854775807)
    (kind : Int) (key : ByteArray) (len : Int) {p14 : Option Addr} {l14 c14 : Nat} {st : List Int} (hst : IntsAt w p14 l14 st) (hl14 : l14 ≤ 9223372036854775807) (n15 : Int) (hn15 : -9223372036854775808 ≤ n15 ∧ n15 ≤ 9223372036854775807)
    {p16 : Option Addr} {l16 c16 : Nat} {KS : List (List Int)} (hK : l16 = List.length KS ∧ ∀ (i : Nat) (ks : List Int), KS[i]? = some ks → ∃ a q n c, p16 = some a ∧ w.cell? (a.add (i * 1)) = some (.slice q n c) ∧ IntsAt w q n ks) (b : Bool)
    (area2 epoch2 : Int) {p20 : Option Addr} {l20 c20 : Nat} {L2 : List ObV} (hL2 : ObsW w p20 l20 L2) :
    Calls Try.prog 5 #[gV g, .agg #[.int .i64 area, .int .i64 epoch, .slice p9 l9 c9], .slice p10 l10 c10, .agg #[.int .i64 kind, .string key, .int .i64 len, .slice p14 l14 c14], .int .i64 n15, .slice p16 l16 c16, .bool b, .agg #[.int .i64 area2, .int .i64 epoch2, .slice p20 l20 c20]] w
      fun e w' => e = .returned (.bool true) ∧ Ext w w' := by
  refine (F5_calls g.k g.m g.size g.stripes g.slots g.objects area epoch p9 l9 c9 p10 l10 c10 kind key len p14 l14 c14 n15 p16 l16 c16 b area2 epoch2 p20 l20 c20 w (fun v w' => v = .bool true ∧ Ext w w')
    (fun _ _ _ _ w63 n70 w71 => ∃ i : Nat, n70 = i ∧ i ≤ l10 ∧ Ext w63 w71 ∧ ∀ r ∈ R.take i, r.st.length ≤ 20) (fun _ _ _ _ _ n70 _ => (l10 : Nat) - n70.toNat)
    (fun _ _ _ _ w71 n98 w99 => ∃ i : Nat, n98 = i ∧ i ≤ l16 ∧ Ext w71 w99 ∧ ∀ ks ∈ KS.take i, ks.length ≤ 50) (fun _ _ _ _ _ n98 _ => 100 - n98.toNat) ?_).mono (by rintro e w' ⟨v, rfl, rfl, h⟩; exact ⟨rfl, h⟩)
  have t : ∀ {w' : World}, Ext w w' → Value.bool true = .bool true ∧ Ext w w' := fun h => ⟨rfl, h⟩
  have hlen := hR.1
  have hlK := hK.1
  intro k21 w22 hk21 k23 w24 hk23 k25 w26 hk25 k27 w28 hk27
  have x28 := ((hk21.ext.trans hk23.ext).trans hk25.ext).trans hk27.ext
  have z28 := x28.size
  have r21 : RowW w28 k21 (gRow g) := ((hk23.ext.trans hk25.ext).trans hk27.ext).rowW ⟨_, hk21.at⟩ id
  have r23 : RowW w28 k23 (svRow area epoch p9 l9 c9) := (hk25.ext.trans hk27.ext).rowW ⟨_, hk23.at⟩ id
  have r25 : RowW w28 k25 (recRow ⟨kind, key, len, st⟩ p14 l14 c14) := hk27.ext.rowW ⟨_, hk25.at⟩ id
  have r27 : RowW w28 k27 (svRow area2 epoch2 p20 l20 c20) := ⟨_, hk27.at⟩
  have lt21 := r21.lt
  have lt23 := r23.lt
  have lt25 := r25.lt
  have lt27 := r27.lt
  refine (awakeM_spec w28).mono ?_
  rintro e w29 ⟨rfl, x29⟩
  have a21 : RowW w29 k21 (gRow g) := x29.rowW r21 id
  refine ⟨true, rfl, condB_f rfl ⟨_, a21.row.cell (n := 0) rfl, _, a21.row.cell rfl, _, a21.row.cell rfl, _, a21.row.cell rfl, _, a21.row.cell rfl, _, a21.row.cell rfl, (smallg_spec g w29).mono ?_⟩⟩
  rintro e w38 ⟨bs, rfl, hbs, x38⟩
  have y38 := x29.trans x38
  have b21 : RowW w38 k21 (gRow g) := y38.rowW r21 id
  refine ⟨_, rfl, condB_of (fun _ => t (x28.trans y38)) fun hs => ⟨_, b21.row.cell (n := 0) rfl, _, b21.row.cell rfl, _, b21.row.cell rfl, _, b21.row.cell rfl, _, b21.row.cell rfl, _, b21.row.cell rfl, (check_spec g w38).mono ?_⟩⟩
  simp only [Bool.not_eq_false'] at hs
  have hsm := hbs.1 hs
  rintro e w47 ⟨rfl, x47⟩
  have y47 := y38.trans x47
  have c23 : RowW w47 k23 (svRow area epoch p9 l9 c9) := y47.rowW r23 id
  have c25 : RowW w47 k25 (recRow ⟨kind, key, len, st⟩ p14 l14 c14) := y47.rowW r25 id
  refine ⟨_, rfl, condB_of (fun _ => t (x28.trans y47)) fun hc => ⟨_, c23.row.cell (n := 0) rfl, _, c23.row.cell rfl, _, _, _, c23.row.cell rfl, _, c25.row.cell (n := 0) rfl, _, c25.row.cell rfl, _, c25.row.cell rfl, _, _, _, c25.row.cell rfl, (small18_spec 0 0 0 none 0 0 none 0 0 kind key len p14 l14 c14 area epoch (hL.ext (x28.trans y47)) 0 0 0 0 0 none 0 0 none 0 0).mono ?_⟩⟩
  simp only [Bool.not_eq_false', decide_eq_true_eq] at hc
  have hg : GeoOk g := by
    by_cases hg : GeoOk g
    · exact hg
    · unfold checkG at hc; rw [if_neg hg] at hc; cases hc
  obtain ⟨b1, b2, b3, b4, b5, b6⟩ := geo_bounds hg
  rintro e w57 ⟨bo, rfl, hbo, x57⟩
  have y57 := y47.trans x57
  have d27 : RowW w57 k27 (svRow area2 epoch2 p20 l20 c20) := y57.rowW r27 id
  refine ⟨_, rfl, condB_of (fun _ => t (x28.trans y57)) fun ho => ⟨_, d27.row.cell (n := 0) rfl, _, d27.row.cell rfl, _, _, _, d27.row.cell rfl, (small18_spec 0 0 0 none 0 0 none 0 0 0 ⟨#[]⟩ 0 none 0 0 area2 epoch2 (hL2.ext (x28.trans y57)) 0 0 0 0 0 none 0 0 none 0 0).mono ?_⟩⟩
  simp only [Bool.not_eq_false'] at ho
  obtain ⟨_, _, _, hl14', hl9, hso⟩ := hbo.1 ho
  have hLV : ObsV w p9 l9 L := hL.v fun o hx => (hso o hx).2
  rintro e w63 ⟨bo2, rfl, hbo2, x63⟩
  have y63 := y57.trans x63
  refine ⟨_, rfl, condB_of (fun _ => t (x28.trans y63)) fun ho2 => condB_of (fun _ => t (x28.trans y63)) fun h16 => condB_of (fun _ => t (x28.trans y63)) fun hw0 => ?_⟩
  simp only [Bool.not_eq_false', decide_eq_false_iff_not] at ho2 h16 hw0
  obtain ⟨_, _, _, _, hl20, hso2⟩ := hbo2.1 ho2
  have hLV2 : ObsV w p20 l20 L2 := hL2.v fun o hx => (hso2 o hx).2
  refine ⟨⟨0, rfl, Nat.zero_le _, Upd.refl _ _, by simp⟩, ?_⟩
  rintro n70 w71 ⟨i, rfl, hi, x71, hsr⟩
  intros
  have y71 := y63.trans x71
  refine condB_of (fun hlt => ?_) (fun hge => ?_)
  · simp only [decide_eq_true_eq] at hlt
    obtain ⟨x, hx⟩ : ∃ x, R[i]? = some x := ⟨R[i]'(by omega), List.getElem?_eq_getElem _⟩
    obtain ⟨ar, qa, na, ca, rfl, a1, a2, a3, a4, a5, a6⟩ := (hR.ext (x28.trans y71)).2 i x hx
    rw [Int.toNat_natCast]
    refine ⟨⟨by omega, hlt⟩, _, a1, _, a2, _, a3, _, _, _, a4, (small18_spec 0 0 0 none 0 0 none 0 0 x.kind x.key x.len qa na ca 0 0 (p12 := none) (l12 := 0) (c12 := 0) (L := []) ⟨rfl, fun i o hi => by simp at hi⟩ 0 0 0 0 0 none 0 0 none 0 0).mono ?_⟩
    rintro e w91 ⟨br, rfl, hbr, x91⟩
    refine ⟨_, rfl, condB_of (fun _ => t (x28.trans (y71.trans x91))) fun hr => ?_⟩
    simp only [Bool.not_eq_false'] at hr
    obtain ⟨_, _, _, hl, _, _⟩ := hbr.1 hr
    have hna := a5.1
    rw [w64 (by omega)]
    refine ⟨⟨i + 1, by omega, by omega, x71.trans x91, fun o ho => ?_⟩, by show l10 - ((i : Int) + 1).toNat < l10 - (i : Int).toNat; omega⟩
    rw [List.take_add_one, hx] at ho
    rcases List.mem_append.1 ho with ho | ho
    · exact hsr o ho
    · simp at ho; subst ho; omega
  simp only [decide_eq_false_iff_not] at hge
  rw [List.take_of_length_le (by omega)] at hsr
  refine ⟨⟨0, rfl, Nat.zero_le _, Upd.refl _ _, by simp⟩, ?_⟩
  rintro n98 w99 ⟨j, rfl, hj, x99, hsk⟩
  intros
  have y99 := y71.trans x99
  refine condB_of (fun hlt => ?_) (fun hge => ?_)
  · simp only [decide_eq_true_eq] at hlt
    obtain ⟨ks, hks⟩ : ∃ ks, KS[j]? = some ks := ⟨KS[j]'(by omega), List.getElem?_eq_getElem _⟩
    obtain ⟨ak, q, nn, cc, rfl, hcell, hints⟩ := hK.2 j ks hks
    have hn := hints.1
    refine ⟨⟨by omega, hlt⟩, _, _, _, by rw [Int.toNat_natCast]; exact cellx hcell (x28.trans y99), condB_of (fun _ => t (x28.trans y99)) fun h50 => ?_⟩
    simp only [decide_eq_false_iff_not] at h50
    rw [w64 (by omega)]
    refine ⟨⟨j + 1, by omega, by omega, x99, fun z hz => ?_⟩, by show 100 - ((j : Int) + 1).toNat < 100 - (j : Int).toNat; omega⟩
    rw [List.take_add_one, hks] at hz
    rcases List.mem_append.1 hz with hz | hz
    · exact hsk z hz
    · simp at hz; subst hz; omega
  simp only [decide_eq_false_iff_not] at hge
  rw [List.take_of_length_le (by omega)] at hsk
  have e21 : RowW w99 k21 (gRow g) := y99.rowW r21 id
  have e23 : RowW w99 k23 (svRow area epoch p9 l9 c9) := y99.rowW r23 id
  have x99' := x28.trans y99
  refine ⟨_, e21.row.cell (n := 0) rfl, _, e21.row.cell rfl, _, e21.row.cell rfl, _, e21.row.cell rfl, _, e21.row.cell rfl, _, e21.row.cell rfl, _, e23.row.cell (n := 0) rfl, _, e23.row.cell rfl, _, _, _, e23.row.cell rfl, (laid_spec hg area epoch (hLV.ext x99') (by omega) (hR.ext x99')).mono ?_⟩
  rintro e w124 (⟨_, rfl, x124⟩ | ⟨hsv, hmay, a, F, s0, rfl, x124, hF, h124, hal, hqu⟩)
  · exact ⟨_, _, rfl, condB_t rfl (t (x99'.trans x124))⟩
  have y124 := y99.trans x124
  have x124' := x28.trans y124
  obtain ⟨ha, hE⟩ := svZ_ok hsv
  have f23 : RowW w124 k23 (svRow area epoch p9 l9 c9) := y124.rowW r23 id
  have f25 : RowW w124 k25 (recRow ⟨kind, key, len, st⟩ p14 l14 c14) := y124.rowW r25 id
  have f27 : RowW w124 k27 (svRow area2 epoch2 p20 l20 c20) := y124.rowW r27 id
  refine ⟨_, _, rfl, condB_f rfl ⟨_, f27.row.cell rfl, _, f23.row.cell rfl, ?_⟩⟩
  rw [w64 (n := 1 - area) (by omega)]
  refine condB_of (fun _ => t x124') fun har => ⟨_, f27.row.cell rfl, _, f23.row.cell rfl, condB_of (fun _ => t x124') fun hep => ⟨_, f25.row.cell (n := 0) rfl, _, f25.row.cell rfl, _, f25.row.cell rfl, _, _, _, f25.row.cell rfl, (rec_spec kind key len (hst.ext x124') hl14).mono ?_⟩⟩
  simp only [Bool.not_eq_false', decide_eq_true_eq, decide_eq_false_iff_not] at har hep
  subst har
  rintro e w136 ⟨rfl, x136⟩
  have y136 := y124.trans x136
  have x136' := x28.trans y136
  have g21 : RowW w136 k21 (gRow g) := y136.rowW r21 id
  refine ⟨_, rfl, condB_of (fun _ => t x136') fun hrk => ⟨_, g21.row.cell rfl, condB_of (fun _ => t x136') fun hcn => ⟨_, g21.row.cell (n := 0) rfl, _, g21.row.cell rfl, _, g21.row.cell rfl, _, g21.row.cell rfl, _, g21.row.cell rfl, _, g21.row.cell rfl, (kept_spec g hR x136').mono ?_⟩⟩⟩
  simp only [Bool.not_eq_false', decide_eq_true_eq, decide_eq_false_iff_not] at hrk hcn
  have hrok : (⟨kind, key, len, st⟩ : RecK).ok := by
    unfold recZ at hrk
    split at hrk
    · assumption
    · cases hrk
  rintro e w146 ⟨p148, l148, c148, rfl, hwas, x146, base, rows, hbase, own146, hrows⟩
  have y146 := y136.trans x146
  have x146' := x28.trans y146
  have hKl := keptF_len (slots := g.slots) (by omega) (R.take 20)
  have hKo := keptF_ok g.slots (R.take 20)
  have hKs : ∀ x ∈ keptF g.slots (R.take 20), x.st.length ≤ 1000 := fun x hx => Nat.le_trans (hsr x (List.mem_of_mem_take (keptF_sub _ _ x hx))) (by omega)
  have hwl := hwas.1
  generalize keptF g.slots (R.take 20) = WAS at *
  have h146 : IsA w146 a s0 F := IsArr.ext (IsArr.ext h124 x136) x146
  have hlt124 := h124.lt
  have z136 := x136.size
  have hFb : ∀ x, F x → x < base := fun x hx => by have := hlt124 x hx; omega
  refine ⟨_, _, _, rfl, (after_spec h146 n15).mono ?_⟩
  rintro e w149 ⟨rfl, st149, h149⟩
  rw [hal.down] at h149
  simp only [Bool.false_eq_true, if_false] at h149
  rw [if_neg (by omega)] at h149
  have hF28 : ∀ x, F x → w28.heap.size ≤ x := fun x hx => Nat.le_trans y99.size (hF x hx)
  obtain ⟨y149, hF149⟩ := ext_stepA y146 st149 hF28
  have x149' := x28.trans y149
  have ok1 : OkA ⟨s0.M, n15, decide (n15 = 0)⟩ := ⟨by show s0.M.length ≤ 32; rw [hal.len]; omega, by show -1 ≤ n15; omega, hn15.2⟩
  have hA149 : IsA w149 a ⟨s0.M, n15, decide (n15 = 0)⟩ F := h149
  have g21' : RowW w149 k21 (gRow g) := y149.rowW r21 id
  have g23' : RowW w149 k23 (svRow area epoch p9 l9 c9) := y149.rowW r23 id
  have g25' : RowW w149 k25 (recRow ⟨kind, key, len, st⟩ p14 l14 c14) := y149.rowW r25 id
  have g27' : RowW w149 k27 (svRow (1 - area) epoch2 p20 l20 c20) := y149.rowW r27 id
  have one : 1 ≤ s0.M.length := by rw [hal.len]; omega
  refine ⟨rfl, ?_⟩
  cases b with
  | true =>
    refine ⟨_, g21'.row.cell (n := 0) rfl, _, g21'.row.cell rfl, _, g21'.row.cell rfl, _, g21'.row.cell rfl, _, g21'.row.cell rfl, _, g21'.row.cell rfl, _, g27'.row.cell (n := 0) rfl, _, g27'.row.cell rfl, _, _, _, g27'.row.cell rfl, (msave_spec hA149 ok1 g (1 - area) epoch2 (hLV2.ext x149') (by omega)).mono ?_⟩
    rintro e w160 ⟨F160, rfl, st160, h160⟩
    obtain ⟨y160, hF160⟩ := ext_stepA y149 st160 hF28
    have x160' := x28.trans y160
    by_cases hok : svZ (1 - area) epoch2 = 0 ∧ MayOk L2
    · refine ⟨_, rfl, condB_of (fun _ => t x160') fun _ => ?_⟩
      have hE2 := (svZ_ok hok.1).2
      have m0 : Mx (5 + g.slots + g.stripes) (g.k + g.m).toNat (laidV area epoch L WAS) (savV (laidV area epoch L WAS) (1 - area) epoch2 (snapB L2)) ⟨s0.M, n15, decide (n15 = 0)⟩ := (hal.mx hqu _).sub rfl
      have e0 : areaZ g (1 - area) 0 = 1 + 2 * (1 - area) := by rw [area_at hg (by omega) (by omega)]; omega
      have e1 : areaZ g (1 - area) 1 = 2 + 2 * (1 - area) := by rw [area_at hg (by omega) (by omega)]; omega
      have m1 := m0.save (g := g) (a := 1 - area) (E := epoch2) (L := L2) (by rw [e0]; exact savV_0.symm) (by rw [e1]; exact savV_1.symm)
      have ok3 := svM_okA (g := g) (a := 1 - area) (E := epoch2) (L := L2) ok1
      generalize (svM g (1 - area) epoch2 L2 ⟨s0.M, n15, decide (n15 = 0)⟩).1 = s3 at h160 m1 ok3
      obtain ⟨whole, hor⟩ := (m1.crash KS).told_sav (by omega) hg ha hE hE2 hmay hok.2
      exact cuts_A0 (w := w) (B := w28.heap.size) hg ha hE true h160 ok3 (by rw [m1.len]; omega) x160' z28 hF160 lt21 lt23 lt25 lt27 hLV hl9 hso hLV2 hl20 hso2 (r := ⟨kind, key, len, st⟩) hst hl14' (y160.rowW r21 id) (y160.rowW r23 id) (y160.rowW r25 id) (y160.rowW r27 id) hK (fun ks hk => Nat.le_trans (hsk ks hk) (by omega))
        (fun F' w' st' => ownS_step own146 ((st149.trans st160).trans st') hFb) hrows (by omega) hKs ⟨whole, fun _ => ⟨by omega, hor⟩, fun h => by cases h⟩ (fun w' hx => t hx)
    · have e1 : (svM g (1 - area) epoch2 L2 ⟨s0.M, n15, decide (n15 = 0)⟩).2 = 1 := by rw [svM_no hg hok]
      exact ⟨_, rfl, condB_t (by rw [e1]; rfl) (t x160')⟩
  | false =>
    refine ⟨_, g21'.row.cell (n := 0) rfl, _, g21'.row.cell rfl, _, g21'.row.cell rfl, _, g21'.row.cell rfl, _, g21'.row.cell rfl, _, g21'.row.cell rfl, _, g23'.row.cell rfl, _, g25'.row.cell (n := 0) rfl, _, g25'.row.cell rfl, _, g25'.row.cell rfl, _, _, _, g25'.row.cell rfl, (mappend_spec hA149 ok1 g epoch (WAS.length : Int) kind key len (hst.ext x149') hl14).mono ?_⟩
    rintro e w160 ⟨F160, rfl, st160, h160⟩
    obtain ⟨y160, hF160⟩ := ext_stepA y149 st160 hF28
    have x160' := x28.trans y160
    refine ⟨_, rfl, ?_⟩
    have hcl : (WAS.length : Int) < g.slots := by omega
    have m0 : Mx (5 + g.slots + g.stripes) (g.k + g.m).toNat (laidV area epoch L WAS) (laidV area epoch L (WAS ++ [⟨kind, key, len, st⟩])) ⟨s0.M, n15, decide (n15 = 0)⟩ := (hal.mx hqu _).sub rfl
    have m1 := m0.append (g := g) (base := epoch) (count := (WAS.length : Int)) (kind := kind) (key := key) (len := len) (st := st) (by
      rw [slot_at hg (by omega) hcl]
      exact (laidV_rec (R := WAS ++ [⟨kind, key, len, st⟩]) (j := WAS.length) (r := ⟨kind, key, len, st⟩) (by simp)).symm)
    have ok3 := appM_okA (g := g) (base := epoch) (count := (WAS.length : Int)) (kind := kind) (key := key) (len := len) (st := st) ok1
    generalize (appM g epoch (WAS.length : Int) kind key len st ⟨s0.M, n15, decide (n15 = 0)⟩).1 = s3 at h160 m1 ok3
    obtain ⟨whole, broken, hor⟩ := (m1.crash KS).told_app (by omega) hg ha hE hmay hcl hKo hrok
    exact cuts_A0 (w := w) (B := w28.heap.size) hg ha hE false h160 ok3 (by rw [m1.len]; omega) x160' z28 hF160 lt21 lt23 lt25 lt27 hLV hl9 hso hLV2 hl20 hso2 (r := ⟨kind, key, len, st⟩) hst hl14' (y160.rowW r21 id) (y160.rowW r23 id) (y160.rowW r25 id) (y160.rowW r27 id) hK (fun ks hk => Nat.le_trans (hsk ks hk) (by omega))
      (fun F' w' st' => ownS_step own146 ((st149.trans st160).trans st') hFb) hrows (by omega) hKs ⟨whole, (fun h => by cases h), fun _ => ⟨broken, hor⟩⟩ (fun w' hx => t hx)
set_option maxRecDepth 100000 in
theorem metalogCuts_lifted (os : Os) (started : os.Started) (H : Type) (enc : TypeId × Value → H) :
    ReturnsInHanded {} Try.checked os 5 .any (Rows.metalogCutsSpec.pre6 enc Try.prog Try.f5 Rows.metalogCutsRow.domain false) (Rows.metalogCutsSpec.post enc Try.prog Try.f5 false true false false) := by
  refine returnsInHanded_of_change (C := Try.checked) lawOwn started (by kernel_rfl) Try.func5
    (ChangeSpec.witness6 (enc := enc) (C := Try.checked) false ⟨#[], #[.agg #[.int .i64 0, .int .i64 0, .int .i64 0, .int .i64 0, .int .i64 0, .int .i64 0], .agg #[.int .i64 0, .int .i64 0, .slice none 0 0], .slice none 0 0, .agg #[.int .i64 0, .string ⟨#[]⟩, .int .i64 0, .slice none 0 0], .int .i64 0, .slice none 0 0, .bool false, .agg #[.int .i64 0, .int .i64 0, .slice none 0 0]], []⟩ 8 (by kernel_rfl) (by kernel_rfl) (by kernel_rfl) (by kernel_rfl)) ?_
  intro W base args ds gs before hval0 hW hcnd _
  have hval : ∀ (j : Nat) t v, Try.f5.params[j]? = some t → args[j]? = some v → Value.okWide Try.prog W .any base t v := hval0
  have hW' := hW
  obtain ⟨p, q, hA0, hV, rfl, hfz, hnd⟩ := hW
  have hA : DataW.TrodAll enc Try.prog W 0 (fun _ => true) true Try.f5.params.toList args.toList ds p := hA0
  rw [Try.params5] at hA hval
  obtain ⟨v0, vs0, d0, ds0, p0, q0, hargs, rfl, rfl, h0, r0⟩ := trodAll_cons hA
  obtain ⟨v1, vs1, d1, ds1, p1, q1, rfl, rfl, rfl, h1, r1⟩ := trodAll_cons r0
  obtain ⟨v2, vs2, d2, ds2, p2, q2, rfl, rfl, rfl, h2, r2⟩ := trodAll_cons r1
  obtain ⟨v3, vs3, d3, ds3, p3, q3, rfl, rfl, rfl, h3, r3⟩ := trodAll_cons r2
  obtain ⟨v4, vs4, d4, ds4, p4, q4, rfl, rfl, rfl, h4, r4⟩ := trodAll_cons r3
  obtain ⟨v5, vs5, d5, ds5, p5, q5, rfl, rfl, rfl, h5, r5⟩ := trodAll_cons r4
  obtain ⟨v6, vs6, d6, ds6, p6, q6, rfl, rfl, rfl, h6, r6⟩ := trodAll_cons r5
  obtain ⟨v7, vs7, d7, ds7, p7, q7, rfl, rfl, rfl, h7, r7⟩ := trodAll_cons r6
  obtain ⟨rfl, rfl, rfl⟩ := trodAll_nil r7
  obtain rfl : args = #[v0, v1, v2, v3, v4, v5, v6, v7] := by cases args; simp_all
  obtain ⟨rfl, rfl⟩ := trodVars_none hV
  obtain ⟨g0, rfl⟩ := open_geo (okWide_struct Try.underlying24 (hval 0 24 v0 rfl rfl)) h0
  obtain ⟨sa1, se1, sp1, sl1, sc1, sL1, rfl, hs1⟩ := open_saved (okWide_struct Try.underlying37 (hval 1 37 v1 rfl rfl)) h1
  obtain ⟨a2, l2, c2, L2, rfl, hL2, hl2⟩ := open_recs (okWide_slice Try.underlying32 (hval 2 32 v2 rfl rfl)) h2
  obtain ⟨rk3, ry3, rn3, rp3, rl3, rc3, rs3, rfl, hr3, hl3⟩ := open_rec (okWide_struct Try.underlying27 (hval 3 27 v3 rfl rfl)) h3
  obtain ⟨n4, rfl, rfl, rfl, wn4⟩ := open_int Try.underlying3 (hval 4 3 v4 rfl rfl) h4
  obtain ⟨a5, l5, c5, KS5, rfl, hK5⟩ := open_keep (okWide_slice Try.underlying44 (hval 5 44 v5 rfl rfl)) h5
  obtain ⟨b6, rfl⟩ := okWide_bool Try.underlying4 (hval 6 4 v6 rfl rfl)
  obtain ⟨sa7, se7, sp7, sl7, sc7, sL7, rfl, hs7⟩ := open_saved (okWide_struct Try.underlying37 (hval 7 37 v7 rfl rfl)) h7
  refine (metalogCuts_walk g0 sa1 se1 hs1 hL2 hl2 rk3 ry3 rn3 hr3 hl3 n4 (mwfi64 wn4) hK5 b6 sa7 se7 hs7).mono fun e W' ⟨he, hg⟩ => ?_
  subst he
  exact ⟨_, rfl, post_true lawLaid rfl (by kernel_rfl) rfl Try.underlying4 hW' rfl hg.below⟩

/-- ████ THE STATEMENT ████ -/
theorem metalogCuts_holds : Rows.MetalogCutsSaid :=
  OpenClaim.holds_of_wide 5 Try.f5 rfl rfl rfl rfl rfl rfl rfl ⟨rfl, rfl, rfl, rfl, rfl⟩ rfl rfl rfl rfl rfl (by kernel_rfl) Try.func5 (by kernel_rfl)
    (of_decide_eq_true (by kernel_rfl)) (by unfold Func.isWrapper; first | (rw [if_pos (by decide +kernel)]; kernel_rfl) | (rw [if_neg (by decide +kernel)]; exact ⟨rfl, rfl⟩))
    (fun os started H enc _ => metalogCuts_lifted os started H enc)
end Go.Proofs.Ytnfcfbljdibinaa
