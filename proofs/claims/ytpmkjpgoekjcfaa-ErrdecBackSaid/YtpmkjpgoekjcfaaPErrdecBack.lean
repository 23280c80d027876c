/- ErrdecBack returns true, whatever the data and what is done to them. No conditions. -/
import Derived.Test.YtpmkjpgoekjcfaaH27
import Derived.Test.YtpmkjpgoekjcfaaRows
namespace Go.Proofs.Ytpmkjpgoekjcfaa
open Go Go.Vc Go.Gf Go.ChangeShapes Go.WideShapes Go.ChangeAt Go.RowKit

set_option maxRecDepth 20000 in
set_option maxHeartbeats 8000000 in
theorem errdecBack_walk (n1 n2 : Int) {w : World} {p3 : Option Addr} {l3 c3 : Nat} {ds : List UInt8} (hd : BytesAt w p3 l3 ds) {p4 : Option Addr} {l4 c4 : Nat} {ms : List Bool} (hm : FlagsAt w p4 l4 ms) {p5 : Option Addr} {l5 c5 : Nat} {by_ : List UInt8} (hb : BytesAt w p5 l5 by_) :
    Calls Try.prog 6 #[.int .i64 n1, .int .i64 n2, .slice p3 l3 c3, .slice p4 l4 c4, .slice p5 l5 c5] w fun e w' => e = .returned (.bool true) ∧ Ext w w' := by
  refine (F6_calls n1 n2 p3 l3 c3 p4 l4 c4 p5 l5 c5 w (fun v w' => v = .bool true ∧ Ext w w')
    (fun pf p24 l24 c24 p28 l28 c28 _ p36 l36 c36 i w38 => 0 ≤ i ∧ i ≤ n1 + n2 ∧ ∃ w22 wd, FieldAt w22 pf ∧ Ext w w22 ∧ Ext w22 w38 ∧ OwnB w22 w.heap.size p24 l24 c24 (enc n1.toNat n2.toNat ds) ∧ OwnB w38 w22.heap.size p28 l28 c28 wd ∧ wd.length = (n1 + n2).toNat ∧
      (∀ t : Nat, t < (n1 + n2).toNat → co wd t = if (t : Int) < i then co (enc n1.toNat n2.toNat ds) t ^^^ co by_ t else co (enc n1.toNat n2.toNat ds) t) ∧ OwnN w38 w22.heap.size p36 l36 c36 (dif i.toNat ms by_ [])) (fun _ _ _ _ _ _ _ _ _ _ _ i _ => (n1 + n2 - i).toNat) ?_).mono (by rintro e w' ⟨v, rfl, rfl, h⟩; exact ⟨rfl, h⟩)
  have hdl := hd.1
  have hml := hm.1
  have hbl := hb.1
  refine (awake_spec w).mono ?_
  rintro e w6 ⟨rfl, x6⟩
  refine ⟨_, rfl, (fnew_spec w6).mono ?_⟩
  rintro e w9 ⟨kf, rfl, x9, _, hf⟩
  refine ⟨_, rfl, condB_of (fun h => by cases h) fun _ => condB_of (fun h => by cases h) fun _ => (ccheck_spec n1 n2 w9).mono ?_⟩
  rintro e w12 ⟨rfl, rfl⟩
  have xw := x6.trans x9
  refine ⟨_, rfl, condB_of (fun h => ⟨rfl, xw⟩) fun hk0 => ?_⟩
  simp only [Bool.not_eq_false', decide_eq_true_eq] at hk0
  have hk : kmOk n1 n2 := Decidable.byContradiction fun h => by rw [kmE_bad h] at hk0; omega
  obtain ⟨a1, a2, a3, a4⟩ := hk
  have hk : kmOk n1 n2 := ⟨a1, a2, a3, a4⟩
  rw [w64 (n := n1 + n2) (by omega)]
  refine condB_of (fun h => ⟨rfl, xw⟩) fun _ => condB_of (fun h => ⟨rfl, xw⟩) fun h3 => condB_of (fun h => ⟨rfl, xw⟩) fun h4 => condB_of (fun h => ⟨rfl, xw⟩) fun h5 => ?_
  simp only [Bool.not_eq_false', decide_eq_true_eq] at h3 h4 h5
  have hdk : ds.length = n1.toNat := by omega
  have hkm : n1.toNat + n2.toNat = (n1 + n2).toNat := by omega
  refine (column_spec (c := c3) (hd.ext xw) (by omega)).mono ?_
  rintro e w15 ⟨p17, c17, rfl, x15, hcol⟩
  refine ⟨_, _, _, rfl, (encode_spec (c := c17) (hf.ext x15) hcol (fun x hx => by
    obtain ⟨b, _, rfl⟩ := List.mem_map.1 hx
    simp) (by omega) n1 n2).mono ?_⟩
  rintro e w18 ⟨v, rfl, x18, ⟨h, _⟩ | ⟨_, h, _⟩ | ⟨_, _, a, c20, rfl, hrows⟩⟩
  · exact (h hk).elim
  · exact (h (by have := alike_one (k := n1) (d := ds) (by omega); rwa [← hdl] at this)).elim
  have hlists := hrows.lists
  have e9 : List.range (n1 + n2).toNat = List.range (n1.toNat + n2.toNat) := by rw [hkm]
  rw [e9] at hlists
  refine ⟨_, _, _, _, rfl, (line_spec (c := c20) hlists (by omega) (fun i => by have := flat_take (k := n1.toNat) (m := n2.toNat) (d := ds) i; omega)).mono ?_⟩
  rintro e w22 ⟨p24, l24, c24, rfl, x22, oR⟩
  rw [enc_flat (by omega) hdk] at oR
  have hel := enc_len (m := n2.toNat) hdk
  have lR := OwnB.len oR
  have xw22 := xw.trans (x15.trans (x18.trans x22))
  have oR' : OwnB w22 w.heap.size p24 l24 c24 (enc n1.toNat n2.toNat ds) := OwnB.base_le oR (xw.trans (x15.trans x18)).size
  refine ⟨_, _, _, rfl, condB_of (fun h => by simp at h) fun _ => condB_of (fun h => by simp only [Bool.not_eq_true', decide_eq_false_iff_not] at h; omega) fun _ => ?_⟩
  intro k25 w26 h26
  have o26 : OwnB w26 w22.heap.size (some (at0 k25)) 0 0 [] := OwnS.made h26 (by rw [h26.size.1]; exact Nat.le_refl _) (Nat.le_refl _) (by unfold maxLen; omega) rfl
  obtain ⟨p28, c28, w27, hr, o27, u27⟩ := OwnB.append (d := c24) o26 (OwnB.bytes (OwnB.ext oR h26.ext)) h26.ext.size (by omega)
  rw [Nat.zero_add] at hr o27
  rw [List.nil_append] at o27
  have x27 : Ext w22 w27 := OwnB.new_ext h26.ext u27 fun x hx => OwnB.blk o26 hx
  refine ⟨_, _, _, w27, hr, ⟨by omega, by omega, w22, _, hf.ext (x15.trans (x18.trans x22)), xw22, x27, oR', o27, by omega, fun t ht => by rw [if_neg (by omega)], OwnS.nil _ _ _ _⟩, ?_⟩
  clear o27 x27 u27 o26
  rintro p36 l36 c36 i w38 ⟨hi0, hi1, w22', wd, hfw, y1, y2, oR2, oW, hwl, hwd, oN⟩
  intros
  have yw := y1.trans y2
  have lW := OwnB.len oW
  have lN := OwnN.len oN
  have hdle : (dif i.toNat ms by_ []).length ≤ i.toNat := dif_len_le
  refine condB_of (fun hs => ?_) (fun hs => ?_)
  · -- a byte is changed
    simp only [decide_eq_true_eq] at hs
    intro w74 hd74
    have y74 := y2.trans hd74.ext
    have yw74 := y1.trans y74
    obtain ⟨kw, rfl, hkw, lv, cell, hset⟩ := OwnB.at (OwnB.ext oW hd74.ext) (i := i.toNat) (by omega)
    obtain ⟨ab, rfl, hcb⟩ := BytesAt.co (hb.ext yw74) (i := i.toNat) (by omega)
    simp only [Nat.mul_one]
    refine ⟨⟨hi0, by omega⟩, _, cell, ⟨hi0, by omega⟩, _, hcb, ⟨hi0, by omega⟩, lv, fun w80 s80 => ?_⟩
    rw [bx8] at s80
    obtain ⟨oW80, u80⟩ := hset _ _ s80
    obtain ⟨csw, roww⟩ := OwnB.row (OwnB.ext oW hd74.ext)
    have y80 : Ext w22' w80 := ext_upd y74 hkw u80
    have yw80 := y1.trans y80
    have oN80 : OwnN w80 w22'.heap.size p36 l36 c36 (dif i.toNat ms by_ []) := OwnS.other (OwnS.ext oN hd74.ext) u80 fun x hx => ⟨csw, _, (0, 0), by rw [show x = kw from hx]; exact roww, ity.1.symm⟩
    have hcb80 : w80.cell? (ab.add i.toNat) = some (vb (co by_ i.toNat)) := by
      obtain ⟨ab', hab, h1⟩ := BytesAt.co (hb.ext yw80) (i := i.toNat) (by omega)
      cases hab
      exact h1
    rw [w64 (n := i + 1) (by omega)]
    have hnx : (i + 1).toNat = i.toNat + 1 := by omega
    have hmeas : (n1 + n2 - (i + 1)).toNat < (n1 + n2 - i).toNat := by omega
    have hwd' : ∀ t : Nat, t < (n1 + n2).toNat → co (wd.set i.toNat (co wd i.toNat ^^^ co by_ i.toNat)) t = if (t : Int) < i + 1 then co (enc n1.toNat n2.toNat ds) t ^^^ co by_ t else co (enc n1.toNat n2.toNat ds) t := fun t ht => by
      rw [co_set (by omega)]
      by_cases e : t = i.toNat
      · subst e
        rw [if_pos rfl, if_pos (by omega), hwd _ ht, if_neg (by omega)]
      · rw [if_neg e, hwd t ht]
        by_cases h1 : (t : Int) < i
        · rw [if_pos h1, if_pos (by omega)]
        · rw [if_neg h1, if_neg (by omega)]
    refine ⟨⟨hi0, by omega⟩, _, hcb80, condB_of (fun hne => ?_) (fun hne => ?_)⟩
    · simp only [Bool.not_eq_true', decide_eq_false_iff_not, vb_zero] at hne
      obtain ⟨am, rfl, hcm⟩ := (hm.ext yw80).get (i := i.toNat) (by omega)
      refine ⟨⟨hi0, by omega⟩, _, hcm, condB_of (fun hmi => ?_) (fun hmi => ?_)⟩
      · have hmi' : ms.getD i.toNat false = false := by simpa using hmi
        intro k85 w86 h86
        rw [show i = ((i.toNat : Nat) : Int) by omega] at h86
        obtain ⟨p', c', w87, hr', oN87, u87⟩ := OwnN.push oN80 h86 y80.size (by omega)
        have y87 : Ext w22' w87 := OwnB.new_ext y80 u87 fun y hy => OwnS.blk oN80 hy
        refine ⟨_, _, _, w87, hr', ⟨by omega, by omega, w22', _, hfw, y1, y87, oR2, ?_, by rw [List.length_set]; exact hwl, hwd', ?_⟩, hmeas⟩
        · exact OwnB.other oW80 u87 fun x hx => by
            obtain ⟨cs, e', fz, h7, h8⟩ := OwnS.typed oN80 hx
            exact ⟨cs, e', fz, h7, by rw [h8]; exact ity.1⟩
        · rw [hnx, dif_succ, hmi', decide_eq_true (show co by_ i.toNat ≠ co [] i.toNat from hne)]
          exact oN87
      · have hmi' : ms.getD i.toNat false = true := by simpa using hmi
        refine ⟨⟨by omega, by omega, w22', _, hfw, y1, y80, oR2, oW80, by rw [List.length_set]; exact hwl, hwd', ?_⟩, hmeas⟩
        rw [hnx, dif_succ, hmi']
        simpa using oN80
    · simp only [Bool.not_eq_false', decide_eq_true_eq, vb_zero] at hne
      refine ⟨⟨by omega, by omega, w22', _, hfw, y1, y80, oR2, oW80, by rw [List.length_set]; exact hwl, hwd', ?_⟩, hmeas⟩
      rw [hnx, dif_succ, decide_eq_false (show ¬ co by_ i.toNat ≠ co [] i.toNat from fun h => h hne)]
      simpa using oN80
  · simp only [decide_eq_false_iff_not] at hs
    obtain rfl : i = n1 + n2 := by omega
    refine (count_spec (c := c4) (hm.ext yw) (by omega)).mono ?_
    rintro e w89 ⟨rfl, rfl⟩
    have hml2 := mis_le l4 ms
    refine ⟨_, rfl, ?_⟩
    rw [w64 (n := 2 * (l36 : Int)) (by omega), w64 (by omega)]
    refine condB_of (fun _ => ⟨rfl, yw⟩) fun hfew => ?_
    simp only [decide_eq_false_iff_not] at hfew
    have hcode := enc_code (k := n1.toNat) (m := n2.toNat) (by omega) hdk
    have hdif : dif (n1.toNat + n2.toNat) ms (enc n1.toNat n2.toNat ds) wd = dif (n1 + n2).toNat ms by_ [] := by
      rw [hkm]
      refine List.filter_congr fun t ht => ?_
      rw [List.mem_range] at ht
      rw [hwd t ht, if_pos (by omega)]
      congr 1
      by_cases e : co by_ t = 0
      · rw [e, x0, decide_eq_false (fun h => h rfl), decide_eq_false (show ¬ (0 : UInt8) ≠ co [] t from fun h => h rfl)]
      · rw [decide_eq_true (show co by_ t ≠ co [] t from e), decide_eq_true_eq]
        intro h
        have h2 : co (enc n1.toNat n2.toNat ds) t ^^^ co (enc n1.toNat n2.toNat ds) t = co (enc n1.toNat n2.toNat ds) t ^^^ (co (enc n1.toNat n2.toNat ds) t ^^^ co by_ t) := by rw [← h]
        rw [xx, xx_left] at h2
        exact e h2.symm
    have hnear : Near n1.toNat n2.toNat wd ms (enc n1.toNat n2.toNat ds) := ⟨hcode, by rw [hdif, ← lN, hkm, show (n1 + n2).toNat = l4 by omega]; omega⟩
    have hdec := decM_some (by omega) hnear
    refine (word_spec (c4 := c28) (c5 := c4) (hfw.ext y2) (OwnB.bytes oW) (hm.ext yw) n1 n2).mono ?_
    rintro e w92 ⟨v, rfl, x92, ⟨h, _⟩ | ⟨_, h, _⟩ | ⟨_, _, _, ⟨h, _⟩ | ⟨c, hc, p94, c94, p95, n95, c95, rfl, oc, od⟩⟩⟩
    · exact (h hk).elim
    · exact (h ⟨by omega, h4⟩).elim
    · rw [hdec] at h; cases h
    rw [hdec] at hc
    cases hc
    rw [hdif] at od
    have lod := OwnN.len od
    refine ⟨_, _, _, _, _, _, _, rfl, (same_spec (c1 := c94) (c2 := c24) (OwnB.bytes oc) (OwnB.bytes (OwnB.ext (OwnB.ext oR2 y2) x92)) (by omega)).mono ?_⟩
    rintro e w97 ⟨rfl, q97⟩
    have hdl2 : (dif (n1 + n2).toNat ms by_ []).length ≤ (n1 + n2).toNat := dif_len_le
    refine ⟨_, rfl, (ints_spec (c1 := c95) (c2 := c36) (OwnN.nats (OwnS.ext od q97.ext)) (OwnN.nats (OwnS.ext (OwnS.ext oN x92) q97.ext)) (by omega)).mono ?_⟩
    rintro e w100 ⟨rfl, x100⟩
    refine ⟨_, rfl, condB_of (fun _ => ?_) (fun h => by simp at h)⟩
    refine condB_of (fun _ => ?_) (fun h => by simp at h)
    exact ⟨rfl, yw.trans (x92.trans (q97.ext.trans x100))⟩
set_option maxRecDepth 100000 in
theorem errdecBack_lifted (os : Os) (started : os.Started) (H : Type) (enc : TypeId × Value → H) :
    ReturnsInHanded {} Try.checked os 6 .any (Rows.errdecBackSpec.pre6 enc Try.prog Try.f6 Rows.errdecBackRow.domain false) (Rows.errdecBackSpec.post enc Try.prog Try.f6 false true false false) := by
  refine returnsInHanded_of_change (C := Try.checked) lawOwn started (by kernel_rfl) Try.func6
    (ChangeSpec.witness6 (enc := enc) (C := Try.checked) false ⟨#[], #[.int .i64 0, .int .i64 0, .slice none 0 0, .slice none 0 0, .slice none 0 0], []⟩ 8 (by kernel_rfl) (by kernel_rfl) (by kernel_rfl) (by kernel_rfl)) ?_
  intro W base args ds gs before hval0 hW hcnd _
  have hval : ∀ (j : Nat) t v, Try.f6.params[j]? = some t → args[j]? = some v → Value.okWide Try.prog W .any base t v := hval0
  have hW' := hW
  obtain ⟨p, q, hA0, hV, rfl, hfz, hnd⟩ := hW
  have hA : DataW.TrodAll enc Try.prog W 0 (fun _ => true) true Try.f6.params.toList args.toList ds p := hA0
  rw [Try.params6] at hA hval
  obtain ⟨v0, vs0, d0, ds0, p0, q0, hargs, rfl, rfl, h0, r0⟩ := trodAll_cons hA
  obtain ⟨v1, vs1, d1, ds1, p1, q1, rfl, rfl, rfl, h1, r1⟩ := trodAll_cons r0
  obtain ⟨v2, vs2, d2, ds2, p2, q2, rfl, rfl, rfl, h2, r2⟩ := trodAll_cons r1
  obtain ⟨v3, vs3, d3, ds3, p3, q3, rfl, rfl, rfl, h3, r3⟩ := trodAll_cons r2
  obtain ⟨v4, vs4, d4, ds4, p4, q4, rfl, rfl, rfl, h4, r4⟩ := trodAll_cons r3
  obtain ⟨rfl, rfl, rfl⟩ := trodAll_nil r4
  obtain rfl : args = #[v0, v1, v2, v3, v4] := by cases args; simp_all
  obtain ⟨rfl, rfl⟩ := trodVars_none hV
  obtain ⟨n0, rfl, rfl, rfl, wn0⟩ := open_int Try.underlying3 (hval 0 3 v0 rfl rfl) h0
  obtain ⟨n1, rfl, rfl, rfl, wn1⟩ := open_int Try.underlying3 (hval 1 3 v1 rfl rfl) h1
  obtain ⟨a2, l2, c2, bs2, rfl, hb2, _, _⟩ := open_by (okWide_slice Try.underlying22 (hval 2 22 v2 rfl rfl)) h2
  obtain ⟨a3, l3, c3, ks3, rfl, hk3, _, _⟩ := open_flags (okWide_slice Try.underlying23 (hval 3 23 v3 rfl rfl)) h3
  obtain ⟨a4, l4, c4, bs4, rfl, hb4, _, _⟩ := open_by (okWide_slice Try.underlying22 (hval 4 22 v4 rfl rfl)) h4
  refine (errdecBack_walk n0 n1 hb2 hk3 hb4).mono fun e W' ⟨he, hg⟩ => ?_
  subst he
  exact ⟨_, rfl, post_true lawLaid rfl (by kernel_rfl) rfl Try.underlying4 hW' rfl hg.below⟩

/-- ████ THE STATEMENT ████ -/
theorem errdecBack_holds : Rows.ErrdecBackSaid :=
  OpenClaim.holds_of_wide 6 Try.f6 rfl rfl rfl rfl rfl rfl rfl ⟨rfl, rfl, rfl, rfl, rfl⟩ rfl rfl rfl rfl rfl (by kernel_rfl) Try.func6 (by kernel_rfl)
    (of_decide_eq_true (by kernel_rfl)) (by unfold Func.isWrapper; first | (rw [if_pos (by decide +kernel)]; kernel_rfl) | (rw [if_neg (by decide +kernel)]; exact ⟨rfl, rfl⟩))
    (fun os started H enc _ => errdecBack_lifted os started H enc)
end Go.Proofs.Ytpmkjpgoekjcfaa
