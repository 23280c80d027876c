/- ErrdecErases returns true, whatever the data and what is missing. No conditions. -/
import Derived.Test.YtpmkjpgoekjcfaaH35
import Derived.Test.YtpmkjpgoekjcfaaRows
namespace Go.Proofs.Ytpmkjpgoekjcfaa
open Go Go.Vc Go.Gf Go.ChangeShapes Go.WideShapes Go.ChangeAt Go.RowKit

def encF (l : List Bool) : List Value := l.map Value.bool
theorem elemF : ElemOf Try.prog 23 4 1 1 := ⟨by kernel_rfl, ⟨Try.t4, .bool false, by kernel_rfl, by kernel_rfl, by kernel_rfl, by kernel_rfl, by kernel_rfl⟩, by omega⟩
abbrev OwnF (w : World) (base : Nat) (p : Option Addr) (n c : Nat) (l : List Bool) : Prop := OwnS w base 4 1 p n c (encF l)
theorem OwnF.len {w : World} {base : Nat} {p : Option Addr} {n c : Nat} {l : List Bool} (h : OwnF w base p n c l) : n = l.length := by have := OwnS.length h; simp [encF] at this; omega
theorem OwnF.push {w w1 : World} {base : Nat} {p : Option Addr} {n c k : Nat} {l : List Bool} {b : Bool} (h : OwnF w base p n c l) (hk : NewB w k (.cells #[.bool b] 4) w1) (hbase : base ≤ w.heap.size) (hn : n ≤ 1073741824) :
    ∃ p' c' w2, Sem.run Try.prog (Builtin.append_ #[23, 23] 23 #[.slice p n c, .slice (some (at0 k)) 1 1]) w1 = .ok (.slice p' (n + 1) c') w2 ∧ OwnF w2 base p' (n + 1) c' (l ++ [b]) ∧
      Upd (fun x => p = some (at0 x)) w w2 := by
  have h1 : OwnS w1 base 4 1 p n c (encF l) := OwnS.ext h hk.ext
  have hq : CellsAt w1 (some (at0 k)) (encF [b]) := by
    intro j u hj
    refine ⟨_, rfl, hk.row.row.cell ?_⟩
    simpa [encF] using hj
  obtain ⟨p', c', w2, hr, ho, hu, _⟩ := h1.append elemF 23 (q := some (at0 k)) (m := 1) (d := 1) (news := encF [b]) rfl hq (fun h => by cases h) (fun u hu => by
    obtain ⟨_, _, rfl⟩ := List.mem_map.1 hu; rfl) (by unfold maxLen; omega) (by omega) (by rw [hk.size.2]; omega)
  refine ⟨p', c', w2, hr, ?_, Upd.trans hk.ext.upd hu fun x _ hx => hx⟩
  have : encF l ++ encF [b] = encF (l ++ [b]) := by simp [encF]
  rw [this] at ho
  exact ho
theorem OwnF.flags {w : World} {base : Nat} {p : Option Addr} {n c : Nat} {l : List Bool} (h : OwnF w base p n c l) : FlagsAt w p n l := ⟨OwnF.len h, OwnS.cells h⟩
theorem col_row {k m : Nat} {d : List UInt8} (hk : 0 < k) (hd : d.length = k) (t : Nat) : encRow k m (d.map fun b => [b]) t = [co (enc k m d) t] := by
  have h0 : ((d.map fun b => [b]).getD 0 []).length = 1 := by
    match d, hd with
    | [], hd => simp at hd; omega
    | b :: d, _ => rfl
  have h1 : (d.map fun b => [b]).map (fun x => co x 0) = d := by
    rw [List.map_map]
    exact (List.map_congr_left fun _ _ => rfl).trans (List.map_id d)
  unfold encRow
  rw [h0]
  show [co (enc k m ((d.map fun b => [b]).map fun x => co x 0)) t] = _
  rw [h1]
theorem col_get (d : List UInt8) {i : Nat} (hi : i < d.length) : (d.map fun b => [b]).getD i [] = [co d i] := by simp [Gf.co, List.getD_eq_getElem?_getD, hi]
theorem dif_self (n : Nat) (ms : List Bool) (a : List UInt8) : dif n ms a a = [] := by
  unfold dif
  refine List.filter_eq_nil_iff.2 fun i _ => ?_
  simp
theorem mis_none (n : Nat) : mis n (List.replicate n false) = [] := by
  unfold mis
  refine List.filter_eq_nil_iff.2 fun i hi => ?_
  rw [List.mem_range] at hi
  simp [List.getD_eq_getElem?_getD, hi]
theorem mis_nots {n : Nat} {ms : List Bool} (h : ms.length = n) : (mis n (nots ms)).length + (mis n ms).length = n := by
  have h1 := filter_split n fun i => ms.getD i false
  have h2 : mis n (nots ms) = (List.range n).filter fun i => !ms.getD i false := List.filter_congr fun i hi => by
    rw [List.mem_range] at hi
    exact nots_get (by omega)
  rw [h2]
  unfold mis
  omega

set_option maxRecDepth 20000 in
set_option maxHeartbeats 8000000 in
theorem errdecErases_walk (n1 n2 : Int) {w : World} {p3 : Option Addr} {l3 c3 : Nat} {d : List UInt8} (hd : BytesAt w p3 l3 d) {p4 : Option Addr} {l4 c4 : Nat} {ms : List Bool} (hm : FlagsAt w p4 l4 ms) :
    Calls Try.prog 8 #[.int .i64 n1, .int .i64 n2, .slice p3 l3 c3, .slice p4 l4 c4] w fun e w' => e = .returned (.bool true) ∧ Ext w w' := by
  refine (F8_calls n1 n2 p3 l3 c3 p4 l4 c4 w (fun v w' => v = .bool true ∧ Ext w w')
    (fun _ _ _ _ w21 p28 l28 c28 i w30 => 0 ≤ i ∧ i ≤ n1 + n2 ∧ Ext w21 w30 ∧ OwnF w30 w21.heap.size p28 l28 c28 ((nots ms).take i.toNat)) (fun _ _ _ _ _ _ _ _ i _ => (n1 + n2 - i).toNat) ?_).mono (by rintro e w' ⟨v, rfl, rfl, h⟩; exact ⟨rfl, h⟩)
  have hdl := hd.1
  have hml := hm.1
  refine (awake_spec w).mono ?_
  rintro e w5 ⟨rfl, x5⟩
  refine ⟨_, rfl, (fnew_spec w5).mono ?_⟩
  rintro e w8 ⟨kf, rfl, x8, _, hf⟩
  refine ⟨_, rfl, condB_of (fun h => by cases h) fun _ => condB_of (fun h => by cases h) fun _ => (ccheck_spec n1 n2 w8).mono ?_⟩
  rintro e w11 ⟨rfl, rfl⟩
  have xw := x5.trans x8
  refine ⟨_, rfl, condB_of (fun h => ⟨rfl, xw⟩) fun hk0 => ?_⟩
  simp only [Bool.not_eq_false', decide_eq_true_eq] at hk0
  have hk : kmOk n1 n2 := Decidable.byContradiction fun h => by rw [kmE_bad h] at hk0; omega
  obtain ⟨a1, a2, a3, a4⟩ := hk
  have hk : kmOk n1 n2 := ⟨a1, a2, a3, a4⟩
  rw [w64 (n := n1 + n2) (by omega)]
  refine condB_of (fun h => ⟨rfl, xw⟩) fun h60 => condB_of (fun h => ⟨rfl, xw⟩) fun h3 => condB_of (fun h => ⟨rfl, xw⟩) fun h4 => ?_
  simp only [decide_eq_false_iff_not] at h60
  simp only [Bool.not_eq_false', decide_eq_true_eq] at h3 h4
  obtain ⟨k, rfl⟩ := Int.eq_ofNat_of_zero_le (show 0 ≤ n1 by omega)
  obtain ⟨m, rfl⟩ := Int.eq_ofNat_of_zero_le a2
  have hdk : d.length = k := by omega
  have hn : l4 = k + m := by omega
  have ekm : (k : Int) + (m : Int) = (l4 : Int) := by omega
  refine (column_spec (c := c3) (hd.ext xw) (by omega)).mono ?_
  rintro e w14 ⟨p16, c16, rfl, x14, hcol⟩
  refine ⟨_, _, _, rfl, (encode_spec (c := c16) (hf.ext x14) hcol (fun x hx => by
    obtain ⟨b, _, rfl⟩ := List.mem_map.1 hx
    simp) (by omega) k m).mono ?_⟩
  rintro e w17 ⟨v, rfl, x17, ⟨h, _⟩ | ⟨_, h, _⟩ | ⟨_, _, a, c19, rfl, hrows⟩⟩
  · exact (h hk).elim
  · exact (h (by have := alike_one (k := (k : Int)) (d := d) (by omega); rwa [← hdl] at this)).elim
  rw [ekm] at hrows ⊢
  simp only [Int.toNat_natCast] at hrows ⊢
  have hflat : ∀ n, n = k + m → ((List.range n).map (encRow k m (d.map fun b => [b]))).flatten = enc k m d := fun n e => by subst e; exact enc_flat (by omega) hdk
  have htake : ∀ n, n = k + m → ∀ i, (((List.range n).map (encRow k m (d.map fun b => [b]))).take i).flatten.length ≤ 536870912 := fun n e i => by
    subst e
    have := flat_take (k := k) (m := m) (d := d) i
    omega
  refine ⟨_, _, _, _, rfl, (line_spec (c := c19) hrows.lists (by omega) (htake _ hn)).mono ?_⟩
  rintro e w21 ⟨p23, l23, c23, rfl, x21, oR⟩
  rw [hflat _ hn] at oR
  have hel := enc_len (m := m) hdk
  have lR := OwnB.len oR
  have x1121 := x14.trans (x17.trans x21)
  have xw21 := xw.trans x1121
  have hl23 : l23 = l4 := by omega
  subst hl23
  refine ⟨_, _, _, rfl, condB_of (fun h => by simp at h) fun _ => condB_of (fun h => by simp at h) fun _ => ⟨⟨by omega, by omega, Upd.refl _ _, by rw [show (nots ms).take (0 : Int).toNat = [] from rfl]; exact OwnS.nil _ _ _ _⟩, ?_⟩⟩
  rintro p28 l28 c28 i w30 ⟨hi0, hi1, x30, oF⟩
  have lF := OwnF.len oF
  have hnl : (nots ms).length = l23 := by simp [nots]; omega
  rw [List.length_take, hnl] at lF
  intros
  refine condB_of (fun hs => ?_) (fun hs => ?_)
  · simp only [decide_eq_true_eq] at hs
    obtain ⟨am, rfl, hcm⟩ := (hm.ext (xw21.trans x30)).get (i := i.toNat) (by omega)
    refine ⟨⟨hi0, by omega⟩, _, by rw [Nat.mul_one]; exact hcm, fun k48 w49 h49 => ?_⟩
    obtain ⟨p', c', w50, hr, oF', hu⟩ := OwnF.push oF h49 x30.size (by omega)
    rw [w64 (n := i + 1) (by omega)]
    refine ⟨_, _, _, w50, hr, ⟨by omega, by omega, OwnB.new_ext x30 hu fun y hy => OwnS.blk oF hy, ?_⟩, by show ((l23 : Int) - (i + 1)).toNat < ((l23 : Int) - i).toNat; omega⟩
    have e : (nots ms).take (i + 1).toNat = (nots ms).take i.toNat ++ [!ms.getD i.toNat false] := by
      rw [show (i + 1).toNat = i.toNat + 1 by omega, List.take_add_one, List.getElem?_eq_getElem (by omega), ← nots_get (by omega)]
      simp [List.getD_eq_getElem?_getD, List.getElem?_eq_getElem (show i.toNat < (nots ms).length by omega)]
    rw [e]; exact oF'
  simp only [decide_eq_false_iff_not] at hs
  rw [List.take_of_length_le (by omega)] at oF
  have hl28 : l28 = l23 := by omega
  subst hl28
  have hfl := OwnF.flags oF
  have hnn := mis_nots (n := l28) (ms := ms) hml.symm
  have xw30 := xw21.trans x30
  have oR30 := OwnB.ext oR x30
  refine (word_spec (c4 := c23) (c5 := c4) (hf.ext (x1121.trans x30)) (OwnB.bytes oR30) (hm.ext xw30) k m).mono ?_
  rintro e w52 ⟨v, rfl, x52, hv⟩
  have hcode := enc_code (k := k) (m := m) (by omega) hdk
  have hkm : k + m = l28 := hn.symm
  have hLc : ∀ i, i < l28 → (nots ms).getD i false = true → ((enc k m d).map fun b => [b]).getD i [] = encRow k m (d.map fun b => [b]) i := fun i hi _ => by rw [col_get _ (by omega), col_row (by omega) hdk]
  have hone : ∀ i, i < k → ((d.map fun b => [b]).getD i []).length = ((d.map fun b => [b]).getD 0 []).length := fun i hi => by rw [map_one d i (by omega), map_one d 0 (by omega)]
  have hone0 : ((d.map fun b => [b]).getD 0 []).length ≤ 1048576 := by rw [map_one d 0 (by omega)]; omega
  have oR52 := OwnB.ext oR30 x52
  simp only [Int.toNat_natCast] at hv
  by_cases hfew : (mis l28 ms).length ≤ m
  · have hnear : Near k m (enc k m d) ms (enc k m d) := ⟨hcode, by rw [dif_self, hkm]; simpa using hfew⟩
    have hdec := decM_some (by omega) hnear
    rcases hv with ⟨h, _⟩ | ⟨_, h, _⟩ | ⟨_, _, _, ⟨h, _⟩ | ⟨c, hc, p54, c54, p55, n55, c55, rfl, oc, od⟩⟩
    · exact (h hk).elim
    · exact (h ⟨ekm.symm, ekm.symm⟩).elim
    · rw [hdec] at h; cases h
    rw [hdec] at hc
    cases hc
    rw [dif_self] at od
    have hn55 := OwnN.len od
    refine ⟨_, _, _, _, _, _, _, rfl, (column_spec (c := c23) (OwnB.bytes oR52) (by omega)).mono ?_⟩
    rintro e w57 ⟨p59, c59, rfl, x57, hcol2⟩
    refine ⟨_, _, _, rfl, (decode_spec (k := k) (m := m) (c4 := c28) (c5 := c59) (hf.ext (x1121.trans (x30.trans (x52.trans x57)))) (hfl.ext (x52.trans x57)) hcol2 (by omega) hn (by omega) (by rw [List.length_map, hdk]) hone hone0 hLc).mono ?_⟩
    rintro e w60 ⟨v, rfl, x60, ⟨hno, _⟩ | ⟨_, a2, c2, rfl, rows2⟩⟩
    · omega
    have xw60 := xw30.trans (x52.trans (x57.trans x60))
    refine ⟨_, _, _, _, rfl, (count_spec (c := c4) (hm.ext xw60) (by omega)).mono ?_⟩
    rintro e w64 ⟨rfl, rfl⟩
    refine ⟨_, rfl, condB_of (fun h => by simp only [decide_eq_true_eq] at h; omega) fun _ => ?_⟩
    have x5764 := x57.trans x60
    refine (same_spec (c1 := c54) (c2 := c23) (OwnB.bytes (OwnB.ext oc x5764)) (OwnB.bytes (OwnB.ext oR52 x5764)) (by omega)).mono ?_
    rintro e w67 ⟨rfl, q67⟩
    have hl2 := rows2.lists.ext q67.ext
    refine ⟨_, rfl, (line_spec (c := c2) hl2 (by omega) (htake _ hn)).mono ?_⟩
    rintro e w70 ⟨p72, l72, c72, rfl, x70, o72⟩
    rw [hflat _ hn] at o72
    have l72e := OwnB.len o72
    have x5770 := x5764.trans (q67.ext.trans x70)
    refine ⟨_, _, _, rfl, (same_spec (c1 := c72) (c2 := c23) (OwnB.bytes o72) (OwnB.bytes (OwnB.ext oR52 x5770)) (by omega)).mono ?_⟩
    rintro e w73 ⟨rfl, q73⟩
    refine ⟨_, rfl, ⟨by omega, by omega, by omega⟩, fun k76 w77 h77 => ?_⟩
    rw [made_one 4 (.bool false) (by kernel_rfl) l28] at h77
    have hz : FlagsAt w77 (some (at0 k76)) l28 (List.replicate l28 false) := ⟨by simp, fun j u hj => ⟨_, rfl, by
      rw [rowk_cell h77.at, ← Array.getElem?_toList]
      simpa using hj⟩⟩
    have x5277 := x5770.trans (q73.ext.trans h77.ext)
    have xw77 := xw30.trans (x52.trans x5277)
    have hnear2 : Near k m (enc k m d) (List.replicate l28 false) (enc k m d) := ⟨hcode, by rw [dif_self, hkm, mis_none]; simp⟩
    have hdec2 := decM_some (by omega) hnear2
    refine (word_spec (c4 := c54) (c5 := l28) (hf.ext (x1121.trans (x30.trans (x52.trans x5277)))) (OwnB.bytes (OwnB.ext oc x5277)) hz k m).mono ?_
    rintro e w78 ⟨v, rfl, x78, hv⟩
    simp only [Int.toNat_natCast] at hv
    rcases hv with ⟨h, _⟩ | ⟨_, h, _⟩ | ⟨_, _, _, ⟨h, _⟩ | ⟨c, hc, p80, c80, p81, n81, c81, rfl, oc2, od2⟩⟩
    · exact (h hk).elim
    · exact (h ⟨ekm.symm, ekm.symm⟩).elim
    · rw [hdec2] at h; cases h
    rw [hdec2] at hc
    cases hc
    rw [dif_self] at od2
    have hn81 := OwnN.len od2
    refine ⟨_, _, _, _, _, _, _, rfl, (same_spec (c1 := c80) (c2 := c54) (OwnB.bytes oc2) (OwnB.bytes (OwnB.ext oc (x5277.trans x78))) (by omega)).mono ?_⟩
    rintro e w83 ⟨rfl, q83⟩
    have xall := xw77.trans (x78.trans q83.ext)
    obtain rfl : n55 = 0 := hn55
    obtain rfl : n81 = 0 := hn81
    refine ⟨_, rfl, condB_of (fun _ => ?_) (fun h => by simp at h)⟩
    refine condB_of (fun _ => ?_) (fun h => by simp at h)
    refine condB_of (fun _ => ?_) (fun h => by simp at h)
    refine condB_of (fun _ => ?_) (fun h => by simp at h)
    refine condB_of (fun _ => ?_) (fun h => by simp at h)
    refine condB_of (fun _ => ?_) (fun h => by simp at h)
    refine condB_of (fun _ => ?_) (fun h => by simp at h)
    exact ⟨rfl, xall⟩
  · rcases hv with ⟨h, _⟩ | ⟨_, h, _⟩ | ⟨_, _, _, ⟨_, rfl⟩ | ⟨c, hc, _⟩⟩
    · exact (h hk).elim
    · exact (h ⟨ekm.symm, ekm.symm⟩).elim
    · refine ⟨_, _, _, _, _, _, _, rfl, (column_spec (c := c23) (OwnB.bytes oR52) (by omega)).mono ?_⟩
      rintro e w57 ⟨p59, c59, rfl, x57, hcol2⟩
      refine ⟨_, _, _, rfl, (decode_spec (k := k) (m := m) (c4 := c28) (c5 := c59) (hf.ext (x1121.trans (x30.trans (x52.trans x57)))) (hfl.ext (x52.trans x57)) hcol2 (by omega) hn (by omega) (by rw [List.length_map, hdk]) hone hone0 hLc).mono ?_⟩
      rintro e w60 ⟨v, rfl, x60, ⟨_, rfl⟩ | ⟨hok, _⟩⟩
      · have xw60 := xw30.trans (x52.trans (x57.trans x60))
        refine ⟨_, _, _, _, rfl, (count_spec (c := c4) (hm.ext xw60) (by omega)).mono ?_⟩
        rintro e w64 ⟨rfl, rfl⟩
        refine ⟨_, rfl, condB_of (fun _ => condB_of (fun _ => ⟨rfl, xw60⟩) (fun h => by simp at h)) fun h => by simp only [decide_eq_false_iff_not] at h; omega⟩
      · omega
    · have := (decM_near hc).few
      rw [hkm] at this
      omega
set_option maxRecDepth 100000 in
theorem errdecErases_lifted (os : Os) (started : os.Started) (H : Type) (enc : TypeId × Value → H) :
    ReturnsInHanded {} Try.checked os 8 .any (Rows.errdecErasesSpec.pre6 enc Try.prog Try.f8 Rows.errdecErasesRow.domain false) (Rows.errdecErasesSpec.post enc Try.prog Try.f8 false true false false) := by
  refine returnsInHanded_of_change (C := Try.checked) lawOwn started (by kernel_rfl) Try.func8
    (ChangeSpec.witness6 (enc := enc) (C := Try.checked) false ⟨#[], #[.int .i64 0, .int .i64 0, .slice none 0 0, .slice none 0 0], []⟩ 8 (by kernel_rfl) (by kernel_rfl) (by kernel_rfl) (by kernel_rfl)) ?_
  intro W base args ds gs before hval0 hW hcnd _
  have hval : ∀ (j : Nat) t v, Try.f8.params[j]? = some t → args[j]? = some v → Value.okWide Try.prog W .any base t v := hval0
  have hW' := hW
  obtain ⟨p, q, hA0, hV, rfl, hfz, hnd⟩ := hW
  have hA : DataW.TrodAll enc Try.prog W 0 (fun _ => true) true Try.f8.params.toList args.toList ds p := hA0
  rw [Try.params8] at hA hval
  obtain ⟨v0, vs0, d0, ds0, p0, q0, hargs, rfl, rfl, h0, r0⟩ := trodAll_cons hA
  obtain ⟨v1, vs1, d1, ds1, p1, q1, rfl, rfl, rfl, h1, r1⟩ := trodAll_cons r0
  obtain ⟨v2, vs2, d2, ds2, p2, q2, rfl, rfl, rfl, h2, r2⟩ := trodAll_cons r1
  obtain ⟨v3, vs3, d3, ds3, p3, q3, rfl, rfl, rfl, h3, r3⟩ := trodAll_cons r2
  obtain ⟨rfl, rfl, rfl⟩ := trodAll_nil r3
  obtain rfl : args = #[v0, v1, v2, v3] := by cases args; simp_all
  obtain ⟨rfl, rfl⟩ := trodVars_none hV
  obtain ⟨n0, rfl, rfl, rfl, wn0⟩ := open_int Try.underlying3 (hval 0 3 v0 rfl rfl) h0
  obtain ⟨n1, rfl, rfl, rfl, wn1⟩ := open_int Try.underlying3 (hval 1 3 v1 rfl rfl) h1
  obtain ⟨a2, l2, c2, bs2, rfl, hb2, _, _⟩ := open_by (okWide_slice Try.underlying22 (hval 2 22 v2 rfl rfl)) h2
  obtain ⟨a3, l3, c3, ks3, rfl, hk3, _, _⟩ := open_flags (okWide_slice Try.underlying23 (hval 3 23 v3 rfl rfl)) h3
  refine (errdecErases_walk n0 n1 hb2 hk3).mono fun e W' ⟨he, hg⟩ => ?_
  subst he
  exact ⟨_, rfl, post_true lawLaid rfl (by kernel_rfl) rfl Try.underlying4 hW' rfl hg.below⟩

/-- ████ THE STATEMENT ████ -/
theorem errdecErases_holds : Rows.ErrdecErasesSaid :=
  OpenClaim.holds_of_wide 8 Try.f8 rfl rfl rfl rfl rfl rfl rfl ⟨rfl, rfl, rfl, rfl, rfl⟩ rfl rfl rfl rfl rfl (by kernel_rfl) Try.func8 (by kernel_rfl)
    (of_decide_eq_true (by kernel_rfl)) (by unfold Func.isWrapper; first | (rw [if_pos (by decide +kernel)]; kernel_rfl) | (rw [if_neg (by decide +kernel)]; exact ⟨rfl, rfl⟩))
    (fun os started H enc _ => errdecErases_lifted os started H enc)
end Go.Proofs.Ytpmkjpgoekjcfaa
