/- A word is put right. -/
import Derived.Test.YtpmkjpgoekjcfaaH13
namespace Go.Proofs.Ytpmkjpgoekjcfaa
open Go Go.Vc Go.Gf

theorem range_filter_succ (p : Nat → Bool) (i : Nat) : (List.range (i + 1)).filter p = (List.range i).filter p ++ (if p i = true then [i] else []) := by
  rw [List.range_succ, List.filter_append]
  congr 1
  by_cases h : p i = true
  · rw [if_pos h, List.filter_cons_of_pos h]; rfl
  · rw [if_neg h, List.filter_cons_of_neg h]; rfl
theorem mis_succ (i : Nat) (ms : List Bool) : mis (i + 1) ms = mis i ms ++ (if ms.getD i false = true then [i] else []) := range_filter_succ _ _
theorem wrg_succ (i : Nat) (ms : List Bool) (full : List UInt8) : wrg (i + 1) ms full = wrg i ms full ++ (if (decide (ev full (pt i) = 0) && !ms.getD i false) = true then [i] else []) := range_filter_succ _ _
theorem zer_succ (i : Nat) (full : List UInt8) : zer (i + 1) full = zer i full ++ (if decide (ev full (pt i) = 0) = true then [i] else []) := range_filter_succ _ _
theorem ty_nb : 3 ≠ 5 := by decide
theorem OwnB.at0_ {w : World} {base : Nat} {p : Option Addr} {n c : Nat} {bs : List UInt8} (h : OwnB w base p n c bs) (hn : 0 < n) : ∃ k, p = some (at0 k) ∧ base ≤ k ∧ k < w.heap.size := by
  rcases h.where_ with ⟨_, h0, _⟩ | ⟨g, hg, hb, hl, _⟩
  · omega
  · exact ⟨g, hg, hb, hl⟩
theorem OwnB.row {w : World} {base k : Nat} {n c : Nat} {bs : List UInt8} (h : OwnB w base (some (at0 k)) n c bs) : ∃ cs, RowK w k 5 cs := by
  rcases h.where_ with ⟨h0, _⟩ | ⟨g, h0, _, _, _, cur, hc, _⟩
  · cases h0
  · simp only [Option.some.injEq, at0, Addr.mk.injEq, and_true] at h0
    subst h0
    exact ⟨cur, hc⟩

theorem away_none (k : Nat) : Away none k := fun a h => by cases h

set_option maxHeartbeats 8000000 in
theorem word_spec {f p4 p5 : Option Addr} {w : World} {l4 c4 l5 c5 : Nat} {bs : List UInt8} {ms : List Bool} (hf : FieldAt w f) (h4 : BytesAt w p4 l4 bs) (h5 : FlagsAt w p5 l5 ms) (k m : Int) :
    Calls Try.prog 12 #[.pointer f, .int .i64 k, .int .i64 m, .slice p4 l4 c4, .slice p5 l5 c5] w fun e w' => ∃ v, e = .returned v ∧ wordP w k m l4 l5 bs ms v w' := by
  refine F12_calls f k m p4 l4 c4 p5 l5 c5 w (wordP w k m l4 l5 bs ms)
    (fun p8 l8 c8 _ p12 l12 c12 _ _ _ _ _ p24 l24 c24 i w1 => WordI0 w k.toNat m.toNat l5 bs ms p8 l8 c8 p12 l12 c12 p24 l24 c24 i w1) (fun _ _ _ _ _ _ _ _ _ _ _ _ _ _ _ i _ => (l5 - i).toNat)
    (fun p8 l8 c8 p12 l12 c12 p61 l61 c61 p65 l65 c65 p68 l68 c68 _ _ p85 l85 c85 rt i w1 => WordI1 w k.toNat m.toNat l5 bs ms p8 l8 c8 p12 l12 c12 p61 l61 c61 p65 l65 c65 p68 l68 c68 p85 l85 c85 rt i w1)
    (fun _ _ _ _ _ _ _ _ _ _ _ _ _ _ _ _ _ _ _ _ _ i _ => (l5 - i).toNat) ?_
  have e4 := h4.1
  have e5 := h5.1
  refine (weights_spec hf k m).mono ?_
  rintro e w6 ⟨hx6, ⟨hk, rfl⟩ | ⟨hk, p8, c8, W, rfl, oW, hW⟩⟩
  · exact ⟨_, _, _, _, rfl, condB_of (fun _ => ⟨hx6, .inl ⟨hk, rfl⟩⟩) (fun h => by simp at h)⟩
  obtain ⟨a1, a2, a3, a4⟩ := hk
  have hk : kmOk k m := ⟨a1, a2, a3, a4⟩
  refine ⟨_, _, _, _, rfl, condB_of (fun h => by simp at h) fun _ => ?_⟩
  rw [w64 (n := k + m) (by omega)]
  refine condB_of (fun hc => ?_) (fun hc => ?_)
  · simp only [Bool.not_eq_true', decide_eq_false_iff_not] at hc
    exact ⟨hx6, .inr (.inl ⟨hk, fun h => hc h.1, rfl⟩)⟩
  simp only [Bool.not_eq_false', decide_eq_true_eq] at hc
  refine condB_of (fun hc5 => ?_) (fun hc5 => ?_)
  · simp only [Bool.not_eq_true', decide_eq_false_iff_not] at hc5
    exact ⟨hx6, .inr (.inl ⟨hk, fun h => hc5 h.2, rfl⟩)⟩
  simp only [Bool.not_eq_false', decide_eq_true_eq] at hc5
  have hn : (k + m).toNat = l5 := by omega
  have hn2 : k.toNat + m.toNat = l5 := by omega
  rw [hn] at oW hW ⊢
  refine (bclone_own (h4.ext hx6) (by omega)).mono ?_
  rintro e w10 ⟨p12, c12, rfl, hx10, oz⟩
  have x10 : Ext w w10 := hx6.trans hx10
  obtain ⟨ko, rfl, hko, hko2⟩ := OwnB.at0_ oz (by omega)
  have aW : Away p8 ko := OwnB.away2 oW hko
  refine ⟨_, _, _, rfl, ⟨by omega, by omega, w6, hx6, hx10, ko, bs, [], W, rfl, oz, by omega, OwnS.nil _ _ _ _, away_none ko, oW, rfl, hW, (fun j hj => by rw [if_neg (by omega)]), rfl⟩, ?_⟩
  clear oz hko hko2 aW
  rintro p24 l24 c24 i w26 ⟨hi0, hi1, w6', hx6', hx, ko', z, kn, W', hko', oz, hl12, okn, akn, oW', _, hW', hz, rfl⟩
  simp only [Option.some.injEq, at0, Addr.mk.injEq, and_true] at hko'
  subst hko'
  intros
  have lkn := OwnB.len okn
  have x26 := hx6'.trans hx
  refine condB_of (fun hs => ?_) (fun hs => ?_)
  · -- a byte that is missing is struck
    simp only [decide_eq_true_eq] at hs
    obtain ⟨a, rfl, ha⟩ := (h5.ext x26).get (i := i.toNat) (by omega)
    rw [w64 (n := i + 1) (by omega)]
    have hnx : (i + 1).toNat = i.toNat + 1 := by omega
    have hms : (mis i.toNat ms).length ≤ i.toNat := by
      unfold mis
      exact Nat.le_trans (List.length_filter_le _ _) (by simp)
    refine ⟨⟨hi0, hs⟩, _, by rw [Nat.mul_one]; exact ha, condB_of (fun hb => ?_) (fun hb => ?_)⟩
    · obtain ⟨k', hk', hb', hlive, _, hset⟩ := OwnB.at oz (i := i.toNat) (by omega)
      simp only [Option.some.injEq, at0, Addr.mk.injEq, and_true] at hk'
      subst hk'
      rw [Nat.mul_one]
      refine ⟨⟨hi0, by omega⟩, hlive, fun w46 hs46 => ?_⟩
      obtain ⟨oz46, u46⟩ := hset 0 w46 hs46
      have x46 : Ext w6' w46 := OwnB.new_ext hx u46 fun y hy => by rw [show y = ko from hy]; exact hb'
      intro k47 w48 h48
      rw [wrap8 i hi0] at h48
      obtain ⟨p50, c50, w49, hr, ok49, u49, aw49⟩ := OwnB.push2 (OwnB.setk okn u46 akn) h48 x46.size (by simp at lkn; omega)
      have hkolt : ko < w46.heap.size := Nat.lt_of_lt_of_le (OwnS.lt_heap oz) u46.size
      have x49 : Ext w6' w49 := OwnB.new_ext x46 u49 fun y hy => OwnB.blk okn hy
      have hlz := OwnB.len oz
      refine ⟨_, _, _, w49, hr, ⟨by omega, by omega, w6', hx6', x49, ko, _, _, W', rfl, OwnS.upd oz46 u49 (fun g hg he => ?_), hl12, ok49, aw49 ko hkolt akn, oW', rfl, hW', fun j hj => ?_, ?_⟩, by show ((l5 : Int) - (i + 1)).toNat < ((l5 : Int) - i).toNat; omega⟩
      · simp only [Option.some.injEq, at0, Addr.mk.injEq, and_true] at hg
        subst hg
        exact akn _ he rfl
      · rw [co_set (by omega), hz j hj]
        by_cases h1 : j = i.toNat
        · rw [if_pos h1, h1, if_pos ⟨by omega, hb⟩]
        · rw [if_neg h1]
          by_cases h2 : (j : Int) < i ∧ ms.getD j false = true
          · rw [if_pos h2, if_pos ⟨by omega, h2.2⟩]
          · rw [if_neg h2, if_neg (fun h3 => h2 ⟨by omega, h3.2⟩)]
      · rw [hnx, mis_succ, if_pos hb, List.map_append]; rfl
    · have hb : ms.getD i.toNat false = false := hb
      refine ⟨⟨by omega, by omega, w6', hx6', hx, ko, z, _, W', rfl, oz, hl12, okn, akn, oW', rfl, hW', fun j hj => ?_, ?_⟩, by show ((l5 : Int) - (i + 1)).toNat < ((l5 : Int) - i).toNat; omega⟩
      · rw [hz j hj]
        by_cases h1 : j = i.toNat
        · subst h1
          rw [hb, if_neg (by simp), if_neg (by simp)]
        · by_cases h2 : (j : Int) < i ∧ ms.getD j false = true
          · rw [if_pos h2, if_pos ⟨by omega, h2.2⟩]
          · rw [if_neg h2, if_neg (fun h3 => h2 ⟨by omega, h3.2⟩)]
      · rw [hnx, mis_succ, hb]; simp
  · simp only [decide_eq_false_iff_not] at hs
    obtain rfl : i = (l5 : Int) := by omega
    rw [Int.toNat_natCast] at okn lkn
    have hlz := OwnB.len oz
    have hn3 : l5 = k.toNat + m.toNat := hn2.symm
    have hz' : ∀ j, j < k.toNat + m.toNat → co z j = if ms.getD j false = true then 0 else co bs j := fun j hj => by
      rw [hz j (by omega)]
      by_cases h2 : ms.getD j false = true
      · rw [if_pos ⟨by omega, h2⟩, if_pos h2]
      · rw [if_neg (fun h3 => h2 h3.2), if_neg h2]
    have hmle : (mis l5 ms).length ≤ l5 := by
      unfold mis
      exact Nat.le_trans (List.length_filter_le _ _) (by simp)
    have hkl : ((mis l5 ms).map pt).length = (mis l5 ms).length := List.length_map ..
    refine (synof_spec (hf.ext x26) (OwnB.bytes oz) (by omega) k m).mono ?_
    rintro e w51 ⟨x51, ⟨h, _⟩ | ⟨_, h, _⟩ | ⟨_, _, p53, c53, S, rfl, oS, hS⟩⟩
    · exact (h hk).elim
    · exact (h (by omega)).elim
    have x51' := x26.trans x51
    refine ⟨_, _, _, _, rfl, condB_of (fun hmany => ?_) (fun hmany => ?_)⟩
    · simp only [decide_eq_true_eq] at hmany
      refine ⟨x51', .inr (.inr ⟨hk, hc, hc5, .inl ⟨?_, rfl⟩⟩)⟩
      refine many_missing ?_
      rw [hn2]; omega
    simp only [decide_eq_false_iff_not] at hmany
    have okn51 := OwnB.ext okn x51
    refine (locator_spec (hf.ext x51') (OwnB.bytes okn51) (by omega)).mono ?_
    rintro e w55 ⟨p57, l57, c57, g, rfl, x55, og, ng, eg⟩
    have x55' := x51'.trans x55
    have lg := OwnB.len og
    have hdeg := loc_deg ((mis l5 ms).map pt)
    have htop := loc_top ((mis l5 ms).map pt)
    rw [hkl, ← eg] at hdeg htop
    have hgl : g.length = (mis l5 ms).length + 1 := by
      have h1 := ng.le hdeg
      have h2 : (mis l5 ms).length < g.length := Normal.pos (by rw [htop]; decide)
      omega
    have g0 : g ≠ [] := by rintro rfl; simp at hgl
    have oS55 := OwnB.ext oS x55
    refine ⟨_, _, _, rfl, (solve_spec (cm := c53) (hf.ext x55') (OwnB.bytes oS55) (OwnB.bytes og) (OwnB.le og) ng g0 (by omega) (by omega)).mono ?_⟩
    rintro e w58 ⟨v, rfl, x58, hsol⟩
    have x58' := x55'.trans x58
    have hlS := OwnB.len oS
    have hT : ∀ i, co S.reverse i = if i < m.toNat then syn k.toNat m.toNat z (m.toNat - 1 - i) else 0 := fun i => by
      by_cases hi : i < m.toNat
      · rw [if_pos hi, ← hS _ (by omega)]
        simp only [Gf.co, List.getD_eq_getElem?_getD]
        rw [List.getElem?_reverse (by omega), ← hlS]
      · rw [if_neg hi, co_out (by rw [List.length_reverse]; omega)]
    have hin : WordIn k.toNat m.toNat bs z ms S.reverse g (mulL g S.reverse) := ⟨by omega, hz', hT, by rw [hn2]; exact eg, ng, by rw [co_mulL]⟩
    rw [hgl, Nat.add_sub_cancel] at hsol
    rcases hsol with ⟨rfl, hno⟩ | ⟨pb, nb, cb, b, po, no, oc, o, rfl, ob, oo, lo4, hfound⟩
    · refine ⟨_, _, _, _, _, _, _, rfl, condB_of (fun _ => ?_) (fun h => by simp at h)⟩
      refine ⟨x58', .inr (.inr ⟨hk, hc, hc5, .inl ⟨?_, rfl⟩⟩)⟩
      refine hin.none ?_
      rw [hn2]; exact hno
    refine ⟨_, _, _, _, _, _, _, rfl, condB_of (fun h => by simp at h) fun _ => ?_⟩
    have lb := OwnB.len ob
    have lo := OwnB.len oo
    have hfew := hfound.few
    have og58 := OwnB.ext og x58
    refine (pmul_spec (hf.ext x58') (OwnB.bytes ob) (by omega) (OwnB.bytes og58) (by omega)).mono ?_
    rintro e w63 ⟨p65, l65, c65, full, rfl, x63, ofu, nfu, efu⟩
    have lfu := OwnB.len ofu
    have efu' : co full = act b (co g) := by rw [efu, act_co]
    have hfl : full.length + 1 = b.length + g.length := mul_len hfound.nb ng nfu hfound.b0 g0 efu'
    refine ⟨_, _, _, rfl, (pderiv_spec (OwnB.bytes ofu) (by omega)).mono ?_⟩
    rintro e w66 ⟨p68, l68, c68, slope, rfl, x66, osl, nsl, esl⟩
    have lsl := OwnB.len osl
    have hsl : slope.length ≤ 4096 := nsl.le (n := 4096) (by
      rw [esl]
      intro i hi
      unfold der
      split
      · exact co_out (by omega)
      · rfl)
    have hkolt : ko < w26.heap.size := OwnS.lt_heap oz
    have s51 : ko < w51.heap.size := Nat.lt_of_lt_of_le hkolt x51.size
    have s55 : ko < w55.heap.size := Nat.lt_of_lt_of_le s51 x55.size
    have s58 : ko < w58.heap.size := Nat.lt_of_lt_of_le s55 x58.size
    have s63 : ko < w63.heap.size := Nat.lt_of_lt_of_le s58 x63.size
    have ao := OwnB.away oo s55
    have afu := OwnB.away ofu s58
    have asl := OwnB.away osl s63
    have x66' := x58'.trans (x63.trans x66)
    have xr : Ext w26 w66 := x51.trans (x55.trans (x58.trans (x63.trans x66)))
    have e5866 : Ext w58 w66 := x63.trans x66
    have aW : Away p8 ko := OwnB.away2 oW' (OwnB.blk oz rfl)
    refine ⟨_, _, _, rfl, ⟨by omega, by omega, x66', ko, z, W', S.reverse, g, mulL g S.reverse, b, o, full, slope, z, rfl, hin, by rw [hn2]; exact hfound, nfu, efu', esl, OwnB.base_le (OwnB.ext oz xr) hx6'.size, hl12, OwnB.ext oW' (hx.trans xr), rfl, aW, hW',
      OwnB.base_le (OwnB.ext oo e5866) x55'.size, ao, by omega, OwnB.base_le (OwnB.ext ofu x66) x58'.size, afu, by omega, OwnB.base_le osl (x58'.trans x63).size, asl, by omega, fun j hj => by rw [if_neg (by omega)], OwnS.nil _ _ _ _, rfl⟩, ?_⟩
    rintro p85 l85 c85 rt i w88 ⟨hi0, hi1, hx88, ko', z1, W1, T1, g1, P1, b1, o1, full1, slope1, out, hko', hin1, hf1, nf1, ef1, es1, oout, _, oW1, _, aW1, hW1, oo1, ao1, lo1, ofu1, afu1, lfu1, osl1, asl1, lsl1, hout, owr, rfl⟩
    simp only [Option.some.injEq, at0, Addr.mk.injEq, and_true] at hko'
    subst hko'
    intros
    have lout := OwnB.len oout
    have lW1 := OwnB.len oW1
    refine condB_of (fun hs => ?_) (fun hs => ?_)
    · simp only [decide_eq_true_eq] at hs
      have e8 : IntKind.u8.wrap i = ((pt i.toNat).toNat : Int) := wrap8 i hi0
      rw [e8, w64 (n := i + 1) (by omega)]
      have hnx : (i + 1).toNat = i.toNat + 1 := by omega
      refine (peval_spec (hf.ext hx88) (OwnB.bytes ofu1) (by omega) _).mono ?_
      rintro e w140 ⟨rfl, x140⟩
      have x140' := hx88.trans x140
      have hmeas : ((l5 : Int) - (i + 1)).toNat < ((l5 : Int) - i).toNat := by omega
      refine ⟨_, rfl, condB_of (fun hz0 => ?_) (fun hz0 => ?_)⟩
      · simp only [Bool.not_eq_true', decide_eq_false_iff_not, vb_zero] at hz0
        refine ⟨⟨by omega, by omega, x140', ko, z1, W1, T1, g1, P1, b1, o1, full1, slope1, out, rfl, hin1, hf1, nf1, ef1, es1, OwnB.ext oout x140, hl12, OwnB.ext oW1 x140, rfl, aW1, hW1, OwnB.ext oo1 x140, ao1, lo1, OwnB.ext ofu1 x140, afu1, lfu1, OwnB.ext osl1 x140, asl1, lsl1, fun j hj => ?_, ?_, ?_⟩, hmeas⟩
        · rw [hout j hj]
          by_cases h1 : (j : Int) < i
          · rw [if_pos h1, if_pos (by omega)]
          · rw [if_neg h1]
            by_cases h2 : j = i.toNat
            · rw [if_pos (by omega), fixd, if_neg (by rw [h2]; exact hz0)]
            · rw [if_neg (by omega)]
        · rw [hnx, wrg_succ, decide_eq_false hz0]
          simpa using OwnS.ext owr x140
        · rw [hnx, zer_succ, decide_eq_false hz0]; simp
      · simp only [Bool.not_eq_false', decide_eq_true_eq, vb_zero] at hz0
        intro w143 hd
        have x143 : Ext w88 w143 := x140.trans hd.ext
        have x143' := hx88.trans x143
        obtain ⟨aw, rfl, haw⟩ := BytesAt.co (OwnB.bytes (OwnB.ext oW1 x143)) (i := i.toNat) (by omega)
        rw [Nat.mul_one]
        refine ⟨⟨hi0, by omega⟩, _, haw, (peval_spec (hf.ext x143') (OwnB.bytes (OwnB.ext oo1 x143)) (by omega) _).mono ?_⟩
        rintro e w146 ⟨rfl, x146⟩
        refine ⟨_, rfl, ⟨_, x146.cell haw id, rfl⟩, (peval_spec (hf.ext (x143'.trans x146)) (OwnB.bytes (OwnB.ext (OwnB.ext osl1 x143) x146)) (by omega) _).mono ?_⟩
        rintro e w150 ⟨rfl, x150⟩
        refine ⟨_, rfl, ⟨_, x150.cell (x146.cell haw id) id, rfl⟩, (fmul_spec (hf.ext ((x143'.trans x146).trans x150)) _ _).mono ?_⟩
        rintro e w154 ⟨rfl, x154⟩
        refine ⟨_, rfl, (fdiv_spec (hf.ext (((x143'.trans x146).trans x150).trans x154)) _ _).mono ?_⟩
        rintro e w157 ⟨rfl, x157⟩
        have xx : Ext w88 w157 := x143.trans (x146.trans (x150.trans (x154.trans x157)))
        have xx' := hx88.trans xx
        obtain ⟨k', hk', hb', hlive, hcell, hset⟩ := OwnB.at (OwnB.ext oout xx) (i := i.toNat) (by omega)
        simp only [Option.some.injEq, at0, Addr.mk.injEq, and_true] at hk'
        subst hk'
        refine ⟨_, _, rfl, ⟨hi0, by omega⟩, _, hcell, ⟨hi0, by omega⟩, hlive, fun w164 hs164 => ?_⟩
        rw [bx8] at hs164
        obtain ⟨oout', u164⟩ := hset _ _ hs164
        obtain ⟨csk, rowk⟩ := OwnB.row (OwnB.ext oout xx)
        have x164 : Ext w w164 := OwnB.new_ext xx' u164 fun y hy => by rw [show y = ko from hy]; exact hb'
        obtain ⟨ap, rfl, hap⟩ := (h5.ext x164).get (i := i.toNat) (by omega)
        have owr164 : OwnN w164 w.heap.size p85 l85 c85 (wrg i.toNat ms full1) := OwnS.other (OwnS.ext owr xx) u164 fun x hx => ⟨csk, _, (0, 0), by rw [show x = ko from hx]; exact rowk, fun h => ty_nb h.symm⟩
        have kp : ∀ {p : Option Addr} {n c : Nat} {bs : List UInt8}, OwnB w88 w.heap.size p n c bs → Away p ko → OwnB w164 w.heap.size p n c bs := fun o ha => OwnB.setk (OwnB.ext o xx) u164 ha
        have hout' : ∀ j : Nat, j < l5 → co (out.set i.toNat (co out i.toNat ^^^ gm (ev o1 (pt i.toNat)) (gi (gm (ev slope1 (pt i.toNat)) (co W1 i.toNat))))) j = if (j : Int) < i + 1 then fixd k.toNat m.toNat z1 full1 o1 slope1 j else co z1 j := fun j hj => by
          rw [co_set (by omega)]
          by_cases h2 : j = i.toNat
          · subst h2
            rw [if_pos rfl, if_pos (by omega), hout _ hj, if_neg (by omega), fixd, if_pos hz0, hW1 _ hj]
          · rw [if_neg h2, hout j hj]
            by_cases h1 : (j : Int) < i
            · rw [if_pos h1, if_pos (by omega)]
            · rw [if_neg h1, if_neg (by omega)]
        have hrt : IntKind.i64.wrap (((zer i.toNat full1).length : Int) + 1) = ((zer (i + 1).toNat full1).length : Int) := by
          have hzl : (zer i.toNat full1).length ≤ i.toNat := by
            unfold zer
            exact Nat.le_trans (List.length_filter_le _ _) (by simp)
          rw [w64 (by omega), hnx, zer_succ, decide_eq_true hz0]; simp
        rw [hrt]
        refine ⟨⟨hi0, by omega⟩, _, hap, condB_of (fun hm0 => ?_) (fun hm0 => ?_)⟩
        · have hm0' : ms.getD i.toNat false = false := by simpa using hm0
          intro k167 w168 h168
          have hwl : (wrg i.toNat ms full1).length ≤ i.toNat := by
            unfold wrg
            exact Nat.le_trans (List.length_filter_le _ _) (by simp)
          have lwr := OwnN.len owr164
          rw [show i = ((i.toNat : Nat) : Int) by omega] at h168
          obtain ⟨p170, c170, w169, hr, ow169, u169⟩ := OwnN.push owr164 h168 x164.size (by omega)
          have x169 : Ext w w169 := OwnB.new_ext x164 u169 fun y hy => OwnS.blk owr164 hy
          have kp2 : ∀ {p : Option Addr} {n c : Nat} {bs : List UInt8}, OwnB w88 w.heap.size p n c bs → Away p ko → OwnB w169 w.heap.size p n c bs := fun o ha => OwnB.other (kp o ha) u169 fun x hx => by
            obtain ⟨cs, e', fz, h7, h8⟩ := OwnS.typed owr164 hx
            exact ⟨cs, e', fz, h7, by rw [h8]; exact ty_nb⟩
          have oout2 := OwnB.other oout' u169 fun x hx => by
            obtain ⟨cs, e', fz, h7, h8⟩ := OwnS.typed owr164 hx
            exact ⟨cs, e', fz, h7, by rw [h8]; exact ty_nb⟩
          refine ⟨_, _, _, w169, hr, ⟨by omega, by omega, x169, ko, z1, W1, T1, g1, P1, b1, o1, full1, slope1, _, rfl, hin1, hf1, nf1, ef1, es1, oout2, hl12, kp2 oW1 aW1, rfl, aW1, hW1, kp2 oo1 ao1, ao1, lo1, kp2 ofu1 afu1, afu1, lfu1, kp2 osl1 asl1, asl1, lsl1, hout', ?_, rfl⟩, hmeas⟩
          rw [hnx, wrg_succ, decide_eq_true hz0, hm0']
          exact ow169
        · have hm0' : ms.getD i.toNat false = true := by simpa using hm0
          refine ⟨⟨by omega, by omega, x164, ko, z1, W1, T1, g1, P1, b1, o1, full1, slope1, _, rfl, hin1, hf1, nf1, ef1, es1, oout', hl12, kp oW1 aW1, rfl, aW1, hW1, kp oo1 ao1, ao1, lo1, kp ofu1 afu1, afu1, lfu1, kp osl1 asl1, asl1, lsl1, hout', ?_, rfl⟩, hmeas⟩
          rw [hnx, wrg_succ, hm0']
          simpa using owr164
    · simp only [decide_eq_false_iff_not] at hs
      obtain rfl : i = (l5 : Int) := by omega
      rw [Int.toNat_natCast] at owr ⊢
      have hout2 : ∀ j, j < k.toNat + m.toNat → co out j = fixd k.toNat m.toNat z1 full1 o1 slope1 j := fun j hj => by
        rw [hout j (by omega), if_pos (by omega)]
      have hlen : out.length = k.toNat + m.toNat := by omega
      have lfu := OwnB.len ofu1
      refine (synof_spec (hf.ext hx88) (OwnB.bytes oout) (by omega) k m).mono ?_
      rintro e w171 ⟨x171, ⟨h, _⟩ | ⟨_, h, _⟩ | ⟨_, _, p173, c173, S2, rfl, oS2, hS2⟩⟩
      · exact (h hk).elim
      · exact (h (by omega)).elim
      have x171' := hx88.trans x171
      have e9 : IntKind.i64.wrap (((l65 : Nat) : Int) - (1 : Int)) = (full1.length : Int) - 1 := by rw [w64 (by omega)]; omega
      rw [e9]
      have hzr : zer (k.toNat + m.toNat) full1 = zer l5 full1 := by rw [hn2]
      refine ⟨_, _, _, _, rfl, condB_of (fun hr => ?_) (fun hr => ?_)⟩
      · simp only [Bool.not_eq_true', decide_eq_false_iff_not] at hr
        refine ⟨x171', .inr (.inr ⟨hk, hc, hc5, .inl ⟨?_, rfl⟩⟩)⟩
        refine hin1.many hf1 nf1 ef1 es1 hlen hout2 fun hh => hr ?_
        have := hh.1
        rw [hzr] at this
        omega
      simp only [Bool.not_eq_false', decide_eq_true_eq] at hr
      have hr' : (zer (k.toNat + m.toNat) full1).length + 1 = full1.length := by rw [hzr]; omega
      have lS2 := OwnB.len oS2
      refine (anyz_spec (OwnB.bytes oS2) (by omega)).mono ?_
      rintro e w175 ⟨⟨bb, rfl, hbb⟩, rfl⟩
      refine ⟨_, rfl, condB_of (fun hany => ?_) (fun hany => ?_)⟩
      · obtain ⟨t, ht, hne⟩ := hbb.1 hany
        refine ⟨x171', .inr (.inr ⟨hk, hc, hc5, .inl ⟨?_, rfl⟩⟩)⟩
        refine hin1.many hf1 nf1 ef1 es1 hlen hout2 fun hh => hne ?_
        rw [hS2 t ht]
        exact hh.2 t ht
      · have hall : ∀ l, l < m.toNat → syn k.toNat m.toNat out l = 0 := fun l hl => by
          rw [← hS2 l hl]
          refine Decidable.byContradiction fun hne => ?_
          have := hbb.2 ⟨l, hl, hne⟩
          rw [hany] at this; cases this
        obtain ⟨h1, h2⟩ := hin1.ok hf1 nf1 ef1 es1 hlen hout2 hr' hall
        refine ⟨x171', .inr (.inr ⟨hk, hc, hc5, .inr ⟨out, h1, _, _, _, _, _, rfl, OwnB.ext oout x171, ?_⟩⟩)⟩
        rw [← h2, hn2]
        exact OwnS.ext owr x171
end Go.Proofs.Ytpmkjpgoekjcfaa
