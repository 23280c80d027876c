/- ErrdecStripes returns true, whatever the data and what is done to them. No conditions. -/
import Derived.Test.YtpmkjpgoekjcfaaH28
import Derived.Test.YtpmkjpgoekjcfaaRows
namespace Go.Proofs.Ytpmkjpgoekjcfaa
open Go Go.Vc Go.Gf Go.ChangeShapes Go.WideShapes Go.ChangeAt Go.RowKit

def strCur (hs bad : List Bool) (b : UInt8) (R : Nat → List UInt8) (i t : Nat) : List UInt8 := if t < i then strRow hs bad b (R t) t else R t
theorem strCur_at (hs bad : List Bool) (b : UInt8) (R : Nat → List UInt8) (i : Nat) : strCur hs bad b R i i = R i := by unfold strCur; rw [if_neg (by omega)]
theorem strCur_succ (hs bad : List Bool) (b : UInt8) (R : Nat → List UInt8) (i t : Nat) : strCur hs bad b R (i + 1) t = if t = i then strRow hs bad b (R i) i else strCur hs bad b R i t := by
  unfold strCur
  by_cases e : t = i
  · subst e; rw [if_pos (by omega), if_pos rfl]
  · rw [if_neg e]
    by_cases h : t < i
    · rw [if_pos h, if_pos (by omega)]
    · rw [if_neg h, if_neg (by omega)]
theorem tmodN (t l : Nat) : (t : Int).tmod (l : Int) = ((t % l : Nat) : Int) := rfl
theorem RowsAt.live {w : World} {base k n i : Nat} {L : Nat → List UInt8} (h : RowsAt w base (at0 k) n L) (hi : i < n) : Live w ((at0 k).add i) := by
  obtain ⟨cs, h1⟩ := h.typ (by omega)
  have h1 : RowK w k 22 cs := h1
  obtain ⟨P, h3, h4⟩ := h.own
  have h5 := (h3 i hi).1
  rw [rowk_cell h1] at h5
  exact h1.live3 (Array.getElem?_eq_some_iff.1 h5).1

set_option maxRecDepth 20000 in
set_option maxHeartbeats 8000000 in
theorem errdecStripes_walk (n1 n2 : Int) {w : World} {p3 : Option Addr} {l3 c3 : Nat} {L : List (List UInt8)} (hL : ListsAt w p3 l3 L) (_hx : ∀ x ∈ L, x.length ≤ maxLen) {p4 : Option Addr} {l4 c4 : Nat} {hs : List Bool} (hh : FlagsAt w p4 l4 hs) {p5 : Option Addr} {l5 c5 : Nat} {bad : List Bool} (hb : FlagsAt w p5 l5 bad) (n6 : Int) (wn : (Lit.int .u8 n6).wf = true) :
    Calls Try.prog 7 #[.int .i64 n1, .int .i64 n2, .slice p3 l3 c3, .slice p4 l4 c4, .slice p5 l5 c5, .int .u8 n6] w fun e w' => e = .returned (.bool true) ∧ Ext w w' := by
  obtain ⟨b, rfl⟩ : ∃ b : UInt8, n6 = ((b.toNat : Nat) : Int) := by
    unfold Lit.wf at wn
    rw [Bool.and_eq_true, decide_eq_true_eq, decide_eq_true_eq] at wn
    have w1 : (0 : Int) ≤ n6 := wn.1
    have w2 : n6 ≤ (255 : Int) := wn.2
    refine ⟨UInt8.ofNat n6.toNat, ?_⟩
    rw [UInt8.toNat_ofNat']
    omega
  refine (F7_calls n1 n2 p3 l3 c3 p4 l4 c4 p5 l5 c5 _ w (fun v w' => v = .bool true ∧ Ext w w')
    (fun pf p20 l20 _ p24 l24 _ _ p32 l32 c32 lost i w35 => 0 ≤ i ∧ i ≤ n1 + n2 ∧ (l24 : Int) = n1 + n2 ∧ (l20 : Int) = n1 + n2 ∧ ∃ w18 g, p24 = some (at0 g) ∧ w18.heap.size ≤ g ∧ FieldAt w18 pf ∧ ListsAt w18 p20 l20 ((List.range (n1 + n2).toNat).map (encRow n1.toNat n2.toNat L)) ∧ Ext w w18 ∧ Ext w18 w35 ∧
      RowsAt w35 w18.heap.size (at0 g) (n1 + n2).toNat (strCur hs bad b (encRow n1.toNat n2.toNat L) i.toNat) ∧ OwnN w35 w18.heap.size p32 l32 c32 (strBad hs bad (L.getD 0 []).length i.toNat) ∧ lost = ((mis i.toNat (nots hs)).length : Int)) (fun _ _ _ _ _ _ _ _ _ _ _ _ i _ => (n1 + n2 - i).toNat) ?_).mono (by rintro e w' ⟨v, rfl, rfl, h⟩; exact ⟨rfl, h⟩)
  have hLl := hL.1
  have hhl := hh.1
  have hbl := hb.1
  refine (awake_spec w).mono ?_
  rintro e w7 ⟨rfl, x7⟩
  refine ⟨_, rfl, (fnew_spec w7).mono ?_⟩
  rintro e w10 ⟨kf, rfl, x10, _, hf⟩
  refine ⟨_, rfl, condB_of (fun h => by cases h) fun _ => condB_of (fun h => by cases h) fun _ => (ccheck_spec n1 n2 w10).mono ?_⟩
  rintro e w13 ⟨rfl, rfl⟩
  have xw := x7.trans x10
  refine ⟨_, rfl, condB_of (fun h => ⟨rfl, xw⟩) fun hk0 => ?_⟩
  simp only [Bool.not_eq_false', decide_eq_true_eq] at hk0
  have hk : kmOk n1 n2 := Decidable.byContradiction fun h => by rw [kmE_bad h] at hk0; omega
  obtain ⟨a1, a2, a3, a4⟩ := hk
  have hk : kmOk n1 n2 := ⟨a1, a2, a3, a4⟩
  rw [w64 (n := n1 + n2) (by omega)]
  refine condB_of (fun h => ⟨rfl, xw⟩) fun h30 => condB_of (fun h => ⟨rfl, xw⟩) fun h3 => condB_of (fun h => ⟨rfl, xw⟩) fun h4 => condB_of (fun h => ⟨rfl, xw⟩) fun h5 => ?_
  simp only [decide_eq_false_iff_not] at h30
  simp only [Bool.not_eq_false', decide_eq_true_eq] at h3 h4 h5
  obtain ⟨a, q, ln, cn, rfl, hc0, hq, _⟩ := (hL.ext xw).2 0 (by omega)
  have hqn := hq.1
  refine ⟨⟨by omega, by omega⟩, _, _, _, hc0, condB_of (fun h => ⟨rfl, xw⟩) fun h10 => condB_of (fun h => ⟨rfl, xw⟩) fun hb0 => ?_⟩
  simp only [decide_eq_false_iff_not] at h10 hb0
  have hbne : b ≠ 0 := fun h => hb0 (by rw [h]; rfl)
  have hs10 : (L.getD 0 []).length ≤ 10 := by omega
  refine (encode_any (c := c3) hf (hL.ext xw) (by omega) (by omega) n1 n2).mono ?_
  rintro e w18 ⟨v, rfl, x18, ⟨h, _⟩ | ⟨_, _, rfl⟩ | ⟨_, hal, a20, c20, rfl, hrows⟩⟩
  · exact (h hk).elim
  · exact ⟨_, _, _, _, rfl, condB_of (fun _ => ⟨rfl, xw.trans x18⟩) fun h => by simp at h⟩
  refine ⟨_, _, _, _, rfl, condB_of (fun h => by simp at h) fun _ => ?_⟩
  have hn4 : (n1 + n2).toNat = l4 := by omega
  have hkm : l4 = n1.toNat + n2.toNat := by omega
  have hLk : L.length = n1.toNat := by omega
  have hall : ∀ x ∈ (List.range (n1 + n2).toNat).map (encRow n1.toNat n2.toNat L), x.length ≤ 10 := fun x hx => by
    obtain ⟨t, _, rfl⟩ := List.mem_map.1 hx
    rw [encRow_len]; exact hs10
  refine (copied_spec (c := c20) hrows.lists (by omega) (fun x hx => by have := hall x hx; omega)).mono ?_
  rintro e w22 ⟨p24, c24, rfl, x22, hS⟩
  obtain ⟨g, rfl, hg, hR⟩ := hS.first (by omega)
  have xw18 := xw.trans x18
  refine ⟨_, _, _, rfl, ⟨by omega, by omega, by omega, by omega, w18, g, rfl, hg, hf.ext x18, hrows.lists, xw18, x22, ?_, OwnS.nil _ _ _ _, rfl⟩, ?_⟩
  · refine ⟨hR.typ, ?_⟩
    obtain ⟨P, h1, h2⟩ := hR.own
    refine ⟨P, fun i hi => ⟨(h1 i hi).1, ?_⟩, h2⟩
    have e1 : strCur hs bad b (encRow n1.toNat n2.toNat L) (0 : Int).toNat i = ((List.range (n1 + n2).toNat).map (encRow n1.toNat n2.toNat L)).getD i [] := by
      unfold strCur
      rw [if_neg (show ¬ i < (0 : Int).toNat from Nat.not_lt_zero _)]
      simp [List.getD_eq_getElem?_getD, hi]
    rw [e1]; exact (h1 i hi).2
  clear hS hR x22 hg
  rintro p32 l32 c32 lost i w35 ⟨hi0, hi1, _, _, w18', g', eg, hg, hfw, hlists, y1, y2, hR, oN, rfl⟩
  simp only [Option.some.injEq, at0, Addr.mk.injEq, and_true] at eg
  subst eg
  intros
  have yw := y1.trans y2
  have lN := OwnN.len oN
  have hbadle := strBad_le hs bad (L.getD 0 []).length i.toNat
  have hmisle := mis_le i.toNat (nots hs)
  have hrowty : ∀ {w' : World}, Ext w35 w' → ∃ cs, RowK w' g 22 cs := fun hx => by
    obtain ⟨cs, h⟩ := (hR.ext hx).typ (by omega)
    exact ⟨cs, h⟩
  have fin : i = n1 + n2 → F7_A0 n2 l32 ((mis i.toNat (nots hs)).length : Int) w35 n1 (some (at0 kf)) p4 l4 c4 (some (at0 g)) (n1 + n2).toNat c24 (some a20) (n1 + n2).toNat c20 p32 c32 (fun v w' => v = .bool true ∧ Ext w w')
    (fun pf p20 l20 _ p24 l24 _ _ p32 l32 c32 lost i w35 => 0 ≤ i ∧ i ≤ n1 + n2 ∧ (l24 : Int) = n1 + n2 ∧ (l20 : Int) = n1 + n2 ∧ ∃ w18 g, p24 = some (at0 g) ∧ w18.heap.size ≤ g ∧ FieldAt w18 pf ∧ ListsAt w18 p20 l20 ((List.range (n1 + n2).toNat).map (encRow n1.toNat n2.toNat L)) ∧ Ext w w18 ∧ Ext w18 w35 ∧
      RowsAt w35 w18.heap.size (at0 g) (n1 + n2).toNat (strCur hs bad b (encRow n1.toNat n2.toNat L) i.toNat) ∧ OwnN w35 w18.heap.size p32 l32 c32 (strBad hs bad (L.getD 0 []).length i.toNat) ∧ lost = ((mis i.toNat (nots hs)).length : Int)) (fun _ _ _ _ _ _ _ _ _ _ _ _ i _ => (n1 + n2 - i).toNat) := by
    intro hi
    unfold F7_A0
    have hit : i.toNat = l4 := by omega
    rw [hit] at hR oN lN hmisle hbadle ⊢
    rw [hn4] at hR hlists ⊢
    rw [w64 (n := 2 * (l32 : Int)) (by omega), w64 (n := 2 * (l32 : Int) + _) (by omega), w64 (n := n1 + n2) (by omega)]
    refine condB_of (fun _ => ⟨rfl, yw⟩) fun hfew => condB_of (fun _ => ⟨rfl, yw⟩) fun hsome => ?_
    simp only [decide_eq_false_iff_not] at hfew hsome
    obtain ⟨i0, hi0', hb0'⟩ := mis_some (n := l4) (ms := nots hs) (by omega)
    rw [nots_get (by omega)] at hb0'
    have hLc : ∀ t, t < l4 → ((List.range l4).map (strCur hs bad b (encRow n1.toNat n2.toNat L) l4)).getD t [] = strRow hs bad b (encRow n1.toNat n2.toNat L t) t := fun t ht => by
      have : ((List.range l4).map (strCur hs bad b (encRow n1.toNat n2.toNat L) l4)).getD t [] = strCur hs bad b (encRow n1.toNat n2.toNat L) l4 t := by simp [List.getD_eq_getElem?_getD, ht]
      rw [this]; unfold strCur; rw [if_pos ht]
    have hsz : Sized n1 n2 l4 l4 hs ((List.range l4).map (strCur hs bad b (encRow n1.toNat n2.toNat L) l4)) (L.getD 0 []).length :=
      ⟨h4, h4, ⟨i0, hi0', by simpa using hb0'⟩, fun t ht hb => by rw [hLc t ht, strRow_len hb, encRow_len]⟩
    have hnear : ∀ x, x < (L.getD 0 []).length → decM n1.toNat n2.toNat (wordAt l4 hs ((List.range l4).map (strCur hs bad b (encRow n1.toNat n2.toNat L) l4)) x) (nots hs) = some (enc n1.toNat n2.toNat (L.map fun y => co y x)) := fun x hx =>
      str_near hkm (by omega) (by omega) hbne hLk hLc (by omega) hx
    refine (shards_spec (c3 := c4) (c4 := c24) (hfw.ext y2) (hh.ext yw) hR.lists n1 n2 (fun x hx => by
      obtain ⟨t, ht, rfl⟩ := List.mem_map.1 hx
      unfold strCur strRow
      rw [if_pos (by simpa using ht)]
      by_cases h1 : hs.getD t false = false
      · rw [if_pos h1]; simp
      · rw [if_neg h1]
        have := encRow_len n1.toNat n2.toNat L t
        by_cases h2 : bad.getD t false = true ∧ 0 < (encRow n1.toNat n2.toNat L t).length
        · rw [if_pos h2, List.length_set]; omega
        · rw [if_neg h2]; omega)).mono ?_
    rintro e w131 ⟨v, rfl, x131, ⟨h, _⟩ | ⟨_, h, _⟩ | ⟨_, s', hs', ⟨⟨x, hx, hno⟩, _⟩ | ⟨cs, hcl, hcs, ko, p2, n2', c2, W, rfl, out, oW, hW1, hW2⟩⟩⟩
    · exact (h hk).elim
    · exact (h _ hsz).elim
    · obtain rfl := hs'.one hsz
      rw [hnear x hx] at hno; cases hno
    obtain rfl := hs'.one hsz
    have hcol : ∀ x, x < (L.getD 0 []).length → cs.getD x [] = enc n1.toNat n2.toNat (L.map fun y => co y x) := fun x hx => by
      have h1 := hcs x hx
      rw [hnear x hx] at h1
      exact (Option.some.inj h1).symm
    have hrow : ∀ t, (cs.map fun c => co c t) = encRow n1.toNat n2.toNat L t := fun t => by
      unfold encRow
      refine List.ext_getElem (by simp [hcl]) fun j h1 h2 => ?_
      have hj : j < cs.length := by simpa using h1
      rw [List.getElem_map, List.getElem_map, List.getElem_range, ← hcol j (by omega)]
      simp [List.getD_eq_getElem?_getD, hj]
    have hWe : W = strBad hs bad (L.getD 0 []).length l4 := by
      refine sorted_ext hW1 (List.Pairwise.filter _ List.pairwise_lt_range) fun t => ?_
      rw [hW2]
      constructor
      · rintro ⟨x, hx, hd⟩
        rw [hcol x hx, str_dif hkm (by omega) hbne hLc hx] at hd
        simp only [List.mem_filter, List.mem_range, Bool.and_eq_true, decide_eq_true_eq] at hd
        unfold strBad
        simp only [List.mem_filter, List.mem_range, Bool.and_eq_true, decide_eq_true_eq]
        exact ⟨hd.1, hd.2.1, hd.2.2.1, by omega⟩
      · intro hd
        unfold strBad at hd
        simp only [List.mem_filter, List.mem_range, Bool.and_eq_true, decide_eq_true_eq] at hd
        refine ⟨t % (L.getD 0 []).length, Nat.mod_lt _ hd.2.2.2, ?_⟩
        rw [hcol _ (Nat.mod_lt _ hd.2.2.2), str_dif hkm (by omega) hbne hLc (Nat.mod_lt _ hd.2.2.2)]
        simp only [List.mem_filter, List.mem_range, Bool.and_eq_true, decide_eq_true_eq]
        exact ⟨hd.1, hd.2.1, hd.2.2.1, trivial⟩
    subst hWe
    have lW := OwnN.len oW
    refine ⟨_, _, _, _, _, _, _, rfl, (lsame_spec (c1 := l4) (c2 := c20) out.lists (hlists.ext (y2.trans x131)) (by omega) (fun x hx => by
      obtain ⟨t, _, rfl⟩ := List.mem_map.1 hx
      rw [List.length_map]; omega)).mono ?_⟩
    rintro e w136 ⟨rfl, x136⟩
    refine ⟨_, rfl, (ints_spec (c1 := c2) (c2 := c32) (OwnN.nats (OwnS.ext oW x136)) (OwnN.nats (OwnS.ext (OwnS.ext oN x131) x136)) (by have := strBad_le hs bad (L.getD 0 []).length l4; omega)).mono ?_⟩
    rintro e w139 ⟨rfl, x139⟩
    refine ⟨_, rfl, condB_of (fun _ => condB_of (fun _ => ⟨by simp, yw.trans (x131.trans (x136.trans x139))⟩) fun h => by simp at h) fun h => ?_⟩
    rw [decide_eq_true] at h
    · cases h
    · exact List.map_congr_left fun t _ => hrow t
  refine condB_of (fun hs1 => condB_of (fun hs2 => ?_) fun hs2 => ?_) fun hs1 => ?_
  · simp only [decide_eq_true_eq] at hs2
    have hin : i.toNat < (n1 + n2).toNat := by omega
    have hnx : (i + 1).toNat = i.toNat + 1 := by omega
    have hmeas : (n1 + n2 - (i + 1)).toNat < (n1 + n2 - i).toNat := by omega
    have hat := strCur_at hs bad b (encRow n1.toNat n2.toNat L) i.toNat
    obtain ⟨a4', rfl, hc4⟩ := (hh.ext yw).get (i := i.toNat) (by omega)
    rw [w64 (n := i + 1) (by omega), w64 (n := ((mis i.toNat (nots hs)).length : Int) + 1) (by omega)]
    have hmis : mis (i.toNat + 1) (nots hs) = mis i.toNat (nots hs) ++ (if (!hs.getD i.toNat false) = true then [i.toNat] else []) := by rw [mis_succ, nots_get (by omega)]
    refine ⟨⟨hi0, by omega⟩, _, by rw [Nat.mul_one]; exact hc4, condB_of (fun hno => ?_) (fun hyes => ?_)⟩
    · -- a shard is missing
      have hno' : hs.getD i.toNat false = false := by simpa using hno
      intro k106 w107 h107
      have o107 := row_bytes (bs := [b]) h107 (by unfold maxLen; simp)
      refine ⟨⟨hi0, by omega⟩, by rw [Nat.mul_one]; exact (hR.ext h107.ext).live hin, fun w109 s109 => ?_⟩
      rw [Nat.mul_one] at s109
      obtain ⟨hR', u109⟩ := hR.put h107.ext hin o107 y2.size s109
      obtain ⟨csg, rowg⟩ := hrowty h107.ext
      refine ⟨⟨by omega, by omega, by omega, by omega, w18', g, rfl, hg, hfw, hlists, y1, ext_upd (y2.trans h107.ext) hg u109, ?_, ?_, ?_⟩, hmeas⟩
      · rw [hnx]
        refine hR'.congr fun t _ => ?_
        rw [strCur_succ]
        by_cases e : t = i.toNat
        · rw [if_pos e, if_pos e]; unfold strRow; rw [if_pos hno']
        · rw [if_neg e, if_neg e]
      · rw [hnx, strBad_succ, hno', Bool.false_and, if_neg (by simp), List.append_nil]
        exact OwnS.other (OwnS.ext oN h107.ext) u109 fun x hx => ⟨csg, _, (0, 0), by rw [show x = g from hx]; exact rowg, ty_row.2.1⟩
      · rw [hnx, hmis, hno']; simp
    · have hyes' : hs.getD i.toNat false = true := by simpa using hyes
      obtain ⟨a5, rfl, hc5⟩ := (hb.ext yw).get (i := i.toNat) (by omega)
      have hmis' : ((mis i.toNat (nots hs)).length : Int) = ((mis (i + 1).toNat (nots hs)).length : Int) := by rw [hnx, hmis, hyes']; simp
      have keep : strRow hs bad b (encRow n1.toNat n2.toNat L i.toNat) i.toNat = encRow n1.toNat n2.toNat L i.toNat → (hs.getD i.toNat false && (bad.getD i.toNat false && decide (0 < (L.getD 0 []).length))) = false →
          ((0 ≤ i + 1 ∧ i + 1 ≤ n1 + n2 ∧ (((n1 + n2).toNat : Nat) : Int) = n1 + n2 ∧ (((n1 + n2).toNat : Nat) : Int) = n1 + n2 ∧ ∃ w18 g', (some (at0 g) : Option Addr) = some (at0 g') ∧ w18.heap.size ≤ g' ∧ FieldAt w18 (some (at0 kf)) ∧ ListsAt w18 (some a20) (n1 + n2).toNat ((List.range (n1 + n2).toNat).map (encRow n1.toNat n2.toNat L)) ∧ Ext w w18 ∧ Ext w18 w35 ∧
      RowsAt w35 w18.heap.size (at0 g') (n1 + n2).toNat (strCur hs bad b (encRow n1.toNat n2.toNat L) (i + 1).toNat) ∧ OwnN w35 w18.heap.size p32 l32 c32 (strBad hs bad (L.getD 0 []).length (i + 1).toNat) ∧ ((mis i.toNat (nots hs)).length : Int) = ((mis (i + 1).toNat (nots hs)).length : Int)) ∧ (n1 + n2 - (i + 1)).toNat < (n1 + n2 - i).toNat) := by
        intro k1 k2
        refine ⟨⟨by omega, by omega, by omega, by omega, w18', g, rfl, hg, hfw, hlists, y1, y2, ?_, ?_, hmis'⟩, hmeas⟩
        · rw [hnx]
          refine hR.congr fun t _ => ?_
          rw [strCur_succ]
          by_cases e : t = i.toNat
          · rw [if_pos e, k1, e, hat]
          · rw [if_neg e]
        · rw [hnx, strBad_succ, k2, if_neg (by simp), List.append_nil]; exact oN
      refine ⟨⟨hi0, by omega⟩, _, by rw [Nat.mul_one]; exact hc5, condB_of (fun hbad => ?_) (fun hgood => ?_)⟩
      · by_cases h0 : 0 < (L.getD 0 []).length
        · have hlen : (strCur hs bad b (encRow n1.toNat n2.toNat L) i.toNat i.toNat).length = (L.getD 0 []).length := by rw [hat, encRow_len]
          obtain ⟨pr_, lr, cr, kr, hcell, hlr, hpr, _⟩ := hR.at hin (j := i.toNat % (L.getD 0 []).length) (by rw [hlen]; exact Nat.mod_lt _ h0)
          refine ⟨⟨hi0, by omega⟩, _, _, _, by rw [Nat.mul_one]; exact hcell, condB_of (fun _ => ?_) (fun h => by simp only [decide_eq_false_iff_not] at h; omega)⟩
          intro w114 hd114
          obtain ⟨pr2, lr2, cr2, kr2, hcell2, hlr2, hpr2, hbr2, live2, byte2, ⟨csr, rowr⟩, set2⟩ := (hR.ext hd114.ext).at hin (j := i.toNat % (L.getD 0 []).length) (by rw [hlen]; exact Nat.mod_lt _ h0)
          subst hpr2
          rw [hlen] at hlr2
          subst hlr2
          have hc114 : w114.cell? ((at0 g).add (i.toNat * 1)) = some (.slice (some (at0 kr2)) (L.getD 0 []).length cr2) := by rw [Nat.mul_one]; exact hcell2
          have etm : i.tmod (((L.getD 0 []).length : Nat) : Int) = ((i.toNat % (L.getD 0 []).length : Nat) : Int) := by
            have := tmodN i.toNat (L.getD 0 []).length
            rwa [show ((i.toNat : Nat) : Int) = i by omega] at this
          have hml := Nat.mod_lt i.toNat h0
          refine ⟨⟨hi0, by omega⟩, _, _, _, hc114, ⟨hi0, by omega⟩, _, _, _, hc114, by omega, ⟨hi0, by omega⟩, _, _, _, hc114, ⟨hi0, by omega⟩, _, _, _, hc114, by omega, ?_⟩
          rw [etm]
          refine ⟨⟨by omega, by omega⟩, _, by rw [Int.toNat_natCast, Nat.mul_one]; exact byte2, ⟨by omega, by omega⟩, by rw [Int.toNat_natCast, Nat.mul_one]; exact live2, fun w126 s126 => ?_⟩
          rw [Int.toNat_natCast, Nat.mul_one, bx8] at s126
          obtain ⟨hR126, u126⟩ := set2 _ _ s126
          have y114 := y2.trans hd114.ext
          have y126 : Ext w18' w126 := ext_upd y114 hbr2 u126
          have oN126 : OwnN w126 w18'.heap.size p32 l32 c32 (strBad hs bad (L.getD 0 []).length i.toNat) := OwnS.other (OwnS.ext oN hd114.ext) u126 fun x hx => ⟨csr, _, (0, 0), by rw [show x = kr2 from hx]; exact rowr, ity.1.symm⟩
          intro k127 w128 h128
          rw [show i = ((i.toNat : Nat) : Int) by omega] at h128
          obtain ⟨p', c', w129, hr', oN129, u129⟩ := OwnN.push oN126 h128 y126.size (by omega)
          have y129 : Ext w18' w129 := OwnB.new_ext y126 u129 fun y hy => OwnS.blk oN126 hy
          refine ⟨_, _, _, w129, hr', ⟨by omega, by omega, by omega, by omega, w18', g, rfl, hg, hfw, hlists, y1, y129, ?_, ?_, hmis'⟩, hmeas⟩
          · rw [hnx]
            refine (RowsAt.otherT hR126 u129 fun x hx => ?_).congr fun t _ => ?_
            · obtain ⟨cs, e', fz, h7, h8⟩ := OwnS.typed oN126 hx
              exact ⟨cs, e', fz, h7, by rw [h8]; exact ity.1, by rw [h8]; exact ty_row.2.1.symm⟩
            · rw [strCur_succ]
              by_cases e : t = i.toNat
              · rw [if_pos e, if_pos e, hat]
                unfold strRow
                rw [if_neg (by rw [hyes']; exact fun h => by cases h), if_pos ⟨hbad, by rw [encRow_len]; exact h0⟩, encRow_len]
              · rw [if_neg e, if_neg e]
          · have hb' : bad.getD i.toNat false = true := hbad
            rw [hnx, strBad_succ, hyes', hb', decide_eq_true h0]
            exact oN129
        · obtain ⟨P, h3', _⟩ := hR.own
          obtain ⟨hcell, ho⟩ := h3' i.toNat hin
          have hl := OwnB.len ho
          rw [hat, encRow_len] at hl
          refine ⟨⟨hi0, by omega⟩, _, _, _, by rw [Nat.mul_one]; exact hcell, condB_of (fun h => by simp only [decide_eq_true_eq] at h; omega) (fun _ => ?_)⟩
          refine keep ?_ ?_
          · unfold strRow
            rw [if_neg (by rw [hyes']; exact fun h => by cases h), if_neg (by rw [encRow_len]; exact fun h => h0 h.2)]
          · rw [decide_eq_false h0, Bool.and_false, Bool.and_false]
      · have hg' : bad.getD i.toNat false = false := hgood
        refine keep ?_ ?_
        · unfold strRow
          rw [if_neg (by rw [hyes']; exact fun h => by cases h), if_neg (by rw [hg']; exact fun h => by cases h.1)]
        · rw [hg', Bool.false_and, Bool.and_false]
  · simp only [decide_eq_false_iff_not] at hs2
    exact fin (by omega)
  · simp only [decide_eq_false_iff_not] at hs1
    exact fin (by omega)
set_option maxRecDepth 100000 in
theorem errdecStripes_lifted (os : Os) (started : os.Started) (H : Type) (enc : TypeId × Value → H) :
    ReturnsInHanded {} Try.checked os 7 .any (Rows.errdecStripesSpec.pre6 enc Try.prog Try.f7 Rows.errdecStripesRow.domain false) (Rows.errdecStripesSpec.post enc Try.prog Try.f7 false true false false) := by
  refine returnsInHanded_of_change (C := Try.checked) lawOwn started (by kernel_rfl) Try.func7
    (ChangeSpec.witness6 (enc := enc) (C := Try.checked) false ⟨#[], #[.int .i64 0, .int .i64 0, .slice none 0 0, .slice none 0 0, .slice none 0 0, .int .u8 0], []⟩ 8 (by kernel_rfl) (by kernel_rfl) (by kernel_rfl) (by kernel_rfl)) ?_
  intro W base args ds gs before hval0 hW hcnd _
  have hval : ∀ (j : Nat) t v, Try.f7.params[j]? = some t → args[j]? = some v → Value.okWide Try.prog W .any base t v := hval0
  have hW' := hW
  obtain ⟨p, q, hA0, hV, rfl, hfz, hnd⟩ := hW
  have hA : DataW.TrodAll enc Try.prog W 0 (fun _ => true) true Try.f7.params.toList args.toList ds p := hA0
  rw [Try.params7] at hA hval
  obtain ⟨v0, vs0, d0, ds0, p0, q0, hargs, rfl, rfl, h0, r0⟩ := trodAll_cons hA
  obtain ⟨v1, vs1, d1, ds1, p1, q1, rfl, rfl, rfl, h1, r1⟩ := trodAll_cons r0
  obtain ⟨v2, vs2, d2, ds2, p2, q2, rfl, rfl, rfl, h2, r2⟩ := trodAll_cons r1
  obtain ⟨v3, vs3, d3, ds3, p3, q3, rfl, rfl, rfl, h3, r3⟩ := trodAll_cons r2
  obtain ⟨v4, vs4, d4, ds4, p4, q4, rfl, rfl, rfl, h4, r4⟩ := trodAll_cons r3
  obtain ⟨v5, vs5, d5, ds5, p5, q5, rfl, rfl, rfl, h5, r5⟩ := trodAll_cons r4
  obtain ⟨rfl, rfl, rfl⟩ := trodAll_nil r5
  obtain rfl : args = #[v0, v1, v2, v3, v4, v5] := by cases args; simp_all
  obtain ⟨rfl, rfl⟩ := trodVars_none hV
  obtain ⟨n0, rfl, rfl, rfl, wn0⟩ := open_int Try.underlying3 (hval 0 3 v0 rfl rfl) h0
  obtain ⟨n1, rfl, rfl, rfl, wn1⟩ := open_int Try.underlying3 (hval 1 3 v1 rfl rfl) h1
  obtain ⟨a2, l2, c2, L2, rfl, hL2, _, _, hx2⟩ := open_lists (okWide_slice Try.underlying36 (hval 2 36 v2 rfl rfl)) h2
  obtain ⟨a3, l3, c3, ks3, rfl, hk3, _, _⟩ := open_flags (okWide_slice Try.underlying23 (hval 3 23 v3 rfl rfl)) h3
  obtain ⟨a4, l4, c4, ks4, rfl, hk4, _, _⟩ := open_flags (okWide_slice Try.underlying23 (hval 4 23 v4 rfl rfl)) h4
  obtain ⟨n5, rfl, rfl, rfl, wn5⟩ := open_int Try.underlying5 (hval 5 5 v5 rfl rfl) h5
  refine (errdecStripes_walk n0 n1 hL2 hx2 hk3 hk4 n5 wn5).mono fun e W' ⟨he, hg⟩ => ?_
  subst he
  exact ⟨_, rfl, post_true lawLaid rfl (by kernel_rfl) rfl Try.underlying4 hW' rfl hg.below⟩

/-- ████ THE STATEMENT ████ -/
theorem errdecStripes_holds : Rows.ErrdecStripesSaid :=
  OpenClaim.holds_of_wide 7 Try.f7 rfl rfl rfl rfl rfl rfl rfl ⟨rfl, rfl, rfl, rfl, rfl⟩ rfl rfl rfl rfl rfl (by kernel_rfl) Try.func7 (by kernel_rfl)
    (of_decide_eq_true (by kernel_rfl)) (by unfold Func.isWrapper; first | (rw [if_pos (by decide +kernel)]; kernel_rfl) | (rw [if_neg (by decide +kernel)]; exact ⟨rfl, rfl⟩))
    (fun os started H enc _ => errdecStripes_lifted os started H enc)
end Go.Proofs.Ytpmkjpgoekjcfaa
