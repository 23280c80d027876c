import Derived.Test.YtpmkjpgoekjcfaaME
import Derived.Test.YtpmkjpgoekjcfaaMJ
/- The document's encoder. -/
namespace Go.Proofs.Ytpmkjpgoekjcfaa
open Go Go.Vc Go.Gf

theorem ix_div {C r c : Nat} (hc : c < C) : (r * C + c) / C = r := by
  rw [Nat.mul_comm, Nat.mul_add_div (by omega), Nat.div_eq_of_lt hc, Nat.add_zero]
theorem ix_mod {C r c : Nat} (hc : c < C) : (r * C + c) % C = c := by
  rw [Nat.mul_comm, Nat.mul_add_mod, Nat.mod_eq_of_lt hc]
theorem RowsS.base_le {w : World} {base b n c : Nat} {p : Option Addr} {L : Nat → List UInt8} (h : RowsS w base p n c L) (hb : b ≤ base) : RowsS w b p n c L := by
  obtain ⟨P, g1, g2, g3⟩ := h
  exact ⟨P, OwnS.base_le g1 hb, fun t ht => OwnB.base_le (g2 t ht) hb, g3⟩
theorem encRow_data {k m t : Nat} {L : List (List UInt8)} (hL : L.length = k) (ht : t < k) (hs : (L.getD t []).length = (L.getD 0 []).length) : encRow k m L t = L.getD t [] := by
  refine co_ext (by rw [encRow_len, hs]) fun x hx => ?_
  rw [encRow_len] at hx
  rw [encRow_co hx, enc_data (by rw [List.length_map, hL]) ht, map_co]
theorem encRow_par {k m i x : Nat} {L : List (List UInt8)} (hL : L.length = k) (hi : i < m) (hx : x < (L.getD 0 []).length) : co (encRow k m L (k + i)) x = xs k fun j => gm (parV k i j) (co (L.getD j []) x) := by
  rw [encRow_co hx, enc_par (by rw [List.length_map, hL]) hi]
  unfold par parV
  exact xs_congr fun j _ => by rw [map_co]

set_option maxHeartbeats 1000000 in
theorem ralike_spec {p : Option Addr} {w : World} {l c : Nat} {n : Int} {L : List (List UInt8)} (h : ListsAt w p l L) (ha : Alike n l L) (hl : l ≤ 1048576) (h0 : 0 < l) :
    Calls Try.prog 108 #[.slice p l c, .int .i64 n] w fun e w' => e = .returned (.bool true) ∧ Ext w w' := by
  refine (F108_calls p l c n w (fun v w' => v = .bool true ∧ Ext w w')
    (fun _ i w1 => 1 ≤ i ∧ i ≤ l ∧ Ext w w1) (fun _ i _ => (l - i).toNat) ?_).mono (by rintro e w' ⟨v, rfl, rfl, h⟩; exact ⟨rfl, h⟩)
  refine condB_of (fun h => ?_) fun _ => ⟨⟨by omega, by omega, Upd.refl _ _⟩, ?_⟩
  · simp only [Bool.not_eq_true', decide_eq_false_iff_not] at h
    exact (h ha.1).elim
  rintro i w1 ⟨hi0, hi1, hx⟩
  intros
  obtain ⟨t, rfl⟩ := Int.eq_ofNat_of_zero_le (show 0 ≤ i by omega)
  refine condB_of (fun hs => ?_) (fun hs => ⟨rfl, hx⟩)
  simp only [decide_eq_true_eq] at hs
  intro w22 hd
  have x22 := hx.trans hd.ext
  obtain ⟨a, q, ln, cn, rfl, hc, hq, _⟩ := (h.ext x22).2 t (by omega)
  obtain ⟨a', q', ln', cn', e, hc', hq', _⟩ := (h.ext x22).2 0 h0
  cases e
  have e1 := hq.1
  have e2 := hq'.1
  have e3 := ha.2 t (by omega)
  refine ⟨⟨by omega, hs⟩, _, _, _, by rw [Int.toNat_natCast, Nat.mul_one]; exact hc, ⟨by omega, by omega⟩, _, _, _, hc', condB_of (fun h => ?_) fun _ => ?_⟩
  · simp only [Bool.not_eq_true', decide_eq_false_iff_not] at h
    omega
  · rw [w64 (n := (t : Int) + 1) (by omega)]
    exact ⟨⟨by omega, by omega, x22⟩, by show ((l : Int) - ((t : Int) + 1)).toNat < ((l : Int) - t).toNat; omega⟩

set_option maxHeartbeats 1000000 in
theorem rword_spec {w : World} {k m i x lA cA c5 : Nat} {pA p5 : Option Addr} {L : List (List UInt8)} (hA : BytesAt w pA lA (genA (parV k) k (m * k))) (h : ListsAt w p5 k L) (hi : i < m) (hk : k ≤ 256) (hm : m ≤ 256) (hx : ∀ j, j < k → x < (L.getD j []).length) :
    Calls Try.prog 109 #[.agg #[.int .i64 (m : Int), .int .i64 (k : Int), .slice pA lA cA], .int .i64 (i : Int), .slice p5 k c5, .int .i64 (x : Int)] w fun e w' => e = .returned (vb (xs k fun j => gm (parV k i j) (co (L.getD j []) x))) ∧ Ext w w' := by
  refine (F109_calls m k pA lA cA i p5 k c5 x w (fun v w' => v = vb (xs k fun j => gm (parV k i j) (co (L.getD j []) x)) ∧ Ext w w')
    (fun q _ o j w1 => 0 ≤ j ∧ j ≤ k ∧ Ext w w1 ∧ RowQ w1 q 82 (matC m k pA lA cA) ∧ o = ((xs j.toNat fun j => gm (parV k i j) (co (L.getD j []) x)).toNat : Int)) (fun _ _ _ j _ => (k - j).toNat) ?_).mono (by rintro e w' ⟨v, rfl, rfl, h⟩; exact ⟨rfl, h⟩)
  have hmk : m * k ≤ 256 * 256 := Nat.mul_le_mul hm hk
  have lAe := hA.1
  rw [genA_len] at lAe
  intro k7 w8 h7
  have r7 : RowK w8 k7 82 (matC m k pA lA cA) := h7.at
  refine ⟨⟨by omega, by omega, h7.ext, RowQ.of r7, rfl⟩, ?_⟩
  clear r7
  rintro o j w1 ⟨hj0, hj1, hx1, hq, rfl⟩
  intros
  obtain ⟨t, rfl⟩ := Int.eq_ofNat_of_zero_le hj0
  refine condB_of (fun hs => ?_) (fun hs => ?_)
  · simp only [decide_eq_true_eq] at hs
    intro w39 hd
    have x39 := hx1.trans hd.ext
    have r := (hq.ext hd.ext).get
    have hix := ix_lt hi (show t < k by omega)
    have ew : IntKind.i64.wrap (IntKind.i64.wrap ((i : Int) * (k : Int)) + (t : Int)) = ((i * k + t : Nat) : Int) := by
      rw [wmul (by omega)]
      exact w64 (by omega)
    obtain ⟨aA, rfl, hcA⟩ := BytesAt.co (hA.ext x39) (i := i * k + t) (by omega)
    rw [genA_co _ hix, ix_div (by omega), ix_mod (by omega)] at hcA
    obtain ⟨a5, q, ln, cn, rfl, hc, hq5, _⟩ := (h.ext x39).2 t (by omega)
    have hxt := hx t (by omega)
    have e1 := hq5.1
    obtain ⟨aq, rfl, hcq⟩ := BytesAt.co hq5 (i := x) (by omega)
    refine ⟨_, _, _, r.cell3 rfl, _, r.cell3 rfl, ?_⟩
    rw [ew]
    refine ⟨⟨by omega, by omega⟩, _, by rw [Int.toNat_natCast, Nat.mul_one]; exact hcA, ⟨hj0, hs⟩, some aq, ln, cn, by rw [Int.toNat_natCast, Nat.mul_one]; exact hc, ⟨by omega, by omega⟩, _, by rw [Int.toNat_natCast, Nat.mul_one]; exact hcq, (rmul_spec (w := w39) (parV k i t) (co (L.getD t []) x)).mono ?_⟩
    rintro e w48 ⟨rfl, rfl⟩
    rw [w64 (n := (t : Int) + 1) (by omega)]
    refine ⟨_, rfl, ⟨by omega, by omega, x39, hq.ext hd.ext, ?_⟩, by show ((k : Int) - ((t : Int) + 1)).toNat < ((k : Int) - t).toNat; omega⟩
    rw [bx8, show ((t : Int) + 1).toNat = t + 1 by omega]
    rfl
  · simp only [decide_eq_false_iff_not] at hs
    rw [show (t : Int).toNat = k by omega]
    exact ⟨rfl, hx1⟩

set_option maxHeartbeats 2000000 in
theorem rencode_spec {p : Option Addr} {w : World} {k m c : Nat} {L : List (List UInt8)} (h : ListsAt w p k L) (hal : ∀ i, i < k → (L.getD i []).length = (L.getD 0 []).length) (h0 : (L.getD 0 []).length ≤ 1048576) (hk : 1 ≤ k) (hkm : k + m ≤ 256) :
    Calls Try.prog 87 #[.int .i64 (k : Int), .int .i64 (m : Int), .slice p k c] w fun e w' => ∃ a c', e = .returned (.tuple #[.slice (some a) (k + m) c', .int .i64 0]) ∧ Ext w w' ∧ RowsAt w' w.heap.size a (k + m) (encRow k m L) := by
  have hLk := h.1
  refine (F87_calls k m p k c w (fun v w' => ∃ a c', v = .tuple #[.slice (some a) (k + m) c', .int .i64 0] ∧ Ext w w' ∧ RowsAt w' w.heap.size a (k + m) (encRow k m L))
    (fun q _ p22 l22 c22 i w24 => 0 ≤ i ∧ i ≤ m ∧ (l22 : Int) = k + i ∧ Ext w w24 ∧ (∃ pA lA cA, RowQ w24 q 82 (matC m k pA lA cA) ∧ OwnB w24 w.heap.size pA lA cA (genA (parV k) k (m * k))) ∧ RowsS w24 w.heap.size p22 l22 c22 (encRow k m L)) (fun _ _ _ _ _ i _ => (m - i).toNat)
    (fun _ _ _ _ i w24 p57 l57 c57 x w59 => 0 ≤ x ∧ x ≤ (L.getD 0 []).length ∧ Ext w24 w59 ∧ OwnB w59 w24.heap.size p57 l57 c57 ((encRow k m L (k + i.toNat)).take x.toNat)) (fun _ _ _ _ _ _ _ _ _ x _ => ((L.getD 0 []).length - x).toNat) ?_).mono (by rintro e w' ⟨v, rfl, a, c', rfl, h⟩; exact ⟨a, c', rfl, h⟩)
  refine (rpar_spec hk hkm).mono ?_
  rintro e w4 ⟨_, rfl, pA, lA, cA, rfl, x4, oA⟩
  refine ⟨_, _, _, _, _, _, rfl, new_mat fun k10 w14 r10 _ x14 => condB_of (fun h => by simp at h) fun _ => ?_⟩
  have xw14 := x4.trans x14
  refine (ralike_spec (c := c) (h.ext xw14) ⟨rfl, hal⟩ (by omega) (by omega)).mono ?_
  rintro e w15 ⟨rfl, x15⟩
  refine ⟨_, rfl, condB_of (fun h => by simp at h) fun _ => ?_⟩
  have xw15 := xw14.trans x15
  refine (copied_spec (c := c) (h.ext xw15) (by omega) fun y hy => ?_).mono ?_
  · obtain ⟨i, hi, rfl⟩ := List.getElem_of_mem hy
    have := hal i (by omega)
    rw [List.getD_eq_getElem?_getD, List.getElem?_eq_getElem hi, Option.getD_some] at this
    omega
  rintro e w18 ⟨p20, c20, rfl, x18, hS⟩
  refine ⟨_, _, _, rfl, ⟨by omega, by omega, by omega, xw15.trans x18, ⟨pA, lA, cA, RowQ.of (x18.keep (x15.keep r10)), OwnB.ext (OwnB.ext (OwnB.ext oA x14) x15) x18⟩, ?_⟩, ?_⟩
  · exact (hS.congr fun t ht => encRow_data (by omega) ht (hal t ht)).base_le xw15.size
  clear hS oA r10
  rintro p22 l22 c22 iI w24 ⟨hi0, hi1, hl22, x24, ⟨pA, lA, cA, hq, hA⟩, hR⟩
  obtain ⟨i, rfl⟩ := Int.eq_ofNat_of_zero_le hi0
  intros
  refine condB_of (fun hs => ?_) (fun hs => ?_)
  · simp only [decide_eq_true_eq] at hs
    refine ⟨⟨by omega, by omega, Upd.refl _ _, by rw [show (encRow k m L (k + (i : Int).toNat)).take (0 : Int).toNat = [] from rfl]; exact OwnS.nil _ _ _ _⟩, ?_⟩
    rintro p57 l57 c57 xI w59 ⟨hx0, hx1, hx59, ho⟩
    obtain ⟨x, rfl⟩ := Int.eq_ofNat_of_zero_le hx0
    simp only [Int.toNat_natCast] at ho
    intros
    have lo := OwnB.len ho
    rw [List.length_take, encRow_len] at lo
    obtain ⟨a, q, ln, cn, rfl, hc, hq0, _⟩ := (h.ext (x24.trans hx59)).2 0 (by omega)
    have e1 := hq0.1
    refine ⟨⟨by omega, by omega⟩, _, _, _, hc, condB_of (fun hs2 => ?_) (fun hs2 => ?_)⟩
    · simp only [decide_eq_true_eq] at hs2
      have r := (hq.ext hx59).get
      refine ⟨_, r.cell0 rfl, _, r.cell3 rfl, _, _, _, r.cell3 rfl, (rword_spec (i := i) (x := x) (OwnB.bytes (OwnB.ext hA hx59)) (h.ext (x24.trans hx59)) (by omega) (by omega) (by omega) fun j hj => by have := hal j hj; omega).mono ?_⟩
      rintro e w81 ⟨rfl, x81⟩
      refine ⟨_, rfl, fun k84 w85 h84 => ?_⟩
      obtain ⟨p', c', w86, hr, ho', hu⟩ := OwnB.push (OwnB.ext ho x81) h84 (hx59.trans x81).size (by omega)
      rw [w64 (n := (x : Int) + 1) (by omega)]
      refine ⟨_, _, _, w86, hr, ⟨by omega, by omega, OwnB.new_ext (hx59.trans x81) hu fun y hy => OwnB.blk ho hy, ?_⟩, by show (((L.getD 0 []).length : Int) - ((x : Int) + 1)).toNat < (((L.getD 0 []).length : Int) - x).toNat; omega⟩
      have e2 : (encRow k m L (k + (i : Int).toNat)).take ((x : Int) + 1).toNat = (encRow k m L (k + i)).take x ++ [xs k fun j => gm (parV k i j) (co (L.getD j []) x)] := by
        rw [Int.toNat_natCast, show ((x : Int) + 1).toNat = x + 1 by omega, ← encRow_par (m := m) (by omega) (by omega) (by omega), List.take_add_one, List.getElem?_eq_getElem (by rw [encRow_len]; omega)]
        simp [Gf.co, List.getD_eq_getElem?_getD, List.getElem?_eq_getElem (show x < (encRow k m L (k + i)).length by rw [encRow_len]; omega)]
      rw [e2]; exact ho'
    · simp only [decide_eq_false_iff_not] at hs2
      rw [List.take_of_length_le (by rw [encRow_len]; omega)] at ho
      intro k88 w89 h88
      obtain ⟨p', c', w90, hr, hR', hu⟩ := hR.push hx59 ho h88 x24.size (by omega)
      have hX : Ext w w90 := OwnB.new_ext (x24.trans hx59) hu fun y hy => by
        obtain ⟨P, g1, _⟩ := hR
        exact OwnS.blk g1 hy
      have tyR : ∀ y, p22 = some (at0 y) → ∃ (cs : Array Value) (e' : TypeId) (fz : Nat × Nat), w59.heap[y]? = some (Obj.cells cs e' fz) ∧ e' = 22 := fun y hy => by
        obtain ⟨P, g1, _⟩ := hR
        exact OwnS.typed (OwnS.ext g1 hx59) hy
      rw [w64 (n := (i : Int) + 1) (by omega)]
      refine ⟨_, _, _, w90, hr, ⟨by omega, by omega, by omega, hX, ⟨pA, lA, cA, ?_, ?_⟩, hR'.congr fun t ht => ?_⟩, by show ((m : Int) - ((i : Int) + 1)).toNat < ((m : Int) - i).toNat; omega⟩
      · obtain ⟨kq, e3, r⟩ := hq.ext hx59
        refine ⟨kq, e3, RowK.keep r hu fun y hy => ?_⟩
        obtain ⟨cs, e', fz, h7, h8⟩ := tyR y hy
        exact ⟨cs, e', fz, h7, by rw [h8]; exact ty_mat.2.2.2.2.symm⟩
      · refine OwnB.other (OwnB.ext hA hx59) hu fun y hy => ?_
        obtain ⟨cs, e', fz, h7, h8⟩ := tyR y hy
        exact ⟨cs, e', fz, h7, by rw [h8]; exact ty_out.1.symm⟩
      · by_cases e : t = l22
        · rw [if_pos e]
          rw [show t = k + i by omega]
        · rw [if_neg e]
  · simp only [decide_eq_false_iff_not] at hs
    obtain rfl : i = m := by omega
    obtain rfl : l22 = k + i := by omega
    obtain ⟨g, rfl, _, hRa⟩ := hR.first (by omega)
    exact ⟨_, _, rfl, x24, hRa⟩
end Go.Proofs.Ytpmkjpgoekjcfaa

/- The document's decoder of shards that are missing. -/
namespace Go.Proofs.Ytpmkjpgoekjcfaa
open Go Go.Vc Go.Gf

set_option maxHeartbeats 2000000 in
theorem rthere_spec {p1 p2 : Option Addr} {w : World} {n c1 l2 c2 s : Nat} {hs : List Bool} {L : List (List UInt8)} (h1 : FlagsAt w p1 n hs) (h2 : ListsAt w p2 l2 L) (hn : n ≤ l2) (hl : l2 ≤ 1048576) (hlen : ∀ i, i < n → hs.getD i false = true → (L.getD i []).length = s) :
    Calls Try.prog 83 #[.slice p1 n c1, .slice p2 l2 c2] w fun e w' => ∃ p c, e = .returned (.tuple #[.slice p (mis n hs).length c, .bool true]) ∧ Ext w w' ∧ OwnN w' w.heap.size p (mis n hs).length c (mis n hs) := by
  refine (F83_calls p1 n c1 p2 l2 c2 w (fun v w' => ∃ p c, v = .tuple #[.slice p (mis n hs).length c, .bool true] ∧ Ext w w' ∧ OwnN w' w.heap.size p (mis n hs).length c (mis n hs))
    (fun _ p l c i w1 => 0 ≤ i ∧ i ≤ n ∧ Ext w w1 ∧ OwnN w1 w.heap.size p l c (mis i.toNat hs)) (fun _ _ _ _ i _ => (n - i).toNat) ?_).mono (by rintro e w' ⟨v, rfl, p, c, rfl, h⟩; exact ⟨p, c, rfl, h⟩)
  refine ⟨⟨by omega, by omega, Upd.refl _ _, by rw [show mis (0 : Int).toNat hs = [] from rfl]; exact OwnS.nil _ _ _ _⟩, ?_⟩
  rintro p l c i w1 ⟨hi0, hi1, hx, ho⟩
  obtain ⟨t, rfl⟩ := Int.eq_ofNat_of_zero_le hi0
  simp only [Int.toNat_natCast] at ho
  have lo := OwnN.len ho
  have hle := mis_le t hs
  intros
  refine condB_of (fun ht => ?_) (fun ht => ?_)
  · simp only [decide_eq_true_eq] at ht
    obtain ⟨a, rfl, ha⟩ := (h1.ext hx).get (i := t) (by omega)
    have hnx : ((t : Int) + 1).toNat = t + 1 := by omega
    have hmeas : ((n : Int) - ((t : Int) + 1)).toNat < ((n : Int) - t).toNat := by omega
    rw [w64 (n := (t : Int) + 1) (by omega)]
    refine ⟨⟨hi0, ht⟩, _, by simp only [Int.toNat_natCast, Nat.mul_one]; exact ha, condB_of (fun hyes => ?_) (fun hno => ?_)⟩
    · have hyes' : hs.getD t false = true := hyes
      intro w42 hd
      have x42 := hx.trans hd.ext
      have o42 : OwnN w42 w.heap.size p l c (mis t hs) := OwnS.ext ho hd.ext
      have push : ∀ (k49 : Nat) (w50 : World), NewB w42 k49 (.cells #[.int .i64 (t : Int)] 3) w50 → ∃ (p52 : Option Addr) (l52 c52 : Nat), ∃ w51 : World, Sem.run Try.prog (Builtin.append_ #[28, 28] 28 #[.slice p l c, .slice (some (at0 k49)) 1 1]) w50 = .ok (.slice p52 l52 c52) w51 ∧
          (0 ≤ (t : Int) + 1 ∧ (t : Int) + 1 ≤ n ∧ Ext w w51 ∧ OwnN w51 w.heap.size p52 l52 c52 (mis ((t : Int) + 1).toNat hs)) ∧ ((n : Int) - ((t : Int) + 1)).toNat < ((n : Int) - t).toNat := fun k49 w50 h50 => by
        obtain ⟨p', c', w2, hr, ho', hu⟩ := OwnN.push o42 h50 x42.size (by omega)
        refine ⟨p', _, c', w2, hr, ⟨by omega, by omega, OwnB.new_ext x42 hu fun y hy => OwnS.blk o42 hy, ?_⟩, hmeas⟩
        rw [hnx, mis_succ, hyes', if_pos rfl]; exact ho'
      refine condB_of (fun h0 => ?_) (fun h0 => push)
      simp only [decide_eq_true_eq] at h0
      obtain ⟨b, rfl, hb⟩ := (OwnN.nats o42).get (i := 0) (by omega)
      have hm : (mis t hs).getD 0 0 ∈ mis t hs := by
        rw [List.getD_eq_getElem?_getD, List.getElem?_eq_getElem (by omega)]
        exact List.getElem_mem _
      obtain ⟨m1, m2⟩ := mem_mis.1 hm
      obtain ⟨a2, q, ln, cn, rfl, hc, hq, _⟩ := (h2.ext x42).2 ((mis t hs).getD 0 0) (by omega)
      obtain ⟨a2', q', ln', cn', e, hc', hq', _⟩ := (h2.ext x42).2 t (by omega)
      cases e
      have e1 := hq.1
      have e2 := hq'.1
      have e3 := hlen _ (by omega) m2
      have e4 := hlen t (by omega) hyes'
      refine ⟨⟨by omega, h0⟩, _, hb, ⟨by omega, by omega⟩, _, _, _, by simp only [Int.toNat_natCast, Nat.mul_one]; exact hc, ⟨by omega, by omega⟩, _, _, _, by simp only [Int.toNat_natCast, Nat.mul_one]; exact hc', condB_of (fun h => ?_) fun _ => push⟩
      simp only [Bool.not_eq_true', decide_eq_false_iff_not] at h
      omega
    · have hno' : hs.getD t false = false := hno
      refine ⟨⟨by omega, by omega, hx, ?_⟩, hmeas⟩
      rw [hnx, mis_succ, hno', if_neg (by simp), List.append_nil]; exact ho
  · simp only [decide_eq_false_iff_not] at ht
    obtain rfl : t = n := by omega
    subst lo
    exact ⟨_, _, rfl, hx, ho⟩

/-- a square matrix, behind a pointer -/
def MV (w : World) (q : Option Addr) (k : Nat) (V : Nat → Nat → UInt8) : Prop := ∃ kv cv, RowQ w q 82 (matC k k kv (k * k) cv) ∧ BytesAt w kv (k * k) (genA V k (k * k))
theorem MV.ext {w w' : World} {q : Option Addr} {k : Nat} {V : Nat → Nat → UInt8} (h : MV w q k V) (hx : Ext w w') : MV w' q k V := let ⟨kv, cv, h1, h2⟩ := h; ⟨kv, cv, h1.ext hx, h2.ext hx⟩
theorem MV.same {w : World} {q : Option Addr} {k : Nat} {V V' : Nat → Nat → UInt8} (h : MV w q k V) (h' : MV w q k V') {r c : Nat} (hr : r < k) (hc : c < k) : V' r c = V r c := by
  obtain ⟨kv, cv, ⟨kq, rfl, g1⟩, g2⟩ := h
  obtain ⟨kv', cv', h1, h2⟩ := h'
  have e := h1.get.cell3 (i := 2) rfl
  have e' := RowK.cell3 (i := 2) g1 rfl
  rw [e] at e'
  simp only [Option.some.injEq, Value.slice.injEq] at e'
  obtain ⟨rfl, _⟩ := e'
  have hix := ix_lt hr hc
  obtain ⟨a, ha, c1⟩ := BytesAt.co g2 hix
  obtain ⟨a', ha', c2⟩ := BytesAt.co h2 hix
  rw [ha] at ha'
  cases ha'
  rw [genA_co _ hix, ix_div hc, ix_mod hc] at c1 c2
  rw [c1] at c2
  simp only [Option.some.injEq, Value.int.injEq, true_and] at c2
  exact (vb_inj.1 c2).symm
theorem dcol_congr {V V' : Nat → Nat → UInt8} {l : List Nat} {L : List (List UInt8)} {j s k : Nat} (hj : j < k) (h : ∀ r c, r < k → c < k → V' r c = V r c) : dcol V' l L j s k = dcol V l L j s k := by
  unfold dcol
  refine List.map_congr_left fun x _ => xs_congr fun t ht => ?_
  rw [h j t hj ht]

def rdecP (w : World) (k m s : Nat) (hs : List Bool) (L : List (List UInt8)) (v : Value) (w' : World) : Prop := Ext w w' ∧ ∃ a c D, v = .tuple #[.slice (some a) (k + m) c, .int .i64 0] ∧ RowsAt w' w.heap.size a (k + m) (encRow k m D) ∧ D.length = k ∧ (∀ i, i < k → (D.getD i []).length = s) ∧
  ∀ D0 : List (List UInt8), D0.length = k → (∀ i, i < k → (D0.getD i []).length = s) → (∀ i, i < k + m → hs.getD i false = true → L.getD i [] = encRow k m D0 i) → D = D0

set_option maxRecDepth 20000 in
set_option maxHeartbeats 4000000 in
theorem rdecode_spec {p3 p4 : Option Addr} {w : World} {k m n c3 c4 s : Nat} {hs : List Bool} {L : List (List UInt8)} (hn : n = k + m) (h3 : FlagsAt w p3 n hs) (h4 : ListsAt w p4 n L) (hk1 : 1 ≤ k) (hkm : k + m ≤ 256)
    (hok : k ≤ (mis n hs).length) (hlen : ∀ i, i < n → hs.getD i false = true → (L.getD i []).length = s) (hs0 : s ≤ 1048576) :
    Calls Try.prog 66 #[.int .i64 (k : Int), .int .i64 (m : Int), .slice p3 n c3, .slice p4 n c4] w fun e w' => ∃ v, e = .returned v ∧ rdecP w k m s hs L v w' := by
  obtain ⟨l, hldef⟩ : ∃ l, l = (mis n hs).take k := ⟨_, rfl⟩
  have hlk : l.length = k := by rw [hldef, List.length_take]; omega
  have hmem : ∀ t ∈ l, t < n ∧ hs.getD t false = true := fun t ht => mem_mis.1 (List.mem_of_mem_take (hldef ▸ ht))
  have hin : ∀ t, t < k → l.getD t 0 < n ∧ (L.getD (l.getD t 0) []).length = s := fun t ht => by
    have h5 : l.getD t 0 ∈ l := by
      rw [List.getD_eq_getElem?_getD, List.getElem?_eq_getElem (by omega)]
      exact List.getElem_mem _
    have := hmem _ h5
    exact ⟨this.1, hlen _ this.1 this.2⟩
  have hdl : ∀ V j, (dcol V l L j s k).length = s := fun V j => by simp [dcol]
  have hkk : k * k ≤ 256 * 256 := Nat.mul_le_mul (by omega) (by omega)
  have hnk : n * k ≤ 256 * 256 := Nat.mul_le_mul (by omega) (by omega)
  refine F66_calls k m p3 n c3 p4 n c4 w (rdecP w k m s hs L)
    (fun _ _ _ q w47 p52 l52 c52 j w54 => 0 ≤ j ∧ j ≤ k ∧ (l52 : Int) = j ∧ Ext w47 w54 ∧ ∃ V, MV w47 q k V ∧ RowsS w54 w47.heap.size p52 l52 c52 (fun t => dcol V l L t s k)) (fun _ _ _ _ _ _ _ _ j _ => (k - j).toNat)
    (fun _ _ _ q _ _ _ j w54 p118 l118 c118 x w120 => 0 ≤ x ∧ x ≤ s ∧ Ext w54 w120 ∧ ∃ V, MV w54 q k V ∧ OwnB w120 w54.heap.size p118 l118 c118 ((dcol V l L j.toNat s k).take x.toNat)) (fun _ _ _ _ _ _ _ _ _ _ _ _ x _ => (s - x).toNat)
    (fun _ _ _ q _ _ _ j _ _ _ x w120 o i w183 => 0 ≤ i ∧ i ≤ k ∧ Ext w120 w183 ∧ ∃ V, MV w120 q k V ∧ o = ((xs i.toNat fun t => gm (V j.toNat t) (co (L.getD (l.getD t 0) []) x.toNat)).toNat : Int)) (fun _ _ _ _ _ _ _ _ _ _ _ _ _ _ i _ => (k - i).toNat) ?_
  have hg := rgen_spec (w := w) hk1 hkm
  rw [← hn] at hg
  refine hg.mono ?_
  rintro e w5 ⟨_, rfl, pg, lg, cg, rfl, x5, og⟩
  obtain ⟨ag, rfl, hcg, rfl, hGr⟩ := gen_read og (by omega) (by omega)
  refine ⟨_, _, _, _, _, _, rfl, new_mat fun k11 w15 r11 _ x15 => condB_of (fun h => by simp at h) fun _ => ?_⟩
  have xw15 := x5.trans x15
  rw [show (k : Int) + (m : Int) = (n : Int) by omega, w64 (n := (n : Int)) (by omega)]
  refine condB_of (fun h => by simp at h) fun _ => condB_of (fun h => by simp at h) fun _ => (rthere_spec (c1 := c3) (c2 := c4) (h3.ext xw15) (h4.ext xw15) (Nat.le_refl _) (by omega) hlen).mono ?_
  rintro e w16 ⟨pl, cl, rfl, x16, ol⟩
  have lcl : (mis n hs).length ≤ cl := by
    rcases ol.where_ with ⟨_, h0, _⟩ | ⟨g, _, _, _, h0, _⟩
    · omega
    · exact h0
  refine ⟨_, _, _, _, rfl, condB_of (fun h => by simp at h) fun _ => condB_of (fun h => ?_) fun _ => ⟨⟨by omega, by omega⟩, ?_⟩⟩
  · simp only [decide_eq_true_eq] at h; omega
  have xw16 := xw15.trans x16
  have r11' : RowK w16 k11 82 (matC n k (some ag) (n * k) cg) := x16.keep r11
  have hl16 : NatsAt w16 pl k l := by
    obtain ⟨n1, n2⟩ := OwnN.nats ol
    refine ⟨hlk.symm, fun j u hj => n2 j u ?_⟩
    rw [hldef] at hj
    unfold encN at hj ⊢
    rw [List.map_take] at hj
    rw [List.getElem?_take] at hj
    split at hj
    · exact hj
    · cases hj
  rw [cutP0, Nat.sub_zero, Nat.sub_zero, Int.toNat_natCast]
  refine ⟨_, r11'.cell0 rfl, _, r11'.cell3 rfl, _, _, _, r11'.cell3 rfl, (rpick_spec (c4 := cl) (hGr.ext (x15.trans x16)) hl16 (fun t ht => (hmem t ht).1) (by omega) (by omega) (by omega) (by omega) hcg).mono ?_⟩
  rintro e w23 ⟨_, rfl, pp, lp, cp, rfl, x23, op⟩
  obtain ⟨ap, rfl, hcp, rfl, hPr⟩ := gen_read op (by omega) (by omega)
  refine ⟨_, _, _, _, _, _, rfl, new_mat fun k29 w33 r29 _ x33 => ?_⟩
  have xw33 := xw16.trans (x23.trans x33)
  refine ⟨_, r29.cell0 rfl, _, r29.cell3 rfl, _, _, _, r29.cell3 rfl, (rinvert_spec (by omega) (by omega) (hPr.ext x33) hcp ?_).mono ?_⟩
  · have := gen_inj (k := k) (m := m) (l := l) (by omega) hlk (by rw [← hn, hldef]; exact pick_count hok) (fun t ht => by have := (hmem t ht).1; omega)
    exact this
  rintro e w37 ⟨_, rfl, pv, lv, cv, V0, rfl, x37, ov, hinv⟩
  have lve := OwnB.len ov
  rw [genA_len] at lve
  subst lve
  refine ⟨_, _, _, _, _, _, rfl, new_mat fun k43 w47 r43 _ x47 => condB_of (fun h => by simp at h) fun _ => ?_⟩
  have xw37 := xw33.trans x37
  have xw47 := xw37.trans x47
  have hl47 : NatsAt w47 pl k l := hl16.ext (x23.trans (x33.trans (x37.trans x47)))
  have hV47 : MV w47 (some (at0 k43)) k V0 := ⟨pv, cv, RowQ.of r43, (OwnB.bytes ov).ext x47⟩
  refine ⟨⟨by omega, by omega, by omega, Upd.refl _ _, V0, hV47, RowsS.nil _ _ _⟩, ?_⟩
  rintro p52 l52 c52 jI w54 ⟨hj0, hj1, hl52, x54, V, hV, hR⟩
  obtain ⟨j, rfl⟩ := Int.eq_ofNat_of_zero_le hj0
  intros
  have xw54 := xw47.trans x54
  replace hR : RowsS w54 w47.heap.size p52 l52 c52 (fun t => dcol V0 l L t s k) := hR.congr fun t ht => (dcol_congr (by omega) fun r c hr hc => hV47.same hV hr hc).symm
  clear hV V
  refine condB_of (fun hs1 => ?_) (fun hs1 => ?_)
  · simp only [decide_eq_true_eq] at hs1
    have hV54 := hV47.ext x54
    refine ⟨⟨by omega, by omega, Upd.refl _ _, V0, hV54, by rw [show (dcol V0 l L (j : Int).toNat s k).take (0 : Int).toNat = [] from rfl]; exact OwnS.nil _ _ _ _⟩, ?_⟩
    rintro p118 l118 c118 xI w120 ⟨hx0, hx1, x120, V, hV, ho⟩
    obtain ⟨x, rfl⟩ := Int.eq_ofNat_of_zero_le hx0
    simp only [Int.toNat_natCast] at ho
    rw [dcol_congr (V := V0) (by omega) fun r c hr hc => hV54.same hV hr hc] at ho
    clear hV V
    intros
    have lo := OwnB.len ho
    rw [List.length_take, hdl] at lo
    have xw120 := xw54.trans x120
    obtain ⟨al, rfl, hc0⟩ := (hl47.ext (x54.trans x120)).get (i := 0) (by omega)
    obtain ⟨i0a, i0b⟩ := hin 0 (by omega)
    obtain ⟨a, q, ln, cn, rfl, hc, hq, _⟩ := (h4.ext xw120).2 _ i0a
    have e1 := hq.1
    refine ⟨⟨by omega, by omega⟩, _, hc0, ⟨by omega, by omega⟩, _, _, _, by simp only [Int.toNat_natCast, Nat.mul_one]; exact hc, condB_of (fun hs2 => ?_) (fun hs2 => ?_)⟩
    · simp only [decide_eq_true_eq] at hs2
      have hV120 := hV54.ext x120
      refine ⟨⟨by omega, by omega, Upd.refl _ _, V0, hV120, rfl⟩, ?_⟩
      rintro o iI w183 ⟨hi0, hi1, x183, V, hV, rfl⟩
      obtain ⟨i, rfl⟩ := Int.eq_ofNat_of_zero_le hi0
      simp only [Int.toNat_natCast]
      have eo : (xs i fun t => gm (V j t) (co (L.getD (l.getD t 0) []) x)) = xs i fun t => gm (V0 j t) (co (L.getD (l.getD t 0) []) x) := xs_congr fun t ht => by rw [hV120.same hV (by omega) (by omega)]
      rw [eo]
      clear hV eo V
      intros
      refine condB_of (fun hs3 => ?_) (fun hs3 => ?_)
      · simp only [decide_eq_true_eq] at hs3
        intro w211 hd
        have x211 := x183.trans hd.ext
        obtain ⟨kv, cv', ⟨kq, hkq, rq⟩, hb⟩ := hV120.ext x211
        simp only [Option.some.injEq, at0, Addr.mk.injEq, and_true] at hkq
        subst hkq
        have hix := ix_lt (show j < k by omega) (show i < k by omega)
        have ew : IntKind.i64.wrap (IntKind.i64.wrap ((j : Int) * (k : Int)) + (i : Int)) = ((j * k + i : Nat) : Int) := by
          rw [wmul (by omega)]
          exact w64 (by omega)
        obtain ⟨av, rfl, hcv⟩ := BytesAt.co hb hix
        rw [genA_co _ hix, ix_div (by omega), ix_mod (by omega)] at hcv
        obtain ⟨al', e, hci⟩ := (hl47.ext ((x54.trans x120).trans x211)).get (i := i) (by omega)
        cases e
        obtain ⟨ia, ib⟩ := hin i (by omega)
        obtain ⟨a', q', ln', cn', e, hc', hq', _⟩ := (h4.ext (xw120.trans x211)).2 _ ia
        cases e
        have e2 := hq'.1
        obtain ⟨aq, rfl, hcq⟩ := BytesAt.co hq' (i := x) (by omega)
        refine ⟨_, _, _, rq.cell3 rfl, ?_⟩
        rw [ew]
        refine ⟨⟨by omega, by omega⟩, _, by simp only [Int.toNat_natCast, Nat.mul_one]; exact hcv, ⟨hi0, hs3⟩, _, by simp only [Int.toNat_natCast, Nat.mul_one]; exact hci, ⟨by omega, by omega⟩, some aq, ln', cn', by simp only [Int.toNat_natCast, Nat.mul_one]; exact hc', ⟨by omega, by omega⟩, _, by simp only [Int.toNat_natCast, Nat.mul_one]; exact hcq, (rmul_spec (w := w211) (V0 j i) (co (L.getD (l.getD i 0) []) x)).mono ?_⟩
        rintro e w221 ⟨rfl, rfl⟩
        rw [w64 (n := (i : Int) + 1) (by omega)]
        refine ⟨_, rfl, ⟨by omega, by omega, x211, V0, hV120, ?_⟩, by show ((k : Int) - ((i : Int) + 1)).toNat < ((k : Int) - i).toNat; omega⟩
        rw [bx8, show ((i : Int) + 1).toNat = i + 1 by omega]
        rfl
      · simp only [decide_eq_false_iff_not] at hs3
        obtain rfl : i = k := by omega
        intro k224 w225 h224
        obtain ⟨p', c', w226, hr, ho', hu⟩ := OwnB.push (OwnB.ext ho x183) h224 (x120.trans x183).size (by omega)
        rw [w64 (n := (x : Int) + 1) (by omega)]
        refine ⟨_, _, _, w226, hr, ⟨by omega, by omega, OwnB.new_ext (x120.trans x183) hu fun y hy => OwnB.blk ho hy, V0, hV54, ?_⟩, by show ((s : Int) - ((x : Int) + 1)).toNat < ((s : Int) - x).toNat; omega⟩
        have e2 : (dcol V0 l L j s i).take ((x : Int) + 1).toNat = (dcol V0 l L j s i).take x ++ [xs i fun t => gm (V0 j t) (co (L.getD (l.getD t 0) []) x)] := by
          rw [show ((x : Int) + 1).toNat = x + 1 by omega, List.take_add_one, List.getElem?_eq_getElem (by rw [hdl]; omega)]
          simp [dcol]
        rw [e2]; exact ho'
    · simp only [decide_eq_false_iff_not] at hs2
      rw [List.take_of_length_le (by rw [hdl]; omega)] at ho
      intro k228 w229 h228
      obtain ⟨p', c', w230, hr, hR', hu⟩ := hR.push x120 ho h228 x54.size (by omega)
      rw [w64 (n := (j : Int) + 1) (by omega)]
      refine ⟨_, _, _, w230, hr, ⟨by omega, by omega, by omega, OwnB.new_ext (x54.trans x120) hu fun y hy => ?_, V0, hV47, hR'.congr fun t ht => ?_⟩, by show ((k : Int) - ((j : Int) + 1)).toNat < ((k : Int) - j).toNat; omega⟩
      · obtain ⟨P, g1, _⟩ := hR
        exact OwnS.blk g1 hy
      · by_cases e : t = l52
        · rw [if_pos e, show t = j by omega]
        · rw [if_neg e]
  · simp only [decide_eq_false_iff_not] at hs1
    obtain rfl : j = k := by omega
    obtain rfl : l52 = j := by omega
    obtain ⟨g, rfl, _, hRa⟩ := hR.first (by omega)
    have hD : ∀ i, i < l52 → ((List.range l52).map fun t => dcol V0 l L t s l52).getD i [] = dcol V0 l L i s l52 := fun i hi => by simp [List.getD_eq_getElem?_getD, hi]
    refine (rencode_spec (c := c52) (m := m) hRa.lists (fun i hi => by rw [hD i hi, hD 0 (by omega), hdl, hdl]) (by rw [hD 0 (by omega), hdl]; exact hs0) hk1 hkm).mono ?_
    rintro e w232 ⟨a, c', rfl, x232, hrows⟩
    refine ⟨_, _, _, _, rfl, xw54.trans x232, a, c', _, rfl, hrows.base_le xw54.size, by simp, fun i hi => by rw [hD i hi, hdl], fun D0 hD0 hall hfit => ?_⟩
    refine List.ext_getElem (by simp [hD0]) fun j h1 h2 => ?_
    have hj : j < l52 := by simpa using h1
    have hb := dcol_back (k := l52) (m := m) (n := n) (s := s) (hs := hs) (L := L) (D0 := D0) (V := V0) hn hok hD0 hall (hall 0 (by omega)) (fun i hi hb => hfit i (by omega) hb) (by rw [← hldef]; exact hinv) hj
    rw [List.getElem_map, List.getElem_range, hldef, hb, List.getD_eq_getElem?_getD, List.getElem?_eq_getElem h2, Option.getD_some]
end Go.Proofs.Ytpmkjpgoekjcfaa

/- The document's tries of a word: without some places. -/
namespace Go.Proofs.Ytpmkjpgoekjcfaa
open Go Go.Vc Go.Gf

def encF (l : List Bool) : List Value := l.map Value.bool
theorem elemF : ElemOf Try.prog 23 4 1 1 := ⟨by kernel_rfl, ⟨Try.t4, .bool false, by kernel_rfl, by kernel_rfl, by kernel_rfl, by kernel_rfl, by kernel_rfl⟩, by omega⟩
abbrev OwnF (w : World) (base : Nat) (p : Option Addr) (n c : Nat) (l : List Bool) : Prop := OwnS w base 4 1 p n c (encF l)
theorem OwnF.len {w : World} {base : Nat} {p : Option Addr} {n c : Nat} {l : List Bool} (h : OwnF w base p n c l) : n = l.length := by have := OwnS.length h; simp [encF] at this; omega
theorem OwnF.push {w w1 : World} {base : Nat} {p : Option Addr} {n c k : Nat} {l : List Bool} {b : Bool} (h : OwnF w base p n c l) (hk : NewB w k (.cells #[.bool b] 4) w1) (hbase : base ≤ w.heap.size) (hn : n ≤ 1073741824) :
    ∃ p' c' w2, Sem.run Try.prog (Builtin.append_ #[23, 23] 23 #[.slice p n c, .slice (some (at0 k)) 1 1]) w1 = .ok (.slice p' (n + 1) c') w2 ∧ OwnF w2 base p' (n + 1) c' (l ++ [b]) ∧
      Upd (fun x => p = some (at0 x)) w w2 := by
  have h1 : OwnS w1 base 4 1 p n c (encF l) := OwnS.ext h hk.ext
  have hq : CellsAt w1 (some (at0 k)) (encF [b]) := by
    intro j u hj
    refine ⟨_, rfl, hk.row.row.cell ?_⟩
    simpa [encF] using hj
  obtain ⟨p', c', w2, hr, ho, hu, _⟩ := h1.append elemF 23 (q := some (at0 k)) (m := 1) (d := 1) (news := encF [b]) rfl hq (fun h => by cases h) (fun u hu => by
    obtain ⟨_, _, rfl⟩ := List.mem_map.1 hu; rfl) (by unfold maxLen; omega) (by omega) (by rw [hk.size.2]; omega)
  refine ⟨p', c', w2, hr, ?_, Upd.trans hk.ext.upd hu fun x _ hx => hx⟩
  have : encF l ++ encF [b] = encF (l ++ [b]) := by simp [encF]
  rw [this] at ho
  exact ho
theorem OwnF.flags {w : World} {base : Nat} {p : Option Addr} {n c : Nat} {l : List Bool} (h : OwnF w base p n c l) : FlagsAt w p n l := ⟨OwnF.len h, OwnS.cells h⟩
theorem col_row {k m : Nat} {d : List UInt8} (hk : 0 < k) (hd : d.length = k) (t : Nat) : encRow k m (d.map fun b => [b]) t = [co (enc k m d) t] := by
  have h0 : ((d.map fun b => [b]).getD 0 []).length = 1 := by
    match d, hd with
    | [], hd => simp at hd; omega
    | b :: d, _ => rfl
  have h1 : (d.map fun b => [b]).map (fun x => co x 0) = d := by
    rw [List.map_map]
    exact (List.map_congr_left fun _ _ => rfl).trans (List.map_id d)
  unfold encRow
  rw [h0]
  show [co (enc k m ((d.map fun b => [b]).map fun x => co x 0)) t] = _
  rw [h1]

theorem OwnF.set {w w' : World} {base : Nat} {a : Addr} {n c : Nat} {l : List Bool} (h : OwnF w base (some a) n c l) {i : Nat} {b : Bool} (hs : SetC w (a.add i) (.bool b) w') : OwnF w' base (some a) n c (l.set i b) ∧ Upd (fun x => x = a.block) w w' := by
  obtain ⟨h1, h2⟩ := OwnS.set h hs
  refine ⟨?_, h2⟩
  have e : (encF l).set i (.bool b) = encF (l.set i b) := by unfold encF; rw [List.map_set]
  rw [e] at h1
  exact h1

/-- the places that are there, without some -/
def thr (ms : List Bool) (W : List Nat) : List Bool := (List.range ms.length).map fun i => !ms.getD i false && decide (i ∉ W)
theorem thr_len (ms : List Bool) (W : List Nat) : (thr ms W).length = ms.length := by simp [thr]
theorem thr_get {ms : List Bool} {W : List Nat} {i : Nat} (hi : i < ms.length) : (thr ms W).getD i false = (!ms.getD i false && decide (i ∉ W)) := by
  simp [thr, List.getD_eq_getElem?_getD, hi]
theorem flags_ext {a b : List Bool} (hl : a.length = b.length) (h : ∀ i, i < a.length → a.getD i false = b.getD i false) : a = b := by
  refine List.ext_getElem hl fun i h1 h2 => ?_
  have := h i h1
  simpa [List.getD_eq_getElem?_getD, h1, h2] using this
theorem thr_nil (ms : List Bool) : thr ms [] = nots ms := by
  refine flags_ext (by simp [thr, nots]) fun i hi => ?_
  rw [thr_len] at hi
  rw [thr_get hi, nots_get hi]
  simp
theorem thr_snoc {ms : List Bool} {W : List Nat} {x : Nat} (hx : x < ms.length) : (thr ms W).set x false = thr ms (W ++ [x]) := by
  refine flags_ext (by simp [thr]) fun i hi => ?_
  rw [List.length_set, thr_len] at hi
  rw [thr_get hi]
  simp only [List.getD_eq_getElem?_getD, List.getElem?_set]
  by_cases e : x = i
  · subst e
    rw [if_pos rfl, if_pos (by rw [thr_len]; exact hx)]
    simp
  · rw [if_neg e]
    have := thr_get (W := W) hi
    rw [List.getD_eq_getElem?_getD] at this
    rw [this]
    simp [List.getD_eq_getElem?_getD, show ¬ i = x from fun h => e h.symm]
theorem filt_but (p : Nat → Bool) (x : Nat) : ∀ n, ((List.range n).filter p).length ≤ ((List.range n).filter fun i => p i && decide (i ≠ x)).length + (if x < n then 1 else 0)
  | 0 => by simp
  | n + 1 => by
    have ih := filt_but p x n
    rw [range_filter_succ, range_filter_succ, List.length_append, List.length_append]
    by_cases e : n = x
    · subst e
      rw [if_neg (Nat.lt_irrefl _)] at ih
      rw [if_pos (Nat.lt_succ_self _)]
      have : (if p n = true then [n] else []).length ≤ 1 := by split <;> simp
      omega
    · have e1 : (p n && decide (n ≠ x)) = p n := by rw [decide_eq_true e, Bool.and_true]
      rw [e1]
      have : (if x < n then 1 else 0) ≤ (if x < n + 1 then 1 else 0) := by split <;> split <;> omega
      omega
theorem filt_out (p : Nat → Bool) (n : Nat) : ∀ W : List Nat, ((List.range n).filter p).length ≤ ((List.range n).filter fun i => p i && decide (i ∉ W)).length + W.length
  | [] => by
    have : (fun i => p i && decide (i ∉ ([] : List Nat))) = p := by funext i; simp
    rw [this]; simp
  | x :: W => by
    have ih := filt_out p n W
    have h1 := filt_but (fun i => p i && decide (i ∉ W)) x n
    have e : (fun i => (p i && decide (i ∉ W)) && decide (i ≠ x)) = fun i => p i && decide (i ∉ x :: W) := by
      funext i
      by_cases h1 : i = x <;> by_cases h2 : i ∈ W <;> simp [h1, h2]
    rw [e] at h1
    have : (if x < n then 1 else 0) ≤ 1 := by split <;> omega
    rw [List.length_cons]
    omega
theorem filt_not (p : Nat → Bool) : ∀ n, ((List.range n).filter p).length + ((List.range n).filter fun i => !p i).length = n
  | 0 => by simp
  | n + 1 => by
    have ih := filt_not p n
    rw [range_filter_succ, range_filter_succ, List.length_append, List.length_append]
    cases h : p n <;> simp <;> omega
/-- as many are there -/
theorem thr_many {n : Nat} {ms : List Bool} (hn : ms.length = n) (W : List Nat) : n ≤ (mis n (thr ms W)).length + (mis n ms).length + W.length := by
  have h1 := filt_not (fun i => ms.getD i false) n
  have h2 := filt_out (fun i => !ms.getD i false) n W
  have h3 : mis n (thr ms W) = (List.range n).filter fun i => !ms.getD i false && decide (i ∉ W) := List.filter_congr fun i hi => by
    rw [List.mem_range] at hi
    exact thr_get (by omega)
  rw [h3]
  unfold mis
  omega

set_option maxHeartbeats 2000000 in
theorem rwithout_spec {p1 p2 : Option Addr} {w : World} {n c1 t c2 : Nat} {ms : List Bool} {W : List Nat} (h1 : FlagsAt w p1 n ms) (h2 : NatsAt w p2 t W) (hW : ∀ x ∈ W, x < n) (hn : n ≤ 1048576) (ht : t ≤ 1048576) :
    Calls Try.prog 67 #[.slice p1 n c1, .slice p2 t c2] w fun e w' => ∃ p c, e = .returned (.slice p n c) ∧ Ext w w' ∧ OwnF w' w.heap.size p n c (thr ms W) := by
  have hml := h1.1
  have hWl := h2.1
  refine (F67_calls p1 n c1 p2 t c2 w (fun v w' => ∃ p c, v = .slice p n c ∧ Ext w w' ∧ OwnF w' w.heap.size p n c (thr ms W))
    (fun _ p l c i w1 => 0 ≤ i ∧ i ≤ n ∧ Ext w w1 ∧ OwnF w1 w.heap.size p l c ((nots ms).take i.toNat)) (fun _ _ _ _ i _ => (n - i).toNat)
    (fun p l c _ i w1 => 0 ≤ i ∧ i ≤ t ∧ Ext w w1 ∧ OwnF w1 w.heap.size p l c (thr ms (W.take i.toNat))) (fun _ _ _ _ i _ => (t - i).toNat) ?_).mono (by rintro e w' ⟨v, rfl, p, c, rfl, h⟩; exact ⟨p, c, rfl, h⟩)
  refine ⟨⟨by omega, by omega, Upd.refl _ _, by rw [show (nots ms).take (0 : Int).toNat = [] from rfl]; exact OwnS.nil _ _ _ _⟩, ?_⟩
  rintro p l c iI w5 ⟨hi0, hi1, hx, ho⟩
  obtain ⟨i, rfl⟩ := Int.eq_ofNat_of_zero_le hi0
  simp only [Int.toNat_natCast] at ho
  have lo := OwnF.len ho
  rw [List.length_take, show (nots ms).length = n by simp [nots]; omega] at lo
  intros
  refine condB_of (fun hs => ?_) (fun hs => ?_)
  · simp only [decide_eq_true_eq] at hs
    obtain ⟨a, rfl, ha⟩ := (h1.ext hx).get (i := i) (by omega)
    refine ⟨⟨hi0, hs⟩, _, by rw [Int.toNat_natCast, Nat.mul_one]; exact ha, fun k22 w23 h23 => ?_⟩
    obtain ⟨p', c', w24, hr, ho', hu⟩ := OwnF.push ho h23 hx.size (by omega)
    rw [w64 (n := (i : Int) + 1) (by omega)]
    refine ⟨_, _, _, w24, hr, ⟨by omega, by omega, OwnB.new_ext hx hu fun y hy => OwnS.blk ho hy, ?_⟩, by show ((n : Int) - ((i : Int) + 1)).toNat < ((n : Int) - i).toNat; omega⟩
    have e : (nots ms).take ((i : Int) + 1).toNat = (nots ms).take i ++ [!ms.getD i false] := by
      rw [show ((i : Int) + 1).toNat = i + 1 by omega, List.take_add_one, List.getElem?_eq_getElem (by simp [nots]; omega)]
      simp [nots, List.getD_eq_getElem?_getD, List.getElem?_eq_getElem (show i < ms.length by omega)]
    rw [e]; exact ho'
  · simp only [decide_eq_false_iff_not] at hs
    obtain rfl : i = n := by omega
    obtain rfl : l = i := by omega
    rw [List.take_of_length_le (by simp [nots]; omega), ← thr_nil] at ho
    refine ⟨⟨by omega, by omega, hx, by rw [show W.take (0 : Int).toNat = [] from rfl]; exact ho⟩, ?_⟩
    rintro jI w30 ⟨hj0, hj1, hx30, ho30⟩
    obtain ⟨j, rfl⟩ := Int.eq_ofNat_of_zero_le hj0
    simp only [Int.toNat_natCast] at ho30
    intros
    refine condB_of (fun hs2 => ?_) (fun hs2 => ?_)
    · simp only [decide_eq_true_eq] at hs2
      obtain ⟨a2, rfl, hc2⟩ := (h2.ext hx30).get (i := j) (by omega)
      have hlt : W.getD j 0 < l := by
        rw [List.getD_eq_getElem?_getD, List.getElem?_eq_getElem (by omega)]
        exact hW _ (List.getElem_mem _)
      obtain ⟨a3, ha3, hc3⟩ := (OwnF.flags ho30).get (i := W.getD j 0) hlt
      rcases ho30.where_ with ⟨h0, _⟩ | ⟨g, hg, hb, _⟩
      · rw [h0] at ha3; cases ha3
      subst hg
      cases ha3
      refine ⟨⟨hj0, hs2⟩, _, by rw [Int.toNat_natCast, Nat.mul_one]; exact hc2, ⟨by omega, by omega⟩, by rw [Int.toNat_natCast, Nat.mul_one]; exact OwnS.live ho30 (by rw [show (encF (thr ms (W.take j))).length = ms.length by simp [encF, thr_len]]; omega), fun w46 s46 => ?_⟩
      rw [Int.toNat_natCast, Nat.mul_one] at s46
      obtain ⟨ho46, u46⟩ := OwnF.set ho30 s46
      rw [thr_snoc (by omega)] at ho46
      rw [w64 (n := (j : Int) + 1) (by omega)]
      refine ⟨⟨by omega, by omega, OwnB.new_ext hx30 u46 fun y hy => by rw [show y = g from hy]; exact hb, ?_⟩, by show ((t : Int) - ((j : Int) + 1)).toNat < ((t : Int) - j).toNat; omega⟩
      have e : W.take ((j : Int) + 1).toNat = W.take j ++ [W.getD j 0] := by
        rw [show ((j : Int) + 1).toNat = j + 1 by omega, List.take_add_one, List.getElem?_eq_getElem (by omega)]
        simp [List.getD_eq_getElem?_getD, List.getElem?_eq_getElem (show j < W.length by omega)]
      rw [e]; exact ho46
    · simp only [decide_eq_false_iff_not] at hs2
      rw [List.take_of_length_le (by omega)] at ho30
      exact ⟨_, _, rfl, hx30, ho30⟩

set_option maxHeartbeats 2000000 in
theorem rdiffers_spec {p1 p2 p3 : Option Addr} {w : World} {n c1 l2 c2 l3 c3 : Nat} {us bs : List UInt8} {ms : List Bool} (h1 : BytesAt w p1 n us) (h2 : BytesAt w p2 l2 bs) (h3 : FlagsAt w p3 l3 ms) (hn2 : n ≤ l2) (hn3 : n ≤ l3) (hn : n ≤ 1048576) :
    Calls Try.prog 68 #[.slice p1 n c1, .slice p2 l2 c2, .slice p3 l3 c3] w fun e w' => ∃ p c, e = .returned (.slice p (dif n ms us bs).length c) ∧ Ext w w' ∧ OwnN w' w.heap.size p (dif n ms us bs).length c (dif n ms us bs) := by
  refine (F68_calls p1 n c1 p2 l2 c2 p3 l3 c3 w (fun v w' => ∃ p c, v = .slice p (dif n ms us bs).length c ∧ Ext w w' ∧ OwnN w' w.heap.size p (dif n ms us bs).length c (dif n ms us bs))
    (fun _ p l c i w1 => 0 ≤ i ∧ i ≤ n ∧ Ext w w1 ∧ OwnN w1 w.heap.size p l c (dif i.toNat ms us bs)) (fun _ _ _ _ i _ => (n - i).toNat) ?_).mono (by rintro e w' ⟨v, rfl, p, c, rfl, h⟩; exact ⟨p, c, rfl, h⟩)
  refine ⟨⟨by omega, by omega, Upd.refl _ _, by rw [show dif (0 : Int).toNat ms us bs = [] from rfl]; exact OwnS.nil _ _ _ _⟩, ?_⟩
  rintro p l c iI w6 ⟨hi0, hi1, hx, ho⟩
  obtain ⟨i, rfl⟩ := Int.eq_ofNat_of_zero_le hi0
  simp only [Int.toNat_natCast] at ho
  have lo := OwnN.len ho
  have hle := dif_len_le (n := i) (ms := ms) (a := us) (b := bs)
  intros
  refine condB_of (fun hs => ?_) (fun hs => ?_)
  · simp only [decide_eq_true_eq] at hs
    intro w33 hd
    have x33 := hx.trans hd.ext
    have o33 : OwnN w33 w.heap.size p l c (dif i ms us bs) := OwnS.ext ho hd.ext
    obtain ⟨a3, rfl, hc3⟩ := (h3.ext x33).get (i := i) (by omega)
    obtain ⟨a1, rfl, hc1⟩ := BytesAt.co (h1.ext x33) (i := i) (by omega)
    obtain ⟨a2, rfl, hc2⟩ := BytesAt.co (h2.ext x33) (i := i) (by omega)
    rw [w64 (n := (i : Int) + 1) (by omega)]
    have hnx : ((i : Int) + 1).toNat = i + 1 := by omega
    have hmeas : ((n : Int) - ((i : Int) + 1)).toNat < ((n : Int) - i).toNat := by omega
    have same : (!ms.getD i false && decide (co us i ≠ co bs i)) = false → (0 ≤ (i : Int) + 1 ∧ (i : Int) + 1 ≤ n ∧ Ext w w33 ∧ OwnN w33 w.heap.size p l c (dif ((i : Int) + 1).toNat ms us bs)) ∧ ((n : Int) - ((i : Int) + 1)).toNat < ((n : Int) - i).toNat := fun h => by
      refine ⟨⟨by omega, by omega, x33, ?_⟩, hmeas⟩
      rw [hnx, dif_succ, h, if_neg (by simp), List.append_nil]; exact o33
    refine ⟨⟨hi0, by omega⟩, _, by rw [Int.toNat_natCast, Nat.mul_one]; exact hc3, condB_of (fun hb => ?_) (fun hb => ?_)⟩
    · refine ⟨⟨hi0, hs⟩, _, by rw [Int.toNat_natCast, Nat.mul_one]; exact hc1, ⟨hi0, by omega⟩, _, by rw [Int.toNat_natCast, Nat.mul_one]; exact hc2, condB_of (fun hne => ?_) (fun he => ?_)⟩
      · simp only [Bool.not_eq_true', decide_eq_false_iff_not, vb_inj] at hne
        intro k40 w41 h41
        obtain ⟨p', c', w42, hr, ho', hu⟩ := OwnN.push o33 h41 x33.size (by omega)
        refine ⟨_, _, _, w42, hr, ⟨by omega, by omega, OwnB.new_ext x33 hu fun y hy => OwnS.blk o33 hy, ?_⟩, hmeas⟩
        rw [hnx, dif_succ, if_pos (by rw [hb, decide_eq_true hne]; rfl)]; exact ho'
      · simp only [Bool.not_eq_false', decide_eq_true_eq, vb_inj] at he
        exact same (by rw [decide_eq_false (fun h => h he), Bool.and_false])
    · exact same (by rw [hb, Bool.false_and])
  · simp only [decide_eq_false_iff_not] at hs
    obtain rfl : i = n := by omega
    subst lo
    exact ⟨_, _, rfl, hx, ho⟩
end Go.Proofs.Ytpmkjpgoekjcfaa

/- The document's tries of a word: one set of places, and the next. -/
namespace Go.Proofs.Ytpmkjpgoekjcfaa
open Go Go.Vc Go.Gf

/-- what one try tells -/
def triedP (w : World) (k m n t : Nat) (bs : List UInt8) (ms : List Bool) (W : List Nat) (v : Value) (w' : World) : Prop := Ext w w' ∧ ∃ c px cx pd cd, v = .tuple #[.slice px n cx, .slice pd (dif n ms c bs).length cd, .bool (decide ((dif n ms c bs).length ≤ t))] ∧
  Gf.Code k m c ∧ OwnB w' w.heap.size px n cx c ∧ OwnN w' w.heap.size pd (dif n ms c bs).length cd (dif n ms c bs) ∧ ∀ x, Gf.Code k m x → (∀ i, i < n → ms.getD i false = false → i ∉ W → co x i = co bs i) → c = x

set_option maxHeartbeats 2000000 in
theorem rtried_spec {p3 p4 p5 : Option Addr} {w : World} {k m n t c3 c4 c5 : Nat} {bs : List UInt8} {ms : List Bool} {W : List Nat} (hn : n = k + m) (h3 : BytesAt w p3 n bs) (h4 : FlagsAt w p4 n ms) (h5 : NatsAt w p5 t W) (hW : ∀ x ∈ W, x < n) (hk1 : 1 ≤ k) (hkm : k + m ≤ 256)
    (hfew : 2 * t + (mis n ms).length ≤ m) :
    Calls Try.prog 41 #[.int .i64 (k : Int), .int .i64 (m : Int), .slice p3 n c3, .slice p4 n c4, .slice p5 t c5] w fun e w' => ∃ v, e = .returned v ∧ triedP w k m n t bs ms W v w' := by
  refine F41_calls k m p3 n c3 p4 n c4 p5 t c5 w (triedP w k m n t bs ms W) ?_
  have hbl := h3.1
  have hml := h4.1
  have hWl := h5.1
  refine (rwithout_spec (c1 := c4) (c2 := c5) h4 h5 hW (by omega) (by omega)).mono ?_
  rintro e w6 ⟨p8, c8, rfl, x6, o8⟩
  refine ⟨_, _, _, rfl, (column_spec (c := c3) (h3.ext x6) (by omega)).mono ?_⟩
  rintro e w9 ⟨p11, c11, rfl, x9, hcol⟩
  have xw9 := x6.trans x9
  have hmany := thr_many (n := n) (ms := ms) (by omega) W
  have one : ∀ i, i < n → ((bs.map fun b => [b]).getD i []).length = 1 := fun i hi => map_one bs i (by omega)
  refine ⟨_, _, _, rfl, (rdecode_spec (c3 := c8) (c4 := c11) (s := 1) hn ((OwnF.flags o8).ext x9) hcol hk1 hkm (by omega) (fun i hi _ => one i hi) (by omega)).mono ?_⟩
  rintro e w12 ⟨_, rfl, x12, a, c14, D, rfl, hrows, hDl, hD1, hDu⟩
  have xw12 := xw9.trans x12
  have hD : D = (D.map fun y => co y 0).map fun b => [b] := by
    rw [List.map_map]
    refine List.ext_getElem (by simp) fun i h1 h2 => ?_
    have := hD1 i (by omega)
    rw [List.getD_eq_getElem?_getD, List.getElem?_eq_getElem h1, Option.getD_some] at this
    rw [List.getElem_map]
    match D[i], this with
    | [b], _ => rfl
  obtain ⟨d, hd⟩ : ∃ d, d = D.map fun y => co y 0 := ⟨_, rfl⟩
  rw [← hd] at hD
  have hdl : d.length = k := by rw [hd, List.length_map, hDl]
  subst hD
  refine ⟨_, _, _, _, rfl, condB_of (fun h => by simp at h) fun _ => (line_spec (c := c14) hrows.lists (by omega) fun i => by have := flat_take (k := k) (m := m) (d := d) i; omega).mono ?_⟩
  rintro e w16 ⟨p18, n18, c18, rfl, x16, o18⟩
  have hflat := enc_flat (m := m) (by omega) hdl
  rw [hflat] at o18
  have l18 := OwnB.len o18
  rw [enc_len hdl, ← hn] at l18
  subst l18
  have xw16 := xw12.trans x16
  refine ⟨_, _, _, rfl, (rdiffers_spec (c1 := c18) (c2 := c3) (c3 := c4) (OwnB.bytes o18) (h3.ext xw16) (h4.ext xw16) (Nat.le_refl _) (Nat.le_refl _) (by omega)).mono ?_⟩
  rintro e w19 ⟨p21, c21, rfl, x19, o21⟩
  refine ⟨_, _, _, rfl, xw16.trans x19, enc k m d, _, _, _, _, ?_, enc_code hkm hdl, OwnB.base_le (OwnB.ext o18 x19) xw12.size, OwnS.base_le o21 xw16.size, fun x hx hag => ?_⟩
  · have e1 : decide (((dif n18 ms (enc k m d) bs).length : Int) ≤ (t : Int)) = decide ((dif n18 ms (enc k m d) bs).length ≤ t) := decide_eq_decide.2 (by omega)
    rw [e1]
  · have hxl := hx.1
    have hxk : (x.take k).length = k := by rw [List.length_take]; omega
    have he := hx.enc hkm
    have h6 := hDu ((x.take k).map fun b => [b]) (by rw [List.length_map, hxk]) (fun i hi => map_one _ i (by omega)) fun i hi hb => ?_
    · have h7 : d = x.take k := by
        have : (d.map fun b => [b]).map (fun y => co y 0) = ((x.take k).map fun b => [b]).map (fun y => co y 0) := by rw [h6]
        rw [List.map_map, List.map_map] at this
        have hid : ∀ l : List UInt8, l.map ((fun y => co y 0) ∘ fun b => [b]) = l := fun l => (List.map_congr_left fun _ _ => rfl).trans (List.map_id l)
        rw [hid, hid] at this
        exact this
      rw [h7, ← he]
    · rw [thr_get (by omega)] at hb
      simp only [Bool.and_eq_true, Bool.not_eq_true', decide_eq_true_eq] at hb
      rw [col_row (by omega) hxk, ← he, hag i (by omega) hb.1 hb.2]
      simp [Gf.co, List.getD_eq_getElem?_getD, List.getElem?_eq_getElem (show i < bs.length by omega)]

theorem OwnN.append {w : World} {base : Nat} {p q : Option Addr} {n c m d : Nat} {bs cs : List Nat} (h : OwnN w base p n c bs) (hq : NatsAt w q m cs) (hb : base ≤ w.heap.size) (hn : n + m ≤ 1073741824) (h0 : q = none → m = 0) :
    ∃ p' c' w2, Sem.run Try.prog (Builtin.append_ #[28, 28] 28 #[.slice p n c, .slice q m d]) w = .ok (.slice p' (n + m) c') w2 ∧ OwnN w2 base p' (n + m) c' (bs ++ cs) ∧ Upd (fun x => p = some (at0 x)) w w2 := by
  have hm := hq.1
  obtain ⟨p', c', w2, hr, ho, hu, _⟩ := OwnS.append elemN 28 h (q := q) (m := m) (d := d) (news := encN cs) (by rw [encN_length]; omega) hq.2 h0 (fun u hu => by
    obtain ⟨_, _, rfl⟩ := List.mem_map.1 hu; rfl) (by unfold maxLen; omega) (by omega) hb
  refine ⟨p', c', w2, hr, ?_, hu⟩
  have : encN bs ++ encN cs = encN (bs ++ cs) := by simp [encN]
  rw [this] at ho
  exact ho
theorem OwnN.set {w w' : World} {base : Nat} {a : Addr} {n c : Nat} {l : List Nat} (h : OwnN w base (some a) n c l) {i b : Nat} (hs : SetC w (a.add i) (.int .i64 (b : Int)) w') : OwnN w' base (some a) n c (l.set i b) ∧ Upd (fun x => x = a.block) w w' := by
  obtain ⟨h1, h2⟩ := OwnS.set h hs
  refine ⟨?_, h2⟩
  have e : (encN l).set i (.int .i64 (b : Int)) = encN (l.set i b) := by unfold encN; rw [List.map_set]
  rw [e] at h1
  exact h1

/-- the next places, as far as k -/
def nxk (s : List Nat) (i k : Nat) : List Nat := (List.range s.length).map fun j => if j < i then s.getD j 0 else if j < k then s.getD i 0 + 1 + (j - i) else s.getD j 0
theorem nxk_len (s : List Nat) (i k : Nat) : (nxk s i k).length = s.length := by simp [nxk]
theorem nxk_at {s : List Nat} {i k j : Nat} (hj : j < s.length) : (nxk s i k).getD j 0 = if j < i then s.getD j 0 else if j < k then s.getD i 0 + 1 + (j - i) else s.getD j 0 := by
  simp [nxk, List.getD_eq_getElem?_getD, hj]
theorem nxk_first {s : List Nat} {i : Nat} (hi : i < s.length) : s.set i (s.getD i 0 + 1) = nxk s i (i + 1) := by
  refine getD_ext (by simp [nxk]) fun j hj => ?_
  rw [List.length_set] at hj
  rw [nxk_at hj]
  simp only [List.getD_eq_getElem?_getD, List.getElem?_set]
  by_cases e : i = j
  · subst e
    rw [if_pos rfl, if_pos hi, if_neg (by omega), if_pos (by omega)]
    simp
  · rw [if_neg e]
    by_cases e2 : j < i
    · rw [if_pos e2]
    · rw [if_neg e2, if_neg (by omega)]
theorem nxk_step {s : List Nat} {i k : Nat} (hik : i < k) (hk : k < s.length) : (nxk s i k).set k ((nxk s i k).getD (k - 1) 0 + 1) = nxk s i (k + 1) := by
  refine getD_ext (by simp [nxk]) fun j hj => ?_
  rw [List.length_set, nxk_len] at hj
  rw [nxk_at hj, nxk_at (by omega)]
  have hj' := nxk_at (i := i) (k := k) hj
  rw [List.getD_eq_getElem?_getD] at hj'
  rw [List.getD_eq_getElem?_getD, List.getElem?_set]
  by_cases e : k = j
  · subst e
    rw [if_pos rfl, if_pos (by rw [nxk_len]; exact hk), if_neg (by omega), if_pos (by omega), if_neg (by omega), if_pos (by omega)]
    simp only [Option.getD_some]
    omega
  · rw [if_neg e, hj']
    by_cases e2 : j < i
    · rw [if_pos e2, if_pos e2]
    · rw [if_neg e2, if_neg e2]
      by_cases e3 : j < k
      · rw [if_pos e3, if_pos (by omega)]
      · rw [if_neg e3, if_neg (by omega)]
theorem nxk_last {s : List Nat} {i : Nat} : nxk s i s.length = nxt s i := by
  refine getD_ext (by simp [nxk, nxt]) fun j hj => ?_
  rw [nxk_len] at hj
  rw [nxk_at hj, nxt_at hj, if_pos hj]

/-- what the next set is -/
def nextP (w : World) (n t : Nat) (s : List Nat) (v : Value) (w' : World) : Prop := Ext w w' ∧
  ((v = .tuple #[.slice none 0 0, .bool false] ∧ ∀ j, j < t → n + j ≤ s.getD j 0 + t) ∨
   ∃ i p c, v = .tuple #[.slice p t c, .bool true] ∧ i < t ∧ s.getD i 0 + t < n + i ∧ (∀ j, i < j → j < t → n + j ≤ s.getD j 0 + t) ∧ OwnN w' w.heap.size p t c (nxt s i))

set_option maxHeartbeats 2000000 in
theorem rnext_spec {p : Option Addr} {w : World} {n t c : Nat} {s : List Nat} (h : NatsAt w p t s) (hs : Pl n t s) (hn : n ≤ 256) (ht : t ≤ n) :
    Calls Try.prog 42 #[.slice p t c, .int .i64 (n : Int)] w fun e w' => ∃ v, e = .returned v ∧ nextP w n t s v w' := by
  have hsl := hs.len
  refine F42_calls p t c n w (nextP w n t s)
    (fun _ _ _ w5 i w11 => -1 ≤ i ∧ i < t ∧ w11 = w5 ∧ ∀ j : Nat, i < j → j < t → n + j ≤ s.getD j 0 + t) (fun _ _ _ _ i _ => (i + 1).toNat)
    (fun p6 l6 c6 _ k w64 => ∃ i : Nat, i < t ∧ s.getD i 0 + t < n + i ∧ (∀ j, i < j → j < t → n + j ≤ s.getD j 0 + t) ∧ (i : Int) < k ∧ k ≤ t ∧ Ext w w64 ∧ OwnN w64 w.heap.size p6 l6 c6 (nxk s i k.toNat)) (fun _ _ _ _ k _ => (t - k).toNat) ?_
  intro k3 w4 h3
  have o3 : OwnN w4 w.heap.size (some (at0 k3)) 0 0 [] := OwnS.made h3 (by rw [h3.size.1]; exact Nat.le_refl _) (Nat.le_refl _) (by unfold maxLen; omega) rfl
  obtain ⟨p6, c6, w5, hr, o5, u5⟩ := OwnN.append (d := c) o3 (h.ext h3.ext) h3.ext.size (by omega) fun e => by
    subst e
    by_cases h0 : t = 0
    · exact h0
    · obtain ⟨a, ha, _⟩ := h.get (i := 0) (by omega)
      cases ha
  rw [List.nil_append, Nat.zero_add] at o5
  rw [Nat.zero_add] at hr
  have x5 : Ext w w5 := OwnB.new_ext h3.ext u5 fun y hy => OwnS.blk o3 hy
  refine ⟨p6, t, c6, w5, hr, ?_⟩
  rw [w64 (n := (t : Int) - 1) (by omega)]
  refine ⟨⟨by omega, by omega, rfl, fun j hj hj2 => by omega⟩, ?_⟩
  rintro iI w11 ⟨hi0, hi1, rfl, hmax⟩
  intros
  refine condB_of (fun hs1 => ?_) (fun hs1 => ?_)
  · simp only [decide_eq_true_eq] at hs1
    obtain ⟨i, rfl⟩ := Int.eq_ofNat_of_zero_le hs1
    obtain ⟨a, rfl, ha⟩ := (OwnN.nats o5).get (i := i) (by omega)
    rw [w64 (n := (n : Int) - t) (by omega), w64 (n := (n : Int) - t + i) (by omega)]
    have ha' : w11.cell? (a.add ((i : Int).toNat * 1)) = some (.int .i64 ((s.getD i 0 : Nat) : Int)) := by rw [Int.toNat_natCast, Nat.mul_one]; exact ha
    refine ⟨⟨hs1, hi1⟩, _, ha', condB_of (fun hlt => ?_) (fun hge => ?_)⟩
    · simp only [decide_eq_true_eq] at hlt
      have hsi := hs.lt i (by omega)
      refine ⟨⟨hs1, hi1⟩, _, ha', ⟨hs1, hi1⟩, by rw [Int.toNat_natCast, Nat.mul_one]; exact OwnS.live o5 (by rw [encN_length]; omega), fun w59 s59 => ?_⟩
      rw [Int.toNat_natCast, Nat.mul_one, w64 (n := ((s.getD i 0 : Nat) : Int) + 1) (by omega), show ((s.getD i 0 : Nat) : Int) + 1 = ((s.getD i 0 + 1 : Nat) : Int) by omega] at s59
      have hblk : w.heap.size ≤ a.block := by
        rcases o5.where_ with ⟨h0, _⟩ | ⟨g, hg, hb, _⟩
        · cases h0
        · cases hg; exact hb
      obtain ⟨o59, u59⟩ := OwnN.set o5 s59
      rw [nxk_first (by omega)] at o59
      rw [w64 (n := (i : Int) + 1) (by omega)]
      refine ⟨⟨i, by omega, by omega, fun j hj hj2 => hmax j (by omega) hj2, by omega, by omega, OwnB.new_ext x5 u59 fun y hy => by rw [show y = a.block from hy]; exact hblk, by rw [show ((i : Int) + 1).toNat = i + 1 by omega]; exact o59⟩, ?_⟩
      clear o59 u59 s59
      rintro kI w64' ⟨i', hi', hsi', hmax', hik, hkt, x64, o64⟩
      obtain ⟨k, rfl⟩ := Int.eq_ofNat_of_zero_le (show 0 ≤ kI by omega)
      simp only [Int.toNat_natCast] at o64
      intros
      refine condB_of (fun hs2 => ?_) (fun hs2 => ?_)
      · simp only [decide_eq_true_eq] at hs2
        rw [w64 (n := (k : Int) - 1) (by omega), w64 (n := (k : Int) + 1) (by omega)]
        obtain ⟨a', e, hc1⟩ := (OwnN.nats o64).get (i := k - 1) (by omega)
        cases e
        have hv : (nxk s i' k).getD (k - 1) 0 ≤ 512 := by
          rw [nxk_at (by omega)]
          have := hs.lt i' hi'
          split
          · have := hs.lt (k - 1) (by omega); omega
          · rw [if_pos (by omega)]; omega
        refine ⟨⟨by omega, by omega⟩, _, by rw [show ((k : Int) - 1).toNat = k - 1 by omega, Nat.mul_one]; exact hc1, ⟨by omega, by omega⟩, by rw [Int.toNat_natCast, Nat.mul_one]; exact OwnS.live o64 (by rw [encN_length, nxk_len]; omega), fun w83 s83 => ?_⟩
        rw [Int.toNat_natCast, Nat.mul_one, w64 (n := (((nxk s i' k).getD (k - 1) 0 : Nat) : Int) + 1) (by omega), show (((nxk s i' k).getD (k - 1) 0 : Nat) : Int) + 1 = (((nxk s i' k).getD (k - 1) 0 + 1 : Nat) : Int) by omega] at s83
        obtain ⟨o83, u83⟩ := OwnN.set o64 s83
        rw [nxk_step (by omega) (by omega)] at o83
        exact ⟨⟨i', hi', hsi', hmax', by omega, by omega, OwnB.new_ext x64 u83 fun y hy => by rw [show y = a.block from hy]; exact hblk, by rw [show ((k : Int) + 1).toNat = k + 1 by omega]; exact o83⟩, by show ((t : Int) - ((k : Int) + 1)).toNat < ((t : Int) - k).toNat; omega⟩
      · simp only [decide_eq_false_iff_not] at hs2
        rw [show k = s.length by omega, nxk_last] at o64
        exact ⟨x64, .inr ⟨i', _, _, rfl, hi', hsi', hmax', o64⟩⟩
    · simp only [decide_eq_false_iff_not] at hge
      rw [w64 (n := (i : Int) - 1) (by omega)]
      refine ⟨⟨by omega, by omega, rfl, fun j hj hj2 => ?_⟩, by show ((i : Int) - 1 + 1).toNat < ((i : Int) + 1).toNat; omega⟩
      by_cases e : j = i
      · subst e; omega
      · exact hmax j (by omega) hj2
  · simp only [decide_eq_false_iff_not] at hs1
    exact ⟨x5, .inl ⟨rfl, fun j hj => hmax j (by omega) hj⟩⟩
end Go.Proofs.Ytpmkjpgoekjcfaa

/- The document's word put right. -/
namespace Go.Proofs.Ytpmkjpgoekjcfaa
open Go Go.Vc Go.Gf

/-- the numbers of a list in memory -/
def rdN (w : World) (p : Option Addr) (l : Nat) : List Nat := (List.range l).map fun i => match p with
  | none => 0
  | some a => match w.cell? (a.add i) with
    | some (.int _ n) => n.toNat
    | _ => 0
theorem NatsAt.rd {w : World} {p : Option Addr} {l : Nat} {s : List Nat} (h : NatsAt w p l s) : rdN w p l = s := by
  have hl := h.1
  refine getD_ext (by simp [rdN, hl]) fun i hi => ?_
  have hi' : i < l := by simpa [rdN] using hi
  obtain ⟨a, rfl, hc⟩ := h.get hi'
  have e : (rdN w (some a) l).getD i 0 = (match w.cell? (a.add i) with | some (.int _ n) => n.toNat | _ => 0) := by
    simp [rdN, List.getD_eq_getElem?_getD, hi']
  rw [e, hc]
  simp

section
variable {k m n t : Nat} {bs : List UInt8} {ms : List Bool}
/-- no word of the code that is near differs in just these places -/
def NoW (k m n : Nat) (bs : List UInt8) (ms : List Bool) (W : List Nat) : Prop := ∀ c, Near k m bs ms c → dif n ms c bs ≠ W
theorem dif_pl (c : List UInt8) : Pl n (dif n ms c bs).length (dif n ms c bs) := by
  refine Pl.of_sorted (List.Pairwise.filter _ List.pairwise_lt_range) fun x hx => ?_
  simp only [dif, List.mem_filter, List.mem_range] at hx
  exact hx.1
theorem try_fails {c : List UInt8} {W : List Nat} (hn : n = k + m) (hW : W.length = t) (hu : ∀ x, Gf.Code k m x → (∀ i, i < n → ms.getD i false = false → i ∉ W → co x i = co bs i) → c = x) (hf : ¬ (dif n ms c bs).length ≤ t) : NoW k m n bs ms W := by
  intro x hx he
  refine hf ?_
  have e : c = x := hu x hx.code fun i hi h1 h2 => Decidable.byContradiction fun h3 => h2 ?_
  · rw [e, he, hW]; exact Nat.le_refl _
  · rw [← he]
    simp only [dif, List.mem_filter, List.mem_range, Bool.and_eq_true, Bool.not_eq_true', decide_eq_true_eq]
    exact ⟨hi, h1, h3⟩
theorem none_at (h : ∀ W, Pl n t W → NoW k m n bs ms W) (hlow : ∀ c, Near k m bs ms c → t ≤ (dif n ms c bs).length) : ∀ c, Near k m bs ms c → t + 1 ≤ (dif n ms c bs).length := by
  intro c hc
  have h1 := hlow c hc
  by_cases e : (dif n ms c bs).length = t
  · have h2 := dif_pl (n := n) (ms := ms) (bs := bs) c
    rw [e] at h2
    exact (h _ h2 c hc rfl).elim
  · omega
end

set_option maxHeartbeats 4000000 in
theorem rword10_ok {p3 p4 : Option Addr} {w : World} {k m l3 c3 l4 c4 : Nat} {bs : List UInt8} {ms : List Bool} (h3 : BytesAt w p3 l3 bs) (h4 : FlagsAt w p4 l4 ms) (hk1 : 1 ≤ k) (hkm : k + m ≤ 256) :
    Calls Try.prog 13 #[.int .i64 (k : Int), .int .i64 (m : Int), .slice p3 l3 c3, .slice p4 l4 c4] w fun e w' => ∃ v, e = .returned v ∧ wordP w k m l3 l4 bs ms v w' := by
  have hk : kmOk (k : Int) (m : Int) := ⟨by omega, by omega, by omega, by omega⟩
  have hml := h4.1
  refine F13_calls k m p3 l3 c3 p4 l4 c4 w (wordP w k m l3 l4 bs ms)
    (fun lost _ t w13 => 0 ≤ t ∧ t ≤ (m : Int) + 1 ∧ lost = ((mis (k + m) ms).length : Int) ∧ l3 = k + m ∧ l4 = k + m ∧ Ext w w13 ∧ ∀ c, Near k m bs ms c → t.toNat ≤ (dif (k + m) ms c bs).length) (fun _ _ t _ => ((m : Int) + 2 - t).toNat)
    (fun _ t w13 p l c i w70 => 0 ≤ i ∧ i ≤ t ∧ Ext w13 w70 ∧ OwnN w70 w13.heap.size p l c (List.range i.toNat)) (fun _ t _ _ _ _ i _ => (t - i).toNat)
    (fun _ t w70 p l _ b w88 => Ext w70 w88 ∧ ((b = true ∧ ∃ s, Pl (k + m) t.toNat s ∧ NatsAt w88 p l s ∧ ∀ W, Pl (k + m) t.toNat W → dgs 257 W < dgs 257 s → NoW k m (k + m) bs ms W) ∨ (b = false ∧ ∀ W, Pl (k + m) t.toNat W → NoW k m (k + m) bs ms W)))
    (fun _ t _ p l _ b w => if b = true then 257 ^ t.toNat + 1 - dgs 257 (rdN w p l) else 0) ?_
  refine (rcheck_spec k m w).mono ?_
  rintro e w5 ⟨rfl, rfl⟩
  rw [kmE_ok hk, w64 (n := (k : Int) + m) (by omega)]
  refine ⟨_, rfl, condB_of (fun h => by simp at h) fun _ => condB_of (fun h => ?_) fun g3 => condB_of (fun h => ?_) fun g4 => ?_⟩
  · simp only [Bool.not_eq_true', decide_eq_false_iff_not] at h
    exact ⟨Upd.refl _ _, .inr (.inl ⟨hk, fun h2 => h h2.1, rfl⟩)⟩
  · simp only [Bool.not_eq_true', decide_eq_false_iff_not] at h
    exact ⟨Upd.refl _ _, .inr (.inl ⟨hk, fun h2 => h h2.2, rfl⟩)⟩
  simp only [Bool.not_eq_false', decide_eq_true_eq] at g3 g4
  obtain rfl : l3 = k + m := by omega
  obtain rfl : l4 = k + m := by omega
  refine (rcount_spec (c := c4) h4 (by omega)).mono ?_
  rintro e w8 ⟨rfl, rfl⟩
  have hmis := mis_le (k + m) ms
  refine ⟨_, rfl, ⟨by omega, by omega, rfl, rfl, rfl, Upd.refl _ _, fun c _ => Nat.zero_le _⟩, ?_⟩
  rintro tI w13 ⟨ht0, ht1, _, _, _, x13, hlow⟩
  obtain ⟨t, rfl⟩ := Int.eq_ofNat_of_zero_le ht0
  simp only [Int.toNat_natCast] at hlow
  intros
  rw [w64 (n := 2 * (t : Int)) (by omega), w64 (n := 2 * (t : Int) + ((mis (k + m) ms).length : Int)) (by omega)]
  refine condB_of (fun hs => ?_) (fun hs => ?_)
  · simp only [decide_eq_true_eq] at hs
    refine ⟨⟨by omega, by omega, Upd.refl _ _, by rw [show List.range (0 : Int).toNat = [] from rfl]; exact OwnS.nil _ _ _ _⟩, ?_⟩
    rintro p68 l68 c68 iI w70 ⟨hi0, hi1, x70, o70⟩
    obtain ⟨i, rfl⟩ := Int.eq_ofNat_of_zero_le hi0
    simp only [Int.toNat_natCast] at o70
    have l70 := OwnN.len o70
    rw [List.length_range] at l70
    intros
    refine condB_of (fun hs1 => ?_) (fun hs1 => ?_)
    · simp only [decide_eq_true_eq] at hs1
      intro k80 w81 h81
      obtain ⟨p', c', w82, hr, ho', hu⟩ := OwnN.push o70 h81 x70.size (by omega)
      rw [w64 (n := (i : Int) + 1) (by omega)]
      refine ⟨_, _, _, w82, hr, ⟨by omega, by omega, OwnB.new_ext x70 hu fun y hy => OwnS.blk o70 hy, by rw [show ((i : Int) + 1).toNat = i + 1 by omega, List.range_succ]; exact ho'⟩, by show ((t : Int) - ((i : Int) + 1)).toNat < ((t : Int) - i).toNat; omega⟩
    · simp only [decide_eq_false_iff_not] at hs1
      obtain rfl : i = t := by omega
      have xw70 := x13.trans x70
      refine ⟨⟨Upd.refl _ _, .inl ⟨rfl, List.range i, Pl.first (by omega), OwnN.nats o70, fun W hW hlt => ?_⟩⟩, ?_⟩
      · rw [Int.toNat_natCast] at hW
        have := hW.first_le (N := 257)
        omega
      rintro p86 l86 c86 b w88 ⟨x88, hI⟩
      simp only [Int.toNat_natCast] at hI
      intros
      have xw88 := xw70.trans x88
      refine condB_of (fun hb => ?_) (fun hb => ?_)
      · subst hb
        rcases hI with ⟨_, s, hs, hsA, hdone⟩ | ⟨h, _⟩
        rotate_left
        · cases h
        have hsl := hs.len
        have hl86 := hsA.1
        obtain rfl : l86 = i := by omega
        have hslt : ∀ x ∈ s, x < k + m := fun x hx => by
          obtain ⟨j, hj, rfl⟩ := List.getElem_of_mem hx
          have := hs.lt j (by omega)
          rw [List.getD_eq_getElem?_getD, List.getElem?_eq_getElem hj] at this
          exact this
        have hdig : dgs 257 s < 257 ^ l86 := by
          have := dgs_lt (N := 257) (l := s) fun j hj => by
            have := hs.lt j (by omega)
            omega
          rwa [hsl] at this
        refine (rtried_spec (c3 := c3) (c4 := c4) (c5 := c86) rfl (h3.ext xw88) (h4.ext xw88) hsA hslt hk1 hkm (by omega)).mono ?_
        rintro e w121 ⟨_, rfl, x121, c, px, cx, pd, cd, rfl, hcode, oc, od, hu⟩
        refine ⟨_, _, _, _, _, _, _, rfl, condB_of (fun hok => ?_) (fun hno => ?_)⟩
        · simp only [decide_eq_true_eq] at hok
          have hd : decM k m bs ms = some c := decM_some hkm ⟨hcode, by omega⟩
          refine ⟨xw88.trans x121, .inr (.inr ⟨hk, by omega, by omega, .inr ⟨c, hd, px, cx, pd, _, cd, rfl, OwnB.base_le oc xw88.size, OwnS.base_le od xw88.size⟩⟩)⟩
        · simp only [decide_eq_false_iff_not] at hno
          have hfs : NoW k m (k + m) bs ms s := try_fails rfl hsl hu hno
          rw [show (k : Int) + (m : Int) = ((k + m : Nat) : Int) by omega]
          have xx := x88.trans x121
          refine (rnext_spec (c := c86) (hsA.ext x121) hs hkm (by omega)).mono ?_
          have e0 : (if (true : Bool) = true then 257 ^ (l86 : Int).toNat + 1 - dgs 257 (rdN w88 p86 l86) else 0) = 257 ^ l86 + 1 - dgs 257 s := by rw [if_pos rfl, hsA.rd, Int.toNat_natCast]
          rintro e w126 ⟨_, rfl, x126, ⟨rfl, hmax⟩ | ⟨j, p, cc, rfl, hj, hsj, hmax, oN⟩⟩
          · refine ⟨_, _, _, _, rfl, ⟨xx.trans x126, .inr ⟨rfl, fun W hW => ?_⟩⟩, ?_⟩
            · rw [Int.toNat_natCast] at hW
              rcases hs.last (N := 257) hW (by omega) hmax with e | e
              · rw [e]; exact hfs
              · exact hdone W hW e
            · show (if (false : Bool) = true then _ else 0) < (if (true : Bool) = true then 257 ^ (l86 : Int).toNat + 1 - dgs 257 (rdN w88 p86 l86) else 0)
              rw [e0, if_neg (by simp)]; omega
          · have hs' := hs.nxt hj hsj
            have hlt' := hs.nxt_lt (N := 257) (by omega) hj
            refine ⟨_, _, _, _, rfl, ⟨xx.trans x126, .inl ⟨rfl, nxt s j, by rw [Int.toNat_natCast]; exact hs', OwnN.nats oN, fun W hW hWl => ?_⟩⟩, ?_⟩
            · rw [Int.toNat_natCast] at hW
              rcases hs.between (N := 257) hW (by omega) hj hsj hmax hWl with e | e
              · rw [e]; exact hfs
              · exact hdone W hW e
            · show (if (true : Bool) = true then 257 ^ (l86 : Int).toNat + 1 - dgs 257 (rdN w126 p l86) else 0) < (if (true : Bool) = true then 257 ^ (l86 : Int).toNat + 1 - dgs 257 (rdN w88 p86 l86) else 0)
              rw [e0, if_pos rfl, (OwnN.nats oN).rd, Int.toNat_natCast]
              omega
      · rcases hI with ⟨h, _⟩ | ⟨_, hall⟩
        · rw [h] at hb; cases hb
        rw [w64 (n := (i : Int) + 1) (by omega)]
        refine ⟨⟨by omega, by omega, rfl, rfl, rfl, xw88, ?_⟩, by show ((m : Int) + 2 - ((i : Int) + 1)).toNat < ((m : Int) + 2 - i).toNat; omega⟩
        rw [show ((i : Int) + 1).toNat = i + 1 by omega]
        exact none_at hall hlow
  · simp only [decide_eq_false_iff_not] at hs
    refine ⟨x13, .inr (.inr ⟨hk, by omega, by omega, .inl ⟨?_, rfl⟩⟩)⟩
    rw [Int.toNat_natCast, Int.toNat_natCast]
    cases hd : decM k m bs ms with
    | none => rfl
    | some c =>
      have hc := decM_near hd
      have h1 := hlow c hc
      have h2 := hc.few
      omega

theorem rword10_spec {p3 p4 : Option Addr} {w : World} {l3 c3 l4 c4 : Nat} {bs : List UInt8} {ms : List Bool} (h3 : BytesAt w p3 l3 bs) (h4 : FlagsAt w p4 l4 ms) (k m : Int) :
    Calls Try.prog 13 #[.int .i64 k, .int .i64 m, .slice p3 l3 c3, .slice p4 l4 c4] w fun e w' => ∃ v, e = .returned v ∧ wordP w k m l3 l4 bs ms v w' := by
  by_cases hk : kmOk k m
  · obtain ⟨a1, a2, a3, a4⟩ := hk
    obtain ⟨K, rfl⟩ := Int.eq_ofNat_of_zero_le (show 0 ≤ k by omega)
    obtain ⟨M, rfl⟩ := Int.eq_ofNat_of_zero_le (show 0 ≤ m by omega)
    exact rword10_ok h3 h4 (by omega) (by omega)
  · refine F13_calls k m p3 l3 c3 p4 l4 c4 w (wordP w k m l3 l4 bs ms) (fun _ _ _ _ => True) (fun _ _ _ _ => 0) (fun _ _ _ _ _ _ _ _ => True) (fun _ _ _ _ _ _ _ _ => 0) (fun _ _ _ _ _ _ _ _ => True) (fun _ _ _ _ _ _ _ _ => 0) ?_
    refine (rcheck_spec k m w).mono ?_
    rintro e w5 ⟨rfl, rfl⟩
    rw [kmE_bad hk]
    exact ⟨_, rfl, condB_of (fun _ => ⟨Upd.refl _ _, .inl ⟨hk, rfl⟩⟩) fun h => by simp at h⟩
end Go.Proofs.Ytpmkjpgoekjcfaa

/- The document's shards: rows that grow beside others; how long shards are. -/
namespace Go.Proofs.Ytpmkjpgoekjcfaa
open Go Go.Vc Go.Gf

/-- no row of a list lies where other bytes lie -/
def ApartR (w : World) (k n : Nat) (pz : Option Addr) : Prop := ∀ t, t < n → ∀ g l c, w.cell? ((at0 k).add t) = some (.slice (some (at0 g)) l c) → pz ≠ some (at0 g)
/-- bytes are laid behind a row, beside other bytes -/
theorem RowsAt.append2 {w : World} {base k n i m d : Nat} {q : Addr} {L : Nat → List UInt8} {xs : List UInt8} (h : RowsAt w base (at0 k) n L) (hi : i < n) (hq : BytesAt w (some q) m xs) (hm : 0 < m) (hb : base ≤ w.heap.size) (hk : base ≤ k) (hlen : (L i).length + m ≤ 1073741824) {bz nz cz : Nat} {pz : Option Addr} {zs : List UInt8} (hz : OwnB w bz pz nz cz zs) (hz2 : ApartR w k n pz) :
    ∃ p l c, w.cell? ((at0 k).add i) = some (.slice p l c) ∧ ∃ p' l' c' w2, Sem.run Try.prog (Builtin.append_ #[22, 22] 22 #[.slice p l c, .slice (some q) m d]) w = .ok (.slice p' l' c') w2 ∧ Live w2 ((at0 k).add i) ∧
      ∀ w3, SetC w2 ((at0 k).add i) (.slice p' l' c') w3 → RowsAt w3 base (at0 k) n (fun t => if t = i then L i ++ xs else L t) ∧ (∀ w0, Ext w0 w → w0.heap.size ≤ base → Ext w0 w3) ∧
        (∃ S, Upd S w w3 ∧ ∀ x, S x → ∃ (cs : Array Value) (e : TypeId) (fz : Nat × Nat), w.heap[x]? = some (Obj.cells cs e fz) ∧ (e = 5 ∨ e = 22)) ∧ OwnB w3 bz pz nz cz zs ∧ ApartR w3 k n pz := by
  obtain ⟨cs, h1⟩ := h.rowk (by omega)
  obtain ⟨P, h3, h4⟩ := h.own
  have hsz : i < cs.size := by
    have h5 := (h3 i hi).1
    rw [rowk_cell h1] at h5
    exact (Array.getElem?_eq_some_iff.1 h5).1
  obtain ⟨hc, ho⟩ := h3 i hi
  have hl := OwnB.len ho
  obtain ⟨p', c', w2, hr, o2, u2⟩ := OwnB.append (d := d) ho hq hb (by omega)
  have hml := hq.1
  have hwhere := push_where elemY 22 ho (news := encB xs) (by rw [encB_length]; omega) hq.cells (encB_one xs) hm (by unfold maxLen; omega) (by omega) hr
  have ty2 : ∀ y, (P i).1 = some (at0 y) → ∃ (cs : Array Value) (e' : TypeId) (fz : Nat × Nat), w.heap[y]? = some (Obj.cells cs e' fz) ∧ e' = 5 := fun y hy => OwnS.typed ho hy
  have kp : ∀ {k' : Nat} {e : TypeId} {cs : Array Value}, e ≠ 5 → RowK w k' e cs → RowK w2 k' e cs := fun he hr => RowK.keep hr u2 fun y hy => by
    obtain ⟨a, b, c, d, e⟩ := ty2 y hy
    exact ⟨a, b, c, d, by rw [e]; exact he.symm⟩
  have r2 := kp ty_out.1.symm h1
  have r2' : RowK w2 k 22 cs := r2
  refine ⟨_, _, _, hc, p', _, c', w2, hr, r2'.live3 hsz, fun w3 s3 => ?_⟩
  obtain ⟨r3, u3⟩ := r2'.set3 s3
  have fresh : ∀ t, t < n → t ≠ i → ∀ g, (P t).1 = some (at0 g) → p' ≠ some (at0 g) := fun t ht hne g hg he => by
    rcases hwhere with e | e
    · rw [e] at he
      exact h4 i t hi ht (fun e => hne e.symm) g he hg
    · rw [e] at he
      simp only [Option.some.injEq, at0, Addr.mk.injEq, and_true] at he
      have h5 := (h3 t ht).2
      rw [hg] at h5
      have := OwnS.lt_heap h5
      omega
  have apz : ∀ t, t < n → ∀ g, (P t).1 = some (at0 g) → pz ≠ some (at0 g) := fun t ht g hg he => hz2 t ht g (P t).2.1 (P t).2.2 (by rw [← hg]; exact (h3 t ht).1) he
  have z2 : OwnB w2 bz pz nz cz zs := OwnS.upd hz u2 fun g hg hS => apz i hi g hS hg
  refine ⟨⟨fun _ => ⟨_, r3⟩, fun t => if t = i then (p', (P i).2.1 + m, c') else P t, fun t ht => ?_, ?_⟩, fun w0 hx hw0 => ?_, ⟨fun x => (P i).1 = some (at0 x) ∨ x = k, Upd.trans (Upd.mono u2 fun _ _ hx => Or.inl hx) u3 fun x _ hx => Or.inr hx, ?_⟩, OwnB.apart z2 u3 r2' ty_out.1.symm, ?_⟩
  · dsimp only
    rw [rowk_cell r3, Array.getElem?_setIfInBounds]
    by_cases e : t = i
    · subst e
      simp only [if_true]
      rw [if_pos hsz]
      exact ⟨rfl, OwnB.apart o2 u3 r2' ty_out.1.symm⟩
    · rw [if_neg (fun e2 => e e2.symm), if_neg e, if_neg e]
      refine ⟨?_, OwnB.apart (OwnS.upd (h3 t ht).2 u2 fun g hg hS => ?_) u3 r2' ty_out.1.symm⟩
      · rw [← rowk_cell h1]
        exact (h3 t ht).1
      · exact h4 i t hi ht (fun e2 => e e2.symm) g hS hg
  · intro s t hs ht hst g hg
    dsimp only at hg ⊢
    by_cases h5 : s = i
    · rw [if_pos h5] at hg
      rw [if_neg (fun e => hst (h5.trans e.symm))]
      exact fun he => fresh t ht (fun e => hst (h5.trans e.symm)) g he hg
    · rw [if_neg h5] at hg
      by_cases h6 : t = i
      · rw [if_pos h6]; exact fresh s hs h5 g hg
      · rw [if_neg h6]; exact h4 s t hs ht hst g hg
  · exact ext_upd (OwnB.new_ext hx u2 fun y hy => by have := OwnB.blk ho hy; omega) (by omega) u3
  · rintro x (hx | rfl)
    · obtain ⟨a, b, c, d, e⟩ := ty2 x hx
      exact ⟨a, b, c, d, .inl e⟩
    · exact ⟨cs, _, (0, 0), h1, .inr rfl⟩
  · intro t ht g l c hc he
    rw [rowk_cell r3, Array.getElem?_setIfInBounds] at hc
    by_cases e : t = i
    · subst e
      rw [if_pos rfl, if_pos hsz] at hc
      simp only [Option.some.injEq, Value.slice.injEq] at hc
      obtain ⟨hc, _⟩ := hc
      rcases hwhere with e2 | e2
      · rw [e2] at hc
        exact apz t ht g hc he
      · rw [e2] at hc
        simp only [Option.some.injEq, at0, Addr.mk.injEq, and_true] at hc
        rw [he] at hz
        have := OwnS.lt_heap hz
        omega
    · rw [if_neg (fun e2 => e e2.symm), ← rowk_cell h1] at hc
      exact hz2 t ht g l c hc he
set_option maxHeartbeats 1000000 in
theorem rsized_spec {p3 p4 : Option Addr} {l3 c3 l4 c4 : Nat} {w : World} {hs : List Bool} {L : List (List UInt8)} (h3 : FlagsAt w p3 l3 hs) (h4 : ListsAt w p4 l4 L) {k m : Int} (hk : kmOk k m) (h : (l3 : Int) = k + m) (h2 : (l4 : Int) = k + m) :
    Calls Try.prog 47 #[.slice p3 l3 c3, .slice p4 l4 c4] w fun e w' => (∃ r : Int, e = .returned (.int .i64 r) ∧ ((r = -1 ∧ ∀ s, ¬ Sized k m l3 l4 hs L s) ∨ 0 ≤ r ∧ Sized k m l3 l4 hs L r.toNat)) ∧ w' = w := by
  obtain ⟨a1, a2, a3, a4⟩ := hk
  refine (F47_calls p3 l3 c3 p4 l4 c4 w (fun v w' => (∃ r : Int, v = .int .i64 r ∧ ((r = -1 ∧ ∀ s, ¬ Sized k m l3 l4 hs L s) ∨ 0 ≤ r ∧ Sized k m l3 l4 hs L r.toNat)) ∧ w' = w)
    (fun _ n i w1 => 0 ≤ i ∧ i ≤ l3 ∧ w1 = w ∧ ((n = -1 ∧ ∀ j : Nat, (j : Int) < i → hs.getD j false = false) ∨ (0 ≤ n ∧ (∃ j : Nat, (j : Int) < i ∧ hs.getD j false = true) ∧ ∀ j : Nat, (j : Int) < i → hs.getD j false = true → ((L.getD j []).length : Int) = n)))
    (fun _ _ i _ => (l3 - i).toNat) ?_).mono (by rintro e w' ⟨v, rfl, ⟨r, rfl, h⟩, hw⟩; exact ⟨⟨r, rfl, h⟩, hw⟩)
  refine ⟨⟨by omega, by omega, rfl, .inl ⟨rfl, fun j hj => by omega⟩⟩, ?_⟩
  rintro n i w1 ⟨hi0, hi1, rfl, hn⟩
  intros
  refine condB_of (fun hs' => ?_) (fun hs' => ?_)
  · simp only [decide_eq_true_eq] at hs'
    obtain ⟨a, rfl, ha⟩ := h3.get (i := i.toNat) (by omega)
    obtain ⟨b, q, ln, cn, rfl, hcell, hq, hqc⟩ := h4.2 i.toNat (by omega)
    have hql := hq.1
    have hmeas : ((l3 : Int) - (i + 1)).toNat < ((l3 : Int) - i).toNat := by omega
    have hnx : IntKind.i64.wrap (i + 1) = i + 1 := w64 (by omega)
    have ha' : w1.cell? (a.add (i.toNat * 1)) = some (.bool (hs.getD i.toNat false)) := by rw [Nat.mul_one]; exact ha
    have hcell' : w1.cell? (b.add (i.toNat * 1)) = some (.slice q ln cn) := by rw [Nat.mul_one]; exact hcell
    refine ⟨⟨hi0, hs'⟩, _, ha', ?_⟩
    unfold F47_A0
    rw [hnx]
    refine condB_of (fun hb => ?_) (fun hb => ?_)
    · have go : (∀ j : Nat, (j : Int) < i → hs.getD j false = true → ((L.getD j []).length : Int) = (ln : Int)) → ((0 ≤ i + 1 ∧ i + 1 ≤ l3 ∧ w1 = w1 ∧ (((ln : Int) = -1 ∧ ∀ j : Nat, (j : Int) < i + 1 → hs.getD j false = false) ∨ (0 ≤ (ln : Int) ∧ (∃ j : Nat, (j : Int) < i + 1 ∧ hs.getD j false = true) ∧ ∀ j : Nat, (j : Int) < i + 1 → hs.getD j false = true → ((L.getD j []).length : Int) = ln))) ∧
            ((l3 : Int) - (i + 1)).toNat < ((l3 : Int) - i).toNat) := by
        intro hall
        refine ⟨⟨by omega, by omega, rfl, .inr ⟨by omega, ⟨i.toNat, by omega, hb⟩, fun j hj hj2 => ?_⟩⟩, hmeas⟩
        by_cases hji : (j : Int) < i
        · exact hall j hji hj2
        · rw [show j = i.toNat by omega, ← hql]
      refine condB_of (fun hn0 => ?_) (fun hn0 => ?_)
      · simp only [decide_eq_true_eq] at hn0
        rcases hn with ⟨hn, _⟩ | ⟨_, hex, hall⟩
        · omega
        · refine ⟨⟨hi0, by omega⟩, q, ln, cn, hcell', condB_of (fun hne => ?_) (fun hne => ?_)⟩
          · simp only [Bool.not_eq_true', decide_eq_false_iff_not] at hne
            refine ⟨⟨-1, rfl, .inl ⟨rfl, fun s hsz => ?_⟩⟩, rfl⟩
            obtain ⟨j, hj, hj2⟩ := hex
            have h5 := hsz.2.2.2 j (by omega) hj2
            have h6 := hsz.2.2.2 i.toNat (by omega) hb
            have h7 := hall j hj hj2
            omega
          · simp only [Bool.not_eq_false', decide_eq_true_eq] at hne
            refine ⟨⟨hi0, hs'⟩, _, ha', condB_of (fun _ => ⟨⟨hi0, by omega⟩, q, ln, cn, hcell', go fun j hj hj2 => by rw [hall j hj hj2, hne]⟩) fun h => ?_⟩
            rw [hb] at h; cases h
      · simp only [decide_eq_false_iff_not] at hn0
        rcases hn with ⟨_, hno⟩ | ⟨hn, _⟩
        · refine ⟨⟨hi0, hs'⟩, _, ha', condB_of (fun _ => ⟨⟨hi0, by omega⟩, q, ln, cn, hcell', go fun j hj hj2 => by rw [hno j hj] at hj2; cases hj2⟩) fun h => ?_⟩
          rw [hb] at h; cases h
        · omega
    · refine ⟨⟨hi0, hs'⟩, _, ha', condB_of (fun h => by rw [hb] at h; cases h) fun _ => ⟨⟨by omega, by omega, rfl, ?_⟩, hmeas⟩⟩
      rcases hn with ⟨rfl, hno⟩ | ⟨hn, ⟨j, hj, hj2⟩, hall⟩
      · refine .inl ⟨rfl, fun j hj => ?_⟩
        by_cases hji : (j : Int) < i
        · exact hno j hji
        · rw [show j = i.toNat by omega]; exact hb
      · refine .inr ⟨hn, ⟨j, by omega, hj2⟩, fun j hj hj2 => ?_⟩
        by_cases hji : (j : Int) < i
        · exact hall j hji hj2
        · rw [show j = i.toNat by omega, hb] at hj2; cases hj2
  · simp only [decide_eq_false_iff_not] at hs'
    refine ⟨⟨n, rfl, ?_⟩, rfl⟩
    rcases hn with ⟨rfl, hno⟩ | ⟨hn, ⟨j, hj, hj2⟩, hall⟩
    · refine .inl ⟨rfl, fun s hsz => ?_⟩
      obtain ⟨j, hj, hj2⟩ := hsz.2.2.1
      rw [hno j (by omega)] at hj2; cases hj2
    · exact .inr ⟨hn, h, h2, ⟨j, by omega, hj2⟩, fun j hj hj2 => by have := hall j (by omega) hj2; omega⟩
end Go.Proofs.Ytpmkjpgoekjcfaa

/- The document's shards put right. -/
namespace Go.Proofs.Ytpmkjpgoekjcfaa
open Go Go.Vc Go.Gf

theorem RowsAt.apart_new {w0 w : World} {base k n m c : Nat} {p : Option Addr} {L : Nat → List UInt8} {bs : List UInt8} (h : RowsAt w0 base (at0 k) n L) (hx : Ext w0 w) (ho : OwnB w w0.heap.size p m c bs) : ApartR w k n p := by
  obtain ⟨P, h3, _⟩ := h.own
  intro t ht g l cc hc he
  have h4 := hx.cell (h3 t ht).1 id
  rw [hc] at h4
  simp only [Option.some.injEq, Value.slice.injEq] at h4
  have h5 := (h3 t ht).2
  rw [← h4.1] at h5
  have := OwnS.lt_heap h5
  have := OwnB.blk ho he
  omega
theorem ApartR.ext {w w' : World} {base k n : Nat} {p : Option Addr} {L : Nat → List UInt8} (h : ApartR w k n p) (hr : RowsAt w base (at0 k) n L) (hx : Ext w w') : ApartR w' k n p := by
  obtain ⟨P, h3, _⟩ := hr.own
  intro t ht g l c hc
  have h4 := hx.cell (h3 t ht).1 id
  rw [hc] at h4
  exact h t ht g l c (by rw [(h3 t ht).1, h4])

section
variable (k m n : Nat) (hs : List Bool) (L : List (List UInt8))
/-- a column put right; where it was wrong; rows and marks, as far as x -/
noncomputable def colD (t : Nat) : List UInt8 := (decM k m (wordAt n hs L t) (nots hs)).getD []
noncomputable def difD (t : Nat) : List Nat := dif n (nots hs) (colD k m n hs L t) (wordAt n hs L t)
noncomputable def rowD (x i : Nat) : List UInt8 := (List.range x).map fun t => co (colD k m n hs L t) i
noncomputable def flgD (x i : Nat) : Bool := (List.range x).any fun t => decide (i ∈ difD k m n hs L t)
theorem rowD_succ (x i : Nat) : rowD k m n hs L (x + 1) i = rowD k m n hs L x i ++ [co (colD k m n hs L x) i] := by simp [rowD, List.range_succ]
theorem rowD_len (x i : Nat) : (rowD k m n hs L x i).length = x := by simp [rowD]
theorem flgD_succ (x i : Nat) : flgD k m n hs L (x + 1) i = (flgD k m n hs L x i || decide (i ∈ difD k m n hs L x)) := by simp [flgD, List.range_succ, List.any_append]
theorem flgD_iff (x i : Nat) : flgD k m n hs L x i = true ↔ ∃ t, t < x ∧ i ∈ difD k m n hs L t := by simp [flgD]
end
/-- a row of marks -/
def fRow (n : Nat) (ff : Nat → Bool) : Array Value := ((List.range n).map fun i => Value.bool (ff i)).toArray
theorem fRow_get {n i : Nat} {ff : Nat → Bool} (hi : i < n) : (fRow n ff)[i]? = some (.bool (ff i)) := by simp [fRow, hi]
theorem fRow_set {n x : Nat} {ff : Nat → Bool} : (fRow n ff).setIfInBounds x (.bool true) = fRow n fun i => ff i || decide (i = x) := by
  apply Array.ext_getElem?
  intro i
  rw [Array.getElem?_setIfInBounds]
  by_cases hi : i < n
  · rw [fRow_get hi, fRow_get hi]
    by_cases e : x = i
    · subst e
      rw [if_pos rfl, if_pos (by simp [fRow, hi])]
      simp
    · rw [if_neg e, decide_eq_false (fun h => e h.symm), Bool.or_false]
  · have h1 : (fRow n ff)[i]? = none := by simp [fRow, hi]
    have h2 : (fRow n fun i => ff i || decide (i = x))[i]? = none := by simp [fRow, hi]
    rw [h1, h2]
    split
    · rw [if_neg (by simp [fRow]; omega)]
    · rfl
def RSt (w w1 : World) (q11 q13 : Option Addr) (n : Nat) (Lf : Nat → List UInt8) (ff : Nat → Bool) : Prop := Ext w w1 ∧ ∃ k11 k13, q11 = some (at0 k11) ∧ q13 = some (at0 k13) ∧ w.heap.size ≤ k11 ∧ w.heap.size ≤ k13 ∧ RowsAt w1 w.heap.size (at0 k11) n Lf ∧ RowK w1 k13 4 (fRow n ff)
theorem RSt.open_ {w w1 : World} {k11 k13 n : Nat} {Lf : Nat → List UInt8} {ff : Nat → Bool} (h : RSt w w1 (some (at0 k11)) (some (at0 k13)) n Lf ff) : Ext w w1 ∧ w.heap.size ≤ k11 ∧ w.heap.size ≤ k13 ∧ RowsAt w1 w.heap.size (at0 k11) n Lf ∧ RowK w1 k13 4 (fRow n ff) := by
  obtain ⟨hx, a, b, e1, e2, h1, h2, h3, h4⟩ := h
  simp only [Option.some.injEq, at0, Addr.mk.injEq, and_true] at e1 e2
  subst e1 e2
  exact ⟨hx, h1, h2, h3, h4⟩

/-- what shards put right are told as -/
def rshardsP (w : World) (k m : Int) (l3 l4 : Nat) (hs : List Bool) (L : List (List UInt8)) (v : Value) (w' : World) : Prop := Ext w w' ∧
  ((¬ kmOk k m ∧ v = .tuple #[.slice none 0 0, .slice none 0 0, .int .i64 50]) ∨
   (kmOk k m ∧ (∀ s, ¬ Sized k m l3 l4 hs L s) ∧ v = .tuple #[.slice none 0 0, .slice none 0 0, .int .i64 60]) ∨
   kmOk k m ∧ ∃ s, Sized k m l3 l4 hs L s ∧ (((∃ x, x < s ∧ decM k.toNat m.toNat (wordAt l3 hs L x) (nots hs) = none) ∧ v = .tuple #[.slice none 0 0, .slice none 0 0, .int .i64 100]) ∨
    ∃ cs : List (List UInt8), cs.length = s ∧ (∀ x, x < s → decM k.toNat m.toNat (wordAt l3 hs L x) (nots hs) = some (cs.getD x [])) ∧ ∃ ko p2 n2 c2 W, v = .tuple #[.slice (some (at0 ko)) l3 l3, .slice p2 n2 c2, .int .i64 0] ∧
      RowsAt w' w.heap.size (at0 ko) l3 (fun i => cs.map fun c => co c i) ∧ OwnN w' w.heap.size p2 n2 c2 W ∧ W.Pairwise (· < ·) ∧ ∀ i, i ∈ W ↔ ∃ x, x < s ∧ i ∈ dif l3 (nots hs) (cs.getD x []) (wordAt l3 hs L x)))

set_option maxRecDepth 20000 in
set_option maxHeartbeats 8000000 in
theorem rshards_ok {p3 p4 : Option Addr} {w : World} {k m l3 c3 l4 c4 s : Nat} {hs : List Bool} {L : List (List UInt8)} (h3 : FlagsAt w p3 l3 hs) (h4 : ListsAt w p4 l4 L) (hk1 : 1 ≤ k) (hkm : k + m ≤ 256) (hsz : Sized k m l3 l4 hs L s) (hs0 : s ≤ 1048576) :
    Calls Try.prog 17 #[.int .i64 (k : Int), .int .i64 (m : Int), .slice p3 l3 c3, .slice p4 l4 c4] w fun e w' => ∃ v, e = .returned v ∧ rshardsP w k m l3 l4 hs L v w' := by
  have hk : kmOk (k : Int) (m : Int) := ⟨by omega, by omega, by omega, by omega⟩
  have z1 := hsz.1
  have z2 := hsz.2.1
  obtain ⟨n, hn⟩ : ∃ n, n = k + m := ⟨_, rfl⟩
  obtain rfl : l3 = n := by omega
  obtain rfl : l4 = l3 := by omega
  have hhl := h3.1
  refine F17_calls k m p3 l4 c3 p4 l4 c4 w (rshardsP w k m l4 l4 hs L)
    (fun _ q11 _ _ q13 _ _ _ x w23 => 0 ≤ x ∧ x ≤ s ∧ (∀ t : Nat, (t : Int) < x → decM k m (wordAt l4 hs L t) (nots hs) = some (colD k m l4 hs L t)) ∧ RSt w w23 q11 q13 l4 (rowD k m l4 hs L x.toNat) (flgD k m l4 hs L x.toNat)) (fun _ _ _ _ _ _ _ _ x _ => (s - x).toNat)
    (fun _ _ _ _ _ _ _ x w23 p123 l123 c123 p124 l124 c124 i w126 => 0 ≤ i ∧ i ≤ l4 ∧ Ext w23 w126 ∧ OwnB w126 w23.heap.size p123 l123 c123 ((wordAt l4 hs L x.toNat).take i.toNat) ∧ OwnF w126 w23.heap.size p124 l124 c124 ((nots hs).take i.toNat)) (fun _ _ _ _ _ _ _ _ _ _ _ _ _ _ _ i _ => (l4 - i).toNat)
    (fun _ q11 _ _ q13 _ _ x p186 l186 c186 p187 l187 c187 _ i w204 => 0 ≤ i ∧ i ≤ l4 ∧ RSt w w204 q11 q13 l4 (fun t => if (t : Int) < i then rowD k m l4 hs L (x.toNat + 1) t else rowD k m l4 hs L x.toNat t) (flgD k m l4 hs L x.toNat) ∧ OwnB w204 w.heap.size p186 l186 c186 (colD k m l4 hs L x.toNat) ∧ l186 = l4 ∧
      (∀ k11, q11 = some (at0 k11) → ApartR w204 k11 l4 p186) ∧ OwnN w204 w.heap.size p187 l187 c187 (difD k m l4 hs L x.toNat)) (fun _ _ _ _ _ _ _ _ _ _ _ _ _ _ _ i _ => (l4 - i).toNat)
    (fun _ _ _ _ q13 _ _ x _ l187 _ w204 j w247 => 0 ≤ j ∧ j ≤ l187 ∧ ∃ k13, q13 = some (at0 k13) ∧ Upd (fun y => y = k13) w204 w247 ∧ RowK w247 k13 4 (fRow l4 fun i => flgD k m l4 hs L x.toNat i || decide (i ∈ (difD k m l4 hs L x.toNat).take j.toNat))) (fun _ _ _ _ _ _ _ _ _ l187 _ _ j _ => (l187 - j).toNat)
    (fun _ _ _ _ _ _ w23 p l c i w271 => 0 ≤ i ∧ i ≤ l4 ∧ Ext w23 w271 ∧ OwnN w271 w23.heap.size p l c ((List.range i.toNat).filter (flgD k m l4 hs L s))) (fun _ _ _ _ _ _ _ _ _ _ i _ => (l4 - i).toNat) ?_
  refine (rcheck_spec k m w).mono ?_
  rintro e w5 ⟨rfl, rfl⟩
  rw [kmE_ok hk, w64 (n := (k : Int) + m) (by omega), show (k : Int) + (m : Int) = (l4 : Int) by omega, Int.toNat_natCast]
  refine ⟨_, rfl, condB_of (fun h => by simp at h) fun _ => condB_of (fun h => by simp at h) fun _ => condB_of (fun h => by simp at h) fun _ => ?_⟩
  refine (rsized_spec (c3 := c3) (c4 := c4) h3 h4 hk (by omega) (by omega)).mono ?_
  rintro e w8 ⟨⟨r, rfl, ⟨_, hno⟩ | ⟨hr0, hr⟩⟩, rfl⟩
  · exact (hno _ hsz).elim
  obtain rfl : r = (s : Int) := by have := hr.one hsz; omega
  refine ⟨_, rfl, condB_of (fun h => by simp only [decide_eq_true_eq] at h; omega) fun _ => ⟨⟨by omega, by omega, by omega⟩, fun k11 w12 h11 => ⟨⟨by omega, by omega, by omega⟩, fun k13 w14 h13 => ?_⟩⟩⟩
  rw [made_one 22 (.slice none 0 0) (by kernel_rfl) l4] at h11
  rw [made_one 4 (.bool false) (by kernel_rfl) l4] at h13
  have x14 := h11.ext.trans h13.ext
  have n11 : w8.heap.size ≤ k11 := by rw [h11.size.1]; exact Nat.le_refl _
  have n13 : w8.heap.size ≤ k13 := by rw [h13.size.1]; have := h11.size.2; omega
  have r11 : RowK w14 k11 22 (List.replicate l4 (.slice none 0 0)).toArray := h13.ext.keep h11.at
  have r13 : RowK w14 k13 4 (fRow l4 (flgD k m l4 hs L 0)) := by
    have e : fRow l4 (flgD k m l4 hs L 0) = (List.replicate l4 (Value.bool false)).toArray := by
      unfold fRow
      congr 1
      refine List.ext_getElem (by simp) fun i h1 h2 => ?_
      simp [flgD]
    rw [e]; exact h13.at
  refine ⟨⟨by omega, by omega, fun t ht => by omega, x14, k11, k13, rfl, rfl, n11, n13, ⟨fun _ => ⟨_, r11⟩, fun _ => (none, 0, 0), fun i hi => ⟨?_, ?_⟩, fun _ _ _ _ _ g hg => by cases hg⟩, r13⟩, ?_⟩
  · rw [rowk_cell r11]; simp [hi]
  · have e : rowD k m l4 hs L (0 : Int).toNat i = [] := rfl
    rw [e]; exact OwnS.nil _ _ _ _
  clear r11 r13 h11 h13
  rintro xI w23 ⟨hx0, hx1, hdec, hst⟩
  obtain ⟨x, rfl⟩ := Int.eq_ofNat_of_zero_le hx0
  simp only [Int.toNat_natCast] at hst
  obtain ⟨xw23, n11, n13, hR, hF⟩ := hst.open_
  intros
  refine condB_of (fun hsx => ?_) (fun hsx => ?_)
  · simp only [decide_eq_true_eq] at hsx
    refine ⟨⟨by omega, by omega, Upd.refl _ _, ?_, ?_⟩, ?_⟩
    · rw [show (wordAt l4 hs L (x : Int).toNat).take (0 : Int).toNat = [] from rfl]; exact OwnS.nil _ _ _ _
    · rw [show (nots hs).take (0 : Int).toNat = [] from rfl]; exact OwnS.nil _ _ _ _
    rintro p123 l123 c123 p124 l124 c124 iI w126 ⟨hi0, hi1, x126, oB, oF⟩
    obtain ⟨i, rfl⟩ := Int.eq_ofNat_of_zero_le hi0
    simp only [Int.toNat_natCast] at oB oF
    have lB := OwnB.len oB
    rw [List.length_take, wordAt_len] at lB
    have lF := OwnF.len oF
    rw [List.length_take, show (nots hs).length = l4 by simp [nots]; omega] at lF
    have xw126 := xw23.trans x126
    intros
    refine condB_of (fun hsi => ?_) (fun hsi => ?_)
    · simp only [decide_eq_true_eq] at hsi
      obtain ⟨a3, rfl, hc3⟩ := (h3.ext xw126).get (i := i) (by omega)
      have tail : ∀ (k164 : Nat) (w165 : World) (b : UInt8), b = co (wordAt l4 hs L x) i → NewB w126 k164 (.cells #[vb b] 5) w165 → F17_A0 p123 l123 c123 k164 w165 (i : Int) l4 (some a3) p124 l124 c124 (s : Int) k11 k m k13 (x : Int) w23 w126 (rshardsP w8 k m l4 l4 hs L) (fun _ _ _ _ _ _ _ _ _ _ => True) (fun _ _ _ _ _ _ _ _ _ _ => 0)
        (fun _ _ _ _ _ _ _ x w23 p123 l123 c123 p124 l124 c124 i w126 => 0 ≤ i ∧ i ≤ l4 ∧ Ext w23 w126 ∧ OwnB w126 w23.heap.size p123 l123 c123 ((wordAt l4 hs L x.toNat).take i.toNat) ∧ OwnF w126 w23.heap.size p124 l124 c124 ((nots hs).take i.toNat)) (fun _ _ _ _ _ _ _ _ _ _ _ _ _ _ _ i _ => (l4 - i).toNat)
        (fun _ _ _ _ _ _ _ _ _ _ _ _ _ _ _ _ _ => True) (fun _ _ _ _ _ _ _ _ _ _ _ _ _ _ _ _ _ => 0) (fun _ _ _ _ _ _ _ _ _ _ _ _ _ _ => True) (fun _ _ _ _ _ _ _ _ _ _ _ _ _ _ => 0) (fun _ _ _ _ _ _ _ _ _ _ _ _ => True) (fun _ _ _ _ _ _ _ _ _ _ _ _ => 0) := by
        rintro k164 w165 b rfl h164
        unfold F17_A0
        obtain ⟨p', c', w166, hr, oB', uB⟩ := OwnB.push oB h164 x126.size (by omega)
        have x166 : Ext w23 w166 := OwnB.new_ext x126 uB fun y hy => OwnB.blk oB hy
        have oF166 : OwnF w166 w23.heap.size p124 l124 c124 ((nots hs).take i) := OwnS.other oF uB fun y hy => by
          obtain ⟨cs, e', fz, h7, h8⟩ := OwnS.typed oB hy
          exact ⟨cs, e', fz, h7, by rw [h8]; exact ty_all.1.symm⟩
        obtain ⟨a3', e, hc3'⟩ := (h3.ext (xw23.trans x166)).get (i := i) (by omega)
        cases e
        refine ⟨_, _, _, w166, hr, ⟨hi0, by omega⟩, _, by rw [Int.toNat_natCast, Nat.mul_one]; exact hc3', fun k170 w171 h170 => ?_⟩
        obtain ⟨p2, c2, w172, hr2, oF', uF⟩ := OwnF.push oF166 h170 x166.size (by omega)
        have x172 : Ext w23 w172 := OwnB.new_ext x166 uF fun y hy => OwnS.blk oF166 hy
        have oB172 := OwnB.other oB' uF fun y hy => by
          obtain ⟨cs, e', fz, h7, h8⟩ := OwnS.typed oF166 hy
          exact ⟨cs, e', fz, h7, by rw [h8]; exact ty_all.1⟩
        rw [w64 (n := (i : Int) + 1) (by omega)]
        refine ⟨_, _, _, w172, hr2, ⟨by omega, by omega, x172, ?_, ?_⟩, by show ((l4 : Int) - ((i : Int) + 1)).toNat < ((l4 : Int) - i).toNat; omega⟩
        · have e : (wordAt l4 hs L (x : Int).toNat).take ((i : Int) + 1).toNat = (wordAt l4 hs L x).take i ++ [co (wordAt l4 hs L x) i] := by
            rw [Int.toNat_natCast, show ((i : Int) + 1).toNat = i + 1 by omega, List.take_add_one, List.getElem?_eq_getElem (by rw [wordAt_len]; omega)]
            simp [Gf.co, List.getD_eq_getElem?_getD, List.getElem?_eq_getElem (show i < (wordAt l4 hs L x).length by rw [wordAt_len]; omega)]
          rw [e]; exact oB172
        · have e : (nots hs).take ((i : Int) + 1).toNat = (nots hs).take i ++ [!hs.getD i false] := by
            rw [show ((i : Int) + 1).toNat = i + 1 by omega, List.take_add_one, List.getElem?_eq_getElem (by simp [nots]; omega)]
            simp [nots, List.getD_eq_getElem?_getD, List.getElem?_eq_getElem (show i < hs.length by omega)]
          rw [e]; exact oF'
      have hcw := co_wordAt (hs := hs) (L := L) (i := x) (show i < l4 by omega)
      refine ⟨⟨hi0, hsi⟩, _, by rw [Int.toNat_natCast, Nat.mul_one]; exact hc3, condB_of (fun hb => ?_) (fun hb => ?_)⟩
      · have hb' : hs.getD i false = true := hb
        obtain ⟨a4, q, ln, cn, rfl, hc, hq, _⟩ := (h4.ext xw126).2 i (by omega)
        have hlen := hsz.2.2.2 i (by omega) hb'
        have hql := hq.1
        obtain ⟨aq, rfl, hcq⟩ := BytesAt.co hq (i := x) (by omega)
        refine ⟨⟨hi0, by omega⟩, some aq, ln, cn, by rw [Int.toNat_natCast, Nat.mul_one]; exact hc, ⟨by omega, by omega⟩, _, by rw [Int.toNat_natCast, Nat.mul_one]; exact hcq, fun k164 w165 h164 => ?_⟩
        exact tail k164 w165 _ (by rw [hcw, if_pos hb']) h164
      · have hb' : hs.getD i false = false := hb
        intro k174 w175 h174
        exact tail k174 w175 0 (by rw [hcw, hb', if_neg (by simp)]) h174
    · simp only [decide_eq_false_iff_not] at hsi
      obtain rfl : i = l4 := by omega
      rw [List.take_of_length_le (by rw [wordAt_len]; omega)] at oB
      rw [List.take_of_length_le (by simp [nots]; omega)] at oF
      obtain rfl : l123 = i := by omega
      obtain rfl : l124 = l123 := by omega
      refine (rword10_spec (c3 := c123) (c4 := c124) (OwnB.bytes oB) (OwnF.flags oF) k m).mono ?_
      rintro e w184 ⟨_, rfl, x184, ⟨h, _⟩ | ⟨_, h, _⟩ | ⟨_, _, _, ⟨hd, rfl⟩ | ⟨c, hd, p186, c186, p187, l187, c187, rfl, oC, oD⟩⟩⟩
      · exact (h hk).elim
      · exact (h ⟨by omega, by omega⟩).elim
      · refine ⟨_, _, _, _, _, _, _, rfl, condB_of (fun _ => ?_) (fun h => by simp at h)⟩
        exact ⟨xw126.trans x184, .inr (.inr ⟨hk, s, hsz, .inl ⟨⟨x, by omega, hd⟩, rfl⟩⟩)⟩
      simp only [Int.toNat_natCast] at hd oD
      have hcD : colD k m l124 hs L x = c := by unfold colD; rw [hd]; rfl
      have hdD : difD k m l124 hs L x = dif (k + m) (nots hs) c (wordAt l124 hs L x) := by unfold difD; rw [hcD, hn]
      rw [← hcD] at oC
      rw [← hdD] at oD
      have lD := OwnN.len oD
      have xw184 := xw126.trans x184
      refine ⟨_, _, _, _, _, _, _, rfl, condB_of (fun h => by simp at h) fun _ => ?_⟩
      refine ⟨⟨by omega, by omega, ⟨xw184, k11, k13, rfl, rfl, n11, n13, ((hR.ext x126).ext x184).congr fun t ht => by rw [if_neg (by omega)]; rfl, x184.keep (x126.keep hF)⟩, OwnB.base_le oC xw126.size, rfl, fun k11' e => ?_, OwnS.base_le oD xw126.size⟩, ?_⟩
      · simp only [Option.some.injEq, at0, Addr.mk.injEq, and_true] at e
        subst e
        exact (hR.ext x126).apart_new x184 oC
      clear oC oD
      rintro iI w204 ⟨hi0, hi1, hst, oC, _, hap, oD⟩
      obtain ⟨i, rfl⟩ := Int.eq_ofNat_of_zero_le hi0
      simp only [Int.toNat_natCast] at hst oC oD
      obtain ⟨xw204, _, _, hR4, hF4⟩ := hst.open_
      have hap := hap k11 rfl
      intros
      refine condB_of (fun hsi => ?_) (fun hsi => ?_)
      · simp only [decide_eq_true_eq] at hsi
        intro w225 hd2
        have xw225 := xw204.trans hd2.ext
        have hR5 := hR4.ext hd2.ext
        have hap5 := hap.ext hR4 hd2.ext
        have oC5 := OwnB.ext oC hd2.ext
        have oD5 : OwnN w225 w8.heap.size p187 l187 c187 (difD k m l124 hs L x) := OwnS.ext oD hd2.ext
        obtain ⟨P, g3, _⟩ := hR5.own
        have hcell := (g3 i (by omega)).1
        obtain ⟨aC, rfl, hcb⟩ := BytesAt.co (OwnB.bytes oC5) (i := i) (by omega)
        refine ⟨⟨hi0, hsi⟩, _, _, _, by rw [Int.toNat_natCast, Nat.mul_one]; exact hcell, ⟨hi0, hsi⟩, _, by rw [Int.toNat_natCast, Nat.mul_one]; exact hcb, fun k229 w230 h229 => ?_⟩
        have o229 := row_bytes (bs := [co (colD k m l124 hs L x) i]) h229 (by unfold maxLen; simp)
        have hR6 := hR5.ext h229.ext
        obtain ⟨p0, l0, c0, hcell6, p', l', c', w2, hr, hlive, hset⟩ := hR6.append2 (i := i) (m := 1) (d := 1) (by omega) (OwnB.bytes o229) (by omega) (xw225.trans h229.ext).size n11 (by rw [if_neg (by omega), rowD_len]; omega) (OwnB.ext oC5 h229.ext) (hap5.ext hR5 h229.ext)
        have hcell7 := h229.ext.cell hcell id
        rw [hcell6] at hcell7
        simp only [Option.some.injEq, Value.slice.injEq] at hcell7
        obtain ⟨e1, e2, e3⟩ := hcell7
        rw [e1, e2, e3] at hcell6 hr
        refine ⟨⟨_, _, _, by rw [Int.toNat_natCast, Nat.mul_one]; exact hcell6, rfl⟩, p', l', c', w2, hr, ⟨hi0, hsi⟩, by rw [Int.toNat_natCast, Nat.mul_one]; exact hlive, fun w234 s234 => ?_⟩
        rw [Int.toNat_natCast, Nat.mul_one] at s234
        obtain ⟨hR7, hX, ⟨S, hU, hS⟩, oC7, hap7⟩ := hset w234 s234
        rw [w64 (n := (i : Int) + 1) (by omega)]
        refine ⟨⟨by omega, by omega, ⟨hX w8 (xw225.trans h229.ext) (Nat.le_refl _), k11, k13, rfl, rfl, n11, n13, hR7.congr fun t ht => ?_, ?_⟩, oC7, rfl, fun k11' e => ?_, ?_⟩, by show ((l124 : Int) - ((i : Int) + 1)).toNat < ((l124 : Int) - i).toNat; omega⟩
        · rw [Int.toNat_natCast]
          by_cases e : t = i
          · subst e
            rw [if_pos (by omega), if_pos rfl, if_neg (by omega), rowD_succ]
          · rw [if_neg e]
            by_cases e2 : (t : Int) < i
            · rw [if_pos (by omega), if_pos e2]
            · rw [if_neg (by omega), if_neg e2]
        · rw [Int.toNat_natCast]
          refine RowK.keep (h229.ext.keep (hd2.ext.keep hF4)) hU fun y hy => ?_
          obtain ⟨cs, e', fz, h7, h8⟩ := hS y hy
          rcases h8 with rfl | rfl
          · exact ⟨cs, _, fz, h7, ty_all.1.symm⟩
          · exact ⟨cs, _, fz, h7, ty_all.2.1.symm⟩
        · simp only [Option.some.injEq, at0, Addr.mk.injEq, and_true] at e
          subst e
          exact hap7
        · refine OwnS.other (OwnS.ext oD5 h229.ext) hU fun y hy => ?_
          obtain ⟨cs, e', fz, h7, h8⟩ := hS y hy
          rcases h8 with rfl | rfl
          · exact ⟨cs, _, fz, h7, ity.1.symm⟩
          · exact ⟨cs, _, fz, h7, ty_int.2.1.symm⟩
      · simp only [decide_eq_false_iff_not] at hsi
        obtain rfl : i = l124 := by omega
        refine ⟨⟨by omega, by omega, k13, rfl, Upd.refl _ _, ?_⟩, ?_⟩
        · have e : (fun i' => flgD k m i hs L (x : Int).toNat i' || decide (i' ∈ (difD k m i hs L (x : Int).toNat).take (0 : Int).toNat)) = flgD k m i hs L x := by
            funext i'
            rw [Int.toNat_natCast, show (difD k m i hs L x).take (0 : Int).toNat = [] from rfl]
            simp
          rw [e]; exact hF4
        rintro jI w247 ⟨hj0, hj1, k13', e13, u247, hF7⟩
        simp only [Option.some.injEq, at0, Addr.mk.injEq, and_true] at e13
        subst e13
        obtain ⟨j, rfl⟩ := Int.eq_ofNat_of_zero_le hj0
        simp only [Int.toNat_natCast] at hF7
        intros
        have xw247 : Ext w8 w247 := ext_upd xw204 n13 u247
        have ldd : (difD k m i hs L x).length ≤ i := dif_len_le
        have tyF : ∀ y, y = k13 → ∃ (cs : Array Value) (e : TypeId) (fz : Nat × Nat), w204.heap[y]? = some (Obj.cells cs e fz) ∧ e = 4 := by rintro y rfl; exact ⟨_, _, (0, 0), hF4, rfl⟩
        refine condB_of (fun hsj => ?_) (fun hsj => ?_)
        · simp only [decide_eq_true_eq] at hsj
          have oD7 : OwnN w247 w8.heap.size p187 l187 c187 (difD k m i hs L x) := OwnS.other oD u247 fun y hy => by
            obtain ⟨cs, e, fz, h7, h8⟩ := tyF y hy
            exact ⟨cs, e, fz, h7, by rw [h8]; exact ity.2.symm⟩
          obtain ⟨aD, rfl, hcd⟩ := (OwnN.nats oD7).get (i := j) (by omega)
          have hlt : (difD k m i hs L x).getD j 0 < i := by
            rw [List.getD_eq_getElem?_getD, List.getElem?_eq_getElem (by omega)]
            have := List.getElem_mem (l := difD k m i hs L x) (show j < (difD k m i hs L x).length by omega)
            simp only [difD, dif, List.mem_filter, List.mem_range] at this
            exact this.1
          refine ⟨⟨hj0, hsj⟩, _, by rw [Int.toNat_natCast, Nat.mul_one]; exact hcd, ⟨by omega, by omega⟩, by rw [Int.toNat_natCast, Nat.mul_one]; exact hF7.live3 (by simp [fRow]; exact hlt), fun w262 s262 => ?_⟩
          rw [Int.toNat_natCast, Nat.mul_one] at s262
          obtain ⟨r262, u262⟩ := hF7.set3 s262
          rw [fRow_set] at r262
          rw [w64 (n := (j : Int) + 1) (by omega)]
          refine ⟨⟨by omega, by omega, k13, rfl, Upd.trans u247 u262 fun _ _ h => h, ?_⟩, by show ((l187 : Int) - ((j : Int) + 1)).toNat < ((l187 : Int) - j).toNat; omega⟩
          have e : (fun i' => flgD k m i hs L (x : Int).toNat i' || decide (i' ∈ (difD k m i hs L (x : Int).toNat).take ((j : Int) + 1).toNat)) = fun i' => (flgD k m i hs L x i' || decide (i' ∈ (difD k m i hs L x).take j)) || decide (i' = (difD k m i hs L x).getD j 0) := by
            funext i'
            have e2 : (difD k m i hs L x).take (j + 1) = (difD k m i hs L x).take j ++ [(difD k m i hs L x).getD j 0] := by
              rw [List.take_add_one, List.getElem?_eq_getElem (by omega)]
              simp [List.getD_eq_getElem?_getD, List.getElem?_eq_getElem (show j < (difD k m i hs L x).length by omega)]
            rw [Int.toNat_natCast, show ((j : Int) + 1).toNat = j + 1 by omega, e2, Bool.or_assoc]
            congr 1
            simp [List.mem_append, Bool.decide_or]
          rw [e]; exact r262
        · simp only [decide_eq_false_iff_not] at hsj
          have etk : (difD k m i hs L x).take j = difD k m i hs L x := List.take_of_length_le (by omega)
          simp only [etk, Int.toNat_natCast] at hF7
          rw [w64 (n := (x : Int) + 1) (by omega)]
          have hnx : ((x : Int) + 1).toNat = x + 1 := by omega
          refine ⟨⟨by omega, by omega, fun t ht => ?_, xw247, k11, k13, rfl, rfl, n11, n13, ?_, ?_⟩, by show ((s : Int) - ((x : Int) + 1)).toNat < ((s : Int) - x).toNat; omega⟩
          · by_cases e : t < x
            · exact hdec t (by omega)
            · obtain rfl : t = x := by omega
              rw [hcD]; exact hd
          · rw [hnx]
            refine (hR4.otherT u247 fun y hy => ?_).congr fun t ht => by rw [if_pos (by omega)]
            obtain ⟨cs, e, fz, h7, h8⟩ := tyF y hy
            exact ⟨cs, e, fz, h7, by rw [h8]; exact ty_all.1, by rw [h8]; exact ty_all.2.1⟩
          · rw [hnx]
            have e : flgD k m i hs L (x + 1) = fun i' => flgD k m i hs L x i' || decide (i' ∈ difD k m i hs L x) := by funext i'; exact flgD_succ _ _ _ _ _ _ _
            rw [e]; exact hF7
  · simp only [decide_eq_false_iff_not] at hsx
    obtain rfl : x = s := by omega
    refine ⟨⟨by omega, by omega, Upd.refl _ _, by rw [show (List.range (0 : Int).toNat).filter (flgD k m l4 hs L x) = [] from rfl]; exact OwnS.nil _ _ _ _⟩, ?_⟩
    rintro p l c iI w271 ⟨hi0, hi1, x271, oN⟩
    obtain ⟨i, rfl⟩ := Int.eq_ofNat_of_zero_le hi0
    simp only [Int.toNat_natCast] at oN
    have lN := OwnN.len oN
    have hfl : ((List.range i).filter (flgD k m l4 hs L x)).length ≤ i := Nat.le_trans (List.length_filter_le _ _) (by simp)
    intros
    refine condB_of (fun hsi => ?_) (fun hsi => ?_)
    · simp only [decide_eq_true_eq] at hsi
      have hF7 : RowK w271 k13 4 (fRow l4 (flgD k m l4 hs L x)) := x271.keep hF
      have hcell := hF7.cell3 (fRow_get (ff := flgD k m l4 hs L x) (show i < l4 by omega))
      have hnx : ((i : Int) + 1).toNat = i + 1 := by omega
      have hmeas : ((l4 : Int) - ((i : Int) + 1)).toNat < ((l4 : Int) - i).toNat := by omega
      rw [w64 (n := (i : Int) + 1) (by omega)]
      refine ⟨⟨hi0, hsi⟩, _, by rw [Int.toNat_natCast, Nat.mul_one]; exact hcell, condB_of (fun hb => ?_) (fun hb => ?_)⟩
      · intro k288 w289 h288
        obtain ⟨p', c', w290, hr, oN', hu⟩ := OwnN.push oN h288 x271.size (by omega)
        refine ⟨_, _, _, w290, hr, ⟨by omega, by omega, OwnB.new_ext x271 hu fun y hy => OwnS.blk oN hy, ?_⟩, hmeas⟩
        rw [hnx, range_filter_succ, if_pos hb]; exact oN'
      · refine ⟨⟨by omega, by omega, x271, ?_⟩, hmeas⟩
        rw [hnx, range_filter_succ, hb, if_neg (by simp), List.append_nil]; exact oN
    · simp only [decide_eq_false_iff_not] at hsi
      obtain rfl : i = l4 := by omega
      have hcs : ∀ t, t < x → ((List.range x).map (colD k m i hs L)).getD t [] = colD k m i hs L t := fun t ht => by simp [List.getD_eq_getElem?_getD, ht]
      refine ⟨xw23.trans x271, .inr (.inr ⟨hk, x, hsz, .inr ⟨(List.range x).map (colD k m i hs L), by simp, fun t ht => ?_, k11, p, l, c, _, rfl, (hR.ext x271).congr fun t ht => ?_, OwnS.base_le oN xw23.size, List.Pairwise.filter _ List.pairwise_lt_range, fun t => ?_⟩⟩)⟩
      · rw [hcs t ht]; exact hdec t (by omega)
      · rw [List.map_map]; rfl
      · simp only [List.mem_filter, List.mem_range, flgD_iff]
        constructor
        · rintro ⟨_, y, hy, h⟩
          exact ⟨y, hy, by rw [hcs y hy]; exact h⟩
        · rintro ⟨y, hy, h⟩
          rw [hcs y hy] at h
          have h' := h
          simp only [dif, List.mem_filter, List.mem_range] at h'
          exact ⟨h'.1, y, hy, h⟩

theorem rshards_spec {p3 p4 : Option Addr} {w : World} {l3 c3 l4 c4 : Nat} {hs : List Bool} {L : List (List UInt8)} (h3 : FlagsAt w p3 l3 hs) (h4 : ListsAt w p4 l4 L) (k m : Int) (bl : ∀ x ∈ L, x.length ≤ 1048576) :
    Calls Try.prog 17 #[.int .i64 k, .int .i64 m, .slice p3 l3 c3, .slice p4 l4 c4] w fun e w' => ∃ v, e = .returned v ∧ rshardsP w k m l3 l4 hs L v w' := by
  have trivial_ : ((¬ kmOk k m) ∨ kmOk k m ∧ ∀ s, ¬ Sized k m l3 l4 hs L s) → Calls Try.prog 17 #[.int .i64 k, .int .i64 m, .slice p3 l3 c3, .slice p4 l4 c4] w fun e w' => ∃ v, e = .returned v ∧ rshardsP w k m l3 l4 hs L v w' := by
    intro hbad
    refine F17_calls k m p3 l3 c3 p4 l4 c4 w (rshardsP w k m l3 l4 hs L) (fun _ _ _ _ _ _ _ _ _ _ => True) (fun _ _ _ _ _ _ _ _ _ _ => 0) (fun _ _ _ _ _ _ _ _ _ _ _ _ _ _ _ _ _ => True) (fun _ _ _ _ _ _ _ _ _ _ _ _ _ _ _ _ _ => 0)
      (fun _ _ _ _ _ _ _ _ _ _ _ _ _ _ _ _ _ => True) (fun _ _ _ _ _ _ _ _ _ _ _ _ _ _ _ _ _ => 0) (fun _ _ _ _ _ _ _ _ _ _ _ _ _ _ => True) (fun _ _ _ _ _ _ _ _ _ _ _ _ _ _ => 0) (fun _ _ _ _ _ _ _ _ _ _ _ _ => True) (fun _ _ _ _ _ _ _ _ _ _ _ _ => 0) ?_
    refine (rcheck_spec k m w).mono ?_
    rintro e w5 ⟨rfl, rfl⟩
    rcases hbad with hk | ⟨hk, hno⟩
    · rw [kmE_bad hk]
      exact ⟨_, rfl, condB_of (fun _ => ⟨Upd.refl _ _, .inl ⟨hk, rfl⟩⟩) fun h => by simp at h⟩
    · obtain ⟨a1, a2, a3, a4⟩ := hk
      have hk : kmOk k m := ⟨a1, a2, a3, a4⟩
      have fin : rshardsP w5 k m l3 l4 hs L (.tuple #[.slice none 0 0, .slice none 0 0, .int .i64 60]) w5 := ⟨Upd.refl _ _, .inr (.inl ⟨hk, hno, rfl⟩)⟩
      rw [kmE_ok hk, w64 (n := k + m) (by omega)]
      refine ⟨_, rfl, condB_of (fun h => by simp at h) fun _ => condB_of (fun h => fin) fun g3 => condB_of (fun h => fin) fun g4 => ?_⟩
      simp only [Bool.not_eq_false', decide_eq_true_eq] at g3 g4
      refine (rsized_spec (c3 := c3) (c4 := c4) h3 h4 hk g3 g4).mono ?_
      rintro e w8 ⟨⟨r, rfl, ⟨rfl, _⟩ | ⟨hr0, hr⟩⟩, rfl⟩
      · exact ⟨_, rfl, condB_of (fun _ => fin) fun h => by simp at h⟩
      · exact (hno _ hr).elim
  by_cases hk : kmOk k m
  · by_cases hsz : ∃ s, Sized k m l3 l4 hs L s
    · obtain ⟨s, hsz⟩ := hsz
      obtain ⟨a1, a2, a3, a4⟩ := hk
      obtain ⟨K, rfl⟩ := Int.eq_ofNat_of_zero_le (show 0 ≤ k by omega)
      obtain ⟨M, rfl⟩ := Int.eq_ofNat_of_zero_le (show 0 ≤ m by omega)
      refine rshards_ok h3 h4 (by omega) (by omega) hsz ?_
      obtain ⟨i, hi, hb⟩ := hsz.2.2.1
      have e4 := h4.1
      have z1 := hsz.1
      have z2 := hsz.2.1
      rw [← hsz.2.2.2 i hi hb, List.getD_eq_getElem?_getD, List.getElem?_eq_getElem (by omega)]
      exact bl _ (List.getElem_mem _)
    · exact trivial_ (.inr ⟨hk, fun s h => hsz ⟨s, h⟩⟩)
  · exact trivial_ (.inl hk)
end Go.Proofs.Ytpmkjpgoekjcfaa

/- What a word put right is told as is one thing. -/
namespace Go.Proofs.Ytpmkjpgoekjcfaa
open Go Go.Vc Go.Gf

open Classical in
/-- what is told of a word -/
noncomputable def wordA (k m : Int) (l4 l5 : Nat) (bs : List UInt8) (ms : List Bool) : List UInt8 × List Nat × Int :=
  if ¬ kmOk k m then ([], [], 50) else if ¬ ((l4 : Int) = k + m ∧ (l5 : Int) = k + m) then ([], [], 60) else
    match decM k.toNat m.toNat bs ms with
    | none => ([], [], 100)
    | some c => (c, dif (k.toNat + m.toNat) ms c bs, 0)
theorem BytesAt.nil (w : World) : BytesAt w none 0 [] := OwnB.bytes (OwnS.nil w 0 _ _)
theorem NatsAt.nil (w : World) : NatsAt w none 0 [] := OwnN.nats (OwnS.nil w 0 _ _)
theorem wordP.ans {w w' : World} {k m : Int} {l4 l5 : Nat} {bs : List UInt8} {ms : List Bool} {v : Value} (h : wordP w k m l4 l5 bs ms v w') : Ext w w' ∧ ∃ p1 n1 c1 p2 n2 c2, v = .tuple #[.slice p1 n1 c1, .slice p2 n2 c2, .int .i64 (wordA k m l4 l5 bs ms).2.2] ∧
    BytesAt w' p1 n1 (wordA k m l4 l5 bs ms).1 ∧ NatsAt w' p2 n2 (wordA k m l4 l5 bs ms).2.1 ∧ n1 ≤ 256 ∧ n2 ≤ 256 := by
  obtain ⟨hx, h⟩ := h
  refine ⟨hx, ?_⟩
  rcases h with ⟨hk, rfl⟩ | ⟨hk, hl, rfl⟩ | ⟨hk, h4, h5, ⟨hd, rfl⟩ | ⟨c, hd, p1, c1, p2, n2, c2, rfl, oc, od⟩⟩
  · have e : wordA k m l4 l5 bs ms = ([], [], 50) := by unfold wordA; rw [if_pos hk]
    rw [e]
    exact ⟨_, _, _, _, _, _, rfl, BytesAt.nil _, NatsAt.nil _, by omega, by omega⟩
  · have e : wordA k m l4 l5 bs ms = ([], [], 60) := by unfold wordA; rw [if_neg (fun h => h hk), if_pos hl]
    rw [e]
    exact ⟨_, _, _, _, _, _, rfl, BytesAt.nil _, NatsAt.nil _, by omega, by omega⟩
  · have e : wordA k m l4 l5 bs ms = ([], [], 100) := by unfold wordA; rw [if_neg (fun h => h hk), if_neg (fun h => h ⟨h4, h5⟩), hd]
    rw [e]
    exact ⟨_, _, _, _, _, _, rfl, BytesAt.nil _, NatsAt.nil _, by omega, by omega⟩
  · have e : wordA k m l4 l5 bs ms = (c, dif (k.toNat + m.toNat) ms c bs, 0) := by unfold wordA; rw [if_neg (fun h => h hk), if_neg (fun h => h ⟨h4, h5⟩), hd]
    rw [e]
    obtain ⟨a1, a2, a3, a4⟩ := hk
    have := OwnN.len od
    have := dif_len_le (n := k.toNat + m.toNat) (ms := ms) (a := c) (b := bs)
    exact ⟨_, _, _, _, _, _, rfl, OwnB.bytes oc, OwnN.nats od, by omega, by omega⟩
theorem few_spec (k m : Int) (w : World) : Calls Try.prog 11 #[.int .i64 k, .int .i64 m] w fun e w' => ∃ b, e = .returned (.bool b) ∧ w' = w := by
  refine (F11_calls k m w (fun v w' => ∃ b, v = .bool b ∧ w' = w) ?_).mono (by rintro e w' ⟨v, rfl, b, rfl, h⟩; exact ⟨b, rfl, h⟩)
  refine (ccheck_spec k m w).mono ?_
  rintro e w3 ⟨rfl, rfl⟩
  exact ⟨_, rfl, condB_of (fun _ => ⟨_, rfl, rfl⟩) fun _ => condB_of (fun _ => ⟨_, rfl, rfl⟩) fun _ => ⟨_, rfl, rfl⟩⟩
end Go.Proofs.Ytpmkjpgoekjcfaa

/- What shards put right are told as is one thing. -/
namespace Go.Proofs.Ytpmkjpgoekjcfaa
open Go Go.Vc Go.Gf

/-- what is told of shards -/
def ShQ (k m : Int) (l3 l4 : Nat) (hs : List Bool) (L A : List (List UInt8)) (B : List Nat) (e : Int) : Prop :=
  (¬ kmOk k m ∧ A = [] ∧ B = [] ∧ e = 50) ∨ (kmOk k m ∧ (∀ s, ¬ Sized k m l3 l4 hs L s) ∧ A = [] ∧ B = [] ∧ e = 60) ∨
  kmOk k m ∧ ∃ s, Sized k m l3 l4 hs L s ∧ (((∃ x, x < s ∧ decM k.toNat m.toNat (wordAt l3 hs L x) (nots hs) = none) ∧ A = [] ∧ B = [] ∧ e = 100) ∨
    (∀ x, x < s → decM k.toNat m.toNat (wordAt l3 hs L x) (nots hs) ≠ none) ∧ A = (List.range l3).map (rowD k.toNat m.toNat l3 hs L s) ∧ B = (List.range l3).filter (flgD k.toNat m.toNat l3 hs L s) ∧ e = 0)
theorem ShQ.one {k m : Int} {l3 l4 : Nat} {hs : List Bool} {L A A' : List (List UInt8)} {B B' : List Nat} {e e' : Int} (h : ShQ k m l3 l4 hs L A B e) (h' : ShQ k m l3 l4 hs L A' B' e') : A = A' ∧ B = B' ∧ e = e' := by
  rcases h with ⟨h, rfl, rfl, rfl⟩ | ⟨h, g, rfl, rfl, rfl⟩ | ⟨h, s, hs1, g⟩ <;> rcases h' with ⟨h', rfl, rfl, rfl⟩ | ⟨h', g', rfl, rfl, rfl⟩ | ⟨h', s', hs1', g'⟩
  · exact ⟨rfl, rfl, rfl⟩
  · exact (h h').elim
  · exact (h h').elim
  · exact (h' h).elim
  · exact ⟨rfl, rfl, rfl⟩
  · exact (g _ hs1').elim
  · exact (h' h).elim
  · exact (g' _ hs1).elim
  · obtain rfl := hs1.one hs1'
    rcases g with ⟨⟨x, hx, hd⟩, rfl, rfl, rfl⟩ | ⟨hd, rfl, rfl, rfl⟩ <;> rcases g' with ⟨⟨x', hx', hd'⟩, rfl, rfl, rfl⟩ | ⟨hd', rfl, rfl, rfl⟩
    · exact ⟨rfl, rfl, rfl⟩
    · exact (hd' x hx hd).elim
    · exact (hd x' hx' hd').elim
    · exact ⟨rfl, rfl, rfl⟩
theorem ListsAt.nil (w : World) : ListsAt w none 0 [] := ⟨rfl, fun i hi => (Nat.not_lt_zero _ hi).elim⟩
theorem cols_one {k m n s : Nat} {hs : List Bool} {L cs : List (List UInt8)} (hl : cs.length = s) (hcs : ∀ x, x < s → decM k m (wordAt n hs L x) (nots hs) = some (cs.getD x [])) : cs = (List.range s).map (colD k m n hs L) := by
  refine List.ext_getElem (by simp [hl]) fun x h1 h2 => ?_
  have hx : x < s := by omega
  rw [List.getElem_map, List.getElem_range]
  unfold colD
  rw [hcs x hx, List.getD_eq_getElem?_getD, List.getElem?_eq_getElem h1]
  rfl
theorem flg_one {k m n s : Nat} {hs : List Bool} {L : List (List UInt8)} {W : List Nat} (h1 : W.Pairwise (· < ·)) (h2 : ∀ i, i ∈ W ↔ ∃ x, x < s ∧ i ∈ dif n (nots hs) (((List.range s).map (colD k m n hs L)).getD x []) (wordAt n hs L x)) : W = (List.range n).filter (flgD k m n hs L s) := by
  refine sorted_ext h1 (List.Pairwise.filter _ List.pairwise_lt_range) fun i => ?_
  rw [h2]
  simp only [List.mem_filter, List.mem_range, flgD_iff]
  have hcs : ∀ t, t < s → ((List.range s).map (colD k m n hs L)).getD t [] = colD k m n hs L t := fun t ht => by simp [List.getD_eq_getElem?_getD, ht]
  constructor
  · rintro ⟨x, hx, h⟩
    rw [hcs x hx] at h
    have h' := h
    simp only [dif, List.mem_filter, List.mem_range] at h'
    exact ⟨h'.1, x, hx, h⟩
  · rintro ⟨_, x, hx, h⟩
    exact ⟨x, hx, by rw [hcs x hx]; exact h⟩

section
variable {w w' : World} {k m : Int} {l3 l4 : Nat} {hs : List Bool} {L : List (List UInt8)} {v : Value}
/-- what is told, in memory -/
def ShA (w w' : World) (k m : Int) (l3 l4 : Nat) (hs : List Bool) (L : List (List UInt8)) (v : Value) : Prop := Ext w w' ∧ ∃ A B e p1 n1 c1 p2 n2 c2, v = .tuple #[.slice p1 n1 c1, .slice p2 n2 c2, .int .i64 e] ∧ ShQ k m l3 l4 hs L A B e ∧
    ListsAt w' p1 n1 A ∧ NatsAt w' p2 n2 B ∧ n1 ≤ 256 ∧ n2 ≤ 256 ∧ ∀ x ∈ A, ∃ i, i < l3 ∧ hs.getD i false = true ∧ x.length = (L.getD i []).length
theorem Sh_done {s : Nat} {cs : List (List UInt8)} {W : List Nat} {ko c1 n2 c2 b : Nat} {p2 : Option Addr} (hx : Ext w w') (hk : kmOk k m) (hsz : Sized k m l3 l4 hs L s) (hl : cs.length = s) (hcs : ∀ x, x < s → decM k.toNat m.toNat (wordAt l3 hs L x) (nots hs) = some (cs.getD x []))
    (out : ListsAt w' (some (at0 ko)) l3 ((List.range l3).map fun i => cs.map fun c => co c i)) (oW : OwnN w' b p2 n2 c2 W) (h1 : W.Pairwise (· < ·)) (h2 : ∀ i, i ∈ W ↔ ∃ x, x < s ∧ i ∈ dif l3 (nots hs) (cs.getD x []) (wordAt l3 hs L x)) :
    ShA w w' k m l3 l4 hs L (.tuple #[.slice (some (at0 ko)) l3 c1, .slice p2 n2 c2, .int .i64 0]) := by
  have hc := cols_one hl hcs
  have hd : ∀ x, x < s → decM k.toNat m.toNat (wordAt l3 hs L x) (nots hs) ≠ none := fun x hx he => by rw [hcs x hx] at he; cases he
  subst hc
  have hW := flg_one h1 h2
  subst hW
  obtain ⟨a1, a2, a3, a4⟩ := hk
  have hk : kmOk k m := ⟨a1, a2, a3, a4⟩
  have z1 := hsz.1
  have lw := OwnN.len oW
  have hfl : ((List.range l3).filter (flgD k.toNat m.toNat l3 hs L s)).length ≤ l3 := Nat.le_trans (List.length_filter_le _ _) (by simp)
  have e1 : ((List.range l3).map fun i => ((List.range s).map (colD k.toNat m.toNat l3 hs L)).map fun c => co c i) = (List.range l3).map (rowD k.toNat m.toNat l3 hs L s) := List.map_congr_left fun i _ => by unfold rowD; rw [List.map_map]; rfl
  rw [e1] at out
  refine ⟨hx, _, _, _, _, _, _, _, _, _, rfl, .inr (.inr ⟨hk, s, hsz, .inr ⟨hd, rfl, rfl, rfl⟩⟩), out, OwnN.nats oW, by omega, by omega, fun x hx => ?_⟩
  obtain ⟨t, _, rfl⟩ := List.mem_map.1 hx
  obtain ⟨i, hi, hb⟩ := hsz.2.2.1
  exact ⟨i, hi, hb, by rw [rowD_len, hsz.2.2.2 i hi hb]⟩
theorem shardsP.ans (h : shardsP w k m l3 l4 hs L v w') : ShA w w' k m l3 l4 hs L v := by
  obtain ⟨hx, h⟩ := h
  rcases h with ⟨hk, rfl⟩ | ⟨hk, hno, rfl⟩ | ⟨hk, s, hsz, ⟨hd, rfl⟩ | ⟨cs, hl, hcs, ko, p2, n2, c2, W, rfl, out, oW, h1, h2⟩⟩
  · exact ⟨hx, [], [], _, _, _, _, _, _, _, rfl, .inl ⟨hk, rfl, rfl, rfl⟩, ListsAt.nil _, NatsAt.nil _, by omega, by omega, fun x hx => by cases hx⟩
  · exact ⟨hx, [], [], _, _, _, _, _, _, _, rfl, .inr (.inl ⟨hk, hno, rfl, rfl, rfl⟩), ListsAt.nil _, NatsAt.nil _, by omega, by omega, fun x hx => by cases hx⟩
  · exact ⟨hx, [], [], _, _, _, _, _, _, _, rfl, .inr (.inr ⟨hk, s, hsz, .inl ⟨hd, rfl, rfl, rfl⟩⟩), ListsAt.nil _, NatsAt.nil _, by omega, by omega, fun x hx => by cases hx⟩
  · exact Sh_done hx hk hsz hl hcs out.lists oW h1 h2
theorem rshardsP.ans (h : rshardsP w k m l3 l4 hs L v w') : ShA w w' k m l3 l4 hs L v := by
  obtain ⟨hx, h⟩ := h
  rcases h with ⟨hk, rfl⟩ | ⟨hk, hno, rfl⟩ | ⟨hk, s, hsz, ⟨hd, rfl⟩ | ⟨cs, hl, hcs, ko, p2, n2, c2, W, rfl, out, oW, h1, h2⟩⟩
  · exact ⟨hx, [], [], _, _, _, _, _, _, _, rfl, .inl ⟨hk, rfl, rfl, rfl⟩, ListsAt.nil _, NatsAt.nil _, by omega, by omega, fun x hx => by cases hx⟩
  · exact ⟨hx, [], [], _, _, _, _, _, _, _, rfl, .inr (.inl ⟨hk, hno, rfl, rfl, rfl⟩), ListsAt.nil _, NatsAt.nil _, by omega, by omega, fun x hx => by cases hx⟩
  · exact ⟨hx, [], [], _, _, _, _, _, _, _, rfl, .inr (.inr ⟨hk, s, hsz, .inl ⟨hd, rfl, rfl, rfl⟩⟩), ListsAt.nil _, NatsAt.nil _, by omega, by omega, fun x hx => by cases hx⟩
  · exact Sh_done hx hk hsz hl hcs out.lists oW h1 h2
end
end Go.Proofs.Ytpmkjpgoekjcfaa
