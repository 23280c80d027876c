/- Shards in memory of their own; what a shard adds to parity. -/
import Derived.Test.YtpmkjpgoekjcfaaH24
namespace Go.Proofs.Ytpmkjpgoekjcfaa
open Go Go.Vc Go.Gf

/-- slices that lie one behind another, each with a row of its own -/
structure RowsAt (w : World) (base : Nat) (a : Addr) (n : Nat) (L : Nat → List UInt8) : Prop where
  typ : 0 < n → ∃ cs, RowK w a.block 22 cs
  own : ∃ P : Nat → Option Addr × Nat × Nat, (∀ i, i < n → w.cell? (a.add i) = some (.slice (P i).1 (P i).2.1 (P i).2.2) ∧ OwnB w base (P i).1 (P i).2.1 (P i).2.2 (L i)) ∧
    ∀ i j, i < n → j < n → i ≠ j → ∀ g, (P i).1 = some (at0 g) → (P j).1 ≠ some (at0 g)
theorem OutAt.rows {w : World} {base k n : Nat} {L : Nat → List UInt8} (h : OutAt w base k n L) : RowsAt w base (at0 k) n L := ⟨fun _ => let ⟨cs, h1, _⟩ := h.row; ⟨cs, h1⟩, h.own⟩
section
variable {w w' : World} {base n : Nat} {a : Addr} {L : Nat → List UInt8}
theorem RowsAt.ext (h : RowsAt w base a n L) (hu : Ext w w') : RowsAt w' base a n L := by
  obtain ⟨P, h3, h4⟩ := h.own
  exact ⟨fun hn => let ⟨cs, h1⟩ := h.typ hn; ⟨cs, hu.keep h1⟩, P, fun i hi => ⟨hu.cell (h3 i hi).1 id, OwnB.ext (h3 i hi).2 hu⟩, h4⟩
theorem RowsAt.base_le {b : Nat} (h : RowsAt w base a n L) (hb : b ≤ base) : RowsAt w b a n L := by
  obtain ⟨P, h3, h4⟩ := h.own
  exact ⟨h.typ, P, fun i hi => ⟨(h3 i hi).1, OwnB.base_le (h3 i hi).2 hb⟩, h4⟩
theorem RowsAt.congr {L' : Nat → List UInt8} (h : RowsAt w base a n L) (hL : ∀ i, i < n → L' i = L i) : RowsAt w base a n L' := by
  obtain ⟨P, h3, h4⟩ := h.own
  exact ⟨h.typ, P, fun i hi => ⟨(h3 i hi).1, by rw [hL i hi]; exact (h3 i hi).2⟩, h4⟩
theorem RowsAt.lists (h : RowsAt w base a n L) : ListsAt w (some a) n ((List.range n).map L) := by
  obtain ⟨P, h3, h4⟩ := h.own
  refine ⟨by simp, fun i hi => ⟨_, _, _, _, rfl, (h3 i hi).1, ?_, OwnB.le (h3 i hi).2⟩⟩
  have : ((List.range n).map L).getD i [] = L i := by simp [List.getD_eq_getElem?_getD, hi]
  rw [this]
  exact OwnB.bytes (h3 i hi).2
/-- a byte of a row -/
theorem RowsAt.at (h : RowsAt w base a n L) {i j : Nat} (hi : i < n) (hj : j < (L i).length) : ∃ p l c g, w.cell? (a.add i) = some (.slice p l c) ∧ l = (L i).length ∧ p = some (at0 g) ∧ base ≤ g ∧ Live w ((at0 g).add j) ∧ w.cell? ((at0 g).add j) = some (vb (co (L i) j)) ∧ (∃ cs, RowK w g 5 cs) ∧
    ∀ b w', SetC w ((at0 g).add j) (vb b) w' → RowsAt w' base a n (fun t => if t = i then (L i).set j b else L t) ∧ Upd (fun x => x = g) w w' := by
  obtain ⟨P, h3, h4⟩ := h.own
  obtain ⟨hc, ho⟩ := h3 i hi
  have hl := OwnB.len ho
  obtain ⟨g, hg, hb, hlive, hcell, hset⟩ := OwnB.at ho (i := j) (by omega)
  have hrow : ∃ cs, RowK w g 5 cs := by
    rw [hg] at ho
    exact OwnB.row ho
  refine ⟨_, _, _, g, hc, hl, hg, hb, hlive, hcell, hrow, fun b w' hs => ?_⟩
  obtain ⟨h5, hu⟩ := hset b w' hs
  obtain ⟨csg, hrow⟩ := hrow
  refine ⟨⟨fun hn => ?_, P, fun t ht => ?_, h4⟩, hu⟩
  · obtain ⟨cs, h1⟩ := h.typ hn
    exact ⟨cs, hu.keep h1 (RowK.ne h1 hrow ty_out.1.symm)⟩
  · obtain ⟨cs, h1⟩ := h.typ (by omega)
    refine ⟨hu.cell (h3 t ht).1 (by rw [add_block]; exact RowK.ne h1 hrow ty_out.1.symm), ?_⟩
    by_cases e : t = i
    · subst e
      rw [if_pos rfl, hg]
      exact h5
    · rw [if_neg e]
      exact OwnS.upd (h3 t ht).2 hu fun g' hg' he => h4 i t hi ht (fun e2 => e e2.symm) g hg (by rw [hg', show g' = g from he])
end
theorem OutAt.put {w0 w w' : World} {base k n i : Nat} {L : Nat → List UInt8} (h : OutAt w0 base k n L) (hx : Ext w0 w) (hi : i < n) {p : Option Addr} {m c : Nat} {bs : List UInt8} (ho : OwnB w w0.heap.size p m c bs) (hb : base ≤ w0.heap.size)
    (hs : SetC w ((at0 k).add i) (.slice p m c) w') : OutAt w' base k n (fun t => if t = i then bs else L t) ∧ Upd (fun x => x = k) w w' := by
  obtain ⟨cs, h1, h2⟩ := (h.ext hx).row
  obtain ⟨P, h3, h4⟩ := h.own
  obtain ⟨r', hu⟩ := h1.set3 hs
  have fresh : ∀ t, t < n → ∀ g, (P t).1 = some (at0 g) → p ≠ some (at0 g) := fun t ht g hg he => by
    have h5 := (h3 t ht).2
    rw [hg] at h5
    have := OwnS.lt_heap h5
    have := OwnB.blk ho he
    omega
  refine ⟨⟨⟨_, r', by simp [h2]⟩, h.le, fun t => if t = i then (p, m, c) else P t, fun t ht => ?_, ?_⟩, hu⟩
  · dsimp only
    rw [rowk_cell r', Array.getElem?_setIfInBounds]
    by_cases e : t = i
    · subst e
      simp only [if_true]
      rw [if_pos (by omega)]
      exact ⟨rfl, OwnB.base_le (OwnB.apart ho hu h1 ty_out.1.symm) hb⟩
    · rw [if_neg (fun e2 => e e2.symm), if_neg e, if_neg e]
      refine ⟨?_, OwnB.apart (OwnB.ext (h3 t ht).2 hx) hu h1 ty_out.1.symm⟩
      rw [← rowk_cell h1]
      exact hx.cell (h3 t ht).1 id
  · intro s t hs' ht hst g hg
    dsimp only at hg ⊢
    by_cases h5 : s = i
    · rw [if_pos h5] at hg
      rw [if_neg (fun e => hst (h5.trans e.symm))]
      exact fun he => fresh t ht g he hg
    · rw [if_neg h5] at hg
      by_cases h6 : t = i
      · rw [if_pos h6]; exact fresh s hs' g hg
      · rw [if_neg h6]; exact h4 s t hs' ht hst g hg

theorem own_spec {p : Option Addr} {l c : Nat} {w : World} {L : List (List UInt8)} (h : ListsAt w p l L) (hl : l ≤ 1048576) (hb : ∀ x ∈ L, x.length ≤ 1073741824) :
    Calls Try.prog 49 #[.slice p l c] w fun e w' => ∃ k, e = .returned (.slice (some (at0 k)) l l) ∧ Ext w w' ∧ OutAt w' w.heap.size k l (fun i => L.getD i []) := by
  refine (F49_calls p l c w (fun v w' => ∃ k, v = .slice (some (at0 k)) l l ∧ Ext w w' ∧ OutAt w' w.heap.size k l (fun i => L.getD i []))
    (fun q _ _ _ _ _ _ _ i w1 => 0 ≤ i ∧ i ≤ l ∧ Ext w w1 ∧ ∃ k, q = some (at0 k) ∧ OutAt w1 w.heap.size k l (fun t => if (t : Int) < i then L.getD t [] else [])) (fun _ _ _ _ _ _ _ _ i _ => (l - i).toNat) ?_).mono (by
    rintro e w' ⟨v, rfl, k, rfl, h⟩; exact ⟨k, rfl, h⟩)
  have hL := h.1
  refine ⟨⟨by omega, by omega, by omega⟩, fun k w3 hk => ?_⟩
  rw [Int.toNat_natCast] at hk ⊢
  rw [made_one 22 (.slice none 0 0) (by kernel_rfl) l] at hk
  have r3 : RowK w3 k 22 (List.replicate l (.slice none 0 0)).toArray := hk.at
  have o3 : OutAt w3 w.heap.size k l (fun t => if (t : Int) < 0 then L.getD t [] else []) := by
    refine ⟨⟨_, r3, by simp⟩, by rw [hk.size.1]; exact Nat.le_refl _, fun _ => (none, 0, 0), fun i hi => ⟨?_, ?_⟩, fun _ _ _ _ _ g hg => by cases hg⟩
    · rw [rowk_cell r3]; simp [hi]
    · rw [if_neg (by omega)]; exact OwnS.nil _ _ _ _
  refine ⟨⟨by omega, by omega, hk.ext, k, rfl, o3⟩, ?_⟩
  rintro i w12 ⟨hi0, hi1, hx, k', g1, ho⟩
  simp only [Option.some.injEq, at0, Addr.mk.injEq, and_true] at g1
  subst g1
  intros
  refine condB_of (fun hs => ?_) (fun hs => ?_)
  · simp only [decide_eq_true_eq] at hs
    obtain ⟨a, q, ln, cn, rfl, hc, hq, _⟩ := (h.ext hx).2 i.toNat (by omega)
    have hlen : (L.getD i.toNat []).length ≤ 1073741824 := by
      rw [List.getD_eq_getElem?_getD, List.getElem?_eq_getElem (by omega)]
      exact hb _ (List.getElem_mem _)
    refine ⟨⟨hi0, hs⟩, _, _, _, by rw [Nat.mul_one]; exact hc, (bclone_own hq (by rw [hq.1]; exact hlen)).mono ?_⟩
    rintro e w27 ⟨p', c', rfl, x27, oc⟩
    obtain ⟨cs, hr, hsz⟩ := (ho.ext x27).row
    rw [Nat.mul_one, w64 (n := i + 1) (by omega)]
    refine ⟨_, _, _, rfl, ⟨hi0, by omega⟩, RowW.live ⟨_, hr⟩ (by omega), fun w30 s30 => ?_⟩
    obtain ⟨o30, u30⟩ := ho.put x27 (i := i.toNat) (by omega) oc hx.size s30
    refine ⟨⟨by omega, by omega, ext_upd (hx.trans x27) ho.le u30, k, rfl, o30.congr fun t ht => ?_⟩, by show ((l : Int) - (i + 1)).toNat < ((l : Int) - i).toNat; omega⟩
    by_cases e : t = i.toNat
    · rw [if_pos (by omega), if_pos e, e]
    · rw [if_neg e]
      by_cases h1 : (t : Int) < i
      · rw [if_pos h1, if_pos (by omega)]
      · rw [if_neg h1, if_neg (by omega)]
  · simp only [decide_eq_false_iff_not] at hs
    exact ⟨k, rfl, hx, ho.congr fun t ht => by rw [if_pos (by omega)]⟩

theorem adder_spec {f p4 p5 : Option Addr} {a b : Int} {l4 c4 l5 c5 : Nat} {w : World} :
    Calls Try.prog 50 #[.pointer f, matV a b p4 l4 c4, .slice p5 l5 c5] w fun e w' => ∃ k6 k8 k10, e = .returned (.func (.func 72) #[] #[.pointer (some (at0 k10)), .pointer (some (at0 k8)), .pointer (some (at0 k6))]) ∧ Ext w w' ∧
      RowK w' k6 25 #[.pointer f] ∧ RowK w' k8 82 (matC a b p4 l4 c4) ∧ RowK w' k10 36 #[.slice p5 l5 c5] := by
  refine (F50_calls f a b p4 l4 c4 p5 l5 c5 w (fun v w' => ∃ k6 k8 k10, v = .func (.func 72) #[] #[.pointer (some (at0 k10)), .pointer (some (at0 k8)), .pointer (some (at0 k6))] ∧ Ext w w' ∧
      RowK w' k6 25 #[.pointer f] ∧ RowK w' k8 82 (matC a b p4 l4 c4) ∧ RowK w' k10 36 #[.slice p5 l5 c5]) ?_).mono (by rintro e w' ⟨v, rfl, k6, k8, k10, rfl, h⟩; exact ⟨k6, k8, k10, rfl, h⟩)
  intro k6 w7 h6 k8 w9 h8 k10 w11 h10
  exact ⟨k6, k8, k10, rfl, h6.ext.trans (h8.ext.trans h10.ext), h10.ext.keep (h8.ext.keep h6.at), h10.ext.keep h8.at, h10.at⟩

/-- a row with a multiple of bytes added, so far -/
def addUp (c : UInt8) (s t : List UInt8) (j : Nat) : List UInt8 := (List.range t.length).map fun n => if n < j then co t n ^^^ gm c (co s n) else co t n
theorem addUp_len (c : UInt8) (s t : List UInt8) (j : Nat) : (addUp c s t j).length = t.length := by simp [addUp]
theorem addUp_co (c : UInt8) (s t : List UInt8) (j n : Nat) (hn : n < t.length) : co (addUp c s t j) n = if n < j then co t n ^^^ gm c (co s n) else co t n := by simp [Gf.co, addUp, List.getD_eq_getElem?_getD, hn]
theorem addUp_zero (c : UInt8) (s t : List UInt8) : addUp c s t 0 = t := co_ext (addUp_len _ _ _ _) fun i hi => by
  rw [addUp_len] at hi
  rw [addUp_co _ _ _ _ _ hi, if_neg (by omega)]
theorem addUp_set (c : UInt8) (s t : List UInt8) {j : Nat} (hj : j < t.length) : (addUp c s t j).set j (co t j ^^^ gm c (co s j)) = addUp c s t (j + 1) := by
  refine co_ext (by rw [List.length_set, addUp_len, addUp_len]) fun i hi => ?_
  rw [List.length_set, addUp_len] at hi
  rw [co_set (by rw [addUp_len]; exact hj), addUp_co _ _ _ _ _ hi, addUp_co _ _ _ _ _ hi]
  by_cases e : i = j
  · rw [if_pos e, if_pos (by omega), e]
  · rw [if_neg e]
    by_cases h : i < j
    · rw [if_pos h, if_pos (by omega)]
    · rw [if_neg h, if_neg (by omega)]
/-- rows, with a shard's multiples added to so many parity rows -/
def addRows (k i : Nat) (val : Nat → UInt8) (s : List UInt8) (L : Nat → List UInt8) (t : Nat) : List UInt8 := if k ≤ t ∧ t < k + i then addUp (val (t - k)) s (L t) s.length else L t

set_option maxHeartbeats 4000000 in
theorem add_spec {w1 w : World} {f p2 pA : Option Addr} {a0 : Addr} {k m j N l2 c2 cp lA cA k6 k8 k10 : Nat} {rows : Int} {s A : List UInt8} {L : Nat → List UInt8} {val : Nat → Nat → UInt8}
    (hf : FieldAt w1 f) (hA : BytesAt w1 pA lA A) (hAl : A = genA val k (m * k)) (hs : BytesAt w1 p2 l2 s) (hj : j < k) (hk : k ≤ 256) (hm : m ≤ 256) (hN : k + m ≤ N) (hsl : l2 ≤ 1073741824)
    (hx : Ext w1 w) (h : RowsAt w w1.heap.size a0 N L) (hlen : ∀ t, k ≤ t → t < k + m → (L t).length = l2)
    (r6 : RowK w k6 25 #[.pointer f]) (r8 : RowK w k8 82 (matC rows (k : Int) pA lA cA)) {pp : Option Addr} (hpp : 0 < m → pp = some (a0.add k)) (r10 : RowK w k10 36 #[.slice pp m cp]) :
    Calls Try.prog 72 #[.int .i64 (j : Int), .slice p2 l2 c2, .pointer (some (at0 k10)), .pointer (some (at0 k8)), .pointer (some (at0 k6))] w fun e w' => e = .returned (.tuple #[]) ∧ Ext w1 w' ∧ RowsAt w' w1.heap.size a0 N (addRows k m (fun i => val i j) s L) ∧
      ∀ k' e cs, e ≠ 5 → RowK w k' e cs → RowK w' k' e cs := by
  have sl := hs.1
  have Al := hA.1
  rw [hAl, genA_len] at Al
  refine (F72_calls j p2 l2 c2 (at0 k10) (at0 k8) (at0 k6) w (fun v w' => v = .tuple #[] ∧ Ext w1 w' ∧ RowsAt w' w1.heap.size a0 N (addRows k m (fun i => val i j) s L) ∧
      ∀ k' e cs, e ≠ 5 → RowK w k' e cs → RowK w' k' e cs)
    (fun _ _ _ _ _ _ _ i w' => 0 ≤ i ∧ i ≤ m ∧ Ext w1 w' ∧ RowsAt w' w1.heap.size a0 N (addRows k i.toNat (fun i => val i j) s L) ∧ ∀ k' e cs, e ≠ 5 → RowK w k' e cs → RowK w' k' e cs) (fun _ _ _ _ _ _ _ i _ => (m - i).toNat)
    (fun _ _ p54 l54 c54 c _ _ _ _ i _ _ _ _ _ n w' => 0 ≤ n ∧ n ≤ l2 ∧ 0 ≤ i ∧ i < m ∧ Ext w1 w' ∧ w'.cell? (a0.add (k + i.toNat)) = some (.slice p54 l54 c54) ∧ RowsAt w' w1.heap.size a0 N (fun t => if t = k + i.toNat then addUp (val i.toNat j) s (L t) n.toNat else addRows k i.toNat (fun i => val i j) s L t) ∧
      ∀ k' e cs, e ≠ 5 → RowK w k' e cs → RowK w' k' e cs) (fun _ _ _ _ _ _ _ _ _ _ _ _ _ _ _ _ n _ => (l2 - n).toNat) ?_).mono (by rintro e w' ⟨v, rfl, rfl, h⟩; exact ⟨rfl, h⟩)
  refine ⟨_, _, _, r10.cell, ⟨by omega, by omega, hx, h.congr fun t ht => ?_, fun _ _ _ _ h => h⟩, ?_⟩
  · unfold addRows
    rw [if_neg (by have : (0 : Int).toNat = 0 := rfl; omega)]
  rintro i w14 ⟨hi0, hi1, hx14, hR, hk14⟩
  intros
  refine condB_of (fun hs' => ?_) (fun hs' => ?_)
  · simp only [decide_eq_true_eq] at hs'
    have hin : k + i.toNat < N := by omega
    obtain rfl := hpp (by omega)
    obtain ⟨P, h3, _⟩ := hR.own
    obtain ⟨hc, ho⟩ := h3 (k + i.toNat) hin
    have hLi : addRows k i.toNat (fun i => val i j) s L (k + i.toNat) = L (k + i.toNat) := by
      unfold addRows
      rw [if_neg (by omega)]
    rw [hLi] at ho
    have hlo := OwnB.len ho
    have hll := hlen (k + i.toNat) (by omega) (by omega)
    have r8' := hk14 k8 _ _ ty_mat.1 r8
    have hik : i.toNat * k + j < m * k := by
      have : (i.toNat + 1) * k ≤ m * k := Nat.mul_le_mul_right _ (by omega)
      rw [Nat.add_mul] at this
      omega
    have hbig : m * k ≤ 256 * 256 := Nat.mul_le_mul hm hk
    have hmi : i * (k : Int) = ((i.toNat * k : Nat) : Int) := by
      rw [show i = ((i.toNat : Nat) : Int) by omega, Int.toNat_natCast]
      exact (Int.natCast_mul _ _).symm
    refine ⟨⟨hi0, by omega⟩, ?_⟩
    show ∃ (p54 : Option Addr) (l54 c54 : Nat), w14.cell? ((a0.add k).add (i.toNat * 1)) = some (.slice p54 l54 c54) ∧ _
    rw [Nat.mul_one, add_add]
    refine ⟨_, _, _, hc, _, _, _, r8'.cell3 rfl, _, r8'.cell3 rfl, ?_⟩
    rw [hmi, w64 (n := ((i.toNat * k : Nat) : Int)) (by omega), w64 (n := ((i.toNat * k : Nat) : Int) + (j : Int)) (by omega)]
    have e1 : (((i.toNat * k : Nat) : Int) + (j : Int)).toNat = i.toNat * k + j := by omega
    rw [e1, Nat.mul_one]
    obtain ⟨aA, rfl, hcA⟩ := BytesAt.co (hA.ext hx14) (i := i.toNat * k + j) (by omega)
    have eA : co A (i.toNat * k + j) = val i.toNat j := by
      rw [hAl, genA_co _ hik]
      congr 1
      · rw [Nat.mul_comm, Nat.mul_add_div (by omega), Nat.div_eq_of_lt hj, Nat.add_zero]
      · rw [Nat.mul_comm, Nat.mul_add_mod, Nat.mod_eq_of_lt hj]
    rw [eA] at hcA
    refine ⟨⟨by omega, by omega⟩, _, hcA, ⟨by omega, by omega, hi0, hs', hx14, hc, hR.congr fun t ht => ?_, hk14⟩, ?_⟩
    · by_cases e : t = k + i.toNat
      · rw [if_pos e, show (0 : Int).toNat = 0 from rfl, addUp_zero, e, hLi]
      · rw [if_neg e]
    rintro n w75 ⟨hn0, hn1, _, _, hx75, hc75, hR75, hk75⟩
    intros
    refine condB_of (fun ht => ?_) (fun ht => ?_)
    · simp only [decide_eq_true_eq] at ht
      obtain ⟨aS, rfl, hcs⟩ := BytesAt.co (hs.ext hx75) (i := n.toNat) (by omega)
      refine ⟨⟨hn0, ht⟩, _, by rw [Nat.mul_one]; exact hcs, fun w95 hd => ?_⟩
      have x95 := hx75.trans hd.ext
      obtain ⟨p, l, c, g, e2, e3, e4, e5, lv, cell, ⟨csg, hrow⟩, hset⟩ := (hR75.ext hd.ext).at (i := k + i.toNat) (j := n.toNat) hin (by rw [if_pos rfl, addUp_len]; omega)
      have hc95 := hd.ext.cell hc75 id
      rw [hc95] at e2
      simp only [Option.some.injEq, Value.slice.injEq] at e2
      obtain ⟨q1, q2, q3⟩ := e2
      rw [e4] at q1
      rw [q1]
      rw [if_pos rfl, addUp_co _ _ _ _ _ (by omega), if_neg (by omega)] at cell
      rw [if_pos rfl, addUp_len] at e3
      have r6' := hk75 k6 _ _ ty_out.2.1.symm r6
      have r6'' : RowK w95 k6 25 #[.pointer f] := hd.ext.keep r6'
      refine ⟨⟨hn0, by omega⟩, ?_⟩
      show ∃ n97 : Int, w95.cell? ((at0 g).add (n.toNat * 1)) = some (.int .u8 n97) ∧ _
      rw [Nat.mul_one]
      refine ⟨_, cell, _, r6''.cell, (fmul_spec (hf.ext x95) _ _).mono ?_⟩
      rintro e w99 ⟨rfl, x99⟩
      obtain ⟨p', l', c', g', f2, f3, f4, f5, lv', cell', ⟨csg', hrow'⟩, hset'⟩ := ((hR75.ext hd.ext).ext x99).at (i := k + i.toNat) (j := n.toNat) hin (by rw [if_pos rfl, addUp_len]; omega)
      have hc99 := x99.cell hc95 id
      rw [hc99] at f2
      simp only [Option.some.injEq, Value.slice.injEq] at f2
      have hgg : g' = g := by
        rw [q1, f4] at f2
        have := f2.1
        simp only [Option.some.injEq, at0, Addr.mk.injEq, and_true] at this
        exact this.symm
      subst hgg
      refine ⟨_, rfl, ⟨_, x99.cell cell id, rfl⟩, ⟨hn0, by omega⟩, lv', fun w104 s104 => ?_⟩
      rw [bx8] at s104
      obtain ⟨hR104, u104⟩ := hset' _ _ s104
      have x104 : Ext w1 w104 := ext_upd (x95.trans x99) f5 u104
      rw [w64 (n := n + 1) (by omega)]
      obtain ⟨csa, hra⟩ := (((hR75.ext hd.ext).ext x99)).typ (by omega)
      refine ⟨⟨by omega, by omega, hi0, hs', x104, (by rw [← q1]; exact u104.cell hc99 (by rw [add_block]; exact RowK.ne hra hrow' ty_out.1.symm)), hR104.congr fun t ht2 => ?_, fun k' e cs he hr => ?_⟩, by show ((l2 : Int) - (n + 1)).toNat < ((l2 : Int) - n).toNat; omega⟩
      · by_cases e : t = k + i.toNat
        · rw [if_pos e, if_pos e, if_pos rfl, e, show (n + 1).toNat = n.toNat + 1 by omega, addUp_set _ _ _ (by omega)]
        · rw [if_neg e, if_neg e, if_neg e]
      · have h1 : RowK w99 k' e cs := (hd.ext.trans x99).keep (hk75 k' e cs he hr)
        exact u104.keep h1 (RowK.ne h1 hrow' he)
    · simp only [decide_eq_false_iff_not] at ht
      rw [w64 (n := i + 1) (by omega)]
      refine ⟨⟨by omega, by omega, hx75, hR75.congr fun t ht2 => ?_, hk75⟩, by show ((m : Int) - (i + 1)).toNat < ((m : Int) - i).toNat; omega⟩
      unfold addRows
      by_cases e : t = k + i.toNat
      · rw [if_pos e, if_pos (by omega), e, show k + i.toNat - k = i.toNat by omega, show n.toNat = s.length by omega]
      · rw [if_neg e]
        by_cases h5 : k ≤ t ∧ t < k + i.toNat
        · rw [if_pos h5, if_pos (by omega)]
        · rw [if_neg h5, if_neg (by omega)]
  · simp only [decide_eq_false_iff_not] at hs'
    refine ⟨rfl, hx14, ?_, hk14⟩
    rw [show i.toNat = m by omega] at hR
    exact hR
end Go.Proofs.Ytpmkjpgoekjcfaa
