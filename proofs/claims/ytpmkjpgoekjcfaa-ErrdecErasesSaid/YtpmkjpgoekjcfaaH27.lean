/- Words as shards of one byte, and back; copies of shards. -/
import Derived.Test.YtpmkjpgoekjcfaaH26
import Derived.Test.YtpmkjpgoekjcfaaH22
namespace Go.Proofs.Ytpmkjpgoekjcfaa
open Go Go.Vc Go.Gf

theorem OwnB.append {w : World} {base : Nat} {p q : Option Addr} {n c m d : Nat} {bs cs : List UInt8} (h : OwnB w base p n c bs) (hq : BytesAt w q m cs) (hb : base ≤ w.heap.size) (hn : n + m ≤ 1073741824) :
    ∃ p' c' w2, Sem.run Try.prog (Builtin.append_ #[22, 22] 22 #[.slice p n c, .slice q m d]) w = .ok (.slice p' (n + m) c') w2 ∧ OwnB w2 base p' (n + m) c' (bs ++ cs) ∧ Upd (fun x => p = some (at0 x)) w w2 := by
  have hm := hq.1
  obtain ⟨p', c', w2, hr, ho, hu, _⟩ := OwnS.append elemY 22 h (q := q) (m := m) (d := d) (news := encB cs) (by rw [encB_length]; omega) hq.cells (fun e => by
    subst e
    by_cases h0 : cs = []
    · subst h0; exact hm
    · obtain ⟨a, ha, _⟩ := hq.2 h0
      cases ha) (encB_one cs) (by unfold maxLen; omega) (by omega) hb
  refine ⟨p', c', w2, hr, ?_, hu⟩
  have : encB bs ++ encB cs = encB (bs ++ cs) := by simp [encB]
  rw [this] at ho
  exact ho

theorem column_spec {p : Option Addr} {l c : Nat} {w : World} {bs : List UInt8} (h : BytesAt w p l bs) (hl : l ≤ 1048576) :
    Calls Try.prog 23 #[.slice p l c] w fun e w' => ∃ p' c', e = .returned (.slice p' l c') ∧ Ext w w' ∧ ListsAt w' p' l (bs.map fun b => [b]) := by
  refine (F23_calls p l c w (fun v w' => ∃ p' c', v = .slice p' l c' ∧ Ext w w' ∧ ListsAt w' p' l (bs.map fun b => [b]))
    (fun _ p2 l2 c2 i w4 => 0 ≤ i ∧ i ≤ l ∧ Ext w w4 ∧ (l2 : Int) = i ∧ OwnL w4 w.heap.size p2 l2 c2 ((bs.take i.toNat).map fun b => [b])) (fun _ _ _ _ i _ => (l - i).toNat) ?_).mono (by rintro e w' ⟨v, rfl, p', c', rfl, h⟩; exact ⟨p', c', rfl, h⟩)
  have hb := h.1
  refine ⟨⟨by omega, by omega, Upd.refl _ _, rfl, OwnL.nil _ _⟩, ?_⟩
  rintro p2 l2 c2 i w4 ⟨hi0, hi1, hx, hl2, ho⟩
  intros
  refine condB_of (fun hs => ?_) (fun hs => ?_)
  · simp only [decide_eq_true_eq] at hs
    obtain ⟨a, rfl, ha⟩ := BytesAt.co (h.ext hx) (i := i.toNat) (by omega)
    refine ⟨⟨hi0, hs⟩, _, by rw [Nat.mul_one]; exact ha, fun k21 w22 h21 k23 w24 h23 => ?_⟩
    have o22 := row_bytes (bs := [co bs i.toNat]) h21 (by unfold maxLen; simp)
    obtain ⟨p', c', w25, hr, ho', hu⟩ := OwnL.push (OwnL.ext ho h21.ext) (OwnB.base_le o22 hx.size) h23 (hx.trans h21.ext).size (by omega)
    rw [w64 (n := i + 1) (by omega)]
    refine ⟨_, _, _, w25, hr, ⟨by omega, by omega, OwnB.new_ext (hx.trans h21.ext) hu fun x hx => OwnL.blk ho hx, by omega, ?_⟩, by show ((l : Int) - (i + 1)).toNat < ((l : Int) - i).toNat; omega⟩
    have e : bs.take (i + 1).toNat = bs.take i.toNat ++ [co bs i.toNat] := by
      rw [show (i + 1).toNat = i.toNat + 1 by omega, List.take_add_one, List.getElem?_eq_getElem (by omega)]
      simp [Gf.co, List.getD_eq_getElem?_getD, List.getElem?_eq_getElem (show i.toNat < bs.length by omega)]
    rw [e, List.map_append]
    exact ho'
  · simp only [decide_eq_false_iff_not] at hs
    rw [List.take_of_length_le (by omega)] at ho
    have : l2 = l := by omega
    subst this
    exact ⟨p2, c2, rfl, hx, OwnL.lists ho⟩

theorem line_spec {p : Option Addr} {l c : Nat} {w : World} {L : List (List UInt8)} (h : ListsAt w p l L) (hl : l ≤ 1048576) (hb : ∀ i, ((L.take i).flatten).length ≤ 536870912) :
    Calls Try.prog 24 #[.slice p l c] w fun e w' => ∃ p' n' c', e = .returned (.slice p' n' c') ∧ Ext w w' ∧ OwnB w' w.heap.size p' n' c' L.flatten := by
  refine (F24_calls p l c w (fun v w' => ∃ p' n' c', v = .slice p' n' c' ∧ Ext w w' ∧ OwnB w' w.heap.size p' n' c' L.flatten)
    (fun _ p2 l2 c2 i w4 => 0 ≤ i ∧ i ≤ l ∧ Ext w w4 ∧ OwnB w4 w.heap.size p2 l2 c2 (L.take i.toNat).flatten) (fun _ _ _ _ i _ => (l - i).toNat) ?_).mono (by rintro e w' ⟨v, rfl, p', n', c', rfl, h⟩; exact ⟨p', n', c', rfl, h⟩)
  have hL := h.1
  refine ⟨⟨by omega, by omega, Upd.refl _ _, OwnS.nil _ _ _ _⟩, ?_⟩
  rintro p2 l2 c2 i w4 ⟨hi0, hi1, hx, ho⟩
  intros
  refine condB_of (fun hs => ?_) (fun hs => ?_)
  · simp only [decide_eq_true_eq] at hs
    obtain ⟨a, q, ln, cn, rfl, hc, hq, _⟩ := (h.ext hx).2 i.toNat (by omega)
    have e : L.take (i + 1).toNat = L.take i.toNat ++ [L.getD i.toNat []] := by
      rw [show (i + 1).toNat = i.toNat + 1 by omega, List.take_add_one, List.getElem?_eq_getElem (by omega)]
      simp [List.getD_eq_getElem?_getD, List.getElem?_eq_getElem (show i.toNat < L.length by omega)]
    have e2 : (L.take (i + 1).toNat).flatten = (L.take i.toNat).flatten ++ L.getD i.toNat [] := by rw [e]; simp
    have hlen := hb (i + 1).toNat
    rw [e2, List.length_append] at hlen
    have l2e := OwnB.len ho
    have lne := hq.1
    obtain ⟨p', c', w2, hr, ho', hu⟩ := OwnB.append (d := cn) ho hq hx.size (by omega)
    rw [w64 (n := i + 1) (by omega)]
    refine ⟨⟨hi0, hs⟩, _, _, _, by rw [Nat.mul_one]; exact hc, _, _, _, w2, hr, ⟨by omega, by omega, OwnB.new_ext hx hu fun x hx => OwnB.blk ho hx, by rw [e2]; exact ho'⟩, by show ((l : Int) - (i + 1)).toNat < ((l : Int) - i).toNat; omega⟩
  · simp only [decide_eq_false_iff_not] at hs
    rw [List.take_of_length_le (by omega)] at ho
    exact ⟨p2, l2, c2, rfl, hx, ho⟩

/-- a column encoded is a word encoded -/
theorem enc_flat {k m : Nat} (hk : 0 < k) {d : List UInt8} (hd : d.length = k) : ((List.range (k + m)).map (encRow k m (d.map fun b => [b]))).flatten = enc k m d := by
  have h0 : ((d.map fun b => [b]).getD 0 []).length = 1 := by
    match d, hd with
    | [], hd => simp at hd; omega
    | b :: d, _ => rfl
  have h1 : (d.map fun b => [b]).map (fun x => co x 0) = d := by
    rw [List.map_map]
    exact (List.map_congr_left fun _ _ => rfl).trans (List.map_id d)
  have h2 : ∀ t, encRow k m (d.map fun b => [b]) t = [co (enc k m d) t] := fun t => by
    unfold encRow
    rw [h0]
    show [co (enc k m ((d.map fun b => [b]).map fun x => co x 0)) t] = _
    rw [h1]
  have h3 : (List.range (k + m)).map (encRow k m (d.map fun b => [b])) = (List.range (k + m)).map fun t => [co (enc k m d) t] := List.map_congr_left fun t _ => h2 t
  rw [h3]
  have h4 : ∀ n, ((List.range n).map fun t => [co (enc k m d) t]).flatten = (List.range n).map fun t => co (enc k m d) t := fun n => by
    induction n with
    | zero => rfl
    | succ n ih => rw [List.range_succ, List.map_append, List.flatten_append, ih, List.map_append]; rfl
  rw [h4]
  have hl := enc_len (m := m) hd
  refine co_ext (by simp [hl]) fun i hi => ?_
  rw [range_co _ (by simpa using hi)]
theorem map_one (d : List UInt8) (t : Nat) (ht : t < d.length) : ((d.map fun b => [b]).getD t []).length = 1 := by
  simp [List.getD_eq_getElem?_getD, ht]
theorem alike_one {k : Int} {d : List UInt8} (hd : (d.length : Int) = k) : Alike k d.length (d.map fun b => [b]) :=
  ⟨hd, fun i hi => by rw [map_one d i hi, map_one d 0 (by omega)]⟩

/-- a word is made a stripe, and read back as a word -/
theorem flat_take {k m : Nat} {d : List UInt8} (i : Nat) : (((List.range (k + m)).map (encRow k m (d.map fun b => [b]))).take i).flatten.length ≤ k + m := by
  have h1 : ∀ t, (encRow k m (d.map fun b => [b]) t).length ≤ 1 := fun t => by
    unfold encRow
    rw [List.length_map, List.length_range]
    cases d with
    | nil => simp
    | cons b d => simp
  have h2 : ∀ L : List (List UInt8), (∀ x ∈ L, x.length ≤ 1) → L.flatten.length ≤ L.length := fun L => by
    induction L with
    | nil => intro _; simp
    | cons x L ih =>
      intro h
      rw [List.flatten_cons, List.length_append, List.length_cons]
      have := ih fun y hy => h y (List.mem_cons_of_mem _ hy)
      have := h x List.mem_cons_self
      omega
  refine Nat.le_trans (h2 _ fun x hx => ?_) (by simp; omega)
  obtain ⟨t, _, rfl⟩ := List.mem_map.1 (List.mem_of_mem_take hx)
  exact h1 t
end Go.Proofs.Ytpmkjpgoekjcfaa
