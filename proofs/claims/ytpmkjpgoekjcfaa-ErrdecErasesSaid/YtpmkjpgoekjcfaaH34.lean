/- Shards that are there; a data shard out of them. -/
import Derived.Test.YtpmkjpgoekjcfaaH33
namespace Go.Proofs.Ytpmkjpgoekjcfaa
open Go Go.Vc Go.Gf

def foundP (w : World) (k n : Nat) (hs : List Bool) (v : Value) (w' : World) : Prop := Ext w w' ∧
  (((mis n hs).length < k ∧ v = .tuple #[.slice none 0 0, .int .i64 70]) ∨ k ≤ (mis n hs).length ∧ ∃ p c, v = .tuple #[.slice p k c, .int .i64 0] ∧ OwnN w' w.heap.size p k c ((mis n hs).take k))

set_option maxHeartbeats 2000000 in
theorem found_spec {p2 p3 : Option Addr} {w : World} {n c2 l3 c3 k s : Nat} {hs : List Bool} {L : List (List UInt8)} (h2 : FlagsAt w p2 n hs) (h3 : ListsAt w p3 l3 L) (hn : n ≤ l3) (hl : l3 ≤ 1048576) (hlen : ∀ i, i < n → hs.getD i false = true → (L.getD i []).length = s) :
    Calls Try.prog 52 #[.int .i64 (k : Int), .slice p2 n c2, .slice p3 l3 c3] w fun e w' => ∃ v, e = .returned v ∧ foundP w k n hs v w' := by
  refine F52_calls k p2 n c2 p3 l3 c3 w (foundP w k n hs)
    (fun _ _ _ _ _ p8 l8 c8 z i w1 => 0 ≤ i ∧ i ≤ n ∧ Ext w w1 ∧ OwnN w1 w.heap.size p8 l8 c8 ((mis i.toNat hs).take k) ∧ (z = -1 ∨ z = (s : Int))) (fun _ _ _ _ _ _ _ _ _ i _ => (n - i).toNat) ?_
  have e0 : (mis (0 : Int).toNat hs).take k = [] := by simp [mis]
  refine ⟨⟨by omega, by omega, Upd.refl _ _, by rw [e0]; exact OwnS.nil _ _ _ _, .inl rfl⟩, ?_⟩
  rintro p8 l8 c8 z i w11 ⟨hi0, hi1, hx, ho, hz⟩
  have hol := OwnN.len ho
  rw [List.length_take] at hol
  have hmle := mis_le i.toNat hs
  intros
  refine condB_of (fun ht => ?_) (fun ht => ?_)
  · simp only [decide_eq_true_eq] at ht
    obtain ⟨a, rfl, ha⟩ := (h2.ext hx).get (i := i.toNat) (by omega)
    have hnx : (i + 1).toNat = i.toNat + 1 := by omega
    have hmeas : ((n : Int) - (i + 1)).toNat < ((n : Int) - i).toNat := by omega
    rw [w64 (n := i + 1) (by omega)]
    refine ⟨⟨hi0, ht⟩, _, by rw [Nat.mul_one]; exact ha, condB_of (fun hno => ?_) (fun hyes => ?_)⟩
    · have hno' : hs.getD i.toNat false = false := by simpa using hno
      refine ⟨⟨by omega, by omega, hx, ?_, hz⟩, hmeas⟩
      rw [hnx, mis_succ, hno', if_neg (by simp), List.append_nil]; exact ho
    · have hyes' : hs.getD i.toNat false = true := by simpa using hyes
      obtain ⟨b, q, ln, cn, rfl, hc, hq, _⟩ := (h3.ext hx).2 i.toNat (by omega)
      have hqs : ln = s := by rw [hq.1]; exact hlen i.toNat (by omega) hyes'
      have full : ¬ (l8 : Int) < k → OwnN w11 w.heap.size p8 l8 c8 ((mis (i + 1).toNat hs).take k) := fun hk => by
        rw [hnx, mis_succ, hyes', if_pos rfl, List.take_append_of_le_length (by omega)]; exact ho
      have push : (l8 : Int) < k → ∀ (k52 : Nat) (w53 : World), NewB w11 k52 (.cells #[.int .i64 i] 3) w53 → ∃ (p55 : Option Addr) (l55 c55 : Nat), ∃ w54 : World, Sem.run Try.prog (Builtin.append_ #[28, 28] 28 #[.slice p8 l8 c8, .slice (some (at0 k52)) 1 1]) w53 = .ok (.slice p55 l55 c55) w54 ∧
          Ext w w54 ∧ OwnN w54 w.heap.size p55 l55 c55 ((mis (i + 1).toNat hs).take k) := fun hk k52 w53 h53 => by
        rw [show i = ((i.toNat : Nat) : Int) by omega] at h53
        obtain ⟨p', c', w2, hr, ho', hu⟩ := OwnN.push ho h53 hx.size (by omega)
        refine ⟨p', _, c', w2, hr, OwnB.new_ext hx hu fun y hy => OwnS.blk ho hy, ?_⟩
        have e : (mis (i + 1).toNat hs).take k = (mis i.toNat hs).take k ++ [i.toNat] := by
          rw [hnx, mis_succ, hyes', if_pos rfl, List.take_of_length_le (by rw [List.length_append, List.length_singleton]; omega), List.take_of_length_le (by omega)]
        rw [e]; exact ho'
      refine condB_of (fun hz0 => ?_) (fun hz0 => ?_)
      · refine ⟨⟨hi0, by omega⟩, _, _, _, by rw [Nat.mul_one]; exact hc, condB_of (fun hk => ?_) (fun hk => ?_)⟩
        · simp only [decide_eq_true_eq] at hk
          intro k52 w53 h53
          obtain ⟨p55, l55, c55, w54, hr, x54, o54⟩ := push hk k52 w53 h53
          exact ⟨p55, l55, c55, w54, hr, ⟨by omega, by omega, x54, o54, .inr (by omega)⟩, hmeas⟩
        · simp only [decide_eq_false_iff_not] at hk
          exact ⟨⟨by omega, by omega, hx, full hk, .inr (by omega)⟩, hmeas⟩
      · simp only [decide_eq_false_iff_not] at hz0
        have hzs : z = (s : Int) := by rcases hz with h | h <;> omega
        refine ⟨⟨hi0, by omega⟩, _, _, _, by rw [Nat.mul_one]; exact hc, condB_of (fun hne => ?_) (fun _ => condB_of (fun hk => ?_) (fun hk => ?_))⟩
        · simp only [Bool.not_eq_true', decide_eq_false_iff_not] at hne
          exact (hne (by omega)).elim
        · simp only [decide_eq_true_eq] at hk
          intro k52 w53 h53
          obtain ⟨p55, l55, c55, w54, hr, x54, o54⟩ := push hk k52 w53 h53
          exact ⟨p55, l55, c55, w54, hr, ⟨by omega, by omega, x54, o54, hz⟩, hmeas⟩
        · simp only [decide_eq_false_iff_not] at hk
          exact ⟨⟨by omega, by omega, hx, full hk, hz⟩, hmeas⟩
  · simp only [decide_eq_false_iff_not] at ht
    have hin : i.toNat = n := by omega
    rw [hin] at hol ho
    refine condB_of (fun hk => ?_) (fun hk => ?_)
    · simp only [decide_eq_true_eq] at hk
      exact ⟨hx, .inl ⟨by omega, rfl⟩⟩
    · simp only [decide_eq_false_iff_not] at hk
      obtain rfl : l8 = k := by omega
      exact ⟨hx, .inr ⟨by omega, p8, c8, rfl, ho⟩⟩

/-- a data shard, out of those that are there -/
def dcol (V : Nat → Nat → UInt8) (l : List Nat) (L : List (List UInt8)) (j s i : Nat) : List UInt8 := (List.range s).map fun x => xs i fun t => gm (V j t) (co (L.getD (l.getD t 0) []) x)

set_option maxHeartbeats 4000000 in
theorem made1_spec {f p5 pl : Option Addr} {w : World} {k10 k34 k62 k8 k6 l5 c5 cl k j s kv base : Nat} {V : Nat → Nat → UInt8} {l : List Nat} {L : List (List UInt8)} (hf : FieldAt w f)
    (r10 : RowK w k10 36 #[.slice p5 l5 c5]) (r34 : RowK w k34 28 #[.slice pl k cl]) (r62 : RowK w k62 82 (matC k k (some (at0 kv)) (k * k) (k * k))) (r8 : RowK w k8 3 #[.int .i64 (k : Int)]) (r6 : RowK w k6 25 #[.pointer f])
    (hm : MatM w base kv k k V) (h5 : ListsAt w p5 l5 L) (hl : NatsAt w pl k l) (hlt : ∀ t ∈ l, t < l5 ∧ (L.getD t []).length = s) (hj : j < k) (hk : k ≤ 256) (hs : s ≤ 1048576) :
    Calls Try.prog 55 #[.int .i64 (j : Int), .pointer (some (at0 k10)), .pointer (some (at0 k34)), .pointer (some (at0 k62)), .pointer (some (at0 k8)), .pointer (some (at0 k6))] w fun e w' => ∃ p c, e = .returned (.slice p s c) ∧ Ext w w' ∧ OwnB w' w.heap.size p s c (dcol V l L j s k) := by
  refine (F55_calls j (at0 k10) (at0 k34) (at0 k62) (at0 k8) (at0 k6) w (fun v w' => ∃ p c, v = .slice p s c ∧ Ext w w' ∧ OwnB w' w.heap.size p s c (dcol V l L j s k))
    (fun _ _ _ _ q14 _ _ _ _ _ _ _ i w1 => 0 ≤ i ∧ i ≤ k ∧ Ext w w1 ∧ OwnB w1 w.heap.size q14 s s (dcol V l L j s i.toNat)) (fun _ _ _ _ _ _ _ _ _ _ _ _ i _ => (k - i).toNat)
    (fun _ _ _ _ q14 _ _ _ _ _ _ _ i _ _ _ _ _ x w1 => 0 ≤ x ∧ x ≤ s ∧ 0 ≤ i ∧ i < k ∧ Ext w w1 ∧ ∃ z, OwnB w1 w.heap.size q14 s s z ∧ ∀ y : Nat, y < s → co z y = if (y : Int) < x then co (dcol V l L j s (i.toNat + 1)) y else co (dcol V l L j s i.toNat) y) (fun _ _ _ _ _ _ _ _ _ _ _ _ _ _ _ _ _ _ x _ => (s - x).toNat) ?_).mono (by rintro e w' ⟨v, rfl, p, c, rfl, h⟩; exact ⟨p, c, rfl, h⟩)
  have hll := hl.1
  have hdl : ∀ i, (dcol V l L j s i).length = s := fun i => by simp [dcol]
  have hkk : k * k ≤ 256 * 256 := Nat.mul_le_mul hk hk
  have hin : ∀ t, t < k → l.getD t 0 < l5 ∧ (L.getD (l.getD t 0) []).length = s := fun t ht => by
    have : l.getD t 0 ∈ l := by
      rw [List.getD_eq_getElem?_getD, List.getElem?_eq_getElem (by omega)]
      exact List.getElem_mem _
    exact hlt _ this
  intro w7 hd
  have x7 := hd.ext
  have R10 : ∀ {w'}, Ext w w' → RowK w' k10 36 #[.slice p5 l5 c5] := fun hx => hx.keep r10
  have R34 : ∀ {w'}, Ext w w' → RowK w' k34 28 #[.slice pl k cl] := fun hx => hx.keep r34
  have R62 : ∀ {w'}, Ext w w' → RowK w' k62 82 (matC k k (some (at0 kv)) (k * k) (k * k)) := fun hx => hx.keep r62
  have R8 : ∀ {w'}, Ext w w' → RowK w' k8 3 #[.int .i64 (k : Int)] := fun hx => hx.keep r8
  have R6 : ∀ {w'}, Ext w w' → RowK w' k6 25 #[.pointer f] := fun hx => hx.keep r6
  obtain ⟨al, ha0, hc0⟩ := (hl.ext x7).get (i := 0) (by omega)
  subst ha0
  obtain ⟨h0a, h0b⟩ := hin 0 (by omega)
  obtain ⟨b, q, ln, cn, hb0, hcell, hq, _⟩ := (h5.ext x7).2 (l.getD 0 0) h0a
  subst hb0
  have hqs := hq.1
  obtain rfl : ln = s := by omega
  refine ⟨_, _, _, (R10 x7).cell, _, _, _, (R34 x7).cell, ⟨by omega, by omega⟩, _, hc0, ⟨by omega, by omega⟩, _, _, _, by rw [Int.toNat_natCast, Nat.mul_one]; exact hcell, ⟨by omega, by omega, by omega⟩, fun k14 w15 h15 => ?_⟩
  rw [Int.toNat_natCast] at h15 ⊢
  have o15 : OwnB w15 w.heap.size (some (at0 k14)) ln ln (List.replicate ln 0) := OwnB.made h15 (by rw [h15.size.1]; exact x7.size) (by unfold maxLen; omega)
  refine ⟨_, _, _, (R34 (x7.trans h15.ext)).cell, ⟨by omega, by omega, x7.trans h15.ext, ?_⟩, ?_⟩
  · have e : dcol V l L j ln (0 : Int).toNat = List.replicate ln 0 := by
      unfold dcol
      refine List.ext_getElem (by simp) fun y h1 h2 => ?_
      simp [xs]
    rw [e]; exact o15
  clear o15 h15
  rintro i w29 ⟨hi0, hi1, hx, ho⟩
  intros
  refine condB_of (fun hs1 => ?_) (fun hs1 => ?_)
  · simp only [decide_eq_true_eq] at hs1
    obtain ⟨t, rfl⟩ := Int.eq_ofNat_of_zero_le hi0
    obtain ⟨al', ha', hct⟩ := (hl.ext hx).get (i := t) (by omega)
    cases ha'
    obtain ⟨hta, htb⟩ := hin t (by omega)
    obtain ⟨b', q', ln', cn', hb', hcell0, hq', _⟩ := h5.2 (l.getD t 0) hta
    cases hb'
    have hcell' := hx.cell hcell0 id
    have hstep : ∀ y, y < ln → co (dcol V l L j ln (t + 1)) y = co (dcol V l L j ln t) y ^^^ gm (V j t) (co (L.getD (l.getD t 0) []) y) := fun y hy => by
      unfold dcol
      rw [range_co _ hy, range_co _ hy]
      rfl
    have hqs' := hq'.1
    obtain rfl : ln' = ln := by omega
    have cv := ((hm.ext hx).at (r := j) (c := t) hj (by omega)).2.1
    have hix := ix_lt hj (show t < k by omega)
    have ew : IntKind.i64.wrap (IntKind.i64.wrap ((j : Int) * (k : Int)) + (t : Int)) = ((j * k + t : Nat) : Int) := by
      rw [wmul (by omega)]
      exact w64 (by omega)
    refine ⟨⟨hi0, hs1⟩, _, by rw [Int.toNat_natCast, Nat.mul_one]; exact hct, _, _, _, (R62 hx).cell3 rfl, _, (R8 hx).cell, ?_⟩
    rw [ew]
    refine ⟨⟨by omega, by omega⟩, _, by rw [Int.toNat_natCast, Nat.mul_one, ← add_add]; exact cv, _, _, _, (R10 hx).cell, ⟨by omega, by omega⟩, _, _, _, by rw [Int.toNat_natCast, Nat.mul_one]; exact hcell', ⟨by omega, by omega, hi0, hs1, hx, _, ho, fun y hy => by rw [if_neg (by omega)]⟩, ?_⟩
    rintro x w97 ⟨hx0, hx1, _, _, hx97, z, hoz, hz⟩
    intros
    refine condB_of (fun hs2 => ?_) (fun hs2 => ?_)
    · simp only [decide_eq_true_eq] at hs2
      obtain ⟨aq, haq, hbx⟩ := BytesAt.co (hq'.ext hx97) (i := x.toNat) (by omega)
      subst haq
      refine ⟨⟨hx0, by omega⟩, _, by rw [Nat.mul_one]; exact hbx, fun w117 hd117 => ?_⟩
      have x117 := hx97.trans hd117.ext
      have hoz117 := OwnB.ext hoz hd117.ext
      obtain ⟨kz, hkz, _, _, cz, _⟩ := OwnB.at hoz117 (i := x.toNat) (by omega)
      simp only [Option.some.injEq, at0, Addr.mk.injEq, and_true] at hkz
      subst hkz
      refine ⟨⟨hx0, by omega⟩, _, by rw [Nat.mul_one]; exact cz, _, (R6 x117).cell, (fmul_spec (hf.ext x117) (V j t) (co (L.getD (l.getD t 0) []) x.toNat)).mono ?_⟩
      rintro e w120 ⟨rfl, x120⟩
      have hoz120 := OwnB.ext hoz117 x120
      obtain ⟨kz, hkz, hbz, lz, cz, hset⟩ := OwnB.at hoz120 (i := x.toNat) (by omega)
      simp only [Option.some.injEq, at0, Addr.mk.injEq, and_true] at hkz
      subst hkz
      refine ⟨_, rfl, ⟨_, by rw [Nat.mul_one]; exact cz, rfl⟩, ⟨hx0, by omega⟩, by rw [Nat.mul_one]; exact lz, fun w124 s124 => ?_⟩
      rw [Nat.mul_one, bx8] at s124
      obtain ⟨hoz', hu⟩ := hset _ _ s124
      have lz0 := OwnB.len hoz
      rw [w64 (n := x + 1) (by omega)]
      refine ⟨⟨by omega, by omega, hi0, hs1, ext_upd (x117.trans x120) hbz hu, _, hoz', fun y hy => ?_⟩, by show ((ln' : Int) - (x + 1)).toNat < ((ln' : Int) - x).toNat; omega⟩
      simp only [Int.toNat_natCast] at hz ⊢
      rw [co_set (by omega)]
      by_cases e : y = x.toNat
      · subst e
        rw [if_pos rfl, if_pos (by omega), hz _ hy, if_neg (by omega), hstep _ hy]
      · rw [if_neg e, hz y hy]
        by_cases e2 : (y : Int) < x
        · rw [if_pos e2, if_pos (by omega)]
        · rw [if_neg e2, if_neg (by omega)]
    · simp only [decide_eq_false_iff_not] at hs2
      rw [w64 (n := (t : Int) + 1) (by omega)]
      refine ⟨⟨by omega, by omega, hx97, ?_⟩, by show ((k : Int) - ((t : Int) + 1)).toNat < ((k : Int) - t).toNat; omega⟩
      have lz0 := OwnB.len hoz
      have e : z = dcol V l L j ln' ((t : Int) + 1).toNat := by
        rw [show ((t : Int) + 1).toNat = t + 1 by omega]
        refine co_ext (by rw [hdl]; omega) fun y hy => ?_
        rw [hz y (by omega), if_pos (by omega)]
        rfl
      rw [← e]; exact hoz
  · simp only [decide_eq_false_iff_not] at hs1
    have hik : i.toNat = k := by omega
    rw [hik] at ho
    exact ⟨_, _, rfl, hx, ho⟩
end Go.Proofs.Ytpmkjpgoekjcfaa
