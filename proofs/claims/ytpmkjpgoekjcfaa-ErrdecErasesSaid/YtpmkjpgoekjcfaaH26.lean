/- Shards are encoded. -/
import Derived.Test.YtpmkjpgoekjcfaaH25
namespace Go.Proofs.Ytpmkjpgoekjcfaa
open Go Go.Vc Go.Gf

/-- an own slice of slices, each with a row of its own -/
def RowsS (w : World) (base : Nat) (p : Option Addr) (n c : Nat) (L : Nat → List UInt8) : Prop :=
  ∃ P : Nat → Option Addr × Nat × Nat, OwnS w base 22 1 p n c ((List.range n).map fun t => Value.slice (P t).1 (P t).2.1 (P t).2.2) ∧ (∀ t, t < n → OwnB w base (P t).1 (P t).2.1 (P t).2.2 (L t)) ∧
    ∀ i j, i < n → j < n → i ≠ j → ∀ g, (P i).1 = some (at0 g) → (P j).1 ≠ some (at0 g)
theorem OutAt.rowsS {w : World} {base k n : Nat} {L : Nat → List UInt8} (h : OutAt w base k n L) (hn : n ≤ maxLen) : RowsS w base (some (at0 k)) n n L := by
  obtain ⟨cs, h1, h2⟩ := h.row
  obtain ⟨P, h3, h4⟩ := h.own
  refine ⟨P, ⟨by simp, .inr ⟨k, n, cs, rfl, h.le, h1, Nat.le_refl _, hn, by omega, ?_⟩⟩, fun t ht => (h3 t ht).2, h4⟩
  rw [Nat.mul_one, List.take_of_length_le (by simp [h2])]
  refine List.ext_getElem? fun j => ?_
  rw [Array.getElem?_toList]
  by_cases hj : j < n
  · rw [← rowk_cell h1, (h3 j hj).1]
    simp [hj]
  · rw [Array.getElem?_eq_none (by omega), List.getElem?_eq_none (by simp; omega)]
section
variable {w w' : World} {base n c : Nat} {p : Option Addr} {L : Nat → List UInt8}
theorem RowsS.rows (h : RowsS w base p n c L) {a : Addr} (hp : p = some a) : RowsAt w base a n L := by
  obtain ⟨P, h1, h2, h3⟩ := h
  subst hp
  refine ⟨fun hn => ?_, P, fun t ht => ⟨?_, h2 t ht⟩, h3⟩
  · rcases h1.where_ with ⟨h, _⟩ | ⟨g, h, _, _, _, cur, hc, _⟩
    · cases h
    · cases h; exact ⟨cur, hc⟩
  · obtain ⟨a', ha, hc⟩ := OwnS.cells h1 t (Value.slice (P t).1 (P t).2.1 (P t).2.2) (by simp [ht])
    cases ha
    exact hc
theorem RowsS.ext (h : RowsS w base p n c L) (hu : Ext w w') : RowsS w' base p n c L := by
  obtain ⟨P, h1, h2, h3⟩ := h
  exact ⟨P, OwnS.ext h1 hu, fun t ht => OwnB.ext (h2 t ht) hu, h3⟩
theorem RowsS.push {w1 : World} {k : Nat} {q : Option Addr} {m d : Nat} {bs : List UInt8} (h : RowsS w base p n c L) (hx : Ext w w') (ho : OwnB w' w.heap.size q m d bs) (hk : NewB w' k (.cells #[.slice q m d] 22) w1) (hb : base ≤ w.heap.size) (hn : n ≤ 1073741824) :
    ∃ p' c' w2, Sem.run Try.prog (Builtin.append_ #[36, 36] 36 #[.slice p n c, .slice (some (at0 k)) 1 1]) w1 = .ok (.slice p' (n + 1) c') w2 ∧ RowsS w2 base p' (n + 1) c' (fun t => if t = n then bs else L t) ∧
      Upd (fun x => p = some (at0 x)) w' w2 := by
  obtain ⟨P, h1, h2, h3⟩ := h
  have x1 := hx.trans hk.ext
  have o1 := OwnS.ext h1 x1
  have hq : CellsAt w1 (some (at0 k)) [.slice q m d] := by
    intro j u hj
    refine ⟨_, rfl, hk.row.row.cell ?_⟩
    simpa using hj
  obtain ⟨p', c', w2, hr, ho2, hu, _⟩ := o1.append elemX 36 (q := some (at0 k)) (m := 1) (d := 1) (news := [.slice q m d]) rfl hq (fun h => by cases h)
    (fun u hu => by rw [List.mem_singleton] at hu; subst hu; rfl) (by unfold maxLen; omega) (by omega) (Nat.le_trans hb x1.size)
  have keep : ∀ {b : Nat} {p : Option Addr} {n c : Nat} {bs : List UInt8}, OwnB w1 b p n c bs → OwnB w2 b p n c bs := fun o => OwnB.other o hu fun x hx => by
    obtain ⟨cs, e', fz, h4, h5⟩ := OwnS.typed o1 hx
    exact ⟨cs, e', fz, h4, by rw [h5]; exact ty_out.1.symm⟩
  refine ⟨p', c', w2, hr, ⟨fun t => if t = n then (q, m, d) else P t, ?_, fun t ht => ?_, ?_⟩, Upd.trans hk.ext.upd hu fun x _ hx => hx⟩
  · have e : ((List.range (n + 1)).map fun t => Value.slice (if t = n then (q, m, d) else P t).1 (if t = n then (q, m, d) else P t).2.1 (if t = n then (q, m, d) else P t).2.2) = ((List.range n).map fun t => Value.slice (P t).1 (P t).2.1 (P t).2.2) ++ [.slice q m d] := by
      have e1 : ((List.range n).map fun t => Value.slice (if t = n then (q, m, d) else P t).1 (if t = n then (q, m, d) else P t).2.1 (if t = n then (q, m, d) else P t).2.2) = (List.range n).map fun t => Value.slice (P t).1 (P t).2.1 (P t).2.2 :=
        List.map_congr_left fun t ht => by
          rw [List.mem_range] at ht
          rw [if_neg (by omega)]
      rw [List.range_succ, List.map_append, e1, List.map_cons, List.map_nil, if_pos rfl]
    rw [e]; exact ho2
  · dsimp only
    by_cases e : t = n
    · rw [if_pos e, if_pos e]
      exact keep (OwnB.base_le (OwnB.ext ho hk.ext) hb)
    · rw [if_neg e, if_neg e]
      exact keep (OwnB.ext (h2 t (by omega)) x1)
  · have fresh : ∀ t, t < n → ∀ g, (P t).1 = some (at0 g) → q ≠ some (at0 g) := fun t ht g hg he => by
      have h5 := h2 t ht
      rw [hg] at h5
      have := OwnS.lt_heap h5
      have := OwnB.blk ho he
      omega
    intro s t hs ht hst g hg
    dsimp only at hg ⊢
    by_cases h5 : s = n
    · rw [if_pos h5] at hg
      rw [if_neg (fun e => hst (h5.trans e.symm))]
      exact fun he => fresh t (by omega) g he hg
    · rw [if_neg h5] at hg
      by_cases h6 : t = n
      · rw [if_pos h6]; exact fresh s (by omega) g hg
      · rw [if_neg h6]; exact h3 s t (by omega) (by omega) hst g hg
end

/-- the rows while shards are added -/
def encU (k : Nat) (L : List (List UInt8)) (s j t : Nat) : List UInt8 := if t < k then L.getD t [] else (List.range s).map fun n => xs j fun i => gm (parV k (t - k) i) (co (L.getD i []) n)
def encRow (k m : Nat) (L : List (List UInt8)) (t : Nat) : List UInt8 := (List.range (L.getD 0 []).length).map fun n => co (enc k m (L.map fun x => co x n)) t
theorem range_co {s n : Nat} (f : Nat → UInt8) (h : n < s) : co ((List.range s).map f) n = f n := by simp [Gf.co, List.getD_eq_getElem?_getD, h]
theorem map_co (L : List (List UInt8)) (n i : Nat) : co (L.map fun x => co x n) i = co (L.getD i []) n := by
  simp only [Gf.co, List.getD_eq_getElem?_getD, List.getElem?_map]
  cases L[i]? <;> simp
theorem encU_step {k m j s t : Nat} {L : List (List UInt8)} (hs : (L.getD j []).length = s) (ht : t < k + m) : addRows k m (fun i => parV k i j) (L.getD j []) (encU k L s j) t = encU k L s (j + 1) t := by
  unfold addRows encU
  by_cases h : t < k
  · rw [if_neg (by omega), if_pos h, if_pos h]
  · rw [if_pos (by omega), if_neg h, if_neg h]
    refine co_ext (by rw [addUp_len]; simp) fun n hn => ?_
    rw [addUp_len] at hn
    have hn' : n < s := by simpa using hn
    rw [addUp_co _ _ _ _ _ hn, if_pos (by omega), range_co _ hn', range_co _ hn']
    rfl
theorem encU_done {k m t : Nat} {L : List (List UInt8)} (hl : L.length = k) (hall : ∀ i, i < k → (L.getD i []).length = (L.getD 0 []).length) (ht : t < k + m) : encU k L (L.getD 0 []).length k t = encRow k m L t := by
  unfold encU encRow
  have hd : ∀ n, (L.map fun x => co x n).length = k := fun n => by rw [List.length_map, hl]
  by_cases h : t < k
  · rw [if_pos h]
    refine co_ext (by rw [List.length_map, List.length_range]; exact hall t h) fun n hn => ?_
    rw [range_co _ (by rw [← hall t h]; exact hn), enc_data (hd n) h, map_co]
  · rw [if_neg h]
    refine List.map_congr_left fun n _ => ?_
    obtain ⟨i, rfl⟩ : ∃ i, t = k + i := ⟨t - k, by omega⟩
    rw [enc_par (hd n) (by omega), show k + i - k = i by omega]
    unfold par
    exact xs_congr fun j _ => by rw [map_co]; rfl

theorem callAdd {j : Int} {p : Option Addr} {l c k10 k8 k6 : Nat} {w : World} {K : Value → World → Prop} (h : Calls Try.prog 72 #[.int .i64 j, .slice p l c, .pointer (some (at0 k10)), .pointer (some (at0 k8)), .pointer (some (at0 k6))] w fun e w' => e = .returned (.tuple #[]) ∧ K (.tuple #[]) w') :
    callVW Try.prog (.func (.func 72) #[] #[.pointer (some (at0 k10)), .pointer (some (at0 k8)), .pointer (some (at0 k6))]) [.int .i64 j, .slice p l c] w K := by
  have e : callVW Try.prog (.func (.func 72) #[] #[.pointer (some (at0 k10)), .pointer (some (at0 k8)), .pointer (some (at0 k6))]) [.int .i64 j, .slice p l c] w K =
    Calls Try.prog 72 #[.int .i64 j, .slice p l c, .pointer (some (at0 k10)), .pointer (some (at0 k8)), .pointer (some (at0 k6))] w (fun e w' => e = .returned (.tuple #[]) ∧ K (.tuple #[]) w') := by kernel_rfl
  rw [e]; exact h

/-- what encoded shards are told as -/
def encP (w : World) (k m : Int) (l : Nat) (L : List (List UInt8)) (v : Value) (w' : World) : Prop := Ext w w' ∧ ((¬ kmOk k m ∧ v = .tuple #[.slice none 0 0, .int .i64 50]) ∨ (kmOk k m ∧ ¬ Alike k l L ∧ v = .tuple #[.slice none 0 0, .int .i64 60]) ∨
  kmOk k m ∧ Alike k l L ∧ ∃ a c, v = .tuple #[.slice (some a) (k + m).toNat c, .int .i64 0] ∧ RowsAt w' w.heap.size a (k + m).toNat (encRow k.toNat m.toNat L))

/-- while parity shards are laid behind the data: w1 is the world ahead of the copies -/
def EncS (w : World) (q11 : Option Addr) (k m : Int) (L : List (List UInt8)) (p : Option Addr) (n c : Nat) (w1 : World) : Prop :=
  ∃ w0, Ext w w0 ∧ Ext w0 w1 ∧ RowsS w1 w0.heap.size p n c (encU k.toNat L (L.getD 0 []).length 0) ∧ ∃ k11 pA lA cA A, q11 = some (at0 k11) ∧ A = genA (parV k.toNat) k.toNat (m.toNat * k.toNat) ∧ BytesAt w0 pA lA A ∧ RowK w0 k11 82 (matC m k pA lA cA)
/-- while shards are added -/
def EncA (w : World) (f : Option Addr) (k m : Int) (L : List (List UInt8)) (p : Option Addr) (n : Nat) (v : Value) (j : Int) (w1 : World) : Prop :=
  ∃ w0 a k6 k8 k10 pA lA cA A pp cp, p = some a ∧ v = .func (.func 72) #[] #[.pointer (some (at0 k10)), .pointer (some (at0 k8)), .pointer (some (at0 k6))] ∧ Ext w w0 ∧ Ext w0 w1 ∧ A = genA (parV k.toNat) k.toNat (m.toNat * k.toNat) ∧ BytesAt w0 pA lA A ∧
    RowK w1 k6 25 #[.pointer f] ∧ RowK w1 k8 82 (matC m k pA lA cA) ∧ (0 < m.toNat → pp = some (a.add k.toNat)) ∧ RowK w1 k10 36 #[.slice pp m.toNat cp] ∧ (n : Int) = k + m ∧ RowsAt w1 w0.heap.size a n (encU k.toNat L (L.getD 0 []).length j.toNat)

set_option maxRecDepth 20000 in
set_option maxHeartbeats 4000000 in
theorem encode_spec {f p : Option Addr} {w : World} {l c : Nat} {L : List (List UInt8)} (hf : FieldAt w f) (h : ListsAt w p l L) (bl : ∀ x ∈ L, x.length ≤ 1073741824) (hl : l ≤ 4611686018427387904) (k m : Int) :
    Calls Try.prog 22 #[.pointer f, .int .i64 k, .int .i64 m, .slice p l c] w fun e w' => ∃ v, e = .returned v ∧ encP w k m l L v w' := by
  refine F22_calls f k m p l c w (encP w k m l L)
    (fun q11 _ w16 p21 l21 c21 i w23 => 0 ≤ i ∧ i ≤ m ∧ (l21 : Int) = k + i ∧ EncS w q11 k m L p21 l21 c21 w23) (fun _ _ _ _ _ _ i _ => (m - i).toNat)
    (fun p21 l21 _ v48 _ _ _ _ _ j w58 => 0 ≤ j ∧ j ≤ k ∧ EncA w f k m L p21 l21 v48 j w58) (fun _ _ _ _ _ _ _ _ _ j _ => (k - j).toNat) ?_
  have hL := h.1
  refine (checked_spec hf h (fun x hx => by have := bl x hx; omega) hl k m k).mono ?_
  have main : ∀ (w5 : World) (a b : Int) (p : Option Addr) (l c : Nat), Ext w w5 → ∀ (K : Nat → World → Prop), (∀ k11 w15, RowK w15 k11 82 (matC a b p l c) → Ext w5 w15 → K k11 w15) →
      (∀ (k11 : Nat) (w12 : World), NewB w5 k11 (.cells #[.int .i64 (0 : Int), .int .i64 (0 : Int), .slice none 0 0] 82) w12 → (Live w12 (at0 k11) ∧ (∀ w13 : World, SetC w12 (at0 k11) (Value.int .i64 a) w13 → (Live w13 ((at0 k11).add 1) ∧ (∀ w14 : World, SetC w13 ((at0 k11).add 1) (Value.int .i64 b) w14 →
        (Live w14 ((at0 k11).add 2) ∧ (∀ w15 : World, SetC w14 ((at0 k11).add 2) (Value.slice p l c) w15 → K k11 w15))))))) := by
    intro w5 a b p l c hx K hK k11 w12 h11
    have r11 : RowK w12 k11 82 (matC 0 0 none 0 0) := h11.at
    have n11 : w5.heap.size ≤ k11 := by rw [h11.size.1]; exact Nat.le_refl _
    refine ⟨r11.live0 (by simp), fun w13 s13 => ?_⟩
    obtain ⟨c1, v1⟩ := r11.set0 s13
    refine ⟨c1.live3 (by simp), fun w14 s14 => ?_⟩
    obtain ⟨c2, v2⟩ := c1.set3 s14
    refine ⟨c2.live3 (by simp), fun w15 s15 => ?_⟩
    obtain ⟨c3, v3⟩ := c2.set3 s15
    exact hK k11 w15 c3 (ext_upd (ext_upd (ext_upd h11.ext n11 v1) n11 v2) n11 v3)
  rintro e w5 ⟨x5, ⟨hk, a, b, pA, lA, cA, rfl⟩ | ⟨hk, hal, a, b, pA, lA, cA, rfl⟩ | ⟨hk, hal, pA, lA, cA, rfl, oA⟩⟩
  · refine ⟨_, _, _, _, _, _, rfl, main w5 _ _ _ _ _ x5 _ fun k11 w15 _ x15 => condB_of (fun _ => ?_) (fun h => by simp at h)⟩
    exact ⟨x5.trans x15, .inl ⟨hk, rfl⟩⟩
  · refine ⟨_, _, _, _, _, _, rfl, main w5 _ _ _ _ _ x5 _ fun k11 w15 _ x15 => condB_of (fun _ => ?_) (fun h => by simp at h)⟩
    exact ⟨x5.trans x15, .inr (.inl ⟨hk, hal, rfl⟩)⟩
  obtain ⟨a1, a2, a3, a4⟩ := hk
  have hk : kmOk k m := ⟨a1, a2, a3, a4⟩
  have hlk := hal.1
  have hkk : l = k.toNat := by omega
  refine ⟨_, _, _, _, _, _, rfl, main w5 _ _ _ _ _ x5 _ fun k11 w15 r11 x15 => condB_of (fun h => by simp at h) fun _ => ?_⟩
  have xw15 := x5.trans x15
  refine (own_spec (h.ext xw15) (by omega) bl).mono ?_
  rintro e w16 ⟨ko, rfl, x16, out⟩
  have hlen0 : (L.getD 0 []).length ≤ 1073741824 := by
    rw [List.getD_eq_getElem?_getD, List.getElem?_eq_getElem (by omega)]
    exact bl _ (List.getElem_mem _)
  refine ⟨_, _, _, rfl, ⟨by omega, by omega, by omega, w15, xw15, x16, ?_, k11, pA, lA, cA, _, rfl, rfl, OwnB.bytes (OwnB.ext oA x15), r11⟩, ?_⟩
  · obtain ⟨P, g1, g2, g3⟩ := out.rowsS (by unfold maxLen; omega)
    refine ⟨P, g1, fun t ht => ?_, g3⟩
    have e1 : encU k.toNat L (L.getD 0 []).length 0 t = L.getD t [] := by unfold encU; rw [if_pos (by omega)]
    rw [e1]; exact g2 t ht
  rintro p21 l21 c21 i w23 ⟨hi0, hi1, hli, w0, y1, y2, hR, k11', pA', lA', cA', A, q1, hA, bA, rA⟩
  simp only [Option.some.injEq, at0, Addr.mk.injEq, and_true] at q1
  subst q1
  intros
  have yw := y1.trans y2
  refine condB_of (fun hs => ?_) (fun hs => ?_)
  · -- a parity shard is laid
    simp only [decide_eq_true_eq] at hs
    obtain ⟨a, q, ln, cn, rfl, hc, hq, _⟩ := (h.ext yw).2 0 (by omega)
    have hqn := hq.1
    refine ⟨⟨by omega, by omega⟩, _, _, _, hc, ⟨by omega, by omega, by omega⟩, fun k36 w37 h36 k38 w39 h38 => ?_⟩
    rw [Int.toNat_natCast] at h36 h38
    have o37 : OwnB w37 w23.heap.size (some (at0 k36)) ln ln (List.replicate ln 0) := OwnB.made h36 (by rw [h36.size.1]; exact Nat.le_refl _) (by unfold maxLen; omega)
    obtain ⟨p', c', w40, hr, hR', hu⟩ := hR.push h36.ext o37 h38 y2.size (by omega)
    have y40 : Ext w0 w40 := OwnB.new_ext (y2.trans h36.ext) hu fun x hx => by
      obtain ⟨P, g1, _⟩ := hR
      exact OwnS.blk g1 hx
    rw [w64 (n := i + 1) (by omega)]
    refine ⟨_, _, _, w40, hr, ⟨by omega, by omega, by omega, w0, y1, y40, ?_, k11, pA', lA', cA', A, rfl, hA, bA, rA⟩, by show (m - (i + 1)).toNat < (m - i).toNat; omega⟩
    obtain ⟨P, g1, g2, g3⟩ := hR'
    refine ⟨P, g1, fun t ht => ?_, g3⟩
    have g4 := g2 t ht
    dsimp only at g4
    by_cases e : t = l21
    · rw [if_pos e] at g4
      have e1 : encU k.toNat L (L.getD 0 []).length 0 t = List.replicate ln 0 := by
        unfold encU
        rw [if_neg (by omega), hqn]
        exact List.ext_getElem (by simp) fun j h1 h2 => by simp [xs]
      rw [e1]; exact g4
    · rw [if_neg e] at g4
      exact g4
  · simp only [decide_eq_false_iff_not] at hs
    obtain rfl : i = m := by omega
    intro w42 hd
    have rA42 : RowK w42 k11 82 (matC i k pA' lA' cA') := hd.ext.keep (y2.keep rA)
    obtain ⟨P, g1, g2, g3⟩ := hR
    have hp21 : ∃ a, p21 = some a := by
      rcases g1.where_ with ⟨_, h0, _⟩ | ⟨g, h0, _⟩
      · omega
      · exact ⟨_, h0⟩
    obtain ⟨a, rfl⟩ := hp21
    have hR : RowsAt w23 w0.heap.size a l21 (encU k.toNat L (L.getD 0 []).length 0) := RowsS.rows ⟨P, g1, g2, g3⟩ rfl
    have hle : l21 ≤ c21 := by
      rcases g1.where_ with ⟨_, h0, _⟩ | ⟨g, _, _, _, h0, _⟩
      · omega
      · exact h0
    refine ⟨_, rA42.cell0 rfl, _, rA42.cell3 rfl, _, _, _, rA42.cell3 rfl, ⟨by omega, by omega⟩, adder_spec.mono ?_⟩
    rintro e w46 ⟨k6, k8, k10, rfl, x46, r6, r8, r10⟩
    have hm2 : l21 - k.toNat = i.toNat := by omega
    rw [hm2] at r10
    refine ⟨_, rfl, ⟨by omega, by omega, w0, a, k6, k8, k10, pA', lA', cA', A, _, _, rfl, rfl, y1, (y2.trans hd.ext).trans x46, hA, bA, r6, r8, fun hm0 => ?_, r10, by omega, (hR.ext hd.ext).ext x46⟩, ?_⟩
    · unfold cutP
      rw [if_neg (by omega)]
      show some (a.add (k.toNat * 1)) = _
      rw [Nat.mul_one]
    rintro j w58 ⟨hj0, hj1, w0', a', k6', k8', k10', pB, lB, cB, B, pp, cp, q1, q2, z1, z2, hB, bB, t6, t8, hpp, t10, _, hRj⟩
    cases q1
    have q3 : k10 = k10' ∧ k8 = k8' ∧ k6 = k6' := by simpa using q2
    obtain ⟨rfl, rfl, rfl⟩ := q3
    intros
    have zw := z1.trans z2
    refine condB_of (fun hs2 => ?_) (fun hs2 => ?_)
    · simp only [decide_eq_true_eq] at hs2
      obtain ⟨d, q, ln, cn, rfl, hc, hq, _⟩ := (h.ext zw).2 j.toNat (by omega)
      obtain ⟨d', q', ln', cn', hd', hc', hq', _⟩ := (h.ext z1).2 j.toNat (by omega)
      cases hd'
      have hcc := z2.cell hc' id
      rw [hc] at hcc
      simp only [Option.some.injEq, Value.slice.injEq] at hcc
      obtain ⟨rfl, rfl, rfl⟩ := hcc
      have hqn := hq'.1
      have hsame := hal.2 j.toNat (by omega)
      refine ⟨⟨hj0, hs2⟩, _, _, _, by rw [Nat.mul_one]; exact hc, ?_⟩
      refine callAdd ?_
      have e1 : matC i k pB lB cB = matC i ((k.toNat : Nat) : Int) pB lB cB := by rw [show ((k.toNat : Nat) : Int) = k by omega]
      rw [e1] at t8
      have hsp := add_spec (w1 := w0') (m := i.toNat) (j := j.toNat) (N := l21) (c2 := cn) (val := parV k.toNat) (hf.ext z1) bB hB hq' (by omega) (by omega) (by omega) (by omega) (by omega) z2 hRj (fun t ht ht2 => by
        unfold encU
        rw [if_neg (by omega), List.length_map, List.length_range]; omega) t6 t8 hpp t10
      rw [show ((j.toNat : Nat) : Int) = j by omega] at hsp
      refine hsp.mono ?_
      rintro e w73 ⟨rfl, z3, hR3, hk3⟩
      rw [w64 (n := j + 1) (by omega)]
      rw [← e1] at t8
      refine ⟨rfl, ⟨by omega, by omega, w0', a, k6, k8, k10, pB, lB, cB, B, pp, cp, rfl, rfl, z1, z3, hB, bB, hk3 _ _ _ ty_out.2.1.symm t6, hk3 _ _ _ ty_mat.1 t8, hpp, hk3 _ _ _ ty_out.2.2.2.2.1.symm t10, by omega, hR3.congr fun t ht => ?_⟩, by show (k - (j + 1)).toNat < (k - j).toNat; omega⟩
      rw [show (j + 1).toNat = j.toNat + 1 by omega]
      exact (encU_step hsame (by omega)).symm
    · simp only [decide_eq_false_iff_not] at hs2
      have hn : (k + i).toNat = l21 := by omega
      refine ⟨zw, .inr (.inr ⟨hk, hal, a, c21, ?_, ?_⟩)⟩
      · rw [hn]
      · rw [hn]
        refine (hRj.congr fun t ht => ?_).base_le z1.size
        rw [show j.toNat = k.toNat by omega]
        exact (encU_done (by omega) (fun i' hi' => hal.2 i' (by omega)) (by omega)).symm
end Go.Proofs.Ytpmkjpgoekjcfaa
