/- All shards, out of those that are there. -/
import Derived.Test.YtpmkjpgoekjcfaaH34
namespace Go.Proofs.Ytpmkjpgoekjcfaa
open Go Go.Vc Go.Gf

theorem mem_mis {n t : Nat} {hs : List Bool} : t ∈ mis n hs ↔ t < n ∧ hs.getD t false = true := by simp [mis]
theorem mis_sorted (n : Nat) (hs : List Bool) : (mis n hs).Pairwise (· < ·) := List.Pairwise.filter _ List.pairwise_lt_range
theorem pick_count {n k : Nat} {hs : List Bool} (hk : k ≤ (mis n hs).length) : ((List.range n).filter fun i => decide (i ∈ (mis n hs).take k)).length = k := by
  have e : ((List.range n).filter fun i => decide (i ∈ (mis n hs).take k)) = (mis n hs).take k := by
    refine sorted_ext (List.Pairwise.filter _ List.pairwise_lt_range) (List.Pairwise.sublist (List.take_sublist _ _) (mis_sorted n hs)) fun x => ?_
    simp only [List.mem_filter, List.mem_range, decide_eq_true_eq]
    exact ⟨fun h => h.2, fun h => ⟨(mem_mis.1 (List.mem_of_mem_take h)).1, h⟩⟩
  rw [e, List.length_take]; omega

/-- what is made anew is what was -/
theorem dcol_back {k m n s : Nat} {hs : List Bool} {L D0 : List (List UInt8)} {V : Nat → Nat → UInt8} (hn : n = k + m) (hk : k ≤ (mis n hs).length) (hD : D0.length = k) (hall : ∀ i, i < k → (D0.getD i []).length = s) (hs0 : (D0.getD 0 []).length = s)
    (hL : ∀ i, i < n → hs.getD i false = true → L.getD i [] = encRow k m D0 i)
    (hV : ∀ r, r < k → ∀ c, c < k → xs k (fun j => gm (V r j) (genV k (((mis n hs).take k).getD j 0) c)) = if r = c then 1 else 0) {j : Nat} (hj : j < k) : dcol V ((mis n hs).take k) L j s k = D0.getD j [] := by
  refine co_ext (by rw [hall j hj]; simp [dcol]) fun x hx => ?_
  have hx' : x < s := by simpa [dcol] using hx
  unfold dcol
  rw [range_co _ hx']
  have hcl : (D0.map fun y => co y x).length = k := by rw [List.length_map, hD]
  have h1 : xs k (fun t => gm (V j t) (co (L.getD (((mis n hs).take k).getD t 0) []) x)) = xs k (fun t => gm (V j t) (xs k fun c => gm (genV k (((mis n hs).take k).getD t 0) c) (co (D0.map fun y => co y x) c))) := xs_congr fun t ht => by
    have hm : ((mis n hs).take k).getD t 0 ∈ mis n hs := by
      rw [List.getD_eq_getElem?_getD, List.getElem?_eq_getElem (by rw [List.length_take]; omega)]
      exact List.mem_of_mem_take (List.getElem_mem _)
    obtain ⟨m1, m2⟩ := mem_mis.1 hm
    rw [hL _ m1 m2, encRow_co (by rw [hs0]; exact hx'), gen_row hcl (m := m) (by omega)]
  rw [h1, inv_back (n := k) (A := fun r c => genV k (((mis n hs).take k).getD r 0) c) hV (fun c => co (D0.map fun y => co y x) c) hj, map_co]

def decP (w : World) (k m n : Nat) (hs : List Bool) (D0 : List (List UInt8)) (v : Value) (w' : World) : Prop := Ext w w' ∧
  (((mis n hs).length < k ∧ v = .tuple #[.slice none 0 0, .int .i64 70]) ∨ k ≤ (mis n hs).length ∧ ∃ a c, v = .tuple #[.slice (some a) n c, .int .i64 0] ∧ RowsAt w' w.heap.size a n (encRow k m D0))

set_option maxRecDepth 20000 in
set_option maxHeartbeats 4000000 in
theorem decode_spec {f p4 p5 : Option Addr} {w : World} {k m n c4 c5 : Nat} {hs : List Bool} {L D0 : List (List UInt8)} (hf : FieldAt w f) (h4 : FlagsAt w p4 n hs) (h5 : ListsAt w p5 n L) (hk1 : 1 ≤ k) (hn : n = k + m) (hkm : n ≤ 256)
    (hD : D0.length = k) (hall : ∀ i, i < k → (D0.getD i []).length = (D0.getD 0 []).length) (hs0 : (D0.getD 0 []).length ≤ 1048576) (hL : ∀ i, i < n → hs.getD i false = true → L.getD i [] = encRow k m D0 i) :
    Calls Try.prog 26 #[.pointer f, .int .i64 (k : Int), .int .i64 (m : Int), .slice p4 n c4, .slice p5 n c5] w fun e w' => ∃ v, e = .returned v ∧ decP w k m n hs D0 v w' := by
  refine F26_calls f k m p4 n c4 p5 n c5 w (decP w k m n hs D0)
    (fun _ _ _ w66 p l c j w1 => 0 ≤ j ∧ j ≤ k ∧ (l : Int) = j ∧ Ext w66 w1 ∧ RowsS w1 w66.heap.size p l c (fun t => D0.getD t [])) (fun _ _ _ _ _ _ _ j _ => (k - j).toNat) ?_
  have hkok : kmOk (k : Int) (m : Int) := ⟨by omega, by omega, by omega, by omega⟩
  have ekm : (k : Int) + (m : Int) = (n : Int) := by omega
  have hnk : n * k ≤ 256 * 256 := Nat.mul_le_mul hkm (by omega)
  have hlenR : ∀ i, i < n → hs.getD i false = true → (L.getD i []).length = (D0.getD 0 []).length := fun i hi hb => by rw [hL i hi hb, encRow_len]
  intro k6 w7 h6 k8 w9 h8 k10 w11 h10
  have x11 : Ext w w11 := h6.ext.trans (h8.ext.trans h10.ext)
  have R6 : ∀ {w'}, Ext w11 w' → RowK w' k6 25 #[.pointer f] := fun hx => hx.keep (h10.ext.keep (h8.ext.keep h6.at))
  have R8 : ∀ {w'}, Ext w11 w' → RowK w' k8 3 #[.int .i64 (k : Int)] := fun hx => hx.keep (h10.ext.keep h8.at)
  have R10 : ∀ {w'}, Ext w11 w' → RowK w' k10 36 #[.slice p5 n c5] := fun hx => hx.keep h10.at
  have x0 : Ext w11 w11 := Upd.refl _ _
  refine ⟨_, (R6 x0).cell, _, (R8 x0).cell, (cgen_spec (hf.ext x11) k m).mono ?_⟩
  rintro e w14 ⟨x14, ⟨hno, _⟩ | ⟨_, pg, lg, cg, he, og⟩⟩
  · exact (hno hkok).elim
  rw [ekm] at he og
  subst he
  simp only [Int.toNat_natCast] at og
  obtain ⟨ag, rfl, hcg, rfl, hGr⟩ := gen_read og (by omega) (by omega)
  refine ⟨_, _, _, _, _, _, rfl, new_mat fun k20 w24 r20 _ x24 => ?_⟩
  have x24' := x14.trans x24
  refine condB_of (fun h => by simp at h) fun _ => ⟨_, (R8 x24').cell, ?_⟩
  rw [ekm, w64 (n := (n : Int)) (by omega)]
  refine condB_of (fun h => by simp at h) fun _ => ⟨_, _, _, (R10 x24').cell, _, (R8 x24').cell, ?_⟩
  rw [ekm, w64 (n := (n : Int)) (by omega)]
  refine condB_of (fun h => by simp at h) fun _ => ⟨_, (R8 x24').cell, _, _, _, (R10 x24').cell, (found_spec (c2 := c4) (c3 := c5) (k := k) (h4.ext (x11.trans x24')) (h5.ext (x11.trans x24')) (Nat.le_refl _) (by omega) hlenR).mono ?_⟩
  rintro e w30 ⟨v, rfl, x30, hv⟩
  have x30' := x24'.trans x30
  have mk : ∀ (p : Option Addr) (l c : Nat) (K : Nat → World → Prop), (∀ k34 w36, RowK w36 k34 28 #[.slice p l c] → Ext w30 w36 → K k34 w36) → ∀ (k34 : Nat) (w35 : World), NewB w30 k34 (.cells #[.slice none 0 0] 28) w35 → (Live w35 (at0 k34) ∧ (∀ w36 : World, SetC w35 (at0 k34) (Value.slice p l c) w36 → K k34 w36)) := by
    intro p l c K hK k34 w35 h35
    have r34 : RowK w35 k34 28 #[.slice none 0 0] := h35.at
    exact ⟨r34.live, fun w36 s36 => hK k34 w36 (r34.set s36) (ext_upd h35.ext (by rw [h35.size.1]; exact Nat.le_refl _) (setK_upd s36))⟩
  rcases hv with ⟨hfew, rfl⟩ | ⟨hok, pl, cl, rfl, ol⟩
  · refine ⟨_, _, _, _, rfl, mk _ _ _ _ fun k34 w36 r34 x36 => condB_of (fun _ => ?_) (fun h => by simp at h)⟩
    exact ⟨x11.trans (x30'.trans x36), .inl ⟨hfew, rfl⟩⟩
  have hlk : ((mis n hs).take k).length = k := by rw [List.length_take]; omega
  have hmem : ∀ t ∈ (mis n hs).take k, t < n ∧ hs.getD t false = true := fun t ht => mem_mis.1 (List.mem_of_mem_take ht)
  refine ⟨_, _, _, _, rfl, mk _ _ _ _ fun k34 w36 r34 x36 => condB_of (fun h => by simp at h) fun _ => ?_⟩
  have x36' := x30'.trans x36
  have r20' : RowK w36 k20 82 (matC n k (some ag) (n * k) cg) := x36.keep (x30.keep r20)
  refine ⟨_, r20'.cell0 rfl, _, r20'.cell3 rfl, _, _, _, r20'.cell3 rfl, _, _, _, r34.cell, (pick_spec (c4 := cl) (hGr.ext (x24.trans (x30.trans x36))) (OwnN.nats (OwnS.ext ol x36)) (fun t ht => (hmem t ht).1) (by omega) (by omega) (by omega) (by omega) hcg).mono ?_⟩
  rintro e w41 ⟨v, rfl, km, rfl, mm, x41⟩
  refine ⟨_, _, _, _, _, _, rfl, new_mat fun k47 w51 r47 _ x51 => ?_⟩
  have x51' := x36'.trans (x41.trans x51)
  refine ⟨_, (R6 x51').cell, _, r47.cell0 rfl, _, r47.cell3 rfl, _, _, _, r47.cell3 rfl, (invert_spec (hf.ext (x11.trans x51')) (by omega) (by omega) (mm.ext x51).read (Nat.le_refl _) ?_).mono ?_⟩
  · exact gen_inj (k := k) (m := m) (by omega) hlk (by rw [← hn]; exact pick_count hok) (fun t ht => by have := (hmem t ht).1; omega)
  rintro e w56 ⟨v, rfl, kv, V, rfl, mv, hinv, x56⟩
  refine ⟨_, _, _, _, _, _, rfl, new_mat fun k62 w66 r62 _ x66 => condB_of (fun h => by simp at h) fun _ => ?_⟩
  have x66' := x51'.trans (x56.trans x66)
  have xw66 := x11.trans x66'
  have r34' : RowK w66 k34 28 #[.slice pl k cl] := x66.keep (x56.keep (x51.keep (x41.keep r34)))
  have ol' := OwnS.ext (OwnS.ext (OwnS.ext (OwnS.ext (OwnS.ext ol x36) x41) x51) x56) x66
  have mv' := mv.ext x66
  refine ⟨_, (R8 x66').cell, ⟨by omega, by omega, rfl, Upd.refl _ _, RowsS.nil _ _ _⟩, ?_⟩
  rintro p71 l71 c71 j w73 ⟨hj0, hj1, hlj, hx, hR⟩
  intros
  have x73 := x66'.trans hx
  have xw73 := xw66.trans hx
  refine condB_of (fun hs1 => ?_) (fun hs1 => ?_)
  · simp only [decide_eq_true_eq] at hs1
    obtain ⟨t, rfl⟩ := Int.eq_ofNat_of_zero_le hj0
    refine (made1_spec (s := (D0.getD 0 []).length) (hf.ext xw73) (R10 x73) (hx.keep r34') (hx.keep r62) (R8 x73) (R6 x73) (mv'.ext hx) (h5.ext xw73) (OwnN.nats (OwnS.ext ol' hx)) (fun u hu => ⟨(hmem u hu).1, hlenR u (hmem u hu).1 (hmem u hu).2⟩) (by omega) (by omega) hs0).mono ?_
    rintro e w84 ⟨p86, c86, rfl, x84, o84⟩
    refine ⟨_, _, _, rfl, fun k87 w88 h88 => ?_⟩
    rw [dcol_back hn hok hD hall rfl hL hinv (by omega)] at o84
    obtain ⟨p', c', w89, hr, hR', hu⟩ := hR.push x84 o84 h88 hx.size (by omega)
    rw [w64 (n := (t : Int) + 1) (by omega)]
    refine ⟨_, _, _, w89, hr, ⟨by omega, by omega, by omega, OwnB.new_ext (hx.trans x84) hu fun y hy => ?_, hR'.congr fun u _ => ?_⟩, by show ((k : Int) - ((t : Int) + 1)).toNat < ((k : Int) - t).toNat; omega⟩
    · obtain ⟨P, g1, _⟩ := hR
      exact OwnS.blk g1 hy
    · by_cases e : u = l71
      · rw [if_pos e, show u = t by omega]
      · rw [if_neg e]
  · simp only [decide_eq_false_iff_not] at hs1
    obtain rfl : l71 = k := by omega
    obtain ⟨g, rfl, _, hRa⟩ := hR.first (by omega)
    have hDe : (List.range l71).map (fun t => D0.getD t []) = D0 := by
      refine List.ext_getElem (by simp [hD]) fun i h1 h2 => ?_
      simp [List.getD_eq_getElem?_getD, h2]
    have hlists := hRa.lists
    rw [hDe] at hlists
    refine ⟨_, (R6 x73).cell, _, (R8 x73).cell, (encode_spec (c := c71) (hf.ext xw73) hlists (fun y hy => ?_) (by omega) l71 m).mono ?_⟩
    · obtain ⟨i, hi, rfl⟩ := List.getElem_of_mem hy
      have := hall i (by omega)
      rw [List.getD_eq_getElem?_getD, List.getElem?_eq_getElem hi, Option.getD_some] at this
      omega
    · rintro e w93 ⟨v, rfl, x93, ⟨h, _⟩ | ⟨_, h, _⟩ | ⟨_, _, a, c, rfl, hrows⟩⟩
      · exact (h hkok).elim
      · exact (h ⟨rfl, fun i hi => hall i hi⟩).elim
      · refine ⟨_, _, _, _, rfl, xw73.trans x93, .inr ⟨hok, a, c, ?_, ?_⟩⟩
        · rw [ekm, Int.toNat_natCast]
        · rw [ekm] at hrows
          simp only [Int.toNat_natCast] at hrows
          exact hrows.base_le xw73.size
end Go.Proofs.Ytpmkjpgoekjcfaa
