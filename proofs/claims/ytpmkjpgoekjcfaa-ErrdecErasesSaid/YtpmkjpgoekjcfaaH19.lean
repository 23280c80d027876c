/- Shards are put right. -/
import Derived.Test.YtpmkjpgoekjcfaaH18
namespace Go.Proofs.Ytpmkjpgoekjcfaa
open Go Go.Vc Go.Gf

theorem made_one (e : TypeId) (v : Value) (hz : zeroCellsOf Try.prog e = [v]) (n : Nat) : madeRow Try.prog e n = (List.replicate n v).toArray := by
  have h1 : (List.replicate n [v]).flatten = List.replicate n v := by
    clear hz
    induction n with
    | zero => rfl
    | succ n ih => rw [List.replicate_succ, List.flatten_cons, ih, List.replicate_succ]; rfl
  show ((List.replicate n (zeroCellsOf Try.prog e)).flatten).toArray = _
  rw [hz, h1]
/-- what shards put right are told as -/
def shardsP (w : World) (k m : Int) (l3 l4 : Nat) (hs : List Bool) (L : List (List UInt8)) (v : Value) (w' : World) : Prop := Ext w w' ∧
  ((¬ kmOk k m ∧ v = .tuple #[.slice none 0 0, .slice none 0 0, .int .i64 50]) ∨
   (kmOk k m ∧ (∀ s, ¬ Sized k m l3 l4 hs L s) ∧ v = .tuple #[.slice none 0 0, .slice none 0 0, .int .i64 60]) ∨
   kmOk k m ∧ ∃ s, Sized k m l3 l4 hs L s ∧ (((∃ x, x < s ∧ decM k.toNat m.toNat (wordAt l3 hs L x) (nots hs) = none) ∧ v = .tuple #[.slice none 0 0, .slice none 0 0, .int .i64 100]) ∨
    ∃ cs : List (List UInt8), cs.length = s ∧ (∀ x, x < s → decM k.toNat m.toNat (wordAt l3 hs L x) (nots hs) = some (cs.getD x [])) ∧ ∃ ko p2 n2 c2 W, v = .tuple #[.slice (some (at0 ko)) l3 l3, .slice p2 n2 c2, .int .i64 0] ∧
      OutAt w' w.heap.size ko l3 (fun i => cs.map fun c => co c i) ∧ OwnN w' w.heap.size p2 n2 c2 W ∧ W.Pairwise (· < ·) ∧ ∀ i, i ∈ W ↔ ∃ x, x < s ∧ i ∈ dif l3 (nots hs) (cs.getD x []) (wordAt l3 hs L x)))

theorem dif_len_le {n : Nat} {ms : List Bool} {a b : List UInt8} : (dif n ms a b).length ≤ n := by
  unfold dif
  refine Nat.le_trans (List.length_filter_le _ _) ?_
  rw [List.length_range]; exact Nat.le_refl _
theorem getD_snoc {cs : List (List UInt8)} {c : List UInt8} {x : Nat} (hx : x < cs.length) : (cs ++ [c]).getD x [] = cs.getD x [] := by
  simp only [List.getD_eq_getElem?_getD]
  rw [List.getElem?_append_left hx]
theorem getD_last (cs : List (List UInt8)) (c : List UInt8) : (cs ++ [c]).getD cs.length [] = c := by simp [List.getD_eq_getElem?_getD]

set_option maxHeartbeats 8000000 in
theorem shards_spec {f p3 p4 : Option Addr} {w : World} {l3 c3 l4 c4 : Nat} {hs : List Bool} {L : List (List UInt8)} (hf : FieldAt w f) (h3 : FlagsAt w p3 l3 hs) (h4 : ListsAt w p4 l4 L) (k m : Int) (bl : ∀ x ∈ L, x.length ≤ 1048576) :
    Calls Try.prog 16 #[.pointer f, .int .i64 k, .int .i64 m, .slice p3 l3 c3, .slice p4 l4 c4] w fun e w' => ∃ v, e = .returned v ∧ shardsP w k m l3 l4 hs L v w' := by
  refine F16_calls f k m p3 l3 c3 p4 l4 c4 w (shardsP w k m l3 l4 hs L)
    (fun q33 q36 q8 q10 q12 q42 q14 q6 _ _ s _ fl x w1 => 0 ≤ x ∧ x ≤ s ∧ fl = 0 ∧ ∃ k6 k8 k10 k12 k14 k33 k36 k42 k31 k40 cs wr, q33 = some (at0 k33) ∧ q36 = some (at0 k36) ∧ q8 = some (at0 k8) ∧ q10 = some (at0 k10) ∧ q12 = some (at0 k12) ∧ q42 = some (at0 k42) ∧ q14 = some (at0 k14) ∧ q6 = some (at0 k6) ∧ (cs : List (List UInt8)).length = x.toNat ∧
      (∀ t, t < x.toNat → decM k.toNat m.toNat (wordAt l3 hs L t) (nots hs) = some (cs.getD t [])) ∧ ShSt w w1 k m l3 f p3 p4 l3 c3 l4 c4 k6 k8 k10 k12 k14 k33 k36 k42 k31 k40 (fun i => cs.map fun c => co c i) wr ∧ wr.length ≤ 256 * x.toNat ∧
      ∀ i, i ∈ wr ↔ ∃ t, t < x.toNat ∧ i ∈ dif l3 (nots hs) (cs.getD t []) (wordAt l3 hs L t))
    (fun _ _ _ _ _ _ _ _ _ _ s _ _ x _ => (s - x).toNat) ?_
  intro k6 w7 h6 k8 w9 h8 k10 w11 h10 k12 w13 h12 k14 w15 h14
  have x15 : Ext w w15 := h6.ext.trans (h8.ext.trans (h10.ext.trans (h12.ext.trans h14.ext)))
  have r6 : RowK w15 k6 25 #[.pointer f] := h14.ext.keep (h12.ext.keep (h10.ext.keep (h8.ext.keep h6.at)))
  have r8 : RowK w15 k8 3 #[.int .i64 k] := h14.ext.keep (h12.ext.keep (h10.ext.keep h8.at))
  have r10 : RowK w15 k10 3 #[.int .i64 m] := h14.ext.keep (h12.ext.keep h10.at)
  have r12 : RowK w15 k12 23 #[.slice p3 l3 c3] := h14.ext.keep h12.at
  have r14 : RowK w15 k14 36 #[.slice p4 l4 c4] := h14.at
  refine ⟨_, r6.cell, ?_⟩
  rw [hf.there]
  refine condB_of (fun h => by cases h) fun _ => ⟨_, r8.cell, _, r10.cell, (ccheck_spec k m w15).mono ?_⟩
  rintro e w19 ⟨rfl, rfl⟩
  refine ⟨_, rfl, condB_of (fun hc => ?_) (fun hc => ?_)⟩
  · simp only [Bool.not_eq_true', decide_eq_false_iff_not] at hc
    have hk : ¬ kmOk k m := fun h => hc (kmE_ok h)
    refine ⟨x15, .inl ⟨hk, ?_⟩⟩
    rw [kmE_bad hk]
  simp only [Bool.not_eq_false', decide_eq_true_eq] at hc
  have hk : kmOk k m := Decidable.byContradiction fun h => by rw [kmE_bad h] at hc; omega
  obtain ⟨a1, a2, a3, a4⟩ := hk
  have hk : kmOk k m := ⟨a1, a2, a3, a4⟩
  refine ⟨_, r8.cell, _, r10.cell, _, _, _, r12.cell, _, _, _, r14.cell, ?_⟩
  refine (size_spec (c3 := c3) (c4 := c4) (h3.ext x15) (h4.ext x15) hk).mono ?_
  rintro e w26 ⟨⟨r, rfl, hr⟩, rfl⟩
  refine ⟨_, rfl, condB_of (fun hneg => ?_) (fun hneg => ?_)⟩
  · simp only [decide_eq_true_eq] at hneg
    rcases hr with ⟨_, hno⟩ | ⟨h0, _⟩
    · exact ⟨x15, .inr (.inl ⟨hk, hno, rfl⟩)⟩
    · omega
  simp only [decide_eq_false_iff_not] at hneg
  rcases hr with ⟨h0, _⟩ | ⟨hr0, hsz⟩
  · omega
  have e3 := h3.1
  have e4 := h4.1
  have z1 := hsz.1
  have z2 := hsz.2.1
  have hn : (k + m).toNat = l3 := by omega
  have hn2 : k.toNat + m.toNat = l3 := by omega
  refine ⟨_, r8.cell, _, r10.cell, ?_⟩
  rw [w64 (n := k + m) (by omega), hn]
  refine ⟨⟨by omega, by omega, by omega⟩, fun k31 w32 h31 k33 w34 h33 => ?_⟩
  have t33 : RowK w34 k33 36 #[.slice none 0 0] := h33.at
  have m31 := made_one 22 (.slice none 0 0) (by kernel_rfl) l3
  have m40 := made_one 4 (.bool false) (by kernel_rfl) l3
  rw [m31] at h31
  refine ⟨t33.live, fun w35 s35 => ?_⟩
  have t33' := t33.set s35
  have u35 := setK_upd s35
  have k33ge : w26.heap.size ≤ k33 := by rw [h33.size.1]; have := h31.size.2; omega
  have x35 : Ext w26 w35 := OwnB.new_ext (h31.ext.trans h33.ext) u35 fun y hy => by rw [show y = k33 from hy]; exact k33ge
  intro k36 w37 h36
  have x37 : Ext w26 w37 := x35.trans h36.ext
  refine ⟨_, RowK.cell (x37.keep r8), _, RowK.cell (x37.keep r10), ?_⟩
  rw [w64 (n := k + m) (by omega), hn]
  refine ⟨⟨by omega, by omega, by omega⟩, fun k40 w41 h40 k42 w43 h42 => ?_⟩
  rw [m40] at h40
  have t42 : RowK w43 k42 23 #[.slice none 0 0] := h42.at
  refine ⟨t42.live, fun w44 s44 => ?_⟩
  have u44 := setK_upd s44
  have szw := x15.size
  have sz37 := x37.size
  have k40ge : w37.heap.size ≤ k40 := by rw [h40.size.1]; exact Nat.le_refl _
  have k42ge : w37.heap.size ≤ k42 := by rw [h42.size.1]; have := h40.size.2; omega
  have x44 : Ext w37 w44 := OwnB.new_ext (h40.ext.trans h42.ext) u44 fun y hy => by rw [show y = k42 from hy]; exact k42ge
  have x1944 := x37.trans x44
  have xw44 := x15.trans x1944
  have r31 : RowK w35 k31 22 (List.replicate l3 (.slice none 0 0)).toArray := RowK.keep (h33.ext.keep h31.at) u35 fun y hy => ⟨#[.slice none 0 0], _, (0, 0), by rw [show y = k33 from hy]; exact t33, ty_row.2.2.2.1.symm⟩
  have k31ge : w26.heap.size ≤ k31 := by rw [h31.size.1]; exact Nat.le_refl _
  have st0 : ShSt w w44 k m l3 f p3 p4 l3 c3 l4 c4 k6 k8 k10 k12 k14 k33 k36 k42 k31 k40 (fun i => ([] : List (List UInt8)).map fun c => co c i) [] := by
    have h15 : ∀ {k' : Nat} {e : TypeId} {cs : Array Value}, RowK w26 k' e cs → k' < w26.heap.size := fun h => lt_of_heap h
    have lt37 : k31 < w37.heap.size := lt_of_heap (h36.ext.keep r31)
    refine ⟨xw44, by rw [h36.size.1]; exact (x15.trans x35).size, by omega, x1944.keep r6, x1944.keep r8, x1944.keep r10, x1944.keep r12, x1944.keep r14, x44.keep (h36.ext.keep t33'), t42.set s44,
      ⟨by have := h15 r12; omega, by have := h15 r14; omega⟩, ⟨none, 0, 0, w37.heap.size, by omega, x44.size, by have := h15 r8; omega, by have := h15 r10; omega, x44.keep h36.at, OwnS.nil _ _ _ _⟩,
      ⟨⟨_, x44.keep (h36.ext.keep r31), by simp⟩, by omega, fun _ => (none, 0, 0), fun i hi => ⟨?_, OwnS.nil _ _ _ _⟩, fun _ _ _ _ _ g hg => by cases hg⟩, ⟨(List.replicate l3 (.bool false)).toArray, ?_, by simp⟩⟩
    · rw [rowk_cell (x44.keep (h36.ext.keep r31))]
      simp [hi]
    · exact RowK.keep (h42.ext.keep h40.at) u44 fun y hy => ⟨#[.slice none 0 0], _, (0, 0), by rw [show y = k42 from hy]; exact t42, ty_all.2.2.2.2.1.symm⟩
  refine ⟨⟨by omega, by omega, rfl, k6, k8, k10, k12, k14, k33, k36, k42, k31, k40, [], [], rfl, rfl, rfl, rfl, rfl, rfl, rfl, rfl, rfl, fun t ht => (Nat.not_lt_zero _ ht).elim, st0, Nat.zero_le _, fun i => ⟨(fun h => by cases h), fun ⟨_, ht, _⟩ => (Nat.not_lt_zero _ ht).elim⟩⟩, ?_⟩
  rintro fl x w58 ⟨hx0, hx1, rfl, k6', k8', k10', k12', k14', k33', k36', k42', k31', k40', cs, wr, g1, g2, g3, g4, g5, g6, g7, g8, hcl, hcs, st, hwl, hwm⟩
  simp only [Option.some.injEq, at0, Addr.mk.injEq, and_true] at g1 g2 g3 g4 g5 g6 g7 g8
  subst g1 g2 g3 g4 g5 g6 g7 g8
  intros
  have hlenL : ∀ i, i < l3 → hs.getD i false = true → r.toNat ≤ 1048576 := fun i hi hb => by
    rw [← hsz.2.2.2 i hi hb, List.getD_eq_getElem?_getD, List.getElem?_eq_getElem (by omega)]
    exact bl _ (List.getElem_mem _)
  obtain ⟨i0, hi0, hb0⟩ := hsz.2.2.1
  have hr20 := hlenL i0 hi0 hb0
  refine condB_of (fun hs2 => ?_) (fun hs2 => ?_)
  · simp only [decide_eq_true_eq] at hs2
    have hsp := right_spec hf h3 h4 hk (by omega) hsz (x := x.toNat) (by omega) (by omega) (fun t _ => by rw [List.length_map]; omega) hwl st
    rw [show ((x.toNat : Nat) : Int) = x by omega] at hsp
    refine hsp.mono ?_
    rintro e w68 ⟨hx68, ⟨hd, rfl⟩ | ⟨c, hd, rfl, st'⟩⟩
    · refine ⟨_, rfl, condB_of (fun _ => ?_) (fun h => by simp at h)⟩
      unfold F16_A0
      refine condB_of (fun _ => ?_) (fun h => by simp at h)
      exact ⟨hx68, .inr (.inr ⟨hk, r.toNat, hsz, .inl ⟨⟨x.toNat, by omega, hd⟩, rfl⟩⟩)⟩
    · refine ⟨_, rfl, condB_of (fun h => by simp at h) fun _ => ?_⟩
      rw [w64 (n := x + 1) (by omega)]
      have hnx : (x + 1).toNat = x.toNat + 1 := by omega
      rw [hn2] at st'
      refine ⟨⟨by omega, by omega, rfl, _, _, _, _, _, _, _, _, k31', k40', cs ++ [c], wr ++ dif l3 (nots hs) c (wordAt l3 hs L x.toNat), rfl, rfl, rfl, rfl, rfl, rfl, rfl, rfl, by simp; omega, fun t ht => ?_, ?_, ?_, fun i => ?_⟩, by show (r - (x + 1)).toNat < (r - x).toNat; omega⟩
      · by_cases e : t < x.toNat
        · rw [getD_snoc (by omega)]; exact hcs t e
        · have e2 : t = cs.length := by omega
          rw [e2, getD_last, hcl]; exact hd
      · have e1 : (fun i => (cs ++ [c]).map fun c => co c i) = fun i => (cs.map fun c => co c i) ++ [co c i] := by funext i; simp
        rw [e1]; exact st'
      · have := dif_len_le (n := l3) (ms := nots hs) (a := c) (b := wordAt l3 hs L x.toNat)
        rw [List.length_append]
        omega
      · rw [List.mem_append, hwm, hnx]
        constructor
        · rintro (⟨t, ht, hi⟩ | hi)
          · exact ⟨t, by omega, by rw [getD_snoc (by omega)]; exact hi⟩
          · exact ⟨x.toNat, by omega, by rw [← hcl, getD_last, hcl]; exact hi⟩
        · rintro ⟨t, ht, hi⟩
          by_cases e : t < x.toNat
          · rw [getD_snoc (by omega)] at hi; exact .inl ⟨t, e, hi⟩
          · have e2 : t = cs.length := by omega
            rw [e2, getD_last, hcl] at hi; exact .inr hi
  · simp only [decide_eq_false_iff_not] at hs2
    obtain rfl : x = r := by omega
    unfold F16_A0
    refine condB_of (fun h => by simp at h) fun _ => ?_
    obtain ⟨pw_, nw, cw, b, hb1, hb2, _, _, hr36, how⟩ := st.r36
    have hwn := OwnN.len how
    refine ⟨_, _, _, hr36.cell, (sort_own how (by omega)).mono ?_⟩
    rintro e w72 ⟨rfl, l', ho72, u72, hperm, hsrt⟩
    have tyw : ∀ {e : TypeId}, 3 ≠ e → ∀ y, pw_ = some (at0 y) → ∃ (cs : Array Value) (e' : TypeId) (fz : Nat × Nat), w58.heap[y]? = some (Obj.cells cs e' fz) ∧ e' ≠ e := fun he y hy => by
      obtain ⟨cs, e', fz, h7, h8⟩ := OwnS.typed how hy
      exact ⟨cs, e', fz, h7, by rw [h8]; exact he⟩
    have hr36' : RowK w72 k36 28 #[.slice pw_ nw cw] := RowK.keep hr36 u72 (tyw ty_int.2.2.2.2.1)
    have hr33' : RowK w72 k33 36 #[.slice (some (at0 k31')) l3 l3] := RowK.keep st.r33 u72 (tyw ty_int.2.2.2.1)
    have out72 : OutAt w72 w.heap.size k31' l3 (fun i => cs.map fun c => co c i) := OutAt.other st.out u72 fun y hy => by
      obtain ⟨cs, e', fz, h7, h8⟩ := OwnS.typed how hy
      exact ⟨cs, e', fz, h7, by rw [h8]; exact ty_out.2.2.1.symm, by rw [h8]; exact ty_int.2.1⟩
    have x72 : Ext w w72 := OwnB.new_ext st.ext u72 fun y hy => Nat.le_trans hb1 (OwnS.blk how hy)
    refine ⟨rfl, fun w74 hd74 => ?_⟩
    have r36b : RowK w74 k36 28 #[.slice pw_ nw cw] := hd74.ext.keep hr36'
    have r33b : RowK w74 k33 36 #[.slice (some (at0 k31')) l3 l3] := hd74.ext.keep hr33'
    have ho74 : OwnN w74 b pw_ nw cw l' := OwnS.ext ho72 hd74.ext
    refine ⟨_, _, _, r33b.cell, _, _, _, r36b.cell, (compact_own ho74 hsrt (by omega)).mono ?_⟩
    rintro e w77 ⟨n', W, rfl, hoW, u77, hW1, hW2⟩
    have tyw2 : ∀ {e : TypeId}, 3 ≠ e → ∀ y, pw_ = some (at0 y) → ∃ (cs : Array Value) (e' : TypeId) (fz : Nat × Nat), w74.heap[y]? = some (Obj.cells cs e' fz) ∧ e' ≠ e := fun he y hy => by
      obtain ⟨cs, e', fz, h7, h8⟩ := OwnS.typed ho74 hy
      exact ⟨cs, e', fz, h7, by rw [h8]; exact he⟩
    have r33c : RowK w77 k33 36 #[.slice (some (at0 k31')) l3 l3] := RowK.keep r33b u77 (tyw2 ty_int.2.2.2.1)
    refine ⟨_, _, _, rfl, ⟨_, _, _, r33c.cell, rfl⟩, ?_, .inr (.inr ⟨hk, x.toNat, hsz, .inr ⟨cs, hcl, hcs, k31', pw_, n', cw, W, rfl, ?_, OwnS.base_le hoW hb1, hW1, fun i => ?_⟩⟩)⟩
    · exact OwnB.new_ext (x72.trans hd74.ext) u77 fun y hy => Nat.le_trans hb1 (OwnS.blk ho74 hy)
    · exact OutAt.other (out72.ext hd74.ext) u77 fun y hy => by
        obtain ⟨cs, e', fz, h7, h8⟩ := OwnS.typed ho74 hy
        exact ⟨cs, e', fz, h7, by rw [h8]; exact ty_out.2.2.1.symm, by rw [h8]; exact ty_int.2.1⟩
    · rw [hW2, hperm.mem_iff, hwm]
end Go.Proofs.Ytpmkjpgoekjcfaa
