/- A disk's Corrupt, Fail, Replace; a disk as one thing with the blocks that are its own. -/
import Derived.Test.YtbidancfbilbkaaC8
namespace Go.Proofs.Ytbidancfbilbkaa
open Go Go.Vc

theorem encB_set (bs : List UInt8) (i : Nat) (b : UInt8) : (encB bs).set i (.int .u8 (b.toNat : Int)) = encB (bs.set i b) := by
  simp [encB, List.map_set]

theorem corrupt_nil (k a y : Int) (w : World) : Calls Try.prog 53 #[.pointer none, .int .i64 k, .int .i64 a, .int .u8 y] w fun e w' => e = .returned (.int .i64 1) ∧ w' = w := by
  refine (F53_calls none k a y w (fun v w' => v = .int .i64 1 ∧ w' = w) ?_).mono (by rintro e w' ⟨v, rfl, rfl, h⟩; exact ⟨rfl, h⟩)
  refine (fault_nil k w).mono ?_
  rintro e w2 ⟨rfl, rfl⟩
  exact ⟨1, rfl, condB_of (fun _ => ⟨rfl, rfl⟩) (fun h => by simp at h)⟩
theorem fail_nil (w : World) : Calls Try.prog 51 #[.pointer none] w fun e w' => e = .returned (.tuple #[]) ∧ w' = w := by
  refine (F51_calls none w (fun v w' => v = .tuple #[] ∧ w' = w) ?_).mono (by rintro e w' ⟨v, rfl, rfl, h⟩; exact ⟨rfl, h⟩)
  refine (empty_nil true w).mono ?_
  rintro e w2 ⟨rfl, rfl⟩
  exact ⟨rfl, rfl, rfl⟩
theorem replace_nil (w : World) : Calls Try.prog 52 #[.pointer none] w fun e w' => e = .returned (.tuple #[]) ∧ w' = w := by
  refine (F52_calls none w (fun v w' => v = .tuple #[] ∧ w' = w) ?_).mono (by rintro e w' ⟨v, rfl, rfl, h⟩; exact ⟨rfl, h⟩)
  refine (empty_nil false w).mono ?_
  rintro e w2 ⟨rfl, rfl⟩
  exact ⟨rfl, rfl, rfl⟩

theorem fail_spec {w : World} {b m1 m2 : Nat} {D : Dk} {G : Nat → Prop} (h : IsDisk w b m1 m2 D G) :
    Calls Try.prog 51 #[.pointer (some (at0 b))] w fun e w' => e = .returned (.tuple #[]) ∧ Upd (Core b m1 m2) w w' ∧ IsDisk w' b m1 m2 { D with dead := true, lasts := [], waits := [] } G := by
  refine (F51_calls (some (at0 b)) w (fun v w' => v = .tuple #[] ∧ Upd (Core b m1 m2) w w' ∧ IsDisk w' b m1 m2 { D with dead := true, lasts := [], waits := [] } G) ?_).mono (by rintro e w' ⟨v, rfl, rfl, h⟩; exact ⟨rfl, h⟩)
  refine (empty_spec h true).mono ?_
  rintro e w2 ⟨rfl, h⟩
  exact ⟨rfl, rfl, h⟩
theorem replace_spec {w : World} {b m1 m2 : Nat} {D : Dk} {G : Nat → Prop} (h : IsDisk w b m1 m2 D G) :
    Calls Try.prog 52 #[.pointer (some (at0 b))] w fun e w' => e = .returned (.tuple #[]) ∧ Upd (Core b m1 m2) w w' ∧ IsDisk w' b m1 m2 { D with dead := false, lasts := [], waits := [] } G := by
  refine (F52_calls (some (at0 b)) w (fun v w' => v = .tuple #[] ∧ Upd (Core b m1 m2) w w' ∧ IsDisk w' b m1 m2 { D with dead := false, lasts := [], waits := [] } G) ?_).mono (by rintro e w' ⟨v, rfl, rfl, h⟩; exact ⟨rfl, h⟩)
  refine (empty_spec h false).mono ?_
  rintro e w2 ⟨rfl, h⟩
  exact ⟨rfl, rfl, h⟩

theorem corIdx_lt (a : Int) {n : Nat} (h : 0 < n) : corIdx a n < n := by
  unfold corIdx
  have h1 := Int.emod_lt_of_pos (if a < 0 then -(a + 1) else a) (show (0 : Int) < n by omega)
  have h2 := Int.emod_nonneg (if a < 0 then -(a + 1) else a) (show (n : Int) ≠ 0 by omega)
  omega

set_option maxHeartbeats 1000000 in
theorem corrupt_spec {w : World} {b m1 m2 : Nat} {D : Dk} {G : Nat → Prop} (h : IsDisk w b m1 m2 D G) (k a : Int) (y : UInt8) (ha : -9223372036854775808 ≤ a ∧ a ≤ 9223372036854775807) :
    Calls Try.prog 53 #[.pointer (some (at0 b)), .int .i64 k, .int .i64 a, .int .u8 (y.toNat : Int)] w fun e w' => ∃ G', e = .returned (.int .i64 (corruptZ D k)) ∧ Upd (Core b m1 m2) w w' ∧
      IsDisk w' b m1 m2 (corruptD D k a y) G' ∧ Grows G G' w w' := by
  refine (F53_calls (some (at0 b)) k a (y.toNat : Int) w (fun v w' => ∃ G', v = .int .i64 (corruptZ D k) ∧ Upd (Core b m1 m2) w w' ∧
      IsDisk w' b m1 m2 (corruptD D k a y) G' ∧ Grows G G' w w') ?_).mono (by rintro e w' ⟨v, rfl, G', rfl, h⟩; exact ⟨G', rfl, h⟩)
  obtain ⟨n1, n2, n3⟩ := h.ne
  refine (fault_spec h.row).mono ?_
  rintro e w5 ⟨rfl, rfl⟩
  refine ⟨_, rfl, condB_of (fun hf => ?_) (fun hf => ?_)⟩
  · simp only [Bool.not_eq_true', decide_eq_false_iff_not] at hf
    have hz : corruptZ D k = faultZ D.dead D.sectors k := by simp [corruptZ, hf]
    refine ⟨G, by rw [hz], Upd.refl _ _, ?_, fun x hx => .inl hx⟩
    rw [corruptD, if_pos hf]; exact h
  simp only [Bool.not_eq_false', decide_eq_true_eq] at hf
  refine (at_spec h k).mono ?_
  rintro e w8 ⟨hq, p, l, c, r, rfl, hcase⟩
  refine ⟨p, l, c, some r, rfl, ?_⟩
  have hx8 : Ext w5 w8 := hq.ext
  have h8 := h.ext hx8
  -- of the two maps, in one
  have main : ∀ (bs : List UInt8) (M : SM), SliceVal G w8 (.slice p l c) bs → MapOf intK (SliceVal G w8) w8 r M → Asc M → corruptZ D k = 0 → (r = m1 ∨ r = m2) →
      (∀ w' G', (∀ x, G x → G' x) → Upd (fun x => x = r) w8 w' → (∀ x, G' x → x < w'.heap.size) → Grows G G' w8 w' → MapOf intK (SliceVal G' w') w' r (ins k (corBytes bs a y) M) → Asc (ins k (corBytes bs a y) M) →
        IsDisk w' b m1 m2 (corruptD D k a y) G') → 
      ∀ E : Int, E = (if a < 0 then -(a + 1) else a) →
      Calls Try.prog 56 #[.slice p l c] w8 fun e13 w12 => (∃ (p14 : Option Addr) (l14 c14 : Nat), e13 = .returned (.slice p14 l14 c14) ∧ (((l14 : Nat) : Int) ≠ 0 ∧ ((0 ≤ (E.tmod ((l14 : Nat) : Int)) ∧ (E.tmod ((l14 : Nat) : Int)) < ((l14 : Nat) : Int)) ∧
        (nilM p14 fun a15 => (∃ (n16 : Int), w12.cell? (a15.add ((E.tmod ((l14 : Nat) : Int)).toNat * 1)) = some (.int .u8 n16) ∧ ((0 ≤ (E.tmod ((l14 : Nat) : Int)) ∧ (E.tmod ((l14 : Nat) : Int)) < ((l14 : Nat) : Int)) ∧
        (nilM p14 fun a17 => (Live w12 (a17.add ((E.tmod ((l14 : Nat) : Int)).toNat * 1)) ∧ (∀ w18 : World, SetC w12 (a17.add ((E.tmod ((l14 : Nat) : Int)).toNat * 1)) (Value.int .u8 (bitsV .xor .u8 n16 (y.toNat : Int))) w18 →
        (∃ w19 : World, Sem.run Try.prog (Instr.mapUpdate 87 (.map (some r)) (.int .i64 k) (.slice p14 l14 c14)) w18 = .ok () w19 ∧
          (∃ G', Value.int .i64 0 = .int .i64 (corruptZ D k) ∧ Upd (Core b m1 m2) w5 w19 ∧ IsDisk w19 b m1 m2 (corruptD D k a y) G' ∧ Grows G G' w5 w19))))))))))) := by
    intro bs M hsv hM hasc hz hr hfin E hE
    obtain ⟨p0, l0, c0, he, hb, hne, hn, hG⟩ := hsv
    cases he
    have hl := hb.1
    have hpos : 0 < l := by
      rw [hl]; exact List.length_pos_iff.2 hne
    have hEn : 0 ≤ E := by rw [hE]; split <;> omega
    have htm : E.tmod (l : Int) = E % (l : Int) := Int.tmod_eq_emod_of_nonneg hEn
    have hidx : (E % (l : Int)).toNat = corIdx a bs.length := by rw [hE, ← hl]; rfl
    have hlt := corIdx_lt a (n := bs.length) (by omega)
    refine (clone_spec hb (by omega) (fun e => by
      obtain ⟨a, ha, _⟩ := hb.lt hne
      rw [e] at ha; cases ha)).mono ?_
    rintro e w12 ⟨p', c', rfl, hx12, hown, hnil⟩
    refine ⟨p', l, c', rfl, by omega, ?_⟩
    rw [htm, Nat.mul_one, hidx]
    have hr1 := Int.emod_nonneg E (show (l : Int) ≠ 0 by omega)
    have hr2 := Int.emod_lt_of_pos E (show (0 : Int) < l by omega)
    refine ⟨⟨hr1, hr2⟩, ?_⟩
    have hel : (encB bs)[corIdx a bs.length]? = some (.int .u8 ((bs.getD (corIdx a bs.length) 0).toNat : Int)) := by
      simp [encB, List.getElem?_eq_getElem hlt, List.getD]
    obtain ⟨aa, rfl, hcell⟩ := hown.cells _ _ hel
    refine ⟨_, hcell, ⟨hr1, hr2⟩, hown.live (by rw [encB_length]; exact hlt), ?_⟩
    intro w18 hset
    obtain ⟨hown18, hu18⟩ := hown.set hset
    rw [xor_u8, encB_set] at hown18
    have hag : ∃ g, aa = at0 g ∧ w8.heap.size ≤ g := by
      rcases hown.where_ with ⟨h, _⟩ | ⟨g, h, hge, _⟩
      · cases h
      · cases h; exact ⟨g, rfl, hge⟩
    obtain ⟨g, rfl, hge⟩ := hag
    have hx18 : Ext w8 w18 := Upd.trans hx12 hu18 fun x hx hs => by
      have : x = g := hs
      omega
    let G' : Nat → Prop := fun x => G x ∨ (w8.heap.size ≤ x ∧ x < w18.heap.size)
    have hbs' : corBytes bs a y ≠ [] := by
      intro h0
      have := congrArg List.length h0
      simp [corBytes] at this
      exact hne this
    have hval : SliceVal G' w18 (.slice (some (at0 g)) l c') (corBytes bs a y) := by
      have hb' := BytesAt.of_cells hown18.cells
      have hlen : (bs.set (corIdx a bs.length) (bs.getD (corIdx a bs.length) 0 ^^^ y)).length = l := by rw [List.length_set]; exact hl.symm
      rw [hlen] at hb'
      refine ⟨_, l, c', rfl, hb', hbs', by omega, ?_⟩
      rintro a ⟨⟩
      refine .inr ⟨hge, ?_⟩
      rcases hown18.where_ with ⟨h, _⟩ | ⟨g', h, _, hlt, _⟩
      · cases h
      · cases h; exact hlt
    obtain ⟨w19, hrun, hu19, hs19, hm19⟩ := (((hM.upd hx18 id).mono fun v x hv => (hv.upd hx18 fun _ _ h => h).mono (G' := G') fun x hx => .inl hx)).update mapT intT k hval
    have hu : Upd (fun x => x = r) w8 w19 := Upd.trans (hx18.upd (S := fun x => x = r)) hu19 fun _ _ h => h
    have hrlt : r < w8.heap.size := hM.lt
    have hGr : ∀ x, G' x → ¬ (x = r) := by
      rintro x (hx | hx)
      · have := h.apart x hx
        rcases hr with rfl | rfl
        · exact this.2.1
        · exact this.2.2
      · omega
    refine ⟨w19, hrun, G', by rw [hz], ?_, ?_, ?_⟩
    · refine Upd.trans (hx8.upd) (hu.mono fun x _ hx => ?_) fun _ _ h => h
      rcases hr with rfl | rfl
      · exact Or.inr (Or.inl hx)
      · exact Or.inr (Or.inr hx)
    · refine hfin w19 G' (fun x hx => .inl hx) hu ?_ ?_ ?_ (ins_asc hasc)
      · rintro x (hx | hx)
        · have := h8.bound x hx; have := hu.size; omega
        · rw [hs19]; exact hx.2
      · rintro x (hx | hx)
        · exact .inl hx
        · exact .inr (by rw [hs19]; exact hx)
      · exact (hm19.perm (ins_perm k _ M).symm).mono fun v x hv => hv.upd hu19 hGr
    · rintro x (hx | hx)
      · exact .inl hx
      · have := hx8.size
        exact .inr (by rw [hs19]; exact ⟨by omega, hx.2⟩)
  have hwrap : a < 0 → IntKind.i64.wrap (0 - IntKind.i64.wrap (a + 1)) = -(a + 1) := fun h0 => by
    rw [w64 (by omega : -9223372036854775808 ≤ a + 1 ∧ a + 1 ≤ 9223372036854775807), w64 (by omega)]; omega
  have up8 : ∀ {v : Value} {bs : List UInt8}, SliceVal G w5 v bs → SliceVal G w8 v bs := fun hv => hv.upd hx8 fun _ _ h => h
  rcases hcase with ⟨bs, hg, hsv, rfl⟩ | ⟨bs, hg1, hg2, hsv, rfl⟩ | ⟨hg1, hg2, rfl, rfl, rfl⟩
  · have hz : corruptZ D k = 0 := by simp [corruptZ, hf, hg]
    have hD : corruptD D k a y = { D with waits := ins k (corBytes bs a y) D.waits } := by simp [corruptD, hf, hg]
    have hll : l ≠ 0 := by
      obtain ⟨_, _, _, he, hb, hne, _⟩ := hsv
      cases he
      have := hb.1; have := List.length_pos_iff.2 hne; omega
    have fin := main bs D.waits (up8 hsv) h8.waits h.asc2 hz (.inr rfl) (by
      intro w' G' hGG hu hbd hgr hm hasc
      rw [hD]
      refine ⟨hu.rowW h8.row n2, (h8.lasts.upd hu n3).mono fun v x hv => (hv.mono hGG).upd hu ?_, hm, h.asc1, hasc, h.ne, ?_, hbd⟩
      · intro x hx
        rcases hgr x hx with hx | hx
        · exact (h.apart x hx).2.2
        · have := h8.waits.lt; omega
      · intro x hx
        rcases hgr x hx with hx | hx
        · exact h.apart x hx
        · have a1 := h8.row.lt; have a2 := h8.lasts.lt; have a3 := h8.waits.lt
          exact ⟨by omega, by omega, by omega⟩)
    refine condB_of (fun h0 => by simp only [decide_eq_true_eq] at h0; omega) (fun _ => condB_of (fun h0 => ?_) (fun h0 => ?_))
    · simp only [decide_eq_true_eq] at h0
      exact fin _ (by rw [hwrap h0, if_pos h0])
    · simp only [decide_eq_false_iff_not] at h0
      exact fin _ (by rw [if_neg h0])
  · have hz : corruptZ D k = 0 := by simp [corruptZ, hf, hg1, hg2]
    have hD : corruptD D k a y = { D with lasts := ins k (corBytes bs a y) D.lasts } := by simp [corruptD, hf, hg1, hg2]
    have hll : l ≠ 0 := by
      obtain ⟨_, _, _, he, hb, hne, _⟩ := hsv
      cases he
      have := hb.1; have := List.length_pos_iff.2 hne; omega
    have fin := main bs D.lasts (up8 hsv) h8.lasts h.asc1 hz (.inl rfl) (by
      intro w' G' hGG hu hbd hgr hm hasc
      rw [hD]
      refine ⟨hu.rowW h8.row n1, hm, (h8.waits.upd hu (fun e => n3 e.symm)).mono fun v x hv => (hv.mono hGG).upd hu ?_, hasc, h.asc2, h.ne, ?_, hbd⟩
      · intro x hx
        rcases hgr x hx with hx | hx
        · exact (h.apart x hx).2.1
        · have := h8.lasts.lt; omega
      · intro x hx
        rcases hgr x hx with hx | hx
        · exact h.apart x hx
        · have a1 := h8.row.lt; have a2 := h8.lasts.lt; have a3 := h8.waits.lt
          exact ⟨by omega, by omega, by omega⟩)
    refine condB_of (fun h0 => by simp only [decide_eq_true_eq] at h0; omega) (fun _ => condB_of (fun h0 => ?_) (fun h0 => ?_))
    · simp only [decide_eq_true_eq] at h0
      exact fin _ (by rw [hwrap h0, if_pos h0])
    · simp only [decide_eq_false_iff_not] at h0
      exact fin _ (by rw [if_neg h0])
  · have hz : corruptZ D k = 1 := by simp [corruptZ, hf, hg1, hg2]
    refine condB_of (fun _ => ?_) (fun h0 => by simp at h0)
    refine ⟨G, by rw [hz], hx8.upd, ?_, fun x hx => .inl hx⟩
    have hD : corruptD D k a y = D := by simp [corruptD, hf, hg1, hg2]
    rw [hD]; exact h8
end Go.Proofs.Ytbidancfbilbkaa
