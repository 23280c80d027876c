/- The disk: writing, corrupting, making. -/
import Derived.Test.YtbidancfbilbkaaC4
namespace Go.Proofs.Ytbidancfbilbkaa
open Go.Vc

theorem new_bad {n : Int} (h : n < 1 ∨ 4096 < n) (w : World) : Calls Try.prog 32 #[.int .i64 n] w fun e w' => e = .returned (.tuple #[.pointer none, .int .i64 1]) ∧ w' = w := by
  refine (F32_calls n w (fun v w' => v = .tuple #[.pointer none, .int .i64 1] ∧ w' = w) ?_).mono (by rintro e w' ⟨v, rfl, rfl, h⟩; exact ⟨rfl, h⟩)
  refine condB_of (fun _ => ⟨rfl, rfl⟩) (fun h1 => condB_of (fun _ => ⟨rfl, rfl⟩) (fun h2 => ?_))
  simp only [decide_eq_false_iff_not] at h1 h2
  omega

theorem new_good {n : Int} (h : 1 ≤ n ∧ n ≤ 4096) (w : World) : Calls Try.prog 32 #[.int .i64 n] w fun e w' => ∃ b m1 m2, e = .returned (.tuple #[.pointer (some (at0 b)), .int .i64 0]) ∧ Ext w w' ∧
    IsDisk w' b m1 m2 ⟨n, [], [], false⟩ (fun _ => False) ∧ w.heap.size ≤ b ∧ w.heap.size ≤ m1 ∧ w.heap.size ≤ m2 := by
  refine (F32_calls n w (fun v w' => ∃ b m1 m2, v = .tuple #[.pointer (some (at0 b)), .int .i64 0] ∧ Ext w w' ∧
    IsDisk w' b m1 m2 ⟨n, [], [], false⟩ (fun _ => False) ∧ w.heap.size ≤ b ∧ w.heap.size ≤ m1 ∧ w.heap.size ≤ m2) ?_).mono (by rintro e w' ⟨v, rfl, b, m1, m2, rfl, h⟩; exact ⟨b, m1, m2, rfl, h⟩)
  refine condB_of (fun h1 => ?_) (fun _ => condB_of (fun h2 => ?_) (fun _ => ?_))
  · simp only [decide_eq_true_eq] at h1; omega
  · simp only [decide_eq_true_eq] at h2; omega
  · intro k2 w3 h3 k4 w5 h5 k6 w7 h7
    have s3 := h3.size; have s5 := h5.size; have s7 := h7.size
    refine ⟨k6, k2, k4, rfl, (h3.ext.trans h5.ext).trans h7.ext, ?_, by omega, by omega, by omega⟩
    exact ⟨h7.row, ((MapOf.made h3).upd h5.ext id).upd h7.ext id, (MapOf.made h5).upd h7.ext id, .nil, .nil, ⟨by omega, by omega, by omega⟩, fun _ h => h.elim, fun _ h => h.elim⟩

/-! ## writing -/

def writeZ (D : Dk) (k : Int) (n : Nat) : Int := if faultZ D.dead D.sectors k ≠ 0 then faultZ D.dead D.sectors k else if n < 1 ∨ 4108 < n then 1 else 0
def writeD (D : Dk) (k : Int) (bs : List UInt8) : Dk := if writeZ D k bs.length = 0 then { D with waits := ins k bs D.waits } else D

theorem write_nil (k : Int) (p : Option Addr) (l c : Nat) (w : World) : Calls Try.prog 34 #[.pointer none, .int .i64 k, .slice p l c] w fun e w' => e = .returned (.int .i64 1) ∧ w' = w := by
  refine (F34_calls none k p l c w (fun v w' => v = .int .i64 1 ∧ w' = w) ?_).mono (by rintro e w' ⟨v, rfl, rfl, h⟩; exact ⟨rfl, h⟩)
  refine (fault_nil k w).mono ?_
  rintro e w2 ⟨rfl, rfl⟩
  exact ⟨1, rfl, condB_of (fun _ => ⟨rfl, rfl⟩) (fun h => by simp at h)⟩

/-- the bytes' blocks behind a step: as they were, and new ones -/
def Grows (G G' : Nat → Prop) (w w' : World) : Prop := ∀ x, G' x → G x ∨ (w.heap.size ≤ x ∧ x < w'.heap.size)

theorem write_spec {w : World} {b m1 m2 : Nat} {D : Dk} {G : Nat → Prop} (h : IsDisk w b m1 m2 D G) (k : Int) {p : Option Addr} {l c : Nat} {bs : List UInt8} (hb : BytesAt w p l bs) :
    Calls Try.prog 34 #[.pointer (some (at0 b)), .int .i64 k, .slice p l c] w fun e w' => ∃ G', e = .returned (.int .i64 (writeZ D k bs.length)) ∧ Upd (fun x => x = m2) w w' ∧
      IsDisk w' b m1 m2 (writeD D k bs) G' ∧ Grows G G' w w' := by
  refine (F34_calls (some (at0 b)) k p l c w (fun v w' => ∃ G', v = .int .i64 (writeZ D k bs.length) ∧ Upd (fun x => x = m2) w w' ∧
      IsDisk w' b m1 m2 (writeD D k bs) G' ∧ Grows G G' w w') ?_).mono (by rintro e w' ⟨v, rfl, G', rfl, h⟩; exact ⟨G', rfl, h⟩)
  obtain ⟨n1, n2, n3⟩ := h.ne
  have hl := hb.1
  refine (fault_spec h.row).mono ?_
  rintro e w4 ⟨rfl, rfl⟩
  refine ⟨_, rfl, condB_of (fun hf => ?_) (fun hf => ?_)⟩
  · simp only [Bool.not_eq_true', decide_eq_false_iff_not] at hf
    have hz : writeZ D k bs.length = faultZ D.dead D.sectors k := by simp [writeZ, hf]
    refine ⟨G, by rw [hz], Upd.refl _ _, ?_, fun x hx => .inl hx⟩
    rw [writeD, hz, if_neg hf]; exact h
  · simp only [Bool.not_eq_false', decide_eq_true_eq] at hf
    have bad : (bs.length < 1 ∨ 4108 < bs.length) → ∃ G', Value.int .i64 1 = .int .i64 (writeZ D k bs.length) ∧ Upd (fun x => x = m2) w4 w4 ∧ IsDisk w4 b m1 m2 (writeD D k bs) G' ∧ Grows G G' w4 w4 := by
      intro hbad
      have hz : writeZ D k bs.length = 1 := by rw [writeZ, if_neg (by simp [hf]), if_pos hbad]
      refine ⟨G, by rw [hz], Upd.refl _ _, ?_, fun x hx => .inl hx⟩
      rw [writeD, hz, if_neg (by omega)]; exact h
    refine condB_of (fun h1 => ?_) (fun h1 => condB_of (fun h2 => ?_) (fun h2 => ?_))
    · simp only [decide_eq_true_eq] at h1
      exact bad (by omega)
    · simp only [decide_eq_true_eq] at h2
      exact bad (by omega)
    · simp only [decide_eq_false_iff_not] at h1 h2
      have hz : writeZ D k bs.length = 0 := by
        rw [writeZ, if_neg (by simp [hf]), if_neg (by omega)]
      have hne : bs ≠ [] := by rintro rfl; simp at hl; omega
      intro w7 hd
      have h7 := h.ext hd.ext
      refine ⟨_, h7.row.row.cell rfl, ?_⟩
      refine (clone_spec (hb.ext hd.ext) (by omega) (fun e => by
        obtain ⟨a, ha, _⟩ := hb.lt hne
        rw [e] at ha; cases ha)).mono ?_
      rintro e w10 ⟨p', c', rfl, hx, hown, _⟩
      have h10 := h7.ext hx
      refine ⟨p', l, c', rfl, ⟨_, h10.row.row.cell rfl, rfl⟩, ?_⟩
      -- the new sector's bytes
      let G' : Nat → Prop := fun x => G x ∨ (w4.heap.size ≤ x ∧ x < w10.heap.size)
      have hsz : w7.heap.size = w4.heap.size := by rw [hd.quiet.heap]
      have hval : SliceVal G' w10 (.slice p' l c') bs := by
        have hb' := BytesAt.of_cells hown.cells
        rw [← hl] at hb'
        refine ⟨p', l, c', rfl, hb', hne, by omega, fun a ha => .inr ?_⟩
        rcases hown.where_ with ⟨hp, hn, _⟩ | ⟨g, hg, hge, hlt, _⟩
        · rw [hp] at ha; cases ha
        · rw [hg] at ha
          cases ha
          exact ⟨by rw [← hsz]; exact hge, hlt⟩
      obtain ⟨w14, hr, hu14, hs14, hm14⟩ := (h10.waits.mono fun v x hv => hv.mono (G' := G') fun x hx => .inl hx).update mapT intT k hval
      refine ⟨w14, hr, G', by rw [hz], ?_, ?_, fun x hx => ?_⟩
      · exact Upd.trans ((hd.ext.trans hx).upd (S := fun x => x = m2)) hu14 fun _ _ h => h
      · have hG' : ∀ x, G' x → ¬ (x = m2) := by
          rintro x (hx | hx)
          · exact (h.apart x hx).2.2
          · have := h.waits.lt; omega
        rw [writeD, hz, if_pos rfl]
        refine ⟨hu14.rowW h10.row n2, (h10.lasts.upd hu14 n3).mono fun v x hv => (hv.mono fun x hx => .inl hx).upd hu14 hG', ?_, h.asc1, ins_asc h.asc2, h.ne, ?_, ?_⟩
        · exact (hm14.perm (ins_perm k bs D.waits).symm).mono fun v x hv => hv.upd hu14 hG'
        · rintro x (hx | hx)
          · exact h.apart x hx
          · have a1 := h.row.lt; have a2 := h.lasts.lt; have a3 := h.waits.lt
            exact ⟨by omega, by omega, by omega⟩
        · rintro x (hx' | hx')
          · rw [hs14]; exact Nat.lt_of_lt_of_le (h7.bound x hx') hx.size
          · rw [hs14]; exact hx'.2
      · rcases hx with hx | hx
        · exact .inl hx
        · exact .inr (by rw [hs14]; exact hx)

/-! ## corrupting -/

/-- which byte -/
def corIdx (at_ : Int) (n : Nat) : Nat := ((if at_ < 0 then -(at_ + 1) else at_) % (n : Int)).toNat
def corBytes (bs : List UInt8) (at_ : Int) (by_ : UInt8) : List UInt8 := bs.set (corIdx at_ bs.length) (bs.getD (corIdx at_ bs.length) 0 ^^^ by_)
def corruptZ (D : Dk) (k : Int) : Int := if faultZ D.dead D.sectors k ≠ 0 then faultZ D.dead D.sectors k else match get k D.waits with
  | some _ => 0
  | none => match get k D.lasts with
    | some _ => 0
    | none => 1
def corruptD (D : Dk) (k at_ : Int) (by_ : UInt8) : Dk := if faultZ D.dead D.sectors k ≠ 0 then D else match get k D.waits with
  | some bs => { D with waits := ins k (corBytes bs at_ by_) D.waits }
  | none => match get k D.lasts with
    | some bs => { D with lasts := ins k (corBytes bs at_ by_) D.lasts }
    | none => D

theorem xor_u8 (x y : UInt8) : bitsV .xor .u8 (x.toNat : Int) (y.toNat : Int) = ((x ^^^ y).toNat : Int) := by
  have h1 : (BitVec.ofInt 8 (x.toNat : Int)) = x.toBitVec := by
    apply BitVec.eq_of_toNat_eq
    simp
  have h2 : (BitVec.ofInt 8 (y.toNat : Int)) = y.toBitVec := by
    apply BitVec.eq_of_toNat_eq
    simp
  have h3 : (x.toBitVec ^^^ y.toBitVec).toNat = (x ^^^ y).toNat := by simp
  have h4 := (x ^^^ y).toNat_lt
  change IntKind.u8.wrap ((BitVec.ofInt 8 (x.toNat : Int) ^^^ BitVec.ofInt 8 (y.toNat : Int)).toNat : Int) = _
  rw [h1, h2, h3]
  exact IntWalk.u8_in _ ⟨by omega, by omega⟩
end Go.Proofs.Ytbidancfbilbkaa
