/- A sector, packed and unpacked. -/
import Derived.Test.YtphkmbkmjhbenaaV1
namespace Go.Proofs.Ytphkmbkmjhbenaa
open Go Go.Vc

def fitsP (n : Int) : Prop := 0 ≤ n ∧ n ≤ 2147483647
instance (n : Int) : Decidable (fitsP n) := inferInstanceAs (Decidable (_ ∧ _))
def unpackOk (addr : Int) (b : List UInt8) : Prop :=
  12 ≤ b.length ∧ b.length ≤ 4108 ∧ fitsP addr ∧ numM (b.drop (b.length - 4)) = crcM (b.take (b.length - 4)) ∧ numM (b.take 4) = addr ∧ numM ((b.take 8).drop 4) ≤ 2147483647
instance (addr : Int) (b : List UInt8) : Decidable (unpackOk addr b) := inferInstanceAs (Decidable (_ ∧ _ ∧ _ ∧ _ ∧ _ ∧ _))
def unpackM (addr : Int) (b : List UInt8) : Option (Int × List UInt8) :=
  if unpackOk addr b then some (numM ((b.take 8).drop 4), (b.take (b.length - 4)).drop 8) else none

def UnP (addr : Int) (bs : List UInt8) (w : World) (v : Value) (w' : World) : Prop :=
  Ext w w' ∧ match unpackM addr bs with
  | none => v = .tuple #[.int .i64 0, .slice none 0 0, .int .i64 110]
  | some (n, d) => ∃ p c, v = .tuple #[.int .i64 n, .slice p d.length c, .int .i64 0] ∧ OwnS w' w.heap.size 5 1 p d.length c (encB d)

theorem UnP.bad {addr : Int} {bs : List UInt8} {w w' : World} (hx : Ext w w') (h : ¬ unpackOk addr bs) : UnP addr bs w (.tuple #[.int .i64 0, .slice none 0 0, .int .i64 110]) w' := by
  refine ⟨hx, ?_⟩
  unfold unpackM
  rw [if_neg h]

set_option maxHeartbeats 1000000 in
theorem unpack_spec (addr : Int) {p : Option Addr} {l c : Nat} {w : World} {bs : List UInt8} (h : BytesAt w p l bs) (hm : l ≤ 4611686018427387904) (hc : l ≤ c) :
    Calls Try.prog 16 #[.int .i64 addr, .slice p l c] w fun e w' => ∃ v, e = .returned v ∧ UnP addr bs w v w' := by
  refine F16_calls addr p l c w (fun v w' => UnP addr bs w v w') ?_
  have hl := h.1
  unfold F16
  rw [w64 (n := (l : Int) - 4) (by omega)]
  refine condB_of (fun h1 => ?_) (fun h1 => ?_)
  · simp only [decide_eq_true_eq] at h1
    exact UnP.bad (Upd.refl _ _) fun hk => by have := hk.1; omega
  simp only [decide_eq_false_iff_not] at h1
  refine condB_of (fun h2 => ?_) (fun h2 => ?_)
  · simp only [decide_eq_true_eq] at h2
    exact UnP.bad (Upd.refl _ _) fun hk => by have := hk.2.1; omega
  simp only [decide_eq_false_iff_not] at h2
  refine (fits_spec addr w).mono ?_
  rintro e w3 ⟨rfl, rfl⟩
  refine ⟨_, rfl, condB_of (fun h3 => ?_) (fun h3 => ?_)⟩
  · simp only [Bool.not_eq_true', decide_eq_false_iff_not] at h3
    exact UnP.bad (Upd.refl _ _) fun hk => h3 hk.2.2.1
  simp only [Bool.not_eq_false', decide_eq_true_eq] at h3
  have hn : ((l : Int) - 4).toNat = l - 4 := by omega
  rw [hn]
  refine ⟨⟨by omega, by omega⟩, ⟨by omega, by decide⟩, ?_⟩
  refine (number_spec (cutB h (a := 4) (b := 8) (by omega) (by omega) hc) (by omega)).mono ?_
  rintro e w4 ⟨rfl, rfl⟩
  refine ⟨_, rfl, fun w9 hd => ⟨⟨by omega, by omega⟩, ⟨by omega, by omega⟩, ?_⟩⟩
  have hx : Ext w4 w9 := hd.ext
  have h9 := h.ext hx
  have c1 := cutB h9 (c := c) (a := l - 4) (b := l) (Nat.le_refl _) (by omega) hc
  have e1 : bs.take l = bs := by rw [hl]; exact List.take_length
  rw [e1] at c1
  refine (number_spec c1 (by omega)).mono ?_
  rintro e w5 ⟨rfl, rfl⟩
  refine ⟨_, rfl, ?_⟩
  have c2 := cutB h9 (c := c) (a := 0) (b := l - 4) (by omega) (by omega) hc
  rw [List.drop_zero] at c2
  refine (sum_spec c2 (by omega)).mono ?_
  rintro e w6 ⟨rfl, rfl⟩
  refine ⟨_, rfl, condB_of (fun h4 => ?_) (fun h4 => ?_)⟩
  · simp only [Bool.not_eq_true', decide_eq_false_iff_not] at h4
    exact UnP.bad hx fun hk => h4 (by rw [hl]; exact hk.2.2.2.1)
  simp only [Bool.not_eq_false', decide_eq_true_eq] at h4
  have c3 := cutB h9 (c := c) (a := 0) (b := 4) (by omega) (by omega) hc
  rw [List.drop_zero] at c3
  refine ⟨⟨by omega, by omega⟩, ?_⟩
  refine (number_spec c3 (by omega)).mono ?_
  rintro e w7 ⟨rfl, rfl⟩
  have eu : IntKind.u32.wrap addr = addr := by rw [IntKind.wrap_u32']; have := h3.1; have := h3.2; omega
  rw [eu]
  refine ⟨_, rfl, condB_of (fun h5 => ?_) (fun h5 => ?_)⟩
  · simp only [Bool.not_eq_true', decide_eq_false_iff_not] at h5
    exact UnP.bad hx fun hk => h5 hk.2.2.2.2.1
  simp only [Bool.not_eq_false', decide_eq_true_eq] at h5
  refine condB_of (fun h6 => ?_) (fun h6 => ?_)
  · simp only [decide_eq_true_eq] at h6
    exact UnP.bad hx fun hk => by have := hk.2.2.2.2.2; omega
  simp only [decide_eq_false_iff_not] at h6
  refine ⟨⟨by omega, by omega⟩, ⟨by omega, by omega⟩, ?_⟩
  have c4 := cutB h9 (c := c) (a := 8) (b := l - 4) (by omega) (by omega) hc
  obtain ⟨a, rfl, _⟩ := h9.get (i := 0) (by omega)
  refine (clone_spec (c := c - 8) c4 (by omega) (fun hp => by unfold cutP addO at hp; split at hp <;> cases hp)).mono ?_
  rintro e w8 ⟨p', c', rfl, hx8, ho, _⟩
  have hok : unpackOk addr bs := ⟨by omega, by omega, h3, by rw [← hl]; exact h4, h5, by omega⟩
  have h4n := four_num (bs := (bs.take 8).drop 4) (by simp; omega)
  refine ⟨_, _, _, rfl, hx.trans hx8, ?_⟩
  unfold unpackM
  rw [if_pos hok, w64 (by omega)]
  have hlen : ((bs.take (bs.length - 4)).drop 8).length = l - 4 - 8 := by simp; omega
  refine ⟨p', c', ?_, ?_⟩
  · show Value.tuple _ = Value.tuple #[.int .i64 (numM ((bs.take 8).drop 4)), .slice p' ((bs.take (bs.length - 4)).drop 8).length c', .int .i64 0]
    rw [hlen]
  · show OwnS w8 _ _ 1 p' ((bs.take (bs.length - 4)).drop 8).length c' (encB ((bs.take (bs.length - 4)).drop 8))
    rw [hlen, ← hl]
    exact ho.base_le hx.size

/-! ## packing -/
def packH (addr epoch : Int) (d : List UInt8) : List UInt8 := fourM addr ++ (fourM epoch ++ d)
def packM (addr epoch : Int) (d : List UInt8) : List UInt8 := packH addr epoch d ++ fourM (crcM (packH addr epoch d))
theorem packH_len (addr epoch : Int) (d : List UInt8) : (packH addr epoch d).length = 8 + d.length := by simp [packH, fourM_len]; omega
theorem packM_len (addr epoch : Int) (d : List UInt8) : (packM addr epoch d).length = 12 + d.length := by simp [packM, packH_len, fourM_len]; omega

theorem unpack_pack {addr epoch : Int} {d : List UInt8} (ha : fitsP addr) (he : fitsP epoch) (hd : d.length ≤ 4096) : unpackM addr (packM addr epoch d) = some (epoch, d) := by
  have hl := packM_len addr epoch d
  have hh := packH_len addr epoch d
  have e1 : (packM addr epoch d).take (8 + d.length) = packH addr epoch d := by
    unfold packM
    rw [List.take_append_of_le_length (by omega), ← hh, List.take_length]
  have e2 : (packM addr epoch d).drop (8 + d.length) = fourM (crcM (packH addr epoch d)) := by
    unfold packM
    rw [← hh, List.drop_left]
  have e3 : (packM addr epoch d).take 4 = fourM addr := by
    unfold packM packH
    rw [List.append_assoc, List.take_append_of_le_length (by rw [fourM_len]; omega)]
    rfl
  have e4 : ((packM addr epoch d).take 8).drop 4 = fourM epoch := by
    have : (packM addr epoch d) = (fourM addr ++ fourM epoch) ++ (d ++ fourM (crcM (packH addr epoch d))) := by
      unfold packM
      rw [show packH addr epoch d = fourM addr ++ (fourM epoch ++ d) from rfl]
      simp [List.append_assoc]
    rw [this, List.take_append_of_le_length (by simp [fourM_len])]
    rfl
  have hn : (packM addr epoch d).length - 4 = 8 + d.length := by omega
  have hcr := crcM_range (packH addr epoch d)
  unfold unpackM
  rw [if_pos]
  · rw [e4, hn, e1, num_four he.1 (by have := he.2; omega)]
    congr 1
  · refine ⟨by omega, by omega, ha, ?_, ?_, ?_⟩
    · rw [hn, e1, e2, num_four hcr.1 hcr.2]
    · rw [e3, num_four ha.1 (by have := ha.2; omega)]
    · rw [e4, num_four he.1 (by have := he.2; omega)]; exact he.2

/-- what is said lies in its bounds -/
theorem unpack_bound {addr n : Int} {b d : List UInt8} (h : unpackM addr b = some (n, d)) : fitsP addr ∧ fitsP n ∧ d.length ≤ 4096 := by
  unfold unpackM at h
  split at h
  · rename_i hk
    simp only [Option.some.injEq, Prod.mk.injEq] at h
    obtain ⟨rfl, rfl⟩ := h
    have h1 := hk.1
    have h2 := hk.2.1
    have h4n := four_num (bs := (b.take 8).drop 4) (by simp; omega)
    exact ⟨hk.2.2.1, ⟨h4n.1, hk.2.2.2.2.2⟩, by simp; omega⟩
  · cases h

def paste (a : Nat) (xs bs : List UInt8) : List UInt8 := bs.take a ++ (xs ++ bs.drop (a + xs.length))
theorem paste_mid {a : Nat} {xs u v t : List UInt8} (ha : u.length = a) (hv : v.length = xs.length) : paste a xs (u ++ (v ++ t)) = u ++ (xs ++ t) := by
  unfold paste
  rw [List.take_left' ha, ← List.append_assoc u v t, List.drop_left' (by simp; omega)]

theorem setRow_upd (w : World) (g : Nat) (cs : Array Value) : Upd (fun b => b = g) w (w.setRow g cs) :=
  ⟨rfl, rfl, rfl, by simp [World.setRow], fun k _ hS => by
    unfold World.setRow
    rw [Array.getElem?_modify, if_neg (fun e => hS e.symm)]⟩

/-- bytes copied into a row of bytes -/
theorem run_copy_none {P : Program} (w : World) (dT sT ty elem : TypeId) (a : Addr) (dLen dCap c : Nat) (hu : P.underlying dT = some (.slice elem)) (hs : ((P.info? elem).map (·.size)).isSome = true) :
    (Builtin.copy_ #[dT, sT] ty #[.slice (some a) dLen dCap, .slice none 0 c]).run P w = .ok (goInt 0) w := by
  cases hq : P.info? elem with
  | none => simp [hq] at hs
  | some i => simp [Builtin.copy_, run_underlying hu, Builtin.lenOf, Builtin.firstCells, sizeOf, typeInfo, hq, storeCells]

theorem copy_bytes {w : World} {g a dCap : Nat} {bs xs : List UInt8} (hg : w.heap[g]? = some (.cells (encB bs).toArray 5 (0, 0))) (ha : a + xs.length ≤ bs.length)
    {p : Option Addr} {l c : Nat} (h : BytesAt w p l xs) :
    ∃ n : Int, ∃ w', Sem.run Try.prog (Builtin.copy_ #[22, 22] 3 #[.slice (some ((at0 g).add (a * 1))) (bs.length - a) dCap, .slice p l c]) w = .ok (.int .i64 n) w' ∧
      w'.heap[g]? = some (.cells (encB (paste a xs bs)).toArray 5 (0, 0)) ∧ Upd (fun b => b = g) w w' := by
  have hl := h.1
  rw [add_at0, Nat.mul_one]
  cases p with
  | none =>
    have hx : xs = [] := by
      refine Decidable.byContradiction fun hn => ?_
      obtain ⟨a, ha, _⟩ := h.2 hn
      cases ha
    subst hx
    obtain rfl : l = 0 := hl
    refine ⟨0, w, ?_, ?_, Upd.refl _ _⟩
    · exact run_copy_none (P := Try.prog) w 22 22 3 5 _ _ _ _ (by kernel_rfl) (by kernel_rfl)
    · rw [hg]; simp [paste]
  | some q =>
    have hcs := h.cells
    have hr := run_copy_row (P := Try.prog) w 22 22 3 5 g a (bs.length - a) dCap q l c (encB bs).toArray 5 (encB xs) (by kernel_rfl) (by kernel_rfl) hg
      (by rw [encB_length]; show _ = min _ _; omega) (fun j v hj => by
        obtain ⟨a', ha', hv⟩ := hcs j v hj
        cases ha'
        exact hv) (by simp [encB_length]; omega) (encB_one xs)
    have he : (encB bs).toArray.toList.take a ++ encB xs ++ (encB bs).toArray.toList.drop (a + (encB xs).length) = encB (paste a xs bs) := by
      simp [paste, encB, List.map_take, List.map_drop]
    rw [he] at hr
    exact ⟨((encB xs).length : Int), w.setRow g (encB (paste a xs bs)).toArray, hr, setRow_heap _ _ _ _ _ _ hg, setRow_upd _ _ _⟩
end Go.Proofs.Ytphkmbkmjhbenaa
