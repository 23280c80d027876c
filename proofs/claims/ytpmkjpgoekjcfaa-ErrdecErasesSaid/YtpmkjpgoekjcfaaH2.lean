/- The field is made. -/
import Derived.Test.YtpmkjpgoekjcfaaH1
namespace Go.Proofs.Ytpmkjpgoekjcfaa
open Go Go.Vc Go.Gf

def xstep (x : Int) : Int := if (255 : Int) < (IntKind.i64.wrap (x * 2 ^ (min (1 : Int).toNat IntKind.i64.bits))) then bitsV .xor .i64 (IntKind.i64.wrap (x * 2 ^ (min (1 : Int).toNat IntKind.i64.bits))) (285 : Int) else IntKind.i64.wrap (x * 2 ^ (min (1 : Int).toNat IntKind.i64.bits))
theorem xstep_all : (alln 255 fun s => xstep (ge s : Int) == (ge (s + 1) : Int)) = true := by kernel_rfl
theorem xstep_ge {s : Nat} (h : s < 255) : xstep (ge s : Int) = (ge (s + 1) : Int) := by
  have := alln_of xstep_all s h
  simpa using this
theorem gl_zero : gl 0 = 0 := by kernel_rfl
theorem ge_zero : ge 0 = 1 := by kernel_rfl
theorem fzero_len : (zeroCellsOf Try.prog 57).toArray.size = 766 := by kernel_rfl
theorem fzero_log : (zeroCellsOf Try.prog 57).toArray[510]? = some (.int .i64 0) := by kernel_rfl
theorem setc_row {w w' : World} {b n : Nat} {v : Value} {cs : Array Value} {a : Addr} (h : SetC w a v w') (ha : a = (at0 b).add n) (hb : RowW w b cs) : RowW w' b (cs.setIfInBounds n v) := by
  subst ha; exact SetC.row h hb
theorem setcN {w0 w w' : World} {k j : Nat} {v : Value} (h : Ext w0 w) (hk : w0.heap.size ≤ k) (hs : SetC w ((at0 k).add j) v w') : Ext w0 w' := by
  refine Upd.trans h hs.upd fun x hx he => ?_
  have : x = k := by
    rw [add_at0] at he
    exact he
  omega
theorem setc_upd {w w' : World} {v : Value} {a : Addr} {b n : Nat} (h : SetC w a v w') (ha : a = (at0 b).add n) : Upd (fun x => x = b) w w' := by
  subst ha
  have := h.upd
  rw [add_block] at this
  exact this
def newRow (cs : Array Value) (n x : Nat) : Array Value := ((cs.setIfInBounds n (.int .u8 (x : Int))).setIfInBounds (n + 255) (.int .u8 (x : Int))).setIfInBounds (510 + x) (.int .i64 (n : Int))

theorem fput_spec {w : World} {kc kb n x : Nat} {cs : Array Value} (hc : RowW w kc #[.pointer (some (at0 kb))]) (hb : RowW w kb cs) (hs : cs.size = 766) (hn : n < 255) (hx : x < 256) (hne : kc ≠ kb) :
    Calls Try.prog 27 #[.int .i64 (n : Int), .int .i64 (x : Int), .pointer (some (at0 kc))] w fun e w' => e = .returned (.tuple #[]) ∧ Upd (fun b => b = kb) w w' ∧ RowW w' kb (newRow cs n x) := by
  refine (F27_calls n x (at0 kc) w (fun v w' => v = .tuple #[] ∧ Upd (fun b => b = kb) w w' ∧ RowW w' kb (newRow cs n x)) ?_).mono (by rintro e w' ⟨v, rfl, rfl, h⟩; exact ⟨rfl, h⟩)
  intro w4 hd
  have e0 : at0 kc = (at0 kc).add 0 := (add_at0 kc 0).symm
  have c4 : RowW w4 kc #[.pointer (some (at0 kb))] := hd.ext.rowW hc id
  have b4 : RowW w4 kb cs := hd.ext.rowW hb id
  have p4 : w4.cell? (at0 kc) = some (.pointer (some (at0 kb))) := by rw [e0]; exact c4.row.cell rfl
  have a1 : ((at0 kb).add 0).add ((n : Int).toNat * 1) = (at0 kb).add n := by rw [add_add, Nat.zero_add, Nat.mul_one, Int.toNat_natCast]
  refine ⟨_, p4, _, p4, ⟨by omega, by omega⟩, ?_⟩
  refine ⟨by rw [a1]; exact b4.live (by omega), fun w9 s9 => ?_⟩
  have u9 := setc_upd s9 a1
  have b9 := setc_row s9 a1 b4
  have c9 : RowW w9 kc _ := u9.rowW c4 hne
  have p9 : w9.cell? (at0 kc) = some (.pointer (some (at0 kb))) := by rw [e0]; exact c9.row.cell rfl
  have eu : IntKind.u8.wrap (x : Int) = (x : Int) := by
    have : IntKind.u8.wrap (x : Int) = (x : Int) % 256 := by simp [IntKind.wrap, IntKind.bits, IntKind.signed]
    rw [this]; omega
  rw [eu] at b9 ⊢
  rw [w64 (n := (n : Int) + 255) (by omega)]
  have a2 : ((at0 kb).add 0).add (((n : Int) + 255).toNat * 1) = (at0 kb).add (n + 255) := by rw [add_add, Nat.zero_add, Nat.mul_one, show ((n : Int) + 255).toNat = n + 255 by omega]
  refine ⟨⟨_, p9, rfl⟩, ⟨by omega, by omega⟩, by rw [a2]; exact b9.live (by rw [Array.size_setIfInBounds]; omega), fun w11 s11 => ?_⟩
  have u11 := setc_upd s11 a2
  have b11 := setc_row s11 a2 b9
  have c11 : RowW w11 kc _ := u11.rowW c9 hne
  have p11 : w11.cell? (at0 kc) = some (.pointer (some (at0 kb))) := by rw [e0]; exact c11.row.cell rfl
  have a3 : ((at0 kb).add 510).add ((x : Int).toNat * 1) = (at0 kb).add (510 + x) := by rw [add_add, Nat.mul_one, Int.toNat_natCast]
  refine ⟨_, p11, ⟨by omega, by omega⟩, by rw [a3]; exact b11.live (by rw [Array.size_setIfInBounds, Array.size_setIfInBounds]; omega), fun w14 s14 => ⟨rfl, ?_, ?_⟩⟩
  · exact Upd.trans hd.ext.upd (Upd.trans u9 (Upd.trans u11 (setc_upd s14 a3) fun _ _ h => h) fun _ _ h => h) fun _ _ h => h
  · exact setc_row s14 a3 b11

structure NewInv (w : World) (k1 k3 : Nat) (w9 : World) (n : Nat) (cs : Array Value) : Prop where
  ext : Ext w w9
  row : RowW w9 k1 cs
  ptr : RowW w9 k3 #[.pointer (some (at0 k1))]
  size : cs.size = 766
  exp : ∀ i, i < n → cs[i]? = some (.int .u8 (ge i : Int)) ∧ cs[i + 255]? = some (.int .u8 (ge i : Int))
  log : ∀ i, i < n → cs[510 + ge i]? = some (.int .i64 (i : Int))
  zero : cs[510]? = some (.int .i64 0)
theorem newRow_get {cs : Array Value} {n x j : Nat} (hs : cs.size = 766) (hn : n < 255) (hx : x < 256) :
    (newRow cs n x)[j]? = if j = 510 + x then some (.int .i64 (n : Int)) else if j = n + 255 then some (.int .u8 (x : Int)) else if j = n then some (.int .u8 (x : Int)) else cs[j]? := by
  unfold newRow
  rw [Array.getElem?_setIfInBounds, Array.getElem?_setIfInBounds, Array.getElem?_setIfInBounds]
  simp only [Array.size_setIfInBounds, hs]
  by_cases h1 : j = 510 + x
  · rw [if_pos h1.symm, if_pos h1, if_pos (by omega)]
  · rw [if_neg (Ne.symm h1), if_neg h1]
    by_cases h2 : j = n + 255
    · rw [if_pos h2.symm, if_pos h2, if_pos (by omega)]
    · rw [if_neg (Ne.symm h2), if_neg h2]
      by_cases h3 : j = n
      · rw [if_pos h3.symm, if_pos h3, if_pos (by omega)]
      · rw [if_neg (Ne.symm h3), if_neg h3]

set_option maxHeartbeats 1000000 in
theorem fnew_spec (w : World) : Calls Try.prog 10 #[] w fun e w' => ∃ k, e = .returned (.pointer (some (at0 k))) ∧ Ext w w' ∧ w.heap.size ≤ k ∧ FieldAt w' (some (at0 k)) := by
  refine (F10_calls w (fun v w' => ∃ k, v = .pointer (some (at0 k)) ∧ Ext w w' ∧ w.heap.size ≤ k ∧ FieldAt w' (some (at0 k)))
    (fun q _ x i w9 => ∃ k1 k3, q = some (at0 k3) ∧ w.heap.size ≤ k1 ∧ w.heap.size ≤ k3 ∧ k3 ≠ k1 ∧ 0 ≤ i ∧ i ≤ 255 ∧ x = (ge i.toNat : Int) ∧ ∃ cs, NewInv w k1 k3 w9 i.toNat cs) (fun _ _ _ i _ => (255 - i).toNat) ?_).mono (by
    rintro e w' ⟨v, rfl, k, rfl, h⟩; exact ⟨k, rfl, h⟩)
  intro k1 w2 hk1 k3 w4 hk3
  have e0 : at0 k3 = (at0 k3).add 0 := (add_at0 k3 0).symm
  have r3 : RowW w4 k3 #[.pointer none] := hk3.row
  have hsz1 : w.heap.size ≤ k1 := by rw [hk1.size.1]; exact Nat.le_refl _
  have hsz3 : w.heap.size ≤ k3 := by rw [hk3.size.1, hk1.size.2]; omega
  have hne : k3 ≠ k1 := by rw [hk3.size.1, hk1.size.2, hk1.size.1]; omega
  refine ⟨by rw [e0]; exact r3.live (by simp), fun w5 s5 => ?_⟩
  have u5 := setc_upd s5 e0
  have r5 := setc_row s5 e0 r3
  have x5 : Ext w w5 := setcN (hk1.ext.trans hk3.ext) hsz3 (by rw [← e0]; exact s5)
  have b5 : RowW w5 k1 (zeroCellsOf Try.prog 57).toArray := u5.rowW (hk3.ext.rowW hk1.row id) (fun h => hne h.symm)
  refine ⟨⟨k1, k3, rfl, hsz1, hsz3, hne, by omega, by omega, by rw [show (0 : Int).toNat = 0 from rfl, ge_zero]; rfl, _, x5, b5, r5, fzero_len, fun i hi => absurd hi (by simp), fun i hi => absurd hi (by simp), fzero_log⟩, ?_⟩
  rintro x i w9 ⟨k1', k3', hq, hs1, hs3, hne', hi0, hi1, rfl, cs, hI⟩
  simp only [Option.some.injEq, at0, Addr.mk.injEq, and_true] at hq
  subst hq
  intros
  refine condB_of (fun ht => ?_) (fun ht => ?_)
  · simp only [decide_eq_true_eq] at ht
    have hi : ((i.toNat : Nat) : Int) = i := by omega
    have hlt : i.toNat < 255 := by omega
    have hspec := fput_spec hI.ptr hI.row hI.size hlt (ge_lt i.toNat) hne'
    rw [hi] at hspec
    refine hspec.mono ?_
    rintro e w24 ⟨rfl, hu, hrow⟩
    refine ⟨rfl, by omega, ?_⟩
    have hx24 : Ext w w24 := Upd.trans hI.ext hu fun y hy he => by subst he; omega
    have inv : NewInv w k1' k3 w24 (i.toNat + 1) (newRow cs i.toNat (ge i.toNat)) := by
      refine ⟨hx24, hrow, hu.rowW hI.ptr hne', by simp [newRow, hI.size], fun j hj => ?_, fun j hj => ?_, ?_⟩
      · rw [newRow_get hI.size hlt (ge_lt _), newRow_get hI.size hlt (ge_lt _)]
        by_cases h : j = i.toNat
        · subst h
          rw [if_neg (by omega), if_neg (by omega), if_pos rfl, if_neg (by omega), if_pos rfl]
          exact ⟨rfl, rfl⟩
        · have := hI.exp j (by omega)
          rw [if_neg (by omega), if_neg (by omega), if_neg h, if_neg (by omega), if_neg (by omega), if_neg (by omega)]
          exact this
      · rw [newRow_get hI.size hlt (ge_lt _)]
        by_cases h : j = i.toNat
        · subst h
          rw [if_pos rfl]
        · have hj' : j < i.toNat := by omega
          have hne2 : ge j ≠ ge i.toNat := fun he => h (by
            have h1 := (ge_facts (s := j) (by omega)).1
            have h2 := (ge_facts (s := i.toNat) hlt).1
            rw [he] at h1; omega)
          have := hI.log j hj'
          rw [if_neg (by omega), if_neg (by omega), if_neg (by omega)]
          exact this
      · rw [newRow_get hI.size hlt (ge_lt _), if_neg (by have := (ge_facts hlt).2.1; omega), if_neg (by omega), if_neg (by omega)]
        exact hI.zero
    have hst := xstep_ge hlt
    have h8 : IntKind.i64.wrap (i + 1) = i + 1 := w64 (by omega)
    rw [h8]
    have hnext : (i + 1).toNat = i.toNat + 1 := by omega
    refine condB_of (fun hg => ?_) (fun hg => ?_)
    · simp only [decide_eq_true_eq] at hg
      refine ⟨⟨k1', k3, rfl, hs1, hs3, hne', by omega, by omega, ?_, _, by rw [hnext]; exact inv⟩, by show ((255 : Int) - (i + 1)).toNat < ((255 : Int) - i).toNat; omega⟩
      rw [hnext, ← hst]
      exact (if_pos hg).symm
    · simp only [decide_eq_false_iff_not] at hg
      refine ⟨⟨k1', k3, rfl, hs1, hs3, hne', by omega, by omega, ?_, _, by rw [hnext]; exact inv⟩, by show ((255 : Int) - (i + 1)).toNat < ((255 : Int) - i).toNat; omega⟩
      rw [hnext, ← hst]
      exact (if_neg hg).symm
  · simp only [decide_eq_false_iff_not] at ht
    have hi : i.toNat = 255 := by omega
    rw [hi] at hI
    refine ⟨_, by rw [e0]; exact hI.ptr.row.cell rfl, k1', rfl, hI.ext, hs1, at0 k1', rfl, fun j hj => ?_, fun a ha => ?_⟩
    · refine hI.row.row.cell ?_
      by_cases h : j < 255
      · exact (hI.exp j h).1
      · have h1 := (hI.exp (j - 255) (by omega)).2
        have h2 := (ge_facts (s := j - 255) (by omega)).2.2
        rw [show j - 255 + 255 = j by omega] at h1 h2
        rw [h1, h2]
    · refine hI.row.row.cell ?_
      by_cases h : a = 0
      · subst h
        rw [gl_zero]; exact hI.zero
      · have h1 := gl_facts ha h
        have h2 := hI.log (gl a) h1.2
        rw [h1.1] at h2
        exact h2
end Go.Proofs.Ytpmkjpgoekjcfaa
