import Derived.Test.YtkolafpgbhpdlaaGreatMC
import Derived.Test.YtkolafpgbhpdlaaGreatME
import Derived.Test.YtkolafpgbhpdlaaGreatRepS
import Derived.Laws.BitsAllLaws
namespace Go.Proofs.YtkolafpgbhpdlaaGreat
open Go Go.Vc Go.Gf
abbrev vb (a : UInt8) : Value := .int .u8 (a.toNat : Int)
def FieldAt (w : World) (p : Option Addr) : Prop :=
 ∃ a, p = some a ∧ (∀ i, i < 510 → w.cell? (a.add i) = some (.int .u8 (ge i : Int))) ∧ ∀ i, i < 256 → w.cell? (a.add (510 + i)) = some (.int .i64 (gl i : Int))
theorem FieldAt.upd {S : Nat → Prop} {w w' : World} {p : Option Addr} (h : FieldAt w p) (hu : Upd S w w') (hS : ∀ a, p = some a → ¬ S a.block) : FieldAt w' p := by
 obtain ⟨a, rfl, h1, h2⟩ := h
 exact ⟨a, rfl, fun i hi => hu.cell (h1 i hi) (by rw [add_block]; exact hS a rfl), fun i hi => hu.cell (h2 i hi) (by rw [add_block]; exact hS a rfl)⟩
theorem FieldAt.ext {w w' : World} {p : Option Addr} (h : FieldAt w p) (hu : Ext w w') : FieldAt w' p := h.upd hu fun _ _ => id
theorem FieldAt.there {w : World} {p : Option Addr} (h : FieldAt w p) : p.isNone = false := by obtain ⟨a, rfl, _⟩ := h; rfl
theorem FieldAt.lt {w : World} {p : Option Addr} (h : FieldAt w p) : ∃ a, p = some a ∧ a.block < w.heap.size := by
 obtain ⟨a, rfl, h1, _⟩ := h
 have := cell_lt (h1 0 (by omega))
 rw [add_block] at this
 exact ⟨a, rfl, this⟩
theorem fmul_spec {f : Option Addr} {w : World} (hf : FieldAt w f) (a b : UInt8) :
  Calls Tryz.prog 112 #[.pointer f, vb a, vb b] w fun e w' => e = .returned (vb (gm a b)) ∧ Ext w w' := by
 refine (F112_calls f a.toNat b.toNat w (fun v w' => v = vb (gm a b) ∧ Ext w w') ?_).mono (by rintro e w' ⟨v, rfl, rfl, h⟩; exact ⟨rfl, h⟩)
 unfold F112
 rw [hf.there]
 have ha := u8lt a
 have hb := u8lt b
 refine condB_of (fun h => by cases h) fun _ => condB_of (fun h => ?_) fun h => condB_of (fun h2 => ?_) fun h2 => ?_
 ·simp only [decide_eq_true_eq] at h
  have : a = 0 := u8_zero_iff.2 (by omega)
  subst this
  exact ⟨by rw [zero_gm]; rfl, Upd.refl _ _⟩
 ·simp only [decide_eq_true_eq] at h2
  have : b = 0 := u8_zero_iff.2 (by omega)
  subst this
  exact ⟨by rw [gm_zero]; rfl, Upd.refl _ _⟩
 ·simp only [decide_eq_false_iff_not] at h h2
  intro w4 hd
  obtain ⟨q, rfl, h3, h4⟩ := hf.ext hd.ext
  have fa := gl_facts ha (by omega)
  have fb := gl_facts hb (by omega)
  refine ⟨⟨by omega, by omega⟩, (gl a.toNat : Int), by rw [add_add, Nat.mul_one, Int.toNat_natCast]; exact h4 _ ha, ⟨by omega, by omega⟩, (gl b.toNat : Int), by rw [add_add, Nat.mul_one, Int.toNat_natCast]; exact h4 _ hb, ?_⟩
  rw [w64 (n := (gl a.toNat : Int) + (gl b.toNat : Int)) (by omega)]
  refine ⟨⟨by omega, by omega⟩, (ge (gl a.toNat + gl b.toNat) : Int), ?_, ?_, hd.ext⟩
  ·rw [add_add, Nat.mul_one, Nat.zero_add, show ((gl a.toNat : Int) + (gl b.toNat : Int)).toNat = gl a.toNat + gl b.toNat by omega]
   exact h3 _ (by omega)
  ·show Value.int .u8 _ = Value.int .u8 _
   rw [toNat_gm, gmN_pos (by omega) (by omega)]
theorem fpow_spec {f : Option Addr} {w : World} (hf : FieldAt w f) (a : UInt8) :
  Calls Tryz.prog 194 #[.pointer f, vb a, .int .i64 (-1)] w fun e w' => e = .returned (.tuple #[vb (gi a), .int .i64 (if a = 0 then 10 else 0)]) ∧ Ext w w' := by
 refine (F194_calls f a.toNat (-1) w (fun v w' => v = .tuple #[vb (gi a), .int .i64 (if a = 0 then 10 else 0)] ∧ Ext w w') ?_).mono (by rintro e w' ⟨v, rfl, rfl, h⟩; exact ⟨rfl, h⟩)
 have ha := u8lt a
 have go : a.toNat ≠ 0 → F194_A1 f a.toNat (-1) w (fun v w' => v = .tuple #[vb (gi a), .int .i64 (if a = 0 then 10 else 0)] ∧ Ext w w') := by
  intro h0
  refine ⟨by decide, by decide, fun w4 hd => ?_⟩
  obtain ⟨q, rfl, h3, h4⟩ := hf.ext hd.ext
  have fa := gl_facts ha h0
  refine ⟨⟨by omega, by omega⟩, (gl a.toNat : Int), by rw [add_add, Nat.mul_one, Int.toNat_natCast]; exact h4 _ ha, by decide, ?_⟩
  have e1 : (IntKind.i64.wrap (((-1 : Int).tmod (255 : Int)) + (255 : Int))).tmod (255 : Int) = 254 := by rw [w64 (by decide)]; decide
  rw [e1, w64 (by omega), Int.tmod_eq_emod_of_nonneg (by omega)]
  have e2 : ((gl a.toNat : Int) * 254 % 255).toNat = gl a.toNat * 254 % 255 := by omega
  refine ⟨⟨by omega, by omega⟩, (ge (gl a.toNat * 254 % 255) : Int), by rw [add_add, Nat.mul_one, Nat.zero_add, e2]; exact h3 _ (by omega), ?_, hd.ext⟩
  have hz : a ≠ 0 := fun e => h0 (u8_zero_iff.1 e)
  rw [if_neg hz]
  have e3 : (gi a).toNat = ge (gl a.toNat * 254 % 255) := by
   rw [toNat_gi]
   unfold giN
   rw [beq_f.2 h0]; rfl
  show Value.tuple #[.int .u8 _, .int .i64 0] = Value.tuple #[.int .u8 _, .int .i64 0]
  rw [e3]
 unfold F194
 rw [hf.there]
 refine condB_of (fun h => by cases h) fun _ => condB_of (fun h => ?_) fun h => ?_
 ·simp only [decide_eq_true_eq] at h
  have h0 : a = 0 := u8_zero_iff.2 (by omega)
  refine condB_of (fun _ => ⟨?_, Upd.refl _ _⟩) fun h => by simp at h
  subst h0; rfl
 ·simp only [decide_eq_false_iff_not] at h
  refine condB_of (fun h' => by simp only [decide_eq_true_eq] at h'; omega) fun _ => go (by omega)
theorem finv_spec {f : Option Addr} {w : World} (hf : FieldAt w f) (a : UInt8) :
  Calls Tryz.prog 168 #[.pointer f, vb a] w fun e w' => e = .returned (.tuple #[vb (gi a), .int .i64 (if a = 0 then 10 else 0)]) ∧ Ext w w' := by
 refine (F168_calls f a.toNat w (fun v w' => v = .tuple #[vb (gi a), .int .i64 (if a = 0 then 10 else 0)] ∧ Ext w w') ?_).mono (by rintro e w' ⟨v, rfl, rfl, h⟩; exact ⟨rfl, h⟩)
 refine (fpow_spec hf a).mono ?_
 rintro e w3 ⟨rfl, hx⟩
 exact ⟨_, _, rfl, rfl, hx⟩
theorem fdiv_spec {f : Option Addr} {w : World} (hf : FieldAt w f) (a b : UInt8) :
  Calls Tryz.prog 143 #[.pointer f, vb a, vb b] w fun e w' => e = .returned (.tuple #[vb (gm a (gi b)), .int .i64 (if b = 0 then 10 else 0)]) ∧ Ext w w' := by
 refine (F143_calls f a.toNat b.toNat w (fun v w' => v = .tuple #[vb (gm a (gi b)), .int .i64 (if b = 0 then 10 else 0)] ∧ Ext w w') ?_).mono (by rintro e w' ⟨v, rfl, rfl, h⟩; exact ⟨rfl, h⟩)
 refine (finv_spec hf b).mono ?_
 rintro e w3 ⟨rfl, hx⟩
 refine ⟨_, _, rfl, (fmul_spec (hf.ext hx) a (gi b)).mono ?_⟩
 rintro e w4 ⟨rfl, hx4⟩
 exact ⟨_, rfl, rfl, hx.trans hx4⟩
end Go.Proofs.YtkolafpgbhpdlaaGreat
namespace Go.Proofs.YtkolafpgbhpdlaaGreat
open Go Go.Vc Go.Gf
def xstep (x : Int) : Int := if (255 : Int) < (IntKind.i64.wrap (x * 2 ^ (min (1 : Int).toNat IntKind.i64.bits))) then bitsV .xor .i64 (IntKind.i64.wrap (x * 2 ^ (min (1 : Int).toNat IntKind.i64.bits))) (285 : Int) else IntKind.i64.wrap (x * 2 ^ (min (1 : Int).toNat IntKind.i64.bits))
theorem xstep_all : (alln 255 fun s => xstep (ge s : Int) == (ge (s + 1) : Int)) = true := by kernel_rfl
theorem xstep_ge {s : Nat} (h : s < 255) : xstep (ge s : Int) = (ge (s + 1) : Int) := by
 have := alln_of xstep_all s h
 simpa using this
theorem gl_zero : gl 0 = 0 := by kernel_rfl
theorem ge_zero : ge 0 = 1 := by kernel_rfl
theorem fzero_len : (zeroCellsOf Tryz.prog 86).toArray.size = 766 := by kernel_rfl
theorem fzero_log : (zeroCellsOf Tryz.prog 86).toArray[510]? = some (.int .i64 0) := by kernel_rfl
theorem setc_row {w w' : World} {b n : Nat} {v : Value} {cs : Array Value} {a : Addr} (h : SetC w a v w') (ha : a = (at0 b).add n) (hb : RowW w b cs) : RowW w' b (cs.setIfInBounds n v) := by
 subst ha; exact SetC.row h hb
theorem setcN {w0 w w' : World} {k j : Nat} {v : Value} (h : Ext w0 w) (hk : w0.heap.size ≤ k) (hs : SetC w ((at0 k).add j) v w') : Ext w0 w' := by
 refine Upd.trans h hs.upd fun x hx he => ?_
 have : x = k := by
  rw [add_at0] at he
  exact he
 omega
theorem setc_upd {w w' : World} {v : Value} {a : Addr} {b n : Nat} (h : SetC w a v w') (ha : a = (at0 b).add n) : Upd (fun x => x = b) w w' := by
 subst ha
 have := h.upd
 rw [add_block] at this
 exact this
def newRow (cs : Array Value) (n x : Nat) : Array Value := ((cs.setIfInBounds n (.int .u8 (x : Int))).setIfInBounds (n + 255) (.int .u8 (x : Int))).setIfInBounds (510 + x) (.int .i64 (n : Int))
theorem fput_spec {w : World} {kc kb n x : Nat} {cs : Array Value} (hc : RowW w kc #[.pointer (some (at0 kb))]) (hb : RowW w kb cs) (hs : cs.size = 766) (hn : n < 255) (hx : x < 256) (hne : kc ≠ kb) :
  Calls Tryz.prog 35 #[.int .i64 (n : Int), .int .i64 (x : Int), .pointer (some (at0 kc))] w fun e w' => e = .returned (.tuple #[]) ∧ Upd (fun b => b = kb) w w' ∧ RowW w' kb (newRow cs n x) := by
 refine (F35_calls n x (at0 kc) w (fun v w' => v = .tuple #[] ∧ Upd (fun b => b = kb) w w' ∧ RowW w' kb (newRow cs n x)) ?_).mono (by rintro e w' ⟨v, rfl, rfl, h⟩; exact ⟨rfl, h⟩)
 intro w4 hd
 have e0 : at0 kc = (at0 kc).add 0 := (add_at0 kc 0).symm
 have c4 : RowW w4 kc #[.pointer (some (at0 kb))] := hd.ext.rowW hc id
 have b4 : RowW w4 kb cs := hd.ext.rowW hb id
 have p4 : w4.cell? (at0 kc) = some (.pointer (some (at0 kb))) := by rw [e0]; exact c4.row.cell rfl
 have a1 : ((at0 kb).add 0).add ((n : Int).toNat * 1) = (at0 kb).add n := by rw [add_add, Nat.zero_add, Nat.mul_one, Int.toNat_natCast]
 refine ⟨_, p4, _, p4, ⟨by omega, by omega⟩, ?_⟩
 refine ⟨by rw [a1]; exact b4.live (by omega), fun w9 s9 => ?_⟩
 have u9 := setc_upd s9 a1
 have b9 := setc_row s9 a1 b4
 have c9 : RowW w9 kc _ := u9.rowW c4 hne
 have p9 : w9.cell? (at0 kc) = some (.pointer (some (at0 kb))) := by rw [e0]; exact c9.row.cell rfl
 have eu : IntKind.u8.wrap (x : Int) = (x : Int) := by
  have : IntKind.u8.wrap (x : Int) = (x : Int) % 256 := by simp [IntKind.wrap, IntKind.bits, IntKind.signed]
  rw [this]; omega
 rw [eu] at b9 ⊢
 rw [w64 (n := (n : Int) + 255) (by omega)]
 have a2 : ((at0 kb).add 0).add (((n : Int) + 255).toNat * 1) = (at0 kb).add (n + 255) := by rw [add_add, Nat.zero_add, Nat.mul_one, show ((n : Int) + 255).toNat = n + 255 by omega]
 refine ⟨⟨_, p9, rfl⟩, ⟨by omega, by omega⟩, by rw [a2]; exact b9.live (by rw [Array.size_setIfInBounds]; omega), fun w11 s11 => ?_⟩
 have u11 := setc_upd s11 a2
 have b11 := setc_row s11 a2 b9
 have c11 : RowW w11 kc _ := u11.rowW c9 hne
 have p11 : w11.cell? (at0 kc) = some (.pointer (some (at0 kb))) := by rw [e0]; exact c11.row.cell rfl
 have a3 : ((at0 kb).add 510).add ((x : Int).toNat * 1) = (at0 kb).add (510 + x) := by rw [add_add, Nat.mul_one, Int.toNat_natCast]
 refine ⟨_, p11, ⟨by omega, by omega⟩, by rw [a3]; exact b11.live (by rw [Array.size_setIfInBounds, Array.size_setIfInBounds]; omega), fun w14 s14 => ⟨rfl, ?_, ?_⟩⟩
 ·exact Upd.trans hd.ext.upd (Upd.trans u9 (Upd.trans u11 (setc_upd s14 a3) fun _ _ h => h) fun _ _ h => h) fun _ _ h => h
 ·exact setc_row s14 a3 b11
structure NewInv (w : World) (k1 k3 : Nat) (w9 : World) (n : Nat) (cs : Array Value) : Prop where
 ext : Ext w w9
 row : RowW w9 k1 cs
 ptr : RowW w9 k3 #[.pointer (some (at0 k1))]
 size : cs.size = 766
 exp : ∀ i, i < n → cs[i]? = some (.int .u8 (ge i : Int)) ∧ cs[i + 255]? = some (.int .u8 (ge i : Int))
 log : ∀ i, i < n → cs[510 + ge i]? = some (.int .i64 (i : Int))
 zero : cs[510]? = some (.int .i64 0)
theorem newRow_get {cs : Array Value} {n x j : Nat} (hs : cs.size = 766) (hn : n < 255) (hx : x < 256) :
  (newRow cs n x)[j]? = if j = 510 + x then some (.int .i64 (n : Int)) else if j = n + 255 then some (.int .u8 (x : Int)) else if j = n then some (.int .u8 (x : Int)) else cs[j]? := by
 unfold newRow
 rw [Array.getElem?_setIfInBounds, Array.getElem?_setIfInBounds, Array.getElem?_setIfInBounds]
 simp only [Array.size_setIfInBounds, hs]
 by_cases h1 : j = 510 + x
 ·rw [if_pos h1.symm, if_pos h1, if_pos (by omega)]
 ·rw [if_neg (Ne.symm h1), if_neg h1]
  by_cases h2 : j = n + 255
  ·rw [if_pos h2.symm, if_pos h2, if_pos (by omega)]
  ·rw [if_neg (Ne.symm h2), if_neg h2]
   by_cases h3 : j = n
   ·rw [if_pos h3.symm, if_pos h3, if_pos (by omega)]
   ·rw [if_neg (Ne.symm h3), if_neg h3]
set_option maxHeartbeats 1000000 in
theorem fnew_spec (w : World) : Calls Tryz.prog 12 #[] w fun e w' => ∃ k, e = .returned (.pointer (some (at0 k))) ∧ Ext w w' ∧ w.heap.size ≤ k ∧ FieldAt w' (some (at0 k)) := by
 refine (F12_calls w (fun v w' => ∃ k, v = .pointer (some (at0 k)) ∧ Ext w w' ∧ w.heap.size ≤ k ∧ FieldAt w' (some (at0 k)))
  (fun q _ x i w9 => ∃ k1 k3, q = some (at0 k3) ∧ w.heap.size ≤ k1 ∧ w.heap.size ≤ k3 ∧ k3 ≠ k1 ∧ 0 ≤ i ∧ i ≤ 255 ∧ x = (ge i.toNat : Int) ∧ ∃ cs, NewInv w k1 k3 w9 i.toNat cs) (fun _ _ _ i _ => (255 - i).toNat) ?_).mono (by
  rintro e w' ⟨v, rfl, k, rfl, h⟩; exact ⟨k, rfl, h⟩)
 intro k1 w2 hk1 k3 w4 hk3
 have e0 : at0 k3 = (at0 k3).add 0 := (add_at0 k3 0).symm
 have r3 : RowW w4 k3 #[.pointer none] := hk3.row
 have hsz1 : w.heap.size ≤ k1 := by rw [hk1.size.1]; exact Nat.le_refl _
 have hsz3 : w.heap.size ≤ k3 := by rw [hk3.size.1, hk1.size.2]; omega
 have hne : k3 ≠ k1 := by rw [hk3.size.1, hk1.size.2, hk1.size.1]; omega
 refine ⟨by rw [e0]; exact r3.live (by simp), fun w5 s5 => ?_⟩
 have u5 := setc_upd s5 e0
 have r5 := setc_row s5 e0 r3
 have x5 : Ext w w5 := setcN (hk1.ext.trans hk3.ext) hsz3 (by rw [← e0]; exact s5)
 have b5 : RowW w5 k1 (zeroCellsOf Tryz.prog 86).toArray := u5.rowW (hk3.ext.rowW hk1.row id) (fun h => hne h.symm)
 refine ⟨⟨k1, k3, rfl, hsz1, hsz3, hne, by omega, by omega, by rw [show (0 : Int).toNat = 0 from rfl, ge_zero]; rfl, _, x5, b5, r5, fzero_len, fun i hi => absurd hi (by simp), fun i hi => absurd hi (by simp), fzero_log⟩, ?_⟩
 rintro x i w9 ⟨k1', k3', hq, hs1, hs3, hne', hi0, hi1, rfl, cs, hI⟩
 simp only [Option.some.injEq, at0, Addr.mk.injEq, and_true] at hq
 subst hq
 intros
 refine condB_of (fun ht => ?_) (fun ht => ?_)
 ·simp only [decide_eq_true_eq] at ht
  have hi : ((i.toNat : Nat) : Int) = i := by omega
  have hlt : i.toNat < 255 := by omega
  have hspec := fput_spec hI.ptr hI.row hI.size hlt (ge_lt i.toNat) hne'
  rw [hi] at hspec
  refine hspec.mono ?_
  rintro e w24 ⟨rfl, hu, hrow⟩
  refine ⟨rfl, by omega, ?_⟩
  have hx24 : Ext w w24 := Upd.trans hI.ext hu fun y hy he => by subst he; omega
  have inv : NewInv w k1' k3 w24 (i.toNat + 1) (newRow cs i.toNat (ge i.toNat)) := by
   refine ⟨hx24, hrow, hu.rowW hI.ptr hne', by simp [newRow, hI.size], fun j hj => ?_, fun j hj => ?_, ?_⟩
   ·rw [newRow_get hI.size hlt (ge_lt _), newRow_get hI.size hlt (ge_lt _)]
    by_cases h : j = i.toNat
    ·subst h
     rw [if_neg (by omega), if_neg (by omega), if_pos rfl, if_neg (by omega), if_pos rfl]
     exact ⟨rfl, rfl⟩
    ·have := hI.exp j (by omega)
     rw [if_neg (by omega), if_neg (by omega), if_neg h, if_neg (by omega), if_neg (by omega), if_neg (by omega)]
     exact this
   ·rw [newRow_get hI.size hlt (ge_lt _)]
    by_cases h : j = i.toNat
    ·subst h
     rw [if_pos rfl]
    ·have hj' : j < i.toNat := by omega
     have hne2 : ge j ≠ ge i.toNat := fun he => h (by
      have h1 := (ge_facts (s := j) (by omega)).1
      have h2 := (ge_facts (s := i.toNat) hlt).1
      rw [he] at h1; omega)
     have := hI.log j hj'
     rw [if_neg (by omega), if_neg (by omega), if_neg (by omega)]
     exact this
   ·rw [newRow_get hI.size hlt (ge_lt _), if_neg (by have := (ge_facts hlt).2.1; omega), if_neg (by omega), if_neg (by omega)]
    exact hI.zero
  have hst := xstep_ge hlt
  have h8 : IntKind.i64.wrap (i + 1) = i + 1 := w64 (by omega)
  rw [h8]
  have hnext : (i + 1).toNat = i.toNat + 1 := by omega
  refine condB_of (fun hg => ?_) (fun hg => ?_)
  ·simp only [decide_eq_true_eq] at hg
   refine ⟨⟨k1', k3, rfl, hs1, hs3, hne', by omega, by omega, ?_, _, by rw [hnext]; exact inv⟩, by show ((255 : Int) - (i + 1)).toNat < ((255 : Int) - i).toNat; omega⟩
   rw [hnext, ← hst]
   exact (if_pos hg).symm
  ·simp only [decide_eq_false_iff_not] at hg
   refine ⟨⟨k1', k3, rfl, hs1, hs3, hne', by omega, by omega, ?_, _, by rw [hnext]; exact inv⟩, by show ((255 : Int) - (i + 1)).toNat < ((255 : Int) - i).toNat; omega⟩
   rw [hnext, ← hst]
   exact (if_neg hg).symm
 ·simp only [decide_eq_false_iff_not] at ht
  have hi : i.toNat = 255 := by omega
  rw [hi] at hI
  refine ⟨_, by rw [e0]; exact hI.ptr.row.cell rfl, k1', rfl, hI.ext, hs1, at0 k1', rfl, fun j hj => ?_, fun a ha => ?_⟩
  ·refine hI.row.row.cell ?_
   by_cases h : j < 255
   ·exact (hI.exp j h).1
   ·have h1 := (hI.exp (j - 255) (by omega)).2
    have h2 := (ge_facts (s := j - 255) (by omega)).2.2
    rw [show j - 255 + 255 = j by omega] at h1 h2
    rw [h1, h2]
  ·refine hI.row.row.cell ?_
   by_cases h : a = 0
   ·subst h
    rw [gl_zero]; exact hI.zero
   ·have h1 := gl_facts ha h
    have h2 := hI.log (gl a) h1.2
    rw [h1.1] at h2
    exact h2
end Go.Proofs.YtkolafpgbhpdlaaGreat
namespace Go.Proofs.YtkolafpgbhpdlaaGreat
open Go Go.Vc Go.Gf
theorem elemY : ElemOf Tryz.prog 25 5 1 1 := ⟨by kernel_rfl, ⟨Tryz.t5, .int .u8 0, by kernel_rfl, by kernel_rfl, by kernel_rfl, by kernel_rfl, by kernel_rfl⟩, by omega⟩
theorem bx8 (a b : UInt8) : bitsV .xor .u8 (a.toNat : Int) (b.toNat : Int) = ((a ^^^ b).toNat : Int) := by
 have ha := u8lt a
 have hb := u8lt b
 have hx := u8lt (a ^^^ b)
 show IntKind.u8.wrap (((BitVec.ofInt 8 (a.toNat : Int)) ^^^ (BitVec.ofInt 8 (b.toNat : Int))).toNat : Int) = _
 have e : ∀ x : UInt8, (BitVec.ofInt 8 (x.toNat : Int)).toNat = x.toNat := fun x => by
  have := u8lt x
  rw [BitVec.toNat_ofInt]; omega
 rw [BitVec.toNat_xor, e, e, ← UInt8.toNat_xor]
 have : IntKind.u8.wrap ((a ^^^ b).toNat : Int) = ((a ^^^ b).toNat : Int) % 256 := by simp [IntKind.wrap, IntKind.bits, IntKind.signed]
 rw [this]; omega
theorem wrap8 (n : Int) (h : 0 ≤ n) : IntKind.u8.wrap n = ((pt n.toNat).toNat : Int) := by
 have : IntKind.u8.wrap n = n % 256 := by simp [IntKind.wrap, IntKind.bits, IntKind.signed]
 rw [this, pt, UInt8.toNat_ofNat']
 omega
theorem vb_inj {a b : UInt8} : ((a.toNat : Int) = (b.toNat : Int)) ↔ a = b := by
 constructor
 ·intro h; exact UInt8.toNat_inj.1 (by omega)
 ·rintro rfl; rfl
theorem vb_zero {a : UInt8} : ((a.toNat : Int) = 0) ↔ a = 0 := by rw [u8_zero_iff]; omega
theorem cutP0 (p : Option Addr) (c s : Nat) : cutP p c 0 s = p := by
 unfold cutP
 rw [Nat.zero_mul]
 split
 ·rfl
 ·cases p with
  | none => rfl
  | some a => show some (a.add 0) = _; simp [Addr.add]
theorem BytesAt.co {w : World} {p : Option Addr} {n : Nat} {bs : List UInt8} (h : BytesAt w p n bs) {i : Nat} (hi : i < n) : ∃ a, p = some a ∧ w.cell? (a.add i) = some (vb (co bs i)) := h.get hi
abbrev OwnB (w : World) (base : Nat) (p : Option Addr) (n c : Nat) (bs : List UInt8) : Prop := OwnS w base 5 1 p n c (encB bs)
section
variable {w w' : World} {base : Nat} {p : Option Addr} {n c : Nat} {bs : List UInt8}
theorem OwnB.len (h : OwnB w base p n c bs) : n = bs.length := by have := h.length; rw [encB_length] at this; omega
theorem OwnB.le (h : OwnB w base p n c bs) : n ≤ c := by
 rcases h.where_ with ⟨_, rfl, rfl⟩ | ⟨g, _, _, _, h, _⟩
 ·exact Nat.le_refl _
 ·exact h
theorem OwnB.bytes (h : OwnB w base p n c bs) : BytesAt w p n bs := by
 have hl := OwnB.len h
 rw [hl]
 exact BytesAt.of_cells (OwnS.cells h)
theorem OwnB.new_ext {w0 w : World} {S : Nat → Prop} (hx : Ext w0 w) (hu : Upd S w w') (hS : ∀ x, S x → w0.heap.size ≤ x) : Ext w0 w' := Upd.trans hx hu fun x hx hs => by have := hS x hs; omega
theorem OwnB.blk (h : OwnB w base p n c bs) {x : Nat} (hp : p = some (at0 x)) : base ≤ x := by
 subst hp
 rcases h.where_ with ⟨h, _⟩ | ⟨g, h, hb, _⟩
 ·cases h
 ·simp only [Option.some.injEq, at0, Addr.mk.injEq, and_true] at h
  omega
theorem OwnB.made {k m : Nat} (hk : NewB w k (.cells (madeRow Tryz.prog 5 m) 5) w') (hb : base ≤ k) (hm : m ≤ maxLen) : OwnB w' base (some (at0 k)) m m (List.replicate m 0) := by
 have e : madeRow Tryz.prog 5 m = (encB (List.replicate m 0)).toArray := by
  unfold madeRow
  rw [show zeroCellsOf Tryz.prog 5 = [.int .u8 0] by kernel_rfl]
  congr 1
  clear hk hm
  induction m with
  | zero => rfl
  | succ m ih =>
   rw [List.replicate_succ, List.flatten_cons, ih, List.replicate_succ]; rfl
 rw [e] at hk
 have := OwnS.made (sz := 1) (n := m) (c := m) hk hb (Nat.le_refl m) hm (by simp [encB_length])
 rw [Nat.mul_one] at this
 have e2 : (encB (List.replicate m 0)).toArray.toList.take m = encB (List.replicate m 0) := by
  show (encB (List.replicate m 0)).take m = _
  rw [List.take_of_length_le (by rw [encB_length, List.length_replicate]; exact Nat.le_refl _)]
 rw [e2] at this
 exact this
theorem OwnB.push {w1 : World} {k : Nat} {b : UInt8} (h : OwnB w base p n c bs) (hk : NewB w k (.cells #[vb b] 5) w1) (hbase : base ≤ w.heap.size) (hn : n ≤ 1099511627776) :
  ∃ p' c' w2, Sem.run Tryz.prog (Builtin.append_ #[25, 25] 25 #[.slice p n c, .slice (some (at0 k)) 1 1]) w1 = .ok (.slice p' (n + 1) c') w2 ∧ OwnB w2 base p' (n + 1) c' (bs ++ [b]) ∧
   Upd (fun x => p = some (at0 x)) w w2 := by
 have h1 : OwnS w1 base 5 1 p n c (encB bs) := OwnS.ext h hk.ext
 have hq : CellsAt w1 (some (at0 k)) (encB [b]) := by
  intro j u hj
  refine ⟨_, rfl, hk.row.row.cell ?_⟩
  simpa [encB] using hj
 obtain ⟨p', c', w2, hr, ho, hu, _⟩ := h1.append elemY 25 (q := some (at0 k)) (m := 1) (d := 1) (news := encB [b]) (by rw [encB_length]; rfl) hq (fun h => by cases h) (encB_one _) (by unfold maxLen; omega) (by omega)
  (by rw [hk.size.2]; omega)
 refine ⟨p', c', w2, hr, ?_, Upd.trans hk.ext.upd hu fun x _ hx => hx⟩
 have : encB bs ++ encB [b] = encB (bs ++ [b]) := by simp [encB]
 rw [this] at ho
 exact ho
theorem OwnB.at (h : OwnB w base p n c bs) {i : Nat} (hi : i < n) : ∃ k, p = some (at0 k) ∧ base ≤ k ∧ Live w ((at0 k).add i) ∧ w.cell? ((at0 k).add i) = some (vb (co bs i)) ∧
  ∀ b w', SetC w ((at0 k).add i) (vb b) w' → OwnB w' base (some (at0 k)) n c (bs.set i b) ∧ Upd (fun x => x = k) w w' := by
 rcases h.where_ with ⟨_, h0, _⟩ | ⟨k, rfl, hb, _⟩
 ·omega
 ·have hl := OwnB.len h
  obtain ⟨a, ha, hc⟩ := BytesAt.co (OwnB.bytes h) hi
  cases ha
  refine ⟨k, rfl, hb, OwnS.live h (by rw [encB_length]; omega), hc, fun b w' hs => ?_⟩
  obtain ⟨h1, h2⟩ := OwnS.set h hs
  refine ⟨?_, h2⟩
  have : (encB bs).set i (vb b) = encB (bs.set i b) := by simp [encB, List.map_set]
  rw [this] at h1
  exact h1
theorem OwnB.cut (h : OwnB w base p n c bs) {m : Nat} (hm : m ≤ n) : OwnB w base p m c (bs.take m) := by
 have hl := OwnB.len h
 refine ⟨by rw [encB_length, List.length_take]; omega, ?_⟩
 rcases h.2 with ⟨hv, hn⟩ | ⟨g, cap, cur, hv, hb, hg, h1, h2, h3, h4⟩
 ·left
  simp only [Value.slice.injEq] at hv
  obtain ⟨rfl, rfl, rfl⟩ := hv
  have : m = 0 := by omega
  subst this
  exact ⟨rfl, rfl⟩
 ·right
  simp only [Value.slice.injEq] at hv
  obtain ⟨rfl, _, rfl⟩ := hv
  refine ⟨g, c, cur, rfl, hb, hg, by omega, h2, h3, ?_⟩
  rw [Nat.mul_one] at h4 ⊢
  have : encB (bs.take m) = (encB bs).take m := by simp [encB, List.map_take]
  rw [this, ← h4, List.take_take, Nat.min_eq_left hm]
end
def ListsAt (w : World) (p : Option Addr) (l : Nat) (L : List (List UInt8)) : Prop :=
 l = L.length ∧ ∀ i, i < l → ∃ a q n c, p = some a ∧ w.cell? (a.add i) = some (.slice q n c) ∧ BytesAt w q n (L.getD i []) ∧ n ≤ c
theorem ListsAt.ext {w w' : World} {p : Option Addr} {l : Nat} {L : List (List UInt8)} (h : ListsAt w p l L) (hu : Ext w w') : ListsAt w' p l L :=
 ⟨h.1, fun i hi => let ⟨a, q, n, c, h1, h2, h3, h4⟩ := h.2 i hi; ⟨a, q, n, c, h1, hu.cell h2 id, h3.ext hu, h4⟩⟩
def lx (L : List (List UInt8)) : Se := L.foldl (fun s p => sa s (co p)) sz
theorem lx_take {L : List (List UInt8)} {i : Nat} (hi : i < L.length) : lx (L.take (i + 1)) = sa (lx (L.take i)) (co (L.getD i [])) := by
 unfold lx
 rw [List.take_add_one, List.getElem?_eq_getElem hi, List.foldl_append]
 simp [List.getD_eq_getElem?_getD, List.getElem?_eq_getElem hi]
theorem co_append_zero (xs : List UInt8) : co (xs ++ [0]) = co xs := funext fun i => by
 simp only [co, List.getD_eq_getElem?_getD]
 by_cases h : i < xs.length
 ·rw [List.getElem?_append_left h]
 ·rw [List.getElem?_append_right (by omega), List.getElem?_eq_none (by omega : xs.length ≤ i)]
  cases i - xs.length <;> rfl
theorem co_set {xs : List UInt8} {i : Nat} (hi : i < xs.length) (b : UInt8) (j : Nat) : co (xs.set i b) j = if j = i then b else co xs j := by
 simp only [co, List.getD_eq_getElem?_getD, List.getElem?_set]
 by_cases h : j = i
 ·subst h; simp [hi]
 ·rw [if_neg (fun e => h e.symm), if_neg h]
theorem co_take (xs : List UInt8) (n j : Nat) : co (xs.take n) j = if j < n then co xs j else 0 := by
 simp only [co, List.getD_eq_getElem?_getD, List.getElem?_take]
 split <;> rfl
def SumIn (w : World) (L : List (List UInt8)) (l : Nat) (i : Int) (p39 : Option Addr) (l39 : Nat) (p49 : Option Addr) (l49 c49 : Nat) (j : Int) (w51 : World) : Prop :=
 0 ≤ j ∧ j ≤ l39 ∧ 0 ≤ i ∧ i < l ∧ Ext w w51 ∧ BytesAt w p39 l39 (L.getD i.toNat []) ∧
  ∃ xs, OwnB w51 w.heap.size p49 l49 c49 xs ∧ co xs = sa (lx (L.take i.toNat)) (fun t => if (t : Int) < j then co (L.getD i.toNat []) t else 0) ∧ j ≤ l49 ∧ xs.length ≤ 1073741824
theorem SumIn.write {w ws : World} {L : List (List UInt8)} {l : Nat} {i j : Int} {p39 : Option Addr} {l39 : Nat} {pz : Option Addr} {lz cz : Nat} {zs : List UInt8} (hi0 : 0 ≤ i) (hi : i < l) (hj0 : 0 ≤ j) (hj : j < l39)
  (hx : Ext w ws) (ho : OwnB ws w.heap.size pz lz cz zs) (hc : co zs = sa (lx (L.take i.toNat)) (fun t => if (t : Int) < j then co (L.getD i.toNat []) t else 0)) (hjz : j.toNat < lz) (hz : zs.length ≤ 1073741824) (hq : BytesAt w p39 l39 (L.getD i.toNat []))
  {I : Option Addr → Nat → Nat → Int → World → Prop} {M : World → Prop} (hI : ∀ w82, SumIn w L l i p39 l39 pz lz cz (j + 1) w82 → I pz lz cz (j + 1) w82) (hM : ∀ w82, M w82) :
  ((0 ≤ j ∧ j < ((lz : Nat) : Int)) ∧ nilM pz fun a => ∃ n80 : Int, ws.cell? (a.add (j.toNat * 1)) = some (.int .u8 n80) ∧ ((0 ≤ j ∧ j < ((lz : Nat) : Int)) ∧ nilM pz fun a81 => (Live ws (a81.add (j.toNat * 1)) ∧
   ∀ w82, SetC ws (a81.add (j.toNat * 1)) (Value.int .u8 (bitsV .xor .u8 n80 ((co (L.getD i.toNat []) j.toNat).toNat : Int))) w82 → (I pz lz cz (j + 1) w82 ∧ M w82)))) := by
 obtain ⟨k, rfl, hk, hlive, hcell, hset⟩ := OwnB.at ho hjz
 have hl := OwnB.len ho
 refine ⟨⟨hj0, by omega⟩, _, by rw [Nat.mul_one]; exact hcell, ⟨hj0, by omega⟩, by rw [Nat.mul_one]; exact hlive, fun w82 hs => ⟨hI _ ?_, hM _⟩⟩
 rw [Nat.mul_one, bx8] at hs
 obtain ⟨h1, h2⟩ := hset _ _ hs
 have hx82 : Ext w w82 := OwnB.new_ext hx h2 fun x hx => by omega
 refine ⟨by omega, by omega, hi0, hi, hx82, hq, _, h1, ?_, by omega, by rw [List.length_set]; exact hz⟩
 funext t
 rw [co_set (by omega)]
 by_cases ht : t = j.toNat
 ·subst ht
  rw [if_pos rfl, hc]
  simp only [sa]
  rw [if_neg (by omega), if_pos (by omega), x0]
 ·rw [if_neg ht, hc]
  simp only [sa]
  by_cases h3 : (t : Int) < j
  ·rw [if_pos h3, if_pos (by omega)]
  ·rw [if_neg h3, if_neg (by omega)]
set_option maxHeartbeats 2000000 in
theorem psum_spec {p : Option Addr} {l c : Nat} {w : World} {L : List (List UInt8)} (h : ListsAt w p l L) (hb : ∀ q ∈ L, q.length ≤ 1073741824) (hm : l ≤ 1073741824) :
  Calls Tryz.prog 175 #[.slice p l c] w fun e w' => ∃ p' n' c' r, e = .returned (.slice p' n' c') ∧ Ext w w' ∧ OwnB w' w.heap.size p' n' c' r ∧ Normal r ∧ co r = lx L := by
 refine (F175_calls p l c w (fun v w' => ∃ p' n' c' r, v = .slice p' n' c' ∧ Ext w w' ∧ OwnB w' w.heap.size p' n' c' r ∧ Normal r ∧ co r = lx L)
  (fun _ _ _ _ _ p6 l6 c6 i w8 => 0 ≤ i ∧ i ≤ l ∧ Ext w w8 ∧ ∃ xs, OwnB w8 w.heap.size p6 l6 c6 xs ∧ co xs = lx (L.take i.toNat) ∧ xs.length ≤ 1073741824) (fun _ _ _ _ _ _ _ _ i _ => (l - i).toNat)
  (fun _ _ _ _ i p39 l39 _ _ _ p49 l49 c49 j w51 => SumIn w L l i p39 l39 p49 l49 c49 j w51)
  (fun _ _ _ _ _ _ l39 _ _ _ _ _ _ j _ => (l39 - j).toNat)
  (fun _ p87 l87 c87 w88 => Ext w w88 ∧ ∃ xs, OwnB w88 w.heap.size p87 l87 c87 xs ∧ co xs = lx L ∧ xs.length ≤ 1073741824) (fun _ _ l87 _ _ => l87) ?_).mono (by
  rintro e w' ⟨v, rfl, p', n', c', r, rfl, h⟩; exact ⟨p', n', c', r, rfl, h⟩)
 have hl := h.1
 have hlen : ∀ i, i < L.length → (L.getD i []).length ≤ 1073741824 := fun i hi => by
  rw [List.getD_eq_getElem?_getD, List.getElem?_eq_getElem hi]
  exact hb _ (List.getElem_mem hi)
 refine ⟨⟨by omega, by omega, Upd.refl _ _, [], OwnS.nil _ _ _ _, rfl, by simp⟩, ?_⟩
 rintro p6 l6 c6 i w8 ⟨hi0, hi1, hx8, xs, ho, hco, hxl⟩
 intros
 refine condB_of (fun ht => ?_) (fun ht => ?_)
 ·simp only [decide_eq_true_eq] at ht
  obtain ⟨a, q, n, cq, rfl, hcell, hq, hqc⟩ := h.2 i.toNat (by omega)
  refine ⟨⟨hi0, ht⟩, q, n, cq, by rw [Nat.mul_one]; exact hx8.cell hcell id, ?_⟩
  have hql := hlen i.toNat (by omega)
  have hqn := hq.1
  refine ⟨⟨by omega, by omega, hi0, ht, hx8, hq, xs, ho, ?_, by omega, hxl⟩, ?_⟩
  ·rw [hco]
   have : (fun t : Nat => if (t : Int) < 0 then co (L.getD i.toNat []) t else 0) = sz := funext fun t => if_neg (by omega)
   rw [this, sa_sz]
  rintro p49 l49 c49 j w51 ⟨hj0, hj1, _, _, hx51, _, ys, hoy, hcoy, hjl, hyl⟩
  intros
  have hly := OwnB.len hoy
  refine condB_of (fun hs => ?_) (fun hs => ?_)
  ·simp only [decide_eq_true_eq] at hs
   obtain ⟨b, rfl, hbc⟩ := BytesAt.co (hq.ext hx51) (i := j.toNat) (by omega)
   refine ⟨⟨hj0, hs⟩, _, by rw [Nat.mul_one]; exact hbc, ?_⟩
   have hnext : IntKind.i64.wrap (j + 1) = j + 1 := w64 (by omega)
   rw [hnext]
   refine condB_of (fun he => ?_) (fun he => ?_)
   ·simp only [decide_eq_true_eq] at he
    intro k w76 hk
    obtain ⟨p', c', w77, hr, ho', hu'⟩ := OwnB.push (b := 0) hoy hk hx51.size (by omega)
    have hx77 : Ext w w77 := OwnB.new_ext hx51 hu' fun x hx => OwnB.blk hoy hx
    refine ⟨p', l49 + 1, c', w77, hr, ?_⟩
    exact SumIn.write hi0 ht hj0 hs hx77 ho' (by rw [co_append_zero]; exact hcoy) (by omega) (by simp; omega) hq
     (fun w82 h => h) (fun w82 => by show ((n : Int) - (j + 1)).toNat < ((n : Int) - j).toNat; omega)
   ·simp only [decide_eq_false_iff_not] at he
    exact SumIn.write hi0 ht hj0 hs hx51 hoy hcoy (by omega) hyl hq
     (fun w82 h => h) (fun w82 => by show ((n : Int) - (j + 1)).toNat < ((n : Int) - j).toNat; omega)
  ·simp only [decide_eq_false_iff_not] at hs
   rw [w64 (n := i + 1) (by omega)]
   refine ⟨⟨by omega, by omega, hx51, ys, hoy, ?_, hyl⟩, by show ((l : Int) - (i + 1)).toNat < ((l : Int) - i).toNat; omega⟩
   rw [show (i + 1).toNat = i.toNat + 1 by omega, lx_take (by omega), hcoy]
   congr 1
   funext t
   by_cases h3 : (t : Int) < j
   ·rw [if_pos h3]
   ·rw [if_neg h3, co_out (by omega)]
 ·simp only [decide_eq_false_iff_not] at ht
  have hL : lx (L.take i.toNat) = lx L := by rw [show i.toNat = L.length by omega, List.take_length]
  refine ⟨⟨hx8, xs, ho, by rw [hco, hL], hxl⟩, ?_⟩
  rintro p87 l87 c87 w88 ⟨hx88, ys, hoy, hcoy, hyl⟩
  intros
  have hly := OwnB.len hoy
  have hle := OwnB.le hoy
  refine condB_of (fun hs => ?_) (fun hs => ?_)
  ·simp only [decide_eq_true_eq] at hs
   have hlast : IntKind.i64.wrap ((l87 : Int) - 1) = (l87 : Int) - 1 := w64 (by omega)
   rw [hlast]
   have hn : ((l87 : Int) - 1).toNat = l87 - 1 := by omega
   obtain ⟨b, rfl, hbc⟩ := BytesAt.co (OwnB.bytes hoy) (i := l87 - 1) (by omega)
   refine ⟨⟨by omega, by omega⟩, _, by rw [hn, Nat.mul_one]; exact hbc, ?_⟩
   refine condB_of (fun hz => ?_) (fun hz => ?_)
   ·simp only [decide_eq_true_eq, vb_zero] at hz
    rw [hn, cutP0, Nat.sub_zero, Nat.sub_zero]
    refine ⟨⟨by omega, by omega⟩, ⟨hx88, _, OwnB.cut hoy (by omega), ?_, by rw [List.length_take]; omega⟩, by show l87 - 1 < l87; omega⟩
    rw [← hcoy]
    funext t
    rw [co_take]
    by_cases h3 : t < l87 - 1
    ·rw [if_pos h3]
    ·rw [if_neg h3]
     by_cases h4 : t = l87 - 1
     ·rw [h4, hz]
     ·rw [co_out (by omega)]
   ·simp only [decide_eq_false_iff_not, vb_zero] at hz
    exact ⟨_, _, _, ys, rfl, hx88, hoy, fun _ => by rw [← hly]; exact hz, hcoy⟩
  ·simp only [decide_eq_false_iff_not] at hs
   have : ys = [] := List.eq_nil_of_length_eq_zero (by omega)
   subst this
   exact ⟨_, _, _, [], rfl, hx88, hoy, normal_nil, hcoy⟩
theorem lists_one {w w1 : World} {k : Nat} {p : Option Addr} {n c : Nat} {bs : List UInt8} (hk : NewB w k (.cells #[.slice p n c] 25) w1) (h : BytesAt w p n bs) (hc : n ≤ c) : ListsAt w1 (some (at0 k)) 1 [bs] := by
 refine ⟨rfl, fun i hi => ?_⟩
 obtain rfl : i = 0 := by omega
 exact ⟨_, p, n, c, rfl, hk.row.row.cell rfl, h.ext hk.ext, hc⟩
theorem lists_two {w w1 : World} {k : Nat} {p q : Option Addr} {n c m d : Nat} {bs cs : List UInt8} (hk : NewB w k (.cells #[.slice p n c, .slice q m d] 25) w1) (h : BytesAt w p n bs) (hc : n ≤ c) (h' : BytesAt w q m cs) (hd : m ≤ d) :
  ListsAt w1 (some (at0 k)) 2 [bs, cs] := by
 refine ⟨rfl, fun i hi => ?_⟩
 rcases (by omega : i = 0 ∨ i = 1) with rfl | rfl
 ·exact ⟨_, p, n, c, rfl, hk.row.row.cell rfl, h.ext hk.ext, hc⟩
 ·exact ⟨_, q, m, d, rfl, hk.row.row.cell rfl, h'.ext hk.ext, hd⟩
theorem pnorm_spec {p : Option Addr} {n c : Nat} {w : World} {bs : List UInt8} (h : BytesAt w p n bs) (hc : n ≤ c) (hm : n ≤ 1073741824) :
  Calls Tryz.prog 169 #[.slice p n c] w fun e w' => ∃ p' n' c' r, e = .returned (.slice p' n' c') ∧ Ext w w' ∧ OwnB w' w.heap.size p' n' c' r ∧ Normal r ∧ co r = co bs := by
 refine (F169_calls p n c w (fun v w' => ∃ p' n' c' r, v = .slice p' n' c' ∧ Ext w w' ∧ OwnB w' w.heap.size p' n' c' r ∧ Normal r ∧ co r = co bs) ?_).mono (by
  rintro e w' ⟨v, rfl, p', n', c', r, rfl, h⟩; exact ⟨p', n', c', r, rfl, h⟩)
 intro k w3 hk
 refine (psum_spec (lists_one hk h hc) (fun q hq => by rw [List.mem_singleton] at hq; subst hq; have := h.1; omega) (by omega)).mono ?_
 rintro e w4 ⟨p', n', c', r, rfl, hx, hb, hn, hco⟩
 exact ⟨p', n', c', rfl, p', n', c', r, rfl, hk.ext.trans hx, OwnS.base_le hb hk.ext.size, hn, by rw [hco]; exact sz_sa _⟩
theorem padd_spec {p q : Option Addr} {n c m d : Nat} {w : World} {bs cs : List UInt8} (h : BytesAt w p n bs) (hc : n ≤ c) (hm : n ≤ 1073741824) (h' : BytesAt w q m cs) (hd : m ≤ d) (hm' : m ≤ 1073741824) :
  Calls Tryz.prog 173 #[.slice p n c, .slice q m d] w fun e w' => ∃ p' n' c' r, e = .returned (.slice p' n' c') ∧ Ext w w' ∧ OwnB w' w.heap.size p' n' c' r ∧ Normal r ∧ co r = sa (co bs) (co cs) := by
 refine (F173_calls p n c q m d w (fun v w' => ∃ p' n' c' r, v = .slice p' n' c' ∧ Ext w w' ∧ OwnB w' w.heap.size p' n' c' r ∧ Normal r ∧ co r = sa (co bs) (co cs)) ?_).mono (by
  rintro e w' ⟨v, rfl, p', n', c', r, rfl, h⟩; exact ⟨p', n', c', r, rfl, h⟩)
 intro k w3 hk
 refine (psum_spec (lists_two hk h hc h' hd) (fun x hx => by
  rcases List.mem_cons.1 hx with rfl | hx
  ·have := h.1; omega
  ·rw [List.mem_singleton] at hx; subst hx; have := h'.1; omega) (by omega)).mono ?_
 rintro e w4 ⟨p', n', c', r, rfl, hx, hb, hn, hco⟩
 exact ⟨p', n', c', rfl, p', n', c', r, rfl, hk.ext.trans hx, OwnS.base_le hb hk.ext.size, hn, by rw [hco]; show sa (sa sz (co bs)) (co cs) = _; rw [sz_sa]⟩
theorem OwnB.base_le {w : World} {base base' : Nat} {p : Option Addr} {n c : Nat} {bs : List UInt8} (h : OwnB w base p n c bs) (hb : base' ≤ base) : OwnB w base' p n c bs := OwnS.base_le h hb
theorem OwnB.ext {w w' : World} {base : Nat} {p : Option Addr} {n c : Nat} {bs : List UInt8} (h : OwnB w base p n c bs) (hu : Ext w w') : OwnB w' base p n c bs := OwnS.ext h hu
set_option maxHeartbeats 1000000 in
theorem pscaled_spec {f p : Option Addr} {n c t : Nat} {w : World} {bs : List UInt8} (hf : FieldAt w f) (h : BytesAt w p n bs) (hn : n ≤ 1073741824) (ht : t ≤ 1073741824) (x : UInt8) :
  Calls Tryz.prog 174 #[.pointer f, .slice p n c, vb x, .int .i64 (t : Int)] w fun e w' => ∃ p' c' r, e = .returned (.slice p' (t + n) c') ∧ Ext w w' ∧ OwnB w' w.heap.size p' (t + n) c' r ∧ co r = sh t (sm x (co bs)) := by
 refine (F174_calls f p n c x.toNat t w (fun v w' => ∃ p' c' r, v = .slice p' (t + n) c' ∧ Ext w w' ∧ OwnB w' w.heap.size p' (t + n) c' r ∧ co r = sh t (sm x (co bs)))
  (fun q _ _ _ _ i w1 => 0 ≤ i ∧ i ≤ n ∧ Ext w w1 ∧ ∃ r, OwnB w1 w.heap.size q (t + n) (t + n) r ∧ ∀ j, co r j = if t ≤ j ∧ (j : Int) < t + i then gm x (co bs (j - t)) else 0) (fun _ _ _ _ _ i _ => (n - i).toNat) ?_).mono (by
  rintro e w' ⟨v, rfl, p', c', r, rfl, h⟩; exact ⟨p', c', r, rfl, h⟩)
 have hl := h.1
 unfold F174
 have hw : IntKind.i64.wrap ((t : Int) + (n : Int)) = (t : Int) + (n : Int) := w64 (by omega)
 have hT : ((t : Int) + (n : Int)).toNat = t + n := by omega
 rw [hw, hT]
 refine ⟨⟨by omega, by omega, by omega⟩, fun k w3 hk => ?_⟩
 have h3 : OwnB w3 w.heap.size (some (at0 k)) (t + n) (t + n) (List.replicate (t + n) 0) := OwnB.made hk (by rw [hk.size.1]; exact Nat.le_refl _) (by unfold maxLen; omega)
 refine ⟨⟨by omega, by omega, hk.ext, _, h3, fun j => ?_⟩, ?_⟩
 ·rw [if_neg (by omega)]
  simp only [Gf.co, List.getD_eq_getElem?_getD, List.getElem?_replicate]
  split <;> rfl
 rintro i w1 ⟨hi0, hi1, hx1, r, ho, hr⟩
 intros
 refine condB_of (fun hs => ?_) (fun hs => ?_)
 ·simp only [decide_eq_true_eq] at hs
  obtain ⟨a, rfl, ha⟩ := BytesAt.co (h.ext hx1) (i := i.toNat) (by omega)
  refine ⟨⟨hi0, hs⟩, _, by rw [Nat.mul_one]; exact ha, ?_⟩
  refine (fmul_spec (hf.ext hx1) _ _).mono ?_
  rintro e w2 ⟨rfl, hx2⟩
  rw [w64 (n := (t : Int) + i) (by omega), w64 (n := i + 1) (by omega)]
  obtain ⟨k', hk', hb', hlive, _, hset⟩ := OwnB.at (OwnB.ext ho hx2) (i := t + i.toNat) (by omega)
  simp only [Option.some.injEq, at0, Addr.mk.injEq, and_true] at hk'
  subst hk'
  have e1 : ((t : Int) + i).toNat = t + i.toNat := by omega
  rw [e1, Nat.mul_one]
  refine ⟨_, rfl, ⟨by omega, by omega⟩, hlive, fun w4 hs4 => ?_⟩
  obtain ⟨ho4, hu4⟩ := hset _ _ hs4
  have hlen := OwnB.len ho
  refine ⟨⟨by omega, by omega, OwnB.new_ext (hx1.trans hx2) hu4 (fun y hy => by omega), _, ho4, fun j => ?_⟩, by show ((n : Int) - (i + 1)).toNat < ((n : Int) - i).toNat; omega⟩
  rw [co_set (by omega)]
  by_cases hj : j = t + i.toNat
  ·subst hj
   rw [if_pos rfl, if_pos (by omega), gm_comm, show t + i.toNat - t = i.toNat by omega]
  ·rw [if_neg hj, hr]
   by_cases h5 : t ≤ j ∧ (j : Int) < t + i
   ·rw [if_pos h5, if_pos (by omega)]
   ·rw [if_neg h5, if_neg (by omega)]
 ·simp only [decide_eq_false_iff_not] at hs
  refine ⟨_, _, r, rfl, hx1, ho, funext fun j => ?_⟩
  rw [hr]
  unfold sh sm
  by_cases h5 : j < t
  ·rw [if_pos h5, if_neg (by omega)]
  ·rw [if_neg h5]
   by_cases h6 : (j : Int) < t + i
   ·rw [if_pos ⟨by omega, h6⟩]
   ·rw [if_neg (by omega), co_out (p := bs) (by omega), gm_zero]
end Go.Proofs.YtkolafpgbhpdlaaGreat
namespace Go.Proofs.YtkolafpgbhpdlaaGreat
open Go Go.Vc Go.Gf
theorem elemX : ElemOf Tryz.prog 79 25 1 24 := ⟨by kernel_rfl, ⟨Tryz.t25, .slice none 0 0, by kernel_rfl, by kernel_rfl, by kernel_rfl, by kernel_rfl, by kernel_rfl⟩, by omega⟩
theorem OwnB.other {S : Nat → Prop} {w w' : World} {base : Nat} {p : Option Addr} {n c : Nat} {bs : List UInt8} (h : OwnB w base p n c bs) (hu : Upd S w w')
  (hS : ∀ x, S x → ∃ (cs : Array Value) (e : TypeId) (fz : Nat × Nat), w.heap[x]? = some (Obj.cells cs e fz) ∧ e ≠ 5) : OwnB w' base p n c bs := by
 refine OwnS.upd h hu fun g hg hs => ?_
 obtain ⟨cs, e, fz, h1, h2⟩ := hS g hs
 rcases h.where_ with ⟨h0, _⟩ | ⟨g', h0, _, _, _, cur, hc, _⟩
 ·rw [h0] at hg; cases hg
 ·rw [h0] at hg
  simp only [Option.some.injEq, at0, Addr.mk.injEq, and_true] at hg
  subst hg
  rw [hc] at h1
  cases h1
  exact h2 rfl
theorem OwnS.typed {w : World} {base : Nat} {e : TypeId} {sz : Nat} {p : Option Addr} {n c : Nat} {xs : List Value} (h : OwnS w base e sz p n c xs) {x : Nat} (hx : p = some (at0 x)) :
  ∃ (cs : Array Value) (e' : TypeId) (fz : Nat × Nat), w.heap[x]? = some (Obj.cells cs e' fz) ∧ e' = e := by
 rcases h.where_ with ⟨h0, _⟩ | ⟨g, h0, _, _, _, cur, hc, _⟩
 ·rw [h0] at hx; cases hx
 ·rw [h0] at hx
  simp only [Option.some.injEq, at0, Addr.mk.injEq, and_true] at hx
  subst hx
  exact ⟨cur, e, (0, 0), hc, rfl⟩
def SlB (w : World) (base : Nat) (v : Value) (bs : List UInt8) : Prop := ∃ q m d, v = .slice q m d ∧ OwnB w base q m d bs
def OwnL (w : World) (base : Nat) (p : Option Addr) (n c : Nat) (L : List (List UInt8)) : Prop := ∃ vs, OwnS w base 25 1 p n c vs ∧ All2 (SlB w base) vs L
theorem SlB.one {w : World} {base : Nat} {v : Value} {bs : List UInt8} (h : SlB w base v bs) : v.oneCell' = true := by obtain ⟨q, m, d, rfl, _⟩ := h; rfl
section
variable {w w' : World} {base : Nat} {p : Option Addr} {n c : Nat} {L : List (List UInt8)}
theorem OwnL.nil (w : World) (base : Nat) : OwnL w base none 0 0 [] := ⟨[], OwnS.nil _ _ _ _, .nil⟩
theorem OwnL.len (h : OwnL w base p n c L) : n = L.length := by
 obtain ⟨vs, h1, h2⟩ := h
 have := OwnS.length h1
 rw [← h2.length]; omega
theorem all2_get {α β : Type} {R : α → β → Prop} {us : List α} {bs : List β} (h : All2 R us bs) {i : Nat} {b : β} (hb : bs[i]? = some b) : ∃ a, us[i]? = some a ∧ R a b := by
 induction h generalizing i with
 | nil => simp at hb
 | cons h1 _ ih =>
  cases i with
  | zero =>
   simp only [List.getElem?_cons_zero, Option.some.injEq] at hb
   subst hb
   exact ⟨_, rfl, h1⟩
  | succ i => exact ih (by simpa using hb)
theorem OwnL.lists (h : OwnL w base p n c L) : ListsAt w p n L := by
 have hl := OwnL.len h
 obtain ⟨vs, h1, h2⟩ := h
 refine ⟨hl, fun i hi => ?_⟩
 obtain ⟨v, hv, q, m, d, rfl, ho⟩ := all2_get h2 (i := i) (b := L[i]'(by omega)) (by simp)
 obtain ⟨a, ha, hc⟩ := OwnS.cells h1 i _ hv
 refine ⟨a, q, m, d, ha, hc, ?_, OwnB.le ho⟩
 rw [List.getD_eq_getElem?_getD, List.getElem?_eq_getElem (by omega)]
 exact OwnB.bytes ho
theorem OwnL.ext (h : OwnL w base p n c L) (hu : Ext w w') : OwnL w' base p n c L := by
 obtain ⟨vs, h1, h2⟩ := h
 exact ⟨vs, OwnS.ext h1 hu, h2.mono fun v bs ⟨q, m, d, e, ho⟩ => ⟨q, m, d, e, OwnB.ext ho hu⟩⟩
theorem OwnL.base_le {base' : Nat} (h : OwnL w base p n c L) (hb : base' ≤ base) : OwnL w base' p n c L := by
 obtain ⟨vs, h1, h2⟩ := h
 exact ⟨vs, OwnS.base_le h1 hb, h2.mono fun v bs ⟨q, m, d, e, ho⟩ => ⟨q, m, d, e, OwnB.base_le ho hb⟩⟩
theorem OwnL.push {w1 : World} {k : Nat} {q : Option Addr} {m d : Nat} {bs : List UInt8} (h : OwnL w base p n c L) (hb : OwnB w base q m d bs) (hk : NewB w k (.cells #[.slice q m d] 25) w1) (hbase : base ≤ w.heap.size) (hn : n ≤ 1073741824) :
  ∃ p' c' w2, Sem.run Tryz.prog (Builtin.append_ #[79, 79] 79 #[.slice p n c, .slice (some (at0 k)) 1 1]) w1 = .ok (.slice p' (n + 1) c') w2 ∧ OwnL w2 base p' (n + 1) c' (L ++ [bs]) ∧
   Upd (fun x => p = some (at0 x)) w w2 := by
 obtain ⟨vs, h1, h2⟩ := h
 have h3 : OwnS w1 base 25 1 p n c vs := OwnS.ext h1 hk.ext
 have hq : CellsAt w1 (some (at0 k)) [.slice q m d] := by
  intro j u hj
  refine ⟨_, rfl, hk.row.row.cell ?_⟩
  simpa using hj
 obtain ⟨p', c', w2, hr, ho, hu, _⟩ := h3.append elemX 79 (q := some (at0 k)) (m := 1) (d := 1) (news := [.slice q m d]) rfl hq (fun h => by cases h)
  (fun u hu => by rw [List.mem_singleton] at hu; subst hu; rfl) (by unfold maxLen; omega) (by omega) (by rw [hk.size.2]; omega)
 have keep : ∀ v bs, SlB w1 base v bs → SlB w2 base v bs := fun v bs ⟨q, m, d, e, hb⟩ => ⟨q, m, d, e, OwnB.other hb hu fun x hx => by
  obtain ⟨cs, e', fz, h4, h5⟩ := OwnS.typed h3 hx
  exact ⟨cs, e', fz, h4, by rw [h5]; decide⟩⟩
 refine ⟨p', c', w2, hr, ⟨_, ho, ?_⟩, Upd.trans hk.ext.upd hu fun x _ hx => hx⟩
 refine All2.append (h2.mono fun v bs ⟨q, m, d, e, hb⟩ => keep _ _ ⟨q, m, d, e, OwnB.ext hb hk.ext⟩) (.cons (keep _ _ ⟨q, m, d, rfl, OwnB.ext hb hk.ext⟩) .nil)
theorem OwnL.blk (h : OwnL w base p n c L) {x : Nat} (hp : p = some (at0 x)) : base ≤ x := by
 obtain ⟨vs, h1, _⟩ := h
 subst hp
 rcases h1.where_ with ⟨h, _⟩ | ⟨g, h, hb, _⟩
 ·cases h
 ·simp only [Option.some.injEq, at0, Addr.mk.injEq, and_true] at h
  omega
end
theorem act_snoc (q : List UInt8) (c : UInt8) (s : Se) : act (q ++ [c]) s = sa (act q s) (sh q.length (sm c s)) := by
 induction q with
 | nil =>
  show sa (sm c s) (sh1 sz) = sa sz (sh 0 (sm c s))
  rw [sh1_sz, sa_sz, sz_sa, sh_zero]
 | cons a q ih =>
  rw [List.cons_append, act, ih, act, sh1_sa, List.length_cons, sh_succ, sa_assoc]
theorem lx_act {L : List (List UInt8)} {q : List UInt8} {s : Se} (hl : L.length = q.length) (h : ∀ t, t < L.length → co (L.getD t []) = sh t (sm (co q t) s)) : ∀ n, n ≤ q.length → lx (L.take n) = act (q.take n) s
 | 0, _ => by rw [List.take_zero, List.take_zero]; rfl
 | n + 1, hn => by
  have e : q.take (n + 1) = q.take n ++ [co q n] := by
   rw [List.take_add_one, List.getElem?_eq_getElem (by omega)]
   simp [Gf.co, List.getD_eq_getElem?_getD, List.getElem?_eq_getElem (show n < q.length by omega)]
  rw [lx_take (by omega), lx_act hl h n (by omega), e, act_snoc, h n (by omega), List.length_take, Nat.min_eq_left (by omega)]
set_option maxHeartbeats 1000000 in
theorem pmul_spec {f p q : Option Addr} {n c m d : Nat} {w : World} {bs cs : List UInt8} (hf : FieldAt w f) (h : BytesAt w p n bs) (hn : n ≤ 536870912) (h' : BytesAt w q m cs) (hm : m ≤ 536870912) :
  Calls Tryz.prog 140 #[.pointer f, .slice p n c, .slice q m d] w fun e w' => ∃ p' n' c' r, e = .returned (.slice p' n' c') ∧ Ext w w' ∧ OwnB w' w.heap.size p' n' c' r ∧ Normal r ∧ co r = act cs (co bs) := by
 refine (F140_calls f p n c q m d w (fun v w' => ∃ p' n' c' r, v = .slice p' n' c' ∧ Ext w w' ∧ OwnB w' w.heap.size p' n' c' r ∧ Normal r ∧ co r = act cs (co bs))
  (fun _ _ _ _ _ p8 l8 c8 i w1 => 0 ≤ i ∧ i ≤ m ∧ Ext w w1 ∧ ∃ L, OwnL w1 w.heap.size p8 l8 c8 L ∧ (L.length : Int) = i ∧ ∀ t, t < L.length → co (L.getD t []) = sh t (sm (co cs t) (co bs)) ∧ (L.getD t []).length = t + n)
  (fun _ _ _ _ _ _ _ _ i _ => (m - i).toNat) ?_).mono (by
  rintro e w' ⟨v, rfl, p', n', c', r, rfl, h⟩; exact ⟨p', n', c', r, rfl, h⟩)
 have hl := h.1
 have hl' := h'.1
 refine ⟨⟨by omega, by omega, Upd.refl _ _, [], OwnL.nil _ _, rfl, fun t ht => absurd ht (by simp)⟩, ?_⟩
 rintro p8 l8 c8 i w1 ⟨hi0, hi1, hx1, L, hL, hLi, hLs⟩
 intros
 have hLn := OwnL.len hL
 refine condB_of (fun hs => ?_) (fun hs => ?_)
 ·simp only [decide_eq_true_eq] at hs
  obtain ⟨a, rfl, ha⟩ := BytesAt.co (h'.ext hx1) (i := i.toNat) (by omega)
  refine ⟨⟨hi0, hs⟩, _, by rw [Nat.mul_one]; exact ha, ?_⟩
  have hsp := pscaled_spec (c := c) (t := i.toNat) (hf.ext hx1) (h.ext hx1) (by omega) (by omega) (co cs i.toNat)
  rw [show ((i.toNat : Nat) : Int) = i by omega] at hsp
  refine hsp.mono ?_
  rintro e w2 ⟨p', c', r, rfl, hx2, ho, hr⟩
  refine ⟨_, _, _, rfl, fun k w3 hk => ?_⟩
  obtain ⟨p'', c'', w4, hrun, hL4, hu4⟩ := OwnL.push (OwnL.ext hL hx2) (OwnB.base_le ho hx1.size) hk (hx1.trans hx2).size (by omega)
  have hx4 : Ext w w4 := OwnB.new_ext (hx1.trans hx2) hu4 fun x hx => OwnL.blk hL hx
  refine ⟨_, _, _, w4, hrun, ?_⟩
  rw [w64 (n := i + 1) (by omega)]
  refine ⟨⟨by omega, by omega, hx4, _, hL4, by simp; omega, fun t ht => ?_⟩, by show ((m : Int) - (i + 1)).toNat < ((m : Int) - i).toNat; omega⟩
  simp only [List.length_append, List.length_cons, List.length_nil] at ht
  by_cases ht2 : t < L.length
  ·have e : (L ++ [r]).getD t [] = L.getD t [] := by simp only [List.getD_eq_getElem?_getD]; rw [List.getElem?_append_left ht2]
   rw [e]; exact hLs t ht2
  ·have e0 : t = L.length := by omega
   have e : (L ++ [r]).getD t [] = r := by
    subst e0
    simp [List.getD_eq_getElem?_getD]
   rw [e, hr, show i.toNat = t by omega]
   have := OwnB.len ho
   exact ⟨rfl, by omega⟩
 ·simp only [decide_eq_false_iff_not] at hs
  have hlen : L.length = cs.length := by omega
  refine (psum_spec (OwnL.lists hL) (fun x hx => ?_) (by omega)).mono ?_
  ·obtain ⟨t, ht, rfl⟩ := List.getElem_of_mem hx
   have := (hLs t ht).2
   rw [List.getD_eq_getElem?_getD, List.getElem?_eq_getElem ht] at this
   simp only [Option.getD_some] at this
   omega
  ·rintro e w4 ⟨p', n', c', r, rfl, hx4, ho, hnr, hco⟩
   refine ⟨_, _, _, rfl, p', n', c', r, rfl, hx1.trans hx4, OwnB.base_le ho hx1.size, hnr, ?_⟩
   have := lx_act hlen (fun t ht => (hLs t ht).1) cs.length (Nat.le_refl _)
   rw [List.take_length, List.take_of_length_le (l := L) (by omega)] at this
   rw [hco, this]
theorem drop_step (bs : List UInt8) {i : Nat} (hi : i < bs.length) : bs.drop i = co bs i :: bs.drop (i + 1) := by
 rw [List.drop_eq_getElem_cons hi]
 simp [Gf.co, List.getD_eq_getElem?_getD, hi]
theorem peval_spec {f p : Option Addr} {n c : Nat} {w : World} {bs : List UInt8} (hf : FieldAt w f) (h : BytesAt w p n bs) (hn : n ≤ 1073741824) (x : UInt8) :
  Calls Tryz.prog 142 #[.pointer f, .slice p n c, vb x] w fun e w' => e = .returned (vb (ev bs x)) ∧ Ext w w' := by
 refine (F142_calls f p n c x.toNat w (fun v w' => v = vb (ev bs x) ∧ Ext w w')
  (fun _ o i w1 => -1 ≤ i ∧ i < n ∧ Ext w w1 ∧ o = ((ev (bs.drop (i + 1).toNat) x).toNat : Int)) (fun _ _ i _ => (i + 1).toNat) ?_).mono (by rintro e w' ⟨v, rfl, rfl, h⟩; exact ⟨rfl, h⟩)
 have hl := h.1
 unfold F142
 rw [w64 (n := (n : Int) - 1) (by omega), hf.there]
 refine ⟨⟨by omega, by omega, Upd.refl _ _, ?_⟩, ?_⟩
 ·rw [show ((n : Int) - 1 + 1).toNat = bs.length by omega, List.drop_length]; rfl
 rintro o i w1 ⟨hi0, hi1, hx1, rfl⟩
 intros
 refine condB_of (fun hs => ?_) (fun hs => ?_)
 ·simp only [decide_eq_true_eq] at hs
  refine condB_of (fun _ => ?_) (fun h => by cases h)
  intro w2 hd
  have hx2 : Ext w w2 := hx1.trans hd.ext
  obtain ⟨a, rfl, ha⟩ := BytesAt.co (h.ext hx2) (i := i.toNat) (by omega)
  refine ⟨⟨hs, hi1⟩, _, by rw [Nat.mul_one]; exact ha, ?_⟩
  refine (fmul_spec (hf.ext hx2) _ x).mono ?_
  rintro e w3 ⟨rfl, hx3⟩
  rw [w64 (n := i - 1) (by omega)]
  refine ⟨_, rfl, ⟨_, by rw [Nat.mul_one]; exact hx3.cell ha id, rfl⟩, ⟨by omega, by omega, hx2.trans hx3, ?_⟩, by show (i - 1 + 1).toNat < (i + 1).toNat; omega⟩
  rw [bx8, show (i - 1 + 1).toNat = i.toNat by omega, show (i + 1).toNat = i.toNat + 1 by omega, drop_step bs (i := i.toNat) (by omega), ev, gm_comm x, UInt8.xor_comm]
 ·simp only [decide_eq_false_iff_not] at hs
  refine ⟨?_, hx1⟩
  rw [show (i + 1).toNat = 0 by omega, List.drop_zero]
set_option maxHeartbeats 1000000 in
theorem pderiv_spec {p : Option Addr} {n c : Nat} {w : World} {bs : List UInt8} (h : BytesAt w p n bs) (hn : n ≤ 1073741824) :
  Calls Tryz.prog 141 #[.slice p n c] w fun e w' => ∃ p' n' c' r, e = .returned (.slice p' n' c') ∧ Ext w w' ∧ OwnB w' w.heap.size p' n' c' r ∧ Normal r ∧ co r = der (co bs) := by
 refine (F141_calls p n c w (fun v w' => ∃ p' n' c' r, v = .slice p' n' c' ∧ Ext w w' ∧ OwnB w' w.heap.size p' n' c' r ∧ Normal r ∧ co r = der (co bs))
  (fun q _ _ _ i w1 => 1 ≤ i ∧ i ≤ n + 2 ∧ i % 2 = 1 ∧ Ext w w1 ∧ ∃ r, OwnB w1 w.heap.size q n n r ∧ ∀ j : Nat, co r j = if j % 2 = 0 ∧ (j : Int) + 1 < i then co bs (j + 1) else 0) (fun _ _ _ _ i _ => (n + 3 - i).toNat) ?_).mono (by
  rintro e w' ⟨v, rfl, p', n', c', r, rfl, h⟩; exact ⟨p', n', c', r, rfl, h⟩)
 have hl := h.1
 refine ⟨⟨by omega, by omega, by omega⟩, fun k w3 hk => ?_⟩
 rw [Int.toNat_natCast] at hk ⊢
 have h3 : OwnB w3 w.heap.size (some (at0 k)) n n (List.replicate n 0) := OwnB.made hk (by rw [hk.size.1]; exact Nat.le_refl _) (by unfold maxLen; omega)
 refine ⟨⟨by omega, by omega, by omega, hk.ext, _, h3, fun j => ?_⟩, ?_⟩
 ·rw [if_neg (by omega)]
  simp only [Gf.co, List.getD_eq_getElem?_getD, List.getElem?_replicate]
  split <;> rfl
 rintro i w1 ⟨hi0, hi1, hodd, hx1, r, ho, hr⟩
 intros
 refine condB_of (fun hs => ?_) (fun hs => ?_)
 ·simp only [decide_eq_true_eq] at hs
  obtain ⟨a, rfl, ha⟩ := BytesAt.co (h.ext hx1) (i := i.toNat) (by omega)
  obtain ⟨k', hk', hb', hlive, _, hset⟩ := OwnB.at ho (i := i.toNat - 1) (by omega)
  simp only [Option.some.injEq, at0, Addr.mk.injEq, and_true] at hk'
  subst hk'
  rw [w64 (n := i - 1) (by omega), w64 (n := i + 2) (by omega)]
  have e1 : (i - 1).toNat = i.toNat - 1 := by omega
  simp only [e1, Nat.mul_one]
  refine ⟨⟨by omega, hs⟩, _, ha, ⟨by omega, by omega⟩, hlive, fun w4 hs4 => ?_⟩
  obtain ⟨ho4, hu4⟩ := hset _ _ hs4
  have hlen := OwnB.len ho
  refine ⟨⟨by omega, by omega, by omega, OwnB.new_ext hx1 hu4 (fun y hy => by omega), _, ho4, fun j => ?_⟩, by show ((n : Int) + 3 - (i + 2)).toNat < ((n : Int) + 3 - i).toNat; omega⟩
  rw [co_set (by omega)]
  by_cases hj : j = i.toNat - 1
  ·rw [if_pos hj, if_pos (by omega), show j + 1 = i.toNat by omega]
  ·rw [if_neg hj, hr]
   by_cases h5 : j % 2 = 0 ∧ (j : Int) + 1 < i
   ·rw [if_pos h5, if_pos (by omega)]
   ·rw [if_neg h5, if_neg (by omega)]
 ·simp only [decide_eq_false_iff_not] at hs
  refine (pnorm_spec (OwnB.bytes ho) (Nat.le_refl _) hn).mono ?_
  rintro e w4 ⟨p', n', c', r', rfl, hx4, ho4, hnr, hco⟩
  refine ⟨_, _, _, rfl, p', n', c', r', rfl, hx1.trans hx4, OwnB.base_le ho4 hx1.size, hnr, funext fun j => ?_⟩
  rw [hco, hr]
  unfold der
  by_cases h5 : j % 2 = 0
  ·rw [if_pos h5]
   by_cases h6 : (j : Int) + 1 < i
   ·rw [if_pos ⟨h5, h6⟩]
   ·rw [if_neg (by omega), co_out (p := bs) (by omega)]
  ·rw [if_neg h5, if_neg (by omega)]
end Go.Proofs.YtkolafpgbhpdlaaGreat
namespace Go.Proofs.YtkolafpgbhpdlaaGreat
open Go Go.Vc Go.Gf
def Away (p : Option Addr) (k : Nat) : Prop := ∀ a, p = some a → a.block ≠ k
theorem OwnB.away {w w0 : World} {p : Option Addr} {n c k : Nat} {bs : List UInt8} (h : OwnB w w0.heap.size p n c bs) (hk : k < w0.heap.size) : Away p k := by
 intro a ha he
 rcases h.where_ with ⟨h0, _⟩ | ⟨g, h0, hb, _⟩
 ·rw [h0] at ha; cases ha
 ·rw [h0] at ha
  cases ha
  have : g = k := he
  omega
theorem OwnB.away2 {w : World} {base : Nat} {p : Option Addr} {n c k : Nat} {bs : List UInt8} (h : OwnB w base p n c bs) (hk : w.heap.size ≤ k) : Away p k := by
 intro a ha he
 rcases h.where_ with ⟨h0, _⟩ | ⟨g, h0, _, hl, _⟩
 ·rw [h0] at ha; cases ha
 ·rw [h0] at ha
  cases ha
  have : g = k := he
  omega
theorem OwnB.setk {w w' : World} {base : Nat} {p : Option Addr} {n c k : Nat} {bs : List UInt8} (h : OwnB w base p n c bs) (hu : Upd (fun x => x = k) w w') (ha : Away p k) : OwnB w' base p n c bs :=
 OwnS.upd h hu fun _ hg he => ha _ hg he
theorem OwnS.lt_heap {w : World} {base : Nat} {e : TypeId} {sz : Nat} {k n c : Nat} {xs : List Value} (h : OwnS w base e sz (some (at0 k)) n c xs) : k < w.heap.size := by
 rcases h.where_ with ⟨h0, _⟩ | ⟨g, h0, _, hl, _⟩
 ·cases h0
 ·simp only [Option.some.injEq, at0, Addr.mk.injEq, and_true] at h0
  omega
theorem div_step {p q l z by_ : List UInt8} {c : UInt8} {t : Nat} (h : co p = sa (act by_ (co q)) (co l)) (hz : co z = sa (co l) (sh t (sm c (co by_)))) {q' : List UInt8} (hq : ∀ j, co q' j = if j = t then co q t ^^^ c else co q j) :
  co p = sa (act by_ (co q')) (co z) := by
 have e : co q' = sa (co q) (sh t (sm c so)) := funext fun j => by
  rw [hq]
  simp only [sa, sh, sm]
  by_cases h1 : j = t
  ·subst h1
   rw [if_pos rfl, if_neg (by omega), Nat.sub_self]
   show _ = _ ^^^ gm c 1
   rw [gm_one]
  ·rw [if_neg h1]
   by_cases h2 : j < t
   ·rw [if_pos h2, x0]
   ·rw [if_neg h2]
    obtain ⟨m, hm⟩ : ∃ m, j - t = m + 1 := ⟨j - t - 1, by omega⟩
    rw [hm]
    show _ = _ ^^^ gm c 0
    rw [gm_zero, x0]
 rw [h, e, hz, act_sa, act_sh, act_sm, act_so, sa_assoc]
 congr 1
 rw [sa_comm (co l), sa_self_left]
theorem div_less {l z by_ : List UInt8} {t : Nat} (hb : Normal by_) (hz : Normal z) (b0 : by_ ≠ []) (hle : by_.length ≤ l.length) (ht : t = l.length - by_.length)
  (e : co z = sa (co l) (sh t (sm (gm (co l (l.length - 1)) (gi (co by_ (by_.length - 1)))) (co by_)))) : z.length < l.length := by
 have lb : 0 < by_.length := List.length_pos_iff.2 b0
 have h1 : z.length ≤ l.length - 1 := hz.le fun i hi => by
  rw [e]
  simp only [sa, sh, sm]
  by_cases h2 : i = l.length - 1
  ·subst h2
   rw [if_neg (by omega), show l.length - 1 - t = by_.length - 1 by omega, gm_assoc, gi_gm (hb b0), gm_one, xx]
  ·rw [co_out (p := l) (by omega)]
   by_cases h3 : i < t
   ·rw [if_pos h3, xx]
   ·rw [if_neg h3, co_out (p := by_) (i := i - t) (by omega), gm_zero, xx]
 omega
set_option maxHeartbeats 2000000 in
theorem pdivide_spec {f p q : Option Addr} {n c m d : Nat} {w : World} {bs cs : List UInt8} (hf : FieldAt w f) (h : BytesAt w p n bs) (hc : n ≤ c) (hn : n ≤ 536870912) (h' : BytesAt w q m cs) (hd : m ≤ d) (hm : m ≤ 536870912) (h0 : co cs ≠ sz) :
  Calls Tryz.prog 172 #[.pointer f, .slice p n c, .slice q m d] w fun e w' => ∃ p1 n1 c1 r1 p2 n2 c2 r2, e = .returned (.tuple #[.slice p1 n1 c1, .slice p2 n2 c2, .int .i64 0]) ∧ Ext w w' ∧
   OwnB w' w.heap.size p1 n1 c1 r1 ∧ OwnB w' w.heap.size p2 n2 c2 r2 ∧ Normal r1 ∧ Normal r2 ∧ co bs = sa (act cs (co r1)) (co r2) ∧ (∀ by_, Normal by_ → co by_ = co cs → r2.length < by_.length) := by
 refine (F172_calls f p n c q m d w (fun v w' => ∃ p1 n1 c1 r1 p2 n2 c2 r2, v = .tuple #[.slice p1 n1 c1, .slice p2 n2 c2, .int .i64 0] ∧ Ext w w' ∧
   OwnB w' w.heap.size p1 n1 c1 r1 ∧ OwnB w' w.heap.size p2 n2 c2 r2 ∧ Normal r1 ∧ Normal r2 ∧ co bs = sa (act cs (co r1)) (co r2) ∧ (∀ by_, Normal by_ → co by_ = co cs → r2.length < by_.length))
  (fun p9 l9 _ k10 l10 _ _ p18 l18 c18 w19 => ∃ k by_ ql l, k10 = some (at0 k) ∧ Ext w w19 ∧ BytesAt w19 p9 l9 by_ ∧ Away p9 k ∧ Normal by_ ∧ co by_ = co cs ∧ OwnB w19 w.heap.size (some (at0 k)) l10 l10 ql ∧
   OwnB w19 w.heap.size p18 l18 c18 l ∧ Away p18 k ∧ Normal l ∧ l.length ≤ l10 ∧ co bs = sa (act by_ (co ql)) (co l) ∧ (∀ j, j + by_.length ≤ l.length → co ql j = 0))
  (fun _ _ _ _ _ _ _ _ l18 _ _ => l18) ?_).mono (by
  rintro e w' ⟨v, rfl, p1, n1, c1, r1, p2, n2, c2, r2, rfl, h⟩; exact ⟨p1, n1, c1, r1, p2, n2, c2, r2, rfl, h⟩)
 refine (pnorm_spec h hc (by omega)).mono ?_
 rintro e w4 ⟨p6, l6, c6, l, rfl, hx4, ol, nl, col⟩
 refine ⟨_, _, _, rfl, (pnorm_spec (h'.ext hx4) hd (by omega)).mono ?_⟩
 rintro e w7 ⟨p9, l9, c9, by_, rfl, hx7, ob, nb, cob⟩
 have hx : Ext w w7 := hx4.trans hx7
 have ol7 := OwnB.ext ol hx7
 have h0' := h'.1
 have h00 := h.1
 have lb := OwnB.len ob
 have ll := OwnB.len ol7
 have b0 : by_ ≠ [] := by rintro rfl; exact h0 cob.symm
 have bl : 0 < by_.length := List.length_pos_iff.2 b0
 have bm : by_.length ≤ 536870912 := by have := nb.le (n := m) (by rw [cob, h0']; exact deg_co cs); omega
 have lm : l.length ≤ 536870912 := by have := nl.le (n := n) (by rw [col, h00]; exact deg_co bs); omega
 rw [hf.there]
 refine ⟨_, _, _, rfl, condB_of (fun h => by cases h) fun _ => condB_of (fun hz => by simp only [decide_eq_true_eq] at hz; omega) fun _ => ?_⟩
 refine ⟨⟨by omega, by omega, by omega⟩, fun k w11 hk => ?_⟩
 rw [Int.toNat_natCast] at hk ⊢
 have hsz := hx.size
 have o11 : OwnB w11 w.heap.size (some (at0 k)) l6 l6 (List.replicate l6 0) := OwnB.made hk (by rw [hk.size.1]; exact hsz) (by unfold maxLen; omega)
 have qz : ∀ j, co (List.replicate l6 (0 : UInt8)) j = 0 := fun j => by
  simp only [Gf.co, List.getD_eq_getElem?_getD, List.getElem?_replicate]
  split <;> rfl
 refine ⟨⟨k, by_, _, l, rfl, hx.trans hk.ext, (OwnB.bytes ob).ext hk.ext, OwnB.away2 ob (by rw [hk.size.1]; exact Nat.le_refl _), nb, cob, o11, OwnB.ext ol7 hk.ext,
  OwnB.away2 ol7 (by rw [hk.size.1]; exact Nat.le_refl _), nl, by omega, ?_, fun j _ => qz j⟩, ?_⟩
 ·have : co (List.replicate l6 (0 : UInt8)) = sz := funext qz
  rw [this, act_sz, sz_sa, col]
 rintro p18 l18 c18 w19 ⟨k', by', ql, l', hk', hx19, bb, ab, nb', cob', oq, ol', al, nl', hl', heq, hqz⟩
 simp only [Option.some.injEq, at0, Addr.mk.injEq, and_true] at hk'
 subst hk'
 obtain rfl : by' = by_ := nb'.eq nb (cob'.trans cob.symm)
 intros
 have ll' := OwnB.len ol'
 have lq := OwnB.len oq
 refine condB_of (fun hs => ?_) (fun hs => ?_)
 ·simp only [decide_eq_true_eq] at hs
  intro w62 hdr
  have hx62 : Ext w w62 := hx19.trans hdr.ext
  rw [w64 (n := (l18 : Int) - 1) (by omega), w64 (n := (l9 : Int) - 1) (by omega), w64 (n := (l18 : Int) - (l9 : Int)) (by omega)]
  have e1 : ((l18 : Int) - 1).toNat = l'.length - 1 := by omega
  have e2 : ((l9 : Int) - 1).toNat = by'.length - 1 := by omega
  have e3 : ((l18 : Int) - (l9 : Int)).toNat = l'.length - by'.length := by omega
  obtain ⟨a, rfl, ha⟩ := BytesAt.co (OwnB.bytes (OwnB.ext ol' hdr.ext)) (i := l'.length - 1) (by omega)
  obtain ⟨b, rfl, hb⟩ := BytesAt.co (bb.ext hdr.ext) (i := by'.length - 1) (by omega)
  simp only [e1, e2, e3, Nat.mul_one]
  refine ⟨⟨by omega, by omega⟩, _, ha, ⟨by omega, by omega⟩, _, hb, ?_⟩
  refine (fdiv_spec (hf.ext hx62) _ _).mono ?_
  rintro e w67 ⟨rfl, hx67⟩
  have hx67' := hx62.trans hx67
  obtain ⟨k2, hk2, hbk, hlive, _, hset⟩ := OwnB.at (OwnB.ext (OwnB.ext oq hdr.ext) hx67) (i := l'.length - by'.length) (by omega)
  simp only [Option.some.injEq, at0, Addr.mk.injEq, and_true] at hk2
  subst hk2
  refine ⟨_, _, rfl, ⟨by omega, by omega⟩, hlive, fun w71 hs71 => ?_⟩
  obtain ⟨oq71, hu71⟩ := hset _ _ hs71
  have hx71 : Ext w w71 := OwnB.new_ext hx67' hu71 fun y hy => by omega
  have b71 : BytesAt w71 (some b) l9 by' := ((bb.ext hdr.ext).ext hx67).upd hu71 fun y hy _ => ab y hy
  have l71 : OwnB w71 w.heap.size (some a) l18 c18 l' := OwnB.setk (OwnB.ext (OwnB.ext ol' hdr.ext) hx67) hu71 al
  have hsp := pscaled_spec (c := c9) (t := l'.length - by'.length) (hf.ext hx71) b71 (by omega) (by omega) (gm (co l' (l'.length - 1)) (gi (co by' (by'.length - 1))))
  rw [show (((l'.length - by'.length : Nat)) : Int) = (l18 : Int) - (l9 : Int) by omega] at hsp
  refine hsp.mono ?_
  rintro e w72 ⟨p74, c74, r, rfl, hx72, or72, cor⟩
  refine ⟨_, _, _, rfl, fun k75 w76 hk75 => ?_⟩
  have l72 := OwnB.ext l71 hx72
  have lr := OwnB.len or72
  refine (psum_spec (lists_two hk75 (OwnB.bytes l72) (OwnB.le l72) (OwnB.bytes or72) (OwnB.le or72)) (fun x hx => by
   rcases List.mem_cons.1 hx with rfl | hx
   ·omega
   ·rw [List.mem_singleton] at hx; subst hx; omega) (by omega)).mono ?_
  rintro e w77 ⟨p79, l79, c79, z, rfl, hx77, oz, nz, coz⟩
  have hx76 : Ext w71 w76 := hx72.trans hk75.ext
  have hx77' : Ext w71 w77 := hx76.trans hx77
  have coz' : co z = sa (co l') (sh (l'.length - by'.length) (sm (gm (co l' (l'.length - 1)) (gi (co by' (by'.length - 1)))) (co by'))) := by
   rw [coz, ← cor]
   show sa (sa sz (co l')) (co r) = _
   rw [sz_sa]
  have hless := div_less nb nz b0 (by omega) rfl coz'
  have hzl := OwnB.len oz
  refine ⟨_, _, _, rfl, ⟨k, by', _, z, rfl, hx71.trans hx77', b71.ext hx77', ab, nb, cob, OwnB.ext oq71 hx77', OwnB.base_le oz (hx71.trans hx76).size, OwnB.away oz ?_, nz, by omega, ?_, fun j hj => ?_⟩, ?_⟩
  ·exact Nat.lt_of_lt_of_le (OwnS.lt_heap oq71) hx76.size
  ·refine div_step (t := l'.length - by'.length) heq coz' fun j => ?_
   rw [co_set (by omega)]
   by_cases hj : j = l'.length - by'.length
   ·rw [if_pos hj, if_pos hj, hqz _ (by omega), zx]
   ·rw [if_neg hj, if_neg hj]
  ·rw [co_set (by omega), if_neg (by omega)]
   exact hqz j (by omega)
  ·show l79 < l18
   omega
 ·simp only [decide_eq_false_iff_not] at hs
  refine (pnorm_spec (OwnB.bytes oq) (Nat.le_refl _) (by omega)).mono ?_
  rintro e w80 ⟨p82, l82, c82, r, rfl, hx80, or80, nr, cor⟩
  refine ⟨_, _, _, rfl, _, _, _, r, _, _, _, l', rfl, hx19.trans hx80, OwnB.base_le or80 hx19.size, OwnB.ext ol' hx80, nr, nl', ?_, fun b2 nb2 cb2 => ?_⟩
  ·rw [heq, ← cor, act_congr cob']
  ·obtain rfl := nb2.eq nb (cb2.trans cob.symm)
   omega
end Go.Proofs.YtkolafpgbhpdlaaGreat
namespace Go.Proofs.YtkolafpgbhpdlaaGreat
open Go Go.Vc Go.Gf
theorem row_bytes {w w1 : World} {k : Nat} {bs : List UInt8} (hk : NewB w k (.cells (encB bs).toArray 5) w1) (hm : bs.length ≤ maxLen) : OwnB w1 w.heap.size (some (at0 k)) bs.length bs.length bs := by
 have := OwnS.made (sz := 1) (n := bs.length) (c := bs.length) hk (by rw [hk.size.1]; exact Nat.le_refl _) (Nat.le_refl _) hm (by simp [encB_length])
 have e : (encB bs).toArray.toList.take (bs.length * 1) = encB bs := by
  rw [Nat.mul_one]
  show (encB bs).take _ = _
  rw [List.take_of_length_le (by rw [encB_length]; exact Nat.le_refl _)]
 rw [e] at this
 exact this
theorem loc_snoc (u : List UInt8) (a : UInt8) : co (loc (u ++ [a])) = act [a, 1] (co (loc u)) := by
 rw [loc_append]
 have : co (loc [a]) = act [a, 1] so := by
  show co (mulL [a, 1] [1]) = _
  have e : co ([1] : List UInt8) = so := by rw [co_cons, co_nil, sh1_sz, sa_sz, sm_one]
  rw [co_mulL, e]
 rw [this, act_comm, act_so]
set_option maxHeartbeats 1000000 in
theorem locator_spec {f q : Option Addr} {m d : Nat} {w : World} {cs : List UInt8} (hf : FieldAt w f) (h : BytesAt w q m cs) (hm : m ≤ 268435456) :
  Calls Tryz.prog 138 #[.pointer f, .slice q m d] w fun e w' => ∃ p' n' c' r, e = .returned (.slice p' n' c') ∧ Ext w w' ∧ OwnB w' w.heap.size p' n' c' r ∧ Normal r ∧ co r = co (loc cs) := by
 refine (F138_calls f q m d w (fun v w' => ∃ p' n' c' r, v = .slice p' n' c' ∧ Ext w w' ∧ OwnB w' w.heap.size p' n' c' r ∧ Normal r ∧ co r = co (loc cs))
  (fun _ _ _ _ _ p9 l9 c9 i w11 => 0 ≤ i ∧ i ≤ m ∧ Ext w w11 ∧ ∃ r, OwnB w11 w.heap.size p9 l9 c9 r ∧ Normal r ∧ co r = co (loc (cs.take i.toNat))) (fun _ _ _ _ _ _ _ _ i _ => (m - i).toNat) ?_).mono (by
  rintro e w' ⟨v, rfl, p', n', c', r, rfl, h⟩; exact ⟨p', n', c', r, rfl, h⟩)
 have hl := h.1
 unfold F138
 rw [hf.there]
 refine condB_of (fun h => by cases h) fun _ => ?_
 intro k w4 hk
 have o4 := row_bytes (bs := [1]) hk (by unfold maxLen; simp)
 refine ⟨⟨by omega, by omega, hk.ext, [1], o4, fun _ => by decide, rfl⟩, ?_⟩
 rintro p9 l9 c9 i w11 ⟨hi0, hi1, hx, r, ho, hn, hr⟩
 intros
 refine condB_of (fun hs => ?_) (fun hs => ?_)
 ·simp only [decide_eq_true_eq] at hs
  obtain ⟨a, rfl, ha⟩ := BytesAt.co (h.ext hx) (i := i.toNat) (by omega)
  refine ⟨⟨hi0, hs⟩, _, by rw [Nat.mul_one]; exact ha, fun k24 w25 hk25 => ?_⟩
  have o25 := row_bytes (bs := [co cs i.toNat, 1]) hk25 (by unfold maxLen; simp)
  have hlr : r.length ≤ cs.length + 1 := hn.le (by
   rw [hr]
   have := loc_deg (cs.take i.toNat)
   exact this.mono (by rw [List.length_take]; omega))
  have lr := OwnB.len ho
  refine (pmul_spec (hf.ext (hx.trans hk25.ext)) ((OwnB.bytes ho).ext hk25.ext) (by omega) (OwnB.bytes o25) (by simp)).mono ?_
  rintro e w26 ⟨p28, l28, c28, r', rfl, hx26, ho26, hn26, hr26⟩
  rw [w64 (n := i + 1) (by omega)]
  have hx' := (hx.trans hk25.ext)
  refine ⟨_, _, _, rfl, ⟨by omega, by omega, hx'.trans hx26, r', OwnB.base_le ho26 hx'.size, hn26, ?_⟩, by show ((m : Int) - (i + 1)).toNat < ((m : Int) - i).toNat; omega⟩
  have e : cs.take (i + 1).toNat = cs.take i.toNat ++ [co cs i.toNat] := by
   rw [show (i + 1).toNat = i.toNat + 1 by omega, List.take_add_one, List.getElem?_eq_getElem (by omega)]
   simp [Gf.co, List.getD_eq_getElem?_getD, List.getElem?_eq_getElem (show i.toNat < cs.length by omega)]
  rw [hr26, hr, e, loc_snoc]
 ·simp only [decide_eq_false_iff_not] at hs
  refine ⟨_, _, _, r, rfl, hx, ho, hn, ?_⟩
  rw [hr, List.take_of_length_le (by omega)]
theorem bclone_spec {p : Option Addr} {l c : Nat} {w : World} {bs : List UInt8} (h : BytesAt w p l bs) (hb : l ≤ 1073741824) :
  Calls Tryz.prog 110 #[.slice p l c] w fun e w' => ∃ p' c', e = .returned (.slice p' l c') ∧ Ext w w' ∧ OwnB w' w.heap.size p' l c' bs ∨ e = .returned (.slice none 0 0) ∧ p = none ∧ w' = w := by
 refine (F110_calls p l c w (fun v w' => ∃ p' c', v = .slice p' l c' ∧ Ext w w' ∧ OwnB w' w.heap.size p' l c' bs ∨ v = .slice none 0 0 ∧ p = none ∧ w' = w) ?_).mono (by
  rintro e w' ⟨v, rfl, p', c', ⟨rfl, h⟩ | ⟨rfl, h⟩⟩
  ·exact ⟨p', c', .inl ⟨rfl, h⟩⟩
  ·exact ⟨p', c', .inr ⟨rfl, h⟩⟩)
 refine condB_of (fun hn => ?_) (fun hn => ?_)
 ·have : p = none := by simpa using hn
  exact ⟨none, 0, .inr ⟨rfl, this, rfl⟩⟩
 ·intro k w3 hk
  have hown : OwnS w3 w.heap.size 5 1 (some (at0 k)) 0 0 [] := OwnS.made hk (by rw [hk.size.1]; exact Nat.le_refl _) (Nat.le_refl _) (by unfold maxLen; omega) rfl
  have hl := h.1
  have hp : p = none → l = 0 := fun e => by subst e; simp at hn
  obtain ⟨p', c', w', hr, hown', hu, hnil⟩ := hown.append elemY 25 (q := p) (m := l) (d := c) (news := encB bs) (by rw [encB_length]; omega) ((h.ext hk.ext).cells) hp
   (encB_one bs) (by unfold maxLen; omega) (by omega) (by rw [hk.size.2]; omega)
  rw [Nat.zero_add] at hr hown'
  refine ⟨p', l, c', w', hr, p', c', .inl ⟨rfl, ?_, hown'⟩⟩
  refine Upd.trans hk.ext hu fun x hx hs => ?_
  simp only [Option.some.injEq, at0, Addr.mk.injEq, and_true] at hs
  rw [hk.size.1] at hs
  omega
theorem bclone_own {p : Option Addr} {l c : Nat} {w : World} {bs : List UInt8} (h : BytesAt w p l bs) (hb : l ≤ 1073741824) :
  Calls Tryz.prog 110 #[.slice p l c] w fun e w' => ∃ p' c', e = .returned (.slice p' l c') ∧ Ext w w' ∧ OwnB w' w.heap.size p' l c' bs := by
 by_cases hp : p = none ∧ l ≠ 0
 ·exfalso
  obtain ⟨rfl, hl⟩ := hp
  obtain ⟨a, ha, _⟩ := h.get (i := 0) (by omega)
  cases ha
 ·refine (bclone_spec h hb).mono ?_
  rintro e w' ⟨p', c', ⟨rfl, hx⟩ | ⟨rfl, rfl, rfl⟩⟩
  ·exact ⟨p', c', rfl, hx⟩
  ·have hl : l = 0 := Decidable.byContradiction fun h => hp ⟨rfl, h⟩
   subst hl
   have : bs = [] := List.eq_nil_of_length_eq_zero h.1.symm
   subst this
   exact ⟨none, 0, rfl, Upd.refl _ _, OwnS.nil _ _ _ _⟩
set_option maxHeartbeats 1000000 in
theorem brev_spec {w : World} {base : Nat} {p : Option Addr} {n c : Nat} {bs : List UInt8} (h : OwnB w base p n c bs) (hn : n ≤ 1073741824) :
  Calls Tryz.prog 170 #[.slice p n c] w fun e w' => e = .returned (.tuple #[]) ∧ Upd (fun x => p = some (at0 x)) w w' ∧ OwnB w' base p n c bs.reverse := by
 have hl := OwnB.len h
 refine (F170_calls p n c w (fun v w' => v = .tuple #[] ∧ Upd (fun x => p = some (at0 x)) w w' ∧ OwnB w' base p n c bs.reverse)
  (fun _ i j w4 => 0 ≤ i ∧ j = n - 1 - i ∧ i ≤ j + 2 ∧ Upd (fun x => p = some (at0 x)) w w4 ∧ ∃ r, OwnB w4 base p n c r ∧ ∀ t : Nat, t < n → co r t = if (t : Int) < i ∨ j < t then co bs (n - 1 - t) else co bs t) (fun _ i j _ => (j + 1 - i).toNat) ?_).mono (by rintro e w' ⟨v, rfl, rfl, h⟩; exact ⟨rfl, h⟩)
 unfold F170
 rw [w64 (n := (n : Int) - 1) (by omega)]
 refine ⟨⟨by omega, by omega, by omega, Upd.refl _ _, bs, h, fun t ht => by rw [if_neg (by omega)]⟩, ?_⟩
 rintro i j w4 ⟨hi0, hj, hij, hu, r, ho, hr⟩
 intros
 refine condB_of (fun hs => ?_) (fun hs => ?_)
 ·simp only [decide_eq_true_eq] at hs
  intro w26 hd
  have o26 := OwnB.ext ho hd.ext
  have lo := OwnB.len o26
  obtain ⟨k, rfl, hb, l1, c1, s1⟩ := OwnB.at o26 (i := i.toNat) (by omega)
  obtain ⟨k', hk', _, l2, c2, s2⟩ := OwnB.at o26 (i := j.toNat) (by omega)
  cases hk'
  simp only [Nat.mul_one]
  refine ⟨⟨by omega, by omega⟩, _, c2, ⟨by omega, by omega⟩, _, c1, ⟨by omega, by omega⟩, l1, fun w32 hs32 => ?_⟩
  obtain ⟨o32, u32⟩ := s1 _ _ hs32
  obtain ⟨k'', hk'', _, l3, _, s3⟩ := OwnB.at o32 (i := j.toNat) (by omega)
  cases hk''
  refine ⟨⟨by omega, by omega⟩, l3, fun w34 hs34 => ?_⟩
  obtain ⟨o34, u34⟩ := s3 _ _ hs34
  rw [w64 (n := i + 1) (by omega), w64 (n := j - 1) (by omega)]
  have up : Upd (fun x => some (at0 k) = some (at0 x)) w w34 := by
   refine Upd.trans hu (Upd.trans hd.ext.upd (Upd.trans (u32.mono fun x _ hx => ?_) (u34.mono fun x _ hx => ?_) fun _ _ h => h) fun _ _ h => h) fun _ _ h => h
   ·show some (at0 k) = some (at0 x)
    rw [show x = k from hx]
   ·show some (at0 k) = some (at0 x)
    rw [show x = k from hx]
  refine ⟨⟨by omega, by omega, by omega, up, _, o34, fun t ht => ?_⟩, by show (j - 1 + 1 - (i + 1)).toNat < (j + 1 - i).toNat; omega⟩
  rw [co_set (by rw [List.length_set]; omega), co_set (by omega)]
  by_cases h1 : t = j.toNat
  ·rw [if_pos h1, if_pos (by omega), hr _ (by omega), if_neg (by omega), show n - 1 - t = i.toNat by omega]
  ·rw [if_neg h1]
   by_cases h2 : t = i.toNat
   ·rw [if_pos h2, if_pos (by omega), hr _ (by omega), if_neg (by omega), show n - 1 - t = j.toNat by omega]
   ·rw [if_neg h2, hr t ht]
    by_cases h3 : (t : Int) < i ∨ j < t
    ·rw [if_pos h3, if_pos (by omega)]
    ·rw [if_neg h3, if_neg (by omega)]
 ·simp only [decide_eq_false_iff_not] at hs
  have lo := OwnB.len ho
  have e : r = bs.reverse := by
   refine co_ext (by rw [List.length_reverse]; omega) fun t ht => ?_
   rw [hr t (by omega)]
   have e2 : co bs.reverse t = co bs (n - 1 - t) := by
    simp only [Gf.co, List.getD_eq_getElem?_getD]
    rw [List.getElem?_reverse (by omega), hl]
   rw [e2]
   by_cases h3 : (t : Int) < i ∨ j < t
   ·rw [if_pos h3]
   ·rw [if_neg h3, show n - 1 - t = t by omega]
  rw [e] at ho
  exact ⟨rfl, hu, ho⟩
end Go.Proofs.YtkolafpgbhpdlaaGreat
namespace Go.Proofs.YtkolafpgbhpdlaaGreat
open Go Go.Vc Go.Gf
abbrev RowK (w : World) (k : Nat) (e : TypeId) (cs : Array Value) : Prop := w.heap[k]? = some (Obj.cells cs e (0, 0))
theorem RowK.cell {w : World} {k : Nat} {e : TypeId} {v : Value} (h : RowK w k e #[v]) : w.cell? (at0 k) = some v := by
 have : at0 k = (at0 k).add 0 := (add_at0 k 0).symm
 rw [this]
 exact Row.cell ⟨_, _, h⟩ rfl
theorem RowK.live {w : World} {k : Nat} {e : TypeId} {v : Value} (h : RowK w k e #[v]) : Live w (at0 k) := by
 have : at0 k = (at0 k).add 0 := (add_at0 k 0).symm
 rw [this]
 exact RowW.live ⟨_, h⟩ (by simp)
theorem RowK.set {w w' : World} {k : Nat} {e : TypeId} {v u : Value} (h : RowK w k e #[v]) (hs : SetC w (at0 k) u w') : RowK w' k e #[u] := by
 have := hs.at h rfl
 exact this
theorem setK_upd {w w' : World} {k : Nat} {u : Value} (hs : SetC w (at0 k) u w') : Upd (fun x => x = k) w w' := hs.upd
def CellB (w : World) (base k : Nat) (bs : List UInt8) : Prop := ∃ p n c, RowK w k 25 #[.slice p n c] ∧ OwnB w base p n c bs
theorem OwnB.apart {w w' : World} {base k : Nat} {e : TypeId} {cs : Array Value} {p : Option Addr} {n c : Nat} {bs : List UInt8} (h : OwnB w base p n c bs) (hu : Upd (fun x => x = k) w w') (hk : RowK w k e cs) (he : e ≠ 5) : OwnB w' base p n c bs :=
 OwnB.other h hu fun x hx => ⟨cs, e, (0, 0), by rw [show x = k from hx]; exact hk, he⟩
section
variable {w w' : World} {base k k' : Nat} {bs : List UInt8}
theorem CellB.ext (h : CellB w base k bs) (hu : Ext w w') : CellB w' base k bs := by
 obtain ⟨p, n, c, h1, h2⟩ := h
 exact ⟨p, n, c, hu.keep h1, OwnB.ext h2 hu⟩
theorem CellB.other {e : TypeId} {cs : Array Value} (h : CellB w base k bs) (hu : Upd (fun x => x = k') w w') (hk : RowK w k' e cs) (he : e ≠ 5) (hne : k ≠ k') : CellB w' base k bs := by
 obtain ⟨p, n, c, h1, h2⟩ := h
 exact ⟨p, n, c, hu.keep h1 hne, OwnB.apart h2 hu hk he⟩
theorem CellB.row (h : CellB w base k bs) : ∃ v, RowK w k 25 #[v] := by obtain ⟨p, n, c, h1, _⟩ := h; exact ⟨_, h1⟩
end
structure SolSt (w0 w : World) (k4 kl kh kb ka : Nat) (f : Option Addr) (low high a b : List UInt8) : Prop where
 ext : Ext w0 w
 n4 : w0.heap.size ≤ k4
 nl : w0.heap.size ≤ kl
 nh : w0.heap.size ≤ kh
 nb : w0.heap.size ≤ kb
 na : w0.heap.size ≤ ka
 lh : kl ≠ kh
 lb : kl ≠ kb
 la : kl ≠ ka
 hb : kh ≠ kb
 ha : kh ≠ ka
 ba : kb ≠ ka
 rf : RowK w k4 33 #[.pointer f]
 cl : CellB w w0.heap.size kl low
 ch : CellB w w0.heap.size kh high
 cb : CellB w w0.heap.size kb b
 ca : CellB w w0.heap.size ka a
theorem SolSt.mono {w0 w w' : World} {k4 kl kh kb ka : Nat} {f : Option Addr} {low high a b : List UInt8} (h : SolSt w0 w k4 kl kh kb ka f low high a b) (hu : Ext w w') : SolSt w0 w' k4 kl kh kb ka f low high a b :=
 ⟨h.ext.trans hu, h.n4, h.nl, h.nh, h.nb, h.na, h.lh, h.lb, h.la, h.hb, h.ha, h.ba, hu.keep h.rf, h.cl.ext hu, h.ch.ext hu, h.cb.ext hu, h.ca.ext hu⟩
theorem ty_ne : 33 ≠ 25 ∧ 25 ≠ 5 ∧ 33 ≠ 5 := by decide
theorem RowK.ne {w : World} {k k' : Nat} {e e' : TypeId} {cs cs' : Array Value} (h : RowK w k e cs) (h' : RowK w k' e' cs') (he : e ≠ e') : k ≠ k' := by
 rintro rfl
 unfold RowK at h h'
 rw [h] at h'
 cases h'
 exact he rfl
set_option maxHeartbeats 2000000 in
theorem sstep_spec {w0 w : World} {k4 kl kh kb ka m : Nat} {f : Option Addr} {low high a b : List UInt8} {H : Se} (hf : FieldAt w0 f) (h : SolSt w0 w k4 kl kh kb ka f low high a b) (hI : SolveInv m H low high a b) (h0 : high ≠ []) (hm : m ≤ 256) :
  Calls Tryz.prog 171 #[.pointer (some (at0 k4)), .pointer (some (at0 kl)), .pointer (some (at0 kh)), .pointer (some (at0 kb)), .pointer (some (at0 ka))] w fun e w' => e = .returned (.tuple #[]) ∧
   Upd (fun x => x = kl ∨ x = kh ∨ x = kb ∨ x = ka) w w' ∧ ∃ r b', SolSt w0 w' k4 kl kh kb ka f high r b b' ∧ SolveInv m H high r b b' ∧ b'.length + high.length = m + 2 := by
 refine (F171_calls (at0 k4) (at0 kl) (at0 kh) (at0 kb) (at0 ka) w (fun v w' => v = .tuple #[] ∧
   Upd (fun x => x = kl ∨ x = kh ∨ x = kb ∨ x = ka) w w' ∧ ∃ r b', SolSt w0 w' k4 kl kh kb ka f high r b b' ∧ SolveInv m H high r b b' ∧ b'.length + high.length = m + 2) ?_).mono (by rintro e w' ⟨v, rfl, rfl, h⟩; exact ⟨rfl, h⟩)
 have hdeg := hI.deg
 have hlt := hI.lt
 have hab := hI.ab
 obtain ⟨pl, nl, cl, rl, ol⟩ := h.cl
 obtain ⟨ph, nh, ch, rh, oh⟩ := h.ch
 have ll := OwnB.len ol
 have lh := OwnB.len oh
 have hl0 : 0 < high.length := List.length_pos_iff.2 h0
 refine ⟨_, h.rf.cell, _, _, _, rl.cell, _, _, _, rh.cell, ?_⟩
 refine (pdivide_spec (hf.ext h.ext) (OwnB.bytes ol) (OwnB.le ol) (by omega) (OwnB.bytes oh) (OwnB.le oh) (by omega) (fun e => hI.nhigh h0 (by rw [e]; rfl))).mono ?_
 rintro e w9 ⟨p1, n1, c1, q, p2, n2, c2, r, rfl, hx9, oq, or, nq, nr, heq, hrl⟩
 have h9 := h.mono hx9
 have hrl' := hrl high hI.nhigh rfl
 have e1 : co low = sa (act q (co high)) (co r) := by rw [heq, act_co]
 have lq := OwnB.len oq
 have lr := OwnB.len or
 have hql : q.length ≤ 258 := by
  by_cases q0 : q = []
  ·rw [q0]; simp
  ·have hq0 : 0 < q.length := List.length_pos_iff.2 q0
   have := sum_len hI.nlow nq hI.nhigh q0 h0 e1 (by omega)
   omega
 have rh9 : RowK w9 kh 25 #[.slice ph nh ch] := hx9.keep rh
 have rl9 : RowK w9 kl 25 #[.slice pl nl cl] := hx9.keep rl
 refine ⟨_, _, _, _, _, _, _, rfl, _, _, _, rh9.cell, rl9.live, fun w15 s15 => ?_⟩
 have u15 := setK_upd s15
 have rl15 := rl9.set s15
 have rh15 : RowK w15 kh 25 #[.slice ph nh ch] := u15.keep rh9 h.lh.symm
 refine ⟨rh15.live, fun w16 s16 => ?_⟩
 have u16 := setK_upd s16
 have rh16 := rh15.set s16
 have two : ∀ {base : Nat} {p : Option Addr} {n c : Nat} {bs : List UInt8}, OwnB w9 base p n c bs → OwnB w16 base p n c bs := fun o => OwnB.apart (OwnB.apart o u15 rl9 ty_ne.2.1) u16 rh15 ty_ne.2.1
 have rl16 : RowK w16 kl 25 #[.slice ph nh ch] := u16.keep rl15 h.lh
 have cb16 : CellB w16 w0.heap.size kb b := (h9.cb.other u15 rl9 ty_ne.2.1 h.lb.symm).other u16 rh15 ty_ne.2.1 h.hb.symm
 have ca16 : CellB w16 w0.heap.size ka a := (h9.ca.other u15 rl9 ty_ne.2.1 h.la.symm).other u16 rh15 ty_ne.2.1 h.ha.symm
 have rf16 : RowK w16 k4 33 #[.pointer f] := u16.keep (u15.keep h9.rf (RowK.ne h9.rf rl9 ty_ne.1)) (RowK.ne h9.rf rh9 ty_ne.1)
 have x16 : Ext w0 w16 := OwnB.new_ext (OwnB.new_ext h9.ext u15 fun x hx => by rw [show x = kl from hx]; exact h.nl) u16 fun x hx => by rw [show x = kh from hx]; exact h.nh
 have oh16 := two (OwnB.ext oh hx9)
 have or16 := two or
 have oq16 := two oq
 intro w17 hd
 have cb17 := cb16.ext hd.ext
 have ca17 := ca16.ext hd.ext
 have rf17 : RowK w17 k4 33 #[.pointer f] := hd.ext.keep rf16
 obtain ⟨pb, nb, cb, rb, ob⟩ := cb17
 obtain ⟨pa, na, ca, ra, oa⟩ := ca17
 have lb := OwnB.len ob
 have la := OwnB.len oa
 have x17 := x16.trans hd.ext
 refine ⟨_, _, _, rb.cell, _, _, _, ra.cell, _, rf17.cell, _, _, _, rb.cell, ?_⟩
 have oq17 := OwnB.ext oq16 hd.ext
 refine (pmul_spec (hf.ext x17) (OwnB.bytes oq17) (by omega) (OwnB.bytes ob) (by omega)).mono ?_
 rintro e w22 ⟨p24, n24, c24, z, rfl, hx22, oz, nz, ez⟩
 have rb22 : RowK w22 kb 25 #[.slice pb nb cb] := hx22.keep rb
 have ra22 : RowK w22 ka 25 #[.slice pa na ca] := hx22.keep ra
 have lz := OwnB.len oz
 have hzl : z.length ≤ 1000 := nz.le (by rw [ez]; exact act_deg (deg_co q) (by omega))
 refine ⟨_, _, _, rfl, ⟨_, _, _, rb22.cell, rfl⟩, ⟨_, _, _, ra22.cell, rfl⟩, ?_⟩
 refine (padd_spec (OwnB.bytes (OwnB.ext oa hx22)) (OwnB.le oa) (by omega) (OwnB.bytes oz) (OwnB.le oz) (by omega)).mono ?_
 rintro e w27 ⟨p29, n29, c29, b', rfl, hx27, ob', nb', eb'⟩
 have hx := hx22.trans hx27
 have rb27 : RowK w27 kb 25 #[.slice pb nb cb] := hx.keep rb
 have ra27 : RowK w27 ka 25 #[.slice pa na ca] := hx.keep ra
 refine ⟨_, _, _, rfl, ⟨_, _, _, rb27.cell, rfl⟩, ra27.live, fun w31 s31 => ?_⟩
 have u31 := setK_upd s31
 have ra31 := ra27.set s31
 have rb31 : RowK w31 kb 25 #[.slice pb nb cb] := u31.keep rb27 h.ba
 refine ⟨rb31.live, fun w32 s32 => ?_⟩
 have u32 := setK_upd s32
 have rb32 := rb31.set s32
 have ra32 : RowK w32 ka 25 #[.slice pb nb cb] := u32.keep ra31 h.ba.symm
 have two' : ∀ {base : Nat} {p : Option Addr} {n c : Nat} {bs : List UInt8}, OwnB w27 base p n c bs → OwnB w32 base p n c bs := fun o => OwnB.apart (OwnB.apart o u31 ra27 ty_ne.2.1) u32 rb31 ty_ne.2.1
 have rowk : ∀ {k : Nat} {e : TypeId} {cs : Array Value}, k ≠ ka → k ≠ kb → RowK w16 k e cs → RowK w32 k e cs := fun n1 n2 hr => u32.keep (u31.keep (hx.keep (hd.ext.keep hr)) n1) n2
 have hxx : Ext w16 w27 := hd.ext.trans hx
 have x32 : Ext w0 w32 := OwnB.new_ext (OwnB.new_ext (x16.trans hxx) u31 fun x hx => by rw [show x = ka from hx]; exact h.na) u32 fun x hx => by rw [show x = kb from hx]; exact h.nb
 obtain ⟨hI', hl'⟩ := hI.step h0 nq nr e1 hrl' nb' (by rw [eb', ez, act_co])
 have up : Upd (fun x => x = kl ∨ x = kh ∨ x = kb ∨ x = ka) w w32 := by
  refine Upd.trans hx9.upd (Upd.trans (u15.mono fun x _ hx => .inl hx) (Upd.trans (u16.mono fun x _ hx => .inr (.inl hx)) (Upd.trans hxx.upd (Upd.trans (u31.mono fun x _ hx => .inr (.inr (.inr hx))) (u32.mono fun x _ hx => .inr (.inr (.inl hx))) fun _ _ h => h) fun _ _ h => h) fun _ _ h => h) fun _ _ h => h) fun _ _ h => h
 refine ⟨rfl, up, r, b', ⟨x32, h.n4, h.nl, h.nh, h.nb, h.na, h.lh, h.lb, h.la, h.hb, h.ha, h.ba, rowk (RowK.ne rf17 ra ty_ne.1) (RowK.ne rf17 rb ty_ne.1) rf16,
  ⟨_, _, _, rowk h.la h.lb rl16, two' (OwnB.ext oh16 hxx)⟩, ⟨_, _, _, rowk h.ha h.hb rh16, two' (OwnB.base_le (OwnB.ext or16 hxx) h.ext.size)⟩,
  ⟨_, _, _, rb32, two' (OwnB.base_le ob' (x17.trans hx22).size)⟩, ⟨_, _, _, ra32, two' (OwnB.ext ob hx)⟩⟩, hI', hl'⟩
end Go.Proofs.YtkolafpgbhpdlaaGreat
namespace Go.Proofs.YtkolafpgbhpdlaaGreat
open Go Go.Vc Go.Gf
theorem takeB {w : World} {p : Option Addr} {l : Nat} {bs : List UInt8} (h : BytesAt w p l bs) {n : Nat} (hn : n ≤ l) : BytesAt w p n (bs.take n) := by
 have hl := h.1
 refine ⟨by simp; omega, fun hne => ?_⟩
 obtain ⟨a, rfl, hc⟩ := h.2 (by rintro rfl; simp at hne)
 refine ⟨a, rfl, fun i hi => ?_⟩
 simp only [List.length_take] at hi
 rw [hc i (by omega)]
 congr 3
 simp only [List.getD_eq_getElem?_getD, List.getElem?_take]
 rw [if_pos (by omega)]
theorem dropB {w : World} {p : Option Addr} {l c : Nat} {bs : List UInt8} (h : BytesAt w p l bs) {a : Nat} (ha : a ≤ l) (hc : l ≤ c) : BytesAt w (cutP p c a 1) (l - a) (bs.drop a) := by
 have hl := h.1
 refine ⟨by simp; omega, fun hne => ?_⟩
 have hab : a < l := by
  rcases Nat.lt_or_ge a l with h1 | h1
  ·exact h1
  ·exact (hne (List.eq_nil_of_length_eq_zero (by simp; omega))).elim
 obtain ⟨x, rfl, hx⟩ := h.2 (by rintro rfl; simp at hl; omega)
 unfold cutP
 rw [if_neg (by omega)]
 refine ⟨_, rfl, fun i hi => ?_⟩
 have hi' : i < l - a := by simp at hi; omega
 rw [Nat.mul_one, add_add, hx (a + i) (by omega)]
 congr 3
 simp only [List.getD_eq_getElem?_getD, List.getElem?_drop]
theorem co_drop (bs : List UInt8) (a i : Nat) : co (bs.drop a) i = co bs (a + i) := by
 simp only [Gf.co, List.getD_eq_getElem?_getD, List.getElem?_drop]
def lenAt (w : World) (q : Option Addr) : Nat :=
 match q with
 | some a => match w.cell? a with
  | some (.slice _ n _) => n
  | _ => 0
 | none => 0
theorem CellB.lenAt {w : World} {base k : Nat} {bs : List UInt8} (h : CellB w base k bs) : lenAt w (some (at0 k)) = bs.length := by
 obtain ⟨p, n, c, h1, h2⟩ := h
 unfold Proofs.YtkolafpgbhpdlaaGreat.lenAt
 simp only [h1.cell]
 exact OwnB.len h2
def solR (w0 : World) (m e : Nat) (P : List UInt8) : Value → World → Prop := fun v w' => Ext w0 w' ∧
 ((v = .tuple #[.slice none 0 0, .slice none 0 0, .int .i64 100] ∧ ∀ t L pts, ¬ Gf.Good m e t (trunc m P) L pts) ∨
  ∃ pb nb cb b po no oc o, v = .tuple #[.slice pb nb cb, .slice po no oc, .int .i64 0] ∧ OwnB w' w0.heap.size pb nb cb b ∧ OwnB w' w0.heap.size po no oc o ∧ o.length ≤ 4096 ∧ Gf.Found m e (co P) b o)
def solI (w0 : World) (f : Option Addr) (m e : Nat) (P : List UInt8) : Option Addr → Int → Int → Option Addr → Nat → Nat → Option Addr → Option Addr → Option Addr → Option Addr → Option Addr → Option Addr → Option Addr → World → World → Prop :=
 fun q4 _ _ p18 l18 c18 qh qb c4 cl ch cb ca _ w => ∃ k4 kl kh kb ka low high a b P', q4 = some (at0 k4) ∧ qh = some (at0 kh) ∧ qb = some (at0 kb) ∧ c4 = some (at0 k4) ∧ cl = some (at0 kl) ∧ ch = some (at0 kh) ∧ cb = some (at0 kb) ∧ ca = some (at0 ka) ∧
  SolSt w0 w k4 kl kh kb ka f low high a b ∧ SolveInv m (trunc m P) low high a b ∧ (∀ t L pts, Gf.Good m e t (trunc m P) L pts → b.length ≤ t + 1) ∧ OwnB w w0.heap.size p18 l18 c18 P' ∧ co P' = co P
def solM : Option Addr → Int → Int → Option Addr → Nat → Nat → Option Addr → Option Addr → Option Addr → Option Addr → Option Addr → Option Addr → Option Addr → World → World → Nat :=
 fun _ _ _ _ _ _ qh _ _ _ _ _ _ _ w => lenAt w qh
structure SolPre (w0 w : World) (k4 : Nat) (f : Option Addr) (p : Option Addr) (l c : Nat) (P : List UInt8) : Prop where
 ext : Ext w0 w
 n4 : w0.heap.size ≤ k4
 rf : RowK w k4 33 #[.pointer f]
 own : OwnB w w0.heap.size p l c P
theorem SolPre.mono {w0 w w' : World} {k4 : Nat} {f p : Option Addr} {l c : Nat} {P : List UInt8} (h : SolPre w0 w k4 f p l c P) (hu : Ext w w') : SolPre w0 w' k4 f p l c P :=
 ⟨h.ext.trans hu, h.n4, hu.keep h.rf, OwnB.ext h.own hu⟩
def HasRow (w0 w : World) (m : Nat) (p : Option Addr) (k : Nat) : Prop := OwnB w w0.heap.size (some (at0 k)) (m + 1) (m + 1) (List.replicate (m + 1) 0) ∧ Away p k
def HasHigh (w0 w : World) (m : Nat) (P : List UInt8) (p : Option Addr) (l c : Nat) (hi : List UInt8) : Prop := OwnB w w0.heap.size p l c hi ∧ Normal hi ∧ co hi = trunc m P
def HasCell (w0 w : World) (k : Nat) : Prop := w0.heap.size ≤ k ∧ RowK w k 25 #[.slice none 0 0]
section
variable {w0 w w' : World} {m k : Nat} {p q : Option Addr} {l c : Nat} {P hi : List UInt8}
theorem HasRow.mono (h : HasRow w0 w m p k) (hu : Ext w w') : HasRow w0 w' m p k := ⟨OwnB.ext h.1 hu, h.2⟩
theorem HasHigh.mono (h : HasHigh w0 w m P q l c hi) (hu : Ext w w') : HasHigh w0 w' m P q l c hi := ⟨OwnB.ext h.1 hu, h.2⟩
theorem HasCell.mono (h : HasCell w0 w k) (hu : Ext w w') : HasCell w0 w' k := ⟨h.1, hu.keep h.2⟩
theorem HasRow.lt (h : HasRow w0 w m p k) : k < w.heap.size := OwnS.lt_heap h.1
theorem HasCell.lt (h : HasCell w0 w k) : k < w.heap.size := lt_of_heap h.2
theorem row_step {K : Nat → World → Prop} (hx : Ext w0 w) (ho : OwnB w w0.heap.size p l c P) (hm : m ≤ 256) (h : ∀ k w', Ext w w' → w.heap.size ≤ k → HasRow w0 w' m p k → K k w') :
  ((0 ≤ (IntKind.i64.wrap (((m : Nat) : Int) + (1 : Int))) ∧ (IntKind.i64.wrap (((m : Nat) : Int) + (1 : Int))) ≤ (IntKind.i64.wrap (((m : Nat) : Int) + (1 : Int))) ∧ (IntKind.i64.wrap (((m : Nat) : Int) + (1 : Int))) * ((1 : Nat) : Int) ≤ 2 ^ 48) ∧
   (∀ (k : Nat) (w' : World), NewB w k (.cells (madeRow Tryz.prog 5 (IntKind.i64.wrap (((m : Nat) : Int) + (1 : Int))).toNat) 5) w' → K k w')) := by
 have e1 : IntKind.i64.wrap (((m : Nat) : Int) + (1 : Int)) = (m : Int) + 1 := w64 (by omega)
 have e2 : ((m : Int) + 1).toNat = m + 1 := by omega
 rw [e1, e2]
 refine ⟨by omega, fun k w' hk => h k w' hk.ext (by rw [hk.size.1]; exact Nat.le_refl _) ⟨OwnB.made hk (by rw [hk.size.1]; exact hx.size) (by unfold maxLen; omega), ?_⟩⟩
 exact OwnB.away2 ho (by rw [hk.size.1]; exact Nat.le_refl _)
theorem cell_step {K : Nat → World → Prop} (hx : Ext w0 w) (h : ∀ k w', Ext w w' → w.heap.size ≤ k → HasCell w0 w' k → K k w') : ∀ (k : Nat) (w' : World), NewB w k (.cells #[.slice none 0 0] 25) w' → K k w' :=
 fun k w' hk => h k w' hk.ext (by rw [hk.size.1]; exact Nat.le_refl _) ⟨by rw [hk.size.1]; exact hx.size, hk.at⟩
theorem high_step {K : Option Addr → Nat → Nat → World → Prop} (hx : Ext w0 w) (ho : OwnB w w0.heap.size p l c P) (hl : l ≤ 1024) (hm : m ≤ 256) (h : ∀ q n d w' hi, Ext w w' → OwnB w' w.heap.size q n d hi → HasHigh w0 w' m P q n d hi → K q n d w') :
  Calls Tryz.prog 169 #[.slice (cutP p c 0 1) ((if ((m : Nat) : Int) < ((l : Nat) : Int) then ((m : Nat) : Int) else ((l : Nat) : Int)).toNat - 0) (c - 0)] w fun e w' =>
   (∃ (q : Option Addr) (n d : Nat), e = .returned (.slice q n d) ∧ K q n d w') := by
 have hle := OwnB.le ho
 have hlen := OwnB.len ho
 have e1 : (if ((m : Nat) : Int) < ((l : Nat) : Int) then ((m : Nat) : Int) else ((l : Nat) : Int)).toNat = min m l := by split <;> omega
 rw [e1, cutP0, Nat.sub_zero, Nat.sub_zero]
 refine (pnorm_spec (takeB (OwnB.bytes ho) (n := min m l) (by omega)) (by omega) (by omega)).mono ?_
 rintro e w' ⟨q, n, d, hi, rfl, hx', oh, nh, eh⟩
 refine ⟨_, _, _, rfl, h q n d w' hi hx' oh ⟨OwnB.base_le oh hx.size, nh, ?_⟩⟩
 rw [eh]
 funext i
 rw [co_take]
 show _ = if i < m then co P i else 0
 by_cases h1 : i < min m l
 ·rw [if_pos h1, if_pos (by omega)]
 ·rw [if_neg h1]
  by_cases h2 : i < m
  ·rw [if_pos h2, co_out (by omega)]
  ·rw [if_neg h2]
end
end Go.Proofs.YtkolafpgbhpdlaaGreat
namespace Go.Proofs.YtkolafpgbhpdlaaGreat
open Go Go.Vc Go.Gf
theorem rep_set (m : Nat) : (List.replicate (m + 1) (0 : UInt8)).set m 1 = List.replicate m 0 ++ [1] := by
 induction m with
 | zero => rfl
 | succ m ih => rw [List.replicate_succ, List.set_cons_succ, ih, List.replicate_succ, List.cons_append]
set_option maxHeartbeats 4000000 in
theorem solve_main {w0 W : World} {kl kr m kh k4 lg e : Nat} {f ph p : Option Addr} {nh ch l c : Nat} {P P' hi : List UInt8} (hf : FieldAt w0 f) (hpre : SolPre w0 W k4 f p l c P') (hP : co P' = co P) (hm : m ≤ 256) (hl : l ≤ 1024) (hlg : lg = e + 1) (he : e ≤ m)
  (hcl : HasCell w0 W kl) (hch : HasCell w0 W kh) (hne : kl ≠ kh) (hr : HasRow w0 W m p kr) (hh : HasHigh w0 W m P' ph nh ch hi) (hah : Away ph kr) :
  F139_A10 W kl kr m kh ph nh ch k4 lg p l c (solR w0 m e P) (solI w0 f m e P) solM := by
 have eT : trunc m P' = trunc m P := by unfold trunc; rw [hP]
 have e1 : IntKind.i64.wrap (((m : Nat) : Int) + (1 : Int)) = (m : Int) + 1 := w64 (by omega)
 have e2 : ((m : Int) + 1).toNat = m + 1 := by omega
 have e3 : IntKind.i64.wrap (((lg : Nat) : Int) - (1 : Int)) = (e : Int) := by rw [w64 (by omega)]; omega
 unfold F139_A10
 rw [e1, e2, e3]
 obtain ⟨oh, nhi, ehi⟩ := hh
 have sub1 : ∀ {w w' : World} {k : Nat}, Ext w0 w → w0.heap.size ≤ k → Upd (fun x => x = k) w w' → Ext w0 w' := fun hx hk hu => OwnB.new_ext hx hu fun x hx => by rw [show x = _ from hx]; exact hk
 refine ⟨hcl.2.live, fun w1 s1 => ?_⟩
 have u1 := setK_upd s1
 have rl1 := hcl.2.set s1
 have x1 := sub1 hpre.ext hcl.1 u1
 have rh1 : RowK w1 kh 25 #[.slice none 0 0] := u1.keep hch.2 hne.symm
 refine ⟨rh1.live, fun w2 s2 => ?_⟩
 have u2 := setK_upd s2
 have rh2 := rh1.set s2
 have x2 := sub1 x1 hch.1 u2
 have rl2 : RowK w2 kl 25 #[.slice (some (at0 kr)) (m + 1) (m + 1)] := u2.keep rl1 hne
 have two : ∀ {base : Nat} {p : Option Addr} {n c : Nat} {bs : List UInt8}, OwnB W base p n c bs → OwnB w2 base p n c bs := fun o => OwnB.apart (OwnB.apart o u1 hcl.2 ty_ne.2.1) u2 rh1 ty_ne.2.1
 have rf2 : RowK w2 k4 33 #[.pointer f] := u2.keep (u1.keep hpre.rf (RowK.ne hpre.rf hcl.2 ty_ne.1)) (RowK.ne hpre.rf hch.2 ty_ne.1)
 obtain ⟨kr', hkr, hbr, lvr, _, setr⟩ := OwnB.at (two hr.1) (i := m) (by omega)
 simp only [Option.some.injEq, at0, Addr.mk.injEq, and_true] at hkr
 subst hkr
 refine ⟨_, _, _, rl2.cell, ⟨by omega, by omega⟩, ?_⟩
 show Live w2 ((at0 kr).add ((m : Int).toNat * 1)) ∧ _
 rw [Int.toNat_natCast, Nat.mul_one]
 refine ⟨lvr, fun w3 s3 => ?_⟩
 obtain ⟨or3, u3⟩ := setr 1 w3 s3
 rw [rep_set] at or3
 have x3 := sub1 x2 hbr u3
 have tyr : ∃ cs, RowK w2 kr 5 cs := by
  rcases (two hr.1).where_ with ⟨h0, _⟩ | ⟨g, h0, _, _, _, cur, hc, _⟩
  ·cases h0
  ·simp only [Option.some.injEq, at0, Addr.mk.injEq, and_true] at h0
   subst h0
   exact ⟨cur, hc⟩
 obtain ⟨csr, tyr⟩ := tyr
 have rl3 : RowK w3 kl 25 #[.slice (some (at0 kr)) (m + 1) (m + 1)] := u3.keep rl2 (RowK.ne rl2 tyr ty_ne.2.1)
 have rh3 : RowK w3 kh 25 #[.slice ph nh ch] := u3.keep rh2 (RowK.ne rh2 tyr ty_ne.2.1)
 have rf3 : RowK w3 k4 33 #[.pointer f] := u3.keep rf2 (RowK.ne rf2 tyr ty_ne.2.2)
 have keepB : ∀ {p : Option Addr} {n c : Nat} {bs : List UInt8}, OwnB w2 w0.heap.size p n c bs → Away p kr → OwnB w3 w0.heap.size p n c bs := fun o ha => OwnB.setk o u3 ha
 have oh3 := keepB (two oh) hah
 have op3 := keepB (two hpre.own) hr.2
 intro ka0 w4 hk4'
 have ob4 := row_bytes (bs := [1]) hk4' (by unfold maxLen; simp)
 intro ka w5 hka kb w6 hkb
 have x46 : Ext w4 w6 := hka.ext.trans hkb.ext
 have x36 : Ext w3 w6 := hk4'.ext.trans x46
 have ra6 : RowK w6 ka 25 #[.slice none 0 0] := hkb.ext.keep hka.at
 refine ⟨RowK.live ra6, fun w7 s7 => ?_⟩
 have u7 := setK_upd s7
 have ra7 := ra6.set s7
 have nab : kb ≠ ka := by rw [hkb.size.1]; have := hka.size; omega
 have rb7 : RowK w7 kb 25 #[.slice none 0 0] := u7.keep hkb.at nab
 refine ⟨rb7.live, fun w8 s8 => ?_⟩
 have u8 := setK_upd s8
 have rb8 := rb7.set s8
 have ra8 : RowK w8 ka 25 #[.slice none 0 0] := u8.keep ra7 nab.symm
 have sz3 : w0.heap.size ≤ w3.heap.size := x3.size
 have na : w0.heap.size ≤ ka := by rw [hka.size.1]; have := hk4'.size; omega
 have nb : w0.heap.size ≤ kb := by rw [hkb.size.1]; have := hka.size; omega
 have x8 : Ext w0 w8 := sub1 (sub1 (x3.trans x36) na u7) nb u8
 have lt3 : ∀ {k : Nat} {e : TypeId} {cs : Array Value}, RowK w3 k e cs → k < w3.heap.size := fun h => lt_of_heap h
 have gka : w3.heap.size ≤ ka := by rw [hka.size.1]; have := hk4'.size; omega
 have gkb : w3.heap.size ≤ kb := by rw [hkb.size.1]; have := hka.size; omega
 have rk8 : ∀ {k : Nat} {e : TypeId} {cs : Array Value}, RowK w3 k e cs → RowK w8 k e cs := fun h => u8.keep (u7.keep (x36.keep h) (by have := lt3 h; omega)) (by have := lt3 h; omega)
 have ok8 : ∀ {base : Nat} {p : Option Addr} {n c : Nat} {bs : List UInt8}, OwnB w6 base p n c bs → OwnB w8 base p n c bs := fun o => OwnB.apart (OwnB.apart o u7 ra6 ty_ne.2.1) u8 rb7 ty_ne.2.1
 have hst : SolSt w0 w8 k4 kl kh kb ka f (List.replicate m 0 ++ [1]) hi [] [1] := ⟨x8, hpre.n4, hcl.1, hch.1, nb, na, hne, by have := lt3 rl3; omega, by have := lt3 rl3; omega, by have := lt3 rh3; omega, by have := lt3 rh3; omega, nab,
  rk8 rf3, ⟨_, _, _, rk8 rl3, ok8 (OwnB.ext or3 x36)⟩, ⟨_, _, _, rk8 rh3, ok8 (OwnB.ext oh3 x36)⟩, ⟨_, _, _, rb8, ok8 (OwnB.base_le (OwnB.ext ob4 x46) sz3)⟩, ⟨_, _, _, ra8, OwnS.nil _ _ _ _⟩⟩
 have hI0 : SolveInv m (trunc m P) (List.replicate m 0 ++ [1]) hi [] [1] := SolveInv.init (fun i hi => if_neg (by omega)) nhi (by rw [ehi, eT])
 refine ⟨⟨k4, kl, kh, kb, ka, _, _, _, _, P', rfl, rfl, rfl, rfl, rfl, rfl, rfl, rfl, hst, hI0, fun t L pts _ => by simp, ok8 (OwnB.ext op3 x36), hP⟩, ?_⟩
 rintro w9 ⟨k4', kl', kh', kb', ka', low, high, a, b, P2, q1, q2, q3, q4, q5, q6, q7, q8, st, hI, hG, op, eP2⟩
 simp only [Option.some.injEq, at0, Addr.mk.injEq, and_true] at q1 q2 q3 q5 q8
 subst q1 q2 q3 q5 q8
 intros
 have hdeg := hI.deg
 have hlt := hI.lt
 obtain ⟨pb, nb', cb', rb9, ob9⟩ := st.cb
 obtain ⟨ph9, nh9, ch9, rh9, oh9⟩ := st.ch
 have lb := OwnB.len ob9
 have lh := OwnB.len oh9
 have bpos : 0 < b.length := List.length_pos_iff.2 hI.b0
 have f1 : IntKind.i64.wrap (((nb' : Nat) : Int) - (1 : Int)) = (b.length : Int) - 1 := by rw [w64 (by omega)]; omega
 have f2 : IntKind.i64.wrap ((2 : Int) * ((b.length : Int) - 1)) = 2 * ((b.length : Int) - 1) := w64 (by omega)
 have f3 : IntKind.i64.wrap (2 * ((b.length : Int) - 1) + (e : Int)) = 2 * ((b.length : Int) - 1) + (e : Int) := w64 (by omega)
 have f4 : IntKind.i64.wrap ((e : Int) + ((b.length : Int) - 1)) = (e : Int) + ((b.length : Int) - 1) := w64 (by omega)
 refine ⟨_, _, _, rb9.cell, ?_⟩
 rw [f1, f2, f3, f4]
 refine condB_of (fun hs => ?_) (fun hs => ?_)
 ·simp only [decide_eq_true_eq] at hs
  refine ⟨st.ext, .inl ⟨rfl, fun t L pts hg => ?_⟩⟩
  have h1 := hG t L pts hg
  have h2 := hg.few
  omega
 simp only [decide_eq_false_iff_not] at hs
 refine ⟨_, _, _, rh9.cell, condB_of (fun hs2 => ?_) (fun hs2 => ?_)⟩
 ·simp only [decide_eq_true_eq] at hs2
  have hstop : high.length ≤ e + (b.length - 1) := by omega
  intro w20 hd
  have st20 := st.mono hd.ext
  have rb20 : RowK w20 kb 25 #[.slice pb nb' cb'] := hd.ext.keep rb9
  have ob20 := OwnB.ext ob9 hd.ext
  have op20 := OwnB.ext op hd.ext
  obtain ⟨ab, hab, hlead⟩ := BytesAt.co (OwnB.bytes ob20) (i := b.length - 1) (by omega)
  subst hab
  have f5 : ((b.length : Int) - 1).toNat = b.length - 1 := by omega
  refine ⟨_, st20.rf.cell, _, _, _, rb20.cell, _, _, _, rb20.cell, ?_⟩
  rw [f1, f5, Nat.mul_one]
  refine ⟨⟨by omega, by omega⟩, _, hlead, ?_⟩
  refine (finv_spec (hf.ext st20.ext) _).mono ?_
  rintro e21 w21 ⟨rfl, hx21⟩
  have st21 := st20.mono hx21
  have rb21 : RowK w21 kb 25 #[.slice (some ab) nb' cb'] := hx21.keep rb20
  refine ⟨_, _, rfl, _, st21.rf.cell, _, _, _, rb21.cell, fun kx w22 hkx => ?_⟩
  have st22 := st21.mono hkx.ext
  have ox := row_bytes (bs := [gi (co b (b.length - 1))]) hkx (by unfold maxLen; simp)
  refine (pmul_spec (hf.ext st22.ext) (OwnB.bytes (OwnB.ext (OwnB.ext ob20 hx21) hkx.ext)) (by omega) (OwnB.bytes ox) (by simp)).mono ?_
  rintro e23 w23 ⟨p23, n23, c23, b2, rfl, hx23, ob2, nb2, eb2⟩
  have st23 := st22.mono hx23
  have rb23 : RowK w23 kb 25 #[.slice (some ab) nb' cb'] := hx23.keep (hkx.ext.keep rb21)
  refine ⟨_, _, _, rfl, RowK.live rb23, fun w24 s24 => ?_⟩
  have u24 := setK_upd s24
  have rb24 := rb23.set s24
  have x24 : Ext w0 w24 := sub1 st23.ext st.nb u24
  have rf24 : RowK w24 k4 33 #[.pointer f] := u24.keep st23.rf (RowK.ne st23.rf rb23 ty_ne.1)
  have k24 : ∀ {base : Nat} {p : Option Addr} {n c : Nat} {bs : List UInt8}, OwnB w23 base p n c bs → OwnB w24 base p n c bs := fun o => OwnB.apart o u24 rb23 ty_ne.2.1
  have ob24 := k24 ob2
  have op24 := k24 (OwnB.ext (OwnB.ext (OwnB.ext op20 hx21) hkx.ext) hx23)
  have hb2 : co b2 = sm (gi (co b (b.length - 1))) (co b) := by
   rw [eb2]
   show sa (sm _ (co b)) (sh1 sz) = _
   rw [sh1_sz, sa_sz]
  have hlead0 : co b (b.length - 1) ≠ 0 := hI.nb hI.b0
  have ginz := gi_ne hlead0
  have hb2l : b2.length = b.length := by
   have h1 : b2.length ≤ b.length := nb2.le (by rw [hb2]; exact (deg_co b).sm _)
   have h2 : b.length - 1 < b2.length := Normal.pos (by rw [hb2]; exact gm_ne ginz hlead0)
   omega
  have l2 := OwnB.len ob24
  have lp := OwnB.len op24
  refine ⟨_, rf24.cell, _, _, _, rb24.cell, ?_⟩
  refine (pmul_spec (hf.ext x24) (OwnB.bytes ob24) (by omega) (OwnB.bytes op24) (by omega)).mono ?_
  rintro e25 w25 ⟨p25, n25, c25, all, rfl, hx25, oall, nall, eall⟩
  refine ⟨_, _, _, rfl, fun w26 hd26 => ?_⟩
  have rb26 : RowK w26 kb 25 #[.slice p23 n23 c23] := hd26.ext.keep (hx25.keep rb24)
  have oall26 := OwnB.ext oall hd26.ext
  have la := OwnB.len oall26
  have lac := OwnB.le oall26
  have hall : all.length ≤ 4096 := nall.le (by rw [eall]; exact act_deg (deg_co b2) (by omega))
  have e1' : (if ((m : Nat) : Int) < ((n25 : Nat) : Int) then ((m : Nat) : Int) else ((n25 : Nat) : Int)) = ((min m n25 : Nat) : Int) := by split <;> omega
  refine ⟨_, _, _, rb26.cell, ?_⟩
  rw [e1', Int.toNat_natCast]
  refine ⟨⟨by omega, by omega⟩, ?_⟩
  refine (pnorm_spec (dropB (OwnB.bytes oall26) (a := min m n25) (by omega) lac) (by omega) (by omega)).mono ?_
  rintro e27 w27 ⟨p27, n27, c27, o, rfl, hx27, oo, no, eo⟩
  have rb27 : RowK w27 kb 25 #[.slice p23 n23 c23] := hx27.keep rb26
  have x26 := (x24.trans hx25).trans hd26.ext
  refine ⟨_, _, _, rfl, ⟨_, _, _, rb27.cell, rfl⟩, x26.trans hx27, .inr ⟨p23, n23, c23, b2, p27, n27, c27, o, rfl, ?_, OwnB.base_le oo x26.size, no.le fun i hi => by rw [eo, co_drop]; exact co_out (by omega), ?_⟩⟩
  ·exact OwnB.base_le (OwnB.ext (OwnB.ext (OwnB.ext ob24 hx25) hd26.ext) hx27) st22.ext.size
  ·refine ⟨nb2, by rintro rfl; simp at hb2l; omega, ?_, by omega, fun i => ?_, fun t L pts hg => ?_⟩
   ·rw [hb2l, hb2]
    exact gi_gm hlead0
   ·rw [eo, co_drop, ← eP2, act_co b2, ← eall]
    by_cases h1 : m ≤ n25
    ·rw [Nat.min_eq_left h1]
    ·rw [co_out (p := all) (i := min m n25 + i) (by omega), co_out (p := all) (i := m + i) (by omega)]
   ·obtain ⟨h1, h2⟩ := good_stop hg hI (hG t L pts hg) hstop
    refine ⟨by omega, fun x hx => ?_⟩
    have : co b2 = co (smL (gi (co b (b.length - 1))) b) := by rw [hb2, co_smL]
    rw [ev_congr this, ev_smL, h2 x hx, gm_zero]
 ·simp only [decide_eq_false_iff_not] at hs2
  have h0 : high ≠ [] := by rintro rfl; simp at lh; omega
  refine (sstep_spec hf st hI h0 hm).mono ?_
  rintro e10 w10 ⟨rfl, up, r, b', st', hI', hl'⟩
  refine ⟨rfl, ⟨k4, kl, kh, kb, ka, _, _, _, _, P2, rfl, rfl, rfl, rfl, rfl, rfl, rfl, rfl, st', hI', fun t L pts hg => ?_, ?_, eP2⟩, ?_⟩
  ·exact good_step hg hI (hG t L pts hg) (by omega) hl'
  ·refine OwnB.other op up fun x hx => ?_
   obtain ⟨_, _, _, r1, _⟩ := st.cl
   obtain ⟨_, _, _, r2, _⟩ := st.ca
   rcases hx with rfl | rfl | rfl | rfl
   ·exact ⟨_, _, _, r1, ty_ne.2.1⟩
   ·exact ⟨_, _, _, rh9, ty_ne.2.1⟩
   ·exact ⟨_, _, _, rb9, ty_ne.2.1⟩
   ·exact ⟨_, _, _, r2, ty_ne.2.1⟩
  ·show lenAt w10 (some (at0 kh)) < lenAt w9 (some (at0 kh))
   rw [st'.ch.lenAt, st.ch.lenAt]
   exact hI'.lt
end Go.Proofs.YtkolafpgbhpdlaaGreat
namespace Go.Proofs.YtkolafpgbhpdlaaGreat
open Go Go.Vc Go.Gf
section
variable {w0 W : World} {kl kr m kh k4 lg e : Nat} {f ph p : Option Addr} {nh ch l c : Nat} {P P' hi : List UInt8}
variable (hf : FieldAt w0 f) (hP : co P' = co P) (hm : m ≤ 256) (hl : l ≤ 1024) (hlg : lg = e + 1) (he : e ≤ m)
include hf hP hm hl hlg he
theorem sA9 (hpre : SolPre w0 W k4 f p l c P') (hcl : HasCell w0 W kl) (hr : HasRow w0 W m p kr) (hh : HasHigh w0 W m P' ph nh ch hi) (hah : Away ph kr) :
  F139_A9 W kl kr m ph nh ch k4 lg p l c (solR w0 m e P) (solI w0 f m e P) solM :=
 cell_step hpre.ext fun k w' hx hk hc => solve_main hf (hpre.mono hx) hP hm hl hlg he (hcl.mono hx) hc (by have := hcl.lt; omega) (hr.mono hx) (hh.mono hx) hah
theorem sA8 (hpre : SolPre w0 W k4 f p l c P') (hr : HasRow w0 W m p kr) (hch : HasCell w0 W kh) (hh : HasHigh w0 W m P' ph nh ch hi) (hah : Away ph kr) :
  F139_A8 W kr m kh ph nh ch k4 lg p l c (solR w0 m e P) (solI w0 f m e P) solM :=
 cell_step hpre.ext fun k w' hx hk hc => solve_main hf (hpre.mono hx) hP hm hl hlg he hc (hch.mono hx) (by have := hch.lt; omega) (hr.mono hx) (hh.mono hx) hah
theorem sA7 (hpre : SolPre w0 W k4 f p l c P') (hcl : HasCell w0 W kl) (hch : HasCell w0 W kh) (hne : kl ≠ kh) (hr : HasRow w0 W m p kr) :
  F139_A7 p c m l W kl kr kh k4 lg (solR w0 m e P) (solI w0 f m e P) solM :=
 high_step hpre.ext hpre.own hl hm fun _ _ _ _ _ hx ho hh => solve_main hf (hpre.mono hx) hP hm hl hlg he (hcl.mono hx) (hch.mono hx) hne (hr.mono hx) hh (OwnB.away ho hr.lt)
theorem sA6 (hpre : SolPre w0 W k4 f p l c P') (hcl : HasCell w0 W kl) (hch : HasCell w0 W kh) (hne : kl ≠ kh) (hh : HasHigh w0 W m P' ph nh ch hi) :
  F139_A6 m W kl kh ph nh ch k4 lg p l c (solR w0 m e P) (solI w0 f m e P) solM :=
 row_step hpre.ext hpre.own hm fun _ _ hx hk hr => solve_main hf (hpre.mono hx) hP hm hl hlg he (hcl.mono hx) (hch.mono hx) hne hr (hh.mono hx) (OwnB.away2 hh.1 hk)
theorem sA5 (hpre : SolPre w0 W k4 f p l c P') (hr : HasRow w0 W m p kr) (hh : HasHigh w0 W m P' ph nh ch hi) (hah : Away ph kr) :
  F139_A5 W kr m ph nh ch k4 lg p l c (solR w0 m e P) (solI w0 f m e P) solM :=
 ⟨cell_step hpre.ext fun _ _ hx _ hc => sA9 hf hP hm hl hlg he (hpre.mono hx) hc (hr.mono hx) (hh.mono hx) hah,
  cell_step hpre.ext fun _ _ hx _ hc => sA8 hf hP hm hl hlg he (hpre.mono hx) (hr.mono hx) hc (hh.mono hx) hah⟩
theorem sA4 (hpre : SolPre w0 W k4 f p l c P') (hcl : HasCell w0 W kl) (hr : HasRow w0 W m p kr) :
  F139_A4 p c m l W kl kr k4 lg (solR w0 m e P) (solI w0 f m e P) solM :=
 ⟨high_step hpre.ext hpre.own hl hm fun _ _ _ _ _ hx ho hh => sA9 hf hP hm hl hlg he (hpre.mono hx) (hcl.mono hx) (hr.mono hx) hh (OwnB.away ho hr.lt),
  cell_step hpre.ext fun _ _ hx hk hc => sA7 hf hP hm hl hlg he (hpre.mono hx) (hcl.mono hx) hc (by have := hcl.lt; omega) (hr.mono hx)⟩
theorem sA3 (hpre : SolPre w0 W k4 f p l c P') (hr : HasRow w0 W m p kr) (hch : HasCell w0 W kh) :
  F139_A3 p c m l W kr kh k4 lg (solR w0 m e P) (solI w0 f m e P) solM :=
 ⟨high_step hpre.ext hpre.own hl hm fun _ _ _ _ _ hx ho hh => sA8 hf hP hm hl hlg he (hpre.mono hx) (hr.mono hx) (hch.mono hx) hh (OwnB.away ho hr.lt),
  cell_step hpre.ext fun _ _ hx hk hc => sA7 hf hP hm hl hlg he (hpre.mono hx) hc (hch.mono hx) (by have := hch.lt; omega) (hr.mono hx)⟩
theorem sA2 (hpre : SolPre w0 W k4 f p l c P') (hch : HasCell w0 W kh) (hh : HasHigh w0 W m P' ph nh ch hi) :
  F139_A2 m W kh ph nh ch k4 lg p l c (solR w0 m e P) (solI w0 f m e P) solM :=
 ⟨row_step hpre.ext hpre.own hm fun _ _ hx hk hr => sA8 hf hP hm hl hlg he (hpre.mono hx) hr (hch.mono hx) (hh.mono hx) (OwnB.away2 hh.1 hk),
  cell_step hpre.ext fun _ _ hx hk hc => sA6 hf hP hm hl hlg he (hpre.mono hx) hc (hch.mono hx) (by have := hch.lt; omega) (hh.mono hx)⟩
theorem sA1 (hpre : SolPre w0 W k4 f p l c P') (hcl : HasCell w0 W kl) (hh : HasHigh w0 W m P' ph nh ch hi) :
  F139_A1 m W kl ph nh ch k4 lg p l c (solR w0 m e P) (solI w0 f m e P) solM :=
 ⟨row_step hpre.ext hpre.own hm fun _ _ hx hk hr => sA9 hf hP hm hl hlg he (hpre.mono hx) (hcl.mono hx) hr (hh.mono hx) (OwnB.away2 hh.1 hk),
  cell_step hpre.ext fun _ _ hx hk hc => sA6 hf hP hm hl hlg he (hpre.mono hx) (hcl.mono hx) hc (by have := hcl.lt; omega) (hh.mono hx)⟩
theorem sA0 (hpre : SolPre w0 W k4 f p l c P') (hcl : HasCell w0 W kl) (hch : HasCell w0 W kh) (hne : kl ≠ kh) :
  F139_A0 m W p c l kl kh k4 lg (solR w0 m e P) (solI w0 f m e P) solM :=
 ⟨row_step hpre.ext hpre.own hm fun _ _ hx _ hr => sA7 hf hP hm hl hlg he (hpre.mono hx) (hcl.mono hx) (hch.mono hx) hne hr,
  high_step hpre.ext hpre.own hl hm fun _ _ _ _ _ hx _ hh => sA6 hf hP hm hl hlg he (hpre.mono hx) (hcl.mono hx) (hch.mono hx) hne hh⟩
end
set_option maxHeartbeats 2000000 in
theorem solve_spec {f p q : Option Addr} {m cm n cn : Nat} {w : World} {S g : List UInt8} (hf : FieldAt w f) (hS : BytesAt w p m S) (hg : BytesAt w q n g) (hgc : n ≤ cn) (hgn : Normal g) (g0 : g ≠ []) (he : g.length ≤ m + 1) (hm : m ≤ 256) :
  Calls Tryz.prog 139 #[.pointer f, .slice p m cm, .slice q n cn] w fun e w' => ∃ v, e = .returned v ∧ solR w m (g.length - 1) (mulL g S.reverse) v w' := by
 have gpos : 0 < g.length := List.length_pos_iff.2 g0
 refine F139_calls f p m cm q n cn w (solR w m (g.length - 1) (mulL g S.reverse)) (solI w f m (g.length - 1) (mulL g S.reverse)) solM ?_
 intro k4 w5 hk
 have ln := hg.1
 have lS := hS.1
 refine (pnorm_spec (hg.ext hk.ext) hgc (by omega)).mono ?_
 rintro e6 w6 ⟨p8, l8, c8, g', rfl, hx6, og, ng, eg⟩
 obtain rfl : g' = g := ng.eq hgn eg
 have lg := OwnB.len og
 have rf6 : RowK w6 k4 33 #[.pointer f] := hx6.keep hk.at
 have x6 : Ext w w6 := hk.ext.trans hx6
 have e1 : IntKind.i64.wrap (((l8 : Nat) : Int) - (1 : Int)) = (l8 : Int) - 1 := w64 (by omega)
 refine ⟨_, _, _, rfl, _, rf6.cell, ?_⟩
 rw [hf.there, e1]
 refine condB_of (fun h => by cases h) fun _ => condB_of (fun h => by simp only [decide_eq_true_eq] at h; omega) fun _ => condB_of (fun h => by simp only [decide_eq_true_eq] at h; omega) fun _ => ?_
 refine (bclone_own (hS.ext x6) (by omega)).mono ?_
 rintro e7 w10 ⟨p12, c12, rfl, hx10, oS⟩
 refine ⟨_, _, _, rfl, ?_⟩
 refine (brev_spec oS (by omega)).mono ?_
 rintro e8 w13 ⟨rfl, hu13, oT⟩
 have x10 : Ext w w10 := x6.trans hx10
 have x13 : Ext w6 w13 := OwnB.new_ext hx10 hu13 fun x hx => OwnB.blk oS hx
 have rf13 : RowK w13 k4 33 #[.pointer f] := x13.keep rf6
 have xw13 := x6.trans x13
 refine ⟨rfl, _, rf13.cell, ?_⟩
 refine (pmul_spec (hf.ext xw13) (OwnB.bytes (OwnB.ext og x13)) (by omega) (OwnB.bytes oT) (by omega)).mono ?_
 rintro e9 w16 ⟨p18, l18, c18, P', rfl, hx16, oP, nP, eP⟩
 refine ⟨_, _, _, rfl, fun w19 hd => ?_⟩
 have lP := OwnB.len oP
 have hPl : P'.length ≤ 600 := nP.le (by rw [eP]; exact act_deg (deg_co g') (by rw [List.length_reverse]; omega))
 have x19 : Ext w w19 := (xw13.trans hx16).trans hd.ext
 have hpre : SolPre w w19 k4 f p18 l18 c18 P' := ⟨x19, by rw [hk.size.1]; exact Nat.le_refl _, hd.ext.keep (hx16.keep rf13), OwnB.base_le (OwnB.ext oP hd.ext) xw13.size⟩
 have hP : co P' = co (mulL g' S.reverse) := by rw [eP, co_mulL, act_co]
 have hl : l18 ≤ 1024 := by omega
 have hlg : l8 = g'.length - 1 + 1 := by omega
 have hem : g'.length - 1 ≤ m := by omega
 have hle := OwnB.le oP
 refine ⟨by split <;> omega, ?_⟩
 refine ⟨row_step hpre.ext hpre.own hm fun k w' hx hk hr => ⟨?_, cell_step (hpre.mono hx).ext fun k2 w2 hx2 hk2 hc => ?_, cell_step (hpre.mono hx).ext fun k2 w2 hx2 hk2 hc => ?_⟩, ?_, ?_, ?_⟩
 ·exact high_step (hpre.mono hx).ext (hpre.mono hx).own hl hm fun _ _ _ _ _ hx2 ho hh => sA5 hf hP hm hl hlg hem ((hpre.mono hx).mono hx2) (hr.mono hx2) hh (OwnB.away ho hr.lt)
 ·exact sA4 hf hP hm hl hlg hem ((hpre.mono hx).mono hx2) hc (hr.mono hx2)
 ·exact sA3 hf hP hm hl hlg hem ((hpre.mono hx).mono hx2) (hr.mono hx2) hc
 ·refine high_step hpre.ext hpre.own hl hm fun _ _ _ _ _ hx ho hh => ⟨row_step (hpre.mono hx).ext (hpre.mono hx).own hm fun _ _ hx2 hk hr => ?_, cell_step (hpre.mono hx).ext fun _ _ hx2 _ hc => ?_, cell_step (hpre.mono hx).ext fun _ _ hx2 _ hc => ?_⟩
  ·exact sA5 hf hP hm hl hlg hem ((hpre.mono hx).mono hx2) hr (hh.mono hx2) (OwnB.away2 hh.1 hk)
  ·exact sA1 hf hP hm hl hlg hem ((hpre.mono hx).mono hx2) hc (hh.mono hx2)
  ·exact sA2 hf hP hm hl hlg hem ((hpre.mono hx).mono hx2) hc (hh.mono hx2)
 ·refine cell_step hpre.ext fun _ _ hx _ hc => ⟨row_step (hpre.mono hx).ext (hpre.mono hx).own hm fun _ _ hx2 _ hr => ?_, high_step (hpre.mono hx).ext (hpre.mono hx).own hl hm fun _ _ _ _ _ hx2 _ hh => ?_, cell_step (hpre.mono hx).ext fun _ _ hx2 hk2 hc2 => ?_⟩
  ·exact sA4 hf hP hm hl hlg hem ((hpre.mono hx).mono hx2) (hc.mono hx2) hr
  ·exact sA1 hf hP hm hl hlg hem ((hpre.mono hx).mono hx2) (hc.mono hx2) hh
  ·exact sA0 hf hP hm hl hlg hem ((hpre.mono hx).mono hx2) (hc.mono hx2) hc2 (by have := hc.lt; omega)
 ·refine cell_step hpre.ext fun _ _ hx _ hc => ⟨row_step (hpre.mono hx).ext (hpre.mono hx).own hm fun _ _ hx2 _ hr => ?_, high_step (hpre.mono hx).ext (hpre.mono hx).own hl hm fun _ _ _ _ _ hx2 _ hh => ?_, cell_step (hpre.mono hx).ext fun _ _ hx2 hk2 hc2 => ?_⟩
  ·exact sA3 hf hP hm hl hlg hem ((hpre.mono hx).mono hx2) hr (hc.mono hx2)
  ·exact sA2 hf hP hm hl hlg hem ((hpre.mono hx).mono hx2) (hc.mono hx2) hh
  ·exact sA0 hf hP hm hl hlg hem ((hpre.mono hx).mono hx2) hc2 (hc.mono hx2) (by have := hc.lt; omega)
end Go.Proofs.YtkolafpgbhpdlaaGreat
