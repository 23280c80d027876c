/- The key equation is solved. -/
import Derived.Test.YtpmkjpgoekjcfaaH7
namespace Go.Proofs.Ytpmkjpgoekjcfaa
open Go Go.Vc Go.Gf

theorem takeB {w : World} {p : Option Addr} {l : Nat} {bs : List UInt8} (h : BytesAt w p l bs) {n : Nat} (hn : n ≤ l) : BytesAt w p n (bs.take n) := by
  have hl := h.1
  refine ⟨by simp; omega, fun hne => ?_⟩
  obtain ⟨a, rfl, hc⟩ := h.2 (by rintro rfl; simp at hne)
  refine ⟨a, rfl, fun i hi => ?_⟩
  simp only [List.length_take] at hi
  rw [hc i (by omega)]
  congr 3
  simp only [List.getD_eq_getElem?_getD, List.getElem?_take]
  rw [if_pos (by omega)]
theorem dropB {w : World} {p : Option Addr} {l c : Nat} {bs : List UInt8} (h : BytesAt w p l bs) {a : Nat} (ha : a ≤ l) (hc : l ≤ c) : BytesAt w (cutP p c a 1) (l - a) (bs.drop a) := by
  have hl := h.1
  refine ⟨by simp; omega, fun hne => ?_⟩
  have hab : a < l := by
    rcases Nat.lt_or_ge a l with h1 | h1
    · exact h1
    · exact (hne (List.eq_nil_of_length_eq_zero (by simp; omega))).elim
  obtain ⟨x, rfl, hx⟩ := h.2 (by rintro rfl; simp at hl; omega)
  unfold cutP
  rw [if_neg (by omega)]
  refine ⟨_, rfl, fun i hi => ?_⟩
  have hi' : i < l - a := by simp at hi; omega
  rw [Nat.mul_one, add_add, hx (a + i) (by omega)]
  congr 3
  simp only [List.getD_eq_getElem?_getD, List.getElem?_drop]
theorem co_drop (bs : List UInt8) (a i : Nat) : co (bs.drop a) i = co bs (a + i) := by
  simp only [Gf.co, List.getD_eq_getElem?_getD, List.getElem?_drop]

/-- how long the slice in a cell is -/
def lenAt (w : World) (q : Option Addr) : Nat :=
  match q with
  | some a => match w.cell? a with
    | some (.slice _ n _) => n
    | _ => 0
  | none => 0
theorem CellB.lenAt {w : World} {base k : Nat} {bs : List UInt8} (h : CellB w base k bs) : lenAt w (some (at0 k)) = bs.length := by
  obtain ⟨p, n, c, h1, h2⟩ := h
  unfold Proofs.Ytpmkjpgoekjcfaa.lenAt
  simp only [h1.cell]
  exact OwnB.len h2

def solR (w0 : World) (m e : Nat) (P : List UInt8) : Value → World → Prop := fun v w' => Ext w0 w' ∧
  ((v = .tuple #[.slice none 0 0, .slice none 0 0, .int .i64 100] ∧ ∀ t L pts, ¬ Gf.Good m e t (trunc m P) L pts) ∨
    ∃ pb nb cb b po no oc o, v = .tuple #[.slice pb nb cb, .slice po no oc, .int .i64 0] ∧ OwnB w' w0.heap.size pb nb cb b ∧ OwnB w' w0.heap.size po no oc o ∧ o.length ≤ 4096 ∧ Gf.Found m e (co P) b o)
def solI (w0 : World) (f : Option Addr) (m e : Nat) (P : List UInt8) : Option Addr → Int → Int → Option Addr → Nat → Nat → Option Addr → Option Addr → Option Addr → Option Addr → Option Addr → Option Addr → Option Addr → World → World → Prop :=
  fun q4 _ _ p18 l18 c18 qh qb c4 cl ch cb ca _ w => ∃ k4 kl kh kb ka low high a b P', q4 = some (at0 k4) ∧ qh = some (at0 kh) ∧ qb = some (at0 kb) ∧ c4 = some (at0 k4) ∧ cl = some (at0 kl) ∧ ch = some (at0 kh) ∧ cb = some (at0 kb) ∧ ca = some (at0 ka) ∧
    SolSt w0 w k4 kl kh kb ka f low high a b ∧ SolveInv m (trunc m P) low high a b ∧ (∀ t L pts, Gf.Good m e t (trunc m P) L pts → b.length ≤ t + 1) ∧ OwnB w w0.heap.size p18 l18 c18 P' ∧ co P' = co P
def solM : Option Addr → Int → Int → Option Addr → Nat → Nat → Option Addr → Option Addr → Option Addr → Option Addr → Option Addr → Option Addr → Option Addr → World → World → Nat :=
  fun _ _ _ _ _ _ qh _ _ _ _ _ _ _ w => lenAt w qh

/-- what has been done when the loop begins -/
structure SolPre (w0 w : World) (k4 : Nat) (f : Option Addr) (p : Option Addr) (l c : Nat) (P : List UInt8) : Prop where
  ext : Ext w0 w
  n4 : w0.heap.size ≤ k4
  rf : RowK w k4 25 #[.pointer f]
  own : OwnB w w0.heap.size p l c P
theorem SolPre.mono {w0 w w' : World} {k4 : Nat} {f p : Option Addr} {l c : Nat} {P : List UInt8} (h : SolPre w0 w k4 f p l c P) (hu : Ext w w') : SolPre w0 w' k4 f p l c P :=
  ⟨h.ext.trans hu, h.n4, hu.keep h.rf, OwnB.ext h.own hu⟩
def HasRow (w0 w : World) (m : Nat) (p : Option Addr) (k : Nat) : Prop := OwnB w w0.heap.size (some (at0 k)) (m + 1) (m + 1) (List.replicate (m + 1) 0) ∧ Away p k
def HasHigh (w0 w : World) (m : Nat) (P : List UInt8) (p : Option Addr) (l c : Nat) (hi : List UInt8) : Prop := OwnB w w0.heap.size p l c hi ∧ Normal hi ∧ co hi = trunc m P
def HasCell (w0 w : World) (k : Nat) : Prop := w0.heap.size ≤ k ∧ RowK w k 22 #[.slice none 0 0]
section
variable {w0 w w' : World} {m k : Nat} {p q : Option Addr} {l c : Nat} {P hi : List UInt8}
theorem HasRow.mono (h : HasRow w0 w m p k) (hu : Ext w w') : HasRow w0 w' m p k := ⟨OwnB.ext h.1 hu, h.2⟩
theorem HasHigh.mono (h : HasHigh w0 w m P q l c hi) (hu : Ext w w') : HasHigh w0 w' m P q l c hi := ⟨OwnB.ext h.1 hu, h.2⟩
theorem HasCell.mono (h : HasCell w0 w k) (hu : Ext w w') : HasCell w0 w' k := ⟨h.1, hu.keep h.2⟩
theorem HasRow.lt (h : HasRow w0 w m p k) : k < w.heap.size := OwnS.lt_heap h.1
theorem HasCell.lt (h : HasCell w0 w k) : k < w.heap.size := lt_of_heap h.2
/-- the row is made -/
theorem row_step {K : Nat → World → Prop} (hx : Ext w0 w) (ho : OwnB w w0.heap.size p l c P) (hm : m ≤ 256) (h : ∀ k w', Ext w w' → w.heap.size ≤ k → HasRow w0 w' m p k → K k w') :
    ((0 ≤ (IntKind.i64.wrap (((m : Nat) : Int) + (1 : Int))) ∧ (IntKind.i64.wrap (((m : Nat) : Int) + (1 : Int))) ≤ (IntKind.i64.wrap (((m : Nat) : Int) + (1 : Int))) ∧ (IntKind.i64.wrap (((m : Nat) : Int) + (1 : Int))) * ((1 : Nat) : Int) ≤ 2 ^ 48) ∧
      (∀ (k : Nat) (w' : World), NewB w k (.cells (madeRow Try.prog 5 (IntKind.i64.wrap (((m : Nat) : Int) + (1 : Int))).toNat) 5) w' → K k w')) := by
  have e1 : IntKind.i64.wrap (((m : Nat) : Int) + (1 : Int)) = (m : Int) + 1 := w64 (by omega)
  have e2 : ((m : Int) + 1).toNat = m + 1 := by omega
  rw [e1, e2]
  refine ⟨by omega, fun k w' hk => h k w' hk.ext (by rw [hk.size.1]; exact Nat.le_refl _) ⟨OwnB.made hk (by rw [hk.size.1]; exact hx.size) (by unfold maxLen; omega), ?_⟩⟩
  exact OwnB.away2 ho (by rw [hk.size.1]; exact Nat.le_refl _)
/-- a cell is made -/
theorem cell_step {K : Nat → World → Prop} (hx : Ext w0 w) (h : ∀ k w', Ext w w' → w.heap.size ≤ k → HasCell w0 w' k → K k w') : ∀ (k : Nat) (w' : World), NewB w k (.cells #[.slice none 0 0] 22) w' → K k w' :=
  fun k w' hk => h k w' hk.ext (by rw [hk.size.1]; exact Nat.le_refl _) ⟨by rw [hk.size.1]; exact hx.size, hk.at⟩
/-- the product's lower part -/
theorem high_step {K : Option Addr → Nat → Nat → World → Prop} (hx : Ext w0 w) (ho : OwnB w w0.heap.size p l c P) (hl : l ≤ 1024) (hm : m ≤ 256) (h : ∀ q n d w' hi, Ext w w' → OwnB w' w.heap.size q n d hi → HasHigh w0 w' m P q n d hi → K q n d w') :
    Calls Try.prog 58 #[.slice (cutP p c 0 1) ((if ((m : Nat) : Int) < ((l : Nat) : Int) then ((m : Nat) : Int) else ((l : Nat) : Int)).toNat - 0) (c - 0)] w fun e w' =>
      (∃ (q : Option Addr) (n d : Nat), e = .returned (.slice q n d) ∧ K q n d w') := by
  have hle := OwnB.le ho
  have hlen := OwnB.len ho
  have e1 : (if ((m : Nat) : Int) < ((l : Nat) : Int) then ((m : Nat) : Int) else ((l : Nat) : Int)).toNat = min m l := by split <;> omega
  rw [e1, cutP0, Nat.sub_zero, Nat.sub_zero]
  refine (pnorm_spec (takeB (OwnB.bytes ho) (n := min m l) (by omega)) (by omega) (by omega)).mono ?_
  rintro e w' ⟨q, n, d, hi, rfl, hx', oh, nh, eh⟩
  refine ⟨_, _, _, rfl, h q n d w' hi hx' oh ⟨OwnB.base_le oh hx.size, nh, ?_⟩⟩
  rw [eh]
  funext i
  rw [co_take]
  show _ = if i < m then co P i else 0
  by_cases h1 : i < min m l
  · rw [if_pos h1, if_pos (by omega)]
  · rw [if_neg h1]
    by_cases h2 : i < m
    · rw [if_pos h2, co_out (by omega)]
    · rw [if_neg h2]
end
end Go.Proofs.Ytpmkjpgoekjcfaa
