/- A script of calls on votes, as an argument; whether a call is little. -/
import Derived.Test.YtphkmbkmjhbenaaV12
namespace Go.Proofs.Ytphkmbkmjhbenaa
open Go Go.Vc Go.ChangeShapes Go.WideShapes Go.ChangeAt

structure CallV where
  kind : Int
  n : Int
  m : Int
  data : List UInt8
  knows : List Bool
  arr : CallA

structure CallVAt (w : World) (a : Addr) (c : CallV) (p3 : Option Addr) (l3 c3 : Nat) (p4 : Option Addr) (l4 c4 : Nat) (p5 : Option Addr) (l5 c5 : Nat) (p6 : Option Addr) (l6 c6 : Nat) : Prop where
  kind : w.cell? a = some (.int .i64 c.kind)
  n : w.cell? (a.add 1) = some (.int .i64 c.n)
  m : w.cell? (a.add 2) = some (.int .i64 c.m)
  dat : w.cell? (a.add 3) = some (.slice p3 l3 c3)
  bytes : BytesAt w p3 l3 c.data
  kn : w.cell? (a.add 4) = some (.slice p4 l4 c4)
  bools : BoolsAt w p4 l4 c.knows
  arr : CallAAt w (a.add 5) c.arr p5 l5 c5 p6 l6 c6

def CallsVAt (w : World) (p : Option Addr) (l : Nat) (L : List CallV) : Prop :=
  l = L.length ∧ ∀ i c, L[i]? = some c → ∃ a p3 l3 c3 p4 l4 c4 p5 l5 c5 p6 l6 c6, p = some a ∧ CallVAt w (a.add (i * 12)) c p3 l3 c3 p4 l4 c4 p5 l5 c5 p6 l6 c6

theorem list12 {α : Type} : ∀ (l : List α), l.length = 12 → ∃ y0 y1 y2 y3 y4 y5 y6 y7 y8 y9 y10 y11, l = [y0, y1, y2, y3, y4, y5, y6, y7, y8, y9, y10, y11]
  | [y0, y1, y2, y3, y4, y5, y6, y7, y8, y9, y10, y11], _ => ⟨y0, y1, y2, y3, y4, y5, y6, y7, y8, y9, y10, y11, rfl⟩

section
variable {H : Type} {enc : TypeId × Value → H} {w : World} {base : Nat} {sp : Nat → Bool} {held : Bool}

theorem rd_bools {n : Nat} {cs : List Value} {x : DataW H × List MemPlace} (h : DataW.trod enc Try.prog w base sp held n 37 cs = some x) :
    ∃ p l c ks, cs = [.slice p l c] ∧ BoolsAt w p l ks := by
  rcases DataW.trod_slice (e := 4) (by kernel_rfl) h with ⟨rfl, _⟩ | ⟨a, len, cap, elems, rest, n', _, rfl, _⟩
  · exact ⟨none, 0, 0, [], rfl, BoolsAt.none _ _⟩
  · obtain ⟨p, l, c, ks, he, hk⟩ := open_bools (v := .slice (some a) len cap) ⟨_, _, _, rfl⟩ ⟨n, h⟩
    cases he
    exact ⟨_, _, _, ks, rfl, hk⟩

set_option maxHeartbeats 2000000 in
theorem rd_callV {n : Nat} {ys : List Value} {y : DataW H × List MemPlace} (hlen : ys.length = 12) (hy : DataW.trod enc Try.prog w base sp held n 42 ys = some y) :
    ∃ (cl : CallV) (p3 : Option Addr) (l3 c3 : Nat) (p4 : Option Addr) (l4 c4 : Nat) (p5 : Option Addr) (l5 c5 : Nat) (p6 : Option Addr) (l6 c6 : Nat),
      ys = [.int .i64 cl.kind, .int .i64 cl.n, .int .i64 cl.m, .slice p3 l3 c3, .slice p4 l4 c4, .int .i64 cl.arr.kind, .int .i64 cl.arr.d, .int .i64 cl.arr.n, .int .i64 cl.arr.m, .int .u8 (cl.arr.y.toNat : Int), .slice p5 l5 c5, .slice p6 l6 c6] ∧
      BytesAt w p3 l3 cl.data ∧ BoolsAt w p4 l4 cl.knows ∧ BytesAt w p5 l5 cl.arr.b ∧
      (l6 = cl.arr.keep.length ∧ ∀ i ks, cl.arr.keep[i]? = some ks → ∃ a q n c, p6 = some a ∧ w.cell? (a.add (i * 1)) = some (.slice q n c) ∧ IntsAt w q n ks) ∧
      (-9223372036854775808 ≤ cl.arr.n ∧ cl.arr.n ≤ 9223372036854775807) ∧ (-9223372036854775808 ≤ cl.arr.m ∧ cl.arr.m ≤ 9223372036854775807) := by
  obtain ⟨xs, n', _, _, _, hxl, hf⟩ := DataW.trod_struct Try.underlying42 hy
  obtain ⟨y0, y1, y2, y3, y4, y5, y6, y7, y8, y9, y10, y11, rfl⟩ := list12 ys hlen
  have e1 : Try.prog.cellsOf 3 = 1 := by kernel_rfl
  have e3 : Try.prog.cellsOf 22 = 1 := by kernel_rfl
  have e4 : Try.prog.cellsOf 37 = 1 := by kernel_rfl
  have e5 : Try.prog.cellsOf 40 = 7 := by kernel_rfl
  have hx : ∀ j, j < 6 → ∃ x, xs[j]? = some x := fun j hj => ⟨xs[j]'(by rw [hxl]; exact hj), List.getElem?_eq_getElem _⟩
  obtain ⟨x0, hx0⟩ := hx 0 (by omega)
  obtain ⟨x1, hx1⟩ := hx 1 (by omega)
  obtain ⟨x2, hx2⟩ := hx 2 (by omega)
  obtain ⟨x3, hx3⟩ := hx 3 (by omega)
  obtain ⟨x4, hx4⟩ := hx 4 (by omega)
  obtain ⟨x5, hx5⟩ := hx 5 (by omega)
  have f0 : DataW.trod enc Try.prog w base sp held n' 3 (([y0, y1, y2, y3, y4, y5, y6, y7, y8, y9, y10, y11].drop 0).take (Try.prog.cellsOf 3)) = some x0 := (hf 0 _ rfl).trans hx0
  rw [e1] at f0
  have f0' : DataW.trod enc Try.prog w base sp held n' 3 [y0] = some x0 := f0
  have f1 : DataW.trod enc Try.prog w base sp held n' 3 (([y0, y1, y2, y3, y4, y5, y6, y7, y8, y9, y10, y11].drop 1).take (Try.prog.cellsOf 3)) = some x1 := (hf 1 _ rfl).trans hx1
  rw [e1] at f1
  have f1' : DataW.trod enc Try.prog w base sp held n' 3 [y1] = some x1 := f1
  have f2 : DataW.trod enc Try.prog w base sp held n' 3 (([y0, y1, y2, y3, y4, y5, y6, y7, y8, y9, y10, y11].drop 2).take (Try.prog.cellsOf 3)) = some x2 := (hf 2 _ rfl).trans hx2
  rw [e1] at f2
  have f2' : DataW.trod enc Try.prog w base sp held n' 3 [y2] = some x2 := f2
  have f3 : DataW.trod enc Try.prog w base sp held n' 22 (([y0, y1, y2, y3, y4, y5, y6, y7, y8, y9, y10, y11].drop 3).take (Try.prog.cellsOf 22)) = some x3 := (hf 3 _ rfl).trans hx3
  rw [e3] at f3
  have f3' : DataW.trod enc Try.prog w base sp held n' 22 [y3] = some x3 := f3
  have f4 : DataW.trod enc Try.prog w base sp held n' 37 (([y0, y1, y2, y3, y4, y5, y6, y7, y8, y9, y10, y11].drop 4).take (Try.prog.cellsOf 37)) = some x4 := (hf 4 _ rfl).trans hx4
  rw [e4] at f4
  have f4' : DataW.trod enc Try.prog w base sp held n' 37 [y4] = some x4 := f4
  have f5 : DataW.trod enc Try.prog w base sp held n' 40 (([y0, y1, y2, y3, y4, y5, y6, y7, y8, y9, y10, y11].drop 5).take (Try.prog.cellsOf 40)) = some x5 := (hf 5 _ rfl).trans hx5
  rw [e5] at f5
  have f5' : DataW.trod enc Try.prog w base sp held n' 40 [y5, y6, y7, y8, y9, y10, y11] = some x5 := f5
  obtain ⟨n0, q0, g0⟩ := rd_int Try.underlying3 f0'
  obtain ⟨n1, q1, g1⟩ := rd_int Try.underlying3 f1'
  obtain ⟨n2, q2, g2⟩ := rd_int Try.underlying3 f2'
  obtain ⟨p3, l3, c3, bs, q3, g3, _, _, _⟩ := rd_bytes (e := 5) (by kernel_rfl) (by kernel_rfl) (by kernel_rfl) f3'
  obtain ⟨p4, l4, c4, ks, q4, g4⟩ := rd_bools f4'
  obtain ⟨cl, p5, l5, c5, p6, l6, c6, q5, g5, g6, gn, gm⟩ := rd_callA rfl f5'
  cases q0; cases q1; cases q2; cases q3; cases q4; cases q5
  exact ⟨⟨n0, n1, n2, bs, ks, cl⟩, p3, l3, c3, p4, l4, c4, p5, l5, c5, p6, l6, c6, rfl, g3, g4, g5, g6, gn, gm⟩

theorem open_scriptV {v : Value} {d : DataW H} {ps : List MemPlace} (hs : ∃ a l c, v = .slice a l c) (h : DataW.Trod enc Try.prog w base sp held 33 v d ps) :
    ∃ p l c L, v = .slice p l c ∧ CallsVAt w p l L := by
  obtain ⟨p, l, c, rfl⟩ := hs
  obtain ⟨fuel, h⟩ := h
  obtain ⟨p', l', c', he, _, _, _, hrow⟩ := rd_rows (t := 33) (e := 42) (k := 12) (by kernel_rfl) (by kernel_rfl) h
  cases he
  have hone : ∀ i, i < l → ∃ cl, ∃ a p3 l3 c3 p4 l4 c4 p5 l5 c5 p6 l6 c6, p = some a ∧ CallVAt w (a.add (i * 12)) cl p3 l3 c3 p4 l4 c4 p5 l5 c5 p6 l6 c6 := by
    intro i hi
    obtain ⟨a, ys, n, y, ha, hy, hlen, hcell⟩ := hrow i hi
    obtain ⟨cl, p3, l3, c3, p4, l4, c4, p5, l5, c5, p6, l6, c6, rfl, g3, g4, g5, g6, gn, gm⟩ := rd_callV hlen hy
    have hc : ∀ (j : Nat) (v : Value), w.cell? ((a.add (i * 12)).add (5 + j)) = some v → w.cell? (((a.add (i * 12)).add 5).add j) = some v := fun j v h => by rw [add_add (a.add (i * 12)) 5 j]; exact h
    exact ⟨cl, a, p3, l3, c3, p4, l4, c4, p5, l5, c5, p6, l6, c6, ha, hcell 0 (by omega), hcell 1 (by omega), hcell 2 (by omega), hcell 3 (by omega), g3, hcell 4 (by omega), g4,
      ⟨hcell 5 (by omega), hc 1 _ (hcell 6 (by omega)), hc 2 _ (hcell 7 (by omega)), hc 3 _ (hcell 8 (by omega)), hc 4 _ (hcell 9 (by omega)), hc 5 _ (hcell 10 (by omega)), g5, hc 6 _ (hcell 11 (by omega)), g6, gn, gm⟩⟩
  have hlist : ∀ k, k ≤ l → ∃ L : List CallV, L.length = k ∧ ∀ i cl, L[i]? = some cl → ∃ a p3 l3 c3 p4 l4 c4 p5 l5 c5 p6 l6 c6, p = some a ∧ CallVAt w (a.add (i * 12)) cl p3 l3 c3 p4 l4 c4 p5 l5 c5 p6 l6 c6 := by
    intro k
    induction k with
    | zero => intro _; exact ⟨[], rfl, fun i cl hi => by simp at hi⟩
    | succ k ih =>
      intro hk
      obtain ⟨L, hL, hall⟩ := ih (by omega)
      obtain ⟨cl, hcl⟩ := hone k (by omega)
      refine ⟨L ++ [cl], by simp [hL], fun i c' hi => ?_⟩
      rw [List.getElem?_append] at hi
      split at hi
      · exact hall i c' hi
      · have : i - L.length = 0 := by
          rcases hq : i - L.length with _ | q
          · rfl
          · rw [hq] at hi; simp at hi
        rw [this] at hi
        cases hi
        have : i = k := by omega
        subst this
        exact hcl
  obtain ⟨L, hL, hall⟩ := hlist l (Nat.le_refl _)
  exact ⟨p, l, c, L, rfl, hL.symm, hall⟩
end

theorem smallV_spec (k n m : Int) (p3 : Option Addr) (l3 c3 : Nat) (p4 : Option Addr) (l4 c4 : Nat) (a b c d y : Int) (p5 : Option Addr) (l5 c5 : Nat) (p6 : Option Addr) (l6 c6 : Nat) (w : World) :
    Calls Try.prog 12 #[.agg #[.int .i64 k, .int .i64 n, .int .i64 m, .slice p3 l3 c3, .slice p4 l4 c4, .int .i64 a, .int .i64 b, .int .i64 c, .int .i64 d, .int .u8 y, .slice p5 l5 c5, .slice p6 l6 c6]] w
      fun e w' => e = .returned (.bool (decide (l3 ≤ 60 ∧ l4 ≤ 40))) ∧ Ext w w' := by
  refine (F12_calls k n m p3 l3 c3 p4 l4 c4 a b c d y p5 l5 c5 p6 l6 c6 w (fun v w' => v = .bool (decide (l3 ≤ 60 ∧ l4 ≤ 40)) ∧ Ext w w') ?_).mono (by rintro e w' ⟨v, rfl, rfl, h⟩; exact ⟨rfl, h⟩)
  intro k13 w14 hk
  have r : RowW w14 k13 _ := ⟨_, hk.at⟩
  refine ⟨_, _, _, r.row.cell rfl, condB_of (fun h => ⟨_, _, _, r.row.cell rfl, ?_, hk.ext⟩) (fun h => ⟨?_, hk.ext⟩)⟩
  · simp only [decide_eq_true_eq] at h
    congr 1
    rw [decide_eq_decide]
    omega
  · simp only [decide_eq_false_iff_not] at h
    rw [decide_eq_false (by omega)]
end Go.Proofs.Ytphkmbkmjhbenaa
