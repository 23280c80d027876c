/- Arguments: an array's script, bytes, ints, lists of ints. -/
import Derived.Test.YtbidancfbilbkaaA10
namespace Go.Proofs.Ytbidancfbilbkaa
open Go Go.Vc Go.ChangeShapes Go.WideShapes Go.ChangeAt Go.RowKit

section
variable {H : Type} {enc : TypeId × Value → H} {w : World} {base : Nat} {sp : Nat → Bool} {held : Bool}

theorem open_bs {v : Value} {d : DataW H} {ps : List MemPlace} (hs : ∃ a l c, v = .slice a l c) (h : DataW.Trod enc Try.prog w base sp held 29 v d ps) :
    ∃ p l c bs, v = .slice p l c ∧ BytesAt w p l bs ∧ l ≤ c ∧ c ≤ maxLen ∧ (p = none → l = 0) := by
  obtain ⟨a, l, c, rfl⟩ := hs
  obtain ⟨fuel, h⟩ := h
  obtain ⟨p, l', c', bs, he, h1⟩ := rd_bytes (t := 29) (e := 5) (by kernel_rfl) (by kernel_rfl) (by kernel_rfl) h
  cases he
  exact ⟨_, _, _, bs, rfl, h1⟩
theorem open_is {v : Value} {d : DataW H} {ps : List MemPlace} (hs : ∃ a l c, v = .slice a l c) (h : DataW.Trod enc Try.prog w base sp held 56 v d ps) :
    ∃ p l c ks, v = .slice p l c ∧ IntsAt w p l ks ∧ l ≤ c ∧ c ≤ maxLen := by
  obtain ⟨a, l, c, rfl⟩ := hs
  obtain ⟨fuel, h⟩ := h
  obtain ⟨p, l', c', zs, he, h1, h2, h3, h4, _⟩ := rd_nums (t := 56) (e := 3) (k := .i64) (by kernel_rfl) (by kernel_rfl) (by kernel_rfl) h
  cases he
  exact ⟨_, _, _, zs, rfl, ⟨h1, h2⟩, h3, h4⟩

theorem wf_i64 {n : Int} (h : (Lit.int .i64 n).wf = true) : -9223372036854775808 ≤ n ∧ n ≤ 9223372036854775807 := by
  simp only [Lit.wf, Bool.and_eq_true, decide_eq_true_eq] at h
  exact ⟨Int.le_trans (by decide) h.1, Int.le_trans h.2 (by decide)⟩
theorem wf_u8 {n : Int} (h : (Lit.int .u8 n).wf = true) : ∃ y : UInt8, n = (y.toNat : Int) := by
  simp only [Lit.wf, Bool.and_eq_true, decide_eq_true_eq] at h
  have a1 : (0 : Int) ≤ n := Int.le_trans (by decide) h.1
  have a2 : n ≤ 255 := Int.le_trans h.2 (by decide)
  refine ⟨UInt8.ofNat n.toNat, ?_⟩
  rw [UInt8.toNat_ofNat']
  omega

theorem list7 {α : Type} (l : List α) (h : l.length = 7) : ∃ y0 y1 y2 y3 y4 y5 y6, l = [y0, y1, y2, y3, y4, y5, y6] := by
  obtain ⟨y0, l, rfl⟩ := List.exists_cons_of_length_eq_add_one h
  obtain ⟨y1, l, rfl⟩ := List.exists_cons_of_length_eq_add_one (Nat.succ.inj h)
  obtain ⟨y2, l, rfl⟩ := List.exists_cons_of_length_eq_add_one (Nat.succ.inj (Nat.succ.inj h))
  obtain ⟨y3, l, rfl⟩ := List.exists_cons_of_length_eq_add_one (Nat.succ.inj (Nat.succ.inj (Nat.succ.inj h)))
  obtain ⟨y4, l, rfl⟩ := List.exists_cons_of_length_eq_add_one (Nat.succ.inj (Nat.succ.inj (Nat.succ.inj (Nat.succ.inj h))))
  obtain ⟨y5, l, rfl⟩ := List.exists_cons_of_length_eq_add_one (Nat.succ.inj (Nat.succ.inj (Nat.succ.inj (Nat.succ.inj (Nat.succ.inj h)))))
  obtain ⟨y6, l, rfl⟩ := List.exists_cons_of_length_eq_add_one (Nat.succ.inj (Nat.succ.inj (Nat.succ.inj (Nat.succ.inj (Nat.succ.inj (Nat.succ.inj h))))))
  have : l = [] := List.eq_nil_of_length_eq_zero (by simpa using h)
  subst this
  exact ⟨y0, y1, y2, y3, y4, y5, y6, rfl⟩

theorem rd_keep {fuel : Nat} {cs : List Value} {x : DataW H × List MemPlace} (h : DataW.trod enc Try.prog w base sp held fuel 42 cs = some x) :
    ∃ p l c KS, cs = [.slice p l c] ∧ l = List.length KS ∧ ∀ (i : Nat) (ks : List Int), KS[i]? = some ks → ∃ a q n c, p = some a ∧ w.cell? (a.add (i * 1)) = some (.slice q n c) ∧ IntsAt w q n ks := by
  obtain ⟨p, l, c, rfl, _, _, _, hrow⟩ := rd_rows (t := 42) (e := 56) (k := 1) (by kernel_rfl) (by kernel_rfl) h
  have hone : ∀ i, i < l → ∃ ks : List Int, ∃ a q n c, p = some a ∧ w.cell? (a.add (i * 1)) = some (.slice q n c) ∧ IntsAt w q n ks := by
    intro i hi
    obtain ⟨a, ys, n, y, ha, hy, hlen, hcell⟩ := hrow i hi
    obtain ⟨q, nn, cc, zs, rfl, g1, g2, _⟩ := rd_nums (t := 56) (e := 3) (k := .i64) (by kernel_rfl) (by kernel_rfl) (by kernel_rfl) hy
    have := hcell 0 (by omega)
    exact ⟨zs, a, q, nn, cc, ha, by rw [add_add] at this; exact this, g1, g2⟩
  have hlist : ∀ k, k ≤ l → ∃ KS : List (List Int), KS.length = k ∧ ∀ (i : Nat) (ks : List Int), KS[i]? = some ks → ∃ a q n c, p = some a ∧ w.cell? (a.add (i * 1)) = some (.slice q n c) ∧ IntsAt w q n ks := by
    intro k
    induction k with
    | zero => intro _; exact ⟨[], rfl, fun i ks hi => by simp at hi⟩
    | succ k ih =>
      intro hk
      obtain ⟨KS, hK, hall⟩ := ih (by omega)
      obtain ⟨ks0, hks0⟩ := hone k (by omega)
      refine ⟨KS ++ [ks0], by simp [hK], fun i ks hi => ?_⟩
      rw [List.getElem?_append] at hi
      split at hi
      · exact hall i ks hi
      · have : i - KS.length = 0 := by
          rcases hq : i - KS.length with _ | q
          · rfl
          · rw [hq] at hi; simp at hi
        rw [this] at hi
        cases hi
        have : i = k := by omega
        subst this
        exact hks0
  obtain ⟨KS, hK, hall⟩ := hlist l (Nat.le_refl _)
  exact ⟨p, l, c, KS, rfl, hK.symm, hall⟩

set_option maxHeartbeats 1000000 in
theorem rd_callA {n : Nat} {ys : List Value} {y : DataW H × List MemPlace} (hlen : ys.length = 7) (hy : DataW.trod enc Try.prog w base sp held n 44 ys = some y) :
    ∃ (cl : CallA) (p5 : Option Addr) (l5 c5 : Nat) (p6 : Option Addr) (l6 c6 : Nat), ys = [.int .i64 cl.kind, .int .i64 cl.d, .int .i64 cl.n, .int .i64 cl.m, .int .u8 (cl.y.toNat : Int), .slice p5 l5 c5, .slice p6 l6 c6] ∧ BytesAt w p5 l5 cl.b ∧
      (l6 = cl.keep.length ∧ ∀ i ks, cl.keep[i]? = some ks → ∃ a q n c, p6 = some a ∧ w.cell? (a.add (i * 1)) = some (.slice q n c) ∧ IntsAt w q n ks) ∧
      (-9223372036854775808 ≤ cl.n ∧ cl.n ≤ 9223372036854775807) ∧ (-9223372036854775808 ≤ cl.m ∧ cl.m ≤ 9223372036854775807) := by
  obtain ⟨xs, n', _, _, _, hxl, hf⟩ := DataW.trod_struct Try.underlying44 hy
  obtain ⟨y0, y1, y2, y3, y4, y5, y6, rfl⟩ := list7 ys hlen
  have e1 : Try.prog.cellsOf 3 = 1 := by kernel_rfl
  have e2 : Try.prog.cellsOf 5 = 1 := by kernel_rfl
  have e3 : Try.prog.cellsOf 29 = 1 := by kernel_rfl
  have e4 : Try.prog.cellsOf 42 = 1 := by kernel_rfl
  have hx : ∀ j, j < 7 → ∃ x, xs[j]? = some x := fun j hj => ⟨xs[j]'(by rw [hxl]; exact hj), List.getElem?_eq_getElem _⟩
  obtain ⟨x0, hx0⟩ := hx 0 (by omega)
  obtain ⟨x1, hx1⟩ := hx 1 (by omega)
  obtain ⟨x2, hx2⟩ := hx 2 (by omega)
  obtain ⟨x3, hx3⟩ := hx 3 (by omega)
  obtain ⟨x4, hx4⟩ := hx 4 (by omega)
  obtain ⟨x5, hx5⟩ := hx 5 (by omega)
  obtain ⟨x6, hx6⟩ := hx 6 (by omega)
  have f0 : DataW.trod enc Try.prog w base sp held n' 3 (([y0, y1, y2, y3, y4, y5, y6].drop 0).take (Try.prog.cellsOf 3)) = some x0 := (hf 0 _ rfl).trans hx0
  rw [e1] at f0
  have f0' : DataW.trod enc Try.prog w base sp held n' 3 [y0] = some x0 := f0
  have f1 : DataW.trod enc Try.prog w base sp held n' 3 (([y0, y1, y2, y3, y4, y5, y6].drop 1).take (Try.prog.cellsOf 3)) = some x1 := (hf 1 _ rfl).trans hx1
  rw [e1] at f1
  have f1' : DataW.trod enc Try.prog w base sp held n' 3 [y1] = some x1 := f1
  have f2 : DataW.trod enc Try.prog w base sp held n' 3 (([y0, y1, y2, y3, y4, y5, y6].drop 2).take (Try.prog.cellsOf 3)) = some x2 := (hf 2 _ rfl).trans hx2
  rw [e1] at f2
  have f2' : DataW.trod enc Try.prog w base sp held n' 3 [y2] = some x2 := f2
  have f3 : DataW.trod enc Try.prog w base sp held n' 3 (([y0, y1, y2, y3, y4, y5, y6].drop 3).take (Try.prog.cellsOf 3)) = some x3 := (hf 3 _ rfl).trans hx3
  rw [e1] at f3
  have f3' : DataW.trod enc Try.prog w base sp held n' 3 [y3] = some x3 := f3
  have f4 : DataW.trod enc Try.prog w base sp held n' 5 (([y0, y1, y2, y3, y4, y5, y6].drop 4).take (Try.prog.cellsOf 5)) = some x4 := (hf 4 _ rfl).trans hx4
  rw [e2] at f4
  have f4' : DataW.trod enc Try.prog w base sp held n' 5 [y4] = some x4 := f4
  have f5 : DataW.trod enc Try.prog w base sp held n' 29 (([y0, y1, y2, y3, y4, y5, y6].drop 5).take (Try.prog.cellsOf 29)) = some x5 := (hf 5 _ rfl).trans hx5
  rw [e3] at f5
  have f5' : DataW.trod enc Try.prog w base sp held n' 29 [y5] = some x5 := f5
  have f6 : DataW.trod enc Try.prog w base sp held n' 42 (([y0, y1, y2, y3, y4, y5, y6].drop 6).take (Try.prog.cellsOf 42)) = some x6 := (hf 6 _ rfl).trans hx6
  rw [e4] at f6
  have f6' : DataW.trod enc Try.prog w base sp held n' 42 [y6] = some x6 := f6
  obtain ⟨n0, q0, g0⟩ := rd_int Try.underlying3 f0'
  obtain ⟨n1, q1, g1⟩ := rd_int Try.underlying3 f1'
  obtain ⟨n2, q2, g2⟩ := rd_int Try.underlying3 f2'
  obtain ⟨n3, q3, g3⟩ := rd_int Try.underlying3 f3'
  obtain ⟨n4, q4, g4⟩ := rd_int Try.underlying5 f4'
  obtain ⟨p5, l5, c5, bs, q5, g5, _, _, _⟩ := rd_bytes (e := 5) (by kernel_rfl) (by kernel_rfl) (by kernel_rfl) f5'
  obtain ⟨p6, l6, c6, KS, q6, g6⟩ := rd_keep f6'
  cases q0; cases q1; cases q2; cases q3; cases q4; cases q5; cases q6
  obtain ⟨y, rfl⟩ := wf_u8 g4
  exact ⟨⟨n0, n1, n2, n3, y, bs, KS⟩, p5, l5, c5, p6, l6, c6, rfl, g5, g6, wf_i64 g2, wf_i64 g3⟩

theorem open_keep {v : Value} {d : DataW H} {ps : List MemPlace} (hs : ∃ a l c, v = .slice a l c) (h : DataW.Trod enc Try.prog w base sp held 42 v d ps) :
    ∃ p l c KS, v = .slice p l c ∧ l = List.length KS ∧ ∀ (i : Nat) (ks : List Int), KS[i]? = some ks → ∃ a q n c, p = some a ∧ w.cell? (a.add (i * 1)) = some (.slice q n c) ∧ IntsAt w q n ks := by
  obtain ⟨a, l, c, rfl⟩ := hs
  obtain ⟨fuel, h⟩ := h
  obtain ⟨p, l', c', KS, he, h1, h2⟩ := rd_keep h
  cases he
  exact ⟨_, _, _, KS, rfl, h1, h2⟩

theorem open_call {v : Value} {d : DataW H} {ps : List MemPlace} (hs : ∃ cs, v = .agg cs ∧ cs.size = Try.prog.cellsOf 44) (h : DataW.Trod enc Try.prog w base sp held 44 v d ps) :
    ∃ (cl : CallA) (p5 : Option Addr) (l5 c5 : Nat) (p6 : Option Addr) (l6 c6 : Nat), v = .agg #[.int .i64 cl.kind, .int .i64 cl.d, .int .i64 cl.n, .int .i64 cl.m, .int .u8 (cl.y.toNat : Int), .slice p5 l5 c5, .slice p6 l6 c6] ∧ BytesAt w p5 l5 cl.b ∧
      (l6 = cl.keep.length ∧ ∀ i ks, cl.keep[i]? = some ks → ∃ a q n c, p6 = some a ∧ w.cell? (a.add (i * 1)) = some (.slice q n c) ∧ IntsAt w q n ks) ∧
      (-9223372036854775808 ≤ cl.n ∧ cl.n ≤ 9223372036854775807) ∧ (-9223372036854775808 ≤ cl.m ∧ cl.m ≤ 9223372036854775807) := by
  obtain ⟨cs, rfl, hc⟩ := hs
  obtain ⟨fuel, h⟩ := h
  have e : Try.prog.cellsOf 44 = 7 := by kernel_rfl
  rw [e] at hc
  obtain ⟨cl, p5, l5, c5, p6, l6, c6, hy, h1⟩ := rd_callA (ys := cs.toList) (by simpa using hc) h
  exact ⟨cl, p5, l5, c5, p6, l6, c6, congrArg Value.agg (Array.toList_inj.1 hy), h1⟩

set_option maxHeartbeats 1000000 in
theorem open_script {v : Value} {d : DataW H} {ps : List MemPlace} (hs : ∃ a l c, v = .slice a l c) (h : DataW.Trod enc Try.prog w base sp held 37 v d ps) :
    ∃ p l c L, v = .slice p l c ∧ CallsAAt w p l L := by
  obtain ⟨p, l, c, rfl⟩ := hs
  obtain ⟨fuel, h⟩ := h
  obtain ⟨p', l', c', he, _, _, _, hrow⟩ := rd_rows (t := 37) (e := 44) (k := 7) (by kernel_rfl) (by kernel_rfl) h
  cases he
  have hone : ∀ i, i < l → ∃ cl, ∃ a p5 l5 c5 p6 l6 c6, p = some a ∧ CallAAt w (a.add (i * 7)) cl p5 l5 c5 p6 l6 c6 := by
    intro i hi
    obtain ⟨a, ys, n, y, ha, hy, hlen, hcell⟩ := hrow i hi
    obtain ⟨cl, p5, l5, c5, p6, l6, c6, rfl, g5, g6, gn, gm⟩ := rd_callA hlen hy
    exact ⟨cl, a, p5, l5, c5, p6, l6, c6, ha, hcell 0 (by omega), hcell 1 (by omega), hcell 2 (by omega), hcell 3 (by omega), hcell 4 (by omega), hcell 5 (by omega), g5, hcell 6 (by omega), g6, gn, gm⟩
  have hlist : ∀ k, k ≤ l → ∃ L : List CallA, L.length = k ∧ ∀ i cl, L[i]? = some cl → ∃ a p5 l5 c5 p6 l6 c6, p = some a ∧ CallAAt w (a.add (i * 7)) cl p5 l5 c5 p6 l6 c6 := by
    intro k
    induction k with
    | zero => intro _; exact ⟨[], rfl, fun i cl hi => by simp at hi⟩
    | succ k ih =>
      intro hk
      obtain ⟨L, hL, hall⟩ := ih (by omega)
      obtain ⟨cl, hcl⟩ := hone k (by omega)
      refine ⟨L ++ [cl], by simp [hL], fun i c' hi => ?_⟩
      rw [List.getElem?_append] at hi
      split at hi
      · exact hall i c' hi
      · have : i - L.length = 0 := by
          rcases hq : i - L.length with _ | q
          · rfl
          · rw [hq] at hi; simp at hi
        rw [this] at hi
        cases hi
        have : i = k := by omega
        subst this
        exact hcl
  obtain ⟨L, hL, hall⟩ := hlist l (Nat.le_refl _)
  exact ⟨p, l, c, L, rfl, hL.symm, hall⟩
end
end Go.Proofs.Ytbidancfbilbkaa
