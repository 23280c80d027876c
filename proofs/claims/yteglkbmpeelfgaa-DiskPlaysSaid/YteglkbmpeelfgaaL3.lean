/- Arguments: a script, bytes, ints. -/
import Derived.Test.YteglkbmpeelfgaaL2
namespace Go.Proofs.Yteglkbmpeelfgaa
open Go Go.Vc Go.ChangeShapes Go.WideShapes Go.ChangeAt Go.RowKit

section
variable {H : Type} {enc : TypeId × Value → H} {w : World} {base : Nat} {sp : Nat → Bool} {held : Bool}

theorem open_bs {v : Value} {d : DataW H} {ps : List MemPlace} (hs : ∃ a l c, v = .slice a l c) (h : DataW.Trod enc Try.prog w base sp held 24 v d ps) :
    ∃ p l c bs, v = .slice p l c ∧ BytesAt w p l bs ∧ l ≤ c ∧ c ≤ maxLen ∧ (p = none → l = 0) := by
  obtain ⟨a, l, c, rfl⟩ := hs
  obtain ⟨fuel, h⟩ := h
  obtain ⟨p, l', c', bs, he, h1⟩ := rd_bytes (t := 24) (e := 5) (by kernel_rfl) (by kernel_rfl) (by kernel_rfl) h
  cases he
  exact ⟨_, _, _, bs, rfl, h1⟩
theorem open_is {v : Value} {d : DataW H} {ps : List MemPlace} (hs : ∃ a l c, v = .slice a l c) (h : DataW.Trod enc Try.prog w base sp held 34 v d ps) :
    ∃ p l c ks, v = .slice p l c ∧ IntsAt w p l ks ∧ l ≤ c ∧ c ≤ maxLen := by
  obtain ⟨a, l, c, rfl⟩ := hs
  obtain ⟨fuel, h⟩ := h
  obtain ⟨p, l', c', zs, he, h1, h2, h3, h4, _⟩ := rd_nums (t := 34) (e := 3) (k := .i64) (by kernel_rfl) (by kernel_rfl) (by kernel_rfl) h
  cases he
  exact ⟨_, _, _, zs, rfl, ⟨h1, h2⟩, h3, h4⟩

theorem wf_i64 {n : Int} (h : (Lit.int .i64 n).wf = true) : -9223372036854775808 ≤ n ∧ n ≤ 9223372036854775807 := by
  simp only [Lit.wf, Bool.and_eq_true, decide_eq_true_eq] at h
  exact ⟨Int.le_trans (by decide) h.1, Int.le_trans h.2 (by decide)⟩
theorem wf_u8 {n : Int} (h : (Lit.int .u8 n).wf = true) : ∃ y : UInt8, n = (y.toNat : Int) := by
  simp only [Lit.wf, Bool.and_eq_true, decide_eq_true_eq] at h
  have a1 : (0 : Int) ≤ n := Int.le_trans (by decide) h.1
  have a2 : n ≤ 255 := Int.le_trans h.2 (by decide)
  refine ⟨UInt8.ofNat n.toNat, ?_⟩
  rw [UInt8.toNat_ofNat']
  omega

theorem list6 {α : Type} (l : List α) (h : l.length = 6) : ∃ y0 y1 y2 y3 y4 y5, l = [y0, y1, y2, y3, y4, y5] := by
  obtain ⟨y0, l, rfl⟩ := List.exists_cons_of_length_eq_add_one h
  obtain ⟨y1, l, rfl⟩ := List.exists_cons_of_length_eq_add_one (Nat.succ.inj h)
  obtain ⟨y2, l, rfl⟩ := List.exists_cons_of_length_eq_add_one (Nat.succ.inj (Nat.succ.inj h))
  obtain ⟨y3, l, rfl⟩ := List.exists_cons_of_length_eq_add_one (Nat.succ.inj (Nat.succ.inj (Nat.succ.inj h)))
  obtain ⟨y4, l, rfl⟩ := List.exists_cons_of_length_eq_add_one (Nat.succ.inj (Nat.succ.inj (Nat.succ.inj (Nat.succ.inj h))))
  obtain ⟨y5, l, rfl⟩ := List.exists_cons_of_length_eq_add_one (Nat.succ.inj (Nat.succ.inj (Nat.succ.inj (Nat.succ.inj (Nat.succ.inj h)))))
  have : l = [] := List.eq_nil_of_length_eq_zero (by simpa using h)
  subst this
  exact ⟨y0, y1, y2, y3, y4, y5, rfl⟩

set_option maxHeartbeats 1000000 in
theorem open_script {v : Value} {d : DataW H} {ps : List MemPlace} (hs : ∃ a l c, v = .slice a l c) (h : DataW.Trod enc Try.prog w base sp held 23 v d ps) :
    ∃ p l c L, v = .slice p l c ∧ CallsAt w p l L := by
  obtain ⟨p, l, c, rfl⟩ := hs
  obtain ⟨fuel, h⟩ := h
  obtain ⟨p', l', c', he, _, _, hp, hrow⟩ := rd_rows (t := 23) (e := 46) (k := 6) (by kernel_rfl) (by kernel_rfl) h
  cases he
  have hone : ∀ i, i < l → ∃ cl, ∃ a p4 l4 c4 p5 l5 c5, p = some a ∧ CallAt w (a.add (i * 6)) cl p4 l4 c4 p5 l5 c5 := by
    intro i hi
    obtain ⟨a, ys, n, y, ha, hy, hlen, hcell⟩ := hrow i hi
    obtain ⟨xs, n', _, _, _, hxl, hf⟩ := DataW.trod_struct Try.underlying46 hy
    obtain ⟨y0, y1, y2, y3, y4, y5, rfl⟩ := list6 ys hlen
    have e1 : Try.prog.cellsOf 3 = 1 := by kernel_rfl
    have e2 : Try.prog.cellsOf 5 = 1 := by kernel_rfl
    have e3 : Try.prog.cellsOf 24 = 1 := by kernel_rfl
    have e4 : Try.prog.cellsOf 34 = 1 := by kernel_rfl
    have hx : ∀ j, j < 6 → ∃ x, xs[j]? = some x := fun j hj => ⟨xs[j]'(by rw [hxl]; exact hj), List.getElem?_eq_getElem _⟩
    obtain ⟨x0, hx0⟩ := hx 0 (by omega)
    obtain ⟨x1, hx1⟩ := hx 1 (by omega)
    obtain ⟨x2, hx2⟩ := hx 2 (by omega)
    obtain ⟨x3, hx3⟩ := hx 3 (by omega)
    obtain ⟨x4, hx4⟩ := hx 4 (by omega)
    obtain ⟨x5, hx5⟩ := hx 5 (by omega)
    have f0 : DataW.trod enc Try.prog w base sp held n' 3 (([y0, y1, y2, y3, y4, y5].drop 0).take (Try.prog.cellsOf 3)) = some x0 := (hf 0 _ rfl).trans hx0
    rw [e1] at f0
    have f0' : DataW.trod enc Try.prog w base sp held n' 3 [y0] = some x0 := f0
    have f1 : DataW.trod enc Try.prog w base sp held n' 3 (([y0, y1, y2, y3, y4, y5].drop 1).take (Try.prog.cellsOf 3)) = some x1 := (hf 1 _ rfl).trans hx1
    rw [e1] at f1
    have f1' : DataW.trod enc Try.prog w base sp held n' 3 [y1] = some x1 := f1
    have f2 : DataW.trod enc Try.prog w base sp held n' 3 (([y0, y1, y2, y3, y4, y5].drop 2).take (Try.prog.cellsOf 3)) = some x2 := (hf 2 _ rfl).trans hx2
    rw [e1] at f2
    have f2' : DataW.trod enc Try.prog w base sp held n' 3 [y2] = some x2 := f2
    have f3 : DataW.trod enc Try.prog w base sp held n' 5 (([y0, y1, y2, y3, y4, y5].drop 3).take (Try.prog.cellsOf 5)) = some x3 := (hf 3 _ rfl).trans hx3
    rw [e2] at f3
    have f3' : DataW.trod enc Try.prog w base sp held n' 5 [y3] = some x3 := f3
    have f4 : DataW.trod enc Try.prog w base sp held n' 24 (([y0, y1, y2, y3, y4, y5].drop 4).take (Try.prog.cellsOf 24)) = some x4 := (hf 4 _ rfl).trans hx4
    rw [e3] at f4
    have f4' : DataW.trod enc Try.prog w base sp held n' 24 [y4] = some x4 := f4
    have f5 : DataW.trod enc Try.prog w base sp held n' 34 (([y0, y1, y2, y3, y4, y5].drop 5).take (Try.prog.cellsOf 34)) = some x5 := (hf 5 _ rfl).trans hx5
    rw [e4] at f5
    have f5' : DataW.trod enc Try.prog w base sp held n' 34 [y5] = some x5 := f5
    obtain ⟨n0, q0, g0⟩ := rd_int Try.underlying3 f0'
    obtain ⟨n1, q1, g1⟩ := rd_int Try.underlying3 f1'
    obtain ⟨n2, q2, g2⟩ := rd_int Try.underlying3 f2'
    obtain ⟨n3, q3, g3⟩ := rd_int Try.underlying5 f3'
    obtain ⟨p4, l4, c4, bs, q4, g4, _, _, _⟩ := rd_bytes (e := 5) (by kernel_rfl) (by kernel_rfl) (by kernel_rfl) f4'
    obtain ⟨p5, l5, c5, zs, q5, g5, g6, g7, g8, _⟩ := rd_nums (e := 3) (k := .i64) (by kernel_rfl) (by kernel_rfl) (by kernel_rfl) f5'
    cases q0; cases q1; cases q2; cases q3; cases q4; cases q5
    obtain ⟨y, rfl⟩ := wf_u8 g3
    refine ⟨⟨n0, n1, n2, y, bs, zs⟩, a, p4, l4, c4, p5, l5, c5, ha, ?_, hcell 1 (by omega), hcell 2 (by omega), hcell 3 (by omega), hcell 4 (by omega), g4, hcell 5 (by omega), ⟨g5, g6⟩, wf_i64 g2⟩
    exact hcell 0 (by omega)
  -- the list of them
  have hlist : ∀ k, k ≤ l → ∃ L : List CallR, L.length = k ∧ ∀ i cl, L[i]? = some cl → ∃ a p4 l4 c4 p5 l5 c5, p = some a ∧ CallAt w (a.add (i * 6)) cl p4 l4 c4 p5 l5 c5 := by
    intro k
    induction k with
    | zero => intro _; exact ⟨[], rfl, fun i cl hi => by simp at hi⟩
    | succ k ih =>
      intro hk
      obtain ⟨L, hL, hall⟩ := ih (by omega)
      obtain ⟨cl, hcl⟩ := hone k (by omega)
      refine ⟨L ++ [cl], by simp [hL], fun i c' hi => ?_⟩
      rw [List.getElem?_append] at hi
      split at hi
      · exact hall i c' hi
      · rename_i hge
        have : i - L.length = 0 := by
          rcases hq : i - L.length with _ | q
          · rfl
          · rw [hq] at hi; simp at hi
        rw [this] at hi
        cases hi
        have : i = k := by omega
        subst this
        exact hcl
  obtain ⟨L, hL, hall⟩ := hlist l (Nat.le_refl _)
  exact ⟨p, l, c, L, rfl, hL.symm, hall⟩
end
end Go.Proofs.Yteglkbmpeelfgaa
