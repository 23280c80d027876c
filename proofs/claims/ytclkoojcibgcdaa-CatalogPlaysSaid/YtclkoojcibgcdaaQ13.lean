/- Objects as an argument; Little; both catalogs are made. -/
import Derived.Test.YtclkoojcibgcdaaQ12
namespace Go.Proofs.Ytclkoojcibgcdaa
open Go Go.Vc Go.ChangeShapes Go.WideShapes Go.ChangeAt Go.RowKit

def LittleL (L : List Ob) : Prop := L.length ≤ 70 ∧ ∀ o ∈ L, o.key.size ≤ 100 ∧ o.st.length ≤ 40
theorem little_spec {w : World} {p : Option Addr} {l c : Nat} {L : List Ob} (hL : ObsR w p l L) : Calls Try.prog 11 #[.slice p l c] w fun e w' => ∃ b, e = .returned (.bool b) ∧ (b = true → LittleL L) ∧ w' = w := by
  have hl := hL.1
  refine (F11_calls p l c w (fun v w' => ∃ b, v = .bool b ∧ (b = true → LittleL L) ∧ w' = w) (fun w0 n w3 => ∃ i : Nat, n = i ∧ i ≤ l ∧ w3 = w ∧ ∀ o ∈ L.take i, o.key.size ≤ 100 ∧ o.st.length ≤ 40) (fun _ n _ => 70 - n.toNat) ?_).mono (by rintro e w' ⟨v, rfl, b, rfl, h⟩; exact ⟨b, rfl, h⟩)
  refine condB_of (fun _ => ⟨false, rfl, (fun h => by cases h), rfl⟩) fun h70 => ⟨⟨0, rfl, Nat.zero_le _, rfl, by simp⟩, ?_⟩
  simp only [decide_eq_false_iff_not] at h70
  rintro n w3 ⟨i, rfl, hi, rfl, hall⟩
  intros
  refine condB_of (fun hlt => ?_) (fun hge => ?_)
  · simp only [decide_eq_true_eq] at hlt
    obtain ⟨o, ho⟩ : ∃ o, L[i]? = some o := ⟨L[i]'(by omega), List.getElem?_eq_getElem _⟩
    obtain ⟨a, q, n, d, rfl, c0, c1, c2, c3, hst, _⟩ := hL.2 i o ho
    have hn := hst.1
    rw [Int.toNat_natCast]
    refine ⟨⟨by omega, hlt⟩, _, by rw [add_add]; exact c0, condB_of (fun _ => ⟨false, rfl, (fun h => by cases h), rfl⟩) fun hk => ⟨⟨by omega, hlt⟩, _, _, _, c3, condB_of (fun _ => ⟨false, rfl, (fun h => by cases h), rfl⟩) fun hs => ?_⟩⟩
    simp only [decide_eq_false_iff_not] at hk hs
    rw [w64 (by omega)]
    refine ⟨⟨i + 1, by omega, by omega, rfl, fun x hx => ?_⟩, by show 70 - ((i : Int) + 1).toNat < 70 - i; omega⟩
    rw [List.take_add_one, ho] at hx
    rcases List.mem_append.1 hx with h | h
    · exact hall x h
    · simp at h; subst h; exact ⟨by omega, by omega⟩
  · simp only [decide_eq_false_iff_not] at hge
    rw [List.take_of_length_le (by omega)] at hall
    exact ⟨true, rfl, fun _ => ⟨by omega, hall⟩, rfl⟩

section
variable {H : Type} {enc : TypeId × Value → H} {w : World} {base : Nat} {sp : Nat → Bool} {held : Bool}
theorem list4 {α : Type} (l : List α) (h : l.length = 4) : ∃ y0 y1 y2 y3, l = [y0, y1, y2, y3] := by
  match l, h with
  | [y0, y1, y2, y3], _ => exact ⟨y0, y1, y2, y3, rfl⟩
set_option maxHeartbeats 1000000 in
theorem rd_ob {fuel : Nat} {ys : List Value} {y : DataW H × List MemPlace} (hlen : ys.length = 4) (hy : DataW.trod enc Try.prog w base sp held fuel 52 ys = some y) :
    ∃ (o : Ob) (p : Option Addr) (l c : Nat), ys = [.string o.key, .int .i64 o.len, .int .i64 o.epoch, .slice p l c] ∧ IntsAt w p l o.st ∧ l ≤ c ∧ (p = none → l = 0) ∧ o.len ≤ 9223372036854775807 := by
  obtain ⟨xs, n', _, _, _, hxl, hf⟩ := DataW.trod_struct Try.underlying52 hy
  obtain ⟨y0, y1, y2, y3, rfl⟩ := list4 ys hlen
  have hxl' : xs.length = 4 := hxl
  obtain ⟨x0, f0⟩ := fld hxl' (by omega) (hf 0 _ rfl) cellsStr
  obtain ⟨x1, f1⟩ := fld hxl' (by omega) (hf 1 _ rfl) cellsInt
  obtain ⟨x2, f2⟩ := fld hxl' (by omega) (hf 2 _ rfl) cellsInt
  obtain ⟨x3, f3⟩ := fld hxl' (by omega) (hf 3 _ rfl) cellsInts
  obtain ⟨s, q0, _, _⟩ := DataW.trod_string Try.underlying9 f0
  obtain ⟨n1, q1, g1⟩ := rd_int Try.underlying3 f1
  obtain ⟨n2, q2, g2⟩ := rd_int Try.underlying3 f2
  obtain ⟨p, l, c, st, q3, hl, hcells, h1, h2, h3, _⟩ := rd_nums (e := 3) (k := .i64) (by kernel_rfl) (by kernel_rfl) (by kernel_rfl) f3
  cases q0; cases q1; cases q2; cases q3
  exact ⟨⟨s, n1, n2, st⟩, p, l, c, rfl, ⟨hl, hcells⟩, h1, h3, (wfi64 g1).2⟩
theorem open_obs {v : Value} {d : DataW H} {ps : List MemPlace} (hs : ∃ a l c, v = .slice a l c) (h : DataW.Trod enc Try.prog w base sp held 25 v d ps) : ∃ p l c L, v = .slice p l c ∧ ObsR w p l L := by
  obtain ⟨p, l, c, rfl⟩ := hs
  obtain ⟨fuel, h⟩ := h
  obtain ⟨p', l', c', he, _, _, _, hrow⟩ := rd_rows (t := 25) (e := 52) (k := 4) (by kernel_rfl) (by kernel_rfl) h
  cases he
  have hone : ∀ i, i < l → ∃ o : Ob, ∃ a q n d, p = some a ∧ w.cell? (a.add (i * 4)) = some (.string o.key) ∧ w.cell? ((a.add (i * 4)).add 1) = some (.int .i64 o.len) ∧ w.cell? ((a.add (i * 4)).add 2) = some (.int .i64 o.epoch) ∧
    w.cell? ((a.add (i * 4)).add 3) = some (.slice q n d) ∧ IntsAt w q n o.st ∧ n ≤ d ∧ (q = none → n = 0) ∧ o.len ≤ 9223372036854775807 := by
    intro i hi
    obtain ⟨a, ys, n, y, ha, hy, hlen, hcell⟩ := hrow i hi
    obtain ⟨o, q, m, d, rfl, g1, g2, g3, g4⟩ := rd_ob hlen hy
    exact ⟨o, a, q, m, d, ha, hcell 0 (by omega), hcell 1 (by omega), hcell 2 (by omega), hcell 3 (by omega), g1, g2, g3, g4⟩
  have hlist : ∀ k, k ≤ l → ∃ L : List Ob, L.length = k ∧ ∀ i o, L[i]? = some o → ∃ a q n d, p = some a ∧ w.cell? (a.add (i * 4)) = some (.string o.key) ∧ w.cell? ((a.add (i * 4)).add 1) = some (.int .i64 o.len) ∧ w.cell? ((a.add (i * 4)).add 2) = some (.int .i64 o.epoch) ∧
    w.cell? ((a.add (i * 4)).add 3) = some (.slice q n d) ∧ IntsAt w q n o.st ∧ n ≤ d ∧ (q = none → n = 0) ∧ o.len ≤ 9223372036854775807 := by
    intro k
    induction k with
    | zero => intro _; exact ⟨[], rfl, fun i o hi => by simp at hi⟩
    | succ k ih =>
      intro hk
      obtain ⟨L, hL, hall⟩ := ih (by omega)
      obtain ⟨o, ho⟩ := hone k (by omega)
      refine ⟨L ++ [o], by simp [hL], fun i c' hi => ?_⟩
      rw [List.getElem?_append] at hi
      split at hi
      · exact hall i c' hi
      · have : i - L.length = 0 := by
          rcases hq : i - L.length with _ | q
          · rfl
          · rw [hq] at hi; simp at hi
        rw [this] at hi
        cases hi
        have : i = k := by omega
        subst this
        exact ho
  obtain ⟨L, hL, hall⟩ := hlist l (Nat.le_refl _)
  exact ⟨p, l, c, L, rfl, hL.symm, hall⟩
end
end Go.Proofs.Ytclkoojcibgcdaa
