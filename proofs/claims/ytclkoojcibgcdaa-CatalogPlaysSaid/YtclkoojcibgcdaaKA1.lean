/- A script of a catalog's calls, as it lies; a catalog behind one. -/
import Derived.Test.YtclkoojcibgcdaaKL1
namespace Go.Proofs.Ytclkoojcibgcdaa
open Go Go.Vc Go.ChangeShapes Go.WideShapes Go.ChangeAt Go.RowKit

structure CallC where
  kind : Int
  rk : Int
  key : ByteArray
  len : Int
  st : List Int
  epoch : Int
structure CallCAt (w : World) (a : Addr) (cl : CallC) (p : Option Addr) (l c : Nat) : Prop where
  kind : w.cell? a = some (.int .i64 cl.kind)
  rk : w.cell? (a.add 1) = some (.int .i64 cl.rk)
  key : w.cell? (a.add 2) = some (.string cl.key)
  len : w.cell? (a.add 3) = some (.int .i64 cl.len)
  st : w.cell? (a.add 4) = some (.slice p l c)
  epoch : w.cell? (a.add 5) = some (.int .i64 cl.epoch)
  ints : IntsAt w p l cl.st
  lc : l ≤ c
  nil : p = none → l = 0
  lr : -9223372036854775808 ≤ cl.len ∧ cl.len ≤ 9223372036854775807
def CallsCAt (w : World) (p : Option Addr) (l : Nat) (L : List CallC) : Prop :=
  l = L.length ∧ ∀ i cl, L[i]? = some cl → ∃ a q n d, p = some a ∧ CallCAt w (a.add (i * 6)) cl q n d
theorem CallCAt.ext {w w' : World} {a : Addr} {cl : CallC} {p : Option Addr} {l c : Nat} (h : CallCAt w a cl p l c) (hu : Ext w w') : CallCAt w' a cl p l c :=
  ⟨cellk h.kind hu, cellk h.rk hu, cellk h.key hu, cellk h.len hu, cellk h.st hu, cellk h.epoch hu, h.ints.ext hu, h.lc, h.nil, h.lr⟩
theorem CallsCAt.ext {w w' : World} {p : Option Addr} {l : Nat} {L : List CallC} (h : CallsCAt w p l L) (hu : Ext w w') : CallsCAt w' p l L :=
  ⟨h.1, fun i cl hi => by
    obtain ⟨a, q, n, d, h1, h2⟩ := h.2 i cl hi
    exact ⟨a, q, n, d, h1, h2.ext hu⟩⟩

def smallCC (cl : CallC) : Prop := cl.key.size ≤ 100 ∧ cl.st.length ≤ 40
instance (cl : CallC) : Decidable (smallCC cl) := inferInstanceAs (Decidable (_ ∧ _))
def doneC (g : Geo) (O : List Ob) (L : List CallC) : List Ob := L.foldl (fun O cl => if smallCC cl ∧ cl.kind = 2 then (applyO g O cl.rk cl.key cl.len cl.st cl.epoch).1 else O) O
theorem doneC_snoc (g : Geo) (O : List Ob) (L : List CallC) (cl : CallC) : doneC g O (L ++ [cl]) = if smallCC cl ∧ cl.kind = 2 then (applyO g (doneC g O L) cl.rk cl.key cl.len cl.st cl.epoch).1 else doneC g O L := by
  simp [doneC, List.foldl_append]

theorem smallc_spec (n1 n2 : Int) (s : ByteArray) (n4 : Int) (p : Option Addr) (l c : Nat) (n6 : Int) (w : World) :
    Calls Try.prog 15 #[.agg #[.int .i64 n1, .int .i64 n2, .string s, .int .i64 n4, .slice p l c, .int .i64 n6]] w fun e w' => e = .returned (.bool (decide (s.size ≤ 100 ∧ l ≤ 40))) ∧ Ext w w' := by
  refine (F15_calls n1 n2 s n4 p l c n6 w (fun v w' => v = .bool (decide (s.size ≤ 100 ∧ l ≤ 40)) ∧ Ext w w') ?_).mono (by rintro e w' ⟨v, rfl, rfl, h⟩; exact ⟨rfl, h⟩)
  intro k7 w8 hk
  have r : RowW w8 k7 _ := ⟨_, hk.at⟩
  refine ⟨_, by rw [add_add]; exact r.row.cell rfl, condB_of (fun h1 => ⟨_, _, _, by rw [add_add]; exact r.row.cell rfl, ?_, hk.ext⟩) fun h1 => ⟨?_, hk.ext⟩⟩
  · simp only [decide_eq_true_eq] at h1
    congr 1
    exact decide_eq_decide.2 (by omega)
  · simp only [decide_eq_false_iff_not] at h1
    rw [decide_eq_false (fun h => h1 (by omega))]

theorem up_new {w w0 w1 : World} {F0 F1 : Nat → Prop} (hx : Ext w w0) (h0 : ∀ x, F0 x → w.heap.size ≤ x) (hs : Step F0 F1 w0 w1) : Ext w w1 ∧ ∀ x, F1 x → w.heap.size ≤ x := by
  refine ⟨Upd.trans hx hs.upd fun x hx' hf => ?_, fun x hx' => ?_⟩
  · have := h0 x hf; omega
  · rcases hs.grow x hx' with h | h
    · exact h0 x h
    · exact Nat.le_trans hx.size h

set_option maxHeartbeats 2000000 in
theorem doneC_spec {g : Geo} (hg : GeoOk g) {w : World} {p : Option Addr} {l c : Nat} {L : List CallC} (hL : CallsCAt w p l L) :
    Calls Try.prog 21 #[gV g, .slice p l c] w fun e w' => ∃ b F, e = .returned (.pointer (some (at0 b))) ∧ Ext w w' ∧ Cat w' b g (doneC g [] (L.take 40)) F ∧ ∀ x, F x → w.heap.size ≤ x := by
  have hl := hL.1
  refine (F21_calls g.k g.m g.size g.stripes g.slots g.objects p l c w (fun v w' => ∃ b F, v = .pointer (some (at0 b)) ∧ Ext w w' ∧ Cat w' b g (doneC g [] (L.take 40)) F ∧ ∀ x, F x → w.heap.size ≤ x)
    (fun q _ n w22 => ∃ (b i : Nat) (F : Nat → Prop), q = some (at0 b) ∧ n = i ∧ i ≤ 40 ∧ i ≤ l ∧ Ext w w22 ∧ Cat w22 b g (doneC g [] (L.take i)) F ∧ ∀ x, F x → w.heap.size ≤ x) (fun _ _ n _ => 40 - n.toNat) ?_).mono (by rintro e w' ⟨v, rfl, b, F, rfl, h⟩; exact ⟨b, F, rfl, h⟩)
  intro k8 w9 hk8
  have r9 : RowW w9 k8 _ := ⟨_, hk8.at⟩
  refine ⟨_, r9.row.cell (n := 0) rfl, _, r9.row.cell rfl, _, r9.row.cell rfl, _, r9.row.cell rfl, _, r9.row.cell rfl, _, r9.row.cell rfl, (cnew_spec g (w := w9) (p := none) (l := 0) (c := 0) (L := []) ⟨rfl, fun i o hi => by simp at hi⟩ (fun o ho => by cases ho) (by omega)).mono ?_⟩
  have hob : 1 ≤ g.objects := hg.2.2.2.2.1
  rintro e w16 ⟨x16, ⟨hb, _⟩ | ⟨_, hb, _⟩ | ⟨_, _, b, O, F, hnew, rfl, h16, hF⟩⟩
  · exact absurd hg hb
  · rcases hb with hb | hb
    · simp only [List.length_nil] at hb; omega
    · cases hb
  have hO : O = [] := by
    have : newO g [] = some [] := rfl
    rw [this] at hnew
    cases hnew
    rfl
  subst hO
  have y16 := hk8.ext.trans x16
  refine ⟨_, _, rfl, ⟨b, 0, F, rfl, rfl, by omega, by omega, y16, h16, fun x hx => Nat.le_trans hk8.ext.size (hF x hx)⟩, ?_⟩
  rintro n21 w22 ⟨b', i, F2, hq, rfl, hi40, hil, x22, h22, hF2⟩
  cases hq
  intros
  have fin : i = 40 ∨ i = l → ∃ b' F, (Value.pointer (some (at0 b)) : Value) = .pointer (some (at0 b')) ∧ Ext w w22 ∧ Cat w22 b' g (doneC g [] (L.take 40)) F ∧ ∀ x, F x → w.heap.size ≤ x := fun hi => by
    have : L.take i = L.take 40 := by
      rcases hi with rfl | hi
      · rfl
      · rw [List.take_of_length_le (by omega), List.take_of_length_le (by omega)]
    rw [this] at h22
    exact ⟨b, F2, rfl, x22, h22, hF2⟩
  refine condB_of (fun h1 => condB_of (fun h2 => condB_of (fun _ => ?_) fun h => by cases h) fun h2 => ?_) fun h1 => ?_
  rotate_left
  · simp only [decide_eq_false_iff_not] at h2
    exact fin (.inl (by omega))
  · simp only [decide_eq_false_iff_not] at h1
    exact fin (.inr (by omega))
  simp only [decide_eq_true_eq] at h1 h2
  obtain ⟨cl, hcl⟩ : ∃ x, L[i]? = some x := ⟨L[i]'(by omega), List.getElem?_eq_getElem _⟩
  obtain ⟨a, q, n, d, rfl, hc0⟩ := hL.2 i cl hcl
  have hc := hc0.ext x22
  rw [Int.toNat_natCast]
  refine ⟨⟨by omega, h1⟩, _, hc.kind, _, hc.rk, _, hc.key, _, hc.len, _, _, _, hc.st, _, hc.epoch, (smallc_spec _ _ _ _ _ _ _ _ w22).mono ?_⟩
  rintro e w69 ⟨rfl, x69⟩
  have hc69 := hc.ext x69
  have h69 := h22.ext x69
  have y69 := x22.trans x69
  have hlen := hc.ints.1
  have htake : L.take (i + 1) = L.take i ++ [cl] := by rw [List.take_add_one, hcl]; rfl
  have mu : 40 - ((i + 1 : Nat) : Int).toNat < 40 - ((i : Nat) : Int).toNat := by simp only [Int.toNat_natCast]; omega
  have hwrap : IntKind.i64.wrap ((i : Int) + 1) = ((i + 1 : Nat) : Int) := by rw [w64 (by omega)]; omega
  rw [hwrap]
  have skip : ¬ (smallCC cl ∧ cl.kind = 2) → (∃ (b' j : Nat) (F : Nat → Prop), some (at0 b) = some (at0 b') ∧ ((i + 1 : Nat) : Int) = j ∧ j ≤ 40 ∧ j ≤ l ∧ Ext w w69 ∧ Cat w69 b' g (doneC g [] (L.take j)) F ∧ ∀ x, F x → w.heap.size ≤ x) ∧ 40 - ((i + 1 : Nat) : Int).toNat < 40 - ((i : Nat) : Int).toNat := fun hn =>
    ⟨⟨b, i + 1, F2, rfl, rfl, by omega, by omega, y69, by rw [htake, doneC_snoc, if_neg hn]; exact h69, hF2⟩, mu⟩
  refine ⟨_, rfl, condB_of (fun hs => ⟨⟨by omega, h1⟩, _, hc69.kind, condB_of (fun hk2 => fun w74 d74 => ?_) fun hk2 => skip ?_⟩) fun hs => skip ?_⟩
  · simp only [decide_eq_true_eq] at hs hk2
    have hc74 := hc69.ext d74.ext
    have h74 := h69.ext d74.ext
    have y74 := y69.trans d74.ext
    refine ⟨⟨by omega, h1⟩, _, hc74.rk, _, by rw [add_add]; exact hc74.key, _, by rw [add_add]; exact hc74.len, _, _, _, by rw [add_add]; exact hc74.st, ⟨by omega, h1⟩, _, hc74.epoch, (apply_spec h74 cl.rk cl.key cl.len hc.lr.2 cl.epoch hc74.ints (by omega) hc.lc hc.nil).mono ?_⟩
    rintro e w82 ⟨F3, rfl, s82, h82⟩
    obtain ⟨y82, hF3⟩ := up_new y74 hF2 s82
    refine ⟨_, rfl, ⟨b, i + 1, F3, rfl, rfl, by omega, by omega, y82, ?_, hF3⟩, mu⟩
    rw [htake, doneC_snoc, if_pos ⟨⟨hs.1, by omega⟩, hk2⟩]
    exact h82
  · simp only [decide_eq_false_iff_not] at hk2
    exact fun h => hk2 h.2
  · simp only [decide_eq_false_iff_not] at hs
    exact fun h => hs ⟨h.1.1, by have := h.1.2; omega⟩

/-! ## arguments -/
section
variable {H : Type} {enc : TypeId × Value → H} {w : World} {base : Nat} {sp : Nat → Bool} {held : Bool}

theorem wfi64 {n : Int} (h : (Lit.int .i64 n).wf = true) : -9223372036854775808 ≤ n ∧ n ≤ 9223372036854775807 := by
  simp only [Lit.wf, Bool.and_eq_true, decide_eq_true_eq] at h
  exact ⟨Int.le_trans (by decide) h.1, Int.le_trans h.2 (by decide)⟩
theorem list6 {α : Type} (l : List α) (h : l.length = 6) : ∃ y0 y1 y2 y3 y4 y5, l = [y0, y1, y2, y3, y4, y5] := by
  match l, h with
  | [y0, y1, y2, y3, y4, y5], _ => exact ⟨y0, y1, y2, y3, y4, y5, rfl⟩
theorem cellsInt : Try.prog.cellsOf 3 = 1 := by kernel_rfl
theorem cellsInts : Try.prog.cellsOf 37 = 1 := by kernel_rfl
theorem cellsStr : Try.prog.cellsOf 9 = 1 := by kernel_rfl
theorem cellsGeo : Try.prog.cellsOf 24 = 6 := by kernel_rfl
theorem cellsRec : Try.prog.cellsOf 39 = 4 := by kernel_rfl

/-- one field of a row -/
theorem fld {P : Program} {n' : Nat} {xs : List (DataW H × List MemPlace)} {m j off : Nat} {ys : List Value} {t : TypeId} {sz : Nat} (hxl : xs.length = m) (hj : j < m) (hf : DataW.trod enc P w base sp held n' t ((ys.drop off).take (P.cellsOf t)) = xs[j]?) (hc : P.cellsOf t = sz) :
    ∃ x, DataW.trod enc P w base sp held n' t ((ys.drop off).take sz) = some x := by
  rw [hc] at hf
  exact ⟨xs[j]'(by omega), by rw [hf, List.getElem?_eq_getElem]⟩

theorem open_geo {v : Value} {d : DataW H} {ps : List MemPlace} (hs : ∃ cs, v = .agg cs ∧ cs.size = Try.prog.cellsOf 24) (h : DataW.Trod enc Try.prog w base sp held 24 v d ps) : ∃ g : Geo, v = gV g := by
  obtain ⟨cs, rfl, hc⟩ := hs
  obtain ⟨fuel, h⟩ := h
  rw [cellsGeo] at hc
  obtain ⟨xs, n', _, _, _, hxl, hf⟩ := DataW.trod_struct Try.underlying24 h
  obtain ⟨y0, y1, y2, y3, y4, y5, hy⟩ := list6 cs.toList (by simpa using hc)
  have hcells : (Value.agg cs).cells.toList = [y0, y1, y2, y3, y4, y5] := hy
  rw [hcells] at hf
  have hxl' : xs.length = 6 := hxl
  obtain ⟨x0, f0⟩ := fld hxl' (by omega) (hf 0 _ rfl) cellsInt
  obtain ⟨x1, f1⟩ := fld hxl' (by omega) (hf 1 _ rfl) cellsInt
  obtain ⟨x2, f2⟩ := fld hxl' (by omega) (hf 2 _ rfl) cellsInt
  obtain ⟨x3, f3⟩ := fld hxl' (by omega) (hf 3 _ rfl) cellsInt
  obtain ⟨x4, f4⟩ := fld hxl' (by omega) (hf 4 _ rfl) cellsInt
  obtain ⟨x5, f5⟩ := fld hxl' (by omega) (hf 5 _ rfl) cellsInt
  obtain ⟨n0, q0, g0⟩ := rd_int Try.underlying3 f0
  obtain ⟨n1, q1, g1⟩ := rd_int Try.underlying3 f1
  obtain ⟨n2, q2, g2⟩ := rd_int Try.underlying3 f2
  obtain ⟨n3, q3, g3⟩ := rd_int Try.underlying3 f3
  obtain ⟨n4, q4, g4⟩ := rd_int Try.underlying3 f4
  obtain ⟨n5, q5, g5⟩ := rd_int Try.underlying3 f5
  cases q0; cases q1; cases q2; cases q3; cases q4; cases q5
  exact ⟨⟨n0, n1, n2, n3, n4, n5⟩, congrArg Value.agg (Array.toList_inj.1 hy)⟩

set_option maxHeartbeats 1000000 in
theorem rd_callC {fuel : Nat} {ys : List Value} {y : DataW H × List MemPlace} (hlen : ys.length = 6) (hy : DataW.trod enc Try.prog w base sp held fuel 41 ys = some y) :
    ∃ (cl : CallC) (p : Option Addr) (l c : Nat), ys = [.int .i64 cl.kind, .int .i64 cl.rk, .string cl.key, .int .i64 cl.len, .slice p l c, .int .i64 cl.epoch] ∧ IntsAt w p l cl.st ∧ l ≤ c ∧ (p = none → l = 0) ∧ (-9223372036854775808 ≤ cl.len ∧ cl.len ≤ 9223372036854775807) := by
  obtain ⟨xs, n', _, _, _, hxl, hf⟩ := DataW.trod_struct Try.underlying41 hy
  obtain ⟨y0, y1, y2, y3, y4, y5, rfl⟩ := list6 ys hlen
  have hxl' : xs.length = 3 := hxl
  obtain ⟨x0, f0⟩ := fld hxl' (by omega) (hf 0 _ rfl) cellsInt
  obtain ⟨x1, f1⟩ := fld hxl' (by omega) (hf 1 _ rfl) cellsRec
  obtain ⟨x2, f2⟩ := fld hxl' (by omega) (hf 2 _ rfl) cellsInt
  obtain ⟨n0, q0, g0⟩ := rd_int Try.underlying3 f0
  obtain ⟨n5, q5, g5⟩ := rd_int Try.underlying3 f2
  have f1' : DataW.trod enc Try.prog w base sp held n' 39 [y1, y2, y3, y4] = some x1 := f1
  obtain ⟨zs, n2', _, _, _, hzl, hg⟩ := DataW.trod_struct Try.underlying39 f1'
  have hzl' : zs.length = 4 := hzl
  obtain ⟨z0, e0⟩ := fld hzl' (by omega) (hg 0 _ rfl) cellsInt
  obtain ⟨z1, e1⟩ := fld hzl' (by omega) (hg 1 _ rfl) cellsStr
  obtain ⟨z2, e2⟩ := fld hzl' (by omega) (hg 2 _ rfl) cellsInt
  obtain ⟨z3, e3⟩ := fld hzl' (by omega) (hg 3 _ rfl) cellsInts
  obtain ⟨n1, q1, g1⟩ := rd_int Try.underlying3 e0
  obtain ⟨s, q2, _, _⟩ := DataW.trod_string Try.underlying9 e1
  obtain ⟨n3, q3, g3⟩ := rd_int Try.underlying3 e2
  obtain ⟨p, l, c, st, q4, hl, hcells, h1, h2, h3, _⟩ := rd_nums (e := 3) (k := .i64) (by kernel_rfl) (by kernel_rfl) (by kernel_rfl) e3
  cases q0; cases q1; cases q2; cases q3; cases q4; cases q5
  exact ⟨⟨n0, n1, s, n3, st, n5⟩, p, l, c, rfl, ⟨hl, hcells⟩, h1, h3, wfi64 g3⟩

theorem open_scriptC {v : Value} {d : DataW H} {ps : List MemPlace} (hs : ∃ a l c, v = .slice a l c) (h : DataW.Trod enc Try.prog w base sp held 26 v d ps) : ∃ p l c L, v = .slice p l c ∧ CallsCAt w p l L := by
  obtain ⟨p, l, c, rfl⟩ := hs
  obtain ⟨fuel, h⟩ := h
  obtain ⟨p', l', c', he, _, _, _, hrow⟩ := rd_rows (t := 26) (e := 41) (k := 6) (by kernel_rfl) (by kernel_rfl) h
  cases he
  have hone : ∀ i, i < l → ∃ cl, ∃ a q n d, p = some a ∧ CallCAt w (a.add (i * 6)) cl q n d := by
    intro i hi
    obtain ⟨a, ys, n, y, ha, hy, hlen, hcell⟩ := hrow i hi
    obtain ⟨cl, q, m, d, rfl, g1, g2, g3, g4⟩ := rd_callC hlen hy
    exact ⟨cl, a, q, m, d, ha, hcell 0 (by omega), hcell 1 (by omega), hcell 2 (by omega), hcell 3 (by omega), hcell 4 (by omega), hcell 5 (by omega), g1, g2, g3, g4⟩
  have hlist : ∀ k, k ≤ l → ∃ L : List CallC, L.length = k ∧ ∀ i cl, L[i]? = some cl → ∃ a q n d, p = some a ∧ CallCAt w (a.add (i * 6)) cl q n d := by
    intro k
    induction k with
    | zero => intro _; exact ⟨[], rfl, fun i cl hi => by simp at hi⟩
    | succ k ih =>
      intro hk
      obtain ⟨L, hL, hall⟩ := ih (by omega)
      obtain ⟨cl, hcl⟩ := hone k (by omega)
      refine ⟨L ++ [cl], by simp [hL], fun i c' hi => ?_⟩
      rw [List.getElem?_append] at hi
      split at hi
      · exact hall i c' hi
      · have : i - L.length = 0 := by
          rcases hq : i - L.length with _ | q
          · rfl
          · rw [hq] at hi; simp at hi
        rw [this] at hi
        cases hi
        have : i = k := by omega
        subst this
        exact hcl
  obtain ⟨L, hL, hall⟩ := hlist l (Nat.le_refl _)
  exact ⟨p, l, c, L, rfl, hL.symm, hall⟩
end
end Go.Proofs.Ytclkoojcibgcdaa
