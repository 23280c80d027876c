import Derived.Test.YtnfcfbljdibinaaMJ
import Derived.Test.YtnfcfbljdibinaaMA
/- Calls on none. (Not yet built.) -/
namespace Go.Proofs.Ytnfcfbljdibinaa
open Go Go.Vc

theorem mlabel_nil (w : World) : Calls Try.prog 12 #[.pointer none, .slice none 0 0] w fun e w' => e = .returned (.int .i64 1) ∧ w' = w := by
  refine (F12_calls none none 0 0 w (fun v w' => v = .int .i64 1 ∧ w' = w) (fun _ _ _ _ _ n7 w8 => n7 = 0 ∧ w8 = w) (fun _ _ _ _ _ _ _ => 0) ?_).mono (by rintro e w' ⟨v, rfl, rfl, h⟩; exact ⟨rfl, h⟩)
  refine ⟨⟨rfl, rfl⟩, ?_⟩
  rintro n7 w8 ⟨rfl, rfl⟩
  intros
  refine condB_of (fun h => by simp at h) fun _ => (aflush_nil _).mono ?_
  rintro e w28 ⟨rfl, rfl⟩
  exact ⟨_, rfl, rfl, rfl⟩
theorem mreplay_nil (g : Geo) (base : Int) (w : World) : Calls Try.prog 10 #[.pointer none, gV g, .slice none 0 0, .int .i64 base] w fun e w' => e = .returned (.tuple #[.slice none 0 0, .int .i64 1]) ∧ Ext w w' := by
  refine (F10_calls none g.k g.m g.size g.stripes g.slots g.objects none 0 0 base w (fun v w' => v = .tuple #[.slice none 0 0, .int .i64 1] ∧ Ext w w') (fun _ _ _ _ _ _ _ _ _ => False) (fun _ _ _ _ _ _ _ _ _ => 0) ?_).mono (by rintro e w' ⟨v, rfl, rfl, h⟩; exact ⟨rfl, h⟩)
  intro k10 w11 hk10
  have r10 : RowW w11 k10 (gRow g) := ⟨_, hk10.at⟩
  refine ⟨_, r10.row.cell (n := 0) rfl, _, r10.row.cell rfl, _, r10.row.cell rfl, _, r10.row.cell rfl, _, r10.row.cell rfl, _, r10.row.cell rfl, (mcheck_spec none g w11).mono ?_⟩
  rintro e w18 ⟨rfl, x18⟩
  have fin : ∀ (b : Bool), Calls Try.prog 37 #[.bool b, .int .i64 1] w18 fun e22 w21 => F10_A0 e22 w21 (mcheckZ none g) k10 none none 0 0 base (fun v w' => v = .tuple #[.slice none 0 0, .int .i64 1] ∧ Ext w w') (fun _ _ _ _ _ _ _ _ _ => False) (fun _ _ _ _ _ _ _ _ _ => 0) := fun b => by
    refine (unless_spec b 1 w18).mono ?_
    rintro e w21 ⟨rfl, rfl⟩
    refine ⟨_, rfl, fun k24 w25 hk24 => ?_⟩
    refine (first_spec (L := [_, _]) (ints_new (L := [_, _]) (w' := w25) ⟨_, hk24.at⟩ rfl) (by simp)).mono ?_
    rintro e w26 ⟨rfl, rfl⟩
    have ee : firstZ [mcheckZ none g, (if b = true then (0 : Int) else 1)] = 1 := rfl
    rw [ee]
    exact ⟨_, rfl, condB_of (fun _ => ⟨rfl, (hk10.ext.trans x18).trans hk24.ext⟩) fun h => by simp at h⟩
  exact ⟨_, rfl, condB_of (fun _ => fin _) fun _ => fin _⟩
theorem mlatest_nil (g : Geo) (w : World) : Calls Try.prog 11 #[.pointer none, gV g, .slice none 0 0] w fun e w' => e = .returned (.tuple #[savedV 0 0 none 0 0, .int .i64 1]) ∧ Ext w w' := by
  refine (F11_calls none g.k g.m g.size g.stripes g.slots g.objects none 0 0 w (fun v w' => v = .tuple #[savedV 0 0 none 0 0, .int .i64 1] ∧ Ext w w') (fun _ _ _ _ _ _ _ _ => False) (fun _ _ _ _ _ _ _ _ => 0) ?_).mono (by rintro e w' ⟨v, rfl, rfl, h⟩; exact ⟨rfl, h⟩)
  intro k9 w10 hk9 k11 w12 hk11
  have s9 := hk9.size
  have s11 := hk11.size
  have x12 := hk9.ext.trans hk11.ext
  have r9 : RowW w12 k9 (gRow g) := hk11.ext.rowW ⟨_, hk9.at⟩ id
  have r11 : RowT 37 w12 k11 #[.int .i64 0, .int .i64 0, .slice none 0 0] := hk11.at
  refine ⟨_, r9.row.cell (n := 0) rfl, _, r9.row.cell rfl, _, r9.row.cell rfl, _, r9.row.cell rfl, _, r9.row.cell rfl, _, r9.row.cell rfl, (mcheck_spec none g w12).mono ?_⟩
  rintro e w19 ⟨rfl, x19⟩
  exact ⟨_, rfl, condB_of (fun _ => lat_A4 (x12.trans x19) (by omega) (r11.upd x19 id) fun w' hx => ⟨rfl, hx⟩) fun h => by simp [mcheckZ] at h⟩
end Go.Proofs.Ytnfcfbljdibinaa

/- A geometry, a record, as arguments. (Not yet built.) -/
namespace Go.Proofs.Ytnfcfbljdibinaa
open Go Go.Vc Go.ChangeShapes Go.WideShapes Go.ChangeAt

section
variable {H : Type} {enc : TypeId × Value → H} {w : World} {base : Nat} {sp : Nat → Bool} {held : Bool}
theorem mwfi64 {n : Int} (h : (Lit.int .i64 n).wf = true) : -9223372036854775808 ≤ n ∧ n ≤ 9223372036854775807 := by
  simp only [Lit.wf, Bool.and_eq_true, decide_eq_true_eq] at h
  exact ⟨Int.le_trans (by decide) h.1, Int.le_trans h.2 (by decide)⟩
theorem mlist6 {α : Type} (l : List α) (h : l.length = 6) : ∃ y0 y1 y2 y3 y4 y5, l = [y0, y1, y2, y3, y4, y5] := by
  match l, h with
  | [y0, y1, y2, y3, y4, y5], _ => exact ⟨y0, y1, y2, y3, y4, y5, rfl⟩
theorem mcellsInt : Try.prog.cellsOf 3 = 1 := by kernel_rfl
theorem mcellsInts : Try.prog.cellsOf 25 = 1 := by kernel_rfl
theorem mcellsStr : Try.prog.cellsOf 9 = 1 := by kernel_rfl
theorem mcellsGeo : Try.prog.cellsOf 24 = 6 := by kernel_rfl
theorem mcellsRec : Try.prog.cellsOf 27 = 4 := by kernel_rfl

/-- one field of a row -/
theorem mfld {P : Program} {n' : Nat} {xs : List (DataW H × List MemPlace)} {m j off : Nat} {ys : List Value} {t : TypeId} {sz : Nat} (hxl : xs.length = m) (hj : j < m) (hf : DataW.trod enc P w base sp held n' t ((ys.drop off).take (P.cellsOf t)) = xs[j]?) (hc : P.cellsOf t = sz) :
    ∃ x, DataW.trod enc P w base sp held n' t ((ys.drop off).take sz) = some x := by
  rw [hc] at hf
  exact ⟨xs[j]'(by omega), by rw [hf, List.getElem?_eq_getElem]⟩

theorem open_geo {v : Value} {d : DataW H} {ps : List MemPlace} (hs : ∃ cs, v = .agg cs ∧ cs.size = Try.prog.cellsOf 24) (h : DataW.Trod enc Try.prog w base sp held 24 v d ps) : ∃ g : Geo, v = gV g := by
  obtain ⟨cs, rfl, hc⟩ := hs
  obtain ⟨fuel, h⟩ := h
  rw [mcellsGeo] at hc
  obtain ⟨xs, n', _, _, _, hxl, hf⟩ := DataW.trod_struct Try.underlying24 h
  obtain ⟨y0, y1, y2, y3, y4, y5, hy⟩ := mlist6 cs.toList (by simpa using hc)
  have hcells : (Value.agg cs).cells.toList = [y0, y1, y2, y3, y4, y5] := hy
  rw [hcells] at hf
  have hxl' : xs.length = 6 := hxl
  obtain ⟨x0, f0⟩ := mfld hxl' (by omega) (hf 0 _ rfl) mcellsInt
  obtain ⟨x1, f1⟩ := mfld hxl' (by omega) (hf 1 _ rfl) mcellsInt
  obtain ⟨x2, f2⟩ := mfld hxl' (by omega) (hf 2 _ rfl) mcellsInt
  obtain ⟨x3, f3⟩ := mfld hxl' (by omega) (hf 3 _ rfl) mcellsInt
  obtain ⟨x4, f4⟩ := mfld hxl' (by omega) (hf 4 _ rfl) mcellsInt
  obtain ⟨x5, f5⟩ := mfld hxl' (by omega) (hf 5 _ rfl) mcellsInt
  obtain ⟨n0, q0, g0⟩ := rd_int Try.underlying3 f0
  obtain ⟨n1, q1, g1⟩ := rd_int Try.underlying3 f1
  obtain ⟨n2, q2, g2⟩ := rd_int Try.underlying3 f2
  obtain ⟨n3, q3, g3⟩ := rd_int Try.underlying3 f3
  obtain ⟨n4, q4, g4⟩ := rd_int Try.underlying3 f4
  obtain ⟨n5, q5, g5⟩ := rd_int Try.underlying3 f5
  cases q0; cases q1; cases q2; cases q3; cases q4; cases q5
  exact ⟨⟨n0, n1, n2, n3, n4, n5⟩, congrArg Value.agg (Array.toList_inj.1 hy)⟩

theorem mlist4 {α : Type} (l : List α) (h : l.length = 4) : ∃ y0 y1 y2 y3, l = [y0, y1, y2, y3] := by
  match l, h with
  | [y0, y1, y2, y3], _ => exact ⟨y0, y1, y2, y3, rfl⟩
theorem open_rec {v : Value} {d : DataW H} {ps : List MemPlace} (hs : ∃ cs, v = .agg cs ∧ cs.size = Try.prog.cellsOf 27) (h : DataW.Trod enc Try.prog w base sp held 27 v d ps) :
    ∃ (kind : Int) (key : ByteArray) (len : Int) (p : Option Addr) (l c : Nat) (st : List Int), v = .agg #[.int .i64 kind, .string key, .int .i64 len, .slice p l c] ∧ IntsAt w p l st ∧ l ≤ 9223372036854775807 := by
  obtain ⟨cs, rfl, hc⟩ := hs
  obtain ⟨fuel, h⟩ := h
  rw [mcellsRec] at hc
  obtain ⟨xs, n', _, _, _, hxl, hf⟩ := DataW.trod_struct Try.underlying27 h
  obtain ⟨y0, y1, y2, y3, hy⟩ := mlist4 cs.toList (by simpa using hc)
  have hcells : (Value.agg cs).cells.toList = [y0, y1, y2, y3] := hy
  rw [hcells] at hf
  have hxl' : xs.length = 4 := hxl
  obtain ⟨x0, f0⟩ := mfld hxl' (by omega) (hf 0 _ rfl) mcellsInt
  obtain ⟨x1, f1⟩ := mfld hxl' (by omega) (hf 1 _ rfl) mcellsStr
  obtain ⟨x2, f2⟩ := mfld hxl' (by omega) (hf 2 _ rfl) mcellsInt
  obtain ⟨x3, f3⟩ := mfld hxl' (by omega) (hf 3 _ rfl) mcellsInts
  obtain ⟨n0, q0, g0⟩ := rd_int Try.underlying3 f0
  obtain ⟨s, q1, _, _⟩ := DataW.trod_string Try.underlying9 f1
  obtain ⟨n2, q2, g2⟩ := rd_int Try.underlying3 f2
  obtain ⟨p, l, c, st, q3, hl, hcells3, h1, h2, h3, _⟩ := rd_nums (e := 3) (k := .i64) (by kernel_rfl) (by kernel_rfl) (by kernel_rfl) f3
  cases q0; cases q1; cases q2; cases q3
  refine ⟨n0, s, n2, p, l, c, st, congrArg Value.agg (Array.toList_inj.1 hy), ⟨hl, hcells3⟩, ?_⟩
  unfold maxLen at h2
  omega
end
end Go.Proofs.Ytnfcfbljdibinaa

/- Which disks keep their label. -/
namespace Go.Proofs.Ytnfcfbljdibinaa
open Go Go.Vc

def labD (b : Bool) : SM := if b then [(0, labB)] else []
theorem ins_lab (x : List UInt8) (b : List UInt8) : ins 0 x [(0, b)] = [(0, x)] := rfl
theorem ins_lab0 (x : List UInt8) : ins 0 x [] = [(0, x)] := rfl
theorem labB_len : labB.length = 13 := packM_len _ _ _
theorem labB_ne : labB ≠ [] := fun h => by have := labB_len; rw [h] at this; cases this

/-- disks behind so many labels that are not flushed -/
def LabM (N : Int) (n : Nat) (b : Nat → Bool) (s : StA) : Prop := s.left = -1 ∧ s.down = false ∧ s.M.length = n ∧ ∀ (j : Nat) (m : Mem), s.M[j]? = some m → m.d = ⟨N, [], labD (b j), false⟩
theorem LabM.put {N : Int} {n : Nat} {b : Nat → Bool} {s : StA} (hN : 1 ≤ N) (h : LabM N n b s) (d : Int) : LabM N n (fun j => b j || decide (d = (j : Int))) (writeA s d 0 labB) ∧ mansW s d 0 13 ≠ 130 := by
  obtain ⟨M, left, down⟩ := s
  obtain ⟨hl, hd, hn, hm⟩ := h
  simp only at hl hd hn hm
  subst hl; subst hd
  have out : ¬ (0 ≤ d ∧ d < M.length) → ∀ (j : Nat) (m : Mem), M[j]? = some m → m.d = ⟨N, [], labD (b j || decide (d = (j : Int))), false⟩ := fun ho j m hj => by
    have := (List.getElem?_eq_some_iff.1 hj).1
    rw [decide_eq_false (by omega), Bool.or_false]
    exact hm j m hj
  unfold writeA mansW
  simp only [Bool.false_eq_true, if_false]
  by_cases h0 : 0 ≤ d
  · rw [if_pos h0, if_pos h0]
    cases hg : M[d.toNat]? with
    | none =>
      have := List.getElem?_eq_none_iff.1 hg
      exact ⟨⟨rfl, rfl, hn, out (by omega)⟩, by simp⟩
    | some m =>
      have hmd := hm _ m hg
      have hz : writeZ m.d 0 labB.length = 0 := by rw [labB_len, hmd]; unfold writeZ faultZ; simp; omega
      have hw : (writeD m.d 0 labB) = ⟨N, [], labD true, false⟩ := by
        unfold writeD; rw [if_pos hz, hmd]
        cases b d.toNat <;> rfl
      refine ⟨⟨by simp, by simp, by simpa using hn, fun j m' hj => ?_⟩, by rw [labB_len] at hz; simp only [hz]; omega⟩
      simp only [List.getElem?_set] at hj
      split at hj
      · rename_i he
        split at hj
        · cases hj
          show writeD m.d 0 labB = ⟨N, [], labD (b _ || decide (d = _)), false⟩
          rw [hw, show decide (d = (j : Int)) = true from decide_eq_true (by omega), Bool.or_true]
        · cases hj
      · rename_i he
        show m'.d = ⟨N, [], labD (b j || decide (d = (j : Int))), false⟩
        rw [decide_eq_false (by omega), Bool.or_false]
        exact hm j m' hj
  · rw [if_neg h0, if_neg h0]
    exact ⟨⟨rfl, rfl, hn, out (by omega)⟩, by omega⟩
theorem labS_at {N : Int} {L : List Int} {s : StA} {n : Nat} (hN : 1 ≤ N) (h : LabM N n (fun _ => false) s) : ∀ i, i ≤ L.length → (labS L s i).2 = false ∧ LabM N n (fun j => decide ((j : Int) ∈ L.take i)) (labS L s i).1
  | 0, _ => ⟨rfl, by simpa [labS] using h⟩
  | i + 1, hi => by
    obtain ⟨h1, h2⟩ := labS_at (L := L) hN h i (by omega)
    obtain ⟨h3, h4⟩ := h2.put hN (L.getD i 0)
    have e : labS L s (i + 1) = (writeA (labS L s i).1 (L.getD i 0) 0 labB, decide (mansW (labS L s i).1 (L.getD i 0) 0 13 = 130)) := by simp only [labS, h1, Bool.false_eq_true, if_false]
    rw [e]
    refine ⟨decide_eq_false h4, ?_⟩
    have : (fun j : Nat => decide ((j : Int) ∈ L.take (i + 1))) = fun j : Nat => (decide ((j : Int) ∈ L.take i) || decide (L.getD i 0 = (j : Int))) := by
      funext j
      have hg : L[i]? = some (L.getD i 0) := by rw [List.getD_eq_getElem?_getD, List.getElem?_eq_getElem (by omega)]; rfl
      rw [List.take_add_one, hg, ← Bool.decide_or, decide_eq_decide]
      simp only [Option.toList_some, List.mem_append, List.mem_singleton]
      exact or_congr Iff.rfl eq_comm
    rw [this]
    exact h3

/-- disks that know, or hold nothing at their label -/
def KnoM (N : Int) (n : Nat) (b : Nat → Bool) (s : StA) : Prop := s.left = -1 ∧ s.down = false ∧ s.M.length = n ∧ ∀ (j : Nat) (m : Mem), s.M[j]? = some m → m.d.sectors = N ∧ m.d.waits = [] ∧ m.d.lasts = labD (b j) ∧ (b j = true → m.d.dead = false)
theorem label_beg (n : Nat) {N : Int} (hN : 1 ≤ N) (L : List Int) : (labelM L (begA n N)).2 = 0 ∧ KnoM N n (fun j => decide ((j : Int) ∈ L)) (labelM L (begA n N)).1 := by
  have h0 : LabM N n (fun _ => false) (begA n N) := ⟨rfl, rfl, by simp [begA], fun j m hj => by
    have := List.eq_of_mem_replicate (List.mem_of_getElem? hj)
    rw [this]; rfl⟩
  obtain ⟨h1, h2, h3, h4, h5⟩ := labS_at (L := L) hN h0 L.length (Nat.le_refl _)
  unfold labelM
  rw [h1]
  simp only [Bool.false_eq_true, if_false]
  rw [h3]
  refine ⟨by simp, ?_⟩
  unfold flushA
  rw [h3]
  simp only [Bool.false_eq_true, if_false]
  refine ⟨h2, rfl, by simp only [flushM_len]; exact h4, fun j m' hj => ?_⟩
  simp only at hj
  have hlt := (List.getElem?_eq_some_iff.1 hj).1
  rw [flushM_len] at hlt
  obtain ⟨m, hm⟩ : ∃ m, (labS L (begA n N) L.length).1.M[j]? = some m := ⟨_, List.getElem?_eq_getElem hlt⟩
  simp only [flushM, List.getElem?_mapIdx, hm, Option.map_some, if_pos hlt, Option.some.injEq] at hj
  subst hj
  have hd := h5 j m hm
  rw [List.take_length] at hd
  simp only [hd]
  cases decide ((j : Int) ∈ L)
  · exact ⟨rfl, rfl, rfl, fun h => by cases h⟩
  · exact ⟨rfl, rfl, rfl, fun _ => rfl⟩

/-- disks hurt one after another -/
def hurtS (L : List Int) (f : Mem → Mem) (s : StA) : StA := L.foldl (fun s d => onDisk s d f) s
theorem hurtS_snoc (L : List Int) (d : Int) (f : Mem → Mem) (s : StA) : hurtS (L ++ [d]) f s = onDisk (hurtS L f s) d f := by simp [hurtS, List.foldl_append]
theorem onDisk_at {s : StA} {d : Int} {f : Mem → Mem} {j : Nat} {m' : Mem} (h : (onDisk s d f).M[j]? = some m') : ∃ m, s.M[j]? = some m ∧ ((d = (j : Int) ∧ m' = f m) ∨ (d ≠ (j : Int) ∧ m' = m)) := by
  unfold onDisk at h
  split at h
  · rename_i m hm
    split at h
    · rename_i h0
      simp only [List.getElem?_set] at h
      split at h
      · rename_i he
        split at h
        · cases h
          exact ⟨m, by rw [← he]; exact hm, .inl ⟨by omega, rfl⟩⟩
        · cases h
      · rename_i he
        exact ⟨m', h, .inr ⟨by omega, rfl⟩⟩
    · rename_i h0
      exact ⟨m', h, .inr ⟨by omega, rfl⟩⟩
  · rename_i hm
    refine ⟨m', h, .inr ⟨fun he => ?_, rfl⟩⟩
    rw [he, Int.toNat_natCast, h] at hm
    cases hm
theorem onDisk_down (s : StA) (d : Int) (f : Mem → Mem) : (onDisk s d f).down = s.down := by
  unfold onDisk
  split
  · split <;> rfl
  · rfl
theorem KnoM.gone {N : Int} {n : Nat} {b : Nat → Bool} {s : StA} (h : KnoM N n b s) {f : Mem → Mem} (hf : ∀ m, (f m).d.sectors = m.d.sectors ∧ (f m).d.waits = [] ∧ (f m).d.lasts = []) : ∀ L : List Int, KnoM N n (fun j => b j && !decide ((j : Int) ∈ L)) (hurtS L f s) := by
  have step : ∀ {b : Nat → Bool} {s : StA}, KnoM N n b s → ∀ d, KnoM N n (fun j => b j && !decide (d = (j : Int))) (onDisk s d f) := by
    intro b s ⟨h1, h2, h3, h4⟩ d
    refine ⟨by rw [(onDisk_len s d f).2]; exact h1, by rw [onDisk_down]; exact h2, by rw [(onDisk_len s d f).1]; exact h3, fun j m' hj => ?_⟩
    obtain ⟨m, hm, ⟨he, rfl⟩ | ⟨he, rfl⟩⟩ := onDisk_at hj
    · show _ ∧ _ ∧ _ = labD (b j && !decide (d = (j : Int))) ∧ ((b j && !decide (d = (j : Int))) = true → _)
      rw [decide_eq_true he]
      obtain ⟨a1, a2, a3⟩ := hf m
      exact ⟨by rw [a1]; exact (h4 j m hm).1, a2, by rw [a3]; simp [labD], fun h => by simp at h⟩
    · show _ ∧ _ ∧ _ = labD (b j && !decide (d = (j : Int))) ∧ ((b j && !decide (d = (j : Int))) = true → _)
      rw [decide_eq_false he]
      simpa using h4 j _ hm
  have go : ∀ (L : List Int) {b : Nat → Bool} {s : StA}, KnoM N n b s → KnoM N n (fun j => b j && !decide ((j : Int) ∈ L)) (hurtS L f s) := by
    intro L
    induction L with
    | nil => intro b s h; simpa [hurtS] using h
    | cons d L ih =>
      intro b s h
      have := ih (step h d)
      have e : (fun j : Nat => b j && !decide ((j : Int) ∈ d :: L)) = fun j : Nat => ((b j && !decide (d = (j : Int))) && !decide ((j : Int) ∈ L)) := by
        funext j
        rw [Bool.and_assoc, ← Bool.not_or, ← Bool.decide_or]
        simp [eq_comm]
      rw [e]
      exact this
  intro L
  exact go L h

/-- a byte changed at each disk's label, once -/
def corS (L : List Int) (s : StA) : Nat → StA
  | 0 => s
  | i + 1 => if L.getD i 0 ∈ L.take i then corS L s i else onDisk (corS L s i) (L.getD i 0) fun m => { m with d := corruptD m.d 0 (i : Int) 1 }
theorem cor_ne : ∀ i : Nat, i < 20 → corBytes labB (i : Int) 1 ≠ labB := by
  have h : ((List.range 20).all fun i => corBytes labB (i : Int) 1 != labB) = true := by kernel_rfl
  intro i hi
  have := (List.all_eq_true.1 h) i (List.mem_range.2 hi)
  simpa using this
theorem corS_at {L : List Int} {s : StA} {n : Nat} {b : Nat → Bool} (h : KnoM 4 n b s) (hL : L.length ≤ 20) : ∀ i, i ≤ L.length → (corS L s i).left = -1 ∧ (corS L s i).down = false ∧ (corS L s i).M.length = n ∧
    ∀ (j : Nat) (m : Mem), (corS L s i).M[j]? = some m → m.d.sectors = 4 ∧ ((j : Int) ∈ L.take i → knowB m = false) ∧ (¬ (j : Int) ∈ L.take i → m.d.waits = [] ∧ m.d.lasts = labD (b j) ∧ (b j = true → m.d.dead = false))
  | 0, _ => ⟨h.1, h.2.1, h.2.2.1, fun j m hj => by
    obtain ⟨h1, h2⟩ := h.2.2.2 j m hj
    exact ⟨h1, fun h => by simp at h, fun _ => h2⟩⟩
  | i + 1, hi => by
    obtain ⟨h1, h2, h3, h4⟩ := corS_at h hL i (by omega)
    have hg : L[i]? = some (L.getD i 0) := by rw [List.getD_eq_getElem?_getD, List.getElem?_eq_getElem (by omega)]; rfl
    have ht : L.take (i + 1) = L.take i ++ [L.getD i 0] := by rw [List.take_add_one, hg]; rfl
    rw [ht]
    simp only [corS]
    split
    · rename_i hin
      refine ⟨h1, h2, h3, fun j m hj => ?_⟩
      obtain ⟨a1, a2, a3⟩ := h4 j m hj
      refine ⟨a1, fun hx => ?_, fun hx => a3 fun hy => hx (List.mem_append_left _ hy)⟩
      rcases List.mem_append.1 hx with hx | hx
      · exact a2 hx
      · simp only [List.mem_singleton] at hx
        exact a2 (by rw [hx]; exact hin)
    · rename_i hin
      refine ⟨by rw [(onDisk_len _ _ _).2]; exact h1, by rw [onDisk_down]; exact h2, by rw [(onDisk_len _ _ _).1]; exact h3, fun j m' hj => ?_⟩
      obtain ⟨m, hm, ⟨he, rfl⟩ | ⟨he, rfl⟩⟩ := onDisk_at hj
      · obtain ⟨a1, a2, a3⟩ := h4 j m hm
        rw [he] at hin
        obtain ⟨c1, c2, c3⟩ := a3 hin
        refine ⟨by rw [corruptD_sec]; exact a1, fun _ => ?_, fun hx => absurd (List.mem_append_right _ (by rw [he]; exact List.mem_singleton.2 rfl)) hx⟩
        obtain ⟨d, births⟩ := m
        obtain ⟨se, la, wa, dead⟩ := d
        simp only at a1 c1 c2 c3
        subst a1; subst c1; subst c2
        cases hd : dead with
        | true => rfl
        | false =>
          cases hb : b j with
          | false =>
            show (decide _ && decide (([] : List UInt8) = labB)) = false
            rw [decide_eq_false (Ne.symm labB_ne), Bool.and_false]
          | true =>
            show (decide _ && decide (corBytes labB (i : Int) 1 = labB)) = false
            rw [decide_eq_false (cor_ne i (by omega)), Bool.and_false]
      · obtain ⟨a1, a2, a3⟩ := h4 j _ hm
        refine ⟨a1, fun hx => ?_, fun hx => a3 fun hy => hx (List.mem_append_left _ hy)⟩
        rcases List.mem_append.1 hx with hx | hx
        · exact a2 hx
        · simp only [List.mem_singleton] at hx
          exact absurd hx.symm he
theorem corS_know {L : List Int} {s : StA} {n : Nat} {b : Nat → Bool} (h : KnoM 4 n b s) (hL : L.length ≤ 20) {j : Nat} {m : Mem} (hj : (corS L s L.length).M[j]? = some m) : knowB m = (b j && !decide ((j : Int) ∈ L)) := by
  obtain ⟨_, _, _, h4⟩ := corS_at h hL L.length (Nat.le_refl _)
  obtain ⟨a1, a2, a3⟩ := h4 j m hj
  rw [List.take_length] at a2 a3
  by_cases hin : (j : Int) ∈ L
  · rw [a2 hin, decide_eq_true hin]; simp
  · obtain ⟨c1, c2, c3⟩ := a3 hin
    rw [decide_eq_false hin, Bool.not_false, Bool.and_true]
    obtain ⟨d, births⟩ := m
    obtain ⟨se, la, wa, dead⟩ := d
    simp only at a1 c1 c2 c3
    subst a1; subst c1; subst c2
    cases hb : b j with
    | false =>
      show (decide _ && decide (([] : List UInt8) = labB)) = false
      rw [decide_eq_false (Ne.symm labB_ne), Bool.and_false]
    | true =>
      have := c3 hb
      subst this
      show (decide (faultZ false 4 0 = 0) && decide (labB = labB)) = true
      simp [faultZ]
theorem corS_ok {L : List Int} {s : StA} (h : OkA s) : ∀ i, OkA (corS L s i)
  | 0 => h
  | i + 1 => by
    have ih := corS_ok (L := L) h i
    simp only [corS]
    split
    · exact ih
    · obtain ⟨a, b⟩ := onDisk_len (corS L s i) (L.getD i 0) fun m => { m with d := corruptD m.d 0 (i : Int) 1 }
      exact ⟨by rw [a]; exact ih.1, by rw [b]; exact ih.2.1, by rw [b]; exact ih.2.2⟩
theorem hurtS_ok (f : Mem → Mem) : ∀ (L : List Int) {s : StA}, OkA s → OkA (hurtS L f s)
  | [], _, h => h
  | d :: L, s, h => hurtS_ok f L (by
    obtain ⟨a, b⟩ := onDisk_len s d f
    exact ⟨by rw [a]; exact h.1, by rw [b]; exact h.2.1, by rw [b]; exact h.2.2⟩)
theorem KnoM.ok {N : Int} {n : Nat} {b : Nat → Bool} {s : StA} (h : KnoM N n b s) (hn : n ≤ 32) : OkA s := ⟨by rw [h.2.2.1]; exact hn, by rw [h.1]; exact Int.le_refl _, by rw [h.1]; decide⟩
end Go.Proofs.Ytnfcfbljdibinaa

/- What is written of records and objects is what is read. -/
namespace Go.Proofs.Ytnfcfbljdibinaa
open Go Go.Vc

theorem nvL_from : ∀ (l : List UInt8) (a : Nat), l.foldl (fun a x => a * 256 + x.toNat) a = a * 256 ^ l.length + nvL l
  | [], a => by simp [nvL]
  | x :: l, a => by
    have h1 := nvL_from l (a * 256 + x.toNat)
    have h2 := nvL_from l x.toNat
    rw [List.foldl_cons, h1]
    have : nvL (x :: l) = x.toNat * 256 ^ l.length + nvL l := by
      unfold nvL
      rw [List.foldl_cons, Nat.zero_mul, Nat.zero_add]
      exact h2
    rw [this, List.length_cons, Nat.pow_succ, Nat.mul_comm (256 ^ l.length) 256, ← Nat.mul_assoc, Nat.add_mul]
    omega
theorem nvL_cons (x : UInt8) (l : List UInt8) : nvL (x :: l) = x.toNat * 256 ^ l.length + nvL l := by
  have h2 := nvL_from l x.toNat
  unfold nvL
  rw [List.foldl_cons, Nat.zero_mul, Nat.zero_add]
  exact h2
theorem nvL_nb (n : Int) : ∀ k, nvL (nb n k) = n.toNat % 256 ^ k
  | 0 => by simp [nb, nvL, Nat.mod_one]
  | k + 1 => by
    rw [nb, nvL_cons, nb_length, nvL_nb n k, Nat.mod_pow_succ]
    have : (UInt8.ofNat (n.toNat / 256 ^ k)).toNat = n.toNat / 256 ^ k % 256 := by simp
    rw [this, Nat.mul_comm]
    omega
theorem nvL_one (x : UInt8) : nvL [x] = x.toNat := by simp [nvL]

theorem stD_flat : ∀ (st : List Int) (rest : List UInt8), (∀ s ∈ st, 0 ≤ s ∧ s < 65536) → stD st.length (st.flatMap (nb · 2) ++ rest) = some (st, rest)
  | [], rest, _ => rfl
  | s :: st, rest, h => by
    have h0 := h s (by simp)
    have ih := stD_flat st rest fun x hx => h x (List.mem_cons_of_mem _ hx)
    have e : (s :: st).flatMap (nb · 2) ++ rest = nb s 2 ++ (st.flatMap (nb · 2) ++ rest) := by simp
    rw [e, List.length_cons, stD, if_neg (by rw [List.length_append, nb_length]; omega)]
    have hd : (nb s 2 ++ (st.flatMap (nb · 2) ++ rest)).drop 2 = st.flatMap (nb · 2) ++ rest := List.drop_left' (nb_length s 2)
    have ht : (nb s 2 ++ (st.flatMap (nb · 2) ++ rest)).take 2 = nb s 2 := List.take_left' (nb_length s 2)
    rw [hd, ht, ih, nvL_nb, Nat.mod_eq_of_lt (by omega)]
    simp only [Option.map_some]
    rw [Int.toNat_of_nonneg h0.1]
theorem recD_cat {a b : UInt8} {K L4 C2 R : List UInt8} (hK : K.length = b.toNat) (h4 : L4.length = 4) (h2 : C2.length = 2) : recD (a :: b :: (K ++ (L4 ++ (C2 ++ R)))) = recE (nvL [a]) K (nvL L4) (stD (nvL C2) R) := by
  have d1 : (a :: b :: (K ++ (L4 ++ (C2 ++ R)))).drop 1 = b :: (K ++ (L4 ++ (C2 ++ R))) := rfl
  have d2 : (b :: (K ++ (L4 ++ (C2 ++ R)))).drop 1 = K ++ (L4 ++ (C2 ++ R)) := rfl
  have t1 : (a :: b :: (K ++ (L4 ++ (C2 ++ R)))).take 1 = [a] := rfl
  have t2 : (b :: (K ++ (L4 ++ (C2 ++ R)))).take 1 = [b] := rfl
  have d3 : (K ++ (L4 ++ (C2 ++ R))).drop b.toNat = L4 ++ (C2 ++ R) := List.drop_left' hK
  have t3 : (K ++ (L4 ++ (C2 ++ R))).take b.toNat = K := List.take_left' hK
  have d4 : (L4 ++ (C2 ++ R)).drop 4 = C2 ++ R := List.drop_left' h4
  have t4 : (L4 ++ (C2 ++ R)).take 4 = L4 := List.take_left' h4
  have d5 : (C2 ++ R).drop 2 = R := List.drop_left' h2
  have t5 : (C2 ++ R).take 2 = C2 := List.take_left' h2
  unfold recD
  rw [d1, d2, t1, t2, nvL_one b, d3, t3, d4, t4, d5, t5]
  rw [if_neg (by simp), if_neg (by simp), if_neg (by simp [hK]), if_neg (by simp [h4]), if_neg (by simp [h2])]
theorem recB_cat (kind : Int) (key : ByteArray) (len : Int) (st : List Int) (rest : List UInt8) : recB kind key len st ++ rest = UInt8.ofNat kind.toNat :: UInt8.ofNat key.size :: (key.data.toList ++ (nb len 4 ++ (nb (st.length : Int) 2 ++ (st.flatMap (nb · 2) ++ rest)))) := by
  simp [recB, recH]
theorem bstr_key (key : ByteArray) : bstr key.data.toList = key := by
  obtain ⟨a⟩ := key
  simp [bstr]
theorem recD_recB {kind : Int} {key : ByteArray} {len : Int} {st : List Int} (h : RecOk kind key len st) (rest : List UInt8) : recD (recB kind key len st ++ rest) = some (⟨kind, key.data.toList, len, st⟩, rest) := by
  obtain ⟨⟨hk, hks, hlen, hst⟩, hs, h2⟩ := h
  have hks' : (UInt8.ofNat key.size).toNat = key.size := by simp; omega
  rw [recB_cat, recD_cat (by rw [key_length, hks']) (nb_length _ _) (nb_length _ _), nvL_one, nvL_nb, nvL_nb]
  have e1 : ((UInt8.ofNat kind.toNat).toNat : Int) = kind := by rcases hk with rfl | rfl <;> rfl
  have e2 : ((len.toNat % 256 ^ 4 : Nat) : Int) = len := by rw [Nat.mod_eq_of_lt (by omega)]; omega
  have e3 : ((st.length : Int)).toNat % 256 ^ 2 = st.length := by rw [Nat.mod_eq_of_lt (by omega)]; omega
  rw [e1, e2, e3, stD_flat _ _ fun s hh => by have := hs s hh; omega]
  unfold recE
  simp only
  rw [if_pos]
  show RecOk kind (bstr key.data.toList) len st
  rw [bstr_key]
  exact ⟨⟨hk, hks, hlen, hst⟩, hs, h2⟩
theorem decD_recB {kind : Int} {key : ByteArray} {len : Int} {st : List Int} (h : RecOk kind key len st) : decD (recB kind key len st) = some ⟨kind, key.data.toList, len, st⟩ := by
  have := recD_recB h []
  rw [List.append_nil] at this
  unfold decD
  rw [this]

theorem objsD_flat : ∀ (L : List ObV) (rest : List UInt8), (∀ o ∈ L, RecOk 1 o.key o.len o.st ∧ 0 ≤ o.epoch ∧ o.epoch ≤ 2147483647) → objsD L.length (L.flatMap obB ++ rest) = some (L, rest)
  | [], rest, _ => rfl
  | o :: L, rest, h => by
    obtain ⟨hr, h0, h1⟩ := h o (by simp)
    have ih := objsD_flat L rest fun x hx => h x (List.mem_cons_of_mem _ hx)
    have e : (o :: L).flatMap obB ++ rest = nb o.epoch 4 ++ (recB 1 o.key o.len o.st ++ (L.flatMap obB ++ rest)) := by simp [obB]
    have hd : (nb o.epoch 4 ++ (recB 1 o.key o.len o.st ++ (L.flatMap obB ++ rest))).drop 4 = recB 1 o.key o.len o.st ++ (L.flatMap obB ++ rest) := List.drop_left' (nb_length _ _)
    have ht : (nb o.epoch 4 ++ (recB 1 o.key o.len o.st ++ (L.flatMap obB ++ rest))).take 4 = nb o.epoch 4 := List.take_left' (nb_length _ _)
    rw [e, List.length_cons, objsD, if_neg (by rw [List.length_append, nb_length]; omega), hd, ht, recD_recB hr]
    simp only [if_true]
    rw [ih, nvL_nb, Nat.mod_eq_of_lt (by omega)]
    simp only [Option.map_some]
    rw [bstr_key, Int.toNat_of_nonneg h0]
theorem MayOk.all {L : List ObV} (h : MayOk L) : ∀ o ∈ L, RecOk 1 o.key o.len o.st ∧ 0 ≤ o.epoch ∧ o.epoch ≤ 2147483647 := by
  intro o ho
  obtain ⟨i, hi, rfl⟩ := List.getElem_of_mem ho
  obtain ⟨h1, h2, _⟩ := h.1 i hi _ (List.getElem?_eq_getElem hi)
  exact ⟨h1, h2⟩
theorem snapB_len {L : List ObV} (h : MayOk L) : (snapB L).length ≤ 5378 := by
  have := flatB_bound h (i := L.length) (Nat.le_refl _)
  rw [List.take_length] at this
  unfold snapB
  rw [List.length_append, nb_length]
  omega
theorem parts_flat {B : List UInt8} (h : B.length ≤ 8192) : [part B 0, part B 1].flatten = B := by
  unfold part
  simp only [Nat.mul_zero, List.drop_zero, Nat.mul_one, List.flatten_cons, List.flatten_nil, List.append_nil]
  rw [List.take_of_length_le (l := B.drop 4096) (by rw [List.length_drop]; omega), List.take_append_drop]
theorem unD_snap {L : List ObV} (h : MayOk L) : unD [part (snapB L) 0, part (snapB L) 1] = some L := by
  have hl := snapB_len h
  have hf := parts_flat (B := snapB L) (by omega)
  have hb : badU [part (snapB L) 0, part (snapB L) 1] 2 = false := by
    unfold badU
    rw [decide_eq_false]
    rintro ⟨_, h1, h2⟩
    have h1' : 0 < (part (snapB L) 1).length := h1
    have h2' : (part (snapB L) 0).length < 4096 := h2
    unfold part at h1' h2'
    simp only [List.length_take, List.length_drop] at h1' h2'
    omega
  have hd : (snapB L).drop 2 = L.flatMap obB := List.drop_left' (nb_length _ _)
  have ht : (snapB L).take 2 = nb (L.length : Int) 2 := List.take_left' (nb_length _ _)
  have h64 := h.2.2
  unfold unD
  rw [hb, hf, if_neg (by simp), if_neg (by unfold snapB; rw [List.length_append, nb_length]; omega), hd, ht, nvL_nb]
  have e3 : ((L.length : Int)).toNat % 256 ^ 2 = L.length := by rw [Nat.mod_eq_of_lt (by omega)]; omega
  have := objsD_flat L [] h.all
  rw [List.append_nil] at this
  rw [e3, this, unE_ok h]
end Go.Proofs.Ytnfcfbljdibinaa

/- States of all disks: alike; cut by a crash; but one gone. -/
namespace Go.Proofs.Ytnfcfbljdibinaa
open Go Go.Vc

/-- all disks live, and are read as V says -/
structure Al (N : Int) (n : Nat) (V : Int → List UInt8) (s : StA) : Prop where
  left : s.left = -1
  down : s.down = false
  len : s.M.length = n
  at_ : ∀ (j : Nat) (m : Mem), s.M[j]? = some m → m.d.dead = false ∧ m.d.sectors = N ∧ Asc m.d.waits ∧ ∀ k, readD m.d k = V k
/-- nothing waits -/
def Qu (s : StA) : Prop := ∀ (j : Nat) (m : Mem), s.M[j]? = some m → m.d.waits = []
def putV (V : Int → List UInt8) (k : Int) (b : List UInt8) : Int → List UInt8 := fun k' => if k' = k then b else V k'
theorem Al.ok {N : Int} {n : Nat} {V : Int → List UInt8} {s : StA} (h : Al N n V s) (hn : n ≤ 32) : OkA s := ⟨by rw [h.len]; exact hn, by rw [h.left]; exact Int.le_refl _, by rw [h.left]; decide⟩

theorem mapIdx_set {M : List Mem} {f : Mem → Mem} {i : Nat} {m : Mem} (h : M[i]? = some m) : (M.mapIdx fun j m => if j < i then f m else m).set i (f m) = M.mapIdx fun j m => if j < i + 1 then f m else m := by
  apply List.ext_getElem?
  intro j
  rw [List.getElem?_set]
  by_cases hij : i = j
  · subst hij
    have hl : i < M.length := (List.getElem?_eq_some_iff.1 h).1
    have hMi : M[i] = m := (List.getElem?_eq_some_iff.1 h).2
    subst hMi
    simp [hl]
  · rw [if_neg hij]
    simp only [List.getElem?_mapIdx]
    cases M[j]? with
    | none => rfl
    | some mj =>
      simp only [Option.map_some, Option.some.injEq]
      by_cases h1 : j < i
      · rw [if_pos h1, if_pos (by omega)]
      · rw [if_neg h1, if_neg (by omega)]
theorem mapIdx_none (M : List Mem) (f : Mem → Mem) : (M.mapIdx fun j m => if j < 0 then f m else m) = M := by
  apply List.ext_getElem?
  intro j
  rw [List.getElem?_mapIdx]
  cases M[j]? <;> simp
theorem mapIdx_at {M : List Mem} {f : Mem → Mem} {i j : Nat} {m' : Mem} (h : (M.mapIdx fun j m => if j < i then f m else m)[j]? = some m') : ∃ m, M[j]? = some m ∧ m' = if j < i then f m else m := by
  rw [List.getElem?_mapIdx, Option.map_eq_some_iff] at h
  obtain ⟨m, hm, rfl⟩ := h
  exact ⟨m, hm, rfl⟩
theorem putS_all {n : Int} {B : List UInt8} {s : StA} (hl : s.left = -1) (hd : s.down = false) (hz : ∀ (j : Nat) (m : Mem), s.M[j]? = some m → writeZ m.d n B.length = 0) :
    ∀ i : Nat, i ≤ s.M.length → putS (fun _ => true) n B s i = (⟨s.M.mapIdx fun j m => if j < i then wrM n B m else m, -1, false⟩, (i : Int), false)
  | 0, _ => by
    rw [mapIdx_none]
    obtain ⟨M, left, down⟩ := s
    simp only at hl hd
    subst hl; subst hd
    rfl
  | i + 1, hi => by
    have ih := putS_all hl hd hz i (by omega)
    obtain ⟨m, hm⟩ : ∃ m, s.M[i]? = some m := ⟨s.M[i]'(by omega), List.getElem?_eq_getElem _⟩
    have hmi : (s.M.mapIdx fun j m => if j < i then wrM n B m else m)[i]? = some m := by rw [List.getElem?_mapIdx, hm]; simp
    have hz' := hz i m hm
    have e : putS (fun _ => true) n B s (i + 1) = (writeA (putS (fun _ => true) n B s i).1 i n B, if wrZ (putS (fun _ => true) n B s i).1 i n B.length = 0 then (putS (fun _ => true) n B s i).2.1 + 1 else (putS (fun _ => true) n B s i).2.1, decide (wrZ (putS (fun _ => true) n B s i).1 i n B.length = 130)) := by
      simp only [putS, ih]
      simp
    rw [e, ih]
    have hw : wrZ ⟨s.M.mapIdx fun j m => if j < i then wrM n B m else m, -1, false⟩ i n B.length = 0 := by
      unfold wrZ
      simp only [Bool.false_eq_true, if_false, hmi]
      exact hz'
    simp only [hw, if_true]
    have hset := mapIdx_set (f := wrM n B) hm
    unfold writeA
    simp only [Bool.false_eq_true, if_false, Int.natCast_nonneg, if_true, Int.toNat_natCast, hmi, hz', true_and]
    rw [show (s.M.mapIdx fun j m => if j < i then wrM n B m else m).set i { m with d := writeD m.d n B } = _ from hset]
    simp
theorem read_ins {D : Dk} {k k' : Int} {b : List UInt8} : readD { D with waits := ins k b D.waits } k' = if k' = k then b else readD D k' := by
  unfold readD
  rw [get_ins]
  by_cases h : k' = k
  · rw [if_pos h.symm, if_pos h]
  · rw [if_neg (fun e => h e.symm), if_neg h]
theorem Al.zero {N : Int} {n : Nat} {V : Int → List UInt8} {s : StA} (h : Al N n V s) {k : Int} (h0 : 0 ≤ k) (hk : k < N) {b : List UInt8} (h1 : 1 ≤ b.length) (h2 : b.length ≤ 4108) : ∀ (j : Nat) (m : Mem), s.M[j]? = some m → writeZ m.d k b.length = 0 := by
  intro j m hm
  obtain ⟨a1, a2, _⟩ := h.at_ j m hm
  unfold writeZ faultZ
  rw [a1, a2]
  simp only [Bool.false_eq_true, if_false]
  rw [if_neg (by rw [if_neg (by omega)]; simp), if_neg (by omega)]
theorem Al.put {N : Int} {n : Nat} {V : Int → List UInt8} {s : StA} (h : Al N n V s) {addr epoch : Int} {d : List UInt8} (ha : addr < N) (hf : fitsP addr) (he : fitsP epoch) (hd : d.length ≤ 4096) :
    (putM (fun _ => true) addr epoch d s).2 = ((n : Int), 0) ∧ Al N n (putV V addr (packM addr epoch d)) (putM (fun _ => true) addr epoch d s).1 := by
  have hl := packM_len addr epoch d
  have hz := h.zero (k := addr) (b := packM addr epoch d) hf.1 ha (by omega) (by omega)
  have hp := putS_all h.left h.down hz s.M.length (Nat.le_refl _)
  unfold putM
  rw [if_pos ⟨hf, he, hd⟩, hp]
  simp only [Bool.false_eq_true, if_false]
  refine ⟨by rw [h.len], rfl, rfl, by simp [h.len], fun j m' hj => ?_⟩
  obtain ⟨m, hm, he⟩ := mapIdx_at hj
  have hjl := (List.getElem?_eq_some_iff.1 hm).1
  rw [if_pos hjl] at he
  subst he
  obtain ⟨a1, a2, a3, a4⟩ := h.at_ j m hm
  have hwd : writeD m.d addr (packM addr epoch d) = { m.d with waits := ins addr (packM addr epoch d) m.d.waits } := by unfold writeD; rw [if_pos (hz j m hm)]
  unfold wrM
  simp only [hwd]
  refine ⟨a1, a2, ins_asc a3, fun k => ?_⟩
  rw [read_ins, a4]
  rfl
theorem read_flush {D : Dk} (hd : D.dead = false) (ha : Asc D.waits) (k : Int) : readD (flushD D) k = readD D k := by
  unfold flushD
  rw [hd]
  simp only [Bool.false_eq_true, if_false]
  unfold readD
  simp only [Vc.get, get_mrg k D.waits D.lasts ha.nodup]
  cases get k D.waits with
  | none => simp
  | some x => simp
theorem Al.flush {N : Int} {n : Nat} {V : Int → List UInt8} {s : StA} (h : Al N n V s) : Al N n V (flushA s) ∧ Qu (flushA s) := by
  have hd := h.down
  unfold flushA
  rw [hd]
  simp only [Bool.false_eq_true, if_false]
  have key : ∀ (j : Nat) (m' : Mem), (flushM s.M.length s.M)[j]? = some m' → ∃ m, s.M[j]? = some m ∧ m' = { m with d := flushD m.d } := by
    intro j m' hj
    obtain ⟨m, hm, he⟩ := mapIdx_at (f := fun m => { m with d := flushD m.d }) hj
    have hjl := (List.getElem?_eq_some_iff.1 hm).1
    rw [if_pos hjl] at he
    exact ⟨m, hm, he⟩
  have hdn : ∀ {D : Dk}, D.dead = false → (flushD D).dead = false ∧ (flushD D).waits = [] := fun {D} hd => by
    unfold flushD; rw [hd]; exact ⟨rfl, rfl⟩
  refine ⟨⟨h.left, rfl, by simp only [flushM_len]; exact h.len, fun j m' hj => ?_⟩, fun j m' hj => ?_⟩
  · obtain ⟨m, hm, rfl⟩ := key j m' hj
    obtain ⟨a1, a2, a3, a4⟩ := h.at_ j m hm
    obtain ⟨b1, b2⟩ := hdn a1
    exact ⟨b1, by simp only [flushD_sec]; exact a2, by simp only [b2]; exact List.Pairwise.nil, fun k => by simp only [read_flush a1 a3]; exact a4 k⟩
  · obtain ⟨m, hm, rfl⟩ := key j m' hj
    exact (hdn (h.at_ j m hm).1).2

/-! ## cut by a crash -/
def lastV (D : Dk) (k : Int) : List UInt8 := (get k D.lasts).getD []
/-- all disks live, and each sector holds what V or V' says -/
structure Mx (N : Int) (n : Nat) (V V' : Int → List UInt8) (s : StA) : Prop where
  len : s.M.length = n
  at_ : ∀ (j : Nat) (m : Mem), s.M[j]? = some m → m.d.dead = false ∧ m.d.sectors = N ∧ Asc m.d.waits ∧ ∀ k, (lastV m.d k = V k ∨ lastV m.d k = V' k) ∧ ∀ x, get k m.d.waits = some x → x = V k ∨ x = V' k
theorem Al.mx {N : Int} {n : Nat} {V : Int → List UInt8} {s : StA} (h : Al N n V s) (hq : Qu s) (V' : Int → List UInt8) : Mx N n V V' s := ⟨h.len, fun j m hm => by
  obtain ⟨a1, a2, a3, a4⟩ := h.at_ j m hm
  have hw := hq j m hm
  refine ⟨a1, a2, a3, fun k => ⟨.inl ?_, fun x hx => by rw [hw] at hx; cases hx⟩⟩
  have := a4 k
  unfold readD at this
  rw [hw] at this
  rw [← this]
  unfold lastV
  simp only [Vc.get]
  cases get k m.d.lasts <;> rfl⟩
theorem Mx.sub {N : Int} {n : Nat} {V V' : Int → List UInt8} {s t : StA} (h : Mx N n V V' s) (ht : t.M = s.M) : Mx N n V V' t := ⟨by rw [ht]; exact h.len, fun j m hm => h.at_ j m (by rw [← ht]; exact hm)⟩
theorem Mx.read {N : Int} {n : Nat} {V V' : Int → List UInt8} {s : StA} (h : Mx N n V V' s) {j : Nat} {m : Mem} (hm : s.M[j]? = some m) (k : Int) : readD m.d k = V k ∨ readD m.d k = V' k := by
  obtain ⟨_, _, _, a4⟩ := h.at_ j m hm
  unfold readD
  cases hg : get k m.d.waits with
  | some x => exact (a4 k).2 x hg
  | none =>
    have := (a4 k).1
    unfold lastV at this
    simp only
    cases hl : get k m.d.lasts <;> rw [hl] at this <;> exact this
theorem Mx.write {N : Int} {n : Nat} {V V' : Int → List UInt8} {s : StA} (h : Mx N n V V' s) (d : Int) {k : Int} {b : List UInt8} (hb : b = V' k) : Mx N n V V' (writeA s d k b) := by
  refine ⟨by rw [putA_len]; exact h.len, fun j m' hj => ?_⟩
  unfold writeA at hj
  split at hj
  · exact h.at_ j m' hj
  split at hj
  · split at hj
    · rename_i m hm
      simp only [List.getElem?_set] at hj
      split at hj
      · rename_i he
        split at hj
        · cases hj
          obtain ⟨a1, a2, a3, a4⟩ := h.at_ _ m hm
          unfold writeD
          simp only
          split
          · refine ⟨a1, a2, ins_asc a3, fun k' => ⟨(a4 k').1, fun x hx => ?_⟩⟩
            simp only [get_ins] at hx
            split at hx
            · rename_i hk
              cases hx
              rw [← hk]; exact .inr hb
            · exact (a4 k').2 x hx
          · exact ⟨a1, a2, a3, a4⟩
        · cases hj
      · exact h.at_ j m' hj
    · exact h.at_ j m' hj
  · exact h.at_ j m' hj
theorem Mx.putS {N : Int} {n : Nat} {V V' : Int → List UInt8} {s : StA} (h : Mx N n V V' s) (to : Nat → Bool) {k : Int} {b : List UInt8} (hb : b = V' k) : ∀ i, Mx N n V V' (putS to k b s i).1
  | 0 => h
  | i + 1 => by
    have ih := h.putS to hb i
    simp only [Go.Proofs.Ytnfcfbljdibinaa.putS]
    split
    · exact ih
    · split
      · exact ih.write _ hb
      · exact ih
theorem Mx.put {N : Int} {n : Nat} {V V' : Int → List UInt8} {s : StA} (h : Mx N n V V' s) (to : Nat → Bool) {addr epoch : Int} {d : List UInt8} (hb : packM addr epoch d = V' addr) : Mx N n V V' (putM to addr epoch d s).1 := by
  unfold putM
  split
  · split <;> exact h.putS to hb _
  · exact h
theorem lastV_mrg {D : Dk} (W : SM) (hW : (W.map (·.1)).Nodup) (k : Int) : (get k (mrg D.lasts W)).getD [] = ((get k W).getD (lastV D k)) := by
  rw [get_mrg k W D.lasts hW]
  unfold lastV
  cases get k W <;> rfl
theorem Mx.flush {N : Int} {n : Nat} {V V' : Int → List UInt8} {s : StA} (h : Mx N n V V' s) : Mx N n V V' (flushA s) := by
  unfold flushA
  split
  · exact h
  · refine ⟨by simp only [flushM_len]; exact h.len, fun j m' hj => ?_⟩
    obtain ⟨m, hm, he⟩ := mapIdx_at (f := fun m => { m with d := flushD m.d }) hj
    have hjl := (List.getElem?_eq_some_iff.1 hm).1
    rw [if_pos hjl] at he
    subst he
    obtain ⟨a1, a2, a3, a4⟩ := h.at_ j m hm
    unfold flushD
    rw [a1]
    simp only [Bool.false_eq_true, if_false]
    refine ⟨trivial, a2, List.Pairwise.nil, fun k => ⟨?_, fun x hx => by cases hx⟩⟩
    show (get k (mrg m.d.lasts m.d.waits)).getD [] = V k ∨ (get k (mrg m.d.lasts m.d.waits)).getD [] = V' k
    rw [lastV_mrg _ a3.nodup]
    cases hg : get k m.d.waits with
    | none => exact (a4 k).1
    | some x => exact (a4 k).2 x hg
theorem Mx.crash {N : Int} {n : Nat} {V V' : Int → List UInt8} {s : StA} (h : Mx N n V V' s) (KS : List (List Int)) : Mx N n V V' ⟨crashM KS s.M.length s.M, -1, false⟩ := by
  refine ⟨by simp only [crashM_len]; exact h.len, fun j m' hj => ?_⟩
  have hjl := (List.getElem?_eq_some_iff.1 hj).1
  simp only [crashM_len] at hjl
  obtain ⟨m, hm⟩ : ∃ m, s.M[j]? = some m := ⟨s.M[j]'hjl, List.getElem?_eq_getElem _⟩
  simp only [crashM_get hm, Option.some.injEq] at hj
  subst hj
  obtain ⟨a1, a2, a3, a4⟩ := h.at_ j m hm
  refine ⟨a1, a2, List.Pairwise.nil, fun k => ⟨?_, fun x hx => by cases hx⟩⟩
  show (get k (mrg m.d.lasts (m.d.waits.filter fun y => decide (y.1 ∈ KS.getD j [])))).getD [] = V k ∨ (get k (mrg m.d.lasts (m.d.waits.filter fun y => decide (y.1 ∈ KS.getD j [])))).getD [] = V' k
  rw [lastV_mrg _ (a3.filter _).nodup]
  by_cases hk : k ∈ KS.getD j []
  · rw [get_filter_ne (q := fun z => decide (z ∈ KS.getD j [])) (by simpa using hk)]
    cases hg : get k m.d.waits with
    | none => exact (a4 k).1
    | some x => exact (a4 k).2 x hg
  · rw [get_filter_no (q := fun z => decide (z ∈ KS.getD j [])) (by simpa using hk)]
    exact (a4 k).1

/-! ## but one gone -/
def failF : Mem → Mem := fun m => ⟨{ m.d with dead := true, lasts := [], waits := [] }, IntKind.i64.wrap (m.births + 1)⟩
def replF : Mem → Mem := fun m => ⟨{ m.d with dead := false, lasts := [], waits := [] }, IntKind.i64.wrap (m.births + 1)⟩
/-- all but one are as V says or hold nothing; nothing waits -/
structure On (keep : Int) (i : Nat) (N : Int) (n : Nat) (V : Int → List UInt8) (s : StA) : Prop where
  left : s.left = -1
  down : s.down = false
  len : s.M.length = n
  at_ : ∀ (j : Nat) (m : Mem), s.M[j]? = some m → m.d.sectors = N ∧ m.d.waits = [] ∧ (j < i → (j : Int) ≠ keep → m.d.lasts = []) ∧ (¬ (j < i ∧ (j : Int) ≠ keep) → m.d.dead = false ∧ ∀ k, readD m.d k = V k)
theorem Al.on {N : Int} {n : Nat} {V : Int → List UInt8} {s : StA} (h : Al N n V s) (hq : Qu s) (keep : Int) : On keep 0 N n V s := ⟨h.left, h.down, h.len, fun j m hm => by
  obtain ⟨a1, a2, a3, a4⟩ := h.at_ j m hm
  exact ⟨a2, hq j m hm, fun h => by omega, fun _ => ⟨a1, a4⟩⟩⟩
theorem On.skip {keep : Int} {i : Nat} {N : Int} {n : Nat} {V : Int → List UInt8} {s : StA} (h : On keep i N n V s) (hk : (i : Int) = keep) : On keep (i + 1) N n V s := ⟨h.left, h.down, h.len, fun j m hm => by
  obtain ⟨a1, a2, a3, a4⟩ := h.at_ j m hm
  exact ⟨a1, a2, fun h1 h2 => a3 (by omega) h2, fun h1 => a4 (fun h2 => h1 ⟨by omega, h2.2⟩)⟩⟩
theorem On.gone {keep : Int} {i : Nat} {N : Int} {n : Nat} {V : Int → List UInt8} {s : StA} {f : Mem → Mem} (hf : f = failF ∨ f = replF) (hk : (i : Int) ≠ keep) (h : On keep i N n V s ∨ On keep (i + 1) N n V s) : On keep (i + 1) N n V (onDisk s i f) := by
  have hl : s.left = -1 ∧ s.down = false ∧ s.M.length = n := by rcases h with h | h <;> exact ⟨h.left, h.down, h.len⟩
  obtain ⟨l1, l2⟩ := onDisk_len s i f
  refine ⟨by rw [l2]; exact hl.1, by rw [onDisk_down]; exact hl.2.1, by rw [l1]; exact hl.2.2, fun j m' hj => ?_⟩
  obtain ⟨m, hm, ⟨he, rfl⟩ | ⟨he, rfl⟩⟩ := onDisk_at hj
  · have hs : m.d.sectors = N := by rcases h with h | h <;> exact (h.at_ j m hm).1
    have hji : j = i := by omega
    subst hji
    rcases hf with rfl | rfl
    · exact ⟨hs, rfl, fun _ _ => rfl, fun hn => absurd ⟨by omega, hk⟩ hn⟩
    · exact ⟨hs, rfl, fun _ _ => rfl, fun hn => absurd ⟨by omega, hk⟩ hn⟩
  · rcases h with h | h
    · obtain ⟨a1, a2, a3, a4⟩ := h.at_ j _ hm
      exact ⟨a1, a2, fun h1 h2 => a3 (by omega) h2, fun h1 => a4 (fun h2 => h1 ⟨by omega, h2.2⟩)⟩
    · exact h.at_ j _ hm
theorem On.crash {keep : Int} {i : Nat} {N : Int} {n : Nat} {V : Int → List UInt8} {s : StA} (h : On keep i N n V s) (KS : List (List Int)) : On keep i N n V ⟨crashM KS s.M.length s.M, -1, false⟩ := by
  refine ⟨rfl, rfl, by simp only [crashM_len]; exact h.len, fun j m' hj => ?_⟩
  have hjl := (List.getElem?_eq_some_iff.1 hj).1
  simp only [crashM_len] at hjl
  obtain ⟨m, hm⟩ : ∃ m, s.M[j]? = some m := ⟨s.M[j]'hjl, List.getElem?_eq_getElem _⟩
  simp only [crashM_get hm, Option.some.injEq] at hj
  subst hj
  obtain ⟨a1, a2, a3, a4⟩ := h.at_ j m hm
  have e : crashD m.d (KS.getD j []) = m.d := by
    obtain ⟨d, b⟩ := m
    obtain ⟨se, la, wa, dd⟩ := d
    simp only at a2
    subst a2
    rfl
  simp only [e]
  exact ⟨a1, a2, a3, a4⟩
end Go.Proofs.Ytnfcfbljdibinaa

/- What is said of a place by disks of a state; what is told of areas and slots. -/
namespace Go.Proofs.Ytnfcfbljdibinaa
open Go Go.Vc

theorem unpack_nil (addr : Int) : unpackM addr [] = none := by
  unfold unpackM
  rw [if_neg (fun h => by have := h.1; simp at this)]
theorem fault_in {m : Mem} {N addr : Int} (hd : m.d.dead = false) (hs : m.d.sectors = N) (h0 : 0 ≤ addr) (h1 : addr < N) : faultZ m.d.dead m.d.sectors addr = 0 := by
  unfold faultZ
  rw [hd, hs]
  simp only [Bool.false_eq_true, if_false]
  rw [if_neg (by omega)]
theorem said_pack {m : Mem} {N addr e : Int} {d : List UInt8} (hd : m.d.dead = false) (hs : m.d.sectors = N) (h1 : addr < N) (hf : fitsP addr) (he : fitsP e) (hl : d.length ≤ 4096) (hr : readD m.d addr = packM addr e d) : saidOf addr m = ⟨e, d, true, false⟩ := by
  have hf0 := fault_in hd hs hf.1 h1
  unfold saidOf readA
  rw [if_pos hf0, hr, unpack_pack hf he hl]
theorem said_blank {m : Mem} {N addr : Int} (hd : m.d.dead = false) (hs : m.d.sectors = N) (h0 : 0 ≤ addr) (h1 : addr < N) (hr : readD m.d addr = []) : saidOf addr m = ⟨0, [], false, true⟩ := by
  have hf0 := fault_in hd hs h0 h1
  unfold saidOf readA
  rw [if_pos hf0, hr, unpack_nil]
  simp [hf0]
theorem said_gone {m : Mem} {addr : Int} (hl : m.d.lasts = []) (hw : m.d.waits = []) : (saidOf addr m).is = false := by
  unfold saidOf readA
  have : readD m.d addr = [] := by unfold readD; rw [hl, hw]; rfl
  rw [this]
  have e : (if faultZ m.d.dead m.d.sectors addr = 0 then ([] : List UInt8) else []) = [] := by split <;> rfl
  rw [e, unpack_nil]

theorem sayL_rep {addr : Int} {b : Say} {M : List Mem} (h : ∀ m ∈ M, (saidOf addr m).is = true → ((saidOf addr m).epoch, (saidOf addr m).data) = b) : ∃ c, sayL (saysM addr M) = List.replicate c b ∧ ((∃ m ∈ M, (saidOf addr m).is = true) → 0 < c) := by
  refine ⟨(sayL (saysM addr M)).length, ?_, ?_⟩
  · refine List.eq_replicate_of_mem fun y hy => ?_
    unfold sayL saysM at hy
    obtain ⟨sd, hs, rfl⟩ := List.mem_map.1 hy
    obtain ⟨hs1, hs2⟩ := List.mem_filter.1 hs
    obtain ⟨m, hm, rfl⟩ := List.mem_map.1 hs1
    exact h m hm hs2
  · rintro ⟨m, hm, hi⟩
    refine List.length_pos_of_mem (a := ((saidOf addr m).epoch, (saidOf addr m).data)) ?_
    unfold sayL saysM
    exact List.mem_map.2 ⟨_, List.mem_filter.2 ⟨List.mem_map.2 ⟨m, hm, rfl⟩, hi⟩, rfl⟩
theorem best_rep {b : Say} {c : Nat} (h : 0 < c) : Best (List.replicate c b) b c := .inr ⟨List.mem_replicate.2 ⟨by omega, rfl⟩, by simp, fun y hy => by
  have := List.eq_of_mem_replicate hy
  subst this
  simp only [List.count_replicate_self]
  exact bt_irrefl _ _⟩

/-- a place that a vote tells -/
def Has (s : StA) (addr : Int) (b : Say) : Prop := ∃ c, 0 < c ∧ Best (sayL (saysM addr s.M)) b c
/-- a place of which nothing is said -/
def Non (s : StA) (addr : Int) : Prop := Best (sayL (saysM addr s.M)) (0, []) 0
theorem has_or {s : StA} {addr : Int} {b : Say} (h : ∀ m ∈ s.M, (saidOf addr m).is = true → ((saidOf addr m).epoch, (saidOf addr m).data) = b) : (Has s addr b ∨ Non s addr) ∧ ((∃ m ∈ s.M, (saidOf addr m).is = true) → Has s addr b) := by
  obtain ⟨c, hc, hp⟩ := sayL_rep h
  have hb : 0 < c → Has s addr b := fun h => ⟨c, h, by rw [hc]; exact best_rep h⟩
  refine ⟨?_, fun h => hb (hp h)⟩
  by_cases h0 : 0 < c
  · exact .inl (hb h0)
  · have : c = 0 := by omega
    subst this
    exact .inr (by unfold Non; rw [hc]; exact best_none)
theorem non_of {s : StA} {addr : Int} (h : ∀ m ∈ s.M, (saidOf addr m).is = false) : Non s addr := by
  obtain ⟨c, hc, _⟩ := sayL_rep (addr := addr) (b := (0, [])) (M := s.M) fun m hm hi => by rw [h m hm] at hi; cases hi
  have : sayL (saysM addr s.M) = [] := by
    unfold sayL saysM
    rw [List.filter_eq_nil_iff.2, List.map_nil]
    intro sd hs
    obtain ⟨m, hm, rfl⟩ := List.mem_map.1 hs
    rw [h m hm]; simp
  unfold Non
  rw [this]
  exact best_none
theorem wit_at {ks : List Bool} : ∀ {L : List Said} {i : Nat} {sd : Said}, ks[i]? = some true → L[i]? = some sd → (sd.is || sd.none) = true → wit ks L = true := by
  intro L i sd h1 h2 h3
  unfold wit
  rw [List.any_eq_true]
  refine ⟨(true, sd), ?_, by simp [witF, h3]⟩
  refine List.mem_of_getElem? (i := i) ?_
  rw [List.getElem?_zip_eq_some]
  exact ⟨h1, h2⟩
theorem wit_mem {s : StA} {addr : Int} {j : Nat} {m : Mem} (hm : s.M[j]? = some m) (hk : knowB m = true) (hs : ((saidOf addr m).is || (saidOf addr m).none) = true) : wit (s.M.map knowB) (saysM addr s.M) = true :=
  wit_at (i := j) (by rw [List.getElem?_map, hm]; simp [hk]) (by unfold saysM; rw [List.getElem?_map, hm]; rfl) hs

/-- nothing, or a sector that may be -/
def Sec (addr : Int) (b : List UInt8) : Prop := b = [] ∨ ∃ e d, fitsP e ∧ d.length ≤ 4096 ∧ b = packM addr e d
theorem sec_wit {m : Mem} {N addr : Int} (hd : m.d.dead = false) (hs : m.d.sectors = N) (h1 : addr < N) (hf : fitsP addr) (h : Sec addr (readD m.d addr)) : ((saidOf addr m).is || (saidOf addr m).none) = true := by
  rcases h with h | ⟨e, d, he, hl, h⟩
  · rw [said_blank hd hs hf.1 h1 h]; rfl
  · rw [said_pack hd hs h1 hf he hl h]; rfl
theorem know_of {m : Mem} {N : Int} (hd : m.d.dead = false) (hs : m.d.sectors = N) (h1 : 0 < N) (h : readD m.d 0 = labB) : knowB m = true := by
  unfold knowB
  rw [fault_in hd hs (Int.le_refl 0) h1, h]
  simp

/-! ## states of one -/
section
variable {keep : Int} {N : Int} {n : Nat} {V : Int → List UInt8} {s : StA}
theorem On.has (h : On keep n N n V s) (hk : 0 ≤ keep ∧ keep < n) {addr e : Int} {d : List UInt8} (h1 : addr < N) (hf : fitsP addr) (he : fitsP e) (hl : d.length ≤ 4096) (hv : V addr = packM addr e d) : Has s addr (e, d) := by
  refine (has_or fun m hm hi => ?_).2 ?_
  · obtain ⟨j, hj, rfl⟩ := List.getElem_of_mem hm
    have hm' := List.getElem?_eq_getElem hj
    obtain ⟨a1, a2, a3, a4⟩ := h.at_ j _ hm'
    have hjn := h.len
    by_cases hjk : (j : Int) = keep
    · obtain ⟨b1, b2⟩ := a4 (fun h => h.2 hjk)
      rw [said_pack b1 a1 h1 hf he hl ((b2 addr).trans hv)]
    · rw [said_gone (a3 (by omega) hjk) a2] at hi; cases hi
  · obtain ⟨m, hm⟩ : ∃ m, s.M[keep.toNat]? = some m := ⟨s.M[keep.toNat]'(by have := h.len; omega), List.getElem?_eq_getElem _⟩
    obtain ⟨a1, a2, a3, a4⟩ := h.at_ _ _ hm
    obtain ⟨b1, b2⟩ := a4 (fun h => h.2 (by omega))
    exact ⟨m, List.mem_of_getElem? hm, by rw [said_pack b1 a1 h1 hf he hl ((b2 addr).trans hv)]⟩
theorem On.non (h : On keep n N n V s) {addr : Int} (h0 : 0 ≤ addr) (h1 : addr < N) (hv : V addr = []) : Non s addr := by
  refine non_of fun m hm => ?_
  obtain ⟨j, hj, rfl⟩ := List.getElem_of_mem hm
  have hm' := List.getElem?_eq_getElem hj
  obtain ⟨a1, a2, a3, a4⟩ := h.at_ j _ hm'
  have hjn := h.len
  by_cases hjk : (j : Int) = keep
  · obtain ⟨b1, b2⟩ := a4 (fun h => h.2 hjk)
    rw [said_blank b1 a1 h0 h1 ((b2 addr).trans hv)]
  · exact said_gone (a3 (by omega) hjk) a2
theorem On.witn (h : On keep n N n V s) (hk : 0 ≤ keep ∧ keep < n) (hv0 : V 0 = labB) (hN : 0 < N) {addr : Int} (h1 : addr < N) (hf : fitsP addr) (hv : Sec addr (V addr)) : wit (s.M.map knowB) (saysM addr s.M) = true := by
  obtain ⟨m, hm⟩ : ∃ m, s.M[keep.toNat]? = some m := ⟨s.M[keep.toNat]'(by have := h.len; omega), List.getElem?_eq_getElem _⟩
  obtain ⟨a1, a2, a3, a4⟩ := h.at_ _ _ hm
  obtain ⟨b1, b2⟩ := a4 (fun h => h.2 (by omega))
  exact wit_mem hm (know_of b1 a1 hN ((b2 0).trans hv0)) (sec_wit b1 a1 h1 hf (by rw [b2]; exact hv))
end

/-! ## states cut -/
section
variable {N : Int} {n : Nat} {V V' : Int → List UInt8} {s : StA}
theorem Mx.same (h : Mx N n V V' s) (hn : 1 ≤ n) {addr e : Int} {d : List UInt8} (h1 : addr < N) (hf : fitsP addr) (he : fitsP e) (hl : d.length ≤ 4096) (hv : V addr = packM addr e d) (hv' : V' addr = packM addr e d) : Has s addr (e, d) := by
  have key : ∀ m ∈ s.M, saidOf addr m = ⟨e, d, true, false⟩ := fun m hm => by
    obtain ⟨j, hj, rfl⟩ := List.getElem_of_mem hm
    have hm' := List.getElem?_eq_getElem hj
    obtain ⟨a1, a2, _⟩ := h.at_ j _ hm'
    exact said_pack a1 a2 h1 hf he hl (by rcases h.read hm' addr with x | x <;> rw [x] <;> assumption)
  refine (has_or fun m hm hi => by rw [key m hm]).2 ?_
  obtain ⟨m, hm⟩ : ∃ m, s.M[0]? = some m := ⟨s.M[0]'(by have := h.len; omega), List.getElem?_eq_getElem _⟩
  exact ⟨m, List.mem_of_getElem? hm, by rw [key m (List.mem_of_getElem? hm)]⟩
theorem Mx.none (h : Mx N n V V' s) {addr : Int} (h0 : 0 ≤ addr) (h1 : addr < N) (hv : V addr = []) (hv' : V' addr = []) : Non s addr := by
  refine non_of fun m hm => ?_
  obtain ⟨j, hj, rfl⟩ := List.getElem_of_mem hm
  have hm' := List.getElem?_eq_getElem hj
  obtain ⟨a1, a2, _⟩ := h.at_ j _ hm'
  rw [said_blank a1 a2 h0 h1 (by rcases h.read hm' addr with x | x <;> rw [x] <;> assumption)]
theorem Mx.cut (h : Mx N n V V' s) {addr e : Int} {d : List UInt8} (h1 : addr < N) (hf : fitsP addr) (he : fitsP e) (hl : d.length ≤ 4096) (hv : V addr = []) (hv' : V' addr = packM addr e d) : Has s addr (e, d) ∨ Non s addr := by
  refine (has_or fun m hm hi => ?_).1
  obtain ⟨j, hj, rfl⟩ := List.getElem_of_mem hm
  have hm' := List.getElem?_eq_getElem hj
  obtain ⟨a1, a2, _⟩ := h.at_ j _ hm'
  rcases h.read hm' addr with x | x
  · rw [said_blank a1 a2 hf.1 h1 (x.trans hv)] at hi; cases hi
  · rw [said_pack a1 a2 h1 hf he hl (x.trans hv')]
theorem Mx.witn (h : Mx N n V V' s) (hn : 1 ≤ n) (hN : 0 < N) (hv0 : V 0 = labB) (hv0' : V' 0 = labB) {addr : Int} (h1 : addr < N) (hf : fitsP addr) (hv : Sec addr (V addr)) (hv' : Sec addr (V' addr)) : wit (s.M.map knowB) (saysM addr s.M) = true := by
  obtain ⟨m, hm⟩ : ∃ m, s.M[0]? = some m := ⟨s.M[0]'(by have := h.len; omega), List.getElem?_eq_getElem _⟩
  obtain ⟨a1, a2, _⟩ := h.at_ 0 _ hm
  exact wit_mem hm (know_of a1 a2 hN (by rcases h.read hm 0 with x | x <;> rw [x] <;> assumption)) (sec_wit a1 a2 h1 hf (by rcases h.read hm addr with x | x <;> rw [x] <;> assumption))
end

/-! ## what is told -/
theorem Has.best {s : StA} {addr : Int} {b b' : Say} {c' : Nat} (h : Has s addr b) (h' : Best (sayL (saysM addr s.M)) b' c') : b' = b ∧ 0 < c' := by
  obtain ⟨c, hc, hb⟩ := h
  obtain ⟨rfl, rfl⟩ := hb.unique h'
  exact ⟨rfl, hc⟩
theorem Non.best {s : StA} {addr : Int} {b' : Say} {c' : Nat} (h : Non s addr) (h' : Best (sayL (saysM addr s.M)) b' c') : b' = (0, []) ∧ c' = 0 := by
  obtain ⟨rfl, rfl⟩ := Best.unique h h'
  exact ⟨rfl, rfl⟩
/-- an area that is whole -/
def Whole (g : Geo) (s : StA) (a : Int) (E : Int) (L : List ObV) : Prop := MayOk L ∧ Has s (areaZ g a 0) (E, part (snapB L) 0) ∧ Has s (areaZ g a 1) (E, part (snapB L) 1)
/-- an area that is not, with a witness -/
def Broken (g : Geo) (s : StA) (ks : List Bool) (a : Int) : Prop := (Non s (areaZ g a 0) ∨ Non s (areaZ g a 1)) ∧ wit ks (saysM (areaZ g a 0) s.M) = true ∧ wit ks (saysM (areaZ g a 1) s.M) = true
theorem seen_of {g : Geo} {s : StA} {ks : List Bool} {a : Int} (h0 : wit ks (saysM (areaZ g a 0) s.M) = true) (h1 : wit ks (saysM (areaZ g a 1) s.M) = true) : seenB g a s ks 2 = true := by
  unfold seenB
  rw [List.all_eq_true]
  intro j hj
  have := List.mem_range.1 hj
  match j, this with
  | 0, _ => exact h0
  | 1, _ => exact h1
theorem Whole.area {g : Geo} {s : StA} {ks : List Bool} {a E : Int} {L : List ObV} (h : Whole g s a E L) {r : ARd} (hr : AreaIs g s ks a r) : r.epoch = E ∧ r.os = L ∧ r.whole = true := by
  obtain ⟨v0, v1, hv, rfl⟩ := hr
  obtain ⟨hm, h0, h1⟩ := h
  obtain ⟨e0, c0⟩ := h0.best (hv 0 v0 rfl)
  obtain ⟨e1, c1⟩ := h1.best (hv 1 v1 rfl)
  have hu : unD [v0.1.2, v1.1.2] = some L := by rw [e0, e1]; exact unD_snap hm
  simp only [hu]
  refine ⟨by rw [e0], rfl, ?_⟩
  simp only [wholeB, List.all_cons, List.all_nil, Option.isSome_some, Bool.and_true]
  rw [decide_eq_true c0, decide_eq_true c1, e0, e1]
  simp
theorem Broken.area {g : Geo} {s : StA} {ks : List Bool} {a : Int} (h : Broken g s ks a) {r : ARd} (hr : AreaIs g s ks a r) : r.whole = false ∧ r.seen = true := by
  obtain ⟨v0, v1, hv, rfl⟩ := hr
  obtain ⟨hn, h0, h1⟩ := h
  refine ⟨?_, seen_of h0 h1⟩
  simp only [wholeB, List.all_cons, List.all_nil]
  rcases hn with hn | hn
  · rw [(hn.best (hv 0 v0 rfl)).2]; simp
  · rw [(hn.best (hv 1 v1 rfl)).2]; simp
theorem lat_one {g : Geo} {s : StA} {ks : List Bool} {a E : Int} {L : List ObV} {A : Nat → ARd} (hA : ∀ j : Nat, j < 2 → AreaIs g s ks (j : Int) (A j)) (ha : a = 0 ∨ a = 1) (hw : Whole g s a E L) (hb : Broken g s ks (1 - a)) : latS A 2 = ⟨true, true, a, E, L⟩ := by
  rcases ha with rfl | rfl
  · obtain ⟨h1, h2, h3⟩ := hw.area (hA 0 (by omega))
    obtain ⟨b1, b2⟩ := hb.area (hA 1 (by omega))
    simp [latS, h1, h2, h3, b1, b2]
  · obtain ⟨h1, h2, h3⟩ := hw.area (hA 1 (by omega))
    obtain ⟨b1, b2⟩ := hb.area (hA 0 (by omega))
    simp [latS, h1, h2, h3, b1, b2]
theorem lat_two {g : Geo} {s : StA} {ks : List Bool} {a E E' : Int} {L L' : List ObV} {A : Nat → ARd} (hA : ∀ j : Nat, j < 2 → AreaIs g s ks (j : Int) (A j)) (ha : a = 0 ∨ a = 1) (hw : Whole g s a E L) (hw' : Whole g s (1 - a) E' L') (hE : E < E') : latS A 2 = ⟨true, true, 1 - a, E', L'⟩ := by
  rcases ha with rfl | rfl
  · obtain ⟨h1, h2, h3⟩ := hw.area (hA 0 (by omega))
    obtain ⟨b1, b2, b3⟩ := hw'.area (hA 1 (by omega))
    simp [latS, h1, h2, h3, b1, b2, b3, hE]
  · obtain ⟨h1, h2, h3⟩ := hw.area (hA 1 (by omega))
    obtain ⟨b1, b2, b3⟩ := hw'.area (hA 0 (by omega))
    simp [latS, h1, h3, b1, b2, b3, show ¬ E' < E by omega]

/-- a record as it was given -/
structure RecK where
  kind : Int
  key : ByteArray
  len : Int
  st : List Int
def RecK.ok (r : RecK) : Prop := RecOk r.kind r.key r.len r.st
def RecK.b (r : RecK) : List UInt8 := recB r.kind r.key r.len r.st
def RecK.v (r : RecK) : RecV := ⟨r.kind, r.key.data.toList, r.len, r.st⟩
/-- the journal holds just these -/
structure Jou (g : Geo) (s : StA) (ks : List Bool) (base : Int) (R : List RecK) : Prop where
  len : (R.length : Int) ≤ g.slots
  ok : ∀ r ∈ R, r.ok
  at_ : ∀ (j : Nat) (r : RecK), R[j]? = some r → Has s (slotZ g (j : Int)) (base + j + 1, r.b)
  none : (R.length : Int) < g.slots → Non s (slotZ g (R.length : Int)) ∧ wit ks (saysM (slotZ g (R.length : Int)) s.M) = true
theorem Jou.told {g : Geo} {s : StA} {ks : List Bool} {base : Int} {R : List RecK} (h : Jou g s ks base R) {L : List RecV} (hL : ∀ j x, L[j]? = some x → SlotIs g s base j x) (hle : (L.length : Int) ≤ g.slots) (hstop : (L.length : Int) = g.slots ∨ SlotNo g s base L.length) : L = R.map (·.v) ∧
    ((L.length : Int) < g.slots → wit ks (saysM (slotZ g (L.length : Int)) s.M) = true) := by
  have h1 : L.length ≤ R.length := by
    rcases Nat.lt_or_ge R.length L.length with hlt | hge
    · obtain ⟨b, c, hb, hc, _⟩ := hL R.length _ (List.getElem?_eq_getElem hlt)
      have := ((h.none (by omega)).1.best hb).2
      omega
    · exact hge
  have hdec : ∀ (j : Nat) (r : RecK), R[j]? = some r → decD r.b = some r.v := fun j r hr => decD_recB (h.ok r (List.mem_of_getElem? hr))
  have h2 : R.length ≤ L.length := by
    rcases Nat.lt_or_ge L.length R.length with hlt | hge
    · rcases hstop with hs | ⟨b, c, hb, hn⟩
      · have := h.len; omega
      · obtain ⟨e, hc⟩ := (h.at_ L.length _ (List.getElem?_eq_getElem hlt)).best hb
        refine absurd ⟨hc, by rw [e], R[L.length].v, ?_⟩ hn
        rw [e]
        exact hdec _ _ (List.getElem?_eq_getElem hlt)
    · exact hge
  have hlen : L.length = R.length := by omega
  refine ⟨List.ext_getElem? fun j => ?_, fun hlt => by rw [hlen] at hlt ⊢; exact (h.none hlt).2⟩
  rw [List.getElem?_map]
  cases hx : L[j]? with
  | none =>
    have := List.getElem?_eq_none_iff.1 hx
    rw [List.getElem?_eq_none (by omega)]
    rfl
  | some x =>
    have hj := (List.getElem?_eq_some_iff.1 hx).1
    have hr := List.getElem?_eq_getElem (l := R) (i := j) (by omega)
    obtain ⟨b, c, hb, _, _, hd⟩ := hL j x hx
    obtain ⟨e, _⟩ := (h.at_ j _ hr).best hb
    rw [e] at hd
    have := hdec j _ hr
    rw [this] at hd
    rw [hr]
    simpa using hd.symm
end Go.Proofs.Ytnfcfbljdibinaa

/- The statements' small functions: geometries, lists of objects and of records. -/
namespace Go.Proofs.Ytnfcfbljdibinaa
open Go Go.Vc

/-! ## geometries -/
def smallG (g : Geo) : Prop := GeoOk g → g.k + g.m ≤ 7 ∧ g.size ≤ 8 ∧ g.stripes ≤ 20
theorem smallg_spec (g : Geo) (w : World) : Calls Try.prog 15 #[gV g] w fun e w' => ∃ b, e = .returned (.bool b) ∧ (b = true ↔ smallG g) ∧ Ext w w' := by
  refine (F15_calls g.k g.m g.size g.stripes g.slots g.objects w (fun v w' => ∃ b, v = .bool b ∧ (b = true ↔ smallG g) ∧ Ext w w') ?_).mono (by rintro e w' ⟨v, rfl, b, rfl, h⟩; exact ⟨b, rfl, h⟩)
  intro k7 w8 hk7
  have r7 : RowW w8 k7 (gRow g) := ⟨_, hk7.at⟩
  refine ⟨_, r7.row.cell (n := 0) rfl, _, r7.row.cell rfl, _, r7.row.cell rfl, _, r7.row.cell rfl, _, r7.row.cell rfl, _, r7.row.cell rfl, (check_spec g w8).mono ?_⟩
  rintro e w15 ⟨rfl, x15⟩
  have y15 := hk7.ext.trans x15
  have q7 : RowW w15 k7 (gRow g) := x15.rowW r7 id
  refine ⟨_, rfl, condB_of (fun h => ?_) fun h => ?_⟩
  · simp only [Bool.not_eq_true', decide_eq_false_iff_not] at h
    refine ⟨true, rfl, ⟨fun _ hg => absurd (show checkG g = 0 by unfold checkG; rw [if_pos hg]) h, fun _ => rfl⟩, y15⟩
  · simp only [Bool.not_eq_false', decide_eq_true_eq] at h
    have hg : GeoOk g := by
      by_cases hg : GeoOk g
      · exact hg
      · unfold checkG at h; rw [if_neg hg] at h; cases h
    have hg' := hg
    obtain ⟨⟨g1, g2, g3⟩, _⟩ := hg'
    refine ⟨_, q7.row.cell (n := 0) rfl, _, q7.row.cell rfl, ?_⟩
    rw [w64 (n := g.k + g.m) (by omega)]
    refine condB_of (fun h1 => ⟨_, q7.row.cell rfl, condB_of (fun h2 => ⟨_, q7.row.cell rfl, _, rfl, ?_, y15⟩) fun h2 => ⟨false, rfl, ?_, y15⟩⟩) fun h1 => ⟨false, rfl, ?_, y15⟩
    · simp only [decide_eq_true_eq] at h1 h2 ⊢
      exact ⟨fun h3 _ => ⟨h1, h2, h3⟩, fun h => (h hg).2.2⟩
    · simp only [decide_eq_false_iff_not] at h2
      exact ⟨fun h => (by cases h), fun h => absurd (h hg).2.1 h2⟩
    · simp only [decide_eq_false_iff_not] at h1
      exact ⟨fun h => (by cases h), fun h => absurd (h hg).1 h1⟩
def sectorsZ (g : Geo) : Int := if GeoOk g then 5 + g.slots + g.stripes else 0
theorem sectors_spec (g : Geo) (w : World) : Calls Try.prog 50 #[gV g] w fun e w' => e = .returned (.int .i64 (sectorsZ g)) ∧ Ext w w' := by
  refine (F50_calls g.k g.m g.size g.stripes g.slots g.objects w (fun v w' => v = .int .i64 (sectorsZ g) ∧ Ext w w') ?_).mono (by rintro e w' ⟨v, rfl, rfl, h⟩; exact ⟨rfl, h⟩)
  intro k7 w8 hk7
  have r7 : RowW w8 k7 (gRow g) := ⟨_, hk7.at⟩
  refine ⟨_, r7.row.cell (n := 0) rfl, _, r7.row.cell rfl, _, r7.row.cell rfl, _, r7.row.cell rfl, _, r7.row.cell rfl, _, r7.row.cell rfl, _, r7.row.cell rfl, _, r7.row.cell rfl, fun k17 w18 hk17 => ?_⟩
  refine (place_spec g 0 1 (L := [4, g.slots, g.stripes]) (ints_new (L := [4, g.slots, g.stripes]) (w' := w18) ⟨_, hk17.at⟩ rfl) (by simp)).mono ?_
  rintro e w19 ⟨rfl, x19⟩
  refine ⟨_, rfl, ?_, (hk7.ext.trans hk17.ext).trans x19⟩
  unfold placeZ sectorsZ
  by_cases h : GeoOk g
  · rw [if_pos ⟨h, by omega, by omega⟩, if_pos h]
    obtain ⟨_, _, h3, h4, _⟩ := h
    show Value.int .i64 (IntKind.i64.wrap (IntKind.i64.wrap (IntKind.i64.wrap (IntKind.i64.wrap (1 + 0) + 4) + g.slots) + g.stripes)) = _
    rw [w64 (n := 1 + 0) (by omega), w64 (n := 1 + 0 + 4) (by omega), w64 (n := 1 + 0 + 4 + g.slots) (by omega), w64 (by omega)]
    congr 1
  · rw [if_neg (fun hh => h hh.1), if_neg h]

/-! ## records and objects -/
/-- records in a slice -/
def RecsAt (w : World) (p : Option Addr) (l : Nat) (R : List RecK) : Prop := l = R.length ∧ ∀ i r, R[i]? = some r → ∃ a q n c, p = some a ∧ w.cell? (a.add (i * 4)) = some (.int .i64 r.kind) ∧ w.cell? ((a.add (i * 4)).add 1) = some (.string r.key) ∧
  w.cell? ((a.add (i * 4)).add 2) = some (.int .i64 r.len) ∧ w.cell? ((a.add (i * 4)).add 3) = some (.slice q n c) ∧ IntsAt w q n r.st ∧ n ≤ 9223372036854775807
theorem RecsAt.ext {w w' : World} {p : Option Addr} {l : Nat} {R : List RecK} (h : RecsAt w p l R) (hx : Ext w w') : RecsAt w' p l R := by
  refine ⟨h.1, fun i r hi => ?_⟩
  obtain ⟨a, q, n, c, h1, h2, h3, h4, h5, h6, h7⟩ := h.2 i r hi
  exact ⟨a, q, n, c, h1, cellx h2 hx, cellx h3 hx, cellx h4 hx, cellx h5 hx, h6.ext hx, h7⟩
/-- objects in a slice, of any lengths -/
def ObsW (w : World) (p : Option Addr) (l : Nat) (L : List ObV) : Prop := l = L.length ∧ ∀ i o, L[i]? = some o → ∃ a q n c, p = some a ∧ w.cell? (a.add (i * 4)) = some (.string o.key) ∧ w.cell? ((a.add (i * 4)).add 1) = some (.int .i64 o.len) ∧
  w.cell? ((a.add (i * 4)).add 2) = some (.int .i64 o.epoch) ∧ w.cell? ((a.add (i * 4)).add 3) = some (.slice q n c) ∧ IntsAt w q n o.st
theorem ObsW.ext {w w' : World} {p : Option Addr} {l : Nat} {L : List ObV} (h : ObsW w p l L) (hx : Ext w w') : ObsW w' p l L := by
  refine ⟨h.1, fun i o hi => ?_⟩
  obtain ⟨a, q, n, c, h1, h2, h3, h4, h5, h6⟩ := h.2 i o hi
  exact ⟨a, q, n, c, h1, cellx h2 hx, cellx h3 hx, cellx h4 hx, cellx h5 hx, h6.ext hx⟩
theorem ObsV.w {w : World} {p : Option Addr} {l : Nat} {L : List ObV} (h : ObsV w p l L) : ObsW w p l L := ⟨h.1, fun i o hi => by
  obtain ⟨a, q, n, c, h1, h2, h3, h4, h5, h6, _⟩ := h.2 i o hi
  exact ⟨a, q, n, c, h1, h2, h3, h4, h5, h6⟩⟩
theorem ObsW.v {w : World} {p : Option Addr} {l : Nat} {L : List ObV} (h : ObsW w p l L) (hs : ∀ o ∈ L, o.st.length ≤ 20) : ObsV w p l L := ⟨h.1, fun i o hi => by
  obtain ⟨a, q, n, c, h1, h2, h3, h4, h5, h6⟩ := h.2 i o hi
  exact ⟨a, q, n, c, h1, h2, h3, h4, h5, h6, by have := hs o (List.mem_of_getElem? hi); have := h6.1; omega⟩⟩

theorem refput_spec (key : ByteArray) (len epoch : Int) (p : Option Addr) (l c : Nat) (w : World) : Calls Try.prog 53 #[.agg #[.string key, .int .i64 len, .int .i64 epoch, .slice p l c]] w fun e w' => e = .returned (.agg #[.int .i64 1, .string key, .int .i64 len, .slice p l c]) ∧ Ext w w' := by
  refine (F53_calls key len epoch p l c w (fun v w' => v = .agg #[.int .i64 1, .string key, .int .i64 len, .slice p l c] ∧ Ext w w') ?_).mono (by rintro e w' ⟨v, rfl, rfl, h⟩; exact ⟨rfl, h⟩)
  intro k5 w6 hk5 k7 w8 hk7
  have r5 : RowW w8 k5 _ := hk7.ext.rowW ⟨_, hk5.at⟩ id
  have s5 := hk5.size
  have s7 := hk7.size
  refine ⟨_, r5.row.cell rfl, _, r5.row.cell rfl, _, _, _, r5.row.cell rfl, ?_⟩
  refine fill4T (e := 27) (v0 := .int .i64 1) (v1 := .string key) (v2 := .int .i64 len) (v3 := .slice p l c) hk7.at fun w15 u15 n15 => ?_
  exact ⟨_, n15.row.row.cell (n := 0) rfl, _, n15.row.row.cell rfl, _, n15.row.row.cell rfl, _, _, _, n15.row.row.cell rfl, rfl, upd_new (hk5.ext.trans hk7.ext) u15 (by omega)⟩
theorem recsame_spec {w : World} (n1 : Int) (s2 : ByteArray) (n3 : Int) {p4 : Option Addr} {l4 c4 : Nat} {A : List Int} (n5 : Int) (s6 : ByteArray) (n7 : Int) {p8 : Option Addr} {l8 c8 : Nat} {B : List Int} (h1 : IntsAt w p4 l4 A) (h2 : IntsAt w p8 l8 B) (hl : l4 ≤ 1000) :
    Calls Try.prog 52 #[.agg #[.int .i64 n1, .string s2, .int .i64 n3, .slice p4 l4 c4], .agg #[.int .i64 n5, .string s6, .int .i64 n7, .slice p8 l8 c8]] w fun e w' => ∃ b, e = .returned (.bool b) ∧ (b = true ↔ n1 = n5 ∧ s2 = s6 ∧ n3 = n7 ∧ A = B) ∧ Ext w w' := by
  refine (F52_calls n1 s2 n3 p4 l4 c4 n5 s6 n7 p8 l8 c8 w (fun v w' => ∃ b, v = .bool b ∧ (b = true ↔ n1 = n5 ∧ s2 = s6 ∧ n3 = n7 ∧ A = B) ∧ Ext w w') ?_).mono (by rintro e w' ⟨v, rfl, b, rfl, h⟩; exact ⟨b, rfl, h⟩)
  intro k9 w10 hk9 k11 w12 hk11
  have x12 := hk9.ext.trans hk11.ext
  have r9 : RowW w12 k9 _ := hk11.ext.rowW ⟨_, hk9.at⟩ id
  have r11 : RowW w12 k11 _ := ⟨_, hk11.at⟩
  refine ⟨_, _, _, r9.row.cell rfl, _, _, _, r11.row.cell rfl, (intsq_spec (h1.ext x12) (h2.ext x12) hl).mono ?_⟩
  rintro e w15 ⟨rfl, x15⟩
  have y15 := x12.trans x15
  have q9 : RowW w15 k9 _ := x15.rowW r9 id
  have q11 : RowW w15 k11 _ := x15.rowW r11 id
  refine ⟨_, rfl, condB_of (fun a1 => ⟨_, q9.row.cell rfl, _, q11.row.cell rfl, condB_of (fun a2 => ⟨_, q9.row.cell rfl, _, q11.row.cell rfl, condB_of (fun a3 => ⟨_, q9.row.cell rfl, _, q11.row.cell rfl, _, rfl, ?_, y15⟩) fun a3 => ?_⟩) fun a2 => ?_⟩) fun a1 => ?_⟩
  · simp only [decide_eq_true_eq] at a1 a2 a3 ⊢
    exact ⟨fun h => ⟨a2, a3, h, a1⟩, fun h => h.2.2.1⟩
  · simp only [decide_eq_false_iff_not] at a3
    exact ⟨false, rfl, ⟨fun h => (by cases h), fun h => absurd h.2.1 a3⟩, y15⟩
  · simp only [decide_eq_false_iff_not] at a2
    exact ⟨false, rfl, ⟨fun h => (by cases h), fun h => absurd h.1 a2⟩, y15⟩
  · simp only [decide_eq_false_iff_not] at a1
    exact ⟨false, rfl, ⟨fun h => (by cases h), fun h => absurd h.2.2.2 a1⟩, y15⟩
theorem take_next {α : Type} {A B : List α} {i : Nat} {x y : α} (h : A.take i = B.take i) (hx : A[i]? = some x) (hy : B[i]? = some y) (he : x = y) : A.take (i + 1) = B.take (i + 1) := by
  rw [List.take_add_one, List.take_add_one, h, hx, hy, he]
theorem ObV.eq_of {x y : ObV} (h1 : x.key = y.key) (h2 : x.len = y.len) (h3 : x.epoch = y.epoch) (h4 : x.st = y.st) : x = y := by
  obtain ⟨a, b, c, d⟩ := x
  obtain ⟨a', b', c', d'⟩ := y
  simp only at h1 h2 h3 h4
  subst h1; subst h2; subst h3; subst h4
  rfl
theorem RecK.eq_of {x y : RecK} (h1 : x.kind = y.kind) (h2 : x.key = y.key) (h3 : x.len = y.len) (h4 : x.st = y.st) : x = y := by
  obtain ⟨a, b, c, d⟩ := x
  obtain ⟨a', b', c', d'⟩ := y
  simp only at h1 h2 h3 h4
  subst h1; subst h2; subst h3; subst h4
  rfl
set_option maxHeartbeats 1000000 in
theorem objects_spec {w : World} {p1 p2 : Option Addr} {l1 c1 l2 c2 : Nat} {A B : List ObV} (h1 : ObsW w p1 l1 A) (h2 : ObsW w p2 l2 B) (hl : l1 ≤ 1000) (hs : ∀ o ∈ A, o.st.length ≤ 1000) :
    Calls Try.prog 23 #[.slice p1 l1 c1, .slice p2 l2 c2] w fun e w' => ∃ b, e = .returned (.bool b) ∧ (b = true ↔ A = B) ∧ Ext w w' := by
  refine (F23_calls p1 l1 c1 p2 l2 c2 w (fun v w' => ∃ b, v = .bool b ∧ (b = true ↔ A = B) ∧ Ext w w') (fun _ n w4 => ∃ i : Nat, n = i ∧ i ≤ l1 ∧ Ext w w4 ∧ A.take i = B.take i) (fun _ n _ => 1000 - n.toNat) ?_).mono (by rintro e w' ⟨v, rfl, b, rfl, h⟩; exact ⟨b, rfl, h⟩)
  have e1 := h1.1
  have e2 := h2.1
  refine condB_of (fun hne => ?_) (fun heq => ?_)
  · simp only [Bool.not_eq_true', decide_eq_false_iff_not] at hne
    exact ⟨false, rfl, ⟨fun h => (by cases h), fun h => by subst h; omega⟩, Upd.refl _ _⟩
  simp only [Bool.not_eq_false', decide_eq_true_eq] at heq
  refine ⟨⟨0, rfl, Nat.zero_le _, Upd.refl _ _, by simp⟩, ?_⟩
  rintro n w4 ⟨i, rfl, hi, x4, ht⟩
  intros
  refine condB_of (fun hlt => ?_) (fun hge => ?_)
  · simp only [decide_eq_true_eq] at hlt
    intro w39 d39
    have x39 := x4.trans d39.ext
    obtain ⟨x, hx⟩ : ∃ x, A[i]? = some x := ⟨A[i]'(by omega), List.getElem?_eq_getElem _⟩
    obtain ⟨y, hy⟩ : ∃ y, B[i]? = some y := ⟨B[i]'(by omega), List.getElem?_eq_getElem _⟩
    obtain ⟨a, qa, na, ca, rfl, a1, a2, a3, a4, a5⟩ := (h1.ext x39).2 i x hx
    obtain ⟨b, qb, nb, cb, rfl, b1, b2, b3, b4, b5⟩ := (h2.ext x39).2 i y hy
    have hsx := hs x (List.mem_of_getElem? hx)
    have hna := a5.1
    rw [Int.toNat_natCast]
    refine ⟨⟨by omega, hlt⟩, _, a1, _, a2, _, a3, _, _, _, a4, ⟨by omega, by omega⟩, _, b1, _, b2, _, b3, _, _, _, b4, (refput_spec _ _ _ _ _ _ w39).mono ?_⟩
    rintro e w50 ⟨rfl, x50⟩
    refine ⟨_, _, _, _, _, _, rfl, ⟨_, cellx b1 x50, _, cellx b2 x50, _, cellx b3 x50, _, _, _, cellx b4 x50, rfl⟩, (refput_spec _ _ _ _ _ _ w50).mono ?_⟩
    rintro e w60 ⟨rfl, x60⟩
    have x3960 := x50.trans x60
    refine ⟨_, _, _, _, _, _, rfl, (recsame_spec _ _ _ _ _ _ (a5.ext x3960) (b5.ext x3960) (by omega)).mono ?_⟩
    rintro e w66 ⟨bb, rfl, hbb, x66⟩
    refine ⟨_, rfl, fun w69 d69 => ?_⟩
    have x3969 := (x3960.trans x66).trans d69.ext
    have x69 := x39.trans x3969
    have ne : x ≠ y → A ≠ B := fun h hh => h (by rw [hh, hy] at hx; exact (Option.some.inj hx).symm)
    refine condB_of (fun hn => ?_) (fun hp => ⟨⟨by omega, hlt⟩, _, cellx a3 x3969, ⟨by omega, by omega⟩, _, cellx b3 x3969, condB_of (fun hn => ?_) fun he => ?_⟩)
    · refine ⟨false, rfl, ⟨fun h => (by cases h), fun h => absurd h (ne fun hxy => ?_)⟩, x69⟩
      subst hxy
      rw [hbb.2 ⟨rfl, rfl, rfl, rfl⟩] at hn
      cases hn
    · simp only [Bool.not_eq_true', decide_eq_false_iff_not] at hn
      exact ⟨false, rfl, ⟨fun h => (by cases h), fun h => absurd h (ne fun hxy => hn (by rw [hxy]))⟩, x69⟩
    · simp only [Bool.not_eq_false', decide_eq_true_eq] at he hp
      obtain ⟨_, g1, g2, g3⟩ := hbb.1 hp
      rw [w64 (by omega)]
      exact ⟨⟨i + 1, by omega, by omega, x69, take_next ht hx hy (ObV.eq_of g1 g2 he g3)⟩, by show 1000 - ((i : Int) + 1).toNat < 1000 - (i : Int).toNat; omega⟩
  · simp only [decide_eq_false_iff_not] at hge
    rw [List.take_of_length_le (by omega), List.take_of_length_le (by omega)] at ht
    exact ⟨true, rfl, ⟨fun _ => ht, fun _ => rfl⟩, x4⟩
set_option maxHeartbeats 1000000 in
theorem records_spec {w : World} {p1 p2 : Option Addr} {l1 c1 l2 c2 : Nat} {A B : List RecK} (h1 : RecsAt w p1 l1 A) (h2 : RecsAt w p2 l2 B) (hl : l1 ≤ 1000) (hs : ∀ o ∈ A, o.st.length ≤ 1000) :
    Calls Try.prog 24 #[.slice p1 l1 c1, .slice p2 l2 c2] w fun e w' => ∃ b, e = .returned (.bool b) ∧ (b = true ↔ A = B) ∧ Ext w w' := by
  refine (F24_calls p1 l1 c1 p2 l2 c2 w (fun v w' => ∃ b, v = .bool b ∧ (b = true ↔ A = B) ∧ Ext w w') (fun _ n w4 => ∃ i : Nat, n = i ∧ i ≤ l1 ∧ Ext w w4 ∧ A.take i = B.take i) (fun _ n _ => 1000 - n.toNat) ?_).mono (by rintro e w' ⟨v, rfl, b, rfl, h⟩; exact ⟨b, rfl, h⟩)
  have e1 := h1.1
  have e2 := h2.1
  refine condB_of (fun hne => ?_) (fun heq => ?_)
  · simp only [Bool.not_eq_true', decide_eq_false_iff_not] at hne
    exact ⟨false, rfl, ⟨fun h => (by cases h), fun h => by subst h; omega⟩, Upd.refl _ _⟩
  simp only [Bool.not_eq_false', decide_eq_true_eq] at heq
  refine ⟨⟨0, rfl, Nat.zero_le _, Upd.refl _ _, by simp⟩, ?_⟩
  rintro n w4 ⟨i, rfl, hi, x4, ht⟩
  intros
  refine condB_of (fun hlt => ?_) (fun hge => ?_)
  · simp only [decide_eq_true_eq] at hlt
    intro w39 d39
    have x39 := x4.trans d39.ext
    obtain ⟨x, hx⟩ : ∃ x, A[i]? = some x := ⟨A[i]'(by omega), List.getElem?_eq_getElem _⟩
    obtain ⟨y, hy⟩ : ∃ y, B[i]? = some y := ⟨B[i]'(by omega), List.getElem?_eq_getElem _⟩
    obtain ⟨a, qa, na, ca, rfl, a1, a2, a3, a4, a5, _⟩ := (h1.ext x39).2 i x hx
    obtain ⟨b, qb, nb, cb, rfl, b1, b2, b3, b4, b5, _⟩ := (h2.ext x39).2 i y hy
    have hsx := hs x (List.mem_of_getElem? hx)
    have hna := a5.1
    rw [Int.toNat_natCast]
    refine ⟨⟨by omega, hlt⟩, _, a1, _, a2, _, a3, _, _, _, a4, ⟨by omega, by omega⟩, _, b1, _, b2, _, b3, _, _, _, b4, (recsame_spec _ _ _ _ _ _ a5 b5 (by omega)).mono ?_⟩
    rintro e w35 ⟨bb, rfl, hbb, x35⟩
    have x69 := x39.trans x35
    have ne : x ≠ y → A ≠ B := fun h hh => h (by rw [hh, hy] at hx; exact (Option.some.inj hx).symm)
    refine ⟨_, rfl, condB_of (fun hn => ?_) (fun hp => ?_)⟩
    · refine ⟨false, rfl, ⟨fun h => (by cases h), fun h => absurd h (ne fun hxy => ?_)⟩, x69⟩
      subst hxy
      rw [hbb.2 ⟨rfl, rfl, rfl, rfl⟩] at hn
      cases hn
    · simp only [Bool.not_eq_false'] at hp
      obtain ⟨g0, g1, g2, g3⟩ := hbb.1 hp
      rw [w64 (by omega)]
      exact ⟨⟨i + 1, by omega, by omega, x69, take_next ht hx hy (RecK.eq_of g0 g1 g2 g3)⟩, by show 1000 - ((i : Int) + 1).toNat < 1000 - (i : Int).toNat; omega⟩
  · simp only [decide_eq_false_iff_not] at hge
    rw [List.take_of_length_le (by omega), List.take_of_length_le (by omega)] at ht
    exact ⟨true, rfl, ⟨fun _ => ht, fun _ => rfl⟩, x4⟩

/-! ## the call's load -/
def smallO (L : List ObV) : Prop := ∀ o ∈ L, o.key.size ≤ 100 ∧ o.st.length ≤ 20
set_option maxHeartbeats 1000000 in
theorem small18_spec {w : World} (n1 n2 n3 : Int) (p4 : Option Addr) (l4 c4 : Nat) (p5 : Option Addr) (l5 c5 : Nat) (n6 : Int) (s7 : ByteArray) (n8 : Int) (p9 : Option Addr) (l9 c9 : Nat) (n10 n11 : Int) {p12 : Option Addr} {l12 c12 : Nat} {L : List ObV} (h : ObsW w p12 l12 L)
    (n13 n14 n15 n16 n17 : Int) (p18 : Option Addr) (l18 c18 : Nat) (p19 : Option Addr) (l19 c19 : Nat) :
    Calls Try.prog 17 #[.agg #[.int .i64 n1, .int .i64 n2, .int .i64 n3, .slice p4 l4 c4, .slice p5 l5 c5, .int .i64 n6, .string s7, .int .i64 n8, .slice p9 l9 c9, .int .i64 n10, .int .i64 n11, .slice p12 l12 c12, .int .i64 n13, .int .i64 n14, .int .i64 n15, .int .i64 n16, .int .u8 n17, .slice p18 l18 c18, .slice p19 l19 c19]] w
      fun e w' => ∃ b, e = .returned (.bool b) ∧ (b = true ↔ l4 ≤ 20 ∧ l5 ≤ 40 ∧ s7.size ≤ 100 ∧ l9 ≤ 20 ∧ l12 ≤ 20 ∧ smallO L) ∧ Ext w w' := by
  refine (F17_calls n1 n2 n3 p4 l4 c4 p5 l5 c5 n6 s7 n8 p9 l9 c9 n10 n11 p12 l12 c12 n13 n14 n15 n16 n17 p18 l18 c18 p19 l19 c19 w (fun v w' => ∃ b, v = .bool b ∧ (b = true ↔ l4 ≤ 20 ∧ l5 ≤ 40 ∧ s7.size ≤ 100 ∧ l9 ≤ 20 ∧ l12 ≤ 20 ∧ smallO L) ∧ Ext w w')
    (fun _ w21 n28 w29 => ∃ i : Nat, n28 = i ∧ i ≤ l12 ∧ Ext w21 w29 ∧ smallO (L.take i)) (fun _ _ n28 _ => 100 - n28.toNat) ?_).mono (by rintro e w' ⟨v, rfl, b, rfl, h⟩; exact ⟨b, rfl, h⟩)
  intro k20 w21 hk20
  have r20 : RowW w21 k20 _ := ⟨_, hk20.at⟩
  have hlen := h.1
  have no : ∀ {w'}, Ext w w' → (¬ (l4 ≤ 20 ∧ l5 ≤ 40 ∧ s7.size ≤ 100 ∧ l9 ≤ 20 ∧ l12 ≤ 20 ∧ smallO L)) → ∃ b, Value.bool false = .bool b ∧ (b = true ↔ l4 ≤ 20 ∧ l5 ≤ 40 ∧ s7.size ≤ 100 ∧ l9 ≤ 20 ∧ l12 ≤ 20 ∧ smallO L) ∧ Ext w w' :=
    fun hx hn => ⟨false, rfl, ⟨fun h => (by cases h), fun h => absurd h hn⟩, hx⟩
  refine ⟨_, _, _, r20.row.cell rfl, condB_of (fun a => no hk20.ext fun hh => by simp only [decide_eq_true_eq] at a; omega) fun a1 => ⟨_, _, _, r20.row.cell rfl, condB_of (fun a => no hk20.ext fun hh => by simp only [decide_eq_true_eq] at a; omega) fun a2 =>
    ⟨_, by rw [add_add]; exact r20.row.cell rfl, condB_of (fun a => no hk20.ext fun hh => by simp only [decide_eq_true_eq] at a; omega) fun a3 => ⟨_, _, _, by rw [add_add]; exact r20.row.cell rfl, condB_of (fun a => no hk20.ext fun hh => by simp only [decide_eq_true_eq] at a; omega) fun a4 =>
    ⟨_, _, _, by rw [add_add]; exact r20.row.cell rfl, condB_of (fun a => no hk20.ext fun hh => by simp only [decide_eq_true_eq] at a; omega) fun a5 => ⟨⟨0, rfl, Nat.zero_le _, Upd.refl _ _, by simp [smallO]⟩, ?_⟩⟩⟩⟩⟩⟩
  simp only [decide_eq_false_iff_not] at a1 a2 a3 a4 a5
  rintro n28 w29 ⟨i, rfl, hi, x29, hs⟩
  intros
  have y29 := hk20.ext.trans x29
  have q20 : RowW w29 k20 _ := x29.rowW r20 id
  have c11 : w29.cell? (((at0 k20).add 9).add 2) = some (.slice p12 l12 c12) := by rw [add_add]; exact q20.row.cell rfl
  refine ⟨_, _, _, c11, condB_of (fun hlt => ?_) fun hge => ?_⟩
  · simp only [decide_eq_true_eq] at hlt
    obtain ⟨x, hx⟩ : ∃ x, L[i]? = some x := ⟨L[i]'(by omega), List.getElem?_eq_getElem _⟩
    obtain ⟨a, qa, na, ca, rfl, b1, b2, b3, b4, b5⟩ := (h.ext y29).2 i x hx
    have hna := b5.1
    refine ⟨_, _, _, c11, ⟨by omega, hlt⟩, _, by rw [Int.toNat_natCast, add_add, Nat.add_zero]; exact b1, condB_of (fun hh => no y29 fun hz => ?_) fun c1 => ⟨_, _, _, c11, ⟨by omega, hlt⟩, _, _, _, by rw [Int.toNat_natCast]; exact b4, condB_of (fun hh => no y29 fun hz => ?_) fun c2 => ?_⟩⟩
    · simp only [decide_eq_true_eq] at hh
      have := (hz.2.2.2.2.2 x (List.mem_of_getElem? hx)).1
      omega
    · simp only [decide_eq_true_eq] at hh
      have := (hz.2.2.2.2.2 x (List.mem_of_getElem? hx)).2
      omega
    · simp only [decide_eq_false_iff_not] at c1 c2
      rw [w64 (by omega)]
      refine ⟨⟨i + 1, by omega, by omega, x29, fun o ho => ?_⟩, by show 100 - ((i : Int) + 1).toNat < 100 - (i : Int).toNat; omega⟩
      rw [List.take_add_one, hx] at ho
      rcases List.mem_append.1 ho with ho | ho
      · exact hs o ho
      · simp at ho; subst ho; exact ⟨by omega, by omega⟩
  · simp only [decide_eq_false_iff_not] at hge
    rw [List.take_of_length_le (by omega)] at hs
    exact ⟨true, rfl, ⟨fun _ => ⟨by omega, by omega, by omega, by omega, by omega, hs⟩, fun _ => rfl⟩, y29⟩
end Go.Proofs.Ytnfcfbljdibinaa

/- What an append, and a save, makes of disks that are alike. -/
namespace Go.Proofs.Ytnfcfbljdibinaa
open Go Go.Vc

theorem geo_bounds {g : Geo} (h : GeoOk g) : 1 ≤ g.k + g.m ∧ g.k + g.m ≤ 32 ∧ 1 ≤ g.stripes ∧ g.stripes ≤ 256 ∧ 1 ≤ g.slots ∧ g.slots ≤ 64 := by
  obtain ⟨⟨a1, a2, a3⟩, _, ⟨b1, b2⟩, ⟨c1, c2⟩, _⟩ := h
  exact ⟨by omega, a3, b1, b2, c1, c2⟩
theorem slot_at {g : Geo} (h : GeoOk g) {j : Int} (h0 : 0 ≤ j) (h1 : j < g.slots) : slotZ g j = 5 + j := by unfold slotZ; rw [if_pos ⟨h, h0, h1⟩]
theorem area_at {g : Geo} (h : GeoOk g) {a i : Int} (ha : 0 ≤ a ∧ a < 2) (hi : 0 ≤ i ∧ i < 2) : areaZ g a i = 1 + i + 2 * a := by unfold areaZ; rw [if_pos ⟨h, ha, hi⟩]
theorem checkG_ok {g : Geo} (h : GeoOk g) : checkG g = 0 := by unfold checkG; rw [if_pos h]

theorem appM_ok {N : Int} {n : Nat} {V : Int → List UInt8} {s : StA} (h : Al N n V s) (hn : 1 ≤ n) {g : Geo} (hg : GeoOk g) (hN : N = 5 + g.slots + g.stripes) {base count : Int} (hb : 0 ≤ base ∧ base ≤ 2147483547) (hc : 0 ≤ count ∧ count < g.slots) {r : RecK} (hr : r.ok) :
    (appM g base count r.kind r.key r.len r.st s).2 = 0 ∧ Al N n (putV V (5 + count) (packM (5 + count) (base + count + 1) r.b)) (appM g base count r.kind r.key r.len r.st s).1 ∧ Qu (appM g base count r.kind r.key r.len r.st s).1 := by
  obtain ⟨_, _, b1, _, b3, b4⟩ := geo_bounds hg
  have hz : preZ (some (at0 0)) g base count (recZ r.kind r.key r.len r.st) = 0 := by
    unfold preZ preE mcheckZ okZ recZ
    rw [checkG_ok hg, if_pos (show RecOk r.kind r.key r.len r.st from hr), if_pos (⟨hb.1, hc.1, hb.2⟩ : 0 ≤ base ∧ 0 ≤ count ∧ base ≤ 2147483547)]
    simp [firstZ, hc.2]
  have hl : r.b.length ≤ 4096 := by
    unfold RecK.b
    rw [recB_length]
    have h1 := hr.1.2.1.2
    have h2 := hr.1.2.2.2
    omega
  obtain ⟨p1, p2⟩ := h.put (addr := slotZ g count) (epoch := base + count + 1) (d := r.b) (by rw [slot_at hg hc.1 hc.2]; omega) (by rw [slot_at hg hc.1 hc.2]; exact ⟨by omega, by omega⟩) ⟨by omega, by omega⟩ hl
  have hd := p2.down
  unfold appM
  rw [if_pos hz]
  rw [slot_at hg hc.1 hc.2] at p1 p2 hd ⊢
  unfold RecK.b at p1 p2 hd
  have e1 : (putM (fun _ => true) (5 + count) (base + count + 1) (recB r.kind r.key r.len r.st) s).2.1 = (n : Int) := by rw [p1]
  have e2 : (putM (fun _ => true) (5 + count) (base + count + 1) (recB r.kind r.key r.len r.st) s).2.2 = 0 := by rw [p1]
  rw [if_pos e2, e1, hd, if_pos (show 0 < (n : Int) by omega)]
  refine ⟨rfl, ?_⟩
  exact p2.flush
theorem appM_no {s : StA} {g : Geo} {base count : Int} {r : RecK} (h : ¬ (count < g.slots ∧ r.ok)) : ∃ z, z ≠ 0 ∧ appM g base count r.kind r.key r.len r.st s = (s, z) := by
  have hz : preZ (some (at0 0)) g base count (recZ r.kind r.key r.len r.st) ≠ 0 := by
    unfold preZ
    split
    · rename_i he
      split
      · rename_i hc
        exfalso
        refine h ⟨hc, ?_⟩
        by_cases hr : r.ok
        · exact hr
        · exfalso
          unfold preE recZ at he
          rw [if_neg (show ¬ RecOk r.kind r.key r.len r.st from hr)] at he
          simp only [firstZ] at he
          split at he
          · split at he
            · simp at he
            · contradiction
          · contradiction
      · decide
    · assumption
  refine ⟨_, hz, ?_⟩
  unfold appM
  rw [if_neg hz]

/-- what is read when a checkpoint is saved -/
def savV (V : Int → List UInt8) (a E : Int) (B : List UInt8) : Int → List UInt8 := putV (putV V (1 + 2 * a) (packM (1 + 2 * a) E (part B 0))) (2 + 2 * a) (packM (2 + 2 * a) E (part B 1))
theorem preS_zero {g : Geo} (hg : GeoOk g) {a E : Int} {L : List ObV} (h : svZ a E = 0) (hm : MayOk L) : preS (some (at0 0)) g a E (mayZ L) = 0 := by
  unfold preS mcheckZ
  rw [checkG_ok hg, h, mayZ_ok hm]
  rfl
theorem svZ_ok {a E : Int} (h : svZ a E = 0) : (a = 0 ∨ a = 1) ∧ 0 ≤ E ∧ E ≤ 2147483547 := by
  unfold svZ at h
  split at h
  · rename_i hh; exact ⟨by omega, hh.2.2⟩
  · cases h
theorem svM_ok {N : Int} {n : Nat} {V : Int → List UInt8} {s : StA} (h : Al N n V s) (hn : 1 ≤ n) {g : Geo} (hg : GeoOk g) (hN : N = 5 + g.slots + g.stripes) {a E : Int} {L : List ObV} (hs : svZ a E = 0) (hm : MayOk L) :
    (svM g a E L s).2 = 0 ∧ Al N n (savV V a E (snapB L)) (svM g a E L s).1 ∧ Qu (svM g a E L s).1 := by
  obtain ⟨ha, hE⟩ := svZ_ok hs
  obtain ⟨_, _, b1, _, b3, _⟩ := geo_bounds hg
  have hl := part_le (snapB L)
  have ea0 : areaZ g a ((0 : Nat) : Int) = 1 + 2 * a := by rw [area_at hg (by omega) (by omega)]; omega
  have ea1 : areaZ g a ((1 : Nat) : Int) = 2 + 2 * a := by rw [area_at hg (by omega) (by omega)]; omega
  obtain ⟨p1, p2⟩ := h.put (addr := 1 + 2 * a) (epoch := E) (d := part (snapB L) 0) (by omega) ⟨by omega, by omega⟩ ⟨by omega, by omega⟩ (hl 0)
  obtain ⟨q1, q2⟩ := p2.put (addr := 2 + 2 * a) (epoch := E) (d := part (snapB L) 1) (by omega) ⟨by omega, by omega⟩ ⟨by omega, by omega⟩ (hl 1)
  have e1 : savS g a E [part (snapB L) 0, part (snapB L) 1] s 1 = ((putM (fun _ => true) (1 + 2 * a) E (part (snapB L) 0) s).1, true, 0) := by
    have : savS g a E [part (snapB L) 0, part (snapB L) 1] s 1 = ((putM (fun _ => true) (areaZ g a ((0 : Nat) : Int)) E (part (snapB L) 0) s).1, true && decide (0 < (putM (fun _ => true) (areaZ g a ((0 : Nat) : Int)) E (part (snapB L) 0) s).2.1), (putM (fun _ => true) (areaZ g a ((0 : Nat) : Int)) E (part (snapB L) 0) s).2.2) := rfl
    rw [this, ea0, p1, decide_eq_true (show 0 < (n : Int) by omega)]
    rfl
  have e2 : savS g a E [part (snapB L) 0, part (snapB L) 1] s 2 = ((putM (fun _ => true) (2 + 2 * a) E (part (snapB L) 1) (putM (fun _ => true) (1 + 2 * a) E (part (snapB L) 0) s).1).1, true, 0) := by
    have : ∀ t, savS g a E [part (snapB L) 0, part (snapB L) 1] s 1 = (t, true, 0) → savS g a E [part (snapB L) 0, part (snapB L) 1] s 2 = ((putM (fun _ => true) (areaZ g a ((1 : Nat) : Int)) E (part (snapB L) 1) t).1, true && decide (0 < (putM (fun _ => true) (areaZ g a ((1 : Nat) : Int)) E (part (snapB L) 1) t).2.1), (putM (fun _ => true) (areaZ g a ((1 : Nat) : Int)) E (part (snapB L) 1) t).2.2) := by
      intro t ht
      have e : savS g a E [part (snapB L) 0, part (snapB L) 1] s 2 = if (savS g a E [part (snapB L) 0, part (snapB L) 1] s 1).2.2 = 0 then
        ((putM (fun _ => true) (areaZ g a ((1 : Nat) : Int)) E (part (snapB L) 1) (savS g a E [part (snapB L) 0, part (snapB L) 1] s 1).1).1, (savS g a E [part (snapB L) 0, part (snapB L) 1] s 1).2.1 && decide (0 < (putM (fun _ => true) (areaZ g a ((1 : Nat) : Int)) E (part (snapB L) 1) (savS g a E [part (snapB L) 0, part (snapB L) 1] s 1).1).2.1),
          (putM (fun _ => true) (areaZ g a ((1 : Nat) : Int)) E (part (snapB L) 1) (savS g a E [part (snapB L) 0, part (snapB L) 1] s 1).1).2.2) else savS g a E [part (snapB L) 0, part (snapB L) 1] s 1 := rfl
      rw [e, ht]
      rfl
    rw [this _ e1, ea1, q1, decide_eq_true (show 0 < (n : Int) by omega)]
    rfl
  have hd := q2.down
  unfold svM
  rw [if_pos (preS_zero hg hs hm)]
  unfold saveM
  rw [e2]
  simp only [if_true, hd]
  exact ⟨rfl, q2.flush⟩
theorem svM_no {s : StA} {g : Geo} (hg : GeoOk g) {a E : Int} {L : List ObV} (h : ¬ (svZ a E = 0 ∧ MayOk L)) : svM g a E L s = (s, 1) := by
  have hz : preS (some (at0 0)) g a E (mayZ L) = 1 := by
    unfold preS mcheckZ
    rw [checkG_ok hg]
    by_cases hs : svZ a E = 0
    · have hm : ¬ MayOk L := fun hm => h ⟨hs, hm⟩
      rw [hs, mayZ_no hm]
      rfl
    · have : svZ a E = 1 := by unfold svZ at hs ⊢; split at hs <;> simp_all
      rw [this]
      rfl
  unfold svM
  rw [hz]
  simp

/-! ## the records that are kept -/
instance (r : RecK) : Decidable r.ok := inferInstanceAs (Decidable (RecOk _ _ _ _))
def keptF (slots : Int) (L : List RecK) : List RecK := L.foldl (fun out r => if (out.length : Int) < slots ∧ r.ok then out ++ [r] else out) []
theorem keptF_snoc (slots : Int) (L : List RecK) (r : RecK) : keptF slots (L ++ [r]) = if ((keptF slots L).length : Int) < slots ∧ r.ok then keptF slots L ++ [r] else keptF slots L := by
  unfold keptF
  rw [List.foldl_append]
  rfl
theorem keptF_len {slots : Int} (h0 : 0 ≤ slots) (L : List RecK) : ((keptF slots L).length : Int) ≤ slots := by
  have go : ∀ (L out : List RecK), (out.length : Int) ≤ slots → ((L.foldl (fun out r => if (out.length : Int) < slots ∧ r.ok then out ++ [r] else out) out).length : Int) ≤ slots := by
    intro L
    induction L with
    | nil => intro out h; exact h
    | cons r L ih =>
      intro out h
      refine ih _ ?_
      simp only []
      split
      · rename_i hh; simp; omega
      · exact h
  exact go L [] (by simpa using h0)
theorem keptF_ok (slots : Int) (L : List RecK) : ∀ r ∈ keptF slots L, r.ok := by
  have go : ∀ (L out : List RecK), (∀ r ∈ out, r.ok) → ∀ r ∈ L.foldl (fun out r => if (out.length : Int) < slots ∧ r.ok then out ++ [r] else out) out, r.ok := by
    intro L
    induction L with
    | nil => intro out h; exact h
    | cons r L ih =>
      intro out h
      refine ih _ ?_
      simp only []
      split
      · rename_i hh
        intro x hx
        rcases List.mem_append.1 hx with hx | hx
        · exact h x hx
        · simp at hx; rw [hx]; exact hh.2
      · exact h
  exact go L [] (by simp)
theorem keptF_sub (slots : Int) (L : List RecK) : ∀ r ∈ keptF slots L, r ∈ L := by
  have go : ∀ (L out : List RecK) (P : RecK → Prop), (∀ r ∈ out, P r) → (∀ r ∈ L, P r) → ∀ r ∈ L.foldl (fun out r => if (out.length : Int) < slots ∧ r.ok then out ++ [r] else out) out, P r := by
    intro L
    induction L with
    | nil => intro out P h _; exact h
    | cons r L ih =>
      intro out P h hl
      refine ih _ P ?_ fun x hx => hl x (List.mem_cons_of_mem _ hx)
      simp only []
      split
      · intro x hx
        rcases List.mem_append.1 hx with hx | hx
        · exact h x hx
        · simp at hx; rw [hx]; exact hl r (by simp)
      · exact h
  exact go L [] (fun r => r ∈ L) (by simp) fun r h => h
theorem keptF_le (slots : Int) (L : List RecK) : (keptF slots L).length ≤ L.length := by
  have go : ∀ (L out : List RecK), (L.foldl (fun out r => if (out.length : Int) < slots ∧ r.ok then out ++ [r] else out) out).length ≤ out.length + L.length := by
    intro L
    induction L with
    | nil => intro out; simp
    | cons r L ih =>
      intro out
      rw [List.foldl_cons]
      refine Nat.le_trans (ih _) ?_
      split
      · simp; omega
      · simp
  simpa [keptF] using go L []
theorem keptF_full {slots : Int} {L M : List RecK} (h : ¬ ((keptF slots L).length : Int) < slots) : keptF slots (L ++ M) = keptF slots L := by
  have go : ∀ (M out : List RecK), ¬ ((out.length : Int) < slots) → M.foldl (fun out r => if (out.length : Int) < slots ∧ r.ok then out ++ [r] else out) out = out := by
    intro M
    induction M with
    | nil => intro out _; rfl
    | cons r M ih =>
      intro out ho
      rw [List.foldl_cons, if_neg (fun hh => ho hh.1)]
      exact ih out ho
  unfold keptF at h ⊢
  rw [List.foldl_append]
  exact go M _ h

/-- what is read where so many records are in the journal -/
def jouV (V : Int → List UInt8) (base : Int) (R : List RecK) : Int → List UInt8 := fun k => if 5 ≤ k ∧ k < 5 + (R.length : Int) then (match R[(k - 5).toNat]? with
  | some r => packM k (base + (k - 5) + 1) r.b
  | none => []) else V k
theorem jouV_nil (V : Int → List UInt8) (base : Int) : jouV V base [] = V := by
  funext k
  unfold jouV
  rw [if_neg (by simp)]
theorem jouV_snoc (V : Int → List UInt8) (base : Int) (R : List RecK) (r : RecK) : putV (jouV V base R) (5 + (R.length : Int)) (packM (5 + (R.length : Int)) (base + (R.length : Int) + 1) r.b) = jouV V base (R ++ [r]) := by
  funext k
  unfold putV jouV
  by_cases h : k = 5 + (R.length : Int)
  · have h1 : (k - 5).toNat = R.length := by omega
    rw [if_pos h, if_pos (by simp; omega), h1]
    have : (R ++ [r])[R.length]? = some r := by simp
    rw [this]
    simp only
    rw [h, show 5 + (R.length : Int) - 5 = (R.length : Int) by omega]
  · rw [if_neg h]
    by_cases h2 : 5 ≤ k ∧ k < 5 + (R.length : Int)
    · rw [if_pos h2, if_pos (by simp; omega), List.getElem?_append_left (by omega)]
    · rw [if_neg h2, if_neg (by simp; omega)]
theorem jouV_at {V : Int → List UInt8} {base : Int} {R : List RecK} {j : Nat} {r : RecK} (h : R[j]? = some r) : jouV V base R (5 + (j : Int)) = packM (5 + (j : Int)) (base + j + 1) r.b := by
  have hl := (List.getElem?_eq_some_iff.1 h).1
  unfold jouV
  rw [if_pos (by omega), show (5 + (j : Int) - 5).toNat = j by omega, h, show 5 + (j : Int) - 5 = (j : Int) by omega]
theorem jouV_out {V : Int → List UInt8} {base : Int} {R : List RecK} {k : Int} (h : ¬ (5 ≤ k ∧ k < 5 + (R.length : Int))) : jouV V base R k = V k := by
  unfold jouV
  rw [if_neg h]
/-- only the label -/
def labV : Int → List UInt8 := fun k => if k = 0 then labB else []
theorem Al.of_know {N : Int} {n : Nat} {s : StA} {b : Nat → Bool} (h : KnoM N n b s) (hb : ∀ j, j < n → b j = true) : Al N n labV s ∧ Qu s := by
  obtain ⟨h1, h2, h3, h4⟩ := h
  refine ⟨⟨h1, h2, h3, fun j m hj => ?_⟩, fun j m hj => (h4 j m hj).2.1⟩
  have hl := (List.getElem?_eq_some_iff.1 hj).1
  obtain ⟨a1, a2, a3, a4⟩ := h4 j m hj
  have hbj := hb j (by omega)
  refine ⟨a4 hbj, a1, by rw [a2]; exact List.Pairwise.nil, fun k => ?_⟩
  unfold readD labV
  rw [a2, a3, hbj]
  simp only [labD, if_true, Vc.get]
  by_cases hk : k = 0
  · rw [if_pos hk.symm, if_pos hk]
  · rw [if_neg (fun e => hk e.symm), if_neg hk]
end Go.Proofs.Ytnfcfbljdibinaa

/- The records that may be; disks that are laid. -/
namespace Go.Proofs.Ytnfcfbljdibinaa
open Go Go.Vc

def recV4 (r : RecK) (q : Option Addr) (n c : Nat) : List Value := [.int .i64 r.kind, .string r.key, .int .i64 r.len, .slice q n c]
/-- records of an own slice whose stripes lie elsewhere -/
structure RowsI (w : World) (rows : List Value) (R : List RecK) : Prop where
  len : rows.length = R.length * 4
  row : ∀ i r, R[i]? = some r → ∃ q n c, rows[i * 4 + 0]? = some (.int .i64 r.kind) ∧ rows[i * 4 + 1]? = some (.string r.key) ∧ rows[i * 4 + 2]? = some (.int .i64 r.len) ∧ rows[i * 4 + 3]? = some (.slice q n c) ∧ IntsAt w q n r.st ∧ n ≤ 9223372036854775807
theorem RowsI.nil (w : World) : RowsI w [] [] := ⟨rfl, fun i o h => by simp at h⟩
theorem RowsI.ext {w w' : World} {rows : List Value} {R : List RecK} (h : RowsI w rows R) (hx : Ext w w') : RowsI w' rows R := ⟨h.len, fun i r hi => by
  obtain ⟨q, n, c, h1, h2, h3, h4, h5, h6⟩ := h.row i r hi
  exact ⟨q, n, c, h1, h2, h3, h4, h5.ext hx, h6⟩⟩
theorem RowsI.snoc {w : World} {rows : List Value} {os : List RecK} (h : RowsI w rows os) {o : RecK} {q : Option Addr} {n c : Nat} (own : IntsAt w q n o.st) (hn : n ≤ 9223372036854775807) : RowsI w (rows ++ recV4 o q n c) (os ++ [o]) := by
  have hl := h.len
  refine ⟨by simp [hl, recV4]; omega, fun i x hi => ?_⟩
  unfold recV4
  rw [List.getElem?_append] at hi
  split at hi
  · rename_i hlt
    obtain ⟨q', n', c', h1, h2, h3, h4, h5⟩ := h.row i x hi
    have hb : ∀ k, k < 4 → i * 4 + k < rows.length := fun k hk => by omega
    exact ⟨q', n', c', by rw [List.getElem?_append_left (hb 0 (by omega))]; exact h1, by rw [List.getElem?_append_left (hb 1 (by omega))]; exact h2, by rw [List.getElem?_append_left (hb 2 (by omega))]; exact h3, by rw [List.getElem?_append_left (hb 3 (by omega))]; exact h4, h5⟩
  · rename_i hge
    have hi0 : i - os.length = 0 := by
      rcases hq : i - os.length with _ | k
      · rfl
      · rw [hq] at hi; simp at hi
    rw [hi0] at hi
    cases hi
    have hil : i = os.length := by omega
    have hb : ∀ k, rows.length ≤ i * 4 + k := fun k => by omega
    have hs : ∀ k, i * 4 + k - rows.length = k := fun k => by omega
    exact ⟨q, n, c, by rw [List.getElem?_append_right (hb 0), hs]; rfl, by rw [List.getElem?_append_right (hb 1), hs]; rfl, by rw [List.getElem?_append_right (hb 2), hs]; rfl, by rw [List.getElem?_append_right (hb 3), hs]; rfl, own, hn⟩
theorem RowsI.at_ {w : World} {base2 : Nat} {rows : List Value} {R : List RecK} (h : RowsI w rows R) {p : Option Addr} {l c : Nat} (own : OwnS w base2 27 4 p l c rows) : RecsAt w p l R := by
  have hl := own.length
  refine ⟨by have := h.len; omega, fun i o hi => ?_⟩
  obtain ⟨q, n, c', h1, h2, h3, h4, h5, h6⟩ := h.row i o hi
  obtain ⟨a, ha, c1⟩ := own.cells _ _ h1
  obtain ⟨a2, ha2, c2⟩ := own.cells _ _ h2
  obtain ⟨a3, ha3, c3⟩ := own.cells _ _ h3
  obtain ⟨a4, ha4, c4⟩ := own.cells _ _ h4
  rw [ha] at ha2 ha3 ha4
  cases ha2; cases ha3; cases ha4
  exact ⟨a, q, n, c', ha, c1, by rw [add_add]; exact c2, by rw [add_add]; exact c3, by rw [add_add]; exact c4, h5, h6⟩
/-- records that a replay tells -/
theorem RowsRc.recs {w : World} {base base2 : Nat} {rows : List Value} {R : List RecK} (h : RowsRc w base rows (R.map (·.v))) {p : Option Addr} {l c : Nat} (own : OwnS w base2 27 4 p l c rows) : RecsAt w p l R := by
  have hl := own.length
  refine ⟨by have := h.len; simp at this; omega, fun i o hi => ?_⟩
  obtain ⟨q, n, c', h1, h2, h3, h4, h5, h6⟩ := h.row i o.v (by rw [List.getElem?_map, hi]; rfl)
  obtain ⟨a, ha, c1⟩ := own.cells _ _ h1
  obtain ⟨a2, ha2, c2⟩ := own.cells _ _ h2
  obtain ⟨a3, ha3, c3⟩ := own.cells _ _ h3
  obtain ⟨a4, ha4, c4⟩ := own.cells _ _ h4
  rw [ha] at ha2 ha3 ha4
  cases ha2; cases ha3; cases ha4
  exact ⟨a, q, n, c', ha, c1, by rw [add_add, ← bstr_key o.key]; exact c2, by rw [add_add]; exact c3, by rw [add_add]; exact c4, own_ints h5, by omega⟩

/-- one record is appended to an own slice -/
theorem rec_app {w0 w wi : World} (hx : Ext w0 w) {p : Option Addr} {n c : Nat} {rows : List Value} (h : OwnS w w0.heap.size 27 4 p n c rows) {R : List RecK} (hr : RowsI wi rows R) {r : RecK} {q : Option Addr} {m d : Nat} (hq : IntsAt wi q m r.st) (hm : m ≤ 9223372036854775807) {k : Nat} {w1 : World}
    (hk : NewB w k (.cells #[.int .i64 r.kind, .string r.key, .int .i64 r.len, .slice q m d] 27) w1) (hn : n ≤ 1000) :
    ∃ p' c' w', Sem.run Try.prog (Builtin.append_ #[32, 32] 32 #[.slice p n c, .slice (some (at0 k)) 1 1]) w1 = .ok (.slice p' (n + 1) c') w' ∧ OwnS w' w0.heap.size 27 4 p' (n + 1) c' (rows ++ recV4 r q m d) ∧ RowsI wi (rows ++ recV4 r q m d) (R ++ [r]) ∧ Ext w0 w' := by
  have q1 : RowW w1 k #[.int .i64 r.kind, .string r.key, .int .i64 r.len, .slice q m d] := ⟨_, hk.at⟩
  have cc : CellsAt w1 (some (at0 k)) (recV4 r q m d) := fun j u hj => ⟨_, rfl, q1.row.cell (by simpa [recV4] using hj)⟩
  have x1 := hx.trans hk.ext
  obtain ⟨p', c', w', hr', own', hu, _⟩ := (h.ext hk.ext).append elemRc 32 (q := some (at0 k)) (m := 1) (d := 1) (news := recV4 r q m d) rfl cc (fun h => by cases h) (by
    intro u hu
    simp only [recV4, List.mem_cons, List.not_mem_nil, or_false] at hu
    rcases hu with rfl | rfl | rfl | rfl <;> rfl) (by unfold maxLen; omega) (by omega) x1.size
  exact ⟨p', c', w', hr', own', hr.snoc hq hm, ext_own x1 (h.ext hk.ext) hu⟩

set_option maxHeartbeats 1000000 in
theorem kept_spec {w0 w : World} (g : Geo) {p : Option Addr} {l c : Nat} {R : List RecK} (h : RecsAt w0 p l R) (hx0 : Ext w0 w) : Calls Try.prog 20 #[gV g, .slice p l c] w fun e w' => ∃ p' l' c', e = .returned (.slice p' l' c') ∧ RecsAt w' p' l' (keptF g.slots (R.take 20)) ∧ Ext w w' ∧ ∃ base rows, w.heap.size ≤ base ∧ OwnS w' base 27 4 p' l' c' rows ∧ RowsI w0 rows (keptF g.slots (R.take 20)) := by
  refine (F20_calls g.k g.m g.size g.stripes g.slots g.objects p l c w (fun v w' => ∃ p' l' c', v = .slice p' l' c' ∧ RecsAt w' p' l' (keptF g.slots (R.take 20)) ∧ Ext w w' ∧ ∃ base rows, w.heap.size ≤ base ∧ OwnS w' base 27 4 p' l' c' rows ∧ RowsI w0 rows (keptF g.slots (R.take 20)))
    (fun q8 w9 p11 l11 c11 n12 w13 => ∃ (i k8 : Nat) (rows : List Value), q8 = some (at0 k8) ∧ n12 = i ∧ i ≤ l ∧ i ≤ 20 ∧ RowW w9 k8 (gRow g) ∧ Ext w w9 ∧ Ext w9 w13 ∧ OwnS w13 w9.heap.size 27 4 p11 l11 c11 rows ∧ RowsI w0 rows (keptF g.slots (R.take i))) (fun _ _ _ _ _ n12 _ => 100 - n12.toNat) ?_).mono (by rintro e w' ⟨v, rfl, p', l', c', rfl, h⟩; exact ⟨p', l', c', rfl, h⟩)
  have hlen := h.1
  intro k8 w9 hk8
  refine ⟨⟨0, k8, [], rfl, rfl, Nat.zero_le _, by omega, ⟨_, hk8.at⟩, hk8.ext, Upd.refl _ _, OwnS.nil _ _ _ _, RowsI.nil _⟩, ?_⟩
  rintro p11 l11 c11 n12 w13 ⟨i, k8', rows, hq, rfl, hi, hi20, r8, x9, x13, own, hrows⟩
  cases hq
  intros
  have y13 := x9.trans x13
  have q8 : RowW w13 k8 (gRow g) := x13.rowW r8 id
  have fin : keptF g.slots (R.take i) = keptF g.slots (R.take 20) → ∃ p' l' c', Value.slice p11 l11 c11 = .slice p' l' c' ∧ RecsAt w13 p' l' (keptF g.slots (R.take 20)) ∧ Ext w w13 ∧ ∃ base rows, w.heap.size ≤ base ∧ OwnS w13 base 27 4 p' l' c' rows ∧ RowsI w0 rows (keptF g.slots (R.take 20)) := fun e => ⟨_, _, _, rfl, by rw [← e]; exact (hrows.ext (hx0.trans y13)).at_ own, y13, _, rows, x9.size, own, by rw [← e]; exact hrows⟩
  have hl11 : l11 = (keptF g.slots (R.take i)).length := ((hrows.ext (hx0.trans y13)).at_ own).1
  have mu : 100 - (IntKind.i64.wrap ((i : Int) + 1)).toNat < 100 - (i : Int).toNat := by rw [w64 (by omega)]; omega
  refine condB_of (fun hlt => condB_of (fun hlt2 => ⟨_, q8.row.cell rfl, condB_of (fun hfew => ?_) fun hfull => fin ?_⟩) fun hge => fin ?_) fun hge => fin ?_
  · simp only [decide_eq_true_eq] at hlt hlt2 hfew
    obtain ⟨x, hx⟩ : ∃ x, R[i]? = some x := ⟨R[i]'(by omega), List.getElem?_eq_getElem _⟩
    obtain ⟨a, qa, na, ca, rfl, a1, a2, a3, a4, a5, a6⟩ := (h.ext (hx0.trans y13)).2 i x hx
    have hk := keptF_snoc g.slots (R.take i) x
    rw [show R.take i ++ [x] = R.take (i + 1) by rw [List.take_add_one, hx]; rfl] at hk
    rw [Int.toNat_natCast]
    refine ⟨⟨by omega, hlt⟩, _, a1, _, a2, _, a3, _, _, _, a4, (rec_spec _ _ _ a5 a6).mono ?_⟩
    rintro e w50 ⟨rfl, x50⟩
    refine ⟨_, rfl, condB_of (fun hz => ?_) fun hz => ?_⟩
    · simp only [decide_eq_true_eq] at hz
      have hok : x.ok := by
        unfold recZ at hz
        split at hz
        · assumption
        · cases hz
      rw [if_pos ⟨by omega, hok⟩] at hk
      refine ⟨⟨by omega, hlt⟩, _, cellx a1 x50, _, cellx a2 x50, _, cellx a3 x50, _, _, _, cellx a4 x50, fun k58 w59 hk59 => ?_⟩
      obtain ⟨b, qb, nb, cb, hb, _, _, _, b4, b5, b6⟩ := h.2 i x hx
      cases hb
      have hcell := cellx b4 (hx0.trans y13)
      rw [a4] at hcell
      cases hcell
      obtain ⟨p', c', w', hr, own', rows', x'⟩ := rec_app (x13.trans x50) (own.ext x50) hrows b5 b6 hk59 (by rw [hl11]; exact Nat.le_trans (keptF_le _ _) (by rw [List.length_take]; omega))
      refine ⟨p', _, c', w', hr, ⟨i + 1, k8, _, rfl, by rw [w64 (by omega)]; omega, by omega, by omega, r8, x9, x', own', by rw [hk]; exact rows'⟩, mu⟩
    · simp only [decide_eq_false_iff_not] at hz
      have hok : ¬ x.ok := fun hok => hz (by unfold recZ; rw [if_pos (show RecOk x.kind x.key x.len x.st from hok)])
      rw [if_neg (fun hh => hok hh.2)] at hk
      exact ⟨⟨i + 1, k8, rows, rfl, by rw [w64 (by omega)]; omega, by omega, by omega, r8, x9, x13.trans x50, own.ext x50, by rw [hk]; exact hrows⟩, mu⟩
  · simp only [decide_eq_false_iff_not] at hfull
    rw [hl11] at hfull
    have : R.take 20 = R.take i ++ (R.take 20).drop i := by
      have e := (List.take_append_drop i (R.take 20)).symm
      rw [List.take_take, Nat.min_eq_left hi20] at e
      exact e
    rw [this, keptF_full hfull]
  · simp only [decide_eq_false_iff_not] at hge
    rw [show i = 20 by omega]
  · simp only [decide_eq_false_iff_not] at hge
    rw [List.take_of_length_le (by omega), List.take_of_length_le (by omega)]
end Go.Proofs.Ytnfcfbljdibinaa

/- Disks with a checkpoint, and records. -/
namespace Go.Proofs.Ytnfcfbljdibinaa
open Go Go.Vc

def upto (n : Nat) : List Int := (List.range n).map fun (i : Nat) => (i : Int)
theorem upto_succ (n : Nat) : upto (n + 1) = upto n ++ [(n : Int)] := by simp [upto, List.range_succ]
theorem upto_mem {n j : Nat} (h : j < n) : (j : Int) ∈ upto n := List.mem_map.2 ⟨j, List.mem_range.2 h, rfl⟩
/-- what is read on disks that are laid -/
def laidV (a E : Int) (L : List ObV) (R : List RecK) : Int → List UInt8 := jouV (savV labV a E (snapB L)) E R
/-- disks that are laid -/
def LaidS (g : Geo) (a E : Int) (L : List ObV) (R : List RecK) (s : StA) : Prop := Al (5 + g.slots + g.stripes) (g.k + g.m).toNat (laidV a E L R) s ∧ Qu s
theorem LaidS.app {g : Geo} {a E : Int} {L : List ObV} {R : List RecK} {s : StA} (h : LaidS g a E L R s) (hg : GeoOk g) (hE : 0 ≤ E ∧ E ≤ 2147483547) (r : RecK) :
    (((appM g E (R.length : Int) r.kind r.key r.len r.st s).2 = 0 ∧ (R.length : Int) < g.slots ∧ r.ok) ∨ ((appM g E (R.length : Int) r.kind r.key r.len r.st s).2 ≠ 0 ∧ ¬ ((R.length : Int) < g.slots ∧ r.ok))) ∧
    LaidS g a E L (if (R.length : Int) < g.slots ∧ r.ok then R ++ [r] else R) (appM g E (R.length : Int) r.kind r.key r.len r.st s).1 := by
  by_cases hc : (R.length : Int) < g.slots ∧ r.ok
  · obtain ⟨h1, h2, h3⟩ := appM_ok h.1 (by obtain ⟨b, _⟩ := geo_bounds hg; omega) hg rfl hE (count := (R.length : Int)) ⟨by omega, hc.1⟩ hc.2
    rw [if_pos hc]
    refine ⟨.inl ⟨h1, hc⟩, ?_, h3⟩
    unfold laidV at h2 ⊢
    rw [← jouV_snoc]
    exact h2
  · obtain ⟨z, hz, he⟩ := appM_no (s := s) (g := g) (base := E) (count := (R.length : Int)) (r := r) hc
    rw [if_neg hc, he]
    exact ⟨.inr ⟨hz, hc⟩, h⟩

/-- a function's own array in a state, the rows of its arguments beside it -/
def OwnL (w w' : World) (q11 q13 p28 : Option Addr) (g : Geo) (area epoch : Int) (p9 : Option Addr) (l9 c9 : Nat) (s : StA) : Prop :=
  ∃ (a k11 k13 B : Nat) (F : Nat → Prop), q11 = some (at0 k11) ∧ q13 = some (at0 k13) ∧ p28 = some (at0 a) ∧ k11 < B ∧ k13 < B ∧ w.heap.size ≤ B ∧ B ≤ w'.heap.size ∧ Ext w w' ∧ (∀ x, F x → B ≤ x) ∧ RowW w' k11 (gRow g) ∧ RowW w' k13 (svRow area epoch p9 l9 c9) ∧ IsA w' a s F

set_option maxHeartbeats 4000000 in
theorem laid_spec {w : World} {g : Geo} (hg : GeoOk g) (area epoch : Int) {p9 : Option Addr} {l9 c9 : Nat} {L : List ObV} (hL : ObsV w p9 l9 L) (hl9 : l9 ≤ 1000000) {p10 : Option Addr} {l10 c10 : Nat} {R : List RecK} (hR : RecsAt w p10 l10 R) :
    Calls Try.prog 18 #[gV g, .agg #[.int .i64 area, .int .i64 epoch, .slice p9 l9 c9], .slice p10 l10 c10] w fun e w' => (¬ (svZ area epoch = 0 ∧ MayOk L) ∧ e = .returned (.tuple #[.pointer none, .int .i64 0]) ∧ Ext w w') ∨
      (svZ area epoch = 0 ∧ MayOk L ∧ ∃ (a : Nat) (F : Nat → Prop) (s : StA), e = .returned (.tuple #[.pointer (some (at0 a)), .int .i64 ((keptF g.slots (R.take 20)).length : Int)]) ∧ Ext w w' ∧ (∀ x, F x → w.heap.size ≤ x) ∧ IsA w' a s F ∧ LaidS g area epoch L (keptF g.slots (R.take 20)) s) := by
  obtain ⟨b1, b2, b3, b4, b5, b6⟩ := geo_bounds hg
  refine (F18_calls g.k g.m g.size g.stripes g.slots g.objects area epoch p9 l9 c9 p10 l10 c10 w (fun v w' => (¬ (svZ area epoch = 0 ∧ MayOk L) ∧ v = .tuple #[.pointer none, .int .i64 0] ∧ Ext w w') ∨
      (svZ area epoch = 0 ∧ MayOk L ∧ ∃ (a : Nat) (F : Nat → Prop) (s : StA), v = .tuple #[.pointer (some (at0 a)), .int .i64 ((keptF g.slots (R.take 20)).length : Int)] ∧ Ext w w' ∧ (∀ x, F x → w.heap.size ≤ x) ∧ IsA w' a s F ∧ LaidS g area epoch L (keptF g.slots (R.take 20)) s))
    (fun _ _ _ _ w26 p34 l34 c34 n35 w36 => ∃ i : Nat, n35 = i ∧ (i : Int) ≤ g.k + g.m ∧ l34 = i ∧ Ext w26 w36 ∧ OwnS w36 w26.heap.size 3 1 p34 l34 c34 (encI (upto i))) (fun _ _ _ _ _ _ _ _ n35 _ => 100 - n35.toNat)
    (fun q11 q13 p28 _ n68 n69 w70 => ∃ (i : Nat) (s : StA), n69 = i ∧ i ≤ l10 ∧ i ≤ 20 ∧ n68 = ((keptF g.slots (R.take i)).length : Int) ∧ OwnL w w70 q11 q13 p28 g area epoch p9 l9 c9 s ∧ svZ area epoch = 0 ∧ MayOk L ∧ LaidS g area epoch L (keptF g.slots (R.take i)) s) (fun _ _ _ _ _ n69 _ => 100 - n69.toNat) ?_).mono (by
      rintro e w' ⟨v, rfl, ⟨h1, rfl, h⟩ | ⟨h1, h2, a, F, s, rfl, h⟩⟩
      · exact .inl ⟨h1, rfl, h⟩
      · exact .inr ⟨h1, h2, a, F, s, rfl, h⟩)
  intro k11 w12 hk11 k13 w14 hk13
  have s11 := hk11.size
  have s13 := hk13.size
  have x14 := hk11.ext.trans hk13.ext
  have r11 : RowW w14 k11 (gRow g) := hk13.ext.rowW ⟨_, hk11.at⟩ id
  have r13 : RowW w14 k13 (svRow area epoch p9 l9 c9) := ⟨_, hk13.at⟩
  refine ⟨_, r11.row.cell (n := 0) rfl, _, r11.row.cell rfl, _, r11.row.cell (n := 0) rfl, _, r11.row.cell rfl, _, r11.row.cell rfl, _, r11.row.cell rfl, _, r11.row.cell rfl, _, r11.row.cell rfl, (sectors_spec g w14).mono ?_⟩
  rintro e w23 ⟨rfl, x23⟩
  have hsec : sectorsZ g = 5 + g.slots + g.stripes := by unfold sectorsZ; rw [if_pos hg]
  rw [hsec, w64 (n := g.k + g.m) (by omega)]
  refine ⟨_, rfl, (anew_good (n := g.k + g.m) (s := 5 + g.slots + g.stripes) ⟨b1, b2⟩ ⟨by omega, by omega⟩ w23).mono ?_⟩
  rintro e w26 ⟨a, F, rfl, x26, h26, hF⟩
  have x1426 := x23.trans x26
  have y26 := x14.trans x1426
  have z14 := x14.size
  have z1423 := x23.size
  refine ⟨_, _, rfl, condB_f rfl (condB_f rfl ⟨⟨0, rfl, by omega, rfl, Upd.refl _ _, OwnS.nil _ _ _ _⟩, ?_⟩)⟩
  rintro p34 l34 c34 n35 w36 ⟨i, rfl, hi, rfl, x36, own⟩
  intros
  refine condB_of (fun hlt => ?_) (fun hge => ?_)
  · simp only [decide_eq_true_eq] at hlt
    intro k46 w47 hk46
    obtain ⟨p', c', w48, hr, own48, x48⟩ := app_one elemInt (by omega) x36 own hk46 rfl (by omega)
    refine ⟨p', _, c', w48, hr, ⟨l34 + 1, by rw [w64 (by omega)]; omega, by omega, rfl, x48, ?_⟩, by rw [w64 (by omega)]; show 100 - ((l34 : Int) + 1).toNat < 100 - (l34 : Int).toNat; omega⟩
    rw [upto_succ]
    unfold encI at own48 ⊢
    rw [List.map_append]
    exact own48
  simp only [decide_eq_false_iff_not] at hge
  have hin : l34 = (g.k + g.m).toNat := by omega
  have h36 : IsA w36 a (begA (g.k + g.m).toNat (5 + g.slots + g.stripes)) F := IsArr.ext h26 x36
  have hlt26 := h26.lt
  have okb := begA_ok (n := (g.k + g.m).toNat) (k := 5 + g.slots + g.stripes) (by omega)
  have hall : ∀ F' w', Step F F' w36 w' → IntsAt w' p34 l34 (upto l34) := fun F' w' hs => own_ints (ownS_step own hs hlt26)
  refine (mlabel_spec h36 okb hall (by omega)).mono ?_
  rintro e w50 ⟨F50, rfl, st50, h50⟩
  obtain ⟨hz0, kn⟩ := label_beg (g.k + g.m).toNat (N := 5 + g.slots + g.stripes) (by omega) (upto l34)
  obtain ⟨al0, qu0⟩ := Al.of_know kn fun j hj => decide_eq_true (upto_mem (by omega))
  obtain ⟨y50, hF50⟩ := ext_stepA (x1426.trans x36) st50 (fun x hx => Nat.le_trans x23.size (hF x hx))
  generalize (labelM (upto l34) (begA (g.k + g.m).toNat (5 + g.slots + g.stripes))).1 = s0 at h50 al0 qu0
  have x50 := x14.trans y50
  have q11 : RowW w50 k11 (gRow g) := y50.rowW r11 id
  have q13 : RowW w50 k13 (svRow area epoch p9 l9 c9) := y50.rowW r13 id
  refine ⟨_, rfl, _, q11.row.cell (n := 0) rfl, _, q11.row.cell rfl, _, q11.row.cell rfl, _, q11.row.cell rfl, _, q11.row.cell rfl, _, q11.row.cell rfl, _, q13.row.cell (n := 0) rfl, _, q13.row.cell rfl, _, _, _, q13.row.cell rfl, (msave_spec h50 (al0.ok (by omega)) g area epoch (hL.ext x50) hl9).mono ?_⟩
  rintro e w62 ⟨F62, rfl, st62, h62⟩
  obtain ⟨y62, hF62⟩ := ext_stepA y50 st62 hF50
  have x62 := x14.trans y62
  by_cases hok : svZ area epoch = 0 ∧ MayOk L
  · obtain ⟨sv0, al1, qu1⟩ := svM_ok al0 (by omega) hg rfl hok.1 hok.2
    rw [sv0]
    generalize (svM g area epoch L s0).1 = s1 at h62 al1 qu1
    have t11 : RowW w62 k11 (gRow g) := y62.rowW r11 id
    have t13 : RowW w62 k13 (svRow area epoch p9 l9 c9) := y62.rowW r13 id
    have l11 := t11.lt
    have z62 := y62.size
    have hE := (svZ_ok hok.1).2
    refine ⟨_, rfl, condB_f rfl ⟨⟨0, s1, rfl, Nat.zero_le _, by omega, rfl, ⟨a, k11, k13, w14.heap.size, F62, rfl, rfl, rfl, r11.lt, r13.lt, z14, z62, x62, hF62, t11, t13, h62⟩, hok.1, hok.2, ?_, qu1⟩, ?_⟩⟩
    · have e : laidV area epoch L (keptF g.slots (R.take 0)) = savV labV area epoch (snapB L) := jouV_nil _ _
      rw [e]
      exact al1
    clear h62 al1 qu1 st62 hF62 t11 t13 y62 x62 z62
    rintro n68 n69 w70 ⟨i, s, rfl, hi, hi20, rfl, ⟨a', k11', k13', B, F', hq1, hq2, hq3, kb11, kb13, hB, hB', x70, hF', u11, u13, h70⟩, _, _, hlaid⟩
    cases hq1; cases hq2; cases hq3
    intros
    have hlen := hR.1
    have fin : keptF g.slots (R.take i) = keptF g.slots (R.take 20) → (¬ (svZ area epoch = 0 ∧ MayOk L) ∧ Value.tuple #[.pointer (some (at0 a)), .int .i64 ((keptF g.slots (R.take i)).length : Int)] = .tuple #[.pointer none, .int .i64 0] ∧ Ext w w70) ∨
      (svZ area epoch = 0 ∧ MayOk L ∧ ∃ (a' : Nat) (F : Nat → Prop) (s : StA), Value.tuple #[.pointer (some (at0 a)), .int .i64 ((keptF g.slots (R.take i)).length : Int)] = .tuple #[.pointer (some (at0 a')), .int .i64 ((keptF g.slots (R.take 20)).length : Int)] ∧ Ext w w70 ∧ (∀ x, F x → w.heap.size ≤ x) ∧ IsA w70 a' s F ∧ LaidS g area epoch L (keptF g.slots (R.take 20)) s) :=
      fun e => .inr ⟨hok.1, hok.2, a, F', s, by rw [e], x70, fun x hx => Nat.le_trans hB (hF' x hx), h70, by rw [← e]; exact hlaid⟩
    have mu : 100 - (IntKind.i64.wrap ((i : Int) + 1)).toNat < 100 - (i : Int).toNat := by rw [w64 (by omega)]; omega
    refine condB_of (fun hlt => condB_of (fun hlt2 => fun w94 d94 => ?_) fun hge => fin ?_) fun hge => fin ?_
    · simp only [decide_eq_true_eq] at hlt hlt2
      have v11 : RowW w94 k11 (gRow g) := d94.ext.rowW u11 id
      have v13 : RowW w94 k13 (svRow area epoch p9 l9 c9) := d94.ext.rowW u13 id
      have x94 := x70.trans d94.ext
      obtain ⟨x, hx⟩ : ∃ x, R[i]? = some x := ⟨R[i]'(by omega), List.getElem?_eq_getElem _⟩
      obtain ⟨ar, qa, na, ca, rfl, a1, a2, a3, a4, a5, a6⟩ := (hR.ext x94).2 i x hx
      have hk := keptF_snoc g.slots (R.take i) x
      rw [show R.take i ++ [x] = R.take (i + 1) by rw [List.take_add_one, hx]; rfl] at hk
      rw [Int.toNat_natCast]
      refine ⟨_, v11.row.cell (n := 0) rfl, _, v11.row.cell rfl, _, v11.row.cell rfl, _, v11.row.cell rfl, _, v11.row.cell rfl, _, v11.row.cell rfl, _, v13.row.cell rfl, ⟨by omega, hlt⟩, _, a1, _, a2, _, a3, _, _, _, a4, (mappend_spec (IsArr.ext h70 d94.ext) (hlaid.1.ok (by omega)) g epoch _ _ _ _ a5 a6).mono ?_⟩
      rintro e w107 ⟨F107, rfl, st107, h107⟩
      have hstep := hlaid.app hg hE x
      have t11 : RowW w107 k11 (gRow g) := st107.upd.rowW v11 (fun hf => by have := hF' _ hf; omega)
      have t13 : RowW w107 k13 (svRow area epoch p9 l9 c9) := st107.upd.rowW v13 (fun hf => by have := hF' _ hf; omega)
      have hF107 : ∀ x, F107 x → B ≤ x := fun x hx => (st107.grow x hx).elim (hF' x) fun h => Nat.le_trans hB' (Nat.le_trans d94.ext.size h)
      have x107 := (ext_stepA x94 st107 fun x hx => Nat.le_trans hB (hF' x hx)).1
      have hB107 : B ≤ w107.heap.size := Nat.le_trans hB' (Nat.le_trans d94.ext.size st107.upd.size)
      have own107 : OwnL w w107 (some (at0 k11)) (some (at0 k13)) (some (at0 a)) g area epoch p9 l9 c9 (appM g epoch ((keptF g.slots (R.take i)).length : Int) x.kind x.key x.len x.st s).1 :=
        ⟨a, k11, k13, B, F107, rfl, rfl, rfl, kb11, kb13, hB, hB107, x107, hF107, t11, t13, h107⟩
      have hkl := keptF_le g.slots (R.take i)
      rw [List.length_take] at hkl
      refine ⟨_, rfl, condB_of (fun hz => ?_) fun hz => ?_⟩
      · simp only [decide_eq_true_eq] at hz
        rcases hstep.1 with ⟨_, hc⟩ | ⟨hn, _⟩
        · have hlaid' := hstep.2
          rw [if_pos hc] at hk hlaid'
          refine ⟨⟨i + 1, _, by rw [w64 (by omega)]; omega, by omega, by omega, ?_, own107, hok.1, hok.2, by rw [hk]; exact hlaid'⟩, mu⟩
          rw [hk, w64 (by omega), List.length_append]
          rfl
        · exact absurd hz hn
      · simp only [decide_eq_false_iff_not] at hz
        rcases hstep.1 with ⟨h0, _⟩ | ⟨_, hc⟩
        · exact absurd h0 hz
        · have hlaid' := hstep.2
          rw [if_neg hc] at hk hlaid'
          exact ⟨⟨i + 1, _, by rw [w64 (by omega)]; omega, by omega, by omega, by rw [hk], own107, hok.1, hok.2, by rw [hk]; exact hlaid'⟩, mu⟩
    · simp only [decide_eq_false_iff_not] at hge
      rw [show i = 20 by omega]
    · simp only [decide_eq_false_iff_not] at hge
      rw [List.take_of_length_le (by omega), List.take_of_length_le (by omega)]
  · rw [svM_no hg hok]
    exact ⟨_, rfl, condB_t rfl (.inl ⟨hok, rfl, x62⟩)⟩
end Go.Proofs.Ytnfcfbljdibinaa

/- Lists of objects and of records, a checkpoint, as arguments. -/
namespace Go.Proofs.Ytnfcfbljdibinaa
open Go Go.Vc Go.ChangeShapes Go.WideShapes Go.ChangeAt

theorem list_of_rows {α : Type} {l : Nat} {Q : Nat → α → Prop} (h : ∀ i, i < l → ∃ x, Q i x) : ∃ L : List α, l = L.length ∧ ∀ i x, L[i]? = some x → Q i x := by
  induction l with
  | zero => exact ⟨[], rfl, fun i x hi => by simp at hi⟩
  | succ k ih =>
    obtain ⟨L, hL, hall⟩ := ih fun i hi => h i (by omega)
    obtain ⟨x, hx⟩ := h k (by omega)
    refine ⟨L ++ [x], by simp; exact hL, fun i y hi => ?_⟩
    rw [List.getElem?_append] at hi
    split at hi
    · exact hall i y hi
    · rename_i hge
      have : i - L.length = 0 := by
        rcases hq : i - L.length with _ | j
        · rfl
        · rw [hq] at hi; simp at hi
      rw [this] at hi
      cases hi
      have : i = k := by omega
      rw [this]; exact hx

section
variable {H : Type} {enc : TypeId × Value → H} {w : World} {base : Nat} {sp : Nat → Bool} {held : Bool}
theorem rd_ob18 {fuel : Nat} {ys : List Value} {y : DataW H × List MemPlace} (hlen : ys.length = 4) (hy : DataW.trod enc Try.prog w base sp held fuel 100 ys = some y) :
    ∃ (o : ObV) (p : Option Addr) (l c : Nat), ys = [.string o.key, .int .i64 o.len, .int .i64 o.epoch, .slice p l c] ∧ IntsAt w p l o.st := by
  obtain ⟨xs, n', _, _, _, hxl, hf⟩ := DataW.trod_struct Try.underlying100 hy
  obtain ⟨y0, y1, y2, y3, rfl⟩ := mlist4 ys hlen
  have hxl' : xs.length = 4 := hxl
  obtain ⟨x0, f0⟩ := mfld hxl' (by omega) (hf 0 _ rfl) mcellsStr
  obtain ⟨x1, f1⟩ := mfld hxl' (by omega) (hf 1 _ rfl) mcellsInt
  obtain ⟨x2, f2⟩ := mfld hxl' (by omega) (hf 2 _ rfl) mcellsInt
  obtain ⟨x3, f3⟩ := mfld hxl' (by omega) (hf 3 _ rfl) mcellsInts
  obtain ⟨s, q0, _, _⟩ := DataW.trod_string Try.underlying9 f0
  obtain ⟨n1, q1, g1⟩ := rd_int Try.underlying3 f1
  obtain ⟨n2, q2, g2⟩ := rd_int Try.underlying3 f2
  obtain ⟨p, l, c, st, q3, hl, hcells, h1, h2, h3, _⟩ := rd_nums (e := 3) (k := .i64) (by kernel_rfl) (by kernel_rfl) (by kernel_rfl) f3
  cases q0; cases q1; cases q2; cases q3
  exact ⟨⟨s, n1, n2, st⟩, p, l, c, rfl, ⟨hl, hcells⟩⟩
theorem rd_obs18 {fuel : Nat} {cs : List Value} {x : DataW H × List MemPlace} (h : DataW.trod enc Try.prog w base sp held fuel 35 cs = some x) : ∃ p l c L, cs = [.slice p l c] ∧ ObsW w p l L := by
  obtain ⟨p, l, c, rfl, _, _, _, hrow⟩ := rd_rows (t := 35) (e := 100) (k := 4) (by kernel_rfl) (by kernel_rfl) h
  obtain ⟨L, hL, hall⟩ := list_of_rows (l := l) (Q := fun i (o : ObV) => ∃ a q n c, p = some a ∧ w.cell? (a.add (i * 4)) = some (.string o.key) ∧ w.cell? ((a.add (i * 4)).add 1) = some (.int .i64 o.len) ∧ w.cell? ((a.add (i * 4)).add 2) = some (.int .i64 o.epoch) ∧ w.cell? ((a.add (i * 4)).add 3) = some (.slice q n c) ∧ IntsAt w q n o.st) fun i hi => by
    obtain ⟨a, ys, n, y, ha, hy, hlen, hcell⟩ := hrow i hi
    obtain ⟨o, q, m, d, rfl, g1⟩ := rd_ob18 hlen hy
    exact ⟨o, a, q, m, d, ha, by have := hcell 0 (by omega); rw [add_add] at this; exact this, hcell 1 (by omega), hcell 2 (by omega), hcell 3 (by omega), g1⟩
  exact ⟨p, l, c, L, rfl, hL, hall⟩
theorem rd_rec18 {fuel : Nat} {ys : List Value} {y : DataW H × List MemPlace} (hlen : ys.length = 4) (hy : DataW.trod enc Try.prog w base sp held fuel 27 ys = some y) :
    ∃ (o : RecK) (p : Option Addr) (l c : Nat), ys = [.int .i64 o.kind, .string o.key, .int .i64 o.len, .slice p l c] ∧ IntsAt w p l o.st ∧ l ≤ 9223372036854775807 := by
  obtain ⟨xs, n', _, _, _, hxl, hf⟩ := DataW.trod_struct Try.underlying27 hy
  obtain ⟨y0, y1, y2, y3, rfl⟩ := mlist4 ys hlen
  have hxl' : xs.length = 4 := hxl
  obtain ⟨x0, f0⟩ := mfld hxl' (by omega) (hf 0 _ rfl) mcellsInt
  obtain ⟨x1, f1⟩ := mfld hxl' (by omega) (hf 1 _ rfl) mcellsStr
  obtain ⟨x2, f2⟩ := mfld hxl' (by omega) (hf 2 _ rfl) mcellsInt
  obtain ⟨x3, f3⟩ := mfld hxl' (by omega) (hf 3 _ rfl) mcellsInts
  obtain ⟨n0, q0, g0⟩ := rd_int Try.underlying3 f0
  obtain ⟨s, q1, _, _⟩ := DataW.trod_string Try.underlying9 f1
  obtain ⟨n2, q2, g2⟩ := rd_int Try.underlying3 f2
  obtain ⟨p, l, c, st, q3, hl, hcells, h1, h2, h3, _⟩ := rd_nums (e := 3) (k := .i64) (by kernel_rfl) (by kernel_rfl) (by kernel_rfl) f3
  cases q0; cases q1; cases q2; cases q3
  exact ⟨⟨n0, s, n2, st⟩, p, l, c, rfl, ⟨hl, hcells⟩, by unfold maxLen at h2; omega⟩
theorem open_recs {v : Value} {d : DataW H} {ps : List MemPlace} (hs : ∃ a l c, v = .slice a l c) (h : DataW.Trod enc Try.prog w base sp held 32 v d ps) : ∃ p l c R, v = .slice p l c ∧ RecsAt w p l R ∧ l ≤ 9223372036854775807 := by
  obtain ⟨p, l, c, rfl⟩ := hs
  obtain ⟨fuel, h⟩ := h
  obtain ⟨p', l', c', he, hlc, hcm, _, hrow⟩ := rd_rows (t := 32) (e := 27) (k := 4) (by kernel_rfl) (by kernel_rfl) h
  cases he
  obtain ⟨L, hL, hall⟩ := list_of_rows (l := l) (Q := fun i (r : RecK) => ∃ a q n c, p = some a ∧ w.cell? (a.add (i * 4)) = some (.int .i64 r.kind) ∧ w.cell? ((a.add (i * 4)).add 1) = some (.string r.key) ∧ w.cell? ((a.add (i * 4)).add 2) = some (.int .i64 r.len) ∧ w.cell? ((a.add (i * 4)).add 3) = some (.slice q n c) ∧ IntsAt w q n r.st ∧ n ≤ 9223372036854775807) fun i hi => by
    obtain ⟨a, ys, n, y, ha, hy, hlen, hcell⟩ := hrow i hi
    obtain ⟨o, q, m, d, rfl, g1, g2⟩ := rd_rec18 hlen hy
    exact ⟨o, a, q, m, d, ha, by have := hcell 0 (by omega); rw [add_add] at this; exact this, hcell 1 (by omega), hcell 2 (by omega), hcell 3 (by omega), g1, g2⟩
  exact ⟨p, l, c, L, rfl, ⟨hL, hall⟩, by unfold maxLen at hcm; omega⟩
theorem mlist3 {α : Type} (l : List α) (h : l.length = 3) : ∃ y0 y1 y2, l = [y0, y1, y2] := by
  match l, h with
  | [y0, y1, y2], _ => exact ⟨y0, y1, y2, rfl⟩
theorem mcellsSaved : Try.prog.cellsOf 37 = 3 := by kernel_rfl
theorem mcellsObs : Try.prog.cellsOf 35 = 1 := by kernel_rfl
theorem rd_saved {fuel : Nat} {ys : List Value} {y : DataW H × List MemPlace} (hlen : ys.length = 3) (hy : DataW.trod enc Try.prog w base sp held fuel 37 ys = some y) :
    ∃ (a e : Int) (p : Option Addr) (l c : Nat) (L : List ObV), ys = [.int .i64 a, .int .i64 e, .slice p l c] ∧ ObsW w p l L := by
  obtain ⟨xs, n', _, _, _, hxl, hf⟩ := DataW.trod_struct Try.underlying37 hy
  obtain ⟨y0, y1, y2, rfl⟩ := mlist3 ys hlen
  have hxl' : xs.length = 3 := hxl
  obtain ⟨x0, f0⟩ := mfld hxl' (by omega) (hf 0 _ rfl) mcellsInt
  obtain ⟨x1, f1⟩ := mfld hxl' (by omega) (hf 1 _ rfl) mcellsInt
  obtain ⟨x2, f2⟩ := mfld hxl' (by omega) (hf 2 _ rfl) mcellsObs
  obtain ⟨n0, q0, g0⟩ := rd_int Try.underlying3 f0
  obtain ⟨n1, q1, g1⟩ := rd_int Try.underlying3 f1
  obtain ⟨p, l, c, L, q2, hL⟩ := rd_obs18 f2
  cases q0; cases q1; cases q2
  exact ⟨n0, n1, p, l, c, L, rfl, hL⟩
theorem open_saved {v : Value} {d : DataW H} {ps : List MemPlace} (hs : ∃ cs, v = .agg cs ∧ cs.size = Try.prog.cellsOf 37) (h : DataW.Trod enc Try.prog w base sp held 37 v d ps) :
    ∃ (a e : Int) (p : Option Addr) (l c : Nat) (L : List ObV), v = .agg #[.int .i64 a, .int .i64 e, .slice p l c] ∧ ObsW w p l L := by
  obtain ⟨cs, rfl, hc⟩ := hs
  obtain ⟨fuel, h⟩ := h
  rw [mcellsSaved] at hc
  obtain ⟨a, e, p, l, c, L, hy, hL⟩ := rd_saved (ys := cs.toList) (by simpa using hc) h
  exact ⟨a, e, p, l, c, L, congrArg Value.agg (Array.toList_inj.1 hy), hL⟩
end
end Go.Proofs.Ytnfcfbljdibinaa

/- What is told of disks that were laid: of one alone, and of those that a crash cut. -/
namespace Go.Proofs.Ytnfcfbljdibinaa
open Go Go.Vc

theorem savV_out {V : Int → List UInt8} {a E : Int} {B : List UInt8} {k : Int} (h1 : k ≠ 1 + 2 * a) (h2 : k ≠ 2 + 2 * a) : savV V a E B k = V k := by
  unfold savV putV
  rw [if_neg h2, if_neg h1]
theorem savV_0 {V : Int → List UInt8} {a E : Int} {B : List UInt8} : savV V a E B (1 + 2 * a) = packM (1 + 2 * a) E (part B 0) := by
  unfold savV putV
  rw [if_neg (by omega), if_pos rfl]
theorem savV_1 {V : Int → List UInt8} {a E : Int} {B : List UInt8} : savV V a E B (2 + 2 * a) = packM (2 + 2 * a) E (part B 1) := by
  unfold savV putV
  rw [if_pos rfl]
section
variable {a E : Int} {L : List ObV} {R : List RecK}
theorem laidV_0 (ha : a = 0 ∨ a = 1) : laidV a E L R 0 = labB := by
  unfold laidV
  rw [jouV_out (by omega), savV_out (by omega) (by omega)]
  rfl
theorem laidV_a0 (ha : a = 0 ∨ a = 1) : laidV a E L R (1 + 2 * a) = packM (1 + 2 * a) E (part (snapB L) 0) := by
  unfold laidV
  rw [jouV_out (by omega), savV_0]
theorem laidV_a1 (ha : a = 0 ∨ a = 1) : laidV a E L R (2 + 2 * a) = packM (2 + 2 * a) E (part (snapB L) 1) := by
  unfold laidV
  rw [jouV_out (by omega), savV_1]
theorem laidV_o0 (ha : a = 0 ∨ a = 1) : laidV a E L R (1 + 2 * (1 - a)) = [] := by
  unfold laidV
  rw [jouV_out (by omega), savV_out (by omega) (by omega)]
  unfold labV
  rw [if_neg (by omega)]
theorem laidV_o1 (ha : a = 0 ∨ a = 1) : laidV a E L R (2 + 2 * (1 - a)) = [] := by
  unfold laidV
  rw [jouV_out (by omega), savV_out (by omega) (by omega)]
  unfold labV
  rw [if_neg (by omega)]
theorem laidV_rec {j : Nat} {r : RecK} (h : R[j]? = some r) : laidV a E L R (5 + (j : Int)) = packM (5 + (j : Int)) (E + j + 1) r.b := jouV_at h
theorem laidV_no (ha : a = 0 ∨ a = 1) {j : Nat} (h : R.length ≤ j) : laidV a E L R (5 + (j : Int)) = [] := by
  unfold laidV
  rw [jouV_out (by omega), savV_out (by omega) (by omega)]
  unfold labV
  rw [if_neg (by omega)]
end
theorem rec_len {r : RecK} (h : r.ok) : r.b.length ≤ 4096 := by
  unfold RecK.b
  rw [recB_length]
  have h1 := h.1.2.1.2
  have h2 := h.1.2.2.2
  omega

section
variable {keep : Int} {g : Geo} {n : Nat} {a E : Int} {L : List ObV} {R : List RecK} {s : StA}
/-- one disk tells all -/
theorem On.told (h : On keep n (5 + g.slots + g.stripes) n (laidV a E L R) s) (hk : 0 ≤ keep ∧ keep < n) (hg : GeoOk g) (ha : a = 0 ∨ a = 1) (hE : 0 ≤ E ∧ E ≤ 2147483547) (hm : MayOk L) (hR : (R.length : Int) ≤ g.slots) (hok : ∀ r ∈ R, r.ok) :
    Whole g s a E L ∧ Broken g s (s.M.map knowB) (1 - a) ∧ Jou g s (s.M.map knowB) E R := by
  obtain ⟨_, _, b1, b2, b3, b4⟩ := geo_bounds hg
  have hl := part_le (snapB L)
  have wt : ∀ {k : Int}, 0 ≤ k → k < 5 + g.slots + g.stripes → Sec k (laidV a E L R k) → wit (s.M.map knowB) (saysM k s.M) = true := fun h0 h1 hs => h.witn hk (laidV_0 ha) (by omega) h1 ⟨h0, by omega⟩ hs
  refine ⟨⟨hm, ?_, ?_⟩, ⟨.inl ?_, ?_, ?_⟩, hR, hok, fun j r hj => ?_, fun hlt => ⟨?_, ?_⟩⟩
  · rw [area_at hg (by omega) (by omega), show 1 + 0 + 2 * a = 1 + 2 * a by omega]
    exact h.has hk (by omega) ⟨by omega, by omega⟩ ⟨hE.1, by omega⟩ (hl 0) (laidV_a0 ha)
  · rw [area_at hg (by omega) (by omega), show 1 + 1 + 2 * a = 2 + 2 * a by omega]
    exact h.has hk (by omega) ⟨by omega, by omega⟩ ⟨hE.1, by omega⟩ (hl 1) (laidV_a1 ha)
  · rw [area_at hg (by omega) (by omega), show 1 + 0 + 2 * (1 - a) = 1 + 2 * (1 - a) by omega]
    exact h.non (by omega) (by omega) (laidV_o0 ha)
  · rw [area_at hg (by omega) (by omega), show 1 + 0 + 2 * (1 - a) = 1 + 2 * (1 - a) by omega]
    exact wt (by omega) (by omega) (.inl (laidV_o0 ha))
  · rw [area_at hg (by omega) (by omega), show 1 + 1 + 2 * (1 - a) = 2 + 2 * (1 - a) by omega]
    exact wt (by omega) (by omega) (.inl (laidV_o1 ha))
  · have hjl := (List.getElem?_eq_some_iff.1 hj).1
    rw [slot_at hg (by omega) (by omega)]
    exact h.has hk (by omega) ⟨by omega, by omega⟩ ⟨by omega, by omega⟩ (rec_len (hok r (List.mem_of_getElem? hj))) (laidV_rec hj)
  · rw [slot_at hg (by omega) hlt]
    exact h.non (by omega) (by omega) (laidV_no ha (Nat.le_refl _))
  · rw [slot_at hg (by omega) hlt]
    exact wt (by omega) (by omega) (.inl (laidV_no ha (Nat.le_refl _)))
end

section
variable {g : Geo} {n : Nat} {a E : Int} {L : List ObV} {R : List RecK} {s : StA}
theorem Mx.whole {V' : Int → List UInt8} (h : Mx (5 + g.slots + g.stripes) n (laidV a E L R) V' s) (hn : 1 ≤ n) (hg : GeoOk g) (ha : a = 0 ∨ a = 1) (hE : 0 ≤ E ∧ E ≤ 2147483547) (hm : MayOk L)
    (e0 : V' (1 + 2 * a) = laidV a E L R (1 + 2 * a)) (e1 : V' (2 + 2 * a) = laidV a E L R (2 + 2 * a)) : Whole g s a E L := by
  obtain ⟨_, _, b1, b2, b3, b4⟩ := geo_bounds hg
  have hl := part_le (snapB L)
  refine ⟨hm, ?_, ?_⟩
  · rw [area_at hg (by omega) (by omega), show 1 + 0 + 2 * a = 1 + 2 * a by omega]
    exact h.same hn (by omega) ⟨by omega, by omega⟩ ⟨hE.1, by omega⟩ (hl 0) (laidV_a0 ha) (e0.trans (laidV_a0 ha))
  · rw [area_at hg (by omega) (by omega), show 1 + 1 + 2 * a = 2 + 2 * a by omega]
    exact h.same hn (by omega) ⟨by omega, by omega⟩ ⟨hE.1, by omega⟩ (hl 1) (laidV_a1 ha) (e1.trans (laidV_a1 ha))
/-- an append that a crash cut -/
theorem Mx.told_app {r : RecK} (h : Mx (5 + g.slots + g.stripes) n (laidV a E L R) (laidV a E L (R ++ [r])) s) (hn : 1 ≤ n) (hg : GeoOk g) (ha : a = 0 ∨ a = 1) (hE : 0 ≤ E ∧ E ≤ 2147483547) (hm : MayOk L) (hR : (R.length : Int) < g.slots) (hok : ∀ r ∈ R, r.ok) (hr : r.ok) :
    Whole g s a E L ∧ Broken g s (s.M.map knowB) (1 - a) ∧ (Jou g s (s.M.map knowB) E R ∨ Jou g s (s.M.map knowB) E (R ++ [r])) := by
  obtain ⟨_, _, b1, b2, b3, b4⟩ := geo_bounds hg
  have hl := part_le (snapB L)
  have wt : ∀ {k : Int}, 0 ≤ k → k < 5 + g.slots + g.stripes → Sec k (laidV a E L R k) → Sec k (laidV a E L (R ++ [r]) k) → wit (s.M.map knowB) (saysM k s.M) = true :=
    fun h0 h1 hs hs' => h.witn hn (by omega) (laidV_0 ha) (laidV_0 ha) h1 ⟨h0, by omega⟩ hs hs'
  have had : ∀ (j : Nat) (x : RecK), R[j]? = some x → Has s (slotZ g (j : Int)) (E + j + 1, x.b) := fun j x hj => by
    have hjl := (List.getElem?_eq_some_iff.1 hj).1
    rw [slot_at hg (by omega) (by omega)]
    exact h.same hn (by omega) ⟨by omega, by omega⟩ ⟨by omega, by omega⟩ (rec_len (hok x (List.mem_of_getElem? hj))) (laidV_rec hj) (laidV_rec (by rw [List.getElem?_append_left hjl]; exact hj))
  have hlast : laidV a E L (R ++ [r]) (5 + (R.length : Int)) = packM (5 + (R.length : Int)) (E + (R.length : Int) + 1) r.b := laidV_rec (by simp)
  have hsec : Sec (5 + (R.length : Int)) (laidV a E L (R ++ [r]) (5 + (R.length : Int))) := .inr ⟨_, _, ⟨by omega, by omega⟩, rec_len hr, hlast⟩
  refine ⟨h.whole hn hg ha hE hm ((laidV_a0 ha).trans (laidV_a0 ha).symm) ((laidV_a1 ha).trans (laidV_a1 ha).symm), ⟨.inl ?_, ?_, ?_⟩, ?_⟩
  · rw [area_at hg (by omega) (by omega), show 1 + 0 + 2 * (1 - a) = 1 + 2 * (1 - a) by omega]
    exact h.none (by omega) (by omega) (laidV_o0 ha) (laidV_o0 ha)
  · rw [area_at hg (by omega) (by omega), show 1 + 0 + 2 * (1 - a) = 1 + 2 * (1 - a) by omega]
    exact wt (by omega) (by omega) (.inl (laidV_o0 ha)) (.inl (laidV_o0 ha))
  · rw [area_at hg (by omega) (by omega), show 1 + 1 + 2 * (1 - a) = 2 + 2 * (1 - a) by omega]
    exact wt (by omega) (by omega) (.inl (laidV_o1 ha)) (.inl (laidV_o1 ha))
  · rcases h.cut (addr := 5 + (R.length : Int)) (e := E + (R.length : Int) + 1) (d := r.b) (by omega) ⟨by omega, by omega⟩ ⟨by omega, by omega⟩ (rec_len hr) (laidV_no ha (Nat.le_refl _)) hlast with hh | hh
    · refine .inr ⟨by simp; omega, fun x hx => ?_, fun j x hj => ?_, fun hlt => ?_⟩
      · rcases List.mem_append.1 hx with hx | hx
        · exact hok x hx
        · simp at hx; rw [hx]; exact hr
      · by_cases hjl : j < R.length
        · rw [List.getElem?_append_left hjl] at hj
          exact had j x hj
        · have hj2 := (List.getElem?_eq_some_iff.1 hj).1
          simp at hj2
          have hjR : j = R.length := by omega
          subst hjR
          simp at hj
          subst hj
          rw [slot_at hg (by omega) (by omega)]
          exact hh
      · simp only [List.length_append, List.length_singleton] at hlt ⊢
        rw [slot_at hg (by omega) hlt]
        have n1 : laidV a E L R (5 + ((R.length + 1 : Nat) : Int)) = [] := laidV_no ha (by omega)
        have n2 : laidV a E L (R ++ [r]) (5 + ((R.length + 1 : Nat) : Int)) = [] := laidV_no ha (by simp)
        exact ⟨h.none (by omega) (by omega) n1 n2, wt (by omega) (by omega) (.inl n1) (.inl n2)⟩
    · refine .inl ⟨by omega, hok, had, fun hlt => ?_⟩
      rw [slot_at hg (by omega) hlt]
      exact ⟨hh, wt (by omega) (by omega) (.inl (laidV_no ha (Nat.le_refl _))) hsec⟩
/-- a save that a crash cut -/
theorem Mx.told_sav {E' : Int} {L' : List ObV} (h : Mx (5 + g.slots + g.stripes) n (laidV a E L R) (savV (laidV a E L R) (1 - a) E' (snapB L')) s) (hn : 1 ≤ n) (hg : GeoOk g) (ha : a = 0 ∨ a = 1) (hE : 0 ≤ E ∧ E ≤ 2147483547) (hE' : 0 ≤ E' ∧ E' ≤ 2147483547) (hm : MayOk L) (hm' : MayOk L') :
    Whole g s a E L ∧ (Whole g s (1 - a) E' L' ∨ Broken g s (s.M.map knowB) (1 - a)) := by
  obtain ⟨_, _, b1, b2, b3, b4⟩ := geo_bounds hg
  have hl := part_le (snapB L')
  have v0 : savV (laidV a E L R) (1 - a) E' (snapB L') 0 = labB := by rw [savV_out (by omega) (by omega)]; exact laidV_0 ha
  have wt : ∀ {k : Int}, 0 ≤ k → k < 5 + g.slots + g.stripes → Sec k (laidV a E L R k) → Sec k (savV (laidV a E L R) (1 - a) E' (snapB L') k) → wit (s.M.map knowB) (saysM k s.M) = true :=
    fun h0 h1 hs hs' => h.witn hn (by omega) (laidV_0 ha) v0 h1 ⟨h0, by omega⟩ hs hs'
  refine ⟨h.whole hn hg ha hE hm (savV_out (by omega) (by omega)) (savV_out (by omega) (by omega)), ?_⟩
  have e0 : areaZ g (1 - a) 0 = 1 + 2 * (1 - a) := by rw [area_at hg (by omega) (by omega)]; omega
  have e1 : areaZ g (1 - a) 1 = 2 + 2 * (1 - a) := by rw [area_at hg (by omega) (by omega)]; omega
  have c0 := h.cut (addr := 1 + 2 * (1 - a)) (e := E') (d := part (snapB L') 0) (by omega) ⟨by omega, by omega⟩ ⟨hE'.1, by omega⟩ (hl 0) (laidV_o0 ha) savV_0
  have c1 := h.cut (addr := 2 + 2 * (1 - a)) (e := E') (d := part (snapB L') 1) (by omega) ⟨by omega, by omega⟩ ⟨hE'.1, by omega⟩ (hl 1) (laidV_o1 ha) savV_1
  have w0 := wt (k := 1 + 2 * (1 - a)) (by omega) (by omega) (.inl (laidV_o0 ha)) (.inr ⟨_, _, ⟨hE'.1, by omega⟩, hl 0, savV_0⟩)
  have w1 := wt (k := 2 + 2 * (1 - a)) (by omega) (by omega) (.inl (laidV_o1 ha)) (.inr ⟨_, _, ⟨hE'.1, by omega⟩, hl 1, savV_1⟩)
  rw [← e0] at c0 w0
  rw [← e1] at c1 w1
  rcases c0 with c0 | c0
  · rcases c1 with c1 | c1
    · exact .inl ⟨hm', c0, c1⟩
    · exact .inr ⟨.inr c1, w0, w1⟩
  · exact .inr ⟨.inl c0, w0, w1⟩
end
end Go.Proofs.Ytnfcfbljdibinaa

/- What a crash leaves of an append, and of a save. -/
namespace Go.Proofs.Ytnfcfbljdibinaa
open Go Go.Vc

theorem flushA_ok {s : StA} (h : OkA s) : OkA (flushA s) ∧ (flushA s).M.length = s.M.length := by
  unfold flushA
  split
  · exact ⟨h, rfl⟩
  · exact ⟨⟨by simp only [flushM_len]; exact h.1, h.2.1, h.2.2⟩, by simp only [flushM_len]⟩
theorem svM_okA {g : Geo} {a E : Int} {L : List ObV} {s : StA} (h : OkA s) : OkA (svM g a E L s).1 := by
  have h2 := (savS_ok (g := g) (area := a) (epoch := E) (P := [part (snapB L) 0, part (snapB L) 1]) h 2).1
  unfold svM
  split
  · unfold saveM
    split
    · exact (flushA_ok h2).1
    · exact h2
  · exact h
theorem appM_okA {g : Geo} {base count kind : Int} {key : ByteArray} {len : Int} {st : List Int} {s : StA} (h : OkA s) : OkA (appM g base count kind key len st s).1 := by
  have h2 := (mputM_ok (to := fun _ => true) (addr := slotZ g count) (epoch := base + count + 1) (d := recB kind key len st) h).1
  unfold appM
  split
  · split
    · exact (flushA_ok h2).1
    · exact h2
  · exact h
theorem Mx.savS {N : Int} {n : Nat} {V V' : Int → List UInt8} {s : StA} {g : Geo} {a E : Int} {P : List (List UInt8)} (h : Mx N n V V' s) (h0 : ∀ j : Nat, j < 2 → packM (areaZ g a j) E (P.getD j []) = V' (areaZ g a j)) : ∀ i, i ≤ 2 → Mx N n V V' (savS g a E P s i).1
  | 0, _ => h
  | i + 1, hi => by
    have ih := h.savS h0 i (by omega)
    simp only [Go.Proofs.Ytnfcfbljdibinaa.savS]
    split
    · exact ih.put _ (h0 i (by omega))
    · exact ih
theorem Mx.save {N : Int} {n : Nat} {V V' : Int → List UInt8} {s : StA} {g : Geo} {a E : Int} {L : List ObV} (h : Mx N n V V' s) (h0 : packM (areaZ g a 0) E (part (snapB L) 0) = V' (areaZ g a 0)) (h1 : packM (areaZ g a 1) E (part (snapB L) 1) = V' (areaZ g a 1)) : Mx N n V V' (svM g a E L s).1 := by
  have h2 := h.savS (g := g) (a := a) (E := E) (P := [part (snapB L) 0, part (snapB L) 1]) (fun j hj => by
    match j, hj with
    | 0, _ => exact h0
    | 1, _ => exact h1) 2 (by omega)
  unfold svM
  split
  · unfold saveM
    split
    · exact h2.flush
    · exact h2
  · exact h
theorem Mx.append {N : Int} {n : Nat} {V V' : Int → List UInt8} {s : StA} {g : Geo} {base count kind : Int} {key : ByteArray} {len : Int} {st : List Int} (h : Mx N n V V' s) (h0 : packM (slotZ g count) (base + count + 1) (recB kind key len st) = V' (slotZ g count)) : Mx N n V V' (appM g base count kind key len st s).1 := by
  have h2 := h.put (fun _ => true) h0
  unfold appM
  split
  · split
    · exact h2.flush
    · exact h2
  · exact h

theorem RowsI.one {w : World} {rows : List Value} {R : List RecK} (h : RowsI w rows R) : ∀ u ∈ rows, u.oneCell' = true := by
  intro u hu
  obtain ⟨k, hk, rfl⟩ := List.getElem_of_mem hu
  have hl := h.len
  have hi : k / 4 < R.length := by omega
  obtain ⟨q, n, c, h0, h1, h2, h3, _⟩ := h.row (k / 4) _ (List.getElem?_eq_getElem hi)
  have hm : k % 4 < 4 := Nat.mod_lt _ (by omega)
  have key : ∀ j, k % 4 = j → k = k / 4 * 4 + j := fun j hj => by omega
  rcases (by omega : k % 4 = 0 ∨ k % 4 = 1 ∨ k % 4 = 2 ∨ k % 4 = 3) with hj | hj | hj | hj
  · rw [← key 0 hj, List.getElem?_eq_getElem hk] at h0; rw [Option.some.inj h0]; rfl
  · rw [← key 1 hj, List.getElem?_eq_getElem hk] at h1; rw [Option.some.inj h1]; rfl
  · rw [← key 2 hj, List.getElem?_eq_getElem hk] at h2; rw [Option.some.inj h2]; rfl
  · rw [← key 3 hj, List.getElem?_eq_getElem hk] at h3; rw [Option.some.inj h3]; rfl
/-- one record is appended -/
theorem rec_app2 {w0 w wi : World} (hx : Ext w0 w) {p : Option Addr} {n c : Nat} {rows : List Value} (h : OwnS w w0.heap.size 27 4 p n c rows) {R : List RecK} (hr : RowsI wi rows R) {r : RecK} {q : Option Addr} {m d : Nat} (hq : IntsAt wi q m r.st) (hm : m ≤ 9223372036854775807) {k : Nat}
    (cc : CellsAt w (some (at0 k)) (recV4 r q m d)) (hn : n ≤ 1000) :
    ∃ p' c' w', Sem.run Try.prog (Builtin.append_ #[32, 32] 32 #[.slice p n c, .slice (some (at0 k)) 1 1]) w = .ok (.slice p' (n + 1) c') w' ∧ OwnS w' w0.heap.size 27 4 p' (n + 1) c' (rows ++ recV4 r q m d) ∧ RowsI wi (rows ++ recV4 r q m d) (R ++ [r]) ∧ Ext w0 w' := by
  obtain ⟨p', c', w', hr', own', hu, _⟩ := h.append elemRc 32 (q := some (at0 k)) (m := 1) (d := 1) (news := recV4 r q m d) rfl cc (fun h => by cases h) (by
    intro u hu
    simp only [recV4, List.mem_cons, List.not_mem_nil, or_false] at hu
    rcases hu with rfl | rfl | rfl | rfl <;> rfl) (by unfold maxLen; omega) (by omega) hx.size
  exact ⟨p', c', w', hr', own', hr.snoc hq hm, ext_own hx h hu⟩
/-- a whole list is appended to an empty one -/
theorem was_app {w0 w : World} (hx : Ext w0 w) {k : Nat} (h : OwnS w w0.heap.size 27 4 (some (at0 k)) 0 0 []) {base : Nat} {p : Option Addr} {n c : Nat} {rows : List Value} (own : OwnS w base 27 4 p n c rows) {wi : World} {R : List RecK} (hr : RowsI wi rows R) (hn : n ≤ 1000) :
    ∃ p' c' w', Sem.run Try.prog (Builtin.append_ #[32, 32] 32 #[.slice (some (at0 k)) 0 0, .slice p n c]) w = .ok (.slice p' n c') w' ∧ OwnS w' w0.heap.size 27 4 p' n c' rows ∧ Ext w0 w' ∧ Upd (fun x => x = k) w w' := by
  obtain ⟨p', c', w', hr', own', hu, _⟩ := h.append elemRc 32 (q := p) (m := n) (d := c) (news := rows) own.length own.cells (fun hp => by
    rcases own.where_ with ⟨_, h0, _⟩ | ⟨g, h0, _⟩
    · exact h0
    · rw [hp] at h0; cases h0) hr.one (by unfold maxLen; omega) (by omega) hx.size
  rw [Nat.zero_add] at hr' own'
  rw [List.nil_append] at own'
  refine ⟨p', c', w', hr', own', ext_own hx h hu, hu.mono fun x _ hx => ?_⟩
  simp only [Option.some.injEq, at0, Addr.mk.injEq, and_true] at hx
  exact hx.symm
end Go.Proofs.Ytnfcfbljdibinaa
