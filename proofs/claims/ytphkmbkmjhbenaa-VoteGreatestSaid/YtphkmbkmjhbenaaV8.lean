/- What is told. -/
import Derived.Test.YtphkmbkmjhbenaaV7
namespace Go.Proofs.Ytphkmbkmjhbenaa
open Go Go.Vc

def BoolsAt (w : World) (p : Option Addr) (l : Nat) (ks : List Bool) : Prop := l = ks.length ∧ CellsAt w p (ks.map Value.bool)
theorem BoolsAt.ext {w w' : World} {p : Option Addr} {l : Nat} {ks : List Bool} (h : BoolsAt w p l ks) (hu : Ext w w') : BoolsAt w' p l ks := ⟨h.1, h.2.ext hu⟩
theorem BoolsAt.none (w : World) (p : Option Addr) : BoolsAt w p 0 [] := ⟨rfl, CellsAt.nil _ _⟩
theorem BoolsAt.get {w : World} {p : Option Addr} {l : Nat} {ks : List Bool} (h : BoolsAt w p l ks) {i : Nat} (hi : i < l) : ∃ a, p = some a ∧ w.cell? (a.add (i * 1)) = some (.bool (ks.getD i false)) := by
  have hlt : i < ks.length := by rw [← h.1]; exact hi
  obtain ⟨a, ha, hc⟩ := h.2 i (.bool (ks.getD i false)) (by simp [List.getD_eq_getElem?_getD, hlt])
  exact ⟨a, ha, by rw [Nat.mul_one]; exact hc⟩

def witF (x : Bool × Said) : Bool := x.1 && (x.2.is || x.2.none)
def wit (ks : List Bool) (L : List Said) : Bool := (ks.zip L).any witF
theorem wit_step : ∀ {ks : List Bool} {L : List Said} {i : Nat} {s : Said}, L[i]? = some s → wit ks (L.take (i + 1)) = (wit ks (L.take i) || witF (ks.getD i false, s))
  | [], L, i, s, _ => by simp [wit, witF]
  | _ :: _, [], _, _, h => by simp at h
  | k :: ks, s0 :: L, 0, s, h => by
    simp only [List.getElem?_cons_zero, Option.some.injEq] at h
    subst h
    simp [wit]
  | k :: ks, s0 :: L, i + 1, s, h => by
    have := wit_step (ks := ks) (L := L) (i := i) (s := s) (by simpa using h)
    simp only [wit, List.take_succ_cons, List.zip_cons_cons, List.any_cons, List.getD_cons_succ] at *
    rw [this, Bool.or_assoc]

def voteV (has : Bool) (e : Int) (p : Option Addr) (l c : Nat) (n : Int) (b : Bool) : Value := .agg #[.bool has, .int .i64 e, .slice p l c, .int .i64 n, .bool b]

theorem vread_nil (p2 : Option Addr) (l2 c2 : Nat) (n : Int) (w : World) : Calls Try.prog 8 #[.pointer none, .slice p2 l2 c2, .int .i64 n] w fun e w' => e = .returned (.tuple #[voteV false 0 none 0 0 0 false, .int .i64 1]) ∧ Ext w w' := by
  refine (F8_calls none p2 l2 c2 n w (fun v w' => v = .tuple #[voteV false 0 none 0 0 0 false, .int .i64 1] ∧ Ext w w') (fun _ _ _ _ _ _ _ _ _ => False) (fun _ _ _ _ _ _ _ _ _ => 0) ?_).mono (by rintro e w' ⟨v, rfl, rfl, h⟩; exact ⟨rfl, h⟩)
  unfold F8
  intro k w5 hk
  refine (ask_nil n w5).mono ?_
  rintro e w6 ⟨rfl, rfl⟩
  refine ⟨_, _, _, _, rfl, condB_of (fun _ => ?_) fun h => by cases h⟩
  have r5 : RowW w6 k _ := ⟨_, hk.at⟩
  have e0 : (at0 k) = (at0 k).add 0 := (add_at0 k 0).symm
  have hk0 : w.heap.size ≤ k := by rw [hk.size.1]; exact Nat.le_refl _
  refine ⟨by rw [e0]; exact r5.live (by simp), fun w10 s10 => ?_⟩
  rw [e0] at s10
  have r10 := s10.row r5
  refine ⟨r10.live (by simp), fun w11 s11 => ?_⟩
  have r11 := s11.row r10
  refine ⟨r11.live (by simp), fun w12 s12 => ?_⟩
  have r12 := s12.row r11
  refine ⟨r12.live (by simp), fun w13 s13 => ?_⟩
  have r13 := s13.row r12
  refine ⟨r13.live (by simp), fun w14 s14 => ?_⟩
  have r14 := s14.row r13
  refine ⟨_, by rw [e0]; exact r14.row.cell rfl, _, r14.row.cell rfl, _, _, _, r14.row.cell rfl, _, r14.row.cell rfl, _, r14.row.cell rfl, rfl, ?_⟩
  exact setc_new (setc_new (setc_new (setc_new (setc_new hk.ext hk0 s10) hk0 s11) hk0 s12) hk0 s13) hk0 s14

section
variable {w : World} {a : Nat} {M : List Mem} {left : Int} {down : Bool} {F : Nat → Prop}

theorem vread_down (h : IsArr w a M left true F) (hM : M.length ≤ 100) (h1 : 1 ≤ M.length) (p2 : Option Addr) (l2 c2 : Nat) (n : Int) : Calls Try.prog 8 #[.pointer (some (at0 a)), .slice p2 l2 c2, .int .i64 n] w fun e w' => e = .returned (.tuple #[voteV false 0 none 0 0 0 false, .int .i64 130]) ∧ Ext w w' := by
  refine (F8_calls (some (at0 a)) p2 l2 c2 n w (fun v w' => v = .tuple #[voteV false 0 none 0 0 0 false, .int .i64 130] ∧ Ext w w') (fun _ _ _ _ _ _ _ _ _ => False) (fun _ _ _ _ _ _ _ _ _ => 0) ?_).mono (by rintro e w' ⟨v, rfl, rfl, h⟩; exact ⟨rfl, h⟩)
  unfold F8
  intro k w5 hk
  refine (ask_spec (h.ext hk.ext) hM h1 n).mono ?_
  rintro e w6 ⟨x6, h6⟩
  rw [if_pos rfl] at h6
  subst h6
  refine ⟨_, _, _, _, rfl, condB_of (fun _ => ?_) fun h => by cases h⟩
  have r5 : RowW w6 k _ := x6.rowW ⟨_, hk.at⟩ id
  have e0 : (at0 k) = (at0 k).add 0 := (add_at0 k 0).symm
  have hk0 : w.heap.size ≤ k := by rw [hk.size.1]; exact Nat.le_refl _
  refine ⟨by rw [e0]; exact r5.live (by simp), fun w10 s10 => ?_⟩
  rw [e0] at s10
  have r10 := s10.row r5
  refine ⟨r10.live (by simp), fun w11 s11 => ?_⟩
  have r11 := s11.row r10
  refine ⟨r11.live (by simp), fun w12 s12 => ?_⟩
  have r12 := s12.row r11
  refine ⟨r12.live (by simp), fun w13 s13 => ?_⟩
  have r13 := s13.row r12
  refine ⟨r13.live (by simp), fun w14 s14 => ?_⟩
  have r14 := s14.row r13
  refine ⟨_, by rw [e0]; exact r14.row.cell rfl, _, r14.row.cell rfl, _, _, _, r14.row.cell rfl, _, r14.row.cell rfl, _, r14.row.cell rfl, rfl, ?_⟩
  exact setc_new (setc_new (setc_new (setc_new (setc_new (hk.ext.trans x6) hk0 s10) hk0 s11) hk0 s12) hk0 s13) hk0 s14

/-- WHAT IS TOLD OF A STATE -/
structure Told (w w' : World) (L : List Said) (ks : List Bool) (v : Value) (b : Say) (c : Nat) (k cc : Nat) : Prop where
  best : Best (sayL L) b c
  val : v = voteV (decide (0 < c)) b.1 (some (at0 k)) b.2.length cc (c : Int) (wit ks L)
  new : w.heap.size ≤ k
  data : BytesAt w' (some (at0 k)) b.2.length b.2

set_option maxHeartbeats 4000000 in
theorem vread_spec (h : IsArr w a M left false F) (hM : M.length ≤ 100) (h1 : 1 ≤ M.length) {p2 : Option Addr} {l2 c2 : Nat} {ks : List Bool} (hks : BoolsAt w p2 l2 ks) (n : Int) :
    Calls Try.prog 8 #[.pointer (some (at0 a)), .slice p2 l2 c2, .int .i64 n] w fun e w' => Ext w w' ∧ ∃ v b c k cc, e = .returned (.tuple #[v, .int .i64 0]) ∧ Told w w' (saysM n M) ks v b c k cc := by
  refine (F8_calls (some (at0 a)) p2 l2 c2 n w (fun v w' => Ext w w' ∧ ∃ v1 b c k cc, v = .tuple #[v1, .int .i64 0] ∧ Told w w' (saysM n M) ks v1 b c k cc)
    (fun p4 p33 p8 l8 _ _ w39 n46 w47 => ∃ (k4 k33 kd i : Nat) (b : Say) (c cc : Nat), p4 = some (at0 k4) ∧ p33 = some (at0 k33) ∧ l8 = M.length ∧ n46 = i ∧ i ≤ M.length ∧ w.heap.size ≤ k4 ∧ w.heap.size ≤ k33 ∧ k4 ≠ k33 ∧ w.heap.size ≤ kd ∧ kd ≠ k4 ∧ kd ≠ k33 ∧ Ext w w47 ∧
      CellsAt w47 p8 (saidsV (saysM n M)) ∧ (∀ a, p8 = some a → a.block ≠ k33) ∧ RowW w47 k4 #[.bool false, .int .i64 0, .slice none 0 0, .int .i64 0, .bool false] ∧ Best (sayL (saysM n M)) b c ∧
      RowW w47 k33 #[.bool (decide (0 < c)), .int .i64 b.1, .slice (some (at0 kd)) b.2.length cc, .int .i64 (c : Int), .bool (wit ks ((saysM n M).take i))] ∧ BytesAt w47 (some (at0 kd)) b.2.length b.2)
    (fun _ _ _ _ _ _ _ n46 _ => 100 - n46.toNat) ?_).mono (by rintro e w' ⟨v, rfl, hx, v1, b, c, k, cc, rfl, h⟩; exact ⟨hx, v1, b, c, k, cc, rfl, h⟩)
  unfold F8
  intro k4 w5 hk4
  have s4 : w.heap.size ≤ k4 := by rw [hk4.size.1]; exact Nat.le_refl _
  refine (ask_spec (h.ext hk4.ext) hM h1 n).mono ?_
  rintro e w6 ⟨x6, h6⟩
  rw [if_neg (by simp)] at h6
  obtain ⟨p8, c8, rfl, ho⟩ := h6
  refine ⟨_, _, _, _, rfl, condB_of (fun h => by cases h) fun _ => ?_⟩
  have hls : (saysM n M).length = M.length := by simp [saysM]
  refine (count_spec (L := saysM n M) (by rw [hls]) ho.cells (by omega)).mono ?_
  rintro e w20 ⟨x20, b, c, hb, rfl⟩
  refine ⟨_, _, _, rfl, fun k25 w26 hk25 => ?_⟩
  have xa : Ext w w20 := (hk4.ext.trans x6).trans x20
  have s25 : w20.heap.size ≤ k25 := by rw [hk25.size.1]; exact Nat.le_refl _
  have r26 : RowW w26 k25 _ := ⟨_, hk25.at⟩
  have e25 : (at0 k25) = (at0 k25).add 0 := (add_at0 k25 0).symm
  refine ⟨by rw [e25]; exact r26.live (by simp), fun w27 s27 => ?_⟩
  rw [e25] at s27
  have r27 := s27.row r26
  refine ⟨r27.live (by simp), fun w28 s28 => ?_⟩
  have r28 := s28.row r27
  have x28 : Ext w20 w28 := setc_new (setc_new hk25.ext s25 s27) s25 s28
  refine ⟨_, r28.row.cell rfl, _, r28.row.cell rfl, ?_⟩
  obtain ⟨cc, w31, hr, x31, hd, sz31⟩ := ofStr w28 b.2
  have xb : Ext w w31 := (xa.trans x28).trans x31
  refine ⟨_, _, _, w31, hr, fun k33 w34 hk33 => ?_⟩
  have s33 : w31.heap.size ≤ k33 := by rw [hk33.size.1]; exact Nat.le_refl _
  have e33 : (at0 k33) = (at0 k33).add 0 := (add_at0 k33 0).symm
  have r34 : RowW w34 k33 _ := ⟨_, hk33.at⟩
  refine ⟨by rw [e33]; exact r34.live (by simp), fun w35 s35 => ?_⟩
  rw [e33] at s35
  have r35 := s35.row r34
  refine ⟨r35.live (by simp), fun w36 s36 => ?_⟩
  have r36 := s36.row r35
  refine ⟨r36.live (by simp), fun w37 s37 => ?_⟩
  have r37 := s37.row r36
  refine ⟨r37.live (by simp), fun w38 s38 => ?_⟩
  have r38 := s38.row r37
  refine ⟨r38.live (by simp), fun w39 s39 => ?_⟩
  have r39 := s39.row r38
  have x39 : Ext w31 w39 := setc_new (setc_new (setc_new (setc_new (setc_new hk33.ext s33 s35) s33 s36) s33 s37) s33 s38) s33 s39
  have xc : Ext w w39 := xb.trans x39
  have d39 : BytesAt w39 (some (at0 w28.heap.size)) b.2.length b.2 := hd.ext x39
  have sd : w.heap.size ≤ w28.heap.size := (xa.trans x28).size
  have k4lt : k4 < w28.heap.size := Nat.lt_of_lt_of_le (lt_of_heap hk4.at) ((x6.trans x20).trans x28).size
  have hpb : ∀ a, p8 = some a → a.block < w28.heap.size := by
    intro a ha
    rcases ho.where_ with ⟨h0, _⟩ | ⟨g, h0, _, hlt, _⟩
    · rw [h0] at ha; cases ha
    · rw [h0] at ha
      cases ha
      exact Nat.lt_of_lt_of_le hlt (x20.trans x28).size
  have hk33ne : k4 ≠ k33 := by omega
  refine ⟨⟨k4, k33, w28.heap.size, 0, b, c, cc, rfl, rfl, rfl, rfl, Nat.zero_le _, s4, by omega, hk33ne, sd, by omega, by omega, xc,
    ho.cells.ext (((x20.trans x28).trans x31).trans x39), fun a ha => by have := hpb a ha; omega, ((((x6.trans x20).trans x28).trans x31).trans x39).rowW ⟨_, hk4.at⟩ id, hb, ?_, d39⟩, ?_⟩
  · have : decide ((0 : Int) < (c : Int)) = decide (0 < c) := by rw [decide_eq_decide]; omega
    rw [this] at r39
    have hw0 : wit ks ((saysM n M).take 0) = false := by simp [wit]
    rw [hw0]
    exact r39
  rintro n46 w47 ⟨k4', k33', kd, i, b, c, cc, e1, e2, _, rfl, hi, _, s33', hne, sd', hd4, hd33, x47, hcs, hpk, r4, hb, r33, d47⟩
  simp only [Option.some.injEq, at0, Addr.mk.injEq, and_true] at e1 e2
  subst e1
  subst e2
  intros
  refine condB_of (fun hlt => ?_) (fun hge => ?_)
  · simp only [decide_eq_true_eq] at hlt
    obtain ⟨s, hsI⟩ : ∃ s, (saysM n M)[i]? = some s := ⟨(saysM n M)[i]'(by omega), List.getElem?_eq_getElem _⟩
    obtain ⟨pa, rfl, c0⟩ := hcs (i * 4 + 0) _ (saidsV_at hsI (j := 0) rfl)
    have ccs : ∀ j v, (saidV s)[j]? = some v → w47.cell? ((pa.add (i * 4)).add j) = some v := by
      intro j v hj
      obtain ⟨a', ha', h'⟩ := hcs (i * 4 + j) v (saidsV_at hsI hj)
      cases ha'
      rw [add_add]; exact h'
    rw [Int.toNat_natCast]
    refine ⟨⟨by omega, hlt⟩, _, c0, _, ccs 1 _ rfl, _, ccs 2 _ rfl, _, ccs 3 _ rfl, fun k79 w80 hk79 => ?_⟩
    have hk0 : w47.heap.size ≤ k79 := by rw [hk79.size.1]; exact Nat.le_refl _
    have r80 : RowW w80 k79 _ := ⟨_, hk79.at⟩
    have e79 : (at0 k79) = (at0 k79).add 0 := (add_at0 k79 0).symm
    refine ⟨by rw [e79]; exact r80.live (by simp), fun w81 s81 => ?_⟩
    rw [e79] at s81
    have r81 := s81.row r80
    refine ⟨r81.live (by simp), fun w82 s82 => ?_⟩
    have r82 := s82.row r81
    refine ⟨r82.live (by simp), fun w83 s83 => ?_⟩
    have r83 := s83.row r82
    refine ⟨r83.live (by simp), fun w84 s84 => ?_⟩
    have r84 : RowW w84 k79 #[.int .i64 s.epoch, .string (bstr s.data), .bool s.is, .bool s.none] := s84.row r83
    have x84 : Ext w47 w84 := setc_new (setc_new (setc_new (setc_new hk79.ext hk0 s81) hk0 s82) hk0 s83) hk0 s84
    have hw : IntKind.i64.wrap ((i : Int) + 1) = ((i + 1 : Nat) : Int) := by rw [w64 (by omega)]; omega
    rw [hw]
    have hstep := wit_step (ks := ks) hsI
    have r33' : RowW w84 k33 _ := x84.rowW r33 id
    have mu : 100 - (((i + 1 : Nat) : Int)).toNat < 100 - ((i : Int)).toNat := by omega
    have keep : witF (ks.getD i false, s) = false → _ := fun hf => (show
        (∃ (k4_1 k33_1 kd i_1 : Nat) (b : Say) (c cc : Nat), some (at0 k4) = some (at0 k4_1) ∧ some (at0 k33) = some (at0 k33_1) ∧ M.length = M.length ∧ ((i + 1 : Nat) : Int) = i_1 ∧ i_1 ≤ M.length ∧ w.heap.size ≤ k4_1 ∧ w.heap.size ≤ k33_1 ∧ k4_1 ≠ k33_1 ∧ w.heap.size ≤ kd ∧ kd ≠ k4_1 ∧ kd ≠ k33_1 ∧ Ext w w84 ∧
      CellsAt w84 (some pa) (saidsV (saysM n M)) ∧ (∀ a, some pa = some a → a.block ≠ k33_1) ∧ RowW w84 k4_1 #[.bool false, .int .i64 0, .slice none 0 0, .int .i64 0, .bool false] ∧ Best (sayL (saysM n M)) b c ∧
      RowW w84 k33_1 #[.bool (decide (0 < c)), .int .i64 b.1, .slice (some (at0 kd)) b.2.length cc, .int .i64 (c : Int), .bool (wit ks ((saysM n M).take i_1))] ∧ BytesAt w84 (some (at0 kd)) b.2.length b.2) ∧ 100 - (((i + 1 : Nat) : Int)).toNat < 100 - ((i : Int)).toNat from
        ⟨⟨k4, k33, kd, i + 1, b, c, cc, rfl, rfl, rfl, rfl, by omega, s4, s33', hne, sd', hd4, hd33, x47.trans x84, hcs.ext x84, hpk, x84.rowW r4 id, hb, by rw [hstep, hf, Bool.or_false]; exact r33', d47.ext x84⟩, mu⟩)
    have set : witF (ks.getD i false, s) = true → ∀ w88, SetC w84 ((at0 k33).add 4) (.bool true) w88 → _ := fun hf w88 s88 => (show
        (∃ (k4_1 k33_1 kd i_1 : Nat) (b : Say) (c cc : Nat), some (at0 k4) = some (at0 k4_1) ∧ some (at0 k33) = some (at0 k33_1) ∧ M.length = M.length ∧ ((i + 1 : Nat) : Int) = i_1 ∧ i_1 ≤ M.length ∧ w.heap.size ≤ k4_1 ∧ w.heap.size ≤ k33_1 ∧ k4_1 ≠ k33_1 ∧ w.heap.size ≤ kd ∧ kd ≠ k4_1 ∧ kd ≠ k33_1 ∧ Ext w w88 ∧
      CellsAt w88 (some pa) (saidsV (saysM n M)) ∧ (∀ a, some pa = some a → a.block ≠ k33_1) ∧ RowW w88 k4_1 #[.bool false, .int .i64 0, .slice none 0 0, .int .i64 0, .bool false] ∧ Best (sayL (saysM n M)) b c ∧
      RowW w88 k33_1 #[.bool (decide (0 < c)), .int .i64 b.1, .slice (some (at0 kd)) b.2.length cc, .int .i64 (c : Int), .bool (wit ks ((saysM n M).take i_1))] ∧ BytesAt w88 (some (at0 kd)) b.2.length b.2) ∧ 100 - (((i + 1 : Nat) : Int)).toNat < 100 - ((i : Int)).toNat from by
        have u88 := s88.upd
        rw [add_block] at u88
        have r88 := s88.row r33'
        refine ⟨⟨k4, k33, kd, i + 1, b, c, cc, rfl, rfl, rfl, rfl, by omega, s4, s33', hne, sd', hd4, hd33, setc_new (x47.trans x84) s33' s88, (hcs.ext x84).upd u88 (fun a ha _ => hpk a ha), hpk, u88.rowW (x84.rowW r4 id) hne, hb, ?_, (d47.ext x84).upd u88 (fun a ha _ => by cases ha; exact hd33)⟩, mu⟩
        rw [hstep, hf, Bool.or_true]
        exact r88)
    refine condB_of (fun h2 => ?_) (fun h2 => ?_)
    · simp only [decide_eq_true_eq] at h2
      obtain ⟨a2, rfl, hc2⟩ := (hks.ext (x47.trans x84)).get (i := i) (by omega)
      refine ⟨⟨by omega, h2⟩, _, hc2, condB_of (fun h3 => ?_) (fun h3 => ?_)⟩
      · refine ⟨_, r84.row.cell rfl, condB_of (fun h4 => ?_) (fun h4 => ?_)⟩
        · exact ⟨r33'.live (by simp), set (by show (ks.getD i false && (s.is || s.none)) = _; rw [h3, h4]; rfl)⟩
        · refine ⟨_, r84.row.cell rfl, condB_of (fun h5 => ?_) (fun h5 => ?_)⟩
          · exact ⟨r33'.live (by simp), set (by show (ks.getD i false && (s.is || s.none)) = _; rw [h3, h5]; exact Bool.or_true _)⟩
          · exact keep (by show (ks.getD i false && (s.is || s.none)) = _; rw [h4, h5]; exact Bool.and_false _)
      · exact keep (by show (ks.getD i false && (s.is || s.none)) = _; rw [h3]; rfl)
    · simp only [decide_eq_false_iff_not] at h2
      have : ks.getD i false = false := by
        have := hks.1
        rw [List.getD_eq_getElem?_getD, List.getElem?_eq_none (by omega)]; rfl
      exact keep (by show (ks.getD i false && (s.is || s.none)) = _; rw [this]; rfl)
  · simp only [decide_eq_false_iff_not] at hge
    have hil : i = M.length := by omega
    have htk : (saysM n M).take i = saysM n M := List.take_of_length_le (by omega)
    rw [htk] at r33
    have e4 : (at0 k4) = (at0 k4).add 0 := (add_at0 k4 0).symm
    refine ⟨_, by rw [e33]; exact r33.row.cell rfl, _, r33.row.cell rfl, _, _, _, r33.row.cell rfl, _, r33.row.cell rfl, _, r33.row.cell rfl, ?_⟩
    refine ⟨by rw [e4]; exact r4.live (by simp), fun w96 s96 => ?_⟩
    rw [e4] at s96
    have r96 := s96.row r4
    refine ⟨r96.live (by simp), fun w97 s97 => ?_⟩
    have r97 := s97.row r96
    refine ⟨r97.live (by simp), fun w98 s98 => ?_⟩
    have r98 := s98.row r97
    refine ⟨r98.live (by simp), fun w99 s99 => ?_⟩
    have r99 := s99.row r98
    refine ⟨r99.live (by simp), fun w100 s100 => ?_⟩
    have r100 := s100.row r99
    have x100 : Ext w w100 := setc_new (setc_new (setc_new (setc_new (setc_new x47 s4 s96) s4 s97) s4 s98) s4 s99) s4 s100
    refine ⟨_, by rw [e4]; exact r100.row.cell rfl, _, r100.row.cell rfl, _, _, _, r100.row.cell rfl, _, r100.row.cell rfl, _, r100.row.cell rfl, x100, _, b, c, kd, cc, rfl, hb, rfl, sd', ?_⟩
    have u : ∀ {j : Nat} {v : Value} {wa wb : World}, SetC wa ((at0 k4).add j) v wb → BytesAt wa (some (at0 kd)) b.2.length b.2 → BytesAt wb (some (at0 kd)) b.2.length b.2 := by
      intro j v wa wb hs hB
      have hu := hs.upd
      rw [add_block] at hu
      exact hB.upd hu fun a ha _ => by cases ha; exact hd4
    exact u s100 (u s99 (u s98 (u s97 (u s96 d47))))
end
end Go.Proofs.Ytphkmbkmjhbenaa
