/- A script of calls, as it lies; what a disk is behind one. -/
import Derived.Test.YteglkbmpeelfgaaL1
import Derived.Test.YteglkbmpeelfgaaRepO
namespace Go.Proofs.Yteglkbmpeelfgaa
open Go Go.Vc

/-- a call of a script -/
structure CallR where
  kind : Int
  n : Int
  m : Int
  y : UInt8
  b : List UInt8
  keep : List Int

structure CallAt (w : World) (a : Addr) (c : CallR) (p4 : Option Addr) (l4 c4 : Nat) (p5 : Option Addr) (l5 c5 : Nat) : Prop where
  kind : w.cell? a = some (.int .i64 c.kind)
  n : w.cell? (a.add 1) = some (.int .i64 c.n)
  m : w.cell? (a.add 2) = some (.int .i64 c.m)
  y : w.cell? (a.add 3) = some (.int .u8 (c.y.toNat : Int))
  b : w.cell? (a.add 4) = some (.slice p4 l4 c4)
  bytes : BytesAt w p4 l4 c.b
  keep : w.cell? (a.add 5) = some (.slice p5 l5 c5)
  ints : IntsAt w p5 l5 c.keep
  mr : -9223372036854775808 ≤ c.m ∧ c.m ≤ 9223372036854775807

def CallsAt (w : World) (p : Option Addr) (l : Nat) (L : List CallR) : Prop :=
  l = L.length ∧ ∀ i c, L[i]? = some c → ∃ a p4 l4 c4 p5 l5 c5, p = some a ∧ CallAt w (a.add (i * 6)) c p4 l4 c4 p5 l5 c5

theorem cell_ext {w w' : World} {a : Addr} {v : Value} (h : w.cell? a = some v) (hu : Ext w w') : w'.cell? a = some v := by
  have : CellsAt w (some a) [v] := fun j u hj => ⟨a, rfl, by
    match j, hj with
    | 0, hj => cases hj; simpa [Addr.add] using h⟩
  obtain ⟨a', ha, h⟩ := (this.ext hu) 0 v rfl
  cases ha
  simpa [Addr.add] using h
theorem CallAt.ext {w w' : World} {a : Addr} {c : CallR} {p4 : Option Addr} {l4 c4 : Nat} {p5 : Option Addr} {l5 c5 : Nat} (h : CallAt w a c p4 l4 c4 p5 l5 c5) (hu : Ext w w') : CallAt w' a c p4 l4 c4 p5 l5 c5 :=
  ⟨cell_ext h.kind hu, cell_ext h.n hu, cell_ext h.m hu, cell_ext h.y hu, cell_ext h.b hu, h.bytes.ext hu, cell_ext h.keep hu, h.ints.ext hu, h.mr⟩
theorem CallsAt.ext {w w' : World} {p : Option Addr} {l : Nat} {L : List CallR} (h : CallsAt w p l L) (hu : Ext w w') : CallsAt w' p l L :=
  ⟨h.1, fun i c hi => by
    obtain ⟨a, p4, l4, c4, p5, l5, c5, hp, hc⟩ := h.2 i c hi
    exact ⟨a, p4, l4, c4, p5, l5, c5, hp, hc.ext hu⟩⟩

/-- what a call does to a disk -/
def callD (D : Dk) (c : CallR) : Dk :=
  if c.kind = 1 then writeD D c.n c.b
  else if c.kind = 3 then flushD D
  else if c.kind = 4 then crashD D c.keep
  else if c.kind = 5 then { D with dead := true, lasts := [], waits := [] }
  else if c.kind = 6 then { D with dead := false, lasts := [], waits := [] }
  else if c.kind = 7 then corruptD D c.n c.m c.y
  else D
def smallC (c : CallR) : Prop := c.b.length ≤ 4200 ∧ c.keep.length ≤ 200
instance (c : CallR) : Decidable (smallC c) := inferInstanceAs (Decidable (_ ∧ _))
def doneD (D : Dk) (L : List CallR) : Dk := L.foldl (fun D c => if smallC c then callD D c else D) D

/-- a dead disk holds nothing -/
def Void (D : Dk) : Prop := D.dead = true → D.lasts = [] ∧ D.waits = []
theorem Void.write {D : Dk} (h : Void D) (k : Int) (bs : List UInt8) : Void (writeD D k bs) := by
  unfold writeD
  split
  · rename_i hz
    intro hd
    exfalso
    have hd' : D.dead = true := hd
    simp [writeZ, faultZ, hd'] at hz
  · exact h
theorem Void.flush {D : Dk} (h : Void D) : Void (flushD D) := by
  unfold flushD
  split
  · exact h
  · rename_i hd; intro h1; exact absurd h1 hd
theorem Void.crash {D : Dk} (h : Void D) (ks : List Int) : Void (crashD D ks) := by
  intro hd
  obtain ⟨h1, h2⟩ := h hd
  refine ⟨?_, rfl⟩
  simp [crashD, h1, h2, mrg]
theorem Void.corrupt {D : Dk} (h : Void D) (k a : Int) (y : UInt8) : Void (corruptD D k a y) := by
  unfold corruptD
  split
  · exact h
  · rename_i hf
    have hd : D.dead = false := by
      rcases hd : D.dead with _ | _
      · rfl
      · simp [faultZ, hd] at hf
    split
    · intro h1; rw [hd] at h1; cases h1
    · split
      · intro h1; rw [hd] at h1; cases h1
      · exact h
theorem Void.call {D : Dk} (h : Void D) (c : CallR) : Void (callD D c) := by
  unfold callD
  split
  · exact h.write _ _
  split
  · exact h.flush
  split
  · exact h.crash _
  split
  · exact fun _ => ⟨rfl, rfl⟩
  split
  · exact fun _ => ⟨rfl, rfl⟩
  split
  · exact h.corrupt _ _ _
  · exact h
theorem Void.done {D : Dk} (h : Void D) (L : List CallR) : Void (doneD D L) := by
  induction L generalizing D with
  | nil => exact h
  | cons c L ih =>
    refine ih ?_
    simp only
    split
    · exact h.call c
    · exact h
theorem sectors_write (D : Dk) (k : Int) (bs : List UInt8) : (writeD D k bs).sectors = D.sectors := by unfold writeD; split <;> rfl
theorem sectors_flush (D : Dk) : (flushD D).sectors = D.sectors := by unfold flushD; split <;> rfl
theorem sectors_corrupt (D : Dk) (k a : Int) (y : UInt8) : (corruptD D k a y).sectors = D.sectors := by
  unfold corruptD
  split
  · rfl
  · split
    · rfl
    · split <;> rfl
theorem sectors_call (D : Dk) (c : CallR) : (callD D c).sectors = D.sectors := by
  unfold callD
  repeat' split
  all_goals first | rfl | exact sectors_write _ _ _ | exact sectors_flush _ | exact sectors_corrupt _ _ _ _
theorem sectors_done (L : List CallR) : ∀ D : Dk, (doneD D L).sectors = D.sectors := by
  induction L with
  | nil => intro D; rfl
  | cons c L ih =>
    intro D
    refine (ih _).trans ?_
    simp only
    split
    · exact sectors_call _ _
    · rfl

theorem small_spec (k n m y : Int) (p4 : Option Addr) (l4 c4 : Nat) (p5 : Option Addr) (l5 c5 : Nat) (w : World) :
    Calls Try.prog 24 #[.agg #[.int .i64 k, .int .i64 n, .int .i64 m, .int .u8 y, .slice p4 l4 c4, .slice p5 l5 c5]] w fun e w' => e = .returned (.bool (decide (l4 ≤ 4200 ∧ l5 ≤ 200))) ∧ Ext w w' := by
  refine (F24_calls k n m y p4 l4 c4 p5 l5 c5 w (fun v w' => v = .bool (decide (l4 ≤ 4200 ∧ l5 ≤ 200)) ∧ Ext w w') ?_).mono (by rintro e w' ⟨v, rfl, rfl, h⟩; exact ⟨rfl, h⟩)
  intro k7 w8 hk
  have hr : RowW w8 k7 _ := ⟨_, hk.at⟩
  refine ⟨p4, l4, c4, hr.row.cell rfl, condB_of (fun h => ?_) (fun h => ?_)⟩
  · simp only [decide_eq_true_eq] at h
    refine ⟨p5, l5, c5, hr.row.cell rfl, ?_, hk.ext⟩
    have h' : l4 ≤ 4200 := by omega
    have : (decide (((l5 : Nat) : Int) ≤ 200)) = decide (l4 ≤ 4200 ∧ l5 ≤ 200) := by
      apply decide_eq_decide.2
      omega
    rw [this]
  · simp only [decide_eq_false_iff_not] at h
    refine ⟨?_, hk.ext⟩
    have : decide (l4 ≤ 4200 ∧ l5 ≤ 200) = false := by
      apply decide_eq_false
      omega
    rw [this]

theorem setc_ext {w0 w w' : World} {k j : Nat} {v : Value} (h : Ext w0 w) (hk : w0.heap.size ≤ k) (hs : SetC w ((at0 k).add j) v w') : Ext w0 w' := by
  refine Upd.trans h hs.upd fun x hx he => ?_
  have : x = k := by
    rw [add_at0] at he
    exact he
  omega
theorem ext_step {F F' : Nat → Prop} {w0 w w' : World} (h : Ext w0 w) (hs : Step F F' w w') (hF : ∀ x, F x → w0.heap.size ≤ x) : Ext w0 w' ∧ ∀ x, F' x → w0.heap.size ≤ x := by
  refine ⟨Upd.trans h hs.upd fun x hx hf => ?_, fun x hx => ?_⟩
  · have := hF x hf; omega
  · rcases hs.grow x hx with h1 | h1
    · exact hF x h1
    · exact Nat.le_trans h.size h1
theorem ints_lt {w : World} {p : Option Addr} {l : Nat} {ks : List Int} (h : IntsAt w p l ks) (hne : ks ≠ []) {a : Addr} (ha : p = some a) : a.block < w.heap.size := by
  obtain ⟨k, ks', rfl⟩ := List.exists_cons_of_ne_nil hne
  obtain ⟨a', ha', hc⟩ := h.2 0 _ rfl
  rw [ha] at ha'
  cases ha'
  have : (a.add 0).block = a.block := rfl
  rw [← this]
  unfold World.cell? at hc
  split at hc
  · rename_i h1; exact lt_of_heap h1
  all_goals cases hc

theorem doneD_snoc (D : Dk) (L : List CallR) (c : CallR) : doneD D (L ++ [c]) = if smallC c then callD (doneD D L) c else doneD D L := by
  simp [doneD, List.foldl_append]

set_option maxHeartbeats 4000000 in
theorem done_spec {n : Int} {p : Option Addr} {l c : Nat} {L : List CallR} {w : World} (hL : CallsAt w p l L) :
    Calls Try.prog 12 #[.int .i64 n, .slice p l c] w fun e w' => Ext w w' ∧ ((n < 1 ∨ 4096 < n) ∧ e = .returned (.pointer none) ∨
      (1 ≤ n ∧ n ≤ 4096) ∧ ∃ b F, e = .returned (.pointer (some (at0 b))) ∧ Dsk w' b (doneD ⟨n, [], [], false⟩ (L.take 60)) F ∧ ∀ x, F x → w.heap.size ≤ x) := by
  let D0 : Dk := ⟨n, [], [], false⟩
  let I : Option Addr → World → Int → World → Prop := fun p5 _ n8 w9 => Ext w w9 ∧ ((n < 1 ∨ 4096 < n) ∧ p5 = none ∨
    (1 ≤ n ∧ n ≤ 4096) ∧ ∃ (b : Nat) (F : Nat → Prop) (i : Nat), p5 = some (at0 b) ∧ n8 = i ∧ i ≤ 60 ∧ i ≤ L.length ∧ Dsk w9 b (doneD D0 (L.take i)) F ∧ ∀ x, F x → w.heap.size ≤ x)
  have hl := hL.1
  refine (F12_calls n p l c w (fun v w' => Ext w w' ∧ ((n < 1 ∨ 4096 < n) ∧ v = .pointer none ∨
      (1 ≤ n ∧ n ≤ 4096) ∧ ∃ b F, v = .pointer (some (at0 b)) ∧ Dsk w' b (doneD ⟨n, [], [], false⟩ (L.take 60)) F ∧ ∀ x, F x → w.heap.size ≤ x)) I (fun _ _ n8 _ => 60 - n8.toNat) ?_).mono (by
    rintro e w' ⟨v, rfl, hx, ⟨h, rfl⟩ | ⟨h, b, F, rfl, h2⟩⟩
    · exact ⟨hx, .inl ⟨h, rfl⟩⟩
    · exact ⟨hx, .inr ⟨h, b, F, rfl, h2⟩⟩)
  have start : Calls Try.prog 22 #[.int .i64 n] w fun e w3 => ∃ p5 n6, e = .returned (.tuple #[.pointer p5, .int .i64 n6]) ∧ I p5 w3 0 w3 := by
    by_cases hn : 1 ≤ n ∧ n ≤ 4096
    · refine (d_new hn w).mono ?_
      rintro e w3 ⟨b, F, rfl, hx, hd, hF⟩
      exact ⟨_, _, rfl, hx, .inr ⟨hn, b, F, 0, rfl, rfl, by omega, by omega, hd, hF⟩⟩
    · refine (new_bad (by omega) w).mono ?_
      rintro e w3 ⟨rfl, rfl⟩
      exact ⟨_, _, rfl, Upd.refl _ _, .inl ⟨by omega, rfl⟩⟩
  refine start.mono ?_
  rintro e w3 ⟨p5, n6, rfl, h0⟩
  refine ⟨p5, n6, rfl, h0, ?_⟩
  intro n8 w9 hI
  intros
  obtain ⟨hx9, ⟨hbad, rfl⟩ | ⟨hn, b, F, i, rfl, rfl, hi60, hiL, hd, hF⟩⟩ := hI
  · have hend : Ext w w9 ∧ ((n < 1 ∨ 4096 < n) ∧ (Value.pointer none : Value) = .pointer none ∨
      (1 ≤ n ∧ n ≤ 4096) ∧ ∃ b F, (Value.pointer none : Value) = .pointer (some (at0 b)) ∧ Dsk w9 b (doneD ⟨n, [], [], false⟩ (L.take 60)) F ∧ ∀ x, F x → w.heap.size ≤ x) := ⟨hx9, .inl ⟨hbad, rfl⟩⟩
    exact condB_of (fun _ => condB_of (fun _ => condB_of (fun h => by simp at h) (fun _ => hend)) (fun _ => hend)) (fun _ => hend)
  refine condB_of (fun h1 => condB_of (fun h2 => condB_of (fun _ => ?_) (fun h => by simp at h)) (fun h2 => ?_)) (fun h1 => ?_)
  rotate_left
  · simp only [decide_eq_true_eq, decide_eq_false_iff_not] at h1 h2
    have : i = 60 := by omega
    subst this
    exact ⟨hx9, .inr ⟨hn, b, F, rfl, hd, hF⟩⟩
  · simp only [decide_eq_false_iff_not] at h1
    have h3 : L.take 60 = L := List.take_of_length_le (by omega)
    have h4 : L.take i = L := List.take_of_length_le (by omega)
    refine ⟨hx9, .inr ⟨hn, b, F, rfl, ?_, hF⟩⟩
    rw [h3]; rw [h4] at hd; exact hd
  simp only [decide_eq_true_eq] at h1 h2
  refine ⟨⟨by omega, h1⟩, ?_⟩
  have hiL' : i < L.length := by omega
  obtain ⟨cl, hcl⟩ : ∃ x, L[i]? = some x := ⟨L[i], List.getElem?_eq_getElem hiL'⟩
  obtain ⟨a, p4, l4, c4, p5, l5, c5, rfl, hc0⟩ := hL.2 i cl hcl
  have hc := hc0.ext hx9
  rw [Int.toNat_natCast]
  refine ⟨_, hc.kind, _, hc.n, _, hc.m, _, hc.y, p4, l4, c4, hc.b, p5, l5, c5, hc.keep, ?_⟩
  intro k w78 hk
  have hk0 : w9.heap.size ≤ k := by rw [hk.size.1]; exact Nat.le_refl _
  have r78 : RowW w78 k _ := ⟨_, hk.at⟩
  have x78 : Ext w9 w78 := hk.ext
  refine ⟨r78.live (n := 0) (by simp), fun w79 s79 => ?_⟩
  have s79' : SetC w78 ((at0 k).add 0) (.int .i64 cl.kind) w79 := s79
  have r79 := s79'.row r78
  have x79 := setc_ext x78 hk0 s79'
  refine ⟨r79.live (by simp), fun w80 s80 => ?_⟩
  have r80 := s80.row r79
  have x80 := setc_ext x79 hk0 s80
  refine ⟨r80.live (by simp), fun w81 s81 => ?_⟩
  have r81 := s81.row r80
  have x81 := setc_ext x80 hk0 s81
  refine ⟨r81.live (by simp), fun w82 s82 => ?_⟩
  have r82 := s82.row r81
  have x82 := setc_ext x81 hk0 s82
  refine ⟨r82.live (by simp), fun w83 s83 => ?_⟩
  have r83 := s83.row r82
  have x83 := setc_ext x82 hk0 s83
  refine ⟨r83.live (by simp), fun w84 s84 => ?_⟩
  have r84 := s84.row r83
  have x84 := setc_ext x83 hk0 s84
  have r84' : RowW w84 k #[.int .i64 cl.kind, .int .i64 cl.n, .int .i64 cl.m, .int .u8 (cl.y.toNat : Int), .slice p4 l4 c4, .slice p5 l5 c5] := r84
  refine ⟨_, r84'.row.cell (n := 0) rfl, _, r84'.row.cell rfl, _, r84'.row.cell rfl, _, r84'.row.cell rfl, _, _, _, r84'.row.cell rfl, _, _, _, r84'.row.cell rfl, ?_⟩
  refine (small_spec cl.kind cl.n cl.m (cl.y.toNat : Int) p4 l4 c4 p5 l5 c5 w84).mono ?_
  rintro e w91 ⟨rfl, x91⟩
  refine ⟨_, rfl, ?_⟩
  have hsm : (l4 ≤ 4200 ∧ l5 ≤ 200) ↔ smallC cl := by
    have := hc.bytes.1; have := hc.ints.1
    unfold smallC; omega
  have xx : Ext w9 w91 := x84.trans x91
  have xw : Ext w w91 := hx9.trans xx
  have hd91 := hd.ext xx
  have r91 := x91.rowW r84' id
  have hc91 := hc.ext xx
  have hwrap : IntKind.i64.wrap ((i : Int) + 1) = ((i + 1 : Nat) : Int) := by rw [w64 (by omega)]; omega
  have htake : L.take (i + 1) = L.take i ++ [cl] := by rw [List.take_add_one, hcl]; rfl
  rw [hwrap]
  have hmu : 60 - ((i + 1 : Nat) : Int).toNat < 60 - ((i : Nat) : Int).toNat := by simp only [Int.toNat_natCast]; omega
  have fin : ∀ (w' : World) (F' : Nat → Prop) (D' : Dk), Ext w w' → Dsk w' b D' F' → (∀ x, F' x → w.heap.size ≤ x) → D' = doneD D0 (L.take (i + 1)) → I (some (at0 b)) w3 ((i + 1 : Nat) : Int) w' ∧ 60 - ((i + 1 : Nat) : Int).toNat < 60 - ((i : Nat) : Int).toNat := by
    rintro w' F' D' h1 h2 h3 rfl
    exact ⟨⟨h1, .inr ⟨hn, b, F', i + 1, rfl, rfl, by omega, by omega, h2, h3⟩⟩, hmu⟩
  have fin2 : ∀ (w' : World) (F' : Nat → Prop) (D' : Dk), Step F F' w91 w' → Dsk w' b D' F' → D' = doneD D0 (L.take (i + 1)) → I (some (at0 b)) w3 ((i + 1 : Nat) : Int) w' ∧ 60 - ((i + 1 : Nat) : Int).toNat < 60 - ((i : Nat) : Int).toNat := by
    intro w' F' D' hs h2 h3
    obtain ⟨h4, h5⟩ := ext_step xw hs hF
    exact fin w' F' D' h4 h2 h5 h3
  refine condB_of (fun hb => ?_) (fun hb => ?_)
  · simp only [Bool.not_eq_true', decide_eq_false_iff_not] at hb
    refine fin w91 F _ xw hd91 hF ?_
    rw [htake, doneD_snoc, if_neg (fun h => hb (hsm.2 h))]
  simp only [Bool.not_eq_false', decide_eq_true_eq] at hb
  have hS : doneD D0 (L.take (i + 1)) = callD (doneD D0 (L.take i)) cl := by rw [htake, doneD_snoc, if_pos (hsm.1 hb)]
  refine ⟨_, r91.row.cell rfl, ?_⟩
  refine condB_of (fun e1 => ?_) (fun e1 => condB_of (fun e3 => ?_) (fun e3 => condB_of (fun e4 => ?_) (fun e4 => condB_of (fun e5 => ?_) (fun e5 => condB_of (fun e6 => ?_) (fun e6 => condB_of (fun e7 => ?_) (fun e7 => ?_)))))) <;> simp only [decide_eq_true_eq, decide_eq_false_iff_not] at *
  · refine ⟨_, r91.row.cell rfl, _, _, _, r91.row.cell rfl, ?_⟩
    refine (d_write hd91 cl.n hc91.bytes).mono ?_
    rintro e w' ⟨F', rfl, hs, hd'⟩
    exact ⟨_, rfl, fin2 w' F' _ hs hd' (by rw [hS]; simp [callD, e1])⟩
  · refine (d_flush hd91).mono ?_
    rintro e w' ⟨rfl, hs, hd'⟩
    exact ⟨_, rfl, fin2 w' F _ hs hd' (by rw [hS]; simp [callD, e3])⟩
  · refine ⟨_, _, _, r91.row.cell rfl, ?_⟩
    refine (d_crash hd91 hc91.ints (by omega) fun a ha hne hf => ?_).mono ?_
    · have h1 := ints_lt hc0.ints hne ha
      have h2 := hF _ hf
      omega
    rintro e w' ⟨rfl, hs, hd'⟩
    exact ⟨rfl, fin2 w' F _ hs hd' (by rw [hS]; simp [callD, e4])⟩
  · refine (d_fail hd91).mono ?_
    rintro e w' ⟨rfl, hs, hd'⟩
    exact ⟨rfl, fin2 w' F _ hs hd' (by rw [hS]; simp [callD, e5])⟩
  · refine (d_replace hd91).mono ?_
    rintro e w' ⟨rfl, hs, hd'⟩
    exact ⟨rfl, fin2 w' F _ hs hd' (by rw [hS]; simp [callD, e6])⟩
  · refine ⟨_, r91.row.cell rfl, _, r91.row.cell rfl, _, r91.row.cell rfl, ?_⟩
    refine (d_corrupt hd91 cl.n cl.m cl.y hc.mr).mono ?_
    rintro e w' ⟨F', rfl, hs, hd'⟩
    exact ⟨_, rfl, fin2 w' F' _ hs hd' (by rw [hS]; simp [callD, e7])⟩
  · exact fin w91 F _ xw hd91 hF (by rw [hS]; simp [callD, e1, e3, e4, e5, e6, e7])
end Go.Proofs.Yteglkbmpeelfgaa
