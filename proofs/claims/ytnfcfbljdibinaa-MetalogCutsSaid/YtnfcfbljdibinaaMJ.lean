import Derived.Test.YtnfcfbljdibinaaMV
import Derived.Test.YtnfcfbljdibinaaMR
/- Votes compared; flags as an argument; what one disk says. -/
namespace Go.Proofs.Ytnfcfbljdibinaa
open Go Go.Vc Go.ChangeShapes Go.WideShapes Go.ChangeAt

section
variable {H : Type} {enc : TypeId × Value → H} {w : World} {base : Nat} {sp : Nat → Bool} {held : Bool}
theorem open_bools {v : Value} {d : DataW H} {ps : List MemPlace} (hs : ∃ a l c, v = .slice a l c) (h : DataW.Trod enc Try.prog w base sp held 28 v d ps) :
    ∃ p l c ks, v = .slice p l c ∧ BoolsAt w p l ks := by
  obtain ⟨a, l, c, rfl⟩ := hs
  obtain ⟨fuel, h⟩ := h
  obtain ⟨p, l', c', he, _, _, _, hrow⟩ := rd_rows (t := 28) (e := 4) (k := 1) (by kernel_rfl) (by kernel_rfl) h
  cases he
  have hone : ∀ i, i < l → ∃ b : Bool, ∃ a', a = some a' ∧ w.cell? (a'.add i) = some (.bool b) := by
    intro i hi
    obtain ⟨a', ys, n, y, ha, ht, hlen, hc⟩ := hrow i hi
    obtain ⟨b, rfl, _⟩ := DataW.trod_bool (by kernel_rfl) ht
    have := hc 0 (by omega)
    rw [add_add, Nat.mul_one, Nat.add_zero] at this
    exact ⟨b, a', ha, this⟩
  have hlist : ∀ k, k ≤ l → ∃ ks : List Bool, ks.length = k ∧ ∀ i b, ks[i]? = some b → ∃ a', a = some a' ∧ w.cell? (a'.add i) = some (.bool b) := by
    intro k
    induction k with
    | zero => intro _; exact ⟨[], rfl, fun i b h => by simp at h⟩
    | succ k ih =>
      intro hk
      obtain ⟨ks, hl, hall⟩ := ih (by omega)
      obtain ⟨b, hb⟩ := hone k (by omega)
      refine ⟨ks ++ [b], by simp [hl], fun i b' h => ?_⟩
      rw [List.getElem?_append] at h
      split at h
      · exact hall i b' h
      · have hi : i = k := by
          have := (List.getElem?_eq_some_iff.1 h).1
          simp at this; omega
        subst hi
        rw [hl, Nat.sub_self] at h
        simp at h
        subst h
        exact hb
  obtain ⟨ks, hl, hall⟩ := hlist l (Nat.le_refl _)
  refine ⟨a, l, c, ks, rfl, hl.symm, fun j u hj => ?_⟩
  rw [List.getElem?_map, Option.map_eq_some_iff] at hj
  obtain ⟨b, hb, rfl⟩ := hj
  exact hall j b hb
end

theorem said_none {n : Int} {m : Mem} (h : unpackM n (readA n m) = none) : saidOf n m = ⟨0, [], false, decide (faultZ m.d.dead m.d.sectors n = 0 ∧ readA n m = [])⟩ := by
  unfold saidOf; rw [h]
theorem said_some {n e : Int} {m : Mem} {d : List UInt8} (h : unpackM n (readA n m) = some (e, d)) : saidOf n m = ⟨e, d, true, false⟩ ∧ faultZ m.d.dead m.d.sectors n = 0 ∧ (readA n m).length ≠ 0 := by
  refine ⟨by unfold saidOf; rw [h], ?_, ?_⟩
  · refine Decidable.byContradiction fun hz => ?_
    unfold readA at h
    rw [if_neg hz] at h
    unfold unpackM at h
    split at h
    · rename_i hk
      have := hk.1
      simp at this
    · cases h
  · intro h0
    unfold unpackM at h
    split at h
    · rename_i hk
      have := hk.1
      omega
    · cases h

theorem wit_full : ∀ {ks : List Bool} {L : List Said} {i : Nat}, ks.length ≤ i → wit ks (L.take i) = wit ks L
  | [], L, i, _ => by simp [wit]
  | k :: ks, [], i, _ => by simp
  | k :: ks, s :: L, 0, h => by simp at h
  | k :: ks, s :: L, i + 1, h => by
    have := wit_full (ks := ks) (L := L) (i := i) (by simpa using h)
    simp only [wit, List.take_succ_cons, List.zip_cons_cons, List.any_cons] at *
    rw [this]

/-- a disk is read, and what it says unpacked -/
theorem read_unpack {w : World} {a : Nat} {M : List Mem} {left : Int} {F : Nat → Prop} (h : IsArr w a M left false F) {i : Nat} {m : Mem} (hi : M[i]? = some m) (n : Int) {T : Ending → World → Prop}
    (hT : ∀ (e : Ending) (w1 : World), Ext w w1 → (∃ p l c, e = .returned (.tuple #[.slice p l c, .int .i64 (faultZ m.d.dead m.d.sectors n)]) ∧ l = (readA n m).length ∧
      Calls Try.prog 89 #[.int .i64 n, .slice p l c] w1 fun e2 w2 => ∃ v, e2 = .returned v ∧ UnP n (readA n m) w1 v w2) → T e w1) :
    Calls Try.prog 32 #[.pointer (some (at0 a)), .int .i64 (i : Int), .int .i64 n] w T := by
  refine (aread_spec h hi n).mono ?_
  rintro e w10 ⟨x10, p, l, c, bs, rfl, hbs, rfl, ob, hle⟩
  have hbs' : bs = readA n m := hbs
  subst hbs'
  have hba : BytesAt w10 p (readA n m).length (readA n m) := BytesAt.of_cells ob.cells
  have hcap : (readA n m).length ≤ c := by
    rcases ob.where_ with ⟨_, h0, h1⟩ | ⟨_, _, _, _, h0, _⟩
    · omega
    · exact h0
  exact hT _ _ x10 ⟨p, _, c, rfl, rfl, unpack_spec n hba (by omega) hcap⟩
end Go.Proofs.Ytnfcfbljdibinaa

/- Behind a mend every disk that lives says the best. -/
namespace Go.Proofs.Ytnfcfbljdibinaa
open Go Go.Vc

/-! ## all disks have as many sectors -/
def SecA (k : Int) (s : StA) : Prop := ∀ m ∈ s.M, m.d.sectors = k
theorem SecA.at {k : Int} {s : StA} (h : SecA k s) {i : Nat} {m : Mem} (hm : s.M[i]? = some m) : m.d.sectors = k := h m (List.mem_of_getElem? hm)
theorem SecA.of {k : Int} {s s' : StA} (h : SecA k s) (hs : ∀ (i : Nat) (m' : Mem), s'.M[i]? = some m' → ∃ m : Mem, s.M[i]? = some m ∧ m'.d.sectors = m.d.sectors) : SecA k s' := by
  intro m' hm'
  obtain ⟨i, hi, rfl⟩ := List.getElem_of_mem hm'
  obtain ⟨m, h1, h2⟩ := hs i _ (List.getElem?_eq_getElem hi)
  rw [h2]; exact h.at h1
theorem set_sec {M : List Mem} {d : Nat} {m x : Mem} (hd : M[d]? = some m) (hx : x.d.sectors = m.d.sectors) {i : Nat} {m' : Mem} (h : (M.set d x)[i]? = some m') : ∃ m, M[i]? = some m ∧ m'.d.sectors = m.d.sectors := by
  rw [List.getElem?_set] at h
  split at h
  · rename_i he
    subst he
    split at h
    · cases h; exact ⟨m, hd, hx⟩
    · cases h
  · exact ⟨m', h, rfl⟩
theorem onDisk_sec {k : Int} {s : StA} (h : SecA k s) (d : Int) {f : Mem → Mem} (hf : ∀ m, (f m).d.sectors = m.d.sectors) : SecA k (onDisk s d f) := by
  unfold onDisk
  split
  · rename_i m hm
    split
    · exact SecA.of h fun i m' hi => set_sec hm (hf m) hi
    · exact h
  · exact h
theorem writeD_sec (D : Dk) (n : Int) (b : List UInt8) : (writeD D n b).sectors = D.sectors := by unfold writeD; split <;> rfl
theorem corruptD_sec (D : Dk) (k a : Int) (y : UInt8) : (corruptD D k a y).sectors = D.sectors := by
  unfold corruptD
  split
  · rfl
  · split
    · rfl
    · split <;> rfl
theorem flushD_sec (D : Dk) : (flushD D).sectors = D.sectors := by unfold flushD; split <;> rfl
theorem mapIdx_sec {M : List Mem} {f : Nat → Mem → Mem} (hf : ∀ j m, (f j m).d.sectors = m.d.sectors) {i : Nat} {m' : Mem} (h : (M.mapIdx f)[i]? = some m') : ∃ m, M[i]? = some m ∧ m'.d.sectors = m.d.sectors := by
  rw [List.getElem?_mapIdx, Option.map_eq_some_iff] at h
  obtain ⟨m, hm, rfl⟩ := h
  exact ⟨m, hm, hf i m⟩
theorem writeA_sec {k : Int} {s : StA} (h : SecA k s) (d n : Int) (b : List UInt8) : SecA k (writeA s d n b) := by
  unfold writeA
  split
  · exact h
  · split
    · split
      · rename_i m hm
        exact SecA.of h fun i m' hi => set_sec hm (writeD_sec _ _ _) hi
      · exact h
    · exact h
theorem crashA_sec {k : Int} {s : StA} (h : SecA k s) (KS : List (List Int)) (n : Nat) (l : Int) (dn : Bool) : SecA k ⟨crashM KS n s.M, l, dn⟩ :=
  SecA.of h fun i m' hi => mapIdx_sec (fun j m => by split <;> rfl) hi
theorem callA_sec {k : Int} {s : StA} (h : SecA k s) (c : CallA) : SecA k (callA s c) := by
  unfold callA
  split
  · exact writeA_sec h _ _ _
  split
  · split
    · exact h
    · exact SecA.of h fun i m' hi => mapIdx_sec (fun j m => by split; exact flushD_sec _; rfl) hi
  split
  · split
    · exact h
    · exact h
  split
  · exact crashA_sec h _ _ _ _
  split
  · exact onDisk_sec h _ fun m => rfl
  split
  · exact onDisk_sec h _ fun m => rfl
  split
  · exact onDisk_sec h _ fun m => corruptD_sec _ _ _ _
  · exact h
theorem doneA_sec {k : Int} (L : List CallA) : ∀ {s : StA}, SecA k s → SecA k (doneA s L) := by
  induction L with
  | nil => intro s h; exact h
  | cons c L ih =>
    intro s h
    refine ih ?_
    simp only
    split
    · exact callA_sec h c
    · exact h
theorem begA_sec (n : Nat) (k : Int) : SecA k (begA n k) := by
  intro m hm
  rw [List.eq_of_mem_replicate hm]

/-! ## what a disk says -/
def saysB (n : Int) (b : Say) (m : Mem) : Bool := (saidOf n m).is && decide (((saidOf n m).epoch, (saidOf n m).data) = b)
def toD (n : Int) (b : Say) (m : Mem) : Bool := !m.d.dead && !saysB n b m
theorem is_live {n : Int} {m : Mem} (h : (saidOf n m).is = true) : m.d.dead = false ∧ 0 ≤ n ∧ n < m.d.sectors := by
  cases hu : unpackM n (readA n m) with
  | none => rw [said_none hu] at h; cases h
  | some ed =>
    obtain ⟨e, d⟩ := ed
    exact faultZ_ok (said_some hu).2.1
def liveN (M : List Mem) : Nat := (M.map fun m => !m.d.dead).count true
theorem to_count (n : Int) (b : Say) : ∀ M : List Mem, M.countP (toD n b) + (sayL (saysM n M)).count b ≤ liveN M
  | [] => by simp [sayL, saysM, liveN]
  | m :: M => by
    have ih := to_count n b M
    have e1 : liveN (m :: M) = liveN M + (if (!m.d.dead) = true then 1 else 0) := by
      unfold liveN
      rw [List.map_cons, List.count_cons]
      simp
    have e2 : (sayL (saysM n (m :: M))).count b = (sayL (saysM n M)).count b + (if saysB n b m = true then 1 else 0) := by
      unfold sayL saysM saysB
      rw [List.map_cons]
      cases hi : (saidOf n m).is with
      | false => rw [List.filter_cons_of_neg (by simp [hi])]; simp
      | true =>
        rw [List.filter_cons_of_pos hi, List.map_cons, List.count_cons]
        simp
    rw [List.countP_cons, e1, e2]
    have hls : saysB n b m = true → m.d.dead = false := fun h => (is_live (by unfold saysB at h; exact (Bool.and_eq_true_iff.1 h).1)).1
    cases hd : m.d.dead <;> cases hs : saysB n b m <;> simp [toD, hd, hs] at * <;> omega

def wrM (n : Int) (B : List UInt8) (m : Mem) : Mem := { m with d := writeD m.d n B }
theorem writeZ_ne (D : Dk) (n : Int) (l : Nat) : writeZ D n l ≠ 130 := by
  unfold writeZ faultZ
  repeat' split
  all_goals omega

/-- the writes, where no crash is to come -/
theorem putS_at {to : Nat → Bool} {tD : Mem → Bool} {n : Int} {B : List UInt8} {s : StA} (hl : s.left = -1) (hd : s.down = false) (hto : ∀ j m, s.M[j]? = some m → to j = tD m) : ∀ i, i ≤ s.M.length →
    (putS to n B s i).1.left = -1 ∧ (putS to n B s i).1.down = false ∧ (putS to n B s i).2.2 = false ∧ (putS to n B s i).1.M.length = s.M.length ∧
    (∀ j m, s.M[j]? = some m → (putS to n B s i).1.M[j]? = some (if j < i ∧ tD m = true then wrM n B m else m)) ∧ 0 ≤ (putS to n B s i).2.1 ∧ (putS to n B s i).2.1 ≤ (((s.M.take i).countP tD : Nat) : Int)
  | 0, _ => ⟨hl, hd, rfl, rfl, fun j m hm => by rw [if_neg (by omega)]; exact hm, Int.le_refl _, by simp [putS]⟩
  | i + 1, hi => by
    obtain ⟨h1, h2, h3, h4, h5, h6, h7⟩ := putS_at (n := n) (B := B) hl hd hto i (by omega)
    obtain ⟨m, hm⟩ : ∃ m, s.M[i]? = some m := ⟨s.M[i]'(by omega), List.getElem?_eq_getElem _⟩
    have hti := hto i m hm
    have hmi := h5 i m hm
    rw [if_neg (by omega)] at hmi
    have hct : (s.M.take (i + 1)).countP tD = (s.M.take i).countP tD + (if tD m = true then 1 else 0) := by
      rw [List.take_add_one, hm, List.countP_append]
      simp [List.countP_cons]
    generalize hr : putS to n B s i = r at *
    obtain ⟨⟨M1, l1, d1⟩, c1, x1⟩ := r
    simp only at h1 h2 h3 h4 h5 h6 h7 hmi
    subst h1
    subst h2
    subst h3
    have e : putS to n B s (i + 1) = if to i then (writeA ⟨M1, -1, false⟩ i n B, if wrZ ⟨M1, -1, false⟩ i n B.length = 0 then c1 + 1 else c1, decide (wrZ ⟨M1, -1, false⟩ i n B.length = 130)) else (⟨M1, -1, false⟩, c1, false) := by
      simp only [putS, hr]
      rfl
    rw [e]
    cases ht : tD m with
    | false =>
      rw [hti, ht]
      simp only [Bool.false_eq_true, if_false]
      refine ⟨trivial, trivial, trivial, h4, fun j m' hj => ?_, h6, by rw [hct, ht]; simpa using h7⟩
      rw [h5 j m' hj]
      by_cases hji : j = i
      · subst hji
        rw [hm] at hj
        cases hj
        rw [ht]; simp
      · congr 1
        by_cases h8 : j < i
        · have : j < i + 1 := by omega
          simp [h8, this]
        · have : ¬ j < i + 1 := by omega
          simp [h8, this]
    | true =>
      rw [hti, ht]
      simp only [if_true]
      have hwz : wrZ ⟨M1, -1, false⟩ i n B.length = writeZ m.d n B.length := by simp [wrZ, hmi]
      have hwA : writeA ⟨M1, -1, false⟩ (i : Int) n B = ⟨M1.set i (wrM n B m), -1, false⟩ := by
        unfold writeA
        simp [hmi, wrM]
      rw [hwz, hwA]
      refine ⟨rfl, rfl, decide_eq_false (writeZ_ne _ _ _), by simpa using h4, fun j m' hj => ?_, by split <;> omega, by rw [hct, ht]; simp only [if_true]; split <;> omega⟩
      show (M1.set i (wrM n B m))[j]? = _
      rw [List.getElem?_set]
      by_cases hji : i = j
      · subst hji
        rw [hm] at hj
        cases hj
        rw [if_pos rfl, if_pos (by omega), if_pos ⟨by omega, ht⟩]
      · rw [if_neg hji, h5 j m' hj]
        congr 1
        by_cases h8 : j < i
        · have : j < i + 1 := by omega
          simp [h8, this]
        · have : ¬ j < i + 1 := by omega
          simp [h8, this]

theorem putS_none {to : Nat → Bool} {n : Int} {B : List UInt8} {s : StA} : ∀ i, (∀ j, j < i → to j = false) → putS to n B s i = (s, 0, false)
  | 0, _ => rfl
  | i + 1, h => by
    have ih := putS_none (to := to) (n := n) (B := B) (s := s) i fun j hj => h j (by omega)
    simp only [putS]
    rw [ih]
    simp [h i (by omega)]

theorem toM_eq {n : Int} {b : Say} {M : List Mem} {j : Nat} {m : Mem} (hm : M[j]? = some m) : toM (M.map fun m => !m.d.dead) (saysM n M) b j = toD n b m := by
  unfold toM toD saysB saysM
  rw [List.getD_eq_getElem?_getD, List.getElem?_map, List.getElem?_map, hm]
  rfl

theorem sayL_all {n : Int} {b : Say} : ∀ {M : List Mem}, (∀ m ∈ M, saysB n b m = !m.d.dead) → (∀ m ∈ M, (saidOf n m).is = true → saysB n b m = true) → sayL (saysM n M) = List.replicate (liveN M) b
  | [], _, _ => rfl
  | m :: M, h, h' => by
    have ih := sayL_all (M := M) (fun x hx => h x (List.mem_cons_of_mem _ hx)) (fun x hx => h' x (List.mem_cons_of_mem _ hx))
    have hm := h m List.mem_cons_self
    have hm' := h' m List.mem_cons_self
    have e1 : liveN (m :: M) = liveN M + (if (!m.d.dead) = true then 1 else 0) := by
      unfold liveN
      rw [List.map_cons, List.count_cons]
      simp
    have e2 : sayL (saysM n (m :: M)) = (if (saidOf n m).is then ((saidOf n m).epoch, (saidOf n m).data) :: sayL (saysM n M) else sayL (saysM n M)) := by
      unfold sayL saysM
      rw [List.map_cons]
      cases hi : (saidOf n m).is with
      | false => rw [List.filter_cons_of_neg (by simp [hi])]; simp
      | true => rw [List.filter_cons_of_pos hi, List.map_cons]; simp
    rw [e1, e2, ih]
    cases hd : m.d.dead with
    | true =>
      have : (saidOf n m).is = false := by
        cases hi : (saidOf n m).is with
        | false => rfl
        | true => rw [hm' hi, hd] at hm; cases hm
      rw [this]
      simp
    | false =>
      rw [hd] at hm
      unfold saysB at hm
      have h1 := Bool.and_eq_true_iff.1 hm
      rw [h1.1]
      simp only [if_true]
      rw [of_decide_eq_true h1.2]
      simp [List.replicate_succ]

/-- BEHIND A MEND -/
theorem mend_law {n : Int} {b : Say} {c : Nat} {s : StA} {k : Int} (hl : s.left = -1) (hd : s.down = false) (hk : SecA k s) (hb : Best (sayL (saysM n s.M)) b c) (hc : 0 < c) :
    (mendM n b c s).2.2 = 0 ∧ 0 ≤ (mendM n b c s).2.1 ∧ (mendM n b c s).2.1 + (c : Int) ≤ (liveN s.M : Int) ∧ (mendM n b c s).1.left = -1 ∧ (mendM n b c s).1.down = false ∧ (mendM n b c s).1.M.length = s.M.length ∧
      liveN (mendM n b c s).1.M = liveN s.M ∧ sayL (saysM n (mendM n b c s).1.M) = List.replicate (liveN s.M) b ∧
      ((mendM n b c s).1.M.map fun m => !m.d.dead) = (s.M.map fun m => !m.d.dead) ∧ ∀ c2, 0 < c2 → mendM n b c2 (mendM n b c s).1 = ((mendM n b c s).1, 0, 0) := by
  rcases hb with ⟨_, _, h0⟩ | ⟨hmem, hcc, _⟩
  · omega
  obtain ⟨hfn, hfe, hfd⟩ := say_bound hmem
  have hrange : 0 ≤ n ∧ n < k := by
    unfold sayL saysM at hmem
    obtain ⟨x, hx, _⟩ := List.mem_map.1 hmem
    obtain ⟨hx, his⟩ := List.mem_filter.1 hx
    obtain ⟨m, hm, rfl⟩ := List.mem_map.1 hx
    have := is_live his
    rw [hk m hm] at this
    exact this.2
  have hput := putS_at (to := toM (s.M.map fun m => !m.d.dead) (saysM n s.M) b) (tD := toD n b) (n := n) (B := packM n b.1 b.2) hl hd (fun j m hm => toM_eq hm) s.M.length (Nat.le_refl _)
  obtain ⟨h1, h2, h3, h4, h5, h6, h7⟩ := hput
  have hm0 : mendM n b c s = ((putS (toM (s.M.map fun m => !m.d.dead) (saysM n s.M) b) n (packM n b.1 b.2) s s.M.length).1, (putS (toM (s.M.map fun m => !m.d.dead) (saysM n s.M) b) n (packM n b.1 b.2) s s.M.length).2.1, 0) := by
    unfold mendM putM
    rw [if_neg (by rw [hd]; simp), if_neg (by omega), if_pos ⟨hfn, hfe, hfd⟩, if_neg (by rw [h3]; simp)]
  rw [hm0]
  generalize putS (toM (s.M.map fun m => !m.d.dead) (saysM n s.M) b) n (packM n b.1 b.2) s s.M.length = r at *
  obtain ⟨⟨M1, l1, d1⟩, c1, x1⟩ := r
  simp only at h1 h2 h3 h4 h5 h6 h7 ⊢
  subst h1
  subst h2
  subst h3
  rw [List.take_length] at h7
  have hcnt := to_count n b s.M
  have hfine : ∀ m, m.d.sectors = k → toD n b m = true → saidOf n (wrM n (packM n b.1 b.2) m) = ⟨b.1, b.2, true, false⟩ := by
    intro m hmk ht
    unfold toD at ht
    have hdead : m.d.dead = false := by
      have := (Bool.and_eq_true_iff.1 ht).1
      simpa using this
    have hz : faultZ m.d.dead m.d.sectors n = 0 := by
      unfold faultZ
      rw [hdead, hmk]
      simp only [Bool.false_eq_true, if_false]
      rw [if_neg (by omega)]
    have hpl := packM_len n b.1 b.2
    have hwz : writeZ m.d n (packM n b.1 b.2).length = 0 := by
      unfold writeZ
      rw [hz]
      simp only [ne_eq, not_true_eq_false, if_false]
      rw [if_neg (by omega)]
    have hwd : writeD m.d n (packM n b.1 b.2) = { m.d with waits := ins n (packM n b.1 b.2) m.d.waits } := by
      unfold writeD
      rw [if_pos hwz]
    have hread : readA n (wrM n (packM n b.1 b.2) m) = packM n b.1 b.2 := by
      unfold readA wrM
      simp only
      rw [hwd]
      simp only
      rw [if_pos hz]
      unfold readD
      simp only
      rw [get_ins, if_pos rfl]
    have hu : unpackM n (readA n (wrM n (packM n b.1 b.2) m)) = some (b.1, b.2) := by rw [hread]; exact unpack_pack hfn hfe hfd
    exact (said_some hu).1
  have hlen1 : M1.length = s.M.length := h4
  have hprop : ∀ (j : Nat) (m1 : Mem), M1[j]? = some m1 → ∃ m : Mem, s.M[j]? = some m ∧ m1.d.dead = m.d.dead ∧ saysB n b m1 = (!m1.d.dead) ∧ ((saidOf n m1).is = true → saysB n b m1 = true) := by
    intro j m1 hj
    obtain ⟨m, hm⟩ : ∃ m, s.M[j]? = some m := ⟨s.M[j]'(by have := (List.getElem?_eq_some_iff.1 hj).1; omega), List.getElem?_eq_getElem _⟩
    have h8 := h5 j m hm
    rw [hj] at h8
    have hjl : j < s.M.length := (List.getElem?_eq_some_iff.1 hm).1
    simp only [Option.some.injEq, hjl, true_and] at h8
    have hmk := hk.at hm
    refine ⟨m, hm, ?_⟩
    cases ht : toD n b m with
    | true =>
      rw [if_pos ht] at h8
      have hs := hfine m hmk ht
      rw [← h8] at hs
      have hdead : m.d.dead = false := by
        unfold toD at ht
        have := (Bool.and_eq_true_iff.1 ht).1
        simpa using this
      have hd1 : m1.d.dead = m.d.dead := by
        rw [h8]
        show (writeD m.d n _).dead = m.d.dead
        unfold writeD; split <;> rfl
      have hsb : saysB n b m1 = true := by unfold saysB; rw [hs]; simp
      exact ⟨hd1, by rw [hsb, hd1, hdead]; rfl, fun _ => hsb⟩
    | false =>
      rw [ht] at h8
      simp only [Bool.false_eq_true, if_false] at h8
      subst h8
      refine ⟨rfl, ?_, ?_⟩
      · cases hdd : m1.d.dead with
        | false =>
          unfold toD at ht
          rw [hdd] at ht
          simpa using ht
        | true =>
          cases hsb : saysB n b m1 with
          | false => rfl
          | true =>
            have := (is_live (Bool.and_eq_true_iff.1 hsb).1).1
            rw [hdd] at this; cases this
      · intro his
        unfold toD at ht
        rw [(is_live his).1] at ht
        simpa using ht
  have hmap : (M1.map fun m => !m.d.dead) = (s.M.map fun m => !m.d.dead) := by
    apply List.ext_getElem?
    intro j
    rw [List.getElem?_map, List.getElem?_map]
    cases hj : M1[j]? with
    | none =>
      have := List.getElem?_eq_none_iff.1 hj
      rw [List.getElem?_eq_none (by omega)]
    | some m1 =>
      obtain ⟨m, hm, he, _⟩ := hprop j m1 hj
      rw [hm]
      simp [he]
  have hln : liveN M1 = liveN s.M := by unfold liveN; rw [hmap]
  have hall : ∀ m ∈ M1, saysB n b m = !m.d.dead := by
    intro m hm
    obtain ⟨j, hj, rfl⟩ := List.getElem_of_mem hm
    obtain ⟨_, _, _, h, _⟩ := hprop j _ (List.getElem?_eq_getElem hj)
    exact h
  have hall' : ∀ m ∈ M1, (saidOf n m).is = true → saysB n b m = true := by
    intro m hm
    obtain ⟨j, hj, rfl⟩ := List.getElem_of_mem hm
    obtain ⟨_, _, _, _, h⟩ := hprop j _ (List.getElem?_eq_getElem hj)
    exact h
  have hsay := sayL_all hall hall'
  rw [hln] at hsay
  refine ⟨trivial, h6, by rw [hcc]; omega, rfl, rfl, h4, hln, hsay, hmap, fun c2 hc2 => ?_⟩
  have hnone : ∀ j, j < M1.length → toM (M1.map fun m => !m.d.dead) (saysM n M1) b j = false := by
    intro j hj
    rw [toM_eq (List.getElem?_eq_getElem hj)]
    unfold toD
    rw [hall _ (List.getElem_mem hj)]
    cases (M1[j]).d.dead <;> rfl
  have hp := putS_none (n := n) (B := packM n b.1 b.2) (s := ⟨M1, -1, false⟩) M1.length hnone
  unfold mendM putM
  rw [if_neg (by simp), if_neg (by omega), if_pos ⟨hfn, hfe, hfd⟩]
  simp only [hp, Bool.false_eq_true, if_false]
end Go.Proofs.Ytnfcfbljdibinaa

/- Where things lie; small calls of the journal; Label. -/
namespace Go.Proofs.Ytnfcfbljdibinaa
open Go Go.Vc

def placeZ (g : Geo) (i n : Int) (L : List Int) : Int := if GeoOk g ∧ 0 ≤ i ∧ i < n then L.foldl (fun a x => IntKind.i64.wrap (a + x)) (IntKind.i64.wrap (1 + i)) else 0
theorem place_spec (g : Geo) (i n : Int) {p : Option Addr} {l c : Nat} {L : List Int} {w : World} (h : IntsAt w p l L) (hl : l ≤ 4611686018427387904) : Calls Try.prog 65 #[gV g, .int .i64 i, .int .i64 n, .slice p l c] w fun e w' => e = .returned (.int .i64 (placeZ g i n L)) ∧ Ext w w' := by
  refine (F65_calls g.k g.m g.size g.stripes g.slots g.objects i n p l c w (fun v w' => v = .int .i64 (placeZ g i n L) ∧ Ext w w')
    (fun _ _ _ _ w18 n25 n26 w27 => ∃ j : Nat, n26 = j ∧ j ≤ l ∧ w27 = w18 ∧ n25 = (L.take j).foldl (fun a x => IntKind.i64.wrap (a + x)) (IntKind.i64.wrap (1 + i))) (fun _ _ _ _ _ _ n26 _ => 4611686018427387905 - n26.toNat) ?_).mono (by rintro e w' ⟨v, rfl, rfl, h⟩; exact ⟨rfl, h⟩)
  have hlen := h.1
  intro k10 w11 hk
  have r : RowW w11 k10 _ := ⟨_, hk.at⟩
  refine ⟨_, r.row.cell (n := 0) rfl, _, r.row.cell rfl, _, r.row.cell rfl, _, r.row.cell rfl, _, r.row.cell rfl, _, r.row.cell rfl, (check_spec g w11).mono ?_⟩
  rintro e w18 ⟨rfl, x18⟩
  have y18 := hk.ext.trans x18
  have bad : ¬ (GeoOk g ∧ 0 ≤ i ∧ i < n) → Value.int .i64 0 = .int .i64 (placeZ g i n L) ∧ Ext w w18 := fun hn => ⟨by unfold placeZ; rw [if_neg hn], y18⟩
  refine ⟨_, rfl, condB_of (fun hc => bad fun hh => ?_) fun hc => condB_of (fun h1 => bad fun hh => ?_) fun h1 => condB_of (fun h2 => bad fun hh => ?_) fun h2 => ?_⟩
  · unfold checkG at hc; rw [if_pos hh.1] at hc; cases hc
  · simp only [decide_eq_true_eq] at h1; omega
  · simp only [decide_eq_true_eq] at h2; omega
  simp only [decide_eq_false_iff_not] at h1 h2
  have hg : GeoOk g := by
    by_cases hg : GeoOk g
    · exact hg
    · unfold checkG at hc; rw [if_neg hg] at hc; cases hc
  have hok : GeoOk g ∧ 0 ≤ i ∧ i < n := ⟨hg, by omega, by omega⟩
  refine ⟨⟨0, rfl, Nat.zero_le _, rfl, rfl⟩, ?_⟩
  rintro n25 n26 w27 ⟨j, rfl, hj, rfl, rfl⟩
  intros
  refine condB_of (fun hlt => ?_) (fun hge => ?_)
  · simp only [decide_eq_true_eq] at hlt
    obtain ⟨x, hx⟩ : ∃ x, L[j]? = some x := ⟨L[j]'(by omega), List.getElem?_eq_getElem _⟩
    obtain ⟨a, rfl, ca⟩ := (h.ext y18).2 j (.int .i64 x) (by rw [List.getElem?_map, hx]; rfl)
    refine ⟨⟨by omega, hlt⟩, x, by rw [Int.toNat_natCast, Nat.mul_one]; exact ca, ?_⟩
    rw [w64 (n := (j : Int) + 1) (by omega)]
    refine ⟨⟨j + 1, by omega, by omega, rfl, ?_⟩, ?_⟩
    · rw [List.take_add_one, hx, List.foldl_append]; rfl
    · show 4611686018427387905 - ((j : Int) + 1).toNat < 4611686018427387905 - (j : Int).toNat
      omega
  · simp only [decide_eq_false_iff_not] at hge
    rw [List.take_of_length_le (by omega)]
    exact ⟨by unfold placeZ; rw [if_pos hok], y18⟩

theorem ints_new {w w' : World} {k : Nat} {L : List Int} (h : RowW w k (L.map (Value.int .i64)).toArray) (_ : w' = w) : IntsAt w (some (at0 k)) L.length L := ⟨rfl, fun j u hj => ⟨_, rfl, h.row.cell (by simpa using hj)⟩⟩
def slotZ (g : Geo) (i : Int) : Int := if GeoOk g ∧ 0 ≤ i ∧ i < g.slots then 5 + i else 0
def areaZ (g : Geo) (a i : Int) : Int := if GeoOk g ∧ (0 ≤ a ∧ a < 2) ∧ 0 ≤ i ∧ i < 2 then 1 + i + 2 * a else 0
theorem slot_spec (g : Geo) (i : Int) (w : World) : Calls Try.prog 39 #[gV g, .int .i64 i] w fun e w' => e = .returned (.int .i64 (slotZ g i)) ∧ Ext w w' := by
  refine (F39_calls g.k g.m g.size g.stripes g.slots g.objects i w (fun v w' => v = .int .i64 (slotZ g i) ∧ Ext w w') ?_).mono (by rintro e w' ⟨v, rfl, rfl, h⟩; exact ⟨rfl, h⟩)
  intro k8 w9 hk
  have r : RowW w9 k8 _ := ⟨_, hk.at⟩
  refine ⟨_, r.row.cell (n := 0) rfl, _, r.row.cell rfl, _, r.row.cell rfl, _, r.row.cell rfl, _, r.row.cell rfl, _, r.row.cell rfl, _, r.row.cell rfl, fun k17 w18 hk17 => ?_⟩
  refine (place_spec g i g.slots (L := [4]) (ints_new (L := [4]) (w' := w18) ⟨_, hk17.at⟩ rfl) (by simp)).mono ?_
  rintro e w19 ⟨rfl, x19⟩
  refine ⟨_, rfl, ?_, (hk.ext.trans hk17.ext).trans x19⟩
  unfold placeZ slotZ
  by_cases h : GeoOk g ∧ 0 ≤ i ∧ i < g.slots
  · rw [if_pos h, if_pos h]
    have := h.1.2.2.2.1
    show Value.int .i64 (IntKind.i64.wrap (IntKind.i64.wrap (1 + i) + 4)) = _
    rw [w64 (n := 1 + i) (by omega), w64 (by omega)]
    congr 1
    omega
  · rw [if_neg h, if_neg h]
theorem area_spec (g : Geo) (a i : Int) (w : World) : Calls Try.prog 47 #[gV g, .int .i64 a, .int .i64 i] w fun e w' => e = .returned (.int .i64 (areaZ g a i)) ∧ Ext w w' := by
  refine (F47_calls g.k g.m g.size g.stripes g.slots g.objects a i w (fun v w' => v = .int .i64 (areaZ g a i) ∧ Ext w w') ?_).mono (by rintro e w' ⟨v, rfl, rfl, h⟩; exact ⟨rfl, h⟩)
  intro k9 w10 hk
  have r : RowW w10 k9 _ := ⟨_, hk.at⟩
  refine ⟨_, r.row.cell (n := 0) rfl, _, r.row.cell rfl, _, r.row.cell rfl, _, r.row.cell rfl, _, r.row.cell rfl, _, r.row.cell rfl, ?_⟩
  have hnil : IntsAt w10 none 0 [] := ⟨rfl, CellsAt.nil _ _⟩
  refine (place_spec g a 2 (c := 0) hnil (by omega)).mono ?_
  rintro e w17 ⟨rfl, x17⟩
  have r17 : RowW w17 k9 _ := x17.rowW r id
  have y17 := hk.ext.trans x17
  by_cases ha : GeoOk g ∧ 0 ≤ a ∧ a < 2
  · have e1 : placeZ g a 2 [] = 1 + a := by unfold placeZ; rw [if_pos ha]; show IntKind.i64.wrap (1 + a) = _; rw [w64 (by omega)]
    rw [e1]
    refine ⟨_, rfl, condB_of (fun hz => by simp only [decide_eq_true_eq] at hz; omega) fun _ => ⟨_, r17.row.cell (n := 0) rfl, _, r17.row.cell rfl, _, r17.row.cell rfl, _, r17.row.cell rfl, _, r17.row.cell rfl, _, r17.row.cell rfl, fun k26 w27 hk26 => ?_⟩⟩
    rw [w64 (n := a * 2) (by omega)] at hk26
    refine (place_spec g i 2 (L := [a * 2]) (ints_new (L := [a * 2]) (w' := w27) ⟨_, hk26.at⟩ rfl) (by simp)).mono ?_
    rintro e w28 ⟨rfl, x28⟩
    refine ⟨_, rfl, ?_, (y17.trans hk26.ext).trans x28⟩
    unfold placeZ areaZ
    by_cases h : 0 ≤ i ∧ i < 2
    · rw [if_pos ⟨ha.1, h⟩, if_pos ⟨ha.1, ha.2, h⟩]
      show Value.int .i64 (IntKind.i64.wrap (IntKind.i64.wrap (1 + i) + a * 2)) = _
      rw [w64 (n := 1 + i) (by omega), w64 (by omega)]
      congr 1
      omega
    · rw [if_neg (fun hh => h hh.2), if_neg (fun hh => h hh.2.2)]
  · have e1 : placeZ g a 2 [] = 0 := by unfold placeZ; rw [if_neg ha]
    rw [e1]
    refine ⟨_, rfl, condB_of (fun _ => ⟨?_, y17⟩) fun h => by simp at h⟩
    unfold areaZ
    rw [if_neg (fun hh => ha ⟨hh.1, hh.2.1⟩)]

def firstZ : List Int → Int
  | [] => 0
  | x :: l => if x = 0 then firstZ l else x
theorem first_spec {p : Option Addr} {l c : Nat} {L : List Int} {w : World} (h : IntsAt w p l L) (hl : l ≤ 1000) : Calls Try.prog 35 #[.slice p l c] w fun e w' => e = .returned (.int .i64 (firstZ L)) ∧ w' = w := by
  refine (F35_calls p l c w (fun v w' => v = .int .i64 (firstZ L) ∧ w' = w) (fun _ _ _ _ _ n6 w7 => ∃ j : Nat, n6 = j ∧ j ≤ l ∧ w7 = w ∧ firstZ (L.drop j) = firstZ L) (fun _ _ _ _ _ n6 _ => 1001 - n6.toNat) ?_).mono (by rintro e w' ⟨v, rfl, rfl, h⟩; exact ⟨rfl, h⟩)
  have hlen := h.1
  refine ⟨⟨0, rfl, Nat.zero_le _, rfl, rfl⟩, ?_⟩
  rintro n6 w7 ⟨j, rfl, hj, rfl, hd⟩
  intros
  refine condB_of (fun hlt => ?_) (fun hge => ?_)
  · simp only [decide_eq_true_eq] at hlt
    obtain ⟨x, hx⟩ : ∃ x, L[j]? = some x := ⟨L[j]'(by omega), List.getElem?_eq_getElem _⟩
    obtain ⟨a, rfl, ca⟩ := h.2 j (.int .i64 x) (by rw [List.getElem?_map, hx]; rfl)
    have hdx : L.drop j = x :: L.drop (j + 1) := by
      have hjl : j < L.length := by omega
      rw [List.drop_eq_getElem_cons hjl]
      congr 1
      exact (List.getElem?_eq_some_iff.1 hx).2
    rw [hdx, firstZ] at hd
    refine ⟨⟨by omega, hlt⟩, x, by rw [Int.toNat_natCast, Nat.mul_one]; exact ca, condB_of (fun hn => ?_) fun hz => ?_⟩
    · simp only [Bool.not_eq_true', decide_eq_false_iff_not] at hn
      rw [if_neg hn] at hd
      exact ⟨by rw [hd], rfl⟩
    · simp only [Bool.not_eq_false', decide_eq_true_eq] at hz
      rw [if_pos hz] at hd
      rw [w64 (by omega)]
      exact ⟨⟨j + 1, by omega, by omega, rfl, hd⟩, by show 1001 - ((j : Int) + 1).toNat < 1001 - (j : Int).toNat; omega⟩
  · simp only [decide_eq_false_iff_not] at hge
    rw [List.drop_of_length_le (by omega)] at hd
    exact ⟨by rw [← hd]; rfl, rfl⟩
theorem unless_spec (b : Bool) (z : Int) (w : World) : Calls Try.prog 37 #[.bool b, .int .i64 z] w fun e w' => e = .returned (.int .i64 (if b then 0 else z)) ∧ w' = w := by
  refine (F37_calls b z w (fun v w' => v = .int .i64 (if b then 0 else z) ∧ w' = w) ?_).mono (by rintro e w' ⟨v, rfl, rfl, h⟩; exact ⟨rfl, h⟩)
  cases b <;> exact ⟨rfl, rfl⟩
def mcheckZ (p : Option Addr) (g : Geo) : Int := if p.isNone then 1 else checkG g
theorem mcheck_spec (p : Option Addr) (g : Geo) (w : World) : Calls Try.prog 36 #[.pointer p, gV g] w fun e w' => e = .returned (.int .i64 (mcheckZ p g)) ∧ Ext w w' := by
  refine (F36_calls p g.k g.m g.size g.stripes g.slots g.objects w (fun v w' => v = .int .i64 (mcheckZ p g) ∧ Ext w w') ?_).mono (by rintro e w' ⟨v, rfl, rfl, h⟩; exact ⟨rfl, h⟩)
  intro k8 w9 hk w10 d10
  have r : RowW w10 k8 _ := d10.ext.rowW ⟨_, hk.at⟩ id
  have y10 := hk.ext.trans d10.ext
  refine ⟨_, r.row.cell (n := 0) rfl, _, r.row.cell rfl, _, r.row.cell rfl, _, r.row.cell rfl, _, r.row.cell rfl, _, r.row.cell rfl, (unless_spec _ 1 w10).mono ?_⟩
  rintro e w17 ⟨rfl, rfl⟩
  refine ⟨_, rfl, ⟨_, r.row.cell (n := 0) rfl, _, r.row.cell rfl, _, r.row.cell rfl, _, r.row.cell rfl, _, r.row.cell rfl, _, r.row.cell rfl, rfl⟩, (check_spec g _).mono ?_⟩
  rintro e w26 ⟨rfl, x26⟩
  refine ⟨_, rfl, fun k29 w30 hk29 => ?_⟩
  refine (first_spec (L := [_, _]) (ints_new (L := [_, _]) (w' := w30) ⟨_, hk29.at⟩ rfl) (by simp)).mono ?_
  rintro e w31 ⟨rfl, rfl⟩
  refine ⟨_, rfl, ?_, (y10.trans x26).trans hk29.ext⟩
  cases p with
  | none => rfl
  | some a =>
    show Value.int .i64 (firstZ [0, checkG g]) = .int .i64 (checkG g)
    simp [firstZ]
    intro h; rw [h]

def labB : List UInt8 := packM 0 0 [76]
theorem label_spec (w : World) : Calls Try.prog 34 #[] w fun e w' => ∃ k c', e = .returned (.slice (some (at0 k)) 13 c') ∧ Ext w w' ∧ w.heap.size ≤ k ∧ BytesAt w' (some (at0 k)) 13 labB := by
  refine (F34_calls w (fun v w' => ∃ k c', v = .slice (some (at0 k)) 13 c' ∧ Ext w w' ∧ w.heap.size ≤ k ∧ BytesAt w' (some (at0 k)) 13 labB) ?_).mono (by rintro e w' ⟨v, rfl, k, c', rfl, h⟩; exact ⟨k, c', rfl, h⟩)
  intro k1 w2 hk1
  refine (pack_spec 0 0 (BytesAt.one (b := 76) hk1.at) (by omega)).mono ?_
  rintro e w3 ⟨x3, hp⟩
  rw [if_pos ⟨⟨by omega, by omega⟩, ⟨by omega, by omega⟩, by simp⟩] at hp
  obtain ⟨k, c', hk, rfl, hb⟩ := hp
  have hl : (packM 0 0 [76]).length = 13 := packM_len _ _ _
  rw [hl] at hb
  refine ⟨_, _, _, _, rfl, k, c', by rw [hl], hk1.ext.trans x3, Nat.le_trans hk1.ext.size hk, hb⟩
end Go.Proofs.Ytnfcfbljdibinaa

/- Label, Knows. -/
namespace Go.Proofs.Ytnfcfbljdibinaa
open Go Go.Vc

/-- what a write to a disk answers -/
def mansW (s : StA) (d n : Int) (l : Nat) : Int := if s.down then 130 else if 0 ≤ d then match s.M[d.toNat]? with
  | some m => writeZ m.d n l
  | none => 1 else 1
theorem mwrite_spec {w : World} {a : Nat} {s : StA} {F : Nat → Prop} (h : IsA w a s F) (ho : OkA s) (d n : Int) {p : Option Addr} {l c : Nat} {b : List UInt8} (hb : BytesAt w p l b) :
    Calls Try.prog 42 #[.pointer (some (at0 a)), .int .i64 d, .int .i64 n, .slice p l c] w fun e w' => ∃ F', e = .returned (.int .i64 (mansW s d n b.length)) ∧ Step F F' w w' ∧ IsA w' a (writeA s d n b) F' := by
  obtain ⟨M, left, down⟩ := s
  cases down with
  | true =>
    refine (awrite_down h d n p l c).mono ?_
    rintro e w' ⟨rfl, rfl⟩
    exact ⟨F, rfl, Step.refl _ _, by simpa [writeA] using h⟩
  | false =>
    by_cases hr : 0 ≤ d ∧ d < M.length
    · obtain ⟨i, m, rfl, hm⟩ := in_range hr
      refine (awrite_spec h ho.2 hm n hb).mono ?_
      rintro e w' ⟨F', rfl, hs, h'⟩
      refine ⟨F', by simp [mansW, hm], hs, ?_⟩
      have : writeA ⟨M, left, false⟩ (i : Int) n b = ⟨M.set i { m with d := writeD m.d n b }, if writeZ m.d n b.length = 0 ∧ 0 < left then left - 1 else left, decide (writeZ m.d n b.length = 0 ∧ left = 1)⟩ := by
        unfold writeA
        simp [hm]
      rw [this]; exact h'
    · refine (awrite_out h hr n p l c).mono ?_
      rintro e w' ⟨rfl, rfl⟩
      have hn : 0 ≤ d → M[d.toNat]? = none := fun h0 => List.getElem?_eq_none (by omega)
      refine ⟨F, ?_, Step.refl _ _, ?_⟩
      · unfold mansW
        by_cases h0 : 0 ≤ d
        · simp [h0, hn h0]
        · simp [h0]
      · have : writeA ⟨M, left, false⟩ d n b = ⟨M, left, false⟩ := by
          unfold writeA
          by_cases h0 : 0 ≤ d
          · simp [h0, hn h0]
          · simp [h0]
        rw [this]; exact h

def flushA (s : StA) : StA := if s.down then s else { s with M := flushM s.M.length s.M }
theorem mflush_spec {w : World} {a : Nat} {s : StA} {F : Nat → Prop} (h : IsA w a s F) (ho : OkA s) : Calls Try.prog 43 #[.pointer (some (at0 a))] w fun e w' => ∃ F', e = .returned (.int .i64 (if s.down then 130 else 0)) ∧ Step F F' w w' ∧ IsA w' a (flushA s) F' := by
  obtain ⟨M, left, down⟩ := s
  have hM : M.length ≤ 32 := ho.1
  cases down with
  | true =>
    refine (aflush_down (show IsArr w a M left true F from h)).mono ?_
    rintro e w' ⟨rfl, rfl⟩
    exact ⟨F, rfl, Step.refl _ _, by simpa [flushA] using h⟩
  | false =>
    refine (aflush_spec (show IsArr w a M left false F from h) (by omega)).mono ?_
    rintro e w' ⟨F', rfl, hs, h'⟩
    exact ⟨F', rfl, hs, h'⟩

/-- the labels of the first i -/
def labS (L : List Int) (s : StA) : Nat → StA × Bool
  | 0 => (s, false)
  | i + 1 => if (labS L s i).2 then labS L s i else (writeA (labS L s i).1 (L.getD i 0) 0 labB, decide (mansW (labS L s i).1 (L.getD i 0) 0 13 = 130))
theorem labS_ok {L : List Int} {s : StA} (h : OkA s) : ∀ i, OkA (labS L s i).1 ∧ (labS L s i).1.M.length = s.M.length
  | 0 => ⟨h, rfl⟩
  | i + 1 => by
    have ih := labS_ok (L := L) h i
    simp only [labS]
    split
    · exact ih
    · exact ⟨ih.1.write _ _ _, by rw [putA_len]; exact ih.2⟩
theorem labS_stuck {L : List Int} {s : StA} {i : Nat} (h : (labS L s i).2 = true) : ∀ j, labS L s (i + j) = labS L s i
  | 0 => rfl
  | j + 1 => by
    have ih := labS_stuck h j
    rw [← Nat.add_assoc]
    simp only [labS]
    rw [ih, if_pos h]
/-- a label of all: the state, the error -/
def labelM (L : List Int) (s : StA) : StA × Int := if (labS L s L.length).2 then ((labS L s L.length).1, 130) else (flushA (labS L s L.length).1, if (labS L s L.length).1.down then 130 else 0)

set_option maxHeartbeats 1000000 in
theorem mlabel_spec {w : World} {a : Nat} {s : StA} {F : Nat → Prop} (h : IsA w a s F) (ho : OkA s) {p : Option Addr} {l c : Nat} {L : List Int} (hL : ∀ F' w', Step F F' w w' → IntsAt w' p l L) (hl : l ≤ 1000000) :
    Calls Try.prog 12 #[.pointer (some (at0 a)), .slice p l c] w fun e w' => ∃ F', e = .returned (.int .i64 (labelM L s).2) ∧ Step F F' w w' ∧ IsA w' a (labelM L s).1 F' := by
  refine (F12_calls (some (at0 a)) p l c w (fun v w' => ∃ F', v = .int .i64 (labelM L s).2 ∧ Step F F' w w' ∧ IsA w' a (labelM L s).1 F')
    (fun _ _ _ _ _ n7 w8 => ∃ (i : Nat) (F' : Nat → Prop), n7 = i ∧ i ≤ l ∧ (labS L s i).2 = false ∧ Step F F' w w8 ∧ IsA w8 a (labS L s i).1 F') (fun _ _ _ _ _ n7 _ => 2000000 - n7.toNat) ?_).mono (by rintro e w' ⟨v, rfl, F', rfl, h⟩; exact ⟨F', rfl, h⟩)
  have hlen := (hL F w (Step.refl _ _)).1
  refine ⟨⟨0, F, rfl, Nat.zero_le _, rfl, Step.refl _ _, h⟩, ?_⟩
  rintro n7 w8 ⟨i, F', rfl, hi, hgo, hst, hA⟩
  intros
  have hok := labS_ok (L := L) ho i
  refine condB_of (fun hlt => ?_) (fun hge => ?_)
  · simp only [decide_eq_true_eq] at hlt
    obtain ⟨x, hxx⟩ : ∃ x, L[i]? = some x := ⟨L[i]'(by omega), List.getElem?_eq_getElem _⟩
    obtain ⟨ap, rfl, ca⟩ := (hL _ _ hst).2 i (.int .i64 x) (by rw [List.getElem?_map, hxx]; rfl)
    have hgd : L.getD i 0 = x := by rw [List.getD_eq_getElem?_getD, hxx]; rfl
    refine ⟨⟨by omega, hlt⟩, x, by rw [Int.toNat_natCast, Nat.mul_one]; exact ca, (label_spec w8).mono ?_⟩
    rintro e w22 ⟨k, c', rfl, x22, hk, hb⟩
    refine ⟨_, _, _, rfl, (mwrite_spec ((hA : IsArr w8 a _ _ _ F').ext x22) hok.1 x 0 hb).mono ?_⟩
    rintro e w25 ⟨F'', rfl, hst25, hA25⟩
    have hl13 : labB.length = 13 := packM_len _ _ _
    rw [hl13]
    have e1 : labS L s (i + 1) = (writeA (labS L s i).1 x 0 labB, decide (mansW (labS L s i).1 x 0 13 = 130)) := by
      simp only [labS, hgo, hgd]; rfl
    have hT : Step F F'' w w25 := (hst.trans (Step.ext x22)).trans hst25
    refine ⟨_, rfl, condB_of (fun h130 => ?_) (fun h130 => ?_)⟩
    · have hc : (labS L s (i + 1)).2 = true := by rw [e1]; exact h130
      have hall := labS_stuck hc (L.length - (i + 1))
      rw [show i + 1 + (L.length - (i + 1)) = L.length by omega] at hall
      have e2 : labelM L s = ((labS L s (i + 1)).1, 130) := by unfold labelM; rw [hall, if_pos hc]
      rw [e2]
      refine ⟨F'', rfl, hT, ?_⟩
      rw [e1]; exact hA25
    · rw [w64 (by omega)]
      refine ⟨⟨i + 1, F'', by omega, by omega, by rw [e1]; exact h130, hT, by rw [e1]; exact hA25⟩, by show 2000000 - ((i : Int) + 1).toNat < 2000000 - (i : Int).toNat; omega⟩
  · simp only [decide_eq_false_iff_not] at hge
    have hil : i = L.length := by omega
    subst hil
    refine (mflush_spec hA hok.1).mono ?_
    rintro e w28 ⟨F'', rfl, hst28, hA28⟩
    have e2 : labelM L s = (flushA (labS L s L.length).1, if (labS L s L.length).1.down then 130 else 0) := by unfold labelM; rw [if_neg (by rw [hgo]; simp)]
    rw [e2]
    exact ⟨_, rfl, F'', rfl, hst.trans hst28, hA28⟩

/-- which disks know -/
def knowB (m : Mem) : Bool := decide (faultZ m.d.dead m.d.sectors 0 = 0) && decide (readD m.d 0 = labB)
theorem elemBo : ElemOf Try.prog 28 4 1 1 := ⟨by kernel_rfl, ⟨Try.t4, .bool false, by kernel_rfl, by kernel_rfl, by kernel_rfl, by kernel_rfl, by kernel_rfl⟩, by decide⟩
end Go.Proofs.Ytnfcfbljdibinaa

/- Knows. -/
namespace Go.Proofs.Ytnfcfbljdibinaa
open Go Go.Vc

theorem mequal_spec {p1 p2 : Option Addr} {l1 c1 l2 c2 : Nat} {w : World} {xs ys : List UInt8} (h1 : BytesAt w p1 l1 xs) (h2 : BytesAt w p2 l2 ys) : Calls Try.prog 33 #[.slice p1 l1 c1, .slice p2 l2 c2] w fun e w' => e = .returned (.bool (decide (xs = ys))) ∧ w' = w := by
  refine (F33_calls p1 l1 c1 p2 l2 c2 w (fun v w' => v = .bool (decide (xs = ys)) ∧ w' = w) ?_).mono (by rintro e w' ⟨v, rfl, rfl, h⟩; exact ⟨rfl, h⟩)
  refine ⟨_, toStr h1, _, toStr h2, ?_, rfl⟩
  congr 1
  rw [decide_eq_decide]
  exact ⟨bstr_inj, fun h => by rw [h]⟩
theorem mfault_130 {dead : Bool} {sectors n : Int} : faultZ dead sectors n ≠ 130 := by
  unfold faultZ
  split
  · omega
  · split <;> omega
theorem bool_app {w0 w : World} (hx : Ext w0 w) {p : Option Addr} {n c : Nat} {xs : List Bool} (h : OwnS w w0.heap.size 4 1 p n c (xs.map Value.bool)) {k : Nat} {w1 : World} {b : Bool} (hk : NewB w k (.cells #[.bool b] 4) w1) (hn : n ≤ 1000) :
    ∃ (p' : Option Addr) (l' c' : Nat), ∃ w', Sem.run Try.prog (Builtin.append_ #[28, 28] 28 #[.slice p n c, .slice (some (at0 k)) 1 1]) w1 = .ok (.slice p' l' c') w' ∧ OwnS w' w0.heap.size 4 1 p' l' c' ((xs ++ [b]).map Value.bool) ∧ l' = n + 1 ∧ Ext w0 w' := by
  have r : RowW w1 k #[.bool b] := ⟨_, hk.at⟩
  have hc : CellsAt w1 (some (at0 k)) [.bool b] := fun j u hj => ⟨_, rfl, r.row.cell (by simpa using hj)⟩
  have hz := (hx.trans hk.ext).size
  obtain ⟨p', c', w', hr, ho, hu, _⟩ := (h.ext hk.ext).append elemBo 28 (q := some (at0 k)) (m := 1) (d := 1) (news := [.bool b]) rfl hc (fun h => by cases h) (by simp [Value.oneCell']) (by unfold maxLen; omega) (by omega) hz
  refine ⟨p', _, c', w', hr, ?_, rfl, ext_own (hx.trans hk.ext) (h.ext hk.ext) hu⟩
  rw [List.map_append]; exact ho

set_option maxHeartbeats 1000000 in
theorem mknows_spec {w : World} {a : Nat} {s : StA} {F : Nat → Prop} (h : IsA w a s F) (ho : OkA s) (h1 : 1 ≤ s.M.length) : Calls Try.prog 9 #[.pointer (some (at0 a))] w fun e w' => Ext w w' ∧ (s.down = true → e = .returned (.tuple #[.slice none 0 0, .int .i64 130])) ∧
    (s.down = false → ∃ p c, e = .returned (.tuple #[.slice p s.M.length c, .int .i64 0]) ∧ OwnS w' w.heap.size 4 1 p s.M.length c ((s.M.map knowB).map Value.bool)) := by
  refine (F9_calls (some (at0 a)) w (fun v w' => Ext w w' ∧ (s.down = true → v = .tuple #[.slice none 0 0, .int .i64 130]) ∧
    (s.down = false → ∃ p c, v = .tuple #[.slice p s.M.length c, .int .i64 0] ∧ OwnS w' w.heap.size 4 1 p s.M.length c ((s.M.map knowB).map Value.bool)))
    (fun _ _ p6 l6 c6 n7 w8 => ∃ i : Nat, n7 = i ∧ i ≤ s.M.length ∧ l6 = i ∧ Ext w w8 ∧ (i = 0 ∨ s.down = false) ∧ OwnS w8 w.heap.size 4 1 p6 l6 c6 (((s.M.take i).map knowB).map Value.bool)) (fun _ _ _ _ _ n7 _ => 100 - n7.toNat) ?_).mono (by
    rintro e w' ⟨v, rfl, hx, h2, h3⟩
    exact ⟨hx, fun hd => by rw [h2 hd], fun hd => by obtain ⟨p, c, rfl, h⟩ := h3 hd; exact ⟨p, c, rfl, h⟩⟩)
  have hM : s.M.length ≤ 32 := ho.1
  refine condB_of (fun h => by cases h) fun _ => (live_spec h (by omega)).mono ?_
  rintro e w2 ⟨p4, l4, c4, rfl, x2, rfl, _⟩
  refine ⟨_, _, _, rfl, ⟨0, rfl, Nat.zero_le _, rfl, x2, .inl rfl, OwnS.nil _ _ _ _⟩, ?_⟩
  rintro p6 l6 c6 n7 w8 ⟨i, rfl, hi, rfl, x8, hd0, own8⟩
  intros
  refine condB_of (fun hlt => ?_) (fun hge => ?_)
  · simp only [decide_eq_true_eq] at hlt
    obtain ⟨m, hm⟩ : ∃ m, s.M[l6]? = some m := ⟨s.M[l6]'(by omega), List.getElem?_eq_getElem _⟩
    have tk : s.M.take (l6 + 1) = s.M.take l6 ++ [m] := by rw [List.take_add_one, hm]; rfl
    have mu : 100 - (((l6 : Int)) + 1).toNat < 100 - ((l6 : Int)).toNat := by omega
    have h8 := (h : IsArr w a _ _ _ F).ext x8
    obtain ⟨M, left, down⟩ := s
    cases down with
    | true =>
      refine (aread_down h8 (l6 : Int) 0).mono ?_
      rintro e w36 ⟨rfl, rfl⟩
      exact ⟨_, _, _, _, rfl, condB_of (fun _ => ⟨x8, fun _ => rfl, fun h => by cases h⟩) fun h => by simp at h⟩
    | false =>
      refine (aread_spec h8 hm 0).mono ?_
      rintro e w36 ⟨x36, p38, l38, c38, bs, rfl, hbs, hl38, own38, _⟩
      have y36 := x8.trans x36
      refine ⟨_, _, _, _, rfl, condB_of (fun h0 => ?_) fun _ => condB_of (fun hz => ?_) fun hnz => fun k50 w51 hk50 => ?_⟩
      · simp only [decide_eq_true_eq] at h0
        exact absurd h0 mfault_130
      · simp only [decide_eq_true_eq] at hz
        rw [if_pos hz] at hbs
        refine (label_spec w36).mono ?_
        rintro e w40 ⟨k42, c42, rfl, x40, _, hb42⟩
        refine ⟨_, _, _, rfl, (mequal_spec ((mown_bytes own38).ext x40) hb42).mono ?_⟩
        rintro e w43 ⟨rfl, rfl⟩
        refine ⟨_, rfl, fun k46 w47 hk46 => ?_⟩
        obtain ⟨p49, l49, c49, w48, hr, own49, hl49, x48⟩ := bool_app (y36.trans x40) ((own8.ext x36).ext x40) hk46 (by omega)
        rw [w64 (by omega)]
        refine ⟨_, _, _, _, hr, ⟨l6 + 1, by omega, by omega, by omega, x48, .inr rfl, ?_⟩, mu⟩
        have : (((M.take (l6 + 1)).map knowB)) = ((M.take l6).map knowB) ++ [decide (bs = labB)] := by
          rw [show M.take (l6 + 1) = M.take l6 ++ [m] from tk, List.map_append]
          simp [knowB, hz, hbs]
        rw [this]; exact own49
      · simp only [decide_eq_false_iff_not] at hnz
        obtain ⟨p49, l49, c49, w48, hr, own49, hl49, x48⟩ := bool_app y36 (own8.ext x36) hk50 (by omega)
        rw [w64 (by omega)]
        refine ⟨_, _, _, _, hr, ⟨l6 + 1, by omega, by omega, by omega, x48, .inr rfl, ?_⟩, mu⟩
        have : (((M.take (l6 + 1)).map knowB)) = ((M.take l6).map knowB) ++ [false] := by
          rw [show M.take (l6 + 1) = M.take l6 ++ [m] from tk, List.map_append]
          simp [knowB, hnz]
        rw [this]; exact own49
  · simp only [decide_eq_false_iff_not] at hge
    have hil : l6 = s.M.length := by omega
    subst hil
    rw [List.take_length] at own8
    refine ⟨x8, fun hd => ?_, fun _ => ⟨p6, c6, rfl, own8⟩⟩
    rcases hd0 with h0 | h0
    · omega
    · rw [h0] at hd; cases hd
theorem mknows_nil (w : World) : Calls Try.prog 9 #[.pointer none] w fun e w' => e = .returned (.tuple #[.slice none 0 0, .int .i64 1]) ∧ w' = w := by
  refine (F9_calls none w (fun v w' => v = .tuple #[.slice none 0 0, .int .i64 1] ∧ w' = w) (fun _ _ _ _ _ _ _ => False) (fun _ _ _ _ _ _ _ => 0) ?_).mono (by rintro e w' ⟨v, rfl, rfl, h⟩; exact ⟨rfl, h⟩)
  exact condB_of (fun _ => ⟨rfl, rfl⟩) fun h => by cases h
end Go.Proofs.Ytnfcfbljdibinaa

/- Append. -/
namespace Go.Proofs.Ytnfcfbljdibinaa
open Go Go.Vc

def okZ (base count : Int) : Int := if 0 ≤ base ∧ 0 ≤ count ∧ base ≤ 2147483547 then 0 else 1
def preE (p : Option Addr) (g : Geo) (base count z : Int) : Int := firstZ [mcheckZ p g, okZ base count, z]
def preZ (p : Option Addr) (g : Geo) (base count z : Int) : Int := if preE p g base count z = 0 then (if count < g.slots then 0 else 180) else preE p g base count z
def gRow (g : Geo) : Array Value := #[.int .i64 g.k, .int .i64 g.m, .int .i64 g.size, .int .i64 g.stripes, .int .i64 g.slots, .int .i64 g.objects]

theorem app_A1 {p : Option Addr} {g : Geo} {base count z : Int} {w w35 : World} {k14 : Nat} {p24 : Option Addr} {l24 c24 : Nat} {R : Value → World → Prop} (hx : Ext w w35) (hr : RowW w35 k14 (gRow g))
    (hbad : ∀ w', Ext w w' → preZ p g base count z ≠ 0 → R (.int .i64 (preZ p g base count z)) w')
    (hgood : ∀ w', Ext w w' → Ext w35 w' → RowW w' k14 (gRow g) → preZ p g base count z = 0 → F13_A2 0 w' k14 count p base p24 l24 c24 R) :
    F13_A1 (.returned (.int .i64 (okZ base count))) w35 (mcheckZ p g) z k14 count p base p24 l24 c24 R := by
  refine ⟨_, rfl, fun k38 w39 hk38 => ?_⟩
  refine (first_spec (L := [_, _, _]) (ints_new (L := [_, _, _]) (w' := w39) ⟨_, hk38.at⟩ rfl) (by simp)).mono ?_
  rintro e w40 ⟨rfl, rfl⟩
  have x39 := hx.trans hk38.ext
  have r39 : RowW w40 k14 (gRow g) := hk38.ext.rowW hr id
  have ee : firstZ [mcheckZ p g, okZ base count, z] = preE p g base count z := rfl
  rw [ee]
  refine ⟨_, rfl, condB_of (fun h0 => ⟨_, r39.row.cell rfl, (unless_spec _ 180 w40).mono ?_⟩) fun hn => ?_⟩
  · simp only [decide_eq_true_eq] at h0
    rintro e w44 ⟨rfl, rfl⟩
    refine ⟨_, rfl, ?_⟩
    by_cases hc : count < g.slots
    · have e1 : (if decide (count < g.slots) = true then (0 : Int) else 180) = 0 := by simp [hc]
      rw [e1]
      exact hgood _ x39 hk38.ext r39 (by unfold preZ; rw [if_pos h0, if_pos hc])
    · have e1 : (if decide (count < g.slots) = true then (0 : Int) else 180) = preZ p g base count z := by unfold preZ; rw [if_pos h0]; simp [hc]
      have e2 : preZ p g base count z = 180 := by unfold preZ; rw [if_pos h0, if_neg hc]
      rw [e1]
      exact condB_of (fun _ => hbad _ x39 (by rw [e2]; omega)) fun h => by rw [e2] at h; simp at h
  · simp only [decide_eq_false_iff_not] at hn
    have e1 : preE p g base count z = preZ p g base count z := by unfold preZ; rw [if_neg hn]
    rw [e1] at hn ⊢
    exact condB_of (fun _ => hbad _ x39 hn) fun h => by simp [hn] at h

theorem app_pre (p : Option Addr) (g : Geo) (base count kind : Int) (key : ByteArray) (len : Int) {p13 : Option Addr} {l13 c13 : Nat} {st : List Int} {w : World} (hst : IntsAt w p13 l13 st) (hl : l13 ≤ 9223372036854775807) {R : Value → World → Prop}
    (hbad : ∀ w', Ext w w' → preZ p g base count (recZ kind key len st) ≠ 0 → R (.int .i64 (preZ p g base count (recZ kind key len st))) w')
    (hgood : ∀ w' k14 p24 l24 c24, Ext w w' → RowW w' k14 (gRow g) → RecOk kind key len st → BytesAt w' p24 l24 (recB kind key len st) → preZ p g base count (recZ kind key len st) = 0 → F13_A2 0 w' k14 count p base p24 l24 c24 R) :
    F13 p g.k g.m g.size g.stripes g.slots g.objects base count kind key len p13 l13 c13 w R := by
  intro k14 w15 hk14 k16 w17 hk16
  have r16 : RowW w17 k16 _ := ⟨_, hk16.at⟩
  have r14 : RowW w17 k14 (gRow g) := hk16.ext.rowW ⟨_, hk14.at⟩ id
  have x17 := hk14.ext.trans hk16.ext
  refine ⟨_, r16.row.cell (n := 0) rfl, _, r16.row.cell rfl, _, r16.row.cell rfl, _, _, _, r16.row.cell rfl, (encode_spec (hst.ext x17) hl).mono ?_⟩
  rintro e w22 ⟨x22, hh⟩
  obtain ⟨p24, l24, c24, rfl, hb⟩ : ∃ (p24 : Option Addr) (l24 c24 : Nat), e = .returned (.tuple #[.slice p24 l24 c24, .int .i64 (recZ kind key len st)]) ∧ (recZ kind key len st = 0 → RecOk kind key len st ∧ BytesAt w22 p24 l24 (recB kind key len st)) := by
    by_cases hk : RecOk kind key len st
    · have e0 : recZ kind key len st = 0 := by unfold recZ; rw [if_pos hk]
      rw [if_pos hk] at hh
      obtain ⟨p', l', c', rfl, own⟩ := hh
      exact ⟨p', l', c', by rw [e0], fun _ => ⟨hk, mown_bytes own⟩⟩
    · have e0 : recZ kind key len st = 1 := by unfold recZ; rw [if_neg hk]
      rw [if_neg hk] at hh
      exact ⟨none, 0, 0, by rw [e0]; exact hh, fun h => by rw [e0] at h; cases h⟩
  have y22 := x17.trans x22
  have q14 : RowW w22 k14 (gRow g) := x22.rowW r14 id
  refine ⟨_, _, _, _, rfl, _, q14.row.cell (n := 0) rfl, _, q14.row.cell rfl, _, q14.row.cell rfl, _, q14.row.cell rfl, _, q14.row.cell rfl, _, q14.row.cell rfl, (mcheck_spec p g w22).mono ?_⟩
  rintro e w32 ⟨rfl, x32⟩
  have y32 := y22.trans x32
  have q32 : RowW w32 k14 (gRow g) := x32.rowW q14 id
  have fin : ∀ (b : Bool), (if b = true then (0 : Int) else 1) = okZ base count → Calls Try.prog 37 #[.bool b, .int .i64 1] w32 fun e36 w35 => F13_A1 e36 w35 (mcheckZ p g) (recZ kind key len st) k14 count p base p24 l24 c24 R := fun b hb2 => by
    refine (unless_spec b 1 w32).mono ?_
    rintro e w35 ⟨rfl, rfl⟩
    rw [hb2]
    refine app_A1 y32 q32 hbad fun w' hx hx2 hr hz => ?_
    have hrz : recZ kind key len st = 0 := by
      by_cases h0 : recZ kind key len st = 0
      · exact h0
      · exfalso
        unfold preZ at hz
        split at hz
        · rename_i h1
          unfold preE firstZ at h1
          split at h1
          · unfold firstZ at h1
            split at h1
            · unfold firstZ at h1
              split at h1
              · contradiction
              · contradiction
            · contradiction
          · contradiction
        · contradiction
    exact hgood w' k14 p24 l24 c24 hx hr (hb hrz).1 ((hb hrz).2.ext (x32.trans hx2)) hz
  refine ⟨_, rfl, condB_of (fun h0 => condB_of (fun h1 => fin _ ?_) fun h1 => fin _ ?_) fun h0 => fin _ ?_⟩
  · simp only [decide_eq_true_eq] at h0 h1
    unfold okZ
    by_cases h2 : base ≤ 2147483547
    · simp [h0, h1, h2]
    · simp [h2]
  · simp only [decide_eq_false_iff_not] at h1
    unfold okZ
    simp [h1]
  · simp only [decide_eq_false_iff_not] at h0
    unfold okZ
    simp [h0]

/-- an append: the state, the error -/
def appM (g : Geo) (base count kind : Int) (key : ByteArray) (len : Int) (st : List Int) (s : StA) : StA × Int :=
  if preZ (some (at0 0)) g base count (recZ kind key len st) = 0 then
    (if (putM (fun _ => true) (slotZ g count) (base + count + 1) (recB kind key len st) s).2.2 = 0 then
      (flushA (putM (fun _ => true) (slotZ g count) (base + count + 1) (recB kind key len st) s).1, firstZ [if (putM (fun _ => true) (slotZ g count) (base + count + 1) (recB kind key len st) s).1.down then 130 else 0, if 0 < (putM (fun _ => true) (slotZ g count) (base + count + 1) (recB kind key len st) s).2.1 then 0 else 150])
    else ((putM (fun _ => true) (slotZ g count) (base + count + 1) (recB kind key len st) s).1, (putM (fun _ => true) (slotZ g count) (base + count + 1) (recB kind key len st) s).2.2))
  else (s, preZ (some (at0 0)) g base count (recZ kind key len st))
theorem pre_some (a : Addr) (g : Geo) (base count z : Int) : preZ (some a) g base count z = preZ (some (at0 0)) g base count z := rfl
theorem mputM_ok {to : Nat → Bool} {addr epoch : Int} {d : List UInt8} {s : StA} (h : OkA s) : OkA (putM to addr epoch d s).1 ∧ (putM to addr epoch d s).1.M.length = s.M.length := by
  have := putS_ok (to := to) (n := addr) (b := packM addr epoch d) h s.M.length
  unfold putM
  split
  · split <;> exact ⟨this.1, this.2.1⟩
  · exact ⟨h, rfl⟩

set_option maxHeartbeats 1000000 in
theorem mappend_spec {w : World} {a : Nat} {s : StA} {F : Nat → Prop} (h : IsA w a s F) (ho : OkA s) (g : Geo) (base count kind : Int) (key : ByteArray) (len : Int) {p13 : Option Addr} {l13 c13 : Nat} {st : List Int} (hst : IntsAt w p13 l13 st) (hl : l13 ≤ 9223372036854775807) :
    Calls Try.prog 13 #[.pointer (some (at0 a)), gV g, .int .i64 base, .int .i64 count, .agg #[.int .i64 kind, .string key, .int .i64 len, .slice p13 l13 c13]] w fun e w' => ∃ F', e = .returned (.int .i64 (appM g base count kind key len st s).2) ∧ Step F F' w w' ∧ IsA w' a (appM g base count kind key len st s).1 F' := by
  refine (F13_calls (some (at0 a)) g.k g.m g.size g.stripes g.slots g.objects base count kind key len p13 l13 c13 w (fun v w' => ∃ F', v = .int .i64 (appM g base count kind key len st s).2 ∧ Step F F' w w' ∧ IsA w' a (appM g base count kind key len st s).1 F') ?_).mono (by rintro e w' ⟨v, rfl, F', rfl, h⟩; exact ⟨F', rfl, h⟩)
  refine app_pre (some (at0 a)) g base count kind key len hst hl (fun w' hx hz => ?_) fun w' k14 p24 l24 c24 hx hr hok hb hz => ?_
  · rw [pre_some] at hz ⊢
    have e1 : appM g base count kind key len st s = (s, preZ (some (at0 0)) g base count (recZ kind key len st)) := by unfold appM; rw [if_neg hz]
    rw [e1]
    exact ⟨F, rfl, Step.ext hx, (h : IsArr w a _ _ _ F).ext hx⟩
  · rw [pre_some] at hz
    have hcs : (0 ≤ base ∧ base ≤ 2147483547) ∧ 0 ≤ count ∧ count < 64 := by
      have hz' := hz
      unfold preZ at hz'
      split at hz'
      · rename_i h1
        split at hz'
        · rename_i h2
          unfold preE firstZ at h1
          split at h1
          · rename_i hm
            unfold firstZ at h1
            split at h1
            · rename_i hk
              unfold okZ at hk
              split at hk
              · rename_i hh
                have hg : GeoOk g := by
                  unfold mcheckZ checkG at hm
                  by_cases hg : GeoOk g
                  · exact hg
                  · simp [hg] at hm
                have := hg.2.2.2.1
                omega
              · cases hk
            · contradiction
          · contradiction
        · cases hz'
      · contradiction
    have hw : IntKind.i64.wrap ((IntKind.i64.wrap (base + count)) + (1 : Int)) = base + count + 1 := by rw [w64 (n := base + count) (by omega), w64 (by omega)]
    refine condB_of (fun h => by simp at h) fun _ => ⟨_, hr.row.cell (n := 0) rfl, _, hr.row.cell rfl, _, hr.row.cell rfl, _, hr.row.cell rfl, _, hr.row.cell rfl, _, hr.row.cell rfl, (slot_spec g count w').mono ?_⟩
    rintro e w53 ⟨rfl, x53⟩
    rw [hw]
    have hA53 : IsA w53 a s F := (h : IsArr w a _ _ _ F).ext (hx.trans x53)
    have hbl := hb.1
    have hrl := recB_length kind key len st
    have := hok.1.2.1
    have := hok.1.2.2.2
    refine ⟨_, rfl, (vwrite_spec hA53 ho (slotZ g count) (base + count + 1) (hb.ext x53) (by omega)).mono ?_⟩
    rintro e w56 ⟨F', rfl, hst56, hA56⟩
    have hok56 := (mputM_ok (to := fun _ => true) (addr := slotZ g count) (epoch := base + count + 1) (d := recB kind key len st) ho).1
    have hT := (Step.ext (hx.trans x53)).trans hst56
    refine ⟨_, _, rfl, condB_of (fun hz2 => ?_) fun hz2 => ?_⟩
    · have hz3 : ¬ (putM (fun _ => true) (slotZ g count) (base + count + 1) (recB kind key len st) s).2.2 = 0 := by simpa using hz2
      have e1 : appM g base count kind key len st s = ((putM (fun _ => true) (slotZ g count) (base + count + 1) (recB kind key len st) s).1, (putM (fun _ => true) (slotZ g count) (base + count + 1) (recB kind key len st) s).2.2) := by unfold appM; rw [if_pos hz, if_neg hz3]
      rw [e1]
      exact ⟨F', rfl, hT, hA56⟩
    · have hz3 : (putM (fun _ => true) (slotZ g count) (base + count + 1) (recB kind key len st) s).2.2 = 0 := by simpa using hz2
      refine (mflush_spec hA56 hok56).mono ?_
      rintro e w60 ⟨F'', rfl, hst60, hA60⟩
      refine ⟨_, rfl, (unless_spec _ 150 w60).mono ?_⟩
      rintro e w63 ⟨rfl, rfl⟩
      refine ⟨_, rfl, fun k66 w67 hk66 => ?_⟩
      refine (first_spec (L := [_, _]) (ints_new (L := [_, _]) (w' := w67) ⟨_, hk66.at⟩ rfl) (by simp)).mono ?_
      rintro e w68 ⟨rfl, rfl⟩
      refine ⟨_, rfl, F'', ?_, (hT.trans hst60).trans (Step.ext hk66.ext), ?_⟩
      · unfold appM
        rw [if_pos hz, if_pos hz3]
        simp
      · unfold appM
        rw [if_pos hz, if_pos hz3]
        exact (hA60 : IsArr _ a _ _ _ F'').ext hk66.ext
theorem mappend_nil {w : World} (g : Geo) (base count kind : Int) (key : ByteArray) (len : Int) {p13 : Option Addr} {l13 c13 : Nat} {st : List Int} (hst : IntsAt w p13 l13 st) (hl : l13 ≤ 9223372036854775807) :
    Calls Try.prog 13 #[.pointer none, gV g, .int .i64 base, .int .i64 count, .agg #[.int .i64 kind, .string key, .int .i64 len, .slice p13 l13 c13]] w fun e w' => e = .returned (.int .i64 1) ∧ Ext w w' := by
  refine (F13_calls none g.k g.m g.size g.stripes g.slots g.objects base count kind key len p13 l13 c13 w (fun v w' => v = .int .i64 1 ∧ Ext w w') ?_).mono (by rintro e w' ⟨v, rfl, rfl, h⟩; exact ⟨rfl, h⟩)
  have e1 : preZ none g base count (recZ kind key len st) = 1 := rfl
  refine app_pre none g base count kind key len hst hl (fun w' hx hz => ?_) fun w' k14 p24 l24 c24 hx hr hok hb hz => ?_
  · rw [e1]; exact ⟨rfl, hx⟩
  · rw [e1] at hz; cases hz
end Go.Proofs.Ytnfcfbljdibinaa

/- Save. -/
namespace Go.Proofs.Ytnfcfbljdibinaa
open Go Go.Vc

def svZ (area epoch : Int) : Int := if 0 ≤ area ∧ area ≤ 1 ∧ 0 ≤ epoch ∧ epoch ≤ 2147483547 then 0 else 1
def preS (p : Option Addr) (g : Geo) (area epoch z : Int) : Int := firstZ [mcheckZ p g, svZ area epoch, z]
open Classical in
noncomputable def mayZ (L : List ObV) : Int := if MayOk L then 0 else 1
theorem mayZ_ok {L : List ObV} (h : MayOk L) : mayZ L = 0 := by unfold mayZ; simp [h]
theorem mayZ_no {L : List ObV} (h : ¬ MayOk L) : mayZ L = 1 := by unfold mayZ; simp [h]

/-- the first i parts are written: the state, whether all took one, the error -/
def savS (g : Geo) (area epoch : Int) (P : List (List UInt8)) (s : StA) : Nat → StA × Bool × Int
  | 0 => (s, true, 0)
  | i + 1 => if (savS g area epoch P s i).2.2 = 0 then
      ((putM (fun _ => true) (areaZ g area i) epoch (P.getD i []) (savS g area epoch P s i).1).1, (savS g area epoch P s i).2.1 && decide (0 < (putM (fun _ => true) (areaZ g area i) epoch (P.getD i []) (savS g area epoch P s i).1).2.1),
        (putM (fun _ => true) (areaZ g area i) epoch (P.getD i []) (savS g area epoch P s i).1).2.2)
    else savS g area epoch P s i
theorem savS_ok {g : Geo} {area epoch : Int} {P : List (List UInt8)} {s : StA} (h : OkA s) : ∀ i, OkA (savS g area epoch P s i).1 ∧ (savS g area epoch P s i).1.M.length = s.M.length
  | 0 => ⟨h, rfl⟩
  | i + 1 => by
    have ih := savS_ok (g := g) (area := area) (epoch := epoch) (P := P) h i
    simp only [savS]
    split
    · have := mputM_ok (to := fun _ => true) (addr := areaZ g area i) (epoch := epoch) (d := P.getD i []) ih.1
      exact ⟨this.1, this.2.trans ih.2⟩
    · exact ih
theorem savS_stuck {g : Geo} {area epoch : Int} {P : List (List UInt8)} {s : StA} {i : Nat} (h : ¬ (savS g area epoch P s i).2.2 = 0) : ∀ j, savS g area epoch P s (i + j) = savS g area epoch P s i
  | 0 => rfl
  | j + 1 => by
    have ih := savS_stuck h j
    rw [← Nat.add_assoc]
    simp only [savS]
    rw [ih, if_neg h]
def saveM (g : Geo) (area epoch : Int) (P : List (List UInt8)) (s : StA) : StA × Int :=
  if (savS g area epoch P s 2).2.2 = 0 then (flushA (savS g area epoch P s 2).1, firstZ [if (savS g area epoch P s 2).1.down then 130 else 0, if (savS g area epoch P s 2).2.1 then 0 else 150])
  else ((savS g area epoch P s 2).1, (savS g area epoch P s 2).2.2)
/-- a save: the state, the error -/
noncomputable def svM (g : Geo) (area epoch : Int) (L : List ObV) (s : StA) : StA × Int :=
  if preS (some (at0 0)) g area epoch (mayZ L) = 0 then saveM g area epoch [part (snapB L) 0, part (snapB L) 1] s else (s, preS (some (at0 0)) g area epoch (mayZ L))
theorem preS_some (a : Addr) (g : Geo) (area epoch z : Int) : preS (some a) g area epoch z = preS (some (at0 0)) g area epoch z := rfl
theorem part_le (B : List UInt8) (i : Nat) : (part B i).length ≤ 4096 := by unfold part; simp; omega

def svRow (area epoch : Int) (p : Option Addr) (l c : Nat) : Array Value := #[.int .i64 area, .int .i64 epoch, .slice p l c]

/-- parts that lie in certain blocks -/
def PartsQ (w : World) (B : Nat → Prop) (p : Option Addr) (n : Nat) (P : List (List UInt8)) : Prop := n = P.length ∧ ∀ i bs, P[i]? = some bs → ∃ a q m d, p = some a ∧ B a.block ∧ w.cell? (a.add (i * 1)) = some (.slice q m d) ∧ BytesAt w q m bs ∧ (∀ a', q = some a' → bs ≠ [] → B a'.block) ∧ m ≤ d
theorem PartsQ.upd {S B : Nat → Prop} {w w' : World} {p : Option Addr} {n : Nat} {P : List (List UInt8)} (h : PartsQ w B p n P) (hu : Upd S w w') (hS : ∀ x, B x → ¬ S x) : PartsQ w' B p n P := by
  refine ⟨h.1, fun i bs hi => ?_⟩
  obtain ⟨a, q, m, d, h0, hb, h1, h2, h3, h4⟩ := h.2 i bs hi
  exact ⟨a, q, m, d, h0, hb, hu.cell h1 (by rw [add_block]; exact hS _ hb), h2.upd hu fun a' ha' hne => hS _ (h3 a' ha' hne), h3, h4⟩
theorem PartsQ.of {w : World} {base : Nat} {p : Option Addr} {n : Nat} {P : List (List UInt8)} (h : PartsB w base p n P) : PartsQ w (fun x => base ≤ x ∧ x < w.heap.size) p n P := by
  refine ⟨h.1, fun i bs hi => ?_⟩
  obtain ⟨a, q, m, d, h0, hb, h1, h2, h3, h4⟩ := h.2 i bs hi
  have hlt := cell_lt h1
  rw [add_block] at hlt
  refine ⟨a, q, m, d, h0, ⟨hb, hlt⟩, h1, h2, fun a' ha' hne => ⟨h3 a' ha', ?_⟩, h4⟩
  obtain ⟨a2, ha2, hl⟩ := h2.lt hne
  rw [ha'] at ha2
  cases ha2
  exact hl

def svI (a : Nat) (g : Geo) (area epoch : Int) (P : List (List UInt8)) (s : StA) (w : World) (F : Nat → Prop) : Option Addr → Option Addr → Option Addr → Nat → Nat → Int → World → Bool → Int → World → Prop := fun q11 q13 p18 l18 _ _ _ b49 n50 w51 =>
  ∃ (k11 k13 i top : Nat) (F' : Nat → Prop) (p : Option Addr) (l c : Nat), q11 = some (at0 k11) ∧ q13 = some (at0 k13) ∧ n50 = i ∧ i ≤ 2 ∧ l18 = 2 ∧ (savS g area epoch P s i).2.2 = 0 ∧ b49 = (savS g area epoch P s i).2.1 ∧ Step F F' w w51 ∧ IsA w51 a (savS g area epoch P s i).1 F' ∧
    RowW w51 k11 (gRow g) ∧ RowW w51 k13 (svRow area epoch p l c) ∧ w.heap.size ≤ k11 ∧ w.heap.size ≤ k13 ∧ k11 < top ∧ k13 < top ∧ top ≤ w51.heap.size ∧ PartsQ w51 (fun x => w.heap.size ≤ x ∧ x < top) p18 2 P ∧ ∀ x, F' x → x < w.heap.size ∨ top ≤ x

set_option maxHeartbeats 2000000 in
theorem sv_A1 {w w35 : World} {a : Nat} {s : StA} {F : Nat → Prop} (h : IsA w a s F) (ho : OkA s) {g : Geo} {area epoch z : Int} {P : List (List UInt8)} (hP : ∀ x ∈ P, x.length ≤ 4096) (hx : Ext w w35) {k11 k13 : Nat} {p : Option Addr} {l c : Nat} (r11 : RowW w35 k11 (gRow g)) (r13 : RowW w35 k13 (svRow area epoch p l c)) (h11 : w.heap.size ≤ k11) (h13 : w.heap.size ≤ k13)
    {p18 : Option Addr} {l18 c18 : Nat} (hparts : z = 0 → l18 = 2 ∧ PartsB w35 w.heap.size p18 2 P) {R : Value → World → Prop}
    (hR : ∀ w' F', Step F F' w w' → IsA w' a (if preS (some (at0 a)) g area epoch z = 0 then saveM g area epoch P s else (s, preS (some (at0 a)) g area epoch z)).1 F' → R (.int .i64 (if preS (some (at0 a)) g area epoch z = 0 then saveM g area epoch P s else (s, preS (some (at0 a)) g area epoch z)).2) w') :
    F14_A1 (.returned (.int .i64 (svZ area epoch))) w35 (mcheckZ (some (at0 a)) g) z k11 k13 p18 l18 c18 (some (at0 a)) R (svI a g area epoch P s w F) (fun _ _ _ _ _ _ _ _ n50 _ => 5 - n50.toNat) := by
  refine ⟨_, rfl, fun k38 w39 hk38 => ?_⟩
  refine (first_spec (L := [_, _, _]) (ints_new (L := [_, _, _]) (w' := w39) ⟨_, hk38.at⟩ rfl) (by simp)).mono ?_
  rintro e w40 ⟨rfl, rfl⟩
  have x39 := hx.trans hk38.ext
  have ee : firstZ [mcheckZ (some (at0 a)) g, svZ area epoch, z] = preS (some (at0 a)) g area epoch z := rfl
  rw [ee]
  refine ⟨_, rfl, condB_of (fun hn => ?_) fun h0 => ?_⟩
  · have hn' : ¬ preS (some (at0 a)) g area epoch z = 0 := by simpa using hn
    rw [if_neg hn'] at hR
    exact hR _ F (Step.ext x39) ((h : IsArr w a _ _ _ F).ext x39)
  have h0' : preS (some (at0 a)) g area epoch z = 0 := by simpa using h0
  rw [if_pos h0'] at hR
  have hz : z = 0 := by
    have hz' := h0'
    unfold preS firstZ at hz'
    split at hz'
    · unfold firstZ at hz'
      split at hz'
      · unfold firstZ at hz'
        split at hz'
        · assumption
        · contradiction
      · contradiction
    · contradiction
  obtain ⟨rfl, hpb⟩ := hparts hz
  have hFlt := IsArr.lt (h : IsArr w a _ _ _ F)
  refine ⟨⟨k11, k13, 0, w40.heap.size, F, p, l, c, rfl, rfl, rfl, by omega, rfl, rfl, rfl, Step.ext x39, (h : IsArr w a _ _ _ F).ext x39, hk38.ext.rowW r11 id, hk38.ext.rowW r13 id, h11, h13, (hk38.ext.rowW r11 id).lt, (hk38.ext.rowW r13 id).lt, Nat.le_refl _, PartsQ.of (hpb.upd hk38.ext fun _ _ h => h), fun x hf => .inl (hFlt x hf)⟩, ?_⟩
  clear hpb r11 r13 h11 h13
  rintro b49 n50 w51 ⟨k11', k13', i, top, F', p', l', c', e1, e2, rfl, hi, _, hgo, rfl, hst, hA, r11, r13, g11, g13, t11, t13, ht, hparts, hF'⟩
  simp only [Option.some.injEq, at0, Addr.mk.injEq, and_true] at e1 e2
  subst e1
  subst e2
  intros
  have hok := savS_ok (g := g) (area := area) (epoch := epoch) (P := P) ho i
  refine condB_of (fun hlt => ?_) (fun hge => ?_)
  · simp only [decide_eq_true_eq] at hlt
    obtain ⟨x, hxx⟩ : ∃ x, P[i]? = some x := ⟨P[i]'(by have := hparts.1; omega), List.getElem?_eq_getElem _⟩
    obtain ⟨ap, q, m, d, rfl, hab, hcell, hbx, hqb, _⟩ := hparts.2 i x hxx
    have hxl := hP x (List.mem_of_getElem? hxx)
    have hm := hbx.1
    have hgd : P.getD i [] = x := by rw [List.getD_eq_getElem?_getD, hxx]; rfl
    rw [Int.toNat_natCast]
    refine ⟨⟨by omega, hlt⟩, _, _, _, hcell, fun w85 d85 => ?_⟩
    have r11b : RowW w85 k11 (gRow g) := d85.ext.rowW r11 id
    have r13b : RowW w85 k13 (svRow area epoch p' l' c') := d85.ext.rowW r13 id
    refine ⟨_, r11b.row.cell (n := 0) rfl, _, r11b.row.cell rfl, _, r11b.row.cell rfl, _, r11b.row.cell rfl, _, r11b.row.cell rfl, _, r11b.row.cell rfl, _, r13b.row.cell rfl, _, r13b.row.cell rfl, (area_spec g area (i : Int) w85).mono ?_⟩
    rintro e w94 ⟨rfl, x94⟩
    have y94 := d85.ext.trans x94
    refine ⟨_, rfl, ⟨_, (x94.rowW r13b id).row.cell rfl, rfl⟩, (vwrite_spec ((hA : IsArr w51 a _ _ _ F').ext y94) hok.1 (areaZ g area i) epoch (hbx.ext y94) (by omega)).mono ?_⟩
    rintro e w98 ⟨F'', rfl, hst98, hA98⟩
    have hT : Step F F'' w w98 := (hst.trans (Step.ext y94)).trans hst98
    have z94 := y94.size
    have z98 := hst98.upd.size
    have u98 : Upd F' w51 w98 := Upd.trans (Ext.upd y94) hst98.upd fun _ _ h => h
    have e1 : savS g area epoch P s (i + 1) = ((putM (fun _ => true) (areaZ g area i) epoch x (savS g area epoch P s i).1).1, (savS g area epoch P s i).2.1 && decide (0 < (putM (fun _ => true) (areaZ g area i) epoch x (savS g area epoch P s i).1).2.1),
        (putM (fun _ => true) (areaZ g area i) epoch x (savS g area epoch P s i).1).2.2) := by
      simp only [savS, if_pos hgo, hgd]
    have hap : ∀ x, w.heap.size ≤ x ∧ x < top → ¬ F' x := fun x hx hf => by rcases hF' x hf with h1 | h1 <;> omega
    refine ⟨_, _, rfl, condB_of (fun hn => ?_) fun h0 => ?_⟩
    · have hn' : ¬ (savS g area epoch P s (i + 1)).2.2 = 0 := by rw [e1]; simpa using hn
      have hall := savS_stuck hn' (2 - (i + 1))
      rw [show i + 1 + (2 - (i + 1)) = 2 by omega] at hall
      have e2 : saveM g area epoch P s = ((savS g area epoch P s (i + 1)).1, (savS g area epoch P s (i + 1)).2.2) := by unfold saveM; rw [hall, if_neg hn']
      rw [e2, e1] at hR
      exact hR _ F'' hT hA98
    · have h0'' : (savS g area epoch P s (i + 1)).2.2 = 0 := by rw [e1]; simpa using h0
      rw [w64 (by omega)]
      have mu : 5 - ((i : Int) + 1).toNat < 5 - (i : Int).toNat := by omega
      have next : ∀ b, b = (savS g area epoch P s (i + 1)).2.1 → svI a g area epoch P s w F (some (at0 k11)) (some (at0 k13)) (some ap) 2 c18 2 w40 b ((i : Int) + 1) w98 := fun b hb =>
        ⟨k11, k13, i + 1, top, F'', p', l', c', rfl, rfl, by omega, by omega, rfl, h0'', hb, hT, by rw [e1]; exact hA98, u98.rowW r11 (hap _ ⟨g11, t11⟩), u98.rowW r13 (hap _ ⟨g13, t13⟩), g11, g13, t11, t13, by omega, hparts.upd u98 hap, fun x hf => by
          rcases hst98.grow x hf with h1 | h1
          · exact hF' x h1
          · right; omega⟩
      refine condB_of (fun hb => ⟨next _ ?_, mu⟩) fun hb => ⟨next _ ?_, mu⟩
      · rw [e1, hb, Bool.true_and]
      · rw [e1, hb, Bool.false_and]
  · simp only [decide_eq_false_iff_not] at hge
    have hi2 : i = 2 := by omega
    subst hi2
    refine (mflush_spec hA hok.1).mono ?_
    rintro e w102 ⟨F'', rfl, hst102, hA102⟩
    refine ⟨_, rfl, (unless_spec _ 150 w102).mono ?_⟩
    rintro e w105 ⟨rfl, rfl⟩
    refine ⟨_, rfl, fun k108 w109 hk108 => ?_⟩
    refine (first_spec (L := [_, _]) (ints_new (L := [_, _]) (w' := w109) ⟨_, hk108.at⟩ rfl) (by simp)).mono ?_
    rintro e w110 ⟨rfl, rfl⟩
    have e2 : saveM g area epoch P s = (flushA (savS g area epoch P s 2).1, firstZ [if (savS g area epoch P s 2).1.down then 130 else 0, if (savS g area epoch P s 2).2.1 then 0 else 150]) := by unfold saveM; rw [if_pos hgo]
    rw [e2] at hR
    exact ⟨_, rfl, hR _ F'' ((hst.trans hst102).trans (Step.ext hk108.ext)) ((hA102 : IsArr _ a _ _ _ F'').ext hk108.ext)⟩
end Go.Proofs.Ytnfcfbljdibinaa

/- Save: the call. -/
namespace Go.Proofs.Ytnfcfbljdibinaa
open Go Go.Vc

theorem PartsB.base_le {w : World} {base base' : Nat} {p : Option Addr} {n : Nat} {P : List (List UInt8)} (h : PartsB w base p n P) (hb : base' ≤ base) : PartsB w base' p n P := by
  refine ⟨h.1, fun i bs hi => ?_⟩
  obtain ⟨a, q, m, d, h0, h1, h2, h3, h4, h5⟩ := h.2 i bs hi
  exact ⟨a, q, m, d, h0, Nat.le_trans hb h1, h2, h3, fun a' ha => Nat.le_trans hb (h4 a' ha), h5⟩

set_option maxHeartbeats 2000000 in
theorem msave_spec {w : World} {a : Nat} {s : StA} {F : Nat → Prop} (h : IsA w a s F) (ho : OkA s) (g : Geo) (area epoch : Int) {p10 : Option Addr} {l10 c10 : Nat} {L : List ObV} (hL : ObsV w p10 l10 L) (hl : l10 ≤ 1000000) :
    Calls Try.prog 14 #[.pointer (some (at0 a)), gV g, .agg #[.int .i64 area, .int .i64 epoch, .slice p10 l10 c10]] w fun e w' => ∃ F', e = .returned (.int .i64 (svM g area epoch L s).2) ∧ Step F F' w w' ∧ IsA w' a (svM g area epoch L s).1 F' := by
  refine (F14_calls (some (at0 a)) g.k g.m g.size g.stripes g.slots g.objects area epoch p10 l10 c10 w (fun v w' => ∃ F', v = .int .i64 (svM g area epoch L s).2 ∧ Step F F' w w' ∧ IsA w' a (svM g area epoch L s).1 F')
    (svI a g area epoch [part (snapB L) 0, part (snapB L) 1] s w F) (fun _ _ _ _ _ _ _ _ n50 _ => 5 - n50.toNat) ?_).mono (by rintro e w' ⟨v, rfl, F', rfl, h⟩; exact ⟨F', rfl, h⟩)
  intro k11 w12 hk11 k13 w14 hk13
  have x14 := hk11.ext.trans hk13.ext
  have s11 := hk11.size
  have s13 := hk13.size
  have r13 : RowW w14 k13 (svRow area epoch p10 l10 c10) := ⟨_, hk13.at⟩
  have r11 : RowW w14 k11 (gRow g) := hk13.ext.rowW ⟨_, hk11.at⟩ id
  refine ⟨_, _, _, r13.row.cell rfl, (snap_spec (hL.ext x14) hl).mono ?_⟩
  rintro e w16 ⟨x16, hh⟩
  obtain ⟨p18, l18, c18, rfl, hparts⟩ : ∃ (p18 : Option Addr) (l18 c18 : Nat), e = .returned (.tuple #[.slice p18 l18 c18, .int .i64 (mayZ L)]) ∧ (mayZ L = 0 → l18 = 2 ∧ PartsB w16 w.heap.size p18 2 [part (snapB L) 0, part (snapB L) 1]) := by
    rcases hh with ⟨hno, rfl⟩ | ⟨hyes, po, co, rfl, hp⟩
    · exact ⟨none, 0, 0, by rw [mayZ_no hno], fun h => by rw [mayZ_no hno] at h; cases h⟩
    · exact ⟨po, 2, co, by rw [mayZ_ok hyes], fun _ => ⟨rfl, hp.base_le x14.size⟩⟩
  refine ⟨_, _, _, _, rfl, fun w20 d20 => ?_⟩
  have y20 := x16.trans d20.ext
  have q11 : RowW w20 k11 (gRow g) := y20.rowW r11 id
  have q13 : RowW w20 k13 (svRow area epoch p10 l10 c10) := y20.rowW r13 id
  refine ⟨_, q11.row.cell (n := 0) rfl, _, q11.row.cell rfl, _, q11.row.cell rfl, _, q11.row.cell rfl, _, q11.row.cell rfl, _, q11.row.cell rfl, _, q13.row.cell rfl, (mcheck_spec (some (at0 a)) g w20).mono ?_⟩
  rintro e w28 ⟨rfl, x28⟩
  have z28 : Ext w w28 := (x14.trans y20).trans x28
  have t13 : RowW w28 k13 (svRow area epoch p10 l10 c10) := x28.rowW q13 id
  have t11 : RowW w28 k11 (gRow g) := x28.rowW q11 id
  have fin : ∀ (b : Bool), (if b = true then (0 : Int) else 1) = svZ area epoch → Calls Try.prog 37 #[.bool b, .int .i64 1] w28 fun e36 w35 => F14_A1 e36 w35 (mcheckZ (some (at0 a)) g) (mayZ L) k11 k13 p18 l18 c18 (some (at0 a)) (fun v w' => ∃ F', v = .int .i64 (svM g area epoch L s).2 ∧ Step F F' w w' ∧ IsA w' a (svM g area epoch L s).1 F')
      (svI a g area epoch [part (snapB L) 0, part (snapB L) 1] s w F) (fun _ _ _ _ _ _ _ _ n50 _ => 5 - n50.toNat) := fun b hb => by
    refine (unless_spec b 1 w28).mono ?_
    rintro e w35 ⟨rfl, rfl⟩
    rw [hb]
    refine sv_A1 h ho (fun x hx => ?_) z28 t11 t13 (by omega) (by have := hk11.ext.size; omega) (fun hz => ⟨(hparts hz).1, (hparts hz).2.upd (d20.ext.trans x28) fun _ _ h => h⟩) fun w' F' hs hA => ⟨F', rfl, hs, hA⟩
    simp only [List.mem_cons, List.not_mem_nil, or_false] at hx
    rcases hx with rfl | rfl <;> exact part_le _ _
  refine ⟨_, rfl, ⟨_, t13.row.cell rfl, rfl⟩, condB_of (fun h1 => ⟨_, t13.row.cell rfl, condB_of (fun h2 => ⟨_, t13.row.cell rfl, condB_of (fun h3 => ⟨_, t13.row.cell rfl, fin _ ?_⟩) fun h3 => fin _ ?_⟩) fun h2 => fin _ ?_⟩) fun h1 => fin _ ?_⟩
  · simp only [decide_eq_true_eq] at h1 h2 h3
    unfold svZ
    by_cases h4 : epoch ≤ 2147483547
    · simp [h1, h2, h3, h4]
    · simp [h4]
  · simp only [decide_eq_false_iff_not] at h3
    unfold svZ
    simp [h3]
  · simp only [decide_eq_false_iff_not] at h2
    unfold svZ
    simp [h2]
  · simp only [decide_eq_false_iff_not] at h1
    unfold svZ
    simp [h1]

set_option maxHeartbeats 1000000 in
theorem msave_nil {w : World} (g : Geo) (area epoch : Int) {p10 : Option Addr} {l10 c10 : Nat} {L : List ObV} (hL : ObsV w p10 l10 L) (hl : l10 ≤ 1000000) :
    Calls Try.prog 14 #[.pointer none, gV g, .agg #[.int .i64 area, .int .i64 epoch, .slice p10 l10 c10]] w fun e w' => e = .returned (.int .i64 1) ∧ Ext w w' := by
  refine (F14_calls none g.k g.m g.size g.stripes g.slots g.objects area epoch p10 l10 c10 w (fun v w' => v = .int .i64 1 ∧ Ext w w')
    (fun _ _ _ _ _ _ _ _ _ _ => False) (fun _ _ _ _ _ _ _ _ _ _ => 0) ?_).mono (by rintro e w' ⟨v, rfl, rfl, h⟩; exact ⟨rfl, h⟩)
  intro k11 w12 hk11 k13 w14 hk13
  have x14 := hk11.ext.trans hk13.ext
  have r13 : RowW w14 k13 (svRow area epoch p10 l10 c10) := ⟨_, hk13.at⟩
  have r11 : RowW w14 k11 (gRow g) := hk13.ext.rowW ⟨_, hk11.at⟩ id
  refine ⟨_, _, _, r13.row.cell rfl, (snap_spec (hL.ext x14) hl).mono ?_⟩
  rintro e w16 ⟨x16, hh⟩
  obtain ⟨p18, l18, c18, z, rfl⟩ : ∃ (p18 : Option Addr) (l18 c18 : Nat) (z : Int), e = .returned (.tuple #[.slice p18 l18 c18, .int .i64 z]) := by
    rcases hh with ⟨hno, rfl⟩ | ⟨hyes, po, co, rfl, hp⟩
    · exact ⟨_, _, _, _, rfl⟩
    · exact ⟨_, _, _, _, rfl⟩
  refine ⟨_, _, _, _, rfl, fun w20 d20 => ?_⟩
  have y20 := x16.trans d20.ext
  have q11 : RowW w20 k11 (gRow g) := y20.rowW r11 id
  have q13 : RowW w20 k13 (svRow area epoch p10 l10 c10) := y20.rowW r13 id
  refine ⟨_, q11.row.cell (n := 0) rfl, _, q11.row.cell rfl, _, q11.row.cell rfl, _, q11.row.cell rfl, _, q11.row.cell rfl, _, q11.row.cell rfl, _, q13.row.cell rfl, (mcheck_spec none g w20).mono ?_⟩
  rintro e w28 ⟨rfl, x28⟩
  have z28 : Ext w w28 := (x14.trans y20).trans x28
  have t13 : RowW w28 k13 (svRow area epoch p10 l10 c10) := x28.rowW q13 id
  have fin : ∀ (b : Bool), Calls Try.prog 37 #[.bool b, .int .i64 1] w28 fun e36 w35 => F14_A1 e36 w35 (mcheckZ none g) z k11 k13 p18 l18 c18 none (fun v w' => v = .int .i64 1 ∧ Ext w w')
      (fun _ _ _ _ _ _ _ _ _ _ => False) (fun _ _ _ _ _ _ _ _ _ _ => 0) := fun b => by
    refine (unless_spec b 1 w28).mono ?_
    rintro e w35 ⟨rfl, rfl⟩
    refine ⟨_, rfl, fun k38 w39 hk38 => ?_⟩
    refine (first_spec (L := [_, _, _]) (ints_new (L := [_, _, _]) (w' := w39) ⟨_, hk38.at⟩ rfl) (by simp)).mono ?_
    rintro e w40 ⟨rfl, rfl⟩
    have ee : firstZ [mcheckZ none g, (if b = true then (0 : Int) else 1), z] = 1 := rfl
    rw [ee]
    exact ⟨_, rfl, condB_of (fun _ => ⟨rfl, z28.trans hk38.ext⟩) fun h => by simp at h⟩
  exact ⟨_, rfl, ⟨_, t13.row.cell rfl, rfl⟩, condB_of (fun _ => ⟨_, t13.row.cell rfl, condB_of (fun _ => ⟨_, t13.row.cell rfl, condB_of (fun _ => ⟨_, t13.row.cell rfl, fin _⟩) fun _ => fin _⟩) fun _ => fin _⟩) fun _ => fin _⟩
end Go.Proofs.Ytnfcfbljdibinaa

/- An area: one more part. -/
namespace Go.Proofs.Ytnfcfbljdibinaa
open Go Go.Vc

theorem parts_app {w0 w : World} (hx : Ext w0 w) {p : Option Addr} {n c : Nat} {rows : List Value} (own : OwnS w w0.heap.size 48 1 p n c rows) {k : Nat} {w1 : World} {q : Option Addr} {m d : Nat} (hk : NewB w k (.cells #[.slice q m d] 48) w1) (hn : n ≤ 100) :
    ∃ (p' : Option Addr) (l' c' : Nat), ∃ w', Sem.run Try.prog (Builtin.append_ #[93, 93] 93 #[.slice p n c, .slice (some (at0 k)) 1 1]) w1 = .ok (.slice p' l' c') w' ∧ l' = n + 1 ∧ OwnS w' w0.heap.size 48 1 p' l' c' (rows ++ [.slice q m d]) ∧ Ext w0 w' ∧ Upd (fun b => p = some (at0 b)) w1 w' := by
  have r : RowW w1 k #[.slice q m d] := ⟨_, hk.at⟩
  have hc : CellsAt w1 (some (at0 k)) [.slice q m d] := fun j u hj => ⟨_, rfl, r.row.cell (by simpa using hj)⟩
  have hz := (hx.trans hk.ext).size
  obtain ⟨p', c', w', hr, ho, hu, _⟩ := (own.ext hk.ext).append elemBB 93 (q := some (at0 k)) (m := 1) (d := 1) (news := [.slice q m d]) rfl hc (fun h => by cases h) (by simp [Value.oneCell']) (by unfold maxLen; omega) (by omega) hz
  exact ⟨p', _, c', w', hr, rfl, ho, ext_own (hx.trans hk.ext) (own.ext hk.ext) hu, hu⟩

def arM : Option Addr → Option Addr → World → Bool → Bool → Option Addr → Nat → Nat → Int → World → Nat := fun _ _ _ _ _ _ _ _ n20 _ => 5 - n20.toNat
theorem ar_A0 {w w104 w14 w21 : World} {k10 k12 k87 : Nat} {b17 b18 has wt : Bool} {ep E which n4 n20 : Int} {q : Option Addr} {m d : Nat} {p19 : Option Addr} {l19 c19 : Nat} {rows : List Value} {R : Value → World → Prop} {I0 : Option Addr → Option Addr → World → Bool → Bool → Option Addr → Nat → Nat → Int → World → Prop}
    (r87 : RowW w104 k87 #[.bool has, .int .i64 ep, .slice q m d, .int .i64 n4, .bool wt]) (r12 : RowW w104 k12 #[.int .i64 which, .int .i64 E, .slice none 0 0]) (own : OwnS w104 w.heap.size 48 1 p19 l19 c19 rows) (hx : Ext w w104) (hl : l19 ≤ 10)
    (hmu : 5 - (IntKind.i64.wrap (n20 + 1)).toNat < 5 - n20.toNat)
    (hI : ∀ b17' b18' p' l' c' w1 w', b17' = (b17 && (has && decide (ep = E))) → b18' = (b18 && wt) → l' = l19 + 1 → OwnS w' w.heap.size 48 1 p' l' c' (rows ++ [.slice q m d]) → Ext w w' → Ext w104 w1 → Upd (fun b => p19 = some (at0 b)) w1 w' →
      I0 (some (at0 k10)) (some (at0 k12)) w14 b17' b18' p' l' c' (IntKind.i64.wrap (n20 + 1)) w') :
    F41_A0 b17 w104 k87 k12 b18 p19 l19 c19 k10 w14 n20 w21 R I0 arM := by
  have a1 : (b17 && (has && decide (ep = E))) = false → F41_A1 b18 w104 k87 p19 l19 c19 k10 k12 w14 n20 b17 w21 R I0 arM := fun hf => by
    refine condB_of (fun h18 => ⟨_, r87.row.cell rfl, _, _, _, r87.row.cell rfl, fun k121 w122 hk => ?_⟩) fun h18 => ⟨_, _, _, r87.row.cell rfl, fun k126 w127 hk => ?_⟩
    · obtain ⟨p', l', c', w', hr, hl', ho, hx', hu⟩ := parts_app hx own hk (by omega)
      exact ⟨_, _, _, _, hr, hI _ _ _ _ _ _ _ hf.symm (by rw [h18, Bool.true_and]) hl' ho hx' hk.ext hu, hmu⟩
    · obtain ⟨p', l', c', w', hr, hl', ho, hx', hu⟩ := parts_app hx own hk (by omega)
      exact ⟨_, _, _, _, hr, hI _ _ _ _ _ _ _ hf.symm (by rw [h18, Bool.false_and]) hl' ho hx' hk.ext hu, hmu⟩
  refine condB_of (fun h17 => ⟨_, r87.row.cell rfl, condB_of (fun hh => ⟨_, r87.row.cell rfl, _, r12.row.cell rfl, condB_of (fun h18 => ⟨_, r87.row.cell rfl, _, _, _, r87.row.cell rfl, fun k110 w111 hk => ?_⟩) fun h18 => ⟨_, _, _, r87.row.cell rfl, fun k115 w116 hk => ?_⟩⟩) fun hh => a1 (by rw [hh]; simp)⟩) fun h17 => a1 (by rw [h17]; rfl)
  · obtain ⟨p', l', c', w', hr, hl', ho, hx', hu⟩ := parts_app hx own hk (by omega)
    exact ⟨_, _, _, _, hr, hI _ _ _ _ _ _ _ (by rw [h17, hh, Bool.true_and, Bool.true_and]) (by rw [h18, Bool.true_and]) hl' ho hx' hk.ext hu, hmu⟩
  · obtain ⟨p', l', c', w', hr, hl', ho, hx', hu⟩ := parts_app hx own hk (by omega)
    exact ⟨_, _, _, _, hr, hI _ _ _ _ _ _ _ (by rw [h17, hh, Bool.true_and, Bool.true_and]) (by rw [h18, Bool.false_and]) hl' ho hx' hk.ext hu, hmu⟩

/-- an own slice of slices does not lie where bytes begin -/
theorem parts_ne {w : World} {base : Nat} {p : Option Addr} {n c : Nat} {rows : List Value} (own : OwnS w base 48 1 p n c rows) {q : Option Addr} {m d : Nat} (h0 : rows[0]? = some (.slice q m d)) {k l : Nat} {bs : List UInt8} (hb : BytesAt w (some (at0 k)) l bs) (hne : bs ≠ []) : p ≠ some (at0 k) := by
  intro hp
  obtain ⟨a, ha, hc⟩ := own.cells 0 _ h0
  rw [hp] at ha
  cases ha
  obtain ⟨a', ha', hc'⟩ := hb.get (i := 0) (by rw [hb.1]; exact List.length_pos_iff.2 hne)
  cases ha'
  rw [hc] at hc'
  cases hc'
end Go.Proofs.Ytnfcfbljdibinaa

/- An area. -/
namespace Go.Proofs.Ytnfcfbljdibinaa
open Go Go.Vc

theorem fill3 {w : World} {k : Nat} {e : TypeId} {c0 c1 c2 v0 v1 v2 : Value} (hr : RowT e w k #[c0, c1, c2]) {T : World → Prop} (h : ∀ w3, Upd (fun x => x = k) w w3 → RowT e w3 k #[v0, v1, v2] → T w3) :
    Live w (at0 k) ∧ ∀ w1 : World, SetC w (at0 k) v0 w1 → (Live w1 ((at0 k).add 1) ∧ ∀ w2 : World, SetC w1 ((at0 k).add 1) v1 w2 → (Live w2 ((at0 k).add 2) ∧ ∀ w3 : World, SetC w2 ((at0 k).add 2) v2 w3 → T w3)) := by
  refine ⟨hr.row.live (n := 0) (by simp), fun w1 s1 => ?_⟩
  have s1' : SetC w ((at0 k).add 0) v0 w1 := s1
  have r1 := hr.set s1'
  refine ⟨r1.row.live (by simp), fun w2 s2 => ?_⟩
  have r2 := r1.set s2
  refine ⟨r2.row.live (by simp), fun w3 s3 => ?_⟩
  exact h w3 (((setU s1').trans (setU s2) fun _ _ h => h).trans (setU s3) fun _ _ h => h) (r2.set s3)
theorem fill5T {w : World} {k : Nat} {e : TypeId} {c0 c1 c2 c3 c4 v0 v1 v2 v3 v4 : Value} (hr : RowT e w k #[c0, c1, c2, c3, c4]) {T : World → Prop} (h : ∀ w5, Upd (fun x => x = k) w w5 → RowT e w5 k #[v0, v1, v2, v3, v4] → T w5) :
    Live w (at0 k) ∧ ∀ w1 : World, SetC w (at0 k) v0 w1 → (Live w1 ((at0 k).add 1) ∧ ∀ w2 : World, SetC w1 ((at0 k).add 1) v1 w2 → (Live w2 ((at0 k).add 2) ∧ ∀ w3 : World, SetC w2 ((at0 k).add 2) v2 w3 → (Live w3 ((at0 k).add 3) ∧ ∀ w4 : World, SetC w3 ((at0 k).add 3) v3 w4 → (Live w4 ((at0 k).add 4) ∧ ∀ w5 : World, SetC w4 ((at0 k).add 4) v4 w5 → T w5)))) := by
  refine ⟨hr.row.live (n := 0) (by simp), fun w1 s1 => ?_⟩
  have s1' : SetC w ((at0 k).add 0) v0 w1 := s1
  have r1 := hr.set s1'
  refine ⟨r1.row.live (by simp), fun w2 s2 => ?_⟩
  have r2 := r1.set s2
  refine ⟨r2.row.live (by simp), fun w3 s3 => ?_⟩
  have r3 := r2.set s3
  refine ⟨r3.row.live (by simp), fun w4 s4 => ?_⟩
  have r4 := r3.set s4
  refine ⟨r4.row.live (by simp), fun w5 s5 => ?_⟩
  exact h w5 (((((setU s1').trans (setU s2) fun _ _ h => h).trans (setU s3) fun _ _ h => h).trans (setU s4) fun _ _ h => h).trans (setU s5) fun _ _ h => h) (r4.set s5)

def wholeB (V : List (Say × Nat)) (E : Int) : Bool := V.all fun v => decide (0 < v.2) && decide (v.1.1 = E)
def seenB (g : Geo) (which : Int) (s : StA) (ks : List Bool) (i : Nat) : Bool := (List.range i).all fun j => wit ks (saysM (areaZ g which (j : Int)) s.M)
theorem wholeB_snoc (V : List (Say × Nat)) (v : Say × Nat) (E : Int) : wholeB (V ++ [v]) E = (wholeB V E && (decide (0 < v.2) && decide (v.1.1 = E))) := by simp [wholeB]
theorem seenB_succ (g : Geo) (which : Int) (s : StA) (ks : List Bool) (i : Nat) : seenB g which s ks (i + 1) = (seenB g which s ks i && wit ks (saysM (areaZ g which (i : Int)) s.M)) := by simp [seenB, List.range_succ]
/-- what was read of an area's first parts -/
def Reads (g : Geo) (which : Int) (s : StA) (V : List (Say × Nat)) : Prop := ∀ (j : Nat) (v : Say × Nat), V[j]? = some v → Best (sayL (saysM (areaZ g which (j : Int)) s.M)) v.1 v.2
def savedV (area epoch : Int) (p : Option Addr) (l c : Nat) : Value := .agg #[.int .i64 area, .int .i64 epoch, .slice p l c]

def arI (g : Geo) (which : Int) (s : StA) (ks : List Bool) (w : World) : Option Addr → Option Addr → World → Bool → Bool → Option Addr → Nat → Nat → Int → World → Prop := fun q10 q12 _ b17 b18 p19 l19 c19 n20 w21 =>
  ∃ (k10 k12 i : Nat) (V : List (Say × Nat)) (E : Int) (rows : List Value), q10 = some (at0 k10) ∧ q12 = some (at0 k12) ∧ n20 = i ∧ i ≤ 2 ∧ V.length = i ∧ l19 = i ∧ (i = 0 ∨ s.down = false) ∧ Ext w w21 ∧ w.heap.size ≤ k10 ∧ w.heap.size ≤ k12 ∧ k10 ≠ k12 ∧ RowT 24 w21 k10 (gRow g) ∧
    RowT 37 w21 k12 #[.int .i64 which, .int .i64 E, .slice none 0 0] ∧ (i = 0 → E = 0) ∧ (0 < i → ∃ v, V[0]? = some v ∧ v.1.1 = E) ∧ Reads g which s V ∧ b17 = wholeB V E ∧ b18 = seenB g which s ks i ∧ OwnS w21 w.heap.size 48 1 p19 l19 c19 rows ∧
    ∀ (j : Nat) (v : Say × Nat), V[j]? = some v → ∃ (k m d : Nat), rows[j]? = some (Value.slice (some (at0 k)) m d) ∧ BytesAt w21 (some (at0 k)) m v.1.2 ∧ k ≠ k12

def arR (g : Geo) (which : Int) (s : StA) (ks : List Bool) (w : World) : Value → World → Prop := fun v w' => Ext w w' ∧ (s.down = true → ∃ E, v = .tuple #[savedV which E none 0 0, .bool false, .bool false, .int .i64 130]) ∧
  (s.down = false → ∃ (v0 v1 : Say × Nat) (os : List ObV) (p : Option Addr) (c : Nat) (rows : List Value), Reads g which s [v0, v1] ∧ os = (unD [v0.1.2, v1.1.2]).getD [] ∧
    v = .tuple #[savedV which v0.1.1 p os.length c, .bool (wholeB [v0, v1] v0.1.1 && (unD [v0.1.2, v1.1.2]).isSome), .bool (seenB g which s ks 2), .int .i64 0] ∧ OwnS w' w.heap.size 100 4 p os.length c rows ∧ RowsOb w' w.heap.size rows os)
theorem msay_len {n : Int} {M : List Mem} {b : Say} {c : Nat} (h : Best (sayL (saysM n M)) b c) : b.2.length ≤ 4096 := by
  rcases h with ⟨_, rfl, _⟩ | ⟨hm, _⟩
  · simp
  · exact (say_bound hm).2.2

set_option maxHeartbeats 4000000 in
theorem marea_spec {w : World} {a : Nat} {s : StA} {F : Nat → Prop} (h : IsA w a s F) (ho : OkA s) (h1 : 1 ≤ s.M.length) (g : Geo) {p8 : Option Addr} {l8 c8 : Nat} {ks : List Bool} (hks : BoolsAt w p8 l8 ks) (which : Int) :
    Calls Try.prog 41 #[.pointer (some (at0 a)), gV g, .slice p8 l8 c8, .int .i64 which] w fun e w' => ∃ v, e = .returned v ∧ arR g which s ks w v w' := by
  refine F41_calls (some (at0 a)) g.k g.m g.size g.stripes g.slots g.objects p8 l8 c8 which w (arR g which s ks w) (arI g which s ks w) arM ?_
  have hM : s.M.length ≤ 32 := ho.1
  intro k10 w11 hk10 k12 w13 hk12
  have s10 := hk10.size
  have s12 := hk12.size
  have x13 := hk10.ext.trans hk12.ext
  have r12 : RowT 37 w13 k12 #[.int .i64 0, .int .i64 0, .slice none 0 0] := hk12.at
  have r10 : RowT 24 w13 k10 (gRow g) := RowT.upd (show RowT _ w11 k10 (gRow g) from hk10.at) hk12.ext id
  refine ⟨r12.row.live (by simp), fun w14 s14 => ?_⟩
  have x14 : Ext w w14 := upd_new x13 (setU s14) (by omega)
  refine ⟨⟨k10, k12, 0, [], 0, [], rfl, rfl, rfl, by omega, rfl, rfl, .inl rfl, x14, by omega, by omega, by omega, r10.upd (setU s14) (by omega), r12.set s14, fun _ => rfl, fun h => by omega, fun j v hj => by simp at hj, rfl, rfl, OwnS.nil _ _ _ _, fun j v hj => by simp at hj⟩, ?_⟩
  clear r12 r10 x13 x14
  rintro b17 b18 p19 l19 c19 n20 w21 ⟨k10', k12', i, V, E, rows, e10, e12, rfl, hi, hVl, rfl, hdn, x21, g10, g12, gne, r10, r12, hE0, hE1, hV, rfl, rfl, own, hrows⟩
  simp only [Option.some.injEq, at0, Addr.mk.injEq, and_true] at e10 e12
  subst e10
  subst e12
  intros
  have z21 := x21.size
  refine condB_of (fun hlt => ?_) (fun hge => ?_)
  · simp only [decide_eq_true_eq] at hlt
    refine ⟨_, r10.row.row.cell (n := 0) rfl, _, r10.row.row.cell rfl, _, r10.row.row.cell rfl, _, r10.row.row.cell rfl, _, r10.row.row.cell rfl, _, r10.row.row.cell rfl, (area_spec g which (l19 : Int) w21).mono ?_⟩
    rintro e w76 ⟨rfl, x76⟩
    have y76 := x21.trans x76
    have z76 := x76.size
    refine ⟨_, rfl, ?_⟩
    obtain ⟨M, left, down⟩ := s
    cases down with
    | true =>
      refine (vread_down ((h : IsArr w a M left true F).ext y76) (by omega) h1 p8 l8 c8 _).mono ?_
      rintro e w79 ⟨rfl, x79⟩
      refine ⟨_, _, _, _, _, _, _, _, rfl, fun k87 w88 hk87 => ?_⟩
      have s87 := hk87.size
      have z79 := x79.size
      refine fill5T (e := 80) (v0 := .bool false) (v1 := .int .i64 0) (v2 := .slice none 0 0) (v3 := .int .i64 0) (v4 := .bool false) hk87.at fun w93 u93 r93 => ?_
      have x93 : Ext w21 w93 := upd_new ((x76.trans x79).trans hk87.ext) u93 (by omega)
      have q12 := r12.upd x93 id
      refine condB_of (fun _ => ⟨_, q12.row.row.cell (n := 0) rfl, _, q12.row.row.cell rfl, _, _, _, q12.row.row.cell rfl, ?_⟩) fun h => by simp at h
      refine fill3 (v0 := .int .i64 which) (v1 := .int .i64 E) (v2 := .slice none 0 0) q12 fun w99 u99 r99 => ?_
      exact ⟨_, r99.row.row.cell (n := 0) rfl, _, r99.row.row.cell rfl, _, _, _, r99.row.row.cell rfl, upd_new (x21.trans x93) u99 (by omega), fun _ => ⟨E, rfl⟩, fun h => by cases h⟩
    | false =>
      refine (vread_spec ((h : IsArr w a M left false F).ext y76) (by omega) h1 (hks.ext y76) _).mono ?_
      rintro e w79 ⟨x79, v, b, c, kd, cc, rfl, hbest, rfl, hnew, hdat⟩
      refine ⟨_, _, _, _, _, _, _, _, rfl, fun k87 w88 hk87 => ?_⟩
      have s87 := hk87.size
      have z79 := x79.size
      refine fill5T (e := 80) (v0 := .bool (decide (0 < c))) (v1 := .int .i64 b.1) (v2 := .slice (some (at0 kd)) b.2.length cc) (v3 := .int .i64 ((c : Nat) : Int)) (v4 := .bool (wit ks (saysM (areaZ g which (l19 : Int)) M))) hk87.at fun w93 u93 r93 => ?_
      have x79_93 : Ext w79 w93 := upd_new hk87.ext u93 (by omega)
      have x93 : Ext w21 w93 := (x76.trans x79).trans x79_93
      have q12 := r12.upd x93 id
      have q10 := r10.upd x93 id
      have own93 := own.ext x93
      have hd93 := hdat.ext x79_93
      have hl10 : l19 ≤ 10 := by omega
      have hmu : 5 - (IntKind.i64.wrap ((l19 : Int) + 1)).toNat < 5 - ((l19 : Int)).toNat := by rw [w64 (by omega)]; omega
      -- what both ways have in common
      have step : ∀ (E' : Int) (w104 : World), (∃ S, Upd S w93 w104 ∧ (∀ x, S x → x = k12)) → RowT 37 w104 k12 #[.int .i64 which, .int .i64 E', .slice none 0 0] → (0 < l19 → E' = E) → (l19 = 0 → E' = b.1) →
          F41_A0 (wholeB V E) w104 k87 k12 (seenB g which ⟨M, left, false⟩ ks l19) p19 l19 c19 k10 w14 (l19 : Int) w21 (arR g which ⟨M, left, false⟩ ks w) (arI g which ⟨M, left, false⟩ ks w) arM := by
        rintro E' w104 ⟨S, uS, hS⟩ r12' hEp hEz
        have u104 : Upd (fun x => x = k12) w93 w104 := uS.mono fun x _ hx => hS x hx
        have x104 : Ext w w104 := upd_new (x21.trans x93) u104 (by omega)
        have h12lt := r12.row.lt
        have r87 : RowW w104 k87 _ := u104.rowW r93.row (by omega)
        have own104 := own93.upd u104 fun g' hg' hgk => by
          have := (own_ge own93 hg').2.2
          obtain ⟨cur, hc⟩ := this
          exact type_ne (hgk ▸ q12) hc (by decide)
        have hne12 : kd ≠ k12 := by have := r12.row.lt; omega
        have hd104 : BytesAt w104 (some (at0 kd)) b.2.length b.2 := hd93.upd u104 fun a' ha' _ hx => by cases ha'; exact hne12 hx
        refine ar_A0 r87 r12'.row own104 x104 hl10 hmu fun b17' b18' p' l' c' w1 w' hb17 hb18 hl' own' hx' hx1 hu1 => ?_
        rw [w64 (by omega)]
        have keepB : ∀ {k m : Nat} {bs : List UInt8}, BytesAt w104 (some (at0 k)) m bs → (p19 = some (at0 k) → bs ≠ [] → False) → BytesAt w' (some (at0 k)) m bs := fun {k m bs} hb hn => (hb.ext hx1).upd hu1 fun a' ha' hne hp => by cases ha'; exact hn hp hne
        have own1 := own104.ext hx1
        refine ⟨k10, k12, l19 + 1, V ++ [(b, c)], E', _, rfl, rfl, by omega, by omega, by simp [hVl], by omega, .inr rfl, hx', g10, g12, gne, ?_, ?_, fun h => by omega, fun _ => ?_, fun j v hj => ?_, ?_, ?_, own', fun j v hj => ?_⟩
        · exact ((q10.upd u104 (by omega)).upd hx1 id).upd hu1 fun hp => by
            obtain ⟨cur, hc⟩ := (own_ge own1 hp).2.2
            exact type_ne ((q10.upd u104 (by omega)).upd hx1 id) hc (by decide)
        · exact (r12'.upd hx1 id).upd hu1 fun hp => by
            obtain ⟨cur, hc⟩ := (own_ge own1 hp).2.2
            exact type_ne (r12'.upd hx1 id) hc (by decide)
        · rcases Nat.eq_zero_or_pos l19 with h0 | h0
          · have : V = [] := List.eq_nil_of_length_eq_zero (by omega)
            subst this
            exact ⟨(b, c), rfl, (hEz h0).symm⟩
          · obtain ⟨v, hv, he⟩ := hE1 h0
            refine ⟨v, by rw [List.getElem?_append_left (by omega)]; exact hv, by rw [he, hEp h0]⟩
        · rw [List.getElem?_append] at hj
          split at hj
          · exact hV j v hj
          · have hj0 : j - V.length = 0 := by
              rcases hq : j - V.length with _ | q
              · rfl
              · rw [hq] at hj; simp at hj
            rw [hj0] at hj
            cases hj
            have : j = l19 := by omega
            subst this
            exact hbest
        · rw [hb17, wholeB_snoc]
          rcases Nat.eq_zero_or_pos l19 with h0 | h0
          · have : V = [] := List.eq_nil_of_length_eq_zero (by omega)
            subst this
            rfl
          · rw [hEp h0]
        · rw [hb18, seenB_succ]
        · have hrl := own104.length
          rw [Nat.mul_one] at hrl
          rw [List.getElem?_append] at hj
          split at hj
          · obtain ⟨k, m, d, g1, g2, g3⟩ := hrows j v hj
            have hjl : j < l19 := by omega
            refine ⟨k, m, d, by rw [List.getElem?_append_left (by omega)]; exact g1, keepB (((g2.ext x93)).upd u104 fun a' ha' _ hx => by cases ha'; exact g3 hx) fun hp hne => ?_, g3⟩
            obtain ⟨v0, hv0⟩ : ∃ v, V[0]? = some v := ⟨V[0]'(by omega), List.getElem?_eq_getElem _⟩
            obtain ⟨k0, m0, d0, h00, _⟩ := hrows 0 v0 hv0
            exact parts_ne own h00 g2 hne hp
          · have hj0 : j - V.length = 0 := by
              rcases hq : j - V.length with _ | q
              · rfl
              · rw [hq] at hj; simp at hj
            rw [hj0] at hj
            cases hj
            refine ⟨kd, _, cc, by rw [List.getElem?_append_right (by omega), show j - rows.length = 0 by omega]; rfl, keepB hd104 fun hp hne => ?_, hne12⟩
            have := (own_ge own hp).2.1
            omega
      refine condB_of (fun h => by simp at h) fun _ => condB_of (fun h0 => ?_) fun h0 => ?_
      · have hl0 : l19 = 0 := by simp only [decide_eq_true_eq] at h0; omega
        refine ⟨_, r93.row.row.cell rfl, q12.row.live (by simp), fun w104 s104 => ?_⟩
        exact step b.1 w104 ⟨_, setU s104, fun x hx => hx⟩ (q12.set s104) (fun h => by omega) fun _ => rfl
      · have hl0 : 0 < l19 := by simp only [decide_eq_false_iff_not] at h0; omega
        exact step E w93 ⟨fun _ => False, Upd.refl _ _, fun x hx => hx.elim⟩ q12 (fun _ => rfl) fun h => by omega
  · simp only [decide_eq_false_iff_not] at hge
    have hi2 : l19 = 2 := by omega
    subst hi2
    have hdown : s.down = false := hdn.resolve_left (by omega)
    obtain ⟨v0, v1, rfl⟩ : ∃ v0 v1, V = [v0, v1] := by
      match V, hVl with
      | [v0, v1], _ => exact ⟨v0, v1, rfl⟩
    obtain ⟨v, hv0, hEv⟩ := hE1 (by omega)
    have hE : E = v0.1.1 := by simp only [List.getElem?_cons_zero, Option.some.injEq] at hv0; rw [← hEv, hv0]
    subst hE
    have hlen0 := msay_len (hV 0 v0 rfl)
    have hlen1 := msay_len (hV 1 v1 rfl)
    have hparts : PartsAt w21 p19 2 [v0.1.2, v1.1.2] := by
      refine ⟨rfl, fun j bs hj => ?_⟩
      have hcase : (j = 0 ∧ bs = v0.1.2) ∨ (j = 1 ∧ bs = v1.1.2) := by
        match j, hj with
        | 0, hj => left; exact ⟨rfl, by simpa using hj.symm⟩
        | 1, hj => right; exact ⟨rfl, by simpa using hj.symm⟩
        | j + 2, hj => simp at hj
      rcases hcase with ⟨rfl, rfl⟩ | ⟨rfl, rfl⟩
      · obtain ⟨k, m, d, g1, g2, _⟩ := hrows 0 v0 rfl
        obtain ⟨ap, ha, hc⟩ := own.cells _ _ g1
        exact ⟨ap, _, m, d, ha, hc, g2⟩
      · obtain ⟨k, m, d, g1, g2, _⟩ := hrows 1 v1 rfl
        obtain ⟨ap, ha, hc⟩ := own.cells _ _ g1
        exact ⟨ap, _, m, d, ha, hc, g2⟩
    have g12lt := r12.row.lt
    refine (unsnap_spec (c1 := c19) hparts (fun x hx => by
      simp only [List.mem_cons, List.not_mem_nil, or_false] at hx
      rcases hx with rfl | rfl
      · exact hlen0
      · exact hlen1)).mono ?_
    rintro e w177 ⟨v2, rfl, x177, hh⟩
    have y177 := x21.trans x177
    have q12 := r12.upd x177 id
    obtain ⟨os, p, c, rows2, z, rfl, hos, hz, own2, hr2⟩ : ∃ (os : List ObV) (p : Option Addr) (c : Nat) (rows2 : List Value) (z : Int), v2 = .tuple #[.slice p os.length c, .int .i64 z] ∧ os = (unD [v0.1.2, v1.1.2]).getD [] ∧ decide (z = 0) = (unD [v0.1.2, v1.1.2]).isSome ∧ OwnS w177 w21.heap.size 100 4 p os.length c rows2 ∧ RowsOb w177 w21.heap.size rows2 os := by
      rcases hh with ⟨os, p, c, rows2, hU, rfl, own2, hr2⟩ | ⟨hU, rfl⟩
      · exact ⟨os, p, c, rows2, 0, rfl, by rw [hU]; rfl, by rw [hU]; rfl, own2, hr2⟩
      · exact ⟨[], none, 0, [], 160, rfl, by rw [hU]; rfl, by rw [hU]; rfl, OwnS.nil _ _ _ _, RowsOb.nil _ _⟩
    refine ⟨_, _, _, _, rfl, q12.row.live (by simp), fun w181 s181 => ?_⟩
    have t12 := q12.set s181
    have u181 := setU s181
    refine ⟨_, t12.row.row.cell (n := 0) rfl, _, t12.row.row.cell rfl, _, _, _, t12.row.row.cell rfl, ?_⟩
    have fin2 : ∀ (w187 : World), Upd (fun x => x = k12) w181 w187 → ∀ wh, wh = (wholeB [v0, v1] v0.1.1 && (unD [v0.1.2, v1.1.2]).isSome) → arR g which s ks w (.tuple #[savedV which v0.1.1 p os.length c, .bool wh, .bool (seenB g which s ks 2), .int .i64 0]) w187 := fun w187 u187 wh hwh => by
      have uu : Upd (fun x => x = k12) w177 w187 := u181.trans u187 fun _ _ h => h
      refine ⟨upd_new y177 uu g12, fun h => (by rw [hdown] at h; cases h), fun _ => ⟨v0, v1, os, p, c, rows2, hV, hos, by rw [hwh], (own2.upd uu fun g' hg' hgk => by have := (own_ge own2 hg').1; omega).base_le z21, (hr2.upd uu fun x hx => by omega).base_le z21⟩⟩
    refine condB_of (fun hw => ?_) fun hw => ?_
    · refine fill3 (v0 := .int .i64 which) (v1 := .int .i64 v0.1.1) (v2 := .slice p os.length c) t12 fun w187 u187 t187 => ?_
      exact ⟨_, t187.row.row.cell (n := 0) rfl, _, t187.row.row.cell rfl, _, _, _, t187.row.row.cell rfl, fin2 w187 u187 _ (by rw [hw, Bool.true_and, hz])⟩
    · refine fill3 (v0 := .int .i64 which) (v1 := .int .i64 v0.1.1) (v2 := .slice p os.length c) t12 fun w187 u187 t187 => ?_
      exact ⟨_, t187.row.row.cell (n := 0) rfl, _, t187.row.row.cell rfl, _, _, _, t187.row.row.cell rfl, fin2 w187 u187 _ (by rw [hw, Bool.false_and])⟩
end Go.Proofs.Ytnfcfbljdibinaa

/- The latest checkpoint. -/
namespace Go.Proofs.Ytnfcfbljdibinaa
open Go Go.Vc

structure ARd where
  epoch : Int
  os : List ObV
  whole : Bool
  seen : Bool
/-- what an area tells -/
def AreaIs (g : Geo) (s : StA) (ks : List Bool) (which : Int) (r : ARd) : Prop := ∃ v0 v1 : Say × Nat, Reads g which s [v0, v1] ∧ r = ⟨v0.1.1, (unD [v0.1.2, v1.1.2]).getD [], wholeB [v0, v1] v0.1.1 && (unD [v0.1.2, v1.1.2]).isSome, seenB g which s ks 2⟩
structure LatV where
  found : Bool
  sure : Bool
  area : Int
  epoch : Int
  os : List ObV
def latS (A : Nat → ARd) : Nat → LatV
  | 0 => ⟨false, true, 0, 0, []⟩
  | i + 1 => if (A i).whole && (!(latS A i).found || decide ((latS A i).epoch < (A i).epoch)) then ⟨true, (latS A i).sure && ((A i).whole || (A i).seen), i, (A i).epoch, (A i).os⟩
    else { latS A i with sure := (latS A i).sure && ((A i).whole || (A i).seen) }
theorem latS_congr {A A' : Nat → ARd} : ∀ i, (∀ j, j < i → A j = A' j) → latS A i = latS A' i
  | 0, _ => rfl
  | i + 1, h => by
    have ih := latS_congr i fun j hj => h j (by omega)
    simp only [latS]
    rw [ih, h i (by omega)]

theorem RowsOb.upd1 {w w' : World} {base : Nat} {rows : List Value} {os : List ObV} (h : RowsOb w base rows os) {k : Nat} {e : TypeId} {cs : Array Value} (hk : RowT e w k cs) (hne : e ≠ 3) (hu : Upd (fun x => x = k) w w') : RowsOb w' base rows os := by
  refine ⟨h.len, fun i o hi => ?_⟩
  obtain ⟨q, n, c, h1, h2, h3, h4, h5, h6⟩ := h.row i o hi
  refine ⟨q, n, c, h1, h2, h3, h4, h5.upd hu fun g hg hs => ?_, h6⟩
  obtain ⟨cur, hc⟩ := (own_ge h5 hg).2.2
  exact type_ne hk (hs ▸ hc) hne

def latI (g : Geo) (s : StA) (ks : List Bool) (w : World) : Option Addr → Option Addr → Option Addr → World → Bool → Bool → Int → World → Prop := fun q9 q11 q28 _ b33 b34 n35 w36 =>
  ∃ (k9 k11 k28 i : Nat) (A : Nat → ARd) (p : Option Addr) (c : Nat) (rows : List Value), q9 = some (at0 k9) ∧ q11 = some (at0 k11) ∧ q28 = some (at0 k28) ∧ n35 = i ∧ i ≤ 2 ∧ w.heap.size ≤ k9 ∧ k9 < k11 ∧ k11 < k28 ∧ (i = 0 ∨ s.down = false) ∧ Ext w w36 ∧ RowT 24 w36 k9 (gRow g) ∧
    RowT 37 w36 k11 #[.int .i64 0, .int .i64 0, .slice none 0 0] ∧ RowT 37 w36 k28 #[.int .i64 (latS A i).area, .int .i64 (latS A i).epoch, .slice p (latS A i).os.length c] ∧ OwnS w36 w.heap.size 100 4 p (latS A i).os.length c rows ∧ RowsOb w36 w.heap.size rows (latS A i).os ∧
    (∀ j, j < i → AreaIs g s ks (j : Int) (A j)) ∧ b33 = (latS A i).found ∧ b34 = (latS A i).sure
def latM : Option Addr → Option Addr → Option Addr → World → Bool → Bool → Int → World → Nat := fun _ _ _ _ _ _ n35 _ => 5 - n35.toNat

def latR (g : Geo) (s : StA) (ks : List Bool) (w : World) : Value → World → Prop := fun v w' => Ext w w' ∧ (checkG g ≠ 0 → v = .tuple #[savedV 0 0 none 0 0, .int .i64 (checkG g)]) ∧ (checkG g = 0 → (s.down = true → v = .tuple #[savedV 0 0 none 0 0, .int .i64 130]) ∧
  (s.down = false → ∃ A : Nat → ARd, (∀ j : Nat, j < 2 → AreaIs g s ks (j : Int) (A j)) ∧ (((latS A 2).found && (latS A 2).sure) = false → v = .tuple #[savedV 0 0 none 0 0, .int .i64 150]) ∧
    (((latS A 2).found && (latS A 2).sure) = true → ∃ p c rows, v = .tuple #[savedV (latS A 2).area (latS A 2).epoch p (latS A 2).os.length c, .int .i64 0] ∧ OwnS w' w.heap.size 100 4 p (latS A 2).os.length c rows ∧ RowsOb w' w.heap.size rows (latS A 2).os)))

theorem lat_A4 {w w19 : World} {k11 : Nat} {z : Int} {R : Value → World → Prop} {I0 : Option Addr → Option Addr → Option Addr → World → Bool → Bool → Int → World → Prop} {M0 : Option Addr → Option Addr → Option Addr → World → Bool → Bool → Int → World → Nat}
    (hx : Ext w w19) (hk : w.heap.size ≤ k11) (hr : RowT 37 w19 k11 #[.int .i64 0, .int .i64 0, .slice none 0 0]) (hR : ∀ w', Ext w w' → R (.tuple #[savedV 0 0 none 0 0, .int .i64 z]) w') : F11_A4 w19 k11 z R I0 M0 := by
  refine fill3 (v0 := .int .i64 0) (v1 := .int .i64 0) (v2 := .slice none 0 0) hr fun w24 u24 r24 => ?_
  exact ⟨_, r24.row.row.cell (n := 0) rfl, _, r24.row.row.cell rfl, _, _, _, r24.row.row.cell rfl, hR _ (upd_new hx u24 hk)⟩

set_option maxHeartbeats 4000000 in
theorem mlatest_spec {w : World} {a : Nat} {s : StA} {F : Nat → Prop} (h : IsA w a s F) (ho : OkA s) (h1 : 1 ≤ s.M.length) (g : Geo) {p8 : Option Addr} {l8 c8 : Nat} {ks : List Bool} (hks : BoolsAt w p8 l8 ks) :
    Calls Try.prog 11 #[.pointer (some (at0 a)), gV g, .slice p8 l8 c8] w fun e w' => ∃ v, e = .returned v ∧ latR g s ks w v w' := by
  refine F11_calls (some (at0 a)) g.k g.m g.size g.stripes g.slots g.objects p8 l8 c8 w (latR g s ks w) (latI g s ks w) latM ?_
  intro k9 w10 hk9 k11 w12 hk11
  have s9 := hk9.size
  have s11 := hk11.size
  have x12 := hk9.ext.trans hk11.ext
  have r9 : RowT 24 w12 k9 (gRow g) := RowT.upd (show RowT _ w10 k9 (gRow g) from hk9.at) hk11.ext id
  have r11 : RowT 37 w12 k11 #[.int .i64 0, .int .i64 0, .slice none 0 0] := hk11.at
  refine ⟨_, r9.row.row.cell (n := 0) rfl, _, r9.row.row.cell rfl, _, r9.row.row.cell rfl, _, r9.row.row.cell rfl, _, r9.row.row.cell rfl, _, r9.row.row.cell rfl, (mcheck_spec (some (at0 a)) g w12).mono ?_⟩
  rintro e w19 ⟨rfl, x19⟩
  have hmc : mcheckZ (some (at0 a)) g = checkG g := rfl
  rw [hmc]
  refine ⟨_, rfl, condB_of (fun hn => ?_) fun hz => fun k28 w29 hk28 => ?_⟩
  · have hn' : checkG g ≠ 0 := by simpa using hn
    exact lat_A4 (x12.trans x19) (by omega) (r11.upd x19 id) fun w' hx => ⟨hx, fun _ => rfl, fun h => (hn' h).elim⟩
  have hz' : checkG g = 0 := by simpa using hz
  have s28 := hk28.size
  have z19 := x19.size
  refine ⟨⟨k9, k11, k28, 0, fun _ => ⟨0, [], false, false⟩, none, 0, [], rfl, rfl, rfl, rfl, by omega, by omega, by omega, by omega, .inl rfl, (x12.trans x19).trans hk28.ext, (r9.upd x19 id).upd hk28.ext id, (r11.upd x19 id).upd hk28.ext id, hk28.at, OwnS.nil _ _ _ _, RowsOb.nil _ _, fun j hj => by omega, rfl, rfl⟩, ?_⟩
  clear r9 r11 x12
  rintro b33 b34 n35 w36 ⟨k9', k11', k28', i, A, p, c, rows, e9, e11, e28, rfl, hi, g9, g911, g1128, hdn, x36, r9, r11, r28, own, hrows, hA, rfl, rfl⟩
  simp only [Option.some.injEq, at0, Addr.mk.injEq, and_true] at e9 e11 e28
  subst e9
  subst e11
  subst e28
  intros
  refine condB_of (fun hlt => ?_) (fun hge => ?_)
  · simp only [decide_eq_true_eq] at hlt
    refine ⟨_, r9.row.row.cell (n := 0) rfl, _, r9.row.row.cell rfl, _, r9.row.row.cell rfl, _, r9.row.row.cell rfl, _, r9.row.row.cell rfl, _, r9.row.row.cell rfl, (marea_spec ((h : IsArr w a _ _ _ F).ext x36) ho h1 g (hks.ext x36) (i : Int)).mono ?_⟩
    rintro e w86 ⟨v, rfl, x86, hd, hu⟩
    have z36 := x36.size
    have z86 := x86.size
    have h28lt := r28.row.lt
    cases hdown : s.down with
    | true =>
      obtain ⟨E, rfl⟩ := hd hdown
      refine ⟨_, _, _, _, _, _, _, _, rfl, fun k94 w95 hk94 => ?_⟩
      have s94 := hk94.size
      refine fill3 (e := 37) (v0 := .int .i64 (i : Int)) (v1 := .int .i64 E) (v2 := .slice none 0 0) hk94.at fun w98 u98 r98 => ?_
      have x98 : Ext w36 w98 := upd_new (x86.trans hk94.ext) u98 (by omega)
      refine condB_of (fun _ => lat_A4 (x36.trans x98) (by omega) (r11.upd x98 id) fun w' hx => ⟨hx, fun h => (h hz').elim, fun _ => ⟨fun _ => rfl, fun h => by rw [hdown] at h; cases h⟩⟩) fun h => by simp at h
    | false =>
      obtain ⟨v0, v1, os, p', c', rows2, hrd, hos, rfl, own2, hrows2⟩ := hu hdown
      refine ⟨_, _, _, _, _, _, _, _, rfl, fun k94 w95 hk94 => ?_⟩
      have s94 := hk94.size
      refine fill3 (e := 37) (v0 := .int .i64 (i : Int)) (v1 := .int .i64 v0.1.1) (v2 := .slice p' os.length c') hk94.at fun w98 u98 r98 => ?_
      have x98' : Ext w86 w98 := upd_new hk94.ext u98 (by omega)
      have x98 : Ext w36 w98 := x86.trans x98'
      have q28 := r28.upd x98 id
      generalize hwh : (wholeB [v0, v1] v0.1.1 && (unD [v0.1.2, v1.1.2]).isSome) = wh
      generalize hsn : seenB g (i : Int) s ks 2 = sn
      obtain ⟨r, hr⟩ : ∃ r : ARd, r = ⟨v0.1.1, os, wh, sn⟩ := ⟨_, rfl⟩
      obtain ⟨A', hA'⟩ : ∃ A' : Nat → ARd, A' = fun j => if j = i then r else A j := ⟨_, rfl⟩
      have hAi : A' i = r := by rw [hA']; simp
      have hAr : AreaIs g s ks (i : Int) r := ⟨v0, v1, hrd, by rw [hr, hos, hwh, hsn]⟩
      have hcong : latS A' i = latS A i := latS_congr i fun j hj => by rw [hA']; simp [show j ≠ i by omega]
      have hall : ∀ j, j < i + 1 → AreaIs g s ks (j : Int) (A' j) := fun j hj => by
        by_cases hji : j = i
        · subst hji; rw [hAi]; exact hAr
        · rw [hA']; simp only [hji, if_false]; exact hA j (by omega)
      have hstep : latS A' (i + 1) = if wh && (!(latS A i).found || decide ((latS A i).epoch < v0.1.1)) then ⟨true, (latS A i).sure && (wh || sn), i, v0.1.1, os⟩ else { latS A i with sure := (latS A i).sure && (wh || sn) } := by
        rw [latS, hcong, hAi, hr]
      have hwr : IntKind.i64.wrap ((i : Int) + 1) = (i : Int) + 1 := w64 (by omega)
      have mu : 5 - (IntKind.i64.wrap ((i : Int) + 1)).toNat < 5 - (i : Int).toNat := by rw [hwr]; omega
      have base : ∀ {wx : World}, Ext w36 wx → RowT 37 wx k28 #[.int .i64 (latS A i).area, .int .i64 (latS A i).epoch, .slice p (latS A i).os.length c] → (wh && (!(latS A i).found || decide ((latS A i).epoch < v0.1.1))) = false → ∀ b34', b34' = ((latS A i).sure && (wh || sn)) →
          latI g s ks w (some (at0 k9)) (some (at0 k11)) (some (at0 k28)) w29 (latS A i).found b34' (IntKind.i64.wrap ((i : Int) + 1)) wx := fun {wx} hx hk hf b34' hb => by
        rw [hf] at hstep
        have hst2 : latS A' (i + 1) = { latS A i with sure := (latS A i).sure && (wh || sn) } := by rw [hstep]; rfl
        exact ⟨k9, k11, k28, i + 1, A', p, c, rows, rfl, rfl, rfl, by rw [hwr]; omega, by omega, g9, g911, g1128, .inr hdown, x36.trans hx, r9.upd hx id, r11.upd hx id, by rw [hst2]; exact hk, by rw [hst2]; exact own.ext hx, by rw [hst2]; exact hrows.ext hx, hall, by rw [hst2], by rw [hst2]; exact hb⟩
      have take : ∀ (b34' : Bool) (wx : World), Upd (fun x => x = k28) w98 wx → RowT 37 wx k28 #[.int .i64 (i : Int), .int .i64 v0.1.1, .slice p' os.length c'] → (wh && (!(latS A i).found || decide ((latS A i).epoch < v0.1.1))) = true → b34' = ((latS A i).sure && (wh || sn)) →
          latI g s ks w (some (at0 k9)) (some (at0 k11)) (some (at0 k28)) w29 true b34' (IntKind.i64.wrap ((i : Int) + 1)) wx := fun b34' wx ux hk ht hb => by
        rw [ht] at hstep
        have hst2 : latS A' (i + 1) = ⟨true, (latS A i).sure && (wh || sn), i, v0.1.1, os⟩ := by rw [hstep]; rfl
        have o98 := own2.ext x98'
        have own3 : OwnS wx w.heap.size 100 4 p' os.length c' rows2 := (o98.upd ux fun g' hg' hgk => by
          obtain ⟨cur, hc⟩ := (own_ge o98 hg').2.2
          exact type_ne q28 (hgk ▸ hc) (by decide)).base_le z36
        exact ⟨k9, k11, k28, i + 1, A', p', c', rows2, rfl, rfl, rfl, by rw [hwr]; omega, by omega, g9, g911, g1128, .inr hdown, upd_new (x36.trans x98) ux (by omega), (r9.upd x98 id).upd ux (by omega), (r11.upd x98 id).upd ux (by omega), by rw [hst2]; exact hk, by rw [hst2]; exact own3, by rw [hst2]; exact ((hrows2.ext x98').upd1 q28 (by decide) ux).base_le z36, hall, by rw [hst2], by rw [hst2]; exact hb⟩
      refine condB_of (fun h => by simp at h) fun _ => ?_
      refine condB_of (fun h34 => condB_of (fun hw => condB_of (fun _ => condB_of (fun hf => ?_) fun hf => ⟨_, r98.row.row.cell rfl, _, q28.row.row.cell rfl, condB_of (fun hlt2 => ?_) fun hnl => ⟨base x98 q28 ?_ _ ?_, mu⟩⟩) fun h => by rw [hw] at h; cases h) fun hw => condB_of (fun h => by rw [hw] at h; cases h) fun _ => ⟨base x98 q28 ?_ _ ?_, mu⟩) fun h34 => condB_of (fun hw => condB_of (fun hf => ?_) fun hf => ⟨_, r98.row.row.cell rfl, _, q28.row.row.cell rfl, condB_of (fun hlt2 => ?_) fun hnl => ⟨base x98 q28 ?_ _ ?_, mu⟩⟩) fun hw => ⟨base x98 q28 ?_ _ ?_, mu⟩
      · refine ⟨_, r98.row.row.cell (n := 0) rfl, _, r98.row.row.cell rfl, _, _, _, r98.row.row.cell rfl, fill3 (v0 := .int .i64 (i : Int)) (v1 := .int .i64 v0.1.1) (v2 := .slice p' os.length c') q28 fun wx ux rx => ⟨take _ wx ux rx ?_ ?_, mu⟩⟩
        · rw [hw]; simp only [Bool.not_eq_true'] at hf; rw [hf]; rfl
        · rw [h34, hw]; rfl
      · refine ⟨_, r98.row.row.cell (n := 0) rfl, _, r98.row.row.cell rfl, _, _, _, r98.row.row.cell rfl, fill3 (v0 := .int .i64 (i : Int)) (v1 := .int .i64 v0.1.1) (v2 := .slice p' os.length c') q28 fun wx ux rx => ⟨take _ wx ux rx ?_ ?_, mu⟩⟩
        · rw [hw, hlt2]; simp
        · rw [h34, hw]; rfl
      · rw [hw, hnl]; simp only [Bool.not_eq_false'] at hf; rw [hf]; rfl
      · rw [h34, hw]; rfl
      · rw [hw]; rfl
      · rw [h34, hw]; rfl
      · refine ⟨_, r98.row.row.cell (n := 0) rfl, _, r98.row.row.cell rfl, _, _, _, r98.row.row.cell rfl, fill3 (v0 := .int .i64 (i : Int)) (v1 := .int .i64 v0.1.1) (v2 := .slice p' os.length c') q28 fun wx ux rx => ⟨take _ wx ux rx ?_ ?_, mu⟩⟩
        · rw [hw]; simp only [Bool.not_eq_true'] at hf; rw [hf]; rfl
        · rw [h34]; rfl
      · refine ⟨_, r98.row.row.cell (n := 0) rfl, _, r98.row.row.cell rfl, _, _, _, r98.row.row.cell rfl, fill3 (v0 := .int .i64 (i : Int)) (v1 := .int .i64 v0.1.1) (v2 := .slice p' os.length c') q28 fun wx ux rx => ⟨take _ wx ux rx ?_ ?_, mu⟩⟩
        · rw [hw, hlt2]; simp
        · rw [h34]; rfl
      · rw [hw, hnl]; simp only [Bool.not_eq_false'] at hf; rw [hf]; rfl
      · rw [h34]; rfl
      · rw [hw]; rfl
      · rw [h34]; rfl
  · simp only [decide_eq_false_iff_not] at hge
    have hi2 : i = 2 := by omega
    subst hi2
    have hdown : s.down = false := hdn.resolve_left (by omega)
    have z36 := x36.size
    have no : ((latS A 2).found && (latS A 2).sure) = false → ∀ {I0 : Option Addr → Option Addr → Option Addr → World → Bool → Bool → Int → World → Prop} {M0 : Option Addr → Option Addr → Option Addr → World → Bool → Bool → Int → World → Nat}, F11_A3 w36 k11 (latR g s ks w) I0 M0 := fun hf {I0 M0} => by
      refine fill3 (v0 := .int .i64 0) (v1 := .int .i64 0) (v2 := .slice none 0 0) r11 fun w24 u24 r24 => ?_
      exact ⟨_, r24.row.row.cell (n := 0) rfl, _, r24.row.row.cell rfl, _, _, _, r24.row.row.cell rfl, upd_new x36 u24 (by omega), fun h => (h hz').elim, fun _ => ⟨fun h => (by rw [hdown] at h; cases h), fun _ => ⟨A, hA, fun _ => rfl, fun h => by rw [hf] at h; cases h⟩⟩⟩
    refine condB_of (fun hf => no ?_) fun hf => condB_of (fun hsu => no ?_) fun hsu => ⟨_, r28.row.row.cell (n := 0) rfl, _, r28.row.row.cell rfl, _, _, _, r28.row.row.cell rfl, ?_⟩
    · simp only [Bool.not_eq_true'] at hf; rw [hf]; rfl
    · simp only [Bool.not_eq_true'] at hsu; rw [hsu, Bool.and_false]
    · simp only [Bool.not_eq_false'] at hf hsu
      refine fill3 (v0 := .int .i64 (latS A 2).area) (v1 := .int .i64 (latS A 2).epoch) (v2 := .slice p (latS A 2).os.length c) r11 fun w164 u164 r164 => ?_
      refine ⟨_, r164.row.row.cell (n := 0) rfl, _, r164.row.row.cell rfl, _, _, _, r164.row.row.cell rfl, upd_new x36 u164 (by omega), fun h => (h hz').elim, fun _ => ⟨fun h => (by rw [hdown] at h; cases h), fun _ => ⟨A, hA, fun h => (by rw [hf, hsu] at h; cases h), fun _ => ⟨p, c, rows, rfl, own.upd u164 fun g' hg' hgk => ?_, hrows.upd1 r11 (by decide) u164⟩⟩⟩⟩
      obtain ⟨cur, hc⟩ := (own_ge own hg').2.2
      exact type_ne r11 (hgk ▸ hc) (by decide)
end Go.Proofs.Ytnfcfbljdibinaa

/- A vote that is read, with room for its data. -/
namespace Go.Proofs.Ytnfcfbljdibinaa
open Go Go.Vc

theorem ofStrC (w : World) (d : List UInt8) (hl : d.length ≤ 4096) : ∃ c w', Sem.run Try.prog (convert 9 48 (.string (bstr d))) w = .ok (.slice (some (at0 w.heap.size)) d.length c) w' ∧ Ext w w' ∧ BytesAt w' (some (at0 w.heap.size)) d.length d ∧ w.heap.size < w'.heap.size ∧ (d.length ≤ c ∧ c ≤ 9223372036854775807) := by
  have hr := run_bytes_of_string (P := Try.prog) w 9 48 5 (bstr d) (by kernel_rfl) (by kernel_rfl) (by kernel_rfl)
  rw [bstr_size] at hr
  have hx : Ext w w.drew := Quiet.ext ⟨rfl, rfl, rfl, rfl⟩
  refine ⟨_, _, hr, ?_, ?_, by show w.heap.size < (w.heap.push _).size; simp, grownCap_ge _ _ _ _, ?_⟩
  · refine ⟨rfl, rfl, rfl, by show w.heap.size ≤ (w.heap.push _).size; simp, fun k hk _ => ?_⟩
    show (w.heap.push _)[k]? = _
    rw [Array.getElem?_push, if_neg (by omega)]
  · refine BytesAt.of_cells fun j u hj => ⟨_, rfl, Row.cell ⟨_, _, by show (w.heap.push _)[w.heap.size]? = _; rw [Array.getElem?_push, if_pos rfl]⟩ ?_⟩
    have hj' : j < d.length := by
      have := (List.getElem?_eq_some_iff.1 hj).1
      simpa [encB] using this
    unfold bytesRow
    rw [Array.getElem?_append_left (by simp [bstr, hj'])]
    simpa [bstr, encB] using hj
  · have := grownCap_le_maxLen w d.length 0 5 (by unfold maxLen; omega)
    unfold maxLen at this
    omega

section
variable {w : World} {a : Nat} {M : List Mem} {left : Int} {down : Bool} {F : Nat → Prop}

set_option maxHeartbeats 4000000 in
theorem vread_specC (h : IsArr w a M left false F) (hM : M.length ≤ 100) (h1 : 1 ≤ M.length) {p2 : Option Addr} {l2 c2 : Nat} {ks : List Bool} (hks : BoolsAt w p2 l2 ks) (n : Int) :
    Calls Try.prog 38 #[.pointer (some (at0 a)), .slice p2 l2 c2, .int .i64 n] w fun e w' => Ext w w' ∧ ∃ v b c k cc, e = .returned (.tuple #[v, .int .i64 0]) ∧ Told w w' (saysM n M) ks v b c k cc ∧ (b.2.length ≤ cc ∧ cc ≤ 9223372036854775807) := by
  refine (F38_calls (some (at0 a)) p2 l2 c2 n w (fun v w' => Ext w w' ∧ ∃ v1 b c k cc, v = .tuple #[v1, .int .i64 0] ∧ Told w w' (saysM n M) ks v1 b c k cc ∧ (b.2.length ≤ cc ∧ cc ≤ 9223372036854775807))
    (fun p4 p33 p8 l8 _ _ w39 n46 w47 => ∃ (k4 k33 kd i : Nat) (b : Say) (c cc : Nat), p4 = some (at0 k4) ∧ p33 = some (at0 k33) ∧ l8 = M.length ∧ n46 = i ∧ i ≤ M.length ∧ w.heap.size ≤ k4 ∧ w.heap.size ≤ k33 ∧ k4 ≠ k33 ∧ w.heap.size ≤ kd ∧ kd ≠ k4 ∧ kd ≠ k33 ∧ Ext w w47 ∧
      CellsAt w47 p8 (saidsV (saysM n M)) ∧ (∀ a, p8 = some a → a.block ≠ k33) ∧ RowW w47 k4 #[.bool false, .int .i64 0, .slice none 0 0, .int .i64 0, .bool false] ∧ Best (sayL (saysM n M)) b c ∧
      RowW w47 k33 #[.bool (decide (0 < c)), .int .i64 b.1, .slice (some (at0 kd)) b.2.length cc, .int .i64 (c : Int), .bool (wit ks ((saysM n M).take i))] ∧ BytesAt w47 (some (at0 kd)) b.2.length b.2 ∧ (b.2.length ≤ cc ∧ cc ≤ 9223372036854775807))
    (fun _ _ _ _ _ _ _ n46 _ => 100 - n46.toNat) ?_).mono (by rintro e w' ⟨v, rfl, hx, v1, b, c, k, cc, rfl, h⟩; exact ⟨hx, v1, b, c, k, cc, rfl, h⟩)
  unfold F38
  intro k4 w5 hk4
  have s4 : w.heap.size ≤ k4 := by rw [hk4.size.1]; exact Nat.le_refl _
  refine (ask_spec (h.ext hk4.ext) hM h1 n).mono ?_
  rintro e w6 ⟨x6, h6⟩
  rw [if_neg (by simp)] at h6
  obtain ⟨p8, c8, rfl, ho⟩ := h6
  refine ⟨_, _, _, _, rfl, condB_of (fun h => by cases h) fun _ => ?_⟩
  have hls : (saysM n M).length = M.length := by simp [saysM]
  refine (count_spec (L := saysM n M) (by rw [hls]) ho.cells (by omega)).mono ?_
  rintro e w20 ⟨x20, b, c, hb, rfl⟩
  refine ⟨_, _, _, rfl, fun k25 w26 hk25 => ?_⟩
  have xa : Ext w w20 := (hk4.ext.trans x6).trans x20
  have s25 : w20.heap.size ≤ k25 := by rw [hk25.size.1]; exact Nat.le_refl _
  have r26 : RowW w26 k25 _ := ⟨_, hk25.at⟩
  have e25 : (at0 k25) = (at0 k25).add 0 := (add_at0 k25 0).symm
  refine ⟨by rw [e25]; exact r26.live (by simp), fun w27 s27 => ?_⟩
  rw [e25] at s27
  have r27 := s27.row r26
  refine ⟨r27.live (by simp), fun w28 s28 => ?_⟩
  have r28 := s28.row r27
  have x28 : Ext w20 w28 := setc_new (setc_new hk25.ext s25 s27) s25 s28
  refine ⟨_, r28.row.cell rfl, _, r28.row.cell rfl, ?_⟩
  obtain ⟨cc, w31, hr, x31, hd, sz31, hcc⟩ := ofStrC w28 b.2 (msay_len hb)
  have xb : Ext w w31 := (xa.trans x28).trans x31
  refine ⟨_, _, _, w31, hr, fun k33 w34 hk33 => ?_⟩
  have s33 : w31.heap.size ≤ k33 := by rw [hk33.size.1]; exact Nat.le_refl _
  have e33 : (at0 k33) = (at0 k33).add 0 := (add_at0 k33 0).symm
  have r34 : RowW w34 k33 _ := ⟨_, hk33.at⟩
  refine ⟨by rw [e33]; exact r34.live (by simp), fun w35 s35 => ?_⟩
  rw [e33] at s35
  have r35 := s35.row r34
  refine ⟨r35.live (by simp), fun w36 s36 => ?_⟩
  have r36 := s36.row r35
  refine ⟨r36.live (by simp), fun w37 s37 => ?_⟩
  have r37 := s37.row r36
  refine ⟨r37.live (by simp), fun w38 s38 => ?_⟩
  have r38 := s38.row r37
  refine ⟨r38.live (by simp), fun w39 s39 => ?_⟩
  have r39 := s39.row r38
  have x39 : Ext w31 w39 := setc_new (setc_new (setc_new (setc_new (setc_new hk33.ext s33 s35) s33 s36) s33 s37) s33 s38) s33 s39
  have xc : Ext w w39 := xb.trans x39
  have d39 : BytesAt w39 (some (at0 w28.heap.size)) b.2.length b.2 := hd.ext x39
  have sd : w.heap.size ≤ w28.heap.size := (xa.trans x28).size
  have k4lt : k4 < w28.heap.size := Nat.lt_of_lt_of_le (lt_of_heap hk4.at) ((x6.trans x20).trans x28).size
  have hpb : ∀ a, p8 = some a → a.block < w28.heap.size := by
    intro a ha
    rcases ho.where_ with ⟨h0, _⟩ | ⟨g, h0, _, hlt, _⟩
    · rw [h0] at ha; cases ha
    · rw [h0] at ha
      cases ha
      exact Nat.lt_of_lt_of_le hlt (x20.trans x28).size
  have hk33ne : k4 ≠ k33 := by omega
  refine ⟨⟨k4, k33, w28.heap.size, 0, b, c, cc, rfl, rfl, rfl, rfl, Nat.zero_le _, s4, by omega, hk33ne, sd, by omega, by omega, xc,
    ho.cells.ext (((x20.trans x28).trans x31).trans x39), fun a ha => by have := hpb a ha; omega, ((((x6.trans x20).trans x28).trans x31).trans x39).rowW ⟨_, hk4.at⟩ id, hb, ?_, d39, hcc⟩, ?_⟩
  · have : decide ((0 : Int) < (c : Int)) = decide (0 < c) := by rw [decide_eq_decide]; omega
    rw [this] at r39
    have hw0 : wit ks ((saysM n M).take 0) = false := by simp [wit]
    rw [hw0]
    exact r39
  rintro n46 w47 ⟨k4', k33', kd, i, b, c, cc, e1, e2, _, rfl, hi, _, s33', hne, sd', hd4, hd33, x47, hcs, hpk, r4, hb, r33, d47, hcc⟩
  simp only [Option.some.injEq, at0, Addr.mk.injEq, and_true] at e1 e2
  subst e1
  subst e2
  intros
  refine condB_of (fun hlt => ?_) (fun hge => ?_)
  · simp only [decide_eq_true_eq] at hlt
    obtain ⟨s, hsI⟩ : ∃ s, (saysM n M)[i]? = some s := ⟨(saysM n M)[i]'(by omega), List.getElem?_eq_getElem _⟩
    obtain ⟨pa, rfl, c0⟩ := hcs (i * 4 + 0) _ (saidsV_at hsI (j := 0) rfl)
    have ccs : ∀ j v, (saidV s)[j]? = some v → w47.cell? ((pa.add (i * 4)).add j) = some v := by
      intro j v hj
      obtain ⟨a', ha', h'⟩ := hcs (i * 4 + j) v (saidsV_at hsI hj)
      cases ha'
      rw [add_add]; exact h'
    rw [Int.toNat_natCast]
    refine ⟨⟨by omega, hlt⟩, _, c0, _, ccs 1 _ rfl, _, ccs 2 _ rfl, _, ccs 3 _ rfl, fun k79 w80 hk79 => ?_⟩
    have hk0 : w47.heap.size ≤ k79 := by rw [hk79.size.1]; exact Nat.le_refl _
    have r80 : RowW w80 k79 _ := ⟨_, hk79.at⟩
    have e79 : (at0 k79) = (at0 k79).add 0 := (add_at0 k79 0).symm
    refine ⟨by rw [e79]; exact r80.live (by simp), fun w81 s81 => ?_⟩
    rw [e79] at s81
    have r81 := s81.row r80
    refine ⟨r81.live (by simp), fun w82 s82 => ?_⟩
    have r82 := s82.row r81
    refine ⟨r82.live (by simp), fun w83 s83 => ?_⟩
    have r83 := s83.row r82
    refine ⟨r83.live (by simp), fun w84 s84 => ?_⟩
    have r84 : RowW w84 k79 #[.int .i64 s.epoch, .string (bstr s.data), .bool s.is, .bool s.none] := s84.row r83
    have x84 : Ext w47 w84 := setc_new (setc_new (setc_new (setc_new hk79.ext hk0 s81) hk0 s82) hk0 s83) hk0 s84
    have hw : IntKind.i64.wrap ((i : Int) + 1) = ((i + 1 : Nat) : Int) := by rw [w64 (by omega)]; omega
    rw [hw]
    have hstep := wit_step (ks := ks) hsI
    have r33' : RowW w84 k33 _ := x84.rowW r33 id
    have mu : 100 - (((i + 1 : Nat) : Int)).toNat < 100 - ((i : Int)).toNat := by omega
    have keep : witF (ks.getD i false, s) = false → _ := fun hf => (show
        (∃ (k4_1 k33_1 kd i_1 : Nat) (b : Say) (c cc : Nat), some (at0 k4) = some (at0 k4_1) ∧ some (at0 k33) = some (at0 k33_1) ∧ M.length = M.length ∧ ((i + 1 : Nat) : Int) = i_1 ∧ i_1 ≤ M.length ∧ w.heap.size ≤ k4_1 ∧ w.heap.size ≤ k33_1 ∧ k4_1 ≠ k33_1 ∧ w.heap.size ≤ kd ∧ kd ≠ k4_1 ∧ kd ≠ k33_1 ∧ Ext w w84 ∧
      CellsAt w84 (some pa) (saidsV (saysM n M)) ∧ (∀ a, some pa = some a → a.block ≠ k33_1) ∧ RowW w84 k4_1 #[.bool false, .int .i64 0, .slice none 0 0, .int .i64 0, .bool false] ∧ Best (sayL (saysM n M)) b c ∧
      RowW w84 k33_1 #[.bool (decide (0 < c)), .int .i64 b.1, .slice (some (at0 kd)) b.2.length cc, .int .i64 (c : Int), .bool (wit ks ((saysM n M).take i_1))] ∧ BytesAt w84 (some (at0 kd)) b.2.length b.2 ∧ (b.2.length ≤ cc ∧ cc ≤ 9223372036854775807)) ∧ 100 - (((i + 1 : Nat) : Int)).toNat < 100 - ((i : Int)).toNat from
        ⟨⟨k4, k33, kd, i + 1, b, c, cc, rfl, rfl, rfl, rfl, by omega, s4, s33', hne, sd', hd4, hd33, x47.trans x84, hcs.ext x84, hpk, x84.rowW r4 id, hb, by rw [hstep, hf, Bool.or_false]; exact r33', d47.ext x84, hcc⟩, mu⟩)
    have set : witF (ks.getD i false, s) = true → ∀ w88, SetC w84 ((at0 k33).add 4) (.bool true) w88 → _ := fun hf w88 s88 => (show
        (∃ (k4_1 k33_1 kd i_1 : Nat) (b : Say) (c cc : Nat), some (at0 k4) = some (at0 k4_1) ∧ some (at0 k33) = some (at0 k33_1) ∧ M.length = M.length ∧ ((i + 1 : Nat) : Int) = i_1 ∧ i_1 ≤ M.length ∧ w.heap.size ≤ k4_1 ∧ w.heap.size ≤ k33_1 ∧ k4_1 ≠ k33_1 ∧ w.heap.size ≤ kd ∧ kd ≠ k4_1 ∧ kd ≠ k33_1 ∧ Ext w w88 ∧
      CellsAt w88 (some pa) (saidsV (saysM n M)) ∧ (∀ a, some pa = some a → a.block ≠ k33_1) ∧ RowW w88 k4_1 #[.bool false, .int .i64 0, .slice none 0 0, .int .i64 0, .bool false] ∧ Best (sayL (saysM n M)) b c ∧
      RowW w88 k33_1 #[.bool (decide (0 < c)), .int .i64 b.1, .slice (some (at0 kd)) b.2.length cc, .int .i64 (c : Int), .bool (wit ks ((saysM n M).take i_1))] ∧ BytesAt w88 (some (at0 kd)) b.2.length b.2 ∧ (b.2.length ≤ cc ∧ cc ≤ 9223372036854775807)) ∧ 100 - (((i + 1 : Nat) : Int)).toNat < 100 - ((i : Int)).toNat from by
        have u88 := s88.upd
        rw [add_block] at u88
        have r88 := s88.row r33'
        refine ⟨⟨k4, k33, kd, i + 1, b, c, cc, rfl, rfl, rfl, rfl, by omega, s4, s33', hne, sd', hd4, hd33, setc_new (x47.trans x84) s33' s88, (hcs.ext x84).upd u88 (fun a ha _ => hpk a ha), hpk, u88.rowW (x84.rowW r4 id) hne, hb, ?_, (d47.ext x84).upd u88 (fun a ha _ => by cases ha; exact hd33), hcc⟩, mu⟩
        rw [hstep, hf, Bool.or_true]
        exact r88)
    refine condB_of (fun h2 => ?_) (fun h2 => ?_)
    · simp only [decide_eq_true_eq] at h2
      obtain ⟨a2, rfl, hc2⟩ := (hks.ext (x47.trans x84)).get (i := i) (by omega)
      refine ⟨⟨by omega, h2⟩, _, hc2, condB_of (fun h3 => ?_) (fun h3 => ?_)⟩
      · refine ⟨_, r84.row.cell rfl, condB_of (fun h4 => ?_) (fun h4 => ?_)⟩
        · exact ⟨r33'.live (by simp), set (by show (ks.getD i false && (s.is || s.none)) = _; rw [h3, h4]; rfl)⟩
        · refine ⟨_, r84.row.cell rfl, condB_of (fun h5 => ?_) (fun h5 => ?_)⟩
          · exact ⟨r33'.live (by simp), set (by show (ks.getD i false && (s.is || s.none)) = _; rw [h3, h5]; exact Bool.or_true _)⟩
          · exact keep (by show (ks.getD i false && (s.is || s.none)) = _; rw [h4, h5]; exact Bool.and_false _)
      · exact keep (by show (ks.getD i false && (s.is || s.none)) = _; rw [h3]; rfl)
    · simp only [decide_eq_false_iff_not] at h2
      have : ks.getD i false = false := by
        have := hks.1
        rw [List.getD_eq_getElem?_getD, List.getElem?_eq_none (by omega)]; rfl
      exact keep (by show (ks.getD i false && (s.is || s.none)) = _; rw [this]; rfl)
  · simp only [decide_eq_false_iff_not] at hge
    have hil : i = M.length := by omega
    have htk : (saysM n M).take i = saysM n M := List.take_of_length_le (by omega)
    rw [htk] at r33
    have e4 : (at0 k4) = (at0 k4).add 0 := (add_at0 k4 0).symm
    refine ⟨_, by rw [e33]; exact r33.row.cell rfl, _, r33.row.cell rfl, _, _, _, r33.row.cell rfl, _, r33.row.cell rfl, _, r33.row.cell rfl, ?_⟩
    refine ⟨by rw [e4]; exact r4.live (by simp), fun w96 s96 => ?_⟩
    rw [e4] at s96
    have r96 := s96.row r4
    refine ⟨r96.live (by simp), fun w97 s97 => ?_⟩
    have r97 := s97.row r96
    refine ⟨r97.live (by simp), fun w98 s98 => ?_⟩
    have r98 := s98.row r97
    refine ⟨r98.live (by simp), fun w99 s99 => ?_⟩
    have r99 := s99.row r98
    refine ⟨r99.live (by simp), fun w100 s100 => ?_⟩
    have r100 := s100.row r99
    have x100 : Ext w w100 := setc_new (setc_new (setc_new (setc_new (setc_new x47 s4 s96) s4 s97) s4 s98) s4 s99) s4 s100
    refine ⟨_, by rw [e4]; exact r100.row.cell rfl, _, r100.row.cell rfl, _, _, _, r100.row.cell rfl, _, r100.row.cell rfl, _, r100.row.cell rfl, x100, _, b, c, kd, cc, rfl, ⟨hb, rfl, sd', ?_⟩, hcc⟩
    have u : ∀ {j : Nat} {v : Value} {wa wb : World}, SetC wa ((at0 k4).add j) v wb → BytesAt wa (some (at0 kd)) b.2.length b.2 → BytesAt wb (some (at0 kd)) b.2.length b.2 := by
      intro j v wa wb hs hB
      have hu := hs.upd
      rw [add_block] at hu
      exact hB.upd hu fun a ha _ => by cases ha; exact hd4
    exact u s100 (u s99 (u s98 (u s97 (u s96 d47))))
end
end Go.Proofs.Ytnfcfbljdibinaa

/- What the journal holds: records of an own slice. -/
namespace Go.Proofs.Ytnfcfbljdibinaa
open Go Go.Vc

/-- records of an own slice -/
structure RowsRc (w : World) (base : Nat) (rows : List Value) (os : List RecV) : Prop where
  len : rows.length = 4 * os.length
  row : ∀ i o, os[i]? = some o → ∃ q n c, rows[i * 4 + 0]? = some (.int .i64 o.kind) ∧ rows[i * 4 + 1]? = some (.string (bstr o.key)) ∧ rows[i * 4 + 2]? = some (.int .i64 o.len) ∧ rows[i * 4 + 3]? = some (.slice q n c) ∧ OwnS w base 3 1 q n c (encI o.st) ∧ n ≤ 70000
theorem RowsRc.nil (w : World) (base : Nat) : RowsRc w base [] [] := ⟨rfl, fun i o h => by simp at h⟩
theorem RowsRc.upd {S : Nat → Prop} {w w' : World} {base : Nat} {rows : List Value} {os : List RecV} (h : RowsRc w base rows os) (hu : Upd S w w') (hS : ∀ x, S x → x < base) : RowsRc w' base rows os := by
  refine ⟨h.len, fun i o hi => ?_⟩
  obtain ⟨q, n, c, h1, h2, h3, h4, h5, h6⟩ := h.row i o hi
  refine ⟨q, n, c, h1, h2, h3, h4, h5.upd hu fun g hg hs => ?_, h6⟩
  have := hS g hs
  rcases h5.where_ with ⟨h0, _⟩ | ⟨g', h0, hge, _⟩
  · rw [h0] at hg; cases hg
  · rw [h0] at hg
    simp only [Option.some.injEq, at0, Addr.mk.injEq, and_true] at hg
    omega
theorem RowsRc.ext {w w' : World} {base : Nat} {rows : List Value} {os : List RecV} (h : RowsRc w base rows os) (hx : Ext w w') : RowsRc w' base rows os := h.upd hx fun _ h => h.elim
theorem RowsRc.base_le {w : World} {base base' : Nat} {rows : List Value} {os : List RecV} (h : RowsRc w base rows os) (hb : base' ≤ base) : RowsRc w base' rows os := by
  refine ⟨h.len, fun i o hi => ?_⟩
  obtain ⟨q, n, c, h1, h2, h3, h4, h5, h6⟩ := h.row i o hi
  exact ⟨q, n, c, h1, h2, h3, h4, h5.base_le hb, h6⟩
/-- an own slice of another type is written -/
theorem RowsRc.keep {w w' : World} {base : Nat} {rows : List Value} {os : List RecV} (h : RowsRc w base rows os) {base2 : Nat} {p : Option Addr} {n c : Nat} {xs : List Value} (own : OwnS w base2 27 4 p n c xs) (hu : Upd (fun b => p = some (at0 b)) w w') : RowsRc w' base rows os := by
  have hk := KeepT.of_own own hu
  refine ⟨h.len, fun i o hi => ?_⟩
  obtain ⟨q, n', c', h1, h2, h3, h4, h5, h6⟩ := h.row i o hi
  refine ⟨q, n', c', h1, h2, h3, h4, h5.upd hu fun g hg hs => ?_, h6⟩
  rcases h5.where_ with ⟨h0, _⟩ | ⟨g', h0, _, _, _, cur, hc, _⟩
  · rw [h0] at hg; cases hg
  · rw [h0] at hg
    simp only [Option.some.injEq, at0, Addr.mk.injEq, and_true] at hg
    subst hg
    rcases own.where_ with ⟨h0', _⟩ | ⟨g2, h0', _, _, _, cur2, hc2, _⟩
    · rw [h0'] at hs; cases hs
    · rw [h0'] at hs
      simp only [Option.some.injEq, at0, Addr.mk.injEq, and_true] at hs
      subst hs
      rw [hc] at hc2
      have : 3 = 27 := by simpa using (Option.some.inj hc2 |> fun e => (Obj.cells.inj e).2.1)
      exact absurd this (by decide)
theorem RowsRc.snoc {w : World} {base : Nat} {rows : List Value} {os : List RecV} (h : RowsRc w base rows os) {o : RecV} {q : Option Addr} {n c : Nat} (own : OwnS w base 3 1 q n c (encI o.st)) (hn : n ≤ 70000) : RowsRc w base (rows ++ [.int .i64 o.kind, .string (bstr o.key), .int .i64 o.len, .slice q n c]) (os ++ [o]) := by
  have hl := h.len
  refine ⟨by simp [hl]; omega, fun i x hi => ?_⟩
  rw [List.getElem?_append] at hi
  split at hi
  · rename_i hlt
    obtain ⟨q', n', c', h1, h2, h3, h4, h5⟩ := h.row i x hi
    have hb : ∀ k, k < 4 → i * 4 + k < rows.length := fun k hk => by omega
    exact ⟨q', n', c', by rw [List.getElem?_append_left (hb 0 (by omega))]; exact h1, by rw [List.getElem?_append_left (hb 1 (by omega))]; exact h2, by rw [List.getElem?_append_left (hb 2 (by omega))]; exact h3, by rw [List.getElem?_append_left (hb 3 (by omega))]; exact h4, h5⟩
  · rename_i hge
    have hi0 : i - os.length = 0 := by
      rcases hq : i - os.length with _ | k
      · rfl
      · rw [hq] at hi; simp at hi
    rw [hi0] at hi
    cases hi
    have hil : i = os.length := by omega
    have hb : ∀ k, rows.length ≤ i * 4 + k := fun k => by omega
    have hs : ∀ k, i * 4 + k - rows.length = k := fun k => by omega
    exact ⟨q, n, c, by rw [List.getElem?_append_right (hb 0), hs]; rfl, by rw [List.getElem?_append_right (hb 1), hs]; rfl, by rw [List.getElem?_append_right (hb 2), hs]; rfl, by rw [List.getElem?_append_right (hb 3), hs]; rfl, own, hn⟩
theorem elemRc : ElemOf Try.prog 32 27 4 56 := ⟨by kernel_rfl, ⟨Try.t27, .agg #[.int .i64 0, .string ⟨#[]⟩, .int .i64 0, .slice none 0 0], by kernel_rfl, by kernel_rfl, by kernel_rfl, by kernel_rfl, by kernel_rfl⟩, by decide⟩
theorem RowsRc.upd1 {w w' : World} {base : Nat} {rows : List Value} {os : List RecV} (h : RowsRc w base rows os) {k : Nat} {e : TypeId} {cs : Array Value} (hk : RowT e w k cs) (hne : e ≠ 3) (hu : Upd (fun x => x = k) w w') : RowsRc w' base rows os := by
  refine ⟨h.len, fun i o hi => ?_⟩
  obtain ⟨q, n, c, h1, h2, h3, h4, h5, h6⟩ := h.row i o hi
  refine ⟨q, n, c, h1, h2, h3, h4, h5.upd hu fun g hg hs => ?_, h6⟩
  obtain ⟨cur, hc⟩ := (own_ge h5 hg).2.2
  exact type_ne hk (hs ▸ hc) hne
def okB (base : Int) : Int := if 0 ≤ base ∧ base ≤ 2147483547 then 0 else 1
def preR (p : Option Addr) (g : Geo) (base : Int) : Int := firstZ [mcheckZ p g, okB base]
/-- a slot that holds the next record -/
def SlotIs (g : Geo) (s : StA) (base : Int) (j : Nat) (x : RecV) : Prop := ∃ b c, Best (sayL (saysM (slotZ g (j : Int)) s.M)) b c ∧ 0 < c ∧ b.1 = base + j + 1 ∧ decD b.2 = some x
/-- a slot that does not -/
def SlotNo (g : Geo) (s : StA) (base : Int) (j : Nat) : Prop := ∃ b c, Best (sayL (saysM (slotZ g (j : Int)) s.M)) b c ∧ ¬ (0 < c ∧ b.1 = base + j + 1 ∧ ∃ x, decD b.2 = some x)
def repR (g : Geo) (s : StA) (ks : List Bool) (base : Int) (w : World) : Value → World → Prop := fun v w' => Ext w w' ∧ (preR (some (at0 0)) g base ≠ 0 → v = .tuple #[.slice none 0 0, .int .i64 (preR (some (at0 0)) g base)]) ∧ (preR (some (at0 0)) g base = 0 →
  (s.down = true → v = .tuple #[.slice none 0 0, .int .i64 130]) ∧ (s.down = false → ∃ L : List RecV, (∀ j x, L[j]? = some x → SlotIs g s base j x) ∧
    ((((L.length : Int) = g.slots ∨ ((L.length : Int) < g.slots ∧ SlotNo g s base L.length ∧ wit ks (saysM (slotZ g (L.length : Int)) s.M) = true)) ∧ ∃ p c rows, v = .tuple #[.slice p L.length c, .int .i64 0] ∧ OwnS w' w.heap.size 27 4 p L.length c rows ∧ RowsRc w' w.heap.size rows L) ∨
      ((L.length : Int) < g.slots ∧ SlotNo g s base L.length ∧ wit ks (saysM (slotZ g (L.length : Int)) s.M) = false ∧ v = .tuple #[.slice none 0 0, .int .i64 150]))))
def repI (g : Geo) (s : StA) (base : Int) (w : World) : Option Addr → Int → World → Option Addr → Nat → Nat → Bool → Int → World → Prop := fun q10 n29 _ p32 l32 c32 b33 n34 w35 =>
  ∃ (k10 i : Nat) (L : List RecV) (rows : List Value), q10 = some (at0 k10) ∧ n29 = g.slots ∧ n34 = i ∧ (i : Int) ≤ g.slots ∧ L.length = i ∧ l32 = i ∧ b33 = true ∧ w.heap.size ≤ k10 ∧ (i = 0 ∨ s.down = false) ∧ Ext w w35 ∧ RowT 24 w35 k10 (gRow g) ∧ (∀ j x, L[j]? = some x → SlotIs g s base j x) ∧
    OwnS w35 w.heap.size 27 4 p32 l32 c32 rows ∧ RowsRc w35 w.heap.size rows L
def repM : Option Addr → Int → World → Option Addr → Nat → Nat → Bool → Int → World → Nat := fun _ _ _ _ _ _ _ n34 _ => 100 - n34.toNat
end Go.Proofs.Ytnfcfbljdibinaa

/- Replay. -/
namespace Go.Proofs.Ytnfcfbljdibinaa
open Go Go.Vc

theorem recD_ok {bs : List UInt8} {x : RecV} {r : List UInt8} (hD : recD bs = some (x, r)) : x.ok := by
  unfold recD at hD
  repeat (split at hD; · cases hD)
  unfold recE at hD
  split at hD
  · cases hD
  · split at hD
    · rename_i hok
      simp only [Option.some.injEq, Prod.mk.injEq] at hD
      rw [← hD.1]; exact hok
    · cases hD
theorem decD_ok {bs : List UInt8} {x : RecV} (h : decD bs = some x) : x.st.length ≤ 256 := by
  unfold decD at h
  split at h
  · rename_i y hD
    simp only [Option.some.injEq] at h
    subst h
    exact (recD_ok hD).1.2.2.2
  · cases h

set_option maxHeartbeats 4000000 in
theorem rep_A0 {w w21 : World} {a : Nat} {s : StA} {F : Nat → Prop} (h : IsA w a s F) (ho : OkA s) (h1 : 1 ≤ s.M.length) (g : Geo) {p8 : Option Addr} {l8 c8 : Nat} {ks : List Bool} (hks : BoolsAt w p8 l8 ks) (base : Int) {k10 : Nat} (hx : Ext w w21) (hr : RowT 24 w21 k10 (gRow g)) (hk : w.heap.size ≤ k10) :
    F10_A0 (.returned (.int .i64 (okB base))) w21 (mcheckZ (some (at0 a)) g) k10 (some (at0 a)) p8 l8 c8 base (repR g s ks base w) (repI g s base w) repM := by
  have hM : s.M.length ≤ 32 := ho.1
  refine ⟨_, rfl, fun k24 w25 hk24 => ?_⟩
  refine (first_spec (L := [_, _]) (ints_new (L := [_, _]) (w' := w25) ⟨_, hk24.at⟩ rfl) (by simp)).mono ?_
  rintro e w26 ⟨rfl, rfl⟩
  have x26 := hx.trans hk24.ext
  have ee : firstZ [mcheckZ (some (at0 a)) g, okB base] = preR (some (at0 0)) g base := rfl
  rw [ee]
  have r26 : RowT 24 w26 k10 (gRow g) := hr.upd hk24.ext id
  refine ⟨_, rfl, condB_of (fun hn => ?_) fun hz => ⟨_, r26.row.row.cell rfl, ?_⟩⟩
  · have hn' : preR (some (at0 0)) g base ≠ 0 := by simpa using hn
    exact ⟨x26, fun _ => rfl, fun h => (hn' h).elim⟩
  have hz' : preR (some (at0 0)) g base = 0 := by simpa using hz
  have hgb : GeoOk g ∧ 0 ≤ base ∧ base ≤ 2147483547 := by
    have hp := hz'
    unfold preR firstZ at hp
    split at hp
    · rename_i hm
      unfold firstZ at hp
      split at hp
      · rename_i hb
        unfold okB at hb
        split at hb
        · rename_i hh
          refine ⟨?_, hh⟩
          unfold mcheckZ checkG at hm
          by_cases hg : GeoOk g
          · exact hg
          · simp [hg] at hm
        · cases hb
      · contradiction
    · contradiction
  have hsl := hgb.1.2.2.2.1
  refine ⟨⟨k10, 0, [], [], rfl, rfl, rfl, by omega, rfl, rfl, rfl, hk, .inl rfl, x26, r26, fun j x hj => by simp at hj, OwnS.nil _ _ _ _, RowsRc.nil _ _⟩, ?_⟩
  clear hr r26
  rintro p32 l32 c32 b33 n34 w35 ⟨k10', i, L, rows, e10, _, rfl, hi, hLl, rfl, rfl, _, hdn, x35, r10, hL, own, hrows⟩
  simp only [Option.some.injEq, at0, Addr.mk.injEq, and_true] at e10
  subst e10
  intros
  have z35 := x35.size
  refine condB_of (fun hlt => ?_) (fun hge => ?_)
  · simp only [decide_eq_true_eq] at hlt
    refine ⟨_, r10.row.row.cell (n := 0) rfl, _, r10.row.row.cell rfl, _, r10.row.row.cell rfl, _, r10.row.row.cell rfl, _, r10.row.row.cell rfl, _, r10.row.row.cell rfl, (slot_spec g (l32 : Int) w35).mono ?_⟩
    rintro e w91 ⟨rfl, x91⟩
    have y91 := x35.trans x91
    have z91 := x91.size
    refine ⟨_, rfl, ?_⟩
    obtain ⟨M, left, down⟩ := s
    cases down with
    | true =>
      refine (vread_down ((h : IsArr w a M left true F).ext y91) (by omega) h1 p8 l8 c8 _).mono ?_
      rintro e w94 ⟨rfl, x94⟩
      refine ⟨_, _, _, _, _, _, _, _, rfl, fun k102 w103 hk102 => ?_⟩
      have s102 := hk102.size
      have z94 := x94.size
      refine fill5T (e := 80) (v0 := .bool false) (v1 := .int .i64 0) (v2 := .slice none 0 0) (v3 := .int .i64 0) (v4 := .bool false) hk102.at fun w108 u108 r108 => ?_
      have x108 : Ext w35 w108 := upd_new ((x91.trans x94).trans hk102.ext) u108 (by omega)
      exact condB_of (fun _ => ⟨x35.trans x108, fun h => (h hz').elim, fun _ => ⟨fun _ => rfl, fun h => by cases h⟩⟩) fun h => by simp at h
    | false =>
      refine (vread_specC ((h : IsArr w a M left false F).ext y91) (by omega) h1 (hks.ext y91) _).mono ?_
      rintro e w94 ⟨x94, v, b, c, kd, cc, rfl, ⟨hbest, rfl, hnew, hdat⟩, hcc1, hcc2⟩
      refine ⟨_, _, _, _, _, _, _, _, rfl, fun k102 w103 hk102 => ?_⟩
      have s102 := hk102.size
      have z94 := x94.size
      refine fill5T (e := 80) (v0 := .bool (decide (0 < c))) (v1 := .int .i64 b.1) (v2 := .slice (some (at0 kd)) b.2.length cc) (v3 := .int .i64 ((c : Nat) : Int)) (v4 := .bool (wit ks (saysM (slotZ g (l32 : Int)) M))) hk102.at fun w108 u108 r108 => ?_
      have x94_108 : Ext w94 w108 := upd_new hk102.ext u108 (by omega)
      have x108 : Ext w35 w108 := (x91.trans x94).trans x94_108
      refine condB_of (fun h => by simp at h) fun _ => ⟨_, _, _, r108.row.row.cell rfl, (decode_spec (hdat.ext x94_108) hcc1 hcc2).mono ?_⟩
      rintro e w110 ⟨v, rfl, x110, hdec⟩
      obtain ⟨kd1, sd1, ld1, pd1, nd1, cd1, z1, rfl, hres⟩ : ∃ (kd1 : Int) (sd1 : ByteArray) (ld1 : Int) (pd1 : Option Addr) (nd1 cd1 : Nat) (z1 : Int), v = .tuple #[.agg #[.int .i64 kd1, .string sd1, .int .i64 ld1, .slice pd1 nd1 cd1], .int .i64 z1] ∧
          ((∃ x : RecV, decD b.2 = some x ∧ kd1 = x.kind ∧ sd1 = bstr x.key ∧ ld1 = x.len ∧ z1 = 0 ∧ OwnS w110 w108.heap.size 3 1 pd1 nd1 cd1 (encI x.st)) ∨ (decD b.2 = none ∧ z1 = 160)) := by
        rcases hdec with ⟨x, p, l, c2, hd, rfl, hown⟩ | ⟨hd, rfl⟩
        · exact ⟨_, _, _, _, _, _, _, rfl, .inl ⟨x, hd, rfl, rfl, rfl, rfl, hown⟩⟩
        · exact ⟨_, _, _, _, _, _, _, rfl, .inr ⟨hd, rfl⟩⟩
      refine ⟨_, _, _, _, _, _, _, rfl, fun k117 w118 hk117 => ?_⟩
      have s117 := hk117.size
      have z110 := x110.size
      refine fill4T (e := 27) (v0 := .int .i64 kd1) (v1 := .string sd1) (v2 := .int .i64 ld1) (v3 := .slice pd1 nd1 cd1) hk117.at fun w122 u122 r122 => ?_
      have x110_122 : Ext w110 w122 := upd_new hk117.ext u122 (by omega)
      have x122 : Ext w35 w122 := x108.trans (x110.trans x110_122)
      have q102 : RowT 80 w122 k102 _ := r108.upd (x110.trans x110_122) id
      have y122 := x35.trans x122
      have own122 := own.ext x122
      have rows122 := hrows.ext x122
      have hwe : IntKind.i64.wrap ((IntKind.i64.wrap (base + (l32 : Int))) + (1 : Int)) = base + (l32 : Int) + 1 := by rw [w64 (n := base + (l32 : Int)) (by omega), w64 (by omega)]
      have stop : ¬ (0 < c ∧ b.1 = base + l32 + 1 ∧ ∃ x, decD b.2 = some x) → ∃ b124, w122.cell? ((at0 k102).add 4) = some (.bool b124) ∧ condB (!b124) (repR g ⟨M, left, false⟩ ks base w (.tuple #[.slice none 0 0, .int .i64 150]) w122) (repR g ⟨M, left, false⟩ ks base w (.tuple #[.slice p32 l32 c32, .int .i64 0]) w122) := fun hno => by
        have hsn : SlotNo g ⟨M, left, false⟩ base l32 := ⟨b, c, hbest, hno⟩
        refine ⟨_, q102.row.row.cell rfl, condB_of (fun hw => ?_) fun hw => ?_⟩
        · refine ⟨y122, fun h => (h hz').elim, fun _ => ⟨fun h => (by cases h), fun _ => ⟨L, hL, .inr ⟨by omega, by rw [hLl]; exact hsn, by rw [hLl]; simpa using hw, rfl⟩⟩⟩⟩
        · refine ⟨y122, fun h => (h hz').elim, fun _ => ⟨fun h => (by cases h), fun _ => ⟨L, hL, .inl ⟨.inr ⟨by omega, by rw [hLl]; exact hsn, by rw [hLl]; simpa using hw⟩, p32, c32, rows, by rw [hLl], by rw [hLl]; exact own122, rows122⟩⟩⟩⟩
      refine ⟨_, q102.row.row.cell rfl, condB_of (fun hh => stop fun hg => ?_) fun hh => ⟨_, q102.row.row.cell rfl, condB_of (fun he => stop fun hg => ?_) fun he => condB_of (fun hd => stop fun hg => ?_) fun hd => ?_⟩⟩
      · have : ¬ 0 < c := by simpa using hh
        exact this hg.1
      · rw [hwe] at he
        have : ¬ b.1 = base + (l32 : Int) + 1 := by simpa using he
        exact this hg.2.1
      · obtain ⟨x, hx2⟩ := hg.2.2
        rcases hres with ⟨x', hx', _, _, _, hz1, _⟩ | ⟨hno, _⟩
        · rw [hz1] at hd; simp at hd
        · rw [hno] at hx2; cases hx2
      · rw [hwe] at he
        have hc : 0 < c := by simpa using hh
        have hep : b.1 = base + (l32 : Int) + 1 := by simpa using he
        obtain ⟨x, hx2, rfl, rfl, rfl, _, ownx⟩ : ∃ x : RecV, decD b.2 = some x ∧ kd1 = x.kind ∧ sd1 = bstr x.key ∧ ld1 = x.len ∧ z1 = 0 ∧ OwnS w110 w108.heap.size 3 1 pd1 nd1 cd1 (encI x.st) := by
          rcases hres with hh | ⟨_, hz1⟩
          · exact hh
          · rw [hz1] at hd; simp at hd
        refine ⟨_, r122.row.row.cell (n := 0) rfl, _, r122.row.row.cell rfl, _, r122.row.row.cell rfl, _, _, _, r122.row.row.cell rfl, fun k132 w133 hk132 => ?_⟩
        have q132 : RowW w133 k132 #[.int .i64 x.kind, .string (bstr x.key), .int .i64 x.len, .slice pd1 nd1 cd1] := ⟨_, hk132.at⟩
        have c132 : CellsAt w133 (some (at0 k132)) [.int .i64 x.kind, .string (bstr x.key), .int .i64 x.len, .slice pd1 nd1 cd1] := fun j u hj => ⟨_, rfl, q132.row.cell (by simpa using hj)⟩
        have x133 : Ext w35 w133 := x122.trans hk132.ext
        have own133 := own.ext x133
        have hz133 := (x35.trans x133).size
        obtain ⟨p135, c135, w134, hr, own134, hu134, _⟩ := own133.append elemRc 32 (q := some (at0 k132)) (m := 1) (d := 1) (news := [.int .i64 x.kind, .string (bstr x.key), .int .i64 x.len, .slice pd1 nd1 cd1]) rfl c132 (fun h => by cases h) (by
          intro u hu
          simp only [List.mem_cons, List.not_mem_nil, or_false] at hu
          rcases hu with rfl | rfl | rfl | rfl <;> rfl) (by unfold maxLen; omega) (by omega) hz133
        have hst := decD_ok hx2
        have hnl := ownx.length
        rw [encI_length] at hnl
        have z108 := x108.size
        have rows134 : RowsRc w134 w.heap.size (rows ++ [.int .i64 x.kind, .string (bstr x.key), .int .i64 x.len, .slice pd1 nd1 cd1]) (L ++ [x]) :=
          ((hrows.ext x133).snoc (o := x) (q := pd1) (n := nd1) (c := cd1) (((ownx.ext x110_122).ext hk132.ext).base_le (by omega)) (by omega)).keep own133 hu134
        have r10' : RowT 24 w134 k10 (gRow g) := (r10.upd x133 id).upd hu134 fun hp => by
          obtain ⟨cur, hc⟩ := (own_ge own133 hp).2.2
          exact type_ne (r10.upd x133 id) hc (by decide)
        have hwr : IntKind.i64.wrap ((l32 : Int) + 1) = (l32 : Int) + 1 := w64 (by omega)
        refine ⟨_, _, _, _, hr, ⟨k10, l32 + 1, L ++ [x], _, rfl, rfl, by rw [hwr]; omega, by omega, by simp [hLl], rfl, rfl, hk, .inr rfl, ext_own (x35.trans x133) own133 hu134, r10', fun j y hj => ?_, own134, rows134⟩, by rw [hwr]; show 100 - ((l32 : Int) + 1).toNat < 100 - (l32 : Int).toNat; omega⟩
        rw [List.getElem?_append] at hj
        split at hj
        · exact hL j y hj
        · have hj0 : j - L.length = 0 := by
            rcases hq : j - L.length with _ | q
            · rfl
            · rw [hq] at hj; simp at hj
          rw [hj0] at hj
          cases hj
          have : j = l32 := by omega
          subst this
          exact ⟨b, c, hbest, hc, hep, hx2⟩
  · simp only [decide_eq_false_iff_not] at hge
    have hdown : s.down = false := hdn.resolve_left (by omega)
    refine condB_of (fun h => by simp at h) fun _ => ⟨x35, fun h => (h hz').elim, fun _ => ⟨fun h => (by rw [hdown] at h; cases h), fun _ => ⟨L, hL, .inl ⟨.inl (by omega), p32, c32, rows, by rw [hLl], by rw [hLl]; exact own, hrows⟩⟩⟩⟩

set_option maxHeartbeats 1000000 in
theorem mreplay_spec {w : World} {a : Nat} {s : StA} {F : Nat → Prop} (h : IsA w a s F) (ho : OkA s) (h1 : 1 ≤ s.M.length) (g : Geo) {p8 : Option Addr} {l8 c8 : Nat} {ks : List Bool} (hks : BoolsAt w p8 l8 ks) (base : Int) :
    Calls Try.prog 10 #[.pointer (some (at0 a)), gV g, .slice p8 l8 c8, .int .i64 base] w fun e w' => ∃ v, e = .returned v ∧ repR g s ks base w v w' := by
  refine F10_calls (some (at0 a)) g.k g.m g.size g.stripes g.slots g.objects p8 l8 c8 base w (repR g s ks base w) (repI g s base w) repM ?_
  intro k10 w11 hk10
  have s10 := hk10.size
  have r10 : RowT 24 w11 k10 (gRow g) := hk10.at
  refine ⟨_, r10.row.row.cell (n := 0) rfl, _, r10.row.row.cell rfl, _, r10.row.row.cell rfl, _, r10.row.row.cell rfl, _, r10.row.row.cell rfl, _, r10.row.row.cell rfl, (mcheck_spec (some (at0 a)) g w11).mono ?_⟩
  rintro e w18 ⟨rfl, x18⟩
  have fin : ∀ (b : Bool), (if b = true then (0 : Int) else 1) = okB base → Calls Try.prog 37 #[.bool b, .int .i64 1] w18 fun e22 w21 => F10_A0 e22 w21 (mcheckZ (some (at0 a)) g) k10 (some (at0 a)) p8 l8 c8 base (repR g s ks base w) (repI g s base w) repM := fun b hb => by
    refine (unless_spec b 1 w18).mono ?_
    rintro e w21 ⟨rfl, rfl⟩
    rw [hb]
    exact rep_A0 h ho h1 g hks base (hk10.ext.trans x18) (r10.upd x18 id) (by omega)
  refine ⟨_, rfl, condB_of (fun h0 => fin _ ?_) fun h0 => fin _ ?_⟩
  · simp only [decide_eq_true_eq] at h0
    unfold okB
    by_cases h2 : base ≤ 2147483547
    · simp [h0, h2]
    · simp [h2]
  · simp only [decide_eq_false_iff_not] at h0
    unfold okB
    simp [h0]
end Go.Proofs.Ytnfcfbljdibinaa

/- Calls whose answers the document fixes: the answers. -/
namespace Go.Proofs.Ytnfcfbljdibinaa
open Go Go.Vc

def tinyG : Geo := ⟨1, 1, 1, 2, 2, 2⟩
def mw0 : StA := begA 2 9
def mw1 : StA := (labelM [0, 1] mw0).1
def mw2 : StA := (saveM tinyG 0 0 [part (snapB []) 0, part (snapB []) 1] mw1).1
def keyA : ByteArray := ⟨#[97]⟩
def mw3 : StA := (appM tinyG 0 0 1 keyA 0 [] mw2).1
theorem mo1 : (labelM [0, 1] mw0).2 = 0 := by kernel_rfl
theorem mo2 : (saveM tinyG 0 0 [part (snapB []) 0, part (snapB []) 1] mw1).2 = 0 := by kernel_rfl
theorem mo3 : (appM tinyG 0 0 1 keyA 0 [] mw2).2 = 0 := by kernel_rfl
theorem mo4 : (appM tinyG 0 2 1 keyA 0 [] mw3).2 = 180 := by kernel_rfl
theorem mk1 : mw1.M.map knowB = [true, true] := by kernel_rfl
theorem md1 : mw1.down = false := by kernel_rfl
theorem md2 : mw2.down = false := by kernel_rfl
theorem md3 : mw3.down = false := by kernel_rfl
theorem ml1 : mw1.M.length = 2 := by kernel_rfl
theorem ml2 : mw2.M.length = 2 := by kernel_rfl
theorem ml3 : mw3.M.length = 2 := by kernel_rfl
theorem mf1 : mw1.left = -1 := by kernel_rfl
theorem mf2 : mw2.left = -1 := by kernel_rfl
theorem mf3 : mw3.left = -1 := by kernel_rfl
theorem OkA_of {s : StA} (h1 : s.M.length = 2) (h2 : s.left = -1) (h3 : s.down = false) : OkA s := by
  obtain ⟨M, left, down⟩ := s
  simp only at h1 h2 h3
  subst h2
  subst h3
  exact ⟨by simp [h1], by simp, by simp⟩
theorem mc : checkG tinyG = 0 := by kernel_rfl
theorem ms0 : sayL (saysM (areaZ tinyG 0 0) mw2.M) = [(0, [0, 0]), (0, [0, 0])] := by kernel_rfl
theorem ms1 : sayL (saysM (areaZ tinyG 0 1) mw2.M) = [(0, []), (0, [])] := by kernel_rfl
theorem ms2 : sayL (saysM (areaZ tinyG 1 0) mw2.M) = [] := by kernel_rfl
theorem ms3 : sayL (saysM (areaZ tinyG 1 1) mw2.M) = [] := by kernel_rfl
theorem msn : seenB tinyG 1 mw2 [true, true] 2 = true := by kernel_rfl
theorem mr0 : sayL (saysM (slotZ tinyG 0) mw3.M) = [(1, recB 1 keyA 0 []), (1, recB 1 keyA 0 [])] := by kernel_rfl
theorem mr1 : sayL (saysM (slotZ tinyG 1) mw3.M) = [] := by kernel_rfl
theorem mr2 : (decD (recB 1 keyA 0 [])).isSome = true := by kernel_rfl
theorem mrw : wit [true, true] (saysM (slotZ tinyG 1) mw3.M) = true := by kernel_rfl
theorem mrp : preR (some (at0 0)) tinyG 0 = 0 := by kernel_rfl
theorem msp : preS (some (at0 0)) tinyG 0 0 0 = 0 := by kernel_rfl
theorem best_two (b : Say) : Best [b, b] b 2 := .inr ⟨by simp, by simp, fun y hy => by
  have : y = b := by simpa using hy
  subst this
  simp only [List.count_cons_self, List.count_nil]
  exact bt_irrefl _ _⟩
theorem best_none : Best ([] : List Say) (0, []) 0 := .inl ⟨rfl, rfl, rfl⟩
theorem may_nil : MayOk [] := ⟨fun j hj => by simp at hj, by simp [sumSt], by simp⟩
theorem un_nil : unD [[0, 0], []] = some [] := by
  have h1 : badU [[0, 0], []] 2 = false := by kernel_rfl
  have h2 : objsD (nvL (([[0, 0], []] : List (List UInt8)).flatten.take 2)) (([[0, 0], []] : List (List UInt8)).flatten.drop 2) = some ([], []) := by kernel_rfl
  unfold unD
  rw [h1, if_neg (by simp), if_neg (by simp), h2]
  exact unE_ok may_nil
theorem svM_awake : svM tinyG 0 0 [] mw1 = (mw2, 0) := by
  unfold svM
  rw [mayZ_ok may_nil, if_pos msp]
  exact Prod.ext rfl mo2
/-- what the first area tells -/
theorem area0 {r : ARd} (h : AreaIs tinyG mw2 [true, true] 0 r) : r.epoch = 0 ∧ r.os = [] ∧ r.whole = true := by
  obtain ⟨v0, v1, hr, rfl⟩ := h
  have b0 := hr 0 v0 rfl
  have b1 := hr 1 v1 rfl
  have e0 : sayL (saysM (areaZ tinyG 0 ((0 : Nat) : Int)) mw2.M) = [(0, [0, 0]), (0, [0, 0])] := ms0
  have e1 : sayL (saysM (areaZ tinyG 0 ((1 : Nat) : Int)) mw2.M) = [(0, []), (0, [])] := ms1
  rw [e0] at b0
  rw [e1] at b1
  obtain ⟨h0, h0'⟩ := b0.unique (best_two _)
  obtain ⟨h1, h1'⟩ := b1.unique (best_two _)
  obtain ⟨v0a, v0b⟩ := v0
  obtain ⟨v1a, v1b⟩ := v1
  simp only at h0 h0' h1 h1'
  subst h0
  subst h0'
  subst h1
  subst h1'
  rw [un_nil]
  exact ⟨rfl, rfl, rfl⟩
theorem area1 {r : ARd} (h : AreaIs tinyG mw2 [true, true] 1 r) : r.whole = false ∧ r.seen = true := by
  obtain ⟨v0, v1, hr, rfl⟩ := h
  have b0 := hr 0 v0 rfl
  have e0 : sayL (saysM (areaZ tinyG 1 ((0 : Nat) : Int)) mw2.M) = [] := ms2
  rw [e0] at b0
  obtain ⟨h0, h0'⟩ := b0.unique best_none
  refine ⟨?_, msn⟩
  simp only [wholeB, List.all_cons, h0']
  simp
theorem lat_awake {A : Nat → ARd} (h : ∀ j : Nat, j < 2 → AreaIs tinyG mw2 [true, true] (j : Int) (A j)) : (latS A 2).found = true ∧ (latS A 2).sure = true ∧ (latS A 2).epoch = 0 := by
  obtain ⟨h1, h2, h3⟩ := area0 (h 0 (by omega))
  obtain ⟨h4, h5⟩ := area1 (h 1 (by omega))
  have e1 : latS A 1 = ⟨true, true && ((A 0).whole || (A 0).seen), 0, (A 0).epoch, (A 0).os⟩ := by
    rw [latS, latS, h3]
    rfl
  rw [latS, e1, h4, h5, h3, h1]
  exact ⟨rfl, rfl, rfl⟩
end Go.Proofs.Ytnfcfbljdibinaa

/- Calls whose answers the document fixes: the walk. -/
namespace Go.Proofs.Ytnfcfbljdibinaa
open Go Go.Vc

theorem tiny_spec (w : World) : Calls Try.prog 30 #[] w fun e w' => e = .returned (gV tinyG) ∧ Ext w w' := by
  refine (F30_calls w (fun v w' => v = gV tinyG ∧ Ext w w') ?_).mono (by rintro e w' ⟨v, rfl, rfl, h⟩; exact ⟨rfl, h⟩)
  intro k1 w2 hk
  have s1 := hk.size
  have r2 : RowT 24 w2 k1 #[.int .i64 0, .int .i64 0, .int .i64 0, .int .i64 0, .int .i64 0, .int .i64 0] := hk.at
  refine ⟨r2.row.live (n := 0) (by simp), fun w3 s3 => ?_⟩
  have s3' : SetC w2 ((at0 k1).add 0) (.int .i64 1) w3 := s3
  have r3 := r2.set s3'
  refine ⟨r3.row.live (by simp), fun w4 s4 => ?_⟩
  have r4 := r3.set s4
  refine ⟨r4.row.live (by simp), fun w5 s5 => ?_⟩
  have r5 := r4.set s5
  refine ⟨r5.row.live (by simp), fun w6 s6 => ?_⟩
  have r6 := r5.set s6
  refine ⟨r6.row.live (by simp), fun w7 s7 => ?_⟩
  have r7 := r6.set s7
  refine ⟨r7.row.live (by simp), fun w8 s8 => ?_⟩
  have r8 := r7.set s8
  have x2 : Ext w w2 := hk.ext
  have x8 : Ext w w8 := upd_new (upd_new (upd_new (upd_new (upd_new (upd_new x2 (setU s3') (by omega)) (setU s4) (by omega)) (setU s5) (by omega)) (setU s6) (by omega)) (setU s7) (by omega)) (setU s8) (by omega)
  exact ⟨_, r8.row.row.cell (n := 0) rfl, _, r8.row.row.cell rfl, _, r8.row.row.cell rfl, _, r8.row.row.cell rfl, _, r8.row.row.cell rfl, _, r8.row.row.cell rfl, rfl, x8⟩

set_option maxHeartbeats 4000000 in
theorem awakeM_spec (w : World) : Calls Try.prog 8 #[] w fun e w' => e = .returned (.bool true) ∧ Ext w w' := by
  refine (F8_calls w (fun v w' => v = .bool true ∧ Ext w w') ?_).mono (by rintro e w' ⟨v, rfl, rfl, h⟩; exact ⟨rfl, h⟩)
  refine (anew_good (n := 2) (s := 9) ⟨by omega, by omega⟩ ⟨by omega, by omega⟩ w).mono ?_
  rintro e w1 ⟨a, F, rfl, x1, h1, hF⟩
  have hF1 := IsArr.lt h1
  refine ⟨_, _, rfl, condB_f rfl fun k5 w6 hk5 => ?_⟩
  have s5 := hk5.size
  refine fill4T (e := 27) (v0 := .int .i64 1) (v1 := .string keyA) (v2 := .int .i64 0) (v3 := .slice none 0 0) hk5.at fun w10 u10 r10 => fun k11 w12 hk11 => ?_
  have s11 := hk11.size
  have z10 := u10.size
  have x1_10 : Ext w1 w10 := upd_new hk5.ext u10 (by omega)
  have x1_12 : Ext w1 w12 := x1_10.trans hk11.ext
  have x12 : Ext w w12 := x1.trans x1_12
  have h12 : IsA w12 a mw0 F := IsArr.ext (show IsArr w1 a mw0.M mw0.left mw0.down F from h1) x1_12
  have k5F : ¬ F k5 := fun hf => by have := hF1 _ hf; omega
  have k11F : ¬ F k11 := fun hf => by have := hF1 _ hf; omega
  have q12 : RowT 27 w12 k5 _ := r10.upd hk11.ext id
  have row11 : RowW w12 k11 #[.int .i64 0, .int .i64 1] := ⟨_, hk11.at⟩
  have ok0 : OkA mw0 := begA_ok (by omega)
  have ok1 : OkA mw1 := OkA_of ml1 mf1 md1
  have ok2 : OkA mw2 := OkA_of ml2 mf2 md2
  have ok3 : OkA mw3 := OkA_of ml3 mf3 md3
  refine (mlabel_spec h12 ok0 (L := [0, 1]) (fun F' w' hs => ints_new (L := [0, 1]) (w' := w') (hs.upd.rowW row11 k11F) rfl) (by simp)).mono ?_
  rintro e w13 ⟨F13, rfl, st13, h13⟩
  obtain ⟨x13, hF13⟩ := ext_stepA x12 st13 hF
  have h13 : IsA w13 a mw1 F13 := h13
  have k5F13 : ¬ F13 k5 := st13.apart q12.row.lt k5F
  have q13 : RowT 27 w13 k5 _ := q12.upd st13.upd k5F
  refine ⟨_, rfl, (mknows_spec h13 ok1 (by rw [ml1]; omega)).mono ?_⟩
  rintro e w16 ⟨x16, _, hkn⟩
  obtain ⟨p18, c18, rfl, ownk⟩ := hkn md1
  have lt13 := IsArr.lt (show IsArr w13 a mw1.M mw1.left mw1.down F13 from h13)
  obtain ⟨gk, hgk⟩ : ∃ gk, p18 = some (at0 gk) := by
    rcases ownk.where_ with ⟨_, h0, _⟩ | ⟨g, h0, _⟩
    · rw [ml1] at h0; cases h0
    · exact ⟨g, h0⟩
  obtain ⟨gkge, gklt, _⟩ := own_ge ownk hgk
  have kn16 : BoolsAt w16 p18 mw1.M.length [true, true] := ⟨by rw [ml1]; rfl, by have := ownk.cells; rw [mk1] at this; exact this⟩
  refine ⟨_, _, _, _, rfl, (tiny_spec w16).mono ?_⟩
  rintro e w20 ⟨rfl, x20⟩
  have h20 : IsA w20 a mw1 F13 := IsArr.ext (show IsArr w13 a mw1.M mw1.left mw1.down F13 from h13) (x16.trans x20)
  refine ⟨_, _, _, _, _, _, rfl, (msave_spec h20 ok1 tinyG 0 0 (c10 := 0) (ObsV.nil w20 none) (by omega)).mono ?_⟩
  rw [svM_awake]
  rintro e w28 ⟨F28, rfl, st28, h28⟩
  obtain ⟨x28, hF28⟩ := ext_stepA (x13.trans (x16.trans x20)) st28 hF13
  have gkF : ¬ F13 gk := fun hf => by have := lt13 _ hf; omega
  have gkF28 : ¬ F28 gk := st28.apart (Nat.lt_of_lt_of_le gklt x20.size) gkF
  have q20 : RowT 27 w20 k5 _ := q13.upd (x16.trans x20) id
  have k5F28 : ¬ F28 k5 := st28.apart q20.row.lt k5F13
  have q28 : RowT 27 w28 k5 _ := q20.upd st28.upd k5F13
  have kn20 := kn16.ext x20
  have kn28 : BoolsAt w28 p18 mw1.M.length [true, true] := ⟨kn20.1, kn20.2.upd st28.upd fun a' ha' _ => by rw [hgk] at ha'; cases ha'; exact gkF⟩
  refine ⟨_, rfl, (tiny_spec w28).mono ?_⟩
  rintro e w31 ⟨rfl, x31⟩
  have h31 : IsA w31 a mw2 F28 := IsArr.ext (show IsArr w28 a mw2.M mw2.left mw2.down F28 from h28) x31
  refine ⟨_, _, _, _, _, _, rfl, (mlatest_spec h31 ok2 (by rw [ml2]; omega) tinyG (kn28.ext x31)).mono ?_⟩
  rintro e w39 ⟨v, rfl, x39, _, hlat⟩
  obtain ⟨A, hA, _, hyes⟩ := (hlat mc).2 md2
  obtain ⟨hf, hsu, hep⟩ := lat_awake hA
  obtain ⟨p43, c43, rows43, rfl, _, _⟩ := hyes (by rw [hf, hsu]; rfl)
  rw [hep]
  refine ⟨_, _, _, _, _, _, rfl, fun k45 w46 hk45 => ?_⟩
  have s45 := hk45.size
  refine fill3 (e := 37) (v0 := .int .i64 (latS A 2).area) (v1 := .int .i64 0) (v2 := .slice p43 (latS A 2).os.length c43) hk45.at fun w49 u49 r49 => fun w50 d50 => ?_
  have x39_49 : Ext w39 w49 := upd_new hk45.ext u49 (by omega)
  have x28_50 : Ext w28 w50 := ((x31.trans x39).trans x39_49).trans d50.ext
  have q50 : RowT 27 w50 k5 _ := q28.upd x28_50 id
  have t50 : RowT 37 w50 k45 _ := r49.upd d50.ext id
  have lt28 := IsArr.lt (show IsArr w28 a mw2.M mw2.left mw2.down F28 from h28)
  have z28_39 := (x31.trans x39).size
  have k45F : ¬ F28 k45 := fun hf => by have := lt28 _ hf; omega
  refine ⟨_, q50.row.row.cell (n := 0) rfl, _, q50.row.row.cell rfl, _, q50.row.row.cell rfl, _, _, _, q50.row.row.cell rfl, (tiny_spec w50).mono ?_⟩
  rintro e w55 ⟨rfl, x55⟩
  have q55 : RowT 27 w55 k5 _ := q50.upd x55 id
  have t55 : RowT 37 w55 k45 _ := t50.upd x55 id
  have h55 : IsA w55 a mw2 F28 := IsArr.ext (show IsArr w28 a mw2.M mw2.left mw2.down F28 from h28) (x28_50.trans x55)
  have inil : ∀ wx : World, IntsAt wx none 0 [] := fun wx => ⟨rfl, CellsAt.nil _ _⟩
  refine ⟨_, _, _, _, _, _, rfl, ⟨_, q55.row.row.cell (n := 0) rfl, _, q55.row.row.cell rfl, _, q55.row.row.cell rfl, _, _, _, q55.row.row.cell rfl, rfl⟩, (mappend_spec h55 ok2 tinyG 0 0 1 keyA 0 (c13 := 0) (inil w55) (by omega)).mono ?_⟩
  rintro e w67 ⟨F67, rfl, st67, h67⟩
  have h67 : IsA w67 a mw3 F67 := h67
  obtain ⟨x67, hF67⟩ := ext_stepA ((x28.trans x28_50).trans x55) st67 hF28
  have q67 : RowT 27 w67 k5 _ := q55.upd st67.upd k5F28
  have t67 : RowT 37 w67 k45 _ := t55.upd st67.upd k45F
  have k5F67 : ¬ F67 k5 := st67.apart q55.row.lt k5F28
  have k45F67 : ¬ F67 k45 := st67.apart t55.row.lt k45F
  have kn55 := (kn28.ext x28_50).ext x55
  have kn67 : BoolsAt w67 p18 mw1.M.length [true, true] := ⟨kn55.1, kn55.2.upd st67.upd fun a' ha' _ => by rw [hgk] at ha'; cases ha'; exact gkF28⟩
  refine ⟨_, rfl, (tiny_spec w67).mono ?_⟩
  rintro e w70 ⟨rfl, x70⟩
  have h70 : IsA w70 a mw3 F67 := IsArr.ext (show IsArr w67 a mw3.M mw3.left mw3.down F67 from h67) x70
  refine ⟨_, _, _, _, _, _, rfl, (mreplay_spec h70 ok3 (by rw [ml3]; omega) tinyG (kn67.ext x70) 0).mono ?_⟩
  rintro e w78 ⟨v, rfl, x78, _, hrep⟩
  obtain ⟨L, hL, hres⟩ := (hrep mrp).2 md3
  have hslot1 : ∀ x, ¬ SlotIs tinyG mw3 0 1 x := fun x hx => by
    obtain ⟨b, c, hb, hc, _⟩ := hx
    have e1 : sayL (saysM (slotZ tinyG ((1 : Nat) : Int)) mw3.M) = [] := mr1
    rw [e1] at hb
    have := (hb.unique best_none).2
    omega
  have hslot0 : ¬ SlotNo tinyG mw3 0 0 := fun hx => by
    obtain ⟨b, c, hb, hno⟩ := hx
    have e0 : sayL (saysM (slotZ tinyG ((0 : Nat) : Int)) mw3.M) = [(1, recB 1 keyA 0 []), (1, recB 1 keyA 0 [])] := mr0
    rw [e0] at hb
    obtain ⟨rfl, rfl⟩ := hb.unique (best_two _)
    exact hno ⟨by omega, by rfl, Option.isSome_iff_exists.1 mr2⟩
  have hlen2 : L.length < 2 := by
    rcases Nat.lt_or_ge L.length 2 with h | h
    · exact h
    · exfalso
      have h1 : L[1]? = some L[1] := List.getElem?_eq_getElem (by omega)
      exact hslot1 _ (hL 1 _ h1)
  have htg : tinyG.slots = 2 := rfl
  have hlen : L.length = 1 := by
    rcases Nat.eq_zero_or_pos L.length with h0 | h0
    · exfalso
      rcases hres with ⟨h | ⟨_, h, _⟩, _⟩ | ⟨_, h, _⟩
      · rw [htg] at h; omega
      · rw [h0] at h; exact hslot0 h
      · rw [h0] at h; exact hslot0 h
    · omega
  obtain ⟨p80, c80, rfl⟩ : ∃ p c, v = .tuple #[.slice p 1 c, .int .i64 0] := by
    rcases hres with ⟨_, p, c, rows, hv, _⟩ | ⟨_, _, hw, _⟩
    · rw [hlen] at hv; exact ⟨p, c, hv⟩
    · rw [hlen] at hw
      have : wit [true, true] (saysM (slotZ tinyG ((1 : Nat) : Int)) mw3.M) = true := mrw
      rw [this] at hw; cases hw
  refine ⟨_, _, _, _, rfl, fun w82 d82 => ?_⟩
  have x67_82 : Ext w67 w82 := (x70.trans x78).trans d82.ext
  have q82 : RowT 27 w82 k5 _ := q67.upd x67_82 id
  refine ⟨_, q82.row.row.cell (n := 0) rfl, _, q82.row.row.cell rfl, _, q82.row.row.cell rfl, _, _, _, q82.row.row.cell rfl, (tiny_spec w82).mono ?_⟩
  rintro e w87 ⟨rfl, x87⟩
  have q87 : RowT 27 w87 k5 _ := q82.upd x87 id
  have t87 : RowT 37 w87 k45 _ := (t67.upd x67_82 id).upd x87 id
  have h87 : IsA w87 a mw3 F67 := IsArr.ext (show IsArr w67 a mw3.M mw3.left mw3.down F67 from h67) (x67_82.trans x87)
  refine ⟨_, _, _, _, _, _, rfl, ⟨_, q87.row.row.cell (n := 0) rfl, _, q87.row.row.cell rfl, _, q87.row.row.cell rfl, _, _, _, q87.row.row.cell rfl, rfl⟩, (mappend_spec h87 ok3 tinyG 0 2 1 keyA 0 (c13 := 0) (inil w87) (by omega)).mono ?_⟩
  rintro e w99 ⟨F99, rfl, st99, h99⟩
  obtain ⟨x99, _⟩ := ext_stepA ((x67.trans x67_82).trans x87) st99 hF67
  have t99 : RowT 37 w99 k45 _ := t87.upd st99.upd k45F67
  rw [mo1, mo3, mo4, ml1]
  exact ⟨_, rfl, condB_t rfl (condB_t rfl (condB_t rfl (condB_t rfl ⟨_, t99.row.row.cell rfl, condB_t rfl (condB_t rfl (condB_t rfl (condB_t rfl (condB_t rfl ⟨rfl, x99⟩))))⟩)))⟩
end Go.Proofs.Ytnfcfbljdibinaa
