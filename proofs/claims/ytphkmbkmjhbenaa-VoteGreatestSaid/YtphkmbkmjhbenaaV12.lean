/- Behind a mend every disk that lives says the best. -/
import Derived.Test.YtphkmbkmjhbenaaV11
namespace Go.Proofs.Ytphkmbkmjhbenaa
open Go Go.Vc

/-! ## all disks have as many sectors -/
def SecA (k : Int) (s : StA) : Prop := ∀ m ∈ s.M, m.d.sectors = k
theorem SecA.at {k : Int} {s : StA} (h : SecA k s) {i : Nat} {m : Mem} (hm : s.M[i]? = some m) : m.d.sectors = k := h m (List.mem_of_getElem? hm)
theorem SecA.of {k : Int} {s s' : StA} (h : SecA k s) (hs : ∀ (i : Nat) (m' : Mem), s'.M[i]? = some m' → ∃ m : Mem, s.M[i]? = some m ∧ m'.d.sectors = m.d.sectors) : SecA k s' := by
  intro m' hm'
  obtain ⟨i, hi, rfl⟩ := List.getElem_of_mem hm'
  obtain ⟨m, h1, h2⟩ := hs i _ (List.getElem?_eq_getElem hi)
  rw [h2]; exact h.at h1
theorem set_sec {M : List Mem} {d : Nat} {m x : Mem} (hd : M[d]? = some m) (hx : x.d.sectors = m.d.sectors) {i : Nat} {m' : Mem} (h : (M.set d x)[i]? = some m') : ∃ m, M[i]? = some m ∧ m'.d.sectors = m.d.sectors := by
  rw [List.getElem?_set] at h
  split at h
  · rename_i he
    subst he
    split at h
    · cases h; exact ⟨m, hd, hx⟩
    · cases h
  · exact ⟨m', h, rfl⟩
theorem onDisk_sec {k : Int} {s : StA} (h : SecA k s) (d : Int) {f : Mem → Mem} (hf : ∀ m, (f m).d.sectors = m.d.sectors) : SecA k (onDisk s d f) := by
  unfold onDisk
  split
  · rename_i m hm
    split
    · exact SecA.of h fun i m' hi => set_sec hm (hf m) hi
    · exact h
  · exact h
theorem writeD_sec (D : Dk) (n : Int) (b : List UInt8) : (writeD D n b).sectors = D.sectors := by unfold writeD; split <;> rfl
theorem corruptD_sec (D : Dk) (k a : Int) (y : UInt8) : (corruptD D k a y).sectors = D.sectors := by
  unfold corruptD
  split
  · rfl
  · split
    · rfl
    · split <;> rfl
theorem flushD_sec (D : Dk) : (flushD D).sectors = D.sectors := by unfold flushD; split <;> rfl
theorem mapIdx_sec {M : List Mem} {f : Nat → Mem → Mem} (hf : ∀ j m, (f j m).d.sectors = m.d.sectors) {i : Nat} {m' : Mem} (h : (M.mapIdx f)[i]? = some m') : ∃ m, M[i]? = some m ∧ m'.d.sectors = m.d.sectors := by
  rw [List.getElem?_mapIdx, Option.map_eq_some_iff] at h
  obtain ⟨m, hm, rfl⟩ := h
  exact ⟨m, hm, hf i m⟩
theorem writeA_sec {k : Int} {s : StA} (h : SecA k s) (d n : Int) (b : List UInt8) : SecA k (writeA s d n b) := by
  unfold writeA
  split
  · exact h
  · split
    · split
      · rename_i m hm
        exact SecA.of h fun i m' hi => set_sec hm (writeD_sec _ _ _) hi
      · exact h
    · exact h
theorem crashA_sec {k : Int} {s : StA} (h : SecA k s) (KS : List (List Int)) (n : Nat) (l : Int) (dn : Bool) : SecA k ⟨crashM KS n s.M, l, dn⟩ :=
  SecA.of h fun i m' hi => mapIdx_sec (fun j m => by split <;> rfl) hi
theorem callA_sec {k : Int} {s : StA} (h : SecA k s) (c : CallA) : SecA k (callA s c) := by
  unfold callA
  split
  · exact writeA_sec h _ _ _
  split
  · split
    · exact h
    · exact SecA.of h fun i m' hi => mapIdx_sec (fun j m => by split; exact flushD_sec _; rfl) hi
  split
  · split
    · exact h
    · exact h
  split
  · exact crashA_sec h _ _ _ _
  split
  · exact onDisk_sec h _ fun m => rfl
  split
  · exact onDisk_sec h _ fun m => rfl
  split
  · exact onDisk_sec h _ fun m => corruptD_sec _ _ _ _
  · exact h
theorem doneA_sec {k : Int} (L : List CallA) : ∀ {s : StA}, SecA k s → SecA k (doneA s L) := by
  induction L with
  | nil => intro s h; exact h
  | cons c L ih =>
    intro s h
    refine ih ?_
    simp only
    split
    · exact callA_sec h c
    · exact h
theorem begA_sec (n : Nat) (k : Int) : SecA k (begA n k) := by
  intro m hm
  rw [List.eq_of_mem_replicate hm]

/-! ## what a disk says -/
def saysB (n : Int) (b : Say) (m : Mem) : Bool := (saidOf n m).is && decide (((saidOf n m).epoch, (saidOf n m).data) = b)
def toD (n : Int) (b : Say) (m : Mem) : Bool := !m.d.dead && !saysB n b m
theorem is_live {n : Int} {m : Mem} (h : (saidOf n m).is = true) : m.d.dead = false ∧ 0 ≤ n ∧ n < m.d.sectors := by
  cases hu : unpackM n (readA n m) with
  | none => rw [said_none hu] at h; cases h
  | some ed =>
    obtain ⟨e, d⟩ := ed
    exact faultZ_ok (said_some hu).2.1
def liveN (M : List Mem) : Nat := (M.map fun m => !m.d.dead).count true
theorem to_count (n : Int) (b : Say) : ∀ M : List Mem, M.countP (toD n b) + (sayL (saysM n M)).count b ≤ liveN M
  | [] => by simp [sayL, saysM, liveN]
  | m :: M => by
    have ih := to_count n b M
    have e1 : liveN (m :: M) = liveN M + (if (!m.d.dead) = true then 1 else 0) := by
      unfold liveN
      rw [List.map_cons, List.count_cons]
      simp
    have e2 : (sayL (saysM n (m :: M))).count b = (sayL (saysM n M)).count b + (if saysB n b m = true then 1 else 0) := by
      unfold sayL saysM saysB
      rw [List.map_cons]
      cases hi : (saidOf n m).is with
      | false => rw [List.filter_cons_of_neg (by simp [hi])]; simp
      | true =>
        rw [List.filter_cons_of_pos hi, List.map_cons, List.count_cons]
        simp
    rw [List.countP_cons, e1, e2]
    have hls : saysB n b m = true → m.d.dead = false := fun h => (is_live (by unfold saysB at h; exact (Bool.and_eq_true_iff.1 h).1)).1
    cases hd : m.d.dead <;> cases hs : saysB n b m <;> simp [toD, hd, hs] at * <;> omega

def wrM (n : Int) (B : List UInt8) (m : Mem) : Mem := { m with d := writeD m.d n B }
theorem writeZ_ne (D : Dk) (n : Int) (l : Nat) : writeZ D n l ≠ 130 := by
  unfold writeZ faultZ
  repeat' split
  all_goals omega

/-- the writes, where no crash is to come -/
theorem putS_at {to : Nat → Bool} {tD : Mem → Bool} {n : Int} {B : List UInt8} {s : StA} (hl : s.left = -1) (hd : s.down = false) (hto : ∀ j m, s.M[j]? = some m → to j = tD m) : ∀ i, i ≤ s.M.length →
    (putS to n B s i).1.left = -1 ∧ (putS to n B s i).1.down = false ∧ (putS to n B s i).2.2 = false ∧ (putS to n B s i).1.M.length = s.M.length ∧
    (∀ j m, s.M[j]? = some m → (putS to n B s i).1.M[j]? = some (if j < i ∧ tD m = true then wrM n B m else m)) ∧ 0 ≤ (putS to n B s i).2.1 ∧ (putS to n B s i).2.1 ≤ (((s.M.take i).countP tD : Nat) : Int)
  | 0, _ => ⟨hl, hd, rfl, rfl, fun j m hm => by rw [if_neg (by omega)]; exact hm, Int.le_refl _, by simp [putS]⟩
  | i + 1, hi => by
    obtain ⟨h1, h2, h3, h4, h5, h6, h7⟩ := putS_at (n := n) (B := B) hl hd hto i (by omega)
    obtain ⟨m, hm⟩ : ∃ m, s.M[i]? = some m := ⟨s.M[i]'(by omega), List.getElem?_eq_getElem _⟩
    have hti := hto i m hm
    have hmi := h5 i m hm
    rw [if_neg (by omega)] at hmi
    have hct : (s.M.take (i + 1)).countP tD = (s.M.take i).countP tD + (if tD m = true then 1 else 0) := by
      rw [List.take_add_one, hm, List.countP_append]
      simp [List.countP_cons]
    generalize hr : putS to n B s i = r at *
    obtain ⟨⟨M1, l1, d1⟩, c1, x1⟩ := r
    simp only at h1 h2 h3 h4 h5 h6 h7 hmi
    subst h1
    subst h2
    subst h3
    have e : putS to n B s (i + 1) = if to i then (writeA ⟨M1, -1, false⟩ i n B, if wrZ ⟨M1, -1, false⟩ i n B.length = 0 then c1 + 1 else c1, decide (wrZ ⟨M1, -1, false⟩ i n B.length = 130)) else (⟨M1, -1, false⟩, c1, false) := by
      simp only [putS, hr]
      rfl
    rw [e]
    cases ht : tD m with
    | false =>
      rw [hti, ht]
      simp only [Bool.false_eq_true, if_false]
      refine ⟨trivial, trivial, trivial, h4, fun j m' hj => ?_, h6, by rw [hct, ht]; simpa using h7⟩
      rw [h5 j m' hj]
      by_cases hji : j = i
      · subst hji
        rw [hm] at hj
        cases hj
        rw [ht]; simp
      · congr 1
        by_cases h8 : j < i
        · have : j < i + 1 := by omega
          simp [h8, this]
        · have : ¬ j < i + 1 := by omega
          simp [h8, this]
    | true =>
      rw [hti, ht]
      simp only [if_true]
      have hwz : wrZ ⟨M1, -1, false⟩ i n B.length = writeZ m.d n B.length := by simp [wrZ, hmi]
      have hwA : writeA ⟨M1, -1, false⟩ (i : Int) n B = ⟨M1.set i (wrM n B m), -1, false⟩ := by
        unfold writeA
        simp [hmi, wrM]
      rw [hwz, hwA]
      refine ⟨rfl, rfl, decide_eq_false (writeZ_ne _ _ _), by simpa using h4, fun j m' hj => ?_, by split <;> omega, by rw [hct, ht]; simp only [if_true]; split <;> omega⟩
      show (M1.set i (wrM n B m))[j]? = _
      rw [List.getElem?_set]
      by_cases hji : i = j
      · subst hji
        rw [hm] at hj
        cases hj
        rw [if_pos rfl, if_pos (by omega), if_pos ⟨by omega, ht⟩]
      · rw [if_neg hji, h5 j m' hj]
        congr 1
        by_cases h8 : j < i
        · have : j < i + 1 := by omega
          simp [h8, this]
        · have : ¬ j < i + 1 := by omega
          simp [h8, this]

theorem putS_none {to : Nat → Bool} {n : Int} {B : List UInt8} {s : StA} : ∀ i, (∀ j, j < i → to j = false) → putS to n B s i = (s, 0, false)
  | 0, _ => rfl
  | i + 1, h => by
    have ih := putS_none (to := to) (n := n) (B := B) (s := s) i fun j hj => h j (by omega)
    simp only [putS]
    rw [ih]
    simp [h i (by omega)]

theorem toM_eq {n : Int} {b : Say} {M : List Mem} {j : Nat} {m : Mem} (hm : M[j]? = some m) : toM (M.map fun m => !m.d.dead) (saysM n M) b j = toD n b m := by
  unfold toM toD saysB saysM
  rw [List.getD_eq_getElem?_getD, List.getElem?_map, List.getElem?_map, hm]
  rfl

theorem sayL_all {n : Int} {b : Say} : ∀ {M : List Mem}, (∀ m ∈ M, saysB n b m = !m.d.dead) → (∀ m ∈ M, (saidOf n m).is = true → saysB n b m = true) → sayL (saysM n M) = List.replicate (liveN M) b
  | [], _, _ => rfl
  | m :: M, h, h' => by
    have ih := sayL_all (M := M) (fun x hx => h x (List.mem_cons_of_mem _ hx)) (fun x hx => h' x (List.mem_cons_of_mem _ hx))
    have hm := h m List.mem_cons_self
    have hm' := h' m List.mem_cons_self
    have e1 : liveN (m :: M) = liveN M + (if (!m.d.dead) = true then 1 else 0) := by
      unfold liveN
      rw [List.map_cons, List.count_cons]
      simp
    have e2 : sayL (saysM n (m :: M)) = (if (saidOf n m).is then ((saidOf n m).epoch, (saidOf n m).data) :: sayL (saysM n M) else sayL (saysM n M)) := by
      unfold sayL saysM
      rw [List.map_cons]
      cases hi : (saidOf n m).is with
      | false => rw [List.filter_cons_of_neg (by simp [hi])]; simp
      | true => rw [List.filter_cons_of_pos hi, List.map_cons]; simp
    rw [e1, e2, ih]
    cases hd : m.d.dead with
    | true =>
      have : (saidOf n m).is = false := by
        cases hi : (saidOf n m).is with
        | false => rfl
        | true => rw [hm' hi, hd] at hm; cases hm
      rw [this]
      simp
    | false =>
      rw [hd] at hm
      unfold saysB at hm
      have h1 := Bool.and_eq_true_iff.1 hm
      rw [h1.1]
      simp only [if_true]
      rw [of_decide_eq_true h1.2]
      simp [List.replicate_succ]

/-- BEHIND A MEND -/
theorem mend_law {n : Int} {b : Say} {c : Nat} {s : StA} {k : Int} (hl : s.left = -1) (hd : s.down = false) (hk : SecA k s) (hb : Best (sayL (saysM n s.M)) b c) (hc : 0 < c) :
    (mendM n b c s).2.2 = 0 ∧ 0 ≤ (mendM n b c s).2.1 ∧ (mendM n b c s).2.1 + (c : Int) ≤ (liveN s.M : Int) ∧ (mendM n b c s).1.left = -1 ∧ (mendM n b c s).1.down = false ∧ (mendM n b c s).1.M.length = s.M.length ∧
      liveN (mendM n b c s).1.M = liveN s.M ∧ sayL (saysM n (mendM n b c s).1.M) = List.replicate (liveN s.M) b ∧
      ((mendM n b c s).1.M.map fun m => !m.d.dead) = (s.M.map fun m => !m.d.dead) ∧ ∀ c2, 0 < c2 → mendM n b c2 (mendM n b c s).1 = ((mendM n b c s).1, 0, 0) := by
  rcases hb with ⟨_, _, h0⟩ | ⟨hmem, hcc, _⟩
  · omega
  obtain ⟨hfn, hfe, hfd⟩ := say_bound hmem
  have hrange : 0 ≤ n ∧ n < k := by
    unfold sayL saysM at hmem
    obtain ⟨x, hx, _⟩ := List.mem_map.1 hmem
    obtain ⟨hx, his⟩ := List.mem_filter.1 hx
    obtain ⟨m, hm, rfl⟩ := List.mem_map.1 hx
    have := is_live his
    rw [hk m hm] at this
    exact this.2
  have hput := putS_at (to := toM (s.M.map fun m => !m.d.dead) (saysM n s.M) b) (tD := toD n b) (n := n) (B := packM n b.1 b.2) hl hd (fun j m hm => toM_eq hm) s.M.length (Nat.le_refl _)
  obtain ⟨h1, h2, h3, h4, h5, h6, h7⟩ := hput
  have hm0 : mendM n b c s = ((putS (toM (s.M.map fun m => !m.d.dead) (saysM n s.M) b) n (packM n b.1 b.2) s s.M.length).1, (putS (toM (s.M.map fun m => !m.d.dead) (saysM n s.M) b) n (packM n b.1 b.2) s s.M.length).2.1, 0) := by
    unfold mendM putM
    rw [if_neg (by rw [hd]; simp), if_neg (by omega), if_pos ⟨hfn, hfe, hfd⟩, if_neg (by rw [h3]; simp)]
  rw [hm0]
  generalize putS (toM (s.M.map fun m => !m.d.dead) (saysM n s.M) b) n (packM n b.1 b.2) s s.M.length = r at *
  obtain ⟨⟨M1, l1, d1⟩, c1, x1⟩ := r
  simp only at h1 h2 h3 h4 h5 h6 h7 ⊢
  subst h1
  subst h2
  subst h3
  rw [List.take_length] at h7
  have hcnt := to_count n b s.M
  have hfine : ∀ m, m.d.sectors = k → toD n b m = true → saidOf n (wrM n (packM n b.1 b.2) m) = ⟨b.1, b.2, true, false⟩ := by
    intro m hmk ht
    unfold toD at ht
    have hdead : m.d.dead = false := by
      have := (Bool.and_eq_true_iff.1 ht).1
      simpa using this
    have hz : faultZ m.d.dead m.d.sectors n = 0 := by
      unfold faultZ
      rw [hdead, hmk]
      simp only [Bool.false_eq_true, if_false]
      rw [if_neg (by omega)]
    have hpl := packM_len n b.1 b.2
    have hwz : writeZ m.d n (packM n b.1 b.2).length = 0 := by
      unfold writeZ
      rw [hz]
      simp only [ne_eq, not_true_eq_false, if_false]
      rw [if_neg (by omega)]
    have hwd : writeD m.d n (packM n b.1 b.2) = { m.d with waits := ins n (packM n b.1 b.2) m.d.waits } := by
      unfold writeD
      rw [if_pos hwz]
    have hread : readA n (wrM n (packM n b.1 b.2) m) = packM n b.1 b.2 := by
      unfold readA wrM
      simp only
      rw [hwd]
      simp only
      rw [if_pos hz]
      unfold readD
      simp only
      rw [get_ins, if_pos rfl]
    have hu : unpackM n (readA n (wrM n (packM n b.1 b.2) m)) = some (b.1, b.2) := by rw [hread]; exact unpack_pack hfn hfe hfd
    exact (said_some hu).1
  have hlen1 : M1.length = s.M.length := h4
  have hprop : ∀ (j : Nat) (m1 : Mem), M1[j]? = some m1 → ∃ m : Mem, s.M[j]? = some m ∧ m1.d.dead = m.d.dead ∧ saysB n b m1 = (!m1.d.dead) ∧ ((saidOf n m1).is = true → saysB n b m1 = true) := by
    intro j m1 hj
    obtain ⟨m, hm⟩ : ∃ m, s.M[j]? = some m := ⟨s.M[j]'(by have := (List.getElem?_eq_some_iff.1 hj).1; omega), List.getElem?_eq_getElem _⟩
    have h8 := h5 j m hm
    rw [hj] at h8
    have hjl : j < s.M.length := (List.getElem?_eq_some_iff.1 hm).1
    simp only [Option.some.injEq, hjl, true_and] at h8
    have hmk := hk.at hm
    refine ⟨m, hm, ?_⟩
    cases ht : toD n b m with
    | true =>
      rw [if_pos ht] at h8
      have hs := hfine m hmk ht
      rw [← h8] at hs
      have hdead : m.d.dead = false := by
        unfold toD at ht
        have := (Bool.and_eq_true_iff.1 ht).1
        simpa using this
      have hd1 : m1.d.dead = m.d.dead := by
        rw [h8]
        show (writeD m.d n _).dead = m.d.dead
        unfold writeD; split <;> rfl
      have hsb : saysB n b m1 = true := by unfold saysB; rw [hs]; simp
      exact ⟨hd1, by rw [hsb, hd1, hdead]; rfl, fun _ => hsb⟩
    | false =>
      rw [ht] at h8
      simp only [Bool.false_eq_true, if_false] at h8
      subst h8
      refine ⟨rfl, ?_, ?_⟩
      · cases hdd : m1.d.dead with
        | false =>
          unfold toD at ht
          rw [hdd] at ht
          simpa using ht
        | true =>
          cases hsb : saysB n b m1 with
          | false => rfl
          | true =>
            have := (is_live (Bool.and_eq_true_iff.1 hsb).1).1
            rw [hdd] at this; cases this
      · intro his
        unfold toD at ht
        rw [(is_live his).1] at ht
        simpa using ht
  have hmap : (M1.map fun m => !m.d.dead) = (s.M.map fun m => !m.d.dead) := by
    apply List.ext_getElem?
    intro j
    rw [List.getElem?_map, List.getElem?_map]
    cases hj : M1[j]? with
    | none =>
      have := List.getElem?_eq_none_iff.1 hj
      rw [List.getElem?_eq_none (by omega)]
    | some m1 =>
      obtain ⟨m, hm, he, _⟩ := hprop j m1 hj
      rw [hm]
      simp [he]
  have hln : liveN M1 = liveN s.M := by unfold liveN; rw [hmap]
  have hall : ∀ m ∈ M1, saysB n b m = !m.d.dead := by
    intro m hm
    obtain ⟨j, hj, rfl⟩ := List.getElem_of_mem hm
    obtain ⟨_, _, _, h, _⟩ := hprop j _ (List.getElem?_eq_getElem hj)
    exact h
  have hall' : ∀ m ∈ M1, (saidOf n m).is = true → saysB n b m = true := by
    intro m hm
    obtain ⟨j, hj, rfl⟩ := List.getElem_of_mem hm
    obtain ⟨_, _, _, _, h⟩ := hprop j _ (List.getElem?_eq_getElem hj)
    exact h
  have hsay := sayL_all hall hall'
  rw [hln] at hsay
  refine ⟨trivial, h6, by rw [hcc]; omega, rfl, rfl, h4, hln, hsay, hmap, fun c2 hc2 => ?_⟩
  have hnone : ∀ j, j < M1.length → toM (M1.map fun m => !m.d.dead) (saysM n M1) b j = false := by
    intro j hj
    rw [toM_eq (List.getElem?_eq_getElem hj)]
    unfold toD
    rw [hall _ (List.getElem_mem hj)]
    cases (M1[j]).d.dead <;> rfl
  have hp := putS_none (n := n) (B := packM n b.1 b.2) (s := ⟨M1, -1, false⟩) M1.length hnone
  unfold mendM putM
  rw [if_neg (by simp), if_neg (by omega), if_pos ⟨hfn, hfe, hfd⟩]
  simp only [hp, Bool.false_eq_true, if_false]
end Go.Proofs.Ytphkmbkmjhbenaa
