/- A place of shards is put right. -/
import Derived.Test.YtpmkjpgoekjcfaaH15
namespace Go.Proofs.Ytpmkjpgoekjcfaa
open Go Go.Vc Go.Gf

structure ShSt (w0 w : World) (k m : Int) (n : Nat) (f ph psh : Option Addr) (lh ch lsh csh k6 k8 k10 k12 k14 k33 k36 k42 k31 k40 : Nat) (Lf : Nat → List UInt8) (wr : List Nat) : Prop where
  ext : Ext w0 w
  n36 : w0.heap.size ≤ k36
  n40 : w0.heap.size ≤ k40
  r6 : RowK w k6 25 #[.pointer f]
  r8 : RowK w k8 3 #[.int .i64 k]
  r10 : RowK w k10 3 #[.int .i64 m]
  r12 : RowK w k12 23 #[.slice ph lh ch]
  r14 : RowK w k14 36 #[.slice psh lsh csh]
  r33 : RowK w k33 36 #[.slice (some (at0 k31)) n n]
  r42 : RowK w k42 23 #[.slice (some (at0 k40)) n n]
  ne : k12 ≠ k42 ∧ k14 ≠ k33
  r36 : ∃ p nw c b, w0.heap.size ≤ b ∧ b ≤ w.heap.size ∧ k8 < b ∧ k10 < b ∧ RowK w k36 28 #[.slice p nw c] ∧ OwnN w b p nw c wr
  out : OutAt w w0.heap.size k31 n Lf
  mrow : ∃ cs, RowK w k40 4 cs ∧ cs.size = n
/-- the byte of each shard at a place -/
def wordAt (n : Nat) (hs : List Bool) (L : List (List UInt8)) (i : Nat) : List UInt8 := (List.range n).map fun j => if hs.getD j false = true then co (L.getD j []) i else 0
def nots (hs : List Bool) : List Bool := hs.map fun b => !b
theorem nots_get {hs : List Bool} {i : Nat} (h : i < hs.length) : (nots hs).getD i false = !hs.getD i false := by simp [nots, List.getD_eq_getElem?_getD, h]
theorem co_wordAt {n : Nat} {hs : List Bool} {L : List (List UInt8)} {i j : Nat} (hj : j < n) : co (wordAt n hs L i) j = if hs.getD j false = true then co (L.getD j []) i else 0 := by
  simp [Gf.co, wordAt, List.getD_eq_getElem?_getD, hj]
theorem wordAt_len (n : Nat) (hs : List Bool) (L : List (List UInt8)) (i : Nat) : (wordAt n hs L i).length = n := by simp [wordAt]
theorem ty_all : 4 ≠ 5 ∧ 4 ≠ 22 ∧ 4 ≠ 25 ∧ 4 ≠ 3 ∧ 4 ≠ 23 ∧ 4 ≠ 36 ∧ 4 ≠ 28 := by decide
theorem ty_out : 5 ≠ 22 ∧ 5 ≠ 25 ∧ 5 ≠ 3 ∧ 5 ≠ 23 ∧ 5 ≠ 36 ∧ 5 ≠ 28 ∧ 5 ≠ 4 := by decide
theorem ty_row : 22 ≠ 25 ∧ 22 ≠ 3 ∧ 22 ≠ 23 ∧ 22 ≠ 36 ∧ 22 ≠ 28 ∧ 22 ≠ 4 := by decide
theorem ty_int : 3 ≠ 25 ∧ 3 ≠ 22 ∧ 3 ≠ 23 ∧ 3 ≠ 36 ∧ 3 ≠ 28 ∧ 3 ≠ 4 := by decide
theorem ty_ints : 28 ≠ 25 ∧ 28 ≠ 22 ∧ 28 ≠ 23 ∧ 28 ≠ 36 ∧ 28 ≠ 3 ∧ 28 ≠ 4 ∧ 28 ≠ 5 := by decide
theorem RowK.keep {w w' : World} {k : Nat} {e : TypeId} {cs : Array Value} {S : Nat → Prop} (h : RowK w k e cs) (hu : Upd S w w') (hS : ∀ x, S x → ∃ (cs : Array Value) (e' : TypeId) (fz : Nat × Nat), w.heap[x]? = some (Obj.cells cs e' fz) ∧ e' ≠ e) : RowK w' k e cs :=
  hu.keep h fun hs => by
    obtain ⟨cs', e', fz, h1, h2⟩ := hS k hs
    unfold RowK at h
    rw [h] at h1
    cases h1
    exact h2 rfl

theorem rowk_cell {w : World} {k : Nat} {e : TypeId} {cs : Array Value} (h : RowK w k e cs) (t : Nat) : w.cell? ((at0 k).add t) = cs[t]? := by
  rw [add_at0]
  unfold RowK at h
  simp [World.cell?, h]
theorem own_same {w : World} {b b' : Nat} {e : TypeId} {sz : Nat} {p : Option Addr} {n c : Nat} {us vs : List Value} (h : OwnS w b e sz p n c us) (h' : OwnS w b' e sz p n c vs) : us = vs := by
  refine List.ext_getElem (by rw [h.length, h'.length]) fun i hi hj => ?_
  obtain ⟨a, ha, h1⟩ := OwnS.cells h i us[i] (by simp)
  obtain ⟨a', ha', h2⟩ := OwnS.cells h' i vs[i] (by simp)
  rw [ha] at ha'
  cases ha'
  rw [h1] at h2
  exact Option.some.inj h2
theorem encB_inj {xs ys : List UInt8} (h : encB xs = encB ys) : xs = ys := by
  refine co_ext (by have := congrArg List.length h; simpa [encB_length] using this) fun i hi => ?_
  have hl : xs.length = ys.length := by have := congrArg List.length h; simpa [encB_length] using this
  have h1 := congrArg (fun l => l[i]?) h
  simp only [encB, List.getElem?_map, List.getElem?_eq_getElem hi, List.getElem?_eq_getElem (show i < ys.length by omega), Option.map_some, Option.some.injEq, Value.int.injEq, true_and] at h1
  simp only [Gf.co, List.getD_eq_getElem?_getD, List.getElem?_eq_getElem hi, List.getElem?_eq_getElem (show i < ys.length by omega), Option.getD_some]
  exact vb_inj.1 h1
theorem encN_inj {xs ys : List Nat} (h : encN xs = encN ys) : xs = ys := by
  have hl : xs.length = ys.length := by have := congrArg List.length h; simpa [encN_length] using this
  refine List.ext_getElem hl fun i hi hj => ?_
  have h1 := congrArg (fun l => l[i]?) h
  simp only [encN, List.getElem?_map, List.getElem?_eq_getElem hi, List.getElem?_eq_getElem hj, Option.map_some, Option.some.injEq, Value.int.injEq, true_and] at h1
  omega

/-- while the bytes of a place are read -/
def ReadI (w : World) (n : Nat) (hs : List Bool) (L : List (List UInt8)) (x k40 : Nat) (q : Option Addr) (i : Int) (w1 : World) : Prop :=
  0 ≤ i ∧ i ≤ n ∧ Upd (fun y => y = k40) w w1 ∧ ∃ kw z, q = some (at0 kw) ∧ OwnB w1 w.heap.size q n n z ∧ (∀ j : Nat, j < n → co z j = if (j : Int) < i ∧ hs.getD j false = true then co (L.getD j []) x else 0) ∧
    ∃ cs, RowK w1 k40 4 cs ∧ cs.size = n ∧ ∀ j : Nat, (j : Int) < i → cs[j]? = some (.bool (!hs.getD j false))
/-- while the bytes that were put right are told -/
def TellI (w0 w30 w69 : World) (n : Nat) (k8 k10 k33 k36 k31 : Nat) (Lf : Nat → List UInt8) (wr : List Nat) (p71 : Option Addr) (l71 c71 : Nat) (c : List UInt8) (p72 : Option Addr) (l72 c72 : Nat) (d : List Nat) (i : Int) (w1 : World) : Prop :=
  0 ≤ i ∧ i ≤ l71 ∧ l71 ≤ n ∧ Ext w0 w1 ∧ RowK w1 k33 36 #[.slice (some (at0 k31)) n n] ∧ (∃ p nw cw b, w0.heap.size ≤ b ∧ b ≤ w1.heap.size ∧ k8 < b ∧ k10 < b ∧ RowK w1 k36 28 #[.slice p nw cw] ∧ OwnN w1 b p nw cw wr) ∧ OwnB w1 w30.heap.size p71 l71 c71 c ∧ OwnN w1 w30.heap.size p72 l72 c72 d ∧
    (∀ (k' : Nat) (e : TypeId) (cs : Array Value), e ≠ 5 → e ≠ 22 → RowK w69 k' e cs → RowK w1 k' e cs) ∧
    w30.heap.size ≤ w1.heap.size ∧ (∃ cs, RowK w1 k31 22 cs ∧ cs.size = n) ∧ w0.heap.size ≤ k31 ∧ ∃ P : Nat → Option Addr × Nat × Nat,
      (∀ t, t < n → w1.cell? ((at0 k31).add t) = some (.slice (P t).1 (P t).2.1 (P t).2.2) ∧ OwnB w1 w0.heap.size (P t).1 (P t).2.1 (P t).2.2 (if (t : Int) < i then Lf t ++ [co c t] else Lf t)) ∧
      (∀ s t, s < n → t < n → s ≠ t → ∀ g, (P s).1 = some (at0 g) → (P t).1 ≠ some (at0 g)) ∧ ∀ t : Nat, i ≤ (t : Int) → t < n → ∀ g, (P t).1 = some (at0 g) → g < w30.heap.size

set_option maxHeartbeats 8000000 in
theorem right_spec {w0 w : World} {k m : Int} {n : Nat} {f ph psh : Option Addr} {lh ch lsh csh k6 k8 k10 k12 k14 k33 k36 k42 k31 k40 : Nat} {Lf : Nat → List UInt8} {wr : List Nat} {hs : List Bool} {L : List (List UInt8)} {s x : Nat}
    (hf : FieldAt w0 f) (hh : FlagsAt w0 ph lh hs) (hsh : ListsAt w0 psh lsh L) (hk : kmOk k m) (hn : (n : Int) = k + m) (hsz : Sized k m lh lsh hs L s) (hx : x < s) (bs : s ≤ 1048576) (hLf : ∀ t, t < n → (Lf t).length ≤ x) (hwr : wr.length ≤ 256 * x)
    (st : ShSt w0 w k m n f ph psh lh ch lsh csh k6 k8 k10 k12 k14 k33 k36 k42 k31 k40 Lf wr) :
    Calls Try.prog 44 #[.int .i64 (x : Int), .pointer (some (at0 k8)), .pointer (some (at0 k10)), .pointer (some (at0 k12)), .pointer (some (at0 k42)), .pointer (some (at0 k14)), .pointer (some (at0 k6)), .pointer (some (at0 k33)), .pointer (some (at0 k36))] w fun e w' =>
      Ext w0 w' ∧ ((decM k.toNat m.toNat (wordAt n hs L x) (nots hs) = none ∧ e = .returned (.int .i64 100)) ∨
        ∃ c, decM k.toNat m.toNat (wordAt n hs L x) (nots hs) = some c ∧ e = .returned (.int .i64 0) ∧
          ShSt w0 w' k m n f ph psh lh ch lsh csh k6 k8 k10 k12 k14 k33 k36 k42 k31 k40 (fun t => Lf t ++ [co c t]) (wr ++ dif (k.toNat + m.toNat) (nots hs) c (wordAt n hs L x))) := by
  obtain ⟨a1, a2, a3, a4⟩ := hk
  have hk : kmOk k m := ⟨a1, a2, a3, a4⟩
  have hlh := hh.1
  have hz1 := hsz.1
  have hz2 := hsz.2.1
  have hn2 : k.toNat + m.toNat = n := by omega
  refine (F44_calls x (at0 k8) (at0 k10) (at0 k12) (at0 k42) (at0 k14) (at0 k6) (at0 k33) (at0 k36) w (fun v w' => Ext w0 w' ∧ ((decM k.toNat m.toNat (wordAt n hs L x) (nots hs) = none ∧ v = .int .i64 100) ∨
        ∃ c, decM k.toNat m.toNat (wordAt n hs L x) (nots hs) = some c ∧ v = .int .i64 0 ∧
          ShSt w0 w' k m n f ph psh lh ch lsh csh k6 k8 k10 k12 k14 k33 k36 k42 k31 k40 (fun t => Lf t ++ [co c t]) (wr ++ dif (k.toNat + m.toNat) (nots hs) c (wordAt n hs L x))))
    (fun _ _ _ _ _ _ _ q _ _ _ _ _ _ _ i w1 => ReadI w n hs L x k40 q i w1) (fun _ _ _ _ _ _ _ _ _ _ _ _ _ _ _ i _ => (n - i).toNat)
    (fun _ _ p72 l72 c72 _ p71 l71 c71 _ w69 i w1 => ∃ w30 c d, OwnB w69 w30.heap.size p71 l71 c71 c ∧ OwnN w69 w30.heap.size p72 l72 c72 d ∧ TellI w0 w30 w69 n k8 k10 k33 k36 k31 Lf wr p71 l71 c71 c p72 l72 c72 d i w1) (fun _ _ _ _ _ _ _ l71 _ _ _ i _ => (l71 - i).toNat) ?_).mono (by
    rintro e w' ⟨v, rfl, hx, ⟨h, rfl⟩ | ⟨c, h, rfl, h2⟩⟩
    · exact ⟨hx, .inl ⟨h, rfl⟩⟩
    · exact ⟨hx, .inr ⟨c, h, rfl, h2⟩⟩)
  refine ⟨_, st.r8.cell, _, st.r10.cell, ?_⟩
  rw [w64 (n := k + m) (by omega)]
  have hkm : (k + m).toNat = n := by omega
  rw [hkm]
  refine ⟨⟨by omega, by omega, by omega⟩, fun k12' w13 h13 => ?_⟩
  have z13 : OwnB w13 w.heap.size (some (at0 k12')) n n (List.replicate n 0) := OwnB.made h13 (by rw [h13.size.1]; exact Nat.le_refl _) (by unfold maxLen; omega)
  obtain ⟨csm, hcsm, hcsl⟩ := st.mrow
  refine ⟨_, _, _, RowK.cell (h13.ext.keep st.r12), ⟨by omega, by omega, h13.ext.upd, k12', _, rfl, z13, fun j hj => by rw [if_neg (by omega)]; exact rep_co _ _, csm, h13.ext.keep hcsm, hcsl, fun j hj => by omega⟩, ?_⟩
  rintro i w30 ⟨hi0, hi1, hu, kw, z, hkw, oz, hz, cs, rm, hcs, hflags⟩
  simp only [Option.some.injEq, at0, Addr.mk.injEq, and_true] at hkw
  subst hkw
  intros
  have bw : ∀ y, y = k40 → ∃ (cs : Array Value) (e' : TypeId) (fz : Nat × Nat), w.heap[y]? = some (Obj.cells cs e' fz) ∧ e' = 4 := fun y hy => ⟨csm, _, (0, 0), by rw [hy]; exact hcsm, rfl⟩
  have kp : ∀ {k' : Nat} {e : TypeId} {cs : Array Value}, RowK w k' e cs → 4 ≠ e → RowK w30 k' e cs := fun h he => RowK.keep h hu fun y hy => by
    obtain ⟨a, b, c, d, e⟩ := bw y hy
    exact ⟨a, b, c, d, by rw [e]; exact he⟩
  have x30 : Ext w0 w30 := OwnB.new_ext st.ext hu fun y hy => by rw [hy]; exact st.n40
  have r42 := kp st.r42 ty_all.2.2.2.2.1
  have r14 := kp st.r14 ty_all.2.2.2.2.2.1
  refine condB_of (fun hs' => ?_) (fun hs' => ?_)
  · -- a shard's byte is read
    simp only [decide_eq_true_eq] at hs'
    obtain ⟨a, rfl, ha⟩ := (hh.ext x30).get (i := i.toNat) (by omega)
    have lm : Live w30 ((at0 k40).add i.toNat) := RowW.live ⟨_, rm⟩ (by omega)
    refine ⟨⟨hi0, hs'⟩, _, by rw [Nat.mul_one]; exact ha, _, _, _, r42.cell, ⟨hi0, by omega⟩, ?_⟩
    show Live w30 ((at0 k40).add (i.toNat * 1)) ∧ _
    rw [Nat.mul_one]
    refine ⟨lm, fun w58 s58 => ?_⟩
    have rm58 : RowK w58 k40 4 (cs.setIfInBounds i.toNat (.bool (!hs.getD i.toNat false))) := by
      have s58' := s58
      rw [add_at0] at s58'
      exact s58'.at rm rfl
    have u58 : Upd (fun y => y = k40) w30 w58 := by
      have := s58.upd
      rw [add_block] at this
      exact this
    have bw30 : ∀ y, y = k40 → ∃ (cs : Array Value) (e' : TypeId) (fz : Nat × Nat), w30.heap[y]? = some (Obj.cells cs e' fz) ∧ e' = 4 := fun y hy => ⟨cs, _, (0, 0), by rw [hy]; exact rm, rfl⟩
    have oz58 : OwnB w58 w.heap.size (some (at0 k12')) n n z := OwnB.other oz u58 fun y hy => by
      obtain ⟨a, b, c, d, e⟩ := bw30 y hy
      exact ⟨a, b, c, d, by rw [e]; exact ty_all.1⟩
    have r14' : RowK w58 k14 36 #[.slice psh lsh csh] := RowK.keep r14 u58 fun y hy => by
      obtain ⟨a, b, c, d, e⟩ := bw30 y hy
      exact ⟨a, b, c, d, by rw [e]; exact ty_all.2.2.2.2.2.1⟩
    have x58 : Ext w0 w58 := OwnB.new_ext x30 u58 fun y hy => by rw [hy]; exact st.n40
    have hu58 : Upd (fun y => y = k40) w w58 := Upd.trans hu u58 fun _ _ h => h
    have hmeas : ((n : Int) - (i + 1)).toNat < ((n : Int) - i).toNat := by omega
    have hflags' : ∀ j : Nat, (j : Int) < i + 1 → (cs.setIfInBounds i.toNat (.bool (!hs.getD i.toNat false)))[j]? = some (.bool (!hs.getD j false)) := fun j hj => by
      rw [Array.getElem?_setIfInBounds]
      by_cases h1 : j = i.toNat
      · subst h1
        rw [if_pos rfl, if_pos (by omega)]
      · rw [if_neg (fun e => h1 e.symm)]
        exact hflags j (by omega)
    unfold F44_A0
    rw [w64 (n := i + 1) (by omega)]
    refine condB_of (fun hb => ?_) (fun hb => ?_)
    · obtain ⟨b, q, ln, cn, rfl, hcell, hq, hqc⟩ := (hsh.ext x58).2 i.toNat (by omega)
      have hql := hq.1
      have hlen := hsz.2.2.2 i.toNat (by omega) hb
      obtain ⟨a2, rfl, hbyte⟩ := BytesAt.co hq (i := x) (by omega)
      obtain ⟨k', hk', hb', hlive, _, hset⟩ := OwnB.at oz58 (i := i.toNat) (by omega)
      simp only [Option.some.injEq, at0, Addr.mk.injEq, and_true] at hk'
      subst hk'
      simp only [Nat.mul_one]
      refine ⟨_, _, _, r14'.cell, ⟨hi0, by omega⟩, _, _, _, hcell, ⟨by omega, by omega⟩, _, by rw [Int.toNat_natCast]; exact hbyte, ⟨hi0, by omega⟩, hlive, fun w64' hs64 => ?_⟩
      obtain ⟨oz64, u64⟩ := hset _ _ hs64
      have hne : k40 ≠ k12' := fun e => by
        obtain ⟨csz, hrz⟩ := OwnB.row oz58
        rw [← e] at hrz
        unfold RowK at rm58 hrz
        rw [rm58] at hrz
        cases hrz
      have hlz := OwnB.len oz
      refine ⟨⟨by omega, by omega, ?_, k12', _, rfl, oz64, fun j hj => ?_, _, u64.keep rm58 hne, by simp [hcs], hflags'⟩, hmeas⟩
      · exact Upd.trans hu58 u64 fun y hy he => by
          have : y = k12' := he
          omega
      · rw [co_set (by omega), hz j hj]
        by_cases h1 : j = i.toNat
        · subst h1
          rw [if_pos rfl, if_pos ⟨by omega, hb⟩]
        · rw [if_neg h1]
          by_cases h2 : (j : Int) < i ∧ hs.getD j false = true
          · rw [if_pos h2, if_pos ⟨by omega, h2.2⟩]
          · rw [if_neg h2, if_neg (fun h3 => h2 ⟨by omega, h3.2⟩)]
    · have hb : hs.getD i.toNat false = false := hb
      refine ⟨⟨by omega, by omega, hu58, k12', z, rfl, oz58, fun j hj => ?_, _, rm58, by simp [hcs], hflags'⟩, hmeas⟩
      rw [hz j hj]
      by_cases h1 : j = i.toNat
      · subst h1
        rw [hb, if_neg (by simp), if_neg (by simp)]
      · by_cases h2 : (j : Int) < i ∧ hs.getD j false = true
        · rw [if_pos h2, if_pos ⟨by omega, h2.2⟩]
        · rw [if_neg h2, if_neg (fun h3 => h2 ⟨by omega, h3.2⟩)]
  · simp only [decide_eq_false_iff_not] at hs'
    obtain rfl : i = (n : Int) := by omega
    have hzw : z = wordAt n hs L x := by
      refine co_ext (by rw [wordAt_len]; exact (OwnB.len oz).symm) fun j hj => ?_
      have hj' : j < n := by rw [OwnB.len oz]; exact hj
      rw [hz j hj', co_wordAt hj']
      by_cases h2 : hs.getD j false = true
      · rw [if_pos ⟨by omega, h2⟩, if_pos h2]
      · rw [if_neg (fun h3 => h2 h3.2), if_neg h2]
    subst hzw
    have hfl : FlagsAt w30 (some (at0 k40)) n (nots hs) := by
      refine ⟨by rw [nots, List.length_map]; omega, fun j u hj => ⟨_, rfl, Row.cell ⟨_, _, rm⟩ ?_⟩⟩
      have hj' : j < hs.length := by
        have := (List.getElem?_eq_some_iff.1 hj).1
        simpa [nots] using this
      have h2 := hflags j (by omega)
      rw [h2]
      simp only [nots, List.map_map, List.getElem?_map, List.getElem?_eq_getElem hj'] at hj
      simp only [List.getD_eq_getElem?_getD, List.getElem?_eq_getElem hj', Option.getD_some]
      simpa using hj
    have r6 := kp st.r6 ty_all.2.2.1
    have r8 := kp st.r8 ty_all.2.2.2.1
    have r10 := kp st.r10 ty_all.2.2.2.1
    have r12 := kp st.r12 ty_all.2.2.2.2.1
    have r33 := kp st.r33 ty_all.2.2.2.2.2.1
    obtain ⟨p36, n36, c36, b36, hb0, hb1, hb8, hb10, hr36, ow36⟩ := st.r36
    have r36 := kp hr36 ty_all.2.2.2.2.2.2
    have bt : ∀ {e : TypeId}, 4 ≠ e → ∀ y, y = k40 → ∃ (cs : Array Value) (e' : TypeId) (fz : Nat × Nat), w.heap[y]? = some (Obj.cells cs e' fz) ∧ e' ≠ e := fun he y hy => by
      obtain ⟨a, b, c, d, e⟩ := bw y hy
      exact ⟨a, b, c, d, by rw [e]; exact he⟩
    have hb1 : b36 ≤ w30.heap.size := Nat.le_trans hb1 hu.size
    have ow30 : OwnN w30 b36 p36 n36 c36 wr := OwnS.other ow36 hu (bt ty_all.2.2.2.1)
    have out30 : OutAt w30 w0.heap.size k31 n Lf := OutAt.other st.out hu fun y hy => by
      obtain ⟨a, b, c, d, e⟩ := bw y hy
      exact ⟨a, b, c, d, by rw [e]; exact ty_all.1, by rw [e]; exact ty_all.2.1⟩
    refine ⟨_, r6.cell, _, r8.cell, _, r10.cell, _, _, _, r42.cell, ?_⟩
    refine (word_spec (c4 := n) (c5 := n) (hf.ext x30) (OwnB.bytes oz) hfl k m).mono ?_
    rintro e w69 ⟨v, rfl, x69, ⟨h, _⟩ | ⟨_, h, _⟩ | ⟨_, _, _, hv⟩⟩
    · exact (h hk).elim
    · exact (h ⟨hn, hn⟩).elim
    have xw69 : Ext w0 w69 := x30.trans x69
    rcases hv with ⟨hd, rfl⟩ | ⟨c, hd, p1, c1, p2, n2, c2, rfl, oc, od⟩
    · -- too many
      refine ⟨_, _, _, _, _, _, _, rfl, ?_, ?_⟩
      · obtain ⟨csr, hcsr, hcsrl⟩ := (out30.ext x69).row
        obtain ⟨P, hP1, hP2⟩ := (out30.ext x69).own
        refine ⟨w69, [], [], OwnS.nil _ _ _ _, OwnS.nil _ _ _ _, by omega, by omega, by omega, xw69, x69.keep r33, ⟨_, _, _, b36, hb0, Nat.le_trans hb1 x69.size, hb8, hb10, x69.keep r36, OwnS.ext ow30 x69⟩, OwnS.nil _ _ _ _, OwnS.nil _ _ _ _, fun _ _ _ _ _ h => h, Nat.le_refl _, ⟨csr, hcsr, hcsrl⟩, out30.le, P, fun t ht => ?_, hP2, fun t _ ht g hg => ?_⟩
        · rw [if_neg (by omega)]
          exact hP1 t ht
        · have := (hP1 t ht).2
          rw [hg] at this
          exact OwnS.lt_heap this
      · rintro j w85 ⟨w30', c', d', _, _, hj0, hj1, _, hxt, hr33, ⟨pp, nn, cc, b', hb0', hb1', hb8', hb10', hr36', hown⟩, _, od', _⟩
        intros
        refine condB_of (fun h => by simp only [decide_eq_true_eq] at h; omega) fun _ => ?_
        have hnn := OwnN.len hown
        obtain ⟨p', c'', w121, hr, ho', hu', _⟩ := OwnS.append elemN 28 hown (q := none) (m := 0) (d := 0) (news := []) rfl (CellsAt.nil _ _) (fun _ => rfl) (fun u hu => by simp at hu) (by unfold maxLen; omega) (by omega) hb1'
        refine ⟨_, _, _, hr36'.cell, _, _, _, w121, hr, ?_⟩
        have r121 : RowK w121 k36 28 #[.slice pp nn cc] := RowK.keep hr36' hu' fun y hy => by
          obtain ⟨cs, e', fz, h7, h8⟩ := OwnS.typed hown hy
          exact ⟨cs, e', fz, h7, by rw [h8]; exact ty_int.2.2.2.2.1⟩
        refine ⟨r121.live, fun w123 s123 => ⟨?_, .inl ⟨hd, rfl⟩⟩⟩
        exact OwnB.new_ext (OwnB.new_ext hxt hu' fun y hy => Nat.le_trans hb0' (OwnS.blk hown hy)) (setK_upd s123) fun y hy => by rw [show y = k36 from hy]; exact st.n36
    · -- put right
      have lc := OwnB.len oc
      refine ⟨_, _, _, _, _, _, _, rfl, ?_, ?_⟩
      · obtain ⟨csr, hcsr, hcsrl⟩ := (out30.ext x69).row
        obtain ⟨P, hP1, hP2⟩ := out30.own
        refine ⟨w30, c, _, oc, od, by omega, by omega, Nat.le_refl _, xw69, x69.keep r33, ⟨_, _, _, b36, hb0, Nat.le_trans hb1 x69.size, hb8, hb10, x69.keep r36, OwnS.ext ow30 x69⟩, oc, od, fun _ _ _ _ _ h => h, x69.size, ⟨csr, hcsr, hcsrl⟩, out30.le, P, fun t ht => ?_, hP2, fun t _ ht g hg => ?_⟩
        · rw [if_neg (by omega)]
          exact ⟨x69.cell (hP1 t ht).1 id, OwnB.ext (hP1 t ht).2 x69⟩
        · have := (hP1 t ht).2
          rw [hg] at this
          exact OwnS.lt_heap this
      · rintro i w85 ⟨w30', c', d', oc', od', hi0, hi1, _, hxt, hr33, ⟨pp, nn, cc, b', hb0', hb1', hb8', hb10', hr36', hown⟩, ocw, odw, hkeep, hszw, ⟨csr, hcsr, hcsrl⟩, hk31, P, hP1, hP2, hP3⟩
        obtain rfl : c' = c := encB_inj (own_same oc' oc)
        obtain rfl := encN_inj (own_same od' od)
        intros
        have hmeas : ((n : Int) - (i + 1)).toNat < ((n : Int) - i).toNat ∨ ¬ i < n := by omega
        refine condB_of (fun hs2 => ?_) (fun hs2 => ?_)
        · -- a byte is told
          simp only [decide_eq_true_eq] at hs2
          obtain ⟨ax, hax, hbyte⟩ := BytesAt.co (OwnB.bytes ocw) (i := i.toNat) (by omega)
          subst hax
          refine ⟨⟨hi0, hs2⟩, _, by rw [Nat.mul_one]; exact hbyte, fun w105 hd105 => ?_⟩
          have e105 := hd105.ext
          have r33' : RowK w105 k33 36 #[.slice (some (at0 k31)) n n] := e105.keep hr33
          have hin : i.toNat < n := by omega
          have hPi := hP1 i.toNat hin
          rw [if_neg (by omega)] at hPi
          have hcellP := e105.cell hPi.1 id
          have ownP := OwnB.ext hPi.2 e105
          refine ⟨_, _, _, r33'.cell, _, _, _, r33'.cell, ⟨hi0, by omega⟩, ?_⟩
          show ∃ (p109 : Option Addr) (l109 c109 : Nat), w105.cell? ((at0 k31).add (i.toNat * 1)) = some (.slice p109 l109 c109) ∧ _
          rw [Nat.mul_one]
          refine ⟨_, _, _, hcellP, fun k110 w111 h110 => ?_⟩
          have e111 := h110.ext
          have x111 : Ext w0 w111 := hxt.trans (e105.trans e111)
          refine ⟨⟨_, _, _, RowK.cell (e111.keep r33'), rfl⟩, ⟨_, _, _, RowK.cell (e111.keep r33'), rfl⟩, ⟨_, _, _, e111.cell hcellP id, rfl⟩, ?_⟩
          have hlenP := OwnB.len ownP
          have hLfi := hLf i.toNat hin
          obtain ⟨p116, c116, w115, hrun, own116, u115, aw115⟩ := OwnB.push2 ownP h110 (hxt.trans e105).size (by omega)
          refine ⟨_, _, _, w115, hrun, ?_⟩
          have tyS : ∀ y, (P i.toNat).1 = some (at0 y) → ∃ (cs : Array Value) (e' : TypeId) (fz : Nat × Nat), w105.heap[y]? = some (Obj.cells cs e' fz) ∧ e' = 5 := fun y hy => OwnS.typed ownP hy
          have kp115 : ∀ {k' : Nat} {e : TypeId} {cs : Array Value}, 5 ≠ e → RowK w105 k' e cs → RowK w115 k' e cs := fun he hr => RowK.keep hr u115 fun y hy => by
            obtain ⟨a, b, c, d, e⟩ := tyS y hy
            exact ⟨a, b, c, d, by rw [e]; exact he⟩
          have r33'' := kp115 ty_out.2.2.2.2.1 r33'
          have r31 : RowK w115 k31 22 csr := kp115 ty_out.1 (e105.keep hcsr)
          refine ⟨⟨_, _, _, r33''.cell, rfl⟩, ⟨hi0, by omega⟩, ?_⟩
          refine ⟨RowW.live ⟨_, r31⟩ (by omega), fun w119 s119 => ?_⟩
          rw [w64 (n := i + 1) (by omega)]
          have u119 : Upd (fun y => y = k31) w115 w119 := by
            have := s119.upd
            rw [add_block] at this
            exact this
          have r31' : RowK w119 k31 22 (csr.setIfInBounds i.toNat (.slice p116 ((P i.toNat).2.1 + 1) c116)) := by
            have s' := s119
            rw [add_at0] at s'
            exact s'.at r31 rfl
          have ty31 : ∀ {e : TypeId}, 22 ≠ e → ∀ y, y = k31 → ∃ (cs : Array Value) (e' : TypeId) (fz : Nat × Nat), w115.heap[y]? = some (Obj.cells cs e' fz) ∧ e' ≠ e := fun he y hy => ⟨csr, _, (0, 0), by rw [hy]; exact r31, he⟩
          have kp119 : ∀ {k' : Nat} {e : TypeId} {cs : Array Value}, 5 ≠ e → 22 ≠ e → RowK w105 k' e cs → RowK w119 k' e cs := fun h1 h2 hr => RowK.keep (kp115 h1 hr) u119 (ty31 h2)
          have x115 : Ext w0 w115 := OwnB.new_ext (hxt.trans e105) u115 fun y hy => OwnB.blk ownP hy
          have x119 : Ext w0 w119 := OwnB.new_ext x115 u119 fun y hy => by rw [show y = k31 from hy]; exact hk31
          have own119 : ∀ {b : Nat} {e : TypeId} {sz : Nat} {p : Option Addr} {n c : Nat} {xs : List Value}, 5 ≠ e → 22 ≠ e → OwnS w105 b e sz p n c xs → OwnS w119 b e sz p n c xs := fun h1 h2 ho =>
            OwnS.other (OwnS.other ho u115 fun y hy => by
              obtain ⟨a, b, c, d, e⟩ := tyS y hy
              exact ⟨a, b, c, d, by rw [e]; exact h1⟩) u119 (ty31 h2)
          have hi2 : (n : Int) - (i + 1) < n - i := by omega
          refine ⟨⟨w30', c', _, oc', od', by omega, by omega, Nat.le_refl _, x119, kp119 ty_out.2.2.2.2.1 ty_row.2.2.2.1 r33', ⟨_, _, _, b', hb0', Nat.le_trans hb1' (Nat.le_trans e105.size (Nat.le_trans u115.size u119.size)), hb8', hb10', kp119 ty_out.2.2.2.2.2.1 ty_row.2.2.2.2.1 (e105.keep hr36'), own119 ty_out.2.2.1 ty_row.2.1 (OwnS.ext hown e105)⟩, ?_, own119 ty_out.2.2.1 ty_row.2.1 (OwnS.ext odw e105),
            fun k' e cs h1 h2 hr => kp119 h1.symm h2.symm (e105.keep (hkeep k' e cs h1 h2 hr)), ?_, ⟨_, r31', by simp [hcsrl]⟩, hk31, fun t => if t = i.toNat then (p116, (P i.toNat).2.1 + 1, c116) else P t, fun t ht => ?_, ?_, fun t h1 ht g hg => ?_⟩, by show ((n : Int) - (i + 1)).toNat < ((n : Int) - i).toNat; omega⟩
          · refine OwnB.other (OwnS.upd (OwnS.ext ocw e105) u115 fun g hg hS => ?_) u119 (ty31 ty_out.1.symm)
            have h1 := OwnS.blk oc' hg
            have h2 := hP3 i.toNat (by omega) hin g hS
            omega
          · have := u115.size
            have := u119.size
            have := e105.size
            omega
          · dsimp only
            rw [rowk_cell r31', Array.getElem?_setIfInBounds]
            by_cases h1 : t = i.toNat
            · subst h1
              simp only [if_true]
              rw [if_pos (by omega), if_pos (by omega)]
              exact ⟨rfl, OwnB.apart own116 u119 r31 ty_out.1.symm⟩
            · rw [if_neg (fun e => h1 e.symm), if_neg h1]
              have hPt := hP1 t ht
              refine ⟨?_, ?_⟩
              · rw [← rowk_cell hcsr]; exact hPt.1
              · have e1 : (if (t : Int) < i + 1 then Lf t ++ [co c' t] else Lf t) = (if (t : Int) < i then Lf t ++ [co c' t] else Lf t) := by
                  by_cases h2 : (t : Int) < i
                  · rw [if_pos h2, if_pos (by omega)]
                  · rw [if_neg h2, if_neg (by omega)]
                rw [e1]
                refine OwnB.apart (OwnS.upd (OwnB.ext hPt.2 e105) u115 fun g hg hS => ?_) u119 r31 ty_out.1.symm
                exact hP2 i.toNat t hin ht (fun e => h1 e.symm) g hS hg
          · have far : ∀ t, t < n → t ≠ i.toNat → ∀ g, (P t).1 = some (at0 g) → p116 ≠ some (at0 g) := fun t ht hne g hg he => by
              have ho := OwnB.ext (hP1 t ht).2 e105
              rw [hg] at ho
              refine aw115 g (OwnS.lt_heap ho) (fun a ha hb => ?_) _ he rfl
              rcases ownP.where_ with ⟨h0, _⟩ | ⟨g', h0, _⟩
              · rw [h0] at ha; cases ha
              · rw [h0] at ha
                cases ha
                have : g' = g := hb
                subst this
                exact hP2 i.toNat t hin ht (fun e => hne e.symm) g' h0 hg
            intro s t hs ht hst g hg
            dsimp only at hg ⊢
            by_cases h1 : s = i.toNat
            · rw [if_pos h1] at hg
              rw [if_neg (fun e => hst (h1.trans e.symm))]
              exact fun he => far t ht (fun e => hst (h1.trans e.symm)) g he hg
            · rw [if_neg h1] at hg
              by_cases h2 : t = i.toNat
              · rw [if_pos h2]; exact far s hs h1 g hg
              · rw [if_neg h2]; exact hP2 s t hs ht hst g hg
          · dsimp only at hg
            rw [if_neg (by omega)] at hg
            exact hP3 t (by omega) ht g hg
        · simp only [decide_eq_false_iff_not] at hs2
          have hnn := OwnN.len hown
          have hdl := OwnN.len odw
          have hdle : (dif (k.toNat + m.toNat) (nots hs) c' (wordAt n hs L x)).length ≤ 256 := by
            unfold dif
            refine Nat.le_trans (List.length_filter_le _ _) ?_
            rw [List.length_range]; omega
          obtain ⟨pf, cf, w121, hr, ho', hu', _⟩ := OwnS.append elemN 28 hown (q := p2) (m := n2) (d := c2) (news := encN (dif (k.toNat + m.toNat) (nots hs) c' (wordAt n hs L x))) (by rw [encN_length]; omega) (OwnS.cells odw)
            (fun hp => by
              rcases odw.where_ with ⟨_, h, _⟩ | ⟨g, h, _⟩
              · exact h
              · rw [hp] at h; cases h) (fun u hu => by obtain ⟨_, _, rfl⟩ := List.mem_map.1 hu; rfl) (by unfold maxLen; omega) (by omega) hb1'
          refine ⟨_, _, _, hr36'.cell, _, _, _, w121, hr, ?_⟩
          have tyw : ∀ {e : TypeId}, 3 ≠ e → ∀ y, pp = some (at0 y) → ∃ (cs : Array Value) (e' : TypeId) (fz : Nat × Nat), w85.heap[y]? = some (Obj.cells cs e' fz) ∧ e' ≠ e := fun he y hy => by
            obtain ⟨cs, e', fz, h7, h8⟩ := OwnS.typed hown hy
            exact ⟨cs, e', fz, h7, by rw [h8]; exact he⟩
          have r121 : RowK w121 k36 28 #[.slice pp nn cc] := RowK.keep hr36' hu' (tyw ty_int.2.2.2.2.1)
          refine ⟨r121.live, fun w123 s123 => ?_⟩
          have u123 := setK_upd s123
          have x121 := OwnB.new_ext hxt hu' fun y hy => Nat.le_trans hb0' (OwnS.blk hown hy)
          have x123 : Ext w0 w123 := OwnB.new_ext x121 u123 fun y hy => by rw [show y = k36 from hy]; exact st.n36
          refine ⟨x123, .inr ⟨c', hd, rfl, ?_⟩⟩
          have fin : ∀ {k' : Nat} {e : TypeId} {cs : Array Value}, 3 ≠ e → 28 ≠ e → RowK w85 k' e cs → RowK w123 k' e cs := fun h1 h2 hr => RowK.keep (RowK.keep hr hu' (tyw h1)) u123 fun y hy => ⟨#[.slice pp nn cc], _, (0, 0), by rw [show y = k36 from hy]; exact r121, h2⟩
          have fin2 : ∀ {k' : Nat} {e : TypeId} {cs : Array Value}, 3 ≠ e → 28 ≠ e → e ≠ 5 → e ≠ 22 → RowK w30 k' e cs → RowK w123 k' e cs := fun h1 h2 h3 h4 hr => fin h1 h2 (hkeep _ _ _ h3 h4 (x69.keep hr))
          have cell36 : ∀ {k' : Nat} {v : Value}, k' < b' → RowK w30 k' 3 #[v] → RowK w123 k' 3 #[v] := fun {k' v} hlt hr => by
            have h1 := hkeep _ _ _ ty_out.2.2.1.symm ty_row.2.1.symm (x69.keep hr)
            have h2 : RowK w121 k' 3 #[v] := hu'.keep h1 fun hp => by
              have := OwnS.blk hown hp
              omega
            exact u123.keep h2 fun e => by
              have h3 : k' = k36 := e
              subst h3
              unfold RowK at h2 r121
              rw [h2] at r121
              cases r121
          have hin : i = (n : Int) := by omega
          have tyo : 3 ≠ 5 := ty_out.2.2.1.symm
          have out123 : OutAt w123 w0.heap.size k31 n (fun t => Lf t ++ [co c' t]) := by
            refine ⟨⟨csr, fin ty_int.2.1 ty_ints.2.1 hcsr, hcsrl⟩, hk31, P, fun t ht => ?_, hP2⟩
            have h1 := hP1 t ht
            rw [if_pos (by omega)] at h1
            refine ⟨?_, OwnB.apart (OwnB.other h1.2 hu' (tyw tyo)) u123 r121 ty_ints.2.2.2.2.2.2⟩
            rw [rowk_cell (fin ty_int.2.1 ty_ints.2.1 hcsr), ← rowk_cell hcsr]
            exact h1.1
          have ow123 : OwnN w123 b' pf (nn + n2) cf (wr ++ dif (k.toNat + m.toNat) (nots hs) c' (wordAt n hs L x)) := by
            have : encN (wr ++ dif (k.toNat + m.toNat) (nots hs) c' (wordAt n hs L x)) = encN wr ++ encN (dif (k.toNat + m.toNat) (nots hs) c' (wordAt n hs L x)) := by simp [encN]
            unfold OwnN
            rw [this]
            exact OwnS.other ho' u123 fun y hy => ⟨#[.slice pp nn cc], _, (0, 0), by rw [show y = k36 from hy]; exact r121, ty_ints.2.2.2.2.1⟩
          exact ⟨x123, st.n36, st.n40, fin2 ty_int.1 ty_ints.1 ty_out.2.1.symm ty_row.1.symm r6, cell36 hb8' r8, cell36 hb10' r10, fin2 ty_int.2.2.1 ty_ints.2.2.1 ty_out.2.2.2.1.symm ty_row.2.2.1.symm r12,
            fin2 ty_int.2.2.2.1 ty_ints.2.2.2.1 ty_out.2.2.2.2.1.symm ty_row.2.2.2.1.symm r14, fin ty_int.2.2.2.1 ty_ints.2.2.2.1 hr33, fin2 ty_int.2.2.1 ty_ints.2.2.1 ty_out.2.2.2.1.symm ty_row.2.2.1.symm r42, st.ne,
            ⟨_, _, _, b', hb0', Nat.le_trans hb1' (Nat.le_trans hu'.size u123.size), hb8', hb10', r121.set s123, ow123⟩, out123, ⟨cs, fin2 ty_int.2.2.2.2.2 ty_ints.2.2.2.2.2.1 ty_all.1 ty_all.2.1 rm, hcs⟩⟩
end Go.Proofs.Ytpmkjpgoekjcfaa
