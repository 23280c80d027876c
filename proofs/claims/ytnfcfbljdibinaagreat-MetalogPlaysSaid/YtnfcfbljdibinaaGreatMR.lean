import Derived.Test.YtnfcfbljdibinaaGreatMC
import Derived.Test.YtnfcfbljdibinaaGreatGb
import Derived.Test.YtnfcfbljdibinaaGreatMV
import Derived.Lib.AppendStr
import Derived.Recover
set_option maxHeartbeats 4000000
namespace Go.Proofs.YtnfcfbljdibinaaGreat
open Go Go.Vc
open Go.IntKind (i64)
open Go.Value (int)
open Go.Proofs.Tryz (prog)
theorem Q6f : QI0 prog 35 3 1 8 := ⟨by kernel_rfl, ⟨Tryz.t3, int i64 0, by kernel_rfl, by kernel_rfl, by kernel_rfl, by kernel_rfl, by kernel_rfl⟩, by decide⟩
def Qu2 (ks : List Int) : List Value := ks.map fun x => int i64 x
theorem Qm9 (ks : List Int) : ∀ u ∈ Qu2 ks, u.oneCell' = true := by
 intro u hu
 obtain ⟨b, _, rfl⟩ := List.mem_map.1 hu
 rfl
theorem Qa2 (ks : List Int) : (Qu2 ks).length = ks.length := by simp [Qu2]
theorem QH4 {w : World} {base : Nat} {p : σ} {l c : Nat} {ks : List Int} (h : Qc w base 3 1 p l c (Qu2 ks)) : Ql w p l ks := by
 refine ⟨?_, h.cells⟩
 have := h.length
 rw [Qa2] at this
 omega
structure Geo where
 k : Int
 m : Int
 size : Int
 stripes : Int
 slots : Int
 objects : Int
abbrev gV (g : Geo) : Value := .agg #[int i64 g.k, int i64 g.m, int i64 g.size, int i64 g.stripes, int i64 g.slots, int i64 g.objects]
def QS (g : Geo) : Prop := (1 <= g.k /\ 0 <= g.m /\ g.k + g.m <= 32) /\ (1 <= g.size /\ g.size <= 4096) /\ (1 <= g.stripes /\ g.stripes <= 256) /\ (1 <= g.slots /\ g.slots <= 64) /\ (1 <= g.objects /\ g.objects <= 64)
instance (g : Geo) : Decidable (QS g) := inferInstanceAs (Decidable (_ /\ _))
def QV (k m : Int) : Prop := 1 <= k /\ 0 <= m /\ k + m <= 256
instance (k m : Int) : Decidable (QV k m) := inferInstanceAs (Decidable (_ /\ _))
theorem Qh8 (k m : Int) (w : World) : Calls prog 56 #[int i64 k, int i64 m] w fun e w' => e = .returned (int i64 (if QV k m then 0 else 50)) /\ w' = w := by
 refine (F56_calls k m w (fun v w' => v = int i64 (if QV k m then 0 else 50) /\ w' = w) ?_).mono (by rintro e w' ⟨v, rfl, rfl, h⟩; exact ⟨rfl, h⟩)
 have bad : ¬ QV k m -> (int i64 50 = int i64 (if QV k m then 0 else 50) /\ w = w) := fun h => ⟨by rw [if_neg h], rfl⟩
 refine Q0 (fun h1 => bad ?_) fun h1 => Q0 (fun h2 => bad ?_) fun h2 => Q0 (fun h3 => bad ?_) fun h3 => Q0 (fun h4 => bad ?_) fun h4 => ⟨?_, rfl⟩ <;>
  simp only [Za, Zb] at *
 ·unfold QV; omega
 ·unfold QV; omega
 ·unfold QV; omega
 ·rw [w64 (by omega)] at h4; unfold QV; omega
 ·rw [w64 (by omega)] at h4
  rw [if_pos (by unfold QV; omega)]
theorem Q65 (n m : Int) (w : World) : Calls prog 55 #[int i64 n, int i64 m] w fun e w' => e = .returned (.bool (decide (1 <= n /\ n <= m))) /\ w' = w := by
 refine (F55_calls n m w (fun v w' => v = .bool (decide (1 <= n /\ n <= m)) /\ w' = w) ?_).mono (by rintro e w' ⟨v, rfl, rfl, h⟩; exact ⟨rfl, h⟩)
 refine Q0 (fun h1 => ⟨?_, rfl⟩) fun h1 => ⟨?_, rfl⟩
 ·simp only [Za] at h1
  simp [h1]
 ·simp only [Zb] at h1
  simp [h1]
def Qo (g : Geo) : Int := if QS g then 0 else 50
theorem QM3 (g : Geo) (w : World) : Calls prog 18 #[gV g] w fun e w' => e = .returned (int i64 (Qo g)) /\ Ext w w' := by
 refine (F18_calls g.k g.m g.size g.stripes g.slots g.objects w (fun v w' => v = int i64 (Qo g) /\ Ext w w') ?_).mono (by rintro e w' ⟨v, rfl, rfl, h⟩; exact ⟨rfl, h⟩)
 intro k7 w8 hk
 have r : RowW w8 k7 _ := ⟨_, hk.at⟩
 have bad : ¬ QS g -> (int i64 50 = int i64 (Qo g) /\ Ext w w8) := fun h => ⟨by rw [Qo, if_neg h], hk.ext⟩
 refine ⟨_, r.row.cell (n := 0) rfl, _, r.c rfl, (Qh8 g.k g.m w8).mono ?_⟩
 rintro e w11 ⟨rfl, rfl⟩
 refine ⟨_, rfl, Q0 (fun h => bad ?_) fun h1 => ⟨_, r.row.cell (n := 0) rfl, _, r.c rfl, (Q65 _ _ _).mono ?_⟩⟩
 ·intro hg
  rw [if_pos (by unfold QS at hg; unfold QV; omega)] at h
  simp at h
 rintro e w16 ⟨rfl, rfl⟩
 have hc : QV g.k g.m := by
  by_cases hc : QV g.k g.m
  ·exact hc
  ·rw [if_neg hc] at h1; simp at h1
 have hc' := hc
 unfold QV at hc'
 rw [w64 (by omega)]
 refine ⟨_, rfl, Q0 (fun h => bad ?_) fun h2 => ⟨_, r.c rfl, (Q65 _ _ _).mono ?_⟩⟩
 ·simp only [Zg, Zb] at h
  intro hg; apply h; unfold QS at hg; omega
 rintro e w20 ⟨rfl, rfl⟩
 refine ⟨_, rfl, Q0 (fun h => bad ?_) fun h3 => ⟨_, r.c rfl, (Q65 _ _ _).mono ?_⟩⟩
 ·simp only [Zg, Zb] at h
  intro hg; apply h; unfold QS at hg; omega
 rintro e w24 ⟨rfl, rfl⟩
 refine ⟨_, rfl, Q0 (fun h => bad ?_) fun h4 => ⟨_, r.c rfl, (Q65 _ _ _).mono ?_⟩⟩
 ·simp only [Zg, Zb] at h
  intro hg; apply h; unfold QS at hg; omega
 rintro e w28 ⟨rfl, rfl⟩
 refine ⟨_, rfl, Q0 (fun h => bad ?_) fun h5 => ⟨_, r.c rfl, (Q65 _ _ _).mono ?_⟩⟩
 ·simp only [Zg, Zb] at h
  intro hg; apply h; unfold QS at hg; omega
 rintro e w32 ⟨rfl, rfl⟩
 refine ⟨_, rfl, Q0 (fun h => bad ?_) fun h6 => ⟨?_, hk.ext⟩⟩
 ·simp only [Zg, Zb] at h
  intro hg; apply h; unfold QS at hg; omega
 simp only [Zf, Za] at h2 h3 h4 h5 h6
 rw [Qo, if_pos (by unfold QS; omega)]
open Go Go.Vc
open Go.IntKind (i64)
open Go.Value (int)
open Go.Proofs.Tryz (prog)
def Qa0 (kind : Int) (key : ByteArray) (len : Int) (st : List Int) : Prop := (kind = 1 \/ kind = 2) /\ (1 <= key.size /\ key.size <= 64) /\ (0 <= len /\ len <= 2147483647) /\ st.length <= 256
def Q03 (st : List Int) : Prop := ∀ s ∈ st, 0 <= s /\ s < 256
def Qc0 (kind : Int) (key : ByteArray) (len : Int) (st : List Int) : Prop := Qa0 kind key len st /\ Q03 st /\ (kind = 2 -> len = 0 /\ st.length = 0)
instance (kind : Int) (key : ByteArray) (len : Int) (st : List Int) : Decidable (Qa0 kind key len st) := inferInstanceAs (Decidable (_ /\ _))
instance (st : List Int) : Decidable (Q03 st) := inferInstanceAs (Decidable (∀ s ∈ st, 0 <= s /\ s < 256))
instance (kind : Int) (key : ByteArray) (len : Int) (st : List Int) : Decidable (Qc0 kind key len st) := inferInstanceAs (Decidable (_ /\ _))
def QR0 (kind : Int) (key : ByteArray) (len : Int) (st : List Int) : Int := if Qc0 kind key len st then 0 else 1
def Qve (P : Prop) (st : List Int) : σ -> σ -> Nat -> Nat -> Int -> World -> Bool -> Int -> ψ :=
 fun _ _ _ _ _ w6 b n w17 => ∃ i : Nat, n = i /\ i <= st.length /\ w17 = w6 /\ (b = true ↔ ¬ (P /\ Q03 (st.take i)))
def QQe (st : List Int) : σ -> σ -> Nat -> Nat -> Int -> World -> Bool -> Int -> World -> Nat := fun _ _ _ _ _ _ _ n _ => st.length - n.toNat
theorem Q86 {st : List Int} {i : Nat} {s : Int} (h : st[i]? = some s) : Q03 (st.take (i + 1)) ↔ Q03 (st.take i) /\ 0 <= s /\ s < 256 := by
 rw [Zn, h]
 unfold Q03
 simp only [Option.toList_some, List.mem_append, List.mem_singleton]
 constructor
 ·intro h; exact ⟨fun x hx => h x (.inl hx), h s (.inr rfl)⟩
 ·rintro ⟨h1, h2⟩ x (hx | rfl)
  ·exact h1 x hx
  ·exact h2
theorem QS6 (kind : Int) (key : ByteArray) (len : Int) {p : σ} {l c : Nat} {st : List Int} {w : World} (h : Ql w p l st) (hl : l <= 9223372036854775807) :
  Calls prog 100 #[.agg #[int i64 kind, .string key, int i64 len, .slice p l c]] w fun e w' => e = .returned (int i64 (QR0 kind key len st)) /\ Ext w w' := by
 refine (F100_calls kind key len p l c w (fun v w' => v = int i64 (QR0 kind key len st) /\ Ext w w') (Qve (Qa0 kind key len st) st) (QQe st) ?_).mono (by rintro e w' ⟨v, rfl, rfl, h⟩; exact ⟨rfl, h⟩)
 have hlen := h.1
 intro k5 w6 hk
 have r : RowW w6 k5 _ := ⟨_, hk.at⟩
 have h6 := h.ext hk.ext
 have bad : ∀ {q : Prop}, ¬ Qc0 kind key len st -> q = True -> (int i64 1 = int i64 (QR0 kind key len st) /\ Ext w w6) := fun hb _ => ⟨by rw [QR0, if_neg hb], hk.ext⟩
 have loop : ∀ (b : Bool) (n : Int) (w17 : World), Qve (Qa0 kind key len st) st (some (at0 k5)) p l c (l : Int) w6 b n w17 →
   F100_A2 n l p w17 b k5 c w6 (fun v w' => v = int i64 (QR0 kind key len st) /\ Ext w w') (Qve (Qa0 kind key len st) st) (QQe st) := by
  rintro b n w17 ⟨i, rfl, hi, rfl, hb⟩
  refine Q0 (fun hlt => ?_) (fun hge => ?_)
  ·simp only [Za] at hlt
   obtain ⟨s, hs⟩ : ∃ s, st[i]? = some s := ⟨st[i]'(by omega), Zc _⟩
   obtain ⟨a, rfl, ca⟩ := h6.2 i (int i64 s) (by rw [Zq, hs]; rfl)
   have hsn := Q86 hs
   have mu : QQe st (some (at0 k5)) (some a) l c (l : Int) w17 b (i64.wrap ((i : Int) + 1)) w17 < QQe st (some (at0 k5)) (some a) l c (l : Int) w17 b (i : Int) w17 := by
    rw [w64 (by omega)]
    show st.length - ((i : Int) + 1).toNat < st.length - (i : Int).toNat
    omega
   have nx : ∀ b', (b' = true ↔ ¬ (Qa0 kind key len st /\ Q03 (st.take (i + 1)))) -> Qve (Qa0 kind key len st) st (some (at0 k5)) (some a) l c (l : Int) w17 b' (i64.wrap ((i : Int) + 1)) w17 := fun b' hb' =>
    ⟨i + 1, by rw [w64 (by omega)]; omega, by omega, rfl, hb'⟩
   rw [Ze, Nat.mul_one]
   refine ⟨⟨by omega, hlt⟩, s, ca, Q0 (fun h1 => ⟨nx true ?_, mu⟩) fun h1 => Q0 (fun h2 => ⟨nx true ?_, mu⟩) fun h2 => ⟨nx _ ?_, mu⟩⟩
   ·have := hb.1 h1
    simp only [true_iff]
    rw [hsn]
    exact fun h => this ⟨h.1, h.2.1⟩
   ·simp only [Za] at h2
    simp only [true_iff]
    rw [hsn]
    exact fun h => by omega
   ·simp only [Zb] at h2
    have : Qa0 kind key len st /\ Q03 (st.take i) := by
     by_cases hq : Qa0 kind key len st /\ Q03 (st.take i)
     ·exact hq
     ·rw [hb.2 hq] at h1; cases h1
    rw [Za, hsn]
    constructor
    ·intro h5 h; omega
    ·intro h5
     apply Int.not_lt.1
     intro h6
     exact h5 ⟨this.1, this.2, by omega, h6⟩
  ·simp only [Zb] at hge
   have e1 : st.take i = st := Zh (by omega)
   rw [e1] at hb
   refine Q0 (fun h1 => ?_) fun h1 => ?_
   ·have := hb.1 h1
    exact bad (q := True) (fun h => this ⟨h.1, h.2.1⟩) rfl
   have hok : Qa0 kind key len st /\ Q03 st := by
    by_cases hq : Qa0 kind key len st /\ Q03 st
    ·exact hq
    ·rw [hb.2 hq] at h1; cases h1
   have fine : (kind = 2 -> len = 0 /\ st.length = 0) -> (int i64 0 = int i64 (QR0 kind key len st) /\ Ext w w17) := fun hq => ⟨by rw [QR0, if_pos ⟨hok.1, hok.2, hq⟩], hk.ext⟩
   refine ⟨_, r.row.cell (n := 0) rfl, Q0 (fun h2 => ⟨_, r.c rfl, Q0 (fun h3 => ?_) fun h3 => ⟨_, _, _, r.c rfl, Q0 (fun h4 => ?_) fun h4 => ?_⟩⟩) fun h2 => ?_⟩ <;>
    simp only [Za, Zb, Zg, Zf] at *
   ·exact bad (q := True) (fun h => h3 (h.2.2 h2).1) rfl
   ·exact bad (q := True) (fun h => by have := (h.2.2 h2).2; omega) rfl
   ·exact fine fun _ => ⟨h3, by omega⟩
   ·exact fine fun h => absurd h h2
 have start : ∀ b0 : Bool, (b0 = true ↔ ¬ Qa0 kind key len st) -> Qve (Qa0 kind key len st) st (some (at0 k5)) p l c (l : Int) w6 b0 0 w6 := fun b0 hb0 =>
  ⟨0, rfl, Nat.zero_le _, rfl, by rw [hb0]; simp [Q03]⟩
 have a1 : ¬ Qa0 kind key len st -> F100_A1 w6 k5 (fun v w' => v = int i64 (QR0 kind key len st) /\ Ext w w') (Qve (Qa0 kind key len st) st) (QQe st) := fun hn =>
  ⟨_, _, _, r.c rfl, start true (by simp [hn]), fun b n w17 hI => by intros; exact loop b n w17 hI⟩
 have a0 : kind = 1 \/ kind = 2 -> F100_A0 w6 k5 (fun v w' => v = int i64 (QR0 kind key len st) /\ Ext w w') (Qve (Qa0 kind key len st) st) (QQe st) := fun hkd => by
  refine ⟨_, r.c rfl, Q0 (fun h1 => a1 ?_) fun h1 => ⟨_, r.c rfl, Q0 (fun h2 => a1 ?_) fun h2 => ⟨_, r.c rfl, Q0 (fun h3 => a1 ?_) fun h3 => ⟨_, r.c rfl, Q0 (fun h4 => a1 ?_) fun h4 => ⟨_, _, _, r.c rfl, _, _, _, r.c rfl, start _ ?_, fun b n w17 hI => by intros; exact loop b n w17 hI⟩⟩⟩⟩⟩ <;>
   simp only [Za, Zb] at * <;> unfold Qa0 <;> omega
 refine ⟨_, r.row.cell (n := 0) rfl, Q0 (fun h1 => ⟨_, r.row.cell (n := 0) rfl, Q0 (fun h2 => a1 ?_) fun h2 => a0 ?_⟩) fun h1 => a0 ?_⟩ <;>
  simp only [Za, Zb, Zg, Zf] at *
 ·unfold Qa0; omega
 ·exact .inr h2
 ·exact .inl h1
open Go Go.Vc
open Go.IntKind (i64)
open Go.Value (int)
open Go.Proofs.Tryz (prog)
def Qn0 (e : TypeId) (w w' : World) : Prop := ∀ (k : Nat) (cs : Array Value) (e' : TypeId) (fz : Nat × Nat), w.heap[k]? = some (Obj.cells cs e' fz) -> e' ≠ e -> w'.heap[k]? = some (Obj.cells cs e' fz)
theorem Qn0.refl (e : TypeId) (w : World) : Qn0 e w w := fun _ _ _ _ h _ => h
theorem Qn0.trans {e : TypeId} {w w' w'' : World} (h : Qn0 e w w') (h' : Qn0 e w' w'') : Qn0 e w w'' := fun k cs e' fz hk hne => h' k cs e' fz (h k cs e' fz hk hne) hne
theorem Qn0.of_ext {e : TypeId} {w w' : World} (h : Ext w w') : Qn0 e w w' := fun _ _ _ _ hk _ => h.keep hk
theorem Qn0.of_own {w w' : World} {base : Nat} {e : TypeId} {sz : Nat} {p : σ} {n c : Nat} {xs : List Value} (own : Qc w base e sz p n c xs) (hu : Upd (fun b => p = some (at0 b)) w w') : Qn0 e w w' := fun k cs e' fz hk hne => hu.keep hk fun hp => by
 rcases own.where_ with ⟨h0, _⟩ | ⟨g, h0, _, _, _, cur, hc, _⟩
 ·rw [h0] at hp; cases hp
 ·rw [h0] at hp
  simp only [Zi, at0, Zv, and_true] at hp
  subst hp
  rw [hc] at hk
  cases hk
  exact hne rfl
theorem Qn0.row {e : TypeId} {w w' : World} (h : Qn0 e w w') {k : Nat} {cs : Array Value} {e' : TypeId} (hk : w.heap[k]? = some (.cells cs e' (0, 0))) (hne : e' ≠ e) : RowW w' k cs := ⟨e', h _ _ _ _ hk hne⟩
theorem QF8 {w : World} {p : σ} {l : Nat} {bs : τ} (h : Q3 w p l bs) : p = none -> l = 0 := by
 intro hp
 cases bs with
 | nil => exact h.1
 | cons b bs =>
  obtain ⟨a, ha, _⟩ := h.2 (by simp)
  rw [hp] at ha; cases ha
theorem Qp1 {w : World} {base : Nat} {p : σ} {n c : Nat} {bs : τ} (h : Qc w base 5 1 p n c (QB bs)) : Q3 w p n bs := by
 have hl := h.length
 rw [Qq, Nat.mul_one] at hl
 have := Q3.of_cells h.cells
 rw [← hl]
 exact this
theorem Qb2 {w0 w w' : World} (hx : Ext w0 w) {e : TypeId} {sz : Nat} {p : σ} {n c : Nat} {xs : List Value} (h : Qc w w0.heap.size e sz p n c xs) (hu : Upd (fun b => p = some (at0 b)) w w') : Ext w0 w' := by
 refine Upd.trans hx hu fun x hx' hs => ?_
 rcases h.where_ with ⟨h0, _⟩ | ⟨g, h0, hge, _⟩
 ·rw [h0] at hs; cases hs
 ·rw [h0] at hs
  simp only [Zi, at0, Zv, and_true] at hs
  omega
theorem QF6 {w0 w : World} (hx : Ext w0 w) {p : σ} {n c : Nat} {xs : τ} (h : Qc w w0.heap.size 5 1 p n c (QB xs)) {q : σ} {m d : Nat} {ys : τ} (hq : Q3 w q m ys) (hb : n + m <= 90000) :
  ∃ (p' : σ) (l' c' : Nat), ∃ w', Sem.run prog (Builtin.append_ #[42, 42] 42 #[.slice p n c, .slice q m d]) w = .ok (.slice p' l' c') w' /\ Qc w' w0.heap.size 5 1 p' l' c' (QB (xs ++ ys)) /\ l' = n + m /\ Ext w0 w' /\ Qn0 5 w w' := by
 have hl := hq.1
 obtain ⟨p', c', w', hr, ho, hu, _⟩ := h.append QTc 42 (q := q) (m := m) (d := d) (news := QB ys) (by rw [Qq]; omega) hq.cells (QF8 hq) (Qn3 ys) (by unfold maxLen; omega) (by omega) hx.size
 refine ⟨p', _, c', w', hr, ?_, rfl, Qb2 hx h hu, Qn0.of_own h hu⟩
 have : QB (xs ++ ys) = QB xs ++ QB ys := by simp [QB]
 rw [this]; exact ho
theorem Q07 (s : ByteArray) : Go.Lib.strCells s = QB s.data.toList := rfl
theorem Q0d {w0 w : World} (hx : Ext w0 w) {p : σ} {n c : Nat} {xs : τ} (h : Qc w w0.heap.size 5 1 p n c (QB xs)) (s : ByteArray) (hb : n + s.size <= 90000) :
  ∃ (p' : σ) (l' c' : Nat), ∃ w', Sem.run prog (Builtin.append_ #[42, 9] 42 #[.slice p n c, .string s]) w = .ok (.slice p' l' c') w' /\ Qc w' w0.heap.size 5 1 p' l' c' (QB (xs ++ s.data.toList)) /\ l' = n + s.size /\ Ext w0 w' /\ Qn0 5 w w' := by
 obtain ⟨v', w', hr, hown, hg, _⟩ := Go.Lib.run_append_own_string (P := prog) w w0.heap.size 42 9 42 5 Tryz.t5 (by kernel_rfl) (by kernel_rfl) (by kernel_rfl) (by kernel_rfl) (by kernel_rfl) (by kernel_rfl)
  (.slice p n c) n (QB xs) h s (by unfold maxLen; omega) (by omega) hx.size
 have hv : ∃ p' c', v' = .slice p' (n + s.size) c' := by
  rcases hown.2 with ⟨hv, hn0⟩ | ⟨g, cap, cur, hv, _⟩
  ·exact ⟨none, 0, by rw [hv, hn0]⟩
  ·exact ⟨_, _, hv⟩
 obtain ⟨p', c', rfl⟩ := hv
 have hu : Upd (fun b => p = some (at0 b)) w w' := by
  refine ⟨hg.os, hg.tape, hg.output, hg.size, fun b hb hS => hg.block b hb ?_⟩
  intro e1
  apply hS
  rcases h.where_ with ⟨rfl, _⟩ | ⟨g, rfl, _⟩
  ·cases e1
  ·simp only [Value.ownBlock, Zi] at e1
   rw [e1]
 refine ⟨p', _, c', w', hr, ?_, rfl, Qb2 hx h hu, Qn0.of_own h hu⟩
 have : QB (xs ++ s.data.toList) = QB xs ++ Go.Lib.strCells s := by rw [Q07]; simp [QB]
 rw [this]; exact hown
def nb (n : Int) : Nat -> τ
 | 0 => []
 | k + 1 => UInt8.ofNat (n.toNat / 256 ^ k) :: nb n k
theorem Q41 (n : Int) : ∀ k, (nb n k).length = k
 | 0 => rfl
 | k + 1 => by rw [nb, List.length_cons, Q41 n k]
theorem Qee {n : Int} (h0 : 0 <= n) {k : Nat} (hk : k < 8) : IntKind.u8.wrap (n.fdiv (2 ^ (min (i64.wrap ((8 : Int) * (k : Int))).toNat IntKind.i64.bits))) = ((UInt8.ofNat (n.toNat / 256 ^ k)).toNat : Int) := by
 rw [w64 (n := 8 * (k : Int)) (by omega)]
 have e1 : (8 * (k : Int)).toNat = 8 * k := by omega
 have e2 : IntKind.i64.bits = 64 := rfl
 rw [e1, e2, Nat.min_eq_left (by omega)]
 have e3 : ((2 : Int) ^ (8 * k)) = (((256 ^ k : Nat)) : Int) := by
  rw [Int.pow_mul]
  norm_cast
 rw [e3]
 exact QV1 h0 _
theorem Q31 {w0 w : World} (hx : Ext w0 w) {p : σ} {l c : Nat} {bs : τ} (own : Qc w w0.heap.size 5 1 p l c (QB bs)) {n : Int} (h0 : 0 <= n) {k : Nat} (hk : k <= 8) (hl : l <= 80000) :
  Calls prog 93 #[.slice p l c, int i64 n, int i64 (k : Int)] w fun e w' => ∃ p' l' c', e = .returned (.slice p' l' c') /\ Qc w' w0.heap.size 5 1 p' l' c' (QB (bs ++ nb n k)) /\ l' = l + k /\ Ext w0 w' /\ Qn0 5 w w' := by
 refine (F93_calls p l c n (k : Int) w (fun v w' => ∃ p' l' c', v = .slice p' l' c' /\ Qc w' w0.heap.size 5 1 p' l' c' (QB (bs ++ nb n k)) /\ l' = l + k /\ Ext w0 w' /\ Qn0 5 w w')
  (fun _ p4 l4 c4 n5 w6 => ∃ (i : Nat) (pre : τ), n5 = (i : Int) - 1 /\ i <= k /\ pre ++ nb n i = nb n k /\ Qc w6 w0.heap.size 5 1 p4 l4 c4 (QB (bs ++ pre)) /\ l4 + i = l + k /\ Ext w0 w6 /\ Qn0 5 w w6)
  (fun _ _ _ _ n5 _ => (n5 + 1).toNat) ?_).mono (by rintro e w' ⟨v, rfl, p', l', c', rfl, h⟩; exact ⟨p', l', c', rfl, h⟩)
 refine ⟨⟨k, [], by rw [w64 (by omega)], Nat.le_refl _, rfl, by rw [List.append_nil]; exact own, rfl, hx, Qn0.refl _ _⟩, ?_⟩
 rintro p4 l4 c4 n5 w6 ⟨i, pre, rfl, hi, hpre, own6, hl4, x6, t6⟩
 intros
 refine Q0 (fun h1 => ?_) (fun h1 => ?_)
 ·simp only [Za] at h1
  obtain ⟨j, rfl⟩ : ∃ j, i = j + 1 := ⟨i - 1, by omega⟩
  have e1 : (((j + 1 : Nat) : Int) - 1) = (j : Int) := by omega
  rw [e1, w64 (n := 8 * (j : Int)) (by omega)]
  refine ⟨by omega, fun k19 w20 hk19 => ?_⟩
  have hb := Qee h0 (k := j) (by omega)
  rw [w64 (n := 8 * (j : Int)) (by omega)] at hb
  rw [hb] at hk19
  obtain ⟨p22, l22, c22, w21, hr, own21, hl22, x21, t21⟩ := QF6 (x6.trans hk19.ext) (own6.ext hk19.ext) (d := 1) (Q3.one hk19.at) (by omega)
  refine ⟨p22, l22, c22, w21, hr, ⟨j, pre ++ [UInt8.ofNat (n.toNat / 256 ^ j)], by rw [w64 (by omega)], by omega, ?_, ?_, by omega, x21, (t6.trans (Qn0.of_ext hk19.ext)).trans t21⟩, ?_⟩
  ·rw [List.append_assoc]; exact hpre
  ·rw [← List.append_assoc]; exact own21
  ·rw [w64 (by omega)]
   show ((j : Int) - 1 + 1).toNat < ((j : Int) + 1).toNat
   omega
 ·simp only [Zb] at h1
  have hi0 : i = 0 := by omega
  subst hi0
  have : pre = nb n k := by rw [← hpre]; simp [nb]
  rw [this] at own6
  exact ⟨_, _, _, rfl, own6, by omega, x6, t6⟩
open Go Go.Vc
open Go.IntKind (i64)
open Go.Value (int)
open Go.Proofs.Tryz (prog)
def Qbc (kind : Int) (key : ByteArray) (len : Int) (st : List Int) : τ := (([UInt8.ofNat kind.toNat, UInt8.ofNat key.size] ++ key.data.toList) ++ nb len 4) ++ nb (st.length : Int) 2
def Qg2 (kind : Int) (key : ByteArray) (len : Int) (st : List Int) : τ := Qbc kind key len st ++ st.flatMap (nb · 2)
theorem QS3 (key : ByteArray) : key.data.toList.length = key.size := by rw [Array.length_toList]; rfl
theorem Q09 (kind : Int) (key : ByteArray) (len : Int) (st : List Int) : (Qbc kind key len st).length = 8 + key.size := by
 unfold Qbc
 simp only [List.length_append, List.length_cons, List.length_nil, Q41, QS3]
 omega
theorem Qu8 (st : List Int) : (st.flatMap (nb · 2)).length = 2 * st.length := by
 induction st with
 | nil => rfl
 | cons x st ih => simp only [List.flatMap_cons, List.length_append, Q41, ih, List.length_cons]; omega
theorem Qe3 (kind : Int) (key : ByteArray) (len : Int) (st : List Int) : (Qg2 kind key len st).length = 8 + key.size + 2 * st.length := by
 unfold Qg2
 rw [List.length_append, Q09, Qu8]
theorem QNa {x : Int} (h0 : 0 <= x) : IntKind.u8.wrap x = ((UInt8.ofNat x.toNat).toNat : Int) := by
 have := QV1 h0 1
 rw [Nat.div_one] at this
 rw [← this]
 simp [Int.fdiv_one]
theorem Qdc {w : World} {k : Nat} {bs : τ} (h : RowW w k (QB bs).toArray) : Q3 w (some (at0 k)) bs.length bs := by
 have : Q8 w (some (at0 k)) (QB bs) := fun j u hj => ⟨_, rfl, h.row.cell (by simpa using hj)⟩
 exact Q3.of_cells this
theorem Qn9 {w0 w : World} (hx : Ext w0 w) {p : σ} {l c : Nat} {bs : τ} (own : Qc w w0.heap.size 5 1 p l c (QB bs)) {kind : Int} {key : ByteArray} {len : Int} {p5 : σ} {l5 c5 : Nat} {st : List Int} (hst : Ql w0 p5 l5 st) (hok : Qc0 kind key len st) (hl : l <= 70000) :
  Calls prog 94 #[.slice p l c, .agg #[int i64 kind, .string key, int i64 len, .slice p5 l5 c5]] w fun e w' => ∃ p' l' c', e = .returned (.slice p' l' c') /\ Qc w' w0.heap.size 5 1 p' l' c' (QB (bs ++ Qg2 kind key len st)) /\ l' = l + (8 + key.size + 2 * st.length) /\ Ext w0 w' /\ Qn0 5 w w' := by
 refine (F94_calls p l c kind key len p5 l5 c5 w (fun v w' => ∃ p' l' c', v = .slice p' l' c' /\ Qc w' w0.heap.size 5 1 p' l' c' (QB (bs ++ Qg2 kind key len st)) /\ l' = l + (8 + key.size + 2 * st.length) /\ Ext w0 w' /\ Qn0 5 w w')
  (fun p25 l25 _ _ _ p30 l30 c30 n31 w32 => ∃ i : Nat, n31 = i /\ i <= st.length /\ p25 = p5 /\ l25 = l5 /\ Qc w32 w0.heap.size 5 1 p30 l30 c30 (QB ((bs ++ Qbc kind key len st) ++ (st.take i).flatMap (nb · 2))) /\ l30 = l + (8 + key.size) + 2 * i /\ Ext w0 w32 /\ Qn0 5 w w32)
  (fun _ _ _ _ _ _ _ _ n31 _ => 1000 - n31.toNat) ?_).mono (by rintro e w' ⟨v, rfl, p', l', c', rfl, h⟩; exact ⟨p', l', c', rfl, h⟩)
 obtain ⟨⟨hkind, hkey, hlen, hcnt⟩, hall, _⟩ := hok
 have hl5 := hst.1
 intro k6 w7 hk6
 have y7 := hx.trans hk6.ext
 have a7 : w7.heap[k6]? = some (Obj.cells #[int i64 kind, .string key, int i64 len, .slice p5 l5 c5] 38 (0, 0)) := hk6.at
 have hne : 38 ≠ 5 := by decide
 have r7 : RowW w7 k6 _ := ⟨_, a7⟩
 refine ⟨_, r7.c rfl, _, r7.c rfl, fun k10 w11 hk10 => ?_⟩
 rw [QNa (x := kind) (by omega), QNa (x := ((key.size : Nat) : Int)) (by omega), Ze] at hk10
 have y11 := y7.trans hk10.ext
 have t11 : Qn0 5 w w11 := (Qn0.of_ext hk6.ext).trans (Qn0.of_ext hk10.ext)
 have t7 : Qn0 5 w7 w11 := Qn0.of_ext hk10.ext
 have b10 : Q3 w11 (some (at0 k10)) 2 [UInt8.ofNat kind.toNat, UInt8.ofNat key.size] := Qdc (bs := [UInt8.ofNat kind.toNat, UInt8.ofNat key.size]) ⟨_, hk10.at⟩
 obtain ⟨p13, l13, c13, w12, hr12, own12, hl13, x12, t12⟩ := QF6 y11 ((own.ext hk6.ext).ext hk10.ext) (d := 2) b10 (by omega)
 have u12 := t7.trans t12
 refine ⟨_, _, _, _, hr12, _, (u12.row a7 hne).row.cell rfl, ?_⟩
 obtain ⟨p16, l16, c16, w15, hr15, own15, hl16, x15, t15⟩ := Q0d x12 own12 key (by omega)
 have u15 := u12.trans t15
 refine ⟨_, _, _, _, hr15, _, (u15.row a7 hne).row.cell rfl, ?_⟩
 refine (Q31 x15 own15 (n := len) (by omega) (k := 4) (by omega) (by omega)).mono ?_
 rintro e w18 ⟨p20, l20, c20, rfl, own18, hl20, x18, t18⟩
 have u18 := u15.trans t18
 refine ⟨_, _, _, rfl, _, _, _, (u18.row a7 hne).row.cell rfl, ?_⟩
 refine (Q31 x18 own18 (n := ((l5 : Nat) : Int)) (by omega) (k := 2) (by omega) (by omega)).mono ?_
 rintro e w22 ⟨p24, l24, c24, rfl, own22, hl24, x22, t22⟩
 have u22 := u18.trans t22
 have z22 : Qn0 5 w w22 := (Qn0.of_ext hk6.ext).trans u22
 have e22 : ((((bs ++ [UInt8.ofNat kind.toNat, UInt8.ofNat key.size]) ++ key.data.toList) ++ nb len 4) ++ nb ((l5 : Nat) : Int) 2) = bs ++ Qbc kind key len st := by
  unfold Qbc
  rw [hl5]
  simp only [List.append_assoc]
 rw [e22] at own22
 refine ⟨_, _, _, rfl, _, _, _, (u22.row a7 hne).row.cell rfl, ⟨0, rfl, Nat.zero_le _, rfl, rfl, by simpa using own22, by omega, x22, z22⟩, ?_⟩
 rintro p30 l30 c30 n31 w32 ⟨i, rfl, hi, _, _, own32, hl30, x32, t32⟩
 intros
 refine Q0 (fun hlt => ?_) (fun hge => ?_)
 ·simp only [Za] at hlt
  obtain ⟨x, hs⟩ : ∃ x, st[i]? = some x := ⟨st[i]'(by omega), Zc _⟩
  obtain ⟨a, rfl, ca⟩ := (hst.ext x32).2 i (int i64 x) (by rw [Zq, hs]; rfl)
  have hxr := hall x (Zs hs)
  refine ⟨⟨by omega, by omega⟩, x, by rw [Ze, Nat.mul_one]; exact ca, ?_⟩
  refine (Q31 x32 own32 (n := x) (by omega) (k := 2) (by omega) (by omega)).mono ?_
  rintro e w43 ⟨p45, l45, c45, rfl, own43, hl45, x43, t43⟩
  rw [w64 (by omega)]
  refine ⟨_, _, _, rfl, ⟨i + 1, by omega, by omega, rfl, rfl, ?_, by omega, x43, t32.trans t43⟩, ?_⟩
  ·rw [Zn, hs, List.flatMap_append, ← List.append_assoc]
   simpa using own43
  ·show 1000 - ((i : Int) + 1).toNat < 1000 - (i : Int).toNat
   omega
 ·simp only [Zb] at hge
  have : st.take i = st := Zh (by omega)
  rw [this, List.append_assoc] at own32
  exact ⟨_, _, _, rfl, own32, by omega, x32, t32⟩
theorem Qs8 {kind : Int} {key : ByteArray} {len : Int} {p : σ} {l c : Nat} {st : List Int} {w : World} (h : Ql w p l st) (hl : l <= 9223372036854775807) :
  Calls prog 51 #[.agg #[int i64 kind, .string key, int i64 len, .slice p l c]] w fun e w' => Ext w w' /\ if Qc0 kind key len st then ∃ p' l' c', e = .returned (.tuple #[.slice p' l' c', int i64 0]) /\ Qc w' w.heap.size 5 1 p' l' c' (QB (Qg2 kind key len st)) else e = .returned (.tuple #[.slice none 0 0, int i64 1]) := by
 refine (F51_calls kind key len p l c w (fun v w' => Ext w w' /\ if Qc0 kind key len st then ∃ p' l' c', v = .tuple #[.slice p' l' c', int i64 0] /\ Qc w' w.heap.size 5 1 p' l' c' (QB (Qg2 kind key len st)) else v = .tuple #[.slice none 0 0, int i64 1]) ?_).mono (by
  rintro e w' ⟨v, rfl, hx, h⟩
  refine ⟨hx, ?_⟩
  by_cases hk : Qc0 kind key len st
  ·rw [if_pos hk] at h ⊢
   obtain ⟨p', l', c', rfl, h⟩ := h
   exact ⟨p', l', c', rfl, h⟩
  ·rw [if_neg hk] at h ⊢
   rw [h])
 intro k5 w6 hk5
 have r6 : RowW w6 k5 _ := ⟨_, hk5.at⟩
 refine ⟨_, r6.row.cell (n := 0) rfl, _, r6.c rfl, _, r6.c rfl, _, _, _, r6.c rfl, (QS6 kind key len (h.ext hk5.ext) hl).mono ?_⟩
 rintro e w11 ⟨rfl, x11⟩
 have r11 : RowW w11 k5 _ := x11.rowW r6 id
 have y11 := hk5.ext.trans x11
 by_cases hk : Qc0 kind key len st
 ·have e0 : QR0 kind key len st = 0 := by unfold QR0; rw [if_pos hk]
  rw [e0]
  refine ⟨_, rfl, Q0 (fun h => by cases h) fun _ => ⟨_, r11.row.cell (n := 0) rfl, _, r11.c rfl, _, r11.c rfl, _, _, _, r11.c rfl, ?_⟩⟩
  refine (Qn9 y11 (bs := []) (Qc.nil _ _ _ _) h hk (by omega)).mono ?_
  rintro e w18 ⟨p', l', c', rfl, own, _, x18, _⟩
  refine ⟨_, _, _, rfl, x18, ?_⟩
  rw [if_pos hk]
  exact ⟨_, _, _, rfl, own⟩
 ·have e0 : QR0 kind key len st = 1 := by unfold QR0; rw [if_neg hk]
  rw [e0]
  refine ⟨_, rfl, Q0 (fun _ => ⟨y11, ?_⟩) fun h => by cases h⟩
  rw [if_neg hk]
open Go Go.Vc
open Go.IntKind (i64)
open Go.Value (int)
open Go.Proofs.Tryz (prog)
def nvL (bs : τ) : Nat := bs.foldl (fun a x => a * 256 + x.toNat) 0
theorem Q4d (l : τ) (x : UInt8) : nvL (l ++ [x]) = nvL l * 256 + x.toNat := by simp [nvL, List.foldl_append]
theorem QNb : ∀ (l : τ) (a : Nat), l.foldl (fun a x => a * 256 + x.toNat) a < (a + 1) * 256 ^ l.length
 | [], a => by simp
 | x :: l, a => by
  have ih := QNb l (a * 256 + x.toNat)
  have hx := x.toNat_lt
  rw [List.foldl_cons]
  refine Zo ih ?_
  rw [List.length_cons, Nat.pow_succ, Nat.mul_comm (256 ^ l.length) 256, ← Nat.mul_assoc]
  exact Nat.mul_le_mul_right _ (by omega)
theorem Qu7 (l : τ) : nvL l < 256 ^ l.length := by
 have := QNb l 0
 simpa [nvL] using this
theorem Qie {a : Nat} {x : UInt8} (h1 : a < 1099511627776) : Qs .or .i64 (i64.wrap ((a : Int) * 2 ^ (min (8 : Int).toNat IntKind.i64.bits))) (i64.wrap (x.toNat : Int)) = ((a * 256 + x.toNat : Nat) : Int) := by
 have hx := x.toNat_lt
 have t8 : (2 : Int) ^ (min (8 : Int).toNat IntKind.i64.bits) = 256 := rfl
 rw [t8, w64 (by omega), w64 (by omega)]
 unfold Qs
 have e1 : ((a : Int) * 256) = ((a * 256 : Nat) : Int) := by omega
 have e2 : IntKind.i64.bits = 64 := rfl
 simp only [e1, e2, BitVec.ofInt_natCast, BitVec.toNat_or, BitVec.toNat_ofNat]
 rw [Nat.mod_eq_of_lt (by omega), Nat.mod_eq_of_lt (by omega)]
 have e3 : (a * 256) ||| x.toNat = a * 256 + x.toNat := by
  have := Nat.two_pow_add_eq_or_of_lt (i := 8) (b := x.toNat) (by omega) a
  rw [Nat.mul_comm a 256]
  exact this.symm
 rw [e3, w64 (by omega)]
def PE : List PanicEntry := [{ v := .iface 28 (int i64 160), recovered := false }]
theorem Qj4 {w : World} {q : σ} {m : Nat} {bs : τ} (hb : Q3 w q m bs) {k : Nat} {row : Array Value} (hr : RowW w k row) (hne : ∀ (j : Nat) (n : Int), row[j]? ≠ some (Value.int .u8 n)) (a : Addr) (ha : q = some a) (h0 : bs ≠ []) : a.block ≠ k := by
 intro hk
 have hl := hb.1
 have : 0 < m := by rw [hl]; exact List.length_pos_iff.2 h0
 obtain ⟨a', ha', hc⟩ := hb.get (i := 0) this
 rw [ha] at ha'
 cases ha'
 obtain ⟨e, he⟩ := hr
 have hbl : (a.add 0).block = k := by rw [Qr]; exact hk
 unfold World.cell? at hc
 rw [hbl, he] at hc
 dsimp only at hc
 split at hc
 ·cases hc
 ·exact hne _ _ hc
theorem Qm5 (p : σ) (l c : Nat) : ∀ (j : Nat) (x : Int), (#[.slice p l c] : Array Value)[j]? ≠ some (Value.int .u8 x)
 | 0, x => by simp
 | j + 1, x => by simp
structure QE3 (T : Nat -> Prop) (w0 w : World) (r : Nat) (bs : τ) : Prop where
 not : ¬ T r
 upd : Upd (fun x => x = r) w0 w
 old : r < w0.heap.size
 ex : ∃ p l c, RowW w r #[.slice p l c] /\ Q3 w0 p l bs /\ (∀ a, p = some a -> bs ≠ [] -> T a.block) /\ l <= c /\ c <= 9223372036854775807
theorem QE3.new {T : Nat -> Prop} {w0 w w' : World} {r : Nat} {bs : τ} (h : QE3 T w0 w r bs) {S : Nat -> Prop} (hu : Upd S w w') (hS : ∀ x, S x -> w0.heap.size <= x) : QE3 T w0 w' r bs := by
 obtain ⟨hT, h1, h2, p, l, c, h3, h4⟩ := h
 exact ⟨hT, Upd.trans h1 hu fun x hx hs => by have := hS x hs; omega, h2, p, l, c, hu.rowW h3 fun hs => by have := hS _ hs; omega, h4⟩
theorem QE3.ext {T : Nat -> Prop} {w0 w w' : World} {r : Nat} {bs : τ} (h : QE3 T w0 w r bs) (hx : Ext w w') : QE3 T w0 w' r bs := h.new hx fun _ h => h.elim
theorem QE3.set {T : Nat -> Prop} {w0 w w' : World} {r : Nat} {bs : τ} (h : QE3 T w0 w r bs) {k j : Nat} {v : Value} (hs : QT w ((at0 k).add j) v w') (hk : w0.heap.size <= k) : QE3 T w0 w' r bs := h.new hs.upd fun x hx => by
 rw [Qi] at hx
 have : x = k := hx
 omega
theorem QE3.rebase {T S : Nat -> Prop} {w0 w w' : World} {r : Nat} {bs : τ} (h : QE3 T w0 w r bs) (hu : Upd S w w') (hr : ¬ S r) (hS : ∀ x, T x -> ¬ S x) : QE3 T w' w' r bs := by
 obtain ⟨hT, h1, h2, p, l, c, h3, h4, h5, h6⟩ := h
 have hb : Q3 w p l bs := h4.upd h1 fun a ha hne hr => hT (hr ▸ h5 a ha hne)
 exact ⟨hT, Upd.refl _ _, (hu.rowW h3 hr).lt, p, l, c, hu.rowW h3 hr, hb.upd hu fun a ha hne => hS _ (h5 a ha hne), h5, h6⟩
theorem QX7 {T : Nat -> Prop} {w0 w : World} {r : Nat} {bs : τ} (h : QE3 T w0 w r bs) (n : Nat) : Calls prog 141 #[.pointer (some (at0 r)), int i64 (n : Int)] w fun e w' =>
  (bs.length < n /\ e = .panicked PE /\ w' = w) \/ (n <= bs.length /\ Upd (fun x => x = r) w w' /\ QE3 T w0 w' r (bs.drop n) /\ ∃ p c, e = .returned (.slice p n c) /\ Q3 w0 p n (bs.take n) /\ (∀ a, p = some a -> bs.take n ≠ [] -> a.block ≠ r)) := by
 refine (F141_calls (some (at0 r)) (n : Int) w (fun v w' => n <= bs.length /\ Upd (fun x => x = r) w w' /\ QE3 T w0 w' r (bs.drop n) /\ ∃ p c, v = .slice p n c /\ Q3 w0 p n (bs.take n) /\ (∀ a, p = some a -> bs.take n ≠ [] -> a.block ≠ r)) (fun ch w' => bs.length < n /\ ch = PE /\ w' = w) ?_).mono (by
  rintro e w' (⟨v, rfl, h1, h2, h3, p, c, rfl, h4⟩ | ⟨ch, rfl, h1, rfl, h2⟩)
  ·exact .inr ⟨h1, h2, h3, p, c, rfl, h4⟩
  ·exact .inl ⟨h1, rfl, h2⟩)
 obtain ⟨hT, h1, h2, p, l, c, h3, h4, h5, h6, h7⟩ := h
 have hl := h4.1
 refine ⟨p, l, c, h3.c rfl, Q0 (fun hlt => ?_) (fun hge => ?_)⟩
 ·simp only [Za] at hlt
  exact ⟨by omega, rfl, rfl⟩
 ·simp only [Zb] at hge
  refine ⟨p, l, c, h3.c rfl, ⟨by omega, by omega⟩, p, l, c, h3.c rfl, ⟨by omega, by omega⟩, h3.live (by simp), fun w10 s10 => ?_⟩
  rw [Ze] at s10 ⊢
  have ap : ∀ {q m n'}, Qu p c m 1 = q -> ∀ a, q = some a -> (bs.take n').drop m ≠ [] -> T a.block := by
   intro q m n' hq a ha hne
   have hbs : bs ≠ [] := by rintro rfl; simp at hne
   cases p with
   | none => unfold Qu QLc at hq; rw [← hq] at ha; split at ha <;> cases ha
   | some g0 =>
    have hb := h5 g0 rfl hbs
    unfold Qu QLc at hq
    rw [← hq] at ha
    split at ha <;> cases ha <;> first | exact hb | (rw [Qr]; exact hb)
  have c1 := Q94 h4 (c := c) (a := 0) (b := n) (by omega) (by omega) h6
  have c2 := Q94 h4 (c := c) (a := n) (b := l) (Nat.le_refl _) (by omega) h6
  have e1 : bs.take l = bs := by rw [hl]; exact List.take_length
  rw [List.drop_zero] at c1
  rw [e1] at c2
  have u10 : Upd (fun x => x = r) w w10 := by
   have := s10.upd
   rw [Qi] at this
   exact this
  refine ⟨by omega, u10, ⟨hT, h1.trans u10 fun _ _ h => h, h2, _, _, _, s10.row h3, c2, fun a ha hne => ap (n' := l) rfl a ha (by rw [e1]; exact hne), by omega, by omega⟩, _, _, rfl, c1, fun a ha hne hr => hT (hr ▸ ap (n' := n) rfl a ha (by rw [List.drop_zero]; exact hne))⟩
theorem Q90 {T : Nat -> Prop} {w0 w : World} {r : Nat} {bs : τ} (h : QE3 T w0 w r bs) {k : Nat} (hk : k <= 4) : Calls prog 139 #[.pointer (some (at0 r)), int i64 (k : Int)] w fun e w' =>
  (bs.length < k /\ e = .panicked PE /\ w' = w) \/ (k <= bs.length /\ Upd (fun x => x = r) w w' /\ QE3 T w0 w' r (bs.drop k) /\ e = .returned (int i64 (nvL (bs.take k) : Int))) := by
 refine (F139_calls (some (at0 r)) (k : Int) w (fun v w' => k <= bs.length /\ Upd (fun x => x = r) w w' /\ QE3 T w0 w' r (bs.drop k) /\ v = int i64 (nvL (bs.take k) : Int)) (fun ch w' => bs.length < k /\ ch = PE /\ w' = w)
  (fun _ _ _ _ w3 n10 n11 w12 => w12 = w3 /\ ∃ i : Nat, n11 = i /\ i <= k /\ n10 = (nvL ((bs.take k).take i) : Int)) (fun _ _ _ _ _ _ n11 _ => 100 - n11.toNat) ?_).mono (by
  rintro e w' (⟨v, rfl, h1, h2, h3, rfl⟩ | ⟨ch, rfl, h1, rfl, h2⟩)
  ·exact .inr ⟨h1, h2, h3, rfl⟩
  ·exact .inl ⟨h1, rfl, h2⟩)
 refine (QX7 h k).mono ?_
 rintro e w3 (⟨hlt, rfl, rfl⟩ | ⟨hle, hu, hr, p, c, rfl, hb, hap⟩)
 ·exact .inl ⟨_, rfl, hlt, rfl, rfl⟩
 ·refine .inr ⟨_, _, _, rfl, ⟨rfl, 0, rfl, Nat.zero_le _, rfl⟩, ?_⟩
  have hb3 : Q3 w3 p k (bs.take k) := hb.upd hr.upd fun a ha hne => hap a ha hne
  have hlk := hb.1
  rintro n10 n11 w12 ⟨rfl, i, rfl, hi, rfl⟩
  intros
  refine Q0 (fun hlt => ?_) (fun hge => ?_)
  ·simp only [Za] at hlt
   obtain ⟨a, rfl, hc⟩ := hb3.get (i := i) (by omega)
   have hlt' : nvL ((bs.take k).take i) < 1099511627776 := by
    refine Zo (Qu7 _) ?_
    refine Zu (Nat.pow_le_pow_right (by omega) (show ((bs.take k).take i).length <= 4 by simp; omega)) (by decide)
   refine ⟨⟨by omega, hlt⟩, _, by rw [Ze, Nat.mul_one]; exact hc, by omega, ?_⟩
   rw [Qie hlt', w64 (by omega)]
   obtain ⟨y, hy⟩ : ∃ y, (bs.take k)[i]? = some y := ⟨(bs.take k)[i]'(by omega), Zc _⟩
   refine ⟨⟨rfl, i + 1, by omega, by omega, ?_⟩, ?_⟩
   ·rw [Zn, hy, Option.toList_some, Q4d, Zj, hy]
    rfl
   ·show 100 - ((i : Int) + 1).toNat < 100 - (i : Int).toNat
    omega
  ·simp only [Zb] at hge
   have hik : i = k := by omega
   subst hik
   refine ⟨hle, hu, hr, ?_⟩
   rw [Zh (by omega)]
open Go Go.Vc
open Go.IntKind (i64)
open Go.Value (int)
open Go.Proofs.Tryz (prog)
def stD : Nat -> τ -> Option (List Int × τ)
 | 0, bs => some ([], bs)
 | k + 1, bs => if bs.length < 2 then none else (stD k (bs.drop 2)).map fun x => ((nvL (bs.take 2) : Int) :: x.1, x.2)
structure Qp2 where
 kind : Int
 key : τ
 len : Int
 st : List Int
def Qp2.ok (v : Qp2) : Prop := Qc0 v.kind (QF v.key) v.len v.st
instance (v : Qp2) : Decidable v.ok := inferInstanceAs (Decidable (Qc0 _ _ _ _))
def Q9c (kind : Int) (key : τ) (len : Int) : Option (List Int × τ) -> Option (Qp2 × τ)
 | none => none
 | some x => if (Qp2.mk kind key len x.1).ok then some (⟨kind, key, len, x.1⟩, x.2) else none
def QJ4 (bs : τ) : Option (Qp2 × τ) :=
 if bs.length < 1 then none
 else if (bs.drop 1).length < 1 then none
 else if ((bs.drop 1).drop 1).length < nvL ((bs.drop 1).take 1) then none
 else if (((bs.drop 1).drop 1).drop (nvL ((bs.drop 1).take 1))).length < 4 then none
 else if ((((bs.drop 1).drop 1).drop (nvL ((bs.drop 1).take 1))).drop 4).length < 2 then none
 else Q9c (nvL (bs.take 1)) (((bs.drop 1).drop 1).take (nvL ((bs.drop 1).take 1))) (nvL ((((bs.drop 1).drop 1).drop (nvL ((bs.drop 1).take 1))).take 4))
  (stD (nvL (((((bs.drop 1).drop 1).drop (nvL ((bs.drop 1).take 1))).drop 4).take 2)) (((((bs.drop 1).drop 1).drop (nvL ((bs.drop 1).take 1))).drop 4).drop 2))
def Qd0 (w : World) (k : Nat) (cs : Array Value) : Prop := w.heap[k]? = some (Obj.cells cs 38 (0, 0))
theorem Qd0.row {w : World} {k : Nat} {cs : Array Value} (h : Qd0 w k cs) : RowW w k cs := ⟨_, h⟩
theorem Qd0.upd {S : Nat -> Prop} {w w' : World} {k : Nat} {cs : Array Value} (h : Qd0 w k cs) (hu : Upd S w w') (hn : ¬ S k) : Qd0 w' k cs := hu.keep h hn
theorem Qd0.set {w w' : World} {k n : Nat} {v : Value} {cs : Array Value} (h : Qd0 w k cs) (hs : QT w ((at0 k).add n) v w') : Qd0 w' k (cs.setIfInBounds n v) := by
 rw [Qi] at hs
 exact hs.at h rfl
theorem Qd0.own_ne {w : World} {base : Nat} {p : σ} {n c : Nat} {xs : List Value} {k : Nat} {cs : Array Value} (h : Qd0 w k cs) (own : Qc w base 3 1 p n c xs) : p ≠ some (at0 k) := by
 intro hp
 rcases own.where_ with ⟨h0, _⟩ | ⟨g, h0, _, _, _, cur, hc, _⟩
 ·rw [h0] at hp; cases hp
 ·rw [h0] at hp
  simp only [Zi, at0, Zv, and_true] at hp
  subst hp
  unfold Qd0 at h
  rw [h] at hc
  have : 38 = 3 := by simpa using (Option.some.inj hc |> fun e => (Obj.cells.inj e).2.1)
  exact absurd this (by decide)
theorem Q7 {S : Nat -> Prop} {w w1 w2 : World} {k : Nat} (h : Upd S w w1) (hu : Upd (fun x => x = k) w1 w2) (hk : w.heap.size <= k) : Upd S w w2 := Upd.trans h hu fun x hx he => by omega
theorem Qw0 {w w' : World} {k n : Nat} {v : Value} (hs : QT w ((at0 k).add n) v w') : Upd (fun x => x = k) w w' := by
 have := hs.upd
 rw [Qi] at this
 exact this
theorem Qub {w : World} {k : Nat} {c0 c1 c2 c3 v0 v1 v2 v3 : Value} (hr : Qd0 w k #[c0, c1, c2, c3]) {T : ψ} (h : ∀ w4, Upd (fun x => x = k) w w4 -> Qd0 w4 k #[v0, v1, v2, v3] -> T w4) :
  QL1 w (at0 k) /\ ∀ w1 : World, QT w (at0 k) v0 w1 -> (QL1 w1 ((at0 k).add 1) /\ ∀ w2 : World, QT w1 ((at0 k).add 1) v1 w2 -> (QL1 w2 ((at0 k).add 2) /\ ∀ w3 : World, QT w2 ((at0 k).add 2) v2 w3 -> (QL1 w3 ((at0 k).add 3) /\ ∀ w4 : World, QT w3 ((at0 k).add 3) v3 w4 -> T w4))) := by
 refine ⟨hr.row.live (n := 0) (by simp), fun w1 s1 => ?_⟩
 have s1' : QT w ((at0 k).add 0) v0 w1 := s1
 have r1 := hr.set s1'
 refine ⟨r1.row.live (by simp), fun w2 s2 => ?_⟩
 have r2 := r1.set s2
 refine ⟨r2.row.live (by simp), fun w3 s3 => ?_⟩
 have r3 := r2.set s3
 refine ⟨r3.row.live (by simp), fun w4 s4 => ?_⟩
 exact h w4 ((((Qw0 s1').trans (Qw0 s2) fun _ _ h => h).trans (Qw0 s3) fun _ _ h => h).trans (Qw0 s4) fun _ _ h => h) (r3.set s4)
theorem Qtd {cnt : Nat} {b5 bi : τ} {sts : List Int} {i : Nat} (h : stD cnt b5 = (stD (cnt - i) bi).map fun x => (sts ++ x.1, x.2)) (hi : i < cnt) :
  (bi.length < 2 -> stD cnt b5 = none) /\ (2 <= bi.length -> stD cnt b5 = (stD (cnt - (i + 1)) (bi.drop 2)).map fun x => ((sts ++ [(nvL (bi.take 2) : Int)]) ++ x.1, x.2)) := by
 obtain ⟨m, hm⟩ : ∃ m, cnt - i = m + 1 := ⟨cnt - i - 1, by omega⟩
 have hm' : cnt - (i + 1) = m := by omega
 rw [hm, stD] at h
 refine ⟨fun hl => ?_, fun hl => ?_⟩
 ·rw [h, if_pos hl]; rfl
 ·rw [h, if_neg (by omega), hm', Option.map_map]
  congr 1
  funext x
  simp
def Qlf (T : Nat -> Prop) (w0 w : World) (r cnt : Nat) (b5 : τ) (kind : Int) (key : τ) (len : Int) : σ -> σ -> Int -> World -> Int -> ψ := fun q2 q7 n27 _ n31 w32 =>
 ∃ (k2 k7 i : Nat) (sts : List Int) (bi : τ) (p : σ) (c : Nat), q2 = some (at0 k2) /\ q7 = some (at0 k7) /\ n27 = (cnt : Int) /\ n31 = i /\ i <= cnt /\ w.heap.size <= k2 /\ w.heap.size <= k7 /\ k2 ≠ k7 /\ QE3 T w0 w32 r bi /\ stD cnt b5 = ((stD (cnt - i) bi).map fun x => (sts ++ x.1, x.2)) /\ sts.length = i ∧
  Qd0 w32 k7 #[int i64 kind, .string (QF key), int i64 len, .slice p i c] /\ Qd0 w32 k2 #[int i64 0, .string ⟨#[]⟩, int i64 0, .slice none 0 0] /\ Qc w32 w.heap.size 3 1 p i c (Qu2 sts) /\ Upd (fun x => x = r) w w32
def QNd (T : Nat -> Prop) (w0 w : World) (r : Nat) (bs : τ) : φ := fun v w' => ∃ (x : Qp2) (rest : τ) (p : σ) (l c : Nat), QJ4 bs = some (x, rest) /\ v = .agg #[int i64 x.kind, .string (QF x.key), int i64 x.len, .slice p l c] /\ QE3 T w0 w' r rest /\ Qc w' w.heap.size 3 1 p l c (Qu2 x.st) /\ Upd (fun x => x = r) w w'
def QOd (w : World) (r : Nat) (bs : τ) : List PanicEntry -> ψ := fun ch w' => QJ4 bs = none /\ ch = PE /\ Upd (fun x => x = r) w w'
open Go Go.Vc
open Go.IntKind (i64)
open Go.Value (int)
open Go.Proofs.Tryz (prog)
theorem Qg5 {T : Nat -> Prop} {w0 w : World} {r : Nat} {bs : τ} (h : QE3 T w0 w r bs) : Calls prog 105 #[.pointer (some (at0 r))] w fun e w' =>
  (∃ v, e = .returned v /\ QNd T w0 w r bs v w') \/ ∃ ch, e = .panicked ch /\ QOd w r bs ch w' := by
 generalize hb1 : bs.drop 1 = b1
 generalize hb2 : b1.drop 1 = b2
 generalize hsz : nvL (b1.take 1) = size
 generalize hb3 : b2.drop size = b3
 generalize hb4 : b3.drop 4 = b4
 generalize hb5 : b4.drop 2 = b5
 generalize hcnt : nvL (b4.take 2) = cnt
 generalize hkind : ((nvL (bs.take 1) : Nat) : Int) = kind
 generalize hkey : b2.take size = key
 generalize hlen : ((nvL (b3.take 4) : Nat) : Int) = len
 refine F105_calls (some (at0 r)) w (QNd T w0 w r bs) (QOd w r bs) (Qlf T w0 w r cnt b5 kind key len) (fun _ _ _ _ n31 _ => 70000 - n31.toNat) ?_
 have hD : QJ4 bs = if bs.length < 1 then none else if b1.length < 1 then none else if b2.length < size then none else if b3.length < 4 then none else if b4.length < 2 then none else Q9c kind key len (stD cnt b5) := by
  unfold QJ4
  rw [hb1, hb2, hsz, hb3, hb4, hb5, hcnt, hkind, hkey, hlen]
 have hw0 := h.upd.size
 have hro := h.old
 intro k2 w3 hk2
 have s2 := hk2.size
 have n3 : Qd0 w3 k2 #[int i64 0, .string ⟨#[]⟩, int i64 0, .slice none 0 0] := hk2.at
 have u3 : Upd (fun x => x = r) w w3 := hk2.ext.mono fun _ _ h => h.elim
 refine (Q90 (h.ext hk2.ext) (k := 1) (by omega)).mono ?_
 rw [hb1, hkind]
 rintro e w4 (⟨hlt, rfl, rfl⟩ | ⟨h1, u4, r4, rfl⟩)
 ·exact .inl ⟨_, rfl, by rw [hD, if_pos hlt], rfl, u3⟩
 have y4 := u3.trans u4 fun _ _ h => h
 have n4 := n3.upd u4 (by omega)
 have z4 := u4.size
 refine .inr ⟨_, rfl, fun k7 w8 hk7 => ?_⟩
 have s7 := hk7.size
 refine Qub (v0 := int i64 kind) (v1 := .string ⟨#[]⟩) (v2 := int i64 0) (v3 := .slice none 0 0) (show Qd0 w8 k7 _ from hk7.at) fun w12 u12 n12 => ?_
 have r12 : QE3 T w0 w12 r b1 := (r4.ext hk7.ext).new u12 fun x hx => by omega
 have y12 : Upd (fun x => x = r) w w12 := Q7 (y4.trans hk7.ext fun _ _ h => h.elim) u12 (by omega)
 have m12 : Qd0 w12 k2 _ := (n4.upd hk7.ext id).upd u12 (by omega)
 refine (Q90 r12 (k := 1) (by omega)).mono ?_
 rw [hb2, hsz]
 rintro e w13 (⟨hlt, rfl, rfl⟩ | ⟨h2, u13, r13, rfl⟩)
 ·exact .inl ⟨_, rfl, by rw [hD, if_neg (by omega), if_pos hlt], rfl, y12⟩
 refine .inr ⟨_, rfl, (QX7 r13 size).mono ?_⟩
 rw [hb3, hkey]
 rintro e w16 (⟨hlt, rfl, rfl⟩ | ⟨h3, u16, r16, pk, ck, rfl, hbk, hap⟩)
 ·exact .inl ⟨_, rfl, by rw [hD, if_neg (by omega), if_neg (by omega), if_pos hlt], rfl, y12.trans u13 fun _ _ h => h⟩
 have hbk16 : Q3 w16 pk size key := hbk.upd r16.upd fun a ha hne => hap a ha hne
 have y16 := (y12.trans u13 fun _ _ h => h).trans u16 fun _ _ h => h
 have n16 : Qd0 w16 k7 _ := (n12.upd u13 (by omega)).upd u16 (by omega)
 have m16 : Qd0 w16 k2 _ := (m12.upd u13 (by omega)).upd u16 (by omega)
 refine .inr ⟨_, _, _, rfl, _, QG5 hbk16, n16.row.live (by simp), fun w20 s20 => ?_⟩
 have n20 := n16.set s20
 have m20 : Qd0 w20 k2 _ := m16.upd (Qw0 s20) (by omega)
 have y20 := Q7 y16 (Qw0 s20) (by omega)
 refine (Q90 (r16.set s20 (by omega)) (k := 4) (by omega)).mono ?_
 rw [hb4, hlen]
 rintro e w21 (⟨hlt, rfl, rfl⟩ | ⟨h4, u21, r21, rfl⟩)
 ·exact .inl ⟨_, rfl, by rw [hD, if_neg (by omega), if_neg (by omega), if_neg (by omega), if_pos hlt], rfl, y20⟩
 have n21 := n20.upd u21 (by omega)
 have m21 : Qd0 w21 k2 _ := m20.upd u21 (by omega)
 refine .inr ⟨_, rfl, n21.row.live (by simp), fun w24 s24 => ?_⟩
 have n24 := n21.set s24
 have m24 : Qd0 w24 k2 _ := m21.upd (Qw0 s24) (by omega)
 have y24 := Q7 (y20.trans u21 fun _ _ h => h) (Qw0 s24) (by omega)
 refine (Q90 (r21.set s24 (by omega)) (k := 2) (by omega)).mono ?_
 rw [hb5, hcnt]
 rintro e w25 (⟨hlt, rfl, rfl⟩ | ⟨h5, u25, r25, rfl⟩)
 ·exact .inl ⟨_, rfl, by rw [hD, if_neg (by omega), if_neg (by omega), if_neg (by omega), if_neg (by omega), if_pos hlt], rfl, y24⟩
 have hD' : QJ4 bs = Q9c kind key len (stD cnt b5) := by rw [hD, if_neg (by omega), if_neg (by omega), if_neg (by omega), if_neg (by omega), if_neg (by omega)]
 have n25 : Qd0 w25 k7 #[int i64 kind, .string (QF key), int i64 len, .slice none 0 0] := n24.upd u25 (by omega)
 have m25 : Qd0 w25 k2 _ := m24.upd u25 (by omega)
 have y25 := y24.trans u25 fun _ _ h => h
 have hcl : cnt < 65536 := by
  rw [← hcnt]
  refine Zo (Qu7 _) (Zu (Nat.pow_le_pow_right (by omega) (show (b4.take 2).length <= 2 by simp; omega)) (by decide))
 refine .inr ⟨_, rfl, ⟨k2, k7, 0, [], b5, none, 0, rfl, rfl, rfl, rfl, Nat.zero_le _, by omega, by omega, by omega, r25, by simp, rfl, n25, m25, Qc.nil _ _ _ _, y25⟩, ?_⟩
 clear hbk16 hbk hap n25 m25 n24 n21 n20 n16 n12 m12 m16 m20 m21 m24
 rintro n31 w32 ⟨k2', k7', i, sts, bi, p, c, e2, e7, _, rfl, hi, g2, g7, g27, r32, hst, hsl, n32, m32, own32, y32⟩
 simp only [Zi, at0, Zv, and_true] at e2 e7
 subst e2
 subst e7
 intros
 have z32 := y32.size
 refine Q0 (fun hlt => fun w42 d42 => ?_) (fun hge => ?_)
 ·simp only [Za] at hlt
  obtain ⟨st1, st2⟩ := Qtd hst (by omega)
  have n42 : Qd0 w42 k7 _ := n32.upd d42.ext id
  refine ⟨_, _, _, n42.row.c rfl, ?_⟩
  refine (Q90 (r32.ext d42.ext) (k := 2) (by omega)).mono ?_
  have y42 : Upd (fun x => x = r) w w42 := y32.trans d42.ext fun _ _ h => h.elim
  rintro e w44 (⟨hl2, rfl, rfl⟩ | ⟨h6, u44, r44, rfl⟩)
  ·exact .inl ⟨_, rfl, by rw [hD', st1 hl2]; rfl, rfl, y42⟩
  have n44 : Qd0 w44 k7 _ := n42.upd u44 (by omega)
  have m44 : Qd0 w44 k2 _ := (m32.upd d42.ext id).upd u44 (by omega)
  have own44 := (own32.ext d42.ext).upd u44 fun g hg hgr => by
   rcases own32.where_ with ⟨h0, _⟩ | ⟨g', h0, hge, _⟩
   ·rw [h0] at hg; cases hg
   ·rw [h0] at hg
    simp only [Zi, at0, Zv, and_true] at hg
    omega
  have y44 := y42.trans u44 fun _ _ h => h
  refine .inr ⟨_, rfl, ⟨_, _, _, n44.row.c rfl, rfl⟩, fun k48 w49 hk48 => ⟨⟨_, _, _, (n44.upd hk48.ext id).row.c rfl, rfl⟩, ?_⟩⟩
  have own49 := own44.ext hk48.ext
  have q48 : RowW w49 k48 #[int i64 ((nvL (bi.take 2) : Nat) : Int)] := ⟨_, hk48.at⟩
  have c48 : Q8 w49 (some (at0 k48)) (Qu2 [((nvL (bi.take 2) : Nat) : Int)]) := fun j u hj => ⟨_, rfl, q48.row.cell (by simpa [Qu2] using hj)⟩
  have y49 : Upd (fun x => x = r) w w49 := y44.trans hk48.ext fun _ _ h => h.elim
  obtain ⟨p52, c52, w51, hr, own51, hu51, _⟩ := own49.append Q6f 35 (q := some (at0 k48)) (m := 1) (d := 1) (news := Qu2 [((nvL (bi.take 2) : Nat) : Int)]) rfl c48 (fun h => by cases h) (Qm9 _) (by unfold maxLen; omega) (by omega) (by have := y49.size; omega)
  have hgp : ∀ x, p = some (at0 x) -> w.heap.size <= x := fun x hx => by
   rcases own32.where_ with ⟨h0, _⟩ | ⟨g', h0, hge, _⟩
   ·rw [h0] at hx; cases hx
   ·rw [h0] at hx
    simp only [Zi, at0, Zv, and_true] at hx
    omega
  have n49 : Qd0 w49 k7 _ := n44.upd hk48.ext id
  have m49 : Qd0 w49 k2 _ := m44.upd hk48.ext id
  have n51 : Qd0 w51 k7 _ := n49.upd hu51 (n49.own_ne own49)
  have m51 : Qd0 w51 k2 _ := m49.upd hu51 (m49.own_ne own49)
  have r51 : QE3 T w0 w51 r (bi.drop 2) := (r44.ext hk48.ext).new hu51 fun x hx => by have := hgp x hx; omega
  have y51 : Upd (fun x => x = r) w w51 := y49.trans hu51 fun x hx hp => by have := hgp x hp; omega
  refine ⟨_, _, _, _, hr, n51.row.live (by simp), fun w53 s53 => ?_⟩
  have own53 : Qc w53 w.heap.size 3 1 p52 (i + 1) c52 (Qu2 sts ++ Qu2 [((nvL (bi.take 2) : Nat) : Int)]) := own51.upd (Qw0 s53) fun g hg hgk => by
   subst hgk
   exact n51.own_ne own51 hg
  rw [w64 (by omega)]
  refine ⟨⟨k2, k7, i + 1, sts ++ [((nvL (bi.take 2) : Nat) : Int)], bi.drop 2, p52, c52, rfl, rfl, rfl, by omega, by omega, g2, g7, g27, r51.set s53 (by omega), st2 h6, by simp [hsl], n51.set s53, m51.upd (Qw0 s53) (by omega), ?_, Q7 y51 (Qw0 s53) (by omega)⟩, ?_⟩
  ·have : Qu2 (sts ++ [((nvL (bi.take 2) : Nat) : Int)]) = Qu2 sts ++ Qu2 [((nvL (bi.take 2) : Nat) : Int)] := by simp [Qu2]
   rw [this]; exact own53
  ·show 70000 - ((i : Int) + 1).toNat < 70000 - (i : Int).toNat
   omega
 ·simp only [Zb] at hge
  have hic : i = cnt := by omega
  subst hic
  have hst' : stD i b5 = some (sts, bi) := by
   rw [hst, Nat.sub_self]
   simp [stD]
  have hDe : QJ4 bs = if (Qp2.mk kind key len sts).ok then some (⟨kind, key, len, sts⟩, bi) else none := by rw [hD', hst']; rfl
  have hin : Ql w32 p i sts := QH4 own32
  refine ⟨_, n32.row.row.cell (n := 0) rfl, _, n32.row.c rfl, _, n32.row.c rfl, _, _, _, n32.row.c rfl, (QS6 kind (QF key) len hin (by omega)).mono ?_⟩
  rintro e w58 ⟨rfl, x58⟩
  have y58 : Upd (fun x => x = r) w w58 := y32.trans x58 fun _ _ h => h.elim
  by_cases hok : Qc0 kind (QF key) len sts
  ·have e0 : QR0 kind (QF key) len sts = 0 := by unfold QR0; rw [if_pos hok]
   rw [e0]
   have n58 : Qd0 w58 k7 _ := n32.upd x58 id
   refine ⟨_, rfl, Q0 (fun h => by cases h) fun _ => ⟨_, n58.row.row.cell (n := 0) rfl, _, n58.row.c rfl, _, n58.row.c rfl, _, _, _, n58.row.c rfl, ?_⟩⟩
   refine Qub (v0 := int i64 kind) (v1 := .string (QF key)) (v2 := int i64 len) (v3 := .slice p i c) (m32.upd x58 id) fun w68 u68 m68 => ?_
   refine ⟨_, m68.row.row.cell (n := 0) rfl, _, m68.row.c rfl, _, m68.row.c rfl, _, _, _, m68.row.c rfl, ⟨kind, key, len, sts⟩, bi, p, i, c, ?_, rfl, (r32.ext x58).new u68 fun x hx => by omega, (own32.ext x58).upd u68 fun g hg hgk => ?_, Q7 y58 u68 (by omega)⟩
   ·rw [hDe]; exact if_pos hok
   ·subst hgk
    exact m32.own_ne own32 hg
  ·have e0 : QR0 kind (QF key) len sts = 1 := by unfold QR0; rw [if_neg hok]
   rw [e0]
   refine ⟨_, rfl, Q0 (fun _ => ⟨?_, rfl, y58⟩) fun h => by cases h⟩
   rw [hDe]; exact if_neg hok
open Go Go.Vc
open Go.IntKind (i64)
open Go.Value (int)
open Go.Proofs.Tryz (prog)
theorem Qw6 (ox oy : Operand) (w : World) : (eqGuard .eql 20 ox oy .nilIface .nilIface).run prog w = .ok () w := by
 cases ox <;> cases oy <;> kernel_rfl
theorem Qx6 (ox oy : Operand) (w : World) : (eqGuard .neq 20 ox oy .nilIface .nilIface).run prog w = .ok () w := by
 cases ox <;> cases oy <;> kernel_rfl
theorem eq_nil (w : World) : (binOp .eql 20 .nilIface .nilIface).run prog w = .ok (.bool true) w := by kernel_rfl
theorem Qif (w : World) : (binOp .neq 20 .nilIface .nilIface).run prog w = .ok (.bool false) w := by kernel_rfl
theorem QRf (w : World) : (binOp .eql 20 (.iface 28 (int i64 160)) .nilIface).run prog w = .ok (.bool false) w := by kernel_rfl
theorem QXf (w : World) : (binOp .neq 20 (.iface 28 (int i64 160)) .nilIface).run prog w = .ok (.bool true) w := by kernel_rfl
theorem QLf (w : World) : (Instr.typeAssert (.iface 28 (int i64 160)) 20 28 true).run prog w = .ok (.tuple #[int i64 160, .bool true]) w := by kernel_rfl
theorem QM5 (w : World) : Calls prog 104 #[.nilIface] w fun e w' => e = .returned (int i64 0) /\ w' = w := by
 refine (F104_calls .nilIface w (fun v w' => v = int i64 0 /\ w' = w) (fun _ _ => False) ?_).mono (by
  rintro e w' (⟨v, rfl, rfl, h⟩ | ⟨ch, _, h⟩)
  ·exact ⟨rfl, h⟩
  ·exact h.elim)
 refine ⟨true, ⟨fun op ox oy => ?_, eq_nil w, Qif w⟩, Q0 (fun _ => ⟨rfl, rfl⟩) fun h => by cases h⟩
 cases op with
 | eql => exact Qw6 ox oy w
 | neq => exact Qx6 ox oy w
 | _ => rfl
theorem Qh7 (w : World) : Calls prog 104 #[.iface 28 (int i64 160)] w fun e w' => e = .returned (int i64 160) /\ w' = w := by
 refine (F104_calls (.iface 28 (int i64 160)) w (fun v w' => v = int i64 160 /\ w' = w) (fun _ _ => False) ?_).mono (by
  rintro e w' (⟨v, rfl, rfl, h⟩ | ⟨ch, _, h⟩)
  ·exact ⟨rfl, h⟩
  ·exact h.elim)
 refine ⟨false, ⟨fun op ox oy => ?_, QRf w, QXf w⟩, Q0 (fun h => by cases h) fun _ => ⟨160, true, QLf w, Q0 (fun h => by cases h) fun _ => ⟨rfl, rfl⟩⟩⟩
 cases op <;> rfl
theorem QK4 {w : World} {g : Nat} {cs : Array Value} {v : Value} (h : RowW w g cs) (h0 : 0 < cs.size) : (w.setCell (at0 g) v).cell? (at0 g) = some v := by
 have : QT w ((at0 g).add 0) v (w.setCell (at0 g) v) := rfl
 have := this.row h
 exact this.row.cell (n := 0) (by simp [h0])
theorem Q6a {g2 g3 : Nat} {w : World} {c0 : Value} (h3 : RowW w g3 #[c0]) : CallsD prog 103 #[.pointer (some (at0 g3)), .pointer (some (at0 g2))] .returning w fun e u' w' =>
  e = .returned (.tuple #[]) /\ u' = .returning /\ w' = w.setCell (at0 g3) (int i64 0) := by
 have hc : w.cell? (at0 g3) = some c0 := h3.row.cell (n := 0) rfl
 have hf : w.frozen? (at0 g3) = false := (h3.live (n := 0) (by simp)).2
 have h4 : (w.setCell (at0 g3) (int i64 0)).cell? (at0 g3) = some (int i64 0) := QK4 h3 (by simp)
 refine callsD_of_wpS Tryz.func103 rfl fun c₀ cs hu => ?_
 apply wpS_seq
 apply wpS_region
 simp [wpOpsS, go_sem, recoverD, hu, Exit.thenS]
 refine (QM5 w).mono ?_
 rintro e w' ⟨rfl, rfl⟩
 simp [hc, hf, go_sem]
 apply wpS_seq
 apply wpS_region
 simp [wpOpsS, go_sem, Exit.thenS, h4]
 refine wpS_cond (t := false) (by simp [Act.eval, Array.replicate]) ?_
 simp only [Bool.false_eq_true, if_false]
 refine wpS_of_wp (wp_skip ?_)
 cases c₀
 simp_all [bodyPostS, results, Tryz.f103]
theorem Q7a {g2 g3 : Nat} {w : World} {c0 c1 c2 c3 c4 : Value} (h3 : RowW w g3 #[c0]) (h2 : RowW w g2 #[c1, c2, c3, c4]) (hne : g2 ≠ g3) : CallsD prog 103 #[.pointer (some (at0 g3)), .pointer (some (at0 g2))] (.panicking PE) w fun e u' w' =>
  e = .returned (.tuple #[]) /\ Go.settle u' = .returning /\ Upd (fun x => x = g2 \/ x = g3) w w' /\ RowW w' g3 #[int i64 160] /\ RowW w' g2 #[int i64 0, .string ⟨#[]⟩, int i64 0, .slice none 0 0] := by
 have hc : w.cell? (at0 g3) = some c0 := h3.row.cell (n := 0) rfl
 have hf : w.frozen? (at0 g3) = false := (h3.live (n := 0) (by simp)).2
 have h4 : (w.setCell (at0 g3) (int i64 160)).cell? (at0 g3) = some (int i64 160) := QK4 h3 (by simp)
 have e1 : QT w ((at0 g3).add 0) (int i64 160) (w.setCell (at0 g3) (int i64 160)) := rfl
 have u1 := Qw0 e1
 have q1 := e1.row h3
 have r1 := u1.rowW h2 hne
 generalize hW1 : w.setCell (at0 g3) (int i64 160) = W1 at *
 have e2 : QT W1 ((at0 g2).add 0) (int i64 0) (W1.setCell (at0 g2) (int i64 0)) := rfl
 have u2 := Qw0 e2
 have r2 := e2.row r1
 generalize hW2 : W1.setCell (at0 g2) (int i64 0) = W2 at *
 have e3 : QT W2 ((at0 g2).add 1) (.string ⟨#[]⟩) (W2.setCell ⟨g2, 1, none⟩ (.string ⟨#[]⟩)) := by rw [Qi]; rfl
 have u3 := Qw0 e3
 have r3 := e3.row r2
 generalize hW3 : W2.setCell ⟨g2, 1, none⟩ (.string ⟨#[]⟩) = W3 at *
 have e4 : QT W3 ((at0 g2).add 2) (int i64 0) (W3.setCell ⟨g2, 2, none⟩ (int i64 0)) := by rw [Qi]; rfl
 have u4 := Qw0 e4
 have r4 := e4.row r3
 generalize hW4 : W3.setCell ⟨g2, 2, none⟩ (int i64 0) = W4 at *
 have e5 : QT W4 ((at0 g2).add 3) (.slice none 0 0) (W4.setCell ⟨g2, 3, none⟩ (.slice none 0 0)) := by rw [Qi]; rfl
 have u5 := Qw0 e5
 have r5 := e5.row r4
 have k0 : W1.cell? (at0 g2) = some c1 := r1.row.cell (n := 0) rfl
 have k1 : W2.cell? ⟨g2, 1, none⟩ = some c2 := by rw [← Qi]; exact r2.c rfl
 have k2 : W3.cell? ⟨g2, 2, none⟩ = some c3 := by rw [← Qi]; exact r3.c rfl
 have k3 : W4.cell? ⟨g2, 3, none⟩ = some c4 := by rw [← Qi]; exact r4.c rfl
 have f0 : W1.frozen? (at0 g2) = false := (r1.live (n := 0) (by simp)).2
 have f1 : W2.frozen? ⟨g2, 1, none⟩ = false := by rw [← Qi]; exact (r2.live (n := 1) (by simp)).2
 have f2 : W3.frozen? ⟨g2, 2, none⟩ = false := by rw [← Qi]; exact (r3.live (n := 2) (by simp)).2
 have f3 : W4.frozen? ⟨g2, 3, none⟩ = false := by rw [← Qi]; exact (r4.live (n := 3) (by simp)).2
 have fin : Upd (fun x => x = g2 \/ x = g3) w (W4.setCell ⟨g2, 3, none⟩ (.slice none 0 0)) :=
  Upd.trans (Upd.trans (Upd.trans (Upd.trans (u1.mono fun _ _ h => .inr h) (u2.mono (T := fun x => x = g2 \/ x = g3) fun _ _ h => .inl h) fun _ _ h => h) (u3.mono (T := fun x => x = g2 \/ x = g3) fun _ _ h => .inl h) fun _ _ h => h) (u4.mono (T := fun x => x = g2 \/ x = g3) fun _ _ h => .inl h) fun _ _ h => h) (u5.mono (T := fun x => x = g2 \/ x = g3) fun _ _ h => .inl h) fun _ _ h => h
 have q5 : RowW (W4.setCell ⟨g2, 3, none⟩ (.slice none 0 0)) g3 #[int i64 160] := u5.rowW (u4.rowW (u3.rowW (u2.rowW q1 (Ne.symm hne)) (Ne.symm hne)) (Ne.symm hne)) (Ne.symm hne)
 refine callsD_of_wpS Tryz.func103 rfl fun c₀ cs hu => ?_
 apply wpS_seq
 apply wpS_region
 simp [wpOpsS, go_sem, recoverD, hu, Exit.thenS, PE]
 refine (Qh7 w).mono ?_
 rintro e w' ⟨rfl, rfl⟩
 simp [hc, hf, hW1, go_sem]
 apply wpS_seq
 apply wpS_region
 simp [wpOpsS, go_sem, Exit.thenS, h4]
 refine wpS_cond (t := true) (by simp [Act.eval, Array.replicate]) ?_
 simp only [if_true]
 apply wpS_region
 simp [wpOpsS, go_sem, k0, f0, hW2, k1, f1, hW3, k2, f2, hW4, k3, f3, bodyPostS, results, Tryz.f103]
 exact ⟨rfl, fin, q5, r5⟩
open Go Go.Vc
open Go.IntKind (i64)
open Go.Value (int)
open Go.Proofs.Tryz (prog)
def Qa4 (bs : τ) : Option Qp2 := match QJ4 bs with
 | some (x, []) => some x
 | _ => none
def Qjg (x : Qp2) (p : σ) (l c : Nat) : Value := .agg #[int i64 x.kind, .string (QF x.key), int i64 x.len, .slice p l c]
def Qig : Value := .agg #[int i64 0, .string ⟨#[]⟩, int i64 0, .slice none 0 0]
def Q2f (w : World) (bs : τ) : φ := fun v w' => Ext w w' ∧
 ((∃ x p l c, Qa4 bs = some x /\ v = .tuple #[Qjg x p l c, int i64 0] /\ Qc w' w.heap.size 3 1 p l c (Qu2 x.st)) \/ (Qa4 bs = none /\ v = .tuple #[Qig, int i64 160]))
def Qgg (w : World) (bs : τ) : Nat -> Nat -> FrameMode -> ψ := fun g2 g3 u w' => Ext w w' /\ w.heap.size <= g2 /\ w.heap.size <= g3 /\ g2 ≠ g3 /\ ∃ c0 c1 c2 c3 c4, RowW w' g3 #[c0] /\ RowW w' g2 #[c1, c2, c3, c4] ∧
 ((u = .returning /\ ∃ x p l c, Qa4 bs = some x /\ #[c1, c2, c3, c4] = #[int i64 x.kind, .string (QF x.key), int i64 x.len, .slice p l c] /\ Qc w' w.heap.size 3 1 p l c (Qu2 x.st) /\ p ≠ some (at0 g3)) ∨
  (u = .panicking PE /\ Qa4 bs = none))
theorem Qo8 {w : World} {p : σ} {l c : Nat} {bs : τ} (hb : Q3 w p l bs) (hc : l <= c) (hm : c <= 9223372036854775807) :
  Calls prog 54 #[.slice p l c] w fun e w' => ∃ v, e = .returned v /\ Q2f w bs v w' := by
 refine F54_calls p l c w (Q2f w bs) (Qgg w bs) ?_ ?_
 ·rintro g2 g3 u w1 ⟨x1, h2, h3, hne, c0, c1, c2, c3, c4, r3, r2, hh⟩
  rcases hh with ⟨rfl, x, p', l', c', hd, hrow, own, hp3⟩ | ⟨rfl, hd⟩
  ·refine (Q6a (g2 := g2) r3).mono ?_
   rintro e u' w' ⟨rfl, rfl, rfl⟩
   refine ⟨⟨_, rfl⟩, rfl, ?_⟩
   have hs : QT w1 ((at0 g3).add 0) (int i64 0) (w1.setCell (at0 g3) (int i64 0)) := rfl
   have q3 := hs.row r3
   have q2 := (Qw0 hs).rowW r2 hne
   rw [hrow] at q2
   refine ⟨_, q2.row.cell (n := 0) rfl, _, q2.c rfl, _, q2.c rfl, _, _, _, q2.c rfl, _, q3.row.cell (n := 0) rfl, Q7 x1 (Qw0 hs) h3, .inl ⟨x, p', l', c', hd, rfl, own.upd (Qw0 hs) fun g hg hgk => hp3 (by rw [hg, hgk])⟩⟩
  ·refine (Q7a r3 r2 hne).mono ?_
   rintro e u' w' ⟨rfl, hu, hupd, q3, q2⟩
   exact ⟨⟨_, rfl⟩, hu, _, q2.row.cell (n := 0) rfl, _, q2.c rfl, _, q2.c rfl, _, _, _, q2.c rfl, _, q3.row.cell (n := 0) rfl, Upd.trans x1 hupd fun x hx hs => by omega, .inr ⟨hd, rfl⟩⟩
 ·intro k2 w3 hk2 k4 w5 hk4 k6 w7 hk6
  have s2 := hk2.size
  have s4 := hk4.size
  have s6 := hk6.size
  have x5 := hk2.ext.trans hk4.ext
  have x7 := x5.trans hk6.ext
  have n7 : Qd0 w7 k2 #[int i64 0, .string ⟨#[]⟩, int i64 0, .slice none 0 0] := Qd0.upd (Qd0.upd hk2.at hk4.ext id) hk6.ext id
  have q7 : RowW w7 k4 #[int i64 0] := hk6.ext.rowW ⟨_, hk4.at⟩ id
  have r7 : RowW w7 k6 #[.slice p l c] := ⟨_, hk6.at⟩
  have hb7 := hb.ext x7
  have rd : QE3 (fun x => x ≠ k6) w7 w7 k6 bs := ⟨fun h => h rfl, Upd.refl _ _, by omega, p, l, c, r7, hb7, Qj4 hb7 r7 (Qm5 p l c), hc, hm⟩
  refine (Qg5 rd).mono ?_
  rintro e w8 (⟨v, rfl, x, rest, p', l', c', hD, rfl, rd8, own8, u8⟩ | ⟨ch, rfl, hD, rfl, u8⟩)
  ·refine .inr ⟨_, _, _, _, _, _, rfl, ?_⟩
   have x8 : Ext w w8 := Q7 x7 u8 (by omega)
   have n8 : Qd0 w8 k2 _ := n7.upd u8 (by omega)
   have q8 : RowW w8 k4 _ := u8.rowW q7 (by omega)
   refine Qub (v0 := int i64 x.kind) (v1 := .string (QF x.key)) (v2 := int i64 x.len) (v3 := .slice p' l' c') n8 fun w17 u17 n17 => ?_
   have x17 : Ext w w17 := Q7 x8 u17 (by omega)
   have q17 : RowW w17 k4 _ := u17.rowW q8 (by omega)
   have QC : ∀ {wx : World}, Qc wx w7.heap.size 3 1 p' l' c' (Qu2 x.st) -> ∀ g, p' = some (at0 g) -> w7.heap.size <= g := fun own g hg => by
    rcases own.where_ with ⟨h0, _⟩ | ⟨g', h0, hge, _⟩
    ·rw [h0] at hg; cases hg
    ·rw [h0] at hg
     simp only [Zi, at0, Zv, and_true] at hg
     omega
   have own17 := own8.upd u17 fun g hg hgk => by have := QC own8 g hg; omega
   obtain ⟨pr, lr, cr, rr, hbr, _⟩ := rd8.ex
   have hlr := hbr.1
   have rr17 : RowW w17 k6 _ := u17.rowW rr (by omega)
   refine ⟨_, _, _, rr17.c rfl, Q0 (fun hpos => ?_) (fun hz => ?_)⟩
   ·simp only [Za] at hpos
    refine ⟨x17, by omega, by omega, by omega, _, _, _, _, _, q17, n17.row, .inr ⟨rfl, ?_⟩⟩
    unfold Qa4
    rw [hD]
    cases rest with
    | nil => simp at hlr; omega
    | cons y ys => rfl
   ·simp only [Zb] at hz
    have hrest : rest = [] := Zk (by omega)
    subst hrest
    have hdd : Qa4 bs = some x := by unfold Qa4; rw [hD]
    refine ⟨_, n17.row.row.cell (n := 0) rfl, _, n17.row.c rfl, _, n17.row.c rfl, _, _, _, n17.row.c rfl, ?_⟩
    refine Qub (v0 := int i64 x.kind) (v1 := .string (QF x.key)) (v2 := int i64 x.len) (v3 := .slice p' l' c') n17 fun w26 u26 n26 => ?_
    have q26 : RowW w26 k4 _ := u26.rowW q17 (by omega)
    refine ⟨q26.live (n := 0) (by simp), fun w27 s27 => ?_⟩
    have s27' : QT w26 ((at0 k4).add 0) (int i64 0) w27 := s27
    have own26 := own17.upd u26 fun g hg hgk => by have := QC own8 g hg; omega
    have own27 := own26.upd (Qw0 s27') fun g hg hgk => by have := QC own8 g hg; omega
    exact ⟨Q7 (Q7 x17 u26 (by omega)) (Qw0 s27') (by omega), by omega, by omega, by omega, _, _, _, _, _, s27'.row q26, (n26.upd (Qw0 s27') (by omega)).row, .inl ⟨rfl, x, p', l', c', hdd, rfl, own27.base_le (by omega), fun hp => by have := QC own8 _ hp; omega⟩⟩
  ·refine .inl ⟨_, rfl, Q7 x7 u8 (by omega), by omega, by omega, by omega, _, _, _, _, _, u8.rowW q7 (by omega), (n7.upd u8 (by omega)).row, .inr ⟨rfl, ?_⟩⟩
   unfold Qa4; rw [hD]
open Go Go.Vc
open Go.IntKind (i64)
open Go.Value (int)
open Go.Proofs.Tryz (prog)
def QD (e : TypeId) (w : World) (k : Nat) (cs : Array Value) : Prop := w.heap[k]? = some (Obj.cells cs e (0, 0))
theorem QD.row {e : TypeId} {w : World} {k : Nat} {cs : Array Value} (h : QD e w k cs) : RowW w k cs := ⟨_, h⟩
theorem QD.upd {e : TypeId} {S : Nat -> Prop} {w w' : World} {k : Nat} {cs : Array Value} (h : QD e w k cs) (hu : Upd S w w') (hn : ¬ S k) : QD e w' k cs := hu.keep h hn
theorem QD.set {e : TypeId} {w w' : World} {k n : Nat} {v : Value} {cs : Array Value} (h : QD e w k cs) (hs : QT w ((at0 k).add n) v w') : QD e w' k (cs.setIfInBounds n v) := by
 rw [Qi] at hs
 exact hs.at h rfl
theorem QD.keep {e e' : TypeId} {w w' : World} {k : Nat} {cs : Array Value} (h : QD e w k cs) (hk : Qn0 e' w w') (hne : e ≠ e') : QD e w' k cs := hk _ _ _ _ h hne
theorem QO1 {e : TypeId} {w : World} {k : Nat} {c0 c1 c2 c3 v0 v1 v2 v3 : Value} (hr : QD e w k #[c0, c1, c2, c3]) {T : ψ} (h : ∀ w4, Upd (fun x => x = k) w w4 -> QD e w4 k #[v0, v1, v2, v3] -> T w4) :
  QL1 w (at0 k) /\ ∀ w1 : World, QT w (at0 k) v0 w1 -> (QL1 w1 ((at0 k).add 1) /\ ∀ w2 : World, QT w1 ((at0 k).add 1) v1 w2 -> (QL1 w2 ((at0 k).add 2) /\ ∀ w3 : World, QT w2 ((at0 k).add 2) v2 w3 -> (QL1 w3 ((at0 k).add 3) /\ ∀ w4 : World, QT w3 ((at0 k).add 3) v3 w4 -> T w4))) := by
 refine ⟨hr.row.live (n := 0) (by simp), fun w1 s1 => ?_⟩
 have s1' : QT w ((at0 k).add 0) v0 w1 := s1
 have r1 := hr.set s1'
 refine ⟨r1.row.live (by simp), fun w2 s2 => ?_⟩
 have r2 := r1.set s2
 refine ⟨r2.row.live (by simp), fun w3 s3 => ?_⟩
 have r3 := r2.set s3
 refine ⟨r3.row.live (by simp), fun w4 s4 => ?_⟩
 exact h w4 ((((Qw0 s1').trans (Qw0 s2) fun _ _ h => h).trans (Qw0 s3) fun _ _ h => h).trans (Qw0 s4) fun _ _ h => h) (r3.set s4)
structure ObV where
 key : ByteArray
 len : Int
 epoch : Int
 st : List Int
def Q57 (w : World) (p : σ) (l : Nat) (L : List ObV) : Prop := l = L.length /\ ∀ i o, L[i]? = some o -> ∃ a q n c, p = some a /\ w.cell? (a.add (i * 4)) = some (.string o.key) /\ w.cell? ((a.add (i * 4)).add 1) = some (int i64 o.len) ∧
 w.cell? ((a.add (i * 4)).add 2) = some (int i64 o.epoch) /\ w.cell? ((a.add (i * 4)).add 3) = some (.slice q n c) /\ Ql w q n o.st /\ n <= 4611686018427387904
theorem Q57.ext {w w' : World} {p : σ} {l : Nat} {L : List ObV} (h : Q57 w p l L) (hx : Ext w w') : Q57 w' p l L := by
 refine ⟨h.1, fun i o hi => ?_⟩
 obtain ⟨a, q, n, c, h0, h1, h2, h3, h4, h5, h6⟩ := h.2 i o hi
 exact ⟨a, q, n, c, h0, hx.cell h1 id, hx.cell h2 id, hx.cell h3 id, hx.cell h4 id, h5.ext hx, h6⟩
theorem Q57.nil (w : World) (p : σ) : Q57 w p 0 [] := ⟨rfl, fun i o h => by simp at h⟩
theorem QM7 (key : ByteArray) (len epoch : Int) (p : σ) (l c : Nat) (w : World) : Calls prog 95 #[.agg #[.string key, int i64 len, int i64 epoch, .slice p l c]] w fun e w' => e = .returned (.agg #[int i64 1, .string key, int i64 len, .slice p l c]) /\ Ext w w' := by
 refine (F95_calls key len epoch p l c w (fun v w' => v = .agg #[int i64 1, .string key, int i64 len, .slice p l c] /\ Ext w w') ?_).mono (by rintro e w' ⟨v, rfl, rfl, h⟩; exact ⟨rfl, h⟩)
 intro k5 w6 hk5 k7 w8 hk7
 have r5 : RowW w8 k5 _ := hk7.ext.rowW ⟨_, hk5.at⟩ id
 have s5 := hk5.size
 have s7 := hk7.size
 refine ⟨_, r5.c rfl, _, r5.c rfl, _, _, _, r5.c rfl, ?_⟩
 refine QO1 (e := 38) (v0 := int i64 1) (v1 := .string key) (v2 := int i64 len) (v3 := .slice p l c) hk7.at fun w15 u15 n15 => ?_
 exact ⟨_, n15.row.row.cell (n := 0) rfl, _, n15.row.c rfl, _, n15.row.c rfl, _, _, _, n15.row.c rfl, rfl, Q7 (hk5.ext.trans hk7.ext) u15 (by omega)⟩
def leK (a b : ByteArray) : Bool := Op.bytesLess a.toList b.toList || decide (a = b)
def Q6d (L : List ObV) (j : Nat) : Prop := ∀ o, L[j]? = some o -> Qc0 1 o.key o.len o.st /\ (0 <= o.epoch /\ o.epoch <= 2147483647) /\ ∀ k o', j = k + 1 -> L[k]? = some o' -> leK o.key o'.key = false
def Qb1 (L : List ObV) : Nat := (L.map fun o => o.st.length).sum
def Qu0 (L : List ObV) : Prop := (∀ j, j < L.length -> Q6d L j) /\ Qb1 L <= 256 /\ L.length <= 64
theorem QN2 {L : List ObV} {i : Nat} {o : ObV} (h : L[i]? = some o) : Qb1 (L.take (i + 1)) = Qb1 (L.take i) + o.st.length := by
 unfold Qb1
 rw [Zn, h]
 simp
theorem QA9 {w : World} {p : σ} {l c : Nat} {L : List ObV} (h : Q57 w p l L) (hl : l <= 1000000) : Calls prog 92 #[.slice p l c] w fun e w' => ∃ b, e = .returned (.bool b) /\ (b = true ↔ Qu0 L) /\ Ext w w' := by
 refine (F92_calls p l c w (fun v w' => ∃ b, v = .bool b /\ (b = true ↔ Qu0 L) /\ Ext w w')
  (fun _ _ _ _ _ n6 n7 w8 => ∃ i : Nat, n7 = i /\ i <= l /\ (∀ j, j < i -> Q6d L j) /\ n6 = ((Qb1 (L.take i) : Nat) : Int) /\ Qb1 (L.take i) <= 256 * i /\ Ext w w8) (fun _ _ _ _ _ _ n7 _ => 2000000 - n7.toNat) ?_).mono (by
  rintro e w' ⟨v, rfl, b, rfl, h⟩; exact ⟨b, rfl, h⟩)
 have hlen := h.1
 refine ⟨⟨0, rfl, Nat.zero_le _, fun j hj => by omega, by simp [Qb1], by simp [Qb1], Upd.refl _ _⟩, ?_⟩
 rintro n6 n7 w8 ⟨i, rfl, hi, hall, rfl, hsum, x8⟩
 intros
 refine Q0 (fun hlt => ?_) (fun hge => ?_)
 ·simp only [Za] at hlt
  obtain ⟨o, ho⟩ : ∃ o, L[i]? = some o := ⟨L[i]'(by omega), Zc _⟩
  obtain ⟨a, q, n, cc, rfl, e0, e1, e2, e3, hst, hn⟩ := h.2 i o ho
  have no : ∀ {wx : World}, Ext w wx -> ¬ Q6d L i -> ∃ b, (Value.bool false) = .bool b /\ (b = true ↔ Qu0 L) /\ Ext w wx := fun hx hno => ⟨false, rfl, by
   constructor
   ·intro h; cases h
   ·intro hm; exact (hno (hm.1 i (by omega))).elim, hx⟩
  rw [Ze]
  refine ⟨⟨by omega, hlt⟩, _, x8.cell e0 id, _, x8.cell e1 id, _, x8.cell e2 id, _, _, _, x8.cell e3 id, fun k56 w57 hk56 => ?_⟩
  have s56 := hk56.size
  have z8 := x8.size
  refine QO1 (e := 78) (v0 := .string o.key) (v1 := int i64 o.len) (v2 := int i64 o.epoch) (v3 := .slice q n cc) hk56.at fun w61 u61 n61 => fun w62 d62 => ?_
  have n62 : RowW w62 k56 _ := d62.ext.rowW n61.row id
  have x61 : Ext w w61 := Q7 (x8.trans hk56.ext) u61 (by omega)
  have x62 : Ext w w62 := x61.trans d62.ext
  refine ⟨_, n62.row.cell (n := 0) rfl, _, n62.c rfl, _, n62.c rfl, _, _, _, n62.c rfl, (QM7 o.key o.len o.epoch q n cc w62).mono ?_⟩
  rintro e w67 ⟨rfl, x67⟩
  have x67' := x62.trans x67
  refine ⟨_, _, _, _, _, _, rfl, (QS6 1 o.key o.len (hst.ext x67') (Zu hn (by omega))).mono ?_⟩
  rintro e w73 ⟨rfl, x73⟩
  have x73' := x67'.trans x73
  have n73 : RowW w73 k56 _ := (x67.trans x73).rowW n62 id
  refine ⟨_, rfl, Q0 (fun hz => no x73' fun hok => ?_) fun hz => ?_⟩
  ·have := (hok o ho).1
   unfold QR0 at hz
   rw [if_pos this] at hz
   cases hz
  have hrec : Qc0 1 o.key o.len o.st := by
   by_cases hk : Qc0 1 o.key o.len o.st
   ·exact hk
   ·unfold QR0 at hz
    rw [if_neg hk] at hz
    cases hz
  refine ⟨_, n73.c rfl, Q0 (fun h1 => no x73' fun hok => ?_) fun h1 => ⟨_, n73.c rfl, Q0 (fun h2 => no x73' fun hok => ?_) fun h2 => ?_⟩⟩
  ·simp only [Za] at h1; have := (hok o ho).2.1; omega
  ·simp only [Za] at h2; have := (hok o ho).2.1; omega
  simp only [Zb] at h1 h2
  have hcnt := hrec.1.2.2.2
  have hstl := hst.1
  have next : (∀ k o', i = k + 1 -> L[k]? = some o' -> leK o.key o'.key = false) -> ∃ i' : Nat, i64.wrap ((i : Int) + 1) = (i' : Int) /\ i' <= l /\ (∀ j, j < i' -> Q6d L j) /\ i64.wrap (((Qb1 (L.take i) : Nat) : Int) + ((n : Nat) : Int)) = ((Qb1 (L.take i') : Nat) : Int) /\ Qb1 (L.take i') <= 256 * i' /\ Ext w w73 := fun hord => by
   refine ⟨i + 1, by rw [w64 (by omega)]; omega, by omega, fun j hj => ?_, ?_, ?_, x73'⟩
   ·by_cases hji : j = i
    ·subst hji
     intro o2 ho2
     rw [ho] at ho2
     cases ho2
     exact ⟨hrec, ⟨by omega, by omega⟩, hord⟩
    ·exact hall j (by omega)
   ·rw [QN2 ho, w64 (by omega)]; omega
   ·rw [QN2 ho]; omega
  have mu : 2000000 - (i64.wrap ((i : Int) + 1)).toNat < 2000000 - ((i : Int)).toNat := by rw [w64 (by omega)]; omega
  refine Q0 (fun hpos => ?_) fun hnp => ⟨_, _, _, n73.c rfl, next fun k o' hk => ?_, mu⟩
  ·simp only [Za] at hpos
   obtain ⟨k, rfl⟩ : ∃ k, i = k + 1 := ⟨i - 1, by omega⟩
   obtain ⟨o', ho'⟩ : ∃ o, L[k]? = some o := ⟨L[k]'(by omega), Zc _⟩
   obtain ⟨a', q', n', cc', ha', e0', _⟩ := h.2 k o' ho'
   cases ha'
   have ek : i64.wrap (((k + 1 : Nat) : Int) - 1) = (k : Int) := by rw [w64 (by omega)]; omega
   rw [ek]
   refine ⟨_, n73.c rfl, ⟨by omega, by omega⟩, _, x73'.cell (by rw [Ze]; exact e0') id, Q0 (fun hle => no x73' fun hok => ?_) fun hle => ⟨_, _, _, n73.c rfl, next fun k2 o2 hk2 ho2 => ?_, mu⟩⟩
   ·have := (hok o ho).2.2 k o' rfl ho'
    unfold leK at this
    rw [hle] at this
    cases this
   ·have : k2 = k := by omega
    subst this
    rw [ho'] at ho2
    cases ho2
    exact hle
  ·simp only [Zb] at hnp
   omega
 ·simp only [Zb] at hge
  have hil : i = l := by omega
  have ht : L.take i = L := Zh (by omega)
  rw [ht]
  refine Q0 (fun h1 => ⟨_, rfl, ?_, x8⟩) fun h1 => ⟨_, rfl, ?_, x8⟩
  ·simp only [Za] at h1
   simp only [Za]
   constructor
   ·intro h2; exact ⟨fun j hj => hall j (by omega), by omega, by omega⟩
   ·intro h2; have := h2.2.2; omega
  ·simp only [Zb] at h1
   constructor
   ·intro h; cases h
   ·intro h2; have := h2.2.1; omega
open Go Go.Vc
open Go.IntKind (i64)
open Go.Value (int)
open Go.Proofs.Tryz (prog)
def obB (o : ObV) : τ := nb o.epoch 4 ++ Qg2 1 o.key o.len o.st
def Qd (L : List ObV) : τ := nb (L.length : Int) 2 ++ L.flatMap obB
theorem Qsa (o : ObV) : (obB o).length = 12 + o.key.size + 2 * o.st.length := by
 unfold obB
 rw [List.length_append, Q41, Qe3]
 omega
theorem Qt9 {L : List ObV} (h : ∀ j, j < L.length -> Q6d L j) : ∀ i, i <= L.length -> ((L.take i).flatMap obB).length <= 76 * i + 2 * Qb1 (L.take i)
 | 0, _ => by simp
 | i + 1, hi => by
  obtain ⟨o, ho⟩ : ∃ o, L[i]? = some o := ⟨L[i]'(by omega), Zc _⟩
  have ih := Qt9 h i (by omega)
  have := (h i (by omega) o ho).1.1.2.1
  rw [QN2 ho, Zn, ho, List.flatMap_append, List.length_append]
  simp only [Option.toList_some, List.flatMap_cons, List.flatMap_nil, List.append_nil, Qsa]
  omega
theorem Q79 (L : List ObV) (i : Nat) : Qb1 (L.take i) <= Qb1 L := by
 unfold Qb1
 conv => rhs; rw [← List.take_append_drop i L]
 rw [Zp, List.sum_append]
 omega
theorem Qc2 {L : List ObV} (h : Qu0 L) {i : Nat} (hi : i <= L.length) : ((L.take i).flatMap obB).length <= 5376 := by
 have h1 := Qt9 h.1 i hi
 have h2 := Q79 L i
 have h3 := h.2.1
 have h4 := h.2.2
 omega
def Ql6 (w : World) (p : σ) (n : Nat) (P : List (τ)) : Prop := n = P.length /\ ∀ i bs, P[i]? = some bs -> ∃ a q m d, p = some a /\ w.cell? (a.add (i * 1)) = some (.slice q m d) /\ Q3 w q m bs
def QS0 (w : World) (base : Nat) (p : σ) (n : Nat) (P : List (τ)) : Prop := n = P.length /\ ∀ i bs, P[i]? = some bs -> ∃ a q m d, p = some a /\ base <= a.block /\ w.cell? (a.add (i * 1)) = some (.slice q m d) /\ Q3 w q m bs /\ (∀ a', q = some a' -> base <= a'.block) /\ m <= d
theorem QS0.upd {S : Nat -> Prop} {w w' : World} {base : Nat} {p : σ} {n : Nat} {P : List (τ)} (h : QS0 w base p n P) (hu : Upd S w w') (hS : ∀ x, base <= x -> ¬ S x) : QS0 w' base p n P := by
 refine ⟨h.1, fun i bs hi => ?_⟩
 obtain ⟨a, q, m, d, h0, hb, h1, h2, h3, h4⟩ := h.2 i bs hi
 exact ⟨a, q, m, d, h0, hb, hu.cell h1 (by rw [Qr]; exact hS _ hb), h2.upd hu fun a' ha' _ => hS _ (h3 a' ha'), h3, h4⟩
def QR (B : τ) (i : Nat) : τ := (B.drop (4096 * i)).take 4096
theorem Qpb : QI0 prog 103 42 1 24 := ⟨by kernel_rfl, ⟨Tryz.t42, .slice none 0 0, by kernel_rfl, by kernel_rfl, by kernel_rfl, by kernel_rfl, by kernel_rfl⟩, by decide⟩
theorem Q9g (p : σ) (c : Nat) : Qu p c 0 1 = p := by
 unfold Qu QLc
 cases p <;> split <;> first | rfl | (simp [Addr.add])
theorem Qkc {w : World} {p : σ} {l c : Nat} {L : List ObV} (h : Q57 w p l L) (hl : l <= 1000000) : Calls prog 44 #[.slice p l c] w fun e w' => Ext w w' ∧
  ((¬ Qu0 L /\ e = .returned (.tuple #[.slice none 0 0, int i64 1])) \/ (Qu0 L /\ ∃ po co, e = .returned (.tuple #[.slice po 2 co, int i64 0]) /\ QS0 w' w.heap.size po 2 [QR (Qd L) 0, QR (Qd L) 1])) := by
 refine (F44_calls p l c w (fun v w' => Ext w w' /\ ((¬ Qu0 L /\ v = .tuple #[.slice none 0 0, int i64 1]) \/ (Qu0 L /\ ∃ po co, v = .tuple #[.slice po 2 co, int i64 0] /\ QS0 w' w.heap.size po 2 [QR (Qd L) 0, QR (Qd L) 1])))
  (fun _ _ _ _ _ p12 l12 c12 n13 w14 => ∃ i : Nat, n13 = i /\ i <= l /\ Qc w14 w.heap.size 5 1 p12 l12 c12 (QB (nb (L.length : Int) 2 ++ (L.take i).flatMap obB)) /\ Ext w w14) (fun _ _ _ _ _ _ _ _ n13 _ => 2000000 - n13.toNat)
  (fun w14 p60 l60 c60 p61 l61 c61 n62 w63 => ∃ (i : Nat) (rows : List Value), n62 = i /\ i <= 2 /\ Q3 w14 p60 l60 ((Qd L).drop (4096 * i)) /\ (∀ a', p60 = some a' -> w.heap.size <= a'.block) /\ Ext w w14 /\ l60 <= c60 /\ l61 = i /\ Qc w63 w14.heap.size 42 1 p61 l61 c61 rows /\ Ext w14 w63 ∧
   ∀ j, j < i -> ∃ q m d, rows[j]? = some (.slice q m d) /\ Q3 w14 q m (QR (Qd L) j) /\ (∀ a', q = some a' -> w.heap.size <= a'.block) /\ m <= d) (fun _ _ _ _ _ _ _ n62 _ => 5 - n62.toNat) ?_).mono (by
  rintro e w' ⟨v, rfl, hx, ⟨h1, rfl⟩ | ⟨h1, po, co, rfl, h2⟩⟩
  ·exact ⟨hx, .inl ⟨h1, rfl⟩⟩
  ·exact ⟨hx, .inr ⟨h1, po, co, rfl, h2⟩⟩)
 have hlen := h.1
 refine (QA9 h hl).mono ?_
 rintro e w2 ⟨b, rfl, hb, x2⟩
 refine ⟨_, rfl, Q0 (fun hn => ⟨x2, .inl ⟨fun hm => ?_, rfl⟩⟩) fun hy => ?_⟩
 ·rw [hb.2 hm] at hn; cases hn
 have hmay : Qu0 L := hb.1 (by simpa using hy)
 refine (Q31 x2 (bs := []) (Qc.nil _ _ _ _) (n := ((l : Nat) : Int)) (by omega) (k := 2) (by omega) (by omega)).mono ?_
 rintro e w5 ⟨p7, l7, c7, rfl, own5, hl7, x5, _⟩
 rw [List.nil_append, hlen] at own5
 refine ⟨_, _, _, rfl, ⟨0, rfl, Nat.zero_le _, by simpa using own5, x5⟩, ?_⟩
 rintro p12 l12 c12 n13 w14 ⟨i, rfl, hi, own14, x14⟩
 intros
 have hlb := (Qp1 own14).1
 refine Q0 (fun hlt => ?_) (fun hge => ?_)
 ·simp only [Za] at hlt
  have hbd := Qc2 hmay (i := i) (by omega)
  rw [List.length_append, Q41] at hlb
  obtain ⟨o, ho⟩ : ∃ o, L[i]? = some o := ⟨L[i]'(by omega), Zc _⟩
  obtain ⟨hrec, hep, _⟩ := hmay.1 i (by omega) o ho
  obtain ⟨a, q, n, cc, rfl, e0, e1, e2, e3, hst, hn⟩ := h.2 i o ho
  rw [Ze]
  refine ⟨⟨by omega, hlt⟩, _, x14.cell e0 id, _, x14.cell e1 id, _, x14.cell e2 id, _, _, _, x14.cell e3 id, fun k32 w33 hk32 => ?_⟩
  have s32 := hk32.size
  have z14 := x14.size
  refine QO1 (e := 78) (v0 := .string o.key) (v1 := int i64 o.len) (v2 := int i64 o.epoch) (v3 := .slice q n cc) hk32.at fun w37 u37 n37 => fun w38 d38 => ?_
  have n38 : QD 78 w38 k32 _ := n37.upd d38.ext id
  have x37 : Ext w w37 := Q7 (x14.trans hk32.ext) u37 (by omega)
  have x38 : Ext w w38 := x37.trans d38.ext
  have own38 : Qc w38 w.heap.size 5 1 p12 l12 c12 _ := ((own14.ext hk32.ext).upd u37 fun g hg hgk => by
   rcases own14.where_ with ⟨h0, _⟩ | ⟨g', h0, _, hlt, _⟩
   ·rw [h0] at hg; cases hg
   ·rw [h0] at hg
    simp only [Zi, at0, Zv, and_true] at hg
    omega).ext d38.ext
  refine ⟨_, n38.row.c rfl, _, n38.row.row.cell (n := 0) rfl, _, n38.row.c rfl, _, n38.row.c rfl, _, _, _, n38.row.c rfl, ?_⟩
  refine (Q31 x38 own38 (n := o.epoch) hep.1 (k := 4) (by omega) (by omega)).mono ?_
  rintro e w44 ⟨p46, l46, c46, rfl, own44, hl46, x44, t44⟩
  have n44 : QD 78 w44 k32 _ := n38.keep t44 (by decide)
  refine ⟨_, _, _, rfl, ⟨_, n44.row.row.cell (n := 0) rfl, _, n44.row.c rfl, _, n44.row.c rfl, _, _, _, n44.row.c rfl, rfl⟩, (QM7 o.key o.len o.epoch q n cc w44).mono ?_⟩
  rintro e w51 ⟨rfl, x51⟩
  refine ⟨_, _, _, _, _, _, rfl, (Qn9 (w0 := w) (x44.trans x51) (own44.ext x51) hst hrec (by omega)).mono ?_⟩
  rintro e w57 ⟨p59, l59, c59, rfl, own57, _, x57, _⟩
  rw [w64 (by omega)]
  refine ⟨_, _, _, rfl, ⟨i + 1, by omega, by omega, ?_, x57⟩, by show 2000000 - ((i : Int) + 1).toNat < 2000000 - (i : Int).toNat; omega⟩
  have : (nb (L.length : Int) 2 ++ (L.take (i + 1)).flatMap obB) = ((nb (L.length : Int) 2 ++ (L.take i).flatMap obB) ++ nb o.epoch 4) ++ Qg2 1 o.key o.len o.st := by
   rw [Zn, ho, List.flatMap_append]
   simp [obB]
  rw [this]
  exact own57
 ·simp only [Zb] at hge
  have hil : i = l := by omega
  have ht : L.take i = L := Zh (by omega)
  rw [ht] at own14
  have hb14 : Q3 w14 p12 l12 (Qd L) := Qp1 own14
  have hbl := Qc2 hmay (i := i) (by omega)
  rw [ht] at hbl
  have hl12 := hb14.1
  have hsl : (Qd L).length <= 5378 := by unfold Qd; rw [List.length_append, Q41]; omega
  have hcc : l12 <= c12 := by
   rcases own14.where_ with ⟨_, h0, h1⟩ | ⟨g, _, _, _, h1, _⟩
   ·omega
   ·exact h1
  have hnew : ∀ a', p12 = some a' -> w.heap.size <= a'.block := fun a' ha => by
   rcases own14.where_ with ⟨h0, _⟩ | ⟨g, h0, hge, _⟩
   ·rw [h0] at ha; cases ha
   ·rw [h0] at ha; cases ha; exact hge
  refine ⟨⟨0, [], rfl, by omega, by simpa using hb14, hnew, x14, hcc, rfl, Qc.nil _ _ _ _, Upd.refl _ _, fun j hj => by omega⟩, ?_⟩
  rintro p60 l60 c60 p61 l61 c61 n62 w63 ⟨j, rows, rfl, hj, hb60, hn60, _, hc60, rfl, own63, x63, hrow⟩
  intros
  have hl60 := hb60.1
  refine Q0 (fun hlt => ?_) (fun hge2 => ?_)
  ·simp only [Za] at hlt
   obtain ⟨m, hm⟩ : ∃ m : Nat, m = min l60 4096 := ⟨_, rfl⟩
   have e : (if (4096 : Int) < ((l60 : Nat) : Int) then (4096 : Int) else ((l60 : Nat) : Int)) = (m : Int) := by split <;> omega
   rw [e, Ze]
   refine ⟨⟨⟨by omega, by omega⟩, by omega, by omega⟩, fun k80 w81 hk80 => ?_⟩
   rw [Q9g] at hk80
   have q80 : RowW w81 k80 #[.slice p60 (m - 0) (m - 0)] := ⟨_, hk80.at⟩
   have c80 : Q8 w81 (some (at0 k80)) [.slice p60 (m - 0) (m - 0)] := fun j u hj => ⟨_, rfl, q80.row.cell (by simpa using hj)⟩
   have hz := (x63.trans hk80.ext).size
   obtain ⟨p83, c83, w82, hr, own82, hu82, _⟩ := (own63.ext hk80.ext).append Qpb 103 (q := some (at0 k80)) (m := 1) (d := 1) (news := [.slice p60 (m - 0) (m - 0)]) rfl c80 (fun h => by cases h) (by simp [Value.oneCell']) (by unfold maxLen; omega) (by omega) hz
   have x82 : Ext w14 w82 := Qb2 (x63.trans hk80.ext) (own63.ext hk80.ext) hu82
   refine ⟨p83, _, c83, w82, hr, ⟨by omega, by omega⟩, ?_⟩
   rw [w64 (by omega)]
   have cA := Q94 hb60 (c := c60) (a := 0) (b := m) (by omega) (by omega) hc60
   have cB := Q94 hb60 (c := c60) (a := m) (b := l60) (Nat.le_refl _) (by omega) hc60
   rw [Q9g, List.drop_zero, Nat.sub_zero] at cA
   have eA : ((Qd L).drop (4096 * l61)).take m = QR (Qd L) l61 := by
    unfold QR
    rw [hm, hl60]
    apply List.ext_getElem?
    intro k
    simp only [List.getElem?_take]
    by_cases hk : k < 4096
    ·by_cases hk2 : k < ((Qd L).drop (4096 * l61)).length
     ·rw [if_pos (by omega), if_pos hk]
     ·rw [if_neg (by omega), if_pos hk, Zr (by omega)]
    ·rw [if_neg (by omega), if_neg hk]
   have eB : (((Qd L).drop (4096 * l61)).take l60).drop m = (Qd L).drop (4096 * (l61 + 1)) := by
    rw [Zh (by omega), List.drop_drop]
    by_cases h2 : 4096 <= l60
    ·rw [show 4096 * l61 + m = 4096 * (l61 + 1) by omega]
    ·rw [List.drop_of_length_le (by rw [List.length_drop] at hl60; omega), List.drop_of_length_le (by rw [List.length_drop] at hl60; omega)]
   rw [eA] at cA
   rw [eB] at cB
   have cutn : ∀ {cc mm : Nat} a', Qu p60 cc mm 1 = some a' -> w.heap.size <= a'.block := fun {cc mm} a' ha => by
    unfold Qu QLc at ha
    split at ha
    ·exact hn60 a' ha
    ·cases p60 with
     | none => cases ha
     | some g0 =>
      simp only [Zi] at ha
      subst ha
      rw [Qr]
      exact hn60 g0 rfl
   refine ⟨⟨l61 + 1, _, by omega, by omega, cB, fun a' ha => cutn a' ha, x14, by omega, rfl, own82, x82, fun j' hj' => ?_⟩, by show 5 - ((l61 : Int) + 1).toNat < 5 - (l61 : Int).toNat; omega⟩
   have hrl := own63.length
   rw [Nat.mul_one] at hrl
   by_cases hjj : j' = l61
   ·subst hjj
    exact ⟨p60, m, m, by rw [Zm (by omega), hrl, Nat.sub_self]; rfl, cA, hn60, Nat.le_refl _⟩
   ·obtain ⟨q, m', d, g1, g2⟩ := hrow j' (by omega)
    exact ⟨q, m', d, by rw [Zl (by omega)]; exact g1, g2⟩
  ·simp only [Zb] at hge2
   have hj2 : l61 = 2 := by omega
   subst hj2
   refine ⟨x14.trans x63, .inr ⟨hmay, p61, c61, rfl, rfl, fun j' bs hj' => ?_⟩⟩
   have hj2 : j' < 2 := by
    rcases Nat.lt_or_ge j' 2 with h | h
    ·exact h
    ·rw [Zr (by simpa using h)] at hj'; cases hj'
   have hbs : bs = QR (Qd L) j' := by
    match j', hj2 with
    | 0, _ => simpa using hj'.symm
    | 1, _ => simpa using hj'.symm
   subst hbs
   obtain ⟨q, m', d, g1, g2, gn, g3⟩ := hrow j' hj2
   obtain ⟨a, ha, hcell⟩ := own63.cells _ _ g1
   have hab : w.heap.size <= a.block := by
    rcases own63.where_ with ⟨h0, _⟩ | ⟨g, h0, hge, _⟩
    ·rw [h0] at ha; cases ha
    ·rw [h0] at ha; cases ha
     exact Zu x14.size hge
   exact ⟨a, q, m', d, ha, hab, by rw [Nat.mul_one]; exact hcell, g2.ext x63, gn, g3⟩
open Go Go.Vc
open Go.IntKind (i64)
open Go.Value (int)
open Go.Proofs.Tryz (prog)
theorem Q8a {g2 g3 : Nat} {w : World} {c0 : Value} (h3 : RowW w g3 #[c0]) : CallsD prog 138 #[.pointer (some (at0 g3)), .pointer (some (at0 g2))] .returning w fun e u' w' =>
  e = .returned (.tuple #[]) /\ u' = .returning /\ w' = w.setCell (at0 g3) (int i64 0) := by
 have hc : w.cell? (at0 g3) = some c0 := h3.row.cell (n := 0) rfl
 have hf : w.frozen? (at0 g3) = false := (h3.live (n := 0) (by simp)).2
 have h4 : (w.setCell (at0 g3) (int i64 0)).cell? (at0 g3) = some (int i64 0) := QK4 h3 (by simp)
 refine callsD_of_wpS Tryz.func138 rfl fun c₀ cs hu => ?_
 apply wpS_seq
 apply wpS_region
 simp [wpOpsS, go_sem, recoverD, hu, Exit.thenS]
 refine (QM5 w).mono ?_
 rintro e w' ⟨rfl, rfl⟩
 simp [hc, hf, go_sem]
 apply wpS_seq
 apply wpS_region
 simp [wpOpsS, go_sem, Exit.thenS, h4]
 refine wpS_cond (t := false) (by simp [Act.eval, Array.replicate]) ?_
 simp only [Bool.false_eq_true, if_false]
 refine wpS_of_wp (wp_skip ?_)
 cases c₀
 simp_all [bodyPostS, results, Tryz.f138]
theorem Q9a {g2 g3 : Nat} {w : World} {c0 c1 : Value} (h3 : RowW w g3 #[c0]) (h2 : RowW w g2 #[c1]) (hne : g2 ≠ g3) : CallsD prog 138 #[.pointer (some (at0 g3)), .pointer (some (at0 g2))] (.panicking PE) w fun e u' w' =>
  e = .returned (.tuple #[]) /\ Go.settle u' = .returning /\ Upd (fun x => x = g2 \/ x = g3) w w' /\ RowW w' g3 #[int i64 160] /\ RowW w' g2 #[.slice none 0 0] := by
 have hc : w.cell? (at0 g3) = some c0 := h3.row.cell (n := 0) rfl
 have hf : w.frozen? (at0 g3) = false := (h3.live (n := 0) (by simp)).2
 have h4 : (w.setCell (at0 g3) (int i64 160)).cell? (at0 g3) = some (int i64 160) := QK4 h3 (by simp)
 have e1 : QT w ((at0 g3).add 0) (int i64 160) (w.setCell (at0 g3) (int i64 160)) := rfl
 have u1 := Qw0 e1
 have q1 := e1.row h3
 have r1 := u1.rowW h2 hne
 generalize hW1 : w.setCell (at0 g3) (int i64 160) = W1 at *
 have e2 : QT W1 ((at0 g2).add 0) (.slice none 0 0) (W1.setCell (at0 g2) (.slice none 0 0)) := rfl
 have u2 := Qw0 e2
 have r2 := e2.row r1
 have k0 : W1.cell? (at0 g2) = some c1 := r1.row.cell (n := 0) rfl
 have f0 : W1.frozen? (at0 g2) = false := (r1.live (n := 0) (by simp)).2
 have fin : Upd (fun x => x = g2 \/ x = g3) w (W1.setCell (at0 g2) (.slice none 0 0)) :=
  Upd.trans (u1.mono fun _ _ h => .inr h) (u2.mono (T := fun x => x = g2 \/ x = g3) fun _ _ h => .inl h) fun _ _ h => h
 have q2 : RowW (W1.setCell (at0 g2) (.slice none 0 0)) g3 #[int i64 160] := u2.rowW q1 (Ne.symm hne)
 refine callsD_of_wpS Tryz.func138 rfl fun c₀ cs hu => ?_
 apply wpS_seq
 apply wpS_region
 simp [wpOpsS, go_sem, recoverD, hu, Exit.thenS, PE]
 refine (Qh7 w).mono ?_
 rintro e w' ⟨rfl, rfl⟩
 simp [hc, hf, hW1, go_sem]
 apply wpS_seq
 apply wpS_region
 simp [wpOpsS, go_sem, Exit.thenS, h4]
 refine wpS_cond (t := true) (by simp [Act.eval, Array.replicate]) ?_
 simp only [if_true]
 apply wpS_region
 simp [wpOpsS, go_sem, k0, f0, bodyPostS, results, Tryz.f138]
 exact ⟨rfl, fin, q2, r2⟩
def QQ0 : Nat -> τ -> Option (List ObV × τ)
 | 0, bs => some ([], bs)
 | k + 1, bs => if bs.length < 4 then none else match QJ4 (bs.drop 4) with
  | none => none
  | some (x, r) => if x.kind = 1 then (QQ0 k r).map fun y => (⟨QF x.key, x.len, (nvL (bs.take 4) : Nat), x.st⟩ :: y.1, y.2) else none
theorem Q16 {cnt : Nat} {B bi : τ} {os : List ObV} {i : Nat} (h : QQ0 cnt B = (QQ0 (cnt - i) bi).map fun y => (os ++ y.1, y.2)) (hi : i < cnt) :
  (bi.length < 4 -> QQ0 cnt B = none) /\ (4 <= bi.length -> QJ4 (bi.drop 4) = none -> QQ0 cnt B = none) /\ (∀ x r, 4 <= bi.length -> QJ4 (bi.drop 4) = some (x, r) -> ¬ x.kind = 1 -> QQ0 cnt B = none) ∧
  (∀ x r, 4 <= bi.length -> QJ4 (bi.drop 4) = some (x, r) -> x.kind = 1 -> QQ0 cnt B = (QQ0 (cnt - (i + 1)) r).map fun y => ((os ++ [⟨QF x.key, x.len, (nvL (bi.take 4) : Nat), x.st⟩]) ++ y.1, y.2)) := by
 obtain ⟨m, hm⟩ : ∃ m, cnt - i = m + 1 := ⟨cnt - i - 1, by omega⟩
 have hm' : cnt - (i + 1) = m := by omega
 rw [hm, QQ0] at h
 refine ⟨fun hl => ?_, fun hl hr => ?_, fun x r hl hr hk => ?_, fun x r hl hr hk => ?_⟩
 ·rw [h, if_pos hl]; rfl
 ·rw [h, if_neg (by omega), hr]; rfl
 ·rw [h, if_neg (by omega), hr]; simp [hk]
 ·rw [h, if_neg (by omega), hr, hm']
  simp only [hk, if_true, Option.map_map]
  congr 1
  funext y
  simp
open Classical in
noncomputable def unE : Option (List ObV × τ) -> Option (List ObV)
 | some (os, []) => if Qu0 os then some os else none
 | _ => none
structure QH (w : World) (base : Nat) (rows : List Value) (os : List ObV) : Prop where
 len : rows.length = 4 * os.length
 row : ∀ i o, os[i]? = some o -> ∃ q n c, rows[i * 4 + 0]? = some (.string o.key) /\ rows[i * 4 + 1]? = some (int i64 o.len) /\ rows[i * 4 + 2]? = some (int i64 o.epoch) /\ rows[i * 4 + 3]? = some (.slice q n c) /\ Qc w base 3 1 q n c (Qu2 o.st) /\ n <= 70000
theorem QH.nil (w : World) (base : Nat) : QH w base [] [] := ⟨rfl, fun i o h => by simp at h⟩
theorem QH.upd {S : Nat -> Prop} {w w' : World} {base : Nat} {rows : List Value} {os : List ObV} (h : QH w base rows os) (hu : Upd S w w') (hS : ∀ x, S x -> x < base) : QH w' base rows os := by
 refine ⟨h.len, fun i o hi => ?_⟩
 obtain ⟨q, n, c, h1, h2, h3, h4, h5, h6⟩ := h.row i o hi
 refine ⟨q, n, c, h1, h2, h3, h4, h5.upd hu fun g hg hs => ?_, h6⟩
 have := hS g hs
 rcases h5.where_ with ⟨h0, _⟩ | ⟨g', h0, hge, _⟩
 ·rw [h0] at hg; cases hg
 ·rw [h0] at hg
  simp only [Zi, at0, Zv, and_true] at hg
  omega
theorem QH.ext {w w' : World} {base : Nat} {rows : List Value} {os : List ObV} (h : QH w base rows os) (hx : Ext w w') : QH w' base rows os := h.upd hx fun _ h => h.elim
theorem QH.base_le {w : World} {base base' : Nat} {rows : List Value} {os : List ObV} (h : QH w base rows os) (hb : base' <= base) : QH w base' rows os := by
 refine ⟨h.len, fun i o hi => ?_⟩
 obtain ⟨q, n, c, h1, h2, h3, h4, h5, h6⟩ := h.row i o hi
 exact ⟨q, n, c, h1, h2, h3, h4, h5.base_le hb, h6⟩
theorem QH.keep {w w' : World} {base : Nat} {rows : List Value} {os : List ObV} (h : QH w base rows os) {base2 : Nat} {p : σ} {n c : Nat} {xs : List Value} (own : Qc w base2 78 4 p n c xs) (hu : Upd (fun b => p = some (at0 b)) w w') : QH w' base rows os := by
 have hk := Qn0.of_own own hu
 refine ⟨h.len, fun i o hi => ?_⟩
 obtain ⟨q, n', c', h1, h2, h3, h4, h5, h6⟩ := h.row i o hi
 refine ⟨q, n', c', h1, h2, h3, h4, h5.upd hu fun g hg hs => ?_, h6⟩
 rcases h5.where_ with ⟨h0, _⟩ | ⟨g', h0, _, _, _, cur, hc, _⟩
 ·rw [h0] at hg; cases hg
 ·rw [h0] at hg
  simp only [Zi, at0, Zv, and_true] at hg
  subst hg
  rcases own.where_ with ⟨h0', _⟩ | ⟨g2, h0', _, _, _, cur2, hc2, _⟩
  ·rw [h0'] at hs; cases hs
  ·rw [h0'] at hs
   simp only [Zi, at0, Zv, and_true] at hs
   subst hs
   rw [hc] at hc2
   have : 3 = 78 := by simpa using (Option.some.inj hc2 |> fun e => (Obj.cells.inj e).2.1)
   exact absurd this (by decide)
theorem QH.snoc {w : World} {base : Nat} {rows : List Value} {os : List ObV} (h : QH w base rows os) {o : ObV} {q : σ} {n c : Nat} (own : Qc w base 3 1 q n c (Qu2 o.st)) (hn : n <= 70000) : QH w base (rows ++ [.string o.key, int i64 o.len, int i64 o.epoch, .slice q n c]) (os ++ [o]) := by
 have hl := h.len
 refine ⟨by simp [hl]; omega, fun i x hi => ?_⟩
 rw [List.getElem?_append] at hi
 split at hi
 ·rename_i hlt
  obtain ⟨q', n', c', h1, h2, h3, h4, h5⟩ := h.row i x hi
  have hb : ∀ k, k < 4 -> i * 4 + k < rows.length := fun k hk => by omega
  exact ⟨q', n', c', by rw [Zl (hb 0 (by omega))]; exact h1, by rw [Zl (hb 1 (by omega))]; exact h2, by rw [Zl (hb 2 (by omega))]; exact h3, by rw [Zl (hb 3 (by omega))]; exact h4, h5⟩
 ·rename_i hge
  have hi0 : i - os.length = 0 := by
   rcases hq : i - os.length with _ | k
   ·rfl
   ·rw [hq] at hi; simp at hi
  rw [hi0] at hi
  cases hi
  have hil : i = os.length := by omega
  have hb : ∀ k, rows.length <= i * 4 + k := fun k => by omega
  have hs : ∀ k, i * 4 + k - rows.length = k := fun k => by omega
  exact ⟨q, n, c, by rw [Zm (hb 0), hs]; rfl, by rw [Zm (hb 1), hs]; rfl, by rw [Zm (hb 2), hs]; rfl, by rw [Zm (hb 3), hs]; rfl, own, hn⟩
theorem QH.obs {w : World} {base base2 : Nat} {rows : List Value} {os : List ObV} (h : QH w base rows os) {p : σ} {l c : Nat} (own : Qc w base2 78 4 p l c rows) : Q57 w p l os := by
 have hl := own.length
 refine ⟨by have := h.len; omega, fun i o hi => ?_⟩
 obtain ⟨q, n, c', h1, h2, h3, h4, h5, h6⟩ := h.row i o hi
 obtain ⟨a, ha, c1⟩ := own.cells _ _ h1
 obtain ⟨a2, ha2, c2⟩ := own.cells _ _ h2
 obtain ⟨a3, ha3, c3⟩ := own.cells _ _ h3
 obtain ⟨a4, ha4, c4⟩ := own.cells _ _ h4
 rw [ha] at ha2 ha3 ha4
 cases ha2; cases ha3; cases ha4
 exact ⟨a, q, n, c', ha, c1, by rw [Qt]; exact c2, by rw [Qt]; exact c3, by rw [Qt]; exact c4, QH4 h5, by omega⟩
theorem QDd : QI0 prog 39 78 4 56 := ⟨by kernel_rfl, ⟨Tryz.t78, .agg #[.string ⟨#[]⟩, int i64 0, int i64 0, .slice none 0 0], by kernel_rfl, by kernel_rfl, by kernel_rfl, by kernel_rfl, by kernel_rfl⟩, by decide⟩
open Go Go.Vc
open Go.IntKind (i64)
open Go.Value (int)
open Go.Proofs.Tryz (prog)
def Q27 (P : List (τ)) (i : Nat) : Bool := decide (i = 2 /\ 0 < (P.getD 1 []).length /\ (P.getD 0 []).length < 4096)
noncomputable def unD (P : List (τ)) : Option (List ObV) := if Q27 P 2 then none else if P.flatten.length < 2 then none else unE (QQ0 (nvL (P.flatten.take 2)) (P.flatten.drop 2))
def unR (w : World) (P : List (τ)) : φ := fun v w' => Ext w w' ∧
 ((∃ os p c rows, unD P = some os /\ v = .tuple #[.slice p os.length c, int i64 0] /\ Qc w' w.heap.size 78 4 p os.length c rows /\ QH w' w.heap.size rows os) \/ (unD P = none /\ v = .tuple #[.slice none 0 0, int i64 160]))
def unG (w : World) (P : List (τ)) : Nat -> Nat -> FrameMode -> ψ := fun g2 g3 u w' => Ext w w' /\ w.heap.size <= g2 /\ w.heap.size <= g3 /\ g2 ≠ g3 /\ ∃ c0 c1, RowW w' g3 #[c0] /\ RowW w' g2 #[c1] ∧
 ((u = .returning /\ ∃ os p c rows base, unD P = some os /\ c1 = .slice p os.length c /\ w.heap.size <= base /\ g3 < base /\ Qc w' base 78 4 p os.length c rows /\ QH w' base rows os) ∨
  (u = .panicking PE /\ unD P = none))
def Qeg (w : World) (P : List (τ)) : σ -> σ -> σ -> σ -> Nat -> Nat -> Int -> World -> Bool -> Int -> ψ := fun q2 q4 q6 _ _ _ _ _ b15 n16 w17 =>
 ∃ (k2 k4 k6 i : Nat) (p : σ) (l c : Nat), q2 = some (at0 k2) /\ q4 = some (at0 k4) /\ q6 = some (at0 k6) /\ n16 = i /\ i <= 2 /\ b15 = Q27 P i /\ w.heap.size <= k2 /\ k2 < k4 /\ k4 < k6 /\ Ext w w17 /\ QD 39 w17 k2 #[.slice none 0 0] /\ QD 28 w17 k4 #[int i64 0] /\ QD 165 w17 k6 #[.slice p l c] ∧
  Qc w17 w.heap.size 5 1 p l c (QB ((P.take i).flatten))
def Qkg (w : World) (P : List (τ)) : σ -> σ -> σ -> Int -> World -> Int -> ψ := fun q2 q4 q6 n84 _ n89 w90 =>
 ∃ (base g k2 k4 k6 i cnt : Nat) (cs : Array Value) (os : List ObV) (bi : τ) (p : σ) (c : Nat) (rows : List Value), q2 = some (at0 k2) /\ q4 = some (at0 k4) /\ q6 = some (at0 k6) /\ n84 = (cnt : Int) /\ n89 = i /\ i <= cnt /\ cnt < 65536 /\ w.heap.size <= k2 /\ k2 < k4 /\ k4 < k6 /\ k6 < base /\ base <= w90.heap.size /\ g < base /\ k2 ≠ g /\ Ext w w90 ∧
  QD 5 w90 g cs /\ QE3 (fun x => x = g) w90 w90 k6 bi /\ unD P = unE (QQ0 cnt (P.flatten.drop 2)) /\ QQ0 cnt (P.flatten.drop 2) = ((QQ0 (cnt - i) bi).map fun y => (os ++ y.1, y.2)) /\ os.length = i /\ QD 39 w90 k2 #[.slice p i c] /\ QD 28 w90 k4 #[int i64 0] ∧
  Qc w90 base 78 4 p i c rows /\ QH w90 base rows os
theorem Qwc {os : List ObV} (h : Qu0 os) : unE (some (os, [])) = some os := by unfold unE; simp [h]
theorem Qvc {os : List ObV} (h : ¬ Qu0 os) : unE (some (os, [])) = none := by unfold unE; simp [h]
theorem QM8 {w : World} {base : Nat} {e : TypeId} {sz : Nat} {p : σ} {n c : Nat} {xs : List Value} (h : Qc w base e sz p n c xs) : n <= c /\ c <= 9223372036854775807 := by
 rcases h.2 with ⟨hv, hn⟩ | ⟨g, cap, cur, hv, hb, hg, h1, h2, h3, h4⟩
 ·simp only [Value.slice.injEq] at hv
  omega
 ·simp only [Value.slice.injEq] at hv
  unfold maxLen at h2
  omega
theorem QC {w : World} {base : Nat} {e : TypeId} {sz : Nat} {p : σ} {n c : Nat} {xs : List Value} (h : Qc w base e sz p n c xs) {g : Nat} (hg : p = some (at0 g)) : base <= g /\ g < w.heap.size /\ ∃ cur, w.heap[g]? = some (Obj.cells cur e (0, 0)) := by
 rcases h.where_ with ⟨h0, _⟩ | ⟨g', h0, hge, hlt, _, cur, hc, _⟩
 ·rw [h0] at hg; cases hg
 ·rw [h0] at hg
  simp only [Zi, at0, Zv, and_true] at hg
  subst hg
  exact ⟨hge, hlt, cur, hc⟩
theorem Qr0 {w : World} {k : Nat} {cs cur : Array Value} {e e' : TypeId} (h : w.heap[k]? = some (Obj.cells cs e (0, 0))) (h' : w.heap[k]? = some (Obj.cells cur e' (0, 0))) (hne : e ≠ e') : False := by
 rw [h] at h'
 exact hne (by simpa using (Option.some.inj h' |> fun e => (Obj.cells.inj e).2.1))
theorem Q55 {P : List (τ)} {i : Nat} {x : τ} (h : P[i]? = some x) : (P.take (i + 1)).flatten = (P.take i).flatten ++ x := by
 rw [Zn, h]; simp
theorem Q99 {w : World} {p1 : σ} {c1 : Nat} {P : List (τ)} (h : Ql6 w p1 2 P) (hP : ∀ x ∈ P, x.length <= 4096) :
  Calls prog 99 #[.slice p1 2 c1] w fun e w' => ∃ v, e = .returned v /\ unR w P v w' := by
 have hPl := h.1
 refine F99_calls p1 2 c1 w (unR w P) (unG w P) (Qeg w P) (fun _ _ _ _ _ _ _ _ _ n16 _ => 5 - n16.toNat) (Qkg w P) (fun _ _ _ _ _ n89 _ => 70000 - n89.toNat) ?_ ?_
 ·rintro g2 g3 u w1 ⟨x1, h2, h3, hne, c0, c1', r3, r2, hh⟩
  rcases hh with ⟨rfl, os, p', c', rows, base, hd, rfl, hbase, hgb, own, hrows⟩ | ⟨rfl, hd⟩
  ·refine (Q8a (g2 := g2) r3).mono ?_
   rintro e u' w' ⟨rfl, rfl, rfl⟩
   refine ⟨⟨_, rfl⟩, rfl, ?_⟩
   have hs : QT w1 ((at0 g3).add 0) (int i64 0) (w1.setCell (at0 g3) (int i64 0)) := rfl
   have q3 := hs.row r3
   have q2 := (Qw0 hs).rowW r2 hne
   refine ⟨_, _, _, q2.row.cell (n := 0) rfl, _, q3.row.cell (n := 0) rfl, Q7 x1 (Qw0 hs) h3, .inl ⟨os, p', c', rows, hd, rfl, (own.upd (Qw0 hs) fun g hg hgk => ?_).base_le hbase, (hrows.upd (Qw0 hs) fun x hx => by omega).base_le hbase⟩⟩
   rcases own.where_ with ⟨h0, _⟩ | ⟨g', h0, hge, _⟩
   ·rw [h0] at hg; cases hg
   ·rw [h0] at hg
    simp only [Zi, at0, Zv, and_true] at hg
    omega
  ·refine (Q9a r3 r2 hne).mono ?_
   rintro e u' w' ⟨rfl, hu, hupd, q3, q2⟩
   exact ⟨⟨_, rfl⟩, hu, _, _, _, q2.row.cell (n := 0) rfl, _, q3.row.cell (n := 0) rfl, Upd.trans x1 hupd fun x hx hs => by omega, .inr ⟨hd, rfl⟩⟩
 ·intro k2 w3 hk2 k4 w5 hk4 k6 w7 hk6
  have s2 := hk2.size
  have s4 := hk4.size
  have s6 := hk6.size
  have x7 := (hk2.ext.trans hk4.ext).trans hk6.ext
  refine ⟨⟨k2, k4, k6, 0, none, 0, 0, rfl, rfl, rfl, rfl, by omega, by simp [Q27], by omega, by omega, by omega, x7, QD.upd (QD.upd hk2.at hk4.ext id) hk6.ext id, QD.upd hk4.at hk6.ext id, hk6.at, Qc.nil _ _ _ _⟩, ?_⟩
  clear x7 s2 s4 s6
  rintro b15 n16 w17 ⟨k2', k4', k6', i, p, l, c, e2, e4, e6, rfl, hi, rfl, g2, g24, g46, x17, n2, n4, n6, own⟩
  simp only [Zi, at0, Zv, and_true] at e2 e4 e6
  subst e2
  subst e4
  subst e6
  intros
  refine Q0 (fun hlt => ?_) (fun hge => ?_)
  ·simp only [Za] at hlt
   obtain ⟨x, hx⟩ : ∃ x, P[i]? = some x := ⟨P[i]'(by omega), Zc _⟩
   obtain ⟨a, q, m, d, rfl, ec, hbx⟩ := h.2 i x hx
   have hxl := hP x (Zs hx)
   have hm := hbx.1
   have hbf : Q27 P i = false := by unfold Q27; exact decide_eq_false (by omega)
   have hl0 := (Qp1 own).1
   have hl4 : l <= 8192 := by
    rw [hl0]
    match i, hlt with
    | 0, _ => simp
    | 1, _ =>
     obtain ⟨x0, hx0⟩ : ∃ x, P[0]? = some x := ⟨P[0]'(by omega), Zc _⟩
     have := hP x0 (Zs hx0)
     rw [Q55 hx0]
     simp; omega
   have go : ∀ (b : Bool) (p62 : σ) (l62 c62 : Nat) (w61 w63 : World), Sem.run prog (Builtin.append_ #[42, 42] 42 #[.slice p l c, .slice q m d]) w17 = .ok (.slice p62 l62 c62) w61 -> Qc w61 w.heap.size 5 1 p62 l62 c62 (QB ((P.take i).flatten ++ x)) -> Ext w w61 -> Qn0 5 w17 w61 -> QT w61 ((at0 k6).add 0) (.slice p62 l62 c62) w63 -> b = Q27 P (i + 1) →
     Qeg w P (some (at0 k2)) (some (at0 k4)) (some (at0 k6)) (some a) 2 c1 2 w7 b (i64.wrap ((i : Int) + 1)) w63 := fun b p62 l62 c62 w61 w63 _ own61 x61 t61 s63 hb => by
    have m6 : QD 165 w61 k6 _ := n6.keep t61 (by decide)
    have own63 := own61.upd (Qw0 s63) fun g hg hgk => by
     subst hgk
     rcases own61.where_ with ⟨h0, _⟩ | ⟨g', h0, _, _, _, cur, hc, _⟩
     ·rw [h0] at hg; cases hg
     ·rw [h0] at hg
      simp only [Zi, at0, Zv, and_true] at hg
      subst hg
      unfold QD at m6
      rw [m6] at hc
      have : 165 = 5 := by simpa using (Option.some.inj hc |> fun e => (Obj.cells.inj e).2.1)
      exact absurd this (by decide)
    refine ⟨k2, k4, k6, i + 1, p62, l62, c62, rfl, rfl, rfl, by rw [w64 (by omega)]; omega, by omega, hb, g2, g24, g46, Q7 x61 (Qw0 s63) (by omega), (n2.keep t61 (by decide)).upd (Qw0 s63) (by omega), (n4.keep t61 (by decide)).upd (Qw0 s63) (by omega), m6.set s63, ?_⟩
    rw [Q55 hx]; exact own63
   have mu : 5 - (i64.wrap ((i : Int) + 1)).toNat < 5 - ((i : Int)).toNat := by rw [w64 (by omega)]; omega
   obtain ⟨p62, l62, c62, w61, hr, own61, hl62, x61, t61⟩ := QF6 x17 own (q := q) (m := m) (d := d) (hbx.ext x17) (by omega)
   have lv : QL1 w61 ((at0 k6).add 0) := (QD.row (n6.keep t61 (by decide))).live (by simp)
   rw [Ze]
   refine ⟨⟨by omega, hlt⟩, _, _, _, x17.cell ec id, Q0 (fun hb => by rw [hbf] at hb; cases hb) fun _ => Q0 (fun hb => by simp only [Za] at hb; omega) fun _ => Q0 (fun hpos => Q0 (fun hm0 => ?_) fun hm0 => ?_) fun hz => ?_⟩
   ·simp only [Za] at hpos hm0
    have hi1 : i = 1 := by omega
    subst hi1
    have ek : i64.wrap (((1 : Nat) : Int) - 1) = ((0 : Nat) : Int) := by rw [w64 (by omega)]; omega
    rw [ek]
    obtain ⟨x0, hx0⟩ : ∃ x, P[0]? = some x := ⟨P[0]'(by omega), Zc _⟩
    obtain ⟨a0, q0, m0, d0, ha0, ec0, hbx0⟩ := h.2 0 x0 hx0
    cases ha0
    have hm0' := hbx0.1
    refine ⟨⟨by omega, by omega⟩, _, _, _, x17.cell ec0 id, _, _, _, n6.row.c rfl, _, _, _, _, hr, lv, fun w73 s73 => ⟨go _ _ _ _ _ _ hr own61 x61 t61 s73 ?_, mu⟩⟩
    unfold Q27
    rw [decide_eq_decide, Zj, Zj, hx0, hx]
    simp only [Option.getD_some]
    constructor
    ·intro hh; exact ⟨trivial, by omega, by omega⟩
    ·rintro ⟨_, _, hh⟩; omega
   ·simp only [Zb] at hm0
    refine ⟨_, _, _, n6.row.c rfl, _, _, _, _, hr, lv, fun w73 s73 => ⟨go _ _ _ _ _ _ hr own61 x61 t61 s73 ?_, mu⟩⟩
    unfold Q27
    refine (decide_eq_false ?_).symm
    simp only [Za] at hpos
    have hi1 : i = 1 := by omega
    subst hi1
    rw [Zj, hx]
    simp only [Option.getD_some]
    omega
   ·simp only [Zb] at hz
    refine ⟨_, _, _, n6.row.c rfl, _, _, _, _, hr, lv, fun w73 s73 => ⟨go _ _ _ _ _ _ hr own61 x61 t61 s73 ?_, mu⟩⟩
    unfold Q27
    exact (decide_eq_false (by omega)).symm
  ·simp only [Zb] at hge
   have hi2 : i = 2 := by omega
   subst hi2
   have ht : P.take 2 = P := Zh (by omega)
   rw [ht] at own
   refine Q0 (fun hb => ⟨x17, by omega, by omega, by omega, _, _, n4.row, n2.row, .inr ⟨rfl, by unfold unD; rw [if_pos hb]⟩⟩) fun hb => ?_
   have hU : unD P = if P.flatten.length < 2 then none else unE (QQ0 (nvL (P.flatten.take 2)) (P.flatten.drop 2)) := by unfold unD; rw [if_neg (by rw [hb]; simp)]
   have hbB : Q3 w17 p l P.flatten := Qp1 own
   have hcap := QM8 own
   obtain ⟨g, hg⟩ : ∃ g : Nat, ∀ a, p = some a -> P.flatten ≠ [] -> a.block = g /\ p = some (at0 g) := by
    rcases own.where_ with ⟨h0, _⟩ | ⟨g, h0, _⟩
    ·exact ⟨0, fun a ha => by rw [h0] at ha; cases ha⟩
    ·exact ⟨g, fun a ha _ => by rw [h0] at ha; cases ha; exact ⟨rfl, h0⟩⟩
   by_cases hshort : P.flatten.length < 2
   ·have rd : QE3 (fun x => x ≠ k6) w17 w17 k6 P.flatten := ⟨fun h => h rfl, Upd.refl _ _, n6.row.lt, p, l, c, n6.row, hbB, Qj4 hbB n6.row (Qm5 p l c), hcap⟩
    refine (Q90 rd (k := 2) (by omega)).mono ?_
    rintro e w82 (⟨hlt2, rfl, rfl⟩ | ⟨hle2, _⟩)
    ·exact .inl ⟨_, rfl, x17, by omega, by omega, by omega, _, _, n4.row, n2.row, .inr ⟨rfl, by rw [hU, if_pos hlt2]⟩⟩
    ·omega
   have hU' : unD P = unE (QQ0 (nvL (P.flatten.take 2)) (P.flatten.drop 2)) := by rw [hU, if_neg hshort]
   have hpg : p = some (at0 g) := by
    have hne : P.flatten ≠ [] := by intro h0; rw [h0] at hshort; simp at hshort
    obtain ⟨a, ha, _⟩ := hbB.2 hne
    exact (hg a ha hne).2
   obtain ⟨hgge, hglt, cs, hgc⟩ := QC own hpg
   have h6g : k6 ≠ g := fun h => Qr0 (h ▸ n6) hgc (by decide)
   have h2g : k2 ≠ g := fun h => Qr0 (h ▸ n2) hgc (by decide)
   have rd : QE3 (fun x => x = g) w17 w17 k6 P.flatten := ⟨h6g, Upd.refl _ _, n6.row.lt, p, l, c, n6.row, hbB, fun a ha hne => (hg a ha hne).1, hcap⟩
   refine (Q90 rd (k := 2) (by omega)).mono ?_
   rintro e w82 (⟨hlt2, rfl, rfl⟩ | ⟨hle2, u82, rd82, rfl⟩)
   ·omega
   have hcl : nvL (P.flatten.take 2) < 65536 := by
    refine Zo (Qu7 _) (Zu (Nat.pow_le_pow_right (by omega) (show (P.flatten.take 2).length <= 2 by simp; omega)) (by decide))
   refine .inr ⟨_, rfl, ⟨w17.heap.size, g, k2, k4, k6, 0, nvL (P.flatten.take 2), cs, [], P.flatten.drop 2, none, 0, [], rfl, rfl, rfl, rfl, rfl, Nat.zero_le _, hcl, g2, g24, g46, n6.row.lt, u82.size, hglt, h2g, Q7 x17 u82 (by omega), QD.upd hgc u82 (Ne.symm h6g), rd82.rebase (S := fun _ => False) (Upd.refl _ _) id fun _ _ h => h, hU', by simp, rfl, n2.upd u82 (by omega), n4.upd u82 (by omega), Qc.nil _ _ _ _, QH.nil _ _⟩, ?_⟩
   clear hgc rd rd82 hgge hglt h6g h2g hpg hg hbB hcap own n6 n2 n4 g2 g24 g46 hU' hcl
   rintro n89 w90 ⟨base, g, k2', k4', k6', i, cnt, cs, os, bi, p, c, rows, e2, e4, e6, hcnt, rfl, hi, hcl, g2, g24, g46, g6b, hbase, hgb, h2g, x90, nG, rd90, hU', hob, hol, n2, n4, own, hrows⟩
   simp only [Zi, at0, Zv, and_true] at e2 e4 e6
   subst e2
   subst e4
   subst e6
   intros
   rw [hcnt]
   have h6g : k6 ≠ g := rd90.not
   have fail : ∀ {wx : World} {u : FrameMode}, Ext w wx -> RowW wx k4 #[int i64 0] -> RowW wx k2 #[.slice p i c] -> u = .panicking PE -> QQ0 cnt (P.flatten.drop 2) = none -> unG w P k2 k4 u wx := fun hx h4 h2 hu ho => ⟨hx, by omega, by omega, by omega, _, _, h4, h2, .inr ⟨hu, by rw [hU', ho]; rfl⟩⟩
   refine Q0 (fun hlt => ?_) (fun hge => ?_)
   ·simp only [Za] at hlt
    obtain ⟨st1, st2, st3, st4⟩ := Q16 hob (by omega)
    refine (Q90 rd90 (k := 4) (by omega)).mono ?_
    rintro e w114 (⟨hl4, rfl, rfl⟩ | ⟨hle4, u114, rd114, rfl⟩)
    ·exact .inl ⟨_, rfl, fail x90 n4.row n2.row rfl (st1 hl4)⟩
    have x114 : Ext w w114 := Q7 x90 u114 (by omega)
    have z114 := u114.size
    refine .inr ⟨_, rfl, (Qg5 rd114).mono ?_⟩
    rintro e w117 (⟨v, rfl, x, rest, p', l', c', hD, rfl, rd117, own117, u117⟩ | ⟨ch, rfl, hD, rfl, u117⟩)
    rotate_left
    ·exact .inl ⟨_, rfl, fail (Q7 x114 u117 (by omega)) (u117.rowW (u114.rowW n4.row (by omega)) (by omega)) (u117.rowW (u114.rowW n2.row (by omega)) (by omega)) rfl (st2 hle4 hD)⟩
    have x117 : Ext w w117 := Q7 x114 u117 (by omega)
    have z117 := u117.size
    have uu : Upd (fun x => x = k6) w90 w117 := u114.trans u117 fun _ _ h => h
    have n2b := n2.upd uu (by omega)
    have n4b := n4.upd uu (by omega)
    have nGb := nG.upd uu (Ne.symm h6g)
    have own_b := own.upd uu fun g' hg' hgk => by have := (QC own hg').1; omega
    have rows_b := hrows.upd uu fun x hx => by omega
    refine .inr ⟨_, _, _, _, _, _, rfl, fun k123 w124 hk123 => ?_⟩
    have s123 := hk123.size
    refine Qub (v0 := int i64 x.kind) (v1 := .string (QF x.key)) (v2 := int i64 x.len) (v3 := .slice p' l' c') (show Qd0 w124 k123 _ from hk123.at) fun w128 u128 n128 => ?_
    have x128 : Ext w117 w128 := Q7 hk123.ext u128 (by omega)
    have y128 : Ext w w128 := x117.trans x128
    have n2c := n2b.upd x128 id
    have n4c := n4b.upd x128 id
    refine ⟨_, n128.row.c rfl, Q0 (fun hk => fail y128 n4c.row n2c.row rfl (st3 x rest hle4 hD (by simpa using hk))) fun hk => ?_⟩
    have hkind : x.kind = 1 := by simpa using hk
    refine ⟨_, _, _, n2c.row.row.cell (n := 0) rfl, _, n128.row.c rfl, _, n128.row.c rfl, _, _, _, n128.row.c rfl, fun k134 w135 hk134 => ?_⟩
    have hx135 : Ext w117 w135 := x128.trans hk134.ext
    have q134 : RowW w135 k134 #[.string (QF x.key), int i64 x.len, int i64 ((nvL (bi.take 4) : Nat) : Int), .slice p' l' c'] := ⟨_, hk134.at⟩
    have c134 : Q8 w135 (some (at0 k134)) [.string (QF x.key), int i64 x.len, int i64 ((nvL (bi.take 4) : Nat) : Int), .slice p' l' c'] := fun j u hj => ⟨_, rfl, q134.row.cell (by simpa using hj)⟩
    have own135 := own_b.ext hx135
    have n2d := n2b.upd hx135 id
    have n4d := n4b.upd hx135 id
    have nGd := nGb.upd hx135 id
    have z135 := hx135.size
    obtain ⟨p137, c137, w136, hr, own136, hu136, _⟩ := own135.append QDd 39 (q := some (at0 k134)) (m := 1) (d := 1) (news := [.string (QF x.key), int i64 x.len, int i64 ((nvL (bi.take 4) : Nat) : Int), .slice p' l' c']) rfl c134 (fun h => by cases h) (by
     intro u hu
     simp only [List.mem_cons, List.not_mem_nil, or_false] at hu
     rcases hu with rfl | rfl | rfl | rfl <;> rfl) (by unfold maxLen; omega) (by omega) (by omega)
    have hl' : l' = x.st.length := by
     have := own117.length
     rw [Qa2] at this
     omega
    have hxst : x.st.length <= 256 := by
     have : x.ok := by
      unfold QJ4 at hD
      repeat (split at hD; · cases hD)
      unfold Q9c at hD
      split at hD
      ·cases hD
      ·split at hD
       ·rename_i hok
        simp only [Zi, Prod.mk.injEq] at hD
        rw [← hD.1]; exact hok
       ·cases hD
     exact this.1.2.2.2
    have rows135 : QH w135 base (rows ++ [.string (QF x.key), int i64 x.len, int i64 ((nvL (bi.take 4) : Nat) : Int), .slice p' l' c']) (os ++ [⟨QF x.key, x.len, (nvL (bi.take 4) : Nat), x.st⟩]) :=
     (rows_b.ext hx135).snoc (o := ⟨QF x.key, x.len, (nvL (bi.take 4) : Nat), x.st⟩) (q := p') (n := l') (c := c') ((own117.ext hx135).base_le (by omega)) (by omega)
    have rows136 := rows135.keep own135 hu136
    have n2e : QD 39 w136 k2 _ := n2d.upd hu136 fun hp => by have := (QC own135 hp).1; omega
    have n4e : QD 28 w136 k4 _ := n4d.upd hu136 fun hp => by have := (QC own135 hp).1; omega
    have nGe : QD 5 w136 g _ := nGd.upd hu136 fun hp => by have := (QC own135 hp).1; omega
    have x136 : Ext w w136 := Upd.trans (x117.trans hx135) hu136 fun y hy hp => by have := (QC own135 hp).1; omega
    have rd136 : QE3 (fun x => x = g) w136 w136 k6 rest := (rd117.ext hx135).rebase hu136 (fun hp => by have := (QC own135 hp).1; omega) fun y hy hp => by have := (QC own135 hp).1; omega
    have z136 := hu136.size
    refine ⟨_, _, _, _, hr, n2e.row.live (n := 0) (by simp), fun w138 s138 => ?_⟩
    have s138' : QT w136 ((at0 k2).add 0) (.slice p137 (i + 1) c137) w138 := s138
    have u138 := Qw0 s138'
    have z138 := u138.size
    rw [w64 (by omega)]
    refine ⟨⟨base, g, k2, k4, k6, i + 1, cnt, cs, _, rest, p137, c137, _, rfl, rfl, rfl, rfl, by omega, by omega, hcl, g2, g24, g46, g6b, by omega, hgb, h2g, Q7 x136 u138 (by omega), nGe.upd u138 (Ne.symm h2g), rd136.rebase u138 (by omega) fun y hy hy2 => h2g (hy2.symm.trans hy), hU', st4 x rest hle4 hD hkind, by simp [hol], n2e.set s138', n4e.upd u138 (by omega), own136.upd u138 fun g' hg' hgk => by have := (QC own136 hg').1; omega, rows136.upd u138 fun y hy => by omega⟩, by show 70000 - ((i : Int) + 1).toNat < 70000 - (i : Int).toNat; omega⟩
   ·simp only [Zb] at hge
    have hic : i = cnt := by omega
    have hobE : QQ0 cnt (P.flatten.drop 2) = some (os, bi) := by
     rw [hob, hic, Nat.sub_self]
     simp [QQ0]
    obtain ⟨_, _, _, pr, lr, cr, rr, hbr, _⟩ := rd90
    have hlr := hbr.1
    refine ⟨_, _, _, rr.c rfl, Q0 (fun hpos => ?_) (fun hz => ?_)⟩
    ·simp only [Za] at hpos
     refine ⟨x90, by omega, by omega, by omega, _, _, n4.row, n2.row, .inr ⟨rfl, ?_⟩⟩
     rw [hU', hobE]
     cases bi with
     | nil => simp at hlr; omega
     | cons y ys => rfl
    ·simp only [Zb] at hz
     have hbi : bi = [] := Zk (by omega)
     rw [hbi] at hobE
     refine ⟨_, _, _, n2.row.row.cell (n := 0) rfl, (QA9 (hrows.obs own) (by omega)).mono ?_⟩
     rintro e w141 ⟨b, rfl, hb, x141⟩
     have n2f := n2.upd x141 id
     have n4f := n4.upd x141 id
     refine ⟨_, rfl, Q0 (fun hn => ⟨x90.trans x141, by omega, by omega, by omega, _, _, n4f.row, n2f.row, .inr ⟨rfl, ?_⟩⟩) fun hy => ?_⟩
     ·rw [hU', hobE]
      exact Qvc fun hm => by rw [hb.2 hm] at hn; cases hn
     ·have hmay : Qu0 os := hb.1 (by simpa using hy)
      have hUs : unD P = some os := by rw [hU', hobE]; exact Qwc hmay
      refine ⟨_, _, _, n2f.row.row.cell (n := 0) rfl, n2f.row.live (n := 0) (by simp), fun w145 s145 => ?_⟩
      have s145' : QT w141 ((at0 k2).add 0) (.slice p i c) w145 := s145
      have n4g := n4f.upd (Qw0 s145') (by omega)
      refine ⟨n4g.row.live (n := 0) (by simp), fun w146 s146 => ?_⟩
      have s146' : QT w145 ((at0 k4).add 0) (int i64 0) w146 := s146
      have y145 : Ext w w145 := Q7 (x90.trans x141) (Qw0 s145') (by omega)
      have own145 := (own.ext x141).upd (Qw0 s145') fun g' hg' hgk => by have := (QC own hg').1; omega
      have own146 := own145.upd (Qw0 s146') fun g' hg' hgk => by have := (QC own145 hg').1; omega
      have rows146 := ((hrows.ext x141).upd (Qw0 s145') fun y hy => by omega).upd (Qw0 s146') fun y hy => by omega
      subst hol
      exact ⟨Q7 y145 (Qw0 s146') (by omega), by omega, by omega, by omega, _, _, (n4g.set s146').row, ((n2f.set s145').upd (Qw0 s146') (by omega)).row, .inl ⟨rfl, os, p, c, rows, base, hUs, rfl, by have := x90.size; omega, by omega, own146, rows146⟩⟩
end Go.Proofs.YtnfcfbljdibinaaGreat
