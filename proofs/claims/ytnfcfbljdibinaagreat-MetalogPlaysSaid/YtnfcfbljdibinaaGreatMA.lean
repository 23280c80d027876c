import Derived.Test.YtnfcfbljdibinaaGreatMC
import Derived.Test.YtnfcfbljdibinaaGreatGb
import Derived.Test.YtnfcfbljdibinaaGreatRepO
import Derived.WalkKit
import Derived.ProofKit
import Derived.OpenShut
set_option maxHeartbeats 1000000
namespace Go.Proofs.YtnfcfbljdibinaaGreat
open Go Go.Vc
open Go.IntKind (i64)
open Go.Value (int)
open Go.Proofs.Tryz (prog)
structure Mem where
 d : Dk
 births : Int
def QZ : List Nat -> List Mem -> List Value
 | b :: bs, m :: ms => .pointer (some (at0 b)) :: int i64 m.births :: QZ bs ms
 | _, _ => []
theorem Q83 : ∀ {bs : List Nat} {M : List Mem} {i b : Nat} {m : Mem}, bs[i]? = some b -> M[i]? = some m -> (QZ bs M)[i * 2]? = some (.pointer (some (at0 b))) /\ (QZ bs M)[i * 2 + 1]? = some (int i64 m.births)
 | _ :: _, _ :: _, 0, _, _, h1, h2 => by
  simp only [List.getElem?_cons_zero, Zi] at h1 h2
  subst h1; subst h2
  exact ⟨rfl, rfl⟩
 | b' :: bs, m' :: M, i + 1, b, m, h1, h2 => by
  have := Q83 (bs := bs) (M := M) (i := i) (by simpa using h1) (by simpa using h2)
  rw [show (i + 1) * 2 = i * 2 + 1 + 1 by omega]
  simpa [QZ] using this
 | [], _, _, _, _, h1, _ => by simp at h1
 | _ :: _, [], _, _, _, _, h2 => by simp at h2
theorem Qk4 : ∀ {bs : List Nat} {M : List Mem} (b : Nat) (m : Mem), bs.length = M.length -> QZ (bs ++ [b]) (M ++ [m]) = QZ bs M ++ [.pointer (some (at0 b)), int i64 m.births]
 | [], [], _, _, _ => rfl
 | b' :: bs, m' :: M, b, m, h => by
  have := Qk4 (bs := bs) (M := M) b m (by simpa using h)
  simp only [List.cons_append, QZ, this]
theorem Ql4 : ∀ {bs : List Nat} {M : List Mem} {i : Nat} {m m' : Mem}, M[i]? = some m -> m'.births = m.births -> QZ bs (M.set i m') = QZ bs M
 | [], _, _, _, _, _, _ => by cases ‹List Mem› <;> rfl
 | _ :: _, [], _, _, _, h, _ => by simp at h
 | b :: bs, m0 :: M, 0, m, m', h, hb => by
  simp only [List.getElem?_cons_zero, Zi] at h
  subst h
  simp [QZ, hb]
 | b :: bs, m0 :: M, i + 1, m, m', h, hb => by
  have := Ql4 (bs := bs) (M := M) (i := i) (m := m) (m' := m') (by simpa using h) hb
  simp only [List.set_cons_succ, QZ, this]
theorem Qs3 : ∀ {bs : List Nat} {M : List Mem} {i : Nat} {m m' : Mem}, bs.length = M.length -> M[i]? = some m -> QZ bs (M.set i m') = (QZ bs M).set (i * 2 + 1) (int i64 m'.births)
 | _ :: _, [], _, _, _, _, h => by simp at h
 | [], _ :: _, _, _, _, h, _ => by simp at h
 | [], [], _, _, _, _, h => by simp at h
 | b :: bs, m0 :: M, 0, m, m', _, h => by simp [QZ]
 | b :: bs, m0 :: M, i + 1, m, m', hl, h => by
  have := Qs3 (bs := bs) (M := M) (i := i) (m := m) (m' := m') (by simpa using hl) (by simpa using h)
  rw [show (i + 1) * 2 + 1 = i * 2 + 1 + 1 + 1 by omega]
  simp only [List.set_cons_succ, QZ, this]
def Qb (w : World) (a : Nat) (M : List Mem) (left : Int) (down : Bool) (F : Nat -> Prop) : Prop :=
 ∃ (p : σ) (cm : Nat) (bs : List Nat) (Fs : Nat -> Nat -> Prop), RowW w a #[.slice p M.length cm, int i64 left, .bool down] /\ Qc w 0 70 2 p M.length cm (QZ bs M) /\ bs.length = M.length ∧
  (∀ (i : Nat) (m : Mem), M[i]? = some m -> ∃ b, bs[i]? = some b /\ Dsk w b m.d (Fs i)) /\ (∀ (i j x : Nat), i < M.length -> j < M.length -> Fs i x -> Fs j x -> i = j) ∧
  (∀ (i x : Nat), i < M.length -> Fs i x -> x ≠ a /\ p ≠ some (at0 x)) /\ p ≠ some (at0 a) /\ (∀ x : Nat, F x ↔ x = a \/ p = some (at0 x) \/ ∃ i, i < M.length /\ Fs i x)
theorem Q36 {w : World} {base : Nat} {e : TypeId} {sz : Nat} {p : σ} {n c : Nat} {xs : List Value} (h : Qc w base e sz p n c xs) {x : Nat} (hx : p = some (at0 x)) : x < w.heap.size := by
 rcases h.where_ with ⟨h0, _⟩ | ⟨g, h0, _, hlt, _⟩
 ·rw [h0] at hx; cases hx
 ·rw [h0] at hx
  simp only [Zi, at0, Zv, and_true] at hx
  omega
theorem Qb.lt {w : World} {a : Nat} {M : List Mem} {left : Int} {down : Bool} {F : Nat -> Prop} (h : Qb w a M left down F) : ∀ x, F x -> x < w.heap.size := by
 obtain ⟨p, cm, bs, Fs, h1, h2, h3, h4, h5, h6, h7, h8⟩ := h
 intro x hx
 rcases (h8 x).1 hx with rfl | hx | ⟨i, hi, hx⟩
 ·exact h1.lt
 ·exact Q36 h2 hx
 ·obtain ⟨b, _, hd⟩ := h4 i M[i] (Zc hi)
  exact hd.lt x hx
theorem Qb.upd {S : Nat -> Prop} {w w' : World} {a : Nat} {M : List Mem} {left : Int} {down : Bool} {F : Nat -> Prop} (h : Qb w a M left down F) (hu : Upd S w w') (hS : ∀ x, S x -> ¬ F x) : Qb w' a M left down F := by
 obtain ⟨p, cm, bs, Fs, h1, h2, h3, h4, h5, h6, h7, h8⟩ := h
 refine ⟨p, cm, bs, Fs, hu.rowW h1 fun hs => hS _ hs ((h8 _).2 (.inl rfl)), h2.upd hu fun g hg hs => hS _ hs ((h8 _).2 (.inr (.inl hg))), h3, fun i m hi => ?_, h5, h6, h7, h8⟩
 obtain ⟨b, hb, hd⟩ := h4 i m hi
 exact ⟨b, hb, hd.upd hu fun x hs hf => hS _ hs ((h8 _).2 (.inr (.inr ⟨i, (Zd.1 hi).1, hf⟩)))⟩
theorem Qb.ext {w w' : World} {a : Nat} {M : List Mem} {left : Int} {down : Bool} {F : Nat -> Prop} (h : Qb w a M left down F) (hu : Ext w w') : Qb w' a M left down F := h.upd hu fun _ h => h.elim
theorem Qb.row {w : World} {a : Nat} {M : List Mem} {left : Int} {down : Bool} {F : Nat -> Prop} (h : Qb w a M left down F) : ∃ p cm, RowW w a #[.slice p M.length cm, int i64 left, .bool down] := by
 obtain ⟨p, cm, bs, Fs, h1, _⟩ := h
 exact ⟨p, cm, h1⟩
theorem Qb.setLeft {w w' : World} {a : Nat} {M : List Mem} {left : Int} {down : Bool} {F : Nat -> Prop} (h : Qb w a M left down F) {v : Int} (hs : QT w ((at0 a).add 1) (int i64 v) w') : Qb w' a M v down F /\ Qf F F w w' := by
 obtain ⟨p, cm, bs, Fs, h1, h2, h3, h4, h5, h6, h7, h8⟩ := h
 have hu : Upd (fun x => x = a) w w' := by
  have := hs.upd
  rw [Qi] at this
  exact this
 refine ⟨⟨p, cm, bs, Fs, hs.row h1, h2.upd hu (by rintro g hg rfl; exact h7 hg), h3, fun i m hi => ?_, h5, h6, h7, h8⟩, hu.mono fun x _ hx => (h8 x).2 (.inl hx), fun x hx => .inl hx⟩
 obtain ⟨b, hb, hd⟩ := h4 i m hi
 exact ⟨b, hb, hd.upd hu fun x hx hf => (h6 i x (Zd.1 hi).1 hf).1 hx⟩
theorem Qb.setDown {w w' : World} {a : Nat} {M : List Mem} {left : Int} {down : Bool} {F : Nat -> Prop} (h : Qb w a M left down F) {v : Bool} (hs : QT w ((at0 a).add 2) (.bool v) w') : Qb w' a M left v F /\ Qf F F w w' := by
 obtain ⟨p, cm, bs, Fs, h1, h2, h3, h4, h5, h6, h7, h8⟩ := h
 have hu : Upd (fun x => x = a) w w' := by
  have := hs.upd
  rw [Qi] at this
  exact this
 refine ⟨⟨p, cm, bs, Fs, hs.row h1, h2.upd hu (by rintro g hg rfl; exact h7 hg), h3, fun i m hi => ?_, h5, h6, h7, h8⟩, hu.mono fun x _ hx => (h8 x).2 (.inl hx), fun x hx => .inl hx⟩
 obtain ⟨b, hb, hd⟩ := h4 i m hi
 exact ⟨b, hb, hd.upd hu fun x hx hf => (h6 i x (Zd.1 hi).1 hf).1 hx⟩
theorem Qb.at {w : World} {a : Nat} {M : List Mem} {left : Int} {down : Bool} {F : Nat -> Prop} (h : Qb w a M left down F) {i : Nat} {m : Mem} (hi : M[i]? = some m) :
  ∃ ap cm b Fi, w.cell? ((at0 a).add 0) = some (.slice (some ap) M.length cm) /\ w.cell? (ap.add (i * 2)) = some (.pointer (some (at0 b))) /\ w.cell? ((ap.add (i * 2)).add 0) = some (.pointer (some (at0 b))) ∧
   w.cell? ((ap.add (i * 2)).add 1) = some (int i64 m.births) /\ Dsk w b m.d Fi /\ (∀ x, Fi x -> F x /\ x ≠ a) ∧
   (∀ w' D' F', Qf Fi F' w w' -> Dsk w' b D' F' -> ∃ F2, Qb w' a (M.set i { m with d := D' }) left down F2 /\ Qf F F2 w w') := by
 have hlt := h.lt
 obtain ⟨p, cm, bs, Fs, h1, h2, h3, h4, h5, h6, h7, h8⟩ := h
 obtain ⟨b, hb, hd⟩ := h4 i m hi
 have hil : i < M.length := (Zd.1 hi).1
 obtain ⟨c1, c2⟩ := Q83 hb hi
 obtain ⟨ap, hp, e1⟩ := h2.cells _ _ c1
 obtain ⟨ap', hp', e2⟩ := h2.cells _ _ c2
 rw [hp] at hp'
 cases hp'
 subst hp
 refine ⟨ap, cm, b, Fs i, h1.c rfl, e1, by rw [Qt]; exact e1, by rw [Qt]; exact e2, hd, fun x hx => ⟨(h8 x).2 (.inr (.inr ⟨i, hil, hx⟩)), (h6 i x hil hx).1⟩, ?_⟩
 intro w' D' F' hs hd'
 have hlen : (M.set i { m with d := D' }).length = M.length := List.length_set
 refine ⟨fun x => x = a \/ some ap = some (at0 x) \/ ∃ j, j < M.length /\ (if j = i then F' else Fs j) x, ⟨some ap, cm, bs, fun j => if j = i then F' else Fs j, ?_, ?_, by rw [hlen]; exact h3, ?_, ?_, ?_, h7, ?_⟩, ?_, ?_⟩
 ·rw [hlen]; exact hs.upd.rowW h1 fun hf => (h6 i a hil hf).1 rfl
 ·rw [hlen, Ql4 (m' := { m with d := D' }) hi rfl]
  exact h2.upd hs.upd fun g hg hf => (h6 i g hil hf).2 hg
 ·intro j mj hj
  by_cases hji : j = i
  ·subst hji
   rw [List.getElem?_set_self hil] at hj
   cases hj
   exact ⟨b, hb, by simpa using hd'⟩
  ·rw [List.getElem?_set_ne (fun e => hji e.symm)] at hj
   obtain ⟨bj, hbj, hdj⟩ := h4 j mj hj
   refine ⟨bj, hbj, ?_⟩
   simp only [if_neg hji]
   exact hdj.upd hs.upd fun x hx hf => hji (h5 j i x (Zd.1 hj).1 hil hf hx)
 ·intro j k x hj hk hfj hfk
  rw [hlen] at hj hk
  have old : ∀ q, q < M.length -> Fs q x -> x < w.heap.size := fun q hq hf => hlt x ((h8 x).2 (.inr (.inr ⟨q, hq, hf⟩)))
  by_cases hji : j = i <;> by_cases hki : k = i
  ·omega
  ·simp only [if_pos hji] at hfj; simp only [if_neg hki] at hfk
   rcases hs.grow x hfj with h | h
   ·have := h5 i k x hil hk h hfk; omega
   ·have := old k hk hfk; omega
  ·simp only [if_neg hji] at hfj; simp only [if_pos hki] at hfk
   rcases hs.grow x hfk with h | h
   ·have := h5 j i x hj hil hfj h; omega
   ·have := old j hj hfj; omega
  ·simp only [if_neg hji] at hfj; simp only [if_neg hki] at hfk
   exact h5 j k x hj hk hfj hfk
 ·intro j x hj hf
  rw [hlen] at hj
  by_cases hji : j = i
  ·simp only [if_pos hji] at hf
   rcases hs.grow x hf with h | h
   ·exact h6 i x hil h
   ·refine ⟨?_, fun e => ?_⟩
    ·have := h1.lt; omega
    ·have := Q36 h2 e; omega
  ·simp only [if_neg hji] at hf
   exact h6 j x hj hf
 ·intro x
  rw [hlen]
 ·exact hs.upd.mono fun x _ hx => (h8 x).2 (.inr (.inr ⟨i, hil, hx⟩))
 ·rintro x (rfl | hx | ⟨j, hj, hx⟩)
  ·exact .inl ((h8 _).2 (.inl rfl))
  ·exact .inl ((h8 _).2 (.inr (.inl hx)))
  ·by_cases hji : j = i
   ·simp only [if_pos hji] at hx
    rcases hs.grow x hx with h | h
    ·exact .inl ((h8 _).2 (.inr (.inr ⟨i, hil, h⟩)))
    ·exact .inr h
   ·simp only [if_neg hji] at hx
    exact .inl ((h8 _).2 (.inr (.inr ⟨j, hj, hx⟩)))
theorem Qb.born {w : World} {a : Nat} {M : List Mem} {left : Int} {down : Bool} {F : Nat -> Prop} (h : Qb w a M left down F) {i : Nat} {m : Mem} (hi : M[i]? = some m) :
  ∃ ap cm, w.cell? ((at0 a).add 0) = some (.slice (some ap) M.length cm) /\ w.cell? ((ap.add (i * 2)).add 1) = some (int i64 m.births) /\ QL1 w ((ap.add (i * 2)).add 1) ∧
   ∀ v w', QT w ((ap.add (i * 2)).add 1) (int i64 v) w' -> Qb w' a (M.set i { m with births := v }) left down F /\ Qf F F w w' := by
 obtain ⟨p, cm, bs, Fs, h1, h2, h3, h4, h5, h6, h7, h8⟩ := h
 obtain ⟨b, hb, hd⟩ := h4 i m hi
 have hil : i < M.length := (Zd.1 hi).1
 obtain ⟨c1, c2⟩ := Q83 hb hi
 obtain ⟨ap, hp, e2⟩ := h2.cells _ _ c2
 subst hp
 have hlen2 : i * 2 + 1 < (QZ bs M).length := (Zd.1 c2).1
 refine ⟨ap, cm, h1.c rfl, by rw [Qt]; exact e2, by rw [Qt]; exact h2.live hlen2, fun v w' hs => ?_⟩
 rw [Qt] at hs
 obtain ⟨h2', hu⟩ := h2.set hs
 obtain ⟨g, hg⟩ : ∃ g, ap = at0 g := by
  rcases h2.where_ with ⟨h0, _⟩ | ⟨g, h0, _⟩
  ·cases h0
  ·cases h0; exact ⟨g, rfl⟩
 subst hg
 have hlen : (M.set i { m with births := v }).length = M.length := List.length_set
 have hne : ¬ a = g := fun e => h7 (by rw [e])
 refine ⟨⟨some (at0 g), cm, bs, Fs, ?_, ?_, by rw [hlen]; exact h3, ?_, by rw [hlen]; exact h5, by rw [hlen]; exact h6, h7, by rw [hlen]; exact h8⟩, ?_⟩
 ·rw [hlen]; exact hu.rowW h1 hne
 ·rw [hlen, Qs3 h3 hi]; exact h2'
 ·intro j mj hj
  have hdj : ∃ mj', M[j]? = some mj' /\ mj'.d = mj.d := by
   by_cases hji : j = i
   ·subst hji
    rw [List.getElem?_set_self hil] at hj
    cases hj
    exact ⟨m, hi, rfl⟩
   ·rw [List.getElem?_set_ne (fun e => hji e.symm)] at hj
    exact ⟨mj, hj, rfl⟩
  obtain ⟨mj', hj', hdd⟩ := hdj
  obtain ⟨bj, hbj, hdj⟩ := h4 j mj' hj'
  refine ⟨bj, hbj, ?_⟩
  rw [← hdd]
  exact hdj.upd hu fun x hx hf => (h6 j x (Zd.1 hj').1 hf).2 (by rw [show x = g from hx])
 ·exact ⟨hu.mono fun x _ hx => (h8 x).2 (.inr (.inl (by rw [show x = g from hx]))), fun x hx => .inl hx⟩
open Go Go.Vc
open Go.IntKind (i64)
open Go.Value (int)
open Go.Proofs.Tryz (prog)
theorem Q87 {P : Program} {t e : TypeId} {sz bytes : Nat} (E : QI0 P t e sz bytes) (ty : TypeId) {w : World} {base : Nat} {p : σ} {n c : Nat} {xs : List Value} (h : Qc w base e sz p n c xs)
  {a : Addr} {m d : Nat} {news : List Value} (hl : news.length = m * sz) (hq : Q8 w (some a) news) (h1 : ∀ u ∈ news, u.oneCell' = true) (hm : 0 < m) (h63 : n + m <= maxLen)
  (hbytes : (n + m) * bytes <= 140737488355328) {p' : σ} {l' c' : Nat} {w' : World} (hr : (Builtin.append_ #[t, t] ty #[.slice p n c, .slice (some a) m d]).run P w = .ok (.slice p' l' c') w') :
  p' = p \/ p' = some (at0 w.heap.size) := by
 obtain ⟨i, z, hi, hz, hs, hb, hzs⟩ := E.hi
 subst hs
 subst hb
 have hsmall : n + m <= 9223372036854775807 := by simp only [maxLen] at h63; omega
 have hnews : ∀ j u, news[j]? = some u -> w.cell? (a.add j) = some u := by
  intro j u hj
  obtain ⟨a', ha, hc⟩ := hq j u hj
  cases ha; exact hc
 rcases h.where_ with ⟨rfl, rfl, rfl⟩ | ⟨g, rfl, hge, hlt, hnc, cur, hg, hcs, htake⟩
 ·have hr2 := run_append_nil (P := P) w t ty e i z E.ht hi hz a m d news hl hnews (by omega) (by omega) (by have hb := hbytes; simp only [Nat.zero_add] at hb; omega)
  rw [hr] at hr2
  simp only [Result.ok.injEq, Value.slice.injEq] at hr2
  exact .inr hr2.1.1
 ·by_cases hroom : n + m <= c
  ·have hfit : n * i.size + news.length <= cur.size := by rw [hl, hcs, ← Nat.add_mul]; exact Nat.mul_le_mul_right _ hroom
   have hr2 := run_append_room (P := P) w t ty e i E.ht hi g n c cur hg a m d news hl hnews h1 hroom hfit
   rw [show (some (at0 g) : σ) = some ⟨g, 0, none⟩ from rfl] at hr
   rw [hr] at hr2
   simp only [Result.ok.injEq, Value.slice.injEq] at hr2
   exact .inl hr2.1.1
  ·have holds : ∀ j u, xs[j]? = some u -> w.cell? ((⟨g, 0, none⟩ : Addr).add j) = some u := by
    intro j u hj
    obtain ⟨a', ha, hc⟩ := h.cells j u hj
    cases ha; exact hc
   have hr2 := run_append_grow (P := P) w t ty e i z E.ht hi hz ⟨g, 0, none⟩ n c xs h.length holds a m d news hl hnews (by omega) (by omega) (growslice_fits (by omega) hbytes)
   rw [show (some (at0 g) : σ) = some ⟨g, 0, none⟩ from rfl] at hr
   rw [hr] at hr2
   simp only [Result.ok.injEq, Value.slice.injEq] at hr2
   exact .inr hr2.1.1
theorem Q7f : QI0 prog 63 70 2 16 := ⟨by kernel_rfl, ⟨Tryz.t70, .agg #[.pointer none, int i64 0], by kernel_rfl, by kernel_rfl, by kernel_rfl, by kernel_rfl, by kernel_rfl⟩, by decide⟩
theorem Qb.push {w0 w1 : World} {a : Nat} {M : List Mem} {left : Int} {down : Bool} {F : Nat -> Prop} (h : Qb w0 a M left down F) (hx : Ext w0 w1) {b : Nat} {D : Dk} {Fd : Nat -> Prop} (hd : Dsk w1 b D Fd) (hnew : ∀ x, Fd x -> w0.heap.size <= x) (hM : M.length <= 100) :
  ∃ p cm, w1.cell? ((at0 a).add 0) = some (.slice p M.length cm) /\ ∀ (k : Nat) (w2 : World), QU1 w1 k (.cells #[.pointer (some (at0 b)), int i64 0] 70) w2 →
   ∃ p' c' w3, Sem.run prog (Builtin.append_ #[63, 63] 63 #[.slice p M.length cm, .slice (some (at0 k)) 1 1]) w2 = .ok (.slice p' (M.length + 1) c') w3 /\ QL1 w3 ((at0 a).add 0) ∧
    ∀ w4, QT w3 ((at0 a).add 0) (.slice p' (M.length + 1) c') w4 -> ∃ F', Qb w4 a (M ++ [⟨D, 0⟩]) left down F' /\ Upd F w0 w4 /\ ∀ x, F' x -> F x \/ w0.heap.size <= x := by
 have hlt0 := h.lt
 have h' := h.ext hx
 obtain ⟨p, cm, bs, Fs, h1, h2, h3, h4, h5, h6, h7, h8⟩ := h'
 refine ⟨p, cm, h1.c rfl, fun k w2 hk => ?_⟩
 have x2 := hx.trans hk.ext
 have hksz := hk.size
 have hs0 := hx.size
 have hbox : Q8 w2 (some (at0 k)) [.pointer (some (at0 b)), int i64 0] := by
  intro j u hj
  refine ⟨_, rfl, ?_⟩
  have hb := hk.at
  match j, hj with
  | 0, hj => cases hj; simp [World.cell?, Addr.add, hb]
  | 1, hj => cases hj; simp [World.cell?, Addr.add, hb]
 have hone : ∀ u ∈ [Value.pointer (some (at0 b)), int i64 0], u.oneCell' = true := by
  intro u hu
  simp only [List.mem_cons, List.not_mem_nil, or_false] at hu
  rcases hu with rfl | rfl <;> rfl
 have h22 := h2.ext hk.ext
 obtain ⟨p', c', w3, hr, own3, hu3, _⟩ := h22.append Q7f 63 (q := some (at0 k)) (m := 1) (d := 1) (news := [.pointer (some (at0 b)), int i64 0]) rfl hbox (fun h => by cases h) hone (by unfold maxLen; omega) (by omega) (Nat.zero_le _)
 have hw := Q87 Q7f 63 h22 rfl hbox hone (by omega) (by unfold maxLen; omega) (by omega) hr
 have p_lt : ∀ x, p = some (at0 x) -> x < w0.heap.size := fun x hp => hlt0 x ((h8 x).2 (.inr (.inl hp)))
 have F_lt : ∀ i x, i < M.length -> Fs i x -> x < w0.heap.size := fun i x hi hf => hlt0 x ((h8 x).2 (.inr (.inr ⟨i, hi, hf⟩)))
 have a_lt : a < w0.heap.size := hlt0 a ((h8 a).2 (.inl rfl))
 have hd_lt := hd.lt
 have hka : ∀ x, p' = some (at0 x) -> (p = some (at0 x)) \/ x = w2.heap.size := by
  intro x hp
  rcases hw with h | h
  ·exact .inl (by rw [← h]; exact hp)
  ·rw [h] at hp
   simp only [Zi, at0, Zv, and_true] at hp
   exact .inr hp.symm
 have hna : p ≠ some (at0 a) := h7
 have r3 := hu3.rowW (hk.ext.rowW h1 id) (fun e => hna e)
 refine ⟨p', c', w3, hr, r3.live (by simp), fun w4 hs => ?_⟩
 have hu4 : Upd (fun x => x = a) w3 w4 := by
  have := hs.upd
  rw [Qi] at this
  exact this
 have hp'a : p' ≠ some (at0 a) := fun e => by
  rcases hka a e with h | h
  ·exact hna h
  ·omega
 have hlen : (M ++ [(⟨D, 0⟩ : Mem)]).length = M.length + 1 := by simp
 have dsk2 : ∀ {b' : Nat} {D' : Dk} {F' : Nat -> Prop}, Dsk w1 b' D' F' -> (∀ x, F' x -> x ≠ a /\ p ≠ some (at0 x)) -> Dsk w4 b' D' F' := fun hd' hF =>
  ((hd'.ext hk.ext).upd hu3 (fun x hx hf => (hF x hf).2 hx)).upd hu4 fun x hx hf => (hF x hf).1 hx
 refine ⟨fun x => x = a \/ p' = some (at0 x) \/ ∃ i, i < M.length + 1 /\ (if i = M.length then Fd else Fs i) x, ⟨p', c', bs ++ [b], fun i => if i = M.length then Fd else Fs i, ?_, ?_, by simp [h3], ?_, ?_, ?_, hp'a, ?_⟩, ?_, ?_⟩
 ·rw [hlen]; exact hs.row r3
 ·rw [hlen, Qk4 _ _ h3]
  exact own3.upd hu4 fun g hg e => hp'a (by rw [hg, e])
 ·intro i m hi
  rcases Nat.lt_or_ge i M.length with hil | hil
  ·rw [Zl hil] at hi
   obtain ⟨b', hb', hd'⟩ := h4 i m hi
   refine ⟨b', by rw [Zl (by omega)]; exact hb', ?_⟩
   have hne : ¬ i = M.length := by omega
   simp only [if_neg hne]
   exact dsk2 hd' fun x hf => h6 i x hil hf
  ·have hi0 : i = M.length := by
    have := (Zd.1 hi).1
    rw [hlen] at this; omega
   subst hi0
   rw [Zm (Nat.le_refl _), Nat.sub_self] at hi
   cases hi
   refine ⟨b, by rw [Zm (by omega), h3, Nat.sub_self]; rfl, ?_⟩
   simp only [if_true]
   exact dsk2 hd fun x hf => ⟨fun e => by have := hnew x hf; omega, fun e => by have := hnew x hf; have := p_lt x e; omega⟩
 ·intro i j x hi hj hfi hfj
  rw [hlen] at hi hj
  by_cases hii : i = M.length <;> by_cases hjj : j = M.length
  ·omega
  ·simp only [if_pos hii] at hfi; simp only [if_neg hjj] at hfj
   have := hnew x hfi; have := F_lt j x (by omega) hfj; omega
  ·simp only [if_neg hii] at hfi; simp only [if_pos hjj] at hfj
   have := hnew x hfj; have := F_lt i x (by omega) hfi; omega
  ·simp only [if_neg hii] at hfi; simp only [if_neg hjj] at hfj
   exact h5 i j x (by omega) (by omega) hfi hfj
 ·intro i x hi hf
  rw [hlen] at hi
  by_cases hii : i = M.length
  ·simp only [if_pos hii] at hf
   have := hnew x hf
   refine ⟨by omega, fun e => ?_⟩
   rcases hka x e with h | h
   ·have := p_lt x h; omega
   ·have := hd_lt x hf; omega
  ·simp only [if_neg hii] at hf
   obtain ⟨q1, q2⟩ := h6 i x (by omega) hf
   refine ⟨q1, fun e => ?_⟩
   rcases hka x e with h | h
   ·exact q2 h
   ·have := F_lt i x (by omega) hf; omega
 ·intro x
  rw [hlen]
 ·refine Upd.trans (Upd.trans (x2.upd (S := F)) hu3 fun x _ hx => (h8 x).2 (.inr (.inl hx))) hu4 fun x _ hx => (h8 x).2 (.inl hx)
 ·rintro x (rfl | hx' | ⟨i, hi, hf⟩)
  ·exact .inl ((h8 _).2 (.inl rfl))
  ·rcases hka x hx' with h | h
   ·exact .inl ((h8 _).2 (.inr (.inl h)))
   ·exact .inr (by omega)
  ·by_cases hii : i = M.length
   ·simp only [if_pos hii] at hf
    exact .inr (hnew x hf)
   ·simp only [if_neg hii] at hf
    exact .inl ((h8 _).2 (.inr (.inr ⟨i, by omega, hf⟩)))
open Go Go.Vc
open Go.IntKind (i64)
open Go.Value (int)
open Go.Proofs.Tryz (prog)
theorem QDf {n s : Int} (h : n < 1 \/ 32 < n) (w : World) : Calls prog 6 #[int i64 n, int i64 s] w fun e w' => e = .returned (.tuple #[.pointer none, int i64 1]) /\ w' = w := by
 refine (F6_calls n s w (fun v w' => v = .tuple #[.pointer none, int i64 1] /\ w' = w) (fun _ _ _ _ _ => False) (fun _ _ _ _ _ => 0) ?_).mono (by rintro e w' ⟨v, rfl, rfl, h⟩; exact ⟨rfl, h⟩)
 refine Q0 (fun _ => ⟨rfl, rfl⟩) (fun h1 => Q0 (fun _ => ⟨rfl, rfl⟩) (fun h2 => ?_))
 simp only [Zb] at h1 h2
 omega
theorem Q77 {n s : Int} (h : 1 <= n /\ n <= 32) (hs : 1 <= s /\ s <= 4096) (w : World) : Calls prog 6 #[int i64 n, int i64 s] w fun e w' => ∃ a F, e = .returned (.tuple #[.pointer (some (at0 a)), int i64 0]) /\ Ext w w' ∧
  Qb w' a (List.replicate n.toNat ⟨⟨s, [], [], false⟩, 0⟩) (-1) false F /\ ∀ x, F x -> w.heap.size <= x := by
 refine (F6_calls n s w (fun v w' => ∃ a F, v = .tuple #[.pointer (some (at0 a)), int i64 0] /\ Ext w w' /\ Qb w' a (List.replicate n.toNat ⟨⟨s, [], [], false⟩, 0⟩) (-1) false F /\ ∀ x, F x -> w.heap.size <= x)
  (fun p _ _ n7 w8 => ∃ (a i : Nat) (F : Nat -> Prop), p = some (at0 a) /\ n7 = i /\ i <= n.toNat /\ Ext w w8 /\ Qb w8 a (List.replicate i ⟨⟨s, [], [], false⟩, 0⟩) (-1) false F /\ ∀ x, F x -> w.heap.size <= x) (fun _ _ _ n7 _ => 32 - n7.toNat) ?_).mono (by
   rintro e w' ⟨v, rfl, a, F, rfl, h⟩; exact ⟨a, F, rfl, h⟩)
 refine Q0 (fun h1 => by simp only [Za] at h1; omega) (fun _ => Q0 (fun h1 => by simp only [Za] at h1; omega) (fun _ => ?_))
 intro k3 w4 hk
 refine ⟨⟨k3, 0, fun x => x = k3, rfl, rfl, Nat.zero_le _, hk.ext, ⟨none, 0, [], fun _ _ => False, ⟨_, hk.at⟩, Qc.nil _ _ _ _, rfl, fun i m hi => by simp at hi, fun i j x hi _ _ _ => by simp at hi, fun i x hi _ => by simp at hi, by simp, fun x => by simp⟩, ?_⟩, ?_⟩
 ·rintro x rfl
  rw [hk.size.1]; exact Nat.le_refl _
 rintro n7 w8 ⟨a, i, F, hp, rfl, hi, hx8, h8, hF⟩
 cases hp
 intros
 refine Q0 (fun hlt => ?_) (fun hge => ?_)
 ·simp only [Za] at hlt
  refine (QOf hs w8).mono ?_
  rintro e w34 ⟨b, Fd, rfl, x34, hd, hFd⟩
  obtain ⟨p, cm, e1, hall⟩ := h8.push x34 hd hFd (by rw [List.length_replicate]; omega)
  rw [List.length_replicate] at e1 hall
  refine ⟨_, _, rfl, Q0 (fun h => by simp at h) fun _ => ⟨p, i, cm, e1, fun k39 w40 hk39 => ?_⟩⟩
  obtain ⟨p', c', w3, hr, hl, hset⟩ := hall k39 w40 hk39
  refine ⟨p', i + 1, c', w3, hr, hl, fun w43 hs43 => ?_⟩
  obtain ⟨F', hA, hu, hg⟩ := hset w43 hs43
  rw [w64 (by omega)]
  refine ⟨⟨k3, i + 1, F', rfl, by omega, by omega, ?_, ?_, fun x hx => ?_⟩, by show 32 - ((i : Int) + 1).toNat < 32 - (i : Int).toNat; omega⟩
  ·refine Upd.trans hx8 hu fun x hx hf => ?_
   have := hF x hf; omega
  ·rw [List.replicate_succ']; exact hA
  ·rcases hg x hx with h | h
   ·exact hF x h
   ·exact Zu hx8.size h
 ·simp only [Zb] at hge
  have : i = n.toNat := by omega
  subst this
  exact ⟨k3, F, rfl, hx8, h8, hF⟩
section
variable {w : World} {a : Nat} {M : List Mem} {left : Int} {down : Bool} {F : Nat -> Prop}
theorem QW0 (h : Qb w a M left down F) : Calls prog 38 #[.pointer (some (at0 a))] w fun e w' => e = .returned (.bool down) /\ w' = w := by
 obtain ⟨p, cm, hr⟩ := h.row
 exact (F38_calls (some (at0 a)) w (fun v w' => v = .bool down /\ w' = w) (Q0 (fun _ => ⟨_, hr.c rfl, rfl, rfl⟩) fun h => by cases h)).mono (by rintro e w' ⟨v, rfl, rfl, h⟩; exact ⟨rfl, h⟩)
theorem QO (h : Qb w a M left down F) (k : Int) : Calls prog 84 #[.pointer (some (at0 a)), int i64 k] w fun e w' => e = .returned (.bool (decide (0 <= k /\ k < M.length))) /\ w' = w := by
 obtain ⟨p, cm, hr⟩ := h.row
 refine (F84_calls (some (at0 a)) k w (fun v w' => v = .bool (decide (0 <= k /\ k < M.length)) /\ w' = w) ?_).mono (by rintro e w' ⟨v, rfl, rfl, h⟩; exact ⟨rfl, h⟩)
 refine Q0 (fun _ => Q0 (fun h1 => ⟨_, _, _, hr.c rfl, ?_, rfl⟩) fun h1 => ⟨?_, rfl⟩) fun h => by cases h
 ·simp only [Za] at h1
  simp [h1]
 ·simp only [Zb] at h1
  simp [h1]
theorem QV9 (h : Qb w a M left down F) (k : Int) : Calls prog 74 #[.pointer (some (at0 a)), int i64 k] w fun e w' => e = .returned (.tuple #[]) /\ Qf F F w w' ∧
  Qb w' a M (if down then left else if k < -1 then -1 else k) (if down then true else decide (k = 0)) F := by
 obtain ⟨p, cm, hr⟩ := h.row
 refine (F74_calls (some (at0 a)) k w (fun v w' => v = .tuple #[] /\ Qf F F w w' /\ Qb w' a M (if down then left else if k < -1 then -1 else k) (if down then true else decide (k = 0)) F) ?_).mono (by rintro e w' ⟨v, rfl, rfl, h⟩; exact ⟨rfl, h⟩)
 refine Q0 (fun _ => ⟨_, hr.c rfl, Q0 (fun hd => ?_) fun hd => ?_⟩) fun h => by cases h
 ·have hd' : down = false := by simpa using hd
  subst hd'
  refine ⟨hr.live (by simp), fun w6 s6 => ?_⟩
  obtain ⟨h6, st6⟩ := h.setLeft s6
  obtain ⟨p2, cm2, hr6⟩ := h6.row
  refine ⟨hr6.live (by simp), fun w8 s8 => ?_⟩
  obtain ⟨h8, st8⟩ := h6.setDown s8
  exact ⟨rfl, st6.trans st8, by simpa using h8⟩
 ·have hd' : down = true := by simpa using hd
  subst hd'
  exact ⟨rfl, Qf.refl _ _, by simpa using h⟩
theorem QI3 (h : Qb w a M left true F) (i k : Int) : Calls prog 42 #[.pointer (some (at0 a)), int i64 i, int i64 k] w fun e w' => e = .returned (.tuple #[.slice none 0 0, int i64 130]) /\ w' = w := by
 refine (F42_calls (some (at0 a)) i k w (fun v w' => v = .tuple #[.slice none 0 0, int i64 130] /\ w' = w) ?_).mono (by rintro e w' ⟨v, rfl, rfl, h⟩; exact ⟨rfl, h⟩)
 refine (QW0 h).mono ?_
 rintro e w4 ⟨rfl, rfl⟩
 exact ⟨_, rfl, Q0 (fun _ => ⟨rfl, rfl⟩) fun h => by cases h⟩
theorem QJ3 (h : Qb w a M left false F) {i : Nat} {m : Mem} (hi : M[i]? = some m) (k : Int) : Calls prog 42 #[.pointer (some (at0 a)), int i64 (i : Int), int i64 k] w fun e w' => Ext w w' ∧
  ∃ p l c bs, e = .returned (.tuple #[.slice p l c, int i64 (Qe m.d.dead m.d.sectors k)]) /\ bs = (if Qe m.d.dead m.d.sectors k = 0 then Ql1 m.d k else []) /\ l = bs.length /\ Qc w' w.heap.size 5 1 p l c (QB bs) /\ l <= 4108 := by
 refine (F42_calls (some (at0 a)) (i : Int) k w (fun v w' => Ext w w' /\ ∃ p l c bs, v = .tuple #[.slice p l c, int i64 (Qe m.d.dead m.d.sectors k)] /\ bs = (if Qe m.d.dead m.d.sectors k = 0 then Ql1 m.d k else []) /\ l = bs.length /\ Qc w' w.heap.size 5 1 p l c (QB bs) /\ l <= 4108) ?_).mono (by rintro e w' ⟨v, rfl, hx, p, l, c, bs, rfl, h⟩; exact ⟨hx, p, l, c, bs, rfl, h⟩)
 have hil : i < M.length := (Zd.1 hi).1
 refine (QW0 h).mono ?_
 rintro e w4 ⟨rfl, rfl⟩
 refine ⟨_, rfl, Q0 (fun h => by cases h) fun _ => (QO h (i : Int)).mono ?_⟩
 rintro e w7 ⟨rfl, rfl⟩
 obtain ⟨ap, cm, b, Fi, e0, _, e1, e2, hd, _, _⟩ := h.at hi
 refine ⟨_, rfl, Q0 (fun h0 => by simp at h0; omega) fun _ => ⟨_, _, _, e0, ⟨by omega, by omega⟩, _, by rw [Ze]; exact e1, ?_⟩⟩
 refine (Q1f hd k).mono ?_
 rintro e w14 ⟨hx, _, p, l, c, bs, rfl, h⟩
 exact ⟨_, _, _, _, rfl, hx, p, l, c, bs, rfl, h⟩
theorem Q23 (h : Qb w a M left false F) (hleft : -1 <= left /\ left <= 9223372036854775807) {i : Nat} {m : Mem} (hi : M[i]? = some m) (k : Int) {p : σ} {l c : Nat} {bs : τ} (hb : Q3 w p l bs) :
  Calls prog 39 #[.pointer (some (at0 a)), int i64 (i : Int), int i64 k, .slice p l c] w fun e w' => ∃ F', e = .returned (int i64 (Qj m.d k bs.length)) /\ Qf F F' w w' ∧
   Qb w' a (M.set i { m with d := Q30 m.d k bs }) (if Qj m.d k bs.length = 0 /\ 0 < left then left - 1 else left) (decide (Qj m.d k bs.length = 0 /\ left = 1)) F' := by
 refine (F39_calls (some (at0 a)) (i : Int) k p l c w (fun v w' => ∃ F', v = int i64 (Qj m.d k bs.length) /\ Qf F F' w w' ∧
   Qb w' a (M.set i { m with d := Q30 m.d k bs }) (if Qj m.d k bs.length = 0 /\ 0 < left then left - 1 else left) (decide (Qj m.d k bs.length = 0 /\ left = 1)) F') ?_).mono (by rintro e w' ⟨v, rfl, F', rfl, h⟩; exact ⟨F', rfl, h⟩)
 have hil : i < M.length := (Zd.1 hi).1
 refine (QW0 h).mono ?_
 rintro e w4 ⟨rfl, rfl⟩
 refine ⟨_, rfl, Q0 (fun h => by cases h) fun _ => (QO h (i : Int)).mono ?_⟩
 rintro e w7 ⟨rfl, rfl⟩
 obtain ⟨ap, cm, b, Fi, e0, _, e1, e2, hd, _, hstep⟩ := h.at hi
 refine ⟨_, rfl, Q0 (fun h0 => by simp at h0; omega) fun _ => ⟨_, _, _, e0, ⟨by omega, by omega⟩, _, by rw [Ze]; exact e1, ?_⟩⟩
 refine (Q7e hd k hb).mono ?_
 rintro e w15 ⟨F', rfl, hs, hd'⟩
 obtain ⟨F2, h2, s2⟩ := hstep _ _ _ hs hd'
 obtain ⟨p2, cm2, hr2⟩ := h2.row
 refine ⟨_, rfl, Q0 (fun hz => ?_) (fun hz => ?_)⟩
 ·simp only [Za] at hz
  refine ⟨_, hr2.c rfl, Q0 (fun hl => ?_) (fun hl => ?_)⟩
  ·simp only [Za] at hl
   refine ⟨_, hr2.c rfl, hr2.live (by simp), fun w23 s23 => ?_⟩
   obtain ⟨h3, s3⟩ := h2.setLeft s23
   obtain ⟨p3, cm3, hr3⟩ := h3.row
   refine ⟨_, hr3.c rfl, hr3.live (by simp), fun w27 s27 => ?_⟩
   obtain ⟨h4, s4⟩ := h3.setDown s27
   refine ⟨F2, rfl, (s2.trans s3).trans s4, ?_⟩
   rw [w64 (by omega)] at h4
   rw [if_pos ⟨hz, hl⟩]
   have : decide (Qj m.d k bs.length = 0 /\ left = 1) = decide (left - 1 = 0) := by
    apply decide_eq_decide.2
    constructor
    ·rintro ⟨_, h⟩; omega
    ·intro h; exact ⟨hz, by omega⟩
   rw [this]; exact h4
  ·simp only [Zb] at hl
   refine ⟨F2, rfl, s2, ?_⟩
   rw [if_neg (fun h => hl h.2)]
   have : decide (Qj m.d k bs.length = 0 /\ left = 1) = false := decide_eq_false fun h => by omega
   rw [this]; exact h2
 ·simp only [Zb] at hz
  refine ⟨F2, rfl, s2, ?_⟩
  rw [if_neg (fun h => hz h.1)]
  have : decide (Qj m.d k bs.length = 0 /\ left = 1) = false := decide_eq_false fun h => hz h.1
  rw [this]; exact h2
theorem QJ5 (h : Qb w a M left false F) {i : Int} (hi : ¬ (0 <= i /\ i < M.length)) (k : Int) (p : σ) (l c : Nat) :
  Calls prog 39 #[.pointer (some (at0 a)), int i64 i, int i64 k, .slice p l c] w fun e w' => e = .returned (int i64 1) /\ w' = w := by
 refine (F39_calls (some (at0 a)) i k p l c w (fun v w' => v = int i64 1 /\ w' = w) ?_).mono (by rintro e w' ⟨v, rfl, rfl, h⟩; exact ⟨rfl, h⟩)
 refine (QW0 h).mono ?_
 rintro e w4 ⟨rfl, rfl⟩
 refine ⟨_, rfl, Q0 (fun h => by cases h) fun _ => (QO h i).mono ?_⟩
 rintro e w7 ⟨rfl, rfl⟩
 exact ⟨_, rfl, Q0 (fun _ => ⟨rfl, rfl⟩) fun h0 => by simp only [Zf, Za] at h0; exact absurd h0 hi⟩
theorem QU9 (h : Qb w a M left down F) {i : Nat} {m : Mem} (hi : M[i]? = some m) :
  Calls prog 78 #[.pointer (some (at0 a)), int i64 (i : Int)] w fun e w' => ∃ F', e = .returned (int i64 0) /\ Qf F F' w w' ∧
   Qb w' a (M.set i ⟨{ m.d with dead := true, lasts := [], waits := [] }, i64.wrap (m.births + 1)⟩) left down F' := by
 refine (F78_calls (some (at0 a)) (i : Int) w (fun v w' => ∃ F', v = int i64 0 /\ Qf F F' w w' ∧
   Qb w' a (M.set i ⟨{ m.d with dead := true, lasts := [], waits := [] }, i64.wrap (m.births + 1)⟩) left down F') ?_).mono (by rintro e w' ⟨v, rfl, F', rfl, h⟩; exact ⟨F', rfl, h⟩)
 have hil : i < M.length := (Zd.1 hi).1
 refine (QO h (i : Int)).mono ?_
 rintro e w7 ⟨rfl, rfl⟩
 obtain ⟨ap, cm, b, Fi, e0, _, e1, e2, hd, _, hstep⟩ := h.at hi
 refine ⟨_, rfl, Q0 (fun h0 => by simp at h0; omega) fun _ => ⟨_, _, _, e0, ⟨by omega, by omega⟩, _, by rw [Ze]; exact e1, ?_⟩⟩
 refine (Q0f hd).mono ?_
 rintro e w10 ⟨rfl, hs, hd'⟩
 obtain ⟨F2, h2, s2⟩ := hstep _ _ _ hs hd'
 obtain ⟨ap2, cm2, q0, q1, q2, q3⟩ := h2.born (i := i) (m := { m with d := { m.d with dead := true, lasts := [], waits := [] } }) (List.getElem?_set_self hil)
 rw [List.length_set] at q0
 rw [Ze]
 refine ⟨rfl, _, _, _, q0, ⟨by omega, by omega⟩, _, q1, ⟨by omega, by omega⟩, q2, fun w17 s17 => ?_⟩
 obtain ⟨h3, s3⟩ := q3 _ _ s17
 rw [List.set_set] at h3
 exact ⟨F2, rfl, s2.trans s3, h3⟩
end
open Go Go.Vc
open Go.IntKind (i64)
open Go.Value (int)
open Go.Proofs.Tryz (prog)
theorem Qa8 {P : Program} {t e : TypeId} {bytes : Nat} (E : QI0 P t e 1 bytes) (hby : bytes <= 64) {w0 w : World} (hx : Ext w0 w) {p : σ} {n c : Nat} {xs : List Value} (h : Qc w w0.heap.size e 1 p n c xs) {k : Nat} {v : Value} {w1 : World}
  (hk : QU1 w k (.cells #[v] e) w1) (hv : v.oneCell' = true) (hn : n <= 100000) :
  ∃ p' c' w', Sem.run P (Builtin.append_ #[t, t] t #[.slice p n c, .slice (some (at0 k)) 1 1]) w1 = .ok (.slice p' (n + 1) c') w' /\ Qc w' w0.heap.size e 1 p' (n + 1) c' (xs ++ [v]) /\ Ext w0 w' := by
 have hbox : Q8 w1 (some (at0 k)) [v] := by
  intro j u hj
  refine ⟨_, rfl, ?_⟩
  have hb := hk.at
  match j, hj with
  | 0, hj => cases hj; simp [World.cell?, Addr.add, hb]
 have hx1 := hx.trans hk.ext
 have h' := h.ext hk.ext
 have hmul : (n + 1) * bytes <= (100000 + 1) * 64 := Nat.mul_le_mul (by omega) hby
 obtain ⟨p', c', w', hr, ho, hu, _⟩ := h'.append E t (q := some (at0 k)) (m := 1) (d := 1) (news := [v]) rfl hbox (fun h => by cases h) (by intro u hu; simp only [List.mem_singleton] at hu; subst hu; exact hv) (by unfold maxLen; omega) (by omega) hx1.size
 refine ⟨p', c', w', hr, ho, ?_⟩
 refine Upd.trans hx1 hu fun x hx' hs => ?_
 rcases h'.where_ with ⟨h0, _⟩ | ⟨g, h0, hge, _⟩
 ·rw [h0] at hs; cases hs
 ·rw [h0] at hs
  simp only [Zi, at0, Zv, and_true] at hs
  omega
theorem Qk9 : QI0 prog 36 4 1 1 := ⟨by kernel_rfl, ⟨Tryz.t4, .bool false, by kernel_rfl, by kernel_rfl, by kernel_rfl, by kernel_rfl, by kernel_rfl⟩, by decide⟩
theorem Qqb : QI0 prog 35 3 1 8 := ⟨by kernel_rfl, ⟨Tryz.t3, int i64 0, by kernel_rfl, by kernel_rfl, by kernel_rfl, by kernel_rfl, by kernel_rfl⟩, by decide⟩
theorem Q5 {w0 w w' : World} {k j : Nat} {v : Value} (h : Ext w0 w) (hk : w0.heap.size <= k) (hs : QT w ((at0 k).add j) v w') : Ext w0 w' := by
 refine Upd.trans h hs.upd fun x hx he => ?_
 have : x = k := by
  rw [Qi] at he
  exact he
 omega
section
variable {w : World} {a : Nat} {M : List Mem} {left : Int} {down : Bool} {F : Nat -> Prop}
theorem Qb.entry (h : Qb w a M left down F) {p : σ} {cm : Nat} (hr : RowW w a #[.slice p M.length cm, int i64 left, .bool down]) {i : Nat} {m : Mem} (hi : M[i]? = some m) :
  ∃ ap b Fi, p = some ap /\ w.cell? (ap.add (i * 2)) = some (.pointer (some (at0 b))) /\ w.cell? ((ap.add (i * 2)).add 1) = some (int i64 m.births) /\ Dsk w b m.d Fi /\ (∀ x, Fi x -> F x /\ x ≠ a) ∧
   ∀ w' D' F', Qf Fi F' w w' -> Dsk w' b D' F' -> ∃ F2, Qb w' a (M.set i { m with d := D' }) left down F2 /\ Qf F F2 w w' := by
 obtain ⟨ap, cm', b, Fi, e0, e1, _, e2, hd, hF, hs⟩ := h.at hi
 have := hr.row.cell (n := 0) rfl
 rw [e0] at this
 cases this
 exact ⟨ap, b, Fi, rfl, e1, e2, hd, hF, hs⟩
theorem Qr3 (h : Qb w a M left down F) (hM : M.length <= 100) : Calls prog 34 #[.pointer (some (at0 a))] w fun e w' => ∃ p l c, e = .returned (.slice p l c) /\ Ext w w' /\ l = M.length ∧
  Qc w' w.heap.size 4 1 p l c (M.map fun m => .bool (!m.d.dead)) := by
 refine (F34_calls (some (at0 a)) w (fun v w' => ∃ p l c, v = .slice p l c /\ Ext w w' /\ l = M.length /\ Qc w' w.heap.size 4 1 p l c (M.map fun m => .bool (!m.d.dead)))
  (fun _ _ _ _ _ p8 l8 c8 n9 w10 => ∃ i : Nat, n9 = i /\ i <= M.length /\ Ext w w10 /\ l8 = i /\ Qc w10 w.heap.size 4 1 p8 l8 c8 ((M.take i).map fun m => .bool (!m.d.dead))) (fun _ _ _ _ _ _ _ _ n9 _ => 100 - n9.toNat) ?_).mono (by
   rintro e w' ⟨v, rfl, p, l, c, rfl, h⟩; exact ⟨p, l, c, rfl, h⟩)
 obtain ⟨p, cm, hr⟩ := h.row
 refine Q0 (fun h => by cases h) fun _ => ⟨_, _, _, hr.c rfl, ⟨0, rfl, Nat.zero_le _, Upd.refl _ _, rfl, Qc.nil _ _ _ _⟩, ?_⟩
 rintro p8 l8 c8 n9 w10 ⟨i, rfl, hi, x10, rfl, own⟩
 intros
 refine Q0 (fun hlt => ?_) (fun hge => ?_)
 ·simp only [Za] at hlt
  obtain ⟨m, hm⟩ : ∃ m, M[l8]? = some m := ⟨M[l8]'(by omega), Zc _⟩
  obtain ⟨ap, b, Fi, rfl, e1, e2, hd, _, _⟩ := (h.ext x10).entry (x10.rowW hr id) hm
  rw [Ze]
  refine ⟨⟨by omega, hlt⟩, _, e1, _, e2, fun k26 w27 hk => ?_⟩
  have hk0 : w10.heap.size <= k26 := by rw [hk.size.1]; exact Nat.le_refl _
  have r27 : RowW w27 k26 _ := ⟨_, hk.at⟩
  refine ⟨r27.live (n := 0) (by simp), fun w28 s28 => ?_⟩
  have s28' : QT w27 ((at0 k26).add 0) (.pointer (some (at0 b))) w28 := s28
  have r28 := s28'.row r27
  have x28 := Q5 hk.ext hk0 s28'
  refine ⟨r28.live (by simp), fun w29 s29 => ?_⟩
  have r29 := s29.row r28
  have x29 := Q5 x28 hk0 s29
  refine ⟨some (at0 b), r29.c rfl, ?_⟩
  refine (QZe (hd.ext x29)).mono ?_
  rintro e w31 ⟨rfl, rfl⟩
  refine ⟨_, rfl, fun k34 w35 hk34 => ?_⟩
  have x31 := x10.trans x29
  obtain ⟨p', c', w36, hrun, own36, x36⟩ := Qa8 Qk9 (by omega) x31 (own.ext x29) hk34 rfl (by omega)
  refine ⟨p', l8 + 1, c', w36, hrun, ?_⟩
  rw [w64 (by omega)]
  refine ⟨⟨l8 + 1, by omega, by omega, x36, rfl, ?_⟩, by show 100 - ((l8 : Int) + 1).toNat < 100 - (l8 : Int).toNat; omega⟩
  rw [Zn, hm]
  simpa using own36
 ·simp only [Zb] at hge
  have : M.take l8 = M := Zh (by omega)
  rw [this] at own
  exact ⟨p8, l8, c8, rfl, x10, by omega, own⟩
theorem Qe8 (h : Qb w a M left down F) (hM : M.length <= 100) : Calls prog 37 #[.pointer (some (at0 a))] w fun e w' => ∃ p l c, e = .returned (.slice p l c) /\ Ext w w' /\ l = M.length ∧
  Qc w' w.heap.size 3 1 p l c (M.map fun m => int i64 m.births) := by
 refine (F37_calls (some (at0 a)) w (fun v w' => ∃ p l c, v = .slice p l c /\ Ext w w' /\ l = M.length /\ Qc w' w.heap.size 3 1 p l c (M.map fun m => int i64 m.births))
  (fun _ _ _ _ _ p8 l8 c8 n9 w10 => ∃ i : Nat, n9 = i /\ i <= M.length /\ Ext w w10 /\ l8 = i /\ Qc w10 w.heap.size 3 1 p8 l8 c8 ((M.take i).map fun m => int i64 m.births)) (fun _ _ _ _ _ _ _ _ n9 _ => 100 - n9.toNat) ?_).mono (by
   rintro e w' ⟨v, rfl, p, l, c, rfl, h⟩; exact ⟨p, l, c, rfl, h⟩)
 obtain ⟨p, cm, hr⟩ := h.row
 refine Q0 (fun h => by cases h) fun _ => ⟨_, _, _, hr.c rfl, ⟨0, rfl, Nat.zero_le _, Upd.refl _ _, rfl, Qc.nil _ _ _ _⟩, ?_⟩
 rintro p8 l8 c8 n9 w10 ⟨i, rfl, hi, x10, rfl, own⟩
 intros
 refine Q0 (fun hlt => ?_) (fun hge => ?_)
 ·simp only [Za] at hlt
  obtain ⟨m, hm⟩ : ∃ m, M[l8]? = some m := ⟨M[l8]'(by omega), Zc _⟩
  obtain ⟨ap, b, Fi, rfl, e1, e2, hd, _, _⟩ := (h.ext x10).entry (x10.rowW hr id) hm
  rw [Ze]
  refine ⟨⟨by omega, hlt⟩, _, e1, _, e2, fun k26 w27 hk => ?_⟩
  have hk0 : w10.heap.size <= k26 := by rw [hk.size.1]; exact Nat.le_refl _
  have r27 : RowW w27 k26 _ := ⟨_, hk.at⟩
  refine ⟨r27.live (n := 0) (by simp), fun w28 s28 => ?_⟩
  have s28' : QT w27 ((at0 k26).add 0) (.pointer (some (at0 b))) w28 := s28
  have r28 := s28'.row r27
  have x28 := Q5 hk.ext hk0 s28'
  refine ⟨r28.live (by simp), fun w29 s29 => ?_⟩
  have r29 := s29.row r28
  have x29 := Q5 x28 hk0 s29
  refine ⟨m.births, r29.c rfl, fun k34 w35 hk34 => ?_⟩
  have x31 := x10.trans x29
  obtain ⟨p', c', w36, hrun, own36, x36⟩ := Qa8 Qqb (by omega) x31 (own.ext x29) hk34 rfl (by omega)
  refine ⟨p', l8 + 1, c', w36, hrun, ?_⟩
  rw [w64 (by omega)]
  refine ⟨⟨l8 + 1, by omega, by omega, x36, rfl, ?_⟩, by show 100 - ((l8 : Int) + 1).toNat < 100 - (l8 : Int).toNat; omega⟩
  rw [Zn, hm]
  simpa using own36
 ·simp only [Zb] at hge
  have : M.take l8 = M := Zh (by omega)
  rw [this] at own
  exact ⟨p8, l8, c8, rfl, x10, by omega, own⟩
theorem Qi9 {S : Nat -> Prop} {w w' : World} {a : Addr} {v : Value} (h : w.cell? a = some v) (hu : Upd S w w') (hS : ¬ S a.block) : w'.cell? a = some v := by
 have : Q8 w (some a) [v] := fun j u hj => ⟨a, rfl, by
  match j, hj with
  | 0, hj => cases hj; simpa [Addr.add] using h⟩
 obtain ⟨a', ha, h⟩ := (this.upd hu fun a' ha _ => by cases ha; exact hS) 0 v rfl
 cases ha
 simpa [Addr.add] using h
def Q64 (w : World) (KB : Nat -> Prop) (p : σ) (l : Nat) (KS : List (List Int)) : Prop :=
 l = KS.length /\ ∀ i ks, KS[i]? = some ks -> ∃ a q n c, p = some a /\ KB a.block /\ w.cell? (a.add (i * 1)) = some (.slice q n c) /\ Ql w q n ks /\ (ks ≠ [] -> ∀ a', q = some a' -> KB a'.block) /\ n <= 9223372036854775807
theorem Q64.upd {S KB : Nat -> Prop} {w w' : World} {p : σ} {l : Nat} {KS : List (List Int)} (h : Q64 w KB p l KS) (hu : Upd S w w') (hS : ∀ x, KB x -> ¬ S x) : Q64 w' KB p l KS := by
 refine ⟨h.1, fun i ks hi => ?_⟩
 obtain ⟨a, q, n, c, h1, h2, h3, h4, h5, h6⟩ := h.2 i ks hi
 refine ⟨a, q, n, c, h1, h2, Qi9 h3 hu (by rw [Qr]; exact hS _ h2), ⟨h4.1, h4.2.upd hu fun a' ha hne => hS _ (h5 (by rintro rfl; exact hne rfl) a' ha)⟩, h5, h6⟩
theorem QX5 {w : World} {p : σ} {l : Nat} {ks : List Int} (h : Ql w p l ks) (hne : ks ≠ []) {a : Addr} (ha : p = some a) : a.block < w.heap.size := by
 obtain ⟨k, ks', rfl⟩ := List.exists_cons_of_ne_nil hne
 obtain ⟨a', ha', hc⟩ := h.2 0 _ rfl
 rw [ha] at ha'
 cases ha'
 have : (a.add 0).block = a.block := rfl
 rw [← this]
 unfold World.cell? at hc
 split at hc
 ·rename_i h1; exact Qk h1
 all_goals cases hc
def Qj0 (KS : List (List Int)) (i : Nat) (M : List Mem) : List Mem := M.mapIdx fun j m => if j < i then { m with d := QN1 m.d (KS.getD j []) } else m
theorem QN3 (KS : List (List Int)) (i : Nat) (M : List Mem) : (Qj0 KS i M).length = M.length := by simp [Qj0]
theorem Qgb {KS : List (List Int)} {i : Nat} {M : List Mem} {m : Mem} (h : M[i]? = some m) : (Qj0 KS i M)[i]? = some m := by simp [Qj0, h]
theorem Qba {KS : List (List Int)} {i : Nat} {M : List Mem} {m : Mem} (h : M[i]? = some m) : (Qj0 KS i M).set i { m with d := QN1 m.d (KS.getD i []) } = Qj0 KS (i + 1) M := by
 apply List.ext_getElem?
 intro j
 rw [List.getElem?_set]
 by_cases hij : i = j
 ·subst hij
  have hl : i < M.length := (Zd.1 h).1
  have hMi : M[i] = m := (Zd.1 h).2
  subst hMi
  simp [Qj0, hl]
 ·rw [if_neg hij]
  simp only [Qj0, List.getElem?_mapIdx]
  cases M[j]? with
  | none => rfl
  | some mj =>
   simp only [Option.map_some, Zi]
   by_cases h1 : j < i
   ·rw [if_pos h1, if_pos (by omega)]
   ·rw [if_neg h1, if_neg (by omega)]
theorem QL7 (h : Qb w a M left down F) (hM : M.length <= 100) {KB : Nat -> Prop} (hKF : ∀ x, KB x -> ¬ F x) (hKnew : ∀ x, KB x -> ¬ w.heap.size <= x) {p : σ} {l c : Nat} {KS : List (List Int)} (hK : Q64 w KB p l KS) :
  Calls prog 76 #[.pointer (some (at0 a)), .slice p l c] w fun e w' => ∃ F', e = .returned (.tuple #[]) /\ Qf F F' w w' /\ Qb w' a (Qj0 KS M.length M) (-1) false F' := by
 obtain ⟨p4, c4, hr⟩ := h.row
 refine (F76_calls (some (at0 a)) p l c w (fun v w' => ∃ F', v = .tuple #[] /\ Qf F F' w w' /\ Qb w' a (Qj0 KS M.length M) (-1) false F')
  (fun _ _ _ _ _ n9 w10 => ∃ (i : Nat) (F' : Nat -> Prop), n9 = i /\ i <= M.length /\ Qf F F' w w10 /\ Qb w10 a (Qj0 KS i M) left down F' /\ RowW w10 a #[.slice p4 M.length c4, int i64 left, .bool down]) (fun _ _ _ _ _ n9 _ => 100 - n9.toNat) ?_).mono (by
   rintro e w' ⟨v, rfl, F', rfl, h⟩; exact ⟨F', rfl, h⟩)
 have hl := hK.1
 have hzero : Qj0 KS 0 M = M := by
  apply List.ext_getElem?
  intro j
  simp [Qj0]
 refine Q0 (fun h => by cases h) fun _ => ⟨_, _, _, hr.c rfl, ⟨0, F, rfl, Nat.zero_le _, Qf.refl _ _, by rw [hzero]; exact h, hr⟩, ?_⟩
 rintro n9 w10 ⟨i, F', rfl, hi, s10, h10, r10⟩
 intros
 refine Q0 (fun hlt => ?_) (fun hge => ?_)
 ·simp only [Za] at hlt
  obtain ⟨m, hm⟩ : ∃ m, M[i]? = some m := ⟨M[i]'(by omega), Zc _⟩
  have hcm := Qgb (KS := KS) hm
  have r10' : RowW w10 a #[.slice p4 (Qj0 KS i M).length c4, int i64 left, .bool down] := by rw [QN3]; exact r10
  obtain ⟨ap, b, Fi, rfl, e1, e2, hd, hFi, hstep⟩ := h10.entry r10' hcm
  rw [Ze]
  refine ⟨⟨by omega, hlt⟩, _, e1, _, e2, fun k26 w27 hk => ?_⟩
  have hk0 : w10.heap.size <= k26 := by rw [hk.size.1]; exact Nat.le_refl _
  have r27 : RowW w27 k26 _ := ⟨_, hk.at⟩
  refine ⟨r27.live (n := 0) (by simp), fun w28 s28 => ?_⟩
  have s28' : QT w27 ((at0 k26).add 0) (.pointer (some (at0 b))) w28 := s28
  have r28 := s28'.row r27
  have x28 := Q5 hk.ext hk0 s28'
  refine ⟨r28.live (by simp), fun w29 s29 => ?_⟩
  have r29 := s29.row r28
  have x29 := Q5 x28 hk0 s29
  have hd29 := hd.ext x29
  have hmu : 100 - ((i : Int) + 1).toNat < 100 - (i : Int).toNat := by omega
  have done : ∀ w41, Qf Fi Fi w29 w41 -> Dsk w41 b (QN1 m.d (KS.getD i [])) Fi -> (∃ (i' : Nat) (F' : Nat -> Prop), i64.wrap ((i : Int) + 1) = i' /\ i' <= M.length /\ Qf F F' w w41 /\ Qb w41 a (Qj0 KS i' M) left down F' /\ RowW w41 a #[.slice (some ap) M.length c4, int i64 left, .bool down]) ∧
    100 - (i64.wrap ((i : Int) + 1)).toNat < 100 - (i : Int).toNat := by
   intro w41 hs hd'
   have hs' : Qf Fi Fi w10 w41 := (Qf.ext x29).trans hs
   obtain ⟨F2, h2, s2⟩ := hstep w41 _ _ hs' hd'
   rw [Qba hm] at h2
   rw [w64 (by omega)]
   exact ⟨⟨i + 1, F2, by omega, by omega, s10.trans s2, h2, hs'.upd.rowW r10 fun hf => (hFi a hf).2 rfl⟩, hmu⟩
  refine Q0 (fun hil => ?_) (fun hil => ?_)
  ·simp only [Za] at hil
   obtain ⟨ks, hks⟩ : ∃ ks, KS[i]? = some ks := ⟨KS[i]'(by omega), Zc _⟩
   obtain ⟨aa, q, nn, cc, rfl, hka, ec, hints, hkb, hnn⟩ := ((hK.upd s10.upd hKF).upd x29 fun _ _ h => h).2 i ks hks
   refine ⟨⟨by omega, hil⟩, _, _, _, ec, some (at0 b), r29.c rfl, ?_⟩
   refine (Qkb hd29 hints hnn fun a' ha hne hf => ?_).mono ?_
   ·have hw := hkb hne a' ha
    rcases s10.grow _ (hFi _ hf).1 with h1 | h1
    ·exact hKF _ hw h1
    ·exact hKnew _ hw h1
   rintro e w41 ⟨rfl, hs, hd'⟩
   have : KS.getD i [] = ks := by simp [List.getD, hks]
   exact ⟨rfl, done w41 hs (by rw [this]; exact hd')⟩
  ·simp only [Zb] at hil
   refine ⟨some (at0 b), r29.c rfl, ?_⟩
   have hnil : Ql w29 none 0 [] := ⟨rfl, Q8.nil _ _⟩
   refine (Qkb hd29 hnil (by omega) fun a' ha => by cases ha).mono ?_
   rintro e w41 ⟨rfl, hs, hd'⟩
   have : KS.getD i [] = [] := by
    have : KS[i]? = none := Zr (by omega)
    simp [List.getD, this]
   exact ⟨rfl, done w41 hs (by rw [this]; exact hd')⟩
 ·simp only [Zb] at hge
  have : i = M.length := by omega
  subst this
  refine ⟨r10.live (by simp), fun w47 s47 => ?_⟩
  obtain ⟨h47, st47⟩ := h10.setLeft s47
  obtain ⟨p5, c5, r47⟩ := h47.row
  refine ⟨r47.live (by simp), fun w49 s49 => ?_⟩
  obtain ⟨h49, st49⟩ := h47.setDown s49
  exact ⟨F', rfl, (s10.trans st47).trans st49, h49⟩
end
open Go Go.Vc
open Go.IntKind (i64)
open Go.Value (int)
open Go.Proofs.Tryz (prog)
section
variable {w : World} {a : Nat} {M : List Mem} {left : Int} {down : Bool} {F : Nat -> Prop}
theorem Q0b (h : Qb w a M left down F) {i : Int} (hi : ¬ (0 <= i /\ i < M.length)) : Calls prog 78 #[.pointer (some (at0 a)), int i64 i] w fun e w' => e = .returned (int i64 1) /\ w' = w := by
 refine (F78_calls (some (at0 a)) i  w (fun v w' => v = int i64 1 /\ w' = w) ?_).mono (by rintro e w' ⟨v, rfl, rfl, h⟩; exact ⟨rfl, h⟩)
 refine (QO h i).mono ?_
 rintro e w7 ⟨rfl, rfl⟩
 exact ⟨_, rfl, Q0 (fun _ => ⟨rfl, rfl⟩) fun h0 => by simp only [Zf, Za] at h0; exact absurd h0 hi⟩
theorem Qa7 (h : Qb w a M left down F) {i : Int} (hi : ¬ (0 <= i /\ i < M.length)) : Calls prog 80 #[.pointer (some (at0 a)), int i64 i] w fun e w' => e = .returned (int i64 1) /\ w' = w := by
 refine (F80_calls (some (at0 a)) i  w (fun v w' => v = int i64 1 /\ w' = w) ?_).mono (by rintro e w' ⟨v, rfl, rfl, h⟩; exact ⟨rfl, h⟩)
 refine (QO h i).mono ?_
 rintro e w7 ⟨rfl, rfl⟩
 exact ⟨_, rfl, Q0 (fun _ => ⟨rfl, rfl⟩) fun h0 => by simp only [Zf, Za] at h0; exact absurd h0 hi⟩
theorem Q67 (h : Qb w a M left down F) {i : Int} (hi : ¬ (0 <= i /\ i < M.length)) (k t y : Int) : Calls prog 82 #[.pointer (some (at0 a)), int i64 i, int i64 k, int i64 t, .int .u8 y] w fun e w' => e = .returned (int i64 1) /\ w' = w := by
 refine (F82_calls (some (at0 a)) i k t y w (fun v w' => v = int i64 1 /\ w' = w) ?_).mono (by rintro e w' ⟨v, rfl, rfl, h⟩; exact ⟨rfl, h⟩)
 refine (QO h i).mono ?_
 rintro e w7 ⟨rfl, rfl⟩
 exact ⟨_, rfl, Q0 (fun _ => ⟨rfl, rfl⟩) fun h0 => by simp only [Zf, Za] at h0; exact absurd h0 hi⟩
theorem QW9 (h : Qb w a M left down F) {i : Int} (hi : ¬ (0 <= i /\ i < M.length)) : Calls prog 32 #[.pointer (some (at0 a)), int i64 i] w fun e w' => e = .returned (.slice none 0 0) /\ w' = w := by
 refine (F32_calls (some (at0 a)) i  w (fun v w' => v = .slice none 0 0 /\ w' = w) ?_).mono (by rintro e w' ⟨v, rfl, rfl, h⟩; exact ⟨rfl, h⟩)
 refine (QO h i).mono ?_
 rintro e w7 ⟨rfl, rfl⟩
 exact ⟨_, rfl, Q0 (fun _ => ⟨rfl, rfl⟩) fun h0 => by simp only [Zf, Za] at h0; exact absurd h0 hi⟩
theorem QX9 (h : Qb w a M left down F) {i : Int} (hi : ¬ (0 <= i /\ i < M.length)) : Calls prog 33 #[.pointer (some (at0 a)), int i64 i] w fun e w' => e = .returned (.slice none 0 0) /\ w' = w := by
 refine (F33_calls (some (at0 a)) i  w (fun v w' => v = .slice none 0 0 /\ w' = w) ?_).mono (by rintro e w' ⟨v, rfl, rfl, h⟩; exact ⟨rfl, h⟩)
 refine (QO h i).mono ?_
 rintro e w7 ⟨rfl, rfl⟩
 exact ⟨_, rfl, Q0 (fun _ => ⟨rfl, rfl⟩) fun h0 => by simp only [Zf, Za] at h0; exact absurd h0 hi⟩
theorem Qo6 (h : Qb w a M left down F) {i : Nat} {m : Mem} (hi : M[i]? = some m) :
  Calls prog 80 #[.pointer (some (at0 a)), int i64 (i : Int)] w fun e w' => ∃ F', e = .returned (int i64 0) /\ Qf F F' w w' ∧
   Qb w' a (M.set i ⟨{ m.d with dead := false, lasts := [], waits := [] }, i64.wrap (m.births + 1)⟩) left down F' := by
 refine (F80_calls (some (at0 a)) (i : Int) w (fun v w' => ∃ F', v = int i64 0 /\ Qf F F' w w' ∧
   Qb w' a (M.set i ⟨{ m.d with dead := false, lasts := [], waits := [] }, i64.wrap (m.births + 1)⟩) left down F') ?_).mono (by rintro e w' ⟨v, rfl, F', rfl, h⟩; exact ⟨F', rfl, h⟩)
 have hil : i < M.length := (Zd.1 hi).1
 refine (QO h (i : Int)).mono ?_
 rintro e w7 ⟨rfl, rfl⟩
 obtain ⟨ap, cm, b, Fi, e0, _, e1, e2, hd, _, hstep⟩ := h.at hi
 refine ⟨_, rfl, Q0 (fun h0 => by simp at h0; omega) fun _ => ⟨_, _, _, e0, ⟨by omega, by omega⟩, _, by rw [Ze]; exact e1, ?_⟩⟩
 refine (Qlb hd).mono ?_
 rintro e w10 ⟨rfl, hs, hd'⟩
 obtain ⟨F2, h2, s2⟩ := hstep _ _ _ hs hd'
 obtain ⟨ap2, cm2, q0, q1, q2, q3⟩ := h2.born (i := i) (m := { m with d := { m.d with dead := false, lasts := [], waits := [] } }) (List.getElem?_set_self hil)
 rw [List.length_set] at q0
 rw [Ze]
 refine ⟨rfl, _, _, _, q0, ⟨by omega, by omega⟩, _, q1, ⟨by omega, by omega⟩, q2, fun w17 s17 => ?_⟩
 obtain ⟨h3, s3⟩ := q3 _ _ s17
 rw [List.set_set] at h3
 exact ⟨F2, rfl, s2.trans s3, h3⟩
theorem Qm6 (h : Qb w a M left down F) {i : Nat} {m : Mem} (hi : M[i]? = some m) (k t : Int) (y : UInt8) (ht : -9223372036854775808 <= t /\ t <= 9223372036854775807) :
  Calls prog 82 #[.pointer (some (at0 a)), int i64 (i : Int), int i64 k, int i64 t, .int .u8 (y.toNat : Int)] w fun e w' => ∃ F', e = .returned (int i64 (Qy m.d k)) /\ Qf F F' w w' ∧
   Qb w' a (M.set i { m with d := Qm m.d k t y }) left down F' := by
 refine (F82_calls (some (at0 a)) (i : Int) k t (y.toNat : Int) w (fun v w' => ∃ F', v = int i64 (Qy m.d k) /\ Qf F F' w w' ∧
   Qb w' a (M.set i { m with d := Qm m.d k t y }) left down F') ?_).mono (by rintro e w' ⟨v, rfl, F', rfl, h⟩; exact ⟨F', rfl, h⟩)
 have hil : i < M.length := (Zd.1 hi).1
 refine (QO h (i : Int)).mono ?_
 rintro e w7 ⟨rfl, rfl⟩
 obtain ⟨ap, cm, b, Fi, e0, _, e1, e2, hd, _, hstep⟩ := h.at hi
 refine ⟨_, rfl, Q0 (fun h0 => by simp at h0; omega) fun _ => ⟨_, _, _, e0, ⟨by omega, by omega⟩, _, by rw [Ze]; exact e1, ?_⟩⟩
 refine (Qjb hd k t y ht).mono ?_
 rintro e w10 ⟨F', rfl, hs, hd'⟩
 obtain ⟨F2, h2, s2⟩ := hstep _ _ _ hs hd'
 exact ⟨_, rfl, F2, rfl, s2, h2⟩
theorem Q88 (h : Qb w a M left down F) {i : Nat} {m : Mem} (hi : M[i]? = some m) :
  Calls prog 32 #[.pointer (some (at0 a)), int i64 (i : Int)] w fun e w' => ∃ p l c, e = .returned (.slice p l c) /\ Ext w w' /\ Q91 w' w.heap.size p l c m.d.lasts := by
 refine (F32_calls (some (at0 a)) (i : Int) w (fun v w' => ∃ p l c, v = .slice p l c /\ Ext w w' /\ Q91 w' w.heap.size p l c m.d.lasts) ?_).mono (by rintro e w' ⟨v, rfl, p, l, c, rfl, h⟩; exact ⟨p, l, c, rfl, h⟩)
 have hil : i < M.length := (Zd.1 hi).1
 refine (QO h (i : Int)).mono ?_
 rintro e w7 ⟨rfl, rfl⟩
 obtain ⟨ap, cm, b, Fi, e0, _, e1, e2, hd, _, _⟩ := h.at hi
 refine ⟨_, rfl, Q0 (fun h0 => by simp at h0; omega) fun _ => ⟨_, _, _, e0, ⟨by omega, by omega⟩, _, by rw [Ze]; exact e1, ?_⟩⟩
 refine (Q5e hd).mono ?_
 rintro e w14 ⟨p, l, c, rfl, hx, _, hh⟩
 exact ⟨_, _, _, rfl, p, l, c, rfl, hx, hh⟩
theorem Qb8 (h : Qb w a M left down F) {i : Nat} {m : Mem} (hi : M[i]? = some m) :
  Calls prog 33 #[.pointer (some (at0 a)), int i64 (i : Int)] w fun e w' => ∃ p l c, e = .returned (.slice p l c) /\ Ext w w' /\ Q91 w' w.heap.size p l c m.d.waits := by
 refine (F33_calls (some (at0 a)) (i : Int) w (fun v w' => ∃ p l c, v = .slice p l c /\ Ext w w' /\ Q91 w' w.heap.size p l c m.d.waits) ?_).mono (by rintro e w' ⟨v, rfl, p, l, c, rfl, h⟩; exact ⟨p, l, c, rfl, h⟩)
 have hil : i < M.length := (Zd.1 hi).1
 refine (QO h (i : Int)).mono ?_
 rintro e w7 ⟨rfl, rfl⟩
 obtain ⟨ap, cm, b, Fi, e0, _, e1, e2, hd, _, _⟩ := h.at hi
 refine ⟨_, rfl, Q0 (fun h0 => by simp at h0; omega) fun _ => ⟨_, _, _, e0, ⟨by omega, by omega⟩, _, by rw [Ze]; exact e1, ?_⟩⟩
 refine (Q6e hd).mono ?_
 rintro e w14 ⟨p, l, c, rfl, hx, _, hh⟩
 exact ⟨_, _, _, rfl, p, l, c, rfl, hx, hh⟩
theorem Q5b (h : Qb w a M left false F) {i : Int} (hi : ¬ (0 <= i /\ i < M.length)) (k : Int) : Calls prog 42 #[.pointer (some (at0 a)), int i64 i, int i64 k] w fun e w' => e = .returned (.tuple #[.slice none 0 0, int i64 1]) /\ w' = w := by
 refine (F42_calls (some (at0 a)) i k w (fun v w' => v = .tuple #[.slice none 0 0, int i64 1] /\ w' = w) ?_).mono (by rintro e w' ⟨v, rfl, rfl, h⟩; exact ⟨rfl, h⟩)
 refine (QW0 h).mono ?_
 rintro e w4 ⟨rfl, rfl⟩
 refine ⟨_, rfl, Q0 (fun h => by cases h) fun _ => (QO h i).mono ?_⟩
 rintro e w7 ⟨rfl, rfl⟩
 exact ⟨_, rfl, Q0 (fun _ => ⟨rfl, rfl⟩) fun h0 => by simp only [Zf, Za] at h0; exact absurd h0 hi⟩
theorem Q13 (h : Qb w a M left true F) (i k : Int) (p : σ) (l c : Nat) : Calls prog 39 #[.pointer (some (at0 a)), int i64 i, int i64 k, .slice p l c] w fun e w' => e = .returned (int i64 130) /\ w' = w := by
 refine (F39_calls (some (at0 a)) i k p l c w (fun v w' => v = int i64 130 /\ w' = w) ?_).mono (by rintro e w' ⟨v, rfl, rfl, h⟩; exact ⟨rfl, h⟩)
 refine (QW0 h).mono ?_
 rintro e w4 ⟨rfl, rfl⟩
 exact ⟨_, rfl, Q0 (fun _ => ⟨rfl, rfl⟩) fun h => by cases h⟩
def Q50 (i : Nat) (M : List Mem) : List Mem := M.mapIdx fun j m => if j < i then { m with d := Q11 m.d } else m
theorem Q22 (i : Nat) (M : List Mem) : (Q50 i M).length = M.length := by simp [Q50]
theorem Qvb {i : Nat} {M : List Mem} {m : Mem} (h : M[i]? = some m) : (Q50 i M)[i]? = some m := by simp [Q50, h]
theorem Qga {i : Nat} {M : List Mem} {m : Mem} (h : M[i]? = some m) : (Q50 i M).set i { m with d := Q11 m.d } = Q50 (i + 1) M := by
 apply List.ext_getElem?
 intro j
 rw [List.getElem?_set]
 by_cases hij : i = j
 ·subst hij
  have hl : i < M.length := (Zd.1 h).1
  have hMi : M[i] = m := (Zd.1 h).2
  subst hMi
  simp [Q50, hl]
 ·rw [if_neg hij]
  simp only [Q50, List.getElem?_mapIdx]
  cases M[j]? with
  | none => rfl
  | some mj =>
   simp only [Option.map_some, Zi]
   by_cases h1 : j < i
   ·rw [if_pos h1, if_pos (by omega)]
   ·rw [if_neg h1, if_neg (by omega)]
theorem QQ4 (h : Qb w a M left true F) : Calls prog 41 #[.pointer (some (at0 a))] w fun e w' => e = .returned (int i64 130) /\ w' = w := by
 obtain ⟨p4, c4, hr⟩ := h.row
 refine (F41_calls (some (at0 a)) w (fun v w' => v = int i64 130 /\ w' = w) (fun _ _ _ _ _ _ _ => False) (fun _ _ _ _ _ _ _ => 0) ?_).mono (by rintro e w' ⟨v, rfl, rfl, h⟩; exact ⟨rfl, h⟩)
 exact Q0 (fun h => by cases h) fun _ => ⟨_, hr.c rfl, Q0 (fun _ => ⟨rfl, rfl⟩) fun h => by cases h⟩
theorem QR4 (h : Qb w a M left false F) (hM : M.length <= 100) : Calls prog 41 #[.pointer (some (at0 a))] w fun e w' => ∃ F', e = .returned (int i64 0) /\ Qf F F' w w' /\ Qb w' a (Q50 M.length M) left false F' := by
 obtain ⟨p4, c4, hr⟩ := h.row
 refine (F41_calls (some (at0 a)) w (fun v w' => ∃ F', v = int i64 0 /\ Qf F F' w w' /\ Qb w' a (Q50 M.length M) left false F')
  (fun _ _ _ _ _ n9 w10 => ∃ (i : Nat) (F' : Nat -> Prop), n9 = i /\ i <= M.length /\ Qf F F' w w10 /\ Qb w10 a (Q50 i M) left false F' /\ RowW w10 a #[.slice p4 M.length c4, int i64 left, .bool false]) (fun _ _ _ _ _ n9 _ => 100 - n9.toNat) ?_).mono (by
   rintro e w' ⟨v, rfl, F', rfl, h⟩; exact ⟨F', rfl, h⟩)
 have hzero : Q50 0 M = M := by
  apply List.ext_getElem?
  intro j
  simp [Q50]
 refine Q0 (fun h => by cases h) fun _ => ⟨_, hr.c rfl, Q0 (fun h => by cases h) fun _ => ⟨_, _, _, hr.c rfl, ⟨0, F, rfl, Nat.zero_le _, Qf.refl _ _, by rw [hzero]; exact h, hr⟩, ?_⟩⟩
 rintro n9 w10 ⟨i, F', rfl, hi, s10, h10, r10⟩
 intros
 refine Q0 (fun hlt => ?_) (fun hge => ?_)
 ·simp only [Za] at hlt
  obtain ⟨m, hm⟩ : ∃ m, M[i]? = some m := ⟨M[i]'(by omega), Zc _⟩
  have hcm := Qvb hm
  have r10' : RowW w10 a #[.slice p4 (Q50 i M).length c4, int i64 left, .bool false] := by rw [Q22]; exact r10
  obtain ⟨ap, b, Fi, rfl, e1, e2, hd, hFi, hstep⟩ := h10.entry r10' hcm
  rw [Ze]
  refine ⟨⟨by omega, hlt⟩, _, e1, _, e2, fun k26 w27 hk => ?_⟩
  have hk0 : w10.heap.size <= k26 := by rw [hk.size.1]; exact Nat.le_refl _
  have r27 : RowW w27 k26 _ := ⟨_, hk.at⟩
  refine ⟨r27.live (n := 0) (by simp), fun w28 s28 => ?_⟩
  have s28' : QT w27 ((at0 k26).add 0) (.pointer (some (at0 b))) w28 := s28
  have r28 := s28'.row r27
  have x28 := Q5 hk.ext hk0 s28'
  refine ⟨r28.live (by simp), fun w29 s29 => ?_⟩
  have r29 := s29.row r28
  have x29 := Q5 x28 hk0 s29
  refine ⟨some (at0 b), r29.c rfl, ?_⟩
  refine (Q4e (hd.ext x29)).mono ?_
  rintro e w41 ⟨rfl, hs, hd'⟩
  have hs' : Qf Fi Fi w10 w41 := (Qf.ext x29).trans hs
  obtain ⟨F2, h2, s2⟩ := hstep w41 _ _ hs' hd'
  rw [Qga hm] at h2
  rw [w64 (by omega)]
  exact ⟨_, rfl, ⟨i + 1, F2, by omega, by omega, s10.trans s2, h2, hs'.upd.rowW r10 fun hf => (hFi a hf).2 rfl⟩, by show 100 - ((i : Int) + 1).toNat < 100 - (i : Int).toNat; omega⟩
 ·simp only [Zb] at hge
  have : i = M.length := by omega
  subst this
  exact ⟨F', rfl, s10, h10⟩
end
open Go Go.Vc Go.ChangeShapes Go.WideShapes Go.ChangeAt Go.RowKit
open Go.IntKind (i64)
open Go.Value (int)
open Go.Proofs.Tryz (prog)
theorem Qdf : ownKnob Tryz.prog.godebug = none := by kernel_rfl
theorem Qde : laidOutB prog = true := by kernel_rfl
theorem QC3 {H : Type} {enc : TypeId × Value -> H} {P : Program} (hl : laidOutB P = true) {W W' : World} (hb : RowKit.Below W.heap.size W W') :
  ∀ {ts : List TypeId} {vs : List Value} {ds : List (DataW H)} {ps : List MemPlace}, (ts.all fun t => P.readableRec t && decide (t < P.types.size)) = true -> (∀ x ∈ ps, x.block < W.heap.size) →
   DataW.TrodAll enc P W 0 (fun _ => true) true ts vs ds ps -> DataW.TrodAll enc P W' 0 (fun b => decide (b < W.heap.size)) true ts vs ds ps
 | [], [], [], _, _, _, h => h
 | t :: ts, v :: vs, d :: ds, _, hr, hlt, h => by
  obtain ⟨p, q, h1, h2, rfl⟩ := h
  simp only [List.all_cons, Bool.and_eq_true, Za] at hr
  exact ⟨p, q, Below.trod hl hr.1.1 hr.1.2 h1 hb fun x hx => hlt x (by simp [hx]), QC3 hl hb hr.2 (fun x hx => hlt x (by simp [hx])) h2, rfl⟩
 | [], _ :: _, _, _, _, _, h => h.elim
 | [], [], _ :: _, _, _, _, h => h.elim
 | _ :: _, [], _, _, _, _, h => h.elim
 | _ :: _, _ :: _, [], _, _, _, h => h.elim
theorem QUb {H : Type} {enc : TypeId × Value -> H} {P : Program} (hl : laidOutB P = true) {f : Func} {s : ChangeSpec} {W W' : World} {args : Array Value} {ds : List (DataW H)} {before : List MemPlace} {tb : TypeId}
  (hvars : s.vars = []) (hr : (f.params.toList.all fun t => P.readableRec t && decide (t < P.types.size)) = true) (hres : f.resultTypes = #[tb]) (htb : P.underlying tb = some .bool)
  (hW : DataW.Whole enc P f.params.toList s.vars false W args.toList ds [] before) (hfn : s.fn H (ds ++ []) = { results := [.lit (.bool true)], args := ds }) (hb : RowKit.Below W.heap.size W W') :
  s.post enc P f false true false false W args (.bool true) W' := by
 have hW' := hW
 obtain ⟨p, q, hA, hV, rfl, hfz, hnd⟩ := hW
 rw [hvars] at hV
 obtain ⟨_, rfl⟩ := trodVars_none hV
 have hlt : ∀ x ∈ p, x.block < W.heap.size := fun x hx => hW'.lt x (by simp [hx])
 refine ⟨ds, [], p ++ [], [], p, [], hW', ?_, ?_, ?_, hb.frame _, fun h => by cases h⟩
 ·rw [hfn, hres]
  exact trodAll_cons_mk (shut_bool htb _) trodAll_mk0
 ·rw [hfn]
  exact QC3 hl hb hr hlt hA
 ·rw [hfn, hvars]
  rfl
open Go Go.Vc
open Go.IntKind (i64)
open Go.Value (int)
open Go.Proofs.Tryz (prog)
theorem Qm0 {w w' : World} {a : Addr} {v : Value} (h : w.cell? a = some v) (hu : Ext w w') : w'.cell? a = some v := Qi9 h hu id
structure QS9 where
 kind : Int
 d : Int
 n : Int
 m : Int
 y : UInt8
 b : τ
 keep : List (List Int)
structure StA where
 M : List Mem
 left : Int
 down : Bool
def Qk0 (s : StA) (d : Int) (f : Mem -> Mem) : StA := match s.M[d.toNat]? with
 | some m => if 0 <= d then { s with M := s.M.set d.toNat (f m) } else s
 | none => s
def QL (s : StA) (d n : Int) (b : τ) : StA :=
 if s.down then s else if 0 <= d then match s.M[d.toNat]? with
  | some m => ⟨s.M.set d.toNat { m with d := Q30 m.d n b }, if Qj m.d n b.length = 0 /\ 0 < s.left then s.left - 1 else s.left, decide (Qj m.d n b.length = 0 /\ s.left = 1)⟩
  | none => s
 else s
def Qi1 (s : StA) (c : QS9) : StA :=
 if c.kind = 1 then QL s c.d c.n c.b
 else if c.kind = 3 then (if s.down then s else { s with M := Q50 s.M.length s.M })
 else if c.kind = 4 then (if s.down then s else ⟨s.M, if c.n < -1 then -1 else c.n, decide (c.n = 0)⟩)
 else if c.kind = 5 then ⟨Qj0 c.keep s.M.length s.M, -1, false⟩
 else if c.kind = 6 then Qk0 s c.d fun m => ⟨{ m.d with dead := true, lasts := [], waits := [] }, i64.wrap (m.births + 1)⟩
 else if c.kind = 7 then Qk0 s c.d fun m => ⟨{ m.d with dead := false, lasts := [], waits := [] }, i64.wrap (m.births + 1)⟩
 else if c.kind = 8 then Qk0 s c.d fun m => { m with d := Qm m.d c.n c.m c.y }
 else s
open Go Go.Vc
open Go.IntKind (i64)
open Go.Value (int)
open Go.Proofs.Tryz (prog)
def IsA (w : World) (a : Nat) (s : StA) (F : Nat -> Prop) : Prop := Qb w a s.M s.left s.down F
def OkA (s : StA) : Prop := s.M.length <= 32 /\ -1 <= s.left /\ s.left <= 9223372036854775807
theorem QM0 {M : List Mem} {d : Int} (h : 0 <= d /\ d < M.length) : ∃ (i : Nat) (m : Mem), d = i /\ M[i]? = some m := by
 refine ⟨d.toNat, M[d.toNat]'(by omega), by omega, Zc _⟩
section
variable {w : World} {a : Nat} {s : StA} {F : Nat -> Prop}
theorem Qv3 {d : Int} {i : Nat} {m : Mem} (f : Mem -> Mem) (hd : d = i) (hm : s.M[i]? = some m) : Qk0 s d f = { s with M := s.M.set i (f m) } := by
 subst hd
 unfold Qk0
 rw [Ze, hm]
 simp
theorem Qr1 {d : Int} (f : Mem -> Mem) (h : ¬ (0 <= d /\ d < s.M.length)) : Qk0 s d f = s := by
 unfold Qk0
 split
 ·rename_i m hm
  have := (Zd.1 hm).1
  rw [if_neg (by omega)]
 ·rfl
end
open Go Go.Vc
open Go.IntKind (i64)
open Go.Value (int)
open Go.Proofs.Tryz (prog)
theorem QK2 (s : StA) (d : Int) (f : Mem -> Mem) : (Qk0 s d f).M.length = s.M.length /\ (Qk0 s d f).left = s.left := by
 unfold Qk0
 split
 ·split
  ·exact ⟨List.length_set, rfl⟩
  ·exact ⟨rfl, rfl⟩
 ·exact ⟨rfl, rfl⟩
theorem OkA.write {s : StA} (h : OkA s) (d n : Int) (b : τ) : OkA (QL s d n b) := by
 obtain ⟨h1, h2, h3⟩ := h
 unfold QL
 split
 ·exact ⟨h1, h2, h3⟩
 split
 ·split
  ·have key : ∀ (q : Prop) [Decidable q], (q -> 0 < s.left) -> -1 <= (if q then s.left - 1 else s.left) /\ (if q then s.left - 1 else s.left) <= 9223372036854775807 := by
    intro q _ hq
    by_cases h : q
    ·have := hq h
     rw [if_pos h]; omega
    ·rw [if_neg h]; omega
   exact ⟨by simpa using h1, key _ fun h => h.2⟩
  ·exact ⟨h1, h2, h3⟩
 ·exact ⟨h1, h2, h3⟩
theorem OkA.call {s : StA} (h : OkA s) {c : QS9} (hn : -9223372036854775808 <= c.n /\ c.n <= 9223372036854775807) : OkA (Qi1 s c) := by
 have hd := h
 obtain ⟨h1, h2, h3⟩ := hd
 have ho : ∀ f, OkA (Qk0 s c.d f) := fun f => by
  obtain ⟨a, b⟩ := QK2 s c.d f
  exact ⟨by rw [a]; exact h1, by rw [b]; exact h2, by rw [b]; exact h3⟩
 unfold Qi1
 split
 ·exact h.write _ _ _
 split
 ·split
  ·exact h
  ·exact ⟨by rw [Q22]; exact h1, h2, h3⟩
 split
 ·split
  ·exact h
  ·refine ⟨h1, ?_, ?_⟩
   ·show -1 <= (if _ then _ else _)
    split <;> omega
   ·show (if _ then _ else _) <= _
    split <;> omega
 split
 ·refine ⟨by rw [QN3]; exact h1, ?_, ?_⟩
  ·show (-1 : Int) <= -1
   omega
  ·show (-1 : Int) <= _
   omega
 split
 ·exact ho _
 split
 ·exact ho _
 split
 ·exact ho _
 ·exact h
open Go Go.Vc
open Go.IntKind (i64)
open Go.Value (int)
open Go.Proofs.Tryz (prog)
theorem Qx0 {F F' : Nat -> Prop} {w0 w w' : World} (h : Ext w0 w) (hs : Qf F F' w w') (hF : ∀ x, F x -> w0.heap.size <= x) : Ext w0 w' /\ ∀ x, F' x -> w0.heap.size <= x := by
 refine ⟨Upd.trans h hs.upd fun x hx hf => ?_, fun x hx => ?_⟩
 ·have := hF x hf; omega
 ·rcases hs.grow x hx with h1 | h1
  ·exact hF x h1
  ·exact Zu h.size h1
theorem Q29 {w0 w : World} {a : Nat} {s : StA} {F : Nat -> Prop} (h : IsA w a s F) (ho : OkA s) (hx : Ext w0 w) (hF : ∀ x, F x -> w0.heap.size <= x) {p : σ} {l c : Nat} {KS : List (List Int)}
  (hK : l = KS.length /\ ∀ i ks, KS[i]? = some ks -> ∃ a q n c, p = some a /\ w0.cell? (a.add (i * 1)) = some (.slice q n c) /\ Ql w0 q n ks) (hs : ∀ ks ∈ KS, ks.length <= 9223372036854775807) :
  Calls prog 76 #[.pointer (some (at0 a)), .slice p l c] w fun e w' => ∃ F', e = .returned (.tuple #[]) /\ Qf F F' w w' /\ IsA w' a ⟨Qj0 KS s.M.length s.M, -1, false⟩ F' := by
 have hKA : Q64 w (fun x => x < w0.heap.size) p l KS := by
  refine ⟨hK.1, fun i ks hi => ?_⟩
  obtain ⟨ap, q, n, cc, h1, h2, h3⟩ := hK.2 i ks hi
  have hn := h3.1
  have := hs ks (Zs hi)
  refine ⟨ap, q, n, cc, h1, ?_, Qm0 h2 hx, ⟨h3.1, h3.2.ext hx⟩, fun hne a' ha => QX5 h3 hne ha, by omega⟩
  have hb : (ap.add (i * 1)).block = ap.block := Qr _ _
  rw [← hb]
  unfold World.cell? at h2
  split at h2
  ·rename_i h4; exact Qk h4
  all_goals cases h2
 exact QL7 h (by have := ho.1; omega) (fun x hx' hf => by have := hF x hf; omega) (fun x hx' hge => by have := hx.size; omega) hKA
open Go Go.Vc
open Go.IntKind (i64)
open Go.Value (int)
open Go.Proofs.Tryz (prog)
open Go Go.Vc Go.ChangeShapes Go.WideShapes Go.ChangeAt Go.RowKit
open Go.IntKind (i64)
open Go.Value (int)
open Go.Proofs.Tryz (prog)
section
variable {H : Type} {enc : TypeId × Value -> H} {w : World} {base : Nat} {sp : Nat -> Bool} {held : Bool}
theorem QWd {n : Int} (h : (Lit.int .i64 n).wf = true) : -9223372036854775808 <= n /\ n <= 9223372036854775807 := by
 simp only [Lit.wf, Bool.and_eq_true, Za] at h
 exact ⟨Int.le_trans (by decide) h.1, Int.le_trans h.2 (by decide)⟩
theorem Q6g {n : Int} (h : (Lit.int .u8 n).wf = true) : ∃ y : UInt8, n = (y.toNat : Int) := by
 simp only [Lit.wf, Bool.and_eq_true, Za] at h
 have a1 : (0 : Int) <= n := Int.le_trans (by decide) h.1
 have a2 : n <= 255 := Int.le_trans h.2 (by decide)
 refine ⟨UInt8.ofNat n.toNat, ?_⟩
 rw [UInt8.toNat_ofNat']
 omega
theorem QUf {α : Type} (l : List α) (h : l.length = 7) : ∃ y0 y1 y2 y3 y4 y5 y6, l = [y0, y1, y2, y3, y4, y5, y6] := by
 obtain ⟨y0, l, rfl⟩ := List.exists_cons_of_length_eq_add_one h
 obtain ⟨y1, l, rfl⟩ := List.exists_cons_of_length_eq_add_one (Nat.succ.inj h)
 obtain ⟨y2, l, rfl⟩ := List.exists_cons_of_length_eq_add_one (Nat.succ.inj (Nat.succ.inj h))
 obtain ⟨y3, l, rfl⟩ := List.exists_cons_of_length_eq_add_one (Nat.succ.inj (Nat.succ.inj (Nat.succ.inj h)))
 obtain ⟨y4, l, rfl⟩ := List.exists_cons_of_length_eq_add_one (Nat.succ.inj (Nat.succ.inj (Nat.succ.inj (Nat.succ.inj h))))
 obtain ⟨y5, l, rfl⟩ := List.exists_cons_of_length_eq_add_one (Nat.succ.inj (Nat.succ.inj (Nat.succ.inj (Nat.succ.inj (Nat.succ.inj h)))))
 obtain ⟨y6, l, rfl⟩ := List.exists_cons_of_length_eq_add_one (Nat.succ.inj (Nat.succ.inj (Nat.succ.inj (Nat.succ.inj (Nat.succ.inj (Nat.succ.inj h))))))
 have : l = [] := Zk (by simpa using h)
 subst this
 exact ⟨y0, y1, y2, y3, y4, y5, y6, rfl⟩
theorem Qld {fuel : Nat} {cs : List Value} {x : DataW H × List MemPlace} (h : DataW.trod enc prog w base sp held fuel 43 cs = some x) :
  ∃ p l c KS, cs = [.slice p l c] /\ l = List.length KS /\ ∀ (i : Nat) (ks : List Int), KS[i]? = some ks -> (∃ a q n c, p = some a /\ w.cell? (a.add (i * 1)) = some (.slice q n c) /\ Ql w q n ks) /\ ks.length <= 9223372036854775807 := by
 obtain ⟨p, l, c, rfl, _, _, _, hrow⟩ := QQ6 (t := 43) (e := 35) (k := 1) (by kernel_rfl) (by kernel_rfl) h
 have hone : ∀ i, i < l -> ∃ ks : List Int, (∃ a q n c, p = some a /\ w.cell? (a.add (i * 1)) = some (.slice q n c) /\ Ql w q n ks) /\ ks.length <= 9223372036854775807 := by
  intro i hi
  obtain ⟨a, ys, n, y, ha, hy, hlen, hcell⟩ := hrow i hi
  obtain ⟨q, nn, cc, zs, rfl, g1, g2, g3, g4, _⟩ := Qf5 (t := 35) (e := 3) (k := .i64) (by kernel_rfl) (by kernel_rfl) (by kernel_rfl) hy
  have := hcell 0 (by omega)
  exact ⟨zs, ⟨a, q, nn, cc, ha, by rw [Qt] at this; exact this, g1, g2⟩, by unfold maxLen at g4; omega⟩
 have hlist : ∀ k, k <= l -> ∃ KS : List (List Int), KS.length = k /\ ∀ (i : Nat) (ks : List Int), KS[i]? = some ks -> (∃ a q n c, p = some a /\ w.cell? (a.add (i * 1)) = some (.slice q n c) /\ Ql w q n ks) /\ ks.length <= 9223372036854775807 := by
  intro k
  induction k with
  | zero => intro _; exact ⟨[], rfl, fun i ks hi => by simp at hi⟩
  | succ k ih =>
   intro hk
   obtain ⟨KS, hK, hall⟩ := ih (by omega)
   obtain ⟨ks0, hks0⟩ := hone k (by omega)
   refine ⟨KS ++ [ks0], by simp [hK], fun i ks hi => ?_⟩
   rw [List.getElem?_append] at hi
   split at hi
   ·exact hall i ks hi
   ·have : i - KS.length = 0 := by
     rcases hq : i - KS.length with _ | q
     ·rfl
     ·rw [hq] at hi; simp at hi
    rw [this] at hi
    cases hi
    have : i = k := by omega
    subst this
    exact hks0
 obtain ⟨KS, hK, hall⟩ := hlist l (Nat.le_refl _)
 exact ⟨p, l, c, KS, rfl, hK.symm, hall⟩
theorem Q2c {n : Nat} {ys : List Value} {y : DataW H × List MemPlace} (hlen : ys.length = 7) (hy : DataW.trod enc prog w base sp held n 45 ys = some y) :
  ∃ (cl : QS9) (p5 : σ) (l5 c5 : Nat) (p6 : σ) (l6 c6 : Nat), ys = [int i64 cl.kind, int i64 cl.d, int i64 cl.n, int i64 cl.m, .int .u8 (cl.y.toNat : Int), .slice p5 l5 c5, .slice p6 l6 c6] /\ Q3 w p5 l5 cl.b ∧
   (l6 = cl.keep.length /\ ∀ i ks, cl.keep[i]? = some ks -> ∃ a q n c, p6 = some a /\ w.cell? (a.add (i * 1)) = some (.slice q n c) /\ Ql w q n ks) ∧
   (-9223372036854775808 <= cl.n /\ cl.n <= 9223372036854775807) /\ (-9223372036854775808 <= cl.m /\ cl.m <= 9223372036854775807) /\ ∀ ks ∈ cl.keep, ks.length <= 9223372036854775807 := by
 obtain ⟨xs, n', _, _, _, hxl, hf⟩ := DataW.trod_struct Tryz.underlying45 hy
 obtain ⟨y0, y1, y2, y3, y4, y5, y6, rfl⟩ := QUf ys hlen
 have e1 : Tryz.prog.cellsOf 3 = 1 := by kernel_rfl
 have e2 : Tryz.prog.cellsOf 5 = 1 := by kernel_rfl
 have e3 : Tryz.prog.cellsOf 42 = 1 := by kernel_rfl
 have e4 : Tryz.prog.cellsOf 43 = 1 := by kernel_rfl
 have hx : ∀ j, j < 7 -> ∃ x, xs[j]? = some x := fun j hj => ⟨xs[j]'(by rw [hxl]; exact hj), Zc _⟩
 obtain ⟨x0, hx0⟩ := hx 0 (by omega)
 obtain ⟨x1, hx1⟩ := hx 1 (by omega)
 obtain ⟨x2, hx2⟩ := hx 2 (by omega)
 obtain ⟨x3, hx3⟩ := hx 3 (by omega)
 obtain ⟨x4, hx4⟩ := hx 4 (by omega)
 obtain ⟨x5, hx5⟩ := hx 5 (by omega)
 obtain ⟨x6, hx6⟩ := hx 6 (by omega)
 have f0 : DataW.trod enc prog w base sp held n' 3 (([y0, y1, y2, y3, y4, y5, y6].drop 0).take (Tryz.prog.cellsOf 3)) = some x0 := (hf 0 _ rfl).trans hx0
 rw [e1] at f0
 have f0' : DataW.trod enc prog w base sp held n' 3 [y0] = some x0 := f0
 have f1 : DataW.trod enc prog w base sp held n' 3 (([y0, y1, y2, y3, y4, y5, y6].drop 1).take (Tryz.prog.cellsOf 3)) = some x1 := (hf 1 _ rfl).trans hx1
 rw [e1] at f1
 have f1' : DataW.trod enc prog w base sp held n' 3 [y1] = some x1 := f1
 have f2 : DataW.trod enc prog w base sp held n' 3 (([y0, y1, y2, y3, y4, y5, y6].drop 2).take (Tryz.prog.cellsOf 3)) = some x2 := (hf 2 _ rfl).trans hx2
 rw [e1] at f2
 have f2' : DataW.trod enc prog w base sp held n' 3 [y2] = some x2 := f2
 have f3 : DataW.trod enc prog w base sp held n' 3 (([y0, y1, y2, y3, y4, y5, y6].drop 3).take (Tryz.prog.cellsOf 3)) = some x3 := (hf 3 _ rfl).trans hx3
 rw [e1] at f3
 have f3' : DataW.trod enc prog w base sp held n' 3 [y3] = some x3 := f3
 have f4 : DataW.trod enc prog w base sp held n' 5 (([y0, y1, y2, y3, y4, y5, y6].drop 4).take (Tryz.prog.cellsOf 5)) = some x4 := (hf 4 _ rfl).trans hx4
 rw [e2] at f4
 have f4' : DataW.trod enc prog w base sp held n' 5 [y4] = some x4 := f4
 have f5 : DataW.trod enc prog w base sp held n' 42 (([y0, y1, y2, y3, y4, y5, y6].drop 5).take (Tryz.prog.cellsOf 42)) = some x5 := (hf 5 _ rfl).trans hx5
 rw [e3] at f5
 have f5' : DataW.trod enc prog w base sp held n' 42 [y5] = some x5 := f5
 have f6 : DataW.trod enc prog w base sp held n' 43 (([y0, y1, y2, y3, y4, y5, y6].drop 6).take (Tryz.prog.cellsOf 43)) = some x6 := (hf 6 _ rfl).trans hx6
 rw [e4] at f6
 have f6' : DataW.trod enc prog w base sp held n' 43 [y6] = some x6 := f6
 obtain ⟨n0, q0, g0⟩ := QG0 Tryz.underlying3 f0'
 obtain ⟨n1, q1, g1⟩ := QG0 Tryz.underlying3 f1'
 obtain ⟨n2, q2, g2⟩ := QG0 Tryz.underlying3 f2'
 obtain ⟨n3, q3, g3⟩ := QG0 Tryz.underlying3 f3'
 obtain ⟨n4, q4, g4⟩ := QG0 Tryz.underlying5 f4'
 obtain ⟨p5, l5, c5, bs, q5, g5, _, _, _⟩ := Qid (e := 5) (by kernel_rfl) (by kernel_rfl) (by kernel_rfl) f5'
 obtain ⟨p6, l6, c6, KS, q6, g6, g7⟩ := Qld f6'
 cases q0; cases q1; cases q2; cases q3; cases q4; cases q5; cases q6
 obtain ⟨y, rfl⟩ := Q6g g4
 exact ⟨⟨n0, n1, n2, n3, y, bs, KS⟩, p5, l5, c5, p6, l6, c6, rfl, g5, ⟨g6, fun i ks hi => (g7 i ks hi).1⟩, QWd g2, QWd g3, fun ks hks => by
  obtain ⟨i, hi⟩ := List.getElem?_of_mem hks
  exact (g7 i ks hi).2⟩
end
open Go Go.Vc
open Go.IntKind (i64)
open Go.Value (int)
open Go.Proofs.Tryz (prog)
theorem QW5 {k : Int} {L M : SM} : get k (L ++ M) = (get k L).or (get k M) := by
 induction L with
 | nil => rfl
 | cons a L ih =>
  obtain ⟨k', x⟩ := a
  simp only [List.cons_append, Vc.get]
  split
  ·rfl
  ·exact ih
theorem Qyd {D : Dk} {k : Int} {bs : τ} (h : Qj D k bs.length ≠ 0) : Q30 D k bs = D := by
 unfold Q30; rw [if_neg h]
open Go Go.Vc
open Go.IntKind (i64)
open Go.Value (int)
open Go.Proofs.Tryz (prog)
def Q68 (w : World) (p : σ) (l : Nat) (L : SM) : Prop :=
 l = L.length /\ l <= 4096 /\ ∀ i x, L[i]? = some x -> ∃ a q n c, p = some a /\ w.cell? ((a.add (i * 2)).add 0) = some (int i64 x.1) /\ w.cell? ((a.add (i * 2)).add 1) = some (.slice q n c) /\ Q3 w q n x.2 /\ n <= 4108
theorem Q68.ext {w w' : World} {p : σ} {l : Nat} {L : SM} (h : Q68 w p l L) (hu : Ext w w') : Q68 w' p l L :=
 ⟨h.1, h.2.1, fun i x hi => by
  obtain ⟨a, q, n, c, h1, h2, h3, h4, h5⟩ := h.2.2 i x hi
  exact ⟨a, q, n, c, h1, Qm0 h2 hu, Qm0 h3 hu, h4.ext hu, h5⟩⟩
theorem Q91.read {w : World} {base : Nat} {p : σ} {l c : Nat} {L : SM} (h : Q91 w base p l c L) (hl : L.length <= 4096) : Q68 w p l L := by
 refine ⟨h.length, by rw [h.length]; exact hl, fun i x hi => ?_⟩
 obtain ⟨a, v, hp, h1, h2, q, n, c, rfl, hb, _, hn, _⟩ := h.at hi
 have e0 : (a.add (i * 2)).add 0 = a.add (2 * i) := by simp [Addr.add, Nat.mul_comm]
 have e1 : (a.add (i * 2)).add 1 = a.add (2 * i + 1) := by rw [Qt, Nat.mul_comm]
 exact ⟨a, q, n, c, hp, by rw [e0]; exact h1, by rw [e1]; exact h2, hb, hn⟩
theorem Q3f {D : Dk} (h : Qs2 D) (a : Asc D.lasts /\ Asc D.waits) : D.lasts.length <= 4096 /\ D.waits.length <= 4096 :=
 ⟨QS4 (lo := 0) a.1 fun x hx => by have := h.lasts x hx; have := h.sec; omega, QS4 (lo := 0) a.2 fun x hx => by have := h.waits x hx; have := h.sec; omega⟩
theorem Qd6 {w : World} {p1 p2 : σ} {l1 c1 l2 c2 : Nat} {L M : SM} (h1 : Q68 w p1 l1 L) (h2 : Q68 w p2 l2 M) :
  Calls prog 31 #[.slice p1 l1 c1, .slice p2 l2 c2] w fun e w' => e = .returned (.bool (decide (L = M))) /\ Ext w w' := by
 refine (F31_calls p1 l1 c1 p2 l2 c2 w (fun v w' => v = .bool (decide (L = M)) /\ Ext w w')
  (fun _ n w4 => ∃ i : Nat, n = i /\ i <= l1 /\ Ext w w4 /\ L.take i = M.take i) (fun _ n _ => 4096 - n.toNat) ?_).mono (by rintro e w' ⟨v, rfl, rfl, h⟩; exact ⟨rfl, h⟩)
 have hl1 := h1.1
 have hl2 := h2.1
 have hle := h1.2.1
 refine Q0 (fun hne => ?_) (fun heq => ?_)
 ·refine ⟨?_, Upd.refl _ _⟩
  simp only [Zg, Zb] at hne
  have : ¬ L = M := by rintro rfl; omega
  simp [this]
 simp only [Zf, Za] at heq
 refine ⟨⟨0, rfl, Nat.zero_le _, Upd.refl _ _, by simp⟩, ?_⟩
 rintro n w4 ⟨i, rfl, hi, hx4, htake⟩
 intros
 refine Q0 (fun hlt => ?_) (fun hge => ?_)
 ·simp only [Za] at hlt
  intro w39 d39
  have x39 := hx4.trans d39.ext
  obtain ⟨x, hxi⟩ : ∃ x, L[i]? = some x := ⟨L[i]'(by omega), Zc _⟩
  obtain ⟨y, hyi⟩ : ∃ y, M[i]? = some y := ⟨M[i]'(by omega), Zc _⟩
  obtain ⟨a, q, nn, cc, rfl, ca, cb, cbytes, cn⟩ := (h1.ext x39).2.2 i x hxi
  obtain ⟨a', q', nn', cc', rfl, ca', cb', cbytes', cn'⟩ := (h2.ext x39).2.2 i y hyi
  rw [Ze]
  refine ⟨⟨by omega, hlt⟩, _, _, _, cb, ⟨by omega, by omega⟩, _, _, _, cb', ?_⟩
  refine (QB3 cbytes cbytes' (by omega)).mono ?_
  rintro e w44 ⟨rfl, q44⟩
  refine ⟨_, rfl, ?_⟩
  intro w47 d47
  have x47 : Ext w39 w47 := q44.ext.trans d47.ext
  refine Q0 (fun hb => ?_) (fun hb => ?_)
  ·refine ⟨?_, x39.trans x47⟩
   simp only [Zg, Zb] at hb
   have : ¬ L = M := by
    rintro rfl
    rw [hxi] at hyi
    cases hyi
    exact hb rfl
   simp [this]
  simp only [Zf, Za] at hb
  refine ⟨⟨by omega, hlt⟩, _, Qm0 ca x47, ⟨by omega, by omega⟩, _, Qm0 ca' x47, ?_⟩
  refine Q0 (fun hk => ?_) (fun hk => ?_)
  ·refine ⟨?_, x39.trans x47⟩
   simp only [Zg, Zb] at hk
   have : ¬ L = M := by
    rintro rfl
    rw [hxi] at hyi
    cases hyi
    exact hk rfl
   simp [this]
  simp only [Zf, Za] at hk
  rw [w64 (by omega)]
  refine ⟨⟨i + 1, by omega, by omega, x39.trans x47, ?_⟩, by show 4096 - ((i : Int) + 1).toNat < 4096 - (i : Int).toNat; omega⟩
  rw [Zn, Zn, htake, hxi, hyi]
  have : x = y := Prod.ext hk hb
  rw [this]
 ·simp only [Zb] at hge
  refine ⟨?_, hx4⟩
  have : L = M := by
   have e1 : L.take i = L := Zh (by omega)
   have e2 : M.take i = M := Zh (by omega)
   rw [e1, e2] at htake
   exact htake
  simp [this]
end Go.Proofs.YtnfcfbljdibinaaGreat
