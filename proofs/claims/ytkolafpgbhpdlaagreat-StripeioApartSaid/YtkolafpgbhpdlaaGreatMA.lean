import Derived.Test.YtkolafpgbhpdlaaGreatMC
import Derived.Test.YtkolafpgbhpdlaaGreatGb
import Derived.Test.YtkolafpgbhpdlaaGreatRepO
import Derived.WalkKit
import Derived.ProofKit
import Derived.OpenShut
import Derived.Laws.BitsAllLaws
namespace Go.Proofs.YtkolafpgbhpdlaaGreat
open Go Go.Vc
structure Mem where
 d : Dk
 births : Int
def memCells : List Nat → List Mem → List Value
 | b :: bs, m :: ms => .pointer (some (at0 b)) :: .int .i64 m.births :: memCells bs ms
 | _, _ => []
theorem memCells_at : ∀ {bs : List Nat} {M : List Mem} {i b : Nat} {m : Mem}, bs[i]? = some b → M[i]? = some m → (memCells bs M)[i * 2]? = some (.pointer (some (at0 b))) ∧ (memCells bs M)[i * 2 + 1]? = some (.int .i64 m.births)
 | _ :: _, _ :: _, 0, _, _, h1, h2 => by
  simp only [List.getElem?_cons_zero, Option.some.injEq] at h1 h2
  subst h1; subst h2
  exact ⟨rfl, rfl⟩
 | b' :: bs, m' :: M, i + 1, b, m, h1, h2 => by
  have := memCells_at (bs := bs) (M := M) (i := i) (by simpa using h1) (by simpa using h2)
  rw [show (i + 1) * 2 = i * 2 + 1 + 1 by omega]
  simpa [memCells] using this
 | [], _, _, _, _, h1, _ => by simp at h1
 | _ :: _, [], _, _, _, _, h2 => by simp at h2
theorem memCells_app : ∀ {bs : List Nat} {M : List Mem} (b : Nat) (m : Mem), bs.length = M.length → memCells (bs ++ [b]) (M ++ [m]) = memCells bs M ++ [.pointer (some (at0 b)), .int .i64 m.births]
 | [], [], _, _, _ => rfl
 | b' :: bs, m' :: M, b, m, h => by
  have := memCells_app (bs := bs) (M := M) b m (by simpa using h)
  simp only [List.cons_append, memCells, this]
theorem memCells_set : ∀ {bs : List Nat} {M : List Mem} {i : Nat} {m m' : Mem}, M[i]? = some m → m'.births = m.births → memCells bs (M.set i m') = memCells bs M
 | [], _, _, _, _, _, _ => by cases ‹List Mem› <;> rfl
 | _ :: _, [], _, _, _, h, _ => by simp at h
 | b :: bs, m0 :: M, 0, m, m', h, hb => by
  simp only [List.getElem?_cons_zero, Option.some.injEq] at h
  subst h
  simp [memCells, hb]
 | b :: bs, m0 :: M, i + 1, m, m', h, hb => by
  have := memCells_set (bs := bs) (M := M) (i := i) (m := m) (m' := m') (by simpa using h) hb
  simp only [List.set_cons_succ, memCells, this]
theorem memCells_born : ∀ {bs : List Nat} {M : List Mem} {i : Nat} {m m' : Mem}, bs.length = M.length → M[i]? = some m → memCells bs (M.set i m') = (memCells bs M).set (i * 2 + 1) (.int .i64 m'.births)
 | _ :: _, [], _, _, _, _, h => by simp at h
 | [], _ :: _, _, _, _, h, _ => by simp at h
 | [], [], _, _, _, _, h => by simp at h
 | b :: bs, m0 :: M, 0, m, m', _, h => by simp [memCells]
 | b :: bs, m0 :: M, i + 1, m, m', hl, h => by
  have := memCells_born (bs := bs) (M := M) (i := i) (m := m) (m' := m') (by simpa using hl) (by simpa using h)
  rw [show (i + 1) * 2 + 1 = i * 2 + 1 + 1 + 1 by omega]
  simp only [List.set_cons_succ, memCells, this]
def IsArr (w : World) (a : Nat) (M : List Mem) (left : Int) (down : Bool) (F : Nat → Prop) : Prop :=
 ∃ (p : Option Addr) (cm : Nat) (bs : List Nat) (Fs : Nat → Nat → Prop), RowW w a #[.slice p M.length cm, .int .i64 left, .bool down] ∧ OwnS w 0 75 2 p M.length cm (memCells bs M) ∧ bs.length = M.length ∧
  (∀ (i : Nat) (m : Mem), M[i]? = some m → ∃ b, bs[i]? = some b ∧ Dsk w b m.d (Fs i)) ∧ (∀ (i j x : Nat), i < M.length → j < M.length → Fs i x → Fs j x → i = j) ∧
  (∀ (i x : Nat), i < M.length → Fs i x → x ≠ a ∧ p ≠ some (at0 x)) ∧ p ≠ some (at0 a) ∧ (∀ x : Nat, F x ↔ x = a ∨ p = some (at0 x) ∨ ∃ i, i < M.length ∧ Fs i x)
theorem own_lt {w : World} {base : Nat} {e : TypeId} {sz : Nat} {p : Option Addr} {n c : Nat} {xs : List Value} (h : OwnS w base e sz p n c xs) {x : Nat} (hx : p = some (at0 x)) : x < w.heap.size := by
 rcases h.where_ with ⟨h0, _⟩ | ⟨g, h0, _, hlt, _⟩
 ·rw [h0] at hx; cases hx
 ·rw [h0] at hx
  simp only [Option.some.injEq, at0, Addr.mk.injEq, and_true] at hx
  omega
theorem IsArr.lt {w : World} {a : Nat} {M : List Mem} {left : Int} {down : Bool} {F : Nat → Prop} (h : IsArr w a M left down F) : ∀ x, F x → x < w.heap.size := by
 obtain ⟨p, cm, bs, Fs, h1, h2, h3, h4, h5, h6, h7, h8⟩ := h
 intro x hx
 rcases (h8 x).1 hx with rfl | hx | ⟨i, hi, hx⟩
 ·exact h1.lt
 ·exact own_lt h2 hx
 ·obtain ⟨b, _, hd⟩ := h4 i M[i] (List.getElem?_eq_getElem hi)
  exact hd.lt x hx
theorem IsArr.upd {S : Nat → Prop} {w w' : World} {a : Nat} {M : List Mem} {left : Int} {down : Bool} {F : Nat → Prop} (h : IsArr w a M left down F) (hu : Upd S w w') (hS : ∀ x, S x → ¬ F x) : IsArr w' a M left down F := by
 obtain ⟨p, cm, bs, Fs, h1, h2, h3, h4, h5, h6, h7, h8⟩ := h
 refine ⟨p, cm, bs, Fs, hu.rowW h1 fun hs => hS _ hs ((h8 _).2 (.inl rfl)), h2.upd hu fun g hg hs => hS _ hs ((h8 _).2 (.inr (.inl hg))), h3, fun i m hi => ?_, h5, h6, h7, h8⟩
 obtain ⟨b, hb, hd⟩ := h4 i m hi
 exact ⟨b, hb, hd.upd hu fun x hs hf => hS _ hs ((h8 _).2 (.inr (.inr ⟨i, (List.getElem?_eq_some_iff.1 hi).1, hf⟩)))⟩
theorem IsArr.ext {w w' : World} {a : Nat} {M : List Mem} {left : Int} {down : Bool} {F : Nat → Prop} (h : IsArr w a M left down F) (hu : Ext w w') : IsArr w' a M left down F := h.upd hu fun _ h => h.elim
theorem IsArr.row {w : World} {a : Nat} {M : List Mem} {left : Int} {down : Bool} {F : Nat → Prop} (h : IsArr w a M left down F) : ∃ p cm, RowW w a #[.slice p M.length cm, .int .i64 left, .bool down] := by
 obtain ⟨p, cm, bs, Fs, h1, _⟩ := h
 exact ⟨p, cm, h1⟩
theorem IsArr.setLeft {w w' : World} {a : Nat} {M : List Mem} {left : Int} {down : Bool} {F : Nat → Prop} (h : IsArr w a M left down F) {v : Int} (hs : SetC w ((at0 a).add 1) (.int .i64 v) w') : IsArr w' a M v down F ∧ Step F F w w' := by
 obtain ⟨p, cm, bs, Fs, h1, h2, h3, h4, h5, h6, h7, h8⟩ := h
 have hu : Upd (fun x => x = a) w w' := by
  have := hs.upd
  rw [add_at0] at this
  exact this
 refine ⟨⟨p, cm, bs, Fs, hs.row h1, h2.upd hu (by rintro g hg rfl; exact h7 hg), h3, fun i m hi => ?_, h5, h6, h7, h8⟩, hu.mono fun x _ hx => (h8 x).2 (.inl hx), fun x hx => .inl hx⟩
 obtain ⟨b, hb, hd⟩ := h4 i m hi
 exact ⟨b, hb, hd.upd hu fun x hx hf => (h6 i x (List.getElem?_eq_some_iff.1 hi).1 hf).1 hx⟩
theorem IsArr.setDown {w w' : World} {a : Nat} {M : List Mem} {left : Int} {down : Bool} {F : Nat → Prop} (h : IsArr w a M left down F) {v : Bool} (hs : SetC w ((at0 a).add 2) (.bool v) w') : IsArr w' a M left v F ∧ Step F F w w' := by
 obtain ⟨p, cm, bs, Fs, h1, h2, h3, h4, h5, h6, h7, h8⟩ := h
 have hu : Upd (fun x => x = a) w w' := by
  have := hs.upd
  rw [add_at0] at this
  exact this
 refine ⟨⟨p, cm, bs, Fs, hs.row h1, h2.upd hu (by rintro g hg rfl; exact h7 hg), h3, fun i m hi => ?_, h5, h6, h7, h8⟩, hu.mono fun x _ hx => (h8 x).2 (.inl hx), fun x hx => .inl hx⟩
 obtain ⟨b, hb, hd⟩ := h4 i m hi
 exact ⟨b, hb, hd.upd hu fun x hx hf => (h6 i x (List.getElem?_eq_some_iff.1 hi).1 hf).1 hx⟩
theorem IsArr.at {w : World} {a : Nat} {M : List Mem} {left : Int} {down : Bool} {F : Nat → Prop} (h : IsArr w a M left down F) {i : Nat} {m : Mem} (hi : M[i]? = some m) :
  ∃ ap cm b Fi, w.cell? ((at0 a).add 0) = some (.slice (some ap) M.length cm) ∧ w.cell? (ap.add (i * 2)) = some (.pointer (some (at0 b))) ∧ w.cell? ((ap.add (i * 2)).add 0) = some (.pointer (some (at0 b))) ∧
   w.cell? ((ap.add (i * 2)).add 1) = some (.int .i64 m.births) ∧ Dsk w b m.d Fi ∧ (∀ x, Fi x → F x ∧ x ≠ a) ∧
   (∀ w' D' F', Step Fi F' w w' → Dsk w' b D' F' → ∃ F2, IsArr w' a (M.set i { m with d := D' }) left down F2 ∧ Step F F2 w w') := by
 have hlt := h.lt
 obtain ⟨p, cm, bs, Fs, h1, h2, h3, h4, h5, h6, h7, h8⟩ := h
 obtain ⟨b, hb, hd⟩ := h4 i m hi
 have hil : i < M.length := (List.getElem?_eq_some_iff.1 hi).1
 obtain ⟨c1, c2⟩ := memCells_at hb hi
 obtain ⟨ap, hp, e1⟩ := h2.cells _ _ c1
 obtain ⟨ap', hp', e2⟩ := h2.cells _ _ c2
 rw [hp] at hp'
 cases hp'
 subst hp
 refine ⟨ap, cm, b, Fs i, h1.row.cell rfl, e1, by rw [add_add]; exact e1, by rw [add_add]; exact e2, hd, fun x hx => ⟨(h8 x).2 (.inr (.inr ⟨i, hil, hx⟩)), (h6 i x hil hx).1⟩, ?_⟩
 intro w' D' F' hs hd'
 have hlen : (M.set i { m with d := D' }).length = M.length := List.length_set
 refine ⟨fun x => x = a ∨ some ap = some (at0 x) ∨ ∃ j, j < M.length ∧ (if j = i then F' else Fs j) x, ⟨some ap, cm, bs, fun j => if j = i then F' else Fs j, ?_, ?_, by rw [hlen]; exact h3, ?_, ?_, ?_, h7, ?_⟩, ?_, ?_⟩
 ·rw [hlen]; exact hs.upd.rowW h1 fun hf => (h6 i a hil hf).1 rfl
 ·rw [hlen, memCells_set (m' := { m with d := D' }) hi rfl]
  exact h2.upd hs.upd fun g hg hf => (h6 i g hil hf).2 hg
 ·intro j mj hj
  by_cases hji : j = i
  ·subst hji
   rw [List.getElem?_set_self hil] at hj
   cases hj
   exact ⟨b, hb, by simpa using hd'⟩
  ·rw [List.getElem?_set_ne (fun e => hji e.symm)] at hj
   obtain ⟨bj, hbj, hdj⟩ := h4 j mj hj
   refine ⟨bj, hbj, ?_⟩
   simp only [if_neg hji]
   exact hdj.upd hs.upd fun x hx hf => hji (h5 j i x (List.getElem?_eq_some_iff.1 hj).1 hil hf hx)
 ·intro j k x hj hk hfj hfk
  rw [hlen] at hj hk
  have old : ∀ q, q < M.length → Fs q x → x < w.heap.size := fun q hq hf => hlt x ((h8 x).2 (.inr (.inr ⟨q, hq, hf⟩)))
  by_cases hji : j = i <;> by_cases hki : k = i
  ·omega
  ·simp only [if_pos hji] at hfj; simp only [if_neg hki] at hfk
   rcases hs.grow x hfj with h | h
   ·have := h5 i k x hil hk h hfk; omega
   ·have := old k hk hfk; omega
  ·simp only [if_neg hji] at hfj; simp only [if_pos hki] at hfk
   rcases hs.grow x hfk with h | h
   ·have := h5 j i x hj hil hfj h; omega
   ·have := old j hj hfj; omega
  ·simp only [if_neg hji] at hfj; simp only [if_neg hki] at hfk
   exact h5 j k x hj hk hfj hfk
 ·intro j x hj hf
  rw [hlen] at hj
  by_cases hji : j = i
  ·simp only [if_pos hji] at hf
   rcases hs.grow x hf with h | h
   ·exact h6 i x hil h
   ·refine ⟨?_, fun e => ?_⟩
    ·have := h1.lt; omega
    ·have := own_lt h2 e; omega
  ·simp only [if_neg hji] at hf
   exact h6 j x hj hf
 ·intro x
  rw [hlen]
 ·exact hs.upd.mono fun x _ hx => (h8 x).2 (.inr (.inr ⟨i, hil, hx⟩))
 ·rintro x (rfl | hx | ⟨j, hj, hx⟩)
  ·exact .inl ((h8 _).2 (.inl rfl))
  ·exact .inl ((h8 _).2 (.inr (.inl hx)))
  ·by_cases hji : j = i
   ·simp only [if_pos hji] at hx
    rcases hs.grow x hx with h | h
    ·exact .inl ((h8 _).2 (.inr (.inr ⟨i, hil, h⟩)))
    ·exact .inr h
   ·simp only [if_neg hji] at hx
    exact .inl ((h8 _).2 (.inr (.inr ⟨j, hj, hx⟩)))
theorem IsArr.born {w : World} {a : Nat} {M : List Mem} {left : Int} {down : Bool} {F : Nat → Prop} (h : IsArr w a M left down F) {i : Nat} {m : Mem} (hi : M[i]? = some m) :
  ∃ ap cm, w.cell? ((at0 a).add 0) = some (.slice (some ap) M.length cm) ∧ w.cell? ((ap.add (i * 2)).add 1) = some (.int .i64 m.births) ∧ Live w ((ap.add (i * 2)).add 1) ∧
   ∀ v w', SetC w ((ap.add (i * 2)).add 1) (.int .i64 v) w' → IsArr w' a (M.set i { m with births := v }) left down F ∧ Step F F w w' := by
 obtain ⟨p, cm, bs, Fs, h1, h2, h3, h4, h5, h6, h7, h8⟩ := h
 obtain ⟨b, hb, hd⟩ := h4 i m hi
 have hil : i < M.length := (List.getElem?_eq_some_iff.1 hi).1
 obtain ⟨c1, c2⟩ := memCells_at hb hi
 obtain ⟨ap, hp, e2⟩ := h2.cells _ _ c2
 subst hp
 have hlen2 : i * 2 + 1 < (memCells bs M).length := (List.getElem?_eq_some_iff.1 c2).1
 refine ⟨ap, cm, h1.row.cell rfl, by rw [add_add]; exact e2, by rw [add_add]; exact h2.live hlen2, fun v w' hs => ?_⟩
 rw [add_add] at hs
 obtain ⟨h2', hu⟩ := h2.set hs
 obtain ⟨g, hg⟩ : ∃ g, ap = at0 g := by
  rcases h2.where_ with ⟨h0, _⟩ | ⟨g, h0, _⟩
  ·cases h0
  ·cases h0; exact ⟨g, rfl⟩
 subst hg
 have hlen : (M.set i { m with births := v }).length = M.length := List.length_set
 have hne : ¬ a = g := fun e => h7 (by rw [e])
 refine ⟨⟨some (at0 g), cm, bs, Fs, ?_, ?_, by rw [hlen]; exact h3, ?_, by rw [hlen]; exact h5, by rw [hlen]; exact h6, h7, by rw [hlen]; exact h8⟩, ?_⟩
 ·rw [hlen]; exact hu.rowW h1 hne
 ·rw [hlen, memCells_born h3 hi]; exact h2'
 ·intro j mj hj
  have hdj : ∃ mj', M[j]? = some mj' ∧ mj'.d = mj.d := by
   by_cases hji : j = i
   ·subst hji
    rw [List.getElem?_set_self hil] at hj
    cases hj
    exact ⟨m, hi, rfl⟩
   ·rw [List.getElem?_set_ne (fun e => hji e.symm)] at hj
    exact ⟨mj, hj, rfl⟩
  obtain ⟨mj', hj', hdd⟩ := hdj
  obtain ⟨bj, hbj, hdj⟩ := h4 j mj' hj'
  refine ⟨bj, hbj, ?_⟩
  rw [← hdd]
  exact hdj.upd hu fun x hx hf => (h6 j x (List.getElem?_eq_some_iff.1 hj').1 hf).2 (by rw [show x = g from hx])
 ·exact ⟨hu.mono fun x _ hx => (h8 x).2 (.inr (.inl (by rw [show x = g from hx]))), fun x hx => .inl hx⟩
end Go.Proofs.YtkolafpgbhpdlaaGreat
namespace Go.Proofs.YtkolafpgbhpdlaaGreat
open Go Go.Vc
theorem app_where {P : Program} {t e : TypeId} {sz bytes : Nat} (E : ElemOf P t e sz bytes) (ty : TypeId) {w : World} {base : Nat} {p : Option Addr} {n c : Nat} {xs : List Value} (h : OwnS w base e sz p n c xs)
  {a : Addr} {m d : Nat} {news : List Value} (hl : news.length = m * sz) (hq : CellsAt w (some a) news) (h1 : ∀ u ∈ news, u.oneCell' = true) (hm : 0 < m) (h63 : n + m ≤ maxLen)
  (hbytes : (n + m) * bytes ≤ 140737488355328) {p' : Option Addr} {l' c' : Nat} {w' : World} (hr : (Builtin.append_ #[t, t] ty #[.slice p n c, .slice (some a) m d]).run P w = .ok (.slice p' l' c') w') :
  p' = p ∨ p' = some (at0 w.heap.size) := by
 obtain ⟨i, z, hi, hz, hs, hb, hzs⟩ := E.hi
 subst hs
 subst hb
 have hsmall : n + m ≤ 9223372036854775807 := by simp only [maxLen] at h63; omega
 have hnews : ∀ j u, news[j]? = some u → w.cell? (a.add j) = some u := by
  intro j u hj
  obtain ⟨a', ha, hc⟩ := hq j u hj
  cases ha; exact hc
 rcases h.where_ with ⟨rfl, rfl, rfl⟩ | ⟨g, rfl, hge, hlt, hnc, cur, hg, hcs, htake⟩
 ·have hr2 := run_append_nil (P := P) w t ty e i z E.ht hi hz a m d news hl hnews (by omega) (by omega) (by have hb := hbytes; simp only [Nat.zero_add] at hb; omega)
  rw [hr] at hr2
  simp only [Result.ok.injEq, Value.slice.injEq] at hr2
  exact .inr hr2.1.1
 ·by_cases hroom : n + m ≤ c
  ·have hfit : n * i.size + news.length ≤ cur.size := by rw [hl, hcs, ← Nat.add_mul]; exact Nat.mul_le_mul_right _ hroom
   have hr2 := run_append_room (P := P) w t ty e i E.ht hi g n c cur hg a m d news hl hnews h1 hroom hfit
   rw [show (some (at0 g) : Option Addr) = some ⟨g, 0, none⟩ from rfl] at hr
   rw [hr] at hr2
   simp only [Result.ok.injEq, Value.slice.injEq] at hr2
   exact .inl hr2.1.1
  ·have holds : ∀ j u, xs[j]? = some u → w.cell? ((⟨g, 0, none⟩ : Addr).add j) = some u := by
    intro j u hj
    obtain ⟨a', ha, hc⟩ := h.cells j u hj
    cases ha; exact hc
   have hr2 := run_append_grow (P := P) w t ty e i z E.ht hi hz ⟨g, 0, none⟩ n c xs h.length holds a m d news hl hnews (by omega) (by omega) (growslice_fits (by omega) hbytes)
   rw [show (some (at0 g) : Option Addr) = some ⟨g, 0, none⟩ from rfl] at hr
   rw [hr] at hr2
   simp only [Result.ok.injEq, Value.slice.injEq] at hr2
   exact .inr hr2.1.1
theorem elemM : ElemOf Tryz.prog 68 75 2 16 := ⟨by kernel_rfl, ⟨Tryz.t75, .agg #[.pointer none, .int .i64 0], by kernel_rfl, by kernel_rfl, by kernel_rfl, by kernel_rfl, by kernel_rfl⟩, by decide⟩
set_option maxHeartbeats 1000000 in
theorem IsArr.push {w0 w1 : World} {a : Nat} {M : List Mem} {left : Int} {down : Bool} {F : Nat → Prop} (h : IsArr w0 a M left down F) (hx : Ext w0 w1) {b : Nat} {D : Dk} {Fd : Nat → Prop} (hd : Dsk w1 b D Fd) (hnew : ∀ x, Fd x → w0.heap.size ≤ x) (hM : M.length ≤ 100) :
  ∃ p cm, w1.cell? ((at0 a).add 0) = some (.slice p M.length cm) ∧ ∀ (k : Nat) (w2 : World), NewB w1 k (.cells #[.pointer (some (at0 b)), .int .i64 0] 75) w2 →
   ∃ p' c' w3, Sem.run Tryz.prog (Builtin.append_ #[68, 68] 68 #[.slice p M.length cm, .slice (some (at0 k)) 1 1]) w2 = .ok (.slice p' (M.length + 1) c') w3 ∧ Live w3 ((at0 a).add 0) ∧
    ∀ w4, SetC w3 ((at0 a).add 0) (.slice p' (M.length + 1) c') w4 → ∃ F', IsArr w4 a (M ++ [⟨D, 0⟩]) left down F' ∧ Upd F w0 w4 ∧ ∀ x, F' x → F x ∨ w0.heap.size ≤ x := by
 have hlt0 := h.lt
 have h' := h.ext hx
 obtain ⟨p, cm, bs, Fs, h1, h2, h3, h4, h5, h6, h7, h8⟩ := h'
 refine ⟨p, cm, h1.row.cell rfl, fun k w2 hk => ?_⟩
 have x2 := hx.trans hk.ext
 have hksz := hk.size
 have hs0 := hx.size
 have hbox : CellsAt w2 (some (at0 k)) [.pointer (some (at0 b)), .int .i64 0] := by
  intro j u hj
  refine ⟨_, rfl, ?_⟩
  have hb := hk.at
  match j, hj with
  | 0, hj => cases hj; simp [World.cell?, Addr.add, hb]
  | 1, hj => cases hj; simp [World.cell?, Addr.add, hb]
 have hone : ∀ u ∈ [Value.pointer (some (at0 b)), .int .i64 0], u.oneCell' = true := by
  intro u hu
  simp only [List.mem_cons, List.not_mem_nil, or_false] at hu
  rcases hu with rfl | rfl <;> rfl
 have h22 := h2.ext hk.ext
 obtain ⟨p', c', w3, hr, own3, hu3, _⟩ := h22.append elemM 68 (q := some (at0 k)) (m := 1) (d := 1) (news := [.pointer (some (at0 b)), .int .i64 0]) rfl hbox (fun h => by cases h) hone (by unfold maxLen; omega) (by omega) (Nat.zero_le _)
 have hw := app_where elemM 68 h22 rfl hbox hone (by omega) (by unfold maxLen; omega) (by omega) hr
 have p_lt : ∀ x, p = some (at0 x) → x < w0.heap.size := fun x hp => hlt0 x ((h8 x).2 (.inr (.inl hp)))
 have F_lt : ∀ i x, i < M.length → Fs i x → x < w0.heap.size := fun i x hi hf => hlt0 x ((h8 x).2 (.inr (.inr ⟨i, hi, hf⟩)))
 have a_lt : a < w0.heap.size := hlt0 a ((h8 a).2 (.inl rfl))
 have hd_lt := hd.lt
 have hka : ∀ x, p' = some (at0 x) → (p = some (at0 x)) ∨ x = w2.heap.size := by
  intro x hp
  rcases hw with h | h
  ·exact .inl (by rw [← h]; exact hp)
  ·rw [h] at hp
   simp only [Option.some.injEq, at0, Addr.mk.injEq, and_true] at hp
   exact .inr hp.symm
 have hna : p ≠ some (at0 a) := h7
 have r3 := hu3.rowW (hk.ext.rowW h1 id) (fun e => hna e)
 refine ⟨p', c', w3, hr, r3.live (by simp), fun w4 hs => ?_⟩
 have hu4 : Upd (fun x => x = a) w3 w4 := by
  have := hs.upd
  rw [add_at0] at this
  exact this
 have hp'a : p' ≠ some (at0 a) := fun e => by
  rcases hka a e with h | h
  ·exact hna h
  ·omega
 have hlen : (M ++ [(⟨D, 0⟩ : Mem)]).length = M.length + 1 := by simp
 have dsk2 : ∀ {b' : Nat} {D' : Dk} {F' : Nat → Prop}, Dsk w1 b' D' F' → (∀ x, F' x → x ≠ a ∧ p ≠ some (at0 x)) → Dsk w4 b' D' F' := fun hd' hF =>
  ((hd'.ext hk.ext).upd hu3 (fun x hx hf => (hF x hf).2 hx)).upd hu4 fun x hx hf => (hF x hf).1 hx
 refine ⟨fun x => x = a ∨ p' = some (at0 x) ∨ ∃ i, i < M.length + 1 ∧ (if i = M.length then Fd else Fs i) x, ⟨p', c', bs ++ [b], fun i => if i = M.length then Fd else Fs i, ?_, ?_, by simp [h3], ?_, ?_, ?_, hp'a, ?_⟩, ?_, ?_⟩
 ·rw [hlen]; exact hs.row r3
 ·rw [hlen, memCells_app _ _ h3]
  exact own3.upd hu4 fun g hg e => hp'a (by rw [hg, e])
 ·intro i m hi
  rcases Nat.lt_or_ge i M.length with hil | hil
  ·rw [List.getElem?_append_left hil] at hi
   obtain ⟨b', hb', hd'⟩ := h4 i m hi
   refine ⟨b', by rw [List.getElem?_append_left (by omega)]; exact hb', ?_⟩
   have hne : ¬ i = M.length := by omega
   simp only [if_neg hne]
   exact dsk2 hd' fun x hf => h6 i x hil hf
  ·have hi0 : i = M.length := by
    have := (List.getElem?_eq_some_iff.1 hi).1
    rw [hlen] at this; omega
   subst hi0
   rw [List.getElem?_append_right (Nat.le_refl _), Nat.sub_self] at hi
   cases hi
   refine ⟨b, by rw [List.getElem?_append_right (by omega), h3, Nat.sub_self]; rfl, ?_⟩
   simp only [if_true]
   exact dsk2 hd fun x hf => ⟨fun e => by have := hnew x hf; omega, fun e => by have := hnew x hf; have := p_lt x e; omega⟩
 ·intro i j x hi hj hfi hfj
  rw [hlen] at hi hj
  by_cases hii : i = M.length <;> by_cases hjj : j = M.length
  ·omega
  ·simp only [if_pos hii] at hfi; simp only [if_neg hjj] at hfj
   have := hnew x hfi; have := F_lt j x (by omega) hfj; omega
  ·simp only [if_neg hii] at hfi; simp only [if_pos hjj] at hfj
   have := hnew x hfj; have := F_lt i x (by omega) hfi; omega
  ·simp only [if_neg hii] at hfi; simp only [if_neg hjj] at hfj
   exact h5 i j x (by omega) (by omega) hfi hfj
 ·intro i x hi hf
  rw [hlen] at hi
  by_cases hii : i = M.length
  ·simp only [if_pos hii] at hf
   have := hnew x hf
   refine ⟨by omega, fun e => ?_⟩
   rcases hka x e with h | h
   ·have := p_lt x h; omega
   ·have := hd_lt x hf; omega
  ·simp only [if_neg hii] at hf
   obtain ⟨q1, q2⟩ := h6 i x (by omega) hf
   refine ⟨q1, fun e => ?_⟩
   rcases hka x e with h | h
   ·exact q2 h
   ·have := F_lt i x (by omega) hf; omega
 ·intro x
  rw [hlen]
 ·refine Upd.trans (Upd.trans (x2.upd (S := F)) hu3 fun x _ hx => (h8 x).2 (.inr (.inl hx))) hu4 fun x _ hx => (h8 x).2 (.inl hx)
 ·rintro x (rfl | hx' | ⟨i, hi, hf⟩)
  ·exact .inl ((h8 _).2 (.inl rfl))
  ·rcases hka x hx' with h | h
   ·exact .inl ((h8 _).2 (.inr (.inl h)))
   ·exact .inr (by omega)
  ·by_cases hii : i = M.length
   ·simp only [if_pos hii] at hf
    exact .inr (hnew x hf)
   ·simp only [if_neg hii] at hf
    exact .inl ((h8 _).2 (.inr (.inr ⟨i, by omega, hf⟩)))
end Go.Proofs.YtkolafpgbhpdlaaGreat
namespace Go.Proofs.YtkolafpgbhpdlaaGreat
open Go Go.Vc
theorem anew_bad {n s : Int} (h : n < 1 ∨ 32 < n) (w : World) : Calls Tryz.prog 10 #[.int .i64 n, .int .i64 s] w fun e w' => e = .returned (.tuple #[.pointer none, .int .i64 1]) ∧ w' = w := by
 refine (F10_calls n s w (fun v w' => v = .tuple #[.pointer none, .int .i64 1] ∧ w' = w) (fun _ _ _ _ _ => False) (fun _ _ _ _ _ => 0) ?_).mono (by rintro e w' ⟨v, rfl, rfl, h⟩; exact ⟨rfl, h⟩)
 refine condB_of (fun _ => ⟨rfl, rfl⟩) (fun h1 => condB_of (fun _ => ⟨rfl, rfl⟩) (fun h2 => ?_))
 simp only [decide_eq_false_iff_not] at h1 h2
 omega
theorem anew_good {n s : Int} (h : 1 ≤ n ∧ n ≤ 32) (hs : 1 ≤ s ∧ s ≤ 4096) (w : World) : Calls Tryz.prog 10 #[.int .i64 n, .int .i64 s] w fun e w' => ∃ a F, e = .returned (.tuple #[.pointer (some (at0 a)), .int .i64 0]) ∧ Ext w w' ∧
  IsArr w' a (List.replicate n.toNat ⟨⟨s, [], [], false⟩, 0⟩) (-1) false F ∧ ∀ x, F x → w.heap.size ≤ x := by
 refine (F10_calls n s w (fun v w' => ∃ a F, v = .tuple #[.pointer (some (at0 a)), .int .i64 0] ∧ Ext w w' ∧ IsArr w' a (List.replicate n.toNat ⟨⟨s, [], [], false⟩, 0⟩) (-1) false F ∧ ∀ x, F x → w.heap.size ≤ x)
  (fun p _ _ n7 w8 => ∃ (a i : Nat) (F : Nat → Prop), p = some (at0 a) ∧ n7 = i ∧ i ≤ n.toNat ∧ Ext w w8 ∧ IsArr w8 a (List.replicate i ⟨⟨s, [], [], false⟩, 0⟩) (-1) false F ∧ ∀ x, F x → w.heap.size ≤ x) (fun _ _ _ n7 _ => 32 - n7.toNat) ?_).mono (by
   rintro e w' ⟨v, rfl, a, F, rfl, h⟩; exact ⟨a, F, rfl, h⟩)
 refine condB_of (fun h1 => by simp only [decide_eq_true_eq] at h1; omega) (fun _ => condB_of (fun h1 => by simp only [decide_eq_true_eq] at h1; omega) (fun _ => ?_))
 intro k3 w4 hk
 refine ⟨⟨k3, 0, fun x => x = k3, rfl, rfl, Nat.zero_le _, hk.ext, ⟨none, 0, [], fun _ _ => False, ⟨_, hk.at⟩, OwnS.nil _ _ _ _, rfl, fun i m hi => by simp at hi, fun i j x hi _ _ _ => by simp at hi, fun i x hi _ => by simp at hi, by simp, fun x => by simp⟩, ?_⟩, ?_⟩
 ·rintro x rfl
  rw [hk.size.1]; exact Nat.le_refl _
 rintro n7 w8 ⟨a, i, F, hp, rfl, hi, hx8, h8, hF⟩
 cases hp
 intros
 refine condB_of (fun hlt => ?_) (fun hge => ?_)
 ·simp only [decide_eq_true_eq] at hlt
  refine (d_new hs w8).mono ?_
  rintro e w34 ⟨b, Fd, rfl, x34, hd, hFd⟩
  obtain ⟨p, cm, e1, hall⟩ := h8.push x34 hd hFd (by rw [List.length_replicate]; omega)
  rw [List.length_replicate] at e1 hall
  refine ⟨_, _, rfl, condB_of (fun h => by simp at h) fun _ => ⟨p, i, cm, e1, fun k39 w40 hk39 => ?_⟩⟩
  obtain ⟨p', c', w3, hr, hl, hset⟩ := hall k39 w40 hk39
  refine ⟨p', i + 1, c', w3, hr, hl, fun w43 hs43 => ?_⟩
  obtain ⟨F', hA, hu, hg⟩ := hset w43 hs43
  rw [w64 (by omega)]
  refine ⟨⟨k3, i + 1, F', rfl, by omega, by omega, ?_, ?_, fun x hx => ?_⟩, by show 32 - ((i : Int) + 1).toNat < 32 - (i : Int).toNat; omega⟩
  ·refine Upd.trans hx8 hu fun x hx hf => ?_
   have := hF x hf; omega
  ·rw [List.replicate_succ']; exact hA
  ·rcases hg x hx with h | h
   ·exact hF x h
   ·exact Nat.le_trans hx8.size h
 ·simp only [decide_eq_false_iff_not] at hge
  have : i = n.toNat := by omega
  subst this
  exact ⟨k3, F, rfl, hx8, h8, hF⟩
section
variable {w : World} {a : Nat} {M : List Mem} {left : Int} {down : Bool} {F : Nat → Prop}
theorem adown_spec (h : IsArr w a M left down F) : Calls Tryz.prog 59 #[.pointer (some (at0 a))] w fun e w' => e = .returned (.bool down) ∧ w' = w := by
 obtain ⟨p, cm, hr⟩ := h.row
 exact (F59_calls (some (at0 a)) w (fun v w' => v = .bool down ∧ w' = w) (condB_of (fun _ => ⟨_, hr.row.cell rfl, rfl, rfl⟩) fun h => by cases h)).mono (by rintro e w' ⟨v, rfl, rfl, h⟩; exact ⟨rfl, h⟩)
theorem there_spec (h : IsArr w a M left down F) (k : Int) : Calls Tryz.prog 43 #[.pointer (some (at0 a)), .int .i64 k] w fun e w' => e = .returned (.bool (decide (0 ≤ k ∧ k < M.length))) ∧ w' = w := by
 obtain ⟨p, cm, hr⟩ := h.row
 refine (F43_calls (some (at0 a)) k w (fun v w' => v = .bool (decide (0 ≤ k ∧ k < M.length)) ∧ w' = w) ?_).mono (by rintro e w' ⟨v, rfl, rfl, h⟩; exact ⟨rfl, h⟩)
 refine condB_of (fun _ => condB_of (fun h1 => ⟨_, _, _, hr.row.cell rfl, ?_, rfl⟩) fun h1 => ⟨?_, rfl⟩) fun h => by cases h
 ·simp only [decide_eq_true_eq] at h1
  simp [h1]
 ·simp only [decide_eq_false_iff_not] at h1
  simp [h1]
theorem aread_down (h : IsArr w a M left true F) (i k : Int) : Calls Tryz.prog 61 #[.pointer (some (at0 a)), .int .i64 i, .int .i64 k] w fun e w' => e = .returned (.tuple #[.slice none 0 0, .int .i64 130]) ∧ w' = w := by
 refine (F61_calls (some (at0 a)) i k w (fun v w' => v = .tuple #[.slice none 0 0, .int .i64 130] ∧ w' = w) ?_).mono (by rintro e w' ⟨v, rfl, rfl, h⟩; exact ⟨rfl, h⟩)
 refine (adown_spec h).mono ?_
 rintro e w4 ⟨rfl, rfl⟩
 exact ⟨_, rfl, condB_of (fun _ => ⟨rfl, rfl⟩) fun h => by cases h⟩
theorem aread_spec (h : IsArr w a M left false F) {i : Nat} {m : Mem} (hi : M[i]? = some m) (k : Int) : Calls Tryz.prog 61 #[.pointer (some (at0 a)), .int .i64 (i : Int), .int .i64 k] w fun e w' => Ext w w' ∧
  ∃ p l c bs, e = .returned (.tuple #[.slice p l c, .int .i64 (faultZ m.d.dead m.d.sectors k)]) ∧ bs = (if faultZ m.d.dead m.d.sectors k = 0 then readD m.d k else []) ∧ l = bs.length ∧ OwnS w' w.heap.size 5 1 p l c (encB bs) ∧ l ≤ 4108 := by
 refine (F61_calls (some (at0 a)) (i : Int) k w (fun v w' => Ext w w' ∧ ∃ p l c bs, v = .tuple #[.slice p l c, .int .i64 (faultZ m.d.dead m.d.sectors k)] ∧ bs = (if faultZ m.d.dead m.d.sectors k = 0 then readD m.d k else []) ∧ l = bs.length ∧ OwnS w' w.heap.size 5 1 p l c (encB bs) ∧ l ≤ 4108) ?_).mono (by rintro e w' ⟨v, rfl, hx, p, l, c, bs, rfl, h⟩; exact ⟨hx, p, l, c, bs, rfl, h⟩)
 have hil : i < M.length := (List.getElem?_eq_some_iff.1 hi).1
 refine (adown_spec h).mono ?_
 rintro e w4 ⟨rfl, rfl⟩
 refine ⟨_, rfl, condB_of (fun h => by cases h) fun _ => (there_spec h (i : Int)).mono ?_⟩
 rintro e w7 ⟨rfl, rfl⟩
 obtain ⟨ap, cm, b, Fi, e0, _, e1, e2, hd, _, _⟩ := h.at hi
 refine ⟨_, rfl, condB_of (fun h0 => by simp at h0; omega) fun _ => ⟨_, _, _, e0, ⟨by omega, by omega⟩, _, by rw [Int.toNat_natCast]; exact e1, ?_⟩⟩
 refine (d_read hd k).mono ?_
 rintro e w14 ⟨hx, _, p, l, c, bs, rfl, h⟩
 exact ⟨_, _, _, _, rfl, hx, p, l, c, bs, rfl, h⟩
theorem awrite_spec (h : IsArr w a M left false F) (hleft : -1 ≤ left ∧ left ≤ 9223372036854775807) {i : Nat} {m : Mem} (hi : M[i]? = some m) (k : Int) {p : Option Addr} {l c : Nat} {bs : List UInt8} (hb : BytesAt w p l bs) :
  Calls Tryz.prog 69 #[.pointer (some (at0 a)), .int .i64 (i : Int), .int .i64 k, .slice p l c] w fun e w' => ∃ F', e = .returned (.int .i64 (writeZ m.d k bs.length)) ∧ Step F F' w w' ∧
   IsArr w' a (M.set i { m with d := writeD m.d k bs }) (if writeZ m.d k bs.length = 0 ∧ 0 < left then left - 1 else left) (decide (writeZ m.d k bs.length = 0 ∧ left = 1)) F' := by
 refine (F69_calls (some (at0 a)) (i : Int) k p l c w (fun v w' => ∃ F', v = .int .i64 (writeZ m.d k bs.length) ∧ Step F F' w w' ∧
   IsArr w' a (M.set i { m with d := writeD m.d k bs }) (if writeZ m.d k bs.length = 0 ∧ 0 < left then left - 1 else left) (decide (writeZ m.d k bs.length = 0 ∧ left = 1)) F') ?_).mono (by rintro e w' ⟨v, rfl, F', rfl, h⟩; exact ⟨F', rfl, h⟩)
 have hil : i < M.length := (List.getElem?_eq_some_iff.1 hi).1
 refine (adown_spec h).mono ?_
 rintro e w4 ⟨rfl, rfl⟩
 refine ⟨_, rfl, condB_of (fun h => by cases h) fun _ => (there_spec h (i : Int)).mono ?_⟩
 rintro e w7 ⟨rfl, rfl⟩
 obtain ⟨ap, cm, b, Fi, e0, _, e1, e2, hd, _, hstep⟩ := h.at hi
 refine ⟨_, rfl, condB_of (fun h0 => by simp at h0; omega) fun _ => ⟨_, _, _, e0, ⟨by omega, by omega⟩, _, by rw [Int.toNat_natCast]; exact e1, ?_⟩⟩
 refine (d_write hd k hb).mono ?_
 rintro e w15 ⟨F', rfl, hs, hd'⟩
 obtain ⟨F2, h2, s2⟩ := hstep _ _ _ hs hd'
 obtain ⟨p2, cm2, hr2⟩ := h2.row
 refine ⟨_, rfl, condB_of (fun hz => ?_) (fun hz => ?_)⟩
 ·simp only [decide_eq_true_eq] at hz
  refine ⟨_, hr2.row.cell rfl, condB_of (fun hl => ?_) (fun hl => ?_)⟩
  ·simp only [decide_eq_true_eq] at hl
   refine ⟨_, hr2.row.cell rfl, hr2.live (by simp), fun w23 s23 => ?_⟩
   obtain ⟨h3, s3⟩ := h2.setLeft s23
   obtain ⟨p3, cm3, hr3⟩ := h3.row
   refine ⟨_, hr3.row.cell rfl, hr3.live (by simp), fun w27 s27 => ?_⟩
   obtain ⟨h4, s4⟩ := h3.setDown s27
   refine ⟨F2, rfl, (s2.trans s3).trans s4, ?_⟩
   rw [w64 (by omega)] at h4
   rw [if_pos ⟨hz, hl⟩]
   have : decide (writeZ m.d k bs.length = 0 ∧ left = 1) = decide (left - 1 = 0) := by
    apply decide_eq_decide.2
    constructor
    ·rintro ⟨_, h⟩; omega
    ·intro h; exact ⟨hz, by omega⟩
   rw [this]; exact h4
  ·simp only [decide_eq_false_iff_not] at hl
   refine ⟨F2, rfl, s2, ?_⟩
   rw [if_neg (fun h => hl h.2)]
   have : decide (writeZ m.d k bs.length = 0 ∧ left = 1) = false := decide_eq_false fun h => by omega
   rw [this]; exact h2
 ·simp only [decide_eq_false_iff_not] at hz
  refine ⟨F2, rfl, s2, ?_⟩
  rw [if_neg (fun h => hz h.1)]
  have : decide (writeZ m.d k bs.length = 0 ∧ left = 1) = false := decide_eq_false fun h => hz h.1
  rw [this]; exact h2
theorem awrite_out (h : IsArr w a M left false F) {i : Int} (hi : ¬ (0 ≤ i ∧ i < M.length)) (k : Int) (p : Option Addr) (l c : Nat) :
  Calls Tryz.prog 69 #[.pointer (some (at0 a)), .int .i64 i, .int .i64 k, .slice p l c] w fun e w' => e = .returned (.int .i64 1) ∧ w' = w := by
 refine (F69_calls (some (at0 a)) i k p l c w (fun v w' => v = .int .i64 1 ∧ w' = w) ?_).mono (by rintro e w' ⟨v, rfl, rfl, h⟩; exact ⟨rfl, h⟩)
 refine (adown_spec h).mono ?_
 rintro e w4 ⟨rfl, rfl⟩
 refine ⟨_, rfl, condB_of (fun h => by cases h) fun _ => (there_spec h i).mono ?_⟩
 rintro e w7 ⟨rfl, rfl⟩
 exact ⟨_, rfl, condB_of (fun _ => ⟨rfl, rfl⟩) fun h0 => by simp only [Bool.not_eq_false', decide_eq_true_eq] at h0; exact absurd h0 hi⟩
theorem afail_spec (h : IsArr w a M left down F) {i : Nat} {m : Mem} (hi : M[i]? = some m) :
  Calls Tryz.prog 20 #[.pointer (some (at0 a)), .int .i64 (i : Int)] w fun e w' => ∃ F', e = .returned (.int .i64 0) ∧ Step F F' w w' ∧
   IsArr w' a (M.set i ⟨{ m.d with dead := true, lasts := [], waits := [] }, IntKind.i64.wrap (m.births + 1)⟩) left down F' := by
 refine (F20_calls (some (at0 a)) (i : Int) w (fun v w' => ∃ F', v = .int .i64 0 ∧ Step F F' w w' ∧
   IsArr w' a (M.set i ⟨{ m.d with dead := true, lasts := [], waits := [] }, IntKind.i64.wrap (m.births + 1)⟩) left down F') ?_).mono (by rintro e w' ⟨v, rfl, F', rfl, h⟩; exact ⟨F', rfl, h⟩)
 have hil : i < M.length := (List.getElem?_eq_some_iff.1 hi).1
 refine (there_spec h (i : Int)).mono ?_
 rintro e w7 ⟨rfl, rfl⟩
 obtain ⟨ap, cm, b, Fi, e0, _, e1, e2, hd, _, hstep⟩ := h.at hi
 refine ⟨_, rfl, condB_of (fun h0 => by simp at h0; omega) fun _ => ⟨_, _, _, e0, ⟨by omega, by omega⟩, _, by rw [Int.toNat_natCast]; exact e1, ?_⟩⟩
 refine (d_fail hd).mono ?_
 rintro e w10 ⟨rfl, hs, hd'⟩
 obtain ⟨F2, h2, s2⟩ := hstep _ _ _ hs hd'
 obtain ⟨ap2, cm2, q0, q1, q2, q3⟩ := h2.born (i := i) (m := { m with d := { m.d with dead := true, lasts := [], waits := [] } }) (List.getElem?_set_self hil)
 rw [List.length_set] at q0
 rw [Int.toNat_natCast]
 refine ⟨rfl, _, _, _, q0, ⟨by omega, by omega⟩, _, q1, ⟨by omega, by omega⟩, q2, fun w17 s17 => ?_⟩
 obtain ⟨h3, s3⟩ := q3 _ _ s17
 rw [List.set_set] at h3
 exact ⟨F2, rfl, s2.trans s3, h3⟩
end
end Go.Proofs.YtkolafpgbhpdlaaGreat
namespace Go.Proofs.YtkolafpgbhpdlaaGreat
open Go Go.Vc
theorem app_one {P : Program} {t e : TypeId} {bytes : Nat} (E : ElemOf P t e 1 bytes) (hby : bytes ≤ 64) {w0 w : World} (hx : Ext w0 w) {p : Option Addr} {n c : Nat} {xs : List Value} (h : OwnS w w0.heap.size e 1 p n c xs) {k : Nat} {v : Value} {w1 : World}
  (hk : NewB w k (.cells #[v] e) w1) (hv : v.oneCell' = true) (hn : n ≤ 100000) :
  ∃ p' c' w', Sem.run P (Builtin.append_ #[t, t] t #[.slice p n c, .slice (some (at0 k)) 1 1]) w1 = .ok (.slice p' (n + 1) c') w' ∧ OwnS w' w0.heap.size e 1 p' (n + 1) c' (xs ++ [v]) ∧ Ext w0 w' := by
 have hbox : CellsAt w1 (some (at0 k)) [v] := by
  intro j u hj
  refine ⟨_, rfl, ?_⟩
  have hb := hk.at
  match j, hj with
  | 0, hj => cases hj; simp [World.cell?, Addr.add, hb]
 have hx1 := hx.trans hk.ext
 have h' := h.ext hk.ext
 have hmul : (n + 1) * bytes ≤ (100000 + 1) * 64 := Nat.mul_le_mul (by omega) hby
 obtain ⟨p', c', w', hr, ho, hu, _⟩ := h'.append E t (q := some (at0 k)) (m := 1) (d := 1) (news := [v]) rfl hbox (fun h => by cases h) (by intro u hu; simp only [List.mem_singleton] at hu; subst hu; exact hv) (by unfold maxLen; omega) (by omega) hx1.size
 refine ⟨p', c', w', hr, ho, ?_⟩
 refine Upd.trans hx1 hu fun x hx' hs => ?_
 rcases h'.where_ with ⟨h0, _⟩ | ⟨g, h0, hge, _⟩
 ·rw [h0] at hs; cases hs
 ·rw [h0] at hs
  simp only [Option.some.injEq, at0, Addr.mk.injEq, and_true] at hs
  omega
theorem elemBool : ElemOf Tryz.prog 116 4 1 1 := ⟨by kernel_rfl, ⟨Tryz.t4, .bool false, by kernel_rfl, by kernel_rfl, by kernel_rfl, by kernel_rfl, by kernel_rfl⟩, by decide⟩
theorem elemInt : ElemOf Tryz.prog 30 3 1 8 := ⟨by kernel_rfl, ⟨Tryz.t3, .int .i64 0, by kernel_rfl, by kernel_rfl, by kernel_rfl, by kernel_rfl, by kernel_rfl⟩, by decide⟩
theorem setc_new {w0 w w' : World} {k j : Nat} {v : Value} (h : Ext w0 w) (hk : w0.heap.size ≤ k) (hs : SetC w ((at0 k).add j) v w') : Ext w0 w' := by
 refine Upd.trans h hs.upd fun x hx he => ?_
 have : x = k := by
  rw [add_at0] at he
  exact he
 omega
section
variable {w : World} {a : Nat} {M : List Mem} {left : Int} {down : Bool} {F : Nat → Prop}
theorem IsArr.entry (h : IsArr w a M left down F) {p : Option Addr} {cm : Nat} (hr : RowW w a #[.slice p M.length cm, .int .i64 left, .bool down]) {i : Nat} {m : Mem} (hi : M[i]? = some m) :
  ∃ ap b Fi, p = some ap ∧ w.cell? (ap.add (i * 2)) = some (.pointer (some (at0 b))) ∧ w.cell? ((ap.add (i * 2)).add 1) = some (.int .i64 m.births) ∧ Dsk w b m.d Fi ∧ (∀ x, Fi x → F x ∧ x ≠ a) ∧
   ∀ w' D' F', Step Fi F' w w' → Dsk w' b D' F' → ∃ F2, IsArr w' a (M.set i { m with d := D' }) left down F2 ∧ Step F F2 w w' := by
 obtain ⟨ap, cm', b, Fi, e0, e1, _, e2, hd, hF, hs⟩ := h.at hi
 have := hr.row.cell (n := 0) rfl
 rw [e0] at this
 cases this
 exact ⟨ap, b, Fi, rfl, e1, e2, hd, hF, hs⟩
set_option maxHeartbeats 1000000 in
theorem live_spec (h : IsArr w a M left down F) (hM : M.length ≤ 100) : Calls Tryz.prog 56 #[.pointer (some (at0 a))] w fun e w' => ∃ p l c, e = .returned (.slice p l c) ∧ Ext w w' ∧ l = M.length ∧
  OwnS w' w.heap.size 4 1 p l c (M.map fun m => .bool (!m.d.dead)) := by
 refine (F56_calls (some (at0 a)) w (fun v w' => ∃ p l c, v = .slice p l c ∧ Ext w w' ∧ l = M.length ∧ OwnS w' w.heap.size 4 1 p l c (M.map fun m => .bool (!m.d.dead)))
  (fun _ _ _ _ _ p8 l8 c8 n9 w10 => ∃ i : Nat, n9 = i ∧ i ≤ M.length ∧ Ext w w10 ∧ l8 = i ∧ OwnS w10 w.heap.size 4 1 p8 l8 c8 ((M.take i).map fun m => .bool (!m.d.dead))) (fun _ _ _ _ _ _ _ _ n9 _ => 100 - n9.toNat) ?_).mono (by
   rintro e w' ⟨v, rfl, p, l, c, rfl, h⟩; exact ⟨p, l, c, rfl, h⟩)
 obtain ⟨p, cm, hr⟩ := h.row
 refine condB_of (fun h => by cases h) fun _ => ⟨_, _, _, hr.row.cell rfl, ⟨0, rfl, Nat.zero_le _, Upd.refl _ _, rfl, OwnS.nil _ _ _ _⟩, ?_⟩
 rintro p8 l8 c8 n9 w10 ⟨i, rfl, hi, x10, rfl, own⟩
 intros
 refine condB_of (fun hlt => ?_) (fun hge => ?_)
 ·simp only [decide_eq_true_eq] at hlt
  obtain ⟨m, hm⟩ : ∃ m, M[l8]? = some m := ⟨M[l8]'(by omega), List.getElem?_eq_getElem _⟩
  obtain ⟨ap, b, Fi, rfl, e1, e2, hd, _, _⟩ := (h.ext x10).entry (x10.rowW hr id) hm
  rw [Int.toNat_natCast]
  refine ⟨⟨by omega, hlt⟩, _, e1, _, e2, fun k26 w27 hk => ?_⟩
  have hk0 : w10.heap.size ≤ k26 := by rw [hk.size.1]; exact Nat.le_refl _
  have r27 : RowW w27 k26 _ := ⟨_, hk.at⟩
  refine ⟨r27.live (n := 0) (by simp), fun w28 s28 => ?_⟩
  have s28' : SetC w27 ((at0 k26).add 0) (.pointer (some (at0 b))) w28 := s28
  have r28 := s28'.row r27
  have x28 := setc_new hk.ext hk0 s28'
  refine ⟨r28.live (by simp), fun w29 s29 => ?_⟩
  have r29 := s29.row r28
  have x29 := setc_new x28 hk0 s29
  refine ⟨some (at0 b), r29.row.cell rfl, ?_⟩
  refine (d_dead (hd.ext x29)).mono ?_
  rintro e w31 ⟨rfl, rfl⟩
  refine ⟨_, rfl, fun k34 w35 hk34 => ?_⟩
  have x31 := x10.trans x29
  obtain ⟨p', c', w36, hrun, own36, x36⟩ := app_one elemBool (by omega) x31 (own.ext x29) hk34 rfl (by omega)
  refine ⟨p', l8 + 1, c', w36, hrun, ?_⟩
  rw [w64 (by omega)]
  refine ⟨⟨l8 + 1, by omega, by omega, x36, rfl, ?_⟩, by show 100 - ((l8 : Int) + 1).toNat < 100 - (l8 : Int).toNat; omega⟩
  rw [List.take_add_one, hm]
  simpa using own36
 ·simp only [decide_eq_false_iff_not] at hge
  have : M.take l8 = M := List.take_of_length_le (by omega)
  rw [this] at own
  exact ⟨p8, l8, c8, rfl, x10, by omega, own⟩
theorem cell_upd {S : Nat → Prop} {w w' : World} {a : Addr} {v : Value} (h : w.cell? a = some v) (hu : Upd S w w') (hS : ¬ S a.block) : w'.cell? a = some v := by
 have : CellsAt w (some a) [v] := fun j u hj => ⟨a, rfl, by
  match j, hj with
  | 0, hj => cases hj; simpa [Addr.add] using h⟩
 obtain ⟨a', ha, h⟩ := (this.upd hu fun a' ha _ => by cases ha; exact hS) 0 v rfl
 cases ha
 simpa [Addr.add] using h
def KeepAt (w : World) (KB : Nat → Prop) (p : Option Addr) (l : Nat) (KS : List (List Int)) : Prop :=
 l = KS.length ∧ ∀ i ks, KS[i]? = some ks → ∃ a q n c, p = some a ∧ KB a.block ∧ w.cell? (a.add (i * 1)) = some (.slice q n c) ∧ IntsAt w q n ks ∧ (ks ≠ [] → ∀ a', q = some a' → KB a'.block) ∧ n ≤ 9223372036854775807
theorem KeepAt.upd {S KB : Nat → Prop} {w w' : World} {p : Option Addr} {l : Nat} {KS : List (List Int)} (h : KeepAt w KB p l KS) (hu : Upd S w w') (hS : ∀ x, KB x → ¬ S x) : KeepAt w' KB p l KS := by
 refine ⟨h.1, fun i ks hi => ?_⟩
 obtain ⟨a, q, n, c, h1, h2, h3, h4, h5, h6⟩ := h.2 i ks hi
 refine ⟨a, q, n, c, h1, h2, cell_upd h3 hu (by rw [add_block]; exact hS _ h2), ⟨h4.1, h4.2.upd hu fun a' ha hne => hS _ (h5 (by rintro rfl; exact hne rfl) a' ha)⟩, h5, h6⟩
def crashM (KS : List (List Int)) (i : Nat) (M : List Mem) : List Mem := M.mapIdx fun j m => if j < i then { m with d := crashD m.d (KS.getD j []) } else m
theorem crashM_len (KS : List (List Int)) (i : Nat) (M : List Mem) : (crashM KS i M).length = M.length := by simp [crashM]
end
end Go.Proofs.YtkolafpgbhpdlaaGreat
namespace Go.Proofs.YtkolafpgbhpdlaaGreat
open Go Go.Vc
section
variable {w : World} {a : Nat} {M : List Mem} {left : Int} {down : Bool} {F : Nat → Prop}
theorem afail_out (h : IsArr w a M left down F) {i : Int} (hi : ¬ (0 ≤ i ∧ i < M.length)) : Calls Tryz.prog 20 #[.pointer (some (at0 a)), .int .i64 i] w fun e w' => e = .returned (.int .i64 1) ∧ w' = w := by
 refine (F20_calls (some (at0 a)) i  w (fun v w' => v = .int .i64 1 ∧ w' = w) ?_).mono (by rintro e w' ⟨v, rfl, rfl, h⟩; exact ⟨rfl, h⟩)
 refine (there_spec h i).mono ?_
 rintro e w7 ⟨rfl, rfl⟩
 exact ⟨_, rfl, condB_of (fun _ => ⟨rfl, rfl⟩) fun h0 => by simp only [Bool.not_eq_false', decide_eq_true_eq] at h0; exact absurd h0 hi⟩
theorem areplace_out (h : IsArr w a M left down F) {i : Int} (hi : ¬ (0 ≤ i ∧ i < M.length)) : Calls Tryz.prog 21 #[.pointer (some (at0 a)), .int .i64 i] w fun e w' => e = .returned (.int .i64 1) ∧ w' = w := by
 refine (F21_calls (some (at0 a)) i  w (fun v w' => v = .int .i64 1 ∧ w' = w) ?_).mono (by rintro e w' ⟨v, rfl, rfl, h⟩; exact ⟨rfl, h⟩)
 refine (there_spec h i).mono ?_
 rintro e w7 ⟨rfl, rfl⟩
 exact ⟨_, rfl, condB_of (fun _ => ⟨rfl, rfl⟩) fun h0 => by simp only [Bool.not_eq_false', decide_eq_true_eq] at h0; exact absurd h0 hi⟩
theorem acorrupt_out (h : IsArr w a M left down F) {i : Int} (hi : ¬ (0 ≤ i ∧ i < M.length)) (k t y : Int) : Calls Tryz.prog 22 #[.pointer (some (at0 a)), .int .i64 i, .int .i64 k, .int .i64 t, .int .u8 y] w fun e w' => e = .returned (.int .i64 1) ∧ w' = w := by
 refine (F22_calls (some (at0 a)) i k t y w (fun v w' => v = .int .i64 1 ∧ w' = w) ?_).mono (by rintro e w' ⟨v, rfl, rfl, h⟩; exact ⟨rfl, h⟩)
 refine (there_spec h i).mono ?_
 rintro e w7 ⟨rfl, rfl⟩
 exact ⟨_, rfl, condB_of (fun _ => ⟨rfl, rfl⟩) fun h0 => by simp only [Bool.not_eq_false', decide_eq_true_eq] at h0; exact absurd h0 hi⟩
theorem areplace_spec (h : IsArr w a M left down F) {i : Nat} {m : Mem} (hi : M[i]? = some m) :
  Calls Tryz.prog 21 #[.pointer (some (at0 a)), .int .i64 (i : Int)] w fun e w' => ∃ F', e = .returned (.int .i64 0) ∧ Step F F' w w' ∧
   IsArr w' a (M.set i ⟨{ m.d with dead := false, lasts := [], waits := [] }, IntKind.i64.wrap (m.births + 1)⟩) left down F' := by
 refine (F21_calls (some (at0 a)) (i : Int) w (fun v w' => ∃ F', v = .int .i64 0 ∧ Step F F' w w' ∧
   IsArr w' a (M.set i ⟨{ m.d with dead := false, lasts := [], waits := [] }, IntKind.i64.wrap (m.births + 1)⟩) left down F') ?_).mono (by rintro e w' ⟨v, rfl, F', rfl, h⟩; exact ⟨F', rfl, h⟩)
 have hil : i < M.length := (List.getElem?_eq_some_iff.1 hi).1
 refine (there_spec h (i : Int)).mono ?_
 rintro e w7 ⟨rfl, rfl⟩
 obtain ⟨ap, cm, b, Fi, e0, _, e1, e2, hd, _, hstep⟩ := h.at hi
 refine ⟨_, rfl, condB_of (fun h0 => by simp at h0; omega) fun _ => ⟨_, _, _, e0, ⟨by omega, by omega⟩, _, by rw [Int.toNat_natCast]; exact e1, ?_⟩⟩
 refine (d_replace hd).mono ?_
 rintro e w10 ⟨rfl, hs, hd'⟩
 obtain ⟨F2, h2, s2⟩ := hstep _ _ _ hs hd'
 obtain ⟨ap2, cm2, q0, q1, q2, q3⟩ := h2.born (i := i) (m := { m with d := { m.d with dead := false, lasts := [], waits := [] } }) (List.getElem?_set_self hil)
 rw [List.length_set] at q0
 rw [Int.toNat_natCast]
 refine ⟨rfl, _, _, _, q0, ⟨by omega, by omega⟩, _, q1, ⟨by omega, by omega⟩, q2, fun w17 s17 => ?_⟩
 obtain ⟨h3, s3⟩ := q3 _ _ s17
 rw [List.set_set] at h3
 exact ⟨F2, rfl, s2.trans s3, h3⟩
theorem acorrupt_spec (h : IsArr w a M left down F) {i : Nat} {m : Mem} (hi : M[i]? = some m) (k t : Int) (y : UInt8) (ht : -9223372036854775808 ≤ t ∧ t ≤ 9223372036854775807) :
  Calls Tryz.prog 22 #[.pointer (some (at0 a)), .int .i64 (i : Int), .int .i64 k, .int .i64 t, .int .u8 (y.toNat : Int)] w fun e w' => ∃ F', e = .returned (.int .i64 (corruptZ m.d k)) ∧ Step F F' w w' ∧
   IsArr w' a (M.set i { m with d := corruptD m.d k t y }) left down F' := by
 refine (F22_calls (some (at0 a)) (i : Int) k t (y.toNat : Int) w (fun v w' => ∃ F', v = .int .i64 (corruptZ m.d k) ∧ Step F F' w w' ∧
   IsArr w' a (M.set i { m with d := corruptD m.d k t y }) left down F') ?_).mono (by rintro e w' ⟨v, rfl, F', rfl, h⟩; exact ⟨F', rfl, h⟩)
 have hil : i < M.length := (List.getElem?_eq_some_iff.1 hi).1
 refine (there_spec h (i : Int)).mono ?_
 rintro e w7 ⟨rfl, rfl⟩
 obtain ⟨ap, cm, b, Fi, e0, _, e1, e2, hd, _, hstep⟩ := h.at hi
 refine ⟨_, rfl, condB_of (fun h0 => by simp at h0; omega) fun _ => ⟨_, _, _, e0, ⟨by omega, by omega⟩, _, by rw [Int.toNat_natCast]; exact e1, ?_⟩⟩
 refine (d_corrupt hd k t y ht).mono ?_
 rintro e w10 ⟨F', rfl, hs, hd'⟩
 obtain ⟨F2, h2, s2⟩ := hstep _ _ _ hs hd'
 exact ⟨_, rfl, F2, rfl, s2, h2⟩
theorem alasts_spec (h : IsArr w a M left down F) {i : Nat} {m : Mem} (hi : M[i]? = some m) :
  Calls Tryz.prog 26 #[.pointer (some (at0 a)), .int .i64 (i : Int)] w fun e w' => ∃ p l c, e = .returned (.slice p l c) ∧ Ext w w' ∧ HeldS w' w.heap.size p l c m.d.lasts := by
 refine (F26_calls (some (at0 a)) (i : Int) w (fun v w' => ∃ p l c, v = .slice p l c ∧ Ext w w' ∧ HeldS w' w.heap.size p l c m.d.lasts) ?_).mono (by rintro e w' ⟨v, rfl, p, l, c, rfl, h⟩; exact ⟨p, l, c, rfl, h⟩)
 have hil : i < M.length := (List.getElem?_eq_some_iff.1 hi).1
 refine (there_spec h (i : Int)).mono ?_
 rintro e w7 ⟨rfl, rfl⟩
 obtain ⟨ap, cm, b, Fi, e0, _, e1, e2, hd, _, _⟩ := h.at hi
 refine ⟨_, rfl, condB_of (fun h0 => by simp at h0; omega) fun _ => ⟨_, _, _, e0, ⟨by omega, by omega⟩, _, by rw [Int.toNat_natCast]; exact e1, ?_⟩⟩
 refine (d_lasts hd).mono ?_
 rintro e w14 ⟨p, l, c, rfl, hx, _, hh⟩
 exact ⟨_, _, _, rfl, p, l, c, rfl, hx, hh⟩
theorem awaits_spec (h : IsArr w a M left down F) {i : Nat} {m : Mem} (hi : M[i]? = some m) :
  Calls Tryz.prog 24 #[.pointer (some (at0 a)), .int .i64 (i : Int)] w fun e w' => ∃ p l c, e = .returned (.slice p l c) ∧ Ext w w' ∧ HeldS w' w.heap.size p l c m.d.waits := by
 refine (F24_calls (some (at0 a)) (i : Int) w (fun v w' => ∃ p l c, v = .slice p l c ∧ Ext w w' ∧ HeldS w' w.heap.size p l c m.d.waits) ?_).mono (by rintro e w' ⟨v, rfl, p, l, c, rfl, h⟩; exact ⟨p, l, c, rfl, h⟩)
 have hil : i < M.length := (List.getElem?_eq_some_iff.1 hi).1
 refine (there_spec h (i : Int)).mono ?_
 rintro e w7 ⟨rfl, rfl⟩
 obtain ⟨ap, cm, b, Fi, e0, _, e1, e2, hd, _, _⟩ := h.at hi
 refine ⟨_, rfl, condB_of (fun h0 => by simp at h0; omega) fun _ => ⟨_, _, _, e0, ⟨by omega, by omega⟩, _, by rw [Int.toNat_natCast]; exact e1, ?_⟩⟩
 refine (d_waits hd).mono ?_
 rintro e w14 ⟨p, l, c, rfl, hx, _, hh⟩
 exact ⟨_, _, _, rfl, p, l, c, rfl, hx, hh⟩
theorem aread_out (h : IsArr w a M left false F) {i : Int} (hi : ¬ (0 ≤ i ∧ i < M.length)) (k : Int) : Calls Tryz.prog 61 #[.pointer (some (at0 a)), .int .i64 i, .int .i64 k] w fun e w' => e = .returned (.tuple #[.slice none 0 0, .int .i64 1]) ∧ w' = w := by
 refine (F61_calls (some (at0 a)) i k w (fun v w' => v = .tuple #[.slice none 0 0, .int .i64 1] ∧ w' = w) ?_).mono (by rintro e w' ⟨v, rfl, rfl, h⟩; exact ⟨rfl, h⟩)
 refine (adown_spec h).mono ?_
 rintro e w4 ⟨rfl, rfl⟩
 refine ⟨_, rfl, condB_of (fun h => by cases h) fun _ => (there_spec h i).mono ?_⟩
 rintro e w7 ⟨rfl, rfl⟩
 exact ⟨_, rfl, condB_of (fun _ => ⟨rfl, rfl⟩) fun h0 => by simp only [Bool.not_eq_false', decide_eq_true_eq] at h0; exact absurd h0 hi⟩
theorem awrite_down (h : IsArr w a M left true F) (i k : Int) (p : Option Addr) (l c : Nat) : Calls Tryz.prog 69 #[.pointer (some (at0 a)), .int .i64 i, .int .i64 k, .slice p l c] w fun e w' => e = .returned (.int .i64 130) ∧ w' = w := by
 refine (F69_calls (some (at0 a)) i k p l c w (fun v w' => v = .int .i64 130 ∧ w' = w) ?_).mono (by rintro e w' ⟨v, rfl, rfl, h⟩; exact ⟨rfl, h⟩)
 refine (adown_spec h).mono ?_
 rintro e w4 ⟨rfl, rfl⟩
 exact ⟨_, rfl, condB_of (fun _ => ⟨rfl, rfl⟩) fun h => by cases h⟩
def flushM (i : Nat) (M : List Mem) : List Mem := M.mapIdx fun j m => if j < i then { m with d := flushD m.d } else m
theorem flushM_len (i : Nat) (M : List Mem) : (flushM i M).length = M.length := by simp [flushM]
end
end Go.Proofs.YtkolafpgbhpdlaaGreat
namespace Go.Proofs.YtkolafpgbhpdlaaGreat
open Go Go.Vc Go.ChangeShapes Go.WideShapes Go.ChangeAt Go.RowKit
theorem lawOwn : ownKnob Tryz.prog.godebug = none := by kernel_rfl
theorem lawLaid : laidOutB Tryz.prog = true := by kernel_rfl
theorem trodAll_below {H : Type} {enc : TypeId × Value → H} {P : Program} (hl : laidOutB P = true) {W W' : World} (hb : RowKit.Below W.heap.size W W') :
  ∀ {ts : List TypeId} {vs : List Value} {ds : List (DataW H)} {ps : List MemPlace}, (ts.all fun t => P.readableRec t && decide (t < P.types.size)) = true → (∀ x ∈ ps, x.block < W.heap.size) →
   DataW.TrodAll enc P W 0 (fun _ => true) true ts vs ds ps → DataW.TrodAll enc P W' 0 (fun b => decide (b < W.heap.size)) true ts vs ds ps
 | [], [], [], _, _, _, h => h
 | t :: ts, v :: vs, d :: ds, _, hr, hlt, h => by
  obtain ⟨p, q, h1, h2, rfl⟩ := h
  simp only [List.all_cons, Bool.and_eq_true, decide_eq_true_eq] at hr
  exact ⟨p, q, Below.trod hl hr.1.1 hr.1.2 h1 hb fun x hx => hlt x (by simp [hx]), trodAll_below hl hb hr.2 (fun x hx => hlt x (by simp [hx])) h2, rfl⟩
 | [], _ :: _, _, _, _, _, h => h.elim
 | [], [], _ :: _, _, _, _, h => h.elim
 | _ :: _, [], _, _, _, _, h => h.elim
 | _ :: _, _ :: _, [], _, _, _, h => h.elim
theorem post_true {H : Type} {enc : TypeId × Value → H} {P : Program} (hl : laidOutB P = true) {f : Func} {s : ChangeSpec} {W W' : World} {args : Array Value} {ds : List (DataW H)} {before : List MemPlace} {tb : TypeId}
  (hvars : s.vars = []) (hr : (f.params.toList.all fun t => P.readableRec t && decide (t < P.types.size)) = true) (hres : f.resultTypes = #[tb]) (htb : P.underlying tb = some .bool)
  (hW : DataW.Whole enc P f.params.toList s.vars false W args.toList ds [] before) (hfn : s.fn H (ds ++ []) = { results := [.lit (.bool true)], args := ds }) (hb : RowKit.Below W.heap.size W W') :
  s.post enc P f false true false false W args (.bool true) W' := by
 have hW' := hW
 obtain ⟨p, q, hA, hV, rfl, hfz, hnd⟩ := hW
 rw [hvars] at hV
 obtain ⟨_, rfl⟩ := trodVars_none hV
 have hlt : ∀ x ∈ p, x.block < W.heap.size := fun x hx => hW'.lt x (by simp [hx])
 refine ⟨ds, [], p ++ [], [], p, [], hW', ?_, ?_, ?_, hb.frame _, fun h => by cases h⟩
 ·rw [hfn, hres]
  exact trodAll_cons_mk (shut_bool htb _) trodAll_mk0
 ·rw [hfn]
  exact trodAll_below hl hb hr hlt hA
 ·rw [hfn, hvars]
  rfl
end Go.Proofs.YtkolafpgbhpdlaaGreat
namespace Go.Proofs.YtkolafpgbhpdlaaGreat
open Go Go.Vc
theorem cellx {w w' : World} {a : Addr} {v : Value} (h : w.cell? a = some v) (hu : Ext w w') : w'.cell? a = some v := cell_upd h hu id
structure CallA where
 kind : Int
 d : Int
 n : Int
 m : Int
 y : UInt8
 b : List UInt8
 keep : List (List Int)
structure CallAAt (w : World) (a : Addr) (c : CallA) (p5 : Option Addr) (l5 c5 : Nat) (p6 : Option Addr) (l6 c6 : Nat) : Prop where
 kind : w.cell? a = some (.int .i64 c.kind)
 d : w.cell? (a.add 1) = some (.int .i64 c.d)
 n : w.cell? (a.add 2) = some (.int .i64 c.n)
 m : w.cell? (a.add 3) = some (.int .i64 c.m)
 y : w.cell? (a.add 4) = some (.int .u8 (c.y.toNat : Int))
 b : w.cell? (a.add 5) = some (.slice p5 l5 c5)
 bytes : BytesAt w p5 l5 c.b
 keep : w.cell? (a.add 6) = some (.slice p6 l6 c6)
 ints : l6 = c.keep.length ∧ ∀ i ks, c.keep[i]? = some ks → ∃ a q n c, p6 = some a ∧ w.cell? (a.add (i * 1)) = some (.slice q n c) ∧ IntsAt w q n ks
 nr : -9223372036854775808 ≤ c.n ∧ c.n ≤ 9223372036854775807
 mr : -9223372036854775808 ≤ c.m ∧ c.m ≤ 9223372036854775807
def CallsAAt (w : World) (p : Option Addr) (l : Nat) (L : List CallA) : Prop :=
 l = L.length ∧ ∀ i c, L[i]? = some c → ∃ a p5 l5 c5 p6 l6 c6, p = some a ∧ CallAAt w (a.add (i * 7)) c p5 l5 c5 p6 l6 c6
theorem CallAAt.ext {w w' : World} {a : Addr} {c : CallA} {p5 : Option Addr} {l5 c5 : Nat} {p6 : Option Addr} {l6 c6 : Nat} (h : CallAAt w a c p5 l5 c5 p6 l6 c6) (hu : Ext w w') : CallAAt w' a c p5 l5 c5 p6 l6 c6 :=
 ⟨cellx h.kind hu, cellx h.d hu, cellx h.n hu, cellx h.m hu, cellx h.y hu, cellx h.b hu, h.bytes.ext hu, cellx h.keep hu, ⟨h.ints.1, fun i ks hi => by
  obtain ⟨a, q, n, c, h1, h2, h3⟩ := h.ints.2 i ks hi
  exact ⟨a, q, n, c, h1, cellx h2 hu, h3.1, h3.2.ext hu⟩⟩, h.nr, h.mr⟩
theorem CallsAAt.ext {w w' : World} {p : Option Addr} {l : Nat} {L : List CallA} (h : CallsAAt w p l L) (hu : Ext w w') : CallsAAt w' p l L :=
 ⟨h.1, fun i c hi => by
  obtain ⟨a, p5, l5, c5, p6, l6, c6, hp, hc⟩ := h.2 i c hi
  exact ⟨a, p5, l5, c5, p6, l6, c6, hp, hc.ext hu⟩⟩
structure CallA2 (w w0 : World) (a : Addr) (c : CallA) (p5 : Option Addr) (l5 c5 : Nat) (p6 : Option Addr) (l6 c6 : Nat) : Prop where
 kind : w.cell? a = some (.int .i64 c.kind)
 d : w.cell? (a.add 1) = some (.int .i64 c.d)
 n : w.cell? (a.add 2) = some (.int .i64 c.n)
 m : w.cell? (a.add 3) = some (.int .i64 c.m)
 y : w.cell? (a.add 4) = some (.int .u8 (c.y.toNat : Int))
 b : w.cell? (a.add 5) = some (.slice p5 l5 c5)
 bytes : BytesAt w0 p5 l5 c.b
 keep : w.cell? (a.add 6) = some (.slice p6 l6 c6)
 ints : l6 = c.keep.length ∧ ∀ i ks, c.keep[i]? = some ks → ∃ a q n c, p6 = some a ∧ w0.cell? (a.add (i * 1)) = some (.slice q n c) ∧ IntsAt w0 q n ks
 nr : -9223372036854775808 ≤ c.n ∧ c.n ≤ 9223372036854775807
 mr : -9223372036854775808 ≤ c.m ∧ c.m ≤ 9223372036854775807
theorem CallA2.now {w w0 w' : World} {S : Nat → Prop} {a : Addr} {c : CallA} {p5 : Option Addr} {l5 c5 : Nat} {p6 : Option Addr} {l6 c6 : Nat} (h : CallA2 w w0 a c p5 l5 c5 p6 l6 c6) (hu : Upd S w w') (hS : ¬ S a.block) (hx : Ext w0 w') :
  CallAAt w' a c p5 l5 c5 p6 l6 c6 :=
 have k : ∀ (j : Nat) (v : Value), w.cell? (a.add j) = some v → w'.cell? (a.add j) = some v := fun j v hv => cell_upd hv hu (by rw [add_block]; exact hS)
 ⟨cell_upd h.kind hu hS, k 1 _ h.d, k 2 _ h.n, k 3 _ h.m, k 4 _ h.y, k 5 _ h.b, h.bytes.ext hx, k 6 _ h.keep, ⟨h.ints.1, fun i ks hi => by
  obtain ⟨a, q, n, c, h1, h2, h3⟩ := h.ints.2 i ks hi
  exact ⟨a, q, n, c, h1, cellx h2 hx, h3.1, h3.2.ext hx⟩⟩, h.nr, h.mr⟩
structure StA where
 M : List Mem
 left : Int
 down : Bool
def onDisk (s : StA) (d : Int) (f : Mem → Mem) : StA := match s.M[d.toNat]? with
 | some m => if 0 ≤ d then { s with M := s.M.set d.toNat (f m) } else s
 | none => s
def writeA (s : StA) (d n : Int) (b : List UInt8) : StA :=
 if s.down then s else if 0 ≤ d then match s.M[d.toNat]? with
  | some m => ⟨s.M.set d.toNat { m with d := writeD m.d n b }, if writeZ m.d n b.length = 0 ∧ 0 < s.left then s.left - 1 else s.left, decide (writeZ m.d n b.length = 0 ∧ s.left = 1)⟩
  | none => s
 else s
def callA (s : StA) (c : CallA) : StA :=
 if c.kind = 1 then writeA s c.d c.n c.b
 else if c.kind = 3 then (if s.down then s else { s with M := flushM s.M.length s.M })
 else if c.kind = 4 then (if s.down then s else ⟨s.M, if c.n < -1 then -1 else c.n, decide (c.n = 0)⟩)
 else if c.kind = 5 then ⟨crashM c.keep s.M.length s.M, -1, false⟩
 else if c.kind = 6 then onDisk s c.d fun m => ⟨{ m.d with dead := true, lasts := [], waits := [] }, IntKind.i64.wrap (m.births + 1)⟩
 else if c.kind = 7 then onDisk s c.d fun m => ⟨{ m.d with dead := false, lasts := [], waits := [] }, IntKind.i64.wrap (m.births + 1)⟩
 else if c.kind = 8 then onDisk s c.d fun m => { m with d := corruptD m.d c.n c.m c.y }
 else s
end Go.Proofs.YtkolafpgbhpdlaaGreat
namespace Go.Proofs.YtkolafpgbhpdlaaGreat
open Go Go.Vc
def IsA (w : World) (a : Nat) (s : StA) (F : Nat → Prop) : Prop := IsArr w a s.M s.left s.down F
def OkA (s : StA) : Prop := s.M.length ≤ 32 ∧ -1 ≤ s.left ∧ s.left ≤ 9223372036854775807
theorem in_range {M : List Mem} {d : Int} (h : 0 ≤ d ∧ d < M.length) : ∃ (i : Nat) (m : Mem), d = i ∧ M[i]? = some m := by
 refine ⟨d.toNat, M[d.toNat]'(by omega), by omega, List.getElem?_eq_getElem _⟩
section
variable {w : World} {a : Nat} {s : StA} {F : Nat → Prop}
theorem onDisk_in {d : Int} {i : Nat} {m : Mem} (f : Mem → Mem) (hd : d = i) (hm : s.M[i]? = some m) : onDisk s d f = { s with M := s.M.set i (f m) } := by
 subst hd
 unfold onDisk
 rw [Int.toNat_natCast, hm]
 simp
theorem onDisk_out {d : Int} (f : Mem → Mem) (h : ¬ (0 ≤ d ∧ d < s.M.length)) : onDisk s d f = s := by
 unfold onDisk
 split
 ·rename_i m hm
  have := (List.getElem?_eq_some_iff.1 hm).1
  rw [if_neg (by omega)]
 ·rfl
theorem fail_any (h : IsA w a s F) (d : Int) : Calls Tryz.prog 20 #[.pointer (some (at0 a)), .int .i64 d] w fun e w' => ∃ F' z, e = .returned (.int .i64 z) ∧ Step F F' w w' ∧
  IsA w' a (onDisk s d fun m => ⟨{ m.d with dead := true, lasts := [], waits := [] }, IntKind.i64.wrap (m.births + 1)⟩) F' := by
 by_cases hr : 0 ≤ d ∧ d < s.M.length
 ·obtain ⟨i, m, rfl, hm⟩ := in_range hr
  refine (afail_spec h hm).mono ?_
  rintro e w' ⟨F', rfl, hs, h'⟩
  exact ⟨F', _, rfl, hs, by rw [onDisk_in _ rfl hm]; exact h'⟩
 ·refine (afail_out h hr).mono ?_
  rintro e w' ⟨rfl, rfl⟩
  exact ⟨F, _, rfl, Step.refl _ _, by rw [onDisk_out _ hr]; exact h⟩
theorem replace_any (h : IsA w a s F) (d : Int) : Calls Tryz.prog 21 #[.pointer (some (at0 a)), .int .i64 d] w fun e w' => ∃ F' z, e = .returned (.int .i64 z) ∧ Step F F' w w' ∧
  IsA w' a (onDisk s d fun m => ⟨{ m.d with dead := false, lasts := [], waits := [] }, IntKind.i64.wrap (m.births + 1)⟩) F' := by
 by_cases hr : 0 ≤ d ∧ d < s.M.length
 ·obtain ⟨i, m, rfl, hm⟩ := in_range hr
  refine (areplace_spec h hm).mono ?_
  rintro e w' ⟨F', rfl, hs, h'⟩
  exact ⟨F', _, rfl, hs, by rw [onDisk_in _ rfl hm]; exact h'⟩
 ·refine (areplace_out h hr).mono ?_
  rintro e w' ⟨rfl, rfl⟩
  exact ⟨F, _, rfl, Step.refl _ _, by rw [onDisk_out _ hr]; exact h⟩
theorem corrupt_any (h : IsA w a s F) (d k t : Int) (y : UInt8) (ht : -9223372036854775808 ≤ t ∧ t ≤ 9223372036854775807) : Calls Tryz.prog 22 #[.pointer (some (at0 a)), .int .i64 d, .int .i64 k, .int .i64 t, .int .u8 (y.toNat : Int)] w fun e w' => ∃ F' z, e = .returned (.int .i64 z) ∧ Step F F' w w' ∧
  IsA w' a (onDisk s d fun m => { m with d := corruptD m.d k t y }) F' := by
 by_cases hr : 0 ≤ d ∧ d < s.M.length
 ·obtain ⟨i, m, rfl, hm⟩ := in_range hr
  refine (acorrupt_spec h hm k t y ht).mono ?_
  rintro e w' ⟨F', rfl, hs, h'⟩
  exact ⟨F', _, rfl, hs, by rw [onDisk_in _ rfl hm]; exact h'⟩
 ·refine (acorrupt_out h hr k t _).mono ?_
  rintro e w' ⟨rfl, rfl⟩
  exact ⟨F, _, rfl, Step.refl _ _, by rw [onDisk_out _ hr]; exact h⟩
end
end Go.Proofs.YtkolafpgbhpdlaaGreat
namespace Go.Proofs.YtkolafpgbhpdlaaGreat
open Go Go.Vc
theorem onDisk_len (s : StA) (d : Int) (f : Mem → Mem) : (onDisk s d f).M.length = s.M.length ∧ (onDisk s d f).left = s.left := by
 unfold onDisk
 split
 ·split
  ·exact ⟨List.length_set, rfl⟩
  ·exact ⟨rfl, rfl⟩
 ·exact ⟨rfl, rfl⟩
theorem OkA.write {s : StA} (h : OkA s) (d n : Int) (b : List UInt8) : OkA (writeA s d n b) := by
 obtain ⟨h1, h2, h3⟩ := h
 unfold writeA
 split
 ·exact ⟨h1, h2, h3⟩
 split
 ·split
  ·have key : ∀ (q : Prop) [Decidable q], (q → 0 < s.left) → -1 ≤ (if q then s.left - 1 else s.left) ∧ (if q then s.left - 1 else s.left) ≤ 9223372036854775807 := by
    intro q _ hq
    by_cases h : q
    ·have := hq h
     rw [if_pos h]; omega
    ·rw [if_neg h]; omega
   exact ⟨by simpa using h1, key _ fun h => h.2⟩
  ·exact ⟨h1, h2, h3⟩
 ·exact ⟨h1, h2, h3⟩
theorem OkA.call {s : StA} (h : OkA s) {c : CallA} (hn : -9223372036854775808 ≤ c.n ∧ c.n ≤ 9223372036854775807) : OkA (callA s c) := by
 have hd := h
 obtain ⟨h1, h2, h3⟩ := hd
 have ho : ∀ f, OkA (onDisk s c.d f) := fun f => by
  obtain ⟨a, b⟩ := onDisk_len s c.d f
  exact ⟨by rw [a]; exact h1, by rw [b]; exact h2, by rw [b]; exact h3⟩
 unfold callA
 split
 ·exact h.write _ _ _
 split
 ·split
  ·exact h
  ·exact ⟨by rw [flushM_len]; exact h1, h2, h3⟩
 split
 ·split
  ·exact h
  ·refine ⟨h1, ?_, ?_⟩
   ·show -1 ≤ (if _ then _ else _)
    split <;> omega
   ·show (if _ then _ else _) ≤ _
    split <;> omega
 split
 ·refine ⟨by rw [crashM_len]; exact h1, ?_, ?_⟩
  ·show (-1 : Int) ≤ -1
   omega
  ·show (-1 : Int) ≤ _
   omega
 split
 ·exact ho _
 split
 ·exact ho _
 split
 ·exact ho _
 ·exact h
end Go.Proofs.YtkolafpgbhpdlaaGreat
namespace Go.Proofs.YtkolafpgbhpdlaaGreat
open Go Go.Vc
theorem cutB {w : World} {p : Option Addr} {l c : Nat} {bs : List UInt8} (h : BytesAt w p l bs) {a b : Nat} (hb : b ≤ l) (ha : a ≤ b) (hc : l ≤ c) :
  BytesAt w (cutP p c a 1) (b - a) ((bs.take b).drop a) := by
 have hl := h.1
 refine ⟨by simp; omega, fun hne => ?_⟩
 have hab : a < b := by
  rcases Nat.lt_or_ge a b with h1 | h1
  ·exact h1
  ·exact (hne (List.eq_nil_of_length_eq_zero (by simp; omega))).elim
 obtain ⟨x, rfl, hx⟩ := h.2 (by rintro rfl; simp at hl; omega)
 unfold cutP
 rw [if_neg (by omega)]
 refine ⟨_, rfl, fun i hi => ?_⟩
 have hi' : i < b - a := by simp at hi; omega
 rw [Nat.mul_one, add_add, hx (a + i) (by omega)]
 congr 4
 simp only [List.getD_eq_getElem?_getD, List.getElem?_drop, List.getElem?_take]
 rw [if_pos (by omega)]
def sh (x : Int) (n : Int) : Int := x.fdiv (2 ^ (min n.toNat IntKind.u32.bits))
def crcBit (x : Int) : Int := bitsV .xor .u32 (x.fdiv (2 ^ (min (1 : Int).toNat IntKind.u32.bits))) (bitsV .and .u32 (2197175160 : Int) (IntKind.u32.wrap (0 - (bitsV .and .u32 x (1 : Int)))))
def crcBits : Nat → Int → Int
 | 0, x => x
 | n + 1, x => crcBit (crcBits n x)
def crcByte (x : Int) (b : UInt8) : Int :=
 if bitsV .and .u32 (bitsV .xor .u32 x (IntKind.u32.wrap (b.toNat : Int))) (255 : Int) = 0 then (bitsV .xor .u32 x (IntKind.u32.wrap (b.toNat : Int))).fdiv (2 ^ (min (8 : Int).toNat IntKind.u32.bits))
 else crcBits 8 (bitsV .xor .u32 x (IntKind.u32.wrap (b.toNat : Int)))
theorem crcByte_pos {x : Int} {b : UInt8} (h : bitsV .and .u32 (bitsV .xor .u32 x (IntKind.u32.wrap (b.toNat : Int))) (255 : Int) = 0) :
  crcByte x b = (bitsV .xor .u32 x (IntKind.u32.wrap (b.toNat : Int))).fdiv (2 ^ (min (8 : Int).toNat IntKind.u32.bits)) := if_pos h
theorem crcByte_neg {x : Int} {b : UInt8} (h : bitsV .and .u32 (bitsV .xor .u32 x (IntKind.u32.wrap (b.toNat : Int))) (255 : Int) ≠ 0) :
  crcByte x b = crcBits 8 (bitsV .xor .u32 x (IntKind.u32.wrap (b.toNat : Int))) := if_neg h
def crcNot (x : Int) : Int := bitsV .xor .u32 (if IntKind.u32.signed then -1 else IntKind.u32.max) x
def crcOn (x : Int) (bs : List UInt8) : Int := crcNot (bs.foldl crcByte (crcNot x))
def crcM (bs : List UInt8) : Int := crcOn 0 bs
theorem u32_range (n : Int) : 0 ≤ IntKind.u32.wrap n ∧ IntKind.u32.wrap n < 4294967296 := by rw [IntKind.wrap_u32']; omega
theorem crcM_range (bs : List UInt8) : 0 ≤ crcM bs ∧ crcM bs < 4294967296 := u32_range _
theorem take_succ_fold {α : Type} (f : α → UInt8 → α) (x : α) (bs : List UInt8) {i : Nat} (hi : i < bs.length) :
  (bs.take (i + 1)).foldl f x = f ((bs.take i).foldl f x) (bs.getD i 0) := by
 rw [List.take_add_one, List.getElem?_eq_getElem hi, List.foldl_append]
 simp [List.getD_eq_getElem?_getD, List.getElem?_eq_getElem hi]
set_option maxHeartbeats 800000 in
theorem more_spec (x : Int) {p : Option Addr} {l c : Nat} {w : World} {bs : List UInt8} (h : BytesAt w p l bs) (hm : l ≤ 4611686018427387904) :
  Calls Tryz.prog 135 #[.int .u32 x, .slice p l c] w fun e w' => e = .returned (.int .u32 (crcOn x bs)) ∧ w' = w := by
 have hl := h.1
 refine (F135_calls x p l c w (fun v w' => v = .int .u32 (crcOn x bs) ∧ w' = w)
  (fun _ _ _ _ _ n7 n8 w9 => 0 ≤ n8 ∧ n8 ≤ l ∧ w9 = w ∧ n7 = (bs.take n8.toNat).foldl crcByte (crcNot x)) (fun _ _ _ _ _ _ n8 _ => (l - n8).toNat)
  (fun _ _ _ _ n8 _ n41 n42 w43 => 0 ≤ n42 ∧ n42 ≤ 8 ∧ w43 = w ∧ 0 ≤ n8 ∧ n8 < l ∧ n41 = crcBits n42.toNat (bitsV .xor .u32 ((bs.take n8.toNat).foldl crcByte (crcNot x)) (IntKind.u32.wrap ((bs.getD n8.toNat 0).toNat : Int))) ∧
   bitsV .and .u32 (bitsV .xor .u32 ((bs.take n8.toNat).foldl crcByte (crcNot x)) (IntKind.u32.wrap ((bs.getD n8.toNat 0).toNat : Int))) (255 : Int) ≠ 0)
  (fun _ _ _ _ _ _ _ n42 _ => (8 - n42).toNat) ?_).mono (by rintro e w' ⟨v, rfl, rfl, h⟩; exact ⟨rfl, h⟩)
 refine ⟨⟨by omega, by omega, rfl, rfl⟩, ?_⟩
 rintro n7 n8 w9 ⟨h0, h1, rfl, rfl⟩
 intros
 refine condB_of (fun ht => ?_) (fun ht => ?_)
 ·simp only [decide_eq_true_eq] at ht
  obtain ⟨a, rfl, ha⟩ := h.get (i := n8.toNat) (by omega)
  refine ⟨⟨h0, ht⟩, _, by rw [Nat.mul_one]; exact ha, condB_of (fun hz => ?_) (fun hz => ?_)⟩
  ·simp only [decide_eq_true_eq] at hz
   refine ⟨by omega, ?_⟩
   rw [w64 (n := n8 + 1) (by omega)]
   refine ⟨⟨by omega, by omega, rfl, ?_⟩, by show ((l : Int) - (n8 + 1)).toNat < ((l : Int) - n8).toNat; omega⟩
   rw [show (n8 + 1).toNat = n8.toNat + 1 by omega, take_succ_fold _ _ _ (by omega)]
   exact (crcByte_pos hz).symm
  ·simp only [decide_eq_false_iff_not] at hz
   refine ⟨⟨by omega, by omega, rfl, h0, ht, rfl, hz⟩, ?_⟩
   rintro n41 n42 w43 ⟨g0, g1, rfl, _, _, rfl, _⟩
   intros
   refine condB_of (fun hs => ?_) (fun hs => ?_)
   ·simp only [decide_eq_true_eq] at hs
    refine ⟨by omega, ?_⟩
    rw [w64 (n := n42 + 1) (by omega)]
    refine ⟨⟨by omega, by omega, rfl, h0, ht, ?_, hz⟩, by show ((8 : Int) - (n42 + 1)).toNat < ((8 : Int) - n42).toNat; omega⟩
    rw [show (n42 + 1).toNat = n42.toNat + 1 by omega]
    rfl
   ·simp only [decide_eq_false_iff_not] at hs
    rw [w64 (n := n8 + 1) (by omega)]
    refine ⟨⟨by omega, by omega, rfl, ?_⟩, by show ((l : Int) - (n8 + 1)).toNat < ((l : Int) - n8).toNat; omega⟩
    rw [show (n8 + 1).toNat = n8.toNat + 1 by omega, take_succ_fold _ _ _ (by omega)]
    rw [crcByte_neg hz, show n42.toNat = 8 by omega]
 ·simp only [decide_eq_false_iff_not] at ht
  refine ⟨?_, rfl⟩
  rw [show n8.toNat = bs.length by omega, List.take_length]
  rfl
theorem sum_spec {p : Option Addr} {l c : Nat} {w : World} {bs : List UInt8} (h : BytesAt w p l bs) (hm : l ≤ 4611686018427387904) :
  Calls Tryz.prog 99 #[.slice p l c] w fun e w' => e = .returned (.int .u32 (crcM bs)) ∧ w' = w := by
 refine (F99_calls p l c w (fun v w' => v = .int .u32 (crcM bs) ∧ w' = w) ?_).mono (by rintro e w' ⟨v, rfl, rfl, h⟩; exact ⟨rfl, h⟩)
 refine (more_spec 0 h hm).mono ?_
 rintro e w' ⟨rfl, rfl⟩
 exact ⟨_, rfl, rfl, rfl⟩
def numStep (n : Int) (b : UInt8) : Int := bitsV .or .u32 (IntKind.u32.wrap (n * 2 ^ (min (8 : Int).toNat IntKind.u32.bits))) (IntKind.u32.wrap (b.toNat : Int))
def numM (bs : List UInt8) : Int := bs.foldl numStep 0
theorem number_spec {p : Option Addr} {l c : Nat} {w : World} {bs : List UInt8} (h : BytesAt w p l bs) (hm : l ≤ 4611686018427387904) :
  Calls Tryz.prog 98 #[.slice p l c] w fun e w' => e = .returned (.int .u32 (numM bs)) ∧ w' = w := by
 have hl := h.1
 refine (F98_calls p l c w (fun v w' => v = .int .u32 (numM bs) ∧ w' = w)
  (fun _ _ _ _ _ n6 n7 w8 => 0 ≤ n7 ∧ n7 ≤ l ∧ w8 = w ∧ n6 = (bs.take n7.toNat).foldl numStep 0) (fun _ _ _ _ _ _ n7 _ => (l - n7).toNat) ?_).mono (by rintro e w' ⟨v, rfl, rfl, h⟩; exact ⟨rfl, h⟩)
 refine ⟨⟨by omega, by omega, rfl, rfl⟩, ?_⟩
 rintro n6 n7 w8 ⟨h0, h1, rfl, rfl⟩
 intros
 refine condB_of (fun ht => ?_) (fun ht => ?_)
 ·simp only [decide_eq_true_eq] at ht
  obtain ⟨a, rfl, ha⟩ := h.get (i := n7.toNat) (by omega)
  refine ⟨⟨h0, ht⟩, _, by rw [Nat.mul_one]; exact ha, by omega, ?_⟩
  rw [w64 (n := n7 + 1) (by omega)]
  refine ⟨⟨by omega, by omega, rfl, ?_⟩, by show ((l : Int) - (n7 + 1)).toNat < ((l : Int) - n7).toNat; omega⟩
  rw [show (n7 + 1).toNat = n7.toNat + 1 by omega, take_succ_fold _ _ _ (by omega)]
  rfl
 ·simp only [decide_eq_false_iff_not] at ht
  refine ⟨?_, rfl⟩
  rw [show n7.toNat = bs.length by omega, List.take_length]
  rfl
theorem u8b (b : UInt8) : b.toNat < 256 := UInt8.toNat_lt b
theorem numStep_eq {n : Int} (h0 : 0 ≤ n) (h1 : n < 16777216) (b : UInt8) : numStep n b = n * 256 + (b.toNat : Int) := by
 have hb := u8b b
 unfold numStep
 have e1 : IntKind.u32.wrap (n * 2 ^ (min (8 : Int).toNat IntKind.u32.bits)) = ((n.toNat <<< 8 : Nat) : Int) := by
  have : (2 : Int) ^ (min (8 : Int).toNat IntKind.u32.bits) = 256 := rfl
  rw [this, IntKind.wrap_u32', Nat.shiftLeft_eq]
  omega
 have e2 : IntKind.u32.wrap (b.toNat : Int) = (b.toNat : Int) := by rw [IntKind.wrap_u32']; omega
 rw [e1, e2]
 show IntKind.u32.wrap (((BitVec.ofInt 32 ((n.toNat <<< 8 : Nat) : Int)) ||| (BitVec.ofInt 32 (b.toNat : Int))).toNat : Int) = _
 have hs : n.toNat <<< 8 = n.toNat * 256 := by rw [Nat.shiftLeft_eq]
 rw [BitVec.toNat_or, ofInt_u32 _ (by omega), ofInt_u32 _ (by omega), ← Nat.shiftLeft_add_eq_or_of_lt (by omega : b.toNat < 2 ^ 8), IntKind.wrap_u32', hs]
 omega
theorem num4 (a b c d : UInt8) : numM [a, b, c, d] = ((a.toNat * 256 + b.toNat) * 256 + c.toNat) * 256 + d.toNat := by
 have ha := u8b a; have hb := u8b b; have hc := u8b c
 simp only [numM, List.foldl_cons, List.foldl_nil]
 rw [numStep_eq (n := 0) (by omega) (by omega) a, numStep_eq (n := 0 * 256 + (a.toNat : Int)) (by omega) (by omega) b, numStep_eq (n := (0 * 256 + (a.toNat : Int)) * 256 + (b.toNat : Int)) (by omega) (by omega) c,
  numStep_eq (n := ((0 * 256 + (a.toNat : Int)) * 256 + (b.toNat : Int)) * 256 + (c.toNat : Int)) (by omega) (by omega) d]
 omega
def fourM (x : Int) : List UInt8 := [UInt8.ofNat (x.toNat / 16777216), UInt8.ofNat (x.toNat / 65536), UInt8.ofNat (x.toNat / 256), UInt8.ofNat x.toNat]
theorem fourM_len (x : Int) : (fourM x).length = 4 := rfl
theorem num_four {x : Int} (h0 : 0 ≤ x) (h1 : x < 4294967296) : numM (fourM x) = x := by
 unfold fourM
 rw [num4]
 simp only [UInt8.toNat_ofNat']
 omega
theorem four_num {bs : List UInt8} (h : bs.length = 4) : 0 ≤ numM bs ∧ numM bs < 4294967296 ∧ fourM (numM bs) = bs := by
 match bs, h with
 | [a, b, c, d], _ =>
  have ha := u8b a; have hb := u8b b; have hc := u8b c; have hd := u8b d
  rw [num4]
  refine ⟨by omega, by omega, ?_⟩
  unfold fourM
  have e : ∀ {n : Nat} {x : UInt8}, n % 256 = x.toNat → UInt8.ofNat n = x := fun {n x} h => UInt8.toNat_inj.1 (by rw [UInt8.toNat_ofNat']; exact h)
  rw [e (x := a) (by omega), e (x := b) (by omega), e (x := c) (by omega), e (x := d) (by omega)]
theorem byte_of {x : Int} (h0 : 0 ≤ x) (k : Nat) : IntKind.u8.wrap (x.fdiv ((k : Nat) : Int)) = ((UInt8.ofNat (x.toNat / k)).toNat : Int) := by
 rw [UInt8.toNat_ofNat']
 have : IntKind.u8.wrap (x.fdiv ((k : Nat) : Int)) = x.fdiv ((k : Nat) : Int) % 256 := by simp [IntKind.wrap, IntKind.bits, IntKind.signed]
 rw [this, Int.fdiv_eq_ediv_of_nonneg _ (by omega)]
 obtain ⟨n, rfl⟩ := Int.eq_ofNat_of_zero_le h0
 simp
theorem four_spec (x : Int) (h0 : 0 ≤ x) (w : World) : Calls Tryz.prog 107 #[.int .u32 x] w fun e w' => e = .returned (.agg ((encB (fourM x)).toArray)) ∧ Ext w w' := by
 refine (F107_calls x w (fun v w' => v = .agg ((encB (fourM x)).toArray) ∧ Ext w w') ?_).mono (by rintro e w' ⟨v, rfl, rfl, h⟩; exact ⟨rfl, h⟩)
 intro k w3 hk
 have r3 : RowW w3 k #[.int .u8 0, .int .u8 0, .int .u8 0, .int .u8 0] := ⟨_, hk.at⟩
 have e0 : (at0 k) = (at0 k).add 0 := (add_at0 k 0).symm
 refine ⟨by omega, by omega, by omega, by rw [e0]; exact r3.live (by simp), fun w4 s4 => ?_⟩
 rw [e0] at s4
 have r4 := s4.row r3
 refine ⟨r4.live (by simp), fun w5 s5 => ?_⟩
 have r5 := s5.row r4
 refine ⟨r5.live (by simp), fun w6 s6 => ?_⟩
 have r6 := s6.row r5
 refine ⟨r6.live (by simp), fun w7 s7 => ?_⟩
 have r7 := s7.row r6
 have x4 : Ext w w4 := setc_new hk.ext (by rw [hk.size.1]; exact Nat.le_refl _) s4
 have x5 : Ext w w5 := setc_new x4 (by rw [hk.size.1]; exact Nat.le_refl _) s5
 have x6 : Ext w w6 := setc_new x5 (by rw [hk.size.1]; exact Nat.le_refl _) s6
 have x7 : Ext w w7 := setc_new x6 (by rw [hk.size.1]; exact Nat.le_refl _) s7
 refine ⟨_, by rw [e0]; exact r7.row.cell rfl, _, r7.row.cell rfl, _, r7.row.cell rfl, _, r7.row.cell rfl, ?_, x7⟩
 have b0 := byte_of h0 16777216
 have b1 := byte_of h0 65536
 have b2 := byte_of h0 256
 have b3 := byte_of h0 1
 rw [Nat.div_one] at b3
 have b3' : IntKind.u8.wrap x = IntKind.u8.wrap (x.fdiv ((1 : Nat) : Int)) := by simp [Int.fdiv_one]
 show Value.agg #[.int .u8 (IntKind.u8.wrap (x.fdiv ((16777216 : Nat) : Int))), .int .u8 (IntKind.u8.wrap (x.fdiv ((65536 : Nat) : Int))), .int .u8 (IntKind.u8.wrap (x.fdiv ((256 : Nat) : Int))), .int .u8 (IntKind.u8.wrap x)] = _
 rw [b0, b1, b2, b3', b3]
 rfl
theorem fits_spec (n : Int) (w : World) : Calls Tryz.prog 97 #[.int .i64 n] w fun e w' => e = .returned (.bool (decide (0 ≤ n ∧ n ≤ 2147483647))) ∧ w' = w := by
 refine (F97_calls n w (fun v w' => v = .bool (decide (0 ≤ n ∧ n ≤ 2147483647)) ∧ w' = w) ?_).mono (by rintro e w' ⟨v, rfl, rfl, h⟩; exact ⟨rfl, h⟩)
 refine condB_of (fun h => ⟨?_, rfl⟩) (fun h => ⟨?_, rfl⟩)
 ·simp only [decide_eq_true_eq] at h
  congr 1
  simp [h]
 ·simp only [decide_eq_false_iff_not] at h
  rw [decide_eq_false (fun h' => h h'.1)]
end Go.Proofs.YtkolafpgbhpdlaaGreat
namespace Go.Proofs.YtkolafpgbhpdlaaGreat
open Go Go.Vc
def fitsP (n : Int) : Prop := 0 ≤ n ∧ n ≤ 2147483647
instance (n : Int) : Decidable (fitsP n) := inferInstanceAs (Decidable (_ ∧ _))
def unpackOk (addr : Int) (b : List UInt8) : Prop :=
 12 ≤ b.length ∧ b.length ≤ 4108 ∧ fitsP addr ∧ numM (b.drop (b.length - 4)) = crcM (b.take (b.length - 4)) ∧ numM (b.take 4) = addr ∧ numM ((b.take 8).drop 4) ≤ 2147483647
instance (addr : Int) (b : List UInt8) : Decidable (unpackOk addr b) := inferInstanceAs (Decidable (_ ∧ _ ∧ _ ∧ _ ∧ _ ∧ _))
def unpackM (addr : Int) (b : List UInt8) : Option (Int × List UInt8) :=
 if unpackOk addr b then some (numM ((b.take 8).drop 4), (b.take (b.length - 4)).drop 8) else none
def UnP (addr : Int) (bs : List UInt8) (w : World) (v : Value) (w' : World) : Prop :=
 Ext w w' ∧ match unpackM addr bs with
 | none => v = .tuple #[.int .i64 0, .slice none 0 0, .int .i64 110]
 | some (n, d) => ∃ p c, v = .tuple #[.int .i64 n, .slice p d.length c, .int .i64 0] ∧ OwnS w' w.heap.size 5 1 p d.length c (encB d)
theorem UnP.bad {addr : Int} {bs : List UInt8} {w w' : World} (hx : Ext w w') (h : ¬ unpackOk addr bs) : UnP addr bs w (.tuple #[.int .i64 0, .slice none 0 0, .int .i64 110]) w' := by
 refine ⟨hx, ?_⟩
 unfold unpackM
 rw [if_neg h]
set_option maxHeartbeats 1000000 in
theorem unpack_spec (addr : Int) {p : Option Addr} {l c : Nat} {w : World} {bs : List UInt8} (h : BytesAt w p l bs) (hm : l ≤ 4611686018427387904) (hc : l ≤ c) :
  Calls Tryz.prog 64 #[.int .i64 addr, .slice p l c] w fun e w' => ∃ v, e = .returned v ∧ UnP addr bs w v w' := by
 refine F64_calls addr p l c w (fun v w' => UnP addr bs w v w') ?_
 have hl := h.1
 unfold F64
 rw [w64 (n := (l : Int) - 4) (by omega)]
 refine condB_of (fun h1 => ?_) (fun h1 => ?_)
 ·simp only [decide_eq_true_eq] at h1
  exact UnP.bad (Upd.refl _ _) fun hk => by have := hk.1; omega
 simp only [decide_eq_false_iff_not] at h1
 refine condB_of (fun h2 => ?_) (fun h2 => ?_)
 ·simp only [decide_eq_true_eq] at h2
  exact UnP.bad (Upd.refl _ _) fun hk => by have := hk.2.1; omega
 simp only [decide_eq_false_iff_not] at h2
 refine (fits_spec addr w).mono ?_
 rintro e w3 ⟨rfl, rfl⟩
 refine ⟨_, rfl, condB_of (fun h3 => ?_) (fun h3 => ?_)⟩
 ·simp only [Bool.not_eq_true', decide_eq_false_iff_not] at h3
  exact UnP.bad (Upd.refl _ _) fun hk => h3 hk.2.2.1
 simp only [Bool.not_eq_false', decide_eq_true_eq] at h3
 have hn : ((l : Int) - 4).toNat = l - 4 := by omega
 rw [hn]
 refine ⟨⟨by omega, by omega⟩, ⟨by omega, by decide⟩, ?_⟩
 refine (number_spec (cutB h (a := 4) (b := 8) (by omega) (by omega) hc) (by omega)).mono ?_
 rintro e w4 ⟨rfl, rfl⟩
 refine ⟨_, rfl, fun w9 hd => ⟨⟨by omega, by omega⟩, ⟨by omega, by omega⟩, ?_⟩⟩
 have hx : Ext w4 w9 := hd.ext
 have h9 := h.ext hx
 have c1 := cutB h9 (c := c) (a := l - 4) (b := l) (Nat.le_refl _) (by omega) hc
 have e1 : bs.take l = bs := by rw [hl]; exact List.take_length
 rw [e1] at c1
 refine (number_spec c1 (by omega)).mono ?_
 rintro e w5 ⟨rfl, rfl⟩
 refine ⟨_, rfl, ?_⟩
 have c2 := cutB h9 (c := c) (a := 0) (b := l - 4) (by omega) (by omega) hc
 rw [List.drop_zero] at c2
 refine (sum_spec c2 (by omega)).mono ?_
 rintro e w6 ⟨rfl, rfl⟩
 refine ⟨_, rfl, condB_of (fun h4 => ?_) (fun h4 => ?_)⟩
 ·simp only [Bool.not_eq_true', decide_eq_false_iff_not] at h4
  exact UnP.bad hx fun hk => h4 (by rw [hl]; exact hk.2.2.2.1)
 simp only [Bool.not_eq_false', decide_eq_true_eq] at h4
 have c3 := cutB h9 (c := c) (a := 0) (b := 4) (by omega) (by omega) hc
 rw [List.drop_zero] at c3
 refine ⟨⟨by omega, by omega⟩, ?_⟩
 refine (number_spec c3 (by omega)).mono ?_
 rintro e w7 ⟨rfl, rfl⟩
 have eu : IntKind.u32.wrap addr = addr := by rw [IntKind.wrap_u32']; have := h3.1; have := h3.2; omega
 rw [eu]
 refine ⟨_, rfl, condB_of (fun h5 => ?_) (fun h5 => ?_)⟩
 ·simp only [Bool.not_eq_true', decide_eq_false_iff_not] at h5
  exact UnP.bad hx fun hk => h5 hk.2.2.2.2.1
 simp only [Bool.not_eq_false', decide_eq_true_eq] at h5
 refine condB_of (fun h6 => ?_) (fun h6 => ?_)
 ·simp only [decide_eq_true_eq] at h6
  exact UnP.bad hx fun hk => by have := hk.2.2.2.2.2; omega
 simp only [decide_eq_false_iff_not] at h6
 refine ⟨⟨by omega, by omega⟩, ⟨by omega, by omega⟩, ?_⟩
 have c4 := cutB h9 (c := c) (a := 8) (b := l - 4) (by omega) (by omega) hc
 obtain ⟨a, rfl, _⟩ := h9.get (i := 0) (by omega)
 refine (clone_spec (c := c - 8) c4 (by omega) (fun hp => by unfold cutP addO at hp; split at hp <;> cases hp)).mono ?_
 rintro e w8 ⟨p', c', rfl, hx8, ho, _⟩
 have hok : unpackOk addr bs := ⟨by omega, by omega, h3, by rw [← hl]; exact h4, h5, by omega⟩
 have h4n := four_num (bs := (bs.take 8).drop 4) (by simp; omega)
 refine ⟨_, _, _, rfl, hx.trans hx8, ?_⟩
 unfold unpackM
 rw [if_pos hok, w64 (by omega)]
 have hlen : ((bs.take (bs.length - 4)).drop 8).length = l - 4 - 8 := by simp; omega
 refine ⟨p', c', ?_, ?_⟩
 ·show Value.tuple _ = Value.tuple #[.int .i64 (numM ((bs.take 8).drop 4)), .slice p' ((bs.take (bs.length - 4)).drop 8).length c', .int .i64 0]
  rw [hlen]
 ·show OwnS w8 _ _ 1 p' ((bs.take (bs.length - 4)).drop 8).length c' (encB ((bs.take (bs.length - 4)).drop 8))
  rw [hlen, ← hl]
  exact ho.base_le hx.size
def packH (addr epoch : Int) (d : List UInt8) : List UInt8 := fourM addr ++ (fourM epoch ++ d)
def packM (addr epoch : Int) (d : List UInt8) : List UInt8 := packH addr epoch d ++ fourM (crcM (packH addr epoch d))
theorem packH_len (addr epoch : Int) (d : List UInt8) : (packH addr epoch d).length = 8 + d.length := by simp [packH, fourM_len]; omega
theorem packM_len (addr epoch : Int) (d : List UInt8) : (packM addr epoch d).length = 12 + d.length := by simp [packM, packH_len, fourM_len]; omega
theorem unpack_pack {addr epoch : Int} {d : List UInt8} (ha : fitsP addr) (he : fitsP epoch) (hd : d.length ≤ 4096) : unpackM addr (packM addr epoch d) = some (epoch, d) := by
 have hl := packM_len addr epoch d
 have hh := packH_len addr epoch d
 have e1 : (packM addr epoch d).take (8 + d.length) = packH addr epoch d := by
  unfold packM
  rw [List.take_append_of_le_length (by omega), ← hh, List.take_length]
 have e2 : (packM addr epoch d).drop (8 + d.length) = fourM (crcM (packH addr epoch d)) := by
  unfold packM
  rw [← hh, List.drop_left]
 have e3 : (packM addr epoch d).take 4 = fourM addr := by
  unfold packM packH
  rw [List.append_assoc, List.take_append_of_le_length (by rw [fourM_len]; omega)]
  rfl
 have e4 : ((packM addr epoch d).take 8).drop 4 = fourM epoch := by
  have : (packM addr epoch d) = (fourM addr ++ fourM epoch) ++ (d ++ fourM (crcM (packH addr epoch d))) := by
   unfold packM
   rw [show packH addr epoch d = fourM addr ++ (fourM epoch ++ d) from rfl]
   simp [List.append_assoc]
  rw [this, List.take_append_of_le_length (by simp [fourM_len])]
  rfl
 have hn : (packM addr epoch d).length - 4 = 8 + d.length := by omega
 have hcr := crcM_range (packH addr epoch d)
 unfold unpackM
 rw [if_pos]
 ·rw [e4, hn, e1, num_four he.1 (by have := he.2; omega)]
  congr 1
 ·refine ⟨by omega, by omega, ha, ?_, ?_, ?_⟩
  ·rw [hn, e1, e2, num_four hcr.1 hcr.2]
  ·rw [e3, num_four ha.1 (by have := ha.2; omega)]
  ·rw [e4, num_four he.1 (by have := he.2; omega)]; exact he.2
def paste (a : Nat) (xs bs : List UInt8) : List UInt8 := bs.take a ++ (xs ++ bs.drop (a + xs.length))
theorem paste_mid {a : Nat} {xs u v t : List UInt8} (ha : u.length = a) (hv : v.length = xs.length) : paste a xs (u ++ (v ++ t)) = u ++ (xs ++ t) := by
 unfold paste
 rw [List.take_left' ha, ← List.append_assoc u v t, List.drop_left' (by simp; omega)]
theorem setRow_upd (w : World) (g : Nat) (cs : Array Value) : Upd (fun b => b = g) w (w.setRow g cs) :=
 ⟨rfl, rfl, rfl, by simp [World.setRow], fun k _ hS => by
  unfold World.setRow
  rw [Array.getElem?_modify, if_neg (fun e => hS e.symm)]⟩
theorem run_copy_none {P : Program} (w : World) (dT sT ty elem : TypeId) (a : Addr) (dLen dCap c : Nat) (hu : P.underlying dT = some (.slice elem)) (hs : ((P.info? elem).map (·.size)).isSome = true) :
  (Builtin.copy_ #[dT, sT] ty #[.slice (some a) dLen dCap, .slice none 0 c]).run P w = .ok (goInt 0) w := by
 cases hq : P.info? elem with
 | none => simp [hq] at hs
 | some i => simp [Builtin.copy_, run_underlying hu, Builtin.lenOf, Builtin.firstCells, sizeOf, typeInfo, hq, storeCells]
theorem copy_bytes {w : World} {g a dCap : Nat} {bs xs : List UInt8} (hg : w.heap[g]? = some (.cells (encB bs).toArray 5 (0, 0))) (ha : a + xs.length ≤ bs.length)
  {p : Option Addr} {l c : Nat} (h : BytesAt w p l xs) :
  ∃ n : Int, ∃ w', Sem.run Tryz.prog (Builtin.copy_ #[25, 25] 3 #[.slice (some ((at0 g).add (a * 1))) (bs.length - a) dCap, .slice p l c]) w = .ok (.int .i64 n) w' ∧
   w'.heap[g]? = some (.cells (encB (paste a xs bs)).toArray 5 (0, 0)) ∧ Upd (fun b => b = g) w w' := by
 have hl := h.1
 rw [add_at0, Nat.mul_one]
 cases p with
 | none =>
  have hx : xs = [] := by
   refine Decidable.byContradiction fun hn => ?_
   obtain ⟨a, ha, _⟩ := h.2 hn
   cases ha
  subst hx
  obtain rfl : l = 0 := hl
  refine ⟨0, w, ?_, ?_, Upd.refl _ _⟩
  ·exact run_copy_none (P := Tryz.prog) w 25 25 3 5 _ _ _ _ (by kernel_rfl) (by kernel_rfl)
  ·rw [hg]; simp [paste]
 | some q =>
  have hcs := h.cells
  have hr := run_copy_row (P := Tryz.prog) w 25 25 3 5 g a (bs.length - a) dCap q l c (encB bs).toArray 5 (encB xs) (by kernel_rfl) (by kernel_rfl) hg
   (by rw [encB_length]; show _ = min _ _; omega) (fun j v hj => by
    obtain ⟨a', ha', hv⟩ := hcs j v hj
    cases ha'
    exact hv) (by simp [encB_length]; omega) (encB_one xs)
  have he : (encB bs).toArray.toList.take a ++ encB xs ++ (encB bs).toArray.toList.drop (a + (encB xs).length) = encB (paste a xs bs) := by
   simp [paste, encB, List.map_take, List.map_drop]
  rw [he] at hr
  exact ⟨((encB xs).length : Int), w.setRow g (encB (paste a xs bs)).toArray, hr, setRow_heap _ _ _ _ _ _ hg, setRow_upd _ _ _⟩
end Go.Proofs.YtkolafpgbhpdlaaGreat
namespace Go.Proofs.YtkolafpgbhpdlaaGreat
open Go Go.Vc
def RowB (w : World) (k : Nat) (bs : List UInt8) : Prop := w.heap[k]? = some (.cells (encB bs).toArray 5 (0, 0))
theorem RowB.bytes {w : World} {k : Nat} {bs : List UInt8} (h : RowB w k bs) : BytesAt w (some (at0 k)) bs.length bs :=
 BytesAt.of_cells fun j u hj => ⟨_, rfl, Row.cell ⟨_, _, h⟩ (by simpa using hj)⟩
theorem RowB.upd {S : Nat → Prop} {w w' : World} {k : Nat} {bs : List UInt8} (h : RowB w k bs) (hu : Upd S w w') (hS : ¬ S k) : RowB w' k bs := hu.keep h hS
set_option maxHeartbeats 1000000 in
theorem pput_spec {w : World} {kc kb a : Nat} {L : Nat} {bs : List UInt8} {x : Int} (hx0 : 0 ≤ x) (hc : RowW w kc #[.slice (some (at0 kb)) L L]) (hb : RowB w kb bs) (hL : L = bs.length) (ha : a + 4 ≤ L) :
  Calls Tryz.prog 106 #[.int .i64 (a : Int), .int .u32 x, .pointer (some (at0 kc))] w fun e w' => e = .returned (.tuple #[]) ∧ Upd (fun b => b = kb) w w' ∧ RowB w' kb (paste a (fourM x) bs) := by
 refine (F106_calls (a : Int) x (at0 kc) w (fun v w' => v = .tuple #[] ∧ Upd (fun b => b = kb) w w' ∧ RowB w' kb (paste a (fourM x) bs)) ?_).mono (by rintro e w' ⟨v, rfl, rfl, h⟩; exact ⟨rfl, h⟩)
 refine (four_spec x hx0 w).mono ?_
 rintro e w4 ⟨rfl, hx4⟩
 refine ⟨_, _, _, _, rfl, fun k w11 hk => ?_⟩
 have r3 : RowW w11 k #[.int .u8 0, .int .u8 0, .int .u8 0, .int .u8 0] := ⟨_, hk.at⟩
 have e0 : (at0 k) = (at0 k).add 0 := (add_at0 k 0).symm
 refine ⟨by rw [e0]; exact r3.live (by simp), fun w12 s4 => ?_⟩
 rw [e0] at s4
 have r4 := s4.row r3
 refine ⟨r4.live (by simp), fun w13 s5 => ?_⟩
 have r5 := s5.row r4
 refine ⟨r5.live (by simp), fun w14 s6 => ?_⟩
 have r6 := s6.row r5
 refine ⟨r6.live (by simp), fun w15 s7 => ?_⟩
 have r7 := s7.row r6
 have hsz : w.heap.size ≤ k := by rw [hk.size.1]; exact hx4.size
 have x7 : Ext w w15 := setc_new (setc_new (setc_new (setc_new (hx4.trans hk.ext) hsz s4) hsz s5) hsz s6) hsz s7
 intro w16 hd
 have x8 : Ext w w16 := x7.trans hd.ext
 have hkc : RowW w16 kc _ := x8.rowW hc id
 have e1 : (at0 kc) = (at0 kc).add 0 := (add_at0 kc 0).symm
 refine ⟨_, _, _, by rw [e1]; exact hkc.row.cell rfl, ⟨by omega, by omega⟩, ?_⟩
 have hb16 : RowB w16 kb bs := hb.upd x8 id
 have hsrc : BytesAt w16 (some (at0 k)) 4 (fourM x) := by
  have this : RowW w16 k (encB (fourM x)).toArray := hd.ext.rowW r7 id
  exact BytesAt.of_cells (bs := fourM x) fun j u hj => ⟨_, rfl, Row.cell this.row (by rw [List.getElem?_toArray]; exact hj)⟩
 have hsrc' : BytesAt w16 (cutP (some (at0 k)) 4 0 1) (4 - 0) (fourM x) := cutB hsrc (b := 4) (a := 0) (by omega) (by omega) (by omega)
 obtain ⟨n, w', hr, hrow, hu⟩ := copy_bytes (dCap := L - a) (c := 4 - 0) hb16 (a := a) (by rw [fourM_len]; omega) hsrc'
 have hcut : cutP (some (at0 kb)) L ((a : Int).toNat) 1 = some ((at0 kb).add (a * 1)) := by
  unfold cutP
  rw [if_neg (by omega)]
  rfl
 rw [hcut]
 rw [← hL] at hr
 exact ⟨n, w', hr, rfl, Upd.trans (Ext.upd x8) hu fun y _ hy => hy, hrow⟩
theorem zeroB : zeroCellsOf Tryz.prog 5 = [.int .u8 0] := by kernel_rfl
theorem made_bytes (n : Nat) : madeRow Tryz.prog 5 n = (encB (List.replicate n 0)).toArray := by
 unfold madeRow
 rw [zeroB]
 congr 1
 induction n with
 | zero => rfl
 | succ n ih =>
  rw [List.replicate_succ, List.flatten_cons, ih, List.replicate_succ]
  rfl
theorem paste_take {a : Nat} {xs bs : List UInt8} (h : a ≤ bs.length) : (paste a xs bs).take a = bs.take a := by
 unfold paste
 rw [List.take_append_of_le_length (by simp; omega), List.take_take, Nat.min_self]
theorem paste_all (A B C X : List UInt8) (hA : A.length = 4) (hB : B.length = 4) (hC : C.length = 4) : paste (8 + X.length) C (paste 8 X (paste 4 B (paste 0 A (List.replicate (12 + X.length) 0)))) = (A ++ (B ++ X)) ++ C := by
 have e : (List.replicate (12 + X.length) 0 : List UInt8) = [] ++ (List.replicate 4 0 ++ (List.replicate 4 0 ++ (List.replicate X.length 0 ++ List.replicate 4 0))) := by
  simp only [List.replicate_append_replicate, List.nil_append]
  congr 1; omega
 rw [e, paste_mid (a := 0) rfl (by simp [hA]), List.nil_append, paste_mid (a := 4) hA (by simp [hB]), ← List.append_assoc A B, paste_mid (a := 8) (by simp [hA, hB]) (by simp)]
 have : (A ++ B) ++ (X ++ List.replicate 4 0) = ((A ++ B) ++ X) ++ (List.replicate 4 0 ++ []) := by simp
 rw [this, paste_mid (by simp [hA, hB]; omega) (by simp [hC])]
 simp
set_option maxHeartbeats 1000000 in
theorem pack_spec (addr epoch : Int) {p : Option Addr} {l c : Nat} {w : World} {d : List UInt8} (h : BytesAt w p l d) (hm : l ≤ 4611686018427387904) :
  Calls Tryz.prog 68 #[.int .i64 addr, .int .i64 epoch, .slice p l c] w fun e w' => Ext w w' ∧
   if fitsP addr ∧ fitsP epoch ∧ d.length ≤ 4096 then ∃ k c', w.heap.size ≤ k ∧ e = .returned (.tuple #[.slice (some (at0 k)) (packM addr epoch d).length c', .int .i64 0]) ∧ BytesAt w' (some (at0 k)) (packM addr epoch d).length (packM addr epoch d)
   else e = .returned (.tuple #[.slice none 0 0, .int .i64 1]) := by
 refine (F68_calls addr epoch p l c w (fun v w' => Ext w w' ∧ if fitsP addr ∧ fitsP epoch ∧ d.length ≤ 4096 then ∃ k c', w.heap.size ≤ k ∧ v = .tuple #[.slice (some (at0 k)) (packM addr epoch d).length c', .int .i64 0] ∧ BytesAt w' (some (at0 k)) (packM addr epoch d).length (packM addr epoch d)
   else v = .tuple #[.slice none 0 0, .int .i64 1]) ?_).mono (by
  rintro e w' ⟨v, rfl, hx, h⟩
  refine ⟨hx, ?_⟩
  split at h
  ·rw [if_pos (by assumption)]; obtain ⟨k, c', h0, rfl, h⟩ := h; exact ⟨k, c', h0, rfl, h⟩
  ·rw [if_neg (by assumption), h])
 have hl := h.1
 refine (fits_spec addr w).mono ?_
 rintro e w4 ⟨rfl, rfl⟩
 refine ⟨_, rfl, condB_of (fun h1 => ?_) (fun h1 => ?_)⟩
 ·simp only [Bool.not_eq_true', decide_eq_false_iff_not] at h1
  exact ⟨Upd.refl _ _, by rw [if_neg (fun hk => h1 hk.1)]⟩
 simp only [Bool.not_eq_false', decide_eq_true_eq] at h1
 refine (fits_spec epoch w4).mono ?_
 rintro e w5 ⟨rfl, rfl⟩
 refine ⟨_, rfl, condB_of (fun h2 => ?_) (fun h2 => ?_)⟩
 ·simp only [Bool.not_eq_true', decide_eq_false_iff_not] at h2
  exact ⟨Upd.refl _ _, by rw [if_neg (fun hk => h2 hk.2.1)]⟩
 simp only [Bool.not_eq_false', decide_eq_true_eq] at h2
 refine condB_of (fun h3 => ?_) (fun h3 => ?_)
 ·simp only [decide_eq_true_eq] at h3
  exact ⟨Upd.refl _ _, by rw [if_neg (fun hk => by have := hk.2.2; omega)]⟩
 simp only [decide_eq_false_iff_not] at h3
 have hfit : fitsP addr ∧ fitsP epoch ∧ d.length ≤ 4096 := ⟨h1, h2, by omega⟩
 have w1 : IntKind.i64.wrap ((12 : Int) + (l : Int)) = ((12 + l : Nat) : Int) := by rw [w64 (by omega)]; omega
 have w2 : IntKind.i64.wrap ((8 : Int) + (l : Int)) = ((8 + l : Nat) : Int) := by rw [w64 (by omega)]; omega
 rw [w1, w2]
 refine ⟨⟨by omega, by omega, by have : (2 : Int) ^ 48 = 281474976710656 := rfl; rw [this]; omega⟩, fun kb w11 hkb kc w13 hkc => ?_⟩
 have e0 : (at0 kc) = (at0 kc).add 0 := (add_at0 kc 0).symm
 have r13 : RowW w13 kc #[.slice none 0 0] := ⟨_, hkc.at⟩
 refine ⟨by rw [e0]; exact r13.live (by simp), fun w14 s14 => ?_⟩
 rw [e0] at s14
 have r14 : RowW w14 kc #[.slice (some (at0 kb)) (12 + l) (12 + l)] := s14.row r13
 have hbsz : w5.heap.size ≤ kb := by rw [hkb.size.1]; exact Nat.le_refl _
 have hcsz : w5.heap.size ≤ kc := by rw [hkc.size.1]; exact hkb.ext.size
 have hne : kb ≠ kc := by
  rw [hkc.size.1]
  exact Nat.ne_of_lt (lt_of_heap hkb.at)
 have hcne : kc ≠ kb := fun e => hne e.symm
 have x14 : Ext w5 w14 := setc_new (hkb.ext.trans hkc.ext) hcsz s14
 have b11 : RowB w11 kb (List.replicate (12 + l) 0) := by
  have := hkb.at
  rw [made_bytes] at this
  exact this
 have b14 : RowB w14 kb (List.replicate (12 + l) 0) := by
  refine (b11.upd hkc.ext id).upd s14.upd ?_
  rw [add_block]; exact hne
 have step : ∀ {w1 w2 : World}, Ext w5 w1 → Upd (fun b => b = kb) w1 w2 → Ext w5 w2 := fun hx hu => Upd.trans hx hu fun y hy he => by omega
 have fb : IntKind.u32.wrap addr = addr := by rw [IntKind.wrap_u32']; have := h1.1; have := h1.2; omega
 have fe : IntKind.u32.wrap epoch = epoch := by rw [IntKind.wrap_u32']; have := h2.1; have := h2.2; omega
 rw [fb, fe]
 refine (pput_spec (a := 0) h1.1 r14 b14 (by simp) (by omega)).mono ?_
 rintro e w15 ⟨rfl, u15, b15⟩
 refine ⟨rfl, ?_⟩
 have r15 : RowW w15 kc _ := u15.rowW r14 hcne
 have l15 : (paste 0 (fourM addr) (List.replicate (12 + l) 0)).length = 12 + l := by simp [paste, fourM_len]; omega
 refine (pput_spec (a := 4) h2.1 r15 b15 l15.symm (by omega)).mono ?_
 rintro e w17 ⟨rfl, u17, b17⟩
 have r17 : RowW w17 kc _ := u17.rowW r15 hcne
 have l17 : (paste 4 (fourM epoch) (paste 0 (fourM addr) (List.replicate (12 + l) 0))).length = 12 + l := by simp [paste, fourM_len]; omega
 refine ⟨rfl, _, _, _, by rw [e0]; exact r17.row.cell rfl, ⟨by omega, by omega⟩, ?_⟩
 have x17 : Ext w5 w17 := step (step x14 u15) u17
 obtain ⟨n, w20, hr, b20, u20⟩ := copy_bytes (dCap := 12 + l - 8) (c := c) b17 (a := 8) (by omega) (h.ext x17)
 have hcut : cutP (some (at0 kb)) (12 + l) ((8 : Int).toNat) 1 = some ((at0 kb).add (8 * 1)) := by
  unfold cutP
  rw [if_neg (show ¬ 12 + l = (8 : Int).toNat by have : (8 : Int).toNat = 8 := rfl; omega)]
  rfl
 rw [hcut]
 rw [l17] at hr
 have r20 : RowW w20 kc _ := u20.rowW r17 hcne
 refine ⟨n, w20, hr, _, _, _, by rw [e0]; exact r20.row.cell rfl, ⟨by omega, by omega⟩, ?_⟩
 have l20 : (paste 8 d (paste 4 (fourM epoch) (paste 0 (fourM addr) (List.replicate (12 + l) 0)))).length = 12 + l := by simp [paste, fourM_len]; omega
 have hB := RowB.bytes (show RowB w20 kb _ from b20)
 rw [l20] at hB
 have hB' := cutB hB (c := 12 + l) (a := 0) (b := 8 + l) (by omega) (by omega) (Nat.le_refl _)
 rw [List.drop_zero] at hB'
 refine (sum_spec hB' (by omega)).mono ?_
 rintro e w23 ⟨rfl, rfl⟩
 have hall := paste_all (fourM addr) (fourM epoch) (fourM (crcM (packH addr epoch d))) d rfl rfl rfl
 have hhead : (paste 8 d (paste 4 (fourM epoch) (paste 0 (fourM addr) (List.replicate (12 + l) 0)))).take (8 + l) = packH addr epoch d := by
  rw [hl]
  rw [hl] at l20
  have := congrArg (List.take (8 + d.length)) hall
  rw [paste_take (by omega)] at this
  rw [this, show fourM addr ++ (fourM epoch ++ d) = packH addr epoch d from rfl]
  exact List.take_left' (packH_len addr epoch d)
 rw [hhead]
 refine ⟨_, rfl, ?_⟩
 have hcr := crcM_range (packH addr epoch d)
 refine (pput_spec (a := 8 + l) hcr.1 r20 b20 l20.symm (by omega)).mono ?_
 rintro e w26 ⟨rfl, u26, b26⟩
 have r26 : RowW w26 kc _ := u26.rowW r20 hcne
 refine ⟨rfl, _, _, _, by rw [e0]; exact r26.row.cell rfl, step (step x17 u20) u26, ?_⟩
 rw [if_pos hfit]
 have hfin : paste (8 + l) (fourM (crcM (packH addr epoch d))) (paste 8 d (paste 4 (fourM epoch) (paste 0 (fourM addr) (List.replicate (12 + l) 0)))) = packM addr epoch d := by
  rw [hl]; exact hall
 rw [hfin] at b26
 have hpl : (packM addr epoch d).length = 12 + l := by rw [packM_len]; omega
 have := RowB.bytes (show RowB w26 kb _ from b26)
 refine ⟨kb, 12 + l, hbsz, by rw [hpl], this⟩
end Go.Proofs.YtkolafpgbhpdlaaGreat
namespace Go.Proofs.YtkolafpgbhpdlaaGreat
open Go Go.Vc
theorem band_nat (a b : Nat) (ha : a < 4294967296) (hb : b < 4294967296) : bitsV .and .u32 (a : Int) (b : Int) = ((a &&& b : Nat) : Int) := by
 show IntKind.u32.wrap (((BitVec.ofInt 32 (a : Int)) &&& (BitVec.ofInt 32 (b : Int))).toNat : Int) = _
 rw [BitVec.toNat_and, ofInt_u32 _ ha, ofInt_u32 _ hb, IntKind.wrap_u32']
 have : a &&& b ≤ a := Nat.and_le_left
 omega
theorem bxor_nat (a b : Nat) (ha : a < 4294967296) (hb : b < 4294967296) : bitsV .xor .u32 (a : Int) (b : Int) = ((a ^^^ b : Nat) : Int) ∧ a ^^^ b < 4294967296 := by
 have hx : a ^^^ b < 2 ^ 32 := Nat.xor_lt_two_pow (by omega) (by omega)
 refine ⟨?_, by omega⟩
 show IntKind.u32.wrap (((BitVec.ofInt 32 (a : Int)) ^^^ (BitVec.ofInt 32 (b : Int))).toNat : Int) = _
 rw [BitVec.toNat_xor, ofInt_u32 _ ha, ofInt_u32 _ hb, IntKind.wrap_u32']
 omega
def rbit (x : Int) : Int := if bitsV .and .u32 x (1 : Int) = (1 : Int) then bitsV .xor .u32 (x.fdiv (2 ^ (min (1 : Int).toNat IntKind.u32.bits))) (2197175160 : Int) else x.fdiv (2 ^ (min (1 : Int).toNat IntKind.u32.bits))
theorem half_nat (n : Nat) : (n : Int).fdiv (2 ^ (min (1 : Int).toNat IntKind.u32.bits)) = ((n / 2 : Nat) : Int) := by
 show (n : Int).fdiv (2 : Int) = _
 rw [Int.fdiv_eq_ediv_of_nonneg _ (by decide)]
 omega
theorem and_one (n : Nat) (h : n < 4294967296) : bitsV .and .u32 (n : Int) (1 : Int) = ((n % 2 : Nat) : Int) := by
 have := band_nat n 1 h (by omega)
 rw [Nat.and_one_is_mod] at this
 exact this
theorem rbit_crc {n : Nat} (h : n < 4294967296) : rbit n = crcBit n ∧ ∃ m : Nat, crcBit n = m ∧ m < 4294967296 := by
 have e1 := and_one n h
 have hP : (2197175160 : Int) = ((2197175160 : Nat) : Int) := rfl
 unfold rbit crcBit
 rw [e1, half_nat]
 rcases Nat.mod_two_eq_zero_or_one n with h0 | h0
 ·rw [h0]
  have hw : IntKind.u32.wrap (0 - ((0 : Nat) : Int)) = ((0 : Nat) : Int) := by rw [IntKind.wrap_u32']; rfl
  have ha : bitsV .and .u32 (2197175160 : Int) ((0 : Nat) : Int) = ((0 : Nat) : Int) := by
   rw [hP, band_nat _ _ (by omega) (by omega), Nat.and_zero]
  have hx := bxor_nat (n / 2) 0 (by omega) (by omega)
  rw [hw, ha, hx.1, Nat.xor_zero, if_neg (by decide)]
  exact ⟨rfl, n / 2, rfl, by omega⟩
 ·rw [h0]
  have hw : IntKind.u32.wrap (0 - ((1 : Nat) : Int)) = ((4294967295 : Nat) : Int) := by rw [IntKind.wrap_u32']; rfl
  have ha : bitsV .and .u32 (2197175160 : Int) ((4294967295 : Nat) : Int) = (2197175160 : Int) := by
   rw [hP, band_nat _ _ (by omega) (by omega)]
   decide
  have hx := bxor_nat (n / 2) 2197175160 (by omega) (by omega)
  rw [hw, ha, if_pos (show ((1 : Nat) : Int) = 1 from rfl)]
  exact ⟨rfl, _, hx.1, hx.2⟩
theorem crcBits_nat {n : Nat} (h : n < 4294967296) : ∀ k, ∃ m : Nat, crcBits k n = m ∧ m < 4294967296
 | 0 => ⟨n, rfl, h⟩
 | k + 1 => by
  obtain ⟨m, e, hm⟩ := crcBits_nat h k
  show ∃ m' : Nat, crcBit (crcBits k n) = m' ∧ _
  rw [e]
  exact (rbit_crc hm).2
theorem crcBit_half {t : Nat} (h : 2 * t < 4294967296) : crcBit ((2 * t : Nat) : Int) = (t : Int) := by
 rw [← (rbit_crc h).1]
 unfold rbit
 rw [and_one _ h, half_nat, show 2 * t % 2 = 0 by omega, show 2 * t / 2 = t by omega, if_neg (by decide)]
theorem crcBits_zero {m : Nat} (h : 256 * m < 4294967296) : crcBits 8 ((256 * m : Nat) : Int) = (m : Int) := by
 have s : ∀ k t : Nat, 2 * k * t < 4294967296 → crcBit ((2 * k * t : Nat) : Int) = ((k * t : Nat) : Int) := fun k t hk => by
  have := crcBit_half (t := k * t) (by rw [← Nat.mul_assoc]; exact hk)
  rw [← Nat.mul_assoc] at this
  exact this
 show crcBit (crcBit (crcBit (crcBit (crcBit (crcBit (crcBit (crcBit ((256 * m : Nat) : Int)))))))) = _
 rw [s 128 m (by omega), s 64 m (by omega), s 32 m (by omega), s 16 m (by omega), s 8 m (by omega), s 4 m (by omega), s 2 m (by omega), s 1 m (by omega), Nat.one_mul]
theorem crcByte_all (x : Int) (b : UInt8) : crcByte x b = crcBits 8 (bitsV .xor .u32 x (IntKind.u32.wrap (b.toNat : Int))) := by
 by_cases hz : bitsV .and .u32 (bitsV .xor .u32 x (IntKind.u32.wrap (b.toNat : Int))) (255 : Int) = 0
 ·rw [crcByte_pos hz]
  have hr : 0 ≤ bitsV .xor .u32 x (IntKind.u32.wrap (b.toNat : Int)) ∧ bitsV .xor .u32 x (IntKind.u32.wrap (b.toNat : Int)) < 4294967296 := u32_range _
  generalize bitsV .xor .u32 x (IntKind.u32.wrap (b.toNat : Int)) = y at hz hr
  obtain ⟨n, rfl⟩ := Int.eq_ofNat_of_zero_le hr.1
  have hn : n < 4294967296 := by omega
  have h1 := band_nat n 255 hn (by omega)
  have h2 : n &&& 255 = n % 256 := Nat.and_two_pow_sub_one_eq_mod n 8
  rw [h2] at h1
  have h3 : ((n % 256 : Nat) : Int) = 0 := h1.symm.trans hz
  have h4 := crcBits_zero (m := n / 256) (by omega)
  rw [show 256 * (n / 256) = n by omega] at h4
  rw [h4]
  show (n : Int).fdiv (256 : Int) = _
  rw [Int.fdiv_eq_ediv_of_nonneg _ (by decide)]
  omega
 ·exact crcByte_neg hz
theorem crcBit_nat {n : Nat} (h : n < 4294967296) : crcBit n = ((if n % 2 = 1 then n / 2 ^^^ 2197175160 else n / 2 : Nat) : Int) := by
 rw [← (rbit_crc h).1]
 unfold rbit
 rw [and_one n h, half_nat]
 by_cases h1 : n % 2 = 1
 ·rw [if_pos (by omega), if_pos h1]
  exact (bxor_nat (n / 2) 2197175160 (by omega) (by omega)).1
 ·rw [if_neg (by omega), if_neg h1]
theorem xor_ne {a b : Nat} (ha : a < 2147483648) (hb : b < 2147483648) : a ^^^ 2197175160 ≠ b := fun h => by
 have h1 : (a ^^^ 2197175160).testBit 31 = b.testBit 31 := by rw [h]
 have hp : (2197175160 : Nat).testBit 31 = true := by decide
 rw [Nat.testBit_xor, Nat.testBit_lt_two_pow (show a < 2 ^ 31 from ha), Nat.testBit_lt_two_pow (show b < 2 ^ 31 from hb), hp] at h1
 cases h1
theorem xor_cancel {a b c : Nat} (h : a ^^^ c = b ^^^ c) : a = b := by
 have h1 : (a ^^^ c) ^^^ c = (b ^^^ c) ^^^ c := by rw [h]
 rwa [Nat.xor_assoc, Nat.xor_self, Nat.xor_zero, Nat.xor_assoc, Nat.xor_self, Nat.xor_zero] at h1
theorem crcBit_inj {n m : Nat} (hn : n < 4294967296) (hm : m < 4294967296) (h : crcBit n = crcBit m) : n = m := by
 rw [crcBit_nat hn, crcBit_nat hm] at h
 have h := Int.ofNat.inj h
 by_cases h1 : n % 2 = 1
 ·by_cases h2 : m % 2 = 1
  ·rw [if_pos h1, if_pos h2] at h
   have := xor_cancel h
   omega
  ·rw [if_pos h1, if_neg h2] at h
   exact (xor_ne (by omega) (by omega) h).elim
 ·by_cases h2 : m % 2 = 1
  ·rw [if_neg h1, if_pos h2] at h
   exact (xor_ne (by omega) (by omega) h.symm).elim
  ·rw [if_neg h1, if_neg h2] at h
   omega
theorem crcBits_inj {n m : Nat} (hn : n < 4294967296) (hm : m < 4294967296) : ∀ k, crcBits k n = crcBits k m → n = m
 | 0, h => Int.ofNat.inj h
 | k + 1, h => by
  obtain ⟨a, ea, ha⟩ := crcBits_nat hn k
  obtain ⟨b, eb, hb⟩ := crcBits_nat hm k
  have h2 : crcBit (crcBits k n) = crcBit (crcBits k m) := h
  rw [ea, eb] at h2
  have := crcBit_inj ha hb h2
  subst this
  exact crcBits_inj hn hm k (by rw [ea, eb])
theorem crcByte_nat {n : Nat} (hn : n < 4294967296) (b : UInt8) : crcByte n b = crcBits 8 ((n ^^^ b.toNat : Nat) : Int) ∧ n ^^^ b.toNat < 4294967296 := by
 have hb := b.toNat_lt
 have hx := bxor_nat n b.toNat hn (by omega)
 rw [crcByte_all]
 have : IntKind.u32.wrap (b.toNat : Int) = (b.toNat : Int) := by rw [IntKind.wrap_u32']; omega
 rw [this, hx.1]
 exact ⟨rfl, hx.2⟩
theorem crcFold_nat {n : Nat} (hn : n < 4294967296) : ∀ bs : List UInt8, ∃ m : Nat, bs.foldl crcByte (n : Int) = m ∧ m < 4294967296
 | [] => ⟨n, rfl, hn⟩
 | b :: bs => by
  obtain ⟨h1, h2⟩ := crcByte_nat hn b
  obtain ⟨m, em, hm⟩ := crcBits_nat h2 8
  rw [List.foldl_cons, h1, em]
  exact crcFold_nat hm bs
theorem crcFold_inj : ∀ (bs : List UInt8) {n m : Nat} (_ : n < 4294967296) (_ : m < 4294967296), bs.foldl crcByte (n : Int) = bs.foldl crcByte (m : Int) → n = m
 | [], _, _, _, _, h => Int.ofNat.inj h
 | b :: bs, n, m, hn, hm, h => by
  obtain ⟨h1, h2⟩ := crcByte_nat hn b
  obtain ⟨h3, h4⟩ := crcByte_nat hm b
  obtain ⟨x, ex, hx⟩ := crcBits_nat h2 8
  obtain ⟨y, ey, hy⟩ := crcBits_nat h4 8
  rw [List.foldl_cons, List.foldl_cons, h1, h3, ex, ey] at h
  have := crcFold_inj bs hx hy h
  subst this
  exact xor_cancel (crcBits_inj h2 h4 8 (by rw [ex, ey]))
theorem crcNot_nat {n : Nat} (hn : n < 4294967296) : crcNot (n : Int) = ((4294967295 ^^^ n : Nat) : Int) ∧ 4294967295 ^^^ n < 4294967296 := bxor_nat 4294967295 n (by omega) hn
theorem crc_one (bs : List UInt8) {i : Nat} (hi : i < bs.length) {b : UInt8} (hb : b ≠ bs[i]) : crcM (bs.set i b) ≠ crcM bs := fun h => by
 have e0 := crcNot_nat (n := 0) (by omega)
 unfold crcM crcOn at h
 have hz : crcNot (0 : Int) = ((4294967295 ^^^ 0 : Nat) : Int) := e0.1
 rw [hz] at h
 obtain ⟨x, ex, hx⟩ := crcFold_nat e0.2 (bs.set i b)
 obtain ⟨y, ey, hy⟩ := crcFold_nat e0.2 bs
 have h1 := h
 rw [ex, ey, (crcNot_nat hx).1, (crcNot_nat hy).1] at h1
 have h2 := Int.ofNat.inj h1
 rw [Nat.xor_comm, Nat.xor_comm 4294967295 y] at h2
 have h3 := xor_cancel h2
 subst h3
 rw [← ey] at ex
 have s1 : bs = bs.take i ++ bs[i] :: bs.drop (i + 1) := by rw [List.getElem_cons_drop, List.take_append_drop]
 have s2 : bs.set i b = bs.take i ++ b :: bs.drop (i + 1) := by rw [List.set_eq_take_append_cons_drop, if_pos hi]
 rw [s2] at ex
 conv at ex => rhs; rw [s1]
 rw [List.foldl_append, List.foldl_append, List.foldl_cons, List.foldl_cons] at ex
 obtain ⟨u, eu, hu⟩ := crcFold_nat e0.2 (bs.take i)
 rw [eu] at ex
 obtain ⟨h4, h5⟩ := crcByte_nat hu b
 obtain ⟨h6, h7⟩ := crcByte_nat hu bs[i]
 obtain ⟨p, ep, hp⟩ := crcBits_nat h5 8
 obtain ⟨q, eq, hq⟩ := crcBits_nat h7 8
 rw [h4, h6, ep, eq] at ex
 have h8 := crcFold_inj _ hp hq ex
 subst h8
 have h9 := crcBits_inj h5 h7 8 (by rw [ep, eq])
 rw [Nat.xor_comm, Nat.xor_comm u] at h9
 exact hb (UInt8.toNat_inj.1 (xor_cancel h9))
theorem unpack_one {addr e : Int} {d : List UInt8} {i : Nat} (hi : i < (packM addr e d).length) {b : UInt8} (hb : b ≠ (packM addr e d)[i]) : unpackM addr ((packM addr e d).set i b) = none := by
 have hl := packM_len addr e d
 have hh := packH_len addr e d
 have hcr := crcM_range (packH addr e d)
 have hC : (fourM (crcM (packH addr e d))).length = 4 := fourM_len _
 have hcond : ¬ unpackOk addr ((packM addr e d).set i b) := by
  rintro ⟨_, _, _, h4, _⟩
  rw [List.length_set, show (packM addr e d).length - 4 = (packH addr e d).length by omega] at h4
  by_cases h : i < (packH addr e d).length
  ·have e1 : (packM addr e d).set i b = (packH addr e d).set i b ++ fourM (crcM (packH addr e d)) := by unfold packM; rw [List.set_append_left _ _ h]
   have hls : ((packH addr e d).set i b).length = (packH addr e d).length := List.length_set
   rw [e1, ← hls, List.drop_left, List.take_left, num_four hcr.1 hcr.2] at h4
   have hbi : b ≠ (packH addr e d)[i] := fun hbe => by
    have h6 : (packM addr e d)[i]? = some b := by unfold packM; rw [List.getElem?_append_left h, List.getElem?_eq_getElem h, hbe]
    rw [List.getElem?_eq_getElem hi] at h6
    exact hb (Option.some.inj h6).symm
   exact crc_one _ h hbi h4.symm
  ·have e1 : (packM addr e d).set i b = packH addr e d ++ (fourM (crcM (packH addr e d))).set (i - (packH addr e d).length) b := by unfold packM; rw [List.set_append_right _ _ (by omega)]
   rw [e1, List.drop_left, List.take_left] at h4
   have hf := four_num (bs := (fourM (crcM (packH addr e d))).set (i - (packH addr e d).length) b) (by rw [List.length_set]; exact hC)
   rw [h4] at hf
   have hset := hf.2.2
   have hk : i - (packH addr e d).length < (fourM (crcM (packH addr e d))).length := by omega
   have h5 : (fourM (crcM (packH addr e d)))[i - (packH addr e d).length]? = some b := by
    rw [hset, List.getElem?_set_self hk]
   have h6 : (packM addr e d)[i]? = some b := by unfold packM; rw [List.getElem?_append_right (by omega)]; exact h5
   rw [List.getElem?_eq_getElem hi] at h6
   exact hb (Option.some.inj h6).symm
 unfold unpackM
 rw [if_neg hcond]
end Go.Proofs.YtkolafpgbhpdlaaGreat
namespace Go.Proofs.YtkolafpgbhpdlaaGreat
open Go Go.Vc
theorem get_append {k : Int} {L M : SM} : get k (L ++ M) = (get k L).or (get k M) := by
 induction L with
 | nil => rfl
 | cons a L ih =>
  obtain ⟨k', x⟩ := a
  simp only [List.cons_append, Vc.get]
  split
  ·rfl
  ·exact ih
theorem get_filter_ne {k : Int} {q : Int → Bool} (hk : q k = true) : ∀ {L : SM}, get k (L.filter fun y => q y.1) = get k L
 | [] => rfl
 | (k', x) :: L => by
  by_cases h : k' = k
  ·subst h
   simp [List.filter, hk, Vc.get]
  ·rw [List.filter]
   split
   ·simp only [Vc.get, if_neg h]; exact get_filter_ne hk
   ·simp only [Vc.get, if_neg h]; exact get_filter_ne hk
theorem get_filter_no {k : Int} {q : Int → Bool} (hk : q k = false) : ∀ {L : SM}, get k (L.filter fun y => q y.1) = none
 | [] => rfl
 | (k', x) :: L => by
  by_cases h : k' = k
  ·subst h
   rw [List.filter]
   simp only [hk]
   exact get_filter_no hk
  ·rw [List.filter]
   split
   ·simp only [Vc.get, if_neg h]; exact get_filter_no hk
   ·exact get_filter_no hk
theorem get_ins (k k' : Int) (x : List UInt8) (L : SM) : get k (ins k' x L) = if k' = k then some x else get k L := by
 unfold ins
 rw [get_append]
 by_cases h : k' = k
 ·subst h
  rw [if_pos rfl, get_filter_no (q := fun z => decide (z < k')) (by simp)]
  simp [Vc.get]
 ·rw [if_neg h]
  simp only [Vc.get, if_neg h]
  by_cases hlt : k < k'
  ·rw [get_filter_ne (q := fun z => decide (z < k')) (by simpa using hlt), get_filter_no (q := fun z => decide (k' < z)) (by simp; omega)]
   simp
  ·rw [get_filter_no (q := fun z => decide (z < k')) (by simpa using hlt), get_filter_ne (q := fun z => decide (k' < z)) (by simp; omega)]
   simp
end Go.Proofs.YtkolafpgbhpdlaaGreat
namespace Go.Proofs.YtkolafpgbhpdlaaGreat
open Go Go.Vc
structure Geo where
 k : Int
 m : Int
 size : Int
 stripes : Int
 slots : Int
 objects : Int
abbrev gV (g : Geo) : Value := .agg #[.int .i64 g.k, .int .i64 g.m, .int .i64 g.size, .int .i64 g.stripes, .int .i64 g.slots, .int .i64 g.objects]
def GeoOk (g : Geo) : Prop := (1 ≤ g.k ∧ 0 ≤ g.m ∧ g.k + g.m ≤ 32) ∧ (1 ≤ g.size ∧ g.size ≤ 4096) ∧ (1 ≤ g.stripes ∧ g.stripes ≤ 256) ∧ (1 ≤ g.slots ∧ g.slots ≤ 64) ∧ (1 ≤ g.objects ∧ g.objects ≤ 64)
instance (g : Geo) : Decidable (GeoOk g) := inferInstanceAs (Decidable (_ ∧ _))
def CodeOk (k m : Int) : Prop := 1 ≤ k ∧ 0 ≤ m ∧ k + m ≤ 256
instance (k m : Int) : Decidable (CodeOk k m) := inferInstanceAs (Decidable (_ ∧ _))
theorem cauchy_spec (k m : Int) (w : World) : Calls Tryz.prog 41 #[.int .i64 k, .int .i64 m] w fun e w' => e = .returned (.int .i64 (if CodeOk k m then 0 else 50)) ∧ w' = w := by
 refine (F41_calls k m w (fun v w' => v = .int .i64 (if CodeOk k m then 0 else 50) ∧ w' = w) ?_).mono (by rintro e w' ⟨v, rfl, rfl, h⟩; exact ⟨rfl, h⟩)
 have bad : ¬ CodeOk k m → (Value.int .i64 50 = .int .i64 (if CodeOk k m then 0 else 50) ∧ w = w) := fun h => ⟨by rw [if_neg h], rfl⟩
 refine condB_of (fun h1 => bad ?_) fun h1 => condB_of (fun h2 => bad ?_) fun h2 => condB_of (fun h3 => bad ?_) fun h3 => condB_of (fun h4 => bad ?_) fun h4 => ⟨?_, rfl⟩ <;>
  simp only [decide_eq_true_eq, decide_eq_false_iff_not] at *
 ·unfold CodeOk; omega
 ·unfold CodeOk; omega
 ·unfold CodeOk; omega
 ·rw [w64 (by omega)] at h4; unfold CodeOk; omega
 ·rw [w64 (by omega)] at h4
  rw [if_pos (by unfold CodeOk; omega)]
theorem in_spec (n m : Int) (w : World) : Calls Tryz.prog 40 #[.int .i64 n, .int .i64 m] w fun e w' => e = .returned (.bool (decide (1 ≤ n ∧ n ≤ m))) ∧ w' = w := by
 refine (F40_calls n m w (fun v w' => v = .bool (decide (1 ≤ n ∧ n ≤ m)) ∧ w' = w) ?_).mono (by rintro e w' ⟨v, rfl, rfl, h⟩; exact ⟨rfl, h⟩)
 refine condB_of (fun h1 => ⟨?_, rfl⟩) fun h1 => ⟨?_, rfl⟩
 ·simp only [decide_eq_true_eq] at h1
  simp [h1]
 ·simp only [decide_eq_false_iff_not] at h1
  simp [h1]
def checkG (g : Geo) : Int := if GeoOk g then 0 else 50
theorem check_spec (g : Geo) (w : World) : Calls Tryz.prog 16 #[gV g] w fun e w' => e = .returned (.int .i64 (checkG g)) ∧ Ext w w' := by
 refine (F16_calls g.k g.m g.size g.stripes g.slots g.objects w (fun v w' => v = .int .i64 (checkG g) ∧ Ext w w') ?_).mono (by rintro e w' ⟨v, rfl, rfl, h⟩; exact ⟨rfl, h⟩)
 intro k7 w8 hk
 have r : RowW w8 k7 _ := ⟨_, hk.at⟩
 have bad : ¬ GeoOk g → (Value.int .i64 50 = .int .i64 (checkG g) ∧ Ext w w8) := fun h => ⟨by rw [checkG, if_neg h], hk.ext⟩
 refine ⟨_, r.row.cell (n := 0) rfl, _, r.row.cell rfl, (cauchy_spec g.k g.m w8).mono ?_⟩
 rintro e w11 ⟨rfl, rfl⟩
 refine ⟨_, rfl, condB_of (fun h => bad ?_) fun h1 => ⟨_, r.row.cell (n := 0) rfl, _, r.row.cell rfl, (in_spec _ _ _).mono ?_⟩⟩
 ·intro hg
  rw [if_pos (by unfold GeoOk at hg; unfold CodeOk; omega)] at h
  simp at h
 rintro e w16 ⟨rfl, rfl⟩
 have hc : CodeOk g.k g.m := by
  by_cases hc : CodeOk g.k g.m
  ·exact hc
  ·rw [if_neg hc] at h1; simp at h1
 have hc' := hc
 unfold CodeOk at hc'
 rw [w64 (by omega)]
 refine ⟨_, rfl, condB_of (fun h => bad ?_) fun h2 => ⟨_, r.row.cell rfl, (in_spec _ _ _).mono ?_⟩⟩
 ·simp only [Bool.not_eq_true', decide_eq_false_iff_not] at h
  intro hg; apply h; unfold GeoOk at hg; omega
 rintro e w20 ⟨rfl, rfl⟩
 refine ⟨_, rfl, condB_of (fun h => bad ?_) fun h3 => ⟨_, r.row.cell rfl, (in_spec _ _ _).mono ?_⟩⟩
 ·simp only [Bool.not_eq_true', decide_eq_false_iff_not] at h
  intro hg; apply h; unfold GeoOk at hg; omega
 rintro e w24 ⟨rfl, rfl⟩
 refine ⟨_, rfl, condB_of (fun h => bad ?_) fun h4 => ⟨_, r.row.cell rfl, (in_spec _ _ _).mono ?_⟩⟩
 ·simp only [Bool.not_eq_true', decide_eq_false_iff_not] at h
  intro hg; apply h; unfold GeoOk at hg; omega
 rintro e w28 ⟨rfl, rfl⟩
 refine ⟨_, rfl, condB_of (fun h => bad ?_) fun h5 => ⟨_, r.row.cell rfl, (in_spec _ _ _).mono ?_⟩⟩
 ·simp only [Bool.not_eq_true', decide_eq_false_iff_not] at h
  intro hg; apply h; unfold GeoOk at hg; omega
 rintro e w32 ⟨rfl, rfl⟩
 refine ⟨_, rfl, condB_of (fun h => bad ?_) fun h6 => ⟨?_, hk.ext⟩⟩
 ·simp only [Bool.not_eq_true', decide_eq_false_iff_not] at h
  intro hg; apply h; unfold GeoOk at hg; omega
 simp only [Bool.not_eq_false', decide_eq_true_eq] at h2 h3 h4 h5 h6
 rw [checkG, if_pos (by unfold GeoOk; omega)]
end Go.Proofs.YtkolafpgbhpdlaaGreat
namespace Go.Proofs.YtkolafpgbhpdlaaGreat
open Go Go.Vc
def placeZ (g : Geo) (i n : Int) (L : List Int) : Int := if GeoOk g ∧ 0 ≤ i ∧ i < n then L.foldl (fun a x => IntKind.i64.wrap (a + x)) (IntKind.i64.wrap (1 + i)) else 0
theorem place_spec (g : Geo) (i n : Int) {p : Option Addr} {l c : Nat} {L : List Int} {w : World} (h : IntsAt w p l L) (hl : l ≤ 4611686018427387904) : Calls Tryz.prog 42 #[gV g, .int .i64 i, .int .i64 n, .slice p l c] w fun e w' => e = .returned (.int .i64 (placeZ g i n L)) ∧ Ext w w' := by
 refine (F42_calls g.k g.m g.size g.stripes g.slots g.objects i n p l c w (fun v w' => v = .int .i64 (placeZ g i n L) ∧ Ext w w')
  (fun _ _ _ _ w18 n25 n26 w27 => ∃ j : Nat, n26 = j ∧ j ≤ l ∧ w27 = w18 ∧ n25 = (L.take j).foldl (fun a x => IntKind.i64.wrap (a + x)) (IntKind.i64.wrap (1 + i))) (fun _ _ _ _ _ _ n26 _ => 4611686018427387905 - n26.toNat) ?_).mono (by rintro e w' ⟨v, rfl, rfl, h⟩; exact ⟨rfl, h⟩)
 have hlen := h.1
 intro k10 w11 hk
 have r : RowW w11 k10 _ := ⟨_, hk.at⟩
 refine ⟨_, r.row.cell (n := 0) rfl, _, r.row.cell rfl, _, r.row.cell rfl, _, r.row.cell rfl, _, r.row.cell rfl, _, r.row.cell rfl, (check_spec g w11).mono ?_⟩
 rintro e w18 ⟨rfl, x18⟩
 have y18 := hk.ext.trans x18
 have bad : ¬ (GeoOk g ∧ 0 ≤ i ∧ i < n) → Value.int .i64 0 = .int .i64 (placeZ g i n L) ∧ Ext w w18 := fun hn => ⟨by unfold placeZ; rw [if_neg hn], y18⟩
 refine ⟨_, rfl, condB_of (fun hc => bad fun hh => ?_) fun hc => condB_of (fun h1 => bad fun hh => ?_) fun h1 => condB_of (fun h2 => bad fun hh => ?_) fun h2 => ?_⟩
 ·unfold checkG at hc; rw [if_pos hh.1] at hc; cases hc
 ·simp only [decide_eq_true_eq] at h1; omega
 ·simp only [decide_eq_true_eq] at h2; omega
 simp only [decide_eq_false_iff_not] at h1 h2
 have hg : GeoOk g := by
  by_cases hg : GeoOk g
  ·exact hg
  ·unfold checkG at hc; rw [if_neg hg] at hc; cases hc
 have hok : GeoOk g ∧ 0 ≤ i ∧ i < n := ⟨hg, by omega, by omega⟩
 refine ⟨⟨0, rfl, Nat.zero_le _, rfl, rfl⟩, ?_⟩
 rintro n25 n26 w27 ⟨j, rfl, hj, rfl, rfl⟩
 intros
 refine condB_of (fun hlt => ?_) (fun hge => ?_)
 ·simp only [decide_eq_true_eq] at hlt
  obtain ⟨x, hx⟩ : ∃ x, L[j]? = some x := ⟨L[j]'(by omega), List.getElem?_eq_getElem _⟩
  obtain ⟨a, rfl, ca⟩ := (h.ext y18).2 j (.int .i64 x) (by rw [List.getElem?_map, hx]; rfl)
  refine ⟨⟨by omega, hlt⟩, x, by rw [Int.toNat_natCast, Nat.mul_one]; exact ca, ?_⟩
  rw [w64 (n := (j : Int) + 1) (by omega)]
  refine ⟨⟨j + 1, by omega, by omega, rfl, ?_⟩, ?_⟩
  ·rw [List.take_add_one, hx, List.foldl_append]; rfl
  ·show 4611686018427387905 - ((j : Int) + 1).toNat < 4611686018427387905 - (j : Int).toNat
   omega
 ·simp only [decide_eq_false_iff_not] at hge
  rw [List.take_of_length_le (by omega)]
  exact ⟨by unfold placeZ; rw [if_pos hok], y18⟩
theorem ints_new {w w' : World} {k : Nat} {L : List Int} (h : RowW w k (L.map (Value.int .i64)).toArray) (_ : w' = w) : IntsAt w (some (at0 k)) L.length L := ⟨rfl, fun j u hj => ⟨_, rfl, h.row.cell (by simpa using hj)⟩⟩
def atZ (g : Geo) (i : Int) : Int := if GeoOk g ∧ 0 ≤ i ∧ i < g.stripes then 5 + g.slots + i else 0
theorem stripe_spec (g : Geo) (i : Int) (w : World) : Calls Tryz.prog 23 #[gV g, .int .i64 i] w fun e w' => e = .returned (.int .i64 (atZ g i)) ∧ Ext w w' := by
 refine (F23_calls g.k g.m g.size g.stripes g.slots g.objects i w (fun v w' => v = .int .i64 (atZ g i) ∧ Ext w w') ?_).mono (by rintro e w' ⟨v, rfl, rfl, h⟩; exact ⟨rfl, h⟩)
 intro k8 w9 hk
 have r : RowW w9 k8 _ := ⟨_, hk.at⟩
 refine ⟨_, r.row.cell (n := 0) rfl, _, r.row.cell rfl, _, r.row.cell rfl, _, r.row.cell rfl, _, r.row.cell rfl, _, r.row.cell rfl, _, r.row.cell rfl, _, r.row.cell rfl, fun k17 w18 hk17 => ?_⟩
 refine (place_spec g i g.stripes (L := [4, g.slots]) (ints_new (L := [4, g.slots]) (w' := w18) ⟨_, hk17.at⟩ rfl) (by simp)).mono ?_
 rintro e w19 ⟨rfl, x19⟩
 refine ⟨_, rfl, ?_, (hk.ext.trans hk17.ext).trans x19⟩
 unfold placeZ atZ
 by_cases h : GeoOk g ∧ 0 ≤ i ∧ i < g.stripes
 ·rw [if_pos h, if_pos h]
  obtain ⟨_, _, h3, h4, _⟩ := h.1
  show Value.int .i64 (IntKind.i64.wrap (IntKind.i64.wrap (IntKind.i64.wrap (1 + i) + 4) + g.slots)) = _
  rw [w64 (n := 1 + i) (by omega), w64 (n := 1 + i + 4) (by omega), w64 (by omega)]
  congr 1
  omega
 ·rw [if_neg h, if_neg h]
def sectorsZ (g : Geo) : Int := if GeoOk g then 5 + g.slots + g.stripes else 0
theorem sectors_spec (g : Geo) (w : World) : Calls Tryz.prog 17 #[gV g] w fun e w' => e = .returned (.int .i64 (sectorsZ g)) ∧ Ext w w' := by
 refine (F17_calls g.k g.m g.size g.stripes g.slots g.objects w (fun v w' => v = .int .i64 (sectorsZ g) ∧ Ext w w') ?_).mono (by rintro e w' ⟨v, rfl, rfl, h⟩; exact ⟨rfl, h⟩)
 intro k8 w9 hk
 have r : RowW w9 k8 _ := ⟨_, hk.at⟩
 refine ⟨_, r.row.cell (n := 0) rfl, _, r.row.cell rfl, _, r.row.cell rfl, _, r.row.cell rfl, _, r.row.cell rfl, _, r.row.cell rfl, _, r.row.cell rfl, _, r.row.cell rfl, fun k17 w18 hk17 => ?_⟩
 refine (place_spec g 0 1 (L := [4, g.slots, g.stripes]) (ints_new (L := [4, g.slots, g.stripes]) (w' := w18) ⟨_, hk17.at⟩ rfl) (by simp)).mono ?_
 rintro e w19 ⟨rfl, x19⟩
 refine ⟨_, rfl, ?_, (hk.ext.trans hk17.ext).trans x19⟩
 unfold placeZ sectorsZ
 by_cases h : GeoOk g
 ·rw [if_pos ⟨h, by omega, by omega⟩, if_pos h]
  obtain ⟨_, _, h3, h4, _⟩ := h
  show Value.int .i64 (IntKind.i64.wrap (IntKind.i64.wrap (IntKind.i64.wrap (IntKind.i64.wrap (1 + 0) + 4) + g.slots) + g.stripes)) = _
  rw [w64 (n := 1 + 0) (by omega), w64 (n := 1 + 0 + 4) (by omega), w64 (n := 1 + 0 + 4 + g.slots) (by omega), w64 (by omega)]
  congr 1
 ·rw [if_neg (fun hh => h hh.1), if_neg h]
def diskZ (g : Geo) (i j : Int) : Int := if GeoOk g ∧ (0 ≤ i ∧ i < g.stripes) ∧ 0 ≤ j ∧ j < g.k + g.m then (j + i) % (g.k + g.m) else 0
theorem diskZ_spec (g : Geo) (i j : Int) (w : World) : Calls Tryz.prog 62 #[gV g, .int .i64 i, .int .i64 j] w fun e w' => e = .returned (.int .i64 (diskZ g i j)) ∧ Ext w w' := by
 refine (F62_calls g.k g.m g.size g.stripes g.slots g.objects i j w (fun v w' => v = .int .i64 (diskZ g i j) ∧ Ext w w') ?_).mono (by rintro e w' ⟨v, rfl, rfl, h⟩; exact ⟨rfl, h⟩)
 intro k9 w10 hk
 have r : RowW w10 k9 _ := ⟨_, hk.at⟩
 refine ⟨_, r.row.cell (n := 0) rfl, _, r.row.cell rfl, _, r.row.cell rfl, _, r.row.cell rfl, _, r.row.cell rfl, _, r.row.cell rfl, _, r.row.cell rfl, ?_⟩
 have hnil : IntsAt w10 none 0 [] := ⟨rfl, CellsAt.nil _ _⟩
 refine (place_spec g i g.stripes (c := 0) hnil (by omega)).mono ?_
 rintro e w18 ⟨rfl, x18⟩
 have r18 : RowW w18 k9 _ := x18.rowW r id
 have y18 := hk.ext.trans x18
 by_cases ha : GeoOk g ∧ 0 ≤ i ∧ i < g.stripes
 ·obtain ⟨⟨h1, h2, h3, h4, h5⟩, hi⟩ := ha
  have hg : GeoOk g := ⟨h1, h2, h3, h4, h5⟩
  have e1 : placeZ g i g.stripes [] = 1 + i := by unfold placeZ; rw [if_pos ⟨hg, hi⟩]; show IntKind.i64.wrap (1 + i) = _; rw [w64 (by omega)]
  rw [e1]
  refine ⟨_, rfl, condB_of (fun hz => by simp only [decide_eq_true_eq] at hz; omega) fun _ => ⟨_, r18.row.cell (n := 0) rfl, _, r18.row.cell rfl, _, r18.row.cell rfl, _, r18.row.cell rfl, _, r18.row.cell rfl, _, r18.row.cell rfl, _, r18.row.cell (n := 0) rfl, _, r18.row.cell rfl, ?_⟩⟩
  rw [w64 (n := g.k + g.m) (by omega)]
  have hnil : IntsAt w18 none 0 [] := ⟨rfl, CellsAt.nil _ _⟩
  refine (place_spec g j (g.k + g.m) (c := 0) hnil (by omega)).mono ?_
  rintro e w29 ⟨rfl, x29⟩
  have r29 : RowW w29 k9 _ := x29.rowW r18 id
  have y29 := y18.trans x29
  by_cases hj : 0 ≤ j ∧ j < g.k + g.m
  ·have e2 : placeZ g j (g.k + g.m) [] = 1 + j := by unfold placeZ; rw [if_pos ⟨hg, hj⟩]; show IntKind.i64.wrap (1 + j) = _; rw [w64 (by omega)]
   rw [e2]
   refine ⟨_, rfl, condB_of (fun hz => by simp only [decide_eq_true_eq] at hz; omega) fun _ => ⟨_, r29.row.cell (n := 0) rfl, _, r29.row.cell rfl, ?_⟩⟩
   rw [w64 (n := g.k + g.m) (by omega), w64 (n := j + i) (by omega)]
   refine ⟨by omega, ?_, y29⟩
   unfold diskZ
   rw [if_pos ⟨hg, hi, hj⟩, Int.tmod_eq_emod_of_nonneg (by omega)]
  ·have e2 : placeZ g j (g.k + g.m) [] = 0 := by unfold placeZ; rw [if_neg (fun hh => hj hh.2)]
   rw [e2]
   refine ⟨_, rfl, condB_of (fun _ => ⟨?_, y29⟩) fun h => by simp at h⟩
   unfold diskZ
   rw [if_neg (fun hh => hj hh.2.2)]
 ·have e1 : placeZ g i g.stripes [] = 0 := by unfold placeZ; rw [if_neg ha]
  rw [e1]
  refine ⟨_, rfl, condB_of (fun _ => ⟨?_, y18⟩) fun h => by simp at h⟩
  unfold diskZ
  rw [if_neg (fun hh => ha ⟨hh.1, hh.2.1⟩)]
end Go.Proofs.YtkolafpgbhpdlaaGreat
