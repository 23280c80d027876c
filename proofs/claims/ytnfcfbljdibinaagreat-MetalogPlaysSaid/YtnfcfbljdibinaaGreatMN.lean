import Derived.Test.YtnfcfbljdibinaaGreatMA
import Derived.Test.YtnfcfbljdibinaaGreatMV
set_option maxHeartbeats 8000000
namespace Go.Proofs.YtnfcfbljdibinaaGreat
open Go Go.Vc
open Go.IntKind (i64)
open Go.Value (int)
open Go.Proofs.Tryz (prog)
theorem QN5 {c : Bool} {A X Q : Prop} (hA : c = true -> (Q -> X) -> A) (hQ : c = false -> Q) (hX : Q -> X) : Q2 c A X :=
 Q0 (fun h => hA h hX) fun h => hX (hQ h)
theorem Qge {p : σ} {a : Addr} {K : Addr -> Prop} (h : p = some a) (hk : K a) : Qv p K := by
 subst h; exact hk
theorem QHd {k : Int} {bs : τ} {A C B : SM} (hA : ∀ x ∈ A, x.1 < k) (hC : ∀ x ∈ C, x.1 = k) (hB : ∀ x ∈ B, k < x.1) : ins k bs (A ++ C ++ B) = A ++ (k, bs) :: B := by
 unfold ins
 have a1 : A.filter (fun y => decide (y.1 < k)) = A := List.filter_eq_self.2 fun x hx => by simpa using hA x hx
 have a2 : A.filter (fun y => decide (k < y.1)) = [] := List.filter_eq_nil_iff.2 fun x hx => by have := hA x hx; simp; omega
 have c1 : C.filter (fun y => decide (y.1 < k)) = [] := List.filter_eq_nil_iff.2 fun x hx => by have := hC x hx; simp; omega
 have c2 : C.filter (fun y => decide (k < y.1)) = [] := List.filter_eq_nil_iff.2 fun x hx => by have := hC x hx; simp; omega
 have b1 : B.filter (fun y => decide (y.1 < k)) = [] := List.filter_eq_nil_iff.2 fun x hx => by have := hB x hx; simp; omega
 have b2 : B.filter (fun y => decide (k < y.1)) = B := List.filter_eq_self.2 fun x hx => by simpa using hB x hx
 simp only [List.filter_append, a1, a2, c1, c2, b1, b2, List.append_nil, List.nil_append]
theorem Qq3 : ∀ {vs : List Value} {L : SM} {us : List Value} {M : SM}, vs.length = L.length -> Qa (vs ++ us) (L ++ M) = Qa vs L ++ Qa us M
 | [], [], _, _, _ => rfl
 | v :: vs, x :: L, us, M, h => by
  have := Qq3 (vs := vs) (L := L) (us := us) (M := M) (by simpa using h)
  simp only [List.cons_append, Qa, this]
theorem QV2 : ∀ (j : Nat) {vs : List Value} {L : SM}, vs.length = L.length -> (Qa vs L).drop (j * 2) = Qa (vs.drop j) (L.drop j)
 | 0, _, _, _ => by simp
 | j + 1, [], [], _ => by simp [Qa]
 | j + 1, v :: vs, x :: L, h => by
  have := QV2 j (vs := vs) (L := L) (by simpa using h)
  rw [show (j + 1) * 2 = j * 2 + 1 + 1 by omega]
  simpa [Qa] using this
theorem QW2 : ∀ (j : Nat) {vs : List Value} {L : SM}, vs.length = L.length -> (Qa vs L).take (j * 2) = Qa (vs.take j) (L.take j)
 | 0, _, _, _ => by simp [Qa]
 | j + 1, [], [], _ => by simp [Qa]
 | j + 1, v :: vs, x :: L, h => by
  have := QW2 j (vs := vs) (L := L) (by simpa using h)
  rw [show (j + 1) * 2 = j * 2 + 1 + 1 by omega]
  simpa [Qa] using this
theorem Qy6 {R : Value -> Int × τ -> Prop} (hR : ∀ v x, R v x -> ∃ p l c, v = .slice p l c) {vs : List Value} {L : SM} (h : Qc1 R vs L) : ∀ u ∈ Qa vs L, u.oneCell' = true := by
 induction h with
 | nil => intro u hu; cases hu
 | cons h _ ih =>
  intro u hu
  obtain ⟨p, l, c, rfl⟩ := hR _ _ h
  simp only [Qa, List.mem_cons] at hu
  rcases hu with rfl | rfl | hu
  ·rfl
  ·rfl
  ·exact ih u hu
theorem Q2b {α β : Type} {R : α -> β -> Prop} {xs : List α} {bs : List β} (h : Qc1 R xs bs) : ∀ j, Qc1 R (xs.take j) (bs.take j) := by
 induction h with
 | nil => intro j; simp; exact .nil
 | cons h _ ih =>
  intro j
  cases j with
  | zero => exact .nil
  | succ j => exact .cons h (ih j)
theorem Q1b {α β : Type} {R : α -> β -> Prop} {xs : List α} {bs : List β} (h : Qc1 R xs bs) : ∀ j, Qc1 R (xs.drop j) (bs.drop j) := by
 induction h with
 | nil => intro j; simp; exact .nil
 | cons h h2 ih =>
  intro j
  cases j with
  | zero => exact .cons h h2
  | succ j => exact ih j
theorem Ql3 {w : World} {p : σ} {xs : List Value} (h : Q8 w p xs) {c j : Nat} (hj : c = j -> xs.drop (j * 2) = []) : Q8 w (Qu p c j 2) (xs.drop (j * 2)) := by
 unfold Qu
 split
 ·rename_i e
  rw [hj e]
  exact Q8.nil _ _
 ·cases p with
  | none =>
   intro i u hi
   rw [List.getElem?_drop] at hi
   obtain ⟨a, ha, _⟩ := h _ u hi
   cases ha
  | some a => exact h.drop (j * 2)
theorem Qm3 {p : σ} {c j : Nat} (h : Qu p c j 2 = none) : p = none := by
 unfold Qu at h
 split at h
 ·exact h
 ·cases p with
  | none => rfl
  | some a => cases h
def QZ1 (w : World) (G : Nat -> Prop) (p : σ) (l c : Nat) (L : SM) : Prop :=
 l = L.length /\ l <= c /\ (p = none -> l = 0) /\ (∀ a, p = some a -> G a.block) /\ ∃ vs, Qc1 (fun v (x : Int × τ) => Qh G w v x.2) vs L /\ Q8 w p (Qa vs L)
theorem Qh0 {w0 w : World} (hx : Ext w0 w) {p : σ} {n c : Nat} {xs : List Value} (h : Qc w w0.heap.size 139 2 p n c xs) {q : σ} {m d : Nat} {news : List Value} (hl : news.length = m * 2)
  (hq : Q8 w q news) (hqn : q = none -> m = 0) (h1 : ∀ u ∈ news, u.oneCell' = true) (hb : n + m <= 9000) :
  ∃ p' c' w', Sem.run prog (Builtin.append_ #[90, 90] 90 #[.slice p n c, .slice q m d]) w = .ok (.slice p' (n + m) c') w' /\ Qc w' w0.heap.size 139 2 p' (n + m) c' (xs ++ news) ∧
   Ext w0 w' /\ Upd (fun b => p = some (at0 b)) w w' := by
 obtain ⟨p', c', w', hr, ho, hu, _⟩ := h.append Q5f 90 (q := q) (m := m) (d := d) (news := news) hl hq hqn h1 (by unfold maxLen; omega) (by omega) hx.size
 refine ⟨p', c', w', hr, ho, ?_, hu⟩
 refine Upd.trans hx hu fun x hx' hs => ?_
 rcases h.where_ with ⟨h0, _⟩ | ⟨g, h0, hge, _⟩
 ·rw [h0] at hs; cases hs
 ·rw [h0] at hs
  simp only [Zi, at0, Zv, and_true] at hs
  omega
theorem Qab {w : World} {k : Nat} {a b : Value} {e : TypeId} {fz : Nat × Nat} (h : w.heap[k]? = some (.cells #[a, b] e fz)) : Q8 w (some (at0 k)) [a, b] := by
 intro j u hj
 refine ⟨_, rfl, ?_⟩
 match j, hj with
 | 0, hj => cases hj; simp [World.cell?, Addr.add, h]
 | 1, hj => cases hj; simp [World.cell?, Addr.add, h]
theorem Qb7 {L : SM} (ha : Asc L) {k : Int} {i : Nat} {x : Int × τ} (hx : L[i]? = some x) (hk : k <= x.1) : ∀ y ∈ L.drop (i + 1), k < y.1 := by
 intro y hy
 have hlt : i < L.length := (Zd.1 hx).1
 have hxe : L[i] = x := (Zd.1 hx).2
 have h2 : Asc (L.drop i) := List.Pairwise.sublist (List.drop_sublist i L) ha
 rw [List.drop_eq_getElem_cons hlt, hxe] at h2
 have := (List.pairwise_cons.1 h2).1 y hy
 omega
theorem QD3 {w : World} {G : Nat -> Prop} {p : σ} {l c : Nat} {L : SM} (h : QZ1 w G p l c L) (ha : Asc L) (hlen : L.length <= 4096) (k : Int) {pv : σ} {lv cv : Nat} {bs : τ} (hv : Qh G w (.slice pv lv cv) bs) :
  Calls prog 143 #[.slice p l c, .agg #[int i64 k, .slice pv lv cv]] w fun e w' => ∃ p' l' c', e = .returned (.slice p' l' c') /\ Ext w w' ∧
   QZ1 w' (fun x => G x \/ (w.heap.size <= x /\ x < w'.heap.size)) p' l' c' (ins k bs L) := by
 refine (F143_calls p l c k pv lv cv w (fun v w' => ∃ p' l' c', v = .slice p' l' c' /\ Ext w w' /\ QZ1 w' (fun x => G x \/ (w.heap.size <= x /\ x < w'.heap.size)) p' l' c' (ins k bs L))
  (fun _ w5 n w8 => ∃ i : Nat, n = i /\ i <= l /\ Ext w5 w8 /\ ∀ x ∈ L.take i, x.1 < k) (fun _ _ n _ => 4096 - n.toNat) ?_).mono (by rintro e w' ⟨v, rfl, p', l', c', rfl, h⟩; exact ⟨p', l', c', rfl, h⟩)
 obtain ⟨hl, hlc, hpn, hpG, vs, hvs, hcells⟩ := h
 have hvl : vs.length = L.length := hvs.length
 have hone := Qy6 (fun v x (h : Qh G w v x.2) => by obtain ⟨p, n, c, rfl, _⟩ := h; exact ⟨p, n, c, rfl⟩) hvs
 intro k4 w5 hk4
 have x5 := hk4.ext
 have r5 : RowW w5 k4 _ := ⟨_, hk4.at⟩
 refine ⟨⟨0, rfl, Nat.zero_le _, Upd.refl _ _, by simp⟩, ?_⟩
 rintro n7 w8 ⟨i, rfl, hi, x8, hlo⟩
 intros
 rename_i w25 d25
 have x25 := x8.trans d25.ext
 have row : ∀ w', Ext w5 w' -> w'.cell? ((at0 k4).add 0) = some (int i64 k) /\ w'.cell? ((at0 k4).add 1) = some (.slice pv lv cv) := fun w' hx => by
  have := hx.rowW r5 id
  exact ⟨this.c rfl, this.c rfl⟩
 have st : ∀ w', Ext w5 w' -> ∃ n, w'.cell? (at0 k4) = some (int i64 n) /\ ∃ p l c, w'.cell? ((at0 k4).add 1) = some (.slice p l c) /\ (Value.agg #[int i64 n, .slice p l c]) = (Value.agg #[int i64 k, .slice pv lv cv]) :=
  fun w' hx => ⟨k, (row w' hx).1, pv, lv, cv, (row w' hx).2, rfl⟩
 have cellK : ∀ j x, L[j]? = some x -> ∀ w', Ext w5 w' -> ∃ a, p = some a /\ w'.cell? ((a.add (j * 2)).add 0) = some (int i64 x.1) := by
  intro j x hx w' hx'
  obtain ⟨v, hvj, _⟩ := Q98 hvs hx
  obtain ⟨a, hpa, hc⟩ := (hcells.ext (x5.trans hx')) _ _ (QP1 hvj hx).1
  exact ⟨a, hpa, by rw [Qt, Nat.add_zero, Nat.mul_comm]; exact hc⟩
 have hprel : ((Qa vs L).take (i * 2)).length = i * 2 := by rw [List.length_take, QE hvl]; omega
 have hpre : ∀ w', Ext w w' -> Q8 w' (Qu p c 0 2) ((Qa vs L).take (i * 2)) := fun w' hx => by
  have := Ql3 (hcells.ext hx) (c := c) (j := 0) (fun e => by
   have : L.length = 0 := by omega
   have : (Qa vs L).length = 0 := by rw [QE hvl]; omega
   rw [Zk this]; rfl)
  rw [Nat.zero_mul, List.drop_zero] at this
  exact this.take _
 have hpren : Qu p c 0 2 = none -> i = 0 := fun e => by have := hpn (Qm3 e); omega
 have hpre1 : ∀ u ∈ (Qa vs L).take (i * 2), u.oneCell' = true := fun u hu => hone u (List.mem_of_mem_take hu)
 have hbox1 : ∀ u ∈ [int i64 k, .slice pv lv cv], u.oneCell' = true := by
  intro u hu
  simp only [List.mem_cons, List.not_mem_nil, or_false] at hu
  rcases hu with rfl | rfl <;> rfl
 have box : ∀ {w' : World} {kk : Nat} {e : TypeId} {fz : Nat × Nat}, w'.heap[kk]? = some (.cells #[int i64 k, .slice pv lv cv] e fz) -> Q8 w' (some (at0 kk)) [int i64 k, .slice pv lv cv] := fun h => Qab h
 have fin0 : ∀ j, i <= j -> j <= L.length -> ins k bs L = L.take i ++ (k, bs) :: L.drop j -> ∀ w' p' n' c', Ext w5 w' -> Qc w' w5.heap.size 139 2 p' n' c' ([] ++ (Qa vs L).take (i * 2) ++ [int i64 k, .slice pv lv cv] ++ (Qa vs L).drop (j * 2)) →
   ∃ p'' l'' c'', Value.slice p' n' c' = .slice p'' l'' c'' /\ Ext w w' /\ QZ1 w' (fun x => G x \/ (w.heap.size <= x /\ x < w'.heap.size)) p'' l'' c'' (ins k bs L) := by
  intro j hij hj hins w' p' n' c' hx ho
  have xw := x5.trans hx
  rw [QW2 i hvl, QV2 j hvl] at ho
  have e1 : [] ++ Qa (vs.take i) (L.take i) ++ [int i64 k, .slice pv lv cv] ++ Qa (vs.drop j) (L.drop j) = Qa (vs.take i ++ .slice pv lv cv :: vs.drop j) (L.take i ++ (k, bs) :: L.drop j) := by
   rw [Qq3 (by simp [hvl]), List.nil_append, List.append_assoc]; rfl
  rw [e1] at ho
  have hup : ∀ v (b : τ), Qh G w v b -> Qh (fun x => G x \/ (w.heap.size <= x /\ x < w'.heap.size)) w' v b := fun v b hv => (hv.upd xw fun _ _ h => h).mono fun x hx => .inl hx
  have hlenx : n' = (ins k bs L).length := by
   have := ho.length
   rw [QE (by simp [hvl])] at this
   rw [hins]; omega
  refine ⟨p', n', c', rfl, xw, hlenx, ?_, ?_, ?_, vs.take i ++ .slice pv lv cv :: vs.drop j, ?_, ?_⟩
  ·rcases ho.where_ with ⟨_, h0, h1⟩ | ⟨g, _, _, _, h1, _⟩
   ·omega
   ·exact h1
  ·intro h0
   rcases ho.where_ with ⟨_, h1, _⟩ | ⟨g, h1, _⟩
   ·exact h1
   ·rw [h0] at h1; cases h1
  ·intro a hpa
   rcases ho.where_ with ⟨h1, _⟩ | ⟨g, h1, hge, hlt, _⟩
   ·rw [h1] at hpa; cases hpa
   ·rw [h1] at hpa; cases hpa
    exact .inr ⟨Zu x5.size hge, hlt⟩
  ·rw [hins]
   exact (Q82 (Q2b hvs i) fun v x hv => hup v x.2 hv).append (.cons (hup _ _ hv) (Q82 (Q1b hvs j) fun v x hv => hup v x.2 hv))
  ·rw [hins]
   exact ho.cells
 refine QN5 (Q := i = l \/ ∃ x, L[i]? = some x /\ k <= x.1) (fun hlt hX => ?_) (fun hge => ?_) (fun hexit => ?_)
 ·simp only [Za] at hlt
  obtain ⟨x, hxi⟩ : ∃ x, L[i]? = some x := ⟨L[i]'(by omega), Zc _⟩
  obtain ⟨a, rfl, hc⟩ := cellK i x hxi w25 x25
  rw [Ze]
  refine ⟨⟨by omega, hlt⟩, _, hc, k, (row w25 x25).1, Q0 (fun hk => ?_) (fun hk => ?_)⟩
  ·simp only [Za] at hk
   rw [w64 (by omega)]
   refine ⟨⟨i + 1, by omega, by omega, x25, fun y hy => ?_⟩, by show 4096 - ((i : Int) + 1).toNat < 4096 - (i : Int).toNat; omega⟩
   rw [Zn, hxi] at hy
   rcases List.mem_append.1 hy with hy | hy
   ·exact hlo y hy
   ·simp at hy; subst hy; exact hk
  ·simp only [Zb] at hk
   exact hX (.inr ⟨x, hxi, by omega⟩)
 ·simp only [Zb] at hge
  exact .inl (by omega)
 refine ⟨⟨by omega, by omega⟩, ?_⟩
 intro w29 d29
 have x29 := x25.trans d29.ext
 simp only [Ze, Nat.sub_zero]
 refine QN5 (Q := ∀ y ∈ L.drop i, k < y.1) (fun hlt hX => ?_) (fun hge => ?_) (fun hrestk => ?_)
 ·simp only [Za] at hlt
  obtain ⟨x, hxi⟩ : ∃ x, L[i]? = some x := ⟨L[i]'(by omega), Zc _⟩
  have hkx : k <= x.1 := by
   rcases hexit with h0 | ⟨x', hx', hk⟩
   ·omega
   ·rw [hxi] at hx'; cases hx'; exact hk
  obtain ⟨a, hpa, hc⟩ := cellK i x hxi w29 x29
  have hci : ¬ c = i := by omega
  have hcut : Qu p c i 2 = some (a.add (i * 2)) := by rw [hpa]; unfold Qu; rw [if_neg hci]; rfl
  refine ⟨⟨by omega, by omega⟩, Qge hcut ?_⟩
  refine ⟨_, hc, k, (row w29 x29).1, Q0 (fun hk => ?_) (fun hk => ?_)⟩
  ·simp only [Za] at hk
   refine ⟨⟨by omega, by omega⟩, ?_⟩
   intro w33 d33
   have x33 := x29.trans d33.ext
   refine ⟨⟨by omega, by omega⟩, k, (row w33 x33).1, pv, lv, cv, (row w33 x33).2, ?_⟩
   have hlt' : i < L.length := (Zd.1 hxi).1
   have hins : ins k bs L = L.take i ++ (k, bs) :: L.drop (i + 1) := by
    have e : L = L.take i ++ [x] ++ L.drop (i + 1) := by
     rw [List.append_assoc]
     have : L[i] = x := (Zd.1 hxi).2
     rw [← this, List.singleton_append, ← List.drop_eq_getElem_cons hlt', List.take_append_drop]
    conv => lhs; rw [e]
    exact QHd hlo (fun y hy => by simp at hy; subst hy; exact hk) (Qb7 ha hxi hkx)
   have fin := fin0 (i + 1) (by omega) (by omega) hins
   have hrestl : ((Qa vs L).drop ((i + 1) * 2)).length = (l - i - 1) * 2 := by rw [List.length_drop, QE hvl]; omega
   have hrest : ∀ w', Ext w w' -> Q8 w' (Qu (Qu p c i 2) (c - i) 1 2) ((Qa vs L).drop ((i + 1) * 2)) := fun w' hx => by
    have h1 := Ql3 (hcells.ext hx) (c := c) (j := i) (fun e => by omega)
    have h2 := Ql3 h1 (c := c - i) (j := 1) (fun e => by
     apply Zk
     rw [List.length_drop, List.length_drop, QE hvl]; omega)
    rw [List.drop_drop] at h2
    rw [show (i + 1) * 2 = i * 2 + 1 * 2 by omega]
    exact h2
   have hrestn : Qu (Qu p c i 2) (c - i) 1 2 = none -> l - i - 1 = 0 := fun e => by have := hpn (Qm3 (Qm3 e)); omega
   have hrest1 : ∀ u ∈ (Qa vs L).drop ((i + 1) * 2), u.oneCell' = true := fun u hu => hone u (List.mem_of_mem_drop hu)
   refine ⟨fun k50 w51 hk50 => ?_, fun k36 w37 hk36 w39' w39 hk38 => ?_⟩
   ·have x51 := x33.trans hk50.ext
    have own51 : Qc w51 w5.heap.size 139 2 (some (at0 k50)) 0 0 [] := Qc.made hk50 (by rw [hk50.size.1]; exact x33.size) (Nat.le_refl _) (by unfold maxLen; omega) rfl
    refine ⟨st _ x51, ?_, fun k54 w55 hk54 => ?_⟩
    ·obtain ⟨p1', c1', w64, r64, own64, x64, _⟩ := Qh0 x51 own51 (q := Qu p c 0 2) (m := i) (d := c) hprel (hpre _ (x5.trans x51)) hpren hpre1 (by omega)
     refine ⟨_, _, _, _, r64, st _ x64, fun k68 w69 hk68 => ?_⟩
     obtain ⟨p2', c2', w70, r70, own70, x70, _⟩ := Qh0 (x64.trans hk68.ext) (own64.ext hk68.ext) (q := some (at0 k68)) (m := 1) (d := 1) rfl (box hk68.at) (fun h => by cases h) hbox1 (by omega)
     refine ⟨_, _, _, _, r70, ?_⟩
     obtain ⟨p3', c3', w72, r72, own72, x72, _⟩ := Qh0 x70 own70 (q := Qu (Qu p c i 2) (c - i) 1 2) (m := l - i - 1) (d := c - i - 1) (hrestl) (hrest _ (x5.trans x70)) hrestn hrest1 (by omega)
     exact ⟨_, _, _, _, r72, fin _ _ _ _ x72 own72⟩
    ·have x55 := x51.trans hk54.ext
     obtain ⟨p1', c1', w56, r56, own56, x56, u56⟩ := Qh0 x55 (own51.ext hk54.ext) (q := Qu p c 0 2) (m := i) (d := c) hprel (hpre _ (x5.trans x55)) hpren hpre1 (by omega)
     refine ⟨_, _, _, _, r56, st _ x56, ?_⟩
     have hb54 := u56.keep hk54.at (by intro e; simp only [Zi, at0, Zv, and_true] at e; have := hk54.size.1; have := hk50.size; omega)
     obtain ⟨p2', c2', w60, r60, own60, x60, _⟩ := Qh0 x56 own56 (q := some (at0 k54)) (m := 1) (d := 1) rfl (box hb54) (fun h => by cases h) hbox1 (by omega)
     refine ⟨_, _, _, _, r60, ?_⟩
     obtain ⟨p3', c3', w62, r62, own62, x62, _⟩ := Qh0 x60 own60 (q := Qu (Qu p c i 2) (c - i) 1 2) (m := l - i - 1) (d := c - i - 1) (hrestl) (hrest _ (x5.trans x60)) hrestn hrest1 (by omega)
     exact ⟨_, _, _, _, r62, fin _ _ _ _ x62 own62⟩
   ·have x37 := x33.trans hk36.ext
    have x39 := x37.trans hk38.ext
    have own39 : Qc w39 w5.heap.size 139 2 (some (at0 w39')) 0 0 [] := Qc.made hk38 (by rw [hk38.size.1]; exact x37.size) (Nat.le_refl _) (by unfold maxLen; omega) rfl
    obtain ⟨p1', c1', w42, r42, own42, x42, u42⟩ := Qh0 x39 own39 (q := Qu p c 0 2) (m := i) (d := c) hprel (hpre _ (x5.trans x39)) hpren hpre1 (by omega)
    refine ⟨st _ x39, _, _, _, _, r42, st _ x42, ?_⟩
    have hb36 := u42.keep (hk38.ext.keep hk36.at) (by intro e; simp only [Zi, at0, Zv, and_true] at e; have := hk36.size; have := hk38.size.1; omega)
    obtain ⟨p2', c2', w46, r46, own46, x46, _⟩ := Qh0 x42 own42 (q := some (at0 k36)) (m := 1) (d := 1) rfl (box hb36) (fun h => by cases h) hbox1 (by omega)
    refine ⟨_, _, _, _, r46, ?_⟩
    obtain ⟨p3', c3', w48, r48, own48, x48, _⟩ := Qh0 x46 own46 (q := Qu (Qu p c i 2) (c - i) 1 2) (m := l - i - 1) (d := c - i - 1) (hrestl) (hrest _ (x5.trans x46)) hrestn hrest1 (by omega)
    exact ⟨_, _, _, _, r48, fin _ _ _ _ x48 own48⟩
  ·simp only [Zb] at hk
   refine hX fun y hy => ?_
   have hlt' : i < L.length := (Zd.1 hxi).1
   have hxe : L[i] = x := (Zd.1 hxi).2
   rw [List.drop_eq_getElem_cons hlt', hxe] at hy
   rcases List.mem_cons.1 hy with rfl | hy
   ·omega
   ·exact Qb7 ha hxi hkx y hy
 ·simp only [Zb] at hge
  have : L.drop i = [] := List.drop_eq_nil_of_le (by omega)
  rw [this]
  intro y hy; cases hy
 ·intro w33 d33
  have x33 := x29.trans d33.ext
  refine ⟨⟨by omega, by omega⟩, k, (row w33 x33).1, pv, lv, cv, (row w33 x33).2, ?_⟩
  have hins : ins k bs L = L.take i ++ (k, bs) :: L.drop i := by
   have e : L = L.take i ++ [] ++ L.drop i := by simp
   conv => lhs; rw [e]
   exact QHd hlo (fun y hy => by cases hy) hrestk
  have fin := fin0 i (Nat.le_refl _) (by omega) hins
  have hrestl : ((Qa vs L).drop (i * 2)).length = (l - i) * 2 := by rw [List.length_drop, QE hvl]; omega
  have hrest : ∀ w', Ext w w' -> Q8 w' (Qu p c i 2) ((Qa vs L).drop (i * 2)) := fun w' hx =>
   Ql3 (hcells.ext hx) (c := c) (j := i) (fun e => by
    apply Zk
    rw [List.length_drop, QE hvl]; omega)
  have hrestn : Qu p c i 2 = none -> l - i = 0 := fun e => by have := hpn (Qm3 e); omega
  have hrest1 : ∀ u ∈ (Qa vs L).drop (i * 2), u.oneCell' = true := fun u hu => hone u (List.mem_of_mem_drop hu)
  refine ⟨fun k50 w51 hk50 => ?_, fun k36 w37 hk36 w39' w39 hk38 => ?_⟩
  ·have x51 := x33.trans hk50.ext
   have own51 : Qc w51 w5.heap.size 139 2 (some (at0 k50)) 0 0 [] := Qc.made hk50 (by rw [hk50.size.1]; exact x33.size) (Nat.le_refl _) (by unfold maxLen; omega) rfl
   refine ⟨st _ x51, ?_, fun k54 w55 hk54 => ?_⟩
   ·obtain ⟨p1', c1', w64, r64, own64, x64, _⟩ := Qh0 x51 own51 (q := Qu p c 0 2) (m := i) (d := c) hprel (hpre _ (x5.trans x51)) hpren hpre1 (by omega)
    refine ⟨_, _, _, _, r64, st _ x64, fun k68 w69 hk68 => ?_⟩
    obtain ⟨p2', c2', w70, r70, own70, x70, _⟩ := Qh0 (x64.trans hk68.ext) (own64.ext hk68.ext) (q := some (at0 k68)) (m := 1) (d := 1) rfl (box hk68.at) (fun h => by cases h) hbox1 (by omega)
    refine ⟨_, _, _, _, r70, ?_⟩
    obtain ⟨p3', c3', w72, r72, own72, x72, _⟩ := Qh0 x70 own70 (q := Qu p c i 2) (m := l - i) (d := c - i) (hrestl) (hrest _ (x5.trans x70)) hrestn hrest1 (by omega)
    exact ⟨_, _, _, _, r72, fin _ _ _ _ x72 own72⟩
   ·have x55 := x51.trans hk54.ext
    obtain ⟨p1', c1', w56, r56, own56, x56, u56⟩ := Qh0 x55 (own51.ext hk54.ext) (q := Qu p c 0 2) (m := i) (d := c) hprel (hpre _ (x5.trans x55)) hpren hpre1 (by omega)
    refine ⟨_, _, _, _, r56, st _ x56, ?_⟩
    have hb54 := u56.keep hk54.at (by intro e; simp only [Zi, at0, Zv, and_true] at e; have := hk54.size.1; have := hk50.size; omega)
    obtain ⟨p2', c2', w60, r60, own60, x60, _⟩ := Qh0 x56 own56 (q := some (at0 k54)) (m := 1) (d := 1) rfl (box hb54) (fun h => by cases h) hbox1 (by omega)
    refine ⟨_, _, _, _, r60, ?_⟩
    obtain ⟨p3', c3', w62, r62, own62, x62, _⟩ := Qh0 x60 own60 (q := Qu p c i 2) (m := l - i) (d := c - i) (hrestl) (hrest _ (x5.trans x60)) hrestn hrest1 (by omega)
    exact ⟨_, _, _, _, r62, fin _ _ _ _ x62 own62⟩
  ·have x37 := x33.trans hk36.ext
   have x39 := x37.trans hk38.ext
   have own39 : Qc w39 w5.heap.size 139 2 (some (at0 w39')) 0 0 [] := Qc.made hk38 (by rw [hk38.size.1]; exact x37.size) (Nat.le_refl _) (by unfold maxLen; omega) rfl
   obtain ⟨p1', c1', w42, r42, own42, x42, u42⟩ := Qh0 x39 own39 (q := Qu p c 0 2) (m := i) (d := c) hprel (hpre _ (x5.trans x39)) hpren hpre1 (by omega)
   refine ⟨st _ x39, _, _, _, _, r42, st _ x42, ?_⟩
   have hb36 := u42.keep (hk38.ext.keep hk36.at) (by intro e; simp only [Zi, at0, Zv, and_true] at e; have := hk36.size; have := hk38.size.1; omega)
   obtain ⟨p2', c2', w46, r46, own46, x46, _⟩ := Qh0 x42 own42 (q := some (at0 k36)) (m := 1) (d := 1) rfl (box hb36) (fun h => by cases h) hbox1 (by omega)
   refine ⟨_, _, _, _, r46, ?_⟩
   obtain ⟨p3', c3', w48, r48, own48, x48, _⟩ := Qh0 x46 own46 (q := Qu p c i 2) (m := l - i) (d := c - i) (hrestl) (hrest _ (x5.trans x46)) hrestn hrest1 (by omega)
   exact ⟨_, _, _, _, r48, fin _ _ _ _ x48 own48⟩
open Go Go.Vc
open Go.IntKind (i64)
open Go.Value (int)
open Go.Proofs.Tryz (prog)
theorem QNf {w w' : World} {a : Addr} {v : Value} (h : w.cell? a = some v) (hu : Ext w w') : w'.cell? a = some v := Upd.cell hu h id
theorem QZ1.upd {S G : Nat -> Prop} {w w' : World} {p : σ} {l c : Nat} {L : SM} (h : QZ1 w G p l c L) (hu : Upd S w w') (hS : ∀ x, G x -> ¬ S x) : QZ1 w' G p l c L := by
 obtain ⟨h1, h2, h3, h4, vs, h5, h6⟩ := h
 exact ⟨h1, h2, h3, h4, vs, Q82 h5 fun v x hv => hv.upd hu hS, h6.upd hu fun a ha _ => hS _ (h4 a ha)⟩
theorem QZ1.ext {G : Nat -> Prop} {w w' : World} {p : σ} {l c : Nat} {L : SM} (h : QZ1 w G p l c L) (hu : Ext w w') : QZ1 w' G p l c L := h.upd hu fun _ _ h => h
theorem QZ1.mono {G G' : Nat -> Prop} {w : World} {p : σ} {l c : Nat} {L : SM} (h : QZ1 w G p l c L) (hG : ∀ x, G x -> G' x) : QZ1 w G' p l c L := by
 obtain ⟨h1, h2, h3, h4, vs, h5, h6⟩ := h
 exact ⟨h1, h2, h3, fun a ha => hG _ (h4 a ha), vs, Q82 h5 fun v x hv => hv.mono hG, h6⟩
theorem QZ1.nil (w : World) (G : Nat -> Prop) : QZ1 w G none 0 0 [] := ⟨rfl, Nat.le_refl _, fun _ => rfl, fun a h => (by cases h), [], .nil, Q8.nil _ _⟩
theorem QZ1.at {G : Nat -> Prop} {w : World} {p : σ} {l c : Nat} {L : SM} (h : QZ1 w G p l c L) {i : Nat} {x : Int × τ} (hx : L[i]? = some x) :
  ∃ a q n c', p = some a /\ w.cell? (a.add (i * 2)) = some (int i64 x.1) /\ w.cell? ((a.add (i * 2)).add 0) = some (int i64 x.1) /\ w.cell? ((a.add (i * 2)).add 1) = some (.slice q n c') /\ Qh G w (.slice q n c') x.2 := by
 obtain ⟨h1, h2, h3, h4, vs, h5, h6⟩ := h
 obtain ⟨v, hv, hs⟩ := Q98 h5 hx
 obtain ⟨c1, c2⟩ := QP1 hv hx
 obtain ⟨a, ha, e1⟩ := h6 _ _ c1
 obtain ⟨a', ha', e2⟩ := h6 _ _ c2
 rw [ha] at ha'
 cases ha'
 have hs' := hs
 obtain ⟨q, n, c', rfl, _⟩ := hs
 exact ⟨a, q, n, c', ha, by rw [Nat.mul_comm]; exact e1, by rw [Qt, Nat.add_zero, Nat.mul_comm]; exact e1, by rw [Qt, Nat.mul_comm]; exact e2, hs'⟩
theorem QZ1.read {G : Nat -> Prop} {w : World} {p : σ} {l c : Nat} {L : SM} (h : QZ1 w G p l c L) (hl : L.length <= 4096) : Q68 w p l L := by
 refine ⟨h.1, by rw [h.1]; exact hl, fun i x hi => ?_⟩
 obtain ⟨a, q, n, c', hp, _, h1, h2, q', n', c'', he, hb, _, hn, _⟩ := h.at hi
 cases he
 exact ⟨a, q, n, c', hp, h1, h2, hb, hn⟩
def Q00 (w : World) (b : Nat) (D : Dk) (G : Nat -> Prop) : Prop :=
 ∃ pL lL cL pW lW cW, RowW w b #[int i64 D.sectors, .slice pL lL cL, .slice pW lW cW, .bool D.dead] /\ QZ1 w G pL lL cL D.lasts /\ QZ1 w G pW lW cW D.waits /\ Asc D.lasts /\ Asc D.waits /\ ¬ G b /\ ∀ x, G x -> x < w.heap.size
theorem Q00.upd {S G : Nat -> Prop} {w w' : World} {b : Nat} {D : Dk} (h : Q00 w b D G) (hu : Upd S w w') (hS : ∀ x, S x -> ¬ (x = b \/ G x)) : Q00 w' b D G := by
 obtain ⟨pL, lL, cL, pW, lW, cW, h1, h2, h3, h4, h5, h6, h7⟩ := h
 have hG : ∀ x, G x -> ¬ S x := fun x hx hs => hS x hs (.inr hx)
 exact ⟨pL, lL, cL, pW, lW, cW, hu.rowW h1 fun hs => hS _ hs (.inl rfl), h2.upd hu hG, h3.upd hu hG, h4, h5, h6, fun x hx => Zo (h7 x hx) hu.size⟩
theorem Q00.ext {G : Nat -> Prop} {w w' : World} {b : Nat} {D : Dk} (h : Q00 w b D G) (hu : Ext w w') : Q00 w' b D G := h.upd hu fun _ h => h.elim
theorem Q00.lt {G : Nat -> Prop} {w : World} {b : Nat} {D : Dk} (h : Q00 w b D G) : b < w.heap.size := by
 obtain ⟨_, _, _, _, _, _, h1, _⟩ := h
 exact h1.lt
theorem QZ0 {w w' : World} {b j : Nat} {v : Value} (h : QT w ((at0 b).add j) v w') : Upd (fun x => x = b) w w' := by
 have := h.upd
 rw [Qi] at this
 exact this
theorem Q00.setW {w w1 w' : World} {b : Nat} {D : Dk} {G G' : Nat -> Prop} (h : Q00 w b D G) (hx : Ext w w1) {p : σ} {l c : Nat} {L : SM} (hL : QZ1 w1 G' p l c L) (hGG : ∀ x, G x -> G' x) (hb : ¬ G' b) (hlt : ∀ x, G' x -> x < w1.heap.size)
  (ha : Asc L) (hs : QT w1 ((at0 b).add 2) (.slice p l c) w') : Q00 w' b { D with waits := L } G' /\ Upd (fun x => x = b) w w' := by
 obtain ⟨pL, lL, cL, pW, lW, cW, h1, h2, h3, h4, h5, h6, h7⟩ := h
 have hu := QZ0 hs
 have hG : ∀ x, G' x -> ¬ (x = b) := by rintro x hx rfl; exact hb hx
 refine ⟨⟨pL, lL, cL, p, l, c, hs.row (hx.rowW h1 id), ((h2.ext hx).mono hGG).upd hu hG, hL.upd hu hG, h4, ha, hb, fun x hx => Zo (hlt x hx) hu.size⟩, ?_⟩
 exact Upd.trans (hx.upd (S := fun x => x = b)) hu fun _ _ h => h
theorem Q00.setL {w w1 w' : World} {b : Nat} {D : Dk} {G G' : Nat -> Prop} (h : Q00 w b D G) (hx : Ext w w1) {p : σ} {l c : Nat} {L : SM} (hL : QZ1 w1 G' p l c L) (hGG : ∀ x, G x -> G' x) (hb : ¬ G' b) (hlt : ∀ x, G' x -> x < w1.heap.size)
  (ha : Asc L) (hs : QT w1 ((at0 b).add 1) (.slice p l c) w') : Q00 w' b { D with lasts := L } G' /\ Upd (fun x => x = b) w w' := by
 obtain ⟨pL, lL, cL, pW, lW, cW, h1, h2, h3, h4, h5, h6, h7⟩ := h
 have hu := QZ0 hs
 have hG : ∀ x, G' x -> ¬ (x = b) := by rintro x hx rfl; exact hb hx
 refine ⟨⟨p, l, c, pW, lW, cW, hs.row (hx.rowW h1 id), hL.upd hu hG, ((h3.ext hx).mono hGG).upd hu hG, ha, h5, hb, fun x hx => Zo (hlt x hx) hu.size⟩, ?_⟩
 exact Upd.trans (hx.upd (S := fun x => x = b)) hu fun _ _ h => h
theorem QEf {n : Int} (h : n < 1 \/ 4096 < n) (w : World) : Calls prog 20 #[int i64 n] w fun e w' => e = .returned (.tuple #[.pointer none, int i64 1]) /\ w' = w := by
 refine (F20_calls n w (fun v w' => v = .tuple #[.pointer none, int i64 1] /\ w' = w) ?_).mono (by rintro e w' ⟨v, rfl, rfl, h⟩; exact ⟨rfl, h⟩)
 refine Q0 (fun _ => ⟨rfl, rfl⟩) (fun h1 => Q0 (fun _ => ⟨rfl, rfl⟩) (fun h2 => ?_))
 simp only [Zb] at h1 h2
 omega
theorem Qcc {n : Int} (h : 1 <= n /\ n <= 4096) (w : World) : Calls prog 20 #[int i64 n] w fun e w' => ∃ b, e = .returned (.tuple #[.pointer (some (at0 b)), int i64 0]) /\ Ext w w' /\ Q00 w' b ⟨n, [], [], false⟩ (fun _ => False) /\ w.heap.size <= b := by
 refine (F20_calls n w (fun v w' => ∃ b, v = .tuple #[.pointer (some (at0 b)), int i64 0] /\ Ext w w' /\ Q00 w' b ⟨n, [], [], false⟩ (fun _ => False) /\ w.heap.size <= b) ?_).mono (by rintro e w' ⟨v, rfl, b, rfl, h⟩; exact ⟨b, rfl, h⟩)
 refine Q0 (fun h1 => ?_) (fun h1 => Q0 (fun h2 => ?_) (fun h2 => ?_))
 ·simp only [Za] at h1; omega
 ·simp only [Za] at h2; omega
 intro k w3 hk
 exact ⟨k, rfl, hk.ext, ⟨none, 0, 0, none, 0, 0, ⟨_, hk.at⟩, QZ1.nil _ _, QZ1.nil _ _, List.Pairwise.nil, List.Pairwise.nil, id, fun x h => h.elim⟩, by rw [hk.size.1]; exact Nat.le_refl _⟩
theorem Qg3 {w : World} {b : Nat} {D : Dk} {G : Nat -> Prop} (h : Q00 w b D G) (k : Int) : Calls prog 142 #[.pointer (some (at0 b)), int i64 k] w fun e w' => e = .returned (int i64 (Qe D.dead D.sectors k)) /\ w' = w := by
 obtain ⟨pL, lL, cL, pW, lW, cW, h1, _⟩ := h
 refine (F142_calls (some (at0 b)) k w (fun v w' => v = int i64 (Qe D.dead D.sectors k) /\ w' = w) ?_).mono (by rintro e w' ⟨v, rfl, rfl, h⟩; exact ⟨rfl, h⟩)
 refine ⟨D.dead, h1.c rfl, ?_⟩
 unfold Qe
 refine Q0 (fun hd => ⟨by rw [if_pos hd], rfl⟩) (fun hd => ?_)
 rw [if_neg (by simp [hd])]
 refine Q0 (fun h2 => ⟨?_, rfl⟩) (fun h2 => ⟨_, h1.c rfl, Q0 (fun h3 => ⟨?_, rfl⟩) (fun h3 => ⟨?_, rfl⟩)⟩)
 ·simp only [Za] at h2
  rw [if_pos (.inl h2)]
 ·simp only [Za] at h3
  rw [if_pos (.inr h3)]
 ·simp only [Zb] at h2 h3
  rw [if_neg (by omega)]
theorem QM2 {w : World} {G : Nat -> Prop} {p : σ} {l c : Nat} {L : SM} (h : QZ1 w G p l c L) (hlen : L.length <= 4096) (k : Int) :
  Calls prog 145 #[.slice p l c, int i64 k] w fun e w' => Ext w w' /\ ((∃ (i : Nat) (bs : τ), e = .returned (int i64 (i : Int)) /\ L[i]? = some (k, bs) /\ get k L = some bs) \/ (e = .returned (int i64 (-1)) /\ get k L = none)) := by
 refine (F145_calls p l c k w (fun v w' => Ext w w' /\ ((∃ (i : Nat) (bs : τ), v = int i64 (i : Int) /\ L[i]? = some (k, bs) /\ get k L = some bs) \/ (v = int i64 (-1) /\ get k L = none)))
  (fun _ n w4 => ∃ i : Nat, n = i /\ i <= l /\ Ext w w4 /\ get k (L.take i) = none) (fun _ n _ => 4096 - n.toNat) ?_).mono (by
   rintro e w' ⟨v, rfl, hx, ⟨i, bs, rfl, h⟩ | ⟨rfl, h⟩⟩
   ·exact ⟨hx, .inl ⟨i, bs, rfl, h⟩⟩
   ·exact ⟨hx, .inr ⟨rfl, h⟩⟩)
 have hl := h.1
 refine ⟨⟨0, rfl, Nat.zero_le _, Upd.refl _ _, by simp [Vc.get]⟩, ?_⟩
 rintro n w4 ⟨i, rfl, hi, hx4, hno⟩
 intros
 refine Q0 (fun hlt => ?_) (fun hge => ?_)
 ·simp only [Za] at hlt
  obtain ⟨x, hxi⟩ : ∃ x, L[i]? = some x := ⟨L[i]'(by omega), Zc _⟩
  obtain ⟨a, q, nn, cc, rfl, _, ca, _⟩ := (h.ext hx4).at hxi
  rw [Ze]
  refine ⟨⟨by omega, hlt⟩, _, ca, Q0 (fun hk => ?_) (fun hk => ?_)⟩
  ·simp only [Za] at hk
   refine ⟨hx4, .inl ⟨i, x.2, rfl, ?_, ?_⟩⟩
   ·rw [hxi, ← hk]
   ·have e : L = L.take i ++ L.drop i := (List.take_append_drop i L).symm
    have hlt2 : i < L.length := by omega
    rw [e, QW5, hno, List.drop_eq_getElem_cons hlt2]
    have : L[i] = x := (Zd.1 hxi).2
    rw [this]
    obtain ⟨u, v⟩ := x
    simp only [Vc.get]
    rw [if_pos hk]; rfl
  ·simp only [Zb] at hk
   rw [w64 (by omega)]
   refine ⟨⟨i + 1, by omega, by omega, hx4, ?_⟩, by show 4096 - ((i : Int) + 1).toNat < 4096 - (i : Int).toNat; omega⟩
   rw [Zn, hxi, QW5, hno]
   obtain ⟨u, v⟩ := x
   simp only [Option.toList_some, Vc.get]
   rw [if_neg hk]; rfl
 ·simp only [Zb] at hge
  have e1 : L.take i = L := Zh (by omega)
  rw [e1] at hno
  exact ⟨hx4, .inr ⟨rfl, hno⟩⟩
theorem QK5 {w : World} {p : σ} {l : Nat} {bs : τ} (h : Q3 w p l bs) : p = none -> l = 0 := by
 intro hp
 cases bs with
 | nil => rw [h.1]; rfl
 | cons b bs =>
  obtain ⟨a, ha, _⟩ := h.2 (by simp)
  rw [hp] at ha; cases ha
theorem Qr8 {w w1 : World} {k : Nat} (hk : QU1 w k (.cells #[] 5) w1) {p : σ} {l c : Nat} {bs : τ} (hb : Q3 w p l bs) (hl : l <= 4300) :
  ∃ p' c' w', Sem.run prog (Builtin.append_ #[42, 42] 42 #[.slice (some (at0 k)) 0 0, .slice p l c]) w1 = .ok (.slice p' l c') w' /\ Ext w w' /\ Qc w' w.heap.size 5 1 p' l c' (QB bs) := by
 have hll := hb.1
 have hs := hk.size
 have own : Qc w1 w.heap.size 5 1 (some (at0 k)) 0 0 [] := Qc.made hk (by rw [hs.1]; exact Nat.le_refl _) (Nat.le_refl _) (by unfold maxLen; omega) rfl
 obtain ⟨p', c', w', hr, ho, hu, _⟩ := own.append QTc 42 (q := p) (m := l) (d := c) (news := QB bs) (by rw [Qq]; omega) ((hb.ext hk.ext).cells) (QK5 hb)
  (Qn3 bs) (by unfold maxLen; omega) (by omega) (by omega)
 rw [Nat.zero_add] at hr ho
 rw [List.nil_append] at ho
 refine ⟨p', c', w', hr, ?_, ho⟩
 refine Upd.trans hk.ext hu fun x hx hs' => ?_
 simp only [Zi, at0, Zv, and_true] at hs'
 omega
theorem QN8 {w w' : World} {base : Nat} {p : σ} {l c : Nat} {bs : τ} (ho : Qc w' base 5 1 p l c (QB bs)) (hb : w.heap.size <= base) (hne : bs ≠ []) (hl : bs.length <= 4108) :
  Qh (fun x => w.heap.size <= x /\ x < w'.heap.size) w' (.slice p l c) bs := by
 have h1 := Q3.of_cells ho.cells
 have hlen := ho.length
 rw [Qq, Nat.mul_one] at hlen
 rw [hlen] at h1
 refine ⟨p, l, c, rfl, h1, hne, by omega, fun a ha => ?_⟩
 rcases ho.where_ with ⟨h2, _⟩ | ⟨g, h2, hge, hlt, _⟩
 ·rw [h2] at ha; cases ha
 ·rw [h2] at ha; cases ha
  exact ⟨Zu hb hge, hlt⟩
open Go Go.Vc
open Go.IntKind (i64)
open Go.Value (int)
open Go.Proofs.Tryz (prog)
abbrev Gn (G : Nat -> Prop) (n m : Nat) : Nat -> Prop := fun x => G x \/ (n <= x /\ x < m)
theorem Qf3 {D : Dk} (h : Qs2 D) (h1 : Asc D.lasts) (h2 : Asc D.waits) : D.lasts.length <= 4096 /\ D.waits.length <= 4096 := Q3f h ⟨h1, h2⟩
theorem Q59 {w : World} {b : Nat} {D : Dk} {G : Nat -> Prop} (h : Q00 w b D G) (hok : Qs2 D) (k : Int) {p : σ} {l c : Nat} {bs : τ} (hb : Q3 w p l bs) :
  Calls prog 107 #[.pointer (some (at0 b)), int i64 k, .slice p l c] w fun e w' => ∃ G', e = .returned (int i64 (Qj D k bs.length)) /\ Upd (fun x => x = b) w w' /\ Q00 w' b (Q30 D k bs) G' /\ QH3 G G' w w' := by
 refine (F107_calls (some (at0 b)) k p l c w (fun v w' => ∃ G', v = int i64 (Qj D k bs.length) /\ Upd (fun x => x = b) w w' /\ Q00 w' b (Q30 D k bs) G' /\ QH3 G G' w w') ?_).mono (by rintro e w' ⟨v, rfl, G', rfl, h⟩; exact ⟨G', rfl, h⟩)
 have hl := hb.1
 refine (Qg3 h k).mono ?_
 rintro e w4 ⟨rfl, rfl⟩
 have same : Qj D k bs.length ≠ 0 -> ∃ G', int i64 (Qj D k bs.length) = int i64 (Qj D k bs.length) /\ Upd (fun x => x = b) w4 w4 /\ Q00 w4 b (Q30 D k bs) G' /\ QH3 G G' w4 w4 := fun hz =>
  ⟨G, rfl, Upd.refl _ _, by rw [Qyd hz]; exact h, fun x hx => .inl hx⟩
 refine ⟨_, rfl, Q0 (fun hf => ?_) (fun hf => ?_)⟩
 ·simp only [Zg, Zb] at hf
  have hz : Qj D k bs.length = Qe D.dead D.sectors k := by simp [Qj, hf]
  rw [← hz]
  exact same (by rw [hz]; exact hf)
 simp only [Zf, Za] at hf
 have bad : (bs.length < 1 \/ 4108 < bs.length) -> Qj D k bs.length = 1 := fun hbad => by rw [Qj, if_neg (by simp [hf]), if_pos hbad]
 refine Q0 (fun h1 => ?_) (fun h1 => Q0 (fun h2 => ?_) (fun h2 => ?_))
 ·simp only [Za] at h1
  have := bad (by omega)
  have := same (by rw [this]; decide)
  rw [bad (by omega)] at this ⊢; exact this
 ·simp only [Za] at h2
  have := bad (by omega)
  have := same (by rw [this]; decide)
  rw [bad (by omega)] at this ⊢; exact this
 simp only [Zb] at h1 h2
 have hz : Qj D k bs.length = 0 := by rw [Qj, if_neg (by simp [hf]), if_neg (by omega)]
 have hne : bs ≠ [] := by rintro rfl; simp at hl; omega
 intro w7 hd
 obtain ⟨pL, lL, cL, pW, lW, cW, i1, i2, i3, i4, i5, i6, i7⟩ := h
 have hlen := Qf3 hok i4 i5
 have x7 := hd.ext
 refine ⟨_, _, _, (x7.rowW i1 id).row.cell rfl, ?_⟩
 intro k10 w11 hk
 have x11 := x7.trans hk.ext
 obtain ⟨p14, c14, w13, hr, x13', own⟩ := Qr8 hk (hb.ext x7) (c := c) (by omega)
 have x13 := x7.trans x13'
 refine ⟨⟨_, _, _, (x11.rowW i1 id).row.cell rfl, rfl⟩, p14, l, c14, w13, hr, ⟨_, _, _, (x13.rowW i1 id).row.cell rfl, rfl⟩, ?_⟩
 have hv : Qh (Gn G w4.heap.size w13.heap.size) w13 (.slice p14 l c14) bs := (QN8 (w := w4) own x7.size hne (by omega)).mono fun x hx => .inr hx
 refine (QD3 ((i3.ext x13).mono (G' := Gn G w4.heap.size w13.heap.size) fun x hx => .inl hx) i5 hlen.2 k hv).mono ?_
 rintro e w16 ⟨p', l', c', rfl, x16', hL⟩
 have x16 := x13.trans x16'
 refine ⟨p', l', c', rfl, (x16.rowW i1 id).live (by simp), fun w20 hs => ?_⟩
 have hL' : QZ1 w16 (Gn G w4.heap.size w16.heap.size) p' l' c' (ins k bs D.waits) := hL.mono fun x hx => by
  have s1 := x13.size; have s2 := x16'.size
  rcases hx with (hx | hx) | hx
  ·exact .inl hx
  ·exact .inr ⟨hx.1, by omega⟩
  ·exact .inr ⟨by omega, hx.2⟩
 have hbl := i1.lt
 have href : Q00 w4 b D G := ⟨pL, lL, cL, pW, lW, cW, i1, i2, i3, i4, i5, i6, i7⟩
 obtain ⟨r1, r2⟩ := href.setW x16 hL' (fun x hx => .inl hx) (fun hx => hx.elim i6 fun h => by omega) (by
  have s1 := x16.size
  rintro x (hx | hx)
  ·have := i7 x hx; omega
  ·exact hx.2) (QR3 i5) hs
 refine ⟨Gn G w4.heap.size w16.heap.size, by rw [hz], r2, ?_, fun x hx => ?_⟩
 ·rw [Q30, if_pos hz]; exact r1
 ·rcases hx with hx | hx
  ·exact .inl hx
  ·exact .inr ⟨hx.1, by have := (QZ0 hs).size; omega⟩
theorem QN7 {w : World} {b : Nat} {D : Dk} {G : Nat -> Prop} (h : Q00 w b D G) (hok : Qs2 D) (k : Int) :
  Calls prog 110 #[.pointer (some (at0 b)), int i64 k] w fun e w' => Ext w w' /\ ∃ p l c bs, e = .returned (.tuple #[.slice p l c, int i64 (Qe D.dead D.sectors k)]) ∧
   bs = (if Qe D.dead D.sectors k = 0 then Ql1 D k else []) /\ Q3 w' p l bs /\ l <= 4108 /\ Qc w' w.heap.size 5 1 p l c (QB bs) := by
 refine (F110_calls (some (at0 b)) k w (fun v w' => Ext w w' /\ ∃ p l c bs, v = .tuple #[.slice p l c, int i64 (Qe D.dead D.sectors k)] ∧
   bs = (if Qe D.dead D.sectors k = 0 then Ql1 D k else []) /\ Q3 w' p l bs /\ l <= 4108 /\ Qc w' w.heap.size 5 1 p l c (QB bs)) ?_).mono (by rintro e w' ⟨v, rfl, hx, p, l, c, bs, rfl, h⟩; exact ⟨hx, p, l, c, bs, rfl, h⟩)
 refine (Qg3 h k).mono ?_
 rintro e w4 ⟨rfl, rfl⟩
 refine ⟨_, rfl, Q0 (fun hf => ?_) (fun hf => ?_)⟩
 ·simp only [Zg, Zb] at hf
  exact ⟨Upd.refl _ _, none, 0, 0, [], rfl, by rw [if_neg hf], Q3.nil _ _, by omega, Qc.nil _ _ _ _⟩
 simp only [Zf, Za] at hf
 obtain ⟨pL, lL, cL, pW, lW, cW, i1, i2, i3, i4, i5, i6, i7⟩ := h
 have hlen := Qf3 hok i4 i5
 refine ⟨_, _, _, i1.c rfl, ?_⟩
 have done : ∀ {L : SM} {p : σ} {l c : Nat} {i : Nat} {bs : τ} {w8 : World}, QZ1 w8 G p l c L -> L[i]? = some (k, bs) -> Ql1 D k = bs -> Ext w4 w8 -> ∀ (k11 : Nat) (w12 : World), QU1 w8 k11 (.cells #[] 5) w12 →
   (0 <= (i : Int) /\ (i : Int) < ((l : Nat) : Int)) /\ (Qv p fun a15 => (∃ (p16 : σ) (l16 c16 : Nat), w12.cell? ((a15.add ((i : Int).toNat * 2)).add 1) = some (.slice p16 l16 c16) /\ (∃ (p18 : σ) (l18 c18 : Nat), ∃ w17 : World,
    Sem.run prog (Builtin.append_ #[42, 42] 42 #[.slice (some (at0 k11)) 0 0, .slice p16 l16 c16]) w12 = .ok (.slice p18 l18 c18) w17 ∧
    (Ext w4 w17 /\ ∃ p l c bs, (Value.tuple #[.slice p18 l18 c18, int i64 (0 : Int)]) = .tuple #[.slice p l c, int i64 (Qe D.dead D.sectors k)] /\ bs = (if Qe D.dead D.sectors k = 0 then Ql1 D k else []) /\ Q3 w17 p l bs /\ l <= 4108 /\ Qc w17 w4.heap.size 5 1 p l c (QB bs))))) := by
  intro L p l c i bs w8 hL hi hrd hx k11 w12 hk
  have hil : i < L.length := (Zd.1 hi).1
  obtain ⟨a, q, n, c', rfl, _, _, hc, q', n', c'', he, hb, hne, hn, _⟩ := hL.at hi
  cases he
  refine ⟨⟨by omega, by have := hL.1; omega⟩, ?_⟩
  obtain ⟨p18, c18, w17, hr, x17, own⟩ := Qr8 hk hb (c := c') (by omega)
  refine ⟨q, n, c', by rw [Ze]; exact QNf hc hk.ext, p18, n, c18, w17, hr, hx.trans x17, p18, n, c18, bs, by rw [hf], by rw [if_pos hf, hrd], ?_, hn, own.base_le hx.size⟩
  have := Q3.of_cells own.cells
  rw [← hb.1] at this
  exact this
 refine (QM2 i3 hlen.2 k).mono ?_
 rintro e w8 ⟨x8, ⟨i, bs, rfl, hi, hg⟩ | ⟨rfl, hg⟩⟩
 ·refine ⟨_, rfl, Q0 (fun _ k11 w12 hk => ?_) (fun h0 => by simp at h0)⟩
  exact ⟨_, _, _, ((x8.trans hk.ext).rowW i1 id).row.cell rfl, done (i3.ext x8) hi (by simp [Ql1, hg]) x8 k11 w12 hk⟩
 ·refine ⟨_, rfl, Q0 (fun h0 => by simp at h0) (fun _ => ?_)⟩
  refine ⟨_, _, _, (x8.rowW i1 id).row.cell rfl, ?_⟩
  refine (QM2 (i2.ext x8) hlen.1 k).mono ?_
  rintro e w21 ⟨x21, ⟨i, bs, rfl, hi, hg2⟩ | ⟨rfl, hg2⟩⟩
  ·refine ⟨_, rfl, Q0 (fun _ k11 w12 hk => ?_) (fun h0 => by simp at h0)⟩
   exact ⟨_, _, _, (((x8.trans x21).trans hk.ext).rowW i1 id).row.cell rfl, done (i2.ext (x8.trans x21)) hi (by simp [Ql1, hg, hg2]) (x8.trans x21) k11 w12 hk⟩
  ·refine ⟨_, rfl, Q0 (fun h0 => by simp at h0) (fun _ => ?_)⟩
   exact ⟨x8.trans x21, none, 0, 0, [], by rw [hf], by rw [if_pos hf]; simp [Ql1, hg, hg2], Q3.nil _ _, by omega, Qc.nil _ _ _ _⟩
theorem QFa {w : World} {b : Nat} {D : Dk} {G : Nat -> Prop} (h : Q00 w b D G) (hok : Qs2 D) (k : Int) :
  Calls prog 110 #[.pointer (some (at0 b)), int i64 k] w fun e w' => Ext w w' /\ ∃ p l c bs, e = .returned (.tuple #[.slice p l c, int i64 (Qe D.dead D.sectors k)]) ∧
   bs = (if Qe D.dead D.sectors k = 0 then Ql1 D k else []) /\ Q3 w' p l bs /\ l <= 4108 :=
 (QN7 h hok k).mono fun _ _ ⟨hx, p, l, c, bs, he, hb, hc, hl, _⟩ => ⟨hx, p, l, c, bs, he, hb, hc, hl⟩
theorem Q1d (L W : SM) (x : Int × τ) : mrg L (W ++ [x]) = ins x.1 x.2 (mrg L W) := by simp [mrg, List.foldl_append]
theorem QPd {w : World} {b : Nat} {D : Dk} {G : Nat -> Prop} (h : Q00 w b D G) (dd : Bool) {w3 w5 w7 : World} (s3 : QT w ((at0 b).add 3) (.bool dd) w3) (s5 : QT w3 ((at0 b).add 1) (.slice none 0 0) w5) (s7 : QT w5 ((at0 b).add 2) (.slice none 0 0) w7) :
  Upd (fun x => x = b) w w7 /\ Q00 w7 b { D with dead := dd, lasts := [], waits := [] } G := by
 obtain ⟨pL, lL, cL, pW, lW, cW, i1, i2, i3, i4, i5, i6, i7⟩ := h
 have hu := Upd.trans (Upd.trans (QZ0 s3) (QZ0 s5) fun _ _ h => h) (QZ0 s7) fun _ _ h => h
 exact ⟨hu, none, 0, 0, none, 0, 0, s7.row (s5.row (s3.row i1)), QZ1.nil _ _, QZ1.nil _ _, List.Pairwise.nil, List.Pairwise.nil, i6, fun x hx => Zo (i7 x hx) hu.size⟩
theorem QEa {w : World} {b : Nat} {D : Dk} {G : Nat -> Prop} (h : Q00 w b D G) :
  Calls prog 124 #[.pointer (some (at0 b))] w fun e w' => e = .returned (.tuple #[]) /\ Upd (fun x => x = b) w w' /\ Q00 w' b { D with dead := true, lasts := [], waits := [] } G := by
 refine (F124_calls (some (at0 b)) w (fun v w' => v = .tuple #[] /\ Upd (fun x => x = b) w w' /\ Q00 w' b { D with dead := true, lasts := [], waits := [] } G) ?_).mono (by rintro e w' ⟨v, rfl, rfl, h⟩; exact ⟨rfl, h⟩)
 have h' := h
 obtain ⟨pL, lL, cL, pW, lW, cW, i1, _⟩ := h'
 exact ⟨i1.live (by simp), fun w3 s3 => ⟨(s3.row i1).live (by simp), fun w5 s5 => ⟨(s5.row (s3.row i1)).live (by simp), fun w7 s7 => ⟨rfl, QPd h true s3 s5 s7⟩⟩⟩⟩
theorem QT6 {w : World} {b : Nat} {D : Dk} {G : Nat -> Prop} (h : Q00 w b D G) :
  Calls prog 126 #[.pointer (some (at0 b))] w fun e w' => e = .returned (.tuple #[]) /\ Upd (fun x => x = b) w w' /\ Q00 w' b { D with dead := false, lasts := [], waits := [] } G := by
 refine (F126_calls (some (at0 b)) w (fun v w' => v = .tuple #[] /\ Upd (fun x => x = b) w w' /\ Q00 w' b { D with dead := false, lasts := [], waits := [] } G) ?_).mono (by rintro e w' ⟨v, rfl, rfl, h⟩; exact ⟨rfl, h⟩)
 have h' := h
 obtain ⟨pL, lL, cL, pW, lW, cW, i1, _⟩ := h'
 exact ⟨i1.live (by simp), fun w3 s3 => ⟨(s3.row i1).live (by simp), fun w5 s5 => ⟨(s5.row (s3.row i1)).live (by simp), fun w7 s7 => ⟨rfl, QPd h false s3 s5 s7⟩⟩⟩⟩
open Go Go.Vc
open Go.IntKind (i64)
open Go.Value (int)
open Go.Proofs.Tryz (prog)
theorem Qs2.mrg {D : Dk} (h : Qs2 D) {W : SM} (hW : ∀ x ∈ W, x ∈ D.waits) (ha : Asc W) : Qs2 { D with lasts := mrg D.lasts W } := by
 refine ⟨h.sec, fun x hx => ?_, h.waits⟩
 rcases QJ8 ha hx with hx | hx
 ·exact h.waits x (hW x hx)
 ·exact h.lasts x hx
structure Qu1 (b : Nat) (G G' : Nat -> Prop) (w w' : World) : Prop where
 upd : Upd (fun x => x = b) w w'
 grow : QH3 G G' w w'
theorem Qu1.refl (b : Nat) (G : Nat -> Prop) (w : World) : Qu1 b G G w w := ⟨Upd.refl _ _, fun _ h => .inl h⟩
theorem Qu1.ext {b : Nat} {G : Nat -> Prop} {w w' : World} (h : Ext w w') : Qu1 b G G w w' := ⟨h.upd, fun _ h => .inl h⟩
theorem Qu1.trans {b : Nat} {G G' G'' : Nat -> Prop} {w w' w'' : World} (h : Qu1 b G G' w w') (h' : Qu1 b G' G'' w' w'') : Qu1 b G G'' w w'' := by
 refine ⟨Upd.trans h.upd h'.upd fun _ _ h => h, fun x hx => ?_⟩
 have s1 := h.upd.size
 have s2 := h'.upd.size
 rcases h'.grow x hx with h1 | h1
 ·rcases h.grow x h1 with h2 | h2
  ·exact .inl h2
  ·exact .inr ⟨h2.1, by omega⟩
 ·exact .inr ⟨by omega, h1.2⟩
theorem Qcd {w : World} {b : Nat} {D : Dk} {G : Nat -> Prop} {pL : σ} {lL cL : Nat} {pW : σ} {lW cW : Nat}
  (i1 : RowW w b #[int i64 D.sectors, .slice pL lL cL, .slice pW lW cW, .bool D.dead]) (i2 : QZ1 w G pL lL cL D.lasts) (i3 : QZ1 w G pW lW cW D.waits) (i4 : Asc D.lasts) (i6 : ¬ G b) (i7 : ∀ x, G x -> x < w.heap.size)
  (hlen : D.lasts.length <= 4096) (k : Int) {pv : σ} {lv cv : Nat} {bs : τ} (hv : Qh G w (.slice pv lv cv) bs) :
  Calls prog 143 #[.slice pL lL cL, .agg #[int i64 k, .slice pv lv cv]] w fun e w1 => ∃ p' l' c', e = .returned (.slice p' l' c') /\ QL1 w1 ((at0 b).add 1) /\ ∀ w', QT w1 ((at0 b).add 1) (.slice p' l' c') w' →
   ∃ G', Qu1 b G G' w w' /\ RowW w' b #[int i64 D.sectors, .slice p' l' c', .slice pW lW cW, .bool D.dead] /\ QZ1 w' G' p' l' c' (ins k bs D.lasts) /\ QZ1 w' G' pW lW cW D.waits /\ ¬ G' b /\ (∀ x, G' x -> x < w'.heap.size) := by
 refine (QD3 i2 i4 hlen k hv).mono ?_
 rintro e w1 ⟨p', l', c', rfl, x1, hL⟩
 have hb := i1.lt
 refine ⟨p', l', c', rfl, (x1.rowW i1 id).live (by simp), fun w' hs => ?_⟩
 have hu := QZ0 hs
 have hnb : ¬ Gn G w.heap.size w1.heap.size b := fun hx => hx.elim i6 fun h => by omega
 have hG : ∀ x, Gn G w.heap.size w1.heap.size x -> ¬ (x = b) := by rintro x hx rfl; exact hnb hx
 refine ⟨Gn G w.heap.size w1.heap.size, ⟨Upd.trans (x1.upd (S := fun x => x = b)) hu fun _ _ h => h, fun x hx => ?_⟩, hs.row (x1.rowW i1 id), hL.upd hu hG, ((i3.ext x1).mono fun x hx => .inl hx).upd hu hG, hnb, fun x hx => ?_⟩
 ·rcases hx with hx | hx
  ·exact .inl hx
  ·exact .inr ⟨hx.1, by have := hu.size; omega⟩
 ·have s1 := x1.size
  have s2 := hu.size
  rcases hx with hx | hx
  ·have := i7 x hx; omega
  ·omega
structure Mid (w : World) (b : Nat) (D : Dk) (G : Nat -> Prop) (w' : World) (M : SM) (pW : σ) (lW cW : Nat) : Prop where
 ex : ∃ G' pL lL cL, Qu1 b G G' w w' /\ RowW w' b #[int i64 D.sectors, .slice pL lL cL, .slice pW lW cW, .bool D.dead] /\ QZ1 w' G' pL lL cL (mrg D.lasts M) /\ QZ1 w' G' pW lW cW D.waits /\ ¬ G' b /\ ∀ x, G' x -> x < w'.heap.size
theorem Mid.ext {w : World} {b : Nat} {D : Dk} {G : Nat -> Prop} {w' w'' : World} {M : SM} {pW : σ} {lW cW : Nat} (h : Mid w b D G w' M pW lW cW) (hx : Ext w' w'') : Mid w b D G w'' M pW lW cW := by
 obtain ⟨G', pL, lL, cL, h1, h2, h3, h4, h5, h6⟩ := h
 exact ⟨G', pL, lL, cL, h1.trans (Qu1.ext hx), hx.rowW h2 id, h3.ext hx, h4.ext hx, h5, fun x hx' => Zo (h6 x hx') hx.size⟩
theorem Mid.done {w : World} {b : Nat} {D : Dk} {G : Nat -> Prop} {w' w'' : World} {M : SM} {pW : σ} {lW cW : Nat} (h : Mid w b D G w' M pW lW cW) (a1 : Asc D.lasts) (hs : QT w' ((at0 b).add 2) (.slice none 0 0) w'') :
  ∃ G', Qu1 b G G' w w'' /\ Q00 w'' b { D with lasts := mrg D.lasts M, waits := [] } G' := by
 obtain ⟨G', pL, lL, cL, h1, h2, h3, h4, h5, h6⟩ := h
 have hu := QZ0 hs
 have hG : ∀ x, G' x -> ¬ (x = b) := by rintro x hx rfl; exact h5 hx
 refine ⟨G', h1.trans ⟨hu, fun _ h => .inl h⟩, pL, lL, cL, none, 0, 0, hs.row h2, h3.upd hu hG, QZ1.nil _ _, QG6 a1, List.Pairwise.nil, h5, fun x hx => Zo (h6 x hx) hu.size⟩
theorem Mid.put {w : World} {b : Nat} {D : Dk} {G : Nat -> Prop} {w' : World} {M : SM} {pW : σ} {lW cW : Nat} (h : Mid w b D G w' M pW lW cW) (hok : Qs2 D) (a1 : Asc D.lasts) (a2 : Asc D.waits) (hM : ∀ x ∈ M, x ∈ D.waits) (aM : Asc M)
  {i : Nat} {x : Int × τ} (hx : D.waits[i]? = some x) :
  ∃ pL lL cL a q n c, w'.cell? ((at0 b).add 1) = some (.slice pL lL cL) /\ w'.cell? ((at0 b).add 2) = some (.slice pW lW cW) /\ pW = some a /\ w'.cell? (a.add (i * 2)) = some (int i64 x.1) /\ w'.cell? ((a.add (i * 2)).add 1) = some (.slice q n c) ∧
   Calls prog 143 #[.slice pL lL cL, .agg #[int i64 x.1, .slice q n c]] w' fun e w1 => ∃ p' l' c', e = .returned (.slice p' l' c') /\ QL1 w1 ((at0 b).add 1) /\ ∀ w'', QT w1 ((at0 b).add 1) (.slice p' l' c') w'' -> Mid w b D G w'' (M ++ [x]) pW lW cW := by
 obtain ⟨G', pL, lL, cL, h1, h2, h3, h4, h5, h6⟩ := h
 obtain ⟨a, q, n, c, hp, c0, _, c1, hv⟩ := h4.at hx
 refine ⟨pL, lL, cL, a, q, n, c, h2.c rfl, h2.c rfl, hp, c0, c1, ?_⟩
 have hok' := hok.mrg hM aM
 have hlen := (Qf3 hok' (QG6 a1) a2).1
 have := Qcd (D := { D with lasts := mrg D.lasts M }) h2 h3 h4 (QG6 a1) h5 h6 hlen x.1 hv
 refine this.mono ?_
 rintro e w1 ⟨p', l', c', rfl, hl, hall⟩
 refine ⟨p', l', c', rfl, hl, fun w'' hs => ?_⟩
 obtain ⟨G2, k1, k2, k3, k4, k5, k6⟩ := hall w'' hs
 refine ⟨G2, p', l', c', h1.trans k1, k2, ?_, k4, k5, k6⟩
 rw [Q1d]; exact k3
theorem Q49 {w : World} {b : Nat} {D : Dk} {G : Nat -> Prop} (h : Q00 w b D G) (hok : Qs2 D) :
  Calls prog 109 #[.pointer (some (at0 b))] w fun e w' => ∃ G', e = .returned (int i64 (if D.dead then 120 else 0)) /\ Qu1 b G G' w w' /\ Q00 w' b (Q11 D) G' := by
 have h' := h
 obtain ⟨pL, lL, cL, pW, lW, cW, i1, i2, i3, i4, i5, i6, i7⟩ := h'
 refine (F109_calls (some (at0 b)) w (fun v w' => ∃ G', v = int i64 (if D.dead then 120 else 0) /\ Qu1 b G G' w w' /\ Q00 w' b (Q11 D) G')
  (fun _ n w5 => ∃ i : Nat, n = i /\ i <= D.waits.length /\ Mid w b D G w5 (D.waits.take i) pW lW cW) (fun _ n _ => 4096 - n.toNat) ?_).mono (by rintro e w' ⟨v, rfl, G', rfl, h⟩; exact ⟨G', rfl, h⟩)
 have hlen := Qf3 hok i4 i5
 refine ⟨_, i1.c rfl, Q0 (fun hd => ⟨G, by rw [if_pos hd], Qu1.refl _ _ _, ?_⟩) (fun hd => ?_)⟩
 ·unfold Q11; rw [if_pos hd]; exact h
 refine ⟨⟨0, rfl, Nat.zero_le _, G, pL, lL, cL, Qu1.refl _ _ _, i1, i2, i3, i6, i7⟩, ?_⟩
 rintro n w5 ⟨i, rfl, hi, hm⟩
 intros
 have hm' := hm
 obtain ⟨G', pL', lL', cL', k1, k2, k3, k4, k5, k6⟩ := hm'
 refine ⟨_, _, _, k2.c rfl, Q0 (fun hlt => ?_) (fun hge => ?_)⟩
 ·simp only [Za] at hlt
  have hl := i3.1
  intro w32 d32
  obtain ⟨x, hxi⟩ : ∃ x, D.waits[i]? = some x := ⟨D.waits[i]'(by omega), Zc _⟩
  obtain ⟨p1, l1, c1, a, q, nn, cc, e1, e2, rfl, e3, e4, hc⟩ := (hm.ext d32.ext).put hok i4 i5 (fun x hx => List.mem_of_mem_take hx) (List.Pairwise.sublist (List.take_sublist _ _) i5) hxi
  rw [Ze]
  refine ⟨_, _, _, e1, _, _, _, e2, ⟨by omega, hlt⟩, _, e3, _, _, _, e4, hc.mono ?_⟩
  rintro e w40 ⟨p', l', c', rfl, hl', hall⟩
  refine ⟨p', l', c', rfl, hl', fun w44 hs => ?_⟩
  rw [w64 (by omega)]
  refine ⟨⟨i + 1, by omega, by omega, ?_⟩, by show 4096 - ((i : Int) + 1).toNat < 4096 - (i : Int).toNat; omega⟩
  rw [Zn, hxi]
  exact hall w44 hs
 ·simp only [Zb] at hge
  have hl := i3.1
  have e1 : D.waits.take i = D.waits := Zh (by omega)
  rw [e1] at hm
  refine ⟨k2.live (by simp), fun w46 hs => ?_⟩
  obtain ⟨G2, r1, r2⟩ := hm.done i4 hs
  refine ⟨G2, by rw [if_neg (by simp [hd])], r1, ?_⟩
  unfold Q11
  rw [if_neg (by simp [hd])]
  exact r2
theorem QX8 {w : World} {b : Nat} {D : Dk} {G : Nat -> Prop} (h : Q00 w b D G) (hok : Qs2 D) {p : σ} {l c : Nat} {ks : List Int} (hk : Ql w p l ks) (hkl : l <= 9223372036854775807) (hkb : ∀ a, p = some a -> ks ≠ [] -> a.block ≠ b) :
  Calls prog 122 #[.pointer (some (at0 b)), .slice p l c] w fun e w' => ∃ G', e = .returned (.tuple #[]) /\ Qu1 b G G' w w' /\ Q00 w' b (QN1 D ks) G' := by
 have h' := h
 obtain ⟨pL, lL, cL, pW, lW, cW, i1, i2, i3, i4, i5, i6, i7⟩ := h'
 refine (F122_calls (some (at0 b)) p l c w (fun v w' => ∃ G', v = .tuple #[] /\ Qu1 b G G' w w' /\ Q00 w' b (QN1 D ks) G')
  (fun _ n w5 => ∃ i : Nat, n = i /\ i <= D.waits.length /\ Mid w b D G w5 ((D.waits.take i).filter fun y => decide (y.1 ∈ ks)) pW lW cW) (fun _ n _ => 4096 - n.toNat)
  (fun n3 w4 b57 n58 w59 => ∃ j : Nat, n58 = j /\ j <= l /\ Ext w4 w59 /\ ∀ x, D.waits[n3.toNat]? = some x -> b57 = decide (x.1 ∈ ks.take j)) (fun _ _ _ n _ => 9223372036854775807 - n.toNat) ?_).mono (by rintro e w' ⟨v, rfl, G', rfl, h⟩; exact ⟨G', rfl, h⟩)
 have hlen := Qf3 hok i4 i5
 have hl := i3.1
 have hkl' := hk.1
 refine ⟨⟨0, rfl, Nat.zero_le _, G, pL, lL, cL, Qu1.refl _ _ _, i1, i2, i3, i6, i7⟩, ?_⟩
 rintro n w5 ⟨i, rfl, hi, hm⟩
 intros
 have hm' := hm
 obtain ⟨G', pL', lL', cL', k1, k2, k3, k4, k5, k6⟩ := hm'
 refine ⟨_, _, _, k2.c rfl, Q0 (fun hlt => ?_) (fun hge => ?_)⟩
 ·simp only [Za] at hlt
  obtain ⟨x, hxi⟩ : ∃ x, D.waits[i]? = some x := ⟨D.waits[i]'(by omega), Zc _⟩
  refine ⟨⟨0, rfl, Nat.zero_le _, Upd.refl _ _, fun x _ => by simp⟩, ?_⟩
  rintro b57 n58 w59 ⟨j, rfl, hj, x59, hkept⟩
  intros
  have hb57 := hkept x (by rw [Ze]; exact hxi)
  subst hb57
  have hm59 := hm.ext x59
  have tk : (D.waits.take (i + 1)).filter (fun y => decide (y.1 ∈ ks)) = (D.waits.take i).filter (fun y => decide (y.1 ∈ ks)) ++ (if x.1 ∈ ks then [x] else []) := by
   rw [Zn, hxi, List.filter_append]
   congr 1
   by_cases hin : x.1 ∈ ks <;> simp [hin]
  refine Q0 (fun hjl => ?_) (fun hjl => ?_)
  ·simp only [Za] at hjl
   intro w82 d82
   obtain ⟨z, hz⟩ : ∃ z, ks[j]? = some z := ⟨ks[j]'(by omega), Zc _⟩
   have hmu : 9223372036854775807 - ((j : Int) + 1).toNat < 9223372036854775807 - (j : Int).toNat := by omega
   have tm : ∀ y : Int × τ, y.1 ∈ ks.take (j + 1) ↔ (y.1 ∈ ks.take j \/ z = y.1) := fun y => by
    rw [Zn, hz]; simp [eq_comm]
   refine Q0 (fun hb => ?_) (fun hb => ?_)
   ·simp only [Za] at hb
    rw [w64 (by omega)]
    refine ⟨⟨j + 1, by omega, by omega, x59.trans d82.ext, fun y hy => ?_⟩, hmu⟩
    rw [Ze, hxi] at hy
    cases hy
    exact (decide_eq_true ((tm x).2 (.inl hb))).symm
   ·simp only [Zb] at hb
    obtain ⟨G2, pL2, lL2, cL2, q1, q2, q3, q4, q5, q6⟩ := hm59.ext d82.ext
    have hkc : Q8 w82 p (ks.map fun x => int i64 x) := hk.2.upd q1.upd fun a ha hne => hkb a ha (by rintro rfl; exact hne rfl)
    obtain ⟨a, ha, hc⟩ := hkc j (int i64 z) (by rw [Zq, hz]; rfl)
    subst ha
    obtain ⟨a2, q, nn, cc, rfl, _, c0, _, _⟩ := q4.at hxi
    rw [Ze, Ze]
    refine ⟨⟨by omega, hjl⟩, z, by rw [Nat.mul_one]; exact hc, _, _, _, q2.c rfl, ⟨by omega, hlt⟩, _, c0, ?_⟩
    rw [w64 (by omega)]
    refine ⟨⟨j + 1, by omega, by omega, x59.trans d82.ext, fun y hy => ?_⟩, hmu⟩
    rw [Ze, hxi] at hy
    cases hy
    apply decide_eq_decide.2
    rw [tm x]
    simp [hb]
  ·simp only [Zb] at hjl
   have ej : ks.take j = ks := Zh (by omega)
   rw [ej]
   have hmu : 4096 - ((i : Int) + 1).toNat < 4096 - (i : Int).toNat := by omega
   refine Q0 (fun hb => ?_) (fun hb => ?_)
   ·simp only [Za] at hb
    intro w89 d89
    obtain ⟨p1, l1, c1, a, q, nn, cc, e1, e2, rfl, e3, e4, hc⟩ := (hm59.ext d89.ext).put hok i4 i5 (fun x hx => List.mem_of_mem_take (List.mem_filter.1 hx).1) (Asc.filter (List.Pairwise.sublist (List.take_sublist _ _) i5) _) hxi
    rw [Ze]
    refine ⟨_, _, _, e1, _, _, _, e2, ⟨by omega, hlt⟩, _, e3, _, _, _, e4, hc.mono ?_⟩
    rintro e w40 ⟨p', l', c', rfl, hl', hall⟩
    refine ⟨p', l', c', rfl, hl', fun w44 hs => ?_⟩
    rw [w64 (by omega)]
    refine ⟨⟨i + 1, by omega, by omega, ?_⟩, hmu⟩
    rw [tk, if_pos hb]
    exact hall w44 hs
   ·simp only [Zb] at hb
    rw [w64 (by omega)]
    refine ⟨⟨i + 1, by omega, by omega, ?_⟩, hmu⟩
    rw [tk, if_neg hb, List.append_nil]
    exact hm59
 ·simp only [Zb] at hge
  have e1 : D.waits.take i = D.waits := Zh (by omega)
  rw [e1] at hm
  refine ⟨k2.live (by simp), fun w46 hs => ?_⟩
  obtain ⟨G2, r1, r2⟩ := hm.done i4 hs
  exact ⟨G2, rfl, r1, r2⟩
open Go Go.Vc
open Go.IntKind (i64)
open Go.Value (int)
open Go.Proofs.Tryz (prog)
theorem QM1 (bs : τ) (a : Int) (y : UInt8) : (QG bs a y).length = bs.length := by simp [QG]
theorem Q84 {w : World} {p : σ} {l c : Nat} {bs : τ} (hb : Q3 w p l bs) (hne : bs ≠ []) (hl : l <= 4108) (a : Int) (ha : -9223372036854775808 <= a /\ a <= 9223372036854775807) (y : UInt8) :
  Calls prog 152 #[.slice p l c, int i64 a, .int .u8 (y.toNat : Int)] w fun e w' => ∃ p' l' c', e = .returned (.slice p' l' c') /\ Ext w w' /\ Qc w' w.heap.size 5 1 p' l' c' (QB (QG bs a y)) := by
 refine (F152_calls p l c a (y.toNat : Int) w (fun v w' => ∃ p' l' c', v = .slice p' l' c' /\ Ext w w' /\ Qc w' w.heap.size 5 1 p' l' c' (QB (QG bs a y))) ?_).mono (by rintro e w' ⟨v, rfl, p', l', c', rfl, h⟩; exact ⟨p', l', c', rfl, h⟩)
 have hll := hb.1
 have hpos : 0 < bs.length := List.length_pos_iff.2 hne
 have hlt := Qi7 a hpos
 have main : ∀ E : Int, E = (if a < 0 then -(a + 1) else a) -> ∀ (k4 : Nat) (w5 : World), QU1 w k4 (.cells #[] 5) w5 -> (∃ (p7 : σ) (l7 c7 : Nat), ∃ w6 : World, Sem.run prog (Builtin.append_ #[42, 42] 42 #[.slice (some (at0 k4)) 0 0, .slice p l c]) w5 = .ok (.slice p7 l7 c7) w6 ∧
   (∀ w8 : World, QHc w6 w8 -> (((l : Nat) : Int) ≠ 0 /\ (((l : Nat) : Int) ≠ 0 /\ ((0 <= (E.tmod ((l : Nat) : Int)) /\ (E.tmod ((l : Nat) : Int)) < ((l7 : Nat) : Int)) /\ (Qv p7 fun a9 => (∃ (n10 : Int), w8.cell? (a9.add ((E.tmod ((l : Nat) : Int)).toNat * 1)) = some (.int .u8 n10) ∧
    ((0 <= (E.tmod ((l : Nat) : Int)) /\ (E.tmod ((l : Nat) : Int)) < ((l7 : Nat) : Int)) /\ (Qv p7 fun a11 => (QL1 w8 (a11.add ((E.tmod ((l : Nat) : Int)).toNat * 1)) /\ (∀ w12 : World, QT w8 (a11.add ((E.tmod ((l : Nat) : Int)).toNat * 1)) (Value.int .u8 (Qs .xor .u8 n10 (y.toNat : Int))) w12 →
     (∃ p' l' c', Value.slice p7 l7 c7 = .slice p' l' c' /\ Ext w w12 /\ Qc w12 w.heap.size 5 1 p' l' c' (QB (QG bs a y)))))))))))))) := by
  intro E hE k4 w5 hk
  have hEn : 0 <= E := by rw [hE]; split <;> omega
  have htm : E.tmod (l : Int) = E % (l : Int) := Int.tmod_eq_emod_of_nonneg hEn
  have hidx : (E % (l : Int)).toNat = Qk2 a bs.length := by rw [hE, ← hll]; rfl
  obtain ⟨p', c', w6, hr, x6, own⟩ := Qr8 hk hb (c := c) (by omega)
  refine ⟨p', l, c', w6, hr, ?_⟩
  intro w8 d8
  have own8 := own.ext d8.ext
  rw [htm, Nat.mul_one, hidx]
  have hr1 := Int.emod_nonneg E (show (l : Int) ≠ 0 by omega)
  have hr2 := Int.emod_lt_of_pos E (show (0 : Int) < l by omega)
  have hel : (QB bs)[Qk2 a bs.length]? = some (.int .u8 ((bs.getD (Qk2 a bs.length) 0).toNat : Int)) := by
   simp [QB, Zc hlt, List.getD]
  obtain ⟨aa, rfl, hcell⟩ := own8.cells _ _ hel
  refine ⟨by omega, by omega, ⟨hr1, hr2⟩, _, hcell, ⟨hr1, hr2⟩, own8.live (by rw [Qq]; exact hlt), ?_⟩
  intro w12 hset
  obtain ⟨own12, hu12⟩ := own8.set hset
  rw [QXd, Ql9] at own12
  refine ⟨_, l, c', rfl, ?_, own12⟩
  refine Upd.trans (x6.trans d8.ext) hu12 fun x hx hs => ?_
  rcases own8.where_ with ⟨h, _⟩ | ⟨g, h, hge, _⟩
  ·cases h
  ·cases h
   have : x = g := hs
   omega
 refine Q0 (fun h0 => ?_) (fun h0 => ?_)
 ·simp only [Za] at h0
  exact main _ (by rw [w64 (by omega : -9223372036854775808 <= a + 1 /\ a + 1 <= 9223372036854775807), w64 (by omega), if_pos h0]; omega)
 ·simp only [Zb] at h0
  exact main _ (by rw [if_neg h0])
theorem QP6 {w : World} {b : Nat} {D : Dk} {G : Nat -> Prop} (h : Q00 w b D G) (hok : Qs2 D) (k a : Int) (y : UInt8) (ha : -9223372036854775808 <= a /\ a <= 9223372036854775807) :
  Calls prog 128 #[.pointer (some (at0 b)), int i64 k, int i64 a, .int .u8 (y.toNat : Int)] w fun e w' => ∃ G', e = .returned (int i64 (Qy D k)) /\ Qu1 b G G' w w' /\ Q00 w' b (Qm D k a y) G' := by
 have h' := h
 obtain ⟨pL, lL, cL, pW, lW, cW, i1, i2, i3, i4, i5, i6, i7⟩ := h'
 refine (F128_calls (some (at0 b)) k a (y.toNat : Int) w (fun v w' => ∃ G', v = int i64 (Qy D k) /\ Qu1 b G G' w w' /\ Q00 w' b (Qm D k a y) G') ?_).mono (by rintro e w' ⟨v, rfl, G', rfl, h⟩; exact ⟨G', rfl, h⟩)
 have hlen := Qf3 hok i4 i5
 have hbl := i1.lt
 refine (Qg3 h k).mono ?_
 rintro e w5 ⟨rfl, rfl⟩
 refine ⟨_, rfl, Q0 (fun hf => ?_) (fun hf => ?_)⟩
 ·simp only [Zg, Zb] at hf
  have hz : Qy D k = Qe D.dead D.sectors k := by simp [Qy, hf]
  refine ⟨G, by rw [hz], Qu1.refl _ _ _, ?_⟩
  rw [Qm, if_pos hf]; exact h
 simp only [Zf, Za] at hf
 refine ⟨_, _, _, i1.c rfl, ?_⟩
 refine (QM2 i3 hlen.2 k).mono ?_
 rintro e w10 ⟨x10, ⟨i, bs, rfl, hi, hg⟩ | ⟨rfl, hg⟩⟩
 ·refine ⟨_, rfl, Q0 (fun _ w13 d13 => ?_) (fun h0 => by simp at h0)⟩
  have x13 := x10.trans d13.ext
  have hil : i < D.waits.length := (Zd.1 hi).1
  obtain ⟨aa, q, n, c', rfl, _, _, hc, q', n', c'', he, hb, hne, hn, _⟩ := (i3.ext x13).at hi
  cases he
  rw [Ze]
  refine ⟨_, _, _, (x13.rowW i1 id).row.cell rfl, _, _, _, (x13.rowW i1 id).row.cell rfl, ⟨by omega, by have := i3.1; omega⟩, q, n, c', hc, ?_⟩
  refine (Q84 hb hne hn a ha y).mono ?_
  rintro e w20 ⟨p', l', c2, rfl, x20', own⟩
  have x20 := x13.trans x20'
  refine ⟨p', l', c2, rfl, ⟨_, _, _, (x20.rowW i1 id).row.cell rfl, rfl⟩, ?_⟩
  have hn' : bs.length <= 4108 := by have e : n = bs.length := hb.1; omega
  have hne' : QG bs a y ≠ [] := by
   intro h0
   have := congrArg List.length h0
   rw [QM1] at this
   exact hne (Zk this)
  have hv : Qh (Gn G w5.heap.size w20.heap.size) w20 (.slice p' l' c2) (QG bs a y) := (QN8 (w := w5) own x13.size hne' (by rw [QM1]; exact hn')).mono fun x hx => .inr hx
  refine (QD3 ((i3.ext x20).mono (G' := Gn G w5.heap.size w20.heap.size) fun x hx => .inl hx) i5 hlen.2 k hv).mono ?_
  rintro e w24 ⟨p3, l3, c3, rfl, x24', hL⟩
  have x24 := x20.trans x24'
  refine ⟨p3, l3, c3, rfl, (x24.rowW i1 id).live (by simp), fun w28 hs => ?_⟩
  have hL' : QZ1 w24 (Gn G w5.heap.size w24.heap.size) p3 l3 c3 (ins k (QG bs a y) D.waits) := hL.mono fun x hx => by
   have s1 := x20.size; have s2 := x24'.size
   rcases hx with (hx | hx) | hx
   ·exact .inl hx
   ·exact .inr ⟨hx.1, by omega⟩
   ·exact .inr ⟨by omega, hx.2⟩
  obtain ⟨r1, r2⟩ := h.setW x24 hL' (fun x hx => .inl hx) (fun hx => hx.elim i6 fun h => by omega) (by
   have s1 := x24.size
   rintro x (hx | hx)
   ·have := i7 x hx; omega
   ·exact hx.2) (QR3 i5) hs
  refine ⟨Gn G w5.heap.size w24.heap.size, by simp [Qy, hf, hg], ⟨r2, fun x hx => ?_⟩, ?_⟩
  ·rcases hx with hx | hx
   ·exact .inl hx
   ·exact .inr ⟨hx.1, by have := (QZ0 hs).size; omega⟩
  ·have : Qm D k a y = { D with waits := ins k (QG bs a y) D.waits } := by simp [Qm, hf, hg]
   rw [this]; exact r1
 refine ⟨_, rfl, Q0 (fun h0 => by simp at h0) (fun _ => ?_)⟩
 refine ⟨_, _, _, (x10.rowW i1 id).row.cell rfl, ?_⟩
 refine (QM2 (i2.ext x10) hlen.1 k).mono ?_
 rintro e w31 ⟨x31', ⟨i, bs, rfl, hi, hg2⟩ | ⟨rfl, hg2⟩⟩
 ·refine ⟨_, rfl, Q0 (fun h0 => by simp only [Za] at h0; omega) (fun _ w13 d13 => ?_)⟩
  have x13 := (x10.trans x31').trans d13.ext
  have hil : i < D.lasts.length := (Zd.1 hi).1
  obtain ⟨aa, q, n, c', rfl, _, _, hc, q', n', c'', he, hb, hne, hn, _⟩ := (i2.ext x13).at hi
  cases he
  rw [Ze]
  refine ⟨_, _, _, (x13.rowW i1 id).row.cell rfl, _, _, _, (x13.rowW i1 id).row.cell rfl, ⟨by omega, by have := i2.1; omega⟩, q, n, c', hc, ?_⟩
  refine (Q84 hb hne hn a ha y).mono ?_
  rintro e w20 ⟨p', l', c2, rfl, x20', own⟩
  have x20 := x13.trans x20'
  refine ⟨p', l', c2, rfl, ⟨_, _, _, (x20.rowW i1 id).row.cell rfl, rfl⟩, ?_⟩
  have hn' : bs.length <= 4108 := by have e : n = bs.length := hb.1; omega
  have hne' : QG bs a y ≠ [] := by
   intro h0
   have := congrArg List.length h0
   rw [QM1] at this
   exact hne (Zk this)
  have hv : Qh (Gn G w5.heap.size w20.heap.size) w20 (.slice p' l' c2) (QG bs a y) := (QN8 (w := w5) own x13.size hne' (by rw [QM1]; exact hn')).mono fun x hx => .inr hx
  refine (QD3 ((i2.ext x20).mono (G' := Gn G w5.heap.size w20.heap.size) fun x hx => .inl hx) i4 hlen.1 k hv).mono ?_
  rintro e w24 ⟨p3, l3, c3, rfl, x24', hL⟩
  have x24 := x20.trans x24'
  refine ⟨p3, l3, c3, rfl, (x24.rowW i1 id).live (by simp), fun w28 hs => ?_⟩
  have hL' : QZ1 w24 (Gn G w5.heap.size w24.heap.size) p3 l3 c3 (ins k (QG bs a y) D.lasts) := hL.mono fun x hx => by
   have s1 := x20.size; have s2 := x24'.size
   rcases hx with (hx | hx) | hx
   ·exact .inl hx
   ·exact .inr ⟨hx.1, by omega⟩
   ·exact .inr ⟨by omega, hx.2⟩
  obtain ⟨r1, r2⟩ := h.setL x24 hL' (fun x hx => .inl hx) (fun hx => hx.elim i6 fun h => by omega) (by
   have s1 := x24.size
   rintro x (hx | hx)
   ·have := i7 x hx; omega
   ·exact hx.2) (QR3 i4) hs
  refine ⟨Gn G w5.heap.size w24.heap.size, by simp [Qy, hf, hg, hg2], ⟨r2, fun x hx => ?_⟩, ?_⟩
  ·rcases hx with hx | hx
   ·exact .inl hx
   ·exact .inr ⟨hx.1, by have := (QZ0 hs).size; omega⟩
  ·have : Qm D k a y = { D with lasts := ins k (QG bs a y) D.lasts } := by simp [Qm, hf, hg, hg2]
   rw [this]; exact r1
 ·refine ⟨_, rfl, Q0 (fun _ => ?_) (fun h0 => by simp at h0)⟩
  refine ⟨G, by simp [Qy, hf, hg, hg2], Qu1.ext (x10.trans x31'), ?_⟩
  have : Qm D k a y = D := by simp [Qm, hf, hg, hg2]
  rw [this]; exact h.ext (x10.trans x31')
open Go Go.Vc
open Go.IntKind (i64)
open Go.Value (int)
open Go.Proofs.Tryz (prog)
structure QQ2 (w : World) (b : Nat) (D : Dk) (F : Nat -> Prop) : Prop where
 is : ∃ G, Q00 w b D G /\ F = fun x => x = b \/ G x
 ok : Qs2 D
theorem QQ2.lt {w : World} {b : Nat} {D : Dk} {F : Nat -> Prop} (h : QQ2 w b D F) : ∀ x, F x -> x < w.heap.size := by
 obtain ⟨⟨G, hd, rfl⟩, _⟩ := h
 rintro x (rfl | hx)
 ·exact hd.lt
 ·obtain ⟨_, _, _, _, _, _, _, _, _, _, _, _, h7⟩ := hd
  exact h7 x hx
theorem QQ2.row {w : World} {b : Nat} {D : Dk} {F : Nat -> Prop} (h : QQ2 w b D F) : ∃ pL lL cL pW lW cW G, RowW w b #[int i64 D.sectors, .slice pL lL cL, .slice pW lW cW, .bool D.dead] /\ QZ1 w G pL lL cL D.lasts /\ QZ1 w G pW lW cW D.waits := by
 obtain ⟨⟨G, hd, rfl⟩, _⟩ := h
 obtain ⟨pL, lL, cL, pW, lW, cW, h1, h2, h3, _⟩ := hd
 exact ⟨pL, lL, cL, pW, lW, cW, G, h1, h2, h3⟩
theorem QQ2.asc {w : World} {b : Nat} {D : Dk} {F : Nat -> Prop} (h : QQ2 w b D F) : Asc D.lasts /\ Asc D.waits := by
 obtain ⟨⟨G, hd, rfl⟩, _⟩ := h
 obtain ⟨_, _, _, _, _, _, _, _, _, h4, h5, _⟩ := hd
 exact ⟨h4, h5⟩
theorem QQ2.upd {S : Nat -> Prop} {w w' : World} {b : Nat} {D : Dk} {F : Nat -> Prop} (h : QQ2 w b D F) (hu : Upd S w w') (hS : ∀ x, S x -> ¬ F x) : QQ2 w' b D F := by
 obtain ⟨⟨G, hd, rfl⟩, hk⟩ := h
 exact ⟨⟨G, hd.upd hu hS, rfl⟩, hk⟩
theorem QQ2.ext {w w' : World} {b : Nat} {D : Dk} {F : Nat -> Prop} (h : QQ2 w b D F) (hu : Ext w w') : QQ2 w' b D F := h.upd hu fun _ h => h.elim
theorem Qs1 {b : Nat} {G G' : Nat -> Prop} {w w' : World} (hu : Upd (fun x => x = b) w w') (h : QH3 G G' w w') : Qf (fun x => x = b \/ G x) (fun x => x = b \/ G' x) w w' := by
 refine ⟨hu.mono fun x _ hx => .inl hx, ?_⟩
 rintro x (hx | hx)
 ·exact .inl (.inl hx)
 ·rcases h x hx with h | h
  ·exact .inl (.inr h)
  ·exact .inr h.1
section
variable {w : World} {b : Nat} {D : Dk} {F : Nat -> Prop}
theorem Qkf {n : Int} (h : 1 <= n /\ n <= 4096) (w : World) : Calls prog 20 #[int i64 n] w fun e w' => ∃ b F, e = .returned (.tuple #[.pointer (some (at0 b)), int i64 0]) /\ Ext w w' /\ QQ2 w' b ⟨n, [], [], false⟩ F /\ ∀ x, F x -> w.heap.size <= x := by
 refine (Qcc h w).mono ?_
 rintro e w' ⟨b, rfl, hx, hr, hb⟩
 refine ⟨b, _, rfl, hx, ⟨⟨_, hr, rfl⟩, Qs2.new h⟩, ?_⟩
 rintro x (rfl | hx)
 ·exact hb
 ·exact hx.elim
theorem Qpd (h : QQ2 w b D F) (k : Int) {p : σ} {l c : Nat} {bs : τ} (hb : Q3 w p l bs) :
  Calls prog 107 #[.pointer (some (at0 b)), int i64 k, .slice p l c] w fun e w' => ∃ F', e = .returned (int i64 (Qj D k bs.length)) /\ Qf F F' w w' /\ QQ2 w' b (Q30 D k bs) F' := by
 obtain ⟨⟨G, hd, rfl⟩, hk⟩ := h
 refine (Q59 hd hk k hb).mono ?_
 rintro e w' ⟨G', rfl, hu, hd', hg⟩
 exact ⟨_, rfl, Qs1 hu hg, ⟨G', hd', rfl⟩, hk.write k bs⟩
theorem Que (h : QQ2 w b D F) (k : Int) :
  Calls prog 110 #[.pointer (some (at0 b)), int i64 k] w fun e w' => Ext w w' /\ ∃ p l c bs, e = .returned (.tuple #[.slice p l c, int i64 (Qe D.dead D.sectors k)]) ∧
   bs = (if Qe D.dead D.sectors k = 0 then Ql1 D k else []) /\ Q3 w' p l bs /\ l <= 4108 := by
 obtain ⟨⟨G, hd, rfl⟩, hk⟩ := h
 exact QFa hd hk k
theorem Qkd (h : QQ2 w b D F) : Calls prog 109 #[.pointer (some (at0 b))] w fun e w' => ∃ F', e = .returned (int i64 (if D.dead then 120 else 0)) /\ Qf F F' w w' /\ QQ2 w' b (Q11 D) F' := by
 have ha := h.asc
 obtain ⟨⟨G, hd, rfl⟩, hk⟩ := h
 refine (Q49 hd hk).mono ?_
 rintro e w' ⟨G', rfl, hs, hd'⟩
 exact ⟨_, rfl, Qs1 hs.upd hs.grow, ⟨G', hd', rfl⟩, hk.flush ha.2⟩
theorem QL9 (h : QQ2 w b D F) {p : σ} {l c : Nat} {ks : List Int} (hk : Ql w p l ks) (hl : l <= 9223372036854775807) (hp : ∀ a, p = some a -> ks ≠ [] -> ¬ F a.block) :
  Calls prog 122 #[.pointer (some (at0 b)), .slice p l c] w fun e w' => ∃ F', e = .returned (.tuple #[]) /\ Qf F F' w w' /\ QQ2 w' b (QN1 D ks) F' := by
 have ha := h.asc
 obtain ⟨⟨G, hd, rfl⟩, hok⟩ := h
 refine (QX8 hd hok hk hl fun a h1 h2 h3 => hp a h1 h2 (.inl h3)).mono ?_
 rintro e w' ⟨G', rfl, hs, hd'⟩
 exact ⟨_, rfl, Qs1 hs.upd hs.grow, ⟨G', hd', rfl⟩, hok.crash ha.2 ks⟩
theorem Qse (h : QQ2 w b D F) : Calls prog 124 #[.pointer (some (at0 b))] w fun e w' => e = .returned (.tuple #[]) /\ Qf F F w w' /\ QQ2 w' b { D with dead := true, lasts := [], waits := [] } F := by
 obtain ⟨⟨G, hd, rfl⟩, hok⟩ := h
 refine (QEa hd).mono ?_
 rintro e w' ⟨rfl, hu, hd'⟩
 exact ⟨rfl, Qs1 hu fun x hx => .inl hx, ⟨G, hd', rfl⟩, hok.empty true⟩
theorem QBa (h : QQ2 w b D F) : Calls prog 126 #[.pointer (some (at0 b))] w fun e w' => e = .returned (.tuple #[]) /\ Qf F F w w' /\ QQ2 w' b { D with dead := false, lasts := [], waits := [] } F := by
 obtain ⟨⟨G, hd, rfl⟩, hok⟩ := h
 refine (QT6 hd).mono ?_
 rintro e w' ⟨rfl, hu, hd'⟩
 exact ⟨rfl, Qs1 hu fun x hx => .inl hx, ⟨G, hd', rfl⟩, hok.empty false⟩
theorem QAa (h : QQ2 w b D F) (k a : Int) (y : UInt8) (ha : -9223372036854775808 <= a /\ a <= 9223372036854775807) :
  Calls prog 128 #[.pointer (some (at0 b)), int i64 k, int i64 a, .int .u8 (y.toNat : Int)] w fun e w' => ∃ F', e = .returned (int i64 (Qy D k)) /\ Qf F F' w w' /\ QQ2 w' b (Qm D k a y) F' := by
 obtain ⟨⟨G, hd, rfl⟩, hok⟩ := h
 refine (QP6 hd hok k a y ha).mono ?_
 rintro e w' ⟨G', rfl, hs, hd'⟩
 exact ⟨_, rfl, Qs1 hs.upd hs.grow, ⟨G', hd', rfl⟩, hok.corrupt k a y⟩
end
open Go Go.Vc
open Go.IntKind (i64)
open Go.Value (int)
open Go.Proofs.Tryz (prog)
def QWb (bs : List Nat) : List Value := bs.map fun b => .pointer (some (at0 b))
def QA6 (B : List Int) : List Value := B.map fun n => int i64 n
def QM (w : World) (r : Nat) (Ds : List Dk) (B : List Int) (left : Int) (off : Bool) (F : Nat -> Prop) : Prop :=
 ∃ (pD : σ) (cD : Nat) (pB : σ) (cB : Nat) (bs : List Nat) (Fs : Nat -> Nat -> Prop), RowW w r #[.slice pD Ds.length cD, .slice pB B.length cB, int i64 left, .bool off] ∧
  Qc w 0 74 1 pD Ds.length cD (QWb bs) /\ Qc w 0 3 1 pB B.length cB (QA6 B) /\ bs.length = Ds.length ∧
  (∀ (i : Nat) (D : Dk), Ds[i]? = some D -> ∃ b, bs[i]? = some b /\ QQ2 w b D (Fs i)) /\ (∀ (i j x : Nat), i < Ds.length -> j < Ds.length -> Fs i x -> Fs j x -> i = j) ∧
  (∀ (i x : Nat), i < Ds.length -> Fs i x -> x ≠ r /\ pD ≠ some (at0 x) /\ pB ≠ some (at0 x)) /\ (pD ≠ some (at0 r) /\ pB ≠ some (at0 r) /\ ∀ x : Nat, pD = some (at0 x) -> pB ≠ some (at0 x)) ∧
  (∀ x : Nat, F x ↔ x = r \/ pD = some (at0 x) \/ pB = some (at0 x) \/ ∃ i, i < Ds.length /\ Fs i x)
section
variable {w w' : World} {r : Nat} {Ds : List Dk} {B : List Int} {left : Int} {off : Bool} {F : Nat -> Prop}
theorem QM.lt (h : QM w r Ds B left off F) : ∀ x, F x -> x < w.heap.size := by
 obtain ⟨pD, cD, pB, cB, bs, Fs, h1, h2, h3, h4, h5, h6, h7, h8, h9⟩ := h
 intro x hx
 rcases (h9 x).1 hx with rfl | hx | hx | ⟨i, hi, hx⟩
 ·exact h1.lt
 ·exact Q36 h2 hx
 ·exact Q36 h3 hx
 ·obtain ⟨b, _, hd⟩ := h5 i Ds[i] (Zc hi)
  exact hd.lt x hx
theorem QM.upd {S : Nat -> Prop} (h : QM w r Ds B left off F) (hu : Upd S w w') (hS : ∀ x, S x -> ¬ F x) : QM w' r Ds B left off F := by
 obtain ⟨pD, cD, pB, cB, bs, Fs, h1, h2, h3, h4, h5, h6, h7, h8, h9⟩ := h
 refine ⟨pD, cD, pB, cB, bs, Fs, hu.rowW h1 fun hs => hS _ hs ((h9 _).2 (.inl rfl)), h2.upd hu fun g hg hs => hS _ hs ((h9 _).2 (.inr (.inl hg))), h3.upd hu fun g hg hs => hS _ hs ((h9 _).2 (.inr (.inr (.inl hg)))), h4, fun i m hi => ?_, h6, h7, h8, h9⟩
 obtain ⟨b, hb, hd⟩ := h5 i m hi
 exact ⟨b, hb, hd.upd hu fun x hs hf => hS _ hs ((h9 _).2 (.inr (.inr (.inr ⟨i, (Zd.1 hi).1, hf⟩))))⟩
theorem QM.ext (h : QM w r Ds B left off F) (hu : Ext w w') : QM w' r Ds B left off F := h.upd hu fun _ h => h.elim
theorem QM.row (h : QM w r Ds B left off F) : ∃ pD cD pB cB, RowW w r #[.slice pD Ds.length cD, .slice pB B.length cB, int i64 left, .bool off] := by
 obtain ⟨pD, cD, pB, cB, bs, Fs, h1, _⟩ := h
 exact ⟨pD, cD, pB, cB, h1⟩
theorem QM.setField (h : QM w r Ds B left off F) {j : Nat} {v : Value} (hs : QT w ((at0 r).add j) v w') {l2 : Int} {o2 : Bool}
  (hrow : ∀ a b, (#[a, b, int i64 left, .bool off] : Array Value).setIfInBounds j v = #[a, b, int i64 l2, .bool o2]) : QM w' r Ds B l2 o2 F /\ Qf F F w w' := by
 obtain ⟨pD, cD, pB, cB, bs, Fs, h1, h2, h3, h4, h5, h6, h7, h8, h9⟩ := h
 have hu : Upd (fun x => x = r) w w' := by
  have := hs.upd
  rw [Qr] at this
  exact this
 have hr := hs.row h1
 rw [hrow] at hr
 refine ⟨⟨pD, cD, pB, cB, bs, Fs, hr, h2.upd hu (by rintro g hg rfl; exact h8.1 hg), h3.upd hu (by rintro g hg rfl; exact h8.2.1 hg), h4, fun i m hi => ?_, h6, h7, h8, h9⟩, hu.mono fun x _ hx => (h9 x).2 (.inl hx), fun x hx => .inl hx⟩
 obtain ⟨b, hb, hd⟩ := h5 i m hi
 exact ⟨b, hb, hd.upd hu fun x hx hf => (h7 i x (Zd.1 hi).1 hf).1 hx⟩
theorem QM.setLeft (h : QM w r Ds B left off F) {v : Int} (hs : QT w ((at0 r).add 2) (int i64 v) w') : QM w' r Ds B v off F /\ Qf F F w w' := h.setField hs fun _ _ => rfl
theorem QM.setOff (h : QM w r Ds B left off F) {v : Bool} (hs : QT w ((at0 r).add 3) (.bool v) w') : QM w' r Ds B left v F /\ Qf F F w w' := h.setField hs fun _ _ => rfl
theorem QM.at (h : QM w r Ds B left off F) {i : Nat} {D : Dk} (hi : Ds[i]? = some D) :
  ∃ ap cD b Fi, w.cell? ((at0 r).add 0) = some (.slice (some ap) Ds.length cD) /\ w.cell? (ap.add (i * 1)) = some (.pointer (some (at0 b))) /\ QQ2 w b D Fi /\ (∀ x, Fi x -> F x /\ x ≠ r) ∧
   (∀ w' D' F', Qf Fi F' w w' -> QQ2 w' b D' F' -> ∃ F2, QM w' r (Ds.set i D') B left off F2 /\ Qf F F2 w w') := by
 have hlt := h.lt
 obtain ⟨pD, cD, pB, cB, bs, Fs, h1, h2, h3, h4, h5, h6, h7, h8, h9⟩ := h
 obtain ⟨b, hb, hd⟩ := h5 i D hi
 have hil : i < Ds.length := (Zd.1 hi).1
 obtain ⟨ap, hp, e1⟩ := h2.cells i _ (by unfold QWb; rw [Zq, hb]; rfl)
 subst hp
 refine ⟨ap, cD, b, Fs i, h1.c rfl, by rw [Nat.mul_one]; exact e1, hd, fun x hx => ⟨(h9 x).2 (.inr (.inr (.inr ⟨i, hil, hx⟩))), (h7 i x hil hx).1⟩, ?_⟩
 intro w' D' F' hs hd'
 have hlen : (Ds.set i D').length = Ds.length := List.length_set
 refine ⟨fun x => x = r \/ some ap = some (at0 x) \/ pB = some (at0 x) \/ ∃ j, j < Ds.length /\ (if j = i then F' else Fs j) x, ⟨some ap, cD, pB, cB, bs, fun j => if j = i then F' else Fs j, ?_, ?_, ?_, by rw [hlen]; exact h4, ?_, ?_, ?_, h8, ?_⟩, ?_, ?_⟩
 ·rw [hlen]; exact hs.upd.rowW h1 fun hf => (h7 i r hil hf).1 rfl
 ·rw [hlen]; exact h2.upd hs.upd fun g hg hf => (h7 i g hil hf).2.1 hg
 ·exact h3.upd hs.upd fun g hg hf => (h7 i g hil hf).2.2 hg
 ·intro j mj hj
  by_cases hji : j = i
  ·subst hji
   rw [List.getElem?_set_self hil] at hj
   cases hj
   exact ⟨b, hb, by simpa using hd'⟩
  ·rw [List.getElem?_set_ne (fun e => hji e.symm)] at hj
   obtain ⟨bj, hbj, hdj⟩ := h5 j mj hj
   refine ⟨bj, hbj, ?_⟩
   simp only [if_neg hji]
   exact hdj.upd hs.upd fun x hx hf => hji (h6 j i x (Zd.1 hj).1 hil hf hx)
 ·intro j k x hj hk hfj hfk
  rw [hlen] at hj hk
  have old : ∀ q, q < Ds.length -> Fs q x -> x < w.heap.size := fun q hq hf => hlt x ((h9 x).2 (.inr (.inr (.inr ⟨q, hq, hf⟩))))
  by_cases hji : j = i <;> by_cases hki : k = i
  ·omega
  ·simp only [if_pos hji] at hfj; simp only [if_neg hki] at hfk
   rcases hs.grow x hfj with h | h
   ·have := h6 i k x hil hk h hfk; omega
   ·have := old k hk hfk; omega
  ·simp only [if_neg hji] at hfj; simp only [if_pos hki] at hfk
   rcases hs.grow x hfk with h | h
   ·have := h6 j i x hj hil hfj h; omega
   ·have := old j hj hfj; omega
  ·simp only [if_neg hji] at hfj; simp only [if_neg hki] at hfk
   exact h6 j k x hj hk hfj hfk
 ·intro j x hj hf
  rw [hlen] at hj
  by_cases hji : j = i
  ·simp only [if_pos hji] at hf
   rcases hs.grow x hf with h | h
   ·exact h7 i x hil h
   ·refine ⟨?_, fun e => ?_, fun e => ?_⟩
    ·have := h1.lt; omega
    ·have := Q36 h2 e; omega
    ·have := Q36 h3 e; omega
  ·simp only [if_neg hji] at hf
   exact h7 j x hj hf
 ·intro x
  rw [hlen]
 ·exact hs.upd.mono fun x _ hx => (h9 x).2 (.inr (.inr (.inr ⟨i, hil, hx⟩)))
 ·rintro x (rfl | hx | hx | ⟨j, hj, hx⟩)
  ·exact .inl ((h9 _).2 (.inl rfl))
  ·exact .inl ((h9 _).2 (.inr (.inl hx)))
  ·exact .inl ((h9 _).2 (.inr (.inr (.inl hx))))
  ·by_cases hji : j = i
   ·simp only [if_pos hji] at hx
    rcases hs.grow x hx with h | h
    ·exact .inl ((h9 _).2 (.inr (.inr (.inr ⟨i, hil, h⟩))))
    ·exact .inr h
   ·simp only [if_neg hji] at hx
    exact .inl ((h9 _).2 (.inr (.inr (.inr ⟨j, hj, hx⟩))))
theorem QM.born (h : QM w r Ds B left off F) {i : Nat} {n : Int} (hi : B[i]? = some n) :
  ∃ ap cB, w.cell? ((at0 r).add 1) = some (.slice (some ap) B.length cB) /\ w.cell? (ap.add (i * 1)) = some (int i64 n) /\ QL1 w (ap.add (i * 1)) ∧
   ∀ v w', QT w (ap.add (i * 1)) (int i64 v) w' -> QM w' r Ds (B.set i v) left off F /\ Qf F F w w' := by
 obtain ⟨pD, cD, pB, cB, bs, Fs, h1, h2, h3, h4, h5, h6, h7, h8, h9⟩ := h
 have hil : i < B.length := (Zd.1 hi).1
 obtain ⟨ap, hp, e2⟩ := h3.cells i _ (by unfold QA6; rw [Zq, hi]; rfl)
 subst hp
 refine ⟨ap, cB, h1.c rfl, by rw [Nat.mul_one]; exact e2, by rw [Nat.mul_one]; exact h3.live (by simpa [QA6] using hil), fun v w' hs => ?_⟩
 rw [Nat.mul_one] at hs
 obtain ⟨h3', hu⟩ := h3.set hs
 obtain ⟨g, hg⟩ : ∃ g, ap = at0 g := by
  rcases h3.where_ with ⟨h0, _⟩ | ⟨g, h0, _⟩
  ·cases h0
  ·cases h0; exact ⟨g, rfl⟩
 subst hg
 have hlen : (B.set i v).length = B.length := List.length_set
 have hne : ¬ r = g := fun e => h8.2.1 (by rw [e])
 refine ⟨⟨pD, cD, some (at0 g), cB, bs, Fs, ?_, ?_, ?_, h4, ?_, h6, h7, h8, h9⟩, ?_, fun x hx => .inl hx⟩
 ·rw [hlen]; exact hu.rowW h1 hne
 ·exact h2.upd hu fun q hq e => h8.2.2 q hq (by rw [show q = g from e])
 ·rw [hlen]
  have : QA6 (B.set i v) = (QA6 B).set i (int i64 v) := by unfold QA6; rw [List.map_set]
  rw [this]; exact h3'
 ·intro j m hj
  obtain ⟨b, hb, hd⟩ := h5 j m hj
  exact ⟨b, hb, hd.upd hu fun x hx hf => (h7 j x (Zd.1 hj).1 hf).2.2 (by rw [show x = g from hx])⟩
 ·exact hu.mono fun x _ hx => (h9 x).2 (.inr (.inr (.inl (by rw [show x = g from hx]))))
end
open Go Go.Vc
open Go.IntKind (i64)
open Go.Value (int)
open Go.Proofs.Tryz (prog)
section
variable {w : World} {r : Nat} {Ds : List Dk} {B : List Int} {left : Int} {off : Bool} {F : Nat -> Prop}
theorem QO0 (h : QM w r Ds B left off F) (k : Int) : Calls prog 106 #[.pointer (some (at0 r)), int i64 k] w fun e w' => e = .returned (.bool (decide (0 <= k /\ k < Ds.length))) /\ w' = w := by
 refine (F106_calls (some (at0 r)) k w (fun v w' => v = .bool (decide (0 <= k /\ k < Ds.length)) /\ w' = w) ?_).mono (by rintro e w' ⟨v, rfl, rfl, h⟩; exact ⟨rfl, h⟩)
 obtain ⟨pD, cD, pB, cB, hr⟩ := h.row
 refine Q0 (fun h1 => ⟨_, _, _, hr.c rfl, ?_, rfl⟩) (fun h1 => ⟨?_, rfl⟩)
 ·simp only [Za] at h1
  congr 1
  rw [decide_eq_decide]
  omega
 ·simp only [Zb] at h1
  rw [decide_eq_false (by omega)]
theorem QE7 (h : QM w r Ds B left true F) (i k : Int) (p : σ) (l c : Nat) : Calls prog 57 #[.pointer (some (at0 r)), int i64 i, int i64 k, .slice p l c] w fun e w' => e = .returned (int i64 130) /\ w' = w := by
 refine (F57_calls (some (at0 r)) i k p l c w (fun v w' => v = int i64 130 /\ w' = w) ?_).mono (by rintro e w' ⟨v, rfl, rfl, h⟩; exact ⟨rfl, h⟩)
 obtain ⟨pD, cD, pB, cB, hr⟩ := h.row
 exact ⟨_, hr.c rfl, Q0 (fun _ => ⟨rfl, rfl⟩) fun h => by cases h⟩
theorem QF7 (h : QM w r Ds B left false F) {i : Int} (hi : ¬ (0 <= i /\ i < Ds.length)) (k : Int) (p : σ) (l c : Nat) : Calls prog 57 #[.pointer (some (at0 r)), int i64 i, int i64 k, .slice p l c] w fun e w' => e = .returned (int i64 1) /\ w' = w := by
 refine (F57_calls (some (at0 r)) i k p l c w (fun v w' => v = int i64 1 /\ w' = w) ?_).mono (by rintro e w' ⟨v, rfl, rfl, h⟩; exact ⟨rfl, h⟩)
 obtain ⟨pD, cD, pB, cB, hr⟩ := h.row
 refine ⟨_, hr.c rfl, Q0 (fun h => by cases h) fun _ => (QO0 h i).mono ?_⟩
 rintro e w7 ⟨rfl, rfl⟩
 exact ⟨_, rfl, Q0 (fun _ => ⟨rfl, rfl⟩) fun h1 => by simp at h1; omega⟩
theorem Qgd (h : QM w r Ds B left false F) (hleft : -1 <= left /\ left <= 9223372036854775807) {i : Nat} {D : Dk} (hi : Ds[i]? = some D) (k : Int) {p : σ} {l c : Nat} {bs : τ} (hb : Q3 w p l bs) :
  Calls prog 57 #[.pointer (some (at0 r)), int i64 (i : Int), int i64 k, .slice p l c] w fun e w' => ∃ F', e = .returned (int i64 (Qj D k bs.length)) /\ Qf F F' w w' ∧
   QM w' r (Ds.set i (Q30 D k bs)) B (if Qj D k bs.length = 0 /\ 0 < left then left - 1 else left) (decide (Qj D k bs.length = 0 /\ left = 1)) F' := by
 refine (F57_calls (some (at0 r)) (i : Int) k p l c w (fun v w' => ∃ F', v = int i64 (Qj D k bs.length) /\ Qf F F' w w' ∧
   QM w' r (Ds.set i (Q30 D k bs)) B (if Qj D k bs.length = 0 /\ 0 < left then left - 1 else left) (decide (Qj D k bs.length = 0 /\ left = 1)) F') ?_).mono (by rintro e w' ⟨v, rfl, F', rfl, h⟩; exact ⟨F', rfl, h⟩)
 have hil : i < Ds.length := (Zd.1 hi).1
 obtain ⟨pD, cD, pB, cB, hr⟩ := h.row
 refine ⟨_, hr.c rfl, Q0 (fun h => by cases h) fun _ => (QO0 h (i : Int)).mono ?_⟩
 rintro e w7 ⟨rfl, rfl⟩
 obtain ⟨ap, cD', b, Fi, e0, e1, hd, _, hstep⟩ := h.at hi
 refine ⟨_, rfl, Q0 (fun h0 => by simp at h0; omega) fun _ => ⟨_, _, _, e0, ⟨by omega, by omega⟩, _, by rw [Ze]; exact e1, ?_⟩⟩
 refine (Qpd hd k hb).mono ?_
 rintro e w14 ⟨F1, rfl, hs, hd'⟩
 obtain ⟨F2, hA, hS⟩ := hstep w14 _ F1 hs hd'
 obtain ⟨pD2, cD2, pB2, cB2, hr2⟩ := hA.row
 refine ⟨_, rfl, Q0 (fun hz => ?_) (fun hz => ?_)⟩
 ·simp only [Za] at hz
  refine ⟨_, hr2.c rfl, Q0 (fun hl => ?_) (fun hl => ?_)⟩
  ·simp only [Za] at hl
   refine ⟨_, hr2.c rfl, hr2.live (by simp), fun w22 s22 => ?_⟩
   obtain ⟨hA22, hS22⟩ := hA.setLeft s22
   obtain ⟨pD3, cD3, pB3, cB3, hr3⟩ := hA22.row
   refine ⟨_, hr3.c rfl, hr3.live (by simp), fun w26 s26 => ?_⟩
   obtain ⟨hA26, hS26⟩ := hA22.setOff s26
   refine ⟨F2, rfl, (hS.trans hS22).trans hS26, ?_⟩
   rw [w64 (by omega)] at hA26
   rw [if_pos ⟨hz, hl⟩]
   have e1 : decide (Qj D k bs.length = 0 /\ left = 1) = decide (left - 1 = 0) := by rw [decide_eq_decide]; omega
   rw [e1]
   exact hA26
  ·simp only [Zb] at hl
   refine ⟨F2, rfl, hS, ?_⟩
   rw [if_neg (by omega), decide_eq_false (by omega)]
   exact hA
 ·simp only [Zb] at hz
  refine ⟨F2, rfl, hS, ?_⟩
  rw [if_neg (by omega), decide_eq_false (by omega)]
  exact hA
theorem QU8 (h : QM w r Ds B left true F) (i k : Int) : Calls prog 60 #[.pointer (some (at0 r)), int i64 i, int i64 k] w fun e w' => e = .returned (.tuple #[.slice none 0 0, int i64 130]) /\ w' = w := by
 refine (F60_calls (some (at0 r)) i k w (fun v w' => v = .tuple #[.slice none 0 0, int i64 130] /\ w' = w) ?_).mono (by rintro e w' ⟨v, rfl, rfl, h⟩; exact ⟨rfl, h⟩)
 obtain ⟨pD, cD, pB, cB, hr⟩ := h.row
 exact ⟨_, hr.c rfl, Q0 (fun _ => ⟨rfl, rfl⟩) fun h => by cases h⟩
theorem QV8 (h : QM w r Ds B left false F) {i : Int} (hi : ¬ (0 <= i /\ i < Ds.length)) (k : Int) : Calls prog 60 #[.pointer (some (at0 r)), int i64 i, int i64 k] w fun e w' => e = .returned (.tuple #[.slice none 0 0, int i64 1]) /\ w' = w := by
 refine (F60_calls (some (at0 r)) i k w (fun v w' => v = .tuple #[.slice none 0 0, int i64 1] /\ w' = w) ?_).mono (by rintro e w' ⟨v, rfl, rfl, h⟩; exact ⟨rfl, h⟩)
 obtain ⟨pD, cD, pB, cB, hr⟩ := h.row
 refine ⟨_, hr.c rfl, Q0 (fun h => by cases h) fun _ => (QO0 h i).mono ?_⟩
 rintro e w7 ⟨rfl, rfl⟩
 exact ⟨_, rfl, Q0 (fun _ => ⟨rfl, rfl⟩) fun h1 => by simp at h1; omega⟩
theorem Qre (h : QM w r Ds B left false F) {i : Nat} {D : Dk} (hi : Ds[i]? = some D) (k : Int) : Calls prog 60 #[.pointer (some (at0 r)), int i64 (i : Int), int i64 k] w fun e w' => Ext w w' ∧
  ∃ p l c bs, e = .returned (.tuple #[.slice p l c, int i64 (Qe D.dead D.sectors k)]) /\ bs = (if Qe D.dead D.sectors k = 0 then Ql1 D k else []) /\ Q3 w' p l bs /\ l <= 4108 := by
 refine (F60_calls (some (at0 r)) (i : Int) k w (fun v w' => Ext w w' /\ ∃ p l c bs, v = .tuple #[.slice p l c, int i64 (Qe D.dead D.sectors k)] /\ bs = (if Qe D.dead D.sectors k = 0 then Ql1 D k else []) /\ Q3 w' p l bs /\ l <= 4108) ?_).mono (by
  rintro e w' ⟨v, rfl, hx, p, l, c, bs, rfl, h⟩; exact ⟨hx, p, l, c, bs, rfl, h⟩)
 have hil : i < Ds.length := (Zd.1 hi).1
 obtain ⟨pD, cD, pB, cB, hr⟩ := h.row
 refine ⟨_, hr.c rfl, Q0 (fun h => by cases h) fun _ => (QO0 h (i : Int)).mono ?_⟩
 rintro e w7 ⟨rfl, rfl⟩
 obtain ⟨ap, cD', b, Fi, e0, e1, hd, _, _⟩ := h.at hi
 refine ⟨_, rfl, Q0 (fun h0 => by simp at h0; omega) fun _ => ⟨_, _, _, e0, ⟨by omega, by omega⟩, _, by rw [Ze]; exact e1, ?_⟩⟩
 refine (Que hd k).mono ?_
 rintro e w14 ⟨hx, p, l, c, bs, rfl, h⟩
 exact ⟨_, _, _, _, rfl, hx, p, l, c, bs, rfl, h⟩
theorem QC5 (h : QM w r Ds B left off F) {i : Int} (hi : ¬ (0 <= i /\ i < Ds.length)) (k t y : Int) : Calls prog 83 #[.pointer (some (at0 r)), int i64 i, int i64 k, int i64 t, .int .u8 y] w fun e w' => e = .returned (int i64 1) /\ w' = w := by
 refine (F83_calls (some (at0 r)) i k t y w (fun v w' => v = int i64 1 /\ w' = w) ?_).mono (by rintro e w' ⟨v, rfl, rfl, h⟩; exact ⟨rfl, h⟩)
 refine (QO0 h i).mono ?_
 rintro e w7 ⟨rfl, rfl⟩
 exact ⟨_, rfl, Q0 (fun _ => ⟨rfl, rfl⟩) fun h1 => by simp at h1; omega⟩
theorem Qxa (h : QM w r Ds B left off F) {i : Nat} {D : Dk} (hi : Ds[i]? = some D) (k t : Int) (y : UInt8) (ht : -9223372036854775808 <= t /\ t <= 9223372036854775807) :
  Calls prog 83 #[.pointer (some (at0 r)), int i64 (i : Int), int i64 k, int i64 t, .int .u8 (y.toNat : Int)] w fun e w' => ∃ F', e = .returned (int i64 (Qy D k)) /\ Qf F F' w w' /\ QM w' r (Ds.set i (Qm D k t y)) B left off F' := by
 refine (F83_calls (some (at0 r)) (i : Int) k t (y.toNat : Int) w (fun v w' => ∃ F', v = int i64 (Qy D k) /\ Qf F F' w w' /\ QM w' r (Ds.set i (Qm D k t y)) B left off F') ?_).mono (by rintro e w' ⟨v, rfl, F', rfl, h⟩; exact ⟨F', rfl, h⟩)
 have hil : i < Ds.length := (Zd.1 hi).1
 refine (QO0 h (i : Int)).mono ?_
 rintro e w7 ⟨rfl, rfl⟩
 obtain ⟨ap, cD', b, Fi, e0, e1, hd, _, hstep⟩ := h.at hi
 refine ⟨_, rfl, Q0 (fun h0 => by simp at h0; omega) fun _ => ⟨_, _, _, e0, ⟨by omega, by omega⟩, _, by rw [Ze]; exact e1, ?_⟩⟩
 refine (QAa hd k t y ht).mono ?_
 rintro e w14 ⟨F1, rfl, hs, hd'⟩
 obtain ⟨F2, hA, hS⟩ := hstep w14 _ F1 hs hd'
 exact ⟨_, rfl, F2, rfl, hS, hA⟩
theorem Qed (h : QM w r Ds B left off F) (k : Int) : Calls prog 75 #[.pointer (some (at0 r)), int i64 k] w fun e w' => e = .returned (.tuple #[]) /\ Qf F F w w' ∧
  QM w' r Ds B (if off then left else if k < -1 then -1 else k) (if off then true else decide (k = 0)) F := by
 refine (F75_calls (some (at0 r)) k w (fun v w' => v = .tuple #[] /\ Qf F F w w' /\ QM w' r Ds B (if off then left else if k < -1 then -1 else k) (if off then true else decide (k = 0)) F) ?_).mono (by rintro e w' ⟨v, rfl, rfl, h⟩; exact ⟨rfl, h⟩)
 obtain ⟨pD, cD, pB, cB, hr⟩ := h.row
 refine ⟨_, hr.c rfl, Q0 (fun ho => ⟨rfl, Qf.refl _ _, ?_⟩) fun ho => ?_⟩
 ·subst ho
  simpa using h
 ·subst ho
  refine ⟨hr.live (by simp), fun w6 s6 => ?_⟩
  obtain ⟨h6, st6⟩ := h.setLeft s6
  obtain ⟨_, _, _, _, hr6⟩ := h6.row
  simp only [Bool.false_eq_true, if_false]
  refine Q0 (fun hk => ?_) (fun hk => ?_)
  ·simp only [Za] at hk
   refine ⟨hr6.live (by simp), fun w8 s8 => ?_⟩
   obtain ⟨h8, st8⟩ := h6.setLeft s8
   obtain ⟨_, _, _, _, hr8⟩ := h8.row
   refine ⟨hr8.live (by simp), fun w10 s10 => ?_⟩
   obtain ⟨h10, st10⟩ := h8.setOff s10
   refine ⟨trivial, (st6.trans st8).trans st10, ?_⟩
   rw [if_neg (by omega)]
   exact h10
  ·simp only [Zb] at hk
   refine ⟨hr6.live (by simp), fun w12 s12 => ?_⟩
   obtain ⟨h12, st12⟩ := h6.setOff s12
   refine ⟨trivial, st6.trans st12, ?_⟩
   have : (if k < -1 then -1 else k) = -1 := by split <;> omega
   rw [this]
   exact h12
end
open Go Go.Vc
open Go.IntKind (i64)
open Go.Value (int)
open Go.Proofs.Tryz (prog)
section
variable {w : World} {r : Nat} {Ds : List Dk} {B : List Int} {left : Int} {off : Bool} {F : Nat -> Prop}
theorem QS8 (h : QM w r Ds B left off F) {i : Int} (hi : ¬ (0 <= i /\ i < Ds.length)) : Calls prog 79 #[.pointer (some (at0 r)), int i64 i] w fun e w' => e = .returned (int i64 1) /\ w' = w := by
 refine (F79_calls (some (at0 r)) i w (fun v w' => v = int i64 1 /\ w' = w) ?_).mono (by rintro e w' ⟨v, rfl, rfl, h⟩; exact ⟨rfl, h⟩)
 refine (QO0 h i).mono ?_
 rintro e w7 ⟨rfl, rfl⟩
 exact ⟨_, rfl, Q0 (fun _ => ⟨rfl, rfl⟩) fun h1 => by simp at h1; omega⟩
theorem QD5 (h : QM w r Ds B left off F) {i : Int} (hi : ¬ (0 <= i /\ i < Ds.length)) : Calls prog 81 #[.pointer (some (at0 r)), int i64 i] w fun e w' => e = .returned (int i64 1) /\ w' = w := by
 refine (F81_calls (some (at0 r)) i w (fun v w' => v = int i64 1 /\ w' = w) ?_).mono (by rintro e w' ⟨v, rfl, rfl, h⟩; exact ⟨rfl, h⟩)
 refine (QO0 h i).mono ?_
 rintro e w7 ⟨rfl, rfl⟩
 exact ⟨_, rfl, Q0 (fun _ => ⟨rfl, rfl⟩) fun h1 => by simp at h1; omega⟩
theorem Qpe (h : QM w r Ds B left off F) {i : Nat} {D : Dk} (hi : Ds[i]? = some D) {n : Int} (hn : B[i]? = some n) :
  Calls prog 79 #[.pointer (some (at0 r)), int i64 (i : Int)] w fun e w' => ∃ F', e = .returned (int i64 0) /\ Qf F F' w w' /\ QM w' r (Ds.set i { D with dead := true, lasts := [], waits := [] }) (B.set i (i64.wrap (n + 1))) left off F' := by
 refine (F79_calls (some (at0 r)) (i : Int) w (fun v w' => ∃ F', v = int i64 0 /\ Qf F F' w w' /\ QM w' r (Ds.set i { D with dead := true, lasts := [], waits := [] }) (B.set i (i64.wrap (n + 1))) left off F') ?_).mono (by rintro e w' ⟨v, rfl, F', rfl, h⟩; exact ⟨F', rfl, h⟩)
 have hil : i < Ds.length := (Zd.1 hi).1
 have hib : i < B.length := (Zd.1 hn).1
 refine (QO0 h (i : Int)).mono ?_
 rintro e w7 ⟨rfl, rfl⟩
 obtain ⟨ap, cD', b, Fi, e0, e1, hd, _, hstep⟩ := h.at hi
 refine ⟨_, rfl, Q0 (fun h0 => by simp at h0; omega) fun _ => ⟨_, _, _, e0, ⟨by omega, by omega⟩, _, by rw [Ze]; exact e1, ?_⟩⟩
 refine (Qse hd).mono ?_
 rintro e w10 ⟨rfl, hs, hd'⟩
 obtain ⟨F2, hA, hS⟩ := hstep w10 _ _ hs hd'
 obtain ⟨aB, cB, e2, e3, hl, hset⟩ := hA.born hn
 refine ⟨rfl, _, _, _, e2, ⟨by omega, by omega⟩, _, by rw [Ze]; exact e3, ⟨by omega, by omega⟩, by rw [Ze]; exact hl, fun w17 s17 => ?_⟩
 rw [Ze] at s17
 obtain ⟨hA2, hS2⟩ := hset _ _ s17
 exact ⟨F2, rfl, hS.trans hS2, hA2⟩
theorem Qya (h : QM w r Ds B left off F) {i : Nat} {D : Dk} (hi : Ds[i]? = some D) {n : Int} (hn : B[i]? = some n) :
  Calls prog 81 #[.pointer (some (at0 r)), int i64 (i : Int)] w fun e w' => ∃ F', e = .returned (int i64 0) /\ Qf F F' w w' /\ QM w' r (Ds.set i { D with dead := false, lasts := [], waits := [] }) (B.set i (i64.wrap (n + 1))) left off F' := by
 refine (F81_calls (some (at0 r)) (i : Int) w (fun v w' => ∃ F', v = int i64 0 /\ Qf F F' w w' /\ QM w' r (Ds.set i { D with dead := false, lasts := [], waits := [] }) (B.set i (i64.wrap (n + 1))) left off F') ?_).mono (by rintro e w' ⟨v, rfl, F', rfl, h⟩; exact ⟨F', rfl, h⟩)
 have hil : i < Ds.length := (Zd.1 hi).1
 have hib : i < B.length := (Zd.1 hn).1
 refine (QO0 h (i : Int)).mono ?_
 rintro e w7 ⟨rfl, rfl⟩
 obtain ⟨ap, cD', b, Fi, e0, e1, hd, _, hstep⟩ := h.at hi
 refine ⟨_, rfl, Q0 (fun h0 => by simp at h0; omega) fun _ => ⟨_, _, _, e0, ⟨by omega, by omega⟩, _, by rw [Ze]; exact e1, ?_⟩⟩
 refine (QBa hd).mono ?_
 rintro e w10 ⟨rfl, hs, hd'⟩
 obtain ⟨F2, hA, hS⟩ := hstep w10 _ _ hs hd'
 obtain ⟨aB, cB, e2, e3, hl, hset⟩ := hA.born hn
 refine ⟨rfl, _, _, _, e2, ⟨by omega, by omega⟩, _, by rw [Ze]; exact e3, ⟨by omega, by omega⟩, by rw [Ze]; exact hl, fun w17 s17 => ?_⟩
 rw [Ze] at s17
 obtain ⟨hA2, hS2⟩ := hset _ _ s17
 exact ⟨F2, rfl, hS.trans hS2, hA2⟩
def Qv0 (i : Nat) (Ds : List Dk) : List Dk := Ds.mapIdx fun j D => if j < i then Q11 D else D
theorem Q73 (i : Nat) (Ds : List Dk) : (Qv0 i Ds).length = Ds.length := by simp [Qv0]
theorem Qea {i : Nat} {Ds : List Dk} {D : Dk} (h : Ds[i]? = some D) : (Qv0 i Ds)[i]? = some D := by simp [Qv0, h]
theorem Qv8 {i : Nat} {Ds : List Dk} {D : Dk} (h : Ds[i]? = some D) : (Qv0 i Ds).set i (Q11 D) = Qv0 (i + 1) Ds := by
 apply List.ext_getElem?
 intro j
 rw [List.getElem?_set]
 by_cases hji : i = j
 ·subst hji
  have hl := (Zd.1 h).1
  rw [if_pos rfl, if_pos (by rw [Q73]; exact hl)]
  simp [Qv0, h]
 ·rw [if_neg hji]
  simp only [Qv0, List.getElem?_mapIdx]
  cases Ds[j]? with
  | none => rfl
  | some m =>
   simp only [Option.map_some]
   by_cases h1 : j < i
   ·rw [if_pos h1, if_pos (by omega)]
   ·rw [if_neg h1, if_neg (by omega)]
theorem QD7 (h : QM w r Ds B left true F) : Calls prog 59 #[.pointer (some (at0 r))] w fun e w' => e = .returned (int i64 130) /\ w' = w := by
 refine (F59_calls (some (at0 r)) w (fun v w' => v = int i64 130 /\ w' = w) (fun _ _ _ => False) (fun _ _ _ => 0) ?_).mono (by rintro e w' ⟨v, rfl, rfl, h⟩; exact ⟨rfl, h⟩)
 obtain ⟨pD, cD, pB, cB, hr⟩ := h.row
 exact ⟨_, hr.c rfl, Q0 (fun _ => ⟨rfl, rfl⟩) fun h => by cases h⟩
theorem Qfd (h : QM w r Ds B left false F) (hM : Ds.length <= 100) : Calls prog 59 #[.pointer (some (at0 r))] w fun e w' => ∃ F', e = .returned (int i64 0) /\ Qf F F' w w' /\ QM w' r (Qv0 Ds.length Ds) B left false F' := by
 refine (F59_calls (some (at0 r)) w (fun v w' => ∃ F', v = int i64 0 /\ Qf F F' w w' /\ QM w' r (Qv0 Ds.length Ds) B left false F')
  (fun _ n4 w5 => ∃ (i : Nat) (F' : Nat -> Prop), n4 = i /\ i <= Ds.length /\ Qf F F' w w5 /\ QM w5 r (Qv0 i Ds) B left false F') (fun _ n4 _ => 100 - n4.toNat) ?_).mono (by rintro e w' ⟨v, rfl, F', rfl, h⟩; exact ⟨F', rfl, h⟩)
 obtain ⟨pD, cD, pB, cB, hr⟩ := h.row
 have h0 : Qv0 0 Ds = Ds := by
  apply List.ext_getElem?
  intro j
  simp only [Qv0, List.getElem?_mapIdx]
  cases Ds[j]? <;> simp
 refine ⟨_, hr.c rfl, Q0 (fun h => by cases h) fun _ => ⟨⟨0, F, rfl, Nat.zero_le _, Qf.refl _ _, by rw [h0]; exact h⟩, ?_⟩⟩
 rintro n4 w5 ⟨i, F5, rfl, hi, s5, h5⟩
 intros
 obtain ⟨pD5, cD5, pB5, cB5, hr5⟩ := h5.row
 rw [Q73] at hr5
 refine ⟨_, _, _, hr5.c rfl, Q0 (fun hlt => ?_) (fun hge => ?_)⟩
 ·simp only [Za] at hlt
  obtain ⟨D, hD⟩ : ∃ D, Ds[i]? = some D := ⟨Ds[i]'(by omega), Zc _⟩
  obtain ⟨ap, cD', b, Fi, e0, e1, hd, _, hstep⟩ := h5.at (Qea hD)
  rw [Q73] at e0
  refine ⟨_, _, _, e0, ⟨by omega, hlt⟩, _, by rw [Ze]; exact e1, ?_⟩
  refine (Qkd hd).mono ?_
  rintro e w29 ⟨F1, rfl, hs, hd'⟩
  obtain ⟨F2, hA, hS⟩ := hstep w29 _ F1 hs hd'
  rw [Qv8 hD] at hA
  rw [w64 (by omega)]
  exact ⟨_, rfl, ⟨i + 1, F2, by omega, by omega, s5.trans hS, hA⟩, by show 100 - ((i : Int) + 1).toNat < 100 - (i : Int).toNat; omega⟩
 ·simp only [Zb] at hge
  have : i = Ds.length := by omega
  subst this
  exact ⟨F5, rfl, s5, h5⟩
theorem Qqe (h : QM w r Ds B left off F) (hM : Ds.length <= 100) : Calls prog 35 #[.pointer (some (at0 r))] w fun e w' => ∃ p l c, e = .returned (.slice p l c) /\ Ext w w' /\ l = Ds.length ∧
  Qc w' w.heap.size 4 1 p l c (Ds.map fun D => .bool (!D.dead)) := by
 refine (F35_calls (some (at0 r)) w (fun v w' => ∃ p l c, v = .slice p l c /\ Ext w w' /\ l = Ds.length /\ Qc w' w.heap.size 4 1 p l c (Ds.map fun D => .bool (!D.dead)))
  (fun _ p8 l8 c8 n9 w10 => ∃ i : Nat, n9 = i /\ i <= Ds.length /\ Ext w w10 /\ l8 = i /\ Qc w10 w.heap.size 4 1 p8 l8 c8 ((Ds.take i).map fun D => .bool (!D.dead))) (fun _ _ _ _ n9 _ => 100 - n9.toNat) ?_).mono (by
   rintro e w' ⟨v, rfl, p, l, c, rfl, h⟩; exact ⟨p, l, c, rfl, h⟩)
 refine ⟨⟨0, rfl, Nat.zero_le _, Upd.refl _ _, rfl, Qc.nil _ _ _ _⟩, ?_⟩
 rintro p8 l8 c8 n9 w10 ⟨i, rfl, hi, x10, rfl, own⟩
 intros
 have h10 := h.ext x10
 obtain ⟨pD, cD, pB, cB, hr⟩ := h10.row
 refine ⟨_, _, _, hr.c rfl, Q0 (fun hlt => ?_) (fun hge => ?_)⟩
 ·simp only [Za] at hlt
  obtain ⟨D, hD⟩ : ∃ D, Ds[l8]? = some D := ⟨Ds[l8]'(by omega), Zc _⟩
  obtain ⟨ap, cD', b, Fi, e0, e1, hd, _, _⟩ := h10.at hD
  obtain ⟨pL, lL, cL, pW, lW, cW, G, hrow, _⟩ := hd.row
  refine ⟨_, _, _, e0, ⟨by omega, hlt⟩, some (at0 b), by rw [Ze]; exact e1, _, hrow.c rfl, fun k36 w37 hk => ?_⟩
  obtain ⟨p', c', w38, hrun, own38, x38⟩ := Qa8 Qk9 (by omega) x10 own hk rfl (by omega)
  refine ⟨p', l8 + 1, c', w38, hrun, ?_⟩
  rw [w64 (by omega)]
  refine ⟨⟨l8 + 1, by omega, by omega, x38, rfl, ?_⟩, by show 100 - ((l8 : Int) + 1).toNat < 100 - (l8 : Int).toNat; omega⟩
  rw [Zn, hD]
  simpa using own38
 ·simp only [Zb] at hge
  have : Ds.take l8 = Ds := Zh (by omega)
  rw [this] at own
  exact ⟨p8, l8, c8, rfl, x10, by omega, own⟩
end
open Go Go.Vc
open Go.IntKind (i64)
open Go.Value (int)
open Go.Proofs.Tryz (prog)
def Qp0 (KS : List (List Int)) (i : Nat) (Ds : List Dk) : List Dk := Ds.mapIdx fun j D => if j < i then QN1 D (KS.getD j []) else D
theorem Q92 (KS : List (List Int)) (i : Nat) (Ds : List Dk) : (Qp0 KS i Ds).length = Ds.length := by simp [Qp0]
theorem QQ5 {KS : List (List Int)} {i : Nat} {Ds : List Dk} {D : Dk} (h : Ds[i]? = some D) : (Qp0 KS i Ds)[i]? = some D := by simp [Qp0, h]
theorem Qj8 {KS : List (List Int)} {i : Nat} {Ds : List Dk} {D : Dk} (h : Ds[i]? = some D) : (Qp0 KS i Ds).set i (QN1 D (KS.getD i [])) = Qp0 KS (i + 1) Ds := by
 apply List.ext_getElem?
 intro j
 rw [List.getElem?_set]
 by_cases hji : i = j
 ·subst hji
  have hl := (Zd.1 h).1
  rw [if_pos rfl, if_pos (by rw [Q92]; exact hl)]
  simp [Qp0, h]
 ·rw [if_neg hji]
  simp only [Qp0, List.getElem?_mapIdx]
  cases Ds[j]? with
  | none => rfl
  | some m =>
   simp only [Option.map_some]
   by_cases h1 : j < i
   ·rw [if_pos h1, if_pos (by omega)]
   ·rw [if_neg h1, if_neg (by omega)]
section
variable {w : World} {r : Nat} {Ds : List Dk} {B : List Int} {left : Int} {off : Bool} {F : Nat -> Prop}
theorem Qza (h : QM w r Ds B left off F) (hM : Ds.length <= 100) {KB : Nat -> Prop} (hKF : ∀ x, KB x -> ¬ F x) (hKnew : ∀ x, KB x -> ¬ w.heap.size <= x) {p : σ} {l c : Nat} {KS : List (List Int)} (hK : Q64 w KB p l KS) (hks : ∀ ks ∈ KS, ks.length <= 9223372036854775807) :
  Calls prog 77 #[.pointer (some (at0 r)), .slice p l c] w fun e w' => ∃ F', e = .returned (.tuple #[]) /\ Qf F F' w w' /\ QM w' r (Qp0 KS Ds.length Ds) B (-1) false F' := by
 refine (F77_calls (some (at0 r)) p l c w (fun v w' => ∃ F', v = .tuple #[] /\ Qf F F' w w' /\ QM w' r (Qp0 KS Ds.length Ds) B (-1) false F')
  (fun _ n3 w4 => ∃ (i : Nat) (F' : Nat -> Prop), n3 = i /\ i <= Ds.length /\ Qf F F' w w4 /\ QM w4 r (Qp0 KS i Ds) B left off F') (fun _ n3 _ => 100 - n3.toNat) ?_).mono (by rintro e w' ⟨v, rfl, F', rfl, h⟩; exact ⟨F', rfl, h⟩)
 have hl := hK.1
 have hzero : Qp0 KS 0 Ds = Ds := by
  apply List.ext_getElem?
  intro j
  simp [Qp0]
 refine ⟨⟨0, F, rfl, Nat.zero_le _, Qf.refl _ _, by rw [hzero]; exact h⟩, ?_⟩
 rintro n3 w4 ⟨i, F', rfl, hi, s4, h4⟩
 intros
 obtain ⟨pD, cD, pB, cB, hr4⟩ := h4.row
 rw [Q92] at hr4
 refine ⟨_, _, _, hr4.c rfl, Q0 (fun hlt => ?_) (fun hge => ?_)⟩
 ·simp only [Za] at hlt
  obtain ⟨D, hD⟩ : ∃ D, Ds[i]? = some D := ⟨Ds[i]'(by omega), Zc _⟩
  have go : ∀ w47 (Fi F1 : Nat -> Prop) (F2 : Nat -> Prop), Qf F' F2 w4 w47 -> QM w47 r ((Qp0 KS i Ds).set i (QN1 D (KS.getD i []))) B left off F2 →
    (∃ (i_1 : Nat) (F' : Nat -> Prop), i64.wrap ((i : Int) + 1) = i_1 /\ i_1 <= Ds.length /\ Qf F F' w w47 /\ QM w47 r (Qp0 KS i_1 Ds) B left off F') /\ 100 - (i64.wrap ((i : Int) + 1)).toNat < 100 - (i : Int).toNat := by
   intro w47 _ _ F2 hs hA
   rw [Qj8 hD] at hA
   rw [w64 (by omega)]
   exact ⟨⟨i + 1, F2, by omega, by omega, s4.trans hs, hA⟩, by omega⟩
  refine Q0 (fun hil => ?_) (fun hil => ?_)
  ·simp only [Za] at hil
   intro w40 hd40
   have h40 := h4.ext hd40.ext
   obtain ⟨ap, cD', b, Fi, e0, e1, hd, hFi, hstep⟩ := h40.at (QQ5 hD)
   rw [Q92] at e0
   obtain ⟨ks, hksi⟩ : ∃ ks, KS[i]? = some ks := ⟨KS[i]'(by omega), Zc _⟩
   obtain ⟨aa, q, nn, cc, rfl, hka, ec, hints, hkb, hnn⟩ := ((hK.upd s4.upd hKF).upd hd40.ext fun _ _ h => h).2 i ks hksi
   refine ⟨_, _, _, e0, ⟨by omega, hlt⟩, some (at0 b), by rw [Ze]; exact e1, ⟨by omega, hil⟩, _, _, _, by rw [Ze]; exact ec, ?_⟩
   have hnl := hints.1
   have hkl := hks ks (Zs hksi)
   refine (QL9 hd hints (by omega) fun a' ha hne hf => ?_).mono ?_
   ·have hw := hkb hne a' ha
    rcases s4.grow _ (hFi _ hf).1 with h1 | h1
    ·exact hKF _ hw h1
    ·exact hKnew _ hw h1
   rintro e w47 ⟨F1, rfl, hs, hd'⟩
   have : KS.getD i [] = ks := by simp [List.getD, hksi]
   obtain ⟨F2, hA, hS⟩ := hstep w47 _ F1 hs hd'
   refine ⟨rfl, go w47 Fi F1 F2 ((Qf.ext hd40.ext).trans hS) (by rw [this]; exact hA)⟩
  ·simp only [Zb] at hil
   obtain ⟨ap, cD', b, Fi, e0, e1, hd, hFi, hstep⟩ := h4.at (QQ5 hD)
   rw [Q92] at e0
   refine ⟨_, _, _, e0, ⟨by omega, hlt⟩, some (at0 b), by rw [Ze]; exact e1, ?_⟩
   have hnil : Ql w4 none 0 [] := ⟨rfl, Q8.nil _ _⟩
   refine (QL9 hd hnil (by omega) fun a' ha => by cases ha).mono ?_
   rintro e w53 ⟨F1, rfl, hs, hd'⟩
   have : KS.getD i [] = [] := by
    have : KS[i]? = none := Zr (by omega)
    simp [List.getD, this]
   obtain ⟨F2, hA, hS⟩ := hstep w53 _ F1 hs hd'
   exact ⟨rfl, go w53 Fi F1 F2 hS (by rw [this]; exact hA)⟩
 ·simp only [Zb] at hge
  have hil : i = Ds.length := by omega
  subst hil
  refine ⟨hr4.live (by simp), fun w56 s56 => ?_⟩
  obtain ⟨h56, st56⟩ := h4.setOff s56
  obtain ⟨_, _, _, _, hr56⟩ := h56.row
  refine ⟨hr56.live (by simp), fun w58 s58 => ?_⟩
  obtain ⟨h58, st58⟩ := h56.setLeft s58
  exact ⟨F', rfl, (s4.trans st56).trans st58, h58⟩
end
open Go Go.Vc
open Go.IntKind (i64)
open Go.Value (int)
open Go.Proofs.Tryz (prog)
theorem QQf : QI0 prog 71 74 1 8 := ⟨by kernel_rfl, ⟨Tryz.t74, .pointer none, by kernel_rfl, by kernel_rfl, by kernel_rfl, by kernel_rfl, by kernel_rfl⟩, by decide⟩
theorem QOb {w1 w2 : World} {k : Nat} {v : Value} {e : TypeId} (hk : QU1 w1 k (.cells #[v] e) w2) : Q8 w2 (some (at0 k)) [v] := fun j u hj => ⟨_, rfl, Row.cell ⟨_, _, hk.at⟩ (by simpa using hj)⟩
theorem Qk3 {P : Program} {t e : TypeId} {bytes : Nat} (E : QI0 P t e 1 bytes) (hby : bytes <= 64) {w1 w2 : World} {p : σ} {n c : Nat} {xs : List Value} (h : Qc w1 0 e 1 p n c xs) {k : Nat} {v : Value}
  (hk : QU1 w1 k (.cells #[v] e) w2) (hv : v.oneCell' = true) (hn : n <= 100000) :
  ∃ p' c' w3, Sem.run P (Builtin.append_ #[t, t] t #[.slice p n c, .slice (some (at0 k)) 1 1]) w2 = .ok (.slice p' (n + 1) c') w3 /\ Qc w3 0 e 1 p' (n + 1) c' (xs ++ [v]) /\ Upd (fun b => p = some (at0 b)) w2 w3 ∧
   (∀ x, p' = some (at0 x) -> p = some (at0 x) \/ x = w2.heap.size) := by
 have h2 := h.ext hk.ext
 have hone : ∀ u ∈ [v], u.oneCell' = true := by
  intro u hu
  simp only [List.mem_singleton] at hu
  subst hu; exact hv
 have hmul : (n + 1) * bytes <= (100000 + 1) * 64 := Nat.mul_le_mul (by omega) hby
 obtain ⟨p', c', w3, hr, own3, hu3, _⟩ := h2.append E t (q := some (at0 k)) (m := 1) (d := 1) (news := [v]) rfl (QOb hk) (fun h => by cases h) hone (by unfold maxLen; omega) (by omega) (Nat.zero_le _)
 have hw := Q87 E t h2 rfl (QOb hk) hone (by omega) (by unfold maxLen; omega) (by omega) hr
 refine ⟨p', c', w3, hr, own3, hu3, fun x hp => ?_⟩
 rcases hw with h | h
 ·exact .inl (by rw [← h]; exact hp)
 ·rw [h] at hp
  simp only [Zi, at0, Zv, and_true] at hp
  exact .inr hp.symm
section
variable {w0 w1 : World} {r : Nat} {Ds : List Dk} {B : List Int} {left : Int} {off : Bool} {F : Nat -> Prop}
theorem QM.pushD (h : QM w0 r Ds B left off F) (hx : Ext w0 w1) {b : Nat} {D : Dk} {Fd : Nat -> Prop} (hd : QQ2 w1 b D Fd) (hnew : ∀ x, Fd x -> w0.heap.size <= x) (hM : Ds.length <= 100) :
  ∃ p cD, w1.cell? ((at0 r).add 0) = some (.slice p Ds.length cD) /\ ∀ (k : Nat) (w2 : World), QU1 w1 k (.cells #[.pointer (some (at0 b))] 74) w2 →
   ∃ p' c' w3, Sem.run prog (Builtin.append_ #[71, 71] 71 #[.slice p Ds.length cD, .slice (some (at0 k)) 1 1]) w2 = .ok (.slice p' (Ds.length + 1) c') w3 /\ QL1 w3 ((at0 r).add 0) ∧
    ∀ w4, QT w3 ((at0 r).add 0) (.slice p' (Ds.length + 1) c') w4 -> ∃ F', QM w4 r (Ds ++ [D]) B left off F' /\ Upd F w0 w4 /\ ∀ x, F' x -> F x \/ w0.heap.size <= x := by
 have hlt0 := h.lt
 have h' := h.ext hx
 obtain ⟨pD, cD, pB, cB, bs, Fs, h1, h2, h3, h4, h5, h6, h7, h8, h9⟩ := h'
 refine ⟨pD, cD, h1.c rfl, fun k w2 hk => ?_⟩
 have x2 := hx.trans hk.ext
 have hs0 := x2.size
 have hksz := hk.size
 have hx1 := hx.size
 obtain ⟨p', c', w3, hr, own3, hu3, hka⟩ := Qk3 QQf (by omega) h2 hk rfl (by omega)
 have p_lt : ∀ x, pD = some (at0 x) -> x < w0.heap.size := fun x hp => hlt0 x ((h9 x).2 (.inr (.inl hp)))
 have q_lt : ∀ x, pB = some (at0 x) -> x < w0.heap.size := fun x hp => hlt0 x ((h9 x).2 (.inr (.inr (.inl hp))))
 have F_lt : ∀ i x, i < Ds.length -> Fs i x -> x < w0.heap.size := fun i x hi hf => hlt0 x ((h9 x).2 (.inr (.inr (.inr ⟨i, hi, hf⟩))))
 have r_lt : r < w0.heap.size := hlt0 r ((h9 r).2 (.inl rfl))
 have hd_lt := hd.lt
 have r3 := hu3.rowW (hk.ext.rowW h1 id) (fun e => h8.1 e)
 refine ⟨p', c', w3, hr, r3.live (by simp), fun w4 hs => ?_⟩
 have hu4 : Upd (fun x => x = r) w3 w4 := by
  have := hs.upd
  rw [Qr] at this
  exact this
 have hp'r : p' ≠ some (at0 r) := fun e => by
  rcases hka r e with h | h
  ·exact h8.1 h
  ·omega
 have hlen : (Ds ++ [D]).length = Ds.length + 1 := by simp
 have dsk2 : ∀ {b' : Nat} {D' : Dk} {F' : Nat -> Prop}, QQ2 w1 b' D' F' -> (∀ x, F' x -> x ≠ r /\ pD ≠ some (at0 x)) -> QQ2 w4 b' D' F' := fun hd' hF =>
  ((hd'.ext hk.ext).upd hu3 (fun x hx hf => (hF x hf).2 hx)).upd hu4 fun x hx hf => (hF x hf).1 hx
 refine ⟨fun x => x = r \/ p' = some (at0 x) \/ pB = some (at0 x) \/ ∃ i, i < Ds.length + 1 /\ (if i = Ds.length then Fd else Fs i) x, ⟨p', c', pB, cB, bs ++ [b], fun i => if i = Ds.length then Fd else Fs i, ?_, ?_, ?_, by simp [h4], ?_, ?_, ?_, ⟨hp'r, h8.2.1, ?_⟩, ?_⟩, ?_, ?_⟩
 ·rw [hlen]; exact hs.row r3
 ·rw [hlen]
  have : QWb (bs ++ [b]) = QWb bs ++ [.pointer (some (at0 b))] := by simp [QWb]
  rw [this]
  exact own3.upd hu4 fun g hg e => hp'r (by rw [hg, e])
 ·exact ((h3.ext hk.ext).upd hu3 fun g hg e => h8.2.2 g e hg).upd hu4 fun g hg e => h8.2.1 (by rw [hg, e])
 ·intro i m hi
  rcases Nat.lt_or_ge i Ds.length with hil | hil
  ·rw [Zl hil] at hi
   obtain ⟨b', hb', hd'⟩ := h5 i m hi
   refine ⟨b', by rw [Zl (by omega)]; exact hb', ?_⟩
   have hne : ¬ i = Ds.length := by omega
   simp only [if_neg hne]
   exact dsk2 hd' fun x hf => ⟨(h7 i x hil hf).1, (h7 i x hil hf).2.1⟩
  ·have hi0 : i = Ds.length := by
    have := (Zd.1 hi).1
    rw [hlen] at this; omega
   subst hi0
   rw [Zm (Nat.le_refl _), Nat.sub_self] at hi
   cases hi
   refine ⟨b, by rw [Zm (by omega), h4, Nat.sub_self]; rfl, ?_⟩
   simp only [if_true]
   exact dsk2 hd fun x hf => ⟨fun e => by have := hnew x hf; omega, fun e => by have := hnew x hf; have := p_lt x e; omega⟩
 ·intro i j x hi hj hfi hfj
  rw [hlen] at hi hj
  by_cases hii : i = Ds.length <;> by_cases hjj : j = Ds.length
  ·omega
  ·simp only [if_pos hii] at hfi; simp only [if_neg hjj] at hfj
   have := hnew x hfi; have := F_lt j x (by omega) hfj; omega
  ·simp only [if_neg hii] at hfi; simp only [if_pos hjj] at hfj
   have := hnew x hfj; have := F_lt i x (by omega) hfi; omega
  ·simp only [if_neg hii] at hfi; simp only [if_neg hjj] at hfj
   exact h6 i j x (by omega) (by omega) hfi hfj
 ·intro i x hi hf
  rw [hlen] at hi
  by_cases hii : i = Ds.length
  ·simp only [if_pos hii] at hf
   have := hnew x hf
   refine ⟨by omega, fun e => ?_, fun e => ?_⟩
   ·rcases hka x e with h | h
    ·have := p_lt x h; omega
    ·have := hd_lt x hf; omega
   ·have := q_lt x e; omega
  ·simp only [if_neg hii] at hf
   obtain ⟨g1, g2, g3⟩ := h7 i x (by omega) hf
   refine ⟨g1, fun e => ?_, g3⟩
   rcases hka x e with h | h
   ·exact g2 h
   ·have := F_lt i x (by omega) hf; omega
 ·intro x hp hb
  rcases hka x hp with h | h
  ·exact h8.2.2 x h hb
  ·have := q_lt x hb; omega
 ·intro x
  rw [hlen]
 ·refine Upd.trans (Upd.trans (Ext.upd (S := F) x2) (hu3.mono fun x hx hp => (h9 x).2 (.inr (.inl hp))) fun _ _ h => h) (hu4.mono fun x _ hx => (h9 x).2 (.inl hx)) fun _ _ h => h
 ·rintro x (rfl | hx | hx | ⟨i, hi, hx⟩)
  ·exact .inl ((h9 _).2 (.inl rfl))
  ·rcases hka x hx with h | h
   ·exact .inl ((h9 _).2 (.inr (.inl h)))
   ·exact .inr (by omega)
  ·exact .inl ((h9 _).2 (.inr (.inr (.inl hx))))
  ·by_cases hii : i = Ds.length
   ·simp only [if_pos hii] at hx
    exact .inr (hnew x hx)
   ·simp only [if_neg hii] at hx
    exact .inl ((h9 _).2 (.inr (.inr (.inr ⟨i, by omega, hx⟩))))
theorem QM.pushB (h : QM w1 r Ds B left off F) (n : Int) (hM : B.length <= 100) :
  ∃ p cB, w1.cell? ((at0 r).add 1) = some (.slice p B.length cB) /\ ∀ (k : Nat) (w2 : World), QU1 w1 k (.cells #[int i64 n] 3) w2 →
   ∃ p' c' w3, Sem.run prog (Builtin.append_ #[35, 35] 35 #[.slice p B.length cB, .slice (some (at0 k)) 1 1]) w2 = .ok (.slice p' (B.length + 1) c') w3 /\ QL1 w3 ((at0 r).add 1) ∧
    ∀ w4, QT w3 ((at0 r).add 1) (.slice p' (B.length + 1) c') w4 -> ∃ F', QM w4 r Ds (B ++ [n]) left off F' /\ Upd F w1 w4 /\ ∀ x, F' x -> F x \/ w1.heap.size <= x := by
 have hlt0 := h.lt
 obtain ⟨pD, cD, pB, cB, bs, Fs, h1, h2, h3, h4, h5, h6, h7, h8, h9⟩ := h
 refine ⟨pB, cB, h1.c rfl, fun k w2 hk => ?_⟩
 have hs0 := hk.ext.size
 have hksz := hk.size
 obtain ⟨p', c', w3, hr, own3, hu3, hka⟩ := Qk3 Qqb (by omega) h3 hk rfl (by omega)
 have p_lt : ∀ x, pD = some (at0 x) -> x < w1.heap.size := fun x hp => hlt0 x ((h9 x).2 (.inr (.inl hp)))
 have F_lt : ∀ i x, i < Ds.length -> Fs i x -> x < w1.heap.size := fun i x hi hf => hlt0 x ((h9 x).2 (.inr (.inr (.inr ⟨i, hi, hf⟩))))
 have r_lt : r < w1.heap.size := hlt0 r ((h9 r).2 (.inl rfl))
 have r3 := hu3.rowW (hk.ext.rowW h1 id) (fun e => h8.2.1 e)
 refine ⟨p', c', w3, hr, r3.live (by simp), fun w4 hs => ?_⟩
 have hu4 : Upd (fun x => x = r) w3 w4 := by
  have := hs.upd
  rw [Qr] at this
  exact this
 have hp'r : p' ≠ some (at0 r) := fun e => by
  rcases hka r e with h | h
  ·exact h8.2.1 h
  ·omega
 have hlen : (B ++ [n]).length = B.length + 1 := by simp
 refine ⟨fun x => x = r \/ pD = some (at0 x) \/ p' = some (at0 x) \/ ∃ i, i < Ds.length /\ Fs i x, ⟨pD, cD, p', c', bs, Fs, ?_, ?_, ?_, h4, ?_, h6, ?_, ⟨h8.1, hp'r, ?_⟩, ?_⟩, ?_, ?_⟩
 ·rw [hlen]; exact hs.row r3
 ·exact ((h2.ext hk.ext).upd hu3 fun g hg e => h8.2.2 g hg e).upd hu4 fun g hg e => h8.1 (by rw [hg, e])
 ·rw [hlen]
  have : QA6 (B ++ [n]) = QA6 B ++ [int i64 n] := by simp [QA6]
  rw [this]
  exact own3.upd hu4 fun g hg e => hp'r (by rw [hg, e])
 ·intro i m hi
  obtain ⟨b', hb', hd'⟩ := h5 i m hi
  have hil := (Zd.1 hi).1
  exact ⟨b', hb', ((hd'.ext hk.ext).upd hu3 fun x hx hf => (h7 i x hil hf).2.2 hx).upd hu4 fun x hx hf => (h7 i x hil hf).1 hx⟩
 ·intro i x hi hf
  obtain ⟨g1, g2, g3⟩ := h7 i x hi hf
  refine ⟨g1, g2, fun e => ?_⟩
  rcases hka x e with h | h
  ·exact g3 h
  ·have := F_lt i x hi hf; omega
 ·intro x hp hb
  rcases hka x hb with h | h
  ·exact h8.2.2 x hp h
  ·have := p_lt x hp; omega
 ·intro x; rfl
 ·refine Upd.trans (Upd.trans (Ext.upd (S := F) hk.ext) (hu3.mono fun x hx hp => (h9 x).2 (.inr (.inr (.inl hp)))) fun _ _ h => h) (hu4.mono fun x _ hx => (h9 x).2 (.inl hx)) fun _ _ h => h
 ·rintro x (rfl | hx | hx | ⟨i, hi, hx⟩)
  ·exact .inl ((h9 _).2 (.inl rfl))
  ·exact .inl ((h9 _).2 (.inr (.inl hx)))
  ·rcases hka x hx with h | h
   ·exact .inl ((h9 _).2 (.inr (.inr (.inl h))))
   ·exact .inr (by omega)
  ·exact .inl ((h9 _).2 (.inr (.inr (.inr ⟨i, hi, hx⟩))))
end
theorem QOe {n s : Int} (h : n < 1 \/ 32 < n) (w : World) : Calls prog 7 #[int i64 n, int i64 s] w fun e w' => e = .returned (.tuple #[.pointer none, int i64 1]) /\ w' = w := by
 refine (F7_calls n s w (fun v w' => v = .tuple #[.pointer none, int i64 1] /\ w' = w) (fun _ _ _ _ => False) (fun _ _ _ _ => 0) ?_).mono (by rintro e w' ⟨v, rfl, rfl, h⟩; exact ⟨rfl, h⟩)
 refine Q0 (fun _ => ⟨rfl, rfl⟩) (fun h1 => Q0 (fun _ => ⟨rfl, rfl⟩) (fun h2 => ?_))
 simp only [Zb] at h1 h2
 omega
theorem QT8 {n s : Int} (h : 1 <= n /\ n <= 32) (hs : 1 <= s /\ s <= 4096) (w : World) : Calls prog 7 #[int i64 n, int i64 s] w fun e w' => ∃ r F, e = .returned (.tuple #[.pointer (some (at0 r)), int i64 0]) /\ Ext w w' ∧
  QM w' r (List.replicate n.toNat ⟨s, [], [], false⟩) (List.replicate n.toNat 0) (-1) false F /\ ∀ x, F x -> w.heap.size <= x := by
 refine (F7_calls n s w (fun v w' => ∃ r F, v = .tuple #[.pointer (some (at0 r)), int i64 0] /\ Ext w w' /\ QM w' r (List.replicate n.toNat ⟨s, [], [], false⟩) (List.replicate n.toNat 0) (-1) false F /\ ∀ x, F x -> w.heap.size <= x)
  (fun p _ n6 w7 => ∃ (r i : Nat) (F : Nat -> Prop), p = some (at0 r) /\ n6 = i /\ i <= n.toNat /\ Ext w w7 /\ QM w7 r (List.replicate i ⟨s, [], [], false⟩) (List.replicate i 0) (-1) false F /\ ∀ x, F x -> w.heap.size <= x) (fun _ _ n6 _ => 32 - n6.toNat) ?_).mono (by
   rintro e w' ⟨v, rfl, r, F, rfl, h⟩; exact ⟨r, F, rfl, h⟩)
 refine Q0 (fun h1 => by simp only [Za] at h1; omega) (fun _ => Q0 (fun h1 => by simp only [Za] at h1; omega) (fun _ => ?_))
 intro k3 w4 hk
 refine ⟨⟨k3, 0, fun x => x = k3, rfl, rfl, Nat.zero_le _, hk.ext, ⟨none, 0, none, 0, [], fun _ _ => False, ⟨_, hk.at⟩, Qc.nil _ _ _ _, Qc.nil _ _ _ _, rfl, fun i m hi => by simp at hi, fun i j x hi _ _ _ => by simp at hi, fun i x hi _ => by simp at hi, ⟨by simp, by simp, fun x h => by cases h⟩, fun x => by simp⟩, ?_⟩, ?_⟩
 ·rintro x rfl
  rw [hk.size.1]; exact Nat.le_refl _
 rintro n6 w7 ⟨r, i, F, hp, rfl, hi, hx7, h7, hF⟩
 simp only [Zi, at0, Zv, and_true] at hp
 subst hp
 intros
 refine Q0 (fun hlt => ?_) (fun hge => ?_)
 ·simp only [Za] at hlt
  refine (Qkf hs w7).mono ?_
  rintro e w44 ⟨b, Fd, rfl, x44, hd, hFd⟩
  obtain ⟨p, cD, e1, hall⟩ := h7.pushD x44 hd hFd (by rw [List.length_replicate]; omega)
  rw [List.length_replicate] at e1 hall
  refine ⟨_, _, rfl, Q0 (fun h => by simp at h) fun _ => ⟨p, i, cD, e1, fun k49 w50 hk49 => ?_⟩⟩
  obtain ⟨p', c', w51, hr, hl, hset⟩ := hall k49 w50 hk49
  refine ⟨p', i + 1, c', w51, hr, hl, fun w53 hs53 => ?_⟩
  obtain ⟨F1, hA1, hu1, hg1⟩ := hset w53 hs53
  obtain ⟨p2, cB, e2, hall2⟩ := hA1.pushB 0 (by rw [List.length_replicate]; omega)
  rw [List.length_replicate] at e2 hall2
  refine ⟨p2, i, cB, e2, fun k55 w56 hk55 => ?_⟩
  obtain ⟨p3, c3, w57, hr3, hl3, hset3⟩ := hall2 k55 w56 hk55
  refine ⟨p3, i + 1, c3, w57, hr3, hl3, fun w59 hs59 => ?_⟩
  obtain ⟨F2, hA2, hu2, hg2⟩ := hset3 w59 hs59
  rw [w64 (by omega)]
  have y53 : Ext w w53 := Upd.trans hx7 hu1 fun x hx hf => by have := hF x hf; omega
  have hF1 : ∀ x, F1 x -> w.heap.size <= x := fun x hx => by
   rcases hg1 x hx with h | h
   ·exact hF x h
   ·exact Zu hx7.size h
  refine ⟨⟨k3, i + 1, F2, rfl, by omega, by omega, Upd.trans y53 hu2 fun x hx hf => (by have := hF1 x hf; omega), ?_, fun x hx => ?_⟩, by show 32 - ((i : Int) + 1).toNat < 32 - (i : Int).toNat; omega⟩
  ·rw [List.replicate_succ', List.replicate_succ']; exact hA2
  ·rcases hg2 x hx with h | h
   ·exact hF1 x h
   ·exact Zu y53.size h
 ·simp only [Zb] at hge
  have : i = n.toNat := by omega
  subst this
  exact ⟨k3, F, rfl, hx7, h7, hF⟩
open Go Go.Vc
open Go.IntKind (i64)
open Go.Value (int)
open Go.Proofs.Tryz (prog)
def QR2 (s : StA) : List Dk := s.M.map (·.d)
def Qq2 (s : StA) : List Int := s.M.map (·.births)
def IsR (w : World) (r : Nat) (s : StA) (G : Nat -> Prop) : Prop := QM w r (QR2 s) (Qq2 s) s.left s.down G
theorem QY (s : StA) : (QR2 s).length = s.M.length := by simp [QR2]
theorem Q63 {s : StA} {i : Nat} {m : Mem} (h : s.M[i]? = some m) : (QR2 s)[i]? = some m.d := by simp [QR2, h]
theorem Qg8 {s : StA} {i : Nat} {m : Mem} (h : s.M[i]? = some m) : (Qq2 s)[i]? = some m.births := by simp [Qq2, h]
structure QH5 (w : World) (a r : Nat) (s : StA) (F G : Nat -> Prop) : Prop where
 arr : IsA w a s F
 ref : IsR w r s G
 dis : ∀ x, F x -> ¬ G x
theorem QH5.ext {w w' : World} {a r : Nat} {s : StA} {F G : Nat -> Prop} (h : QH5 w a r s F G) (hx : Ext w w') : QH5 w' a r s F G := ⟨Qb.ext h.arr hx, QM.ext h.ref hx, h.dis⟩
theorem QH5.both {w w1 w2 : World} {a r : Nat} {s s' : StA} {F F' G G' : Nat -> Prop} (h : QH5 w a r s F G) (hs : Qf F F' w w1) (hA : IsA w1 a s' F') (hs2 : Qf G G' w1 w2) (hR : IsR w2 r s' G') : QH5 w2 a r s' F' G' /\ Qf (fun x => F x \/ G x) (fun x => F' x \/ G' x) w w2 := by
 have gl := QM.lt h.ref
 have fl := Qb.lt hA
 have d1 : ∀ x, F' x -> ¬ G x := fun x hf hg => by
  rcases hs.grow x hf with h1 | h1
  ·exact h.dis x h1 hg
  ·have := gl x hg; omega
 have z := hs.upd.size
 refine ⟨⟨Qb.upd hA hs2.upd fun x hg hf => d1 x hf hg, hR, fun x hf hg => ?_⟩, ?_, ?_⟩
 ·rcases hs2.grow x hg with h1 | h1
  ·exact d1 x hf h1
  ·have := fl x hf; omega
 ·exact Upd.trans (hs.upd.mono fun x _ hx => .inl hx) (hs2.upd.mono (T := fun x => F x \/ G x) fun x _ hx => .inr hx) fun _ _ h => h
 ·rintro x (hx | hx)
  ·rcases hs.grow x hx with h1 | h1
   ·exact .inl (.inl h1)
   ·exact .inr h1
  ·rcases hs2.grow x hx with h1 | h1
   ·exact .inl (.inr h1)
   ·exact .inr (by omega)
theorem QH5.mid {w w1 : World} {a r : Nat} {s : StA} {F F' G : Nat -> Prop} (h : QH5 w a r s F G) (hs : Qf F F' w w1) : IsR w1 r s G := QM.upd h.ref hs.upd fun x hf => h.dis x hf
section
variable {w : World} {a r : Nat} {s : StA} {F G : Nat -> Prop}
def QMc (s : StA) (d n : Int) (l : Nat) : Int := if s.down then 130 else if 0 <= d then match s.M[d.toNat]? with
 | some m => Qj m.d n l
 | none => 1 else 1
theorem QD9 {d : Int} (h : ¬ (0 <= d /\ d < s.M.length)) (h0 : 0 <= d) : s.M[d.toNat]? = none := Zr (by omega)
theorem QQc (h : IsA w a s F) (ho : OkA s) (d n : Int) {p : σ} {l c : Nat} {b : τ} (hb : Q3 w p l b) :
  Calls prog 39 #[.pointer (some (at0 a)), int i64 d, int i64 n, .slice p l c] w fun e w' => ∃ F', e = .returned (int i64 (QMc s d n b.length)) /\ Qf F F' w w' /\ IsA w' a (QL s d n b) F' := by
 obtain ⟨M, left, down⟩ := s
 cases down with
 | true =>
  refine (Q13 h d n p l c).mono ?_
  rintro e w' ⟨rfl, rfl⟩
  exact ⟨F, rfl, Qf.refl _ _, by simpa [QL] using h⟩
 | false =>
  by_cases hr : 0 <= d /\ d < M.length
  ·obtain ⟨i, m, rfl, hm⟩ := QM0 hr
   refine (Q23 h ho.2 hm n hb).mono ?_
   rintro e w' ⟨F', rfl, hs, h'⟩
   refine ⟨F', by simp [QMc, hm], hs, ?_⟩
   have : QL ⟨M, left, false⟩ (i : Int) n b = ⟨M.set i { m with d := Q30 m.d n b }, if Qj m.d n b.length = 0 /\ 0 < left then left - 1 else left, decide (Qj m.d n b.length = 0 /\ left = 1)⟩ := by
    unfold QL
    simp [hm]
   rw [this]; exact h'
  ·refine (QJ5 h hr n p l c).mono ?_
   rintro e w' ⟨rfl, rfl⟩
   have hn : 0 <= d -> M[d.toNat]? = none := fun h0 => Zr (by omega)
   refine ⟨F, ?_, Qf.refl _ _, ?_⟩
   ·unfold QMc
    by_cases h0 : 0 <= d
    ·simp [h0, hn h0]
    ·simp [h0]
   ·have : QL ⟨M, left, false⟩ d n b = ⟨M, left, false⟩ := by
     unfold QL
     by_cases h0 : 0 <= d
     ·simp [h0, hn h0]
     ·simp [h0]
    rw [this]; exact h
theorem Qq6 (h : IsR w r s G) (ho : OkA s) (d n : Int) {p : σ} {l c : Nat} {b : τ} (hb : Q3 w p l b) :
  Calls prog 57 #[.pointer (some (at0 r)), int i64 d, int i64 n, .slice p l c] w fun e w' => ∃ G', e = .returned (int i64 (QMc s d n b.length)) /\ Qf G G' w w' /\ IsR w' r (QL s d n b) G' := by
 obtain ⟨M, left, down⟩ := s
 cases down with
 | true =>
  refine (QE7 h d n p l c).mono ?_
  rintro e w' ⟨rfl, rfl⟩
  exact ⟨G, rfl, Qf.refl _ _, by simpa [QL] using h⟩
 | false =>
  by_cases hr : 0 <= d /\ d < M.length
  ·obtain ⟨i, m, rfl, hm⟩ := QM0 hr
   refine (Qgd h ho.2 (Q63 (s := ⟨M, left, false⟩) hm) n hb).mono ?_
   rintro e w' ⟨F', rfl, hs, h'⟩
   refine ⟨F', by simp [QMc, hm], hs, ?_⟩
   have : QL ⟨M, left, false⟩ (i : Int) n b = ⟨M.set i { m with d := Q30 m.d n b }, if Qj m.d n b.length = 0 /\ 0 < left then left - 1 else left, decide (Qj m.d n b.length = 0 /\ left = 1)⟩ := by
    unfold QL
    simp [hm]
   rw [this]
   have e1 : QR2 ⟨M.set i { m with d := Q30 m.d n b }, if Qj m.d n b.length = 0 /\ 0 < left then left - 1 else left, decide (Qj m.d n b.length = 0 /\ left = 1)⟩ = (QR2 ⟨M, left, false⟩).set i (Q30 m.d n b) := by
    simp [QR2, List.map_set]
   have e2 : Qq2 ⟨M.set i { m with d := Q30 m.d n b }, if Qj m.d n b.length = 0 /\ 0 < left then left - 1 else left, decide (Qj m.d n b.length = 0 /\ left = 1)⟩ = Qq2 ⟨M, left, false⟩ := by
    apply List.ext_getElem?
    intro j
    simp only [Qq2, Zq, List.getElem?_set]
    by_cases hij : i = j
    ·subst hij
     have hl := (Zd.1 hm).1
     have hmi : M[i] = m := (Zd.1 hm).2
     simp [hl, hmi]
    ·simp [hij]
   unfold IsR
   rw [e1, e2]; exact h'
  ·refine (QF7 h (by rw [QY]; exact hr) n p l c).mono ?_
   rintro e w' ⟨rfl, rfl⟩
   have hn : 0 <= d -> M[d.toNat]? = none := fun h0 => Zr (by omega)
   refine ⟨G, ?_, Qf.refl _ _, ?_⟩
   ·unfold QMc
    by_cases h0 : 0 <= d
    ·simp [h0, hn h0]
    ·simp [h0]
   ·have : QL ⟨M, left, false⟩ d n b = ⟨M, left, false⟩ := by
     unfold QL
     by_cases h0 : 0 <= d
     ·simp [h0, hn h0]
     ·simp [h0]
    rw [this]; exact h
def inA (s : StA) (d : Int) : Prop := 0 <= d /\ d < s.M.length
instance (s : StA) (d : Int) : Decidable (inA s d) := inferInstanceAs (Decidable (_ /\ _))
theorem Qc5 {i : Nat} {m : Mem} (f : Mem -> Mem) (hm : s.M[i]? = some m) : QR2 (Qk0 s (i : Int) f) = (QR2 s).set i (f m).d /\ Qq2 (Qk0 s (i : Int) f) = (Qq2 s).set i (f m).births /\ (Qk0 s (i : Int) f).left = s.left /\ (Qk0 s (i : Int) f).down = s.down := by
 rw [Qv3 f rfl hm]
 refine ⟨by simp [QR2, List.map_set], by simp [Qq2, List.map_set], rfl, rfl⟩
theorem Q2e (h : IsR w r s G) (d : Int) : Calls prog 79 #[.pointer (some (at0 r)), int i64 d] w fun e w' => ∃ G', e = .returned (int i64 (if inA s d then 0 else 1)) /\ Qf G G' w w' ∧
  IsR w' r (Qk0 s d fun m => ⟨{ m.d with dead := true, lasts := [], waits := [] }, i64.wrap (m.births + 1)⟩) G' := by
 by_cases hr : inA s d
 ·obtain ⟨i, m, rfl, hm⟩ := QM0 hr
  refine (Qpe h (Q63 hm) (Qg8 hm)).mono ?_
  rintro e w' ⟨G', rfl, hs, h'⟩
  obtain ⟨e1, e2, e3, e4⟩ := Qc5 (fun m : Mem => ⟨{ m.d with dead := true, lasts := [], waits := [] }, i64.wrap (m.births + 1)⟩) hm
  refine ⟨G', by rw [if_pos hr], hs, ?_⟩
  unfold IsR
  rw [e1, e2, e3, e4]; exact h'
 ·refine (QS8 h (by rw [QY]; exact hr)).mono ?_
  rintro e w' ⟨rfl, rfl⟩
  exact ⟨G, by rw [if_neg hr], Qf.refl _ _, by rw [Qr1 _ hr]; exact h⟩
theorem Q1a (h : IsR w r s G) (d : Int) : Calls prog 81 #[.pointer (some (at0 r)), int i64 d] w fun e w' => ∃ G', e = .returned (int i64 (if inA s d then 0 else 1)) /\ Qf G G' w w' ∧
  IsR w' r (Qk0 s d fun m => ⟨{ m.d with dead := false, lasts := [], waits := [] }, i64.wrap (m.births + 1)⟩) G' := by
 by_cases hr : inA s d
 ·obtain ⟨i, m, rfl, hm⟩ := QM0 hr
  refine (Qya h (Q63 hm) (Qg8 hm)).mono ?_
  rintro e w' ⟨G', rfl, hs, h'⟩
  obtain ⟨e1, e2, e3, e4⟩ := Qc5 (fun m : Mem => ⟨{ m.d with dead := false, lasts := [], waits := [] }, i64.wrap (m.births + 1)⟩) hm
  refine ⟨G', by rw [if_pos hr], hs, ?_⟩
  unfold IsR
  rw [e1, e2, e3, e4]; exact h'
 ·refine (QD5 h (by rw [QY]; exact hr)).mono ?_
  rintro e w' ⟨rfl, rfl⟩
  exact ⟨G, by rw [if_neg hr], Qf.refl _ _, by rw [Qr1 _ hr]; exact h⟩
def QLe (s : StA) (d k : Int) : Int := if 0 <= d then match s.M[d.toNat]? with
 | some m => Qy m.d k
 | none => 1 else 1
theorem QZ9 (h : IsR w r s G) (d k t : Int) (y : UInt8) (ht : -9223372036854775808 <= t /\ t <= 9223372036854775807) :
  Calls prog 83 #[.pointer (some (at0 r)), int i64 d, int i64 k, int i64 t, .int .u8 (y.toNat : Int)] w fun e w' => ∃ G', e = .returned (int i64 (QLe s d k)) /\ Qf G G' w w' /\ IsR w' r (Qk0 s d fun m => { m with d := Qm m.d k t y }) G' := by
 by_cases hr : inA s d
 ·obtain ⟨i, m, rfl, hm⟩ := QM0 hr
  refine (Qxa h (Q63 hm) k t y ht).mono ?_
  rintro e w' ⟨G', rfl, hs, h'⟩
  obtain ⟨e1, e2, e3, e4⟩ := Qc5 (fun m : Mem => { m with d := Qm m.d k t y }) hm
  have e5 : (Qq2 s).set i m.births = Qq2 s := by
   apply List.ext_getElem?
   intro j
   rw [List.getElem?_set]
   by_cases hij : i = j
   ·subst hij
    have := Qg8 hm
    rw [if_pos rfl, if_pos (Zd.1 this).1, this]
   ·rw [if_neg hij]
  refine ⟨G', by simp [QLe, hm], hs, ?_⟩
  unfold IsR
  rw [e1, e2, e3, e4, e5]; exact h'
 ·refine (QC5 h (by rw [QY]; exact hr) k t _).mono ?_
  rintro e w' ⟨rfl, rfl⟩
  refine ⟨G, ?_, Qf.refl _ _, by rw [Qr1 _ hr]; exact h⟩
  unfold QLe
  by_cases h0 : 0 <= d
  ·simp [h0, QD9 hr h0]
  ·simp [h0]
end
open Go Go.Vc
open Go.IntKind (i64)
open Go.Value (int)
open Go.Proofs.Tryz (prog)
section
variable {w : World} {a r : Nat} {s : StA} {F G : Nat -> Prop}
theorem Q1e (h : IsA w a s F) (d : Int) : Calls prog 78 #[.pointer (some (at0 a)), int i64 d] w fun e w' => ∃ F', e = .returned (int i64 (if inA s d then 0 else 1)) /\ Qf F F' w w' ∧
  IsA w' a (Qk0 s d fun m => ⟨{ m.d with dead := true, lasts := [], waits := [] }, i64.wrap (m.births + 1)⟩) F' := by
 by_cases hr : inA s d
 ·obtain ⟨i, m, rfl, hm⟩ := QM0 hr
  refine (QU9 h hm).mono ?_
  rintro e w' ⟨F', rfl, hs, h'⟩
  exact ⟨F', by rw [if_pos hr], hs, by rw [Qv3 _ rfl hm]; exact h'⟩
 ·refine (Q0b h hr).mono ?_
  rintro e w' ⟨rfl, rfl⟩
  exact ⟨F, by rw [if_neg hr], Qf.refl _ _, by rw [Qr1 _ hr]; exact h⟩
theorem Q0a (h : IsA w a s F) (d : Int) : Calls prog 80 #[.pointer (some (at0 a)), int i64 d] w fun e w' => ∃ F', e = .returned (int i64 (if inA s d then 0 else 1)) /\ Qf F F' w w' ∧
  IsA w' a (Qk0 s d fun m => ⟨{ m.d with dead := false, lasts := [], waits := [] }, i64.wrap (m.births + 1)⟩) F' := by
 by_cases hr : inA s d
 ·obtain ⟨i, m, rfl, hm⟩ := QM0 hr
  refine (Qo6 h hm).mono ?_
  rintro e w' ⟨F', rfl, hs, h'⟩
  exact ⟨F', by rw [if_pos hr], hs, by rw [Qv3 _ rfl hm]; exact h'⟩
 ·refine (Qa7 h hr).mono ?_
  rintro e w' ⟨rfl, rfl⟩
  exact ⟨F, by rw [if_neg hr], Qf.refl _ _, by rw [Qr1 _ hr]; exact h⟩
theorem QY9 (h : IsA w a s F) (d k t : Int) (y : UInt8) (ht : -9223372036854775808 <= t /\ t <= 9223372036854775807) :
  Calls prog 82 #[.pointer (some (at0 a)), int i64 d, int i64 k, int i64 t, .int .u8 (y.toNat : Int)] w fun e w' => ∃ F', e = .returned (int i64 (QLe s d k)) /\ Qf F F' w w' /\ IsA w' a (Qk0 s d fun m => { m with d := Qm m.d k t y }) F' := by
 by_cases hr : inA s d
 ·obtain ⟨i, m, rfl, hm⟩ := QM0 hr
  refine (Qm6 h hm k t y ht).mono ?_
  rintro e w' ⟨F', rfl, hs, h'⟩
  exact ⟨F', by simp [QLe, hm], hs, by rw [Qv3 _ rfl hm]; exact h'⟩
 ·refine (Q67 h hr k t _).mono ?_
  rintro e w' ⟨rfl, rfl⟩
  refine ⟨F, ?_, Qf.refl _ _, by rw [Qr1 _ hr]; exact h⟩
  unfold QLe
  by_cases h0 : 0 <= d
  ·simp [h0, QD9 hr h0]
  ·simp [h0]
def Q48 (s : StA) (d n : Int) : Int × τ := if s.down then (130, []) else if 0 <= d then match s.M[d.toNat]? with
 | some m => (Qe m.d.dead m.d.sectors n, if Qe m.d.dead m.d.sectors n = 0 then Ql1 m.d n else [])
 | none => (1, []) else (1, [])
theorem Q3e (h : IsA w a s F) (d n : Int) : Calls prog 42 #[.pointer (some (at0 a)), int i64 d, int i64 n] w fun e w' => Ext w w' /\ ∃ p l c, e = .returned (.tuple #[.slice p l c, int i64 (Q48 s d n).1]) /\ Q3 w' p l (Q48 s d n).2 /\ l <= 4108 := by
 obtain ⟨M, left, down⟩ := s
 cases down with
 | true =>
  refine (QI3 h d n).mono ?_
  rintro e w' ⟨rfl, rfl⟩
  exact ⟨Upd.refl _ _, none, 0, 0, rfl, Q3.nil _ _, by omega⟩
 | false =>
  by_cases hr : 0 <= d /\ d < M.length
  ·obtain ⟨i, m, rfl, hm⟩ := QM0 hr
   refine (QJ3 h hm n).mono ?_
   rintro e w' ⟨hx, p, l, c, bs, rfl, hbs, rfl, ho, hl⟩
   have e1 : Q48 ⟨M, left, false⟩ (i : Int) n = (Qe m.d.dead m.d.sectors n, bs) := by simp [Q48, hm, hbs]
   rw [e1]
   exact ⟨hx, p, _, c, rfl, Q3.of_cells ho.cells, hl⟩
  ·refine (Q5b h hr n).mono ?_
   rintro e w' ⟨rfl, rfl⟩
   have e1 : Q48 ⟨M, left, false⟩ d n = (1, []) := by
    unfold Q48
    by_cases h0 : 0 <= d
    ·have hn : M[d.toNat]? = none := Zr (by omega)
     simp [h0, hn]
    ·simp [h0]
   rw [e1]
   exact ⟨Upd.refl _ _, none, 0, 0, rfl, Q3.nil _ _, by omega⟩
theorem Qd8 (h : IsR w r s G) (d n : Int) : Calls prog 60 #[.pointer (some (at0 r)), int i64 d, int i64 n] w fun e w' => Ext w w' /\ ∃ p l c, e = .returned (.tuple #[.slice p l c, int i64 (Q48 s d n).1]) /\ Q3 w' p l (Q48 s d n).2 /\ l <= 4108 := by
 obtain ⟨M, left, down⟩ := s
 cases down with
 | true =>
  refine (QU8 h d n).mono ?_
  rintro e w' ⟨rfl, rfl⟩
  exact ⟨Upd.refl _ _, none, 0, 0, rfl, Q3.nil _ _, by omega⟩
 | false =>
  by_cases hr : 0 <= d /\ d < M.length
  ·obtain ⟨i, m, rfl, hm⟩ := QM0 hr
   refine (Qre h (Q63 (s := ⟨M, left, false⟩) hm) n).mono ?_
   rintro e w' ⟨hx, p, l, c, bs, rfl, hbs, hb, hl⟩
   have e1 : Q48 ⟨M, left, false⟩ (i : Int) n = (Qe m.d.dead m.d.sectors n, bs) := by simp [Q48, hm, hbs]
   rw [e1]
   exact ⟨hx, p, _, c, rfl, hb, hl⟩
  ·refine (QV8 h (by rw [QY]; exact hr) n).mono ?_
   rintro e w' ⟨rfl, rfl⟩
   have e1 : Q48 ⟨M, left, false⟩ d n = (1, []) := by
    unfold Q48
    by_cases h0 : 0 <= d
    ·have hn : M[d.toNat]? = none := Zr (by omega)
     simp [h0, hn]
    ·simp [h0]
   rw [e1]
   exact ⟨Upd.refl _ _, none, 0, 0, rfl, Q3.nil _ _, by omega⟩
theorem Qfa (s : StA) : QR2 { s with M := Q50 s.M.length s.M } = Qv0 (QR2 s).length (QR2 s) /\ Qq2 { s with M := Q50 s.M.length s.M } = Qq2 s := by
 constructor
 ·apply List.ext_getElem?
  intro j
  simp only [QR2, Qv0, Q50, Zq, List.getElem?_mapIdx, List.length_map]
  cases s.M[j]? with
  | none => rfl
  | some m =>
   simp only [Option.map_some]
   split <;> rfl
 ·apply List.ext_getElem?
  intro j
  simp only [Qq2, Q50, Zq, List.getElem?_mapIdx]
  cases s.M[j]? with
  | none => rfl
  | some m =>
   simp only [Option.map_some]
   split <;> rfl
theorem Qaa (s : StA) (KS : List (List Int)) (l : Int) (dn : Bool) : QR2 ⟨Qj0 KS s.M.length s.M, l, dn⟩ = Qp0 KS (QR2 s).length (QR2 s) /\ Qq2 ⟨Qj0 KS s.M.length s.M, l, dn⟩ = Qq2 s := by
 constructor
 ·apply List.ext_getElem?
  intro j
  simp only [QR2, Qp0, Qj0, Zq, List.getElem?_mapIdx, List.length_map]
  cases s.M[j]? with
  | none => rfl
  | some m =>
   simp only [Option.map_some]
   split <;> rfl
 ·apply List.ext_getElem?
  intro j
  simp only [Qq2, Qj0, Zq, List.getElem?_mapIdx]
  cases s.M[j]? with
  | none => rfl
  | some m =>
   simp only [Option.map_some]
   split <;> rfl
theorem QPc (h : IsA w a s F) (ho : OkA s) : Calls prog 41 #[.pointer (some (at0 a))] w fun e w' => ∃ F', e = .returned (int i64 (if s.down then 130 else 0)) /\ Qf F F' w w' /\ IsA w' a (if s.down then s else { s with M := Q50 s.M.length s.M }) F' := by
 obtain ⟨M, left, down⟩ := s
 cases down with
 | true =>
  refine (QQ4 h).mono ?_
  rintro e w' ⟨rfl, rfl⟩
  exact ⟨F, rfl, Qf.refl _ _, h⟩
 | false =>
  refine (QR4 h (by have h2 : M.length <= 32 := ho.1; show M.length <= 100; omega)).mono ?_
  rintro e w' ⟨F', rfl, hs, h'⟩
  exact ⟨F', rfl, hs, h'⟩
theorem Qz4 (h : IsR w r s G) (ho : OkA s) : Calls prog 59 #[.pointer (some (at0 r))] w fun e w' => ∃ G', e = .returned (int i64 (if s.down then 130 else 0)) /\ Qf G G' w w' /\ IsR w' r (if s.down then s else { s with M := Q50 s.M.length s.M }) G' := by
 have hf := Qfa s
 cases hd : s.down with
 | true =>
  have h1 : QM w r (QR2 s) (Qq2 s) s.left s.down G := h
  rw [hd] at h1
  refine (QD7 h1).mono ?_
  rintro e w' ⟨rfl, rfl⟩
  exact ⟨G, rfl, Qf.refl _ _, h⟩
 | false =>
  have h1 : QM w r (QR2 s) (Qq2 s) s.left s.down G := h
  rw [hd] at h1
  refine (Qfd h1 (by rw [QY]; have := ho.1; omega)).mono ?_
  rintro e w' ⟨G', rfl, hs, h'⟩
  refine ⟨G', rfl, hs, ?_⟩
  have e1 : QR2 ⟨Q50 s.M.length s.M, s.left, false⟩ = Qv0 (QR2 s).length (QR2 s) := hf.1
  have e2 : Qq2 ⟨Q50 s.M.length s.M, s.left, false⟩ = Qq2 s := hf.2
  show QM w' r (QR2 ⟨Q50 s.M.length s.M, s.left, false⟩) (Qq2 ⟨Q50 s.M.length s.M, s.left, false⟩) s.left false G'
  rw [e1, e2]
  exact h'
end
open Go Go.Vc
open Go.IntKind (i64)
open Go.Value (int)
open Go.Proofs.Tryz (prog)
theorem QSc {w0 w : World} {a r : Nat} {s : StA} {F G : Nat -> Prop} (h : QH5 w a r s F G) (ho : OkA s) (hx : Ext w0 w) (hF : ∀ x, F x -> w0.heap.size <= x) (hG : ∀ x, G x -> w0.heap.size <= x) {c : QS9} {p5 : σ} {l5 c5 : Nat} {p6 : σ} {l6 c6 : Nat}
  (hb : Q3 w0 p5 l5 c.b) (hk : l6 = c.keep.length /\ ∀ i ks, c.keep[i]? = some ks -> ∃ a q n c, p6 = some a /\ w0.cell? (a.add (i * 1)) = some (.slice q n c) /\ Ql w0 q n ks)
  (hm : -9223372036854775808 <= c.m /\ c.m <= 9223372036854775807) (hs : ∀ ks ∈ c.keep, ks.length <= 9223372036854775807) :
  Calls prog 30 #[.pointer (some (at0 a)), .pointer (some (at0 r)), .agg #[int i64 c.kind, int i64 c.d, int i64 c.n, int i64 c.m, .int .u8 (c.y.toNat : Int), .slice p5 l5 c5, .slice p6 l6 c6]] w fun e w' => e = .returned (.bool true) ∧
   ∃ F' G', QH5 w' a r (Qi1 s c) F' G' /\ Qf (fun x => F x \/ G x) (fun x => F' x \/ G' x) w w' := by
 refine (F30_calls (some (at0 a)) (some (at0 r)) c.kind c.d c.n c.m (c.y.toNat : Int) p5 l5 c5 p6 l6 c6 w (fun v w' => v = .bool true /\ ∃ F' G', QH5 w' a r (Qi1 s c) F' G' /\ Qf (fun x => F x \/ G x) (fun x => F' x \/ G' x) w w') ?_).mono (by
  rintro e w' ⟨v, rfl, rfl, h⟩; exact ⟨rfl, h⟩)
 intro k10 w11 hk10
 have r11 : RowW w11 k10 #[int i64 c.kind, int i64 c.d, int i64 c.n, int i64 c.m, .int .u8 (c.y.toNat : Int), .slice p5 l5 c5, .slice p6 l6 c6] := ⟨_, hk10.at⟩
 have x11 := hk10.ext
 have h11 := h.ext x11
 have kF : ¬ F k10 := fun hf => by have := Qb.lt h.arr _ hf; have := hk10.size.1; omega
 have kG : ¬ G k10 := fun hf => by have := QM.lt h.ref _ hf; have := hk10.size.1; omega
 have fin : ∀ {w1 w2 : World} {s' : StA} {F' G' : Nat -> Prop}, Ext w w1 -> QH5 w1 a r s F G -> ∀ {w3 : World}, Qf F F' w1 w3 -> IsA w3 a s' F' -> Qf G G' w3 w2 -> IsR w2 r s' G' -> ∃ F' G', QH5 w2 a r s' F' G' /\ Qf (fun x => F x \/ G x) (fun x => F' x \/ G' x) w w2 := by
  intro w1 w2 s' F' G' hx1 hp w3 hs1 hA hs2 hR
  obtain ⟨p, st⟩ := hp.both hs1 hA hs2 hR
  exact ⟨F', G', p, (Qf.ext hx1).trans st⟩
 refine ⟨_, r11.c rfl, Q0 (fun k1 => ?_) (fun k1 => Q0 (fun k2 => ?_) (fun k2 => Q0 (fun k3 => ?_) (fun k3 => Q0 (fun k4 => ?_) (fun k4 => Q0 (fun k5 => ?_) (fun k5 => Q0 (fun k6 => ?_) (fun k6 => Q0 (fun k7 => ?_) (fun k7 => Q0 (fun k8 => ?_) (fun k8 => ?_))))))))⟩ <;> simp only [Za, Zb] at *
 ·
  intro w13 hd
  have h13 := h11.ext hd.ext
  have x13 := x11.trans hd.ext
  have r13 : RowW w13 k10 _ := hd.ext.rowW r11 id
  refine ⟨_, r13.c rfl, _, r13.c rfl, _, _, _, r13.c rfl, _, r13.c rfl, _, r13.c rfl, _, _, _, r13.c rfl, ?_⟩
  refine (QQc h13.arr ho c.d c.n (hb.ext (hx.trans x13))).mono ?_
  rintro e w20 ⟨F', rfl, hs1, hA⟩
  have r20 : RowW w20 k10 _ := hs1.upd.rowW r13 kF
  have hb20 : Q3 w20 p5 l5 c.b := (hb.ext (hx.trans x13)).upd hs1.upd fun ap ha hne hf => by
   obtain ⟨a', ha', hlt⟩ := hb.lt hne
   rw [ha] at ha'; cases ha'
   have := hF _ hf; omega
  refine ⟨_, rfl, ⟨_, r20.c rfl, rfl⟩, ⟨_, r20.c rfl, rfl⟩, ⟨_, _, _, r20.c rfl, rfl⟩, ?_⟩
  refine (Qq6 (h13.mid hs1) ho c.d c.n hb20).mono ?_
  rintro e w26 ⟨G', rfl, hs2, hR⟩
  refine ⟨_, rfl, by simp, ?_⟩
  have e1 : Qi1 s c = QL s c.d c.n c.b := by unfold Qi1; rw [if_pos k1]
  rw [e1]
  exact fin x13 h13 hs1 hA hs2 hR
 ·
  refine ⟨_, r11.c rfl, _, r11.c rfl, ?_⟩
  refine (Q3e h11.arr c.d c.n).mono ?_
  rintro e w31 ⟨x31, p, l, c', rfl, hb1, hl1⟩
  have r31 : RowW w31 k10 _ := x31.rowW r11 id
  refine ⟨_, _, _, _, rfl, _, r31.c rfl, _, r31.c rfl, ?_⟩
  refine (Qd8 (h11.ext x31).ref c.d c.n).mono ?_
  rintro e w37 ⟨x37, q, l', c'', rfl, hb2, hl2⟩
  refine ⟨_, _, _, _, rfl, ?_⟩
  refine (QB3 (hb1.ext x37) hb2 (by omega)).mono ?_
  rintro e w41 ⟨rfl, hq⟩
  refine ⟨_, rfl, Q0 (fun _ => ⟨by simp, ?_⟩) (fun h => by simp at h)⟩
  have xx := ((x11.trans x31).trans x37).trans hq.ext
  have e1 : Qi1 s c = s := by unfold Qi1; simp [k2]
  rw [e1]
  exact ⟨F, G, h.ext xx, Qf.ext xx⟩
 ·
  refine (QPc h11.arr ho).mono ?_
  rintro e w44 ⟨F', rfl, hs1, hA⟩
  refine ⟨_, rfl, (Qz4 (h11.mid hs1) ho).mono ?_⟩
  rintro e w47 ⟨G', rfl, hs2, hR⟩
  refine ⟨_, rfl, by simp, ?_⟩
  have e1 : Qi1 s c = (if s.down then s else { s with M := Q50 s.M.length s.M }) := by unfold Qi1; simp [k3]
  rw [e1]
  exact fin x11 h11 hs1 hA hs2 hR
 ·
  refine ⟨_, r11.c rfl, (QV9 h11.arr c.n).mono ?_⟩
  rintro e w51 ⟨rfl, hs1, hA⟩
  have r51 : RowW w51 k10 _ := hs1.upd.rowW r11 kF
  refine ⟨rfl, _, r51.c rfl, (Qed (h11.mid hs1) c.n).mono ?_⟩
  rintro e w54 ⟨rfl, hs2, hR⟩
  refine ⟨rfl, trivial, ?_⟩
  have e1 : Qi1 s c = ⟨s.M, if s.down then s.left else if c.n < -1 then -1 else c.n, if s.down then true else decide (c.n = 0)⟩ := by
   unfold Qi1
   rw [if_neg k1, if_neg k3, if_pos k4]
   obtain ⟨M, left, down⟩ := s
   cases down <;> rfl
  rw [e1]
  exact fin x11 h11 hs1 hA hs2 hR
 ·
  have e1 : Qi1 s c = ⟨Qj0 c.keep s.M.length s.M, -1, false⟩ := by unfold Qi1; rw [if_neg k1, if_neg k3, if_neg k4, if_pos k5]
  refine ⟨_, _, _, r11.c rfl, (Q29 (w0 := w0) h11.arr ho (hx.trans x11) hF hk hs).mono ?_⟩
  rintro e w57 ⟨F', rfl, hs1, hA⟩
  have r57 : RowW w57 k10 _ := hs1.upd.rowW r11 kF
  have hR57 := h11.mid hs1
  have hKA : Q64 w57 (fun x => x < w0.heap.size) p6 l6 c.keep := by
   have x011 := hx.trans x11
   have h0 : Q64 w11 (fun x => x < w0.heap.size) p6 l6 c.keep := by
    refine ⟨hk.1, fun i ks hi => ?_⟩
    obtain ⟨ap, q, n, cc, g1, g2, g3⟩ := hk.2 i ks hi
    have hn := g3.1
    have := hs ks (Zs hi)
    refine ⟨ap, q, n, cc, g1, ?_, Qm0 g2 x011, ⟨g3.1, g3.2.ext x011⟩, fun hne a' ha => QX5 g3 hne ha, by omega⟩
    have hb : (ap.add (i * 1)).block = ap.block := Qr _ _
    rw [← hb]
    exact Qi8 g2
   exact h0.upd hs1.upd fun x hx' hf => by have := hF x hf; omega
  have hd := Qaa s c.keep (-1) false
  refine ⟨rfl, _, _, _, r57.c rfl, (Qza hR57 (by rw [QY]; have := ho.1; omega) (fun x hx' hf => by have := hG x hf; omega) (fun x hx' hge => by have := (hx.trans x11).size; have := hs1.upd.size; omega) hKA (fun ks hks => by have := hs ks hks; omega)).mono ?_⟩
  rintro e w60 ⟨G', rfl, hs2, hR⟩
  refine ⟨rfl, trivial, ?_⟩
  rw [e1]
  refine fin x11 h11 hs1 hA hs2 ?_
  show QM w60 r (QR2 ⟨Qj0 c.keep s.M.length s.M, -1, false⟩) (Qq2 ⟨Qj0 c.keep s.M.length s.M, -1, false⟩) (-1) false G'
  rw [hd.1, hd.2]
  exact hR
 ·
  intro w62 hd
  have h62 := h11.ext hd.ext
  have x62 := x11.trans hd.ext
  have r62 : RowW w62 k10 _ := hd.ext.rowW r11 id
  refine ⟨_, r62.c rfl, _, r62.c rfl, (Q1e h62.arr c.d).mono ?_⟩
  rintro e w65 ⟨F', rfl, hs1, hA⟩
  have r65 : RowW w65 k10 _ := hs1.upd.rowW r62 kF
  refine ⟨_, rfl, ⟨_, r65.c rfl, rfl⟩, (Q2e (h62.mid hs1) c.d).mono ?_⟩
  rintro e w69 ⟨G', rfl, hs2, hR⟩
  refine ⟨_, rfl, by simp, ?_⟩
  have e1 : Qi1 s c = Qk0 s c.d fun m => ⟨{ m.d with dead := true, lasts := [], waits := [] }, i64.wrap (m.births + 1)⟩ := by unfold Qi1; rw [if_neg k1, if_neg k3, if_neg k4, if_neg k5, if_pos k6]
  rw [e1]
  exact fin x62 h62 hs1 hA hs2 hR
 ·
  intro w62 hd
  have h62 := h11.ext hd.ext
  have x62 := x11.trans hd.ext
  have r62 : RowW w62 k10 _ := hd.ext.rowW r11 id
  refine ⟨_, r62.c rfl, _, r62.c rfl, (Q0a h62.arr c.d).mono ?_⟩
  rintro e w65 ⟨F', rfl, hs1, hA⟩
  have r65 : RowW w65 k10 _ := hs1.upd.rowW r62 kF
  refine ⟨_, rfl, ⟨_, r65.c rfl, rfl⟩, (Q1a (h62.mid hs1) c.d).mono ?_⟩
  rintro e w69 ⟨G', rfl, hs2, hR⟩
  refine ⟨_, rfl, by simp, ?_⟩
  have e1 : Qi1 s c = Qk0 s c.d fun m => ⟨{ m.d with dead := false, lasts := [], waits := [] }, i64.wrap (m.births + 1)⟩ := by unfold Qi1; rw [if_neg k1, if_neg k3, if_neg k4, if_neg k5, if_neg k6, if_pos k7]
  rw [e1]
  exact fin x62 h62 hs1 hA hs2 hR
 ·
  intro w62 hd
  have h62 := h11.ext hd.ext
  have x62 := x11.trans hd.ext
  have r62 : RowW w62 k10 _ := hd.ext.rowW r11 id
  refine ⟨_, r62.c rfl, _, r62.c rfl, _, r62.c rfl, _, r62.c rfl, _, r62.c rfl, _, r62.c rfl, _, r62.c rfl, _, r62.c rfl, (QY9 h62.arr c.d c.n c.m c.y hm).mono ?_⟩
  rintro e w65 ⟨F', rfl, hs1, hA⟩
  have r65 : RowW w65 k10 _ := hs1.upd.rowW r62 kF
  refine ⟨_, rfl, ⟨_, r65.c rfl, rfl⟩, ⟨_, r65.c rfl, rfl⟩, ⟨_, r65.c rfl, rfl⟩, ⟨_, r65.c rfl, rfl⟩, (QZ9 (h62.mid hs1) c.d c.n c.m c.y hm).mono ?_⟩
  rintro e w69 ⟨G', rfl, hs2, hR⟩
  refine ⟨_, rfl, by simp, ?_⟩
  have e1 : Qi1 s c = Qk0 s c.d fun m => { m with d := Qm m.d c.n c.m c.y } := by unfold Qi1; rw [if_neg k1, if_neg k3, if_neg k4, if_neg k5, if_neg k6, if_neg k7, if_pos k8]
  rw [e1]
  exact fin x62 h62 hs1 hA hs2 hR
 ·have e1 : Qi1 s c = s := by unfold Qi1; rw [if_neg k1, if_neg k3, if_neg k4, if_neg k5, if_neg k6, if_neg k7, if_neg k8]
  rw [e1]
  exact ⟨trivial, F, G, h11, Qf.ext x11⟩
open Go Go.Vc
open Go.IntKind (i64)
open Go.Value (int)
open Go.Proofs.Tryz (prog)
theorem QKa {w : World} {a r : Nat} {s : StA} {F G : Nat -> Prop} (h : QH5 w a r s F G) (ho : OkA s) (h1 : 1 <= s.M.length) :
  Calls prog 10 #[.pointer (some (at0 a)), .pointer (some (at0 r))] w fun e w' => e = .returned (.bool true) /\ Ext w w' := by
 refine (F10_calls (some (at0 a)) (some (at0 r)) w (fun v w' => v = .bool true /\ Ext w w') (fun w n3 w4 => ∃ i : Nat, n3 = i /\ i <= s.M.length /\ Ext w w4) (fun _ n3 _ => 100 - n3.toNat) ?_).mono (by rintro e w' ⟨v, rfl, rfl, h⟩; exact ⟨rfl, h⟩)
 have hM : s.M.length <= 32 := ho.1
 refine ⟨⟨0, rfl, Nat.zero_le _, Upd.refl _ _⟩, ?_⟩
 rintro n3 w4 ⟨i, rfl, hi, x4⟩
 intros
 have h4 := h.ext x4
 obtain ⟨pD, cD, pB, cB, hr4⟩ := QM.row h4.ref
 rw [QY] at hr4
 refine ⟨_, _, _, hr4.c rfl, Q0 (fun hlt => ?_) (fun hge => ?_)⟩
 ·simp only [Za] at hlt
  intro w53 hd53
  obtain ⟨m, hm⟩ : ∃ m, s.M[i]? = some m := ⟨s.M[i]'(by omega), Zc _⟩
  have h53 := h4.ext hd53.ext
  obtain ⟨ap, cD', b, Fi, e0, e1, hd, _, _⟩ := QM.at h53.ref (Q63 hm)
  rw [QY] at e0
  obtain ⟨pL, lL, cL, pW, lW, cW, G', hrow, hL, hW⟩ := hd.row
  have hlen := Qf3 hd.ok hd.asc.1 hd.asc.2
  refine ⟨_, _, _, e0, ⟨by omega, hlt⟩, some (at0 b), by rw [Ze]; exact e1, _, _, _, hrow.c rfl, ?_⟩
  refine (Q88 h53.arr hm).mono ?_
  rintro e w60 ⟨p62, l62, c62, rfl, x60, hs60⟩
  have r60 : RowW w60 b _ := x60.rowW hrow id
  refine ⟨_, _, _, rfl, ⟨_, _, _, Qm0 e0 x60, rfl⟩, ⟨_, by rw [Ze]; exact Qm0 e1 x60, rfl⟩, ⟨_, _, _, r60.c rfl, rfl⟩, ?_⟩
  refine (Qd6 (hs60.read hlen.1) ((hL.ext x60).read hlen.1)).mono ?_
  rintro e w66 ⟨rfl, x66⟩
  refine ⟨_, rfl, fun w69 hd69 => ?_⟩
  have xx := (x60.trans x66).trans hd69.ext
  have h69 := h53.ext xx
  have r69 : RowW w69 b _ := xx.rowW hrow id
  refine ⟨_, _, _, Qm0 e0 xx, ⟨by omega, hlt⟩, some (at0 b), by rw [Ze]; exact Qm0 e1 xx, _, _, _, r69.c rfl, ?_⟩
  refine (Qb8 h69.arr hm).mono ?_
  rintro e w76 ⟨p78, l78, c78, rfl, x76, hs76⟩
  have r76 : RowW w76 b _ := x76.rowW r69 id
  refine ⟨_, _, _, rfl, ⟨_, _, _, Qm0 e0 (xx.trans x76), rfl⟩, ⟨_, by rw [Ze]; exact Qm0 e1 (xx.trans x76), rfl⟩, ⟨_, _, _, r76.c rfl, rfl⟩, ?_⟩
  refine (Qd6 (hs76.read hlen.2) ((hW.ext (xx.trans x76)).read hlen.2)).mono ?_
  rintro e w82 ⟨rfl, x82⟩
  refine ⟨_, rfl, Q0 (fun h => by simp at h) fun _ => Q0 (fun h => by simp at h) fun _ => ?_⟩
  rw [w64 (by omega)]
  exact ⟨⟨i + 1, by omega, by omega, (((x4.trans hd53.ext).trans xx).trans x76).trans x82⟩, by show 100 - ((i : Int) + 1).toNat < 100 - (i : Int).toNat; omega⟩
 ·refine (Qr3 h4.arr (by omega)).mono ?_
  rintro e w85 ⟨pl, ll, cl, rfl, x85, rfl, hol⟩
  refine ⟨_, _, _, rfl, ?_⟩
  have h85 := h4.ext x85
  refine (Qqe h85.ref (by rw [QY]; omega)).mono ?_
  rintro e w88 ⟨pl2, ll2, cl2, rfl, x88, rfl, hol2⟩
  refine ⟨_, _, _, rfl, ?_⟩
  have hb1 : s.M.length = (s.M.map fun m => !m.d.dead).length /\ Q8 w88 pl ((s.M.map fun m => !m.d.dead).map Value.bool) := ⟨by simp, by
   have := hol.cells.ext x88
   simpa [List.map_map, Function.comp_def] using this⟩
  have hb2 : (QR2 s).length = (s.M.map fun m => !m.d.dead).length /\ Q8 w88 pl2 ((s.M.map fun m => !m.d.dead).map Value.bool) := ⟨by simp [QR2], by
   have := hol2.cells
   simpa [QR2, List.map_map, Function.comp_def] using this⟩
  refine (QK3 hb1 hb2 (by omega)).mono ?_
  rintro e w91 ⟨rfl, x91⟩
  refine ⟨_, rfl, fun w94 hd94 => ?_⟩
  have h94 := ((h85.ext x88).ext x91).ext hd94.ext
  obtain ⟨pD9, cD9, pB9, cB9, hr9⟩ := QM.row h94.ref
  refine ⟨_, _, _, hr9.c rfl, ?_⟩
  refine (Qe8 h94.arr (by omega)).mono ?_
  rintro e w97 ⟨pb, lb, cb, rfl, x97, rfl, hob⟩
  have r97 : RowW w97 r _ := x97.rowW hr9 id
  refine ⟨_, _, _, rfl, ⟨_, _, _, r97.c rfl, rfl⟩, ?_⟩
  have hbl : (Qq2 s).length = s.M.length := by simp [Qq2]
  have hi1 : s.M.length = (Qq2 s).length /\ Q8 w97 pb ((Qq2 s).map (Value.int .i64)) := ⟨hbl.symm, by
   have := hob.cells
   simpa [Qq2, List.map_map, Function.comp_def] using this⟩
  have hi2 : (Qq2 s).length = (Qq2 s).length /\ Q8 w97 pB9 ((Qq2 s).map (Value.int .i64)) := by
   refine ⟨rfl, ?_⟩
   obtain ⟨pD, cD, pB, cB, bs, Fs, g1, _, g3, _⟩ := h94.ref
   have he : RowW w94 r #[.slice pD9 (QR2 s).length cD9, .slice pB9 (Qq2 s).length cB9, int i64 s.left, .bool s.down] := hr9
   have c1 : w94.cell? ((at0 r).add 1) = some (.slice pB9 (Qq2 s).length cB9) := he.c rfl
   have c2 : w94.cell? ((at0 r).add 1) = some (.slice pB (Qq2 s).length cB) := g1.c rfl
   rw [c1] at c2
   simp only [Zi, Value.slice.injEq] at c2
   rw [c2.1]
   exact (g3.ext x97).cells
  refine (QY5 hi1 hi2 (by omega)).mono ?_
  rintro e w101 ⟨rfl, x101⟩
  refine ⟨_, rfl, fun w104 hd104 => Q0 (fun _ => ?_) fun h => by simp at h⟩
  refine Q0 (fun _ => ?_) fun h => by simp at h
  have h104 := ((h94.ext x97).ext x101).ext hd104.ext
  obtain ⟨pDx, cDx, pBx, cBx, hrx⟩ := QM.row h104.ref
  refine ⟨_, hrx.c rfl, (QW0 h104.arr).mono ?_⟩
  rintro e w107 ⟨rfl, rfl⟩
  refine ⟨_, rfl, ⟨_, hrx.c rfl, rfl⟩, Q0 (fun _ => ?_) fun h => by simp at h⟩
  refine (QW9 h104.arr (i := -1) (by omega)).mono ?_
  rintro e w111 ⟨rfl, rfl⟩
  refine ⟨_, _, _, rfl, Q0 (fun _ => ?_) fun h => by simp at h⟩
  refine ⟨_, _, _, hrx.c rfl, (QX9 h104.arr (i := (((QR2 s).length : Nat) : Int)) (by rw [QY]; omega)).mono ?_⟩
  rintro e w116 ⟨rfl, rfl⟩
  exact ⟨_, _, _, rfl, by simp, ((((((x4.trans x85).trans x88).trans x91).trans hd94.ext).trans x97).trans x101).trans hd104.ext⟩
open Go Go.Vc
open Go.IntKind (i64)
open Go.Value (int)
open Go.Proofs.Tryz (prog)
end Go.Proofs.YtnfcfbljdibinaaGreat
