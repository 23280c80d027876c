import Derived.Test.YtkolafpgbhpdlaaGreatRepM
namespace Go.Vc
open Go
theorem MapOf.empty {κ : Type} [DecidableEq κ] {β : Type} {K : KE κ} {V V' : Value → β → Prop} {w : World} {m : Nat} (h : MapOf K V w m []) : MapOf K V' w m [] := by
 obtain ⟨es, c, l, hm, ⟨a1, a2, a3, a4⟩, hp⟩ := h
 have : l = [] := hp.eq_nil
 subst this
 have he : es.toList = [] := List.eq_nil_of_length_eq_zero a3.length
 exact ⟨es, c, [], hm, ⟨a1, a2, by rw [he]; exact .nil, a4⟩, .nil⟩
def leftIt (w : World) (it : Option Addr) (m : Nat) : Nat :=
 match it with
 | some a => match w.heap[a.block]? with
  | some (.mapIter _ _ seen _) => match w.heap[m]? with
   | some (.map es _) => (es.toList.filter fun e => !seen.contains e.born).length
   | _ => 0
  | _ => 0
 | none => 0
theorem ItOf.left {κ : Type} [DecidableEq κ] {β : Type} {K : KE κ} {V : Value → β → Prop} {w : World} {it m : Nat} {L rest : List (κ × β)} (h : ItOf K V w it m L rest) :
  leftIt w (some (at0 it)) m = rest.length := by
 obtain ⟨es, c, seen, last, ps, h1, h2, h3, h4, h5, h6, h7, h8⟩ := h
 unfold leftIt
 simp only [h1, h2]
 rw [← h8.length_eq, h3, List.length_map, List.filter_map, List.length_map]
 rfl
def OwnS (w : World) (base : Nat) (e : TypeId) (sz : Nat) (p : Option Addr) (n c : Nat) (xs : List Value) : Prop := w.ownsRow base e sz (.slice p n c) n xs
def CellsAt (w : World) (p : Option Addr) (xs : List Value) : Prop := ∀ j u, xs[j]? = some u → ∃ a, p = some a ∧ w.cell? (a.add j) = some u
theorem CellsAt.upd {S : Nat → Prop} {w w' : World} {p : Option Addr} {xs : List Value} (h : CellsAt w p xs) (hu : Upd S w w') (hS : ∀ a, p = some a → xs ≠ [] → ¬ S a.block) : CellsAt w' p xs := by
 intro j u hj
 obtain ⟨a, ha, hc⟩ := h j u hj
 exact ⟨a, ha, hu.cell hc (by rw [add_block]; exact hS a ha (by rintro rfl; simp at hj))⟩
theorem CellsAt.ext {w w' : World} {p : Option Addr} {xs : List Value} (h : CellsAt w p xs) (hu : Ext w w') : CellsAt w' p xs := h.upd hu fun _ _ _ => id
theorem CellsAt.drop {w : World} {a : Addr} {xs : List Value} (h : CellsAt w (some a) xs) (k : Nat) : CellsAt w (some (a.add k)) (xs.drop k) := by
 intro j u hj
 rw [List.getElem?_drop] at hj
 obtain ⟨b, hb, hc⟩ := h _ u hj
 cases hb
 exact ⟨_, rfl, by rw [add_add]; exact hc⟩
theorem CellsAt.take {w : World} {p : Option Addr} {xs : List Value} (h : CellsAt w p xs) (k : Nat) : CellsAt w p (xs.take k) := by
 intro j u hj
 rw [List.getElem?_take] at hj
 split at hj
 ·exact h j u hj
 ·cases hj
theorem CellsAt.nil (w : World) (p : Option Addr) : CellsAt w p [] := by intro j u hj; simp at hj
theorem OwnS.nil (w : World) (base : Nat) (e : TypeId) (sz : Nat) : OwnS w base e sz none 0 0 [] := World.ownsRow_nil w base e sz
theorem OwnS.length {w : World} {base : Nat} {e : TypeId} {sz : Nat} {p : Option Addr} {n c : Nat} {xs : List Value} (h : OwnS w base e sz p n c xs) : xs.length = n * sz := h.1
theorem OwnS.cells {w : World} {base : Nat} {e : TypeId} {sz : Nat} {p : Option Addr} {n c : Nat} {xs : List Value} (h : OwnS w base e sz p n c xs) : CellsAt w p xs := by
 intro j u hj
 rcases h.2 with ⟨hv, hn⟩ | ⟨g, cap, cur, hv, hb, hg, h1, h2, h3, h4⟩
 ·have := h.1
  rw [hn, Nat.zero_mul] at this
  rw [List.eq_nil_of_length_eq_zero this] at hj
  simp at hj
 ·simp only [Value.slice.injEq] at hv
  obtain ⟨rfl, _, rfl⟩ := hv
  refine ⟨_, rfl, ?_⟩
  have := World.ownsRow.cells h (g := g) rfl j u hj
  exact this
theorem OwnS.where_ {w : World} {base : Nat} {e : TypeId} {sz : Nat} {p : Option Addr} {n c : Nat} {xs : List Value} (h : OwnS w base e sz p n c xs) :
  (p = none ∧ n = 0 ∧ c = 0) ∨ ∃ g, p = some (at0 g) ∧ base ≤ g ∧ g < w.heap.size ∧ n ≤ c ∧ ∃ cur, w.heap[g]? = some (.cells cur e (0, 0)) ∧ cur.size = c * sz ∧ cur.toList.take (n * sz) = xs := by
 rcases h.2 with ⟨hv, hn⟩ | ⟨g, cap, cur, hv, hb, hg, h1, h2, h3, h4⟩
 ·simp only [Value.slice.injEq] at hv
  exact .inl ⟨hv.1, hn, hv.2.2⟩
 ·simp only [Value.slice.injEq] at hv
  obtain ⟨rfl, _, rfl⟩ := hv
  exact .inr ⟨g, rfl, hb, lt_of_heap hg, h1, cur, hg, h3, h4⟩
theorem OwnS.made {w w' : World} {g base : Nat} {e : TypeId} {sz : Nat} {cs : Array Value} {n c : Nat} (h : NewB w g (.cells cs e) w') (hb : base ≤ g) (hn : n ≤ c) (hc : c ≤ maxLen) (hs : cs.size = c * sz) :
  OwnS w' base e sz (some (at0 g)) n c (cs.toList.take (n * sz)) := by
 refine ⟨?_, .inr ⟨g, c, cs, rfl, hb, h.at, hn, hc, hs, rfl⟩⟩
 simp [hs]
 rw [Nat.min_eq_left hn]
theorem OwnS.upd {S : Nat → Prop} {w w' : World} {base : Nat} {e : TypeId} {sz : Nat} {p : Option Addr} {n c : Nat} {xs : List Value} (h : OwnS w base e sz p n c xs) (hu : Upd S w w')
  (hS : ∀ g, p = some (at0 g) → ¬ S g) : OwnS w' base e sz p n c xs := by
 refine ⟨h.1, ?_⟩
 rcases h.2 with hv | ⟨g, cap, cur, hv, hb, hg, h1⟩
 ·exact .inl hv
 ·simp only [Value.slice.injEq] at hv
  obtain ⟨rfl, _, rfl⟩ := hv
  exact .inr ⟨g, _, cur, rfl, hb, hu.keep hg (hS g rfl), h1⟩
theorem OwnS.ext {w w' : World} {base : Nat} {e : TypeId} {sz : Nat} {p : Option Addr} {n c : Nat} {xs : List Value} (h : OwnS w base e sz p n c xs) (hu : Ext w w') : OwnS w' base e sz p n c xs := h.upd hu fun _ _ => id
theorem OwnS.base_le {w : World} {base base' : Nat} {e : TypeId} {sz : Nat} {p : Option Addr} {n c : Nat} {xs : List Value} (h : OwnS w base e sz p n c xs) (hb : base' ≤ base) : OwnS w base' e sz p n c xs := by
 refine ⟨h.1, ?_⟩
 rcases h.2 with hv | ⟨g, cap, cur, hv, hb', h1⟩
 ·exact .inl hv
 ·exact .inr ⟨g, cap, cur, hv, Nat.le_trans hb hb', h1⟩
theorem OwnS.live {w : World} {base : Nat} {e : TypeId} {sz : Nat} {a : Addr} {n c : Nat} {xs : List Value} (h : OwnS w base e sz (some a) n c xs) {i : Nat} (hi : i < xs.length) : Live w (a.add i) := by
 rcases h.where_ with ⟨hn, _⟩ | ⟨g, hg, _, _, hnc, cur, hb, hs, ht⟩
 ·cases hn
 ·cases hg
  have hi2 : i < cur.size := by
   rw [← ht, List.length_take] at hi
   simp at hi; omega
  exact RowW.live ⟨e, hb⟩ hi2
theorem OwnS.set {w w' : World} {base : Nat} {e : TypeId} {sz : Nat} {a : Addr} {n c : Nat} {xs : List Value} (h : OwnS w base e sz (some a) n c xs) {i : Nat} {v : Value} (hs : SetC w (a.add i) v w') :
  OwnS w' base e sz (some a) n c (xs.set i v) ∧ Upd (fun b => b = a.block) w w' := by
 have hu : Upd (fun b => b = a.block) w w' := by
  have := hs.upd
  rw [add_block] at this
  exact this
 refine ⟨⟨by rw [List.length_set]; exact h.1, ?_⟩, hu⟩
 rcases h.2 with ⟨hv, _⟩ | ⟨g, cap, cur, hv, hb, hg, h1, h2, h3, h4⟩
 ·simp at hv
 ·simp only [Value.slice.injEq] at hv
  obtain ⟨hv1, _, rfl⟩ := hv
  simp only [Option.some.injEq] at hv1
  subst hv1
  have hat : w'.heap[g]? = some (.cells (cur.setIfInBounds i v) e (0, 0)) := by
   have hsp : ((⟨g, 0, none⟩ : Addr).add i) = ⟨g, i, none⟩ := add_at0 g i
   rw [hsp] at hs
   exact hs.at hg rfl
  refine .inr ⟨g, c, cur.setIfInBounds i v, rfl, hb, hat, h1, h2, by simp [h3], ?_⟩
  rw [Array.toList_setIfInBounds, ← h4, List.take_set]
structure ElemOf (P : Program) (t e : TypeId) (sz bytes : Nat) : Prop where
 ht : P.underlying t = some (.slice e)
 hi : ∃ i z, P.info? e = some i ∧ i.zero = some z ∧ i.size = sz ∧ i.bytes = bytes ∧ z.cells.size = sz
 pos : 0 < sz
theorem run_append_nilsrc {P : Program} {t e : TypeId} {sz bytes : Nat} (E : ElemOf P t e sz bytes) (ty : TypeId) (p : Option Addr) (n c : Nat) (hn : n ≤ c) (d : Nat) (w : World) :
  (Builtin.append_ #[t, t] ty #[.slice p n c, .slice none 0 d]).run P w = .ok (.slice p n c) w := by
 obtain ⟨i, z, hi, hz, hs, hb, hzs⟩ := E.hi
 have hso : (sizeOf e).run P w = .ok sz w := by simp [sizeOf, typeInfo, hi, hs]
 simp only [Builtin.append_, List.getElem?_toArray, List.getElem?_cons_zero, List.getElem?_cons_succ, Sem.run_bind, run_underlying' E.ht, Result.andThen, hso, Sem.run_pure]
 cases p <;> simp [Builtin.lenOf, hn, Builtin.firstCells, storeCells]
theorem OwnS.append {P : Program} {t e : TypeId} {sz bytes : Nat} (E : ElemOf P t e sz bytes) (ty : TypeId) {w : World} {base : Nat} {p : Option Addr} {n c : Nat} {xs : List Value} (h : OwnS w base e sz p n c xs)
  {q : Option Addr} {m d : Nat} {news : List Value} (hl : news.length = m * sz) (hq : CellsAt w q news) (hqn : q = none → m = 0) (h1 : ∀ u ∈ news, u.oneCell' = true) (h63 : n + m ≤ maxLen)
  (hbytes : (n + m) * bytes ≤ 140737488355328) (hbase : base ≤ w.heap.size) :
  ∃ p' c' w', (Builtin.append_ #[t, t] ty #[.slice p n c, .slice q m d]).run P w = .ok (.slice p' (n + m) c') w' ∧ OwnS w' base e sz p' (n + m) c' (xs ++ news) ∧
   Upd (fun b => p = some (at0 b)) w w' ∧ (p' = none ↔ p = none ∧ q = none ∨ p = none ∧ m = 0) := by
 have hnc : n ≤ c := by
  rcases h.where_ with ⟨_, rfl, rfl⟩ | ⟨g, _, _, _, h, _⟩
  ·exact Nat.le_refl _
  ·exact h
 cases q with
 | none =>
  obtain rfl := hqn rfl
  rw [Nat.zero_mul] at hl
  obtain rfl := List.eq_nil_of_length_eq_zero hl
  refine ⟨p, c, w, by rw [Nat.add_zero]; exact run_append_nilsrc E ty p n c hnc d w, by rw [List.append_nil]; exact h, Upd.refl _ _, by simp⟩
 | some a =>
  obtain ⟨i, z, hi, hz, hs, hb, hzs⟩ := E.hi
  have hq' : ∀ j u, news[j]? = some u → w.cell? (a.add j) = some u := by
   intro j u hj
   obtain ⟨a', ha, hc⟩ := hq j u hj
   cases ha; exact hc
  obtain ⟨v', w', hr, hown, hg, hnil⟩ := run_append_own w base t ty e i z sz bytes E.ht hi hz hs hb hzs E.pos _ n xs h a m d news hl hq' h1 h63 hbytes hbase
  have hv : ∃ p' c', v' = .slice p' (n + m) c' := by
   rcases hown.2 with ⟨hv, hn0⟩ | ⟨g, cap, cur, hv, _⟩
   ·exact ⟨none, 0, by rw [hv, hn0]⟩
   ·exact ⟨_, _, hv⟩
  obtain ⟨p', c', rfl⟩ := hv
  refine ⟨p', c', w', hr, hown, ⟨hg.os, hg.tape, hg.output, hg.size, fun b hb hS => hg.block b hb ?_⟩, ?_⟩
  ·intro e1
   apply hS
   rcases h.where_ with ⟨rfl, _⟩ | ⟨g, rfl, _⟩
   ·cases e1
   ·simp only [Value.ownBlock, Option.some.injEq] at e1
    rw [e1]
  ·constructor
   ·rintro rfl
    right
    have hn' : Value.slice none (n + m) c' = .slice none 0 0 := by
     rcases hown.2 with ⟨hv, _⟩ | ⟨g, cap, cur, hv, _⟩
     ·exact hv
     ·simp at hv
    have := hnil.1 hn'
    simp only [Value.slice.injEq] at this
    exact ⟨this.1.1, this.2⟩
   ·rintro (⟨_, h⟩ | ⟨rfl, rfl⟩)
    ·cases h
    ·have hn0 : n = 0 ∧ c = 0 := by
      rcases h.where_ with ⟨_, rfl, rfl⟩ | ⟨g, hx, _⟩
      ·exact ⟨rfl, rfl⟩
      ·cases hx
     obtain ⟨rfl, rfl⟩ := hn0
     have := hnil.2 ⟨rfl, rfl⟩
     simp only [Value.slice.injEq] at this
     exact this.1
def encB (bs : List UInt8) : List Value := bs.map fun b => .int .u8 (b.toNat : Int)
theorem encB_length (bs : List UInt8) : (encB bs).length = bs.length := by simp [encB]
theorem encB_one (bs : List UInt8) : ∀ u ∈ encB bs, u.oneCell' = true := by
 intro u hu
 obtain ⟨b, _, rfl⟩ := List.mem_map.1 hu
 rfl
theorem BytesAt.cells {w : World} {p : Option Addr} {n : Nat} {bs : List UInt8} (h : BytesAt w p n bs) : CellsAt w p (encB bs) := by
 intro j u hj
 simp only [encB, List.getElem?_map, Option.map_eq_some_iff] at hj
 obtain ⟨b, hb, rfl⟩ := hj
 have hlt : j < bs.length := (List.getElem?_eq_some_iff.1 hb).1
 obtain ⟨a, ha, hc⟩ := h.get (i := j) (by rw [h.1]; exact hlt)
 refine ⟨a, ha, ?_⟩
 rw [hc]
 simp [List.getD_eq_getElem?_getD, hb]
theorem BytesAt.of_cells {w : World} {p : Option Addr} {bs : List UInt8} (h : CellsAt w p (encB bs)) : BytesAt w p bs.length bs := by
 refine ⟨rfl, fun hn => ?_⟩
 have h0 : 0 < bs.length := List.length_pos_iff.2 hn
 obtain ⟨a, ha, _⟩ := h 0 _ (by simp [encB, h0] : (encB bs)[0]? = some (.int .u8 ((bs[0]).toNat : Int)))
 refine ⟨a, ha, fun i hi => ?_⟩
 obtain ⟨a', ha', hc⟩ := h i _ (by simp [encB, hi] : (encB bs)[i]? = some (.int .u8 ((bs[i]).toNat : Int)))
 rw [ha] at ha'
 cases ha'
 rw [hc]
 simp [List.getD_eq_getElem?_getD, hi]
abbrev SM := List (Int × List UInt8)
def ins (k : Int) (x : List UInt8) (L : SM) : SM := L.filter (fun y => decide (y.1 < k)) ++ (k, x) :: L.filter (fun y => decide (k < y.1))
def mrg (L W : SM) : SM := W.foldl (fun acc y => ins y.1 y.2 acc) L
def Asc (L : SM) : Prop := L.Pairwise fun a b => a.1 < b.1
theorem ins_perm (k : Int) (x : List UInt8) (L : SM) : (ins k x L).Perm ((k, x) :: del k L) := by
 refine List.perm_middle.trans (List.Perm.cons _ ?_)
 unfold del
 induction L with
 | nil => simp
 | cons y L ih =>
  by_cases h1 : y.1 < k
  ·rw [List.filter_cons_of_pos (by simpa using h1), List.filter_cons_of_neg (by simp; omega), List.filter_cons_of_pos (by simp; omega)]
   exact ih.cons _
  ·by_cases h2 : k < y.1
   ·rw [List.filter_cons_of_neg (by simpa using h1), List.filter_cons_of_pos (by simpa using h2), List.filter_cons_of_pos (by simp; omega)]
    exact List.perm_middle.trans (ih.cons _)
   ·rw [List.filter_cons_of_neg (by simpa using h1), List.filter_cons_of_neg (by simpa using h2), List.filter_cons_of_neg (by simp; omega)]
    exact ih
theorem ins_asc {k : Int} {x : List UInt8} {L : SM} (h : Asc L) : Asc (ins k x L) := by
 unfold Asc ins
 rw [List.pairwise_append]
 refine ⟨h.filter _, ?_, ?_⟩
 ·rw [List.pairwise_cons]
  exact ⟨fun y hy => by simpa using (List.mem_filter.1 hy).2, h.filter _⟩
 ·intro a ha b hb
  have h1 : a.1 < k := by simpa using (List.mem_filter.1 ha).2
  rcases List.mem_cons.1 hb with rfl | hb
  ·exact h1
  ·have h2 : k < b.1 := by simpa using (List.mem_filter.1 hb).2
   omega
theorem mrg_asc {L W : SM} (h : Asc L) : Asc (mrg L W) := by
 unfold mrg
 induction W generalizing L with
 | nil => exact h
 | cons y W ih => exact ih (ins_asc h)
theorem Asc.nodup {L : SM} (h : Asc L) : (L.map (·.1)).Nodup := by
 rw [List.Nodup, List.pairwise_map]
 exact h.imp fun h => by omega
theorem Asc.filter {L : SM} (h : Asc L) (p : Int × List UInt8 → Bool) : Asc (L.filter p) := List.Pairwise.filter p h
def over (L W : SM) : SM := W ++ L.filter fun y => decide (y.1 ∉ W.map (·.1))
theorem over_nil (L : SM) : over L [] = L := by simp [over]
theorem over_perm {L W W' : SM} (h : W.Perm W') : (over L W).Perm (over L W') := by
 unfold over
 refine h.append ?_
 have : (fun y : Int × List UInt8 => decide (y.1 ∉ W.map (·.1))) = fun y => decide (y.1 ∉ W'.map (·.1)) := by
  funext y
  have := (h.map (·.1)).mem_iff (a := y.1)
  simp only [this]
 rw [this]
theorem over_step {L W : SM} {k : Int} {x : List UInt8} (hk : k ∉ W.map (·.1)) : ((k, x) :: del k (over L W)).Perm (over L ((k, x) :: W)) := by
 unfold over del
 rw [List.filter_append]
 have h1 : W.filter (fun y => decide (y.1 ≠ k)) = W := by
  rw [List.filter_eq_self]
  intro y hy
  simp only [decide_eq_true_eq]
  rintro rfl
  exact hk (List.mem_map.2 ⟨y, hy, rfl⟩)
 rw [h1, List.filter_filter]
 have h2 : (L.filter fun y => decide (y.1 ≠ k) && decide (y.1 ∉ W.map (·.1))) = L.filter fun y => decide (y.1 ∉ ((k, x) :: W).map (·.1)) := by
  apply List.filter_congr
  intro y _
  simp only [List.map_cons, List.mem_cons, not_or]
  by_cases a : y.1 = k <;> by_cases b : y.1 ∈ W.map (·.1) <;> simp [a, b]
 rw [h2]
 exact .refl _
theorem mrg_perm {L W : SM} (hw : (W.map (·.1)).Nodup) : (mrg L W).Perm (over L W) := by
 have key : ∀ (W D : SM), ((D ++ W).map (·.1)).Nodup → ∀ M : SM, M.Perm (over L D) → (W.foldl (fun acc y => ins y.1 y.2 acc) M).Perm (over L (D ++ W)) := by
  intro W
  induction W with
  | nil => intro D _ M hM; simpa using hM
  | cons y W ih =>
   intro D hn M hM
   have hn' : ((D ++ [y] ++ W).map (·.1)).Nodup := by simpa using hn
   have hk : y.1 ∉ D.map (·.1) := by
    simp only [List.map_append, List.map_cons, List.nodup_append] at hn
    exact fun h => hn.2.2 _ h _ List.mem_cons_self rfl
   have := ih (D ++ [y]) hn' (ins y.1 y.2 M) (by
    refine (ins_perm _ _ _).trans ?_
    refine (((del_perm hM).cons _).trans (over_step hk)).trans (over_perm ?_)
    exact (List.perm_append_singleton _ _).symm)
   simpa using this
 have := key W [] (by simpa using hw) L (by rw [over_nil])
 simpa [mrg] using this
end Go.Vc
