/- Maps whose keys are structs: as the maps whose keys are plain. -/
import Derived.Test.YtphkmbkmjhbenaaRepS
namespace Go.Vc.SK
open Go

/-- how a map's keys are written -/
structure KS (κ : Type) [DecidableEq κ] where
  enc : κ → Value

section
variable {κ : Type} [DecidableEq κ] {β : Type} (K : KS κ) (V : Value → β → Prop)
def EntOk (e : MapEntry) (x : κ × β) : Prop := e.key = K.enc x.1 ∧ V e.val x.2

/-- the entries of a map, and what they hold -/
structure EsOk (es : Array MapEntry) (clock : Nat) (l : List (κ × β)) : Prop where
  born : ∀ e ∈ es.toList, e.born < clock
  nodup : (es.toList.map (·.born)).Nodup
  ents : All2 (EntOk K V) es.toList l
  keys : (l.map (·.1)).Nodup

/-- a map's block, and what it holds, in whatever order -/
def MapOf (w : World) (m : Nat) (L : List (κ × β)) : Prop :=
  ∃ es clock l, w.heap[m]? = some (.map es clock) ∧ EsOk K V es clock l ∧ l.Perm L
end

section
variable {κ : Type} [DecidableEq κ] {β : Type} {K : KS κ} {V : Value → β → Prop} {w w' : World} {m : Nat} {L : List (κ × β)}
theorem MapOf.mono {V' : Value → β → Prop} (h : MapOf K V w m L) (hv : ∀ v x, V v x → V' v x) : MapOf K V' w m L := by
  obtain ⟨es, c, l, hm, ⟨h1, h2, h3, h4⟩, hp⟩ := h
  exact ⟨es, c, l, hm, ⟨h1, h2, h3.mono fun e x h => ⟨h.1, hv _ _ h.2⟩, h4⟩, hp⟩
theorem MapOf.perm {M : List (κ × β)} (h : MapOf K V w m L) (hp : L.Perm M) : MapOf K V w m M := by
  obtain ⟨es, c, l, hm, hok, hp1⟩ := h
  exact ⟨es, c, l, hm, hok, hp1.trans hp⟩
theorem MapOf.lt (h : MapOf K V w m L) : m < w.heap.size := by
  obtain ⟨es, c, l, hm, _⟩ := h
  exact lt_of_heap hm
theorem MapOf.upd {S : Nat → Prop} (h : MapOf K V w m L) (hu : Upd S w w') (hS : ¬ S m) : MapOf K V w' m L := by
  obtain ⟨es, c, l, hm, hok, hp⟩ := h
  exact ⟨es, c, l, hu.keep hm hS, hok, hp⟩
theorem MapOf.nodup (h : MapOf K V w m L) : (L.map (·.1)).Nodup := by
  obtain ⟨es, c, l, hm, hok, hp⟩ := h
  exact (hp.map _).nodup_iff.1 hok.keys
theorem MapOf.made {t : World} {b : Nat} (h : NewB t b (.map #[] 0) w) : MapOf K V w b [] :=
  ⟨#[], 0, [], h.at, ⟨by simp, by simp, .nil, by simp⟩, .nil⟩
theorem MapOf.len (h : MapOf K V w m L) : mapLen w (.map (some m)) L.length := by
  obtain ⟨es, c, l, hm, hok, hp⟩ := h
  exact ⟨es, c, hm, by rw [← hp.length_eq, ← hok.ents.length]; simp⟩

/-- the keys of a type, as the operations ask of them -/
structure KeysOk (P : Program) (kt : TypeId) (K : KS κ) : Prop where
  check : ∀ b k w, (Instr.checkKey b 10000 kt (K.enc k)).run P w = .ok () w
  eq : ∀ a b w, (Op.equal kt (K.enc a) (K.enc b)).run P w = .ok (decide (a = b)) w
  kd : ∃ d, P.underlying kt = some d ∧ ∀ a b, Instr.sameNow d (K.enc a) (K.enc b) = none
  same : ∀ a, Instr.sameBits 10000 (K.enc a) (K.enc a) = true

theorem findAsking_spec {P : Program} {kt : TypeId} (hK : KeysOk P kt K) (w : World) (k : κ) : ∀ {es : List MapEntry} {l : List (κ × β)} (i : Nat), All2 (EntOk K V) es l →
    (get k l = none ∧ (Instr.findAsking kt (K.enc k) es i).run P w = .ok none w) ∨
    (∃ x j e pre post lpre lpost, get k l = some x ∧ es = pre ++ e :: post ∧ l = lpre ++ (k, x) :: lpost ∧ pre.length = j ∧ All2 (EntOk K V) pre lpre ∧ All2 (EntOk K V) post lpost ∧ EntOk K V e (k, x) ∧
      (∀ y ∈ lpre, y.1 ≠ k) ∧ (Instr.findAsking kt (K.enc k) es i).run P w = .ok (some (i + j, e.val)) w) := by
  intro es
  induction es with
  | nil =>
    intro l i h
    cases h
    exact .inl ⟨rfl, by simp [Instr.findAsking]⟩
  | cons e es ih =>
    intro l i h
    cases h with
    | @cons _ x _ ls h1 h2 =>
      obtain ⟨k', x⟩ := x
      have hn := hK.eq k k' w
      have h1' : e.key = K.enc k' := h1.1
      by_cases hk : k = k'
      · subst hk
        right
        refine ⟨x, 0, e, [], es, [], ls, by simp [get], rfl, rfl, rfl, .nil, h2, h1, by simp, ?_⟩
        simp [Instr.findAsking, h1', hn]
      · have hd : decide (k = k') = false := by simpa using hk
        rw [hd] at hn
        have hg : get k ((k', x) :: ls) = get k ls := by simp [get, Ne.symm hk]
        rw [hg]
        rcases ih (i + 1) h2 with ⟨h3, h4⟩ | ⟨x', j, e', pre, post, lpre, lpost, h3, rfl, rfl, rfl, h5, h6, h7, h8, h9⟩
        · exact .inl ⟨h3, by simp [Instr.findAsking, h1', hn, h4]⟩
        · right
          refine ⟨x', pre.length + 1, e', e :: pre, post, (k', x) :: lpre, lpost, h3, rfl, rfl, rfl, .cons h1 h5, h6, h7, ?_, ?_⟩
          · intro y hy
            rcases List.mem_cons.1 hy with rfl | hy
            · exact Ne.symm hk
            · exact h8 y hy
          · rw [show i + (pre.length + 1) = i + 1 + pre.length by omega]
            simp [Instr.findAsking, h1', hn, h9]

theorem findKey_spec {P : Program} {kt : TypeId} (hK : KeysOk P kt K) (w : World) (k : κ) {es : List MapEntry} {l : List (κ × β)} (h : All2 (EntOk K V) es l) :
    (get k l = none ∧ (Instr.findKey kt (K.enc k) es).run P w = .ok none w) ∨
    (∃ x j e pre post lpre lpost, get k l = some x ∧ es = pre ++ e :: post ∧ l = lpre ++ (k, x) :: lpost ∧ pre.length = j ∧ All2 (EntOk K V) pre lpre ∧ All2 (EntOk K V) post lpost ∧ EntOk K V e (k, x) ∧
      (∀ y ∈ lpre, y.1 ≠ k) ∧ (Instr.findKey kt (K.enc k) es).run P w = .ok (some (j, e.val)) w) := by
  obtain ⟨d, hd, hnone⟩ := hK.kd
  cases h with
  | nil =>
    left
    refine ⟨rfl, ?_⟩
    simp [Instr.findKey, run_underlying' hd, Instr.findNow]
  | @cons e x es ls h1 h2 =>
    have hask : (Instr.findKey kt (K.enc k) (e :: es)).run P w = (Instr.findAsking kt (K.enc k) (e :: es) 0).run P w := by
      have hk : e.key = K.enc x.1 := h1.1
      simp only [Instr.findKey, Sem.run_bind, run_underlying' hd, Result.andThen, Instr.findNow, hk, hnone]
    rw [hask]
    rcases findAsking_spec hK w k 0 (.cons h1 h2) with h3 | ⟨x', j, e', pre, post, lpre, lpost, h3⟩
    · exact .inl h3
    · right
      rw [Nat.zero_add] at h3
      exact ⟨x', j, e', pre, post, lpre, lpost, h3⟩

theorem MapOf.lookup {P : Program} {t kt e : TypeId} {z : Value} (h : MapOf K V w m L) (ht : P.underlying t = some (.map kt e)) (hK : KeysOk P kt K)
    (hz : zeroOf P e = some z) (k : κ) :
    (∃ x v, get k L = some x ∧ V v x ∧ mapAt P t (.map (some m)) (K.enc k) w v true) ∨ (get k L = none ∧ mapAt P t (.map (some m)) (K.enc k) w z false) := by
  obtain ⟨es, c, l, hm, hok, hp⟩ := h
  have hg := get_perm (k := k) hp hok.keys
  have hc := fun b => hK.check b k w
  rcases findKey_spec hK w k hok.ents with ⟨h1, h2⟩ | ⟨x, j, e', pre, post, lpre, lpost, h1, _, _, rfl, _, _, h7, _, h9⟩
  · right
    refine ⟨hg ▸ h1, ?_, ?_⟩
    · simp only [Instr.lookup, Sem.run_bind, run_underlying' ht, Result.andThen, run_getObj_map hm, Sem.run_pure, hc, h2, zero_run hz]
      rfl
    · simp only [Instr.lookup, Sem.run_bind, run_underlying' ht, Result.andThen, run_getObj_map hm, Sem.run_pure, hc, h2, zero_run hz]
      rfl
  · left
    refine ⟨x, e'.val, hg ▸ h1, h7.2, ?_, ?_⟩
    · simp only [Instr.lookup, Sem.run_bind, run_underlying' ht, Result.andThen, run_getObj_map hm, Sem.run_pure, hc, h9]
      rfl
    · simp only [Instr.lookup, Sem.run_bind, run_underlying' ht, Result.andThen, run_getObj_map hm, Sem.run_pure, hc, h9]
      rfl

theorem zipKeys {E : List MapEntry} {l : List (κ × β)} (h : All2 (EntOk K V) E l) : All2 (fun (e : MapEntry) (y : κ × Value) => e.key = K.enc y.1 ∧ e.val = y.2) E ((l.map (·.1)).zip (E.map (·.val))) := by
  induction h with
  | nil => exact .nil
  | cons h _ ih => exact .cons ⟨h.1, rfl⟩ ih

theorem findIdx_born {pre post : List MapEntry} {e' : MapEntry} {es : Array MapEntry} (hes : es.toList = pre ++ e' :: post) (hn : (es.toList.map (·.born)).Nodup) :
    es.findIdx? (fun e => (e.born : Int) == (e'.born : Int)) = some pre.length := by
  have he : es = (pre ++ e' :: post).toArray := by rw [← hes]
  rw [hes] at hn
  rw [he, List.findIdx?_toArray]
  clear hes he
  induction pre with
  | nil => simp [List.findIdx?_cons]
  | cons y pre ih =>
    simp only [List.cons_append, List.map_cons, List.nodup_cons] at hn
    have hne : ((y.born : Int) == (e'.born : Int)) = false := by
      rw [beq_eq_false_iff_ne]
      intro h
      exact hn.1 (List.mem_map.2 ⟨e', by simp, by omega⟩)
    rw [List.cons_append, List.findIdx?_cons, hne]
    simp only [Bool.false_eq_true, if_false]
    rw [ih hn.2]
    rfl

set_option maxHeartbeats 1000000 in
/-- m[k] op= : the entry is found or made, then written -/
theorem MapOf.write {P : Program} {t kt e : TypeId} {z : Value} (h : MapOf K V w m L) (ht : P.underlying t = some (.map kt e)) (hK : KeysOk P kt K) (hz : zeroOf P e = some z) (k : κ) :
    ∃ (v0 : Value) (n : Int) (w1 : World), (Instr.mapEntry t (.map (some m)) (K.enc k)).run P w = .ok (.tuple #[v0, .int .i64 n]) w1 ∧ Upd (fun b => b = m) w w1 ∧ w1.heap.size = w.heap.size ∧
      ((∃ x, get k L = some x ∧ V v0 x) ∨ (get k L = none ∧ v0 = z)) ∧ (∀ v b, mapAt P t (.map (some m)) (K.enc k) w v b → ∃ b', mapAt P t (.map (some m)) (K.enc k) w1 v b') ∧
      ∀ v x, V v x → ∃ w2, (Instr.entryStore t (.map (some m)) (.int .i64 n) v).run P w1 = .ok () w2 ∧ Upd (fun b => b = m) w1 w2 ∧ w2.heap.size = w1.heap.size ∧ MapOf K V w2 m ((k, x) :: del k L) := by
  obtain ⟨es, c, l, hm, hok, hp⟩ := h
  have hlt := lt_of_heap hm
  have hg := get_perm (k := k) hp hok.keys
  have hc := fun b w => hK.check b k w
  rcases findKey_spec hK w k hok.ents with ⟨h1, h2⟩ | ⟨x0, j, e', pre, post, lpre, lpost, h1, hes, rfl, rfl, h5, h6, h7, h8, h9⟩
  · -- a new entry
    have hat := setObj_at (w := w) (o := .map (es.push { key := K.enc k, val := z, born := c }) (c + 1)) hlt
    have hbornN : ((es.push { key := K.enc k, val := z, born := c }).toList.map (·.born)).Nodup := by
      simp only [Array.toList_push, List.map_append, List.map_cons, List.map_nil]
      rw [List.nodup_append]
      refine ⟨hok.nodup, by simp, ?_⟩
      intro a ha b hb
      simp only [List.mem_singleton] at hb
      subst hb
      obtain ⟨y, hy, rfl⟩ := List.mem_map.1 ha
      exact Nat.ne_of_lt (hok.born y hy)
    refine ⟨z, c, { w with heap := w.heap.setIfInBounds m (.map (es.push { key := K.enc k, val := z, born := c }) (c + 1)) }, ?_, setObj_upd, by simp, .inr ⟨hg ▸ h1, rfl⟩, ?_, ?_⟩
    · simp only [Instr.mapEntry, Sem.run_bind, run_underlying' ht, Result.andThen, run_getObj_map hm, hc, h2, zero_run hz]
      rw [run_setObj hm (by intros; simp)]
      rfl
    · intro v b hmap
      have hfound : ∀ w1, (Instr.findKey kt (K.enc k) (es.push { key := K.enc k, val := z, born := c }).toList).run P w1 = .ok (some (es.size, z)) w1 := by
        intro w1
        have hall : All2 (fun (e : MapEntry) (y : κ × Value) => e.key = K.enc y.1 ∧ e.val = y.2) (es.push { key := K.enc k, val := z, born := c }).toList ((l.map (·.1)).zip (es.toList.map (·.val)) ++ [(k, z)]) := by
          rw [Array.toList_push]
          refine All2.append ?_ (.cons ⟨rfl, rfl⟩ .nil)
          exact zipKeys hok.ents
        rcases findKey_spec (V := fun v y => v = y) hK w1 k hall with ⟨h3, _⟩ | ⟨x3, j, e3, pre, post, lpre, lpost, h3, hpre, hl3, rfl, h5, h6, h7, h8, h9⟩
        · exfalso
          rw [get_none] at h3
          exact h3 (by simp)
        · -- the place is the last: no other entry has the key
          have hnokey : ∀ e ∈ es.toList, e.key ≠ K.enc k := by
            intro e he hek
            obtain ⟨y, hy, hye⟩ := hok.ents.mem_left he
            have := hK.eq y.1 k w1
            have h10 := hK.eq k k w1
            rw [← hye.1, hek, h10] at this
            simp only [decide_true, Result.ok.injEq, and_true] at this
            have hyk : y.1 = k := by simpa using this.symm
            exact (get_none.1 h1) (List.mem_map.2 ⟨y, hy, hyk⟩)
          have hpe : pre = es.toList := by
            rw [Array.toList_push] at hpre
            rcases List.append_eq_append_iff.1 hpre with ⟨as, ha1, ha2⟩ | ⟨as, ha1, ha2⟩
            · cases as with
              | nil => simpa using ha1
              | cons y as =>
                simp only [List.cons_append, List.cons.injEq] at ha2
                have := congrArg List.length ha2.2
                simp at this
            · cases as with
              | nil => simpa using ha1.symm
              | cons y as =>
                simp only [List.cons_append, List.cons.injEq] at ha2
                exact (hnokey e3 (by rw [ha1, ha2.1]; simp) h7.1).elim
          have hle : pre.length = es.size := by rw [hpe]; simp
          have hv3 : e3.val = z := by
            rw [Array.toList_push, hpe] at hpre
            have := List.append_cancel_left hpre
            simp only [List.cons.injEq] at this
            rw [← this.1]
          rw [h9, hle, hv3]
      have hv : v = z := by
        have h3 := hmap.1
        simp only [Instr.lookup, Sem.run_bind, run_underlying' ht, Result.andThen, run_getObj_map hm, Sem.run_pure, hc, h2, zero_run hz] at h3
        simp at h3
        exact h3.1.symm
      subst hv
      refine ⟨true, ?_, ?_⟩
      · simp only [Instr.lookup, Sem.run_bind, run_underlying' ht, Result.andThen, run_getObj_map hat, Sem.run_pure, hc, hfound]
        rfl
      · simp only [Instr.lookup, Sem.run_bind, run_underlying' ht, Result.andThen, run_getObj_map hat, Sem.run_pure, hc, hfound]
        rfl
    · intro v x hv
      have hidx := findIdx_born (es := es.push { key := K.enc k, val := z, born := c }) (pre := es.toList) (post := []) (e' := { key := K.enc k, val := z, born := c }) (by simp) hbornN
      have hmod : ((es.push { key := K.enc k, val := z, born := c }).modify es.toList.length fun e => { e with val := v }).toList = es.toList ++ [{ key := K.enc k, val := v, born := c }] := by
        rw [Array.toList_modify, Array.toList_push, modify_mid]
      refine ⟨_, by
        simp only [Instr.entryStore, Sem.run_bind, Sem.run_pure, run_getObj_map hat, Result.andThen, asInt, asIntOf, hidx]
        exact run_setObj hat (by intros; simp), setObj_upd, by simp, _, _, l ++ [(k, x)], setObj_at (by simpa using hlt), ⟨?_, ?_, ?_, ?_⟩, ?_⟩
      · intro y hy
        rw [hmod] at hy
        simp only [List.mem_append, List.mem_singleton] at hy
        rcases hy with hy | rfl
        · exact Nat.lt_succ_of_lt (hok.born y hy)
        · exact Nat.lt_succ_self c
      · rw [hmod]
        simpa using hbornN
      · rw [hmod]
        exact hok.ents.append (.cons ⟨rfl, hv⟩ .nil)
      · simp only [List.map_append, List.map_cons, List.map_nil]
        rw [List.nodup_append]
        refine ⟨hok.keys, by simp, ?_⟩
        intro a ha b hb
        simp only [List.mem_singleton] at hb
        subst hb
        rintro rfl
        exact (get_none.1 h1) ha
      · have : del k L = L := del_none (hg ▸ h1)
        rw [this]
        exact (List.perm_append_singleton _ _).trans (hp.cons _)
  · have hlen : pre.length < es.size := by
      have : es.toList.length = (pre ++ e' :: post).length := by rw [hes]
      simp at this; omega
    have hget : es[pre.length]? = some e' := by
      have : es.toList[pre.length]? = some e' := by rw [hes]; simp
      simpa using this
    have hek : e'.key = K.enc k := h7.1
    have hsame : (es.modify pre.length fun y => { y with key := K.enc k }) = es := by
      apply Array.toList_inj.1
      rw [Array.toList_modify, hes, modify_mid]
      congr 2
      rw [← hek]
    have hstay : (Instr.keyThatStays e'.key (K.enc k)).run P w = .ok (K.enc k) w := by
      simp only [Instr.keyThatStays, hek, hK.same, if_true, Sem.run_pure]
    have hset : { w with heap := w.heap.setIfInBounds m (.map es c) } = w := by
      have : w.heap.setIfInBounds m (.map es c) = w.heap := by
        apply Array.ext_getElem?
        intro i
        by_cases hi : i = m
        · subst hi
          rw [hm]; simp [hlt]
        · rw [Array.getElem?_setIfInBounds_ne (fun e => hi e.symm)]
      rw [this]
    refine ⟨e'.val, e'.born, w, ?_, Upd.refl _ _, rfl, .inl ⟨x0, hg ▸ h1, h7.2⟩, fun v b hmap => ⟨b, hmap⟩, ?_⟩
    · simp only [Instr.mapEntry, Sem.run_bind, run_underlying' ht, Result.andThen, run_getObj_map hm, hc, h9, hget, Option.map_some, Option.getD_some, hstay]
      rw [run_setObj hm (by intros; simp), hsame, hset]
      rfl
    · intro v x hv
      have hidx := findIdx_born hes hok.nodup
      have hmod : (es.modify pre.length fun y => { y with val := v }).toList = pre ++ { e' with val := v } :: post := by
        rw [Array.toList_modify, hes, modify_mid]
      refine ⟨_, by
        simp only [Instr.entryStore, Sem.run_bind, Sem.run_pure, run_getObj_map hm, Result.andThen, asInt, asIntOf, hidx]
        exact run_setObj hm (by intros; simp), setObj_upd, by simp, _, _, lpre ++ (k, x) :: lpost, setObj_at hlt, ⟨?_, ?_, ?_, ?_⟩, ?_⟩
      · intro y hy
        rw [hmod] at hy
        have hb := hok.born
        rw [hes] at hb
        simp only [List.mem_append, List.mem_cons] at hy hb
        rcases hy with hy | rfl | hy
        · exact hb y (.inl hy)
        · exact hb e' (.inr (.inl rfl))
        · exact hb y (.inr (.inr hy))
      · rw [hmod]
        have := hok.nodup
        rw [hes] at this
        simpa using this
      · rw [hmod]
        exact h5.append (.cons ⟨hek, hv⟩ h6)
      · have := hok.keys
        simpa using this
      · have hd : del k (lpre ++ (k, x0) :: lpost) = lpre ++ lpost := nodup_split hok.keys
        have := del_perm (k := k) hp
        rw [hd] at this
        exact List.perm_middle.trans (this.cons _)

/-- an iterator over a map whose keys grow no more: what is still to come -/
def ItOf (K : KS κ) (V : Value → β → Prop) (w : World) (it m : Nat) (L rest : List (κ × β)) : Prop :=
  ∃ es clock seen last, ∃ ps : List (MapEntry × (κ × β)), w.heap[it]? = some (.mapIter (some m) clock seen last) ∧ w.heap[m]? = some (.map es clock) ∧ es.toList = ps.map (·.1) ∧
    EsOk K V es clock (ps.map (·.2)) ∧ (ps.map (·.2)).Perm L ∧ (∀ p ∈ ps, EntOk K V p.1 p.2) ∧ (seen = #[] ∨ last = clock) ∧ ((ps.filter fun p => !seen.contains p.1.born).map (·.2)).Perm rest

/-- the same behind a step, with the entry at which it stands -/
def ItAt (K : KS κ) (V : Value → β → Prop) (w : World) (it m : Nat) (L rest : List (κ × β)) (k : κ) (x : β) (v : Value) : Prop :=
  ∃ es clock seen, ∃ ps : List (MapEntry × (κ × β)), ∃ cur, w.heap[it]? = some (.mapIter (some m) clock seen clock) ∧ w.heap[m]? = some (.map es clock) ∧ es.toList = ps.map (·.1) ∧
    EsOk K V es clock (ps.map (·.2)) ∧ (ps.map (·.2)).Perm L ∧ (∀ p ∈ ps, EntOk K V p.1 p.2) ∧ ((ps.filter fun p => !seen.contains p.1.born).map (·.2)).Perm rest ∧
    (cur, (k, x)) ∈ ps ∧ seen.back? = some cur.born ∧ cur.val = v

theorem ItAt.toIt {it : Nat} {rest : List (κ × β)} {k : κ} {x : β} {v : Value} (h : ItAt K V w it m L rest k x v) : ItOf K V w it m L rest := by
  obtain ⟨es, c, seen, ps, cur, h1, h2, h3, h4, h5, h6, h7, _⟩ := h
  exact ⟨es, c, seen, c, ps, h1, h2, h3, h4, h5, h6, .inr rfl, h7⟩
theorem ItAt.entry {it : Nat} {rest : List (κ × β)} {k : κ} {x : β} {v : Value} (h : ItAt K V w it m L rest k x v) : V v x ∧ (k, x) ∈ L := by
  obtain ⟨es, c, seen, ps, cur, h1, h2, h3, h4, h5, h6, h7, h8, h9, rfl⟩ := h
  exact ⟨(h6 _ h8).2, h5.mem_iff.1 (List.mem_map.2 ⟨_, h8, rfl⟩)⟩
theorem ItOf.map {it : Nat} {rest : List (κ × β)} (h : ItOf K V w it m L rest) : MapOf K V w m L := by
  obtain ⟨es, c, seen, last, ps, h1, h2, h3, h4, h5, _⟩ := h
  exact ⟨es, c, _, h2, h4, h5⟩
theorem ItOf.upd {it : Nat} {rest : List (κ × β)} {S : Nat → Prop} (h : ItOf K V w it m L rest) (hu : Upd S w w') (h1 : ¬ S it) (h2 : ¬ S m) : ItOf K V w' it m L rest := by
  obtain ⟨es, c, seen, last, ps, g1, g2, g3⟩ := h
  exact ⟨es, c, seen, last, ps, hu.keep g1 h1, hu.keep g2 h2, g3⟩
theorem ItAt.upd {it : Nat} {rest : List (κ × β)} {k : κ} {x : β} {v : Value} {S : Nat → Prop} (h : ItAt K V w it m L rest k x v) (hu : Upd S w w') (h1 : ¬ S it) (h2 : ¬ S m) : ItAt K V w' it m L rest k x v := by
  obtain ⟨es, c, seen, ps, cur, g1, g2, g3⟩ := h
  exact ⟨es, c, seen, ps, cur, hu.keep g1 h1, hu.keep g2 h2, g3⟩
theorem ItOf.ne {it : Nat} {rest : List (κ × β)} (h : ItOf K V w it m L rest) : it ≠ m ∧ it < w.heap.size := by
  obtain ⟨es, c, seen, last, ps, h1, h2, _⟩ := h
  refine ⟨?_, lt_of_heap h1⟩
  rintro rfl
  rw [h1] at h2
  simp at h2

theorem ItOf.made {es : Array MapEntry} {c : Nat} {it : Nat} (h : MapOf K V w m L) (hi : mapIs w (some m) es c) (hn : NewB w it (.mapIter (some m) c #[] c) w') :
    ItOf K V w' it m L L := by
  obtain ⟨es', c', l, hm, hok, hp⟩ := h
  have : some (Obj.map es c) = some (.map es' c') := by rw [← hm]; exact hi.symm
  simp only [Option.some.injEq, Obj.map.injEq] at this
  obtain ⟨rfl, rfl⟩ := this
  obtain ⟨ps, h1, rfl, h2⟩ := hok.ents.zip
  refine ⟨es, c, #[], c, ps, hn.at, hn.ext.keep hm, h1, hok, hp, h2, .inl rfl, ?_⟩
  have : (ps.filter fun p => !(#[] : Array Nat).contains p.1.born) = ps := by
    rw [List.filter_eq_self]; intro e _; simp
  rw [this]
  exact hp

theorem ItAt.entryAt {P : Program} {it : Nat} {rest : List (κ × β)} {k : κ} {x : β} {v : Value} (h : ItAt K V w it m L rest k x v) : entryAt P (.pointer (some (at0 it))) w (K.enc k) v := by
  obtain ⟨es, c, seen, ps, cur, h1, h2, h3, h4, h5, h6, h7, h8, h9, rfl⟩ := h
  have hmem : cur ∈ es.toList := by rw [h3]; exact List.mem_map.2 ⟨_, h8, rfl⟩
  have hfind : es.find? (·.born == cur.born) = some cur := by
    rw [← Array.find?_toList]
    have hn := h4.nodup
    generalize es.toList = l at hmem hn
    induction l with
    | nil => cases hmem
    | cons y l ih =>
      simp only [List.map_cons, List.nodup_cons] at hn
      rcases List.mem_cons.1 hmem with rfl | hm
      · simp
      · have : y.born ≠ cur.born := fun e => hn.1 (List.mem_map.2 ⟨cur, hm, e.symm⟩)
        rw [List.find?_cons_of_neg (by simpa using this)]
        exact ih hm hn.2
  unfold Go.Vc.entryAt
  simp only [Instr.entry, Sem.run_bind, run_getObj_iter h1, Result.andThen, run_getObj_map h2, h9]
  rw [if_neg (by simp)]
  rw [hfind, ← (h6 _ h8).1]
  rfl

theorem ItOf.next {it : Nat} {rest : List (κ × β)} (h : ItOf K V w it m L rest) {T : Value → Value → World → Prop} {E : World → Prop}
    (hT : ∀ k x v rest' w', rest.Perm ((k, x) :: rest') → Upd (fun b => b = it) w w' → w'.heap.size = w.heap.size → ItAt K V w' it m L rest' k x v → T (K.enc k) v w')
    (hE : rest = [] → ∀ w', Quiet w w' → E w') : nextB w (at0 it) T E := by
  obtain ⟨es, c, seen, last, ps, h1, h2, hes, hok, hp, hent, hl, hpr⟩ := h
  refine ⟨rfl, some m, c, seen, last, h1, (by intro e; cases e), fun r' hr' => ?_⟩
  simp only [Option.some.injEq] at hr'
  subst hr'
  refine ⟨es, c, h2, ?_, ?_, ?_⟩
  · rcases hl with rfl | rfl
    · exact .inl rfl
    · by_cases he : es = #[]
      · exact .inr (.inl he)
      · have : 0 < es.size := Array.size_pos_iff.2 he
        exact .inr (.inr ⟨es[0], Array.getElem_mem this, hok.born _ (by simp)⟩)
  · intro e he hns d
    have he' : e ∈ es.toList := by simpa using he
    rw [hes] at he'
    obtain ⟨⟨e', k, x⟩, hps, rfl⟩ := List.mem_map.1 he'
    obtain ⟨pre, post, hf, hq⟩ := filter_split (fun p : MapEntry × (κ × β) => !seen.contains p.1.born) hps (by simpa using hns)
    have hnd : ((ps.filter fun p => !seen.contains p.1.born).map (·.1.born)).Nodup := by
      have := hok.nodup
      rw [hes, List.map_map] at this
      exact this.sublist (List.filter_sublist.map _)
    rw [hf, List.map_append, List.map_cons, List.nodup_append] at hnd
    have hf' : ps.filter (fun p => !(seen.push e'.born).contains p.1.born) = pre ++ post := by
      refine hq _ ?_ ?_ ?_ ?_
      · intro y hy
        simp only [Bool.not_eq_true', Array.contains_eq_mem, Array.mem_push, decide_eq_false_iff_not, not_or] at hy ⊢
        exact hy.1
      · simp
      · intro y hy
        have hyf : y ∈ ps.filter fun p => !seen.contains p.1.born := by rw [hf]; exact List.mem_append_left _ hy
        have h3 := (List.mem_filter.1 hyf).2
        have h4 : y.1.born ≠ e'.born := hnd.2.2 y.1.born (List.mem_map.2 ⟨y, hy, rfl⟩) e'.born List.mem_cons_self
        simp only [Bool.not_eq_true', Array.contains_eq_mem, Array.mem_push, decide_eq_false_iff_not, not_or] at h3 ⊢
        exact ⟨h3, h4⟩
      · intro y hy
        have hyf : y ∈ ps.filter fun p => !seen.contains p.1.born := by rw [hf]; exact List.mem_append_right _ (List.mem_cons_of_mem _ hy)
        have h3 := (List.mem_filter.1 hyf).2
        have h4 : y.1.born ≠ e'.born := by
          intro e1
          have := hnd.2.1
          simp only [List.nodup_cons] at this
          exact this.1 (List.mem_map.2 ⟨y, hy, e1⟩)
        simp only [Bool.not_eq_true', Array.contains_eq_mem, Array.mem_push, decide_eq_false_iff_not, not_or] at h3 ⊢
        exact ⟨h3, h4⟩
    have hit : it ≠ m := by
      rintro rfl
      rw [h1] at h2
      simp at h2
    have hk := (hent _ hps).1
    simp only at hk
    rw [hk]
    have hperm : rest.Perm ((k, x) :: (pre ++ post).map (·.2)) := by
      rw [hf, List.map_append, List.map_cons] at hpr
      rw [List.map_append]
      exact hpr.symm.trans List.perm_middle
    refine hT k x e'.val ((pre ++ post).map (·.2)) _ hperm ⟨rfl, rfl, rfl, by simp, fun b _ hb => ?_⟩ (by simp)
      ⟨es, c, seen.push e'.born, ps, e', ?_, ?_, hes, hok, hp, hent, by rw [hf'], hps, by simp, rfl⟩
    · show (w.heap.setIfInBounds it _)[b]? = _
      rw [Array.getElem?_setIfInBounds_ne (fun e => hb e.symm)]
    · show (w.heap.setIfInBounds it _)[it]? = _
      simp [lt_of_heap h1]
    · show (w.heap.setIfInBounds it _)[m]? = _
      rw [Array.getElem?_setIfInBounds_ne hit]
      exact h2
  · intro hall d
    refine hE ?_ _ ⟨rfl, rfl, rfl, rfl⟩
    have : (ps.filter fun p => !seen.contains p.1.born) = [] := by
      rw [List.filter_eq_nil_iff]
      intro p hp1 hns
      have hm : p.1 ∈ es.toList := by rw [hes]; exact List.mem_map.2 ⟨p, hp1, rfl⟩
      have h3 := hall p.1 (by simpa using hm) (by simpa using hns)
      have h4 := hok.born p.1 hm
      omega
    rw [this] at hpr
    exact hpr.symm.eq_nil

/-- how many entries an iterator has not come to -/
def leftM (w : World) (it : Option Addr) : Nat :=
  match it with
  | some a => match w.heap[a.block]? with
    | some (.mapIter (some m) _ _ _) => leftIt w (some a) m
    | _ => 0
  | none => 0
theorem ItOf.left {it : Nat} {rest : List (κ × β)} (h : ItOf K V w it m L rest) : leftM w (some (at0 it)) = rest.length := by
  obtain ⟨es, c, seen, last, ps, h1, h2, h3, h4, h5, h6, h7, h8⟩ := h
  unfold leftM leftIt
  simp only [h1, h2]
  rw [← h8.length_eq, h3, List.length_map, List.filter_map, List.length_map]
  rfl
end
end Go.Vc.SK
