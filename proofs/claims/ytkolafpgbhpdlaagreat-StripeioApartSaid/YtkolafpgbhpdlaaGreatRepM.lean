import Derived.Test.YtkolafpgbhpdlaaGreatRep
namespace Go.Vc
open Go
structure KE (κ : Type) [DecidableEq κ] where
 enc : κ → Value
 kd : TypeDesc
 plain : (∃ k, kd = .int k) ∨ kd = .string
 now : ∀ a b, Instr.sameNow kd (enc a) (enc b) = some (decide (a = b))
 same : ∀ n a, Instr.sameBits n (enc a) (enc a) = true
def intK : KE Int where
 enc n := .int .i64 n
 kd := .int .i64
 plain := .inl ⟨_, rfl⟩
 now a b := by simp [Instr.sameNow, Int.beq_eq_decide']
 same n a := by cases n <;> simp [Instr.sameBits]
theorem modify_mid {α : Type} (f : α → α) (e : α) (post : List α) : ∀ pre : List α, (pre ++ e :: post).modify pre.length f = pre ++ f e :: post
 | [] => by simp
 | x :: pre => by simp [modify_mid f e post pre]
inductive All2 {α β : Type} (R : α → β → Prop) : List α → List β → Prop
 | nil : All2 R [] []
 | cons {a : α} {b : β} {as : List α} {bs : List β} : R a b → All2 R as bs → All2 R (a :: as) (b :: bs)
theorem All2.mono {α β : Type} {R S : α → β → Prop} (hs : ∀ a b, R a b → S a b) {as : List α} {bs : List β} (h : All2 R as bs) : All2 S as bs := by
 induction h with
 | nil => exact .nil
 | cons h _ ih => exact .cons (hs _ _ h) ih
theorem All2.length {α β : Type} {R : α → β → Prop} {as : List α} {bs : List β} (h : All2 R as bs) : as.length = bs.length := by
 induction h with
 | nil => rfl
 | cons _ _ ih => simp [ih]
theorem All2.append {α β : Type} {R : α → β → Prop} {as as' : List α} {bs bs' : List β} (h : All2 R as bs) (h' : All2 R as' bs') : All2 R (as ++ as') (bs ++ bs') := by
 induction h with
 | nil => exact h'
 | cons h _ ih => exact .cons h ih
section
variable {κ : Type} [DecidableEq κ] {β : Type} (K : KE κ) (V : Value → β → Prop)
def EntOk (e : MapEntry) (x : κ × β) : Prop := e.key = K.enc x.1 ∧ V e.val x.2
structure EsOk (es : Array MapEntry) (clock : Nat) (l : List (κ × β)) : Prop where
 born : ∀ e ∈ es.toList, e.born < clock
 nodup : (es.toList.map (·.born)).Nodup
 ents : All2 (EntOk K V) es.toList l
 keys : (l.map (·.1)).Nodup
def MapOf (w : World) (m : Nat) (L : List (κ × β)) : Prop :=
 ∃ es clock l, w.heap[m]? = some (.map es clock) ∧ EsOk K V es clock l ∧ l.Perm L
end
section
variable {κ : Type} [DecidableEq κ] {β : Type} {K : KE κ} {V : Value → β → Prop} {w w' : World} {m : Nat} {L : List (κ × β)}
def del (k : κ) (L : List (κ × β)) : List (κ × β) := L.filter fun x => decide (x.1 ≠ k)
def get (k : κ) : List (κ × β) → Option β
 | [] => none
 | (k', x) :: L => if k' = k then some x else get k L
theorem get_some {k : κ} {x : β} : ∀ {L : List (κ × β)}, (L.map (·.1)).Nodup → ((k, x) ∈ L ↔ get k L = some x)
 | [], _ => by simp [get]
 | (k', x') :: L, hn => by
  simp only [List.map_cons, List.nodup_cons] at hn
  unfold get
  by_cases h : k' = k
  ·subst h
   simp only [List.mem_cons, Prod.mk.injEq, true_and, if_true, Option.some.injEq]
   constructor
   ·rintro (h | h)
    ·exact h.symm
    ·exact (hn.1 (List.mem_map.2 ⟨_, h, rfl⟩)).elim
   ·intro h; exact .inl h.symm
  ·rw [if_neg h, ← get_some hn.2]
   simp only [List.mem_cons, Prod.mk.injEq]
   constructor
   ·rintro (⟨h1, _⟩ | h1)
    ·exact (h h1.symm).elim
    ·exact h1
   ·exact .inr
theorem get_none {k : κ} : ∀ {L : List (κ × β)}, get k L = none ↔ k ∉ L.map (·.1)
 | [] => by simp [get]
 | (k', x') :: L => by
  unfold get
  by_cases h : k' = k
  ·subst h; simp
  ·rw [if_neg h, get_none]
   simp only [List.map_cons, List.mem_cons, not_or]
   exact ⟨fun h1 => ⟨fun e => h e.symm, h1⟩, fun h1 => h1.2⟩
theorem get_perm {k : κ} {L M : List (κ × β)} (hp : L.Perm M) (hn : (L.map (·.1)).Nodup) : get k L = get k M := by
 have hm : (M.map (·.1)).Nodup := (hp.map _).nodup_iff.1 hn
 cases h : get k L with
 | none =>
  rw [get_none] at h
  symm
  rw [get_none]
  exact fun hx => h ((hp.map _).mem_iff.2 hx)
 | some x =>
  rw [← get_some hn] at h
  symm
  rw [← get_some hm]
  exact hp.mem_iff.1 h
theorem MapOf.mono {V' : Value → β → Prop} (h : MapOf K V w m L) (hv : ∀ v x, V v x → V' v x) : MapOf K V' w m L := by
 obtain ⟨es, c, l, hm, ⟨h1, h2, h3, h4⟩, hp⟩ := h
 exact ⟨es, c, l, hm, ⟨h1, h2, h3.mono fun e x h => ⟨h.1, hv _ _ h.2⟩, h4⟩, hp⟩
theorem MapOf.perm {M : List (κ × β)} (h : MapOf K V w m L) (hp : L.Perm M) : MapOf K V w m M := by
 obtain ⟨es, c, l, hm, hok, hp1⟩ := h
 exact ⟨es, c, l, hm, hok, hp1.trans hp⟩
theorem MapOf.lt (h : MapOf K V w m L) : m < w.heap.size := by
 obtain ⟨es, c, l, hm, _⟩ := h
 exact lt_of_heap hm
theorem MapOf.upd {S : Nat → Prop} (h : MapOf K V w m L) (hu : Upd S w w') (hS : ¬ S m) : MapOf K V w' m L := by
 obtain ⟨es, c, l, hm, hok, hp⟩ := h
 exact ⟨es, c, l, hu.keep hm hS, hok, hp⟩
theorem MapOf.nodup (h : MapOf K V w m L) : (L.map (·.1)).Nodup := by
 obtain ⟨es, c, l, hm, hok, hp⟩ := h
 exact (hp.map _).nodup_iff.1 hok.keys
theorem MapOf.made {t : World} {b : Nat} (h : NewB t b (.map #[] 0) w) : MapOf K V w b [] :=
 ⟨#[], 0, [], h.at, ⟨by simp, by simp, .nil, by simp⟩, .nil⟩
theorem MapOf.len (h : MapOf K V w m L) : mapLen w (.map (some m)) L.length := by
 obtain ⟨es, c, l, hm, hok, hp⟩ := h
 exact ⟨es, c, hm, by rw [← hp.length_eq, ← hok.ents.length]; simp⟩
theorem findNow_spec (k : κ) : ∀ {es : List MapEntry} {l : List (κ × β)} (i : Nat), All2 (EntOk K V) es l →
  (get k l = none ∧ Instr.findNow K.kd (K.enc k) es i = some none) ∨
  (∃ x j e pre post lpre lpost, get k l = some x ∧ es = pre ++ e :: post ∧ l = lpre ++ (k, x) :: lpost ∧ pre.length = j ∧ All2 (EntOk K V) pre lpre ∧ All2 (EntOk K V) post lpost ∧ EntOk K V e (k, x) ∧
   (∀ y ∈ lpre, y.1 ≠ k) ∧ Instr.findNow K.kd (K.enc k) es i = some (some (i + j, e.val))) := by
 intro es
 induction es with
 | nil =>
  intro l i h
  cases h
  exact .inl ⟨rfl, rfl⟩
 | cons e es ih =>
  intro l i h
  cases h with
  | @cons _ x _ ls h1 h2 =>
   obtain ⟨k', x⟩ := x
   have hn := K.now k k'
   simp only [Instr.findNow, h1.1, hn]
   by_cases hk : k = k'
   ·subst hk
    right
    exact ⟨x, 0, e, [], es, [], ls, by simp [get], rfl, rfl, rfl, .nil, h2, h1, by simp, by simp⟩
   ·have hd : decide (k = k') = false := by simpa using hk
    have hg : get k ((k', x) :: ls) = get k ls := by simp [get, Ne.symm hk]
    rw [hd, hg]
    rcases ih (i + 1) h2 with ⟨h3, h4⟩ | ⟨x', j, e', pre, post, lpre, lpost, h3, rfl, rfl, rfl, h5, h6, h7, h8, h9⟩
    ·exact .inl ⟨h3, h4⟩
    ·right
     refine ⟨x', pre.length + 1, e', e :: pre, post, (k', x) :: lpre, lpost, h3, rfl, rfl, rfl, .cons h1 h5, h6, h7, ?_, ?_⟩
     ·intro y hy
      rcases List.mem_cons.1 hy with rfl | hy
      ·exact Ne.symm hk
      ·exact h8 y hy
     ·rw [show i + (pre.length + 1) = i + 1 + pre.length by omega]; exact h9
theorem findKey_run {P : Program} {kt : TypeId} {kd : TypeDesc} (hk : P.underlying kt = some kd) {key : Value} {es : List MapEntry} {r : Option (Nat × Value)}
  (h : Instr.findNow kd key es 0 = some r) (w : World) : (Instr.findKey kt key es).run P w = .ok r w := by
 simp only [Instr.findKey, Sem.run_bind, run_underlying' hk, Result.andThen, h]
 rfl
theorem checkKey_run {P : Program} {kt : TypeId} (hk : P.underlying kt = some K.kd) (b : Bool) (k : κ) (n : Nat) (w : World) :
  (Instr.checkKey b (n + 1) kt (K.enc k)).run P w = .ok () w := by
 have hp := K.plain
 generalize K.kd = kd at hk hp
 simp only [Instr.checkKey, Sem.run_bind, run_underlying' hk, Result.andThen]
 rcases hp with ⟨_, rfl⟩ | rfl <;> rfl
theorem MapOf.lookup {P : Program} {t kt e : TypeId} {z : Value} (h : MapOf K V w m L) (ht : P.underlying t = some (.map kt e)) (hk : P.underlying kt = some K.kd)
  (hz : zeroOf P e = some z) (k : κ) :
  (∃ x v, get k L = some x ∧ V v x ∧ mapAt P t (.map (some m)) (K.enc k) w v true) ∨ (get k L = none ∧ mapAt P t (.map (some m)) (K.enc k) w z false) := by
 obtain ⟨es, c, l, hm, hok, hp⟩ := h
 have hg := get_perm (k := k) hp hok.keys
 have hc : ∀ b, (Instr.checkKey b 10000 kt (K.enc k)).run P w = .ok () w := fun b => checkKey_run hk b k 9999 w
 rcases findNow_spec k 0 hok.ents with ⟨h1, h2⟩ | ⟨x, j, e', pre, post, lpre, lpost, h1, _, _, rfl, _, _, h7, _, h9⟩
 ·right
  refine ⟨hg ▸ h1, ?_, ?_⟩
  ·simp only [Instr.lookup, Sem.run_bind, run_underlying' ht, Result.andThen, run_getObj_map hm, Sem.run_pure, hc, findKey_run hk h2, zero_run hz]
   rfl
  ·simp only [Instr.lookup, Sem.run_bind, run_underlying' ht, Result.andThen, run_getObj_map hm, Sem.run_pure, hc, findKey_run hk h2, zero_run hz]
   rfl
 ·left
  refine ⟨x, e'.val, hg ▸ h1, h7.2, ?_, ?_⟩
  ·simp only [Instr.lookup, Sem.run_bind, run_underlying' ht, Result.andThen, run_getObj_map hm, Sem.run_pure, hc, findKey_run hk h9]
   rfl
  ·simp only [Instr.lookup, Sem.run_bind, run_underlying' ht, Result.andThen, run_getObj_map hm, Sem.run_pure, hc, findKey_run hk h9]
   rfl
theorem setObj_upd {o : Obj} : Upd (fun b => b = m) w { w with heap := w.heap.setIfInBounds m o } :=
 ⟨rfl, rfl, rfl, by simp, fun b _ hS => by
  show (w.heap.setIfInBounds m o)[b]? = _
  rw [Array.getElem?_setIfInBounds_ne (fun e => hS e.symm)]⟩
theorem setObj_at {o : Obj} (h : m < w.heap.size) : ({ w with heap := w.heap.setIfInBounds m o } : World).heap[m]? = some o := by
 show (w.heap.setIfInBounds m o)[m]? = _
 simp [h]
theorem nodup_split {k : κ} {x : β} {lpre lpost : List (κ × β)} (h : ((lpre ++ (k, x) :: lpost).map (·.1)).Nodup) :
  del k (lpre ++ (k, x) :: lpost) = lpre ++ lpost := by
 simp only [List.map_append, List.map_cons] at h
 have h1 : ∀ y ∈ lpre, y.1 ≠ k := by
  intro y hy e
  rw [List.nodup_append] at h
  exact h.2.2 y.1 (List.mem_map.2 ⟨y, hy, rfl⟩) k List.mem_cons_self e
 have h2 : ∀ y ∈ lpost, y.1 ≠ k := by
  intro y hy e
  rw [List.nodup_append] at h
  have := h.2.1
  simp only [List.nodup_cons] at this
  exact this.1 (List.mem_map.2 ⟨y, hy, e⟩)
 unfold del
 rw [List.filter_append, List.filter_cons_of_neg (by simp)]
 rw [List.filter_eq_self.2 (by intro y hy; simpa using h1 y hy), List.filter_eq_self.2 (by intro y hy; simpa using h2 y hy)]
theorem del_none {k : κ} (h : get k L = none) : del k L = L := by
 rw [get_none] at h
 unfold del
 rw [List.filter_eq_self]
 intro y hy
 simp only [decide_eq_true_eq]
 exact fun e => h (List.mem_map.2 ⟨y, hy, e⟩)
theorem del_perm {k : κ} {M : List (κ × β)} (h : L.Perm M) : (del k L).Perm (del k M) := h.filter _
theorem MapOf.update {P : Program} {t kt e : TypeId} (h : MapOf K V w m L) (ht : P.underlying t = some (.map kt e)) (hk : P.underlying kt = some K.kd) (k : κ) {v : Value} {x : β} (hv : V v x) :
  ∃ w', (Instr.mapUpdate t (.map (some m)) (K.enc k) v).run P w = .ok () w' ∧ Upd (fun b => b = m) w w' ∧ w'.heap.size = w.heap.size ∧ MapOf K V w' m ((k, x) :: del k L) := by
 obtain ⟨es, c, l, hm, hok, hp⟩ := h
 have hlt := lt_of_heap hm
 have hc : ∀ b, (Instr.checkKey b 10000 kt (K.enc k)).run P w = .ok () w := fun b => checkKey_run hk b k 9999 w
 have hg := get_perm (k := k) hp hok.keys
 rcases findNow_spec k 0 hok.ents with ⟨h1, h2⟩ | ⟨x0, j, e', pre, post, lpre, lpost, h1, hes, rfl, rfl, h5, h6, h7, h8, h9⟩
 ·refine ⟨{ w with heap := w.heap.setIfInBounds m (.map (es.push { key := K.enc k, val := v, born := c }) (c + 1)) }, ?_, setObj_upd, by simp, _, _, l ++ [(k, x)], setObj_at hlt, ?_, ?_⟩
  ·simp only [Instr.mapUpdate, Sem.run_bind, run_underlying' ht, Result.andThen, run_getObj_map hm, hc, findKey_run hk h2]
   exact run_setObj hm (by intros; simp)
  ·refine ⟨?_, ?_, ?_, ?_⟩
   ·intro y hy
    simp only [Array.toList_push, List.mem_append, List.mem_singleton] at hy
    rcases hy with hy | rfl
    ·exact Nat.lt_succ_of_lt (hok.born y hy)
    ·exact Nat.lt_succ_self c
   ·simp only [Array.toList_push, List.map_append, List.map_cons, List.map_nil]
    rw [List.nodup_append]
    refine ⟨hok.nodup, by simp, ?_⟩
    intro a ha b hb
    simp only [List.mem_singleton] at hb
    subst hb
    obtain ⟨y, hy, rfl⟩ := List.mem_map.1 ha
    exact Nat.ne_of_lt (hok.born y hy)
   ·rw [Array.toList_push]
    exact hok.ents.append (.cons ⟨rfl, hv⟩ .nil)
   ·simp only [List.map_append, List.map_cons, List.map_nil]
    rw [List.nodup_append]
    refine ⟨hok.keys, by simp, ?_⟩
    intro a ha b hb
    simp only [List.mem_singleton] at hb
    subst hb
    rintro rfl
    exact (get_none.1 h1) ha
  ·have : del k L = L := del_none (hg ▸ h1)
   rw [this]
   exact (List.perm_append_singleton _ _).trans (hp.cons _)
 ·have hlen : pre.length < es.size := by
   have : es.toList.length = (pre ++ e' :: post).length := by rw [hes]
   simp at this; omega
  have hget : es[pre.length]? = some e' := by
   have : es.toList[pre.length]? = some e' := by rw [hes]; simp
   simpa using this
  refine ⟨{ w with heap := w.heap.setIfInBounds m (.map (es.modify pre.length fun y => { y with key := K.enc k, val := v }) c) }, ?_, setObj_upd, by simp, _, _, lpre ++ (k, x) :: lpost, setObj_at hlt, ?_, ?_⟩
  ·rw [Nat.zero_add] at h9
   simp only [Instr.mapUpdate, Sem.run_bind, run_underlying' ht, Result.andThen, run_getObj_map hm, hc, findKey_run hk h9, Instr.keyThatStays, hget, Option.map_some, Option.getD_some, h7.1, K.same, if_true, Sem.run_pure]
   exact run_setObj hm (by intros; simp)
  ·have hmod : (es.modify pre.length fun y => { y with key := K.enc k, val := v }).toList = pre ++ { e' with key := K.enc k, val := v } :: post := by
    rw [Array.toList_modify, hes, modify_mid]
   refine ⟨?_, ?_, ?_, ?_⟩
   ·intro y hy
    rw [hmod] at hy
    have hb := hok.born
    rw [hes] at hb
    simp only [List.mem_append, List.mem_cons] at hy hb
    rcases hy with hy | rfl | hy
    ·exact hb y (.inl hy)
    ·exact hb e' (.inr (.inl rfl))
    ·exact hb y (.inr (.inr hy))
   ·rw [hmod]
    have := hok.nodup
    rw [hes] at this
    simpa using this
   ·rw [hmod]
    exact h5.append (.cons ⟨rfl, hv⟩ h6)
   ·have := hok.keys
    simpa using this
  ·have hd : del k (lpre ++ (k, x0) :: lpost) = lpre ++ lpost := nodup_split hok.keys
   have := del_perm (k := k) hp
   rw [hd] at this
   exact List.perm_middle.trans (this.cons _)
end
section
variable {κ : Type} [DecidableEq κ] {β : Type} {K : KE κ} {V : Value → β → Prop} {w w' : World} {m : Nat} {L : List (κ × β)}
theorem eraseIdx_mid {α : Type} (e : α) (post : List α) : ∀ pre : List α, (pre ++ e :: post).eraseIdx pre.length = pre ++ post
 | [] => by simp
 | x :: pre => by simp [eraseIdx_mid e post pre]
theorem EsOk.erase {es : Array MapEntry} {c : Nat} {pre post : List MapEntry} {e' : MapEntry} {lpre lpost : List (κ × β)} {x : κ × β} (hok : EsOk K V es c (lpre ++ x :: lpost))
  (hes : es.toList = pre ++ e' :: post) (h5 : All2 (EntOk K V) pre lpre) (h6 : All2 (EntOk K V) post lpost) : EsOk K V (es.eraseIdxIfInBounds pre.length) c (lpre ++ lpost) := by
 have hlist : (es.eraseIdxIfInBounds pre.length).toList = pre ++ post := by
  rw [Array.toList_eraseIdxIfInBounds, hes, eraseIdx_mid]
 have hb := hok.born
 have hn := hok.nodup
 have hk := hok.keys
 rw [hes] at hb hn
 refine ⟨?_, ?_, by rw [hlist]; exact h5.append h6, ?_⟩
 ·intro y hy
  rw [hlist] at hy
  refine hb y ?_
  simp only [List.mem_append, List.mem_cons] at hy ⊢
  rcases hy with hy | hy
  ·exact .inl hy
  ·exact .inr (.inr hy)
 ·rw [hlist]
  refine hn.sublist ?_
  simp only [List.map_append, List.map_cons]
  exact List.Sublist.append (List.Sublist.refl _) (List.sublist_cons_self _ _)
 ·refine hk.sublist ?_
  simp only [List.map_append, List.map_cons]
  exact List.Sublist.append (List.Sublist.refl _) (List.sublist_cons_self _ _)
theorem MapOf.delete {P : Program} {t kt e : TypeId} {ty : TypeId} {t2 : TypeId} (h : MapOf K V w m L) (ht : P.underlying t = some (.map kt e)) (hk : P.underlying kt = some K.kd) (k : κ) :
  ∃ w', (Builtin.delete_ #[t, t2] ty #[.map (some m), K.enc k]).run P w = .ok (.tuple #[]) w' ∧ Upd (fun b => b = m) w w' ∧ w'.heap.size = w.heap.size ∧ MapOf K V w' m (del k L) := by
 obtain ⟨es, c, l, hm, hok, hp⟩ := h
 have hlt := lt_of_heap hm
 have hc : ∀ b, (Instr.checkKey b 10000 kt (K.enc k)).run P w = .ok () w := fun b => checkKey_run hk b k 9999 w
 have hg := get_perm (k := k) hp hok.keys
 rcases findNow_spec k 0 hok.ents with ⟨h1, h2⟩ | ⟨x0, j, e', pre, post, lpre, lpost, h1, hes, rfl, rfl, h5, h6, h7, h8, h9⟩
 ·refine ⟨{ w with heap := w.heap.setIfInBounds m (.map es c) }, ?_, setObj_upd, by simp, es, c, l, setObj_at hlt, hok, ?_⟩
  ·simp only [Builtin.delete_, List.getElem?_toArray, List.getElem?_cons_zero, List.getElem?_cons_succ, Sem.run_bind, run_underlying' ht, Result.andThen, run_getObj_map hm, hc, findKey_run hk h2,
    run_setObj hm (show ∀ a b c', Obj.map es c ≠ .cells a b c' by intros; simp)]
   rfl
  ·rw [del_none (hg ▸ h1)]; exact hp
 ·refine ⟨{ w with heap := w.heap.setIfInBounds m (.map (es.eraseIdxIfInBounds pre.length) c) }, ?_, setObj_upd, by simp, _, c, lpre ++ lpost, setObj_at hlt, hok.erase hes h5 h6, ?_⟩
  ·rw [Nat.zero_add] at h9
   simp only [Builtin.delete_, List.getElem?_toArray, List.getElem?_cons_zero, List.getElem?_cons_succ, Sem.run_bind, run_underlying' ht, Result.andThen, run_getObj_map hm, hc, findKey_run hk h9,
    run_setObj hm (show ∀ a b c', Obj.map es c ≠ .cells a b c' by intros; simp)]
   rfl
  ·have := del_perm (k := k) hp
   rwa [nodup_split hok.keys] at this
theorem MapOf.clear {P : Program} {t kt e : TypeId} {ty : TypeId} (h : MapOf K V w m L) (ht : P.underlying t = some (.map kt e)) :
  ∃ w', (Builtin.clear_ #[t] ty #[.map (some m)]).run P w = .ok (.tuple #[]) w' ∧ Upd (fun b => b = m) w w' ∧ w'.heap.size = w.heap.size ∧ MapOf K V w' m [] := by
 obtain ⟨es, c, l, hm, hok, hp⟩ := h
 refine ⟨{ w with heap := w.heap.setIfInBounds m (.map #[] c) }, ?_, setObj_upd, by simp, #[], c, [], setObj_at (lt_of_heap hm), ⟨by simp, by simp, .nil, by simp⟩, .nil⟩
 simp only [Builtin.clear_, List.getElem?_toArray, List.getElem?_cons_zero, Sem.run_bind, run_underlying' ht, Result.andThen, run_getObj_map hm,
    run_setObj hm (show ∀ a b c', Obj.map es c ≠ .cells a b c' by intros; simp)]
 rfl
theorem All2.zip {α γ : Type} {R : α → γ → Prop} {as : List α} {bs : List γ} (h : All2 R as bs) : ∃ ps : List (α × γ), as = ps.map (·.1) ∧ bs = ps.map (·.2) ∧ ∀ p ∈ ps, R p.1 p.2 := by
 induction h with
 | nil => exact ⟨[], rfl, rfl, by simp⟩
 | @cons a b as bs h1 _ ih =>
  obtain ⟨ps, rfl, rfl, h2⟩ := ih
  exact ⟨(a, b) :: ps, rfl, rfl, by
   intro p hp
   rcases List.mem_cons.1 hp with rfl | hp
   ·exact h1
   ·exact h2 p hp⟩
theorem All2.of_zip {α γ : Type} {R : α → γ → Prop} : ∀ {ps : List (α × γ)}, (∀ p ∈ ps, R p.1 p.2) → All2 R (ps.map (·.1)) (ps.map (·.2))
 | [], _ => .nil
 | p :: _, h => .cons (h p List.mem_cons_self) (All2.of_zip fun q hq => h q (List.mem_cons_of_mem _ hq))
def ItOf (K : KE κ) (V : Value → β → Prop) (w : World) (it m : Nat) (L rest : List (κ × β)) : Prop :=
 ∃ es clock seen last, ∃ ps : List (MapEntry × (κ × β)), w.heap[it]? = some (.mapIter (some m) clock seen last) ∧ w.heap[m]? = some (.map es clock) ∧ es.toList = ps.map (·.1) ∧
  EsOk K V es clock (ps.map (·.2)) ∧ (ps.map (·.2)).Perm L ∧ (∀ p ∈ ps, EntOk K V p.1 p.2) ∧ (seen = #[] ∨ last = clock) ∧ ((ps.filter fun p => !seen.contains p.1.born).map (·.2)).Perm rest
def ItAt (K : KE κ) (V : Value → β → Prop) (w : World) (it m : Nat) (L rest : List (κ × β)) (k : κ) (x : β) (v : Value) : Prop :=
 ∃ es clock seen, ∃ ps : List (MapEntry × (κ × β)), ∃ cur, w.heap[it]? = some (.mapIter (some m) clock seen clock) ∧ w.heap[m]? = some (.map es clock) ∧ es.toList = ps.map (·.1) ∧
  EsOk K V es clock (ps.map (·.2)) ∧ (ps.map (·.2)).Perm L ∧ (∀ p ∈ ps, EntOk K V p.1 p.2) ∧ ((ps.filter fun p => !seen.contains p.1.born).map (·.2)).Perm rest ∧
  (cur, (k, x)) ∈ ps ∧ seen.back? = some cur.born ∧ cur.val = v
theorem ItAt.toIt {it : Nat} {rest : List (κ × β)} {k : κ} {x : β} {v : Value} (h : ItAt K V w it m L rest k x v) : ItOf K V w it m L rest := by
 obtain ⟨es, c, seen, ps, cur, h1, h2, h3, h4, h5, h6, h7, _⟩ := h
 exact ⟨es, c, seen, c, ps, h1, h2, h3, h4, h5, h6, .inr rfl, h7⟩
theorem ItAt.entry {it : Nat} {rest : List (κ × β)} {k : κ} {x : β} {v : Value} (h : ItAt K V w it m L rest k x v) : V v x ∧ (k, x) ∈ L := by
 obtain ⟨es, c, seen, ps, cur, h1, h2, h3, h4, h5, h6, h7, h8, h9, rfl⟩ := h
 exact ⟨(h6 _ h8).2, h5.mem_iff.1 (List.mem_map.2 ⟨_, h8, rfl⟩)⟩
theorem ItOf.map {it : Nat} {rest : List (κ × β)} (h : ItOf K V w it m L rest) : MapOf K V w m L := by
 obtain ⟨es, c, seen, last, ps, h1, h2, h3, h4, h5, _⟩ := h
 exact ⟨es, c, _, h2, h4, h5⟩
theorem ItOf.upd {it : Nat} {rest : List (κ × β)} {S : Nat → Prop} (h : ItOf K V w it m L rest) (hu : Upd S w w') (h1 : ¬ S it) (h2 : ¬ S m) : ItOf K V w' it m L rest := by
 obtain ⟨es, c, seen, last, ps, g1, g2, g3⟩ := h
 exact ⟨es, c, seen, last, ps, hu.keep g1 h1, hu.keep g2 h2, g3⟩
theorem ItAt.upd {it : Nat} {rest : List (κ × β)} {k : κ} {x : β} {v : Value} {S : Nat → Prop} (h : ItAt K V w it m L rest k x v) (hu : Upd S w w') (h1 : ¬ S it) (h2 : ¬ S m) : ItAt K V w' it m L rest k x v := by
 obtain ⟨es, c, seen, ps, cur, g1, g2, g3⟩ := h
 exact ⟨es, c, seen, ps, cur, hu.keep g1 h1, hu.keep g2 h2, g3⟩
theorem ItOf.mono {V' : Value → β → Prop} {it : Nat} {rest : List (κ × β)} (h : ItOf K V w it m L rest) (hv : ∀ v x, V v x → V' v x) : ItOf K V' w it m L rest := by
 obtain ⟨es, c, seen, last, ps, g1, g2, g3, ⟨a1, a2, a3, a4⟩, g5, g6, g7⟩ := h
 exact ⟨es, c, seen, last, ps, g1, g2, g3, ⟨a1, a2, a3.mono fun e x h => ⟨h.1, hv _ _ h.2⟩, a4⟩, g5, fun p hp => ⟨(g6 p hp).1, hv _ _ (g6 p hp).2⟩, g7⟩
theorem ItOf.ne {it : Nat} {rest : List (κ × β)} (h : ItOf K V w it m L rest) : it ≠ m ∧ it < w.heap.size := by
 obtain ⟨es, c, seen, last, ps, h1, h2, _⟩ := h
 refine ⟨?_, lt_of_heap h1⟩
 rintro rfl
 rw [h1] at h2
 simp at h2
theorem ItOf.made {es : Array MapEntry} {c : Nat} {it : Nat} (h : MapOf K V w m L) (hi : mapIs w (some m) es c) (hn : NewB w it (.mapIter (some m) c #[] c) w') :
  ItOf K V w' it m L L := by
 obtain ⟨es', c', l, hm, hok, hp⟩ := h
 have : some (Obj.map es c) = some (.map es' c') := by rw [← hm]; exact hi.symm
 simp only [Option.some.injEq, Obj.map.injEq] at this
 obtain ⟨rfl, rfl⟩ := this
 obtain ⟨ps, h1, rfl, h2⟩ := hok.ents.zip
 refine ⟨es, c, #[], c, ps, hn.at, hn.ext.keep hm, h1, hok, hp, h2, .inl rfl, ?_⟩
 have : (ps.filter fun p => !(#[] : Array Nat).contains p.1.born) = ps := by
  rw [List.filter_eq_self]; intro e _; simp
 rw [this]
 exact hp
theorem ItAt.entryAt {P : Program} {it : Nat} {rest : List (κ × β)} {k : κ} {x : β} {v : Value} (h : ItAt K V w it m L rest k x v) : entryAt P (.pointer (some (at0 it))) w (K.enc k) v := by
 obtain ⟨es, c, seen, ps, cur, h1, h2, h3, h4, h5, h6, h7, h8, h9, rfl⟩ := h
 have hmem : cur ∈ es.toList := by rw [h3]; exact List.mem_map.2 ⟨_, h8, rfl⟩
 have hfind : es.find? (·.born == cur.born) = some cur := by
  rw [← Array.find?_toList]
  have hn := h4.nodup
  generalize es.toList = l at hmem hn
  induction l with
  | nil => cases hmem
  | cons y l ih =>
   simp only [List.map_cons, List.nodup_cons] at hn
   rcases List.mem_cons.1 hmem with rfl | hm
   ·simp
   ·have : y.born ≠ cur.born := fun e => hn.1 (List.mem_map.2 ⟨cur, hm, e.symm⟩)
    rw [List.find?_cons_of_neg (by simpa using this)]
    exact ih hm hn.2
 unfold Go.Vc.entryAt
 simp only [Instr.entry, Sem.run_bind, run_getObj_iter h1, Result.andThen, run_getObj_map h2, h9]
 rw [if_neg (by simp)]
 rw [hfind, ← (h6 _ h8).1]
 rfl
theorem filter_split {α : Type} (p : α → Bool) : ∀ {l : List α} {x : α}, x ∈ l → p x = true → ∃ pre post, l.filter p = pre ++ x :: post ∧ ∀ (q : α → Bool), (∀ y, q y = true → p y = true) → q x = false →
  (∀ y ∈ pre, q y = true) → (∀ y ∈ post, q y = true) → l.filter q = pre ++ post := by
 intro l
 intro x hx hp
 have hm : x ∈ l.filter p := List.mem_filter.2 ⟨hx, hp⟩
 obtain ⟨pre, post, h⟩ := List.append_of_mem hm
 refine ⟨pre, post, h, fun q hq hqx h1 h2 => ?_⟩
 have e : l.filter q = (l.filter p).filter q := by
  rw [List.filter_filter]
  apply List.filter_congr
  intro y _
  cases hy : q y
  ·simp
  ·simp [hq y hy]
 rw [e, h, List.filter_append, List.filter_cons_of_neg (by simp [hqx]), List.filter_eq_self.2 h1, List.filter_eq_self.2 h2]
theorem ItOf.next {it : Nat} {rest : List (κ × β)} (h : ItOf K V w it m L rest) {T : Value → Value → World → Prop} {E : World → Prop}
  (hT : ∀ k x v rest' w', rest.Perm ((k, x) :: rest') → Upd (fun b => b = it) w w' → w'.heap.size = w.heap.size → ItAt K V w' it m L rest' k x v → T (K.enc k) v w')
  (hE : rest = [] → ∀ w', Quiet w w' → E w') : nextB w (at0 it) T E := by
 obtain ⟨es, c, seen, last, ps, h1, h2, hes, hok, hp, hent, hl, hpr⟩ := h
 refine ⟨rfl, some m, c, seen, last, h1, (by intro e; cases e), fun r' hr' => ?_⟩
 simp only [Option.some.injEq] at hr'
 subst hr'
 refine ⟨es, c, h2, ?_, ?_, ?_⟩
 ·rcases hl with rfl | rfl
  ·exact .inl rfl
  ·by_cases he : es = #[]
   ·exact .inr (.inl he)
   ·have : 0 < es.size := Array.size_pos_iff.2 he
    exact .inr (.inr ⟨es[0], Array.getElem_mem this, hok.born _ (by simp)⟩)
 ·intro e he hns d
  have he' : e ∈ es.toList := by simpa using he
  rw [hes] at he'
  obtain ⟨⟨e', k, x⟩, hps, rfl⟩ := List.mem_map.1 he'
  obtain ⟨pre, post, hf, hq⟩ := filter_split (fun p : MapEntry × (κ × β) => !seen.contains p.1.born) hps (by simpa using hns)
  have hnd : ((ps.filter fun p => !seen.contains p.1.born).map (·.1.born)).Nodup := by
   have := hok.nodup
   rw [hes, List.map_map] at this
   exact this.sublist (List.filter_sublist.map _)
  rw [hf, List.map_append, List.map_cons, List.nodup_append] at hnd
  have hf' : ps.filter (fun p => !(seen.push e'.born).contains p.1.born) = pre ++ post := by
   refine hq _ ?_ ?_ ?_ ?_
   ·intro y hy
    simp only [Bool.not_eq_true', Array.contains_eq_mem, Array.mem_push, decide_eq_false_iff_not, not_or] at hy ⊢
    exact hy.1
   ·simp
   ·intro y hy
    have hyf : y ∈ ps.filter fun p => !seen.contains p.1.born := by rw [hf]; exact List.mem_append_left _ hy
    have h3 := (List.mem_filter.1 hyf).2
    have h4 : y.1.born ≠ e'.born := hnd.2.2 y.1.born (List.mem_map.2 ⟨y, hy, rfl⟩) e'.born List.mem_cons_self
    simp only [Bool.not_eq_true', Array.contains_eq_mem, Array.mem_push, decide_eq_false_iff_not, not_or] at h3 ⊢
    exact ⟨h3, h4⟩
   ·intro y hy
    have hyf : y ∈ ps.filter fun p => !seen.contains p.1.born := by rw [hf]; exact List.mem_append_right _ (List.mem_cons_of_mem _ hy)
    have h3 := (List.mem_filter.1 hyf).2
    have h4 : y.1.born ≠ e'.born := by
     intro e1
     have := hnd.2.1
     simp only [List.nodup_cons] at this
     exact this.1 (List.mem_map.2 ⟨y, hy, e1⟩)
    simp only [Bool.not_eq_true', Array.contains_eq_mem, Array.mem_push, decide_eq_false_iff_not, not_or] at h3 ⊢
    exact ⟨h3, h4⟩
  have hit : it ≠ m := by
   rintro rfl
   rw [h1] at h2
   simp at h2
  have hk := (hent _ hps).1
  simp only at hk
  rw [hk]
  have hperm : rest.Perm ((k, x) :: (pre ++ post).map (·.2)) := by
   rw [hf, List.map_append, List.map_cons] at hpr
   rw [List.map_append]
   exact hpr.symm.trans List.perm_middle
  refine hT k x e'.val ((pre ++ post).map (·.2)) _ hperm ⟨rfl, rfl, rfl, by simp, fun b _ hb => ?_⟩ (by simp)
   ⟨es, c, seen.push e'.born, ps, e', ?_, ?_, hes, hok, hp, hent, by rw [hf'], hps, by simp, rfl⟩
  ·show (w.heap.setIfInBounds it _)[b]? = _
   rw [Array.getElem?_setIfInBounds_ne (fun e => hb e.symm)]
  ·show (w.heap.setIfInBounds it _)[it]? = _
   simp [lt_of_heap h1]
  ·show (w.heap.setIfInBounds it _)[m]? = _
   rw [Array.getElem?_setIfInBounds_ne hit]
   exact h2
 ·intro hall d
  refine hE ?_ _ ⟨rfl, rfl, rfl, rfl⟩
  have : (ps.filter fun p => !seen.contains p.1.born) = [] := by
   rw [List.filter_eq_nil_iff]
   intro p hp1 hns
   have hm : p.1 ∈ es.toList := by rw [hes]; exact List.mem_map.2 ⟨p, hp1, rfl⟩
   have h3 := hall p.1 (by simpa using hm) (by simpa using hns)
   have h4 := hok.born p.1 hm
   omega
  rw [this] at hpr
  exact hpr.symm.eq_nil
theorem ItAt.delete {P : Program} {t kt e : TypeId} {ty t2 : TypeId} {it : Nat} {rest : List (κ × β)} {k : κ} {x : β} {v : Value} (h : ItAt K V w it m L rest k x v)
  (ht : P.underlying t = some (.map kt e)) (hk : P.underlying kt = some K.kd) :
  ∃ w', (Builtin.delete_ #[t, t2] ty #[.map (some m), K.enc k]).run P w = .ok (.tuple #[]) w' ∧ Upd (fun b => b = m) w w' ∧ w'.heap.size = w.heap.size ∧ ItOf K V w' it m (del k L) rest := by
 have hne := h.toIt.ne
 obtain ⟨es, c, seen, ps, cur, h1, h2, hes, hok, hp, hent, hpr, hcur, hback, rfl⟩ := h
 have hc : ∀ b, (Instr.checkKey b 10000 kt (K.enc k)).run P w = .ok () w := fun b => checkKey_run hk b k 9999 w
 obtain ⟨pre, post, rfl⟩ := List.append_of_mem hcur
 have hents : All2 (EntOk K V) es.toList ((pre ++ (cur, (k, x)) :: post).map (·.2)) := hok.ents
 rcases findNow_spec k 0 hents with ⟨h3, _⟩ | ⟨x0, j, e', pe, po, lpre, lpost, h3, he, hl, rfl, h5, h6, h7, h8, h9⟩
 ·exfalso
  rw [get_none] at h3
  exact h3 (by simp)
 ·
  have hkeys := hok.keys
  have hlen : pe.length = pre.length := by
   have hll : pe.length = lpre.length := h5.length
   simp only [List.map_append, List.map_cons] at hl hkeys
   rw [hll]
   have key : ∀ (a b c d : List (κ × β)) (y y' : β), a ++ (k, y) :: b = c ++ (k, y') :: d → ((a ++ (k, y) :: b).map (·.1)).Nodup → c.length = a.length := by
    intro a
    induction a with
    | nil =>
     intro b c d y y' h hn
     cases c with
     | nil => rfl
     | cons z c =>
      simp only [List.nil_append, List.cons_append, List.cons.injEq] at h
      simp only [List.nil_append, List.map_cons, List.nodup_cons] at hn
      exact (hn.1 (by rw [h.2]; simp)).elim
    | cons q a ih =>
     intro b c d y y' h hn
     cases c with
     | nil =>
      simp only [List.nil_append, List.cons_append, List.cons.injEq] at h
      simp only [List.cons_append, List.map_cons, List.nodup_cons] at hn
      exact (hn.1 (by rw [h.1]; simp)).elim
     | cons z c =>
      simp only [List.cons_append, List.cons.injEq] at h
      simp only [List.cons_append, List.map_cons, List.nodup_cons] at hn
      simp [ih _ _ _ _ _ h.2 hn.2]
   have := key _ _ _ _ _ _ hl (by simpa using hkeys)
   simpa using this
  have hes' : es.toList = pre.map (·.1) ++ cur :: post.map (·.1) := by rw [hes]; simp
  have hlen' : pe.length = (pre.map (·.1)).length := by simpa using hlen
  have herase : (es.eraseIdxIfInBounds pe.length).toList = (pre ++ post).map (·.1) := by
   rw [Array.toList_eraseIdxIfInBounds, hes', hlen', eraseIdx_mid, List.map_append]
  have hok2 : EsOk K V (es.eraseIdxIfInBounds pe.length) c ((pre ++ post).map (·.2)) := by
   have hok' : EsOk K V es c (pre.map (·.2) ++ (k, x) :: post.map (·.2)) := by simpa using hok
   rw [hlen', List.map_append]
   exact hok'.erase hes' (All2.of_zip fun p hp => hent p (List.mem_append_left _ hp)) (All2.of_zip fun p hp => hent p (List.mem_append_right _ (List.mem_cons_of_mem _ hp)))
  refine ⟨{ w with heap := w.heap.setIfInBounds m (.map (es.eraseIdxIfInBounds pe.length) c) }, ?_, setObj_upd, by simp, _, c, seen, c, pre ++ post, ?_, setObj_at (lt_of_heap h2), herase, hok2, ?_,
   fun p hp => hent p ?_, .inr rfl, ?_⟩
  ·rw [Nat.zero_add] at h9
   simp only [Builtin.delete_, List.getElem?_toArray, List.getElem?_cons_zero, List.getElem?_cons_succ, Sem.run_bind, run_underlying' ht, Result.andThen, run_getObj_map h2, hc, findKey_run hk h9,
    run_setObj h2 (show ∀ a b c', Obj.map es c ≠ .cells a b c' by intros; simp)]
   rfl
  ·show (w.heap.setIfInBounds m _)[it]? = _
   rw [Array.getElem?_setIfInBounds_ne (fun e => hne.1 e.symm)]
   exact h1
  ·have hd : del k (pre.map (·.2) ++ (k, x) :: post.map (·.2)) = pre.map (·.2) ++ post.map (·.2) := nodup_split (by simpa using hkeys)
   have h10 := del_perm (k := k) hp
   simp only [List.map_append, List.map_cons] at h10
   rw [hd] at h10
   rw [List.map_append]
   exact h10
  ·rcases List.mem_append.1 hp with h | h
   ·exact List.mem_append_left _ h
   ·exact List.mem_append_right _ (List.mem_cons_of_mem _ h)
  ·have hseen : (!seen.contains cur.born) = false := by
    have : cur.born ∈ seen := Array.mem_of_back? hback
    simpa using this
   have hpr' := hpr
   rw [List.filter_append, List.filter_cons_of_neg (by simpa using hseen)] at hpr'
   rw [List.filter_append]
   exact hpr'
end
end Go.Vc
