import Derived.Test.YtkolafpgbhpdlaaGreatVcB
namespace Go.Vc
open Go
def lget : List Value → Nat → Value
 | [], _ => undef
 | v :: _, 0 => v
 | _ :: l, n + 1 => lget l n
def lset : List Value → Nat → Value → List Value
 | [], _, _ => []
 | _ :: l, 0, v => v :: l
 | x :: l, n + 1, v => x :: lset l n v
theorem lget_eq : ∀ (l : List Value) (n : Nat), lget l n = l[n]?.getD undef
 | [], _ => by simp [lget]
 | _ :: _, 0 => by simp [lget]
 | _ :: l, n + 1 => by simp [lget, lget_eq l n]
theorem lset_eq : ∀ (l : List Value) (n : Nat) (v : Value), lset l n v = l.set n v
 | [], _, _ => by simp [lset]
 | _ :: _, 0, _ => by simp [lset]
 | _ :: l, n + 1, v => by simp [lset, lset_eq l n v]
theorem lset_length (l : List Value) (n : Nat) (v : Value) : (lset l n v).length = l.length := by simp [lset_eq]
theorem lget_lset_ne {l : List Value} {n m : Nat} {v : Value} (h : n ≠ m) : lget (lset l n v) m = lget l m := by
 simp [lget_eq, lset_eq, List.getElem?_set_ne h]
theorem lget_lset_self {l : List Value} {n : Nat} {v : Value} (h : n < l.length) : lget (lset l n v) n = v := by
 simp [lget_eq, lset_eq, h]
def actOf (ds : List Deferred) (env : List Value) : Act := ⟨env.toArray, ds⟩
variable {ds : List Deferred}
def evL (env : List Value) : Operand → Value
 | .tmp t => lget env t
 | .const v => v
 | .global g => .pointer (some ⟨g, 0, none⟩)
 | .func f => .func (.func f) #[] #[]
theorem evL_eq (env : List Value) : (actOf ds env).eval = evL env := by
 funext x
 cases x <;> simp [actOf, Act.eval, evL, lget_eq]
def putL (env : List Value) (dst : Option Nat) (v : Value) : List Value :=
 match dst with
 | some d => lset env d v
 | none => env
theorem putL_eq (env : List Value) (dst : Option Nat) (v : Value) : (actOf ds env).put dst v = actOf ds (putL env dst v) := by
 cases dst <;> simp [actOf, Act.put, putL, lset_eq]
theorem putL_length (env : List Value) (dst : Option Nat) (v : Value) : (putL env dst v).length = env.length := by
 cases dst <;> simp [putL, lset_length]
def gProd (ops : List Oper) (i : Nat) : Bool := ops.any fun o => match o.guard with | some (j, _) => Nat.beq j i | none => false
def splitB (v : Value) (F : Value → Prop) : Prop :=
 match v with
 | .bool c => condB c (F (.bool true)) (F (.bool false))
 | v => F v
def finB (g : Bool) (v : Value) (F : Value → Prop) : Prop :=
 match g with
 | true => splitB v F
 | false => F v
theorem finB_elim {g : Bool} {v : Value} {F : Value → Prop} (h : finB g v F) : F v := by
 cases g
 ·exact h
 ·unfold finB splitB at h
  cases v with
  | bool c => cases c <;> exact h
  | _ => exact h
def wantedL (ops : List Oper) (o : Oper) (env : List Value) : Bool :=
 match o.guard with
 | none => true
 | some (j, want) => match ops[j]? with
  | some g => match g.dst with
   | some d => match lget env d with
    | .bool b => match want with
     | true => b
     | false => !b
    | _ => false
   | none => false
  | none => false
theorem wantedL_eq (ops : List Oper) (o : Oper) (env : List Value) :
  Region.wanted o (yielded ops.toArray env.toArray) = wantedL ops o env := by
 unfold Region.wanted wantedL
 cases hg : o.guard with
 | none => rfl
 | some jw =>
  obtain ⟨j, want⟩ := jw
  simp only [yielded, List.getElem?_toArray]
  cases hj : ops[j]? with
  | none => simp
  | some g =>
   cases hd : g.dst with
   | none => simp [hd]
   | some d =>
    simp only [Option.bind_some, hd, lget_eq]
    cases hv : env[d]? with
    | none => simp [undef]
    | some v =>
     cases v <;> simp
     rename_i b
     cases b <;> cases want <;> rfl
def readW (P : Program) (ops : List Oper) (g : Bool) (o : Oper) (env : List Value) (w : World) (K : Value → Prop) : Prop :=
 match clsOf P o.op with
 | .pure => pureW P o.op (evL env) fun v => finB g v K
 | .mem => condB (match o.op with | .load t _ => (P.underlying t).isSome | _ => true) (memW P ops o.dst o.op (evL env) w fun v => finB g v K) False
 | .eff => False
theorem readW_sound {P : Program} {ops : List Oper} {g : Bool} {o : Oper} {env : List Value} {w : World} {K : Value → Prop} (h : readW P ops g o env w K) :
  ∃ v, K v ∧ (execOp (evL env) o).run P w = .ok (.value v) w ∧ (clsOf P o.op = .pure → ∀ w', (execOp (evL env) o).run P w' = .ok (.value v) w') := by
 unfold readW at h
 split at h
 ·obtain ⟨v, hK, hr⟩ := pureW_sound h
  exact ⟨v, finB_elim hK, hr w, fun _ => hr⟩
 ·rename_i hc
  rcases condB_elim h with ⟨hl, h⟩ | ⟨_, h⟩
  ·obtain ⟨v, hK, hr⟩ := memW_sound (by
    intro t a ho hn
    rw [ho] at hl
    simp [hn] at hl) h
   exact ⟨v, finB_elim hK, hr, fun hp => by rw [hc] at hp; cases hp⟩
  ·exact h.elim
 ·exact h.elim
def opW (P : Program) (ops : List Oper) (g : Bool) (o : Oper) (env : List Value) (w : World) (next : List Value → World → Prop) : Prop :=
 condB (wantedL ops o env)
  (match clsOf P o.op with
   | .eff => effW P o.op o.type (evL env) w fun v w' => finB g v fun v => next (putL env o.dst v) w'
   | _ => readW P ops g o env w fun v => next (putL env o.dst v) w)
  (next (putL env o.dst undef) w)
def opsW (P : Program) (ops : List Oper) : List Oper → Nat → List Value → World → (List Value → World → Prop) → Prop
 | [], _, env, w, K => K env w
 | o :: rest, i, env, w, K => opW P ops (gProd ops i) o env w fun env' w' => opsW P ops rest (i + 1) env' w' K
def up (ds : List Deferred) (Q : Exit → List Value → World → Prop) : Exit → Act → World → Prop := fun e a w => ∃ env, a = actOf ds env ∧ Q e env w
theorem opW_sound {P : Program} (hP : CallsOk P) {ops : List Oper} {g : Bool} {o : Oper} {env : List Value} {w : World} {next : List Value → World → Prop}
  {Q : Exit → Act → World → Prop} (h : opW P ops g o env w next) :
  if Region.wanted o (yielded ops.toArray (actOf ds env).tmps) then o.wp P (actOf ds env) w (fun a w => ∃ env', a = actOf ds env' ∧ (∃ v, env' = putL env o.dst v) ∧ next env' w) Q
  else (∃ env', (actOf ds env).put o.dst undef = actOf ds env' ∧ (∃ v, env' = putL env o.dst v) ∧ next env' w) := by
 have hw : Region.wanted o (yielded ops.toArray (actOf ds env).tmps) = wantedL ops o env := wantedL_eq ops o env
 rw [hw]
 rcases condB_elim h with ⟨hb, h⟩ | ⟨hb, h⟩
 ·rw [if_pos hb]
  split at h
  ·exact effW_sound hP (by rw [evL_eq]) (fun v w' hf => ⟨_, putL_eq _ _ _, ⟨v, rfl⟩, finB_elim hf⟩) h
  ·obtain ⟨v, hK, hr, _⟩ := readW_sound h
   rw [← evL_eq] at hr
   unfold Oper.wp
   rw [hr, Oper.upon_value]
   exact ⟨_, putL_eq _ _ _, ⟨v, rfl⟩, hK⟩
 ·rw [hb, if_neg (by simp)]
  exact ⟨_, putL_eq _ _ _, ⟨undef, rfl⟩, h⟩
def Frm (S : List Nat) (env env' : List Value) : Prop := env'.length = env.length ∧ ∀ i, i ∉ S → lget env' i = lget env i
theorem Frm.refl (S : List Nat) (env : List Value) : Frm S env env := ⟨rfl, fun _ _ => rfl⟩
theorem Frm.trans {S : List Nat} {a b c : List Value} (h : Frm S a b) (k : Frm S b c) : Frm S a c :=
 ⟨k.1.trans h.1, fun i hi => (k.2 i hi).trans (h.2 i hi)⟩
theorem Frm.mono {S T : List Nat} {a b : List Value} (h : Frm S a b) (hs : ∀ i, i ∈ S → i ∈ T) : Frm T a b :=
 ⟨h.1, fun i hi => h.2 i fun hm => hi (hs i hm)⟩
theorem Frm.put {S : List Nat} (env : List Value) (dst : Option Nat) (v : Value) (h : ∀ d, dst = some d → d ∈ S) : Frm S env (putL env dst v) := by
 refine ⟨putL_length _ _ _, fun i hi => ?_⟩
 cases dst with
 | none => rfl
 | some d => exact lget_lset_ne fun e => hi (e ▸ h d rfl)
def dstsL (ops : List Oper) : List Nat := ops.filterMap (·.dst)
def writes : Code → List Nat
 | .region _ ops _ => dstsL ops.toList
 | .seq a b => writes a ++ writes b
 | .cond _ a b => writes a ++ writes b
 | .block _ b => writes b
 | .loop b => writes b
 | .scope b => writes b
 | _ => []
def memL (n : Nat) : List Nat → Bool
 | [] => false
 | m :: l => Nat.beq m n || memL n l
def subL (a b : List Nat) : Bool := a.all fun n => memL n b
theorem memL_iff {n : Nat} : ∀ {l : List Nat}, memL n l = true ↔ n ∈ l
 | [] => by simp [memL]
 | m :: l => by
  simp only [memL, Bool.or_eq_true, memL_iff (l := l), List.mem_cons]
  constructor
  ·rintro (h | h)
   ·exact .inl (Nat.eq_of_beq_eq_true h).symm
   ·exact .inr h
  ·rintro (rfl | h)
   ·exact .inl (Nat.beq_refl _)
   ·exact .inr h
theorem subL_sub {a b : List Nat} (h : subL a b = true) : ∀ i, i ∈ a → i ∈ b := by
 intro i hi
 simp only [subL, List.all_eq_true] at h
 exact memL_iff.1 (h i hi)
def upF (ds : List Deferred) (S : List Nat) (env : List Value) (Q : Exit → List Value → World → Prop) : Exit → Act → World → Prop :=
 fun e a w => ∃ env', a = actOf ds env' ∧ Frm S env env' ∧ Q e env' w
theorem opsW_sound {P : Program} (hP : CallsOk P) {ops : List Oper} {Q : Exit → List Value → World → Prop} {S : List Nat} {env0 : List Value} :
  ∀ (rest : List Oper) (i : Nat) (env : List Value) (w : World), (∀ o ∈ rest, ∀ d, o.dst = some d → d ∈ S) → Frm S env0 env →
  opsW P ops rest i env w (Q .normal) → wpList P ops.toArray (upF ds S env0 Q) rest (actOf ds env) w := by
 intro rest
 induction rest with
 | nil => intro i env w _ hf h; exact ⟨env, rfl, hf, h⟩
 | cons o rest ih =>
  intro i env w hS hf h
  have h1 := opW_sound (ds := ds) hP (Q := upF ds S env0 Q) h
  unfold wpList
  split
  ·rename_i hw
   rw [if_pos hw] at h1
   refine .inl (Oper.wp_mono ?_ h1)
   rintro a w' ⟨env', rfl, ⟨v, rfl⟩, hn⟩
   exact ih _ _ _ (fun o ho => hS o (List.mem_cons_of_mem _ ho)) (hf.trans (Frm.put _ _ _ (hS o List.mem_cons_self))) hn
  ·rename_i hw
   rw [if_neg hw] at h1
   obtain ⟨env', he, ⟨v, rfl⟩, hn⟩ := h1
   rw [he]
   exact ih _ _ _ (fun o ho => hS o (List.mem_cons_of_mem _ ho)) (hf.trans (Frm.put _ _ _ (hS o List.mem_cons_self))) hn
def dirMask (o : Oper) : Nat := o.after.toList.foldl (fun m e => match Region.binds .any e with | true => m ||| 2 ^ e.on | false => m) 0
def ancsGo : List Oper → List Nat → List Nat
 | [], acc => acc
 | o :: rest, acc =>
  ancsGo rest (acc ++ [o.after.toList.foldl (fun m e => match Region.binds .any e with | true => m ||| 2 ^ e.on ||| acc.getD e.on 0 | false => m) 0])
def isEff (P : Program) (o : Oper) : Bool := match clsOf P o.op with | .eff => true | _ => false
def looksL (ops : List Oper) (o : Oper) : List Nat :=
 (o.op.operands.toList.filterMap fun | .tmp t => some t | _ => none) ++
 (match o.guard with
  | some (g, _) => ((ops[g]?).bind (·.dst)).toList
  | none => [])
def flagsOf (P : Program) (ops : List Oper) (ancs : List Nat) : List Bool :=
 ops.zipIdx.map fun (o, i) => isEff P o || (match o.dst with
  | some d => ops.zipIdx.any fun (x, j) => memL d (looksL ops x) && (ancs.getD i 0).testBit j
  | none => false)
def drawOk (P : Program) (ops : List Oper) (ancs : List Nat) (fl : List Bool) : Bool :=
 Nat.beq ancs.length ops.length &&
 ops.zipIdx.all fun (o, j) =>
  (fl.getD j true || !isEff P o) && (match o.op with | .select _ _ => false | _ => true) &&
  (o.after.toList.all fun e => match Region.binds .any e with | true => Nat.blt e.on j && (ancs.getD j 0).testBit e.on | false => true) &&
  (List.range ops.length).all fun i =>
   (match (ancs.getD j 0).testBit i with
    | true => o.after.toList.any fun e => Region.binds .any e && Nat.blt e.on j && (Nat.beq e.on i || (ancs.getD e.on 0).testBit i)
    | false => true) &&
   (match ops[i]? with
    | some x => match x.dst with
     | some d => (Nat.beq i j && !memL d (looksL ops o)) || !(memL d (looksL ops o) || (match o.dst with | some d' => Nat.beq d d' | none => false)) ||
       (ancs.getD j 0).testBit i || (fl.getD i true && (ancs.getD i 0).testBit j)
     | none => true
    | none => true)
def readyL (M : Nat) (o : Oper) (i : Nat) : Bool := !M.testBit i && Nat.beq (dirMask o &&& M) (dirMask o)
def firstRead (fl : List Bool) (M : Nat) : List Oper → Nat → Option (Nat × Oper)
 | [], _ => none
 | o :: rest, i => match readyL M o i && !fl.getD i true with
  | true => some (i, o)
  | false => firstRead fl M rest (i + 1)
def readyEffs (fl : List Bool) (M : Nat) : List Oper → Nat → List (Nat × Oper)
 | [], _ => []
 | o :: rest, i => match readyL M o i && fl.getD i true with
  | true => (i, o) :: readyEffs fl M rest (i + 1)
  | false => readyEffs fl M rest (i + 1)
def allE (l : List (Nat × Oper)) (F : Nat → Oper → Prop) : Prop :=
 match l with
 | [] => True
 | [(i, o)] => F i o
 | (i, o) :: rest => F i o ∧ allE rest F
def stabW (P : Program) (ops : List Oper) (fl : List Bool) (M anc : Nat) : List Oper → Nat → List Value → World → Prop → Prop
 | [], _, _, _, K => K
 | r :: rest, i, env, w, K =>
  match M.testBit i && !anc.testBit i && !fl.getD i true && (match clsOf P r.op with | .mem => true | _ => false) with
  | true => condB (wantedL ops r env) ((readW P ops false r env w fun v => v = (match r.dst with | some d => lget env d | none => v)) ∧ stabW P ops fl M anc rest (i + 1) env w K) (stabW P ops fl M anc rest (i + 1) env w K)
  | false => stabW P ops fl M anc rest (i + 1) env w K
def drawW (P : Program) (ops : List Oper) (ancs : List Nat) (fl : List Bool) : Nat → Nat → List Value → World → (List Value → World → Prop) → Prop
 | 0, _, _, _, _ => False
 | fuel + 1, M, env, w, K =>
  match firstRead fl M ops 0 with
  | some (i, o) => opW P ops (gProd ops i) o env w fun env' _ => drawW P ops ancs fl fuel (M ||| 2 ^ i) env' w K
  | none => match Nat.beq M (2 ^ ops.length - 1) with
   | true => K env w
   | false => allE (readyEffs fl M ops 0) fun i o =>
     opW P ops (gProd ops i) o env w fun env' w' => stabW P ops fl M (ancs.getD i 0) ops 0 env' w' (drawW P ops ancs fl fuel (M ||| 2 ^ i) env' w' K)
theorem band_true {a b : Bool} (h : (a && b) = true) : a = true ∧ b = true := by simpa using h
structure DrawOk (P : Program) (ops : List Oper) (ancs : List Nat) (fl : List Bool) : Prop where
 flag : ∀ (j : Nat) (o : Oper), ops[j]? = some o → fl.getD j true = false → isEff P o = false
 sel : ∀ (j : Nat) (o : Oper), ops[j]? = some o → ∀ cs b, o.op ≠ .select cs b
 edge : ∀ (j : Nat) (o : Oper), ops[j]? = some o → ∀ e ∈ o.after, Region.binds .any e = true → e.on < j
 anc : ∀ (j i : Nat) (o : Oper), ops[j]? = some o → i < ops.length → (ancs.getD j 0).testBit i = true →
  ∃ e ∈ o.after, Region.binds .any e = true ∧ e.on < j ∧ (e.on = i ∨ (ancs.getD e.on 0).testBit i = true)
 slot : ∀ (i j : Nat) (x o : Oper) (d : Nat), ops[i]? = some x → ops[j]? = some o → x.dst = some d → (d ∈ looksL ops o ∨ (i ≠ j ∧ o.dst = some d)) →
  (ancs.getD j 0).testBit i = true ∨ (fl.getD i true = true ∧ (ancs.getD i 0).testBit j = true)
theorem drawOk_spec {P : Program} {ops : List Oper} {ancs : List Nat} {fl : List Bool} (h : drawOk P ops ancs fl = true) : DrawOk P ops ancs fl := by
 obtain ⟨_, h⟩ := band_true h
 simp only [List.all_eq_true] at h
 have key : ∀ (j : Nat) (o : Oper), ops[j]? = some o → _ := fun j o hj => h (o, j) (by
  rw [List.mem_zipIdx_iff_getElem?]; exact hj)
 refine ⟨?_, ?_, ?_, ?_, ?_⟩
 ·intro j o hj hf
  have := (band_true (band_true (band_true (key j o hj)).1).1).1
  rw [hf] at this
  simpa using this
 ·intro j o hj cs b he
  have := (band_true (band_true (band_true (key j o hj)).1).1).2
  simp [he] at this
 ·intro j o hj e he hb
  have := (band_true (band_true (key j o hj)).1).2
  simp only [List.all_eq_true] at this
  have h1 := this e (by simpa using he)
  rw [hb] at h1
  simp only [Bool.and_eq_true] at h1
  exact Nat.le_of_ble_eq_true h1.1
 ·intro j i o hj hi ha
  have := (band_true (key j o hj)).2
  simp only [List.all_eq_true] at this
  have h1 := (band_true (this i (List.mem_range.2 hi))).1
  rw [ha] at h1
  simp only [List.any_eq_true, Bool.and_eq_true, Bool.or_eq_true] at h1
  obtain ⟨e, he, ⟨hb, hlt⟩, hor⟩ := h1
  exact ⟨e, by simpa using he, hb, Nat.le_of_ble_eq_true hlt, hor.imp Nat.eq_of_beq_eq_true id⟩
 ·intro i j x o d hi hj hd hl
  have hin : i < ops.length := (List.getElem?_eq_some_iff.1 hi).1
  have := (band_true (key j o hj)).2
  simp only [List.all_eq_true] at this
  have h1 := (band_true (this i (List.mem_range.2 hin))).2
  rw [hi] at h1
  simp only [hd, Bool.or_eq_true, Bool.and_eq_true, Bool.not_eq_true'] at h1
  rcases h1 with ((h1 | h1) | h1) | h1
  ·obtain ⟨hij, hm⟩ := h1
   have hij := Nat.eq_of_beq_eq_true hij
   rcases hl with hl | ⟨hne, _⟩
   ·rw [memL_iff.2 hl] at hm; cases hm
   ·exact (hne hij).elim
  ·simp only [Bool.or_eq_false_iff] at h1
   rcases hl with hl | ⟨_, hl⟩
   ·rw [memL_iff.2 hl] at h1; cases h1.1
   ·have h2 := h1.2
    rw [hl] at h2
    simp at h2
  ·exact .inl h1
  ·exact .inr h1
theorem ancs_closed {P : Program} {ops : List Oper} {ancs : List Nat} {fl : List Bool} (hd : DrawOk P ops ancs fl) {S : Nat → Prop}
  (hS : ∀ (j : Nat) (o : Oper), ops[j]? = some o → S j → ∀ e ∈ o.after, Region.binds .any e = true → S e.on) :
  ∀ (j i : Nat) (o : Oper), ops[j]? = some o → i < ops.length → S j → (ancs.getD j 0).testBit i = true → S i := by
 intro j
 induction j using Nat.strongRecOn with
 | _ j ih =>
  intro i o hj hi hSj ha
  obtain ⟨e, he, hb, hlt, hor⟩ := hd.anc j i o hj hi ha
  have hSe := hS j o hj hSj e he hb
  rcases hor with rfl | hor
  ·exact hSe
  ·have hlen : j < ops.length := (List.getElem?_eq_some_iff.1 hj).1
   exact ih e.on hlt i ops[e.on] (by simp [Nat.lt_trans hlt hlen]) hi hSe hor
theorem dirMask_spec (o : Oper) (k : Nat) : (dirMask o).testBit k = true ↔ ∃ e ∈ o.after, Region.binds .any e = true ∧ e.on = k := by
 unfold dirMask
 have key : ∀ (l : List Edge) (m : Nat), (l.foldl (fun m e => match Region.binds .any e with | true => m ||| 2 ^ e.on | false => m) m).testBit k = true ↔
   (m.testBit k = true ∨ ∃ e ∈ l, Region.binds .any e = true ∧ e.on = k) := by
  intro l
  induction l with
  | nil => intro m; simp
  | cons e l ih =>
   intro m
   simp only [List.foldl_cons]
   rw [ih]
   cases hb : Region.binds .any e
   ·simp [hb]
   ·simp only [Nat.testBit_or, Bool.or_eq_true, List.mem_cons, exists_eq_or_imp, hb, true_and, Nat.testBit_two_pow, decide_eq_true_eq]
    rw [or_assoc]
 rw [key]
 simp
theorem readyL_of {M : Nat} {o : Oper} {i : Nat} (hi : M.testBit i = false) (h : ∀ e ∈ o.after, Region.binds .any e = true → M.testBit e.on = true) :
  readyL M o i = true := by
 unfold readyL
 rw [hi]
 have : dirMask o &&& M = dirMask o := by
  apply Nat.eq_of_testBit_eq
  intro k
  rw [Nat.testBit_and]
  cases hk : (dirMask o).testBit k
  ·rfl
  ·obtain ⟨e, he, hb, rfl⟩ := (dirMask_spec o k).1 hk
   simp [h e he hb]
 simp [this]
theorem readyL_spec {M : Nat} {o : Oper} {i : Nat} (h : readyL M o i = true) :
  M.testBit i = false ∧ ∀ e ∈ o.after, Region.binds .any e = true → M.testBit e.on = true := by
 obtain ⟨h1, h2⟩ := band_true h
 refine ⟨by simpa using h1, fun e he hb => ?_⟩
 have h2 := Nat.eq_of_beq_eq_true h2
 have hk := (dirMask_spec o e.on).2 ⟨e, he, hb, rfl⟩
 rw [← h2, Nat.testBit_and] at hk
 exact (band_true hk).2
theorem firstRead_some {fl : List Bool} {M : Nat} : ∀ {l : List Oper} {k i : Nat} {o : Oper}, firstRead fl M l k = some (i, o) →
  k ≤ i ∧ l[i - k]? = some o ∧ readyL M o i = true ∧ fl.getD i true = false := by
 intro l
 induction l with
 | nil => intro k i o h; simp [firstRead] at h
 | cons x l ih =>
  intro k i o h
  unfold firstRead at h
  split at h
  ·rename_i hb
   simp only [Option.some.injEq, Prod.mk.injEq] at h
   obtain ⟨rfl, rfl⟩ := h
   obtain ⟨h1, h2⟩ := band_true hb
   exact ⟨Nat.le_refl _, by simp, h1, by simpa using h2⟩
  ·obtain ⟨h1, h2, h3⟩ := ih h
   refine ⟨by omega, ?_, h3⟩
   rw [show i - k = (i - (k + 1)) + 1 by omega]
   simpa using h2
theorem firstRead_none {fl : List Bool} {M : Nat} : ∀ {l : List Oper} {k : Nat}, firstRead fl M l k = none →
  ∀ (i : Nat) (o : Oper), l[i]? = some o → readyL M o (k + i) = true → fl.getD (k + i) true = true := by
 intro l
 induction l with
 | nil => intro k _ i o h; simp at h
 | cons x l ih =>
  intro k h i o hi hr
  unfold firstRead at h
  split at h
  ·simp at h
  ·rename_i hb
   cases i with
   | zero =>
    simp at hi
    subst hi
    rw [Nat.add_zero] at hr ⊢
    rw [hr] at hb
    simpa using hb
   | succ i =>
    rw [show k + (i + 1) = k + 1 + i by omega] at hr ⊢
    exact ih h i o (by simpa using hi) hr
theorem readyEffs_mem {fl : List Bool} {M : Nat} : ∀ {l : List Oper} {k i : Nat} {o : Oper}, l[i]? = some o → readyL M o (k + i) = true → fl.getD (k + i) true = true →
  (k + i, o) ∈ readyEffs fl M l k := by
 intro l
 induction l with
 | nil => intro k i o h; simp at h
 | cons x l ih =>
  intro k i o hi hr he
  unfold readyEffs
  cases i with
  | zero =>
   simp only [List.getElem?_cons_zero, Option.some.injEq] at hi
   subst hi
   rw [Nat.add_zero] at hr he
   rw [hr, he]
   simp
  | succ i =>
   rw [show k + (i + 1) = k + 1 + i by omega] at hr he ⊢
   have := ih (k := k + 1) (by simpa using hi : l[i]? = some o) hr he
   split
   ·exact List.mem_cons_of_mem _ this
   ·exact this
theorem allE_mem {F : Nat → Oper → Prop} : ∀ {l : List (Nat × Oper)}, allE l F → ∀ i o, (i, o) ∈ l → F i o
 | [], _, _, _, h => by cases h
 | [(i, o)], h, i', o', hm => by
  simp only [List.mem_singleton, Prod.mk.injEq] at hm
  obtain ⟨rfl, rfl⟩ := hm
  exact h
 | (i, o) :: y :: rest, h, i', o', hm => by
  rcases List.mem_cons.1 hm with e | hm
  ·simp only [Prod.mk.injEq] at e
   obtain ⟨rfl, rfl⟩ := e
   exact h.1
  ·exact allE_mem h.2 i' o' hm
def RdOk (P : Program) (ops : List Oper) (o : Oper) (env : List Value) (w : World) : Prop :=
 ∃ v, (∀ d, o.dst = some d → d < env.length → lget env d = v) ∧
  ((wantedL ops o env = true ∧ (execOp (evL env) o).run P w = .ok (.value v) w ∧ (clsOf P o.op = .pure → ∀ w', (execOp (evL env) o).run P w' = .ok (.value v) w')) ∨
   (wantedL ops o env = false ∧ v = undef))
theorem wantedL_congr {ops : List Oper} {o : Oper} {env env' : List Value} (h : ∀ t ∈ looksL ops o, lget env t = lget env' t) : wantedL ops o env = wantedL ops o env' := by
 unfold wantedL
 cases hg : o.guard with
 | none => rfl
 | some jw =>
  obtain ⟨j, want⟩ := jw
  simp only
  cases hj : ops[j]? with
  | none => rfl
  | some x =>
   cases hd : x.dst with
   | none => simp only [hd]
   | some d =>
    simp only [hd]
    rw [h d (by simp [looksL, hg, hj, hd])]
theorem execOp_congrL {ops : List Oper} {o : Oper} (hs : ∀ cs b, o.op ≠ .select cs b) {env env' : List Value} (h : ∀ t ∈ looksL ops o, lget env t = lget env' t) :
  execOp (evL env) o = execOp (evL env') o :=
 execOp_congr o hs fun x hx => by
  cases x with
  | tmp t => exact h t (List.mem_append_left _ (List.mem_filterMap.2 ⟨.tmp t, by simpa using hx, rfl⟩))
  | _ => rfl
structure Sim (P : Program) (ops : List Oper) (fl : List Bool) (listed : Array Bool) (env1 : List Value) (M : Nat) (env : List Value) (w : World) : Prop where
 size : listed.size = ops.length
 bound : ∀ i, M.testBit i = true → i < ops.length
 msub : ∀ i, listed.getD i false = true → M.testBit i = true
 meff : ∀ (i : Nat) (o : Oper), ops[i]? = some o → M.testBit i = true → fl.getD i true = true → listed.getD i false = true
 lclosed : ∀ (j : Nat) (o : Oper), ops[j]? = some o → listed.getD j false = true → ∀ e ∈ o.after, Region.binds .any e = true → listed.getD e.on false = true
 mclosed : ∀ (j : Nat) (o : Oper), ops[j]? = some o → M.testBit j = true → ∀ e ∈ o.after, Region.binds .any e = true → M.testBit e.on = true
 len : env1.length = env.length
 agree : ∀ t, (∀ (i : Nat) (o : Oper), ops[i]? = some o → M.testBit i = true → listed.getD i false = false → o.dst ≠ some t) → lget env1 t = lget env t
 rd : ∀ (i : Nat) (o : Oper), ops[i]? = some o → M.testBit i = true → listed.getD i false = false → RdOk P ops o env w
theorem getD_ft {l : Array Bool} {i : Nat} (h : i < l.size) (a b : Bool) : l.getD i a = l.getD i b := by simp [h]
theorem Sim.looks {P : Program} {ops : List Oper} {ancs : List Nat} {fl : List Bool} {listed : Array Bool} {env1 env : List Value} {M : Nat} {w : World}
  (hd : DrawOk P ops ancs fl) (s : Sim P ops fl listed env1 M env w) {j : Nat} {o : Oper} (hj : ops[j]? = some o)
  (hr : ∀ e ∈ o.after, Region.binds .any e = true → listed.getD e.on false = true) : ∀ t ∈ looksL ops o, lget env1 t = lget env t := by
 intro t ht
 refine s.agree t fun i x hi hm hl hx => ?_
 have hin : i < ops.length := (List.getElem?_eq_some_iff.1 hi).1
 rcases hd.slot i j x o t hi hj hx (.inl ht) with ha | ⟨he, _⟩
 ·obtain ⟨e, he, hb, hlt, hor⟩ := hd.anc j i o hj hin ha
  have hlen : j < ops.length := (List.getElem?_eq_some_iff.1 hj).1
  have hSe := hr e he hb
  rcases hor with rfl | hor
  ·rw [hl] at hSe; cases hSe
  ·have := ancs_closed hd (S := fun k => listed.getD k false = true) s.lclosed e.on i ops[e.on] (by simp [Nat.lt_trans hlt hlen]) hin hSe hor
   rw [hl] at this; cases this
 ·have := s.meff i x hi hm he
  rw [hl] at this; cases this
theorem getD_setT {l : Array Bool} {i k : Nat} (hi : i < l.size) : (l.setIfInBounds i true).getD k false = (if k = i then true else l.getD k false) := by
 by_cases h : k = i
 ·subst h; simp [hi]
 ·rw [if_neg h, getD_set_ne false (fun e => h e.symm)]
theorem lget_putL {env : List Value} {dst : Option Nat} {v : Value} {t : Nat} (h : dst ≠ some t) : lget (putL env dst v) t = lget env t := by
 cases dst with
 | none => rfl
 | some d => exact lget_lset_ne fun e => h (by rw [e])
theorem lget_oob {l : List Value} {n : Nat} (h : l.length ≤ n) : lget l n = undef := by
 rw [lget_eq, List.getElem?_eq_none h]; rfl
theorem Sim.take {P : Program} {ops : List Oper} {fl : List Bool} {listed : Array Bool} {env1 env : List Value} {M : Nat} {w : World}
  (s : Sim P ops fl listed env1 M env w) {j : Nat} {o : Oper} (hj : ops[j]? = some o) (hm : M.testBit j = true)
  (hr : ∀ e ∈ o.after, Region.binds .any e = true → listed.getD e.on false = true) {v : Value}
  (hv : ∀ d, o.dst = some d → d < env.length → lget env d = v) :
  Sim P ops fl (listed.setIfInBounds j true) (putL env1 o.dst v) M env w := by
 have hjn : j < ops.length := (List.getElem?_eq_some_iff.1 hj).1
 have hjs : j < listed.size := by rw [s.size]; exact hjn
 refine ⟨by simp [s.size], s.bound, ?_, ?_, ?_, s.mclosed, by rw [putL_length, s.len], ?_, ?_⟩
 ·intro i hi
  rw [getD_setT hjs] at hi
  split at hi
  ·rename_i e; rw [e]; exact hm
  ·exact s.msub i hi
 ·intro i x hi hmi he
  rw [getD_setT hjs]
  split
  ·rfl
  ·exact s.meff i x hi hmi he
 ·intro k x hk hlk e he hb
  rw [getD_setT hjs] at hlk ⊢
  split
  ·rfl
  ·split at hlk
   ·rename_i e1; subst e1
    rw [hj] at hk
    simp only [Option.some.injEq] at hk
    subst hk
    exact hr e he hb
   ·exact s.lclosed k x hk hlk e he hb
 ·intro t ht
  by_cases hdt : o.dst = some t
  ·rw [hdt]
   by_cases hlt : t < env.length
   ·rw [hv t hdt hlt]
    exact lget_lset_self (by rw [s.len]; exact hlt)
   ·rw [lget_oob (by rw [putL_length, s.len]; exact Nat.le_of_not_lt hlt), lget_oob (Nat.le_of_not_lt hlt)]
  ·rw [lget_putL hdt]
   refine s.agree t fun i x hi hmi hl hx => ?_
   refine ht i x hi hmi ?_ hx
   rw [getD_setT hjs, if_neg]
   ·exact hl
   ·rintro rfl
    rw [hj] at hi
    simp only [Option.some.injEq] at hi
    subst hi
    exact hdt hx
 ·intro i x hi hmi hl
  rw [getD_setT hjs] at hl
  split at hl
  ·cases hl
  ·exact s.rd i x hi hmi hl
theorem RdOk.put {P : Program} {ops : List Oper} {o : Oper} {env : List Value} {w : World} (hs : ∀ cs b, o.op ≠ .select cs b) {dst : Option Nat} {v : Value}
  (h : RdOk P ops o env w) (h1 : ∀ d, dst = some d → d ∉ looksL ops o) (h2 : ∀ d, dst = some d → o.dst ≠ some d) : RdOk P ops o (putL env dst v) w := by
 obtain ⟨u, hu, h⟩ := h
 have hl : ∀ t ∈ looksL ops o, lget env t = lget (putL env dst v) t := fun t ht => (lget_putL fun e => h1 t e ht).symm
 refine ⟨u, fun d hd hlt => ?_, ?_⟩
 ·rw [putL_length] at hlt
  rw [lget_putL fun e => h2 d e hd]
  exact hu d hd hlt
 ·rw [← wantedL_congr hl, ← execOp_congrL hs hl]
  exact h
theorem testBit_or_pow {M i k : Nat} : (M ||| 2 ^ i).testBit k = (M.testBit k || decide (i = k)) := by
 rw [Nat.testBit_or, Nat.testBit_two_pow]
theorem Sim.adv {P : Program} {ops : List Oper} {ancs : List Nat} {fl : List Bool} {listed : Array Bool} {env1 env : List Value} {M : Nat} {w : World}
  (hd : DrawOk P ops ancs fl) (s : Sim P ops fl listed env1 M env w) {j : Nat} {o : Oper} (hj : ops[j]? = some o) (hr : readyL M o j = true) (he : fl.getD j true = false)
  {v : Value} (hv : (wantedL ops o env = true ∧ (execOp (evL env) o).run P w = .ok (.value v) w ∧ (clsOf P o.op = .pure → ∀ w', (execOp (evL env) o).run P w' = .ok (.value v) w')) ∨
   (wantedL ops o env = false ∧ v = undef)) :
  Sim P ops fl listed env1 (M ||| 2 ^ j) (putL env o.dst v) w := by
 have hjn : j < ops.length := (List.getElem?_eq_some_iff.1 hj).1
 obtain ⟨hmj, hre⟩ := readyL_spec hr
 have hlj : listed.getD j false = false := by
  cases h : listed.getD j false
  ·rfl
  ·rw [s.msub j h] at hmj; cases hmj
 have hself : ∀ d, o.dst = some d → d ∉ looksL ops o := by
  intro d hdd hm
  rcases hd.slot j j o o d hj hj hdd (.inl hm) with ha | ⟨he', _⟩
  ·have := ancs_closed hd (S := fun k => k < j) (fun k x hk hkj e hee hb => Nat.lt_trans (hd.edge k x hk e hee hb) hkj)
   obtain ⟨e, hee, hb, hlt, hor⟩ := hd.anc j j o hj hjn ha
   rcases hor with h | h
   ·omega
   ·have h2 := this e.on j ops[e.on] (by simp [Nat.lt_trans hlt hjn]) hjn hlt h
    omega
  ·rw [he] at he'; cases he'
 have hbit : ∀ k, (M ||| 2 ^ j).testBit k = true ↔ M.testBit k = true ∨ j = k := by
  intro k; rw [testBit_or_pow]; simp
 have hMclosed := ancs_closed hd (S := fun k => M.testBit k = true) s.mclosed
 have hslot : ∀ (i : Nat) (x : Oper), ops[i]? = some x → M.testBit i = true → i ≠ j → ∀ d, o.dst = some d → (d ∈ looksL ops x ∨ (j ≠ i ∧ x.dst = some d)) → False := by
  intro i x hi hm hij d hdd hl
  rcases hd.slot j i o x d hj hi hdd hl with ha | ⟨he', _⟩
  ·have := hMclosed i j x hi hjn hm ha
   rw [hmj] at this; cases this
  ·rw [he] at he'; cases he'
 refine ⟨s.size, ?_, ?_, ?_, s.lclosed, ?_, by rw [putL_length, s.len], ?_, ?_⟩
 ·intro i hi
  rcases (hbit i).1 hi with h | rfl
  ·exact s.bound i h
  ·exact hjn
 ·intro i hi; exact (hbit i).2 (.inl (s.msub i hi))
 ·intro i x hi hm hx
  rcases (hbit i).1 hm with h | rfl
  ·exact s.meff i x hi h hx
  ·rw [hj] at hi
   simp only [Option.some.injEq] at hi
   subst hi
   rw [he] at hx; cases hx
 ·intro k x hk hm e hee hb
  refine (hbit e.on).2 (.inl ?_)
  rcases (hbit k).1 hm with h | rfl
  ·exact s.mclosed k x hk h e hee hb
  ·rw [hj] at hk
   simp only [Option.some.injEq] at hk
   subst hk
   exact hre e hee hb
 ·intro t ht
  have hot : o.dst ≠ some t := ht j o hj ((hbit j).2 (.inr rfl)) hlj
  rw [lget_putL hot]
  exact s.agree t fun i x hi hm hl => ht i x hi ((hbit i).2 (.inl hm)) hl
 ·intro i x hi hm hl
  by_cases hij : i = j
  ·subst hij
   rw [hj] at hi
   simp only [Option.some.injEq] at hi
   subst hi
   have hl' : ∀ t ∈ looksL ops o, lget env t = lget (putL env o.dst v) t := fun t ht => (lget_putL fun e => hself t e ht).symm
   refine ⟨v, fun d hdd hlt => ?_, ?_⟩
   ·rw [putL_length] at hlt
    rw [hdd]
    exact lget_lset_self hlt
   ·rw [← wantedL_congr hl', ← execOp_congrL (hd.sel i o hj) hl']
    exact hv
  ·rcases (hbit i).1 hm with h | h
   ·exact (s.rd i x hi h hl).put (hd.sel i x hi) (fun d hdd hml => hslot i x hi h hij d hdd (.inl hml))
     (fun d hdd hxd => hslot i x hi h hij d hdd (.inr ⟨fun e => hij e.symm, hxd⟩))
   ·exact (hij h.symm).elim
theorem stabW_spec {P : Program} {ops : List Oper} {fl : List Bool} {M anc : Nat} {env : List Value} {w : World} {K : Prop} : ∀ {l : List Oper} {k : Nat}, stabW P ops fl M anc l k env w K →
  K ∧ ∀ (i : Nat) (r : Oper), l[i]? = some r → M.testBit (k + i) = true → anc.testBit (k + i) = false → fl.getD (k + i) true = false → clsOf P r.op = .mem → wantedL ops r env = true →
   ∃ v, (∀ d, r.dst = some d → lget env d = v) ∧ (execOp (evL env) r).run P w = .ok (.value v) w := by
 intro l
 induction l with
 | nil => intro k h; exact ⟨h, fun i r hi => by simp at hi⟩
 | cons x l ih =>
  intro k h
  unfold stabW at h
  split at h
  ·have h2 : stabW P ops fl M anc l (k + 1) env w K := by
    rcases condB_elim h with ⟨_, h⟩ | ⟨_, h⟩
    ·exact h.2
    ·exact h
   obtain ⟨hK, h3⟩ := ih h2
   refine ⟨hK, fun i r hi hm ha hg hc hw => ?_⟩
   cases i with
   | zero =>
    simp at hi
    subst hi
    rcases condB_elim h with ⟨_, h1, _⟩ | ⟨hw', _⟩
    ·obtain ⟨v, hv, hr, _⟩ := readW_sound h1
     refine ⟨v, fun d hd => ?_, hr⟩
     rw [hd] at hv
     exact hv.symm
    ·rw [hw] at hw'; cases hw'
   | succ i => exact h3 i r (by simpa using hi) (by rw [show k + 1 + i = k + (i + 1) by omega]; exact hm) (by rw [show k + 1 + i = k + (i + 1) by omega]; exact ha) (by rw [show k + 1 + i = k + (i + 1) by omega]; exact hg) hc hw
  ·rename_i hb
   obtain ⟨hK, h3⟩ := ih h
   refine ⟨hK, fun i r hi hm ha hg hc hw => ?_⟩
   cases i with
   | zero =>
    simp at hi
    subst hi
    rw [Nat.add_zero] at hm ha hg
    rw [hm, ha, hg, hc] at hb
    simp at hb
   | succ i => exact h3 i r (by simpa using hi) (by rw [show k + 1 + i = k + (i + 1) by omega]; exact hm) (by rw [show k + 1 + i = k + (i + 1) by omega]; exact ha) (by rw [show k + 1 + i = k + (i + 1) by omega]; exact hg) hc hw
theorem Sim.eff {P : Program} {ops : List Oper} {ancs : List Nat} {fl : List Bool} {listed : Array Bool} {env1 env : List Value} {M : Nat} {w w2 : World}
  (hd : DrawOk P ops ancs fl) (s : Sim P ops fl listed env1 M env w) {j : Nat} {o : Oper} (hj : ops[j]? = some o) (hmj : M.testBit j = false)
  (hr : ∀ e ∈ o.after, Region.binds .any e = true → listed.getD e.on false = true) {v : Value}
  (hst : ∀ (i : Nat) (r : Oper), ops[i]? = some r → M.testBit i = true → (ancs.getD j 0).testBit i = false → fl.getD i true = false → clsOf P r.op = .mem → wantedL ops r (putL env o.dst v) = true →
   ∃ u, (∀ d, r.dst = some d → lget (putL env o.dst v) d = u) ∧ (execOp (evL (putL env o.dst v)) r).run P w2 = .ok (.value u) w2) :
  Sim P ops fl (listed.setIfInBounds j true) (putL env1 o.dst v) (M ||| 2 ^ j) (putL env o.dst v) w2 := by
 have hjn : j < ops.length := (List.getElem?_eq_some_iff.1 hj).1
 have hjs : j < listed.size := by rw [s.size]; exact hjn
 have hbit : ∀ k, (M ||| 2 ^ j).testBit k = true ↔ M.testBit k = true ∨ j = k := by
  intro k; rw [testBit_or_pow]; simp
 have hLclosed := ancs_closed hd (S := fun k => listed.getD k false = true) s.lclosed
 have hMclosed := ancs_closed hd (S := fun k => M.testBit k = true) s.mclosed
 have hanc : ∀ (i : Nat), i < ops.length → listed.getD i false = false → (ancs.getD j 0).testBit i = false := by
  intro i hin hl
  cases ha : (ancs.getD j 0).testBit i
  ·rfl
  ·obtain ⟨e, he, hb, hlt, hor⟩ := hd.anc j i o hj hin ha
   have hSe := hr e he hb
   rcases hor with rfl | hor
   ·rw [hl] at hSe; cases hSe
   ·have := hLclosed e.on i ops[e.on] (by simp [Nat.lt_trans hlt hjn]) hin hSe hor
    rw [hl] at this; cases this
 have hslot : ∀ (i : Nat) (x : Oper), ops[i]? = some x → M.testBit i = true → listed.getD i false = false → ∀ d, o.dst = some d → (d ∈ looksL ops x ∨ x.dst = some d) → False := by
  intro i x hi hm hl d hdd hlk
  have hin : i < ops.length := (List.getElem?_eq_some_iff.1 hi).1
  have hij : j ≠ i := by rintro rfl; rw [hm] at hmj; cases hmj
  rcases hd.slot j i o x d hj hi hdd (hlk.imp id fun h => ⟨hij, h⟩) with ha | ⟨_, ha⟩
  ·have := hMclosed i j x hi hjn hm ha
   rw [hmj] at this; cases this
  ·rw [hanc i hin hl] at ha; cases ha
 refine ⟨by simp [s.size], ?_, ?_, ?_, ?_, ?_, by rw [putL_length, putL_length, s.len], ?_, ?_⟩
 ·intro i hi
  rcases (hbit i).1 hi with h | rfl
  ·exact s.bound i h
  ·exact hjn
 ·intro i hi
  rw [getD_setT hjs] at hi
  split at hi
  ·rename_i e; exact (hbit i).2 (.inr e.symm)
  ·exact (hbit i).2 (.inl (s.msub i hi))
 ·intro i x hi hm hx
  rw [getD_setT hjs]
  split
  ·rfl
  ·rename_i hne
   rcases (hbit i).1 hm with h | h
   ·exact s.meff i x hi h hx
   ·exact (hne h.symm).elim
 ·intro k x hk hlk e he hb
  rw [getD_setT hjs] at hlk ⊢
  split
  ·rfl
  ·split at hlk
   ·rename_i e1; subst e1
    rw [hj] at hk
    simp only [Option.some.injEq] at hk
    subst hk
    exact hr e he hb
   ·exact s.lclosed k x hk hlk e he hb
 ·intro k x hk hm e he hb
  refine (hbit e.on).2 (.inl ?_)
  rcases (hbit k).1 hm with h | rfl
  ·exact s.mclosed k x hk h e he hb
  ·rw [hj] at hk
   simp only [Option.some.injEq] at hk
   subst hk
   exact s.msub _ (hr e he hb)
 ·intro t ht
  by_cases hdt : o.dst = some t
  ·rw [hdt]
   by_cases hlt : t < env.length
   ·show lget (lset env1 t v) t = lget (lset env t v) t
    rw [lget_lset_self hlt, lget_lset_self (by rw [s.len]; exact hlt)]
   ·rw [lget_oob (by rw [putL_length, s.len]; exact Nat.le_of_not_lt hlt), lget_oob (by rw [putL_length]; exact Nat.le_of_not_lt hlt)]
  ·rw [lget_putL hdt, lget_putL hdt]
   refine s.agree t fun i x hi hm hl hx => ht i x hi ((hbit i).2 (.inl hm)) ?_ hx
   rw [getD_setT hjs, if_neg]
   ·exact hl
   ·rintro rfl; rw [hm] at hmj; cases hmj
 ·intro i x hi hm hl
  have hin : i < ops.length := (List.getElem?_eq_some_iff.1 hi).1
  rw [getD_setT hjs] at hl
  split at hl
  ·cases hl
  ·rename_i hne
   rcases (hbit i).1 hm with h | h
   ·have hrd := s.rd i x hi h hl
    have hlk : ∀ t ∈ looksL ops x, lget env t = lget (putL env o.dst v) t := fun t ht =>
     (lget_putL fun e => hslot i x hi h hl t e (.inl ht)).symm
    have hdx : ∀ d, x.dst = some d → lget (putL env o.dst v) d = lget env d := fun d hxd =>
     lget_putL fun e => hslot i x hi h hl d e (.inr hxd)
    obtain ⟨u, hu, hor⟩ := hrd
    rw [wantedL_congr hlk, execOp_congrL (hd.sel i x hi) hlk] at hor
    rcases hor with ⟨hw, hrun, hp⟩ | ⟨hw, rfl⟩
    ·cases hc : clsOf P x.op with
     | pure => exact ⟨u, fun d hxd hlt => by rw [hdx d hxd]; exact hu d hxd (by rw [putL_length] at hlt; exact hlt), .inl ⟨hw, hp hc w2, fun _ => hp hc⟩⟩
     | mem =>
      have hg : fl.getD i true = false := by
       cases hb : fl.getD i true
       ·rfl
       ·have := s.meff i x hi h hb
        rw [hl] at this; cases this
      obtain ⟨u', hu', hr'⟩ := hst i x hi h (hanc i hin hl) hg hc hw
      exact ⟨u', fun d hxd _ => hu' d hxd, .inl ⟨hw, hr', fun e => by rw [hc] at e; cases e⟩⟩
     | eff =>
      have hg : fl.getD i true = true := by
       cases hb : fl.getD i true
       ·have := hd.flag i x hi hb
        simp [isEff, hc] at this
       ·rfl
      have := s.meff i x hi h hg
      rw [hl] at this; cases this
    ·exact ⟨undef, fun d hxd hlt => by rw [hdx d hxd]; exact hu d hxd (by rw [putL_length] at hlt; exact hlt), .inr ⟨hw, rfl⟩⟩
   ·exact (hne h.symm).elim
def unl (ops : List Oper) (listed : Array Bool) : Nat := (List.range ops.length).countP fun i => !listed.getD i false
theorem unl_set {ops : List Oper} {listed : Array Bool} {j : Nat} (hj : j < ops.length) (hs : listed.size = ops.length) (hn : listed.getD j false = false) :
  unl ops (listed.setIfInBounds j true) < unl ops listed := by
 unfold unl
 have hjs : j < listed.size := by rw [hs]; exact hj
 have hmem : j ∈ List.range ops.length := List.mem_range.2 hj
 have key : ∀ l : List Nat, j ∈ l → l.countP (fun i => !(listed.setIfInBounds j true).getD i false) < l.countP (fun i => !listed.getD i false) := by
  intro l
  have le : ∀ l : List Nat, l.countP (fun i => !(listed.setIfInBounds j true).getD i false) ≤ l.countP (fun i => !listed.getD i false) := by
   intro l
   apply List.countP_mono_left
   intro x _ hx
   rw [getD_setT hjs] at hx
   split at hx
   ·simp at hx
   ·exact hx
  induction l with
  | nil => intro h; cases h
  | cons x l ih =>
   intro h
   rw [List.countP_cons, List.countP_cons]
   by_cases hx : x = j
   ·subst hx
    have := le l
    rw [getD_setT hjs, hn, if_pos rfl]
    simp only [Bool.not_true, Bool.not_false, if_true, Bool.false_eq_true, if_false]
    omega
   ·have hjl : j ∈ l := by
     rcases List.mem_cons.1 h with e | h
     ·exact (hx e.symm).elim
     ·exact h
    have := ih hjl
    rw [getD_setT hjs, if_neg hx]
    omega
 exact key _ hmem
theorem ready_nil {P : Program} {ops : List Oper} {ancs : List Nat} {fl : List Bool} (hd : DrawOk P ops ancs fl) {listed : Array Bool} (hs : listed.size = ops.length)
  (h : Region.ready .any ops.toArray listed = []) : ∀ i, i < ops.length → listed.getD i false = true := by
 intro i
 induction i using Nat.strongRecOn with
 | _ i ih =>
  intro hi
  cases hl : listed.getD i false
  ·have hm : i ∈ Region.ready .any ops.toArray listed := by
    rw [mem_ready]
    refine ⟨by rw [getD_ft (by rw [hs]; exact hi) true false]; exact hl, ops[i], by simp [hi], fun e he hb => ?_⟩
    have hlt := hd.edge i ops[i] (by simp [hi]) e he hb
    exact ih e.on hlt (Nat.lt_trans hlt hi)
   rw [h] at hm; cases hm
  ·rfl
theorem list_of_lget {a b : List Value} (hl : a.length = b.length) (h : ∀ t, lget a t = lget b t) : a = b := by
 apply List.ext_getElem hl
 intro i h1 h2
 have := h i
 rw [lget_eq, lget_eq, List.getElem?_eq_getElem h1, List.getElem?_eq_getElem h2] at this
 exact this
theorem drawW_sound {P : Program} (hP : CallsOk P) {ops : List Oper} {ancs : List Nat} {fl : List Bool} (hd : DrawOk P ops ancs fl) {Q : Exit → List Value → World → Prop} {S : List Nat}
  {env0 : List Value} (hS : ∀ o ∈ ops, ∀ d, o.dst = some d → d ∈ S) :
  ∀ (fuel2 fuel1 : Nat) (listed : Array Bool) (env1 : List Value) (M : Nat) (env : List Value) (w : World), Sim P ops fl listed env1 M env w → Frm S env0 env1 →
   unl ops listed ≤ fuel1 → drawW P ops ancs fl fuel2 M env w (Q .normal) → wpAny P .any ops.toArray (upF ds S env0 Q) fuel1 listed (actOf ds env1) w := by
 intro fuel2
 induction fuel2 with
 | zero => intro fuel1 listed env1 M env w _ _ _ h; exact h.elim
 | succ fuel2 ih2 =>
  intro fuel1 listed env1 M env w s hf hu h
  unfold drawW at h
  split at h
  ·
   rename_i i o hfr
   obtain ⟨_, hi, hr, he⟩ := firstRead_some hfr
   rw [Nat.sub_zero] at hi
   rcases condB_elim h with ⟨hw, h⟩ | ⟨hw, h⟩
   ·have hne : clsOf P o.op ≠ .eff := by intro e; have := hd.flag i o hi he; simp [isEff, e] at this
    have h' : readW P ops (gProd ops i) o env w (fun v => drawW P ops ancs fl fuel2 (M ||| 2 ^ i) (putL env o.dst v) w (Q .normal)) := by
     revert h
     split
     ·rename_i hc; exact (hne hc).elim
     ·exact id
    obtain ⟨v, hK, hrun, hp⟩ := readW_sound h'
    exact ih2 fuel1 listed env1 _ _ w (s.adv hd hi hr he (.inl ⟨hw, hrun, hp⟩)) hf hu hK
   ·exact ih2 fuel1 listed env1 _ _ w (s.adv hd hi hr he (.inr ⟨hw, rfl⟩)) hf hu h
  ·rename_i hfr
   induction fuel1 generalizing listed env1 with
   | zero =>
    have hall : ∀ i, i < ops.length → listed.getD i false = true := by
     intro i hi
     cases hl : listed.getD i false
     ·exfalso
      have : 0 < unl ops listed := by
       unfold unl
       rw [List.countP_pos_iff]
       exact ⟨i, List.mem_range.2 hi, by rw [hl]; rfl⟩
      omega
     ·rfl
    have hr : Region.ready .any ops.toArray listed = [] := by
     rw [List.eq_nil_iff_forall_not_mem]
     intro i hi
     obtain ⟨h0, o, ho, _⟩ := mem_ready.1 hi
     have hin : i < ops.length := by simpa using (Array.getElem?_eq_some_iff.1 ho).1
     rw [getD_ft (by rw [s.size]; exact hin) true false, hall i hin] at h0
     cases h0
    exact ⟨hr, (done hall s hf h)⟩
   | succ fuel1 ih1 =>
    refine ⟨fun hr => done (ready_nil hd s.size hr) s hf h, fun j hj => ?_⟩
    obtain ⟨h0, o, ho, hre⟩ := mem_ready.1 hj
    have hj' : ops[j]? = some o := by simpa using ho
    have hjn : j < ops.length := (List.getElem?_eq_some_iff.1 hj').1
    have hlj : listed.getD j false = false := by rw [getD_ft (by rw [s.size]; exact hjn) false true]; exact h0
    have hlk := s.looks hd hj' hre
    have hun := unl_set hjn s.size hlj
    have hwr : ∀ d, o.dst = some d → d ∈ S := hS o (List.mem_of_getElem? hj')
    unfold wpOp
    rw [show ops.toArray[j]? = some o from ho]
    simp only
    have hwE : Region.wanted o (yielded ops.toArray (actOf ds env1).tmps) = wantedL ops o env := (wantedL_eq ops o env1).trans (wantedL_congr hlk)
    rw [hwE]
    by_cases hm : M.testBit j = true
    ·
     obtain ⟨v, hv, hor⟩ := s.rd j o hj' hm hlj
     have hs := s.take hj' hm hre hv
     have hf' : Frm S env0 (putL env1 o.dst v) := hf.trans (Frm.put _ _ _ hwr)
     have next := ih1 (listed.setIfInBounds j true) (putL env1 o.dst v) hs hf' (by omega)
     rcases hor with ⟨hw, hrun, _⟩ | ⟨hw, rfl⟩
     ·rw [if_pos hw]
      refine .inl ?_
      unfold Oper.wp
      rw [evL_eq, execOp_congrL (hd.sel j o hj') hlk, hrun, Oper.upon_value, putL_eq]
      exact next
     ·rw [hw, if_neg (by simp), putL_eq]
      exact next
    ·
     have hmj : M.testBit j = false := by simpa using hm
     have hrl : readyL M o j = true := readyL_of hmj fun e he hb => s.msub _ (hre e he hb)
     have heff : fl.getD j true = true := by
      have := firstRead_none hfr j o hj' (by rw [Nat.zero_add]; exact hrl)
      rwa [Nat.zero_add] at this
     split at h
     ·rename_i hfull
      have := Nat.eq_of_beq_eq_true hfull
      rw [this, Nat.testBit_two_pow_sub_one] at hmj
      simp [hjn] at hmj
     ·have h1 := allE_mem h j o (by have := readyEffs_mem (k := 0) hj' (by rw [Nat.zero_add]; exact hrl) (by rw [Nat.zero_add]; exact heff); rwa [Nat.zero_add] at this)
      have go : ∀ (v : Value) (w2 : World), stabW P ops fl M (ancs.getD j 0) ops 0 (putL env o.dst v) w2 (drawW P ops ancs fl fuel2 (M ||| 2 ^ j) (putL env o.dst v) w2 (Q .normal)) →
        wpAny P .any ops.toArray (upF ds S env0 Q) fuel1 (listed.setIfInBounds j true) ((actOf ds env1).put o.dst v) w2 := by
       intro v w2 hst
       obtain ⟨hK, hst⟩ := stabW_spec hst
       rw [putL_eq]
       refine ih2 fuel1 _ _ _ _ w2 (s.eff hd hj' hmj hre fun i r hi hm ha hg hc hw => ?_) (hf.trans (Frm.put _ _ _ hwr)) (by omega) hK
       exact hst i r hi (by rw [Nat.zero_add]; exact hm) (by rw [Nat.zero_add]; exact ha) (by rw [Nat.zero_add]; exact hg) hc hw
      rcases condB_elim h1 with ⟨hw, h1⟩ | ⟨hw, h1⟩
      ·rw [if_pos hw]
       refine .inl ?_
       have hex : execOp (actOf ds env1).eval o = execOp (evL env) o := by
        rw [evL_eq]; exact execOp_congrL (hd.sel j o hj') hlk
       split at h1
       ·exact effW_sound hP hex (fun v w' hfb => go v w' (finB_elim hfb)) h1
       ·obtain ⟨v, hK, hrun, _⟩ := readW_sound h1
        unfold Oper.wp
        rw [hex, hrun, Oper.upon_value]
        exact go v w hK
      ·rw [hw, if_neg (by simp)]
       exact go undef w h1
where
 done {P : Program} {ops : List Oper} {ancs : List Nat} {fl : List Bool} {Q : Exit → List Value → World → Prop} {S : List Nat} {env0 : List Value} {fuel2 : Nat} {listed : Array Bool} {env1 : List Value} {M : Nat}
   {env : List Value} {w : World} (hall : ∀ i, i < ops.length → listed.getD i false = true) (s : Sim P ops fl listed env1 M env w) (hf : Frm S env0 env1)
   (h : match Nat.beq M (2 ^ ops.length - 1) with
    | true => Q .normal env w
    | false => allE (readyEffs fl M ops 0) fun i o =>
      opW P ops (gProd ops i) o env w fun env' w' => stabW P ops fl M (ancs.getD i 0) ops 0 env' w' (drawW P ops ancs fl fuel2 (M ||| 2 ^ i) env' w' (Q .normal))) :
   upF ds S env0 Q .normal (actOf ds env1) w := by
  have hM : M = 2 ^ ops.length - 1 := by
   apply Nat.eq_of_testBit_eq
   intro k
   rw [Nat.testBit_two_pow_sub_one]
   by_cases hk : k < ops.length
   ·rw [s.msub k (hall k hk)]; simp [hk]
   ·cases hb : M.testBit k
    ·simp [hk]
    ·exact (hk (s.bound k hb)).elim
  rw [hM, Nat.beq_refl] at h
  have he : env1 = env := list_of_lget s.len fun t => s.agree t fun i o hi _ hl => by
   have := hall i (List.getElem?_eq_some_iff.1 hi).1
   rw [hl] at this; cases this
  exact ⟨env1, rfl, hf, he ▸ h⟩
structure LoopAn where
 lv : List Nat
 ty : List TypeId
 jk : List Nat
 inv : List Value → World → List Value → World → Prop
 mu : List Value → World → List Value → World → Nat
def noAn : LoopAn := ⟨[], [], [], fun _ _ _ _ => False, fun _ _ _ _ => 0⟩
def hasS (P : Program) (t : TypeId) (v : Value) : Bool :=
 match P.underlying t with
 | some (.int k) => match v with | .int k' _ => decide (k = k') | _ => false
 | some .bool => match v with | .bool _ => true | _ => false
 | some .string => match v with | .string _ => true | _ => false
 | some (.pointer _) => match v with | .pointer _ => true | _ => false
 | some (.slice _) => match v with | .slice _ _ _ => true | _ => false
 | some (.map _ _) => match v with | .map _ => true | _ => false
 | _ => true
def faS (P : Program) (t : TypeId) (F : Value → Prop) : Prop :=
 match P.underlying t with
 | some (.int k) => ∀ n : Int, F (.int k n)
 | some .bool => ∀ b : Bool, F (.bool b)
 | some .string => ∀ s : ByteArray, F (.string s)
 | some (.pointer _) => ∀ p : Option Addr, F (.pointer p)
 | some (.slice _) => ∀ (p : Option Addr) (n c : Nat), F (.slice p n c)
 | some (.map _ _) => ∀ r : Option Nat, F (.map r)
 | _ => ∀ v : Value, F v
theorem faS_elim {P : Program} {t : TypeId} {F : Value → Prop} (h : faS P t F) {v : Value} (hv : hasS P t v = true) : F v := by
 unfold faS at h
 unfold hasS at hv
 split at h <;> rename_i hu <;> (try rw [hu] at hv)
 ·cases v <;> simp at hv
  subst hv; exact h _
 ·cases v <;> simp at hv; exact h _
 ·cases v <;> simp at hv; exact h _
 ·cases v <;> simp at hv; exact h _
 ·cases v <;> simp at hv; exact h _ _ _
 ·cases v <;> simp at hv; exact h _
 ·exact h v
def faL (P : Program) : List TypeId → List Value → (List Value → Prop) → Prop
 | [], acc, F => F acc.reverse
 | t :: ts, acc, F => faS P t fun v => faL P ts (v :: acc) F
def hasL (P : Program) : List TypeId → List Value → Bool
 | [], [] => true
 | t :: ts, v :: vs => hasS P t v && hasL P ts vs
 | _, _ => false
theorem faL_elim {P : Program} : ∀ {ts : List TypeId} {acc vs : List Value} {F : List Value → Prop}, faL P ts acc F → hasL P ts vs = true → F (acc.reverse ++ vs)
 | [], acc, [], F, h, _ => by simpa [faL] using h
 | t :: ts, acc, v :: vs, F, h, hv => by
  obtain ⟨h1, h2⟩ := band_true hv
  have := faL_elim (faS_elim h h1) h2
  simpa using this
 | [], _, _ :: _, _, _, hv => by simp [hasL] at hv
 | _ :: _, _, [], _, _, hv => by simp [hasL] at hv
def faJ : List Nat → List Value → (List Value → Prop) → Prop
 | [], acc, F => F acc.reverse
 | _ :: ts, acc, F => ∀ v : Value, faJ ts (v :: acc) F
theorem faJ_elim : ∀ {ts : List Nat} {acc vs : List Value} {F : List Value → Prop}, faJ ts acc F → vs.length = ts.length → F (acc.reverse ++ vs)
 | [], acc, [], F, h, _ => by simpa [faJ] using h
 | _ :: ts, acc, v :: vs, F, h, hv => by
  have := faJ_elim (h v) (by simpa using hv : vs.length = ts.length)
  simpa using this
 | [], _, _ :: _, _, _, hv => by simp at hv
 | _ :: _, _, [], _, _, hv => by simp at hv
def lsets (env : List Value) : List Nat → List Value → List Value
 | i :: is, v :: vs => lsets (lset env i v) is vs
 | _, _ => env
def lgets (env : List Value) : List Nat → List Value
 | [] => []
 | i :: is => lget env i :: lgets env is
theorem lgets_length (env : List Value) : ∀ is, (lgets env is).length = is.length
 | [] => rfl
 | _ :: is => by simp [lgets, lgets_length env is]
theorem lsets_length : ∀ (is : List Nat) (vs env : List Value), (lsets env is vs).length = env.length
 | [], _, _ => by simp [lsets]
 | _ :: _, [], _ => by simp [lsets]
 | i :: is, v :: vs, env => by rw [lsets, lsets_length, lset_length]
theorem lsets_lget {env' : List Value} : ∀ (is : List Nat) (env : List Value), env'.length = env.length → ∀ t, lget (lsets env is (lgets env' is)) t = lget env t ∨
  (t ∈ is ∧ lget (lsets env is (lgets env' is)) t = lget env' t)
 | [], env, _, t => .inl rfl
 | i :: is, env, hl, t => by
  rw [lgets, lsets]
  rcases lsets_lget (env' := env') is (lset env i (lget env' i)) (by rw [lset_length]; exact hl) t with h | ⟨h1, h2⟩
  ·by_cases hi : i = t
   ·subst hi
    by_cases hlt : i < env.length
    ·right
     refine ⟨List.mem_cons_self, ?_⟩
     rw [h, lget_lset_self hlt]
    ·left
     rw [lget_oob (by rw [lsets_length, lset_length]; omega), lget_oob (by omega)]
   ·left; rw [h, lget_lset_ne hi]
  ·exact .inr ⟨List.mem_cons_of_mem _ h1, h2⟩
theorem lsets_mem {env' : List Value} : ∀ (is : List Nat) (env : List Value), env'.length = env.length → ∀ t, t ∈ is → lget (lsets env is (lgets env' is)) t = lget env' t
 | [], _, _, t, h => by cases h
 | i :: is, env, hl, t, h => by
  rw [lgets, lsets]
  by_cases hm : t ∈ is
  ·exact lsets_mem is _ (by rw [lset_length]; exact hl) t hm
  ·have hi : t = i := by
    rcases List.mem_cons.1 h with h | h
    ·exact h
    ·exact (hm h).elim
   subst hi
   rcases lsets_lget (env' := env') is (lset env t (lget env' t)) (by rw [lset_length]; exact hl) t with h | ⟨h1, _⟩
   ·rw [h]
    by_cases hlt : t < env.length
    ·exact lget_lset_self hlt
    ·rw [lget_oob (by rw [lset_length]; omega), lget_oob (by rw [hl]; omega)]
   ·exact (hm h1).elim
theorem Frm.sets {S lv jk : List Nat} {env env' : List Value} (h : Frm S env env') (hs : ∀ i, i ∈ S → i ∈ lv ++ jk) :
  env' = lsets (lsets env lv (lgets env' lv)) jk (lgets env' jk) := by
 apply list_of_lget (by rw [lsets_length, lsets_length, h.1])
 intro t
 have hl : env'.length = (lsets env lv (lgets env' lv)).length := by rw [lsets_length, h.1]
 by_cases h1 : t ∈ jk
 ·rw [lsets_mem jk _ hl t h1]
 ·rcases lsets_lget jk (lsets env lv (lgets env' lv)) hl t with h2 | ⟨h2, _⟩
  ·rw [h2]
   by_cases h3 : t ∈ lv
   ·rw [lsets_mem lv _ h.1 t h3]
   ·rcases lsets_lget lv env h.1 t with h4 | ⟨h4, _⟩
    ·rw [h4]
     refine h.2 t fun hS => ?_
     rcases List.mem_append.1 (hs t hS) with h5 | h5
     ·exact h3 h5
     ·exact h1 h5
    ·exact (h3 h4).elim
  ·exact (h1 h2).elim
def thenE (next : List Value → World → Prop) (Q : Exit → List Value → World → Prop) : Exit → List Value → World → Prop := fun e env w =>
 match e with
 | .normal => next env w
 | e => Q e env w
def blockE (id : Nat) (Q : Exit → List Value → World → Prop) : Exit → List Value → World → Prop := fun e env w =>
 match e with
 | .exit id' => condB (Nat.beq id' id) (Q .normal env w) (Q (.exit id') env w)
 | e => Q e env w
def scopeE (Q : Exit → List Value → World → Prop) : Exit → List Value → World → Prop := fun e env w =>
 match e with
 | .goto _ => False
 | e => Q e env w
def vc (P : Program) (ann : Nat → LoopAn) : Code → Nat → (Exit → List Value → World → Prop) → List Value → World → Prop
 | .skip, _, Q, env, w => Q .normal env w
 | .region _ ops draw, _, Q, env, w =>
  match draw with
  | false => opsW P ops.toList ops.toList 0 env w (Q .normal)
  | true => condB (drawOk P ops.toList (ancsGo ops.toList []) (flagsOf P ops.toList (ancsGo ops.toList []))) (∀ w', Drew w w' → drawW P ops.toList (ancsGo ops.toList []) (flagsOf P ops.toList (ancsGo ops.toList [])) (ops.toList.length + 1) 0 env w' (Q .normal)) False
 | .seq a b, p, Q, env, w => vc P ann a (4 * p) (thenE (vc P ann b (4 * p + 1) Q) Q) env w
 | .cond c a b, p, Q, env, w =>
  match evL env c with
  | .bool x => condB x (vc P ann a (4 * p + 2) Q env w) (vc P ann b (4 * p + 3) Q env w)
  | _ => False
 | .block id b, p, Q, env, w => vc P ann b (4 * p) (blockE id Q) env w
 | .loop b, p, Q, env, w =>
  let A := ann p
  condB (subL (writes b) (A.lv ++ A.jk) && hasL P A.ty (lgets env A.lv))
   (A.inv env w (lgets env A.lv) w ∧
    faL P A.ty [] fun vs => ∀ w', A.inv env w vs w' → faJ A.jk [] fun js =>
     vc P ann b (4 * p) (thenE (fun env'' w'' => condB (hasL P A.ty (lgets env'' A.lv))
      (A.inv env w (lgets env'' A.lv) w'' ∧ A.mu env w (lgets env'' A.lv) w'' < A.mu env w vs w') False) Q) (lsets (lsets env A.lv vs) A.jk js) w') False
 | .exit id, _, Q, env, w => Q (.exit id) env w
 | .scope b, p, Q, env, w => vc P ann b (4 * p) (scopeE Q) env w
 | .label _, _, Q, env, w => Q .normal env w
 | .ret, _, Q, env, w => Q .ret env w
 | _, _, _, _, _ => False
theorem upF_mono {S T : List Nat} {env0 env : List Value} {Q R : Exit → List Value → World → Prop} (hf : Frm T env0 env) (hs : ∀ i, i ∈ S → i ∈ T)
  (hq : ∀ e env w, Q e env w → R e env w) : ∀ e a w, upF ds S env Q e a w → upF ds T env0 R e a w := by
 rintro e a w ⟨env', rfl, h1, h2⟩
 exact ⟨env', rfl, hf.trans (h1.mono hs), hq _ _ _ h2⟩
theorem vc_sound {P : Program} (hP : CallsOk P) (hm : P.follows .mixedOrders = true) (ann : Nat → LoopAn) : ∀ (c : Code) (p : Nat) (Q : Exit → List Value → World → Prop) (env : List Value) (w : World),
  vc P ann c p Q env w → c.wp P (upF ds (writes c) env Q) (actOf ds env) w := by
 intro c
 induction c with
 | skip => intro p Q env w h; exact wp_skip ⟨env, rfl, Frm.refl _ _, h⟩
 | region id ops draw =>
  intro p Q env w h
  have hin : ∀ o ∈ ops.toList, ∀ d, o.dst = some d → d ∈ dstsL ops.toList := fun o ho d hd => List.mem_filterMap.2 ⟨o, ho, hd⟩
  cases draw with
  | false =>
   refine wp_region_list ?_
   have := opsW_sound (ds := ds) hP (Q := Q) (S := dstsL ops.toList) (env0 := env) ops.toList 0 env w hin (Frm.refl _ _) h
   rw [Array.toArray_toList] at this
   exact this
  | true =>
   rcases condB_elim h with ⟨hd, h⟩ | ⟨_, h⟩
   ·have hd := drawOk_spec hd
    refine wp_region_any hm ?_
    have h0 : ∀ i, (Array.replicate ops.size false).getD i false = false := by
     intro i
     by_cases hi : i < ops.size <;> simp [hi]
    have hs : Sim P ops.toList (flagsOf P ops.toList (ancsGo ops.toList [])) (Array.replicate ops.size false) env 0 env w.drew :=
     ⟨by simp, fun i hi => (by simp at hi), fun i hi => (by rw [h0] at hi; cases hi), fun i o _ hi => (by simp at hi), fun j o _ hi => (by rw [h0] at hi; cases hi),
      fun j o _ hi => (by simp at hi), rfl, fun _ _ => rfl, fun i o _ hi => (by simp at hi)⟩
    have := drawW_sound (ds := ds) hP hd (Q := Q) (S := dstsL ops.toList) (env0 := env) hin (ops.toList.length + 1) ops.size (Array.replicate ops.size false) env 0 env w.drew hs (Frm.refl _ _) (by
     unfold unl
     refine Nat.le_trans List.countP_le_length ?_
     simp) (h _ rfl)
    rw [Array.toArray_toList] at this
    exact this
   ·exact h.elim
 | seq a b iha ihb =>
  intro p Q env w h
  refine wp_seq (Go.wp_mono (iha _ _ _ _ h) ?_)
  rintro e x w' ⟨env', rfl, hf, hq⟩
  have hsa : ∀ i, i ∈ writes a → i ∈ writes (.seq a b) := fun i hi => List.mem_append_left _ hi
  cases e with
  | normal =>
   refine Go.wp_mono (ihb _ _ _ _ hq) ?_
   exact upF_mono (hf.mono hsa) (fun i hi => List.mem_append_right _ hi) (fun _ _ _ h => h)
  | _ => exact ⟨env', rfl, hf.mono hsa, hq⟩
 | cond c a b iha ihb =>
  intro p Q env w h
  unfold vc at h
  split at h
  ·rename_i x hx
   refine wp_cond (t := x) (by rw [evL_eq]; exact hx) ?_
   rcases condB_elim h with ⟨rfl, h⟩ | ⟨rfl, h⟩
   ·exact Go.wp_mono (iha _ _ _ _ h) (upF_mono (Frm.refl _ _) (fun i hi => List.mem_append_left _ hi) (fun _ _ _ h => h))
   ·exact Go.wp_mono (ihb _ _ _ _ h) (upF_mono (Frm.refl _ _) (fun i hi => List.mem_append_right _ hi) (fun _ _ _ h => h))
  ·exact h.elim
 | block id b ih =>
  intro p Q env w h
  refine wp_block (Go.wp_mono (ih _ _ _ _ h) ?_)
  rintro e x w' ⟨env', rfl, hf, hq⟩
  cases e with
  | exit id' =>
   simp only [Exit.inBlock]
   rcases condB_elim hq with ⟨hb, hq⟩ | ⟨hb, hq⟩
   ·rw [if_pos (Nat.eq_of_beq_eq_true hb)]
    exact ⟨env', rfl, hf, hq⟩
   ·rw [if_neg (by rintro rfl; rw [Nat.beq_refl] at hb; cases hb)]
    exact ⟨env', rfl, hf, hq⟩
  | _ => exact ⟨env', rfl, hf, hq⟩
 | loop b ih =>
  intro p Q env w h
  unfold vc at h
  rcases condB_elim h with ⟨hc, h0, hstep⟩ | ⟨_, h⟩
  ·obtain ⟨hsub, hhas⟩ := band_true hc
   have hsub := subL_sub hsub
   generalize hA : ann p = A at *
   refine wp_loop (fun x w' => ∃ env', x = actOf ds env' ∧ Frm (writes b) env env' ∧ hasL P A.ty (lgets env' A.lv) = true ∧ A.inv env w (lgets env' A.lv) w')
    (fun x w' => A.mu env w (lgets x.tmps.toList A.lv) w') ⟨env, rfl, Frm.refl _ _, hhas, h0⟩ ?_
   rintro x w' ⟨env', rfl, hf, hhas', hinv⟩
   have h1 := faL_elim hstep hhas' w' hinv
   have h2 := faJ_elim h1 (lgets_length env' A.jk)
   simp only [List.reverse_nil, List.nil_append] at h2
   rw [← hf.sets hsub] at h2
   refine Go.wp_mono (ih _ _ _ _ h2) ?_
   rintro e y w'' ⟨env'', rfl, hf', hq⟩
   have hf2 : Frm (writes b) env env'' := hf.trans hf'
   cases e with
   | normal =>
    rcases condB_elim hq with ⟨hh, hi, hmu⟩ | ⟨_, hq⟩
    ·exact ⟨⟨env'', rfl, hf2, hh, hi⟩, hmu⟩
    ·exact hq.elim
   | _ => exact ⟨env'', rfl, hf2, hq⟩
  ·exact h.elim
 | exit id => intro p Q env w h; exact wp_exit ⟨env, rfl, Frm.refl _ _, h⟩
 | ret => intro p Q env w h; exact wp_ret ⟨env, rfl, Frm.refl _ _, h⟩
 | label l => intro p Q env w h; exact wp_label ⟨env, rfl, Frm.refl _ _, h⟩
 | scope b ih =>
  intro p Q env w h
  refine wp_scope_straight (Go.wp_mono (ih _ _ _ _ h) ?_)
  rintro e x w' ⟨env', rfl, hf, hq⟩
  cases e with
  | goto l => exact hq.elim
  | _ => exact ⟨env', rfl, hf, hq⟩
 | _ => intro p Q env w h; exact h.elim
def resW (P : Program) (w : World) : List ResultVar → List Value → List Value → (List Value → Prop) → Prop
 | [], _, acc, K => K acc.reverse
 | .tmp t :: rs, env, acc, K => resW P w rs env (lget env t :: acc) K
 | .cell a t :: rs, env, acc, K => condB (P.underlying t).isSome (loadW P t (lget env a) w fun v => resW P w rs env (v :: acc) K) False
def oneOf (vs : List Value) : Value := match vs with | [v] => v | vs => .tuple vs.toArray
def retE (P : Program) (rs : List ResultVar) (R : Value → World → Prop) : Exit → List Value → World → Prop := fun e env w =>
 match e with
 | .normal => resW P w rs env [] fun vs => R (oneOf vs) w
 | .ret => resW P w rs env [] fun vs => R (oneOf vs) w
 | _ => False
def ResOk (P : Program) (w : World) (env : List Value) : ResultVar → Value → Prop
 | .tmp t, v => v = lget env t
 | .cell a t, v => ∃ p, lget env a = .pointer (some p) ∧ (loadVar t p).run P w = .ok v w
def ResAll (P : Program) (w : World) (env : List Value) : List ResultVar → List Value → Prop
 | [], [] => True
 | r :: rs, v :: vs => ResOk P w env r v ∧ ResAll P w env rs vs
 | _, _ => False
theorem resW_sound {P : Program} {w : World} {env : List Value} {K : List Value → Prop} : ∀ {rs : List ResultVar} {acc : List Value}, resW P w rs env acc K →
  ∃ vs, K (acc.reverse ++ vs) ∧ ResAll P w env rs vs := by
 intro rs
 induction rs with
 | nil => intro acc h; exact ⟨[], by simpa [resW] using h, trivial⟩
 | cons r rs ih =>
  intro acc h
  cases r with
  | tmp t =>
   obtain ⟨vs, hK, hr⟩ := ih h
   exact ⟨lget env t :: vs, by simpa using hK, rfl, hr⟩
  | cell a t =>
   rcases condB_elim h with ⟨hu, h⟩ | ⟨_, h⟩
   ·obtain ⟨v, h1, h2⟩ := loadW_sound (by intro e; rw [e] at hu; cases hu) h
    obtain ⟨vs, hK, hr⟩ := ih h1
    have hp : ∃ p, lget env a = .pointer (some p) := by
     unfold loadW at h
     split at h
     ·exact ⟨_, by assumption⟩
     ·exact h.elim
    obtain ⟨p, hp⟩ := hp
    rw [hp] at h2
    exact ⟨v :: vs, by simpa using hK, ⟨p, hp, by simpa [Instr.loadAt, Instr.sureAddr] using h2⟩, hr⟩
   ·exact h.elim
theorem mapM_ok {P : Program} {w : World} {env : List Value} {f : ResultVar → Sem Value} (hf : ∀ r v, ResOk P w env r v → (f r).run P w = .ok v w) :
  ∀ {rs : List ResultVar} {vs : List Value}, ResAll P w env rs vs → (rs.mapM f).run P w = .ok vs w
 | [], [], _ => by simp
 | r :: rs, v :: vs, h => by
  simp only [List.mapM_cons, Sem.run_bind, hf r v h.1, Result.andThen, mapM_ok hf h.2, Sem.run_pure]
 | [], _ :: _, h => h.elim
 | _ :: _, [], h => h.elim
theorem calls_of_vc {P : Program} (hP : CallsOk P) (hm : P.follows .mixedOrders = true) (ann : Nat → LoopAn) {f : FuncId} {fn : Func} {c : Code} {args : Array Value} {w : World} {R : Value → World → Prop}
  (hf : P.funcs[f]? = some fn) (hb : fn.body = some c)
  (h : vc P ann c 1 (retE P fn.results.toList R) (args.toList ++ List.replicate (fn.ntmps - args.toList.length) undef) w) :
  Calls P f args w fun e w' => ∃ v, e = .returned v ∧ R v w' := by
 refine calls_of_wp hf hb ?_
 have h1 := vc_sound (ds := []) hP hm ann c 1 _ _ w h
 have e : (⟨args ++ Array.replicate (fn.ntmps - args.size) undef, []⟩ : Act) = actOf [] (args.toList ++ List.replicate (fn.ntmps - args.toList.length) undef) := by
  unfold actOf
  congr 1
  apply Array.toList_inj.1
  simp
 rw [e]
 refine Go.wp_mono h1 ?_
 rintro ex a w' ⟨env', rfl, _, hq⟩
 have key : resW P w' fn.results.toList env' [] (fun vs => R (oneOf vs) w') → (actOf [] env').defers = [] ∧ ∃ v, (results fn (actOf [] env').tmps).run P w' = .ok v w' ∧ ∃ v', Ending.returned v = .returned v' ∧ R v' w' := by
  intro hr
  obtain ⟨vs, hK, hall⟩ := resW_sound hr
  refine ⟨rfl, oneOf vs, ?_, _, rfl, by simpa using hK⟩
  have hget : ∀ t, (actOf [] env').tmps.getD t undef = lget env' t := by intro t; simp [actOf, lget_eq]
  have h2 := mapM_ok (f := fun
   | .tmp t => pure ((actOf [] env').tmps.getD t undef)
   | .cell a t => do loadVar t (← asAddr ((actOf [] env').tmps.getD a undef))) (by
    intro r v hok
    cases r with
    | tmp t => simp only [hget]; rw [hok]; rfl
    | cell a t =>
     obtain ⟨p, hp, hl⟩ := hok
     simp only [hget, hp, asAddr, Sem.run_bind, Sem.run_pure, Result.andThen, hl]) hall
  have h3 : (fn.results.mapM fun
   | .tmp t => pure ((actOf [] env').tmps.getD t undef)
   | .cell a t => do loadVar t (← asAddr ((actOf [] env').tmps.getD a undef)) : Sem (Array Value)).run P w' = .ok vs.toArray w' := by
   rw [Array.mapM_eq_mapM_toList]
   simp only [Sem.run_map, h2, Result.andThen]
  unfold results
  rw [Sem.run_bind]
  refine (congrArg (fun r : Result (Array Value) => r.andThen _) h3).trans ?_
  simp only [Result.andThen, Sem.run_pure]
  match vs with
  | [] => rfl
  | [v] => rfl
  | v :: u :: rest => simp [oneOf]
 cases ex with
 | normal => exact key hq
 | ret => exact key hq
 | _ => exact hq.elim
theorem callsOk_of {P : Program} (h : (P.funcs.toList.all fun fn => fn.name != "runtime.NumGoroutine") = true) : CallsOk P := by
 intro f fn hf hb args w
 simp only [List.all_eq_true] at h
 have h1 := h fn (by rw [Array.mem_toList_iff]; exact Array.mem_of_getElem? hf)
 have h2 : (fn.name == "runtime.NumGoroutine") = false := by simpa using h1
 have h3 : fn.body.isNone = false := by cases hx : fn.body <;> simp [hx] at hb ⊢
 unfold callFunc
 simp only [Sem.run_bind]
 have h4 : (program).run P w = .ok P w := rfl
 rw [h4]
 simp only [Result.andThen, hf]
 rw [h2, h3]
 rfl
theorem calls_of_vc' {P : Program} (hP : CallsOk P) (hm : P.follows .mixedOrders = true) (ann : Nat → LoopAn) {f : FuncId} {fn : Func} {args : Array Value} {w : World} {R : Value → World → Prop} {F : Prop}
  (hf : P.funcs[f]? = some fn) (hb : fn.body.isSome = true)
  (he : vc P ann (fn.body.getD .skip) 1 (retE P fn.results.toList R) (args.toList ++ List.replicate (fn.ntmps - args.toList.length) undef) w = F) (h : F) :
  Calls P f args w fun e w' => ∃ v, e = .returned v ∧ R v w' := by
 obtain ⟨c, hc⟩ := Option.isSome_iff_exists.1 hb
 rw [hc] at he
 subst he
 exact calls_of_vc hP hm ann hf hc h
end Go.Vc
