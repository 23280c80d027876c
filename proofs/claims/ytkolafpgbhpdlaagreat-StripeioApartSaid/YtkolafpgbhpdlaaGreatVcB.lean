import Derived.Test.YtkolafpgbhpdlaaGreatVcA
namespace Go.Vc
open Go
def exRow (P : Program) : List TypeId → List Value → (List Value → Prop) → Prop
 | [], acc, K => K acc.reverse
 | t :: ts, acc, K => exS P t fun v => exRow P ts (v :: acc) K
def exT (P : Program) (t : TypeId) (F : Value → Prop) : Prop :=
 match isAggT P t with
 | true => exRow P (flat P 8 t) [] fun l => F (.agg l.toArray)
 | false => exS P t F
theorem exRow_elim {P : Program} : ∀ {ts : List TypeId} {acc : List Value} {K : List Value → Prop}, exRow P ts acc K → ∃ l, K l
 | [], _, _, h => ⟨_, h⟩
 | _ :: _, _, _, h => by obtain ⟨v, h⟩ := exS_elim h; exact exRow_elim h
theorem exT_elim {P : Program} {t : TypeId} {F : Value → Prop} (h : exT P t F) : ∃ v, F v := by
 unfold exT at h
 split at h
 ·obtain ⟨l, h⟩ := exRow_elim h; exact ⟨_, h⟩
 ·exact exS_elim h
def mapAt (P : Program) (t : TypeId) (m key : Value) (w : World) (v : Value) (b : Bool) : Prop :=
 (Instr.lookup t m key true).run P w = .ok (.tuple #[v, .bool b]) w ∧ (Instr.lookup t m key false).run P w = .ok v w
def lookV (ok : Bool) (v : Value) (b : Bool) : Value := match ok with | true => .tuple #[v, .bool b] | false => v
def lookupW (P : Program) (t : TypeId) (m key : Value) (ok : Bool) (w : World) (K : Value → Prop) : Prop :=
 match P.underlying t with
 | some (.map _ e) => exT P e fun v => ∃ b : Bool, mapAt P t m key w v b ∧ K (lookV ok v b)
 | _ => False
def mapLen (w : World) (m : Value) (n : Nat) : Prop :=
 match m with
 | .map none => n = 0
 | .map (some r) => ∃ es c, w.heap[r]? = some (.map es c) ∧ es.size = n
 | _ => False
def mapLenW (P : Program) (t : TypeId) (m : Value) (w : World) (K : Value → Prop) : Prop :=
 match P.underlying t with
 | some (.map _ _) => ∃ n : Nat, mapLen w m n ∧ K (.int .i64 n)
 | _ => False
def bytesStr (P : Program) (x : Value) (w : World) (s : ByteArray) : Prop := (Conv.bytesToString x).run P w = .ok (.string s) w
def toStrW (P : Program) (src dst : TypeId) (x : Value) (w : World) (K : Value → Prop) : Prop :=
 match P.underlying src with
 | some (.slice e) => match P.underlying dst with
  | some .string => match P.underlying e with
   | some (.int .u8) => match x with
    | .slice p n c => ∃ s : ByteArray, bytesStr P (.slice p n c) w s ∧ K (.string s)
    | _ => False
   | _ => False
  | _ => False
 | _ => False
def entryAt (P : Program) (it : Value) (w : World) (k v : Value) : Prop := (Instr.entry it).run P w = .ok (.tuple #[k, v]) w
def eqlAt (P : Program) (t : TypeId) (x y : Value) (w : World) (b : Bool) : Prop :=
 (∀ op ox oy, (eqGuard op t ox oy x y).run P w = .ok () w) ∧ (binOp .eql t x y).run P w = .ok (.bool b) w ∧ (binOp .neq t x y).run P w = .ok (.bool (!b)) w
theorem run_getObj_map {P : Program} {w : World} {r : Nat} {es : Array MapEntry} {c : Nat} (h : w.heap[r]? = some (.map es c)) :
  (getObj r).run P w = .ok (.map es c) w := by simp only [getObj, Sem.run, h]
theorem run_getObj_iter {P : Program} {w : World} {r : Nat} {m : Option Nat} {s : Nat} {sn : Array Nat} {c : Nat} (h : w.heap[r]? = some (.mapIter m s sn c)) :
  (getObj r).run P w = .ok (.mapIter m s sn c) w := by simp only [getObj, Sem.run, h]
theorem run_setObj {P : Program} {w : World} {r : Nat} {o o' : Obj} (h : w.heap[r]? = some o) (hc : ∀ a b c, o ≠ .cells a b c) :
  (setObj r o').run P w = .ok () { w with heap := w.heap.setIfInBounds r o' } := by
 cases o <;> simp only [setObj, Sem.run, h]
 exact (hc _ _ _ rfl).elim
inductive Cls | pure | mem | eff
 deriving DecidableEq
def eqPure (P : Program) (t : TypeId) (y : Operand) : Bool :=
 match P.underlying t with
 | some (.int _) => true
 | some .string => true
 | some .bool => true
 | _ => match y with
  | .const (.pointer none) => true
  | .const (.slice none _ _) => true
  | .const (.map none) => true
  | _ => false
def clsOf (P : Program) (o : Op) : Cls :=
 match o with
 | .move _ => .pure
 | .assign _ => .pure
 | .pick _ _ _ => .pure
 | .nilCheck _ => .pure
 | .fieldAddr _ _ _ => .pure
 | .field _ _ _ => .pure
 | .indexAddr _ _ _ => .pure
 | .index _ _ _ => .pure
 | .slice _ _ _ _ _ => .pure
 | .extract _ _ => .pure
 | .binOp op t _ y _ => match op with
  | .eql => if eqPure P t y then .pure else .mem
  | .neq => if eqPure P t y then .pure else .mem
  | _ => .pure
 | .unOp _ _ _ => .pure
 | .convert s d _ => match P.underlying s with
  | some (.slice _) => .mem
  | some .string => match P.underlying d with
   | some .string => .pure
   | _ => .eff
  | _ => .pure
 | .makeFunc _ _ _ => .pure
 | .build _ _ => .pure
 | .call { callee := .builtin .len, argTypes := ts, .. } => match ts.toList with
  | [t] => match P.underlying t with
   | some (.map _ _) => .mem
   | _ => .pure
  | _ => .pure
 | .call { callee := .builtin .min, .. } => .pure
 | .call { callee := .builtin .max, .. } => .pure
 | .load _ _ => .mem
 | .lookup _ _ _ _ => .mem
 | .entry _ => .mem
 | _ => .eff
def extTy : List Oper → Option Nat → Nat → Option TypeId
 | [], _, _ => none
 | o :: rest, d, i => match o.op with
  | .extract (.tmp t) j => match d with
   | some d => match Nat.beq t d && Nat.beq i j with
    | true => some o.type
    | false => extTy rest (some d) i
   | none => none
  | _ => extTy rest d i
def exO (P : Program) (t : Option TypeId) (F : Value → Prop) : Prop :=
 match t with
 | some t => exT P t F
 | none => ∃ v : Value, F v
theorem exO_elim {P : Program} {t : Option TypeId} {F : Value → Prop} (h : exO P t F) : ∃ v, F v := by
 cases t with
 | none => exact h
 | some t => exact exT_elim h
def memW (P : Program) (ops : List Oper) (dst : Option Nat) (o : Op) (ev : Operand → Value) (w : World) (K : Value → Prop) : Prop :=
 match o with
 | .load t a => loadW P t (ev a) w K
 | .lookup t m k ok => lookupW P t (ev m) (ev k) ok w K
 | .entry it => exO P (extTy ops dst 0) fun k => exO P (extTy ops dst 1) fun v => entryAt P (ev it) w k v ∧ K (.tuple #[k, v])
 | .convert s d x => toStrW P s d (ev x) w K
 | .call { callee := .builtin .len, args := args, argTypes := ts } => match ts.toList with
  | [t] => match args.toList with | [x] => mapLenW P t (ev x) w K | _ => False
  | _ => False
 | .binOp op t x y _ => ∃ b : Bool, eqlAt P t (ev x) (ev y) w b ∧ eqW op b K
 | _ => False
theorem loadW_sound {P : Program} {t : TypeId} {x : Value} {w : World} {K : Value → Prop} (hn : P.underlying t ≠ none) (h : loadW P t x w K) :
  ∃ v, K v ∧ (Instr.loadAt t x).run P w = .ok v w := by
 unfold loadW at h
 split at h
 ·rename_i p
  split at h
  ·rename_i ha
   split at h
   ·rename_i hl
    have hl := Nat.eq_of_beq_eq_true hl
    obtain ⟨l, hK, hr⟩ := loadRow_sound _ _ _ h
    refine ⟨_, hK, ?_⟩
    have hr' : (loadCells p (P.cellsOf t)).run P w = .ok l.toArray w := by rw [← hl]; exact hr
    simp [Instr.loadAt, Instr.sureAddr, loadVar, isAgg_run true ha hn, cellsOf_run hn, hr']
   ·exact h.elim
  ·rename_i ha
   obtain ⟨v, hc, hK⟩ := exS_elim h
   refine ⟨v, hK, ?_⟩
   simp [Instr.loadAt, Instr.sureAddr, loadVar, isAgg_run false ha hn, hc]
 ·exact h.elim
theorem memW_sound {P : Program} {ops : List Oper} {dst : Option Nat} {o : Oper} {ev : Operand → Value} {w : World} {K : Value → Prop}
  (hl : ∀ t a, o.op = .load t a → P.underlying t ≠ none) (h : memW P ops dst o.op ev w K) :
  ∃ v, K v ∧ (execOp ev o).run P w = .ok (.value v) w := by
 unfold memW at h
 split at h
 ·rename_i t a ho
  obtain ⟨v, hK, hr⟩ := loadW_sound (hl t a ho) h
  exact ⟨v, hK, execOp_v (by simp only [execOp, ho]) hr⟩
 ·rename_i t m k ok ho
  unfold lookupW at h
  split at h
  ·obtain ⟨v, b, hm, hK⟩ := exT_elim h
   refine ⟨_, hK, execOp_v (s := Instr.lookup t (ev m) (ev k) ok) (by simp only [execOp, ho]) ?_⟩
   cases ok
   ·exact hm.2
   ·exact hm.1
  ·exact h.elim
 ·rename_i it ho
  obtain ⟨k, h⟩ := exO_elim h
  obtain ⟨v, hm, hK⟩ := exO_elim h
  exact ⟨_, hK, execOp_v (s := Instr.entry (ev it)) (by simp only [execOp, ho]) hm⟩
 ·rename_i s d x ho
  unfold toStrW at h
  split at h
  ·rename_i e hs
   split at h
   ·rename_i hd
    split at h
    ·rename_i he
     split at h
     ·rename_i p n c hx
      obtain ⟨str, hm, hK⟩ := h
      refine ⟨_, hK, execOp_v (s := convert s d (ev x)) (by simp only [execOp, ho]) ?_⟩
      rw [hx]
      simp only [convert, Sem.run_bind, run_underlying' hs, run_underlying' hd, Result.andThen, run_underlying' he]
      exact hm
     ·exact h.elim
    ·exact h.elim
   ·exact h.elim
  ·exact h.elim
 ·rename_i args ts ho
  split at h
  ·rename_i t hts
   split at h
   ·rename_i x hx
    have e1 : args = #[x] := Array.toList_inj.1 (by simpa using hx)
    have e2 : ts = #[t] := Array.toList_inj.1 (by simpa using hts)
    subst e1 e2
    unfold mapLenW at h
    split at h
    ·rename_i kt et hu
     obtain ⟨n, hm, hK⟩ := h
     refine ⟨_, hK, ?_⟩
     unfold mapLen at hm
     split at hm
     ·rename_i hx'
      subst hm
      simp [execOp, ho, resolve, hx', invoke, builtin, Builtin.len_, run_underlying' hu, goInt]
     ·rename_i r hx'
      obtain ⟨es, c, hh, rfl⟩ := hm
      simp [execOp, ho, resolve, hx', invoke, builtin, Builtin.len_, run_underlying' hu, goInt, run_getObj_map hh]
     ·exact hm.elim
    ·exact h.elim
   ·exact h.elim
  ·exact h.elim
 ·rename_i op t x y t' ho
  obtain ⟨b, hm, hK⟩ := h
  cases op <;> simp only [eqW] at hK
  case eql => exact ⟨_, hK, by simp [execOp, ho, hm.1, hm.2.1]⟩
  case neq => exact ⟨_, hK, by simp [execOp, ho, hm.1, hm.2.2]⟩
  all_goals exact hK.elim
 ·exact h.elim
def scalar (v : Value) : Bool :=
 match v with
 | .agg _ => false
 | .tuple _ => false
 | _ => true
def NewB (w : World) (b : Nat) (o : Obj) (w' : World) : Prop := b = w.heap.size ∧ w' = w.alloc o
def SetC (w : World) (p : Addr) (v : Value) (w' : World) : Prop := w' = w.setCell p v
def Drew (w w' : World) : Prop := w' = w.drew
def Live (w : World) (p : Addr) : Prop := (∃ old, w.cell? p = some old) ∧ w.frozen? p = false
def newW (w : World) (o : Obj) (K : Nat → World → Prop) : Prop := ∀ (b : Nat) (w' : World), NewB w b o w' → K b w'
def storeCell (w : World) (p : Addr) (v : Value) (K : World → Prop) : Prop :=
 Live w p ∧ condB (scalar v) (∀ w', SetC w p v w' → K w') False
def storeRow (w : World) (p : Addr) : List Value → Nat → (World → Prop) → Prop
 | [], _, K => K w
 | v :: vs, i, K => storeCell w (p.add i) v fun w' => storeRow w' p vs (i + 1) K
def storeW (P : Program) (t : TypeId) (x v : Value) (w : World) (K : World → Prop) : Prop :=
 match x with
 | .pointer p => nilM p fun p =>
  condB (Nat.beq v.cells.toList.length (P.cellsOf t) && (P.info? t).isSome) (storeRow w p v.cells.toList 0 K) False
 | _ => False
def zeroCellsOf (P : Program) (t : TypeId) : List Value :=
 match zeroOf P t with
 | some z => z.cells.toList
 | none => []
def ptrTo (n : Nat) : Value := .pointer (some ⟨n, 0, none⟩)
def callFW (P : Program) (f : FuncId) (args : Array Value) (w : World) (K : Value → World → Prop) : Prop :=
 match P.funcs[f]? with
 | some fn => condB fn.body.isSome
   (Calls P f args w fun e w' => match fn.resultTypes.toList with
    | [] => e = .returned (.tuple #[]) ∧ K (.tuple #[]) w'
    | [t] => exT P t fun v => e = .returned v ∧ K v w'
    | [t, u] => exT P t fun v => exT P u fun x => e = .returned (.tuple #[v, x]) ∧ K (.tuple #[v, x]) w'
    | [t, u, s] => exT P t fun v => exT P u fun x => exT P s fun y => e = .returned (.tuple #[v, x, y]) ∧ K (.tuple #[v, x, y]) w'
    | _ => ∃ v, e = .returned v ∧ K v w') False
 | none => False
def callVW (P : Program) (fv : Value) (args : List Value) (w : World) (K : Value → World → Prop) : Prop :=
 match fv with
 | .func (.func f) first captured => callFW P f (first.toList ++ (args ++ captured.toList)).toArray w K
 | _ => False
def runTW (P : Program) (t : TypeId) (s : Sem Value) (w : World) (K : Value → World → Prop) : Prop :=
 exT P t fun v => ∃ w', s.run P w = .ok v w' ∧ K v w'
def runUW (P : Program) (s : Sem Unit) (w : World) (K : Value → World → Prop) : Prop := ∃ w', s.run P w = .ok () w' ∧ K undef w'
def buildSliceW (P : Program) (t : TypeId) (len : Nat) (parts : List (Nat × Value)) (w : World) (K : Value → World → Prop) : Prop :=
 match P.underlying t with
 | some (.slice e) =>
  condB (Nat.ble (len * P.cellsOf e) 65536 && (zeroOf P e).isSome && (P.info? e).isSome && Nat.beq (zeroCellsOf P e).length (P.cellsOf e))
   (match fillL (fun i => some (i * P.cellsOf e, P.cellsOf e)) (List.replicate len (zeroCellsOf P e)).flatten parts with
    | some cells => newW w (.cells cells.toArray e) fun b w' => K (.slice (some ⟨b, 0, none⟩) len len) w'
    | none => False) False
 | _ => False
def madeRow (P : Program) (e : TypeId) (n : Nat) : Array Value := (List.replicate n (zeroCellsOf P e)).flatten.toArray
def makeSliceW (P : Program) (t : TypeId) (l c : Value) (w : World) (K : Value → World → Prop) : Prop :=
 match P.underlying t with
 | some (.slice e) => match l with
  | .int _ l => match c with
   | .int _ c => condB ((zeroOf P e).isSome && (P.info? e).isSome && Nat.beq (zeroCellsOf P e).length (P.cellsOf e) && !Nat.beq (P.bytesOf e) 0)
     ((0 ≤ l ∧ l ≤ c ∧ c * (P.bytesOf e : Int) ≤ 2 ^ 48) ∧
      newW w (.cells (madeRow P e c.toNat) e) fun b w' => K (.slice (some ⟨b, 0, none⟩) l.toNat c.toNat) w') False
   | _ => False
  | _ => False
 | _ => False
def mapIs (w : World) (r : Option Nat) (es : Array MapEntry) (c : Nat) : Prop :=
 match r with
 | some m => w.heap[m]? = some (.map es c)
 | none => es = #[] ∧ c = 0
def rangeW (P : Program) (t : TypeId) (x : Value) (w : World) (K : Value → World → Prop) : Prop :=
 match P.underlying t with
 | some (.map _ _) => match x with
  | .map r => ∃ es c, mapIs w r es c ∧ newW w (.mapIter r c #[] c) fun b w' => K (ptrTo b) w'
  | _ => False
 | _ => False
def nextB (w : World) (p : Addr) (T : Value → Value → World → Prop) (E : World → Prop) : Prop :=
 p.off = 0 ∧ ∃ m since seen last,
   w.heap[p.block]? = some (.mapIter m since seen last) ∧
   (m = none → E w) ∧
   (∀ r, m = some r → ∃ es clock, w.heap[r]? = some (.map es clock) ∧
    (seen = #[] ∨ es = #[] ∨ ∃ e ∈ es, e.born < last) ∧
    (∀ e ∈ es, e.born ∉ seen → ∀ d, T e.key e.val { w with drawn := d, heap := w.heap.setIfInBounds p.block (.mapIter (some r) since (seen.push e.born) clock) }) ∧
    ((∀ e ∈ es, e.born ∉ seen → since ≤ e.born) → ∀ d, E { w with drawn := d }))
def nextW (it : Value) (w : World) (K : Value → World → Prop) : Prop :=
 match it with
 | .pointer p => nilM p fun p => nextB w p (fun k v w' => K (.tuple #[.bool true, k, v]) w') (fun w' => K (.tuple #[.bool false]) w')
 | _ => False
def entryW (P : Program) (t : TypeId) (m k : Value) (w : World) (K : Value → World → Prop) : Prop :=
 match P.underlying t with
 | some (.map _ e) => exT P e fun v => ∃ (n : Int) (w' : World), (Instr.mapEntry t m k).run P w = .ok (.tuple #[v, .int .i64 n]) w' ∧ K (.tuple #[v, .int .i64 n]) w'
 | _ => False
def effW (P : Program) (o : Op) (ty : TypeId) (ev : Operand → Value) (w : World) (K : Value → World → Prop) : Prop :=
 match o with
 | .store t a v => storeW P t (ev a) (ev v) w fun w' => K undef w'
 | .alloc t => condB (zeroOf P t).isSome (newW w (.cells (zeroCellsOf P t).toArray t) fun b w' => K (ptrTo b) w') False
 | .box t v => newW w (.cells (ev v).cells t) fun b w' => K (ptrTo b) w'
 | .buildSlice t len parts => buildSliceW P t len (parts.toList.map fun (i, x) => (i, ev x)) w K
 | .makeMap _ none => newW w (.map #[] 0) fun b w' => K (.map (some b)) w'
 | .makeSlice t l c => makeSliceW P t (ev l) (ev c) w K
 | .call { callee := .value f, args := args, .. } => callVW P (ev f) (args.toList.map ev) w K
 | .call { callee := .builtin .append, args := args, argTypes := ts } => runTW P ty (Builtin.append_ ts ty (args.map ev)) w K
 | .call { callee := .builtin .copy, args := args, argTypes := ts } => runTW P ty (Builtin.copy_ ts ty (args.map ev)) w K
 | .call { callee := .builtin .delete, args := args, argTypes := ts } => runTW P ty (Builtin.delete_ ts ty (args.map ev)) w K
 | .call { callee := .builtin .clear, args := args, argTypes := ts } => runTW P ty (Builtin.clear_ ts ty (args.map ev)) w K
 | .mapUpdate t m k v => runUW P (Instr.mapUpdate t (ev m) (ev k) (ev v)) w K
 | .insert t m k v => runUW P (Instr.mapUpdate t (ev m) (ev k) (ev v)) w K
 | .mapEntry t m k => entryW P t (ev m) (ev k) w K
 | .entryStore t m s v => runUW P (Instr.entryStore t (ev m) (ev s) (ev v)) w K
 | .convert s d x => runTW P d (convert s d (ev x)) w K
 | .range t x => rangeW P t (ev x) w K
 | .next it false => nextW (ev it) w K
 | _ => False
theorem storeRow_sound {P : Program} {p : Addr} {K : World → Prop} : ∀ {vs : List Value} {i : Nat} {w : World}, storeRow w p vs i K →
  ∃ w', K w' ∧ (storeCells p vs i).run P w = .ok () w' := by
 intro vs
 induction vs with
 | nil => intro i w h; exact ⟨w, h, rfl⟩
 | cons v vs ih =>
  intro i w h
  obtain ⟨⟨⟨old, ho⟩, hf⟩, h⟩ := h
  rcases condB_elim h with ⟨hs, h⟩ | ⟨_, h⟩
  ·obtain ⟨w', hK, hr⟩ := ih (h _ rfl)
   refine ⟨w', hK, ?_⟩
   have h1 : (store (p.add i) v).run P w = .ok () (w.setCell (p.add i) v) := by
    cases v <;> first
     | (simp [scalar] at hs; done)
     | simp [store, Sem.run, ho, hf]
   simp only [storeCells, Sem.run_bind, h1, Result.andThen, hr]
  ·exact h.elim
theorem storeW_sound {P : Program} {t : TypeId} {x v : Value} {w : World} {K : World → Prop} (h : storeW P t x v w K) :
  ∃ w', K w' ∧ (Instr.storeAt t x v).run P w = .ok () w' := by
 unfold storeW at h
 split at h
 ·obtain ⟨p, rfl, h⟩ := nilM_elim h
  rcases condB_elim h with ⟨hb, h⟩ | ⟨_, h⟩
  ·simp only [Bool.and_eq_true] at hb
   obtain ⟨w', hK, hr⟩ := storeRow_sound (P := P) h
   have e := Nat.eq_of_beq_eq_true hb.1
   refine ⟨w', hK, ?_⟩
   simp only [Instr.storeAt, Instr.sureAddr, storeVar, Sem.run_bind, Sem.run_pure, Result.andThen, run_sizeOf' hb.2]
   rw [Array.length_toList] at e
   rw [if_neg (by simp [e])]
   simp [hr]
  ·exact h.elim
 ·exact h.elim
theorem zero_run {P : Program} {t : TypeId} {z : Value} (hz : zeroOf P t = some z) (w : World) : (zeroValue t).run P w = .ok z w := by
 unfold zeroOf at hz
 cases hi : P.info? t with
 | none => simp [hi] at hz
 | some i => simp [hi] at hz; simp [zeroValue, typeInfo, hi, hz]
theorem range_row (z : Array Value) (n : Nat) : (Array.range (n * z.size)).map (fun i => z[i % z.size]!) = ((List.replicate n z.toList).flatten).toArray := by
 apply Array.toList_inj.1
 simp only [Array.toList_map, Array.toList_range]
 induction n with
 | zero => simp
 | succ n ih =>
  rw [Nat.succ_mul, List.range_add, List.map_append, ih, List.replicate_succ', List.flatten_append]
  congr 1
  simp only [List.map_map, List.flatten_singleton]
  apply List.ext_getElem
  ·simp
  ·intro i h1 h2
   simp only [List.length_map, List.length_range] at h1
   simp [Nat.mod_eq_of_lt h1, h1]
theorem rowOf {P : Program} {e : TypeId} {z : Value} (hz : zeroOf P e = some z) (hsz : z.cells.size = P.cellsOf e) (n : Nat) (w : World) :
  ∃ z' : Array Value, (∀ F : Array Value → Sem Value, (if n * P.cellsOf e = 0 then (do let zero ← pure #[]; F zero) else (do let v ← zeroValue e; let zero ← pure v.cells; F zero)).run P w = (F z').run P w) ∧
   (Array.range (n * P.cellsOf e)).map (fun i => z'[i % z'.size]!) = ((List.replicate n z.cells.toList).flatten).toArray := by
 by_cases h0 : n * P.cellsOf e = 0
 ·refine ⟨#[], fun F => by rw [if_pos h0]; simp, ?_⟩
  rw [h0]
  have : (List.replicate n z.cells.toList).flatten.length = 0 := by simp [hsz, h0]
  rw [List.eq_nil_of_length_eq_zero this]
  simp
 ·refine ⟨z.cells, fun F => by rw [if_neg h0]; simp [zero_run hz], ?_⟩
  rw [← hsz]
  exact range_row _ _
theorem run_slice_newRow {P : Program} (e : TypeId) (cells : Array Value) (l c : Nat) (w : World) :
  (do pure (Value.slice (some (← newRow e cells)) l c) : Sem Value).run P w = .ok (.slice (some ⟨w.heap.size, 0, none⟩) l c) (w.alloc (.cells cells e)) := rfl
theorem buildSliceW_sound {P : Program} {t : TypeId} {len : Nat} {parts : Array (Nat × Value)} {w : World} {K : Value → World → Prop}
  (h : buildSliceW P t len parts.toList w K) : ∃ v w', K v w' ∧ (Instr.buildSlice t len parts).run P w = .ok v w' := by
 unfold buildSliceW at h
 split at h
 ·rename_i e hu
  rcases condB_elim h with ⟨hb, h⟩ | ⟨_, h⟩
  ·simp only [Bool.and_eq_true, Nat.ble_eq] at hb
   obtain ⟨⟨⟨hle, hzs⟩, hi⟩, hsz⟩ := hb
   have hsz := Nat.eq_of_beq_eq_true hsz
   split at h
   ·rename_i cells hc
    refine ⟨_, _, h _ _ ⟨rfl, rfl⟩, ?_⟩
    obtain ⟨z, hz⟩ := Option.isSome_iff_exists.1 hzs
    have hzc : zeroCellsOf P e = z.cells.toList := by simp [zeroCellsOf, hz]
    have hf := fillL_eq hc
    rw [hzc] at hf hsz
    rw [Array.length_toList] at hsz
    have hrow := rowOf (P := P) hz hsz len w
    simp only [Instr.buildSlice, Sem.run_bind, run_underlying' hu, Result.andThen, run_sizeOf' hi]
    rw [if_neg (by omega)]
    obtain ⟨z', hz1, hz2⟩ := hrow
    refine (hz1 _).trans ?_
    rw [hz2, hf]
    exact run_slice_newRow _ _ _ _ _
   ·exact h.elim
  ·exact h.elim
 ·exact h.elim
theorem makeSliceW_sound {P : Program} {t : TypeId} {l c : Value} {w : World} {K : Value → World → Prop}
  (h : makeSliceW P t l c w K) : ∃ v w', K v w' ∧ (Instr.makeSlice t l c).run P w = .ok v w' := by
 unfold makeSliceW at h
 split at h
 ·rename_i e hu
  split at h
  ·rename_i k l
   split at h
   ·rename_i k' c
    rcases condB_elim h with ⟨hb, ⟨h0, h1, h2⟩, h⟩ | ⟨_, h⟩
    ·simp only [Bool.and_eq_true, Bool.not_eq_true'] at hb
     obtain ⟨⟨⟨hzs, hi⟩, hsz⟩, hby⟩ := hb
     have hsz := Nat.eq_of_beq_eq_true hsz
     have hby' : P.bytesOf e ≠ 0 := fun e0 => by rw [e0] at hby; simp at hby
     refine ⟨_, _, h _ _ ⟨rfl, rfl⟩, ?_⟩
     obtain ⟨z, hz⟩ := Option.isSome_iff_exists.1 hzs
     obtain ⟨inf, hinf⟩ := Option.isSome_iff_exists.1 hi
     have hbytes : inf.bytes = P.bytesOf e := by simp [Program.bytesOf, hinf]
     have hzc : zeroCellsOf P e = z.cells.toList := by simp [zeroCellsOf, hz]
     rw [hzc, Array.length_toList] at hsz
     have hcb : c ≤ 2 ^ 48 := by
      have : c * 1 ≤ c * (P.bytesOf e : Int) := Int.mul_le_mul_of_nonneg_left (by omega) (by omega)
      omega
     have wl : IntKind.i64.wrap l = l := IntWalk.i64_in _ ⟨by omega, by omega⟩
     have wc : IntKind.i64.wrap c = c := IntWalk.i64_in _ ⟨by omega, by omega⟩
     have hti : (typeInfo e).run P w = .ok inf w := by simp [typeInfo, hinf]
     have h2' : ¬ ((P.bytesOf e : Int) * c > 2 ^ 48) := by rw [Int.mul_comm]; omega
     have h3' : ¬ (c < 0) := by omega
     obtain ⟨z', hz1, hz2⟩ := rowOf (P := P) hz hsz c.toNat w
     simp only [Instr.makeSlice, Sem.run_bind, run_underlying' hu, Result.andThen, asInt, asIntOf, Sem.run_pure, hti, wl, wc, hbytes]
     rw [if_neg (by simp only [h2', h3']; simp; omega)]
     have hask : ∀ n, (askRoom n).run P w = .ok () w := by intro n; unfold askRoom; split <;> rfl
     simp only [Sem.run_bind, hask, Result.andThen, run_sizeOf' hi]
     refine (hz1 _).trans ?_
     rw [madeRow, hzc, hz2]
     exact run_slice_newRow _ _ _ _ _
    ·exact h.elim
   ·exact h.elim
  ·exact h.elim
 ·exact h.elim
theorem callFW_sound {P : Program} (hP : ∀ f fn, P.funcs[f]? = some fn → fn.body.isSome = true → ∀ args w, (callFunc f args).run P w = .ok (.enter f args) w)
  {f : FuncId} {args : Array Value} {w : World} {K : Value → World → Prop} {o : Oper} {a : Act} {next : Act → World → Prop} {Q : Exit → Act → World → Prop}
  (hK : ∀ v w, K v w → next (a.put o.dst v) w) (h : callFW P f args w K) : o.upon P a next Q ((callFunc f args).run P w) := by
 unfold callFW at h
 split at h
 ·rename_i fn hf
  rcases condB_elim h with ⟨hb, h⟩ | ⟨_, h⟩
  ·rw [hP f fn hf hb]
   rw [Oper.upon_enter]
   refine Calls.mono h fun e w' he => ?_
   split at he
   ·obtain ⟨rfl, hk⟩ := he; exact hK _ _ hk
   ·obtain ⟨v, rfl, hk⟩ := exT_elim he; exact hK _ _ hk
   ·obtain ⟨v, he⟩ := exT_elim he; obtain ⟨x, rfl, hk⟩ := exT_elim he; exact hK _ _ hk
   ·obtain ⟨v, he⟩ := exT_elim he; obtain ⟨x, he⟩ := exT_elim he; obtain ⟨y, rfl, hk⟩ := exT_elim he; exact hK _ _ hk
   ·obtain ⟨v, rfl, hk⟩ := he; exact hK _ _ hk
  ·exact h.elim
 ·exact h.elim
theorem rangeW_sound {P : Program} {t : TypeId} {x : Value} {w : World} {K : Value → World → Prop} (h : rangeW P t x w K) :
  ∃ v w', K v w' ∧ (Instr.range t x).run P w = .ok v w' := by
 unfold rangeW at h
 split at h
 ·rename_i kt et hu
  split at h
  ·rename_i r
   obtain ⟨es, c, hm, hK⟩ := h
   refine ⟨_, _, hK _ _ ⟨rfl, rfl⟩, ?_⟩
   cases r with
   | none =>
    obtain ⟨rfl, rfl⟩ := hm
    simp only [Instr.range, Sem.run_bind, run_underlying' hu, Result.andThen]
    rfl
   | some m =>
    simp only [Instr.range, Sem.run_bind, run_underlying' hu, Result.andThen, run_getObj_map (r := m) hm]
    rfl
  ·exact h.elim
 ·exact h.elim
theorem run_choose_any {P : Program} {α : Type} (q : Question) (F : Nat → Sem α) (w : World) :
  ∃ n d, (Sem.bind (choose q) F).run P w = (F n).run P { w with drawn := d } ∧ ((q.forced = true ∧ n = 0) ∨ n = q.cut (w.tape w.drawn q)) := by
 by_cases hq : q.forced = true
 ·exact ⟨0, w.drawn, by simp [choose, Sem.bind, Sem.run, hq], .inl ⟨hq, rfl⟩⟩
 ·exact ⟨q.cut (w.tape w.drawn q), w.drawn + 1, by simp [choose, Sem.bind, Sem.run, hq], .inr rfl⟩
theorem nextW_sound {P : Program} {it : Value} {ty : TypeId} {w : World} {K : Value → World → Prop} (h : nextW it w K) :
  ∃ v w', K v w' ∧ (Instr.next it false ty).run P w = .ok v w' := by
 unfold nextW at h
 split at h
 ·obtain ⟨⟨b, off, spot⟩, rfl, hoff, m, since, seen, last, hi, hnone, hsome⟩ := nilM_elim h
  simp only at hoff hi hsome
  subst hoff
  cases m with
  | none =>
   refine ⟨_, _, hnone rfl, ?_⟩
   simp only [Instr.next, Sem.run_bind, run_getObj_iter hi, Result.andThen]
   rfl
  | some r =>
   obtain ⟨es, clock, hm, hprog, hstep, hend⟩ := hsome r rfl
   have hp : (!seen.isEmpty && !es.isEmpty && es.all (·.born ≥ last)) = false := by
    rcases hprog with rfl | rfl | ⟨e, he, hlt⟩
    ·simp
    ·simp
    ·have : es.all (·.born ≥ last) = false := by
      rw [Bool.eq_false_iff]
      intro hall
      rw [Array.all_eq_true_iff_forall_mem] at hall
      have := hall e he
      simp at this
      omega
     simp [this]
   generalize hleft : es.filter (fun e => !seen.contains e.born) = left
   generalize hold : left.filter (fun e => e.born < since) = old
   generalize hnew : left.filter (fun e => e.born ≥ since) = new
   generalize hcand : (if old.isEmpty then #[none] else #[]) ++ (old ++ new).map some = cands
   have hrun : ∃ n d, (Instr.next (.pointer (some ⟨b, 0, spot⟩)) false ty).run P w =
     (match cands[n]? with
      | some (some e) => (do setObj b (.mapIter (some r) since (seen.push e.born) clock); pure (.tuple #[.bool true, e.key, e.val]) : Sem Value)
      | some none => pure (.tuple #[.bool false])
      | none => stuck "Next: no such candidate").run P { w with drawn := d } ∧ n < cands.size := by
    obtain ⟨n, d, hr, hn⟩ := run_choose_any (P := P) (.mapNext cands.size) (fun n => (match cands[n]? with
      | some (some e) => (do setObj b (.mapIter (some r) since (seen.push e.born) clock); pure (.tuple #[.bool true, e.key, e.val]) : Sem Value)
      | some none => pure (.tuple #[.bool false])
      | none => stuck "Next: no such candidate")) w
    refine ⟨n, d, ?_, ?_⟩
    ·rw [← hr]
     simp only [Instr.next, Sem.run_bind, run_getObj_iter hi, Result.andThen, run_getObj_map hm]
     rw [if_neg (by rw [hp]; simp)]
     rw [hleft, hold, hnew, hcand]
     rfl
    ·have hpos : 0 < cands.size := by
      rw [← hcand]
      by_cases he : old.isEmpty = true
      ·simp [he]; omega
      ·have : 0 < old.size := by
        simp at he
        exact Array.size_pos_iff.2 he
       simp [he]; omega
     rcases hn with ⟨_, rfl⟩ | rfl
     ·exact hpos
     ·exact Nat.mod_lt _ hpos
   obtain ⟨n, d, hr, hn⟩ := hrun
   have hmem : cands[n]? = some cands[n] := by simp [hn]
   rw [hmem] at hr
   cases hc : cands[n] with
   | none =>
    rw [hc] at hr
    refine ⟨_, _, hend ?_ d, hr⟩
    have hin : none ∈ cands := hc ▸ Array.getElem_mem hn
    intro e he hns
    rw [← hcand] at hin
    by_cases hemp : old.isEmpty = true
    ·have ho : old = #[] := by simpa using hemp
     rw [ho] at hold
     by_cases hlt : e.born < since
     ·have : e ∈ left.filter (fun e => e.born < since) := by
       rw [Array.mem_filter, ← hleft, Array.mem_filter]
       exact ⟨⟨he, by simpa using hns⟩, by simpa using hlt⟩
      rw [hold] at this
      simp at this
     ·omega
    ·simp [hemp] at hin
   | some e =>
    rw [hc] at hr
    have hin : some e ∈ cands := hc ▸ Array.getElem_mem hn
    have he : e ∈ left := by
     rw [← hcand] at hin
     simp only [Array.mem_append, Array.mem_map] at hin
     rcases hin with hin | ⟨e', he', heq⟩
     ·split at hin <;> simp at hin
     ·simp only [Option.some.injEq] at heq
      subst heq
      rcases he' with h | h
      ·rw [← hold, Array.mem_filter] at h; exact h.1
      ·rw [← hnew, Array.mem_filter] at h; exact h.1
    rw [← hleft, Array.mem_filter] at he
    refine ⟨_, _, hstep e he.1 (by simpa using he.2) d, ?_⟩
    rw [hr]
    have hi' : ({ w with drawn := d } : World).heap[b]? = some (.mapIter (some r) since seen last) := hi
    simp only [Sem.run_bind, run_setObj hi' (by intros; simp), Result.andThen, Sem.run_pure]
 ·exact h.elim
theorem execOp_u {P : Program} {ev : Operand → Value} {o : Oper} {s : Sem Unit} {w w' : World}
  (he : execOp ev o = (do s; pure .skip)) (hs : s.run P w = .ok () w') : (execOp ev o).run P w = .ok .skip w' := by
 rw [he]; simp [hs]
def CallsOk (P : Program) : Prop := ∀ f fn, P.funcs[f]? = some fn → fn.body.isSome = true → ∀ args w, (callFunc f args).run P w = .ok (.enter f args) w
theorem effW_sound {P : Program} (hP : CallsOk P) {o : Oper} {a : Act} {w : World} {next : Act → World → Prop} {Q : Exit → Act → World → Prop}
  {ev : Operand → Value} (hev : execOp a.eval o = execOp ev o) {K : Value → World → Prop} (hK : ∀ v w', K v w' → next (a.put o.dst v) w')
  (h : effW P o.op o.type ev w K) : o.wp P a w next Q := by
 unfold Oper.wp
 rw [hev]
 have val : ∀ {s : Sem Value} {v : Value} {w' : World}, execOp ev o = (do pure (Next.value (← s))) → s.run P w = .ok v w' → K v w' →
   o.upon P a next Q ((execOp ev o).run P w) := by
  intro s v w' he hs hn
  rw [execOp_v he hs, Oper.upon_value]; exact hK _ _ hn
 have unt : ∀ {s : Sem Unit} {w' : World}, execOp ev o = (do s; pure .skip) → s.run P w = .ok () w' → K undef w' →
   o.upon P a next Q ((execOp ev o).run P w) := by
  intro s w' he hs hn
  rw [execOp_u he hs, Oper.upon_skip]; exact hK _ _ hn
 have bi : ∀ {s : Sem Value} {v : Value} {w' : World}, (execOp ev o).run P w = (do pure (Next.value (← s)) : Sem Next).run P w → s.run P w = .ok v w' → K v w' →
   o.upon P a next Q ((execOp ev o).run P w) := by
  intro s v w' he hs hn
  rw [he]
  simp only [Sem.run_bind, hs, Result.andThen, Sem.run_pure]
  exact hK _ _ hn
 unfold effW at h
 split at h
 ·rename_i t x v ho
  obtain ⟨w', hk, hr⟩ := storeW_sound h
  exact unt (by simp only [execOp, ho]) hr hk
 ·rename_i t ho
  rcases condB_elim h with ⟨hz, h⟩ | ⟨_, h⟩
  ·obtain ⟨z, hz⟩ := Option.isSome_iff_exists.1 hz
   have hzc : zeroCellsOf P t = z.cells.toList := by simp [zeroCellsOf, hz]
   rw [hzc, Array.toArray_toList] at h
   exact val (s := Instr.alloc t true (.tuple #[])) (by simp only [execOp, ho]) (by
    simp only [Instr.alloc, Sem.run_bind, zero_run hz, Result.andThen]; rfl) (h _ _ ⟨rfl, rfl⟩)
  ·exact h.elim
 ·rename_i t v ho
  exact val (s := Instr.box t (ev v)) (by simp only [execOp, ho]) (by rfl) (h _ _ ⟨rfl, rfl⟩)
 ·rename_i t len parts ho
  obtain ⟨v, w', hk, hr⟩ := buildSliceW_sound (parts := parts.map fun x : Nat × Operand => (x.1, ev x.2)) (by simpa using h)
  exact val (s := Instr.buildSlice t len (parts.map fun x : Nat × Operand => (x.1, ev x.2))) (by simp only [execOp, ho]) hr hk
 ·rename_i t ho
  exact val (s := Instr.makeMap t none) (by simp only [execOp, ho]; rfl) (by rfl) (h _ _ ⟨rfl, rfl⟩)
 ·rename_i t l c ho
  obtain ⟨v, w', hk, hr⟩ := makeSliceW_sound h
  exact val (by simp only [execOp, ho]) hr hk
 ·rename_i f args ts ho
  unfold callVW at h
  split at h
  ·rename_i fid first captured hf
   have e : (execOp ev o).run P w = (callFunc fid ((first.toList ++ (args.toList.map ev ++ captured.toList)).toArray)).run P w := by
    have : (first ++ args.map ev) ++ captured = (first.toList ++ (args.toList.map ev ++ captured.toList)).toArray := by
     apply Array.toList_inj.1; simp
    simp only [execOp, ho, resolve, hf, Deferred.ofValue, Sem.run_bind, Sem.run_pure, Result.andThen, invoke]
    rw [this]
   rw [e]
   exact callFW_sound hP hK h
  ·exact h.elim
 ·rename_i args ts ho
  obtain ⟨v, w', hr, hk⟩ := exT_elim h
  exact bi (s := Builtin.append_ ts o.type (args.map ev)) (by simp [execOp, ho, resolve, invoke, builtin]) hr hk
 ·rename_i args ts ho
  obtain ⟨v, w', hr, hk⟩ := exT_elim h
  exact bi (s := Builtin.copy_ ts o.type (args.map ev)) (by simp [execOp, ho, resolve, invoke, builtin]) hr hk
 ·rename_i args ts ho
  obtain ⟨v, w', hr, hk⟩ := exT_elim h
  exact bi (s := Builtin.delete_ ts o.type (args.map ev)) (by simp [execOp, ho, resolve, invoke, builtin]) hr hk
 ·rename_i args ts ho
  obtain ⟨v, w', hr, hk⟩ := exT_elim h
  exact bi (s := Builtin.clear_ ts o.type (args.map ev)) (by simp [execOp, ho, resolve, invoke, builtin]) hr hk
 ·rename_i t m k v ho
  obtain ⟨w', hr, hk⟩ := h
  exact unt (by simp only [execOp, ho]) hr hk
 ·rename_i t m k v ho
  obtain ⟨w', hr, hk⟩ := h
  exact unt (by simp only [execOp, ho]) hr hk
 ·rename_i t m k ho
  unfold entryW at h
  split at h
  ·obtain ⟨v, n, w', hr, hk⟩ := exT_elim h
   exact val (by simp only [execOp, ho]) hr hk
  ·exact h.elim
 ·rename_i t m k v ho
  obtain ⟨w', hr, hk⟩ := h
  exact unt (by simp only [execOp, ho]) hr hk
 ·rename_i s d x ho
  obtain ⟨v, w', hr, hk⟩ := exT_elim h
  exact val (by simp only [execOp, ho]) hr hk
 ·rename_i t x ho
  obtain ⟨v, w', hk, hr⟩ := rangeW_sound h
  exact val (by simp only [execOp, ho]) hr hk
 ·rename_i it ho
  obtain ⟨v, w', hk, hr⟩ := nextW_sound h
  exact val (s := Instr.next (ev it) false o.type) (by simp only [execOp, ho]) hr hk
 ·exact h.elim
end Go.Vc
