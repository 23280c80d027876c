import Derived.Test.YtnfcfbljdibinaaGreatVcA
namespace Go.Vc
open Go
def Q8e (P : Program) : List TypeId -> List Value -> (List Value -> Prop) -> Prop
 | [], acc, K => K acc.reverse
 | t :: ts, acc, K => exS P t fun v => Q8e P ts (v :: acc) K
def exT (P : Program) (t : TypeId) (F : Value -> Prop) : Prop :=
 match Qz1 P t with
 | true => Q8e P (Qbf P 8 t) [] fun l => F (.agg l.toArray)
 | false => exS P t F
theorem QV5 {P : Program} : ∀ {ts : List TypeId} {acc : List Value} {K : List Value -> Prop}, Q8e P ts acc K -> ∃ l, K l
 | [], _, _, h => ⟨_, h⟩
 | _ :: _, _, _, h => by obtain ⟨v, h⟩ := QD4 h; exact QV5 h
theorem QU {P : Program} {t : TypeId} {F : Value -> Prop} (h : exT P t F) : ∃ v, F v := by
 unfold exT at h
 split at h
 ·obtain ⟨l, h⟩ := QV5 h; exact ⟨_, h⟩
 ·exact QD4 h
def QW3 (P : Program) (t : TypeId) (m key : Value) (w : World) (v : Value) (b : Bool) : Prop :=
 (Instr.lookup t m key true).run P w = .ok (.tuple #[v, .bool b]) w /\ (Instr.lookup t m key false).run P w = .ok v w
def QVf (ok : Bool) (v : Value) (b : Bool) : Value := match ok with | true => .tuple #[v, .bool b] | false => v
def QGb (P : Program) (t : TypeId) (m key : Value) (ok : Bool) (w : World) (K : Value -> Prop) : Prop :=
 match P.underlying t with
 | some (.map _ e) => exT P e fun v => ∃ b : Bool, QW3 P t m key w v b /\ K (QVf ok v b)
 | _ => False
def QJd (w : World) (m : Value) (n : Nat) : Prop :=
 match m with
 | .map none => n = 0
 | .map (some r) => ∃ es c, w.heap[r]? = some (.map es c) /\ es.size = n
 | _ => False
def QHb (P : Program) (t : TypeId) (m : Value) (w : World) (K : Value -> Prop) : Prop :=
 match P.underlying t with
 | some (.map _ _) => ∃ n : Nat, QJd w m n /\ K (.int .i64 n)
 | _ => False
def Qz0 (P : Program) (x : Value) (w : World) (s : ByteArray) : Prop := (Conv.bytesToString x).run P w = .ok (.string s) w
def QVd (P : Program) (src dst : TypeId) (x : Value) (w : World) (K : Value -> Prop) : Prop :=
 match P.underlying src with
 | some (.slice e) => match P.underlying dst with
  | some .string => match P.underlying e with
   | some (.int .u8) => match x with
    | .slice p n c => ∃ s : ByteArray, Qz0 P (.slice p n c) w s /\ K (.string s)
    | _ => False
   | _ => False
  | _ => False
 | _ => False
def entryAt (P : Program) (it : Value) (w : World) (k v : Value) : Prop := (Instr.entry it).run P w = .ok (.tuple #[k, v]) w
def Q9f (P : Program) (t : TypeId) (x y : Value) (w : World) (b : Bool) : Prop :=
 (∀ op ox oy, (eqGuard op t ox oy x y).run P w = .ok () w) /\ (binOp .eql t x y).run P w = .ok (.bool b) w /\ (binOp .neq t x y).run P w = .ok (.bool (!b)) w
theorem Q9 {P : Program} {w : World} {r : Nat} {es : Array MapEntry} {c : Nat} (h : w.heap[r]? = some (.map es c)) :
  (getObj r).run P w = .ok (.map es c) w := by simp only [getObj, Sem.run, h]
theorem QP0 {P : Program} {w : World} {r : Nat} {m : Option Nat} {s : Nat} {sn : Array Nat} {c : Nat} (h : w.heap[r]? = some (.mapIter m s sn c)) :
  (getObj r).run P w = .ok (.mapIter m s sn c) w := by simp only [getObj, Sem.run, h]
theorem Qt0 {P : Program} {w : World} {r : Nat} {o o' : Obj} (h : w.heap[r]? = some o) (hc : ∀ a b c, o ≠ .cells a b c) :
  (setObj r o').run P w = .ok () { w with heap := w.heap.setIfInBounds r o' } := by
 cases o <;> simp only [setObj, Sem.run, h]
 exact (hc _ _ _ rfl).elim
inductive Cls | pure | mem | eff
 deriving DecidableEq
def QGd (P : Program) (t : TypeId) (y : Operand) : Bool :=
 match P.underlying t with
 | some (.int _) => true
 | some .string => true
 | some .bool => true
 | _ => match y with
  | .const (.pointer none) => true
  | .const (.slice none _ _) => true
  | .const (.map none) => true
  | _ => false
def QY4 (P : Program) (o : Op) : Cls :=
 match o with
 | .move _ => .pure
 | .assign _ => .pure
 | .pick _ _ _ => .pure
 | .nilCheck _ => .pure
 | .fieldAddr _ _ _ => .pure
 | .field _ _ _ => .pure
 | .indexAddr _ _ _ => .pure
 | .index _ _ _ => .pure
 | .slice _ _ _ _ _ => .pure
 | .extract _ _ => .pure
 | .binOp op t _ y _ => match op with
  | .eql => if QGd P t y then .pure else .mem
  | .neq => if QGd P t y then .pure else .mem
  | _ => .pure
 | .unOp _ _ _ => .pure
 | .convert s d _ => match P.underlying s with
  | some (.slice _) => .mem
  | some .string => match P.underlying d with
   | some .string => .pure
   | _ => .eff
  | _ => .pure
 | .makeFunc _ _ _ => .pure
 | .build _ _ => .pure
 | .call { callee := .builtin .len, argTypes := ts, .. } => match ts.toList with
  | [t] => match P.underlying t with
   | some (.map _ _) => .mem
   | _ => .pure
  | _ => .pure
 | .call { callee := .builtin .min, .. } => .pure
 | .call { callee := .builtin .max, .. } => .pure
 | .load _ _ => .mem
 | .lookup _ _ _ _ => .mem
 | .entry _ => .mem
 | _ => .eff
def QWc : List Oper -> Option Nat -> Nat -> Option TypeId
 | [], _, _ => none
 | o :: rest, d, i => match o.op with
  | .extract (.tmp t) j => match d with
   | some d => match Nat.beq t d && Nat.beq i j with
    | true => some o.type
    | false => QWc rest (some d) i
   | none => none
  | _ => QWc rest d i
def exO (P : Program) (t : Option TypeId) (F : Value -> Prop) : Prop :=
 match t with
 | some t => exT P t F
 | none => ∃ v : Value, F v
theorem Qo9 {P : Program} {t : Option TypeId} {F : Value -> Prop} (h : exO P t F) : ∃ v, F v := by
 cases t with
 | none => exact h
 | some t => exact QU h
def QWf (P : Program) (ops : List Oper) (dst : Option Nat) (o : Op) (ev : Operand -> Value) (w : World) (K : Value -> Prop) : Prop :=
 match o with
 | .load t a => QD6 P t (ev a) w K
 | .lookup t m k ok => QGb P t (ev m) (ev k) ok w K
 | .entry it => exO P (QWc ops dst 0) fun k => exO P (QWc ops dst 1) fun v => entryAt P (ev it) w k v /\ K (.tuple #[k, v])
 | .convert s d x => QVd P s d (ev x) w K
 | .call { callee := .builtin .len, args := args, argTypes := ts } => match ts.toList with
  | [t] => match args.toList with | [x] => QHb P t (ev x) w K | _ => False
  | _ => False
 | .binOp op t x y _ => ∃ b : Bool, Q9f P t (ev x) (ev y) w b /\ eqW op b K
 | _ => False
theorem Q75 {P : Program} {t : TypeId} {x : Value} {w : World} {K : Value -> Prop} (hn : P.underlying t ≠ none) (h : QD6 P t x w K) :
  ∃ v, K v /\ (Instr.loadAt t x).run P w = .ok v w := by
 unfold QD6 at h
 split at h
 ·rename_i p
  split at h
  ·rename_i ha
   split at h
   ·rename_i hl
    have hl := Nat.eq_of_beq_eq_true hl
    obtain ⟨l, hK, hr⟩ := QC6 _ _ _ h
    refine ⟨_, hK, ?_⟩
    have hr' : (loadCells p (P.cellsOf t)).run P w = .ok l.toArray w := by rw [← hl]; exact hr
    simp [Instr.loadAt, Instr.sureAddr, loadVar, Qy2 true ha hn, QX4 hn, hr']
   ·exact h.elim
  ·rename_i ha
   obtain ⟨v, hc, hK⟩ := QD4 h
   refine ⟨v, hK, ?_⟩
   simp [Instr.loadAt, Instr.sureAddr, loadVar, Qy2 false ha hn, hc]
 ·exact h.elim
theorem Qpa {P : Program} {ops : List Oper} {dst : Option Nat} {o : Oper} {ev : Operand -> Value} {w : World} {K : Value -> Prop}
  (hl : ∀ t a, o.op = .load t a -> P.underlying t ≠ none) (h : QWf P ops dst o.op ev w K) :
  ∃ v, K v /\ (execOp ev o).run P w = .ok (.value v) w := by
 unfold QWf at h
 split at h
 ·rename_i t a ho
  obtain ⟨v, hK, hr⟩ := Q75 (hl t a ho) h
  exact ⟨v, hK, QL0 (by simp only [execOp, ho]) hr⟩
 ·rename_i t m k ok ho
  unfold QGb at h
  split at h
  ·obtain ⟨v, b, hm, hK⟩ := QU h
   refine ⟨_, hK, QL0 (s := Instr.lookup t (ev m) (ev k) ok) (by simp only [execOp, ho]) ?_⟩
   cases ok
   ·exact hm.2
   ·exact hm.1
  ·exact h.elim
 ·rename_i it ho
  obtain ⟨k, h⟩ := Qo9 h
  obtain ⟨v, hm, hK⟩ := Qo9 h
  exact ⟨_, hK, QL0 (s := Instr.entry (ev it)) (by simp only [execOp, ho]) hm⟩
 ·rename_i s d x ho
  unfold QVd at h
  split at h
  ·rename_i e hs
   split at h
   ·rename_i hd
    split at h
    ·rename_i he
     split at h
     ·rename_i p n c hx
      obtain ⟨str, hm, hK⟩ := h
      refine ⟨_, hK, QL0 (s := convert s d (ev x)) (by simp only [execOp, ho]) ?_⟩
      rw [hx]
      simp only [convert, Sem.run_bind, Q4 hs, Q4 hd, Result.andThen, Q4 he]
      exact hm
     ·exact h.elim
    ·exact h.elim
   ·exact h.elim
  ·exact h.elim
 ·rename_i args ts ho
  split at h
  ·rename_i t hts
   split at h
   ·rename_i x hx
    have e1 : args = #[x] := Array.toList_inj.1 (by simpa using hx)
    have e2 : ts = #[t] := Array.toList_inj.1 (by simpa using hts)
    subst e1 e2
    unfold QHb at h
    split at h
    ·rename_i kt et hu
     obtain ⟨n, hm, hK⟩ := h
     refine ⟨_, hK, ?_⟩
     unfold QJd at hm
     split at hm
     ·rename_i hx'
      subst hm
      simp [execOp, ho, resolve, hx', invoke, builtin, Builtin.len_, Q4 hu, goInt]
     ·rename_i r hx'
      obtain ⟨es, c, hh, rfl⟩ := hm
      simp [execOp, ho, resolve, hx', invoke, builtin, Builtin.len_, Q4 hu, goInt, Q9 hh]
     ·exact hm.elim
    ·exact h.elim
   ·exact h.elim
  ·exact h.elim
 ·rename_i op t x y t' ho
  obtain ⟨b, hm, hK⟩ := h
  cases op <;> simp only [eqW] at hK
  case eql => exact ⟨_, hK, by simp [execOp, ho, hm.1, hm.2.1]⟩
  case neq => exact ⟨_, hK, by simp [execOp, ho, hm.1, hm.2.2]⟩
  all_goals exact hK.elim
 ·exact h.elim
def QRd (v : Value) : Bool :=
 match v with
 | .agg _ => false
 | .tuple _ => false
 | _ => true
def QU1 (w : World) (b : Nat) (o : Obj) (w' : World) : Prop := b = w.heap.size /\ w' = w.alloc o
def QT (w : World) (p : Addr) (v : Value) (w' : World) : Prop := w' = w.setCell p v
def QHc (w w' : World) : Prop := w' = w.drew
def QL1 (w : World) (p : Addr) : Prop := (∃ old, w.cell? p = some old) /\ w.frozen? p = false
def QMe (w : World) (o : Obj) (K : Nat -> World -> Prop) : Prop := ∀ (b : Nat) (w' : World), QU1 w b o w' -> K b w'
def Qmc (w : World) (p : Addr) (v : Value) (K : World -> Prop) : Prop :=
 QL1 w p /\ Q2 (QRd v) (∀ w', QT w p v w' -> K w') False
def QZ6 (w : World) (p : Addr) : List Value -> Nat -> (World -> Prop) -> Prop
 | [], _, K => K w
 | v :: vs, i, K => Qmc w (p.add i) v fun w' => QZ6 w' p vs (i + 1) K
def Qnc (P : Program) (t : TypeId) (x v : Value) (w : World) (K : World -> Prop) : Prop :=
 match x with
 | .pointer p => Qv p fun p =>
  Q2 (Nat.beq v.cells.toList.length (P.cellsOf t) && (P.info? t).isSome) (QZ6 w p v.cells.toList 0 K) False
 | _ => False
def QK (P : Program) (t : TypeId) : List Value :=
 match QK1 P t with
 | some z => z.cells.toList
 | none => []
def Qne (n : Nat) : Value := .pointer (some ⟨n, 0, none⟩)
def orB (b : Bool) (A B : Prop) : Prop := match b with
 | true => A \/ B
 | false => B
def Q0e (P : Program) (x : Value) (s t : TypeId) (w : World) (K : Value -> World -> Prop) : Prop :=
 exT P t fun v => ∃ b : Bool, (Instr.typeAssert x s t true).run P w = .ok (.tuple #[v, .bool b]) w /\ K (.tuple #[v, .bool b]) w
def Qff (P : Program) (t : TypeId) (x : Value) (K : Value -> Prop) : Prop :=
 match P.underlying t with
 | some (.interface _) => False
 | some _ => K (.iface t x)
 | none => False
def QA7 (v : Value) (X : List PanicEntry -> World -> Prop) (w : World) : Prop :=
 match v with
 | .iface t x => X [{ v := .iface t x, recovered := false }] w
 | _ => False
def Qcb (P : Program) (X : List PanicEntry -> World -> Prop) (cp : Nat -> Bool) (f : FuncId) (args : Array Value) (w : World) (K : Value -> World -> Prop) : Prop :=
 match P.funcs[f]? with
 | some fn => Q2 fn.body.isSome
   (Calls P f args w fun e w' => orB (cp f) (∃ ch, e = .panicked ch /\ X ch w') (match fn.resultTypes.toList with
    | [] => e = .returned (.tuple #[]) /\ K (.tuple #[]) w'
    | [t] => exT P t fun v => e = .returned v /\ K v w'
    | [t, u] => exT P t fun v => exT P u fun x => e = .returned (.tuple #[v, x]) /\ K (.tuple #[v, x]) w'
    | [t, u, s] => exT P t fun v => exT P u fun x => exT P s fun y => e = .returned (.tuple #[v, x, y]) /\ K (.tuple #[v, x, y]) w'
    | [t, u, s, r] => exT P t fun v => exT P u fun x => exT P s fun y => exT P r fun z => e = .returned (.tuple #[v, x, y, z]) /\ K (.tuple #[v, x, y, z]) w'
    | _ => ∃ v, e = .returned v /\ K v w')) False
 | none => False
def QBd (P : Program) (X : List PanicEntry -> World -> Prop) (cp : Nat -> Bool) (fv : Value) (args : List Value) (w : World) (K : Value -> World -> Prop) : Prop :=
 match fv with
 | .func (.func f) first captured => Qcb P X cp f (first.toList ++ (args ++ captured.toList)).toArray w K
 | _ => False
def Qec (P : Program) (t : TypeId) (s : Sem Value) (w : World) (K : Value -> World -> Prop) : Prop :=
 exT P t fun v => ∃ w', s.run P w = .ok v w' /\ K v w'
def Qwe (P : Program) (s : Sem Unit) (w : World) (K : Value -> World -> Prop) : Prop := ∃ w', s.run P w = .ok () w' /\ K undef w'
def Q43 (P : Program) (t : TypeId) (len : Nat) (parts : List (Nat × Value)) (w : World) (K : Value -> World -> Prop) : Prop :=
 match P.underlying t with
 | some (.slice e) =>
  Q2 (Nat.ble (len * P.cellsOf e) 65536 && (QK1 P e).isSome && (P.info? e).isSome && Nat.beq (QK P e).length (P.cellsOf e))
   (match Qda (fun i => some (i * P.cellsOf e, P.cellsOf e)) (List.replicate len (QK P e)).flatten parts with
    | some cells => QMe w (.cells cells.toArray e) fun b w' => K (.slice (some ⟨b, 0, none⟩) len len) w'
    | none => False) False
 | _ => False
def QA2 (P : Program) (e : TypeId) (n : Nat) : Array Value := (List.replicate n (QK P e)).flatten.toArray
def QV3 (P : Program) (t : TypeId) (l c : Value) (w : World) (K : Value -> World -> Prop) : Prop :=
 match P.underlying t with
 | some (.slice e) => match l with
  | .int _ l => match c with
   | .int _ c => Q2 ((QK1 P e).isSome && (P.info? e).isSome && Nat.beq (QK P e).length (P.cellsOf e) && !Nat.beq (P.bytesOf e) 0)
     ((0 <= l /\ l <= c /\ c * (P.bytesOf e : Int) <= 2 ^ 48) ∧
      QMe w (.cells (QA2 P e c.toNat) e) fun b w' => K (.slice (some ⟨b, 0, none⟩) l.toNat c.toNat) w') False
   | _ => False
  | _ => False
 | _ => False
def Qma (w : World) (r : Option Nat) (es : Array MapEntry) (c : Nat) : Prop :=
 match r with
 | some m => w.heap[m]? = some (.map es c)
 | none => es = #[] /\ c = 0
def QYb (P : Program) (t : TypeId) (x : Value) (w : World) (K : Value -> World -> Prop) : Prop :=
 match P.underlying t with
 | some (.map _ _) => match x with
  | .map r => ∃ es c, Qma w r es c /\ QMe w (.mapIter r c #[] c) fun b w' => K (Qne b) w'
  | _ => False
 | _ => False
def Qra (w : World) (p : Addr) (T : Value -> Value -> World -> Prop) (E : World -> Prop) : Prop :=
 p.off = 0 /\ ∃ m since seen last,
   w.heap[p.block]? = some (.mapIter m since seen last) ∧
   (m = none -> E w) ∧
   (∀ r, m = some r -> ∃ es clock, w.heap[r]? = some (.map es clock) ∧
    (seen = #[] \/ es = #[] \/ ∃ e ∈ es, e.born < last) ∧
    (∀ e ∈ es, e.born ∉ seen -> ∀ d, T e.key e.val { w with drawn := d, heap := w.heap.setIfInBounds p.block (.mapIter (some r) since (seen.push e.born) clock) }) ∧
    ((∀ e ∈ es, e.born ∉ seen -> since <= e.born) -> ∀ d, E { w with drawn := d }))
def Qfe (it : Value) (w : World) (K : Value -> World -> Prop) : Prop :=
 match it with
 | .pointer p => Qv p fun p => Qra w p (fun k v w' => K (.tuple #[.bool true, k, v]) w') (fun w' => K (.tuple #[.bool false]) w')
 | _ => False
def QFd (P : Program) (t : TypeId) (m k : Value) (w : World) (K : Value -> World -> Prop) : Prop :=
 match P.underlying t with
 | some (.map _ e) => exT P e fun v => ∃ (n : Int) (w' : World), (Instr.mapEntry t m k).run P w = .ok (.tuple #[v, .int .i64 n]) w' /\ K (.tuple #[v, .int .i64 n]) w'
 | _ => False
def QPf (P : Program) (X : List PanicEntry -> World -> Prop) (cp : Nat -> Bool) (o : Op) (ty : TypeId) (ev : Operand -> Value) (w : World) (K : Value -> World -> Prop) : Prop :=
 match o with
 | .store t a v => Qnc P t (ev a) (ev v) w fun w' => K undef w'
 | .alloc t => Q2 (QK1 P t).isSome (QMe w (.cells (QK P t).toArray t) fun b w' => K (Qne b) w') False
 | .box t v => QMe w (.cells (ev v).cells t) fun b w' => K (Qne b) w'
 | .buildSlice t len parts => Q43 P t len (parts.toList.map fun (i, x) => (i, ev x)) w K
 | .makeMap _ none => QMe w (.map #[] 0) fun b w' => K (.map (some b)) w'
 | .makeSlice t l c => QV3 P t (ev l) (ev c) w K
 | .call { callee := .value f, args := args, .. } => QBd P X cp (ev f) (args.toList.map ev) w K
 | .call { callee := .builtin .append, args := args, argTypes := ts } => Qec P ty (Builtin.append_ ts ty (args.map ev)) w K
 | .call { callee := .builtin .copy, args := args, argTypes := ts } => Qec P ty (Builtin.copy_ ts ty (args.map ev)) w K
 | .call { callee := .builtin .delete, args := args, argTypes := ts } => Qec P ty (Builtin.delete_ ts ty (args.map ev)) w K
 | .call { callee := .builtin .clear, args := args, argTypes := ts } => Qec P ty (Builtin.clear_ ts ty (args.map ev)) w K
 | .mapUpdate t m k v => Qwe P (Instr.mapUpdate t (ev m) (ev k) (ev v)) w K
 | .insert t m k v => Qwe P (Instr.mapUpdate t (ev m) (ev k) (ev v)) w K
 | .mapEntry t m k => QFd P t (ev m) (ev k) w K
 | .entryStore t m s v => Qwe P (Instr.entryStore t (ev m) (ev s) (ev v)) w K
 | .convert s d x => Qec P d (convert s d (ev x)) w K
 | .range t x => QYb P t (ev x) w K
 | .typeAssert x s t true => Q0e P (ev x) s t w K
 | .makeInterface t x => Qff P t (ev x) fun v => K v w
 | .panic x => QA7 (ev x) X w
 | .call { callee := .builtin .panic, args := args, .. } => QA7 ((args.map ev).getD 0 .nilIface) X w
 | .next it false => Qfe (ev it) w K
 | _ => False
theorem QF5 {P : Program} {p : Addr} {K : World -> Prop} : ∀ {vs : List Value} {i : Nat} {w : World}, QZ6 w p vs i K →
  ∃ w', K w' /\ (storeCells p vs i).run P w = .ok () w' := by
 intro vs
 induction vs with
 | nil => intro i w h; exact ⟨w, h, rfl⟩
 | cons v vs ih =>
  intro i w h
  obtain ⟨⟨⟨old, ho⟩, hf⟩, h⟩ := h
  rcases Qg h with ⟨hs, h⟩ | ⟨_, h⟩
  ·obtain ⟨w', hK, hr⟩ := ih (h _ rfl)
   refine ⟨w', hK, ?_⟩
   have h1 : (store (p.add i) v).run P w = .ok () (w.setCell (p.add i) v) := by
    cases v <;> first
     | (simp [QRd] at hs; done)
     | simp [store, Sem.run, ho, hf]
   simp only [storeCells, Sem.run_bind, h1, Result.andThen, hr]
  ·exact h.elim
theorem QU7 {P : Program} {t : TypeId} {x v : Value} {w : World} {K : World -> Prop} (h : Qnc P t x v w K) :
  ∃ w', K w' /\ (Instr.storeAt t x v).run P w = .ok () w' := by
 unfold Qnc at h
 split at h
 ·obtain ⟨p, rfl, h⟩ := QB1 h
  rcases Qg h with ⟨hb, h⟩ | ⟨_, h⟩
  ·simp only [Bool.and_eq_true] at hb
   obtain ⟨w', hK, hr⟩ := QF5 (P := P) h
   have e := Nat.eq_of_beq_eq_true hb.1
   refine ⟨w', hK, ?_⟩
   simp only [Instr.storeAt, Instr.sureAddr, storeVar, Sem.run_bind, Sem.run_pure, Result.andThen, QX hb.2]
   rw [Array.length_toList] at e
   rw [if_neg (by simp [e])]
   simp [hr]
  ·exact h.elim
 ·exact h.elim
theorem QT1 {P : Program} {t : TypeId} {z : Value} (hz : QK1 P t = some z) (w : World) : (zeroValue t).run P w = .ok z w := by
 unfold QK1 at hz
 cases hi : P.info? t with
 | none => simp [hi] at hz
 | some i => simp [hi] at hz; simp [zeroValue, typeInfo, hi, hz]
theorem QZb (z : Array Value) (n : Nat) : (Array.range (n * z.size)).map (fun i => z[i % z.size]!) = ((List.replicate n z.toList).flatten).toArray := by
 apply Array.toList_inj.1
 simp only [Array.toList_map, Array.toList_range]
 induction n with
 | zero => simp
 | succ n ih =>
  rw [Nat.succ_mul, List.range_add, List.map_append, ih, List.replicate_succ', List.flatten_append]
  congr 1
  simp only [List.map_map, List.flatten_singleton]
  apply List.ext_getElem
  ·simp
  ·intro i h1 h2
   simp only [List.length_map, List.length_range] at h1
   simp [Nat.mod_eq_of_lt h1, h1]
theorem Qof {P : Program} {e : TypeId} {z : Value} (hz : QK1 P e = some z) (hsz : z.cells.size = P.cellsOf e) (n : Nat) (w : World) :
  ∃ z' : Array Value, (∀ F : Array Value -> Sem Value, (if n * P.cellsOf e = 0 then (do let zero ← pure #[]; F zero) else (do let v ← zeroValue e; let zero ← pure v.cells; F zero)).run P w = (F z').run P w) ∧
   (Array.range (n * P.cellsOf e)).map (fun i => z'[i % z'.size]!) = ((List.replicate n z.cells.toList).flatten).toArray := by
 by_cases h0 : n * P.cellsOf e = 0
 ·refine ⟨#[], fun F => by rw [if_pos h0]; simp, ?_⟩
  rw [h0]
  have : (List.replicate n z.cells.toList).flatten.length = 0 := by simp [hsz, h0]
  rw [List.eq_nil_of_length_eq_zero this]
  simp
 ·refine ⟨z.cells, fun F => by rw [if_neg h0]; simp [QT1 hz], ?_⟩
  rw [← hsz]
  exact QZb _ _
theorem Qn2 {P : Program} (e : TypeId) (cells : Array Value) (l c : Nat) (w : World) :
  (do pure (Value.slice (some (← newRow e cells)) l c) : Sem Value).run P w = .ok (.slice (some ⟨w.heap.size, 0, none⟩) l c) (w.alloc (.cells cells e)) := rfl
theorem QL3 {P : Program} {t : TypeId} {len : Nat} {parts : Array (Nat × Value)} {w : World} {K : Value -> World -> Prop}
  (h : Q43 P t len parts.toList w K) : ∃ v w', K v w' /\ (Instr.buildSlice t len parts).run P w = .ok v w' := by
 unfold Q43 at h
 split at h
 ·rename_i e hu
  rcases Qg h with ⟨hb, h⟩ | ⟨_, h⟩
  ·simp only [Bool.and_eq_true, Nat.ble_eq] at hb
   obtain ⟨⟨⟨hle, hzs⟩, hi⟩, hsz⟩ := hb
   have hsz := Nat.eq_of_beq_eq_true hsz
   split at h
   ·rename_i cells hc
    refine ⟨_, _, h _ _ ⟨rfl, rfl⟩, ?_⟩
    obtain ⟨z, hz⟩ := Option.isSome_iff_exists.1 hzs
    have hzc : QK P e = z.cells.toList := by simp [QK, hz]
    have hf := Qs9 hc
    rw [hzc] at hf hsz
    rw [Array.length_toList] at hsz
    have hrow := Qof (P := P) hz hsz len w
    simp only [Instr.buildSlice, Sem.run_bind, Q4 hu, Result.andThen, QX hi]
    rw [if_neg (by omega)]
    obtain ⟨z', hz1, hz2⟩ := hrow
    refine (hz1 _).trans ?_
    rw [hz2, hf]
    exact Qn2 _ _ _ _ _
   ·exact h.elim
  ·exact h.elim
 ·exact h.elim
theorem Qv4 {P : Program} {t : TypeId} {l c : Value} {w : World} {K : Value -> World -> Prop}
  (h : QV3 P t l c w K) : ∃ v w', K v w' /\ (Instr.makeSlice t l c).run P w = .ok v w' := by
 unfold QV3 at h
 split at h
 ·rename_i e hu
  split at h
  ·rename_i k l
   split at h
   ·rename_i k' c
    rcases Qg h with ⟨hb, ⟨h0, h1, h2⟩, h⟩ | ⟨_, h⟩
    ·simp only [Bool.and_eq_true, Bool.not_eq_true'] at hb
     obtain ⟨⟨⟨hzs, hi⟩, hsz⟩, hby⟩ := hb
     have hsz := Nat.eq_of_beq_eq_true hsz
     have hby' : P.bytesOf e ≠ 0 := fun e0 => by rw [e0] at hby; simp at hby
     refine ⟨_, _, h _ _ ⟨rfl, rfl⟩, ?_⟩
     obtain ⟨z, hz⟩ := Option.isSome_iff_exists.1 hzs
     obtain ⟨inf, hinf⟩ := Option.isSome_iff_exists.1 hi
     have hbytes : inf.bytes = P.bytesOf e := by simp [Program.bytesOf, hinf]
     have hzc : QK P e = z.cells.toList := by simp [QK, hz]
     rw [hzc, Array.length_toList] at hsz
     have hcb : c <= 2 ^ 48 := by
      have : c * 1 <= c * (P.bytesOf e : Int) := Int.mul_le_mul_of_nonneg_left (by omega) (by omega)
      omega
     have wl : IntKind.i64.wrap l = l := IntWalk.i64_in _ ⟨by omega, by omega⟩
     have wc : IntKind.i64.wrap c = c := IntWalk.i64_in _ ⟨by omega, by omega⟩
     have hti : (typeInfo e).run P w = .ok inf w := by simp [typeInfo, hinf]
     have h2' : ¬ ((P.bytesOf e : Int) * c > 2 ^ 48) := by rw [Int.mul_comm]; omega
     have h3' : ¬ (c < 0) := by omega
     obtain ⟨z', hz1, hz2⟩ := Qof (P := P) hz hsz c.toNat w
     simp only [Instr.makeSlice, Sem.run_bind, Q4 hu, Result.andThen, asInt, asIntOf, Sem.run_pure, hti, wl, wc, hbytes]
     rw [if_neg (by simp only [h2', h3']; simp; omega)]
     have hask : ∀ n, (askRoom n).run P w = .ok () w := by intro n; unfold askRoom; split <;> rfl
     simp only [Sem.run_bind, hask, Result.andThen, QX hi]
     refine (hz1 _).trans ?_
     rw [QA2, hzc, hz2]
     exact Qn2 _ _ _ _ _
    ·exact h.elim
   ·exact h.elim
  ·exact h.elim
 ·exact h.elim
variable {ds : List Deferred} {X : List PanicEntry -> World -> Prop} {cp : Nat -> Bool}
theorem Qf7 {P : Program} (hP : ∀ f fn, P.funcs[f]? = some fn -> fn.body.isSome = true -> ∀ args w, (callFunc f args).run P w = .ok (.enter f args) w)
  {f : FuncId} {args : Array Value} {w : World} {K : Value -> World -> Prop} {o : Oper} {a : Act} {next : Act -> World -> Prop} {Q : Exit -> Act -> World -> Prop}
  (hX : ∀ ch w, X ch w -> Q (.panic ch) a w) (hK : ∀ v w, K v w -> next (a.put o.dst v) w) (h : Qcb P X cp f args w K) : o.upon P a next Q ((callFunc f args).run P w) := by
 unfold Qcb at h
 split at h
 ·rename_i fn hf
  rcases Qg h with ⟨hb, h⟩ | ⟨_, h⟩
  ·rw [hP f fn hf hb]
   rw [Oper.upon_enter]
   refine Calls.mono h fun e w' he => ?_
   have he : (∃ ch, e = .panicked ch /\ X ch w') \/ (match fn.resultTypes.toList with
    | [] => e = .returned (.tuple #[]) /\ K (.tuple #[]) w'
    | [t] => exT P t fun v => e = .returned v /\ K v w'
    | [t, u] => exT P t fun v => exT P u fun x => e = .returned (.tuple #[v, x]) /\ K (.tuple #[v, x]) w'
    | [t, u, s] => exT P t fun v => exT P u fun x => exT P s fun y => e = .returned (.tuple #[v, x, y]) /\ K (.tuple #[v, x, y]) w'
    | [t, u, s, r] => exT P t fun v => exT P u fun x => exT P s fun y => exT P r fun z => e = .returned (.tuple #[v, x, y, z]) /\ K (.tuple #[v, x, y, z]) w'
    | _ => ∃ v, e = .returned v /\ K v w') := by
    unfold orB at he
    split at he
    ·exact he
    ·exact .inr he
   rcases he with ⟨ch, rfl, hx⟩ | he
   ·exact hX _ _ hx
   split at he
   ·obtain ⟨rfl, hk⟩ := he; exact hK _ _ hk
   ·obtain ⟨v, rfl, hk⟩ := QU he; exact hK _ _ hk
   ·obtain ⟨v, he⟩ := QU he; obtain ⟨x, rfl, hk⟩ := QU he; exact hK _ _ hk
   ·obtain ⟨v, he⟩ := QU he; obtain ⟨x, he⟩ := QU he; obtain ⟨y, rfl, hk⟩ := QU he; exact hK _ _ hk
   ·obtain ⟨v, he⟩ := QU he; obtain ⟨x, he⟩ := QU he; obtain ⟨y, he⟩ := QU he; obtain ⟨z, rfl, hk⟩ := QU he; exact hK _ _ hk
   ·obtain ⟨v, rfl, hk⟩ := he; exact hK _ _ hk
  ·exact h.elim
 ·exact h.elim
theorem QG7 {P : Program} {t : TypeId} {x : Value} {w : World} {K : Value -> World -> Prop} (h : QYb P t x w K) :
  ∃ v w', K v w' /\ (Instr.range t x).run P w = .ok v w' := by
 unfold QYb at h
 split at h
 ·rename_i kt et hu
  split at h
  ·rename_i r
   obtain ⟨es, c, hm, hK⟩ := h
   refine ⟨_, _, hK _ _ ⟨rfl, rfl⟩, ?_⟩
   cases r with
   | none =>
    obtain ⟨rfl, rfl⟩ := hm
    simp only [Instr.range, Sem.run_bind, Q4 hu, Result.andThen]
    rfl
   | some m =>
    simp only [Instr.range, Sem.run_bind, Q4 hu, Result.andThen, Q9 (r := m) hm]
    rfl
  ·exact h.elim
 ·exact h.elim
theorem QE5 {P : Program} {α : Type} (q : Question) (F : Nat -> Sem α) (w : World) :
  ∃ n d, (Sem.bind (choose q) F).run P w = (F n).run P { w with drawn := d } /\ ((q.forced = true /\ n = 0) \/ n = q.cut (w.tape w.drawn q)) := by
 by_cases hq : q.forced = true
 ·exact ⟨0, w.drawn, by simp [choose, Sem.bind, Sem.run, hq], .inl ⟨hq, rfl⟩⟩
 ·exact ⟨q.cut (w.tape w.drawn q), w.drawn + 1, by simp [choose, Sem.bind, Sem.run, hq], .inr rfl⟩
theorem QL8 {P : Program} {it : Value} {ty : TypeId} {w : World} {K : Value -> World -> Prop} (h : Qfe it w K) :
  ∃ v w', K v w' /\ (Instr.next it false ty).run P w = .ok v w' := by
 unfold Qfe at h
 split at h
 ·obtain ⟨⟨b, off, spot⟩, rfl, hoff, m, since, seen, last, hi, hnone, hsome⟩ := QB1 h
  simp only at hoff hi hsome
  subst hoff
  cases m with
  | none =>
   refine ⟨_, _, hnone rfl, ?_⟩
   simp only [Instr.next, Sem.run_bind, QP0 hi, Result.andThen]
   rfl
  | some r =>
   obtain ⟨es, clock, hm, hprog, hstep, hend⟩ := hsome r rfl
   have hp : (!seen.isEmpty && !es.isEmpty && es.all (·.born ≥ last)) = false := by
    rcases hprog with rfl | rfl | ⟨e, he, hlt⟩
    ·simp
    ·simp
    ·have : es.all (·.born ≥ last) = false := by
      rw [Bool.eq_false_iff]
      intro hall
      rw [Array.all_eq_true_iff_forall_mem] at hall
      have := hall e he
      simp at this
      omega
     simp [this]
   generalize hleft : es.filter (fun e => !seen.contains e.born) = left
   generalize hold : left.filter (fun e => e.born < since) = old
   generalize hnew : left.filter (fun e => e.born ≥ since) = new
   generalize hcand : (if old.isEmpty then #[none] else #[]) ++ (old ++ new).map some = cands
   have hrun : ∃ n d, (Instr.next (.pointer (some ⟨b, 0, spot⟩)) false ty).run P w =
     (match cands[n]? with
      | some (some e) => (do setObj b (.mapIter (some r) since (seen.push e.born) clock); pure (.tuple #[.bool true, e.key, e.val]) : Sem Value)
      | some none => pure (.tuple #[.bool false])
      | none => stuck "Next: no such candidate").run P { w with drawn := d } /\ n < cands.size := by
    obtain ⟨n, d, hr, hn⟩ := QE5 (P := P) (.mapNext cands.size) (fun n => (match cands[n]? with
      | some (some e) => (do setObj b (.mapIter (some r) since (seen.push e.born) clock); pure (.tuple #[.bool true, e.key, e.val]) : Sem Value)
      | some none => pure (.tuple #[.bool false])
      | none => stuck "Next: no such candidate")) w
    refine ⟨n, d, ?_, ?_⟩
    ·rw [← hr]
     simp only [Instr.next, Sem.run_bind, QP0 hi, Result.andThen, Q9 hm]
     rw [if_neg (by rw [hp]; simp)]
     rw [hleft, hold, hnew, hcand]
     rfl
    ·have hpos : 0 < cands.size := by
      rw [← hcand]
      by_cases he : old.isEmpty = true
      ·simp [he]; omega
      ·have : 0 < old.size := by
        simp at he
        exact Array.size_pos_iff.2 he
       simp [he]; omega
     rcases hn with ⟨_, rfl⟩ | rfl
     ·exact hpos
     ·exact Nat.mod_lt _ hpos
   obtain ⟨n, d, hr, hn⟩ := hrun
   have hmem : cands[n]? = some cands[n] := by simp [hn]
   rw [hmem] at hr
   cases hc : cands[n] with
   | none =>
    rw [hc] at hr
    refine ⟨_, _, hend ?_ d, hr⟩
    have hin : none ∈ cands := hc ▸ Array.getElem_mem hn
    intro e he hns
    rw [← hcand] at hin
    by_cases hemp : old.isEmpty = true
    ·have ho : old = #[] := by simpa using hemp
     rw [ho] at hold
     by_cases hlt : e.born < since
     ·have : e ∈ left.filter (fun e => e.born < since) := by
       rw [Array.mem_filter, ← hleft, Array.mem_filter]
       exact ⟨⟨he, by simpa using hns⟩, by simpa using hlt⟩
      rw [hold] at this
      simp at this
     ·omega
    ·simp [hemp] at hin
   | some e =>
    rw [hc] at hr
    have hin : some e ∈ cands := hc ▸ Array.getElem_mem hn
    have he : e ∈ left := by
     rw [← hcand] at hin
     simp only [Array.mem_append, Array.mem_map] at hin
     rcases hin with hin | ⟨e', he', heq⟩
     ·split at hin <;> simp at hin
     ·simp only [Option.some.injEq] at heq
      subst heq
      rcases he' with h | h
      ·rw [← hold, Array.mem_filter] at h; exact h.1
      ·rw [← hnew, Array.mem_filter] at h; exact h.1
    rw [← hleft, Array.mem_filter] at he
    refine ⟨_, _, hstep e he.1 (by simpa using he.2) d, ?_⟩
    rw [hr]
    have hi' : ({ w with drawn := d } : World).heap[b]? = some (.mapIter (some r) since seen last) := hi
    simp only [Sem.run_bind, Qt0 hi' (by intros; simp), Result.andThen, Sem.run_pure]
 ·exact h.elim
theorem QVc {P : Program} {ev : Operand -> Value} {o : Oper} {s : Sem Unit} {w w' : World}
  (he : execOp ev o = (do s; pure .skip)) (hs : s.run P w = .ok () w') : (execOp ev o).run P w = .ok .skip w' := by
 rw [he]; simp [hs]
def Qt1 (P : Program) : Prop := ∀ f fn, P.funcs[f]? = some fn -> fn.body.isSome = true -> ∀ args w, (callFunc f args).run P w = .ok (.enter f args) w
variable {ds : List Deferred} {X : List PanicEntry -> World -> Prop} {cp : Nat -> Bool}
theorem QT5 {P : Program} (hP : Qt1 P) {o : Oper} {a : Act} {w : World} {next : Act -> World -> Prop} {Q : Exit -> Act -> World -> Prop}
  {ev : Operand -> Value} (hev : execOp a.eval o = execOp ev o) {K : Value -> World -> Prop} (hX : ∀ ch w', X ch w' -> Q (.panic ch) a w') (hK : ∀ v w', K v w' -> next (a.put o.dst v) w')
  (h : QPf P X cp o.op o.type ev w K) : o.wp P a w next Q := by
 unfold Oper.wp
 rw [hev]
 have val : ∀ {s : Sem Value} {v : Value} {w' : World}, execOp ev o = (do pure (Next.value (← s))) -> s.run P w = .ok v w' -> K v w' →
   o.upon P a next Q ((execOp ev o).run P w) := by
  intro s v w' he hs hn
  rw [QL0 he hs, Oper.upon_value]; exact hK _ _ hn
 have unt : ∀ {s : Sem Unit} {w' : World}, execOp ev o = (do s; pure .skip) -> s.run P w = .ok () w' -> K undef w' →
   o.upon P a next Q ((execOp ev o).run P w) := by
  intro s w' he hs hn
  rw [QVc he hs, Oper.upon_skip]; exact hK _ _ hn
 have bi : ∀ {s : Sem Value} {v : Value} {w' : World}, (execOp ev o).run P w = (do pure (Next.value (← s)) : Sem Next).run P w -> s.run P w = .ok v w' -> K v w' →
   o.upon P a next Q ((execOp ev o).run P w) := by
  intro s v w' he hs hn
  rw [he]
  simp only [Sem.run_bind, hs, Result.andThen, Sem.run_pure]
  exact hK _ _ hn
 have pan : ∀ {v : Value}, (execOp ev o).run P w = (do pure (Next.value (← Instr.panic v)) : Sem Next).run P w -> QA7 v X w -> o.upon P a next Q ((execOp ev o).run P w) := by
  intro v he hp
  rw [he]
  unfold QA7 at hp
  split at hp
  ·rename_i t x
   have hr : (Instr.panic (.iface t x)).run P w = .halt (.panic (.iface t x)) w := rfl
   simp only [Sem.run_bind, hr, Result.andThen]
   exact hX _ _ hp
  ·exact hp.elim
 unfold QPf at h
 split at h
 ·rename_i t x v ho
  obtain ⟨w', hk, hr⟩ := QU7 h
  exact unt (by simp only [execOp, ho]) hr hk
 ·rename_i t ho
  rcases Qg h with ⟨hz, h⟩ | ⟨_, h⟩
  ·obtain ⟨z, hz⟩ := Option.isSome_iff_exists.1 hz
   have hzc : QK P t = z.cells.toList := by simp [QK, hz]
   rw [hzc, Array.toArray_toList] at h
   exact val (s := Instr.alloc t true (.tuple #[])) (by simp only [execOp, ho]) (by
    simp only [Instr.alloc, Sem.run_bind, QT1 hz, Result.andThen]; rfl) (h _ _ ⟨rfl, rfl⟩)
  ·exact h.elim
 ·rename_i t v ho
  exact val (s := Instr.box t (ev v)) (by simp only [execOp, ho]) (by rfl) (h _ _ ⟨rfl, rfl⟩)
 ·rename_i t len parts ho
  obtain ⟨v, w', hk, hr⟩ := QL3 (parts := parts.map fun x : Nat × Operand => (x.1, ev x.2)) (by simpa using h)
  exact val (s := Instr.buildSlice t len (parts.map fun x : Nat × Operand => (x.1, ev x.2))) (by simp only [execOp, ho]) hr hk
 ·rename_i t ho
  exact val (s := Instr.makeMap t none) (by simp only [execOp, ho]; rfl) (by rfl) (h _ _ ⟨rfl, rfl⟩)
 ·rename_i t l c ho
  obtain ⟨v, w', hk, hr⟩ := Qv4 h
  exact val (by simp only [execOp, ho]) hr hk
 ·rename_i f args ts ho
  unfold QBd at h
  split at h
  ·rename_i fid first captured hf
   have e : (execOp ev o).run P w = (callFunc fid ((first.toList ++ (args.toList.map ev ++ captured.toList)).toArray)).run P w := by
    have : (first ++ args.map ev) ++ captured = (first.toList ++ (args.toList.map ev ++ captured.toList)).toArray := by
     apply Array.toList_inj.1; simp
    simp only [execOp, ho, resolve, hf, Deferred.ofValue, Sem.run_bind, Sem.run_pure, Result.andThen, invoke]
    rw [this]
   rw [e]
   exact Qf7 hP hX hK h
  ·exact h.elim
 ·rename_i args ts ho
  obtain ⟨v, w', hr, hk⟩ := QU h
  exact bi (s := Builtin.append_ ts o.type (args.map ev)) (by simp [execOp, ho, resolve, invoke, builtin]) hr hk
 ·rename_i args ts ho
  obtain ⟨v, w', hr, hk⟩ := QU h
  exact bi (s := Builtin.copy_ ts o.type (args.map ev)) (by simp [execOp, ho, resolve, invoke, builtin]) hr hk
 ·rename_i args ts ho
  obtain ⟨v, w', hr, hk⟩ := QU h
  exact bi (s := Builtin.delete_ ts o.type (args.map ev)) (by simp [execOp, ho, resolve, invoke, builtin]) hr hk
 ·rename_i args ts ho
  obtain ⟨v, w', hr, hk⟩ := QU h
  exact bi (s := Builtin.clear_ ts o.type (args.map ev)) (by simp [execOp, ho, resolve, invoke, builtin]) hr hk
 ·rename_i t m k v ho
  obtain ⟨w', hr, hk⟩ := h
  exact unt (by simp only [execOp, ho]) hr hk
 ·rename_i t m k v ho
  obtain ⟨w', hr, hk⟩ := h
  exact unt (by simp only [execOp, ho]) hr hk
 ·rename_i t m k ho
  unfold QFd at h
  split at h
  ·obtain ⟨v, n, w', hr, hk⟩ := QU h
   exact val (by simp only [execOp, ho]) hr hk
  ·exact h.elim
 ·rename_i t m k v ho
  obtain ⟨w', hr, hk⟩ := h
  exact unt (by simp only [execOp, ho]) hr hk
 ·rename_i s d x ho
  obtain ⟨v, w', hr, hk⟩ := QU h
  exact val (by simp only [execOp, ho]) hr hk
 ·rename_i t x ho
  obtain ⟨v, w', hk, hr⟩ := QG7 h
  exact val (by simp only [execOp, ho]) hr hk
 ·rename_i x s t ho
  obtain ⟨v, b, hr, hk⟩ := QU h
  exact val (by simp only [execOp, ho]) hr hk
 ·rename_i t x ho
  have hm : (Instr.makeInterface t (ev x)).run P w = .ok (.iface t (ev x)) w /\ K (.iface t (ev x)) w := by
   unfold Qff at h
   split at h
   ·exact h.elim
   ·rename_i u hn hu
    refine ⟨?_, h⟩
    simp only [Instr.makeInterface, Sem.run_bind, Q4 hu, Result.andThen]
    rfl
   ·exact h.elim
  exact val (s := Instr.makeInterface t (ev x)) (by simp only [execOp, ho]) hm.1 hm.2
 ·rename_i x ho
  exact pan (by simp only [execOp, ho]) h
 ·rename_i args ho
  exact pan (by simp [execOp, ho, resolve, invoke, builtin]) h
 ·rename_i it ho
  obtain ⟨v, w', hk, hr⟩ := QL8 h
  exact val (s := Instr.next (ev it) false o.type) (by simp only [execOp, ho]) hr hk
 ·exact h.elim
end Go.Vc
