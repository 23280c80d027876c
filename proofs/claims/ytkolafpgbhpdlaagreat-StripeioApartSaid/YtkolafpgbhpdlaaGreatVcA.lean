import Derived.WalkKit
import Derived.Orders
import Derived.Scope
namespace Go.Vc
open Go
def exS (P : Program) (t : TypeId) (F : Value → Prop) : Prop :=
 match P.underlying t with
 | some (.int k) => ∃ n : Int, F (.int k n)
 | some .bool => ∃ b : Bool, F (.bool b)
 | some .string => ∃ s : ByteArray, F (.string s)
 | some (.pointer _) => ∃ p : Option Addr, F (.pointer p)
 | some (.slice _) => ∃ (p : Option Addr) (n c : Nat), F (.slice p n c)
 | some (.map _ _) => ∃ r : Option Nat, F (.map r)
 | _ => ∃ v : Value, F v
theorem exS_elim {P : Program} {t : TypeId} {F : Value → Prop} (h : exS P t F) : ∃ v, F v := by
 unfold exS at h
 split at h
 ·obtain ⟨_, h⟩ := h; exact ⟨_, h⟩
 ·obtain ⟨_, h⟩ := h; exact ⟨_, h⟩
 ·obtain ⟨_, h⟩ := h; exact ⟨_, h⟩
 ·obtain ⟨_, h⟩ := h; exact ⟨_, h⟩
 ·obtain ⟨_, _, _, h⟩ := h; exact ⟨_, h⟩
 ·obtain ⟨_, h⟩ := h; exact ⟨_, h⟩
 ·exact h
def flat (P : Program) : Nat → TypeId → List TypeId
 | 0, t => [t]
 | d + 1, t =>
  match P.underlying t with
  | some (.struct fs) => fs.toList.flatMap fun f => flat P d f.type
  | some (.array n e) => (List.replicate n (flat P d e)).flatten
  | _ => [t]
def isAggT (P : Program) (t : TypeId) : Bool :=
 match P.underlying t with
 | some (.struct _) => true
 | some (.array _ _) => true
 | _ => false
def loadRow (P : Program) (w : World) (p : Addr) : List TypeId → Nat → List Value → (List Value → Prop) → Prop
 | [], _, acc, K => K acc.reverse
 | t :: ts, i, acc, K => exS P t fun v => w.cell? (p.add i) = some v ∧ loadRow P w p ts (i + 1) (v :: acc) K
def loadW (P : Program) (t : TypeId) (x : Value) (w : World) (K : Value → Prop) : Prop :=
 match x with
 | .pointer (some p) =>
  match isAggT P t with
  | true =>
   (match Nat.beq (flat P 8 t).length (P.cellsOf t) with
    | true => loadRow P w p (flat P 8 t) 0 [] fun l => K (.agg l.toArray)
    | false => False)
  | false => exS P t fun v => w.cell? p = some v ∧ K v
 | _ => False
theorem loadRow_sound {P : Program} {w : World} {p : Addr} {K : List Value → Prop} : ∀ (ts : List TypeId) (i : Nat) (acc : List Value),
  loadRow P w p ts i acc K → ∃ l, K l ∧ (loadCellsFrom p i ts.length acc.reverse.toArray).run P w = .ok l.toArray w := by
 intro ts
 induction ts with
 | nil => intro i acc h; exact ⟨_, h, rfl⟩
 | cons t ts ih =>
  intro i acc h
  obtain ⟨v, hv, h⟩ := exS_elim h
  obtain ⟨l, hK, hl⟩ := ih _ _ h
  refine ⟨l, hK, ?_⟩
  simp only [List.length_cons, loadCellsFrom]
  simp [hv]
  simpa using hl
theorem run_underlying' {P : Program} {t : TypeId} {d : TypeDesc} (h : P.underlying t = some d) (w : World) : (underlying t).run P w = .ok d w := by
 simp [underlying, h]
theorem isAgg_run {P : Program} {t : TypeId} {w : World} (b : Bool) (h : isAggT P t = b) (hn : P.underlying t ≠ none) : (isAgg t).run P w = .ok b w := by
 cases hu : P.underlying t with
 | none => exact (hn hu).elim
 | some d =>
  unfold isAggT at h
  rw [hu] at h
  cases d <;> simp [isAgg, run_underlying' hu] <;> simpa using h
theorem cellsOf_run {P : Program} {t : TypeId} {w : World} (hn : P.underlying t ≠ none) : (sizeOf t).run P w = .ok (P.cellsOf t) w := by
 have : (P.info? t) ≠ none := by
  intro h; apply hn
  unfold Program.underlying
  simp [h]
 cases hi : P.info? t with
 | none => exact (this hi).elim
 | some i => simp [sizeOf, typeInfo, hi, Program.cellsOf]
def nilM (p : Option Addr) (F : Addr → Prop) : Prop := match p with | some a => F a | none => False
def condB (b : Bool) (T E : Prop) : Prop := match b with | true => T | false => E
abbrev at0 (b : Nat) : Addr := ⟨b, 0, none⟩
theorem condB_of {b : Bool} {T E : Prop} (h1 : b = true → T) (h2 : b = false → E) : condB b T E := by
 cases b
 ·exact h2 rfl
 ·exact h1 rfl
def bitsV (op : BinOp) (k : IntKind) (x y : Int) : Int :=
 let a := BitVec.ofInt k.bits x
 let b := BitVec.ofInt k.bits y
 match op with
 | .and => k.wrap (a &&& b).toNat
 | .or => k.wrap (a ||| b).toNat
 | .xor => k.wrap (a ^^^ b).toNat
 | _ => k.wrap (a &&& ~~~b).toNat
def intBinW (op : BinOp) (k : IntKind) (a b : Int) (K : Value → Prop) : Prop :=
 match op with
 | .add => K (.int k (k.wrap (a + b)))
 | .sub => K (.int k (k.wrap (a - b)))
 | .mul => K (.int k (k.wrap (a * b)))
 | .quo => b ≠ 0 ∧ K (.int k (k.wrap (a.tdiv b)))
 | .rem => b ≠ 0 ∧ K (.int k (a.tmod b))
 | .and => K (.int k (bitsV .and k a b))
 | .or => K (.int k (bitsV .or k a b))
 | .xor => K (.int k (bitsV .xor k a b))
 | .andNot => K (.int k (bitsV .andNot k a b))
 | .eql => K (.bool (decide (a = b)))
 | .neq => K (.bool (!decide (a = b)))
 | .lss => K (.bool (decide (a < b)))
 | .leq => K (.bool (decide (a ≤ b)))
 | .gtr => K (.bool (decide (b < a)))
 | .geq => K (.bool (decide (b ≤ a)))
 | _ => False
def shiftW (op : BinOp) (k : IntKind) (a b : Int) (K : Value → Prop) : Prop :=
 match op with
 | .shl => 0 ≤ b ∧ K (.int k (k.wrap (a * 2 ^ (min b.toNat k.bits))))
 | .shr => 0 ≤ b ∧ K (.int k (a.fdiv (2 ^ (min b.toNat k.bits))))
 | _ => False
def strBinW (op : BinOp) (a b : ByteArray) (K : Value → Prop) : Prop :=
 match op with
 | .add => ((a.size + b.size : Nat) : Int) ≤ IntKind.i64.max ∧ K (.string (a ++ b))
 | .eql => K (.bool (decide (a = b)))
 | .neq => K (.bool (!decide (a = b)))
 | .lss => K (.bool (Op.bytesLess a.toList b.toList))
 | .leq => K (.bool (Op.bytesLess a.toList b.toList || decide (a = b)))
 | .gtr => K (.bool (!(Op.bytesLess a.toList b.toList || decide (a = b))))
 | .geq => K (.bool (!(Op.bytesLess a.toList b.toList)))
 | _ => False
def eqW (op : BinOp) (b : Bool) (K : Value → Prop) : Prop :=
 match op with
 | .eql => K (.bool b)
 | .neq => K (.bool (!b))
 | _ => False
def binW (P : Program) (op : BinOp) (t : TypeId) (x y : Value) (K : Value → Prop) : Prop :=
 match x, y with
 | .int k a, .int k' b =>
  match op with
  | .shl => shiftW .shl k a b K
  | .shr => shiftW .shr k a b K
  | op => if k = k' then intBinW op k a b K else False
 | .string a, .string b => strBinW op a b K
 | .bool a, .bool b => match P.underlying t with | some .bool => eqW op (a == b) K | _ => False
 | .pointer p, .pointer none => match P.underlying t with | some (.pointer _) => eqW op p.isNone K | _ => False
 | .slice p _ _, .slice none _ _ => match P.underlying t with | some (.slice _) => eqW op p.isNone K | _ => False
 | .map p, .map none => match P.underlying t with | some (.map _ _) => eqW op p.isNone K | _ => False
 | _, _ => False
theorem _root_.Int.beq_eq_decide' (a b : Int) : (a == b) = decide (a = b) := by
 by_cases h : a = b <;> simp [h]
theorem eqGuard_skip {P : Program} {op : BinOp} {t : TypeId} {x y : Operand} {a b : Value} {w : World}
  (h : match a, b with | .nilIface, .nilIface => False | .agg _, .agg _ => False | _, _ => True) : (eqGuard op t x y a b).run P w = .ok () w := by
 cases op
 case eql => cases a <;> cases b <;> first | rfl | exact h.elim
 case neq => cases a <;> cases b <;> first | rfl | exact h.elim
 all_goals rfl
theorem run_equal {P : Program} {t : TypeId} {d : TypeDesc} (_hu : P.underlying t = some d) {x y : Value} {b : Bool} {w : World}
  (h : ∀ m, (Op.equalIn (m + 1) t x y).run P w = .ok b w) : (Op.equal t x y).run P w = .ok b w := h 9999
theorem run_eqIn_bool {P : Program} {t : TypeId} (hu : P.underlying t = some .bool) (a b : Bool) (w : World) (m : Nat) :
  (Op.equalIn (m + 1) t (.bool a) (.bool b)).run P w = .ok (a == b) w := by
 simp only [Op.equalIn, Sem.run_bind, run_underlying' hu, Result.andThen]
 rfl
theorem run_eqIn_ptr {P : Program} {t e : TypeId} (hu : P.underlying t = some (.pointer e)) (p : Option Addr) (w : World) (m : Nat) :
  (Op.equalIn (m + 1) t (.pointer p) (.pointer none)).run P w = .ok p.isNone w := by
 simp only [Op.equalIn, Sem.run_bind, run_underlying' hu, Result.andThen]
 cases p <;> rfl
theorem run_eqIn_slice {P : Program} {t e : TypeId} (hu : P.underlying t = some (.slice e)) (p : Option Addr) (n c n' c' : Nat) (w : World) (m : Nat) :
  (Op.equalIn (m + 1) t (.slice p n c) (.slice none n' c')).run P w = .ok p.isNone w := by
 simp only [Op.equalIn, Sem.run_bind, run_underlying' hu, Result.andThen]
 cases p <;> rfl
theorem run_eqIn_map {P : Program} {t k e : TypeId} (hu : P.underlying t = some (.map k e)) (p : Option Nat) (w : World) (m : Nat) :
  (Op.equalIn (m + 1) t (.map p) (.map none)).run P w = .ok p.isNone w := by
 simp only [Op.equalIn, Sem.run_bind, run_underlying' hu, Result.andThen]
 cases p <;> rfl
theorem run_eql_of {P : Program} {t : TypeId} {x y : Value} {b : Bool} {w : World} (h : (Op.equal t x y).run P w = .ok b w) :
  (Sem.bind (Op.equal t x y) fun r => Sem.pure (Value.bool r)).run P w = .ok (.bool b) w ∧
  (Sem.bind (Op.equal t x y) fun r => Sem.pure (Value.bool (!r))).run P w = .ok (.bool (!b)) w := by
 constructor
 ·show Sem.run P (Op.equal t x y >>= fun r => Sem.pure (Value.bool r)) w = _
  rw [Sem.run_bind, h]; rfl
 ·show Sem.run P (Op.equal t x y >>= fun r => Sem.pure (Value.bool (!r))) w = _
  rw [Sem.run_bind, h]; rfl
theorem ByteArray_toList_beq (a b : ByteArray) : (a.toList == b.toList) = decide (a = b) := by
 have : a.toList = b.toList ↔ a = b := by
  constructor
  ·intro h
   rw [Go.ByteArray.toList_eq, Go.ByteArray.toList_eq] at h
   exact ByteArray.ext (Array.toList_inj.1 h)
  ·rintro rfl; rfl
 by_cases h : a = b
 ·subst h; simp
 ·have h' : ¬ a.toList = b.toList := fun e => h (this.1 e)
  simp [h, h']
theorem binW_sound {P : Program} {op : BinOp} {t : TypeId} {x y : Value} {K : Value → Prop} (h : binW P op t x y K) :
  ∃ v, K v ∧ ∀ w, (binOp op t x y).run P w = .ok v w := by
 unfold binW at h
 split at h
 ·rename_i k a k' b
  split at h
  ·simp only [shiftW] at h
   exact ⟨_, h.2, fun w => by simp [binOp, Op.shift, Int.not_lt.2 h.1]⟩
  ·simp only [shiftW] at h
   exact ⟨_, h.2, fun w => by simp [binOp, Op.shift, Int.not_lt.2 h.1]⟩
  ·rename_i h1 h2
   split at h
   ·rename_i hk
    subst hk
    cases op <;> simp only [intBinW] at h <;>
     first
     | exact h.elim
     | exact ⟨_, h, fun w => by simp [binOp, Op.intArith, Op.intCmp, Op.intBits, bitsV, bne, Int.beq_eq_decide']⟩
     | exact ⟨_, h.2, fun w => by simp [binOp, Op.intDiv, h.1]⟩
     | exact ⟨_, h, fun w => by simp [binOp, Op.intCmp]; rfl⟩
     | exact (h1 rfl).elim
     | exact (h2 rfl).elim
   ·exact h.elim
 ·rename_i a b
  cases op <;> simp only [strBinW] at h <;>
   first
   | exact h.elim
   | exact ⟨_, h, fun w => by simp [binOp, Op.stringOp, ← ByteArray_toList_beq]⟩
   | exact ⟨_, h.2, fun w => by
     have h1 := h.1
     simp only [binOp, Op.stringOp]
     rw [if_neg (by omega)]
     simp⟩
 ·rename_i a b
  split at h
  ·rename_i hu
   cases op <;> simp only [eqW] at h <;>
    first
    | exact h.elim
    | exact ⟨_, h, fun w => (run_eql_of (run_equal hu (run_eqIn_bool hu a b w))).1⟩
    | exact ⟨_, h, fun w => (run_eql_of (run_equal hu (run_eqIn_bool hu a b w))).2⟩
  ·exact h.elim
 ·rename_i p
  split at h
  ·rename_i hu
   cases op <;> simp only [eqW] at h <;>
    first
    | exact h.elim
    | exact ⟨_, h, fun w => (run_eql_of (run_equal hu (run_eqIn_ptr hu p w))).1⟩
    | exact ⟨_, h, fun w => (run_eql_of (run_equal hu (run_eqIn_ptr hu p w))).2⟩
  ·exact h.elim
 ·rename_i p n c n' c'
  split at h
  ·rename_i hu
   cases op <;> simp only [eqW] at h <;>
    first
    | exact h.elim
    | exact ⟨_, h, fun w => (run_eql_of (run_equal hu (run_eqIn_slice hu p n c n' c' w))).1⟩
    | exact ⟨_, h, fun w => (run_eql_of (run_equal hu (run_eqIn_slice hu p n c n' c' w))).2⟩
  ·exact h.elim
 ·rename_i p
  split at h
  ·rename_i hu
   cases op <;> simp only [eqW] at h <;>
    first
    | exact h.elim
    | exact ⟨_, h, fun w => (run_eql_of (run_equal hu (run_eqIn_map hu p w))).1⟩
    | exact ⟨_, h, fun w => (run_eql_of (run_equal hu (run_eqIn_map hu p w))).2⟩
  ·exact h.elim
 ·exact h.elim
theorem binW_guard {P : Program} {op : BinOp} {t : TypeId} {x y : Value} {K : Value → Prop} (h : binW P op t x y K) (ox oy : Operand) (w : World) :
  (eqGuard op t ox oy x y).run P w = .ok () w := by
 apply eqGuard_skip
 unfold binW at h
 split at h <;> first | trivial | exact h.elim
def fieldOf (P : Program) (s : TypeId) (i : Nat) : Option (Nat × TypeId) :=
 match P.underlying s with
 | some (.struct fs) => (fs[i]?).map fun f => (f.offset, f.type)
 | _ => none
def nilW (x : Value) (K : Value → Prop) : Prop :=
 match x with
 | .pointer p => nilM p fun a => K (.pointer (some a))
 | .func (.func f) a b => K (.func (.func f) a b)
 | _ => False
def fieldAddrW (P : Program) (s : TypeId) (x : Value) (i : Nat) (K : Value → Prop) : Prop :=
 match fieldOf P s i with
 | some (off, ft) =>
  match x with
  | .pointer p => nilM p fun a => condB (Nat.beq (P.cellsOf ft) 0) False (K (.pointer (some (a.add off))))
  | _ => False
 | none => False
def fieldW (P : Program) (s : TypeId) (x : Value) (i : Nat) (K : Value → Prop) : Prop :=
 match fieldOf P s i with
 | some (off, ft) =>
  match x with
  | .agg cs => condB (P.underlying ft).isSome (condB (isAggT P ft) (K (.agg ((cs.toList.drop off).take (P.cellsOf ft)).toArray))
    (match cs.toList[off]? with | some v => K v | none => False)) False
  | _ => False
 | none => False
def indexAddrW (P : Program) (t : TypeId) (x i : Value) (K : Value → Prop) : Prop :=
 match i with
 | .int _ i =>
  match P.underlying t with
  | some (.slice e) =>
   match x with
   | .slice p n _ => condB (P.underlying e).isSome ((0 ≤ i ∧ i < (n : Int)) ∧ nilM p fun a => K (.pointer (some (a.add (i.toNat * P.cellsOf e))))) False
   | _ => False
  | some (.array n e) =>
   match x with
   | .pointer p => condB (P.underlying e).isSome ((0 ≤ i ∧ i < (n : Int)) ∧ nilM p fun a => K (.pointer (some (a.add (i.toNat * P.cellsOf e))))) False
   | _ => False
  | _ => False
 | _ => False
def byteAt (s : ByteArray) (i : Int) : Int := ((s.data.toList.getD i.toNat 0).toNat : Int)
def indexW (P : Program) (t : TypeId) (x i : Value) (K : Value → Prop) : Prop :=
 match i with
 | .int _ i =>
  match P.underlying t with
  | some .string =>
   match x with
   | .string s => (0 ≤ i ∧ i < (s.size : Int)) ∧ K (.int .u8 (byteAt s i))
   | _ => False
  | _ => False
 | _ => False
def boundW (x : Option Value) (d : Nat) (y : Nat) (K : Nat → Prop) : Prop :=
 match x with
 | some (.int _ i) => (0 ≤ i ∧ i ≤ (y : Int)) ∧ K i.toNat
 | some _ => False
 | none => K d
def addO (p : Option Addr) (n : Nat) : Option Addr := match p with | some a => some (a.add n) | none => none
def cutP (p : Option Addr) (cap l size : Nat) : Option Addr := if cap = l then p else addO p (l * size)
def cutV (p : Option Addr) (cap l h size : Nat) : Value := .slice (cutP p cap l size) (h - l) (cap - l)
def sliceW (P : Program) (t : TypeId) (x : Value) (lo hi mx : Option Value) (K : Value → Prop) : Prop :=
 match mx with
 | some _ => False
 | none =>
  match P.underlying t with
  | some .string =>
   match x with
   | .string s => boundW hi s.size s.size fun h => boundW lo 0 h fun l => K (.string (s.extract l h))
   | _ => False
  | some (.slice e) =>
   match x with
   | .slice p n c => condB (P.underlying e).isSome (boundW hi n c fun h => boundW lo 0 h fun l => K (cutV p c l h (P.cellsOf e))) False
   | _ => False
  | some (.array n e) =>
   match x with
   | .pointer p => condB (P.underlying e).isSome (nilM p fun a => boundW hi n n fun h => boundW lo 0 h fun l => K (cutV (some a) n l h (P.cellsOf e))) False
   | _ => False
  | _ => False
def extractW (x : Value) (i : Nat) (K : Value → Prop) : Prop :=
 match x with
 | .tuple vs => match vs.toList[i]? with | some v => K v | none => False
 | _ => False
def unW (op : UnOp) (x : Value) (K : Value → Prop) : Prop :=
 match x with
 | .int k n => match op with
  | .neg => K (.int k (k.wrap (0 - n)))
  | .xor => K (.int k (bitsV .xor k (if k.signed then -1 else k.max) n))
  | _ => False
 | .bool b => match op with
  | .not => K (.bool (!b))
  | _ => False
 | _ => False
def convW (P : Program) (src dst : TypeId) (x : Value) (K : Value → Prop) : Prop :=
 match P.underlying src with
 | none => False
 | some _ =>
  match P.underlying dst with
  | some (.int k) => match x with
   | .int _ n => K (.int k (k.wrap n))
   | _ => False
  | some .string => match x with
   | .string s => K (.string s)
   | _ => False
  | _ => False
def lenW (P : Program) (t : TypeId) (x : Value) (K : Value → Prop) : Prop :=
 match P.underlying t with
 | some .string => match x with
  | .string s => K (.int .i64 s.size)
  | _ => False
 | some (.slice _) => match x with
  | .slice _ n _ => K (.int .i64 n)
  | _ => False
 | some (.array n _) => K (.int .i64 n)
 | some (.pointer a) => match P.underlying a with
  | some (.array n _) => K (.int .i64 n)
  | _ => False
 | _ => False
def minmaxW (mn : Bool) (xs : List Value) (K : Value → Prop) : Prop :=
 match xs with
 | [.int k x, .int _ y] => match mn with
  | true => K (.int k (if y < x then y else x))
  | false => K (.int k (if x < y then y else x))
 | _ => False
def splice (cells : List Value) (off : Nat) (vs : List Value) : List Value := cells.take off ++ (vs ++ cells.drop (off + vs.length))
def fillL (place : Nat → Option (Nat × Nat)) (cells : List Value) : List (Nat × Value) → Option (List Value)
 | [] => some cells
 | (i, v) :: rest =>
  match place i with
  | none => none
  | some (off, size) =>
   match Nat.beq v.cells.toList.length size && Nat.ble (off + v.cells.toList.length) cells.length with
   | true => fillL place (splice cells off v.cells.toList) rest
   | false => none
def zeroOf (P : Program) (t : TypeId) : Option Value := (P.info? t).bind (·.zero)
def placesOf (P : Program) (t : TypeId) : Option (Nat → Option (Nat × Nat)) :=
 match P.underlying t with
 | some (.struct fs) => if fs.all (fun f => (P.info? f.type).isSome) then some fun i => (fs[i]?).map fun f => (f.offset, P.cellsOf f.type) else none
 | some (.array _ e) => if (P.info? e).isSome then some fun i => some (i * P.cellsOf e, P.cellsOf e) else none
 | _ => none
def buildW (P : Program) (t : TypeId) (parts : List (Nat × Value)) (K : Value → Prop) : Prop :=
 match zeroOf P t with
 | some z => match placesOf P t with
  | some pl => match fillL pl z.cells.toList parts with
   | some cells => K (.agg cells.toArray)
   | none => False
  | none => False
 | none => False
def pureW (P : Program) (o : Op) (ev : Operand → Value) (K : Value → Prop) : Prop :=
 match o with
 | .move x => K (ev x)
 | .assign x => K (ev x)
 | .pick c a b => match ev c with
  | .bool c => condB c (K (ev a)) (K (ev b))
  | _ => False
 | .nilCheck x => nilW (ev x) K
 | .fieldAddr s x i => fieldAddrW P s (ev x) i K
 | .field s x i => fieldW P s (ev x) i K
 | .indexAddr t x i => indexAddrW P t (ev x) (ev i) K
 | .index t x i => indexW P t (ev x) (ev i) K
 | .slice t x lo hi mx => sliceW P t (ev x) (lo.map ev) (hi.map ev) (mx.map ev) K
 | .extract x i => extractW (ev x) i K
 | .binOp op t x y _ => binW P op t (ev x) (ev y) K
 | .unOp op _ x => unW op (ev x) K
 | .convert s d x => convW P s d (ev x) K
 | .makeFunc fn first captured => K (.func fn (first.map ev) (captured.map ev))
 | .build t parts => buildW P t (parts.toList.map fun (i, x) => (i, ev x)) K
 | .call { callee := .builtin .len, args := args, argTypes := ts } => match ts.toList with
  | [t] => match args.toList with | [x] => lenW P t (ev x) K | _ => False
  | _ => False
 | .call { callee := .builtin .min, args := args, .. } => minmaxW true (args.toList.map ev) K
 | .call { callee := .builtin .max, args := args, .. } => minmaxW false (args.toList.map ev) K
 | _ => False
theorem underlying_info {P : Program} {t : TypeId} (h : P.underlying t ≠ none) : ∃ i, P.info? t = some i := by
 cases hi : P.info? t with
 | none => exact (h (by unfold Program.underlying; simp [hi])).elim
 | some i => exact ⟨i, rfl⟩
theorem run_sizeOf' {P : Program} {t : TypeId} (h : (P.info? t).isSome = true) (w : World) : (sizeOf t).run P w = .ok (P.cellsOf t) w := by
 cases hi : P.info? t with
 | none => simp [hi] at h
 | some i => simp [sizeOf, typeInfo, hi, Program.cellsOf]
theorem info_of_cells {P : Program} {t : TypeId} (h : P.cellsOf t ≠ 0) : (P.info? t).isSome = true := by
 cases hi : P.info? t with
 | none => simp [Program.cellsOf, hi] at h
 | some i => rfl
theorem info_of_und {P : Program} {t : TypeId} (h : P.underlying t ≠ none) : (P.info? t).isSome = true := by
 obtain ⟨i, hi⟩ := underlying_info h; simp [hi]
theorem ne_none_of {α : Type} {x : Option α} (h : x.isSome = true) : x ≠ none := by cases x <;> simp at h ⊢
theorem fieldOf_spec {P : Program} {s : TypeId} {i off : Nat} {ft : TypeId} (h : fieldOf P s i = some (off, ft)) :
  ∃ fs f, P.underlying s = some (.struct fs) ∧ fs[i]? = some f ∧ f.offset = off ∧ f.type = ft := by
 unfold fieldOf at h
 split at h
 ·rename_i fs hu
  cases hf : fs[i]? with
  | none => simp [hf] at h
  | some f => simp [hf] at h; exact ⟨fs, f, hu, hf, h.1, h.2⟩
 ·simp at h
theorem nilM_elim {p : Option Addr} {F : Addr → Prop} (h : nilM p F) : ∃ a, p = some a ∧ F a := by
 cases p with
 | none => exact h.elim
 | some a => exact ⟨a, rfl, h⟩
theorem condB_elim {b : Bool} {T E : Prop} (h : condB b T E) : (b = true ∧ T) ∨ (b = false ∧ E) := by
 cases b
 ·exact .inr ⟨rfl, h⟩
 ·exact .inl ⟨rfl, h⟩
theorem partAt_run {P : Program} {t : TypeId} {cs : Array Value} {off : Nat} {w : World} {v : Value}
  (h : condB (isAggT P t) (P.underlying t ≠ none ∧ v = .agg (cs.extract off (off + P.cellsOf t))) (P.underlying t ≠ none ∧ cs.toList[off]? = some v)) :
  (part t cs off).run P w = .ok v w := by
 rcases condB_elim h with ⟨hb, hn, rfl⟩ | ⟨hb, hn, hv⟩
 ·simp [part, isAgg_run true hb hn, cellsOf_run hn]
 ·simp at hv
  simp [part, isAgg_run false hb hn, hv]
theorem boundW_elim {x : Option Value} {d y : Nat} {K : Nat → Prop} (h : boundW x d y K) :
  (x = none ∧ K d) ∨ ∃ k i, x = some (.int k i) ∧ 0 ≤ i ∧ i ≤ (y : Int) ∧ K i.toNat := by
 unfold boundW at h
 split at h
 ·exact .inr ⟨_, _, rfl, h.1.1, h.1.2, h.2⟩
 ·exact h.elim
 ·exact .inl ⟨rfl, h⟩
theorem sliceBounds_run {P : Program} {isSlice : Bool} {len cap : Nat} {lo hi : Option Value} {K : Nat → Nat → Prop}
  (h : boundW hi len cap fun h => boundW lo 0 h fun l => K h l) :
  ∃ h l, K h l ∧ ∀ w, (Instr.sliceBounds isSlice len cap lo hi none).run P w = .ok (l, h, cap) w := by
 rcases boundW_elim h with ⟨rfl, g⟩ | ⟨k, i, rfl, h0, h1, g⟩
 ·rcases boundW_elim g with ⟨rfl, g2⟩ | ⟨k, i, rfl, h0, h1, g2⟩
  ·exact ⟨_, _, g2, fun w => by simp [Instr.sliceBounds]⟩
  ·exact ⟨_, _, g2, fun w => by simp [Instr.sliceBounds, Instr.sliceBound, asIntOf, h0, h1]⟩
 ·rcases boundW_elim g with ⟨rfl, g2⟩ | ⟨k', j, rfl, h0', h1', g2⟩
  ·exact ⟨_, _, g2, fun w => by simp [Instr.sliceBounds, Instr.sliceBound, asIntOf, h0, h1]⟩
  ·exact ⟨_, _, g2, fun w => by
    have : j ≤ max i 0 := by omega
    simp [Instr.sliceBounds, Instr.sliceBound, asIntOf, h0, h1, h0']
    omega⟩
theorem execOp_v {P : Program} {ev : Operand → Value} {o : Oper} {s : Sem Value} {v : Value} {w w' : World}
  (he : execOp ev o = (do pure (Next.value (← s)))) (hs : s.run P w = .ok v w') : (execOp ev o).run P w = .ok (.value v) w' := by
 rw [he]; simp [hs]
theorem cutV_eq (p : Option Addr) (cap l h size : Nat) :
  Value.slice (if cap = l then p else p.map (·.add (l * size))) (h - l) (cap - l) = cutV p cap l h size := by
 unfold cutV cutP addO; cases p <;> rfl
theorem sliceW_sound {P : Program} {t : TypeId} {x : Value} {lo hi mx : Option Value} {K : Value → Prop} (h : sliceW P t x lo hi mx K) :
  ∃ v, K v ∧ ∀ w, (Instr.sliceAt t x lo hi mx).run P w = .ok v w := by
 unfold sliceW at h
 split at h
 ·exact h.elim
 ·split at h
  ·rename_i hu
   split at h
   ·rename_i s
    obtain ⟨hh, l, hK, hr⟩ := sliceBounds_run (P := P) (isSlice := false) h
    exact ⟨_, hK, fun w => by simp [Instr.sliceAt, Instr.slice, run_underlying' hu, hr]⟩
   ·exact h.elim
  ·rename_i e hu
   split at h
   ·rename_i p n c
    obtain ⟨hn, h⟩ := (condB_elim h).resolve_right fun x => x.2
    have hn := ne_none_of hn
    obtain ⟨hh, l, hK, hr⟩ := sliceBounds_run (P := P) (isSlice := true) h
    refine ⟨_, hK, fun w => ?_⟩
    simp [Instr.sliceAt, Instr.slice, run_underlying' hu, hr, run_sizeOf' (info_of_und hn), ← cutV_eq]
   ·exact h.elim
  ·rename_i n e hu
   split at h
   ·rename_i p
    obtain ⟨hn, h⟩ := (condB_elim h).resolve_right fun x => x.2
    have hn := ne_none_of hn
    obtain ⟨a, rfl, h1⟩ := nilM_elim h
    obtain ⟨hh, l, hK, hr⟩ := sliceBounds_run (P := P) (isSlice := false) h1
    refine ⟨_, hK, fun w => ?_⟩
    simp [Instr.sliceAt, Instr.sureAddr, run_underlying' hu, hr, run_sizeOf' (info_of_und hn), ← cutV_eq]
    split <;> rfl
   ·exact h.elim
  ·exact h.elim
theorem indexAddrW_sound {P : Program} {t : TypeId} {x i : Value} {K : Value → Prop} (h : indexAddrW P t x i K) :
  ∃ v, K v ∧ ∀ w, (Instr.indexAt t x i).run P w = .ok v w := by
 unfold indexAddrW at h
 split at h
 ·split at h
  ·rename_i e hu
   split at h
   ·obtain ⟨hn, hb, h⟩ := (condB_elim h).resolve_right fun x => x.2
    have hn := ne_none_of hn
    obtain ⟨a, rfl, h⟩ := nilM_elim h
    exact ⟨_, h, fun w => by simp [Instr.indexAt, asIntOf, run_underlying' hu, hb, run_sizeOf' (info_of_und hn)]⟩
   ·exact h.elim
  ·rename_i n e hu
   split at h
   ·obtain ⟨hn, hb, h⟩ := (condB_elim h).resolve_right fun x => x.2
    have hn := ne_none_of hn
    obtain ⟨a, rfl, h⟩ := nilM_elim h
    exact ⟨_, h, fun w => by simp [Instr.indexAt, Instr.sureAddr, asIntOf, run_underlying' hu, hb, run_sizeOf' (info_of_und hn)]⟩
   ·exact h.elim
  ·exact h.elim
 ·exact h.elim
theorem indexW_sound {P : Program} {t : TypeId} {x i : Value} {K : Value → Prop} (h : indexW P t x i K) :
  ∃ v, K v ∧ ∀ w, (Instr.index t x i).run P w = .ok v w := by
 unfold indexW at h
 split at h
 ·rename_i k i
  split at h
  ·rename_i hu
   split at h
   ·rename_i s
    obtain ⟨hb, h⟩ := h
    refine ⟨_, h, fun w => ?_⟩
    have hlt : i.toNat < s.size := by omega
    have e : s[i.toNat]? = some (s.data.toList.getD i.toNat 0) := by
     have h2 : i.toNat < s.data.toList.length := by simpa using hlt
     rw [getElem?_pos s i.toNat hlt, List.getD_eq_getElem?_getD, List.getElem?_eq_getElem h2]
     rfl
    simp only [Instr.index, asIntOf, Sem.run_bind, Sem.run_pure, Result.andThen, run_underlying' hu]
    rw [if_pos hb.1, e]
    rfl
   ·exact h.elim
  ·exact h.elim
 ·exact h.elim
theorem fieldAddrW_sound {P : Program} {s : TypeId} {x : Value} {i : Nat} {K : Value → Prop} (h : fieldAddrW P s x i K) :
  ∃ v, K v ∧ ∀ w, (Instr.fieldAt s x i).run P w = .ok v w := by
 unfold fieldAddrW at h
 split at h
 ·rename_i off ft hf
  obtain ⟨fs, f, hu, hfi, rfl, rfl⟩ := fieldOf_spec hf
  split at h
  ·obtain ⟨a, rfl, h⟩ := nilM_elim h
   rcases condB_elim h with ⟨_, h⟩ | ⟨hz, h⟩
   ·exact h.elim
   ·have hz' : P.cellsOf f.type ≠ 0 := fun e => by rw [e] at hz; simp at hz
    refine ⟨_, h, fun w => ?_⟩
    simp [Instr.fieldAt, run_underlying' hu, hfi, Instr.sureAddr, fieldPlace, run_sizeOf' (info_of_cells hz'), hz']
  ·exact h.elim
 ·exact h.elim
theorem fieldW_sound {P : Program} {s : TypeId} {x : Value} {i : Nat} {K : Value → Prop} (h : fieldW P s x i K) :
  ∃ v, K v ∧ ∀ w, (Instr.field s x i).run P w = .ok v w := by
 unfold fieldW at h
 split at h
 ·rename_i off ft hf
  obtain ⟨fs, f, hu, hfi, rfl, rfl⟩ := fieldOf_spec hf
  split at h
  ·rename_i cs
   obtain ⟨hn, h⟩ := (condB_elim h).resolve_right fun x => x.2
   have hn := ne_none_of hn
   rcases condB_elim h with ⟨hb, h⟩ | ⟨hb, h⟩
   ·have e : ((cs.toList.drop f.offset).take (P.cellsOf f.type)).toArray = cs.extract f.offset (f.offset + P.cellsOf f.type) := by
     apply Array.toList_inj.1
     simp [List.take_drop]
    rw [e] at h
    exact ⟨_, h, fun w => by
     simp [Instr.field, run_underlying' hu, hfi, asAgg]
     exact partAt_run (by rw [hb]; exact ⟨hn, rfl⟩)⟩
   ·split at h
    ·rename_i v hv
     exact ⟨_, h, fun w => by
      simp [Instr.field, run_underlying' hu, hfi, asAgg]
      exact partAt_run (by rw [hb]; exact ⟨hn, hv⟩)⟩
    ·exact h.elim
  ·exact h.elim
 ·exact h.elim
theorem spliced_foldl (vs : List Value) : ∀ (j : Nat) (cs : Array Value) (off : Nat), off + j + vs.length ≤ cs.size →
  (vs.zipIdx j).foldl (fun (cs : Array Value) (x : Value × Nat) => cs.setIfInBounds (off + x.2) x.1) cs = (splice cs.toList (off + j) vs).toArray := by
 induction vs with
 | nil => intro j cs off h; simp [splice]
 | cons v vs ih =>
  intro j cs off h
  simp only [List.length_cons] at h
  simp only [List.zipIdx_cons, List.foldl_cons]
  rw [ih (j + 1) _ off (by simp; omega)]
  have hlt : off + j < cs.toList.length := by simp; omega
  simp only [splice, Array.toList_setIfInBounds, List.length_cons]
  rw [← Nat.add_assoc, List.take_succ_eq_append_getElem (by simpa using hlt), List.drop_set_of_lt (by omega)]
  simp [List.take_set_of_le]
  congr 1
  omega
theorem fillL_eq {place : Nat → Option (Nat × Nat)} : ∀ {parts : List (Nat × Value)} {cells r : List Value}, fillL place cells parts = some r →
  Instr.fill place cells.toArray parts = some r.toArray := by
 intro parts
 induction parts with
 | nil => intro cells r h; simp [fillL] at h; simp [Instr.fill, h]
 | cons x rest ih =>
  obtain ⟨i, v⟩ := x
  intro cells r h
  simp only [fillL] at h
  simp only [Instr.fill]
  cases hp : place i with
  | none => simp [hp] at h
  | some y =>
   obtain ⟨off, size⟩ := y
   simp only [hp] at h ⊢
   split at h
   ·rename_i hb
    simp only [Bool.and_eq_true, Nat.ble_eq] at hb
    obtain ⟨h1, h2⟩ := hb
    simp only [Array.length_toList] at h1 h2
    have e : v.cells.zipIdx.foldl (fun (cs : Array Value) (x : Value × Nat) => cs.setIfInBounds (off + x.2) x.1) cells.toArray = (splice cells off v.cells.toList).toArray := by
     have := spliced_foldl v.cells.toList 0 cells.toArray off (by simpa using h2)
     simp only [Nat.add_zero] at this
     rw [← this, ← Array.foldl_toList]
     simp
    have h1 := Nat.eq_of_beq_eq_true h1
    rw [if_neg (by simp; omega)]
    have h3 := ih h
    rw [← e] at h3
    exact h3
   ·simp at h
theorem placesOf_run {P : Program} {t : TypeId} {pl : Nat → Option (Nat × Nat)} (h : placesOf P t = some pl) {z : Value} (hz : zeroOf P t = some z)
  {parts : Array (Nat × Value)} {cells : Array Value} (hc : Instr.fill pl z.cells parts.toList = some cells) (w : World) :
  (Instr.build t parts).run P w = .ok (.agg cells) w := by
 have hzr : (zeroValue t).run P w = .ok z w := by
  unfold zeroOf at hz
  cases hi : P.info? t with
  | none => simp [hi] at hz
  | some i => simp [hi] at hz; simp [zeroValue, typeInfo, hi, hz]
 unfold placesOf at h
 split at h
 ·rename_i fs hu
  split at h
  ·rename_i hall
   simp only [Option.some.injEq] at h
   have hm : ∀ (l : List Field), (∀ f ∈ l, (P.info? f.type).isSome = true) →
     (l.mapM fun f => (Prod.mk f.offset <$> sizeOf f.type : Sem (Nat × Nat))).run P w = .ok (l.map fun f => (f.offset, P.cellsOf f.type)) w := by
    intro l
    induction l with
    | nil => intro _; simp
    | cons f l ih =>
     intro hl
     have h2 := ih (fun g hg => hl g (by simp [hg]))
     simp only [List.mapM_cons, Sem.run_bind, Sem.run_map, run_sizeOf' (hl f (by simp)), Result.andThen, h2]
     simp
   have hm' := hm fs.toList (by
    intro f hf
    simp only [Array.all_eq_true_iff_forall_mem] at hall
    exact hall f (by simpa using hf))
   have e : (Instr.fill (fun x => (fs.toList.map (fun f => (f.offset, P.cellsOf f.type))).toArray[x]?) z.cells parts.toList) = some cells := by
    rw [← hc, ← h]; congr 1; funext i; simp
   simp only [Instr.build, Sem.run_bind, hzr, Result.andThen, run_underlying' hu, Array.mapM_eq_mapM_toList]
   simp only [bind_pure_comp, Sem.run_map, hm', Result.andThen]
   simp only [e]
   simp
  ·simp at h
 ·rename_i n e hu
  split at h
  ·rename_i hi
   simp only [Option.some.injEq] at h
   rw [← h] at hc
   simp only [Instr.build, Sem.run_bind, hzr, Result.andThen, run_underlying' hu, run_sizeOf' hi, hc]
   simp
  ·simp at h
 ·simp at h
theorem pureW_sound {P : Program} {o : Oper} {ev : Operand → Value} {K : Value → Prop} (h : pureW P o.op ev K) :
  ∃ v, K v ∧ ∀ w, (execOp ev o).run P w = .ok (.value v) w := by
 unfold pureW at h
 split at h
 ·rename_i x ho; exact ⟨_, h, fun w => by simp [execOp, ho]⟩
 ·rename_i x ho; exact ⟨_, h, fun w => by simp [execOp, ho]⟩
 ·rename_i c a b ho
  split at h
  ·rename_i b' hc
   rcases condB_elim h with ⟨rfl, h⟩ | ⟨rfl, h⟩ <;> exact ⟨_, h, fun w => by simp [execOp, ho, hc, asBool]⟩
  ·exact h.elim
 ·rename_i x ho
  unfold nilW at h
  split at h
  ·rename_i p hx
   obtain ⟨a, rfl, h⟩ := nilM_elim h
   exact ⟨_, h, fun w => by simp [execOp, ho, hx]⟩
  ·rename_i f a b hx
   exact ⟨_, h, fun w => by simp [execOp, ho, hx]⟩
  ·exact h.elim
 ·rename_i s x i ho
  obtain ⟨v, hK, hr⟩ := fieldAddrW_sound h
  exact ⟨v, hK, fun w => execOp_v (by simp only [execOp, ho]) (hr w)⟩
 ·rename_i s x i ho
  obtain ⟨v, hK, hr⟩ := fieldW_sound h
  exact ⟨v, hK, fun w => execOp_v (by simp only [execOp, ho]) (hr w)⟩
 ·rename_i s x i ho
  obtain ⟨v, hK, hr⟩ := indexAddrW_sound h
  exact ⟨v, hK, fun w => execOp_v (by simp only [execOp, ho]) (hr w)⟩
 ·rename_i s x i ho
  obtain ⟨v, hK, hr⟩ := indexW_sound h
  exact ⟨v, hK, fun w => execOp_v (by simp only [execOp, ho]) (hr w)⟩
 ·rename_i t x lo hi mx ho
  obtain ⟨v, hK, hr⟩ := sliceW_sound h
  exact ⟨v, hK, fun w => execOp_v (by simp only [execOp, ho]) (hr w)⟩
 ·rename_i x i ho
  unfold extractW at h
  split at h
  ·rename_i vs hx
   split at h
   ·rename_i v hv
    exact ⟨v, h, fun w => by simp at hv; simp [execOp, ho, hx, Instr.extract, hv]⟩
   ·exact h.elim
  ·exact h.elim
 ·rename_i op t x y t' ho
  obtain ⟨v, hK, hr⟩ := binW_sound h
  exact ⟨v, hK, fun w => by simp [execOp, ho, binW_guard h, hr]⟩
 ·rename_i op t x ho
  unfold unW at h
  split at h
  ·rename_i k n hx
   cases op <;> simp only at h <;> first | exact h.elim | exact ⟨_, h, fun w => by simp [execOp, ho, hx, Op.unary, Op.intArith, Op.intBits, bitsV]⟩
  ·rename_i b hx
   cases op <;> simp only at h <;> first | exact h.elim | exact ⟨_, h, fun w => by simp [execOp, ho, hx, Op.unary]⟩
  ·exact h.elim
 ·rename_i s d x ho
  unfold convW at h
  split at h
  ·exact h.elim
  ·rename_i ds hs
   split at h
   ·rename_i k hd
    split at h
    ·rename_i k' n hx
     exact ⟨_, h, fun w => by simp [execOp, ho, hx, convert, run_underlying' hs, run_underlying' hd, Conv.intToInt]⟩
    ·exact h.elim
   ·rename_i hd
    split at h
    ·rename_i s hx
     exact ⟨_, h, fun w => by
      simp only [execOp, ho, hx, convert, Sem.run_bind, run_underlying' hs, run_underlying' hd, Result.andThen]
      rfl⟩
    ·exact h.elim
   ·exact h.elim
 ·rename_i fn first captured ho
  exact ⟨_, h, fun w => by simp [execOp, ho, Instr.makeFunc]⟩
 ·rename_i t parts ho
  unfold buildW at h
  split at h
  ·rename_i z hz
   split at h
   ·rename_i pl hpl
    split at h
    ·rename_i cells hc
     refine ⟨_, h, fun w => ?_⟩
     have e : (parts.map fun x : Nat × Operand => (x.1, ev x.2)).toList = parts.toList.map fun x => (x.1, ev x.2) := by simp
     have := placesOf_run (P := P) (w := w) (parts := parts.map fun x : Nat × Operand => (x.1, ev x.2)) hpl hz (by rw [e]; have h4 := fillL_eq hc; simpa using h4)
     exact execOp_v (by simp only [execOp, ho]) this
    ·exact h.elim
   ·exact h.elim
  ·exact h.elim
 ·rename_i args ts ho
  split at h
  ·rename_i t hts
   split at h
   ·rename_i x hx
    have e1 : args = #[x] := Array.toList_inj.1 (by simpa using hx)
    have e2 : ts = #[t] := Array.toList_inj.1 (by simpa using hts)
    subst e1 e2
    unfold lenW at h
    split at h
    ·rename_i hu
     split at h
     ·rename_i s hs
      exact ⟨_, h, fun w => by simp [execOp, ho, resolve, hs, invoke, builtin, Builtin.len_, run_underlying' hu, goInt]⟩
     ·exact h.elim
    ·rename_i e hu
     split at h
     ·rename_i p n c hs
      exact ⟨_, h, fun w => by simp [execOp, ho, resolve, hs, invoke, builtin, Builtin.len_, run_underlying' hu, goInt]⟩
     ·exact h.elim
    ·rename_i n e hu
     exact ⟨_, h, fun w => by
      cases hx : ev x <;> simp [execOp, ho, resolve, hx, invoke, builtin, Builtin.len_, run_underlying' hu, goInt]⟩
    ·rename_i a hu
     split at h
     ·rename_i n e hu2
      exact ⟨_, h, fun w => by
       cases hx : ev x <;> simp [execOp, ho, resolve, hx, invoke, builtin, Builtin.len_, run_underlying' hu, run_underlying' hu2, goInt]⟩
     ·exact h.elim
    ·exact h.elim
   ·exact h.elim
  ·exact h.elim
 ·rename_i args ts ho
  unfold minmaxW at h
  split at h
  ·rename_i k x k' y he
   refine ⟨_, h, fun w => ?_⟩
   simp [execOp, ho, resolve, invoke, builtin, Builtin.min_, Builtin.min2, he]
  ·exact h.elim
 ·rename_i args ts ho
  unfold minmaxW at h
  split at h
  ·rename_i k x k' y he
   refine ⟨_, h, fun w => ?_⟩
   simp [execOp, ho, resolve, invoke, builtin, Builtin.max_, Builtin.max2, he]
  ·exact h.elim
 ·exact h.elim
end Go.Vc
