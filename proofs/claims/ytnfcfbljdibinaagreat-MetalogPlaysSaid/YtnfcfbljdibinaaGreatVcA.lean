import Derived.WalkKit
import Derived.Orders
import Derived.Scope
namespace Go.Vc
open Go
def exS (P : Program) (t : TypeId) (F : Value -> Prop) : Prop :=
 match P.underlying t with
 | some (.int k) => ∃ n : Int, F (.int k n)
 | some .bool => ∃ b : Bool, F (.bool b)
 | some .string => ∃ s : ByteArray, F (.string s)
 | some (.pointer _) => ∃ p : Option Addr, F (.pointer p)
 | some (.slice _) => ∃ (p : Option Addr) (n c : Nat), F (.slice p n c)
 | some (.map _ _) => ∃ r : Option Nat, F (.map r)
 | _ => ∃ v : Value, F v
theorem QD4 {P : Program} {t : TypeId} {F : Value -> Prop} (h : exS P t F) : ∃ v, F v := by
 unfold exS at h
 split at h
 ·obtain ⟨_, h⟩ := h; exact ⟨_, h⟩
 ·obtain ⟨_, h⟩ := h; exact ⟨_, h⟩
 ·obtain ⟨_, h⟩ := h; exact ⟨_, h⟩
 ·obtain ⟨_, h⟩ := h; exact ⟨_, h⟩
 ·obtain ⟨_, _, _, h⟩ := h; exact ⟨_, h⟩
 ·obtain ⟨_, h⟩ := h; exact ⟨_, h⟩
 ·exact h
def Qbf (P : Program) : Nat -> TypeId -> List TypeId
 | 0, t => [t]
 | d + 1, t =>
  match P.underlying t with
  | some (.struct fs) => fs.toList.flatMap fun f => Qbf P d f.type
  | some (.array n e) => (List.replicate n (Qbf P d e)).flatten
  | _ => [t]
def Qz1 (P : Program) (t : TypeId) : Bool :=
 match P.underlying t with
 | some (.struct _) => true
 | some (.array _ _) => true
 | _ => false
def QA8 (P : Program) (w : World) (p : Addr) : List TypeId -> Nat -> List Value -> (List Value -> Prop) -> Prop
 | [], _, acc, K => K acc.reverse
 | t :: ts, i, acc, K => exS P t fun v => w.cell? (p.add i) = some v /\ QA8 P w p ts (i + 1) (v :: acc) K
def QD6 (P : Program) (t : TypeId) (x : Value) (w : World) (K : Value -> Prop) : Prop :=
 match x with
 | .pointer (some p) =>
  match Qz1 P t with
  | true =>
   (match Nat.beq (Qbf P 8 t).length (P.cellsOf t) with
    | true => QA8 P w p (Qbf P 8 t) 0 [] fun l => K (.agg l.toArray)
    | false => False)
  | false => exS P t fun v => w.cell? p = some v /\ K v
 | _ => False
theorem QC6 {P : Program} {w : World} {p : Addr} {K : List Value -> Prop} : ∀ (ts : List TypeId) (i : Nat) (acc : List Value),
  QA8 P w p ts i acc K -> ∃ l, K l /\ (loadCellsFrom p i ts.length acc.reverse.toArray).run P w = .ok l.toArray w := by
 intro ts
 induction ts with
 | nil => intro i acc h; exact ⟨_, h, rfl⟩
 | cons t ts ih =>
  intro i acc h
  obtain ⟨v, hv, h⟩ := QD4 h
  obtain ⟨l, hK, hl⟩ := ih _ _ h
  refine ⟨l, hK, ?_⟩
  simp only [List.length_cons, loadCellsFrom]
  simp [hv]
  simpa using hl
theorem Q4 {P : Program} {t : TypeId} {d : TypeDesc} (h : P.underlying t = some d) (w : World) : (underlying t).run P w = .ok d w := by
 simp [underlying, h]
theorem Qy2 {P : Program} {t : TypeId} {w : World} (b : Bool) (h : Qz1 P t = b) (hn : P.underlying t ≠ none) : (isAgg t).run P w = .ok b w := by
 cases hu : P.underlying t with
 | none => exact (hn hu).elim
 | some d =>
  unfold Qz1 at h
  rw [hu] at h
  cases d <;> simp [isAgg, Q4 hu] <;> simpa using h
theorem QX4 {P : Program} {t : TypeId} {w : World} (hn : P.underlying t ≠ none) : (sizeOf t).run P w = .ok (P.cellsOf t) w := by
 have : (P.info? t) ≠ none := by
  intro h; apply hn
  unfold Program.underlying
  simp [h]
 cases hi : P.info? t with
 | none => exact (this hi).elim
 | some i => simp [sizeOf, typeInfo, hi, Program.cellsOf]
def Qv (p : Option Addr) (F : Addr -> Prop) : Prop := match p with | some a => F a | none => False
def Q2 (b : Bool) (T E : Prop) : Prop := match b with | true => T | false => E
abbrev at0 (b : Nat) : Addr := ⟨b, 0, none⟩
theorem Q0 {b : Bool} {T E : Prop} (h1 : b = true -> T) (h2 : b = false -> E) : Q2 b T E := by
 cases b
 ·exact h2 rfl
 ·exact h1 rfl
def Qs (op : BinOp) (k : IntKind) (x y : Int) : Int :=
 let a := BitVec.ofInt k.bits x
 let b := BitVec.ofInt k.bits y
 match op with
 | .and => k.wrap (a &&& b).toNat
 | .or => k.wrap (a ||| b).toNat
 | .xor => k.wrap (a ^^^ b).toNat
 | _ => k.wrap (a &&& ~~~b).toNat
def QAb (op : BinOp) (k : IntKind) (a b : Int) (K : Value -> Prop) : Prop :=
 match op with
 | .add => K (.int k (k.wrap (a + b)))
 | .sub => K (.int k (k.wrap (a - b)))
 | .mul => K (.int k (k.wrap (a * b)))
 | .quo => b ≠ 0 /\ K (.int k (k.wrap (a.tdiv b)))
 | .rem => b ≠ 0 /\ K (.int k (a.tmod b))
 | .and => K (.int k (Qs .and k a b))
 | .or => K (.int k (Qs .or k a b))
 | .xor => K (.int k (Qs .xor k a b))
 | .andNot => K (.int k (Qs .andNot k a b))
 | .eql => K (.bool (decide (a = b)))
 | .neq => K (.bool (!decide (a = b)))
 | .lss => K (.bool (decide (a < b)))
 | .leq => K (.bool (decide (a <= b)))
 | .gtr => K (.bool (decide (b < a)))
 | .geq => K (.bool (decide (b <= a)))
 | _ => False
def QN9 (op : BinOp) (k : IntKind) (a b : Int) (K : Value -> Prop) : Prop :=
 match op with
 | .shl => 0 <= b /\ K (.int k (k.wrap (a * 2 ^ (min b.toNat k.bits))))
 | .shr => 0 <= b /\ K (.int k (a.fdiv (2 ^ (min b.toNat k.bits))))
 | _ => False
def Qoc (op : BinOp) (a b : ByteArray) (K : Value -> Prop) : Prop :=
 match op with
 | .add => ((a.size + b.size : Nat) : Int) <= IntKind.i64.max /\ K (.string (a ++ b))
 | .eql => K (.bool (decide (a = b)))
 | .neq => K (.bool (!decide (a = b)))
 | .lss => K (.bool (Op.bytesLess a.toList b.toList))
 | .leq => K (.bool (Op.bytesLess a.toList b.toList || decide (a = b)))
 | .gtr => K (.bool (!(Op.bytesLess a.toList b.toList || decide (a = b))))
 | .geq => K (.bool (!(Op.bytesLess a.toList b.toList)))
 | _ => False
def eqW (op : BinOp) (b : Bool) (K : Value -> Prop) : Prop :=
 match op with
 | .eql => K (.bool b)
 | .neq => K (.bool (!b))
 | _ => False
def QUe (P : Program) (op : BinOp) (t : TypeId) (x y : Value) (K : Value -> Prop) : Prop :=
 match x, y with
 | .int k a, .int k' b =>
  match op with
  | .shl => QN9 .shl k a b K
  | .shr => QN9 .shr k a b K
  | op => if k = k' then QAb op k a b K else False
 | .string a, .string b => Qoc op a b K
 | .bool a, .bool b => match P.underlying t with | some .bool => eqW op (a == b) K | _ => False
 | .pointer p, .pointer none => match P.underlying t with | some (.pointer _) => eqW op p.isNone K | _ => False
 | .slice p _ _, .slice none _ _ => match P.underlying t with | some (.slice _) => eqW op p.isNone K | _ => False
 | .map p, .map none => match P.underlying t with | some (.map _ _) => eqW op p.isNone K | _ => False
 | _, _ => False
theorem _root_.Int.beq_eq_decide' (a b : Int) : (a == b) = decide (a = b) := by
 by_cases h : a = b <;> simp [h]
theorem Qm7 {P : Program} {op : BinOp} {t : TypeId} {x y : Operand} {a b : Value} {w : World}
  (h : match a, b with | .nilIface, .nilIface => False | .agg _, .agg _ => False | _, _ => True) : (eqGuard op t x y a b).run P w = .ok () w := by
 cases op
 case eql => cases a <;> cases b <;> first | rfl | exact h.elim
 case neq => cases a <;> cases b <;> first | rfl | exact h.elim
 all_goals rfl
theorem Q61 {P : Program} {t : TypeId} {d : TypeDesc} (_hu : P.underlying t = some d) {x y : Value} {b : Bool} {w : World}
  (h : ∀ m, (Op.equalIn (m + 1) t x y).run P w = .ok b w) : (Op.equal t x y).run P w = .ok b w := h 9999
theorem QA3 {P : Program} {t : TypeId} (hu : P.underlying t = some .bool) (a b : Bool) (w : World) (m : Nat) :
  (Op.equalIn (m + 1) t (.bool a) (.bool b)).run P w = .ok (a == b) w := by
 simp only [Op.equalIn, Sem.run_bind, Q4 hu, Result.andThen]
 rfl
theorem Qr4 {P : Program} {t e : TypeId} (hu : P.underlying t = some (.pointer e)) (p : Option Addr) (w : World) (m : Nat) :
  (Op.equalIn (m + 1) t (.pointer p) (.pointer none)).run P w = .ok p.isNone w := by
 simp only [Op.equalIn, Sem.run_bind, Q4 hu, Result.andThen]
 cases p <;> rfl
theorem QY2 {P : Program} {t e : TypeId} (hu : P.underlying t = some (.slice e)) (p : Option Addr) (n c n' c' : Nat) (w : World) (m : Nat) :
  (Op.equalIn (m + 1) t (.slice p n c) (.slice none n' c')).run P w = .ok p.isNone w := by
 simp only [Op.equalIn, Sem.run_bind, Q4 hu, Result.andThen]
 cases p <;> rfl
theorem Qq4 {P : Program} {t k e : TypeId} (hu : P.underlying t = some (.map k e)) (p : Option Nat) (w : World) (m : Nat) :
  (Op.equalIn (m + 1) t (.map p) (.map none)).run P w = .ok p.isNone w := by
 simp only [Op.equalIn, Sem.run_bind, Q4 hu, Result.andThen]
 cases p <;> rfl
theorem QH0 {P : Program} {t : TypeId} {x y : Value} {b : Bool} {w : World} (h : (Op.equal t x y).run P w = .ok b w) :
  (Sem.bind (Op.equal t x y) fun r => Sem.pure (Value.bool r)).run P w = .ok (.bool b) w ∧
  (Sem.bind (Op.equal t x y) fun r => Sem.pure (Value.bool (!r))).run P w = .ok (.bool (!b)) w := by
 constructor
 ·show Sem.run P (Op.equal t x y >>= fun r => Sem.pure (Value.bool r)) w = _
  rw [Sem.run_bind, h]; rfl
 ·show Sem.run P (Op.equal t x y >>= fun r => Sem.pure (Value.bool (!r))) w = _
  rw [Sem.run_bind, h]; rfl
theorem QP2 (a b : ByteArray) : (a.toList == b.toList) = decide (a = b) := by
 have : a.toList = b.toList ↔ a = b := by
  constructor
  ·intro h
   rw [Go.ByteArray.toList_eq, Go.ByteArray.toList_eq] at h
   exact ByteArray.ext (Array.toList_inj.1 h)
  ·rintro rfl; rfl
 by_cases h : a = b
 ·subst h; simp
 ·have h' : ¬ a.toList = b.toList := fun e => h (this.1 e)
  simp [h, h']
theorem Q4a {P : Program} {op : BinOp} {t : TypeId} {x y : Value} {K : Value -> Prop} (h : QUe P op t x y K) :
  ∃ v, K v /\ ∀ w, (binOp op t x y).run P w = .ok v w := by
 unfold QUe at h
 split at h
 ·rename_i k a k' b
  split at h
  ·simp only [QN9] at h
   exact ⟨_, h.2, fun w => by simp [binOp, Op.shift, Int.not_lt.2 h.1]⟩
  ·simp only [QN9] at h
   exact ⟨_, h.2, fun w => by simp [binOp, Op.shift, Int.not_lt.2 h.1]⟩
  ·rename_i h1 h2
   split at h
   ·rename_i hk
    subst hk
    cases op <;> simp only [QAb] at h <;>
     first
     | exact h.elim
     | exact ⟨_, h, fun w => by simp [binOp, Op.intArith, Op.intCmp, Op.intBits, Qs, bne, Int.beq_eq_decide']⟩
     | exact ⟨_, h.2, fun w => by simp [binOp, Op.intDiv, h.1]⟩
     | exact ⟨_, h, fun w => by simp [binOp, Op.intCmp]; rfl⟩
     | exact (h1 rfl).elim
     | exact (h2 rfl).elim
   ·exact h.elim
 ·rename_i a b
  cases op <;> simp only [Qoc] at h <;>
   first
   | exact h.elim
   | exact ⟨_, h, fun w => by simp [binOp, Op.stringOp, ← QP2]⟩
   | exact ⟨_, h.2, fun w => by
     have h1 := h.1
     simp only [binOp, Op.stringOp]
     rw [if_neg (by omega)]
     simp⟩
 ·rename_i a b
  split at h
  ·rename_i hu
   cases op <;> simp only [eqW] at h <;>
    first
    | exact h.elim
    | exact ⟨_, h, fun w => (QH0 (Q61 hu (QA3 hu a b w))).1⟩
    | exact ⟨_, h, fun w => (QH0 (Q61 hu (QA3 hu a b w))).2⟩
  ·exact h.elim
 ·rename_i p
  split at h
  ·rename_i hu
   cases op <;> simp only [eqW] at h <;>
    first
    | exact h.elim
    | exact ⟨_, h, fun w => (QH0 (Q61 hu (Qr4 hu p w))).1⟩
    | exact ⟨_, h, fun w => (QH0 (Q61 hu (Qr4 hu p w))).2⟩
  ·exact h.elim
 ·rename_i p n c n' c'
  split at h
  ·rename_i hu
   cases op <;> simp only [eqW] at h <;>
    first
    | exact h.elim
    | exact ⟨_, h, fun w => (QH0 (Q61 hu (QY2 hu p n c n' c' w))).1⟩
    | exact ⟨_, h, fun w => (QH0 (Q61 hu (QY2 hu p n c n' c' w))).2⟩
  ·exact h.elim
 ·rename_i p
  split at h
  ·rename_i hu
   cases op <;> simp only [eqW] at h <;>
    first
    | exact h.elim
    | exact ⟨_, h, fun w => (QH0 (Q61 hu (Qq4 hu p w))).1⟩
    | exact ⟨_, h, fun w => (QH0 (Q61 hu (Qq4 hu p w))).2⟩
  ·exact h.elim
 ·exact h.elim
theorem Q3a {P : Program} {op : BinOp} {t : TypeId} {x y : Value} {K : Value -> Prop} (h : QUe P op t x y K) (ox oy : Operand) (w : World) :
  (eqGuard op t ox oy x y).run P w = .ok () w := by
 apply Qm7
 unfold QUe at h
 split at h <;> first | trivial | exact h.elim
def Qu6 (P : Program) (s : TypeId) (i : Nat) : Option (Nat × TypeId) :=
 match P.underlying s with
 | some (.struct fs) => (fs[i]?).map fun f => (f.offset, f.type)
 | _ => none
def Qbg (x : Value) (K : Value -> Prop) : Prop :=
 match x with
 | .pointer p => Qv p fun a => K (.pointer (some a))
 | .func (.func f) a b => K (.func (.func f) a b)
 | _ => False
def QP3 (P : Program) (s : TypeId) (x : Value) (i : Nat) (K : Value -> Prop) : Prop :=
 match Qu6 P s i with
 | some (off, ft) =>
  match x with
  | .pointer p => Qv p fun a => Q2 (Nat.beq (P.cellsOf ft) 0) False (K (.pointer (some (a.add off))))
  | _ => False
 | none => False
def Qtb (P : Program) (s : TypeId) (x : Value) (i : Nat) (K : Value -> Prop) : Prop :=
 match Qu6 P s i with
 | some (off, ft) =>
  match x with
  | .agg cs => Q2 (P.underlying ft).isSome (Q2 (Qz1 P ft) (K (.agg ((cs.toList.drop off).take (P.cellsOf ft)).toArray))
    (match cs.toList[off]? with | some v => K v | none => False)) False
  | _ => False
 | none => False
def QQ3 (P : Program) (t : TypeId) (x i : Value) (K : Value -> Prop) : Prop :=
 match i with
 | .int _ i =>
  match P.underlying t with
  | some (.slice e) =>
   match x with
   | .slice p n _ => Q2 (P.underlying e).isSome ((0 <= i /\ i < (n : Int)) /\ Qv p fun a => K (.pointer (some (a.add (i.toNat * P.cellsOf e))))) False
   | _ => False
  | some (.array n e) =>
   match x with
   | .pointer p => Q2 (P.underlying e).isSome ((0 <= i /\ i < (n : Int)) /\ Qv p fun a => K (.pointer (some (a.add (i.toNat * P.cellsOf e))))) False
   | _ => False
  | _ => False
 | _ => False
def QWe (s : ByteArray) (i : Int) : Int := ((s.data.toList.getD i.toNat 0).toNat : Int)
def Qzb (P : Program) (t : TypeId) (x i : Value) (K : Value -> Prop) : Prop :=
 match i with
 | .int _ i =>
  match P.underlying t with
  | some .string =>
   match x with
   | .string s => (0 <= i /\ i < (s.size : Int)) /\ K (.int .u8 (QWe s i))
   | _ => False
  | _ => False
 | _ => False
def QU2 (x : Option Value) (d : Nat) (y : Nat) (K : Nat -> Prop) : Prop :=
 match x with
 | some (.int _ i) => (0 <= i /\ i <= (y : Int)) /\ K i.toNat
 | some _ => False
 | none => K d
def QLc (p : Option Addr) (n : Nat) : Option Addr := match p with | some a => some (a.add n) | none => none
def Qu (p : Option Addr) (cap l size : Nat) : Option Addr := if cap = l then p else QLc p (l * size)
def QYe (p : Option Addr) (cap l h size : Nat) : Value := .slice (Qu p cap l size) (h - l) (cap - l)
def Qhc (P : Program) (t : TypeId) (x : Value) (lo hi mx : Option Value) (K : Value -> Prop) : Prop :=
 match mx with
 | some m =>
  match P.underlying t with
  | some (.slice e) =>
   match x, m, hi, lo with
   | .slice p _ c, .int _ mi, some (.int _ h), none => Q2 (P.underlying e).isSome (((0 <= mi /\ mi <= (c : Int)) /\ (0 <= h /\ h <= (mi.toNat : Int))) /\ K (QYe p mi.toNat 0 h.toNat (P.cellsOf e))) False
   | _, _, _, _ => False
  | _ => False
 | none =>
  match P.underlying t with
  | some .string =>
   match x with
   | .string s => QU2 hi s.size s.size fun h => QU2 lo 0 h fun l => K (.string (s.extract l h))
   | _ => False
  | some (.slice e) =>
   match x with
   | .slice p n c => Q2 (P.underlying e).isSome (QU2 hi n c fun h => QU2 lo 0 h fun l => K (QYe p c l h (P.cellsOf e))) False
   | _ => False
  | some (.array n e) =>
   match x with
   | .pointer p => Q2 (P.underlying e).isSome (Qv p fun a => QU2 hi n n fun h => QU2 lo 0 h fun l => K (QYe (some a) n l h (P.cellsOf e))) False
   | _ => False
  | _ => False
def Qp9 (x : Value) (i : Nat) (K : Value -> Prop) : Prop :=
 match x with
 | .tuple vs => match vs.toList[i]? with | some v => K v | none => False
 | _ => False
def unW (op : UnOp) (x : Value) (K : Value -> Prop) : Prop :=
 match x with
 | .int k n => match op with
  | .neg => K (.int k (k.wrap (0 - n)))
  | .xor => K (.int k (Qs .xor k (if k.signed then -1 else k.max) n))
  | _ => False
 | .bool b => match op with
  | .not => K (.bool (!b))
  | _ => False
 | _ => False
def QXe (P : Program) (src dst : TypeId) (x : Value) (K : Value -> Prop) : Prop :=
 match P.underlying src with
 | none => False
 | some _ =>
  match P.underlying dst with
  | some (.int k) => match x with
   | .int _ n => K (.int k (k.wrap n))
   | _ => False
  | some .string => match x with
   | .string s => K (.string s)
   | _ => False
  | _ => False
def Qag (P : Program) (t : TypeId) (x : Value) (K : Value -> Prop) : Prop :=
 match P.underlying t with
 | some .string => match x with
  | .string s => K (.int .i64 s.size)
  | _ => False
 | some (.slice _) => match x with
  | .slice _ n _ => K (.int .i64 n)
  | _ => False
 | some (.array n _) => K (.int .i64 n)
 | some (.pointer a) => match P.underlying a with
  | some (.array n _) => K (.int .i64 n)
  | _ => False
 | _ => False
def QE6 (mn : Bool) (xs : List Value) (K : Value -> Prop) : Prop :=
 match xs with
 | [.int k x, .int _ y] => match mn with
  | true => K (.int k (if y < x then y else x))
  | false => K (.int k (if x < y then y else x))
 | _ => False
def QT7 (cells : List Value) (off : Nat) (vs : List Value) : List Value := cells.take off ++ (vs ++ cells.drop (off + vs.length))
def Qda (place : Nat -> Option (Nat × Nat)) (cells : List Value) : List (Nat × Value) -> Option (List Value)
 | [] => some cells
 | (i, v) :: rest =>
  match place i with
  | none => none
  | some (off, size) =>
   match Nat.beq v.cells.toList.length size && Nat.ble (off + v.cells.toList.length) cells.length with
   | true => Qda place (QT7 cells off v.cells.toList) rest
   | false => none
def QK1 (P : Program) (t : TypeId) : Option Value := (P.info? t).bind (·.zero)
def QL6 (P : Program) (t : TypeId) : Option (Nat -> Option (Nat × Nat)) :=
 match P.underlying t with
 | some (.struct fs) => if fs.all (fun f => (P.info? f.type).isSome) then some fun i => (fs[i]?).map fun f => (f.offset, P.cellsOf f.type) else none
 | some (.array _ e) => if (P.info? e).isSome then some fun i => some (i * P.cellsOf e, P.cellsOf e) else none
 | _ => none
def QAd (P : Program) (t : TypeId) (parts : List (Nat × Value)) (K : Value -> Prop) : Prop :=
 match QK1 P t with
 | some z => match QL6 P t with
  | some pl => match Qda pl z.cells.toList parts with
   | some cells => K (.agg cells.toArray)
   | none => False
  | none => False
 | none => False
def Qoe (P : Program) (o : Op) (ev : Operand -> Value) (K : Value -> Prop) : Prop :=
 match o with
 | .move x => K (ev x)
 | .assign x => K (ev x)
 | .pick c a b => match ev c with
  | .bool c => Q2 c (K (ev a)) (K (ev b))
  | _ => False
 | .nilCheck x => Qbg (ev x) K
 | .fieldAddr s x i => QP3 P s (ev x) i K
 | .field s x i => Qtb P s (ev x) i K
 | .indexAddr t x i => QQ3 P t (ev x) (ev i) K
 | .index t x i => Qzb P t (ev x) (ev i) K
 | .slice t x lo hi mx => Qhc P t (ev x) (lo.map ev) (hi.map ev) (mx.map ev) K
 | .extract x i => Qp9 (ev x) i K
 | .binOp op t x y _ => QUe P op t (ev x) (ev y) K
 | .unOp op _ x => unW op (ev x) K
 | .convert s d x => QXe P s d (ev x) K
 | .makeFunc fn first captured => K (.func fn (first.map ev) (captured.map ev))
 | .build t parts => QAd P t (parts.toList.map fun (i, x) => (i, ev x)) K
 | .call { callee := .builtin .len, args := args, argTypes := ts } => match ts.toList with
  | [t] => match args.toList with | [x] => Qag P t (ev x) K | _ => False
  | _ => False
 | .call { callee := .builtin .min, args := args, .. } => QE6 true (args.toList.map ev) K
 | .call { callee := .builtin .max, args := args, .. } => QE6 false (args.toList.map ev) K
 | _ => False
theorem Qp5 {P : Program} {t : TypeId} (h : P.underlying t ≠ none) : ∃ i, P.info? t = some i := by
 cases hi : P.info? t with
 | none => exact (h (by unfold Program.underlying; simp [hi])).elim
 | some i => exact ⟨i, rfl⟩
theorem QX {P : Program} {t : TypeId} (h : (P.info? t).isSome = true) (w : World) : (sizeOf t).run P w = .ok (P.cellsOf t) w := by
 cases hi : P.info? t with
 | none => simp [hi] at h
 | some i => simp [sizeOf, typeInfo, hi, Program.cellsOf]
theorem Qz6 {P : Program} {t : TypeId} (h : P.cellsOf t ≠ 0) : (P.info? t).isSome = true := by
 cases hi : P.info? t with
 | none => simp [Program.cellsOf, hi] at h
 | some i => rfl
theorem Qy1 {P : Program} {t : TypeId} (h : P.underlying t ≠ none) : (P.info? t).isSome = true := by
 obtain ⟨i, hi⟩ := Qp5 h; simp [hi]
theorem Qq1 {α : Type} {x : Option α} (h : x.isSome = true) : x ≠ none := by cases x <;> simp at h ⊢
theorem Qc4 {P : Program} {s : TypeId} {i off : Nat} {ft : TypeId} (h : Qu6 P s i = some (off, ft)) :
  ∃ fs f, P.underlying s = some (.struct fs) /\ fs[i]? = some f /\ f.offset = off /\ f.type = ft := by
 unfold Qu6 at h
 split at h
 ·rename_i fs hu
  cases hf : fs[i]? with
  | none => simp [hf] at h
  | some f => simp [hf] at h; exact ⟨fs, f, hu, hf, h.1, h.2⟩
 ·simp at h
theorem QB1 {p : Option Addr} {F : Addr -> Prop} (h : Qv p F) : ∃ a, p = some a /\ F a := by
 cases p with
 | none => exact h.elim
 | some a => exact ⟨a, rfl, h⟩
theorem Qg {b : Bool} {T E : Prop} (h : Q2 b T E) : (b = true /\ T) \/ (b = false /\ E) := by
 cases b
 ·exact .inr ⟨rfl, h⟩
 ·exact .inl ⟨rfl, h⟩
theorem Q46 {P : Program} {t : TypeId} {cs : Array Value} {off : Nat} {w : World} {v : Value}
  (h : Q2 (Qz1 P t) (P.underlying t ≠ none /\ v = .agg (cs.extract off (off + P.cellsOf t))) (P.underlying t ≠ none /\ cs.toList[off]? = some v)) :
  (part t cs off).run P w = .ok v w := by
 rcases Qg h with ⟨hb, hn, rfl⟩ | ⟨hb, hn, hv⟩
 ·simp [part, Qy2 true hb hn, QX4 hn]
 ·simp at hv
  simp [part, Qy2 false hb hn, hv]
theorem Q33 {x : Option Value} {d y : Nat} {K : Nat -> Prop} (h : QU2 x d y K) :
  (x = none /\ K d) \/ ∃ k i, x = some (.int k i) /\ 0 <= i /\ i <= (y : Int) /\ K i.toNat := by
 unfold QU2 at h
 split at h
 ·exact .inr ⟨_, _, rfl, h.1.1, h.1.2, h.2⟩
 ·exact h.elim
 ·exact .inl ⟨rfl, h⟩
theorem QI1 {P : Program} {isSlice : Bool} {len cap : Nat} {lo hi : Option Value} {K : Nat -> Nat -> Prop}
  (h : QU2 hi len cap fun h => QU2 lo 0 h fun l => K h l) :
  ∃ h l, K h l /\ ∀ w, (Instr.sliceBounds isSlice len cap lo hi none).run P w = .ok (l, h, cap) w := by
 rcases Q33 h with ⟨rfl, g⟩ | ⟨k, i, rfl, h0, h1, g⟩
 ·rcases Q33 g with ⟨rfl, g2⟩ | ⟨k, i, rfl, h0, h1, g2⟩
  ·exact ⟨_, _, g2, fun w => by simp [Instr.sliceBounds]⟩
  ·exact ⟨_, _, g2, fun w => by simp [Instr.sliceBounds, Instr.sliceBound, asIntOf, h0, h1]⟩
 ·rcases Q33 g with ⟨rfl, g2⟩ | ⟨k', j, rfl, h0', h1', g2⟩
  ·exact ⟨_, _, g2, fun w => by simp [Instr.sliceBounds, Instr.sliceBound, asIntOf, h0, h1]⟩
  ·exact ⟨_, _, g2, fun w => by
    have : j <= max i 0 := by omega
    simp [Instr.sliceBounds, Instr.sliceBound, asIntOf, h0, h1, h0']
    omega⟩
theorem QL0 {P : Program} {ev : Operand -> Value} {o : Oper} {s : Sem Value} {v : Value} {w w' : World}
  (he : execOp ev o = (do pure (Next.value (← s)))) (hs : s.run P w = .ok v w') : (execOp ev o).run P w = .ok (.value v) w' := by
 rw [he]; simp [hs]
theorem Qm8 (p : Option Addr) (cap l h size : Nat) :
  Value.slice (if cap = l then p else p.map (·.add (l * size))) (h - l) (cap - l) = QYe p cap l h size := by
 unfold QYe Qu QLc; cases p <;> rfl
theorem QQ7 {P : Program} {t : TypeId} {x : Value} {lo hi mx : Option Value} {K : Value -> Prop} (h : Qhc P t x lo hi mx K) :
  ∃ v, K v /\ ∀ w, (Instr.sliceAt t x lo hi mx).run P w = .ok v w := by
 unfold Qhc at h
 split at h
 ·split at h
  ·rename_i e hu
   split at h
   ·rename_i p n c km mi kh hh
    obtain ⟨hn, ⟨⟨m0, m1⟩, h0, h1⟩, hK⟩ := (Qg h).resolve_right fun x => x.2
    have hn := Qq1 hn
    refine ⟨_, hK, fun w => ?_⟩
    have hb : (Instr.sliceBounds true n c none (some (.int kh hh)) (some (.int km mi))).run P w = .ok (0, hh.toNat, mi.toNat) w := by
     have h1' : hh <= max mi 0 := by omega
     simp [Instr.sliceBounds, Instr.sliceBound, asIntOf, m0, m1, h0, h1']
    simp [Instr.sliceAt, Instr.slice, Q4 hu, hb, QX (Qy1 hn), ← Qm8]
   ·exact h.elim
  ·exact h.elim
 ·split at h
  ·rename_i hu
   split at h
   ·rename_i s
    obtain ⟨hh, l, hK, hr⟩ := QI1 (P := P) (isSlice := false) h
    exact ⟨_, hK, fun w => by simp [Instr.sliceAt, Instr.slice, Q4 hu, hr]⟩
   ·exact h.elim
  ·rename_i e hu
   split at h
   ·rename_i p n c
    obtain ⟨hn, h⟩ := (Qg h).resolve_right fun x => x.2
    have hn := Qq1 hn
    obtain ⟨hh, l, hK, hr⟩ := QI1 (P := P) (isSlice := true) h
    refine ⟨_, hK, fun w => ?_⟩
    simp [Instr.sliceAt, Instr.slice, Q4 hu, hr, QX (Qy1 hn), ← Qm8]
   ·exact h.elim
  ·rename_i n e hu
   split at h
   ·rename_i p
    obtain ⟨hn, h⟩ := (Qg h).resolve_right fun x => x.2
    have hn := Qq1 hn
    obtain ⟨a, rfl, h1⟩ := QB1 h
    obtain ⟨hh, l, hK, hr⟩ := QI1 (P := P) (isSlice := false) h1
    refine ⟨_, hK, fun w => ?_⟩
    simp [Instr.sliceAt, Instr.sureAddr, Q4 hu, hr, QX (Qy1 hn), ← Qm8]
    split <;> rfl
   ·exact h.elim
  ·exact h.elim
theorem Qu4 {P : Program} {t : TypeId} {x i : Value} {K : Value -> Prop} (h : QQ3 P t x i K) :
  ∃ v, K v /\ ∀ w, (Instr.indexAt t x i).run P w = .ok v w := by
 unfold QQ3 at h
 split at h
 ·split at h
  ·rename_i e hu
   split at h
   ·obtain ⟨hn, hb, h⟩ := (Qg h).resolve_right fun x => x.2
    have hn := Qq1 hn
    obtain ⟨a, rfl, h⟩ := QB1 h
    exact ⟨_, h, fun w => by simp [Instr.indexAt, asIntOf, Q4 hu, hb, QX (Qy1 hn)]⟩
   ·exact h.elim
  ·rename_i n e hu
   split at h
   ·obtain ⟨hn, hb, h⟩ := (Qg h).resolve_right fun x => x.2
    have hn := Qq1 hn
    obtain ⟨a, rfl, h⟩ := QB1 h
    exact ⟨_, h, fun w => by simp [Instr.indexAt, Instr.sureAddr, asIntOf, Q4 hu, hb, QX (Qy1 hn)]⟩
   ·exact h.elim
  ·exact h.elim
 ·exact h.elim
theorem Qp7 {P : Program} {t : TypeId} {x i : Value} {K : Value -> Prop} (h : Qzb P t x i K) :
  ∃ v, K v /\ ∀ w, (Instr.index t x i).run P w = .ok v w := by
 unfold Qzb at h
 split at h
 ·rename_i k i
  split at h
  ·rename_i hu
   split at h
   ·rename_i s
    obtain ⟨hb, h⟩ := h
    refine ⟨_, h, fun w => ?_⟩
    have hlt : i.toNat < s.size := by omega
    have e : s[i.toNat]? = some (s.data.toList.getD i.toNat 0) := by
     have h2 : i.toNat < s.data.toList.length := by simpa using hlt
     rw [getElem?_pos s i.toNat hlt, List.getD_eq_getElem?_getD, List.getElem?_eq_getElem h2]
     rfl
    simp only [Instr.index, asIntOf, Sem.run_bind, Sem.run_pure, Result.andThen, Q4 hu]
    rw [if_pos hb.1, e]
    rfl
   ·exact h.elim
  ·exact h.elim
 ·exact h.elim
theorem Qt4 {P : Program} {s : TypeId} {x : Value} {i : Nat} {K : Value -> Prop} (h : QP3 P s x i K) :
  ∃ v, K v /\ ∀ w, (Instr.fieldAt s x i).run P w = .ok v w := by
 unfold QP3 at h
 split at h
 ·rename_i off ft hf
  obtain ⟨fs, f, hu, hfi, rfl, rfl⟩ := Qc4 hf
  split at h
  ·obtain ⟨a, rfl, h⟩ := QB1 h
   rcases Qg h with ⟨_, h⟩ | ⟨hz, h⟩
   ·exact h.elim
   ·have hz' : P.cellsOf f.type ≠ 0 := fun e => by rw [e] at hz; simp at hz
    refine ⟨_, h, fun w => ?_⟩
    simp [Instr.fieldAt, Q4 hu, hfi, Instr.sureAddr, fieldPlace, QX (Qz6 hz'), hz']
  ·exact h.elim
 ·exact h.elim
theorem Qo7 {P : Program} {s : TypeId} {x : Value} {i : Nat} {K : Value -> Prop} (h : Qtb P s x i K) :
  ∃ v, K v /\ ∀ w, (Instr.field s x i).run P w = .ok v w := by
 unfold Qtb at h
 split at h
 ·rename_i off ft hf
  obtain ⟨fs, f, hu, hfi, rfl, rfl⟩ := Qc4 hf
  split at h
  ·rename_i cs
   obtain ⟨hn, h⟩ := (Qg h).resolve_right fun x => x.2
   have hn := Qq1 hn
   rcases Qg h with ⟨hb, h⟩ | ⟨hb, h⟩
   ·have e : ((cs.toList.drop f.offset).take (P.cellsOf f.type)).toArray = cs.extract f.offset (f.offset + P.cellsOf f.type) := by
     apply Array.toList_inj.1
     simp [List.take_drop]
    rw [e] at h
    exact ⟨_, h, fun w => by
     simp [Instr.field, Q4 hu, hfi, asAgg]
     exact Q46 (by rw [hb]; exact ⟨hn, rfl⟩)⟩
   ·split at h
    ·rename_i v hv
     exact ⟨_, h, fun w => by
      simp [Instr.field, Q4 hu, hfi, asAgg]
      exact Q46 (by rw [hb]; exact ⟨hn, hv⟩)⟩
    ·exact h.elim
  ·exact h.elim
 ·exact h.elim
theorem QX6 (vs : List Value) : ∀ (j : Nat) (cs : Array Value) (off : Nat), off + j + vs.length <= cs.size →
  (vs.zipIdx j).foldl (fun (cs : Array Value) (x : Value × Nat) => cs.setIfInBounds (off + x.2) x.1) cs = (QT7 cs.toList (off + j) vs).toArray := by
 induction vs with
 | nil => intro j cs off h; simp [QT7]
 | cons v vs ih =>
  intro j cs off h
  simp only [List.length_cons] at h
  simp only [List.zipIdx_cons, List.foldl_cons]
  rw [ih (j + 1) _ off (by simp; omega)]
  have hlt : off + j < cs.toList.length := by simp; omega
  simp only [QT7, Array.toList_setIfInBounds, List.length_cons]
  rw [← Nat.add_assoc, List.take_succ_eq_append_getElem (by simpa using hlt), List.drop_set_of_lt (by omega)]
  simp [List.take_set_of_le]
  congr 1
  omega
theorem Qs9 {place : Nat -> Option (Nat × Nat)} : ∀ {parts : List (Nat × Value)} {cells r : List Value}, Qda place cells parts = some r →
  Instr.fill place cells.toArray parts = some r.toArray := by
 intro parts
 induction parts with
 | nil => intro cells r h; simp [Qda] at h; simp [Instr.fill, h]
 | cons x rest ih =>
  obtain ⟨i, v⟩ := x
  intro cells r h
  simp only [Qda] at h
  simp only [Instr.fill]
  cases hp : place i with
  | none => simp [hp] at h
  | some y =>
   obtain ⟨off, size⟩ := y
   simp only [hp] at h ⊢
   split at h
   ·rename_i hb
    simp only [Bool.and_eq_true, Nat.ble_eq] at hb
    obtain ⟨h1, h2⟩ := hb
    simp only [Array.length_toList] at h1 h2
    have e : v.cells.zipIdx.foldl (fun (cs : Array Value) (x : Value × Nat) => cs.setIfInBounds (off + x.2) x.1) cells.toArray = (QT7 cells off v.cells.toList).toArray := by
     have := QX6 v.cells.toList 0 cells.toArray off (by simpa using h2)
     simp only [Nat.add_zero] at this
     rw [← this, ← Array.foldl_toList]
     simp
    have h1 := Nat.eq_of_beq_eq_true h1
    rw [if_neg (by simp; omega)]
    have h3 := ih h
    rw [← e] at h3
    exact h3
   ·simp at h
theorem QB7 {P : Program} {t : TypeId} {pl : Nat -> Option (Nat × Nat)} (h : QL6 P t = some pl) {z : Value} (hz : QK1 P t = some z)
  {parts : Array (Nat × Value)} {cells : Array Value} (hc : Instr.fill pl z.cells parts.toList = some cells) (w : World) :
  (Instr.build t parts).run P w = .ok (.agg cells) w := by
 have hzr : (zeroValue t).run P w = .ok z w := by
  unfold QK1 at hz
  cases hi : P.info? t with
  | none => simp [hi] at hz
  | some i => simp [hi] at hz; simp [zeroValue, typeInfo, hi, hz]
 unfold QL6 at h
 split at h
 ·rename_i fs hu
  split at h
  ·rename_i hall
   simp only [Option.some.injEq] at h
   have hm : ∀ (l : List Field), (∀ f ∈ l, (P.info? f.type).isSome = true) →
     (l.mapM fun f => (Prod.mk f.offset <$> sizeOf f.type : Sem (Nat × Nat))).run P w = .ok (l.map fun f => (f.offset, P.cellsOf f.type)) w := by
    intro l
    induction l with
    | nil => intro _; simp
    | cons f l ih =>
     intro hl
     have h2 := ih (fun g hg => hl g (by simp [hg]))
     simp only [List.mapM_cons, Sem.run_bind, Sem.run_map, QX (hl f (by simp)), Result.andThen, h2]
     simp
   have hm' := hm fs.toList (by
    intro f hf
    simp only [Array.all_eq_true_iff_forall_mem] at hall
    exact hall f (by simpa using hf))
   have e : (Instr.fill (fun x => (fs.toList.map (fun f => (f.offset, P.cellsOf f.type))).toArray[x]?) z.cells parts.toList) = some cells := by
    rw [← hc, ← h]; congr 1; funext i; simp
   simp only [Instr.build, Sem.run_bind, hzr, Result.andThen, Q4 hu, Array.mapM_eq_mapM_toList]
   simp only [bind_pure_comp, Sem.run_map, hm', Result.andThen]
   simp only [e]
   simp
  ·simp at h
 ·rename_i n e hu
  split at h
  ·rename_i hi
   simp only [Option.some.injEq] at h
   rw [← h] at hc
   simp only [Instr.build, Sem.run_bind, hzr, Result.andThen, Q4 hu, QX hi, hc]
   simp
  ·simp at h
 ·simp at h
theorem QQ8 {P : Program} {o : Oper} {ev : Operand -> Value} {K : Value -> Prop} (h : Qoe P o.op ev K) :
  ∃ v, K v /\ ∀ w, (execOp ev o).run P w = .ok (.value v) w := by
 unfold Qoe at h
 split at h
 ·rename_i x ho; exact ⟨_, h, fun w => by simp [execOp, ho]⟩
 ·rename_i x ho; exact ⟨_, h, fun w => by simp [execOp, ho]⟩
 ·rename_i c a b ho
  split at h
  ·rename_i b' hc
   rcases Qg h with ⟨rfl, h⟩ | ⟨rfl, h⟩ <;> exact ⟨_, h, fun w => by simp [execOp, ho, hc, asBool]⟩
  ·exact h.elim
 ·rename_i x ho
  unfold Qbg at h
  split at h
  ·rename_i p hx
   obtain ⟨a, rfl, h⟩ := QB1 h
   exact ⟨_, h, fun w => by simp [execOp, ho, hx]⟩
  ·rename_i f a b hx
   exact ⟨_, h, fun w => by simp [execOp, ho, hx]⟩
  ·exact h.elim
 ·rename_i s x i ho
  obtain ⟨v, hK, hr⟩ := Qt4 h
  exact ⟨v, hK, fun w => QL0 (by simp only [execOp, ho]) (hr w)⟩
 ·rename_i s x i ho
  obtain ⟨v, hK, hr⟩ := Qo7 h
  exact ⟨v, hK, fun w => QL0 (by simp only [execOp, ho]) (hr w)⟩
 ·rename_i s x i ho
  obtain ⟨v, hK, hr⟩ := Qu4 h
  exact ⟨v, hK, fun w => QL0 (by simp only [execOp, ho]) (hr w)⟩
 ·rename_i s x i ho
  obtain ⟨v, hK, hr⟩ := Qp7 h
  exact ⟨v, hK, fun w => QL0 (by simp only [execOp, ho]) (hr w)⟩
 ·rename_i t x lo hi mx ho
  obtain ⟨v, hK, hr⟩ := QQ7 h
  exact ⟨v, hK, fun w => QL0 (by simp only [execOp, ho]) (hr w)⟩
 ·rename_i x i ho
  unfold Qp9 at h
  split at h
  ·rename_i vs hx
   split at h
   ·rename_i v hv
    exact ⟨v, h, fun w => by simp at hv; simp [execOp, ho, hx, Instr.extract, hv]⟩
   ·exact h.elim
  ·exact h.elim
 ·rename_i op t x y t' ho
  obtain ⟨v, hK, hr⟩ := Q4a h
  exact ⟨v, hK, fun w => by simp [execOp, ho, Q3a h, hr]⟩
 ·rename_i op t x ho
  unfold unW at h
  split at h
  ·rename_i k n hx
   cases op <;> simp only at h <;> first | exact h.elim | exact ⟨_, h, fun w => by simp [execOp, ho, hx, Op.unary, Op.intArith, Op.intBits, Qs]⟩
  ·rename_i b hx
   cases op <;> simp only at h <;> first | exact h.elim | exact ⟨_, h, fun w => by simp [execOp, ho, hx, Op.unary]⟩
  ·exact h.elim
 ·rename_i s d x ho
  unfold QXe at h
  split at h
  ·exact h.elim
  ·rename_i ds hs
   split at h
   ·rename_i k hd
    split at h
    ·rename_i k' n hx
     exact ⟨_, h, fun w => by simp [execOp, ho, hx, convert, Q4 hs, Q4 hd, Conv.intToInt]⟩
    ·exact h.elim
   ·rename_i hd
    split at h
    ·rename_i s hx
     exact ⟨_, h, fun w => by
      simp only [execOp, ho, hx, convert, Sem.run_bind, Q4 hs, Q4 hd, Result.andThen]
      rfl⟩
    ·exact h.elim
   ·exact h.elim
 ·rename_i fn first captured ho
  exact ⟨_, h, fun w => by simp [execOp, ho, Instr.makeFunc]⟩
 ·rename_i t parts ho
  unfold QAd at h
  split at h
  ·rename_i z hz
   split at h
   ·rename_i pl hpl
    split at h
    ·rename_i cells hc
     refine ⟨_, h, fun w => ?_⟩
     have e : (parts.map fun x : Nat × Operand => (x.1, ev x.2)).toList = parts.toList.map fun x => (x.1, ev x.2) := by simp
     have := QB7 (P := P) (w := w) (parts := parts.map fun x : Nat × Operand => (x.1, ev x.2)) hpl hz (by rw [e]; have h4 := Qs9 hc; simpa using h4)
     exact QL0 (by simp only [execOp, ho]) this
    ·exact h.elim
   ·exact h.elim
  ·exact h.elim
 ·rename_i args ts ho
  split at h
  ·rename_i t hts
   split at h
   ·rename_i x hx
    have e1 : args = #[x] := Array.toList_inj.1 (by simpa using hx)
    have e2 : ts = #[t] := Array.toList_inj.1 (by simpa using hts)
    subst e1 e2
    unfold Qag at h
    split at h
    ·rename_i hu
     split at h
     ·rename_i s hs
      exact ⟨_, h, fun w => by simp [execOp, ho, resolve, hs, invoke, builtin, Builtin.len_, Q4 hu, goInt]⟩
     ·exact h.elim
    ·rename_i e hu
     split at h
     ·rename_i p n c hs
      exact ⟨_, h, fun w => by simp [execOp, ho, resolve, hs, invoke, builtin, Builtin.len_, Q4 hu, goInt]⟩
     ·exact h.elim
    ·rename_i n e hu
     exact ⟨_, h, fun w => by
      cases hx : ev x <;> simp [execOp, ho, resolve, hx, invoke, builtin, Builtin.len_, Q4 hu, goInt]⟩
    ·rename_i a hu
     split at h
     ·rename_i n e hu2
      exact ⟨_, h, fun w => by
       cases hx : ev x <;> simp [execOp, ho, resolve, hx, invoke, builtin, Builtin.len_, Q4 hu, Q4 hu2, goInt]⟩
     ·exact h.elim
    ·exact h.elim
   ·exact h.elim
  ·exact h.elim
 ·rename_i args ts ho
  unfold QE6 at h
  split at h
  ·rename_i k x k' y he
   refine ⟨_, h, fun w => ?_⟩
   simp [execOp, ho, resolve, invoke, builtin, Builtin.min_, Builtin.min2, he]
  ·exact h.elim
 ·rename_i args ts ho
  unfold QE6 at h
  split at h
  ·rename_i k x k' y he
   refine ⟨_, h, fun w => ?_⟩
   simp [execOp, ho, resolve, invoke, builtin, Builtin.max_, Builtin.max2, he]
  ·exact h.elim
 ·exact h.elim
end Go.Vc
