import Derived.WalkKit
import Derived.Orders
import Derived.Scope
namespace Go.Vc
open Go
def exS(P:Program)(t:TypeId)(F:Value->Prop):Prop:=
 match P.underlying t with
 |some (.int k)=>∃n:Int,F (.int k n)
 |some .bool=>∃b:Bool,F (.bool b)
 |some .string=>∃s:ByteArray,F (.string s)
 |some (.pointer _)=>∃p:Option Addr,F (.pointer p)
 |some (.slice _)=>∃(p:Option Addr)(n c:Nat),F (.slice p n c)
 |some (.map _ _)=>∃r:Option Nat,F (.map r)
 |_=>∃v:Value,F v
theorem Qp6{P:Program}{t:TypeId}{F:Value->Prop}(h:exS P t F):∃v,F v:=by
 unfold exS at h
 split at h
 ·obtain⟨_,h⟩:=h;exact⟨_,h⟩
 ·obtain⟨_,h⟩:=h;exact⟨_,h⟩
 ·obtain⟨_,h⟩:=h;exact⟨_,h⟩
 ·obtain⟨_,h⟩:=h;exact⟨_,h⟩
 ·obtain⟨_,_,_,h⟩:=h;exact⟨_,h⟩
 ·obtain⟨_,h⟩:=h;exact⟨_,h⟩
 ·exact h
def Qah(P:Program):Nat->TypeId->List TypeId
 |0,t=>[t]
 |d+1,t=>
  match P.underlying t with
  |some (.struct fs)=>fs.toList.flatMap fun f=>Qah P d f.type
  |some (.array n e)=>(List.replicate n (Qah P d e)).flatten
  |_=>[t]
def Q54(P:Program)(t:TypeId):Bool:=
 match P.underlying t with
 |some (.struct _)=>true
 |some (.array _ _)=>true
 |_=>false
def Q09(P:Program)(w:World)(p:Addr):List TypeId->Nat->List Value->(List Value->Prop)->Prop
 | [],_,acc,K=>K acc.reverse
 |t::ts,i,acc,K=>exS P t fun v=>w.cell? (p.add i)=some v/\Q09 P w p ts (i+1) (v::acc) K
def QDb(P:Program)(t:TypeId)(x:Value)(w:World)(K:Value->Prop):Prop:=
 match x with
 | .pointer (some p)=>
  match Q54 P t with
  |true=>
   (match Nat.beq (Qah P 8 t).length (P.cellsOf t)with
    |true=>Q09 P w p (Qah P 8 t) 0 [] fun l=>K (.agg l.toArray)
    |false=>False)
  |false=>exS P t fun v=>w.cell? p=some v/\K v
 |_=>False
theorem Q19{P:Program}{w:World}{p:Addr}{K:List Value->Prop}:∀(ts:List TypeId)(i:Nat)(acc:List Value),
  Q09 P w p ts i acc K->∃l,K l/\(loadCellsFrom p i ts.length acc.reverse.toArray).run P w= .ok l.toArray w:=by
 intro ts
 induction ts with
 |nil=>intro i acc h;exact⟨_,h,rfl⟩
 |cons t ts ih=>
  intro i acc h;obtain⟨v,a,h⟩:=Qp6 h;obtain⟨l,d,e⟩:=ih _ _ h;refine⟨l,d,?_⟩;simp only[List.length_cons,loadCellsFrom];simp[a];simpa using e
theorem Q3{P:Program}{t:TypeId}{d:TypeDesc}(h:P.underlying t=some d)(w:World):(underlying t).run P w= .ok d w:=by
 simp[underlying,h]
theorem QU4{P:Program}{t:TypeId}{w:World}(b:Bool)(h:Q54 P t=b)(e:P.underlying t≠none):(isAgg t).run P w= .ok b w:=by
 cases a:P.underlying t with
 |none=>exact(e a).elim
 |some d=>
  unfold Q54 at h;rw[a]at h;cases d<;>simp[isAgg,Q3 a]<;>simpa using h
theorem QL6{P:Program}{t:TypeId}{w:World}(a:P.underlying t≠none):(sizeOf t).run P w= .ok (P.cellsOf t) w:=by
 have:(P.info? t)≠none:=by
  intro h;apply a;unfold Program.underlying;simp[h]
 cases hi:P.info? t with
 |none=>exact(this hi).elim
 |some i=>simp[sizeOf,typeInfo,hi,Program.cellsOf]
def Qv0(p:Option Addr)(F:Addr->Prop):Prop:=match p with|some a=>F a|none=>False
def Q9(b:Bool)(T E:Prop):Prop:=match b with|true=>T|false=>E
abbrev at0(b:Nat):Addr:=⟨b,0,none⟩
theorem Q0{b:Bool}{T E:Prop}(a:b=true->T)(d:b=false->E):Q9 b T E:=by
 cases b
 ·exact d rfl
 ·exact a rfl
def QO(op:BinOp)(k:IntKind)(x y:Int):Int:=
 let a:=BitVec.ofInt k.bits x
 let b:=BitVec.ofInt k.bits y
 match op with
 | .and=>k.wrap (a&&&b).toNat
 | .or=>k.wrap (a|||b).toNat
 | .xor=>k.wrap (a^^^b).toNat
 |_=>k.wrap (a&&& ~~~b).toNat
def QX8(op:BinOp)(k:IntKind)(a b:Int)(K:Value->Prop):Prop:=
 match op with
 | .add=>K (.int k (k.wrap (a+b)))
 | .sub=>K (.int k (k.wrap (a-b)))
 | .mul=>K (.int k (k.wrap (a*b)))
 | .quo=>b≠0/\K (.int k (k.wrap (a.tdiv b)))
 | .rem=>b≠0/\K (.int k (a.tmod b))
 | .and=>K (.int k (QO .and k a b))
 | .or=>K (.int k (QO .or k a b))
 | .xor=>K (.int k (QO .xor k a b))
 | .andNot=>K (.int k (QO .andNot k a b))
 | .eql=>K (.bool (decide (a=b)))
 | .neq=>K (.bool (!decide (a=b)))
 | .lss=>K (.bool (decide (a<b)))
 | .leq=>K (.bool (decide (a<=b)))
 | .gtr=>K (.bool (decide (b<a)))
 | .geq=>K (.bool (decide (b<=a)))
 |_=>False
def Qcd(op:BinOp)(k:IntKind)(a b:Int)(K:Value->Prop):Prop:=
 match op with
 | .shl=>0<=b/\K (.int k (k.wrap (a*2^(min b.toNat k.bits))))
 | .shr=>0<=b/\K (.int k (a.fdiv (2^(min b.toNat k.bits))))
 |_=>False
def Qhc(op:BinOp)(a b:ByteArray)(K:Value->Prop):Prop:=
 match op with
 | .add=>((a.size+b.size:Nat):Int)<=IntKind.i64.max/\K (.string (a++b))
 | .eql=>K (.bool (decide (a=b)))
 | .neq=>K (.bool (!decide (a=b)))
 | .lss=>K (.bool (Op.bytesLess a.toList b.toList))
 | .leq=>K (.bool (Op.bytesLess a.toList b.toList||decide (a=b)))
 | .gtr=>K (.bool (!(Op.bytesLess a.toList b.toList||decide (a=b))))
 | .geq=>K (.bool (!(Op.bytesLess a.toList b.toList)))
 |_=>False
def eqW(op:BinOp)(b:Bool)(K:Value->Prop):Prop:=
 match op with
 | .eql=>K (.bool b)
 | .neq=>K (.bool (!b))
 |_=>False
def QEe(P:Program)(op:BinOp)(t:TypeId)(x y:Value)(K:Value->Prop):Prop:=
 match x,y with
 | .int k a, .int k' b=>
  match op with
  | .shl=>Qcd .shl k a b K
  | .shr=>Qcd .shr k a b K
  |op=>if k=k' then QX8 op k a b K else False
 | .string a, .string b=>Qhc op a b K
 | .bool a, .bool b=>match P.underlying t with|some .bool=>eqW op (a==b) K|_=>False
 | .pointer p, .pointer none=>match P.underlying t with|some (.pointer _)=>eqW op p.isNone K|_=>False
 | .slice p _ _, .slice none _ _=>match P.underlying t with|some (.slice _)=>eqW op p.isNone K|_=>False
 | .map p, .map none=>match P.underlying t with|some (.map _ _)=>eqW op p.isNone K|_=>False
 |_,_=>False
theorem _root_.Int.beq_eq_decide'(a b:Int):(a==b)=decide (a=b):=by
 by_cases h:a=b<;>simp[h]
theorem QT9{P:Program}{op:BinOp}{t:TypeId}{x y:Operand}{a b:Value}{w:World}
  (h:match a,b with| .nilIface, .nilIface=>False| .agg _, .agg _=>False|_,_=>True):(eqGuard op t x y a b).run P w= .ok () w:=by
 cases op
 case eql=>cases a<;>cases b<;>first|rfl|exact h.elim
 case neq=>cases a<;>cases b<;>first|rfl|exact h.elim
 all_goals rfl
theorem QH1{P:Program}{t:TypeId}{d:TypeDesc}(_hu:P.underlying t=some d){x y:Value}{b:Bool}{w:World}
  (h:∀m,(Op.equalIn (m+1) t x y).run P w= .ok b w):(Op.equal t x y).run P w= .ok b w:=h 9999
theorem Q25{P:Program}{t:TypeId}(d:P.underlying t=some .bool)(a b:Bool)(w:World)(m:Nat):
  (Op.equalIn (m+1) t (.bool a) (.bool b)).run P w= .ok (a==b) w:=by
 simp only[Op.equalIn,Sem.run_bind,Q3 d,Result.andThen]
 rfl
theorem Q26{P:Program}{t e:TypeId}(a:P.underlying t=some (.pointer e))(p:Option Addr)(w:World)(m:Nat):
  (Op.equalIn (m+1) t (.pointer p) (.pointer none)).run P w= .ok p.isNone w:=by
 simp only[Op.equalIn,Sem.run_bind,Q3 a,Result.andThen];cases p<;>rfl
theorem Qb4{P:Program}{t e:TypeId}(a:P.underlying t=some (.slice e))(p:Option Addr)(n c d f:Nat)(w:World)(m:Nat):
  (Op.equalIn (m+1) t (.slice p n c) (.slice none d f)).run P w= .ok p.isNone w:=by
 simp only[Op.equalIn,Sem.run_bind,Q3 a,Result.andThen];cases p<;>rfl
theorem Q16{P:Program}{t k e:TypeId}(a:P.underlying t=some (.map k e))(p:Option Nat)(w:World)(m:Nat):
  (Op.equalIn (m+1) t (.map p) (.map none)).run P w= .ok p.isNone w:=by
 simp only[Op.equalIn,Sem.run_bind,Q3 a,Result.andThen];cases p<;>rfl
theorem Q81{P:Program}{t:TypeId}{x y:Value}{b:Bool}{w:World}(h:(Op.equal t x y).run P w= .ok b w):
  (Sem.bind (Op.equal t x y) fun r=>Sem.pure (Value.bool r)).run P w= .ok (.bool b) w∧
  (Sem.bind (Op.equal t x y) fun r=>Sem.pure (Value.bool (!r))).run P w= .ok (.bool (!b)) w:=by
 constructor
 ·show Sem.run P (Op.equal t x y>>=fun r=>Sem.pure (Value.bool r)) w=_
  rw[Sem.run_bind,h];rfl
 ·show Sem.run P (Op.equal t x y>>=fun r=>Sem.pure (Value.bool (!r))) w=_
  rw[Sem.run_bind,h];rfl
theorem QV3(a b:ByteArray):(a.toList==b.toList)=decide (a=b):=by
 have:a.toList=b.toList↔a=b:=by
  constructor
  ·intro h
   rw[Go.ByteArray.toList_eq,Go.ByteArray.toList_eq]at h;exact ByteArray.ext (Array.toList_inj.1 h)
  ·rintro rfl;rfl
 by_cases h:a=b
 ·subst h;simp
 ·have d:¬a.toList=b.toList:=fun e=>h (this.1 e)
  simp[h,d]
theorem Qwd{P:Program}{op:BinOp}{t:TypeId}{x y:Value}{K:Value->Prop}(h:QEe P op t x y K):
  ∃v,K v/\∀w,(binOp op t x y).run P w= .ok v w:=by
 unfold QEe at h
 split at h
 ·rename_i k a l b
  split at h
  ·simp only[Qcd]at h
   exact⟨_,h.2,fun w=>by simp[binOp,Op.shift,Int.not_lt.2 h.1]⟩
  ·simp only[Qcd]at h
   exact⟨_,h.2,fun w=>by simp[binOp,Op.shift,Int.not_lt.2 h.1]⟩
  ·rename_i e i
   split at h
   ·rename_i j
    subst j;cases op<;>simp only[QX8]at h<;>
     first
     |exact h.elim
     |exact⟨_,h,fun w=>by simp[binOp,Op.intArith,Op.intCmp,Op.intBits,QO,bne,Int.beq_eq_decide']⟩
     |exact⟨_,h.2,fun w=>by simp[binOp,Op.intDiv,h.1]⟩
     |exact⟨_,h,fun w=>by simp[binOp,Op.intCmp];rfl⟩
     |exact(e rfl).elim
     |exact(i rfl).elim
   ·exact h.elim
 ·rename_i a b
  cases op<;>simp only[Qhc]at h<;>
   first
   |exact h.elim
   |exact⟨_,h,fun w=>by simp[binOp,Op.stringOp,←QV3]⟩
   |exact⟨_,h.2,fun w=>by
     have e:=h.1;simp only[binOp,Op.stringOp];rw[if_neg (by omega)]
     simp⟩
 ·rename_i a b
  split at h
  ·rename_i d
   cases op<;>simp only[eqW]at h<;>
    first
    |exact h.elim
    |exact⟨_,h,fun w=>(Q81 (QH1 d (Q25 d a b w))).1⟩
    |exact⟨_,h,fun w=>(Q81 (QH1 d (Q25 d a b w))).2⟩
  ·exact h.elim
 ·rename_i p
  split at h
  ·rename_i d
   cases op<;>simp only[eqW]at h<;>
    first
    |exact h.elim
    |exact⟨_,h,fun w=>(Q81 (QH1 d (Q26 d p w))).1⟩
    |exact⟨_,h,fun w=>(Q81 (QH1 d (Q26 d p w))).2⟩
  ·exact h.elim
 ·rename_i p n c f g
  split at h
  ·rename_i d
   cases op<;>simp only[eqW]at h<;>
    first
    |exact h.elim
    |exact⟨_,h,fun w=>(Q81 (QH1 d (Qb4 d p n c f g w))).1⟩
    |exact⟨_,h,fun w=>(Q81 (QH1 d (Qb4 d p n c f g w))).2⟩
  ·exact h.elim
 ·rename_i p
  split at h
  ·rename_i d
   cases op<;>simp only[eqW]at h<;>
    first
    |exact h.elim
    |exact⟨_,h,fun w=>(Q81 (QH1 d (Q16 d p w))).1⟩
    |exact⟨_,h,fun w=>(Q81 (QH1 d (Q16 d p w))).2⟩
  ·exact h.elim
 ·exact h.elim
theorem Qvd{P:Program}{op:BinOp}{t:TypeId}{x y:Value}{K:Value->Prop}(h:QEe P op t x y K)(ox oy:Operand)(w:World):
  (eqGuard op t ox oy x y).run P w= .ok () w:=by
 apply QT9;unfold QEe at h
 split at h<;>first|trivial|exact h.elim
def Qp4(P:Program)(s:TypeId)(i:Nat):Option (Nat×TypeId):=
 match P.underlying s with
 |some (.struct fs)=>(fs[i]?).map fun f=>(f.offset,f.type)
 |_=>none
def QHl(x:Value)(K:Value->Prop):Prop:=
 match x with
 | .pointer p=>Qv0 p fun a=>K (.pointer (some a))
 | .func (.func f) a b=>K (.func (.func f) a b)
 |_=>False
def QL2(P:Program)(s:TypeId)(x:Value)(i:Nat)(K:Value->Prop):Prop:=
 match Qp4 P s i with
 |some (off,ft)=>
  match x with
  | .pointer p=>Qv0 p fun a=>Q9 (Nat.beq (P.cellsOf ft) 0) False (K (.pointer (some (a.add off))))
  |_=>False
 |none=>False
def QY9(P:Program)(s:TypeId)(x:Value)(i:Nat)(K:Value->Prop):Prop:=
 match Qp4 P s i with
 |some (off,ft)=>
  match x with
  | .agg cs=>Q9 (P.underlying ft).isSome (Q9 (Q54 P ft) (K (.agg ((cs.toList.drop off).take (P.cellsOf ft)).toArray))
    (match cs.toList[off]? with|some v=>K v|none=>False)) False
  |_=>False
 |none=>False
def QM2(P:Program)(t:TypeId)(x i:Value)(K:Value->Prop):Prop:=
 match i with
 | .int _ i=>
  match P.underlying t with
  |some (.slice e)=>
   match x with
   | .slice p n _=>Q9 (P.underlying e).isSome ((0<=i/\i<(n:Int))/\Qv0 p fun a=>K (.pointer (some (a.add (i.toNat*P.cellsOf e))))) False
   |_=>False
  |some (.array n e)=>
   match x with
   | .pointer p=>Q9 (P.underlying e).isSome ((0<=i/\i<(n:Int))/\Qv0 p fun a=>K (.pointer (some (a.add (i.toNat*P.cellsOf e))))) False
   |_=>False
  |_=>False
 |_=>False
def QQi(s:ByteArray)(i:Int):Int:=((s.data.toList.getD i.toNat 0).toNat:Int)
def Q5a(P:Program)(t:TypeId)(x i:Value)(K:Value->Prop):Prop:=
 match i with
 | .int _ i=>
  match P.underlying t with
  |some .string=>
   match x with
   | .string s=>(0<=i/\i<(s.size:Int))/\K (.int .u8 (QQi s i))
   |_=>False
  |_=>False
 |_=>False
def Ql3(x:Option Value)(d:Nat)(y:Nat)(K:Nat->Prop):Prop:=
 match x with
 |some (.int _ i)=>(0<=i/\i<=(y:Int))/\K i.toNat
 |some _=>False
 |none=>K d
def Qik(p:Option Addr)(n:Nat):Option Addr:=match p with|some a=>some (a.add n)|none=>none
def QT0(p:Option Addr)(cap l size:Nat):Option Addr:=if cap=l then p else Qik p (l*size)
def Qgl(p:Option Addr)(cap l h size:Nat):Value:= .slice (QT0 p cap l size) (h-l) (cap-l)
def QGa(P:Program)(t:TypeId)(x:Value)(lo hi mx:Option Value)(K:Value->Prop):Prop:=
 match mx with
 |some _=>False
 |none=>
  match P.underlying t with
  |some .string=>
   match x with
   | .string s=>Ql3 hi s.size s.size fun h=>Ql3 lo 0 h fun l=>K (.string (s.extract l h))
   |_=>False
  |some (.slice e)=>
   match x with
   | .slice p n c=>Q9 (P.underlying e).isSome (Ql3 hi n c fun h=>Ql3 lo 0 h fun l=>K (Qgl p c l h (P.cellsOf e))) False
   |_=>False
  |some (.array n e)=>
   match x with
   | .pointer p=>Q9 (P.underlying e).isSome (Qv0 p fun a=>Ql3 hi n n fun h=>Ql3 lo 0 h fun l=>K (Qgl (some a) n l h (P.cellsOf e))) False
   |_=>False
  |_=>False
def Qq6(x:Value)(i:Nat)(K:Value->Prop):Prop:=
 match x with
 | .tuple vs=>match vs.toList[i]? with|some v=>K v|none=>False
 |_=>False
def unW(op:UnOp)(x:Value)(K:Value->Prop):Prop:=
 match x with
 | .int k n=>match op with
  | .neg=>K (.int k (k.wrap (0-n)))
  | .xor=>K (.int k (QO .xor k (if k.signed then-1 else k.max) n))
  |_=>False
 | .bool b=>match op with
  | .not=>K (.bool (!b))
  |_=>False
 |_=>False
def Qph(P:Program)(src dst:TypeId)(x:Value)(K:Value->Prop):Prop:=
 match P.underlying src with
 |none=>False
 |some _=>
  match P.underlying dst with
  |some (.int k)=>match x with
   | .int _ n=>K (.int k (k.wrap n))
   |_=>False
  |some .string=>match x with
   | .string s=>K (.string s)
   |_=>False
  |_=>False
def QYi(P:Program)(t:TypeId)(x:Value)(K:Value->Prop):Prop:=
 match P.underlying t with
 |some .string=>match x with
  | .string s=>K (.int .i64 s.size)
  |_=>False
 |some (.slice _)=>match x with
  | .slice _ n _=>K (.int .i64 n)
  |_=>False
 |some (.array n _)=>K (.int .i64 n)
 |some (.pointer a)=>match P.underlying a with
  |some (.array n _)=>K (.int .i64 n)
  |_=>False
 |_=>False
def Qc7(mn:Bool)(xs:List Value)(K:Value->Prop):Prop:=
 match xs with
 | [.int k x, .int _ y]=>match mn with
  |true=>K (.int k (if y<x then y else x))
  |false=>K (.int k (if x<y then y else x))
 |_=>False
def QD3(cells:List Value)(off:Nat)(vs:List Value):List Value:=cells.take off++(vs++cells.drop (off+vs.length))
def QN7(place:Nat->Option (Nat×Nat))(cells:List Value):List (Nat×Value)->Option (List Value)
 | []=>some cells
 |(i,v)::rest=>
  match place i with
  |none=>none
  |some (off,size)=>
   match Nat.beq v.cells.toList.length size&&Nat.ble (off+v.cells.toList.length) cells.length with
   |true=>QN7 place (QD3 cells off v.cells.toList) rest
   |false=>none
def Qo1(P:Program)(t:TypeId):Option Value:=(P.info? t).bind (·.zero)
def Q05(P:Program)(t:TypeId):Option (Nat->Option (Nat×Nat)):=
 match P.underlying t with
 |some (.struct fs)=>if fs.all (fun f=>(P.info? f.type).isSome)then some fun i=>(fs[i]?).map fun f=>(f.offset,P.cellsOf f.type)else none
 |some (.array _ e)=>if(P.info? e).isSome then some fun i=>some (i*P.cellsOf e,P.cellsOf e)else none
 |_=>none
def Qxc(P:Program)(t:TypeId)(parts:List (Nat×Value))(K:Value->Prop):Prop:=
 match Qo1 P t with
 |some z=>match Q05 P t with
  |some pl=>match QN7 pl z.cells.toList parts with
   |some cells=>K (.agg cells.toArray)
   |none=>False
  |none=>False
 |none=>False
def Qz3(P:Program)(o:Op)(ev:Operand->Value)(K:Value->Prop):Prop:=
 match o with
 | .move x=>K (ev x)
 | .assign x=>K (ev x)
 | .pick c a b=>match ev c with
  | .bool c=>Q9 c (K (ev a)) (K (ev b))
  |_=>False
 | .nilCheck x=>QHl (ev x) K
 | .fieldAddr s x i=>QL2 P s (ev x) i K
 | .field s x i=>QY9 P s (ev x) i K
 | .indexAddr t x i=>QM2 P t (ev x) (ev i) K
 | .index t x i=>Q5a P t (ev x) (ev i) K
 | .slice t x lo hi mx=>QGa P t (ev x) (lo.map ev) (hi.map ev) (mx.map ev) K
 | .extract x i=>Qq6 (ev x) i K
 | .binOp op t x y _=>QEe P op t (ev x) (ev y) K
 | .unOp op _ x=>unW op (ev x) K
 | .convert s d x=>Qph P s d (ev x) K
 | .makeFunc fn first captured=>K (.func fn (first.map ev) (captured.map ev))
 | .build t parts=>Qxc P t (parts.toList.map fun(i,x)=>(i,ev x)) K
 | .call {callee:= .builtin .len,args:=args,argTypes:=ts}=>match ts.toList with
  | [t]=>match args.toList with| [x]=>QYi P t (ev x) K|_=>False
  |_=>False
 | .call {callee:= .builtin .min,args:=args, .. }=>Qc7 true (args.toList.map ev) K
 | .call {callee:= .builtin .max,args:=args, .. }=>Qc7 false (args.toList.map ev) K
 |_=>False
theorem QD7{P:Program}{t:TypeId}(h:P.underlying t≠none):∃i,P.info? t=some i:=by
 cases hi:P.info? t with
 |none=>exact(h (by unfold Program.underlying;simp[hi])).elim
 |some i=>exact⟨i,rfl⟩
theorem Qi0{P:Program}{t:TypeId}(h:(P.info? t).isSome=true)(w:World):(sizeOf t).run P w= .ok (P.cellsOf t) w:=by
 cases hi:P.info? t with
 |none=>simp[hi]at h
 |some i=>simp[sizeOf,typeInfo,hi,Program.cellsOf]
theorem QW8{P:Program}{t:TypeId}(h:P.cellsOf t≠0):(P.info? t).isSome=true:=by
 cases hi:P.info? t with
 |none=>simp[Program.cellsOf,hi]at h
 |some i=>rfl
theorem Q43{P:Program}{t:TypeId}(h:P.underlying t≠none):(P.info? t).isSome=true:=by
 obtain⟨i,hi⟩:=QD7 h;simp[hi]
theorem QP2{α:Type}{x:Option α}(h:x.isSome=true):x≠none:=by cases x<;>simp at h⊢
theorem QP5{P:Program}{s:TypeId}{i off:Nat}{ft:TypeId}(h:Qp4 P s i=some (off,ft)):
  ∃fs f,P.underlying s=some (.struct fs)/\fs[i]? =some f/\f.offset=off/\f.type=ft:=by
 unfold Qp4 at h
 split at h
 ·rename_i fs d
  cases a:fs[i]? with
  |none=>simp[a]at h
  |some f=>simp[a]at h;exact⟨fs,f,d,a,h.1,h.2⟩
 ·simp at h
theorem Qe2{p:Option Addr}{F:Addr->Prop}(h:Qv0 p F):∃a,p=some a/\F a:=by
 cases p with
 |none=>exact h.elim
 |some a=>exact⟨a,rfl,h⟩
theorem Qk{b:Bool}{T E:Prop}(h:Q9 b T E):(b=true/\T)\/(b=false/\E):=by
 cases b
 ·exact .inr ⟨rfl,h⟩
 ·exact .inl ⟨rfl,h⟩
theorem Qt8{P:Program}{t:TypeId}{cs:Array Value}{off:Nat}{w:World}{v:Value}
  (h:Q9 (Q54 P t) (P.underlying t≠none/\v= .agg (cs.extract off (off+P.cellsOf t))) (P.underlying t≠none/\cs.toList[off]? =some v)):
  (part t cs off).run P w= .ok v w:=by
 rcases Qk h with⟨hb,a,rfl⟩|⟨hb,a,d⟩
 ·simp[part,QU4 true hb a,QL6 a]
 ·simp at d
  simp[part,QU4 false hb a,d]
theorem Qj4{x:Option Value}{d y:Nat}{K:Nat->Prop}(h:Ql3 x d y K):
  (x=none/\K d)\/∃k i,x=some (.int k i)/\0<=i/\i<=(y:Int)/\K i.toNat:=by
 unfold Ql3 at h
 split at h
 ·exact .inr ⟨_,_,rfl,h.1.1,h.1.2,h.2⟩
 ·exact h.elim
 ·exact .inl ⟨rfl,h⟩
theorem Qg2{P:Program}{isSlice:Bool}{len cap:Nat}{lo hi:Option Value}{K:Nat->Nat->Prop}
  (h:Ql3 hi len cap fun h=>Ql3 lo 0 h fun l=>K h l):
  ∃h l,K h l/\∀w,(Instr.sliceBounds isSlice len cap lo hi none).run P w= .ok (l,h,cap) w:=by
 rcases Qj4 h with⟨rfl,g⟩|⟨k,i,rfl,d,e,g⟩
 ·rcases Qj4 g with⟨rfl,a⟩|⟨k,i,rfl,d,e,a⟩
  ·exact⟨_,_,a,fun w=>by simp[Instr.sliceBounds]⟩
  ·exact⟨_,_,a,fun w=>by simp[Instr.sliceBounds,Instr.sliceBound,asIntOf,d,e]⟩
 ·rcases Qj4 g with⟨rfl,a⟩|⟨n,j,rfl,f,m,a⟩
  ·exact⟨_,_,a,fun w=>by simp[Instr.sliceBounds,Instr.sliceBound,asIntOf,d,e]⟩
  ·exact⟨_,_,a,fun w=>by
    have:j<=max i 0:=by omega
    simp[Instr.sliceBounds,Instr.sliceBound,asIntOf,d,e,f]
    omega⟩
theorem Qf1{P:Program}{ev:Operand->Value}{o:Oper}{s:Sem Value}{v:Value}{w w':World}
  (a:execOp ev o=(do pure (Next.value (←s)))) (hs:s.run P w= .ok v w'):(execOp ev o).run P w= .ok (.value v) w':=by
 rw[a];simp[hs]
theorem Qgf(p:Option Addr)(cap l h size:Nat):
  Value.slice (if cap=l then p else p.map (·.add (l*size))) (h-l) (cap-l)=Qgl p cap l h size:=by
 unfold Qgl QT0 Qik;cases p<;>rfl
theorem QHa{P:Program}{t:TypeId}{x:Value}{lo hi mx:Option Value}{K:Value->Prop}(h:QGa P t x lo hi mx K):
  ∃v,K v/\∀w,(Instr.sliceAt t x lo hi mx).run P w= .ok v w:=by
 unfold QGa at h
 split at h
 ·exact h.elim
 ·split at h
  ·rename_i f
   split at h
   ·rename_i s
    obtain⟨j,l,g,i⟩:=Qg2 (P:=P) (isSlice:=false) h;exact⟨_,g,fun w=>by simp[Instr.sliceAt,Instr.slice,Q3 f,i]⟩
   ·exact h.elim
  ·rename_i e f
   split at h
   ·rename_i p n c
    obtain⟨d,h⟩:=(Qk h).resolve_right fun x=>x.2;have d:=QP2 d;obtain⟨j,l,g,i⟩:=Qg2 (P:=P) (isSlice:=true) h;refine⟨_,g,fun w=> ?_⟩;simp[Instr.sliceAt,Instr.slice,Q3 f,i,Qi0 (Q43 d),←Qgf]
   ·exact h.elim
  ·rename_i n e f
   split at h
   ·rename_i p
    obtain⟨d,h⟩:=(Qk h).resolve_right fun x=>x.2;have d:=QP2 d;obtain⟨a,rfl,k⟩:=Qe2 h;obtain⟨j,l,g,i⟩:=Qg2 (P:=P) (isSlice:=false) k;refine⟨_,g,fun w=> ?_⟩;simp[Instr.sliceAt,Instr.sureAddr,Q3 f,i,Qi0 (Q43 d),←Qgf]
    split<;>rfl
   ·exact h.elim
  ·exact h.elim
theorem Qe6{P:Program}{t:TypeId}{x i:Value}{K:Value->Prop}(h:QM2 P t x i K):
  ∃v,K v/\∀w,(Instr.indexAt t x i).run P w= .ok v w:=by
 unfold QM2 at h
 split at h
 ·split at h
  ·rename_i e f
   split at h
   ·obtain⟨d,hb,h⟩:=(Qk h).resolve_right fun x=>x.2
    have d:=QP2 d;obtain⟨a,rfl,h⟩:=Qe2 h;exact⟨_,h,fun w=>by simp[Instr.indexAt,asIntOf,Q3 f,hb,Qi0 (Q43 d)]⟩
   ·exact h.elim
  ·rename_i n e f
   split at h
   ·obtain⟨d,hb,h⟩:=(Qk h).resolve_right fun x=>x.2
    have d:=QP2 d;obtain⟨a,rfl,h⟩:=Qe2 h;exact⟨_,h,fun w=>by simp[Instr.indexAt,Instr.sureAddr,asIntOf,Q3 f,hb,Qi0 (Q43 d)]⟩
   ·exact h.elim
  ·exact h.elim
 ·exact h.elim
theorem Q6a{P:Program}{t:TypeId}{x i:Value}{K:Value->Prop}(h:Q5a P t x i K):
  ∃v,K v/\∀w,(Instr.index t x i).run P w= .ok v w:=by
 unfold Q5a at h
 split at h
 ·rename_i k i
  split at h
  ·rename_i d
   split at h
   ·rename_i s
    obtain⟨hb,h⟩:=h;refine⟨_,h,fun w=> ?_⟩;have a:i.toNat<s.size:=by omega
    have e:s[i.toNat]? =some (s.data.toList.getD i.toNat 0):=by
     have f:i.toNat<s.data.toList.length:=by simpa using a
     rw[getElem?_pos s i.toNat a,List.getD_eq_getElem?_getD,List.getElem?_eq_getElem f]
     rfl
    simp only[Instr.index,asIntOf,Sem.run_bind,Sem.run_pure,Result.andThen,Q3 d];rw[if_pos hb.1,e]
    rfl
   ·exact h.elim
  ·exact h.elim
 ·exact h.elim
theorem Qc6{P:Program}{s:TypeId}{x:Value}{i:Nat}{K:Value->Prop}(h:QL2 P s x i K):
  ∃v,K v/\∀w,(Instr.fieldAt s x i).run P w= .ok v w:=by
 unfold QL2 at h
 split at h
 ·rename_i off ft k
  obtain⟨fs,f,l,g,rfl,rfl⟩:=QP5 k
  split at h
  ·obtain⟨a,rfl,h⟩:=Qe2 h
   rcases Qk h with⟨_,h⟩|⟨j,h⟩
   ·exact h.elim
   ·have d:P.cellsOf f.type≠0:=fun e=>by rw[e]at j;simp at j
    refine⟨_,h,fun w=> ?_⟩;simp[Instr.fieldAt,Q3 l,g,Instr.sureAddr,fieldPlace,Qi0 (QW8 d),d]
  ·exact h.elim
 ·exact h.elim
theorem QZ9{P:Program}{s:TypeId}{x:Value}{i:Nat}{K:Value->Prop}(h:QY9 P s x i K):
  ∃v,K v/\∀w,(Instr.field s x i).run P w= .ok v w:=by
 unfold QY9 at h
 split at h
 ·rename_i off ft j
  obtain⟨fs,f,g,a,rfl,rfl⟩:=QP5 j
  split at h
  ·rename_i cs
   obtain⟨d,h⟩:=(Qk h).resolve_right fun x=>x.2;have d:=QP2 d;rcases Qk h with⟨hb,h⟩|⟨hb,h⟩
   ·have e:((cs.toList.drop f.offset).take (P.cellsOf f.type)).toArray=cs.extract f.offset (f.offset+P.cellsOf f.type):=by
     apply Array.toList_inj.1;simp[List.take_drop]
    rw[e]at h
    exact⟨_,h,fun w=>by
     simp[Instr.field,Q3 g,a,asAgg]
     exact Qt8 (by rw[hb];exact⟨d,rfl⟩)⟩
   ·split at h
    ·rename_i v k
     exact⟨_,h,fun w=>by
      simp[Instr.field,Q3 g,a,asAgg]
      exact Qt8 (by rw[hb];exact⟨d,k⟩)⟩
    ·exact h.elim
  ·exact h.elim
 ·exact h.elim
theorem Qj9(vs:List Value):∀(j:Nat)(cs:Array Value)(off:Nat),off+j+vs.length<=cs.size→
  (vs.zipIdx j).foldl (fun(cs:Array Value)(x:Value×Nat)=>cs.setIfInBounds (off+x.2) x.1) cs=(QD3 cs.toList (off+j) vs).toArray:=by
 induction vs with
 |nil=>intro j cs off h;simp[QD3]
 |cons v vs ih=>
  intro j cs off h;simp only[List.length_cons]at h;simp only[List.zipIdx_cons,List.foldl_cons];rw[ih (j+1) _ off (by simp;omega)];have a:off+j<cs.toList.length:=by simp;omega
  simp only[QD3,Array.toList_setIfInBounds,List.length_cons];rw[←Nat.add_assoc,List.take_succ_eq_append_getElem (by simpa using a),List.drop_set_of_lt (by omega)];simp[List.take_set_of_le]
  congr 1
  omega
theorem QJc{place:Nat->Option (Nat×Nat)}:∀{parts:List (Nat×Value)}{cells r:List Value},QN7 place cells parts=some r→
  Instr.fill place cells.toArray parts=some r.toArray:=by
 intro parts
 induction parts with
 |nil=>intro cells r h;simp[QN7]at h;simp[Instr.fill,h]
 |cons x rest ih=>
  obtain⟨i,v⟩:=x;intro cells r h;simp only[QN7]at h;simp only[Instr.fill];cases d:place i with
  |none=>simp[d]at h
  |some y=>
   obtain⟨off,size⟩:=y;simp only[d]at h⊢
   split at h
   ·rename_i hb
    simp only[Bool.and_eq_true,Nat.ble_eq]at hb;obtain⟨a,f⟩:=hb;simp only[Array.length_toList]at a f;have e:v.cells.zipIdx.foldl (fun(cs:Array Value)(x:Value×Nat)=>cs.setIfInBounds (off+x.2) x.1) cells.toArray=(QD3 cells off v.cells.toList).toArray:=by
     have:=Qj9 v.cells.toList 0 cells.toArray off (by simpa using f);simp only[Nat.add_zero]at this;rw[←this,←Array.foldl_toList];simp
    have a:=Nat.eq_of_beq_eq_true a;rw[if_neg (by simp;omega)];have g:=ih h;rw[←e]at g;exact g
   ·simp at h
theorem Qka{P:Program}{t:TypeId}{pl:Nat->Option (Nat×Nat)}(h:Q05 P t=some pl){z:Value}(j:Qo1 P t=some z)
  {parts:Array (Nat×Value)} {cells:Array Value} (k:Instr.fill pl z.cells parts.toList=some cells) (w:World):
  (Instr.build t parts).run P w= .ok (.agg cells) w:=by
 have d:(zeroValue t).run P w= .ok z w:=by
  unfold Qo1 at j;cases hi:P.info? t with
  |none=>simp[hi]at j
  |some i=>simp[hi]at j;simp[zeroValue,typeInfo,hi,j]
 unfold Q05 at h
 split at h
 ·rename_i fs m
  split at h
  ·rename_i a
   simp only[Option.some.injEq]at h;have q:∀(l:List Field),(∀f∈l,(P.info? f.type).isSome=true)→
     (l.mapM fun f=>(Prod.mk f.offset<$>sizeOf f.type:Sem (Nat×Nat))).run P w= .ok (l.map fun f=>(f.offset,P.cellsOf f.type)) w:=by
    intro l
    induction l with
    |nil=>intro _;simp
    |cons f l ih=>
     intro p;have r:=ih (fun g s=>p g (by simp[s]));simp only[List.mapM_cons,Sem.run_bind,Sem.run_map,Qi0 (p f (by simp)),Result.andThen,r];simp
   have o:=q fs.toList (by
    intro f u;simp only[Array.all_eq_true_iff_forall_mem]at a
    exact a f (by simpa using u))
   have e:(Instr.fill (fun x=>(fs.toList.map (fun f=>(f.offset,P.cellsOf f.type))).toArray[x]?) z.cells parts.toList)=some cells:=by
    rw[←k,←h];congr 1;funext i;simp
   simp only[Instr.build,Sem.run_bind,d,Result.andThen,Q3 m,Array.mapM_eq_mapM_toList];simp only[bind_pure_comp,Sem.run_map,o,Result.andThen];simp only[e];simp
  ·simp at h
 ·rename_i n e m
  split at h
  ·rename_i hi
   simp only[Option.some.injEq]at h;rw[←h]at k;simp only[Instr.build,Sem.run_bind,d,Result.andThen,Q3 m,Qi0 hi,k];simp
  ·simp at h
 ·simp at h
theorem QQb{P:Program}{o:Oper}{ev:Operand->Value}{K:Value->Prop}(h:Qz3 P o.op ev K):
  ∃v,K v/\∀w,(execOp ev o).run P w= .ok (.value v) w:=by
 unfold Qz3 at h
 split at h
 ·rename_i x g;exact⟨_,h,fun w=>by simp[execOp,g]⟩
 ·rename_i x g;exact⟨_,h,fun w=>by simp[execOp,g]⟩
 ·rename_i c a b g
  split at h
  ·rename_i L r
   rcases Qk h with⟨rfl,h⟩|⟨rfl,h⟩<;>exact⟨_,h,fun w=>by simp[execOp,g,r,asBool]⟩
  ·exact h.elim
 ·rename_i x g
  unfold QHl at h
  split at h
  ·rename_i p j
   obtain⟨a,rfl,h⟩:=Qe2 h;exact⟨_,h,fun w=>by simp[execOp,g,j]⟩
  ·rename_i f a b j
   exact⟨_,h,fun w=>by simp[execOp,g,j]⟩
  ·exact h.elim
 ·rename_i s x i g
  obtain⟨v,l,m⟩:=Qc6 h;exact⟨v,l,fun w=>Qf1 (by simp only[execOp,g]) (m w)⟩
 ·rename_i s x i g
  obtain⟨v,l,m⟩:=QZ9 h;exact⟨v,l,fun w=>Qf1 (by simp only[execOp,g]) (m w)⟩
 ·rename_i s x i g
  obtain⟨v,l,m⟩:=Qe6 h;exact⟨v,l,fun w=>Qf1 (by simp only[execOp,g]) (m w)⟩
 ·rename_i s x i g
  obtain⟨v,l,m⟩:=Q6a h;exact⟨v,l,fun w=>Qf1 (by simp only[execOp,g]) (m w)⟩
 ·rename_i t x lo hi mx g
  obtain⟨v,l,m⟩:=QHa h;exact⟨v,l,fun w=>Qf1 (by simp only[execOp,g]) (m w)⟩
 ·rename_i x i g
  unfold Qq6 at h
  split at h
  ·rename_i vs j
   split at h
   ·rename_i v E
    exact⟨v,h,fun w=>by simp at E;simp[execOp,g,j,Instr.extract,E]⟩
   ·exact h.elim
  ·exact h.elim
 ·rename_i op t x y M g
  obtain⟨v,l,m⟩:=Qwd h;exact⟨v,l,fun w=>by simp[execOp,g,Qvd h,m]⟩
 ·rename_i op t x g
  unfold unW at h
  split at h
  ·rename_i k n j
   cases op<;>simp only at h<;>first|exact h.elim|exact⟨_,h,fun w=>by simp[execOp,g,j,Op.unary,Op.intArith,Op.intBits,QO]⟩
  ·rename_i b j
   cases op<;>simp only at h<;>first|exact h.elim|exact⟨_,h,fun w=>by simp[execOp,g,j,Op.unary]⟩
  ·exact h.elim
 ·rename_i s d x g
  unfold Qph at h
  split at h
  ·exact h.elim
  ·rename_i ds hs
   split at h
   ·rename_i k u
    split at h
    ·rename_i F n j
     exact⟨_,h,fun w=>by simp[execOp,g,j,convert,Q3 hs,Q3 u,Conv.intToInt]⟩
    ·exact h.elim
   ·rename_i u
    split at h
    ·rename_i s j
     exact⟨_,h,fun w=>by
      simp only[execOp,g,j,convert,Sem.run_bind,Q3 hs,Q3 u,Result.andThen]
      rfl⟩
    ·exact h.elim
   ·exact h.elim
 ·rename_i fn first captured g
  exact⟨_,h,fun w=>by simp[execOp,g,Instr.makeFunc]⟩
 ·rename_i t parts g
  unfold Qxc at h
  split at h
  ·rename_i z G
   split at h
   ·rename_i pl A
    split at h
    ·rename_i cells r
     refine⟨_,h,fun w=> ?_⟩;have e:(parts.map fun x:Nat×Operand=>(x.1,ev x.2)).toList=parts.toList.map fun x=>(x.1,ev x.2):=by simp
     have:=Qka (P:=P) (w:=w) (parts:=parts.map fun x:Nat×Operand=>(x.1,ev x.2)) A G (by rw[e];have H:=QJc r;simpa using H);exact Qf1 (by simp only[execOp,g]) this
    ·exact h.elim
   ·exact h.elim
  ·exact h.elim
 ·rename_i args ts g
  split at h
  ·rename_i t B
   split at h
   ·rename_i x j
    have I:args= #[x]:=Array.toList_inj.1 (by simpa using j);have J:ts= #[t]:=Array.toList_inj.1 (by simpa using B);subst I J;unfold QYi at h
    split at h
    ·rename_i q
     split at h
     ·rename_i s hs
      exact⟨_,h,fun w=>by simp[execOp,g,resolve,hs,invoke,builtin,Builtin.len_,Q3 q,goInt]⟩
     ·exact h.elim
    ·rename_i e q
     split at h
     ·rename_i p n c hs
      exact⟨_,h,fun w=>by simp[execOp,g,resolve,hs,invoke,builtin,Builtin.len_,Q3 q,goInt]⟩
     ·exact h.elim
    ·rename_i n e q
     exact⟨_,h,fun w=>by
      cases j:ev x<;>simp[execOp,g,resolve,j,invoke,builtin,Builtin.len_,Q3 q,goInt]⟩
    ·rename_i a q
     split at h
     ·rename_i n e C
      exact⟨_,h,fun w=>by
       cases j:ev x<;>simp[execOp,g,resolve,j,invoke,builtin,Builtin.len_,Q3 q,Q3 C,goInt]⟩
     ·exact h.elim
    ·exact h.elim
   ·exact h.elim
  ·exact h.elim
 ·rename_i args ts g
  unfold Qc7 at h
  split at h
  ·rename_i k x F y D
   refine⟨_,h,fun w=> ?_⟩;simp[execOp,g,resolve,invoke,builtin,Builtin.min_,Builtin.min2,D]
  ·exact h.elim
 ·rename_i args ts g
  unfold Qc7 at h
  split at h
  ·rename_i k x F y D
   refine⟨_,h,fun w=> ?_⟩;simp[execOp,g,resolve,invoke,builtin,Builtin.max_,Builtin.max2,D]
  ·exact h.elim
 ·exact h.elim
end Go.Vc
