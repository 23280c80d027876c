import Derived.Test.YtkolafpgbhpdlaaGreatVcA
namespace Go.Vc
open Go
def QCh(P:Program):List TypeId->List Value->(List Value->Prop)->Prop
 | [],acc,K=>K acc.reverse
 |t::ts,acc,K=>exS P t fun v=>QCh P ts (v::acc) K
def exT(P:Program)(t:TypeId)(F:Value->Prop):Prop:=
 match Q54 P t with
 |true=>QCh P (Qah P 8 t) [] fun l=>F (.agg l.toArray)
 |false=>exS P t F
theorem Qh8{P:Program}:∀{ts:List TypeId}{acc:List Value}{K:List Value->Prop},QCh P ts acc K->∃l,K l
 | [],_,_,h=>⟨_,h⟩
 |_::_,_,_,h=>by obtain⟨v,h⟩:=Qp6 h;exact Qh8 h
theorem QC0{P:Program}{t:TypeId}{F:Value->Prop}(h:exT P t F):∃v,F v:=by
 unfold exT at h
 split at h
 ·obtain⟨l,h⟩:=Qh8 h;exact⟨_,h⟩
 ·exact Qp6 h
def QYh(P:Program)(t:TypeId)(m key:Value)(w:World)(v:Value)(b:Bool):Prop:=
 (Instr.lookup t m key true).run P w= .ok (.tuple #[v, .bool b]) w/\(Instr.lookup t m key false).run P w= .ok v w
def QWh(ok:Bool)(v:Value)(b:Bool):Value:=match ok with|true=> .tuple #[v, .bool b]|false=>v
def Q29(P:Program)(t:TypeId)(m key:Value)(ok:Bool)(w:World)(K:Value->Prop):Prop:=
 match P.underlying t with
 |some (.map _ e)=>exT P e fun v=>∃b:Bool,QYh P t m key w v b/\K (QWh ok v b)
 |_=>False
def QWc(w:World)(m:Value)(n:Nat):Prop:=
 match m with
 | .map none=>n=0
 | .map (some r)=>∃es c,w.heap[r]? =some (.map es c)/\es.size=n
 |_=>False
def QFb(P:Program)(t:TypeId)(m:Value)(w:World)(K:Value->Prop):Prop:=
 match P.underlying t with
 |some (.map _ _)=>∃n:Nat,QWc w m n/\K (.int .i64 n)
 |_=>False
def Qyc(P:Program)(x:Value)(w:World)(s:ByteArray):Prop:=(Conv.bytesToString x).run P w= .ok (.string s) w
def QWg(P:Program)(src dst:TypeId)(x:Value)(w:World)(K:Value->Prop):Prop:=
 match P.underlying src with
 |some (.slice e)=>match P.underlying dst with
  |some .string=>match P.underlying e with
   |some (.int .u8)=>match x with
    | .slice p n c=>∃s:ByteArray,Qyc P (.slice p n c) w s/\K (.string s)
    |_=>False
   |_=>False
  |_=>False
 |_=>False
def entryAt(P:Program)(it:Value)(w:World)(k v:Value):Prop:=(Instr.entry it).run P w= .ok (.tuple #[k,v]) w
def QBh(P:Program)(t:TypeId)(x y:Value)(w:World)(b:Bool):Prop:=
 (∀op ox oy,(eqGuard op t ox oy x y).run P w= .ok () w)/\(binOp .eql t x y).run P w= .ok (.bool b) w/\(binOp .neq t x y).run P w= .ok (.bool (!b)) w
theorem Qu{P:Program}{w:World}{r:Nat}{es:Array MapEntry}{c:Nat}(h:w.heap[r]? =some (.map es c)):
  (getObj r).run P w= .ok (.map es c) w:=by simp only[getObj,Sem.run,h]
theorem Qf2{P:Program}{w:World}{r:Nat}{m:Option Nat}{s:Nat}{sn:Array Nat}{c:Nat}(h:w.heap[r]? =some (.mapIter m s sn c)):
  (getObj r).run P w= .ok (.mapIter m s sn c) w:=by simp only[getObj,Sem.run,h]
theorem Qv1{P:Program}{w:World}{r:Nat}{o d:Obj}(h:w.heap[r]? =some o)(e:∀a b c,o≠ .cells a b c):
  (setObj r d).run P w= .ok () {w with heap:=w.heap.setIfInBounds r d}:=by
 cases o<;>simp only[setObj,Sem.run,h];exact(e _ _ _ rfl).elim
inductive Cls|pure|mem|eff
 deriving DecidableEq
def Qq3(P:Program)(t:TypeId)(y:Operand):Bool:=
 match P.underlying t with
 |some (.int _)=>true
 |some .string=>true
 |some .bool=>true
 |_=>match y with
  | .const (.pointer none)=>true
  | .const (.slice none _ _)=>true
  | .const (.map none)=>true
  |_=>false
def Qk0(P:Program)(o:Op):Cls:=
 match o with
 | .move _=> .pure
 | .assign _=> .pure
 | .pick _ _ _=> .pure
 | .nilCheck _=> .pure
 | .fieldAddr _ _ _=> .pure
 | .field _ _ _=> .pure
 | .indexAddr _ _ _=> .pure
 | .index _ _ _=> .pure
 | .slice _ _ _ _ _=> .pure
 | .extract _ _=> .pure
 | .binOp op t _ y _=>match op with
  | .eql=>if Qq3 P t y then .pure else .mem
  | .neq=>if Qq3 P t y then .pure else .mem
  |_=> .pure
 | .unOp _ _ _=> .pure
 | .convert s d _=>match P.underlying s with
  |some (.slice _)=> .mem
  |some .string=>match P.underlying d with
   |some .string=> .pure
   |_=> .eff
  |_=> .pure
 | .makeFunc _ _ _=> .pure
 | .build _ _=> .pure
 | .call {callee:= .builtin .len,argTypes:=ts, .. }=>match ts.toList with
  | [t]=>match P.underlying t with
   |some (.map _ _)=> .mem
   |_=> .pure
  |_=> .pure
 | .call {callee:= .builtin .min, .. }=> .pure
 | .call {callee:= .builtin .max, .. }=> .pure
 | .load _ _=> .mem
 | .lookup _ _ _ _=> .mem
 | .entry _=> .mem
 |_=> .eff
def QM8:List Oper->Option Nat->Nat->Option TypeId
 | [],_,_=>none
 |o::rest,d,i=>match o.op with
  | .extract (.tmp t) j=>match d with
   |some d=>match Nat.beq t d&&Nat.beq i j with
    |true=>some o.type
    |false=>QM8 rest (some d) i
   |none=>none
  |_=>QM8 rest d i
def exO(P:Program)(t:Option TypeId)(F:Value->Prop):Prop:=
 match t with
 |some t=>exT P t F
 |none=>∃v:Value,F v
theorem QGc{P:Program}{t:Option TypeId}{F:Value->Prop}(h:exO P t F):∃v,F v:=by
 cases t with
 |none=>exact h
 |some t=>exact QC0 h
def Qdh(P:Program)(ops:List Oper)(dst:Option Nat)(o:Op)(ev:Operand->Value)(w:World)(K:Value->Prop):Prop:=
 match o with
 | .load t a=>QDb P t (ev a) w K
 | .lookup t m k ok=>Q29 P t (ev m) (ev k) ok w K
 | .entry it=>exO P (QM8 ops dst 0) fun k=>exO P (QM8 ops dst 1) fun v=>entryAt P (ev it) w k v/\K (.tuple #[k,v])
 | .convert s d x=>QWg P s d (ev x) w K
 | .call {callee:= .builtin .len,args:=args,argTypes:=ts}=>match ts.toList with
  | [t]=>match args.toList with| [x]=>QFb P t (ev x) w K|_=>False
  |_=>False
 | .binOp op t x y _=>∃b:Bool,QBh P t (ev x) (ev y) w b/\eqW op b K
 |_=>False
theorem Q97{P:Program}{t:TypeId}{x:Value}{w:World}{K:Value->Prop}(a:P.underlying t≠none)(h:QDb P t x w K):
  ∃v,K v/\(Instr.loadAt t x).run P w= .ok v w:=by
 unfold QDb at h
 split at h
 ·rename_i p
  split at h
  ·rename_i ha
   split at h
   ·rename_i d
    have d:=Nat.eq_of_beq_eq_true d;obtain⟨l,e,g⟩:=Q19 _ _ _ h;refine⟨_,e,?_⟩;have f:(loadCells p (P.cellsOf t)).run P w= .ok l.toArray w:=by rw[←d];exact g
    simp[Instr.loadAt,Instr.sureAddr,loadVar,QU4 true ha a,QL6 a,f]
   ·exact h.elim
  ·rename_i ha
   obtain⟨v,i,e⟩:=Qp6 h;refine⟨v,e,?_⟩;simp[Instr.loadAt,Instr.sureAddr,loadVar,QU4 false ha a,i]
 ·exact h.elim
theorem Q0e{P:Program}{ops:List Oper}{dst:Option Nat}{o:Oper}{ev:Operand->Value}{w:World}{K:Value->Prop}
  (z:∀t a,o.op= .load t a->P.underlying t≠none) (h:Qdh P ops dst o.op ev w K):
  ∃v,K v/\(execOp ev o).run P w= .ok (.value v) w:=by
 unfold Qdh at h
 split at h
 ·rename_i t a g
  obtain⟨v,i,A⟩:=Q97 (z t a g) h;exact⟨v,i,Qf1 (by simp only[execOp,g]) A⟩
 ·rename_i t m k ok g
  unfold Q29 at h
  split at h
  ·obtain⟨v,b,f,i⟩:=QC0 h
   refine⟨_,i,Qf1 (s:=Instr.lookup t (ev m) (ev k) ok) (by simp only[execOp,g]) ?_⟩;cases ok
   ·exact f.2
   ·exact f.1
  ·exact h.elim
 ·rename_i it g
  obtain⟨k,h⟩:=QGc h;obtain⟨v,f,i⟩:=QGc h;exact⟨_,i,Qf1 (s:=Instr.entry (ev it)) (by simp only[execOp,g]) f⟩
 ·rename_i s d x g
  unfold QWg at h
  split at h
  ·rename_i e hs
   split at h
   ·rename_i B
    split at h
    ·rename_i C
     split at h
     ·rename_i p n c l
      obtain⟨str,f,i⟩:=h;refine⟨_,i,Qf1 (s:=convert s d (ev x)) (by simp only[execOp,g]) ?_⟩;rw[l];simp only[convert,Sem.run_bind,Q3 hs,Q3 B,Result.andThen,Q3 C];exact f
     ·exact h.elim
    ·exact h.elim
   ·exact h.elim
  ·exact h.elim
 ·rename_i args ts g
  split at h
  ·rename_i t q
   split at h
   ·rename_i x l
    have D:args= #[x]:=Array.toList_inj.1 (by simpa using l);have E:ts= #[t]:=Array.toList_inj.1 (by simpa using q);subst D E;unfold QFb at h
    split at h
    ·rename_i kt et u
     obtain⟨n,f,i⟩:=h;refine⟨_,i,?_⟩;unfold QWc at f
     split at f
     ·rename_i j
      subst f;simp[execOp,g,resolve,j,invoke,builtin,Builtin.len_,Q3 u,goInt]
     ·rename_i r j
      obtain⟨es,c,F,rfl⟩:=f;simp[execOp,g,resolve,j,invoke,builtin,Builtin.len_,Q3 u,goInt,Qu F]
     ·exact f.elim
    ·exact h.elim
   ·exact h.elim
  ·exact h.elim
 ·rename_i op t x y G g
  obtain⟨b,f,i⟩:=h;cases op<;>simp only[eqW]at i
  case eql=>exact⟨_,i,by simp[execOp,g,f.1,f.2.1]⟩
  case neq=>exact⟨_,i,by simp[execOp,g,f.1,f.2.2]⟩
  all_goals exact i.elim
 ·exact h.elim
def Qf3(v:Value):Bool:=
 match v with
 | .agg _=>false
 | .tuple _=>false
 |_=>true
def QG(w:World)(b:Nat)(o:Obj)(w':World):Prop:=b=w.heap.size/\w'=w.alloc o
def Qt(w:World)(p:Addr)(v:Value)(w':World):Prop:=w'=w.setCell p v
def QX7(w w':World):Prop:=w'=w.drew
def QD(w:World)(p:Addr):Prop:=(∃old,w.cell? p=some old)/\w.frozen? p=false
def Q2j(w:World)(o:Obj)(K:Nat->World->Prop):Prop:=∀(b:Nat)(w':World),QG w b o w'->K b w'
def QUg(w:World)(p:Addr)(v:Value)(K:World->Prop):Prop:=
 QD w p/\Q9 (Qf3 v) (∀w',Qt w p v w'->K w') False
def QA6(w:World)(p:Addr):List Value->Nat->(World->Prop)->Prop
 | [],_,K=>K w
 |v::vs,i,K=>QUg w (p.add i) v fun w'=>QA6 w' p vs (i+1) K
def QLa(P:Program)(t:TypeId)(x v:Value)(w:World)(K:World->Prop):Prop:=
 match x with
 | .pointer p=>Qv0 p fun p=>
  Q9 (Nat.beq v.cells.toList.length (P.cellsOf t)&&(P.info? t).isSome) (QA6 w p v.cells.toList 0 K) False
 |_=>False
def Qc(P:Program)(t:TypeId):List Value:=
 match Qo1 P t with
 |some z=>z.cells.toList
 |none=>[]
def Qpg(n:Nat):Value:= .pointer (some ⟨n,0,none⟩)
def QG9(P:Program)(f:FuncId)(args:Array Value)(w:World)(K:Value->World->Prop):Prop:=
 match P.funcs[f]? with
 |some fn=>Q9 fn.body.isSome
   (Calls P f args w fun e w'=>match fn.resultTypes.toList with
    | []=>e= .returned (.tuple #[])/\K (.tuple #[]) w'
    | [t]=>exT P t fun v=>e= .returned v/\K v w'
    | [t,u]=>exT P t fun v=>exT P u fun x=>e= .returned (.tuple #[v,x])/\K (.tuple #[v,x]) w'
    | [t,u,s]=>exT P t fun v=>exT P u fun x=>exT P s fun y=>e= .returned (.tuple #[v,x,y])/\K (.tuple #[v,x,y]) w'
    |_=>∃v,e= .returned v/\K v w') False
 |none=>False
def Q48(P:Program)(fv:Value)(args:List Value)(w:World)(K:Value->World->Prop):Prop:=
 match fv with
 | .func (.func f) first captured=>QG9 P f (first.toList++(args++captured.toList)).toArray w K
 |_=>False
def Q9c(P:Program)(t:TypeId)(s:Sem Value)(w:World)(K:Value->World->Prop):Prop:=
 exT P t fun v=>∃w',s.run P w= .ok v w'/\K v w'
def Qsi(P:Program)(s:Sem Unit)(w:World)(K:Value->World->Prop):Prop:=∃w',s.run P w= .ok () w'/\K undef w'
def Q72(P:Program)(t:TypeId)(len:Nat)(parts:List (Nat×Value))(w:World)(K:Value->World->Prop):Prop:=
 match P.underlying t with
 |some (.slice e)=>
  Q9 (Nat.ble (len*P.cellsOf e) 65536&&(Qo1 P e).isSome&&(P.info? e).isSome&&Nat.beq (Qc P e).length (P.cellsOf e))
   (match QN7 (fun i=>some (i*P.cellsOf e,P.cellsOf e)) (List.replicate len (Qc P e)).flatten parts with
    |some cells=>Q2j w (.cells cells.toArray e) fun b w'=>K (.slice (some ⟨b,0,none⟩) len len) w'
    |none=>False) False
 |_=>False
def QK(P:Program)(e:TypeId)(n:Nat):Array Value:=(List.replicate n (Qc P e)).flatten.toArray
def QN2(P:Program)(t:TypeId)(l c:Value)(w:World)(K:Value->World->Prop):Prop:=
 match P.underlying t with
 |some (.slice e)=>match l with
  | .int _ l=>match c with
   | .int _ c=>Q9 ((Qo1 P e).isSome&&(P.info? e).isSome&&Nat.beq (Qc P e).length (P.cellsOf e)&& !Nat.beq (P.bytesOf e) 0)
     ((0<=l/\l<=c/\c*(P.bytesOf e:Int)<=2^48)∧
      Q2j w (.cells (QK P e c.toNat) e) fun b w'=>K (.slice (some ⟨b,0,none⟩) l.toNat c.toNat) w') False
   |_=>False
  |_=>False
 |_=>False
def QFj(w:World)(r:Option Nat)(es:Array MapEntry)(c:Nat):Prop:=
 match r with
 |some m=>w.heap[m]? =some (.map es c)
 |none=>es= #[]/\c=0
def Qpa(P:Program)(t:TypeId)(x:Value)(w:World)(K:Value->World->Prop):Prop:=
 match P.underlying t with
 |some (.map _ _)=>match x with
  | .map r=>∃es c,QFj w r es c/\Q2j w (.mapIter r c #[] c) fun b w'=>K (Qpg b) w'
  |_=>False
 |_=>False
def Q2e(w:World)(p:Addr)(T:Value->Value->World->Prop)(E:World->Prop):Prop:=
 p.off=0/\∃m since seen last,
   w.heap[p.block]? =some (.mapIter m since seen last)∧
   (m=none->E w)∧
   (∀r,m=some r->∃es clock,w.heap[r]? =some (.map es clock)∧
    (seen= #[]\/es= #[]\/∃e∈es,e.born<last)∧
    (∀e∈es,e.born∉seen->∀d,T e.key e.val {w with drawn:=d,heap:=w.heap.setIfInBounds p.block (.mapIter (some r) since (seen.push e.born) clock)})∧
    ((∀e∈es,e.born∉seen->since<=e.born)->∀d,E {w with drawn:=d}))
def Q4i(it:Value)(w:World)(K:Value->World->Prop):Prop:=
 match it with
 | .pointer p=>Qv0 p fun p=>Q2e w p (fun k v w'=>K (.tuple #[.bool true,k,v]) w') (fun w'=>K (.tuple #[.bool false]) w')
 |_=>False
def QFc(P:Program)(t:TypeId)(m k:Value)(w:World)(K:Value->World->Prop):Prop:=
 match P.underlying t with
 |some (.map _ e)=>exT P e fun v=>∃(n:Int)(w':World),(Instr.mapEntry t m k).run P w= .ok (.tuple #[v, .int .i64 n]) w'/\K (.tuple #[v, .int .i64 n]) w'
 |_=>False
def Qtj(P:Program)(o:Op)(ty:TypeId)(ev:Operand->Value)(w:World)(K:Value->World->Prop):Prop:=
 match o with
 | .store t a v=>QLa P t (ev a) (ev v) w fun w'=>K undef w'
 | .alloc t=>Q9 (Qo1 P t).isSome (Q2j w (.cells (Qc P t).toArray t) fun b w'=>K (Qpg b) w') False
 | .box t v=>Q2j w (.cells (ev v).cells t) fun b w'=>K (Qpg b) w'
 | .buildSlice t len parts=>Q72 P t len (parts.toList.map fun(i,x)=>(i,ev x)) w K
 | .makeMap _ none=>Q2j w (.map #[] 0) fun b w'=>K (.map (some b)) w'
 | .makeSlice t l c=>QN2 P t (ev l) (ev c) w K
 | .call {callee:= .value f,args:=args, .. }=>Q48 P (ev f) (args.toList.map ev) w K
 | .call {callee:= .builtin .append,args:=args,argTypes:=ts}=>Q9c P ty (Builtin.append_ ts ty (args.map ev)) w K
 | .call {callee:= .builtin .copy,args:=args,argTypes:=ts}=>Q9c P ty (Builtin.copy_ ts ty (args.map ev)) w K
 | .call {callee:= .builtin .delete,args:=args,argTypes:=ts}=>Q9c P ty (Builtin.delete_ ts ty (args.map ev)) w K
 | .call {callee:= .builtin .clear,args:=args,argTypes:=ts}=>Q9c P ty (Builtin.clear_ ts ty (args.map ev)) w K
 | .mapUpdate t m k v=>Qsi P (Instr.mapUpdate t (ev m) (ev k) (ev v)) w K
 | .insert t m k v=>Qsi P (Instr.mapUpdate t (ev m) (ev k) (ev v)) w K
 | .mapEntry t m k=>QFc P t (ev m) (ev k) w K
 | .entryStore t m s v=>Qsi P (Instr.entryStore t (ev m) (ev s) (ev v)) w K
 | .convert s d x=>Q9c P d (convert s d (ev x)) w K
 | .range t x=>Qpa P t (ev x) w K
 | .next it false=>Q4i (ev it) w K
 |_=>False
theorem QW7{P:Program}{p:Addr}{K:World->Prop}:∀{vs:List Value}{i:Nat}{w:World},QA6 w p vs i K→
  ∃w',K w'/\(storeCells p vs i).run P w= .ok () w':=by
 intro vs
 induction vs with
 |nil=>intro i w h;exact⟨w,h,rfl⟩
 |cons v vs ih=>
  intro i w h;obtain⟨⟨⟨old,a⟩,d⟩,h⟩:=h;rcases Qk h with⟨hs,h⟩|⟨_,h⟩
  ·obtain⟨w',e,f⟩:=ih (h _ rfl)
   refine⟨w',e,?_⟩;have g:(store (p.add i) v).run P w= .ok () (w.setCell (p.add i) v):=by
    cases v<;>first
     |(simp[Qf3]at hs;done)
     |simp[store,Sem.run,a,d]
   simp only[storeCells,Sem.run_bind,g,Result.andThen,f]
  ·exact h.elim
theorem QMa{P:Program}{t:TypeId}{x v:Value}{w:World}{K:World->Prop}(h:QLa P t x v w K):
  ∃w',K w'/\(Instr.storeAt t x v).run P w= .ok () w':=by
 unfold QLa at h
 split at h
 ·obtain⟨p,rfl,h⟩:=Qe2 h
  rcases Qk h with⟨hb,h⟩|⟨_,h⟩
  ·simp only[Bool.and_eq_true]at hb
   obtain⟨w',a,d⟩:=QW7 (P:=P) h;have e:=Nat.eq_of_beq_eq_true hb.1;refine⟨w',a,?_⟩;simp only[Instr.storeAt,Instr.sureAddr,storeVar,Sem.run_bind,Sem.run_pure,Result.andThen,Qi0 hb.2];rw[Array.length_toList]at e;rw[if_neg (by simp[e])];simp[d]
  ·exact h.elim
 ·exact h.elim
theorem QC6{P:Program}{t:TypeId}{z:Value}(a:Qo1 P t=some z)(w:World):(zeroValue t).run P w= .ok z w:=by
 unfold Qo1 at a;cases hi:P.info? t with
 |none=>simp[hi]at a
 |some i=>simp[hi]at a;simp[zeroValue,typeInfo,hi,a]
theorem Qtg(z:Array Value)(n:Nat):(Array.range (n*z.size)).map (fun i=>z[i % z.size]!)=((List.replicate n z.toList).flatten).toArray:=by
 apply Array.toList_inj.1;simp only[Array.toList_map,Array.toList_range]
 induction n with
 |zero=>simp
 |succ n ih=>
  rw[Nat.succ_mul,List.range_add,List.map_append,ih,List.replicate_succ',List.flatten_append]
  congr 1
  simp only[List.map_map,List.flatten_singleton];apply List.ext_getElem
  ·simp
  ·intro i a d
   simp only[List.length_map,List.length_range]at a;simp[Nat.mod_eq_of_lt a,a]
theorem QXk{P:Program}{e:TypeId}{z:Value}(g:Qo1 P e=some z)(a:z.cells.size=P.cellsOf e)(n:Nat)(w:World):
  ∃f:Array Value,(∀F:Array Value->Sem Value,(if n*P.cellsOf e=0 then(do let zero←pure #[];F zero)else(do let v←zeroValue e;let zero←pure v.cells;F zero)).run P w=(F f).run P w)∧
   (Array.range (n*P.cellsOf e)).map (fun i=>f[i % f.size]!)=((List.replicate n z.cells.toList).flatten).toArray:=by
 by_cases d:n*P.cellsOf e=0
 ·refine⟨#[],fun F=>by rw[if_pos d];simp,?_⟩
  rw[d];have:(List.replicate n z.cells.toList).flatten.length=0:=by simp[a,d]
  rw[List.eq_nil_of_length_eq_zero this];simp
 ·refine⟨z.cells,fun F=>by rw[if_neg d];simp[QC6 g],?_⟩
  rw[←a];exact Qtg _ _
theorem Qe3{P:Program}(e:TypeId)(cells:Array Value)(l c:Nat)(w:World):
  (do pure (Value.slice (some (←newRow e cells)) l c):Sem Value).run P w= .ok (.slice (some ⟨w.heap.size,0,none⟩) l c) (w.alloc (.cells cells e)):=rfl
theorem Qg5{P:Program}{t:TypeId}{len:Nat}{parts:Array (Nat×Value)}{w:World}{K:Value->World->Prop}
  (h:Q72 P t len parts.toList w K):∃v w',K v w'/\(Instr.buildSlice t len parts).run P w= .ok v w':=by
 unfold Q72 at h
 split at h
 ·rename_i e m
  rcases Qk h with⟨hb,h⟩|⟨_,h⟩
  ·simp only[Bool.and_eq_true,Nat.ble_eq]at hb
   obtain⟨⟨⟨n,f⟩,hi⟩,a⟩:=hb;have a:=Nat.eq_of_beq_eq_true a
   split at h
   ·rename_i cells o
    refine⟨_,_,h _ _ ⟨rfl,rfl⟩,?_⟩;obtain⟨z,k⟩:=Option.isSome_iff_exists.1 f;have g:Qc P e=z.cells.toList:=by simp[Qc,k]
    have l:=QJc o;rw[g]at l a;rw[Array.length_toList]at a;have d:=QXk (P:=P) k a len w;simp only[Instr.buildSlice,Sem.run_bind,Q3 m,Result.andThen,Qi0 hi];rw[if_neg (by omega)];obtain⟨p,i,j⟩:=d;refine(i _).trans ?_;rw[j,l];exact Qe3 _ _ _ _ _
   ·exact h.elim
  ·exact h.elim
 ·exact h.elim
theorem Qf6{P:Program}{t:TypeId}{l c:Value}{w:World}{K:Value->World->Prop}
  (h:QN2 P t l c w K):∃v w',K v w'/\(Instr.makeSlice t l c).run P w= .ok v w':=by
 unfold QN2 at h
 split at h
 ·rename_i e y
  split at h
  ·rename_i k l
   split at h
   ·rename_i C c
    rcases Qk h with⟨hb,⟨D,E,F⟩,h⟩|⟨_,h⟩
    ·simp only[Bool.and_eq_true,Bool.not_eq_true']at hb
     obtain⟨⟨⟨m,hi⟩,a⟩,g⟩:=hb;have a:=Nat.eq_of_beq_eq_true a;have u:P.bytesOf e≠0:=fun A=>by rw[A]at g;simp at g
     refine⟨_,_,h _ _ ⟨rfl,rfl⟩,?_⟩;obtain⟨z,x⟩:=Option.isSome_iff_exists.1 m;obtain⟨inf,f⟩:=Option.isSome_iff_exists.1 hi;have d:inf.bytes=P.bytesOf e:=by simp[Program.bytesOf,f]
     have i:Qc P e=z.cells.toList:=by simp[Qc,x]
     rw[i,Array.length_toList]at a;have B:c<=2^48:=by
      have:c*1<=c*(P.bytesOf e:Int):=Int.mul_le_mul_of_nonneg_left (by omega) (by omega);omega
     have wl:IntKind.i64.wrap l=l:=IntWalk.i64_in _ ⟨by omega,by omega⟩;have wc:IntKind.i64.wrap c=c:=IntWalk.i64_in _ ⟨by omega,by omega⟩;have o:(typeInfo e).run P w= .ok inf w:=by simp[typeInfo,f]
     have p:¬((P.bytesOf e:Int)*c>2^48):=by rw[Int.mul_comm];omega
     have q:¬(c<0):=by omega
     obtain⟨G,r,s⟩:=QXk (P:=P) x a c.toNat w;simp only[Instr.makeSlice,Sem.run_bind,Q3 y,Result.andThen,asInt,asIntOf,Sem.run_pure,o,wl,wc,d];rw[if_neg (by simp only[p,q];simp;omega)];have j:∀n,(askRoom n).run P w= .ok () w:=by intro n;unfold askRoom;split<;>rfl
     simp only[Sem.run_bind,j,Result.andThen,Qi0 hi];refine(r _).trans ?_;rw[QK,i,s];exact Qe3 _ _ _ _ _
    ·exact h.elim
   ·exact h.elim
  ·exact h.elim
 ·exact h.elim
theorem QH9{P:Program}(hP:∀f fn,P.funcs[f]? =some fn->fn.body.isSome=true->∀args w,(callFunc f args).run P w= .ok (.enter f args) w)
  {f:FuncId} {args:Array Value} {w:World} {K:Value->World->Prop} {o:Oper} {a:Act} {next:Act->World->Prop} {Q:Exit->Act->World->Prop}
  (i:∀v w,K v w->next (a.put o.dst v) w) (h:QG9 P f args w K):o.upon P a next Q ((callFunc f args).run P w):=by
 unfold QG9 at h
 split at h
 ·rename_i fn j
  rcases Qk h with⟨hb,h⟩|⟨_,h⟩
  ·rw[hP f fn j hb]
   rw[Oper.upon_enter];refine Calls.mono h fun e w' d=> ?_
   split at d
   ·obtain⟨rfl,g⟩:=d;exact i _ _ g
   ·obtain⟨v,rfl,g⟩:=QC0 d;exact i _ _ g
   ·obtain⟨v,d⟩:=QC0 d;obtain⟨x,rfl,g⟩:=QC0 d;exact i _ _ g
   ·obtain⟨v,d⟩:=QC0 d;obtain⟨x,d⟩:=QC0 d;obtain⟨y,rfl,g⟩:=QC0 d;exact i _ _ g
   ·obtain⟨v,rfl,g⟩:=d;exact i _ _ g
  ·exact h.elim
 ·exact h.elim
theorem Qqa{P:Program}{t:TypeId}{x:Value}{w:World}{K:Value->World->Prop}(h:Qpa P t x w K):
  ∃v w',K v w'/\(Instr.range t x).run P w= .ok v w':=by
 unfold Qpa at h
 split at h
 ·rename_i kt et a
  split at h
  ·rename_i r
   obtain⟨es,c,d,e⟩:=h;refine⟨_,_,e _ _ ⟨rfl,rfl⟩,?_⟩;cases r with
   |none=>
    obtain⟨rfl,rfl⟩:=d;simp only[Instr.range,Sem.run_bind,Q3 a,Result.andThen]
    rfl
   |some m=>
    simp only[Instr.range,Sem.run_bind,Q3 a,Result.andThen,Qu (r:=m) d]
    rfl
  ·exact h.elim
 ·exact h.elim
theorem QV7{P:Program}{α:Type}(q:Question)(F:Nat->Sem α)(w:World):
  ∃n d,(Sem.bind (choose q) F).run P w=(F n).run P {w with drawn:=d}/\((q.forced=true/\n=0)\/n=q.cut (w.tape w.drawn q)):=by
 by_cases a:q.forced=true
 ·exact⟨0,w.drawn,by simp[choose,Sem.bind,Sem.run,a], .inl ⟨a,rfl⟩⟩
 ·exact⟨q.cut (w.tape w.drawn q),w.drawn+1,by simp[choose,Sem.bind,Sem.run,a], .inr rfl⟩
theorem QKb{P:Program}{it:Value}{ty:TypeId}{w:World}{K:Value->World->Prop}(h:Q4i it w K):
  ∃v w',K v w'/\(Instr.next it false ty).run P w= .ok v w':=by
 unfold Q4i at h
 split at h
 ·obtain⟨⟨b,off,spot⟩,rfl,l,m,since,seen,last,hi,t,k⟩:=Qe2 h
  simp only at l hi k;subst l;cases m with
  |none=>
   refine⟨_,_,t rfl,?_⟩;simp only[Instr.next,Sem.run_bind,Qf2 hi,Result.andThen]
   rfl
  |some r=>
   obtain⟨es,clock,J,u,x,z⟩:=k r rfl;have L:(!seen.isEmpty&& !es.isEmpty&&es.all (·.born≥last))=false:=by
    rcases u with rfl|rfl|⟨e,j,A⟩
    ·simp
    ·simp
    ·have:es.all (·.born≥last)=false:=by
      rw[Bool.eq_false_iff];intro o;rw[Array.all_eq_true_iff_forall_mem]at o;have:=o e j;simp at this;omega
     simp[this]
   generalize g:es.filter (fun e=> !seen.contains e.born)=left;generalize i:left.filter (fun e=>e.born<since)=old;generalize p:left.filter (fun e=>e.born≥since)=new;generalize a:(if old.isEmpty then #[none]else #[])++(old++new).map some=cands;have B:∃n d,(Instr.next (.pointer (some ⟨b,0,spot⟩)) false ty).run P w=
     (match cands[n]? with
      |some (some e)=>(do setObj b (.mapIter (some r) since (seen.push e.born) clock);pure (.tuple #[.bool true,e.key,e.val]):Sem Value)
      |some none=>pure (.tuple #[.bool false])
      | none => stuck "Next: no such candidate").run P { w with drawn := d } /\ n < cands.size := by
    obtain⟨n,d,y,C⟩:=QV7 (P:=P) (.mapNext cands.size) (fun n=>(match cands[n]? with
      |some (some e)=>(do setObj b (.mapIter (some r) since (seen.push e.born) clock);pure (.tuple #[.bool true,e.key,e.val]):Sem Value)
      |some none=>pure (.tuple #[.bool false])
      | none => stuck "Next: no such candidate")) w
    refine⟨n,d,?_,?_⟩
    ·rw[←y]
     simp only[Instr.next,Sem.run_bind,Qf2 hi,Result.andThen,Qu J];rw[if_neg (by rw[L];simp)];rw[g,i,p,a]
     rfl
    ·have q:0<cands.size:=by
      rw[←a]
      by_cases j:old.isEmpty=true
      ·simp[j];omega
      ·have:0<old.size:=by
        simp at j;exact Array.size_pos_iff.2 j
       simp[j];omega
     rcases C with⟨_,rfl⟩|rfl
     ·exact q
     ·exact Nat.mod_lt _ q
   obtain⟨n,d,y,C⟩:=B;have D:cands[n]? =some cands[n]:=by simp[C]
   rw[D]at y;cases F:cands[n]with
   |none=>
    rw[F]at y;refine⟨_,_,z ?_ d,y⟩;have f:none∈cands:=F▸Array.getElem_mem C;intro e j G;rw[←a]at f
    by_cases s:old.isEmpty=true
    ·have M:old= #[]:=by simpa using s
     rw[M]at i
     by_cases A:e.born<since
     ·have:e∈left.filter (fun e=>e.born<since):=by
       rw[Array.mem_filter,←g,Array.mem_filter];exact⟨⟨j,by simpa using G⟩,by simpa using A⟩
      rw[i]at this;simp at this
     ·omega
    ·simp[s]at f
   |some e=>
    rw[F]at y;have f:some e∈cands:=F▸Array.getElem_mem C;have j:e∈left:=by
     rw[←a]at f;simp only[Array.mem_append,Array.mem_map]at f;rcases f with f|⟨N,H,E⟩
     ·split at f<;>simp at f
     ·simp only[Option.some.injEq]at E
      subst E;rcases H with h|h
      ·rw[←i,Array.mem_filter]at h;exact h.1
      ·rw[←p,Array.mem_filter]at h;exact h.1
    rw[←g,Array.mem_filter]at j;refine⟨_,_,x e j.1 (by simpa using j.2) d,?_⟩;rw[y];have I:({w with drawn:=d}:World).heap[b]? =some (.mapIter (some r) since seen last):=hi;simp only[Sem.run_bind,Qv1 I (by intros;simp),Result.andThen,Sem.run_pure]
 ·exact h.elim
theorem QDh{P:Program}{ev:Operand->Value}{o:Oper}{s:Sem Unit}{w w':World}
  (a:execOp ev o=(do s;pure .skip)) (hs:s.run P w= .ok () w'):(execOp ev o).run P w= .ok .skip w':=by
 rw[a];simp[hs]
def QJ1(P:Program):Prop:=∀f fn,P.funcs[f]? =some fn->fn.body.isSome=true->∀args w,(callFunc f args).run P w= .ok (.enter f args) w
theorem Qd8{P:Program}(hP:QJ1 P){o:Oper}{a:Act}{w:World}{next:Act->World->Prop}{Q:Exit->Act->World->Prop}
  {ev:Operand->Value} (y:execOp a.eval o=execOp ev o) {K:Value->World->Prop} (r:∀v w',K v w'->next (a.put o.dst v) w')
  (h:Qtj P o.op o.type ev w K):o.wp P a w next Q:=by
 unfold Oper.wp;rw[y];have val:∀{s:Sem Value}{v:Value}{w':World},execOp ev o=(do pure (Next.value (←s)))->s.run P w= .ok v w'->K v w'→
   o.upon P a next Q ((execOp ev o).run P w):=by
  intro s v w' p hs q;rw[Qf1 p hs,Oper.upon_value];exact r _ _ q
 have unt:∀{s:Sem Unit}{w':World},execOp ev o=(do s;pure .skip)->s.run P w= .ok () w'->K undef w'→
   o.upon P a next Q ((execOp ev o).run P w):=by
  intro s w' p hs q;rw[QDh p hs,Oper.upon_skip];exact r _ _ q
 have bi:∀{s:Sem Value}{v:Value}{w':World},(execOp ev o).run P w=(do pure (Next.value (←s)):Sem Next).run P w->s.run P w= .ok v w'->K v w'→
   o.upon P a next Q ((execOp ev o).run P w):=by
  intro s v w' p hs q;rw[p];simp only[Sem.run_bind,hs,Result.andThen,Sem.run_pure];exact r _ _ q
 unfold Qtj at h
 split at h
 ·rename_i t x v g
  obtain⟨w',i,j⟩:=QMa h;exact unt (by simp only[execOp,g]) j i
 ·rename_i t g
  rcases Qk h with⟨u,h⟩|⟨_,h⟩
  ·obtain⟨z,u⟩:=Option.isSome_iff_exists.1 u
   have A:Qc P t=z.cells.toList:=by simp[Qc,u]
   rw[A,Array.toArray_toList]at h
   exact val (s:=Instr.alloc t true (.tuple #[])) (by simp only[execOp,g]) (by
    simp only[Instr.alloc,Sem.run_bind,QC6 u,Result.andThen];rfl) (h _ _ ⟨rfl,rfl⟩)
  ·exact h.elim
 ·rename_i t v g
  exact val (s:=Instr.box t (ev v)) (by simp only[execOp,g]) (by rfl) (h _ _ ⟨rfl,rfl⟩)
 ·rename_i t len parts g
  obtain⟨v,w',i,j⟩:=Qg5 (parts:=parts.map fun x:Nat×Operand=>(x.1,ev x.2)) (by simpa using h);exact val (s:=Instr.buildSlice t len (parts.map fun x:Nat×Operand=>(x.1,ev x.2))) (by simp only[execOp,g]) j i
 ·rename_i t g
  exact val (s:=Instr.makeMap t none) (by simp only[execOp,g];rfl) (by rfl) (h _ _ ⟨rfl,rfl⟩)
 ·rename_i t l c g
  obtain⟨v,w',i,j⟩:=Qf6 h;exact val (by simp only[execOp,g]) j i
 ·rename_i f args ts g
  unfold Q48 at h
  split at h
  ·rename_i fid first captured B
   have e:(execOp ev o).run P w=(callFunc fid ((first.toList++(args.toList.map ev++captured.toList)).toArray)).run P w:=by
    have:(first++args.map ev)++captured=(first.toList++(args.toList.map ev++captured.toList)).toArray:=by
     apply Array.toList_inj.1;simp
    simp only[execOp,g,resolve,B,Deferred.ofValue,Sem.run_bind,Sem.run_pure,Result.andThen,invoke];rw[this]
   rw[e];exact QH9 hP r h
  ·exact h.elim
 ·rename_i args ts g
  obtain⟨v,w',j,i⟩:=QC0 h;exact bi (s:=Builtin.append_ ts o.type (args.map ev)) (by simp[execOp,g,resolve,invoke,builtin]) j i
 ·rename_i args ts g
  obtain⟨v,w',j,i⟩:=QC0 h;exact bi (s:=Builtin.copy_ ts o.type (args.map ev)) (by simp[execOp,g,resolve,invoke,builtin]) j i
 ·rename_i args ts g
  obtain⟨v,w',j,i⟩:=QC0 h;exact bi (s:=Builtin.delete_ ts o.type (args.map ev)) (by simp[execOp,g,resolve,invoke,builtin]) j i
 ·rename_i args ts g
  obtain⟨v,w',j,i⟩:=QC0 h;exact bi (s:=Builtin.clear_ ts o.type (args.map ev)) (by simp[execOp,g,resolve,invoke,builtin]) j i
 ·rename_i t m k v g
  obtain⟨w',j,i⟩:=h;exact unt (by simp only[execOp,g]) j i
 ·rename_i t m k v g
  obtain⟨w',j,i⟩:=h;exact unt (by simp only[execOp,g]) j i
 ·rename_i t m k g
  unfold QFc at h
  split at h
  ·obtain⟨v,n,w',j,i⟩:=QC0 h
   exact val (by simp only[execOp,g]) j i
  ·exact h.elim
 ·rename_i t m k v g
  obtain⟨w',j,i⟩:=h;exact unt (by simp only[execOp,g]) j i
 ·rename_i s d x g
  obtain⟨v,w',j,i⟩:=QC0 h;exact val (by simp only[execOp,g]) j i
 ·rename_i t x g
  obtain⟨v,w',i,j⟩:=Qqa h;exact val (by simp only[execOp,g]) j i
 ·rename_i it g
  obtain⟨v,w',i,j⟩:=QKb h;exact val (s:=Instr.next (ev it) false o.type) (by simp only[execOp,g]) j i
 ·exact h.elim
end Go.Vc
