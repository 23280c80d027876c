import Derived.Test.YtkolafpgbhpdlaaGreatVcB
namespace Go.Vc
open Go
def Qy:List Value->Nat->Value
 | [],_=>undef
 |v::_,0=>v
 |_::l,n+1=>Qy l n
def Qv9:List Value->Nat->Value->List Value
 | [],_,_=>[]
 |_::l,0,v=>v::l
 |x::l,n+1,v=>x::Qv9 l n v
theorem Qx2:∀(l:List Value)(n:Nat),Qy l n=l[n]?.getD undef
 | [],_=>by simp[Qy]
 |_::_,0=>by simp[Qy]
 |_::l,n+1=>by simp[Qy,Qx2 l n]
theorem Qa7:∀(l:List Value)(n:Nat)(v:Value),Qv9 l n v=l.set n v
 | [],_,_=>by simp[Qv9]
 |_::_,0,_=>by simp[Qv9]
 |_::l,n+1,v=>by simp[Qv9,Qa7 l n v]
theorem Q51(l:List Value)(n:Nat)(v:Value):(Qv9 l n v).length=l.length:=by simp[Qa7]
theorem Qt3{l:List Value}{n m:Nat}{v:Value}(h:n≠m):Qy (Qv9 l n v) m=Qy l m:=by
 simp[Qx2,Qa7,List.getElem?_set_ne h]
theorem Qw0{l:List Value}{n:Nat}{v:Value}(h:n<l.length):Qy (Qv9 l n v) n=v:=by
 simp[Qx2,Qa7,h]
def QZ(ds:List Deferred)(env:List Value):Act:=⟨env.toArray,ds⟩
variable {ds:List Deferred}
def evL(env:List Value):Operand->Value
 | .tmp t=>Qy env t
 | .const v=>v
 | .global g=> .pointer (some ⟨g,0,none⟩)
 | .func f=> .func (.func f) #[] #[]
theorem QU9(env:List Value):(QZ ds env).eval=evL env:=by
 funext x
 cases x<;>simp[QZ,Act.eval,evL,Qx2]
def QR2(env:List Value)(dst:Option Nat)(v:Value):List Value:=
 match dst with
 |some d=>Qv9 env d v
 |none=>env
theorem QB5(env:List Value)(dst:Option Nat)(v:Value):(QZ ds env).put dst v=QZ ds (QR2 env dst v):=by
 cases dst<;>simp[QZ,Act.put,QR2,Qa7]
theorem Q00(env:List Value)(dst:Option Nat)(v:Value):(QR2 env dst v).length=env.length:=by
 cases dst<;>simp[QR2,Q51]
def QQ8(ops:List Oper)(i:Nat):Bool:=ops.any fun o=>match o.guard with|some (j,_)=>Nat.beq j i|none=>false
def Q6j(v:Value)(F:Value->Prop):Prop:=
 match v with
 | .bool c=>Q9 c (F (.bool true)) (F (.bool false))
 |v=>F v
def Q9h(g:Bool)(v:Value)(F:Value->Prop):Prop:=
 match g with
 |true=>Q6j v F
 |false=>F v
theorem QL4{g:Bool}{v:Value}{F:Value->Prop}(h:Q9h g v F):F v:=by
 cases g
 ·exact h
 ·unfold Q9h Q6j at h
  cases v with
  |bool c=>cases c<;>exact h
  |_=>exact h
def Qp0(ops:List Oper)(o:Oper)(env:List Value):Bool:=
 match o.guard with
 |none=>true
 |some (j,want)=>match ops[j]? with
  |some g=>match g.dst with
   |some d=>match Qy env d with
    | .bool b=>match want with
     |true=>b
     |false=> !b
    |_=>false
   |none=>false
  |none=>false
theorem Qz8(ops:List Oper)(o:Oper)(env:List Value):
  Region.wanted o (yielded ops.toArray env.toArray)=Qp0 ops o env:=by
 unfold Region.wanted Qp0;cases e:o.guard with
 |none=>rfl
 |some jw=>
  obtain⟨j,want⟩:=jw;simp only[yielded,List.getElem?_toArray];cases f:ops[j]? with
  |none=>simp
  |some g=>
   cases a:g.dst with
   |none=>simp[a]
   |some d=>
    simp only[Option.bind_some,a,Qx2];cases h:env[d]? with
    |none=>simp[undef]
    |some v=>
     cases v<;>simp;rename_i b;cases b<;>cases want<;>rfl
def QU7(P:Program)(ops:List Oper)(g:Bool)(o:Oper)(env:List Value)(w:World)(K:Value->Prop):Prop:=
 match Qk0 P o.op with
 | .pure=>Qz3 P o.op (evL env) fun v=>Q9h g v K
 | .mem=>Q9 (match o.op with| .load t _=>(P.underlying t).isSome|_=>true) (Qdh P ops o.dst o.op (evL env) w fun v=>Q9h g v K) False
 | .eff=>False
theorem Q83{P:Program}{ops:List Oper}{g:Bool}{o:Oper}{env:List Value}{w:World}{K:Value->Prop}(h:QU7 P ops g o env w K):
  ∃v,K v/\(execOp (evL env) o).run P w= .ok (.value v) w/\(Qk0 P o.op= .pure->∀w',(execOp (evL env) o).run P w'= .ok (.value v) w'):=by
 unfold QU7 at h
 split at h
 ·obtain⟨v,e,d⟩:=QQb h
  exact⟨v,QL4 e,d w,fun _=>d⟩
 ·rename_i j
  rcases Qk h with⟨f,h⟩|⟨_,h⟩
  ·obtain⟨v,e,d⟩:=Q0e (by
    intro t a k l;rw[k]at f
    simp[l]at f) h
   exact⟨v,QL4 e,d,fun i=>by rw[j]at i;cases i⟩
  ·exact h.elim
 ·exact h.elim
def opW(P:Program)(ops:List Oper)(g:Bool)(o:Oper)(env:List Value)(w:World)(next:List Value->World->Prop):Prop:=
 Q9 (Qp0 ops o env)
  (match Qk0 P o.op with
   | .eff=>Qtj P o.op o.type (evL env) w fun v w'=>Q9h g v fun v=>next (QR2 env o.dst v) w'
   |_=>QU7 P ops g o env w fun v=>next (QR2 env o.dst v) w)
  (next (QR2 env o.dst undef) w)
def Qjl(P:Program)(ops:List Oper):List Oper->Nat->List Value->World->(List Value->World->Prop)->Prop
 | [],_,env,w,K=>K env w
 |o::rest,i,env,w,K=>opW P ops (QQ8 ops i) o env w fun env' w'=>Qjl P ops rest (i+1) env' w' K
def up(ds:List Deferred)(Q:Exit->List Value->World->Prop):Exit->Act->World->Prop:=fun e a w=>∃env,a=QZ ds env/\Q e env w
theorem Qig{P:Program}(hP:QJ1 P){ops:List Oper}{g:Bool}{o:Oper}{env:List Value}{w:World}{next:List Value->World->Prop}
  {Q:Exit->Act->World->Prop} (h:opW P ops g o env w next):
  if Region.wanted o (yielded ops.toArray (QZ ds env).tmps)then o.wp P (QZ ds env) w (fun a w=>∃env',a=QZ ds env'/\(∃v,env'=QR2 env o.dst v)/\next env' w) Q
  else(∃env',(QZ ds env).put o.dst undef=QZ ds env'/\(∃v,env'=QR2 env o.dst v)/\next env' w):=by
 have e:Region.wanted o (yielded ops.toArray (QZ ds env).tmps)=Qp0 ops o env:=Qz8 ops o env;rw[e];rcases Qk h with⟨hb,h⟩|⟨hb,h⟩
 ·rw[if_pos hb]
  split at h
  ·exact Qd8 hP (by rw[QU9]) (fun v w' f=>⟨_,QB5 _ _ _,⟨v,rfl⟩,QL4 f⟩) h
  ·obtain⟨v,i,d,_⟩:=Q83 h
   rw[←QU9]at d;unfold Oper.wp;rw[d,Oper.upon_value];exact⟨_,QB5 _ _ _,⟨v,rfl⟩,i⟩
 ·rw[hb,if_neg (by simp)]
  exact⟨_,QB5 _ _ _,⟨undef,rfl⟩,h⟩
def Frm(S:List Nat)(env env':List Value):Prop:=env'.length=env.length/\∀i,i∉S->Qy env' i=Qy env i
theorem Frm.refl(S:List Nat)(env:List Value):Frm S env env:=⟨rfl,fun _ _=>rfl⟩
theorem Frm.trans{S:List Nat}{a b c:List Value}(h:Frm S a b)(k:Frm S b c):Frm S a c:=
 ⟨k.1.trans h.1,fun i hi=>(k.2 i hi).trans (h.2 i hi)⟩
theorem Frm.mono{S T:List Nat}{a b:List Value}(h:Frm S a b)(hs:∀i,i∈S->i∈T):Frm T a b:=
 ⟨h.1,fun i hi=>h.2 i fun d=>hi (hs i d)⟩
theorem Frm.put{S:List Nat}(env:List Value)(dst:Option Nat)(v:Value)(h:∀d,dst=some d->d∈S):Frm S env (QR2 env dst v):=by
 refine⟨Q00 _ _ _,fun i hi=> ?_⟩;cases dst with
 |none=>rfl
 |some d=>exact Qt3 fun e=>hi (e▸h d rfl)
def Quh(ops:List Oper):List Nat:=ops.filterMap (·.dst)
def Qv2:Code->List Nat
 | .region _ ops _=>Quh ops.toList
 | .seq a b=>Qv2 a++Qv2 b
 | .cond _ a b=>Qv2 a++Qv2 b
 | .block _ b=>Qv2 b
 | .loop b=>Qv2 b
 | .scope b=>Qv2 b
 |_=>[]
def Q1j(n:Nat):List Nat->Bool
 | []=>false
 |m::l=>Nat.beq m n||Q1j n l
def Qpl(a b:List Nat):Bool:=a.all fun n=>Q1j n b
theorem Qt6{n:Nat}:∀{l:List Nat},Q1j n l=true↔n∈l
 | []=>by simp[Q1j]
 |m::l=>by
  simp only[Q1j,Bool.or_eq_true,Qt6 (l:=l),List.mem_cons];constructor
  ·rintro(h|h)
   ·exact .inl (Nat.eq_of_beq_eq_true h).symm
   ·exact .inr h
  ·rintro(rfl|h)
   ·exact .inl (Nat.beq_refl _)
   ·exact .inr h
theorem Qxi{a b:List Nat}(h:Qpl a b=true):∀i,i∈a->i∈b:=by
 intro i hi;simp only[Qpl,List.all_eq_true]at h;exact Qt6.1 (h i hi)
def upF(ds:List Deferred)(S:List Nat)(env:List Value)(Q:Exit->List Value->World->Prop):Exit->Act->World->Prop:=
 fun e a w=>∃env',a=QZ ds env'/\Frm S env env'/\Q e env' w
theorem Q4e{P:Program}(hP:QJ1 P){ops:List Oper}{Q:Exit->List Value->World->Prop}{S:List Nat}{env0:List Value}:
  ∀(rest:List Oper)(i:Nat)(env:List Value)(w:World),(∀o∈rest,∀d,o.dst=some d->d∈S)->Frm S env0 env→
  Qjl P ops rest i env w (Q .normal)->wpList P ops.toArray (upF ds S env0 Q) rest (QZ ds env) w:=by
 intro rest
 induction rest with
 |nil=>intro i env w _ e h;exact⟨env,rfl,e,h⟩
 |cons o rest ih=>
  intro i env w hS e h;have f:=Qig (ds:=ds) hP (Q:=upF ds S env0 Q) h;unfold wpList
  split
  ·rename_i g
   rw[if_pos g]at f;refine .inl (Oper.wp_mono ?_ f);rintro a w' ⟨env',rfl,⟨v,rfl⟩,j⟩;exact ih _ _ _ (fun o k=>hS o (List.mem_cons_of_mem _ k)) (e.trans (Frm.put _ _ _ (hS o List.mem_cons_self))) j
  ·rename_i g
   rw[if_neg g]at f;obtain⟨env',l,⟨v,rfl⟩,j⟩:=f;rw[l];exact ih _ _ _ (fun o k=>hS o (List.mem_cons_of_mem _ k)) (e.trans (Frm.put _ _ _ (hS o List.mem_cons_self))) j
def Qn4(o:Oper):Nat:=o.after.toList.foldl (fun m e=>match Region.binds .any e with|true=>m|||2^e.on|false=>m) 0
def Q14:List Oper->List Nat->List Nat
 | [],acc=>acc
 |o::rest,acc=>
  Q14 rest (acc++ [o.after.toList.foldl (fun m e=>match Region.binds .any e with|true=>m|||2^e.on|||acc.getD e.on 0|false=>m) 0])
def QXd(P:Program)(o:Oper):Bool:=match Qk0 P o.op with| .eff=>true|_=>false
def Qd2(ops:List Oper)(o:Oper):List Nat:=
 (o.op.operands.toList.filterMap fun| .tmp t=>some t|_=>none)++
 (match o.guard with
  |some (g,_)=>((ops[g]?).bind (·.dst)).toList
  |none=>[])
def Q17(P:Program)(ops:List Oper)(ancs:List Nat):List Bool:=
 ops.zipIdx.map fun(o,i)=>QXd P o||(match o.dst with
  |some d=>ops.zipIdx.any fun(x,j)=>Q1j d (Qd2 ops x)&&(ancs.getD i 0).testBit j
  |none=>false)
def Qsf(P:Program)(ops:List Oper)(ancs:List Nat)(fl:List Bool):Bool:=
 Nat.beq ancs.length ops.length&&
 ops.zipIdx.all fun(o,j)=>
  (fl.getD j true|| !QXd P o)&&(match o.op with| .select _ _=>false|_=>true)&&
  (o.after.toList.all fun e=>match Region.binds .any e with|true=>Nat.blt e.on j&&(ancs.getD j 0).testBit e.on|false=>true)&&
  (List.range ops.length).all fun i=>
   (match(ancs.getD j 0).testBit i with
    |true=>o.after.toList.any fun e=>Region.binds .any e&&Nat.blt e.on j&&(Nat.beq e.on i||(ancs.getD e.on 0).testBit i)
    |false=>true)&&
   (match ops[i]? with
    |some x=>match x.dst with
     |some d=>(Nat.beq i j&& !Q1j d (Qd2 ops o))|| !(Q1j d (Qd2 ops o)||(match o.dst with|some d'=>Nat.beq d d'|none=>false))||
       (ancs.getD j 0).testBit i||(fl.getD i true&&(ancs.getD i 0).testBit j)
     |none=>true
    |none=>true)
def Q94(M:Nat)(o:Oper)(i:Nat):Bool:= !M.testBit i&&Nat.beq (Qn4 o&&&M) (Qn4 o)
def Qn0(fl:List Bool)(M:Nat):List Oper->Nat->Option (Nat×Oper)
 | [],_=>none
 |o::rest,i=>match Q94 M o i&& !fl.getD i true with
  |true=>some (i,o)
  |false=>Qn0 fl M rest (i+1)
def QI0(fl:List Bool)(M:Nat):List Oper->Nat->List (Nat×Oper)
 | [],_=>[]
 |o::rest,i=>match Q94 M o i&&fl.getD i true with
  |true=>(i,o)::QI0 fl M rest (i+1)
  |false=>QI0 fl M rest (i+1)
def QMi(l:List (Nat×Oper))(F:Nat->Oper->Prop):Prop:=
 match l with
 | []=>True
 | [(i,o)]=>F i o
 |(i,o)::rest=>F i o/\QMi rest F
def Q45(P:Program)(ops:List Oper)(fl:List Bool)(M anc:Nat):List Oper->Nat->List Value->World->Prop->Prop
 | [],_,_,_,K=>K
 |r::rest,i,env,w,K=>
  match M.testBit i&& !anc.testBit i&& !fl.getD i true&&(match Qk0 P r.op with| .mem=>true|_=>false)with
  |true=>Q9 (Qp0 ops r env) ((QU7 P ops false r env w fun v=>v=(match r.dst with|some d=>Qy env d|none=>v))/\Q45 P ops fl M anc rest (i+1) env w K) (Q45 P ops fl M anc rest (i+1) env w K)
  |false=>Q45 P ops fl M anc rest (i+1) env w K
def Qo3(P:Program)(ops:List Oper)(ancs:List Nat)(fl:List Bool):Nat->Nat->List Value->World->(List Value->World->Prop)->Prop
 |0,_,_,_,_=>False
 |fuel+1,M,env,w,K=>
  match Qn0 fl M ops 0 with
  |some (i,o)=>opW P ops (QQ8 ops i) o env w fun env' _=>Qo3 P ops ancs fl fuel (M|||2^i) env' w K
  |none=>match Nat.beq M (2^ops.length-1)with
   |true=>K env w
   |false=>QMi (QI0 fl M ops 0) fun i o=>
     opW P ops (QQ8 ops i) o env w fun env' w'=>Q45 P ops fl M (ancs.getD i 0) ops 0 env' w' (Qo3 P ops ancs fl fuel (M|||2^i) env' w' K)
theorem Q6{a b:Bool}(h:(a&&b)=true):a=true/\b=true:=by simpa using h
structure QD4(P:Program)(ops:List Oper)(ancs:List Nat)(fl:List Bool):Prop where
 flag:∀(j:Nat)(o:Oper),ops[j]? =some o->fl.getD j true=false->QXd P o=false
 sel:∀(j:Nat)(o:Oper),ops[j]? =some o->∀cs b,o.op≠ .select cs b
 edge:∀(j:Nat)(o:Oper),ops[j]? =some o->∀e∈o.after,Region.binds .any e=true->e.on<j
 anc:∀(j i:Nat)(o:Oper),ops[j]? =some o->i<ops.length->(ancs.getD j 0).testBit i=true→
  ∃e∈o.after,Region.binds .any e=true/\e.on<j/\(e.on=i\/(ancs.getD e.on 0).testBit i=true)
 slot:∀(i j:Nat)(x o:Oper)(d:Nat),ops[i]? =some x->ops[j]? =some o->x.dst=some d->(d∈Qd2 ops o\/(i≠j/\o.dst=some d))→
  (ancs.getD j 0).testBit i=true\/(fl.getD i true=true/\(ancs.getD i 0).testBit j=true)
theorem QW6{P:Program}{ops:List Oper}{ancs:List Nat}{fl:List Bool}(h:Qsf P ops ancs fl=true):QD4 P ops ancs fl:=by
 obtain⟨_,h⟩:=Q6 h;simp only[List.all_eq_true]at h
 have key:∀(j:Nat)(o:Oper),ops[j]? =some o->_:=fun j o f=>h (o,j) (by
  rw[List.mem_zipIdx_iff_getElem?];exact f)
 refine⟨?_,?_,?_,?_,?_⟩
 ·intro j o f t
  have:=(Q6 (Q6 (Q6 (key j o f)).1).1).1;rw[t]at this;simpa using this
 ·intro j o f cs b l
  have:=(Q6 (Q6 (Q6 (key j o f)).1).1).2;simp[l]at this
 ·intro j o f e l hb
  have:=(Q6 (Q6 (key j o f)).1).2;simp only[List.all_eq_true]at this;have a:=this e (by simpa using l);rw[hb]at a;simp only[Bool.and_eq_true]at a;exact Nat.le_of_ble_eq_true a.1
 ·intro j i o f hi ha
  have:=(Q6 (key j o f)).2;simp only[List.all_eq_true]at this;have a:=(Q6 (this i (List.mem_range.2 hi))).1;rw[ha]at a;simp only[List.any_eq_true,Bool.and_eq_true,Bool.or_eq_true]at a;obtain⟨e,l,⟨hb,m⟩,n⟩:=a;exact⟨e,by simpa using l,hb,Nat.le_of_ble_eq_true m,n.imp Nat.eq_of_beq_eq_true id⟩
 ·intro i j x o d hi f u g
  have p:i<ops.length:=(List.getElem?_eq_some_iff.1 hi).1;have:=(Q6 (key j o f)).2;simp only[List.all_eq_true]at this;have a:=(Q6 (this i (List.mem_range.2 p))).2;rw[hi]at a;simp only[u,Bool.or_eq_true,Bool.and_eq_true,Bool.not_eq_true']at a;rcases a with((a|a)|a)|a
  ·obtain⟨k,r⟩:=a
   have k:=Nat.eq_of_beq_eq_true k;rcases g with g|⟨q,_⟩
   ·rw[Qt6.2 g]at r;cases r
   ·exact(q k).elim
  ·simp only[Bool.or_eq_false_iff]at a
   rcases g with g|⟨_,g⟩
   ·rw[Qt6.2 g]at a;cases a.1
   ·have s:=a.2
    rw[g]at s;simp at s
  ·exact .inl a
  ·exact .inr a
theorem Q62{P:Program}{ops:List Oper}{ancs:List Nat}{fl:List Bool}(l:QD4 P ops ancs fl){S:Nat->Prop}
  (hS:∀(j:Nat)(o:Oper),ops[j]? =some o->S j->∀e∈o.after,Region.binds .any e=true->S e.on):
  ∀(j i:Nat)(o:Oper),ops[j]? =some o->i<ops.length->S j->(ancs.getD j 0).testBit i=true->S i:=by
 intro j
 induction j using Nat.strongRecOn with
 |_ j ih=>
  intro i o h hi k ha;obtain⟨e,m,hb,d,a⟩:=l.anc j i o h hi ha;have f:=hS j o h k e m hb;rcases a with rfl|a
  ·exact f
  ·have g:j<ops.length:=(List.getElem?_eq_some_iff.1 h).1
   exact ih e.on d i ops[e.on] (by simp[Nat.lt_trans d g]) hi f a
theorem QO5(o:Oper)(k:Nat):(Qn4 o).testBit k=true↔∃e∈o.after,Region.binds .any e=true/\e.on=k:=by
 unfold Qn4;have key:∀(l:List Edge)(m:Nat),(l.foldl (fun m e=>match Region.binds .any e with|true=>m|||2^e.on|false=>m) m).testBit k=true↔
   (m.testBit k=true\/∃e∈l,Region.binds .any e=true/\e.on=k):=by
  intro l
  induction l with
  |nil=>intro m;simp
  |cons e l ih=>
   intro m;simp only[List.foldl_cons];rw[ih];cases hb:Region.binds .any e
   ·simp[hb]
   ·simp only[Nat.testBit_or,Bool.or_eq_true,List.mem_cons,exists_eq_or_imp,hb,true_and,Nat.testBit_two_pow,decide_eq_true_eq]
    rw[or_assoc]
 rw[key];simp
theorem QCg{M:Nat}{o:Oper}{i:Nat}(hi:M.testBit i=false)(h:∀e∈o.after,Region.binds .any e=true->M.testBit e.on=true):
  Q94 M o i=true:=by
 unfold Q94;rw[hi];have:Qn4 o&&&M=Qn4 o:=by
  apply Nat.eq_of_testBit_eq;intro k;rw[Nat.testBit_and];cases a:(Qn4 o).testBit k
  ·rfl
  ·obtain⟨e,d,hb,rfl⟩:=(QO5 o k).1 a
   simp[h e d hb]
 simp[this]
theorem Q2c{M:Nat}{o:Oper}{i:Nat}(h:Q94 M o i=true):
  M.testBit i=false/\∀e∈o.after,Region.binds .any e=true->M.testBit e.on=true:=by
 obtain⟨f,a⟩:=Q6 h;refine⟨by simpa using f,fun e g hb=> ?_⟩;have a:=Nat.eq_of_beq_eq_true a;have d:=(QO5 o e.on).2 ⟨e,g,hb,rfl⟩;rw[←a,Nat.testBit_and]at d;exact(Q6 d).2
theorem Q24{fl:List Bool}{M:Nat}:∀{l:List Oper}{k i:Nat}{o:Oper},Qn0 fl M l k=some (i,o)→
  k<=i/\l[i-k]? =some o/\Q94 M o i=true/\fl.getD i true=false:=by
 intro l
 induction l with
 |nil=>intro k i o h;simp[Qn0]at h
 |cons x l ih=>
  intro k i o h;unfold Qn0 at h
  split at h
  ·rename_i hb
   simp only[Option.some.injEq,Prod.mk.injEq]at h;obtain⟨rfl,rfl⟩:=h;obtain⟨d,a⟩:=Q6 hb;exact⟨Nat.le_refl _,by simp,d,by simpa using a⟩
  ·obtain⟨d,a,e⟩:=ih h
   refine⟨by omega,?_,e⟩;rw[show i-k=(i-(k+1))+1 by omega];simpa using a
theorem QO7{fl:List Bool}{M:Nat}:∀{l:List Oper}{k:Nat},Qn0 fl M l k=none→
  ∀(i:Nat)(o:Oper),l[i]? =some o->Q94 M o (k+i)=true->fl.getD (k+i) true=true:=by
 intro l
 induction l with
 |nil=>intro k _ i o h;simp at h
 |cons x l ih=>
  intro k h i o hi a;unfold Qn0 at h
  split at h
  ·simp at h
  ·rename_i hb
   cases i with
   |zero=>
    simp at hi;subst hi;rw[Nat.add_zero]at a⊢;rw[a]at hb;simpa using hb
   |succ i=>
    rw[show k+(i+1)=k+1+i by omega]at a⊢;exact ih h i o (by simpa using hi) a
theorem Qf9{fl:List Bool}{M:Nat}:∀{l:List Oper}{k i:Nat}{o:Oper},l[i]? =some o->Q94 M o (k+i)=true->fl.getD (k+i) true=true→
  (k+i,o)∈QI0 fl M l k:=by
 intro l
 induction l with
 |nil=>intro k i o h;simp at h
 |cons x l ih=>
  intro k i o hi a d;unfold QI0;cases i with
  |zero=>
   simp only[List.getElem?_cons_zero,Option.some.injEq]at hi;subst hi;rw[Nat.add_zero]at a d;rw[a,d];simp
  |succ i=>
   rw[show k+(i+1)=k+1+i by omega]at a d⊢;have:=ih (k:=k+1) (by simpa using hi:l[i]? =some o) a d
   split
   ·exact List.mem_cons_of_mem _ this
   ·exact this
theorem Qvc{F:Nat->Oper->Prop}:∀{l:List (Nat×Oper)},QMi l F->∀i o,(i,o)∈l->F i o
 | [],_,_,_,h=>by cases h
 | [(i,o)],h,d,f,a=>by
  simp only[List.mem_singleton,Prod.mk.injEq]at a;obtain⟨rfl,rfl⟩:=a;exact h
 |(i,o)::y::rest,h,d,f,a=>by
  rcases List.mem_cons.1 a with e|a
  ·simp only[Prod.mk.injEq]at e
   obtain⟨rfl,rfl⟩:=e;exact h.1
  ·exact Qvc h.2 d f a
def Qel(P:Program)(ops:List Oper)(o:Oper)(env:List Value)(w:World):Prop:=
 ∃v,(∀d,o.dst=some d->d<env.length->Qy env d=v)∧
  ((Qp0 ops o env=true/\(execOp (evL env) o).run P w= .ok (.value v) w/\(Qk0 P o.op= .pure->∀w',(execOp (evL env) o).run P w'= .ok (.value v) w'))∨
   (Qp0 ops o env=false/\v=undef))
theorem QX1{ops:List Oper}{o:Oper}{env env':List Value}(h:∀t∈Qd2 ops o,Qy env t=Qy env' t):Qp0 ops o env=Qp0 ops o env':=by
 unfold Qp0;cases e:o.guard with
 |none=>rfl
 |some jw=>
  obtain⟨j,want⟩:=jw;simp only;cases f:ops[j]? with
  |none=>rfl
  |some x=>
   cases a:x.dst with
   |none=>simp only[a]
   |some d=>
    simp only[a];rw[h d (by simp[Qd2,e,f,a])]
theorem Qe1{ops:List Oper}{o:Oper}(hs:∀cs b,o.op≠ .select cs b){env env':List Value}(h:∀t∈Qd2 ops o,Qy env t=Qy env' t):
  execOp (evL env) o=execOp (evL env') o:=
 execOp_congr o hs fun x a=>by
  cases x with
  |tmp t=>exact h t (List.mem_append_left _ (List.mem_filterMap.2 ⟨.tmp t,by simpa using a,rfl⟩))
  |_=>rfl
structure Sim(P:Program)(ops:List Oper)(fl:List Bool)(listed:Array Bool)(env1:List Value)(M:Nat)(env:List Value)(w:World):Prop where
 size:listed.size=ops.length
 bound:∀i,M.testBit i=true->i<ops.length
 msub:∀i,listed.getD i false=true->M.testBit i=true
 meff:∀(i:Nat)(o:Oper),ops[i]? =some o->M.testBit i=true->fl.getD i true=true->listed.getD i false=true
 lclosed:∀(j:Nat)(o:Oper),ops[j]? =some o->listed.getD j false=true->∀e∈o.after,Region.binds .any e=true->listed.getD e.on false=true
 mclosed:∀(j:Nat)(o:Oper),ops[j]? =some o->M.testBit j=true->∀e∈o.after,Region.binds .any e=true->M.testBit e.on=true
 len:env1.length=env.length
 agree:∀t,(∀(i:Nat)(o:Oper),ops[i]? =some o->M.testBit i=true->listed.getD i false=false->o.dst≠some t)->Qy env1 t=Qy env t
 rd:∀(i:Nat)(o:Oper),ops[i]? =some o->M.testBit i=true->listed.getD i false=false->Qel P ops o env w
theorem Qxb{l:Array Bool}{i:Nat}(h:i<l.size)(a b:Bool):l.getD i a=l.getD i b:=by simp[h]
theorem Sim.looks{P:Program}{ops:List Oper}{ancs:List Nat}{fl:List Bool}{listed:Array Bool}{a env:List Value}{M:Nat}{w:World}
  (l:QD4 P ops ancs fl) (s:Sim P ops fl listed a M env w) {j:Nat} {o:Oper} (m:ops[j]? =some o)
  (r:∀e∈o.after,Region.binds .any e=true->listed.getD e.on false=true):∀t∈Qd2 ops o,Qy a t=Qy env t:=by
 intro t ht;refine s.agree t fun i x hi u n v=> ?_;have g:i<ops.length:=(List.getElem?_eq_some_iff.1 hi).1;rcases l.slot i j x o t hi m v (.inl ht)with ha|⟨p,_⟩
 ·obtain⟨e,p,hb,q,d⟩:=l.anc j i o m g ha
  have h:j<ops.length:=(List.getElem?_eq_some_iff.1 m).1;have f:=r e p hb;rcases d with rfl|d
  ·rw[n]at f;cases f
  ·have:=Q62 l (S:=fun k=>listed.getD k false=true) s.lclosed e.on i ops[e.on] (by simp[Nat.lt_trans q h]) g f d
   rw[n]at this;cases this
 ·have:=s.meff i x hi u p
  rw[n]at this;cases this
theorem Qo0{l:Array Bool}{i k:Nat}(hi:i<l.size):(l.setIfInBounds i true).getD k false=(if k=i then true else l.getD k false):=by
 by_cases h:k=i
 ·subst h;simp[hi]
 ·rw[if_neg h,getD_set_ne false (fun e=>h e.symm)]
theorem Qk1{env:List Value}{dst:Option Nat}{v:Value}{t:Nat}(h:dst≠some t):Qy (QR2 env dst v) t=Qy env t:=by
 cases dst with
 |none=>rfl
 |some d=>exact Qt3 fun e=>h (by rw[e])
theorem Qo2{l:List Value}{n:Nat}(h:l.length<=n):Qy l n=undef:=by
 rw[Qx2,List.getElem?_eq_none h];rfl
theorem Sim.take{P:Program}{ops:List Oper}{fl:List Bool}{listed:Array Bool}{l env:List Value}{M:Nat}{w:World}
  (s:Sim P ops fl listed l M env w) {j:Nat} {o:Oper} (r:ops[j]? =some o) (z:M.testBit j=true)
  (A:∀e∈o.after,Region.binds .any e=true->listed.getD e.on false=true) {v:Value}
  (B:∀d,o.dst=some d->d<env.length->Qy env d=v):
  Sim P ops fl (listed.setIfInBounds j true) (QR2 l o.dst v) M env w:=by
 have u:j<ops.length:=(List.getElem?_eq_some_iff.1 r).1;have a:j<listed.size:=by rw[s.size];exact u
 refine⟨by simp[s.size],s.bound,?_,?_,?_,s.mclosed,by rw[Q00,s.len],?_,?_⟩
 ·intro i hi
  rw[Qo0 a]at hi
  split at hi
  ·rename_i e;rw[e];exact z
  ·exact s.msub i hi
 ·intro i x hi f p
  rw[Qo0 a]
  split
  ·rfl
  ·exact s.meff i x hi f p
 ·intro k x q m e p hb
  rw[Qo0 a]at m⊢
  split
  ·rfl
  ·split at m
   ·rename_i C;subst C
    rw[r]at q;simp only[Option.some.injEq]at q;subst q;exact A e p hb
   ·exact s.lclosed k x q m e p hb
 ·intro t ht
  by_cases g:o.dst=some t
  ·rw[g]
   by_cases h:t<env.length
   ·rw[B t g h]
    exact Qw0 (by rw[s.len];exact h)
   ·rw[Qo2 (by rw[Q00,s.len];exact Nat.le_of_not_lt h),Qo2 (Nat.le_of_not_lt h)]
  ·rw[Qk1 g]
   refine s.agree t fun i x hi f n y=> ?_;refine ht i x hi f ?_ y;rw[Qo0 a,if_neg]
   ·exact n
   ·rintro rfl
    rw[r]at hi;simp only[Option.some.injEq]at hi;subst hi;exact g y
 ·intro i x hi f n
  rw[Qo0 a]at n
  split at n
  ·cases n
  ·exact s.rd i x hi f n
theorem Qel.put{P:Program}{ops:List Oper}{o:Oper}{env:List Value}{w:World}(hs:∀cs b,o.op≠ .select cs b){dst:Option Nat}{v:Value}
  (h:Qel P ops o env w) (i:∀d,dst=some d->d∉Qd2 ops o) (j:∀d,dst=some d->o.dst≠some d):Qel P ops o (QR2 env dst v) w:=by
 obtain⟨u,k,h⟩:=h;have f:∀t∈Qd2 ops o,Qy env t=Qy (QR2 env dst v) t:=fun t ht=>(Qk1 fun e=>i t e ht).symm;refine⟨u,fun d g a=> ?_,?_⟩
 ·rw[Q00]at a
  rw[Qk1 fun e=>j d e g];exact k d g a
 ·rw[←QX1 f,←Qe1 hs f]
  exact h
theorem Qc4{M i k:Nat}:(M|||2^i).testBit k=(M.testBit k||decide (i=k)):=by
 rw[Nat.testBit_or,Nat.testBit_two_pow]
theorem Sim.adv{P:Program}{ops:List Oper}{ancs:List Nat}{fl:List Bool}{listed:Array Bool}{z env:List Value}{M:Nat}{w:World}
  (A:QD4 P ops ancs fl) (s:Sim P ops fl listed z M env w) {j:Nat} {o:Oper} (y:ops[j]? =some o) (R:Q94 M o j=true) (G:fl.getD j true=false)
  {v:Value} (T:(Qp0 ops o env=true/\(execOp (evL env) o).run P w= .ok (.value v) w/\(Qk0 P o.op= .pure->∀w',(execOp (evL env) o).run P w'= .ok (.value v) w'))∨
   (Qp0 ops o env=false/\v=undef)):
  Sim P ops fl listed z (M|||2^j) (QR2 env o.dst v) w:=by
 have m:j<ops.length:=(List.getElem?_eq_some_iff.1 y).1;obtain⟨B,H⟩:=Q2c R;have I:listed.getD j false=false:=by
  cases h:listed.getD j false
  ·rfl
  ·rw[s.msub j h]at B;cases B
 have C:∀d,o.dst=some d->d∉Qd2 ops o:=by
  intro d f n;rcases A.slot j j o o d y y f (.inl n)with ha|⟨p,_⟩
  ·have:=Q62 A (S:=fun k=>k<j) (fun k x D J e q hb=>Nat.lt_trans (A.edge k x D e q hb) J)
   obtain⟨e,q,hb,r,K⟩:=A.anc j j o y m ha;rcases K with h|h
   ·omega
   ·have U:=this e.on j ops[e.on] (by simp[Nat.lt_trans r m]) m r h
    omega
  ·rw[G]at p;cases p
 have a:∀k,(M|||2^j).testBit k=true↔M.testBit k=true\/j=k:=by
  intro k;rw[Qc4];simp
 have g:=Q62 A (S:=fun k=>M.testBit k=true) s.mclosed;have u:∀(i:Nat)(x:Oper),ops[i]? =some x->M.testBit i=true->i≠j->∀d,o.dst=some d->(d∈Qd2 ops x\/(j≠i/\x.dst=some d))->False:=by
  intro i x hi n l d f E;rcases A.slot j i o x d y hi f E with ha|⟨p,_⟩
  ·have:=g i j x hi m n ha
   rw[B]at this;cases this
  ·rw[G]at p;cases p
 refine⟨s.size,?_,?_,?_,s.lclosed,?_,by rw[Q00,s.len],?_,?_⟩
 ·intro i hi
  rcases(a i).1 hi with h|rfl
  ·exact s.bound i h
  ·exact m
 ·intro i hi;exact(a i).2 (.inl (s.msub i hi))
 ·intro i x hi n L
  rcases(a i).1 n with h|rfl
  ·exact s.meff i x hi h L
  ·rw[y]at hi
   simp only[Option.some.injEq]at hi;subst hi;rw[G]at L;cases L
 ·intro k x D n e q hb
  refine(a e.on).2 (.inl ?_);rcases(a k).1 n with h|rfl
  ·exact s.mclosed k x D h e q hb
  ·rw[y]at D
   simp only[Option.some.injEq]at D;subst D;exact H e q hb
 ·intro t ht
  have N:o.dst≠some t:=ht j o y ((a j).2 (.inr rfl)) I;rw[Qk1 N];exact s.agree t fun i x hi n E=>ht i x hi ((a i).2 (.inl n)) E
 ·intro i x hi n E
  by_cases l:i=j
  ·subst l
   rw[y]at hi;simp only[Option.some.injEq]at hi;subst hi;have F:∀t∈Qd2 ops o,Qy env t=Qy (QR2 env o.dst v) t:=fun t ht=>(Qk1 fun e=>C t e ht).symm;refine⟨v,fun d f r=> ?_,?_⟩
   ·rw[Q00]at r
    rw[f];exact Qw0 r
   ·rw[←QX1 F,←Qe1 (A.sel i o y) F]
    exact T
  ·rcases(a i).1 n with h|h
   ·exact(s.rd i x hi h E).put (A.sel i x hi) (fun d f O=>u i x hi h l d f (.inl O))
     (fun d f Q=>u i x hi h l d f (.inr ⟨fun e=>l e.symm,Q⟩))
   ·exact(l h.symm).elim
theorem Que{P:Program}{ops:List Oper}{fl:List Bool}{M anc:Nat}{env:List Value}{w:World}{K:Prop}:∀{l:List Oper}{k:Nat},Q45 P ops fl M anc l k env w K→
  K/\∀(i:Nat)(r:Oper),l[i]? =some r->M.testBit (k+i)=true->anc.testBit (k+i)=false->fl.getD (k+i) true=false->Qk0 P r.op= .mem->Qp0 ops r env=true→
   ∃v,(∀d,r.dst=some d->Qy env d=v)/\(execOp (evL env) r).run P w= .ok (.value v) w:=by
 intro l
 induction l with
 |nil=>intro k h;exact⟨h,fun i r hi=>by simp at hi⟩
 |cons x l ih=>
  intro k h;unfold Q45 at h
  split at h
  ·have p:Q45 P ops fl M anc l (k+1) env w K:=by
    rcases Qk h with⟨_,h⟩|⟨_,h⟩
    ·exact h.2
    ·exact h
   obtain⟨m,n⟩:=ih p;refine⟨m,fun i r hi a ha e g j=> ?_⟩;cases i with
   |zero=>
    simp at hi;subst hi;rcases Qk h with⟨_,q,_⟩|⟨f,_⟩
    ·obtain⟨v,o,s,_⟩:=Q83 q
     refine⟨v,fun d t=> ?_,s⟩;rw[t]at o;exact o.symm
    ·rw[j]at f;cases f
   |succ i=>exact n i r (by simpa using hi) (by rw[show k+1+i=k+(i+1) by omega];exact a) (by rw[show k+1+i=k+(i+1) by omega];exact ha) (by rw[show k+1+i=k+(i+1) by omega];exact e) g j
  ·rename_i hb
   obtain⟨m,n⟩:=ih h;refine⟨m,fun i r hi a ha e g j=> ?_⟩;cases i with
   |zero=>
    simp at hi;subst hi;rw[Nat.add_zero]at a ha e;rw[a,ha,e,g]at hb;simp at hb
   |succ i=>exact n i r (by simpa using hi) (by rw[show k+1+i=k+(i+1) by omega];exact a) (by rw[show k+1+i=k+(i+1) by omega];exact ha) (by rw[show k+1+i=k+(i+1) by omega];exact e) g j
theorem Sim.eff{P:Program}{ops:List Oper}{ancs:List Nat}{fl:List Bool}{listed:Array Bool}{z env:List Value}{M:Nat}{w T:World}
  (L:QD4 P ops ancs fl) (s:Sim P ops fl listed z M env w) {j:Nat} {o:Oper} (N:ops[j]? =some o) (A:M.testBit j=false)
  (U:∀e∈o.after,Region.binds .any e=true->listed.getD e.on false=true) {v:Value}
  (V:∀(i:Nat)(r:Oper),ops[i]? =some r->M.testBit i=true->(ancs.getD j 0).testBit i=false->fl.getD i true=false->Qk0 P r.op= .mem->Qp0 ops r (QR2 env o.dst v)=true→
   ∃u,(∀d,r.dst=some d->Qy (QR2 env o.dst v) d=u)/\(execOp (evL (QR2 env o.dst v)) r).run P T= .ok (.value u) T):
  Sim P ops fl (listed.setIfInBounds j true) (QR2 z o.dst v) (M|||2^j) (QR2 env o.dst v) T:=by
 have E:j<ops.length:=(List.getElem?_eq_some_iff.1 N).1;have B:j<listed.size:=by rw[s.size];exact E
 have a:∀k,(M|||2^j).testBit k=true↔M.testBit k=true\/j=k:=by
  intro k;rw[Qc4];simp
 have n:=Q62 L (S:=fun k=>listed.getD k false=true) s.lclosed;have p:=Q62 L (S:=fun k=>M.testBit k=true) s.mclosed;have G:∀(i:Nat),i<ops.length->listed.getD i false=false->(ancs.getD j 0).testBit i=false:=by
  intro i q m;cases ha:(ancs.getD j 0).testBit i
  ·rfl
  ·obtain⟨e,H,hb,f,y⟩:=L.anc j i o N q ha
   have I:=U e H hb;rcases y with rfl|y
   ·rw[m]at I;cases I
   ·have:=n e.on i ops[e.on] (by simp[Nat.lt_trans f E]) q I y
    rw[m]at this;cases this
 have C:∀(i:Nat)(x:Oper),ops[i]? =some x->M.testBit i=true->listed.getD i false=false->∀d,o.dst=some d->(d∈Qd2 ops x\/x.dst=some d)->False:=by
  intro i x hi D m d W l;have q:i<ops.length:=(List.getElem?_eq_some_iff.1 hi).1;have X:j≠i:=by rintro rfl;rw[D]at A;cases A
  rcases L.slot j i o x d N hi W (l.imp id fun h=>⟨X,h⟩)with ha|⟨_,ha⟩
  ·have:=p i j x hi E D ha
   rw[A]at this;cases this
  ·rw[G i q m]at ha;cases ha
 refine⟨by simp[s.size],?_,?_,?_,?_,?_,by rw[Q00,Q00,s.len],?_,?_⟩
 ·intro i hi
  rcases(a i).1 hi with h|rfl
  ·exact s.bound i h
  ·exact E
 ·intro i hi
  rw[Qo0 B]at hi
  split at hi
  ·rename_i e;exact(a i).2 (.inr e.symm)
  ·exact(a i).2 (.inl (s.msub i hi))
 ·intro i x hi D Y
  rw[Qo0 B]
  split
  ·rfl
  ·rename_i J
   rcases(a i).1 D with h|h
   ·exact s.meff i x hi h Y
   ·exact(J h.symm).elim
 ·intro k x F l e H hb
  rw[Qo0 B]at l⊢
  split
  ·rfl
  ·split at l
   ·rename_i e1;subst e1
    rw[N]at F;simp only[Option.some.injEq]at F;subst F;exact U e H hb
   ·exact s.lclosed k x F l e H hb
 ·intro k x F D e H hb
  refine(a e.on).2 (.inl ?_);rcases(a k).1 D with h|rfl
  ·exact s.mclosed k x F h e H hb
  ·rw[N]at F
   simp only[Option.some.injEq]at F;subst F;exact s.msub _ (U e H hb)
 ·intro t ht
  by_cases K:o.dst=some t
  ·rw[K]
   by_cases f:t<env.length
   ·show Qy (Qv9 z t v) t=Qy (Qv9 env t v) t
    rw[Qw0 f,Qw0 (by rw[s.len];exact f)]
   ·rw[Qo2 (by rw[Q00,s.len];exact Nat.le_of_not_lt f),Qo2 (by rw[Q00];exact Nat.le_of_not_lt f)]
  ·rw[Qk1 K,Qk1 K]
   refine s.agree t fun i x hi D m Y=>ht i x hi ((a i).2 (.inl D)) ?_ Y;rw[Qo0 B,if_neg]
   ·exact m
   ·rintro rfl;rw[D]at A;cases A
 ·intro i x hi D m
  have q:i<ops.length:=(List.getElem?_eq_some_iff.1 hi).1;rw[Qo0 B]at m
  split at m
  ·cases m
  ·rename_i J
   rcases(a i).1 D with h|h
   ·have Z:=s.rd i x hi h m
    have l:∀t∈Qd2 ops x,Qy env t=Qy (QR2 env o.dst v) t:=fun t ht=>
     (Qk1 fun e=>C i x hi h m t e (.inl ht)).symm
    have O:∀d,x.dst=some d->Qy (QR2 env o.dst v) d=Qy env d:=fun d g=>
     Qk1 fun e=>C i x hi h m d e (.inr g)
    obtain⟨u,hu,y⟩:=Z;rw[QX1 l,Qe1 (L.sel i x hi) l]at y;rcases y with⟨Q,ae,hp⟩|⟨Q,rfl⟩
    ·cases R:Qk0 P x.op with
     |pure=>exact⟨u,fun d g f=>by rw[O d g];exact hu d g (by rw[Q00]at f;exact f), .inl ⟨Q,hp R T,fun _=>hp R⟩⟩
     |mem=>
      have hg:fl.getD i true=false:=by
       cases hb:fl.getD i true
       ·rfl
       ·have:=s.meff i x hi h hb
        rw[m]at this;cases this
      obtain⟨u',ab,ac⟩:=V i x hi h (G i q m) hg R Q;exact⟨u',fun d g _=>ab d g, .inl ⟨Q,ac,fun e=>by rw[R]at e;cases e⟩⟩
     |eff=>
      have hg:fl.getD i true=true:=by
       cases hb:fl.getD i true
       ·have:=L.flag i x hi hb
        simp[QXd,R]at this
       ·rfl
      have:=s.meff i x hi h hg;rw[m]at this;cases this
    ·exact⟨undef,fun d g f=>by rw[O d g];exact hu d g (by rw[Q00]at f;exact f), .inr ⟨Q,rfl⟩⟩
   ·exact(J h.symm).elim
def unl(ops:List Oper)(listed:Array Bool):Nat:=(List.range ops.length).countP fun i=> !listed.getD i false
theorem QYj{ops:List Oper}{listed:Array Bool}{j:Nat}(k:j<ops.length)(hs:listed.size=ops.length)(m:listed.getD j false=false):
  unl ops (listed.setIfInBounds j true)<unl ops listed:=by
 unfold unl;have d:j<listed.size:=by rw[hs];exact k
 have f:j∈List.range ops.length:=List.mem_range.2 k;have key:∀l:List Nat,j∈l->l.countP (fun i=> !(listed.setIfInBounds j true).getD i false)<l.countP (fun i=> !listed.getD i false):=by
  intro l;have le:∀l:List Nat,l.countP (fun i=> !(listed.setIfInBounds j true).getD i false)<=l.countP (fun i=> !listed.getD i false):=by
   intro l;apply List.countP_mono_left;intro x _ a;rw[Qo0 d]at a
   split at a
   ·simp at a
   ·exact a
  induction l with
  |nil=>intro h;cases h
  |cons x l ih=>
   intro h;rw[List.countP_cons,List.countP_cons]
   by_cases a:x=j
   ·subst a
    have:=le l;rw[Qo0 d,m,if_pos rfl];simp only[Bool.not_true,Bool.not_false,if_true,Bool.false_eq_true,if_false];omega
   ·have g:j∈l:=by
     rcases List.mem_cons.1 h with e|h
     ·exact(a e.symm).elim
     ·exact h
    have:=ih g;rw[Qo0 d,if_neg a];omega
 exact key _ f
theorem QDg{P:Program}{ops:List Oper}{ancs:List Nat}{fl:List Bool}(f:QD4 P ops ancs fl){listed:Array Bool}(hs:listed.size=ops.length)
  (h:Region.ready .any ops.toArray listed=[]):∀i,i<ops.length->listed.getD i false=true:=by
 intro i
 induction i using Nat.strongRecOn with
 |_ i ih=>
  intro hi;cases g:listed.getD i false
  ·have d:i∈Region.ready .any ops.toArray listed:=by
    rw[mem_ready];refine⟨by rw[Qxb (by rw[hs];exact hi) true false];exact g,ops[i],by simp[hi],fun e j hb=> ?_⟩;have a:=f.edge i ops[i] (by simp[hi]) e j hb;exact ih e.on a (Nat.lt_trans a hi)
   rw[h]at d;cases d
  ·rfl
theorem QS5{a b:List Value}(d:a.length=b.length)(h:∀t,Qy a t=Qy b t):a=b:=by
 apply List.ext_getElem d;intro i e f;have:=h i;rw[Qx2,Qx2,List.getElem?_eq_getElem e,List.getElem?_eq_getElem f]at this;exact this
theorem Qpb{P:Program}(hP:QJ1 P){ops:List Oper}{ancs:List Nat}{fl:List Bool}(x:QD4 P ops ancs fl){Q:Exit->List Value->World->Prop}{S:List Nat}
  {env0:List Value} (hS:∀o∈ops,∀d,o.dst=some d->d∈S):
  ∀(g f:Nat)(listed:Array Bool)(a:List Value)(M:Nat)(env:List Value)(w:World),Sim P ops fl listed a M env w->Frm S env0 a→
   unl ops listed<=f->Qo3 P ops ancs fl g M env w (Q .normal)->wpAny P .any ops.toArray (upF ds S env0 Q) f listed (QZ ds a) w:=by
 intro g
 induction g with
 |zero=>intro f listed a M env w _ _ _ h;exact h.elim
 |succ g z=>
  intro f listed a M env w s y hu h;unfold Qo3 at h
  split at h
  ·
   rename_i i o A;obtain⟨_,hi,H,B⟩:=Q24 A;rw[Nat.sub_zero]at hi;rcases Qk h with⟨p,h⟩|⟨p,h⟩
   ·have Y:Qk0 P o.op≠ .eff:=by intro e;have:=x.flag i o hi B;simp[QXd,e]at this
    have h':QU7 P ops (QQ8 ops i) o env w (fun v=>Qo3 P ops ancs fl g (M|||2^i) (QR2 env o.dst v) w (Q .normal)):=by
     revert h
     split
     ·rename_i Z;exact(Y Z).elim
     ·exact id
    obtain⟨v,I,m,hp⟩:=Q83 h';exact z f listed a _ _ w (s.adv x hi H B (.inl ⟨p,m,hp⟩)) y hu I
   ·exact z f listed a _ _ w (s.adv x hi H B (.inr ⟨p,rfl⟩)) y hu h
  ·rename_i A
   induction f generalizing listed a with
   |zero=>
    have n:∀i,i<ops.length->listed.getD i false=true:=by
     intro i hi;cases hl:listed.getD i false
     ·exfalso
      have:0<unl ops listed:=by
       unfold unl;rw[List.countP_pos_iff];exact⟨i,List.mem_range.2 hi,by rw[hl];rfl⟩
      omega
     ·rfl
    have H:Region.ready .any ops.toArray listed=[]:=by
     rw[List.eq_nil_iff_forall_not_mem];intro i hi;obtain⟨V,o,W,_⟩:=mem_ready.1 hi;have J:i<ops.length:=by simpa using(Array.getElem?_eq_some_iff.1 W).1
     rw[Qxb (by rw[s.size];exact J) true false,n i J]at V;cases V
    exact⟨H,(done n s y h)⟩
   |succ f ab=>
    refine⟨fun H=>done (QDg x s.size H) s y h,fun j hj=> ?_⟩;obtain⟨V,o,W,q⟩:=mem_ready.1 hj;have l:ops[j]? =some o:=by simpa using W
    have C:j<ops.length:=(List.getElem?_eq_some_iff.1 l).1;have K:listed.getD j false=false:=by rw[Qxb (by rw[s.size];exact C) false true];exact V
    have D:=s.looks x l q;have al:=QYj C s.size K;have L:∀d,o.dst=some d->d∈S:=hS o (List.mem_of_getElem? l);unfold wpOp;rw[show ops.toArray[j]? =some o from W];simp only;have ac:Region.wanted o (yielded ops.toArray (QZ ds a).tmps)=Qp0 ops o env:=(Qz8 ops o a).trans (QX1 D);rw[ac]
    by_cases N:M.testBit j=true
    ·
     obtain⟨v,hv,ad⟩:=s.rd j o l N K;have hs:=s.take l N q hv;have ae:Frm S env0 (QR2 a o.dst v):=y.trans (Frm.put _ _ _ L);have next:=ab (listed.setIfInBounds j true) (QR2 a o.dst v) hs ae (by omega)
     rcases ad with⟨p,m,_⟩|⟨p,rfl⟩
     ·rw[if_pos p]
      refine .inl ?_;unfold Oper.wp;rw[QU9,Qe1 (x.sel j o l) D,m,Oper.upon_value,QB5];exact next
     ·rw[p,if_neg (by simp),QB5]
      exact next
    ·
     have u:M.testBit j=false:=by simpa using N
     have O:Q94 M o j=true:=QCg u fun e B hb=>s.msub _ (q e B hb);have R:fl.getD j true=true:=by
      have:=QO7 A j o l (by rw[Nat.zero_add];exact O)
      rwa [Nat.zero_add]at this
     split at h
     ·rename_i E
      have:=Nat.eq_of_beq_eq_true E;rw[this,Nat.testBit_two_pow_sub_one]at u;simp[C]at u
     ·have F:=Qvc h j o (by have:=Qf9 (k:=0) l (by rw[Nat.zero_add];exact O) (by rw[Nat.zero_add];exact R);rwa [Nat.zero_add]at this)
      have go:∀(v:Value)(T:World),Q45 P ops fl M (ancs.getD j 0) ops 0 (QR2 env o.dst v) T (Qo3 P ops ancs fl g (M|||2^j) (QR2 env o.dst v) T (Q .normal))→
        wpAny P .any ops.toArray (upF ds S env0 Q) f (listed.setIfInBounds j true) ((QZ ds a).put o.dst v) T:=by
       intro v T G;obtain⟨I,G⟩:=Que G;rw[QB5];refine z f _ _ _ _ T (s.eff x l u q fun i r hi N ha hg Z p=> ?_) (y.trans (Frm.put _ _ _ L)) (by omega) I;exact G i r hi (by rw[Nat.zero_add];exact N) (by rw[Nat.zero_add];exact ha) (by rw[Nat.zero_add];exact hg) Z p
      rcases Qk F with⟨p,F⟩|⟨p,F⟩
      ·rw[if_pos p]
       refine .inl ?_;have U:execOp (QZ ds a).eval o=execOp (evL env) o:=by
        rw[QU9];exact Qe1 (x.sel j o l) D
       split at F
       ·exact Qd8 hP U (fun v w' af=>go v w' (QL4 af)) F
       ·obtain⟨v,I,m,_⟩:=Q83 F
        unfold Oper.wp;rw[U,m,Oper.upon_value];exact go v w I
      ·rw[p,if_neg (by simp)]
       exact go undef w F
where
 done {P:Program} {ops:List Oper} {ancs:List Nat} {fl:List Bool} {Q:Exit->List Value->World->Prop} {S:List Nat} {env0:List Value} {g:Nat} {listed:Array Bool} {a:List Value} {M:Nat}
   {env:List Value} {w:World} (n:∀i,i<ops.length->listed.getD i false=true) (s:Sim P ops fl listed a M env w) (y:Frm S env0 a)
   (h:match Nat.beq M (2^ops.length-1)with
    |true=>Q .normal env w
    |false=>QMi (QI0 fl M ops 0) fun i o=>
      opW P ops (QQ8 ops i) o env w fun env' w'=>Q45 P ops fl M (ancs.getD i 0) ops 0 env' w' (Qo3 P ops ancs fl g (M|||2^i) env' w' (Q .normal))):
   upF ds S env0 Q .normal (QZ ds a) w:=by
  have hM:M=2^ops.length-1:=by
   apply Nat.eq_of_testBit_eq;intro k;rw[Nat.testBit_two_pow_sub_one]
   by_cases X:k<ops.length
   ·rw[s.msub k (n k X)];simp[X]
   ·cases hb:M.testBit k
    ·simp[X]
    ·exact(X (s.bound k hb)).elim
  rw[hM,Nat.beq_refl]at h;have B:a=env:=QS5 s.len fun t=>s.agree t fun i o hi _ hl=>by
   have:=n i (List.getElem?_eq_some_iff.1 hi).1;rw[hl]at this;cases this
  exact⟨a,rfl,y,B▸h⟩
structure Qa1 where
 lv:List Nat
 ty:List TypeId
 jk:List Nat
 inv:List Value->World->List Value->World->Prop
 mu:List Value->World->List Value->World->Nat
def Qea:Qa1:=⟨[],[],[],fun _ _ _ _=>False,fun _ _ _ _=>0⟩
def QD1(P:Program)(t:TypeId)(v:Value):Bool:=
 match P.underlying t with
 |some (.int k)=>match v with| .int k' _=>decide (k=k')|_=>false
 |some .bool=>match v with| .bool _=>true|_=>false
 |some .string=>match v with| .string _=>true|_=>false
 |some (.pointer _)=>match v with| .pointer _=>true|_=>false
 |some (.slice _)=>match v with| .slice _ _ _=>true|_=>false
 |some (.map _ _)=>match v with| .map _=>true|_=>false
 |_=>true
def faS(P:Program)(t:TypeId)(F:Value->Prop):Prop:=
 match P.underlying t with
 |some (.int k)=>∀n:Int,F (.int k n)
 |some .bool=>∀b:Bool,F (.bool b)
 |some .string=>∀s:ByteArray,F (.string s)
 |some (.pointer _)=>∀p:Option Addr,F (.pointer p)
 |some (.slice _)=>∀(p:Option Addr)(n c:Nat),F (.slice p n c)
 |some (.map _ _)=>∀r:Option Nat,F (.map r)
 |_=>∀v:Value,F v
theorem QHh{P:Program}{t:TypeId}{F:Value->Prop}(h:faS P t F){v:Value}(a:QD1 P t v=true):F v:=by
 unfold faS at h;unfold QD1 at a
 split at h<;>rename_i d<;>(try rw[d]at a)
 ·cases v<;>simp at a
  subst a;exact h _
 ·cases v<;>simp at a;exact h _
 ·cases v<;>simp at a;exact h _
 ·cases v<;>simp at a;exact h _
 ·cases v<;>simp at a;exact h _ _ _
 ·cases v<;>simp at a;exact h _
 ·exact h v
def faL(P:Program):List TypeId->List Value->(List Value->Prop)->Prop
 | [],acc,F=>F acc.reverse
 |t::ts,acc,F=>faS P t fun v=>faL P ts (v::acc) F
def QOh(P:Program):List TypeId->List Value->Bool
 | [],[]=>true
 |t::ts,v::vs=>QD1 P t v&&QOh P ts vs
 |_,_=>false
theorem QIc{P:Program}:∀{ts:List TypeId}{acc vs:List Value}{F:List Value->Prop},faL P ts acc F->QOh P ts vs=true->F (acc.reverse++vs)
 | [],acc,[],F,h,_=>by simpa[faL]using h
 |t::ts,acc,v::vs,F,h,a=>by
  obtain⟨d,e⟩:=Q6 a;have:=QIc (QHh h d) e;simpa using this
 | [],_,_::_,_,_,a=>by simp[QOh]at a
 |_::_,_,[],_,_,a=>by simp[QOh]at a
def faJ:List Nat->List Value->(List Value->Prop)->Prop
 | [],acc,F=>F acc.reverse
 |_::ts,acc,F=>∀v:Value,faJ ts (v::acc) F
theorem QHc:∀{ts:List Nat}{acc vs:List Value}{F:List Value->Prop},faJ ts acc F->vs.length=ts.length->F (acc.reverse++vs)
 | [],acc,[],F,h,_=>by simpa[faJ]using h
 |_::ts,acc,v::vs,F,h,a=>by
  have:=QHc (h v) (by simpa using a:vs.length=ts.length);simpa using this
 | [],_,_::_,_,_,a=>by simp at a
 |_::_,_,[],_,_,a=>by simp at a
def Qu3(env:List Value):List Nat->List Value->List Value
 |i::is,v::vs=>Qu3 (Qv9 env i v) is vs
 |_,_=>env
def Q4(env:List Value):List Nat->List Value
 | []=>[]
 |i::is=>Qy env i::Q4 env is
theorem QR5(env:List Value):∀is,(Q4 env is).length=is.length
 | []=>rfl
 |_::is=>by simp[Q4,QR5 env is]
theorem QF1:∀(is:List Nat)(vs env:List Value),(Qu3 env is vs).length=env.length
 | [],_,_=>by simp[Qu3]
 |_::_,[],_=>by simp[Qu3]
 |i::is,v::vs,env=>by rw[Qu3,QF1,Q51]
theorem QL3{env':List Value}:∀(is:List Nat)(env:List Value),env'.length=env.length->∀t,Qy (Qu3 env is (Q4 env' is)) t=Qy env t∨
  (t∈is/\Qy (Qu3 env is (Q4 env' is)) t=Qy env' t)
 | [],env,_,t=> .inl rfl
 |i::is,env,d,t=>by
  rw[Q4,Qu3];rcases QL3 (env':=env') is (Qv9 env i (Qy env' i)) (by rw[Q51];exact d) t with h|⟨e,f⟩
  ·by_cases hi:i=t
   ·subst hi
    by_cases a:i<env.length
    ·right
     refine⟨List.mem_cons_self,?_⟩;rw[h,Qw0 a]
    ·left
     rw[Qo2 (by rw[QF1,Q51];omega),Qo2 (by omega)]
   ·left;rw[h,Qt3 hi]
  ·exact .inr ⟨List.mem_cons_of_mem _ e,f⟩
theorem Qb7{env':List Value}:∀(is:List Nat)(env:List Value),env'.length=env.length->∀t,t∈is->Qy (Qu3 env is (Q4 env' is)) t=Qy env' t
 | [],_,_,t,h=>by cases h
 |i::is,env,a,t,h=>by
  rw[Q4,Qu3]
  by_cases d:t∈is
  ·exact Qb7 is _ (by rw[Q51];exact a) t d
  ·have hi:t=i:=by
    rcases List.mem_cons.1 h with h|h
    ·exact h
    ·exact(d h).elim
   subst hi;rcases QL3 (env':=env') is (Qv9 env t (Qy env' t)) (by rw[Q51];exact a) t with h|⟨f,_⟩
   ·rw[h]
    by_cases e:t<env.length
    ·exact Qw0 e
    ·rw[Qo2 (by rw[Q51];omega),Qo2 (by rw[a];omega)]
   ·exact(d f).elim
theorem Frm.sets{S lv jk:List Nat}{env env':List Value}(h:Frm S env env')(hs:∀i,i∈S->i∈lv++jk):
  env'=Qu3 (Qu3 env lv (Q4 env' lv)) jk (Q4 env' jk):=by
 apply QS5 (by rw[QF1,QF1,h.1]);intro t;have j:env'.length=(Qu3 env lv (Q4 env' lv)).length:=by rw[QF1,h.1]
 by_cases a:t∈jk
 ·rw[Qb7 jk _ j t a]
 ·rcases QL3 jk (Qu3 env lv (Q4 env' lv)) j t with d|⟨d,_⟩
  ·rw[d]
   by_cases e:t∈lv
   ·rw[Qb7 lv _ h.1 t e]
   ·rcases QL3 lv env h.1 t with f|⟨f,_⟩
    ·rw[f]
     refine h.2 t fun hS=> ?_;rcases List.mem_append.1 (hs t hS)with g|g
     ·exact e g
     ·exact a g
    ·exact(e f).elim
  ·exact(a d).elim
def QUj(next:List Value->World->Prop)(Q:Exit->List Value->World->Prop):Exit->List Value->World->Prop:=fun e env w=>
 match e with
 | .normal=>next env w
 |e=>Q e env w
def QPi(id:Nat)(Q:Exit->List Value->World->Prop):Exit->List Value->World->Prop:=fun e env w=>
 match e with
 | .exit id'=>Q9 (Nat.beq id' id) (Q .normal env w) (Q (.exit id') env w)
 |e=>Q e env w
def QZk(Q:Exit->List Value->World->Prop):Exit->List Value->World->Prop:=fun e env w=>
 match e with
 | .goto _=>False
 |e=>Q e env w
def vc(P:Program)(ann:Nat->Qa1):Code->Nat->(Exit->List Value->World->Prop)->List Value->World->Prop
 | .skip,_,Q,env,w=>Q .normal env w
 | .region _ ops draw,_,Q,env,w=>
  match draw with
  |false=>Qjl P ops.toList ops.toList 0 env w (Q .normal)
  |true=>Q9 (Qsf P ops.toList (Q14 ops.toList []) (Q17 P ops.toList (Q14 ops.toList []))) (∀w',QX7 w w'->Qo3 P ops.toList (Q14 ops.toList []) (Q17 P ops.toList (Q14 ops.toList [])) (ops.toList.length+1) 0 env w' (Q .normal)) False
 | .seq a b,p,Q,env,w=>vc P ann a (4*p) (QUj (vc P ann b (4*p+1) Q) Q) env w
 | .cond c a b,p,Q,env,w=>
  match evL env c with
  | .bool x=>Q9 x (vc P ann a (4*p+2) Q env w) (vc P ann b (4*p+3) Q env w)
  |_=>False
 | .block id b,p,Q,env,w=>vc P ann b (4*p) (QPi id Q) env w
 | .loop b,p,Q,env,w=>
  let A:=ann p
  Q9 (Qpl (Qv2 b) (A.lv++A.jk)&&QOh P A.ty (Q4 env A.lv))
   (A.inv env w (Q4 env A.lv) w∧
    faL P A.ty [] fun vs=>∀w',A.inv env w vs w'->faJ A.jk [] fun js=>
     vc P ann b (4*p) (QUj (fun env'' w''=>Q9 (QOh P A.ty (Q4 env'' A.lv))
      (A.inv env w (Q4 env'' A.lv) w''/\A.mu env w (Q4 env'' A.lv) w''<A.mu env w vs w') False) Q) (Qu3 (Qu3 env A.lv vs) A.jk js) w') False
 | .exit id,_,Q,env,w=>Q (.exit id) env w
 | .scope b,p,Q,env,w=>vc P ann b (4*p) (QZk Q) env w
 | .label _,_,Q,env,w=>Q .normal env w
 | .ret,_,Q,env,w=>Q .ret env w
 |_,_,_,_,_=>False
theorem Qn9{S T:List Nat}{env0 env:List Value}{Q R:Exit->List Value->World->Prop}(d:Frm T env0 env)(hs:∀i,i∈S->i∈T)
  (f:∀e env w,Q e env w->R e env w):∀e a w,upF ds S env Q e a w->upF ds T env0 R e a w:=by
 rintro e a w ⟨env',rfl,g,h⟩;exact⟨env',rfl,d.trans (g.mono hs),f _ _ _ h⟩
theorem Qo9{P:Program}(hP:QJ1 P)(F:P.follows .mixedOrders=true)(ann:Nat->Qa1):∀(c:Code)(p:Nat)(Q:Exit->List Value->World->Prop)(env:List Value)(w:World),
  vc P ann c p Q env w->c.wp P (upF ds (Qv2 c) env Q) (QZ ds env) w:=by
 intro c
 induction c with
 |skip=>intro p Q env w h;exact wp_skip ⟨env,rfl,Frm.refl _ _,h⟩
 |region id ops draw=>
  intro p Q env w h;have q:∀o∈ops.toList,∀d,o.dst=some d->d∈Quh ops.toList:=fun o G d r=>List.mem_filterMap.2 ⟨o,G,r⟩;cases draw with
  |false=>
   refine wp_region_list ?_;have:=Q4e (ds:=ds) hP (Q:=Q) (S:=Quh ops.toList) (env0:=env) ops.toList 0 env w q (Frm.refl _ _) h;rw[Array.toArray_toList]at this;exact this
  |true=>
   rcases Qk h with⟨r,h⟩|⟨_,h⟩
   ·have r:=QW6 r
    refine wp_region_any F ?_;have B:∀i,(Array.replicate ops.size false).getD i false=false:=by
     intro i
     by_cases hi:i<ops.size<;>simp[hi]
    have hs:Sim P ops.toList (Q17 P ops.toList (Q14 ops.toList [])) (Array.replicate ops.size false) env 0 env w.drew:=
     ⟨by simp,fun i hi=>(by simp at hi),fun i hi=>(by rw[B]at hi;cases hi),fun i o _ hi=>(by simp at hi),fun j o _ hi=>(by rw[B]at hi;cases hi),
      fun j o _ hi=>(by simp at hi),rfl,fun _ _=>rfl,fun i o _ hi=>(by simp at hi)⟩
    have:=Qpb (ds:=ds) hP r (Q:=Q) (S:=Quh ops.toList) (env0:=env) q (ops.toList.length+1) ops.size (Array.replicate ops.size false) env 0 env w.drew hs (Frm.refl _ _) (by
     unfold unl;refine Nat.le_trans List.countP_le_length ?_
     simp) (h _ rfl)
    rw[Array.toArray_toList]at this;exact this
   ·exact h.elim
 |seq a b iha ihb=>
  intro p Q env w h;refine wp_seq (Go.wp_mono (iha _ _ _ _ h) ?_);rintro e x w' ⟨env',rfl,g,f⟩;have s:∀i,i∈Qv2 a->i∈Qv2 (.seq a b):=fun i hi=>List.mem_append_left _ hi;cases e with
  |normal=>
   refine Go.wp_mono (ihb _ _ _ _ f) ?_;exact Qn9 (g.mono s) (fun i hi=>List.mem_append_right _ hi) (fun _ _ _ h=>h)
  |_=>exact⟨env',rfl,g.mono s,f⟩
 |cond c a b iha ihb=>
  intro p Q env w h;unfold vc at h
  split at h
  ·rename_i x H
   refine wp_cond (t:=x) (by rw[QU9];exact H) ?_;rcases Qk h with⟨rfl,h⟩|⟨rfl,h⟩
   ·exact Go.wp_mono (iha _ _ _ _ h) (Qn9 (Frm.refl _ _) (fun i hi=>List.mem_append_left _ hi) (fun _ _ _ h=>h))
   ·exact Go.wp_mono (ihb _ _ _ _ h) (Qn9 (Frm.refl _ _) (fun i hi=>List.mem_append_right _ hi) (fun _ _ _ h=>h))
  ·exact h.elim
 |block id b ih=>
  intro p Q env w h;refine wp_block (Go.wp_mono (ih _ _ _ _ h) ?_);rintro e x w' ⟨env',rfl,g,f⟩;cases e with
  |exit id'=>
   simp only[Exit.inBlock];rcases Qk f with⟨hb,f⟩|⟨hb,f⟩
   ·rw[if_pos (Nat.eq_of_beq_eq_true hb)]
    exact⟨env',rfl,g,f⟩
   ·rw[if_neg (by rintro rfl;rw[Nat.beq_refl]at hb;cases hb)]
    exact⟨env',rfl,g,f⟩
  |_=>exact⟨env',rfl,g,f⟩
 |loop b ih=>
  intro p Q env w h;unfold vc at h;rcases Qk h with⟨I,B,m⟩|⟨_,h⟩
  ·obtain⟨k,u⟩:=Q6 I
   have k:=Qxi k;generalize L:ann p=A at*;refine wp_loop (fun x w'=>∃env',x=QZ ds env'/\Frm (Qv2 b) env env'/\QOh P A.ty (Q4 env' A.lv)=true/\A.inv env w (Q4 env' A.lv) w')
    (fun x w'=>A.mu env w (Q4 x.tmps.toList A.lv) w') ⟨env,rfl,Frm.refl _ _,u,B⟩ ?_
   rintro x w' ⟨env',rfl,g,n,v⟩;have J:=QIc m n w' v;have C:=QHc J (QR5 env' A.jk);simp only[List.reverse_nil,List.nil_append]at C;rw[←g.sets k]at C;refine Go.wp_mono (ih _ _ _ _ C) ?_;rintro e y w'' ⟨env'',rfl,D,f⟩;have z:Frm (Qv2 b) env env'':=g.trans D;cases e with
   |normal=>
    rcases Qk f with⟨K,hi,E⟩|⟨_,f⟩
    ·exact⟨⟨env'',rfl,z,K,hi⟩,E⟩
    ·exact f.elim
   |_=>exact⟨env'',rfl,z,f⟩
  ·exact h.elim
 |exit id=>intro p Q env w h;exact wp_exit ⟨env,rfl,Frm.refl _ _,h⟩
 |ret=>intro p Q env w h;exact wp_ret ⟨env,rfl,Frm.refl _ _,h⟩
 |label l=>intro p Q env w h;exact wp_label ⟨env,rfl,Frm.refl _ _,h⟩
 |scope b ih=>
  intro p Q env w h;refine wp_scope_straight (Go.wp_mono (ih _ _ _ _ h) ?_);rintro e x w' ⟨env',rfl,g,f⟩;cases e with
  |goto l=>exact f.elim
  |_=>exact⟨env',rfl,g,f⟩
 |_=>intro p Q env w h;exact h.elim
def QGe(P:Program)(w:World):List ResultVar->List Value->List Value->(List Value->Prop)->Prop
 | [],_,acc,K=>K acc.reverse
 | .tmp t::rs,env,acc,K=>QGe P w rs env (Qy env t::acc) K
 | .cell a t::rs,env,acc,K=>Q9 (P.underlying t).isSome (QDb P t (Qy env a) w fun v=>QGe P w rs env (v::acc) K) False
def Qv5(vs:List Value):Value:=match vs with| [v]=>v|vs=> .tuple vs.toArray
def QOl(P:Program)(rs:List ResultVar)(R:Value->World->Prop):Exit->List Value->World->Prop:=fun e env w=>
 match e with
 | .normal=>QGe P w rs env [] fun vs=>R (Qv5 vs) w
 | .ret=>QGe P w rs env [] fun vs=>R (Qv5 vs) w
 |_=>False
def Qdk(P:Program)(w:World)(env:List Value):ResultVar->Value->Prop
 | .tmp t,v=>v=Qy env t
 | .cell a t,v=>∃p,Qy env a= .pointer (some p)/\(loadVar t p).run P w= .ok v w
def QMe(P:Program)(w:World)(env:List Value):List ResultVar->List Value->Prop
 | [],[]=>True
 |r::rs,v::vs=>Qdk P w env r v/\QMe P w env rs vs
 |_,_=>False
theorem Qu8{P:Program}{w:World}{env:List Value}{K:List Value->Prop}:∀{rs:List ResultVar}{acc:List Value},QGe P w rs env acc K→
  ∃vs,K (acc.reverse++vs)/\QMe P w env rs vs:=by
 intro rs
 induction rs with
 |nil=>intro acc h;exact⟨[],by simpa[QGe]using h,trivial⟩
 |cons r rs ih=>
  intro acc h;cases r with
  |tmp t=>
   obtain⟨vs,f,g⟩:=ih h;exact⟨Qy env t::vs,by simpa using f,rfl,g⟩
  |cell a t=>
   rcases Qk h with⟨i,h⟩|⟨_,h⟩
   ·obtain⟨v,k,j⟩:=Q97 (by intro e;rw[e]at i;cases i) h
    obtain⟨vs,f,g⟩:=ih k;have d:∃p,Qy env a= .pointer (some p):=by
     unfold QDb at h
     split at h
     ·exact⟨_,by assumption⟩
     ·exact h.elim
    obtain⟨p,d⟩:=d;rw[d]at j;exact⟨v::vs,by simpa using f,⟨p,d,by simpa[Instr.loadAt,Instr.sureAddr]using j⟩,g⟩
   ·exact h.elim
theorem QGb{P:Program}{w:World}{env:List Value}{f:ResultVar->Sem Value}(a:∀r v,Qdk P w env r v->(f r).run P w= .ok v w):
  ∀{rs:List ResultVar}{vs:List Value},QMe P w env rs vs->(rs.mapM f).run P w= .ok vs w
 | [],[],_=>by simp
 |r::rs,v::vs,h=>by
  simp only[List.mapM_cons,Sem.run_bind,a r v h.1,Result.andThen,QGb a h.2,Sem.run_pure]
 | [],_::_,h=>h.elim
 |_::_,[],h=>h.elim
theorem QK6{P:Program}(hP:QJ1 P)(l:P.follows .mixedOrders=true)(ann:Nat->Qa1){f:FuncId}{fn:Func}{c:Code}{args:Array Value}{w:World}{R:Value->World->Prop}
  (m:P.funcs[f]? =some fn) (hb:fn.body=some c)
  (h:vc P ann c 1 (QOl P fn.results.toList R) (args.toList++List.replicate (fn.ntmps-args.toList.length) undef) w):
  Calls P f args w fun e w'=>∃v,e= .returned v/\R v w':=by
 refine calls_of_wp m hb ?_;have n:=Qo9 (ds:=[]) hP l ann c 1 _ _ w h;have e:(⟨args++Array.replicate (fn.ntmps-args.size) undef,[]⟩:Act)=QZ [] (args.toList++List.replicate (fn.ntmps-args.toList.length) undef):=by
  unfold QZ
  congr 1
  apply Array.toList_inj.1;simp
 rw[e];refine Go.wp_mono n ?_;rintro ex a w' ⟨env',rfl,_,j⟩;have key:QGe P w' fn.results.toList env' [] (fun vs=>R (Qv5 vs) w')->(QZ [] env').defers=[]/\∃v,(results fn (QZ [] env').tmps).run P w'= .ok v w'/\∃k,Ending.returned v= .returned k/\R k w':=by
  intro o;obtain⟨vs,q,g⟩:=Qu8 o;refine⟨rfl,Qv5 vs,?_,_,rfl,by simpa using q⟩;have d:∀t,(QZ [] env').tmps.getD t undef=Qy env' t:=by intro t;simp[QZ,Qx2]
  have s:=QGb (f:=fun
   | .tmp t=>pure ((QZ [] env').tmps.getD t undef)
   | .cell a t=>do loadVar t (←asAddr ((QZ [] env').tmps.getD a undef))) (by
    intro r v i;cases r with
    |tmp t=>simp only[d];rw[i];rfl
    |cell a t=>
     obtain⟨p,x,y⟩:=i
     simp only[d,x,asAddr,Sem.run_bind,Sem.run_pure,Result.andThen,y]) g
  have z:(fn.results.mapM fun
   | .tmp t=>pure ((QZ [] env').tmps.getD t undef)
   | .cell a t=>do loadVar t (←asAddr ((QZ [] env').tmps.getD a undef)):Sem (Array Value)).run P w'= .ok vs.toArray w':=by
   rw[Array.mapM_eq_mapM_toList];simp only[Sem.run_map,s,Result.andThen]
  unfold results;rw[Sem.run_bind];refine(congrArg (fun r:Result (Array Value)=>r.andThen _) z).trans ?_;simp only[Result.andThen,Sem.run_pure]
  match vs with
  | []=>rfl
  | [v]=>rfl
  |v::u::rest=>simp[Qv5]
 cases ex with
 |normal=>exact key j
 |ret=>exact key j
 |_=>exact j.elim
theorem Qzd {P : Program} (h : (P.funcs.toList.all fun fn => fn.name != "runtime.NumGoroutine") = true) : QJ1 P := by
 intro f fn a hb args w;simp only[List.all_eq_true]at h;have d:=h fn (by rw[Array.mem_toList_iff];exact Array.mem_of_getElem? a);have e : (fn.name == "runtime.NumGoroutine") = false := by simpa using d
 have g:fn.body.isNone=false:=by cases i:fn.body<;>simp[i]at hb⊢
 unfold callFunc;simp only[Sem.run_bind];have j:(program).run P w= .ok P w:=rfl;rw[j];simp only[Result.andThen,a];rw[e,g]
 rfl
theorem QL{P:Program}(hP:QJ1 P)(g:P.follows .mixedOrders=true)(ann:Nat->Qa1){f:FuncId}{fn:Func}{args:Array Value}{w:World}{R:Value->World->Prop}{F:Prop}
  (i:P.funcs[f]? =some fn) (hb:fn.body.isSome=true)
  (a:vc P ann (fn.body.getD .skip) 1 (QOl P fn.results.toList R) (args.toList++List.replicate (fn.ntmps-args.toList.length) undef) w=F) (h:F):
  Calls P f args w fun e w'=>∃v,e= .returned v/\R v w':=by
 obtain⟨c,d⟩:=Option.isSome_iff_exists.1 hb;rw[d]at a;subst a;exact QK6 hP g ann i d h
end Go.Vc
