import Derived.Test.YtkolafpgbhpdlaaGreatNfA
namespace Go.Nf
open Go Go.Vc Go.Proofs
attribute [local irreducible] Go.Proofs.Tryz.prog ty tys bys rts
theorem uP(t:Nat):match ty t with
  | .int k=>Tryz.prog.underlying t=some (.int k)
  | .bool=>Tryz.prog.underlying t=some .bool
  | .str=>Tryz.prog.underlying t=some .string
  | .ptr e=>Tryz.prog.underlying t=some (.pointer e)
  | .slc e=>Tryz.prog.underlying t=some (.slice e)
  | .map _ e=>∃k,Tryz.prog.underlying t=some (.map k e)
  | .arr n e _=>Tryz.prog.underlying t=some (.array n e)
  | .bar n e _=>Tryz.prog.underlying t=some (.array n e)
  | .st fs _=>∃fs',Tryz.prog.underlying t=some (.struct fs')/\fs'.toList.map (fun f=>(f.offset,f.type))=fs
  | .bst fs _=>∃fs',Tryz.prog.underlying t=some (.struct fs')/\fs'.toList.map (fun f=>(f.offset,f.type))=fs
  | .fn=>∃d,Tryz.prog.underlying t=some d/\Q8i d=true
  | .ifc=>∃d,Tryz.prog.underlying t=some d/\Q8i d=true
  | .oth=>∀d,Tryz.prog.underlying t=some d->Q8i d=true
  | .non=>True:=by
 have h:=(tyF t).1;generalize ty t=i at h;generalize Tryz.prog.underlying t=u at h;cases i<;>cases u<;>simp only[uC,Bool.false_eq_true]at h<;>try trivial
 all_goals (try (rename_i d;cases d<;>simp only[uC,Q8i,Bool.false_eq_true]at h<;>try trivial))
 all_goals (try (first|(exact⟨_,rfl,rfl⟩)|(rintro _ ⟨⟩;rfl)))
 all_goals (try simp at h)
 all_goals (try (first|(obtain⟨rfl,rfl⟩:=h;rfl)|(subst h;simp)|(rw[Qcc h])|simp_all))
theorem Qle:∀(a b:List Value),rv a b=a.reverse++b
 | [],b=>by simp[rv]
 |x::a,b=>by rw[rv,Qle a (x::b)];simp
theorem Qlh:∀(a b:List Value),ap a b=a++b
 | [],b=>by simp[ap]
 |x::a,b=>by rw[ap,Qlh a b];simp
theorem QUc:∀(a:List Nat),lnN a=a.length
 | []=>rfl
 |_::a=>by rw[lnN,QUc a];rfl
theorem QVc:∀(a:List Value),lnV a=a.length
 | []=>rfl
 |_::a=>by rw[lnV,QVc a];rfl
theorem Qg8(env:List Value):∀(l:List Operand),evs env l=l.map (evL env)
 | []=>rfl
 |_::l=>by rw[evs,Qg8 env l];rfl
theorem Qxj:∀(l:List Value)(n:Nat),gV l n=l[n]?
 | [],_=>by simp[gV]
 |_::_,0=>by simp[gV]
 |_::l,n+1=>by simp[gV,Qxj l n]
theorem Qwj:∀(l:List (Nat×Nat))(n:Nat),gP l n=l[n]?
 | [],_=>by simp[gP]
 |_::_,0=>by simp[gP]
 |_::l,n+1=>by simp[gP,Qwj l n]
theorem QKh:∀{l:List Oper}{n:Nat}{o:Oper},l[n]? =some o->gO l n=o
 | [],_,_,h=>by simp at h
 |_::_,0,_,h=>by simpa[gO]using h
 |_::l,n+1,_,h=>by rw[gO];exact QKh (by simpa using h)
theorem QAk:∀(l:List Oper)(n:Nat),gD l n=(l[n]?).bind (·.dst)
 | [],_=>by simp[gD]
 |⟨_,_,_,_,_,_⟩::_,0=>by simp[gD]
 |_::l,n+1=>by simp[gD,QAk l n]
theorem Qpk:∀(l:List Value)(n:Nat),dr l n=l.drop n
 |l,0=>by cases l<;>simp[dr]
 | [],_+1=>by simp[dr]
 |_::l,n+1=>by simp[dr,Qpk l n]
theorem Q6l:∀(l:List Value)(n:Nat),tk l n=l.take n
 |l,0=>by cases l<;>simp[tk]
 | [],_+1=>by simp[tk]
 |_::l,n+1=>by simp[tk,Q6l l n]
theorem QM9(v:Value):cls v=v.cells.toList:=by cases v<;>rfl
theorem Qhk(a b:Bool):aB a b=(a&&b):=by cases a<;>rfl
theorem QLl(a b:Bool):oB a b=(a||b):=by cases a<;>rfl
theorem Quk(env:List Value)(o:Option Operand):evO env o=o.map (evL env):=by cases o<;>rfl
theorem QMb{t:Nat}{F:Value->Prop}(h:∀d,Tryz.prog.underlying t=some d->Q8i d=true)(a:∃v,F v):exS Tryz.prog t F:=by
 unfold exS;cases e:Tryz.prog.underlying t with
 |none=>exact a
 |some d=>have:=h d e;cases d<;>first|exact a|cases this
theorem Qhl{t:Nat}{F i:Value->Prop}(h:eS (ty t) F)(e:∀v,F v->i v):exS Tryz.prog t i:=by
 have a:=uP t;cases hi:ty t<;>rw[hi]at h a<;>simp only[eS]at h a
 case fn=>obtain⟨d,f,g⟩:=a;obtain⟨v,h⟩:=h;exact QMb (by rw[f];rintro _ ⟨⟩;exact g) ⟨v,e _ h⟩
 case ifc=>obtain⟨d,f,g⟩:=a;obtain⟨v,h⟩:=h;exact QMb (by rw[f];rintro _ ⟨⟩;exact g) ⟨v,e _ h⟩
 case map=>obtain⟨k,a⟩:=a;unfold exS;rw[a];exact h.imp fun _=>e _
 case slc=>unfold exS;rw[a];obtain⟨p,n,c,h⟩:=h;exact⟨p,n,c,e _ h⟩
 all_goals first|exact h.elim|(unfold exS;rw[a];exact h.imp fun _=>e _)
theorem Qnm{F:Value->Prop}{K:List Value->Prop}(a:∀l,F (.agg l.toArray)->K l)(ts:List Nat):∀acc,eR F ts acc->QCh Tryz.prog ts acc K:=by
 induction ts with
 |nil=>intro acc h;rw[eR,Qle,List.append_nil]at h;exact a _ h
 |cons t ts ih=>intro acc h;rw[eR]at h;exact Qhl h fun v d=>ih _ d
set_option maxRecDepth 20000 in
theorem Qil{a b:List Nat}(h:(a==b)=true):a=b:=eq_of_beq h
theorem Q7l{t:Nat}{fs:List (Nat×Nat)}{fl:List Nat}(h:tyC t (.st fs fl)=true):fl=Qah Tryz.prog 8 t:=
 Qil (Q6 (Q6 h).1).2
theorem QWj{t n e:Nat}{fl:List Nat}(h:tyC t (.arr n e fl)=true):fl=Qah Tryz.prog 8 t:=Qil (Q6 h).2
theorem agT(t:Nat):match ag (ty t)with
  | .no=>True
  | .oth=>Q54 Tryz.prog t=false/\∀d,Tryz.prog.underlying t=some d->Q8i d=true
  | .sc=>Q54 Tryz.prog t=false
  | .ag l=>Q54 Tryz.prog t=true/\l=Qah Tryz.prog 8 t:=by
 have a:=uP t;have f:=(tyF t).2;unfold Q54;generalize ty t=i at a f;cases i<;>simp only[ag]at a⊢
 case oth=>
  refine⟨?_,a⟩;cases e:Tryz.prog.underlying t with
  |none=>rfl
  |some d=>have:=a d e;cases d<;>first|rfl|cases this
 case fn=>obtain⟨d,e,g⟩:=a;rw[e];cases d<;>first|rfl|cases g
 case ifc=>obtain⟨d,e,g⟩:=a;rw[e];cases d<;>first|rfl|cases g
 case map=>obtain⟨k,a⟩:=a;rw[a]
 case st=>obtain⟨fs',a,_⟩:=a;rw[a];exact⟨rfl,Q7l f⟩
 case arr=>rw[a];exact⟨rfl,QWj f⟩
 all_goals rw[a]
theorem Quf{t:Nat}{F d:Value->Prop}(h:eT t F)(a:∀v,F v->d v):exT Tryz.prog t d:=by
 have ha:=agT t;unfold eT at h;unfold exT;cases hi:ag (ty t)<;>rw[hi]at h ha<;>simp only[eO]at h ha
 ·rw[ha.1];exact QMb ha.2 (h.imp fun _=>a _)
 ·rw[ha];exact Qhl h a
 ·rw[ha.1,←ha.2];exact Qnm (fun l=>a _) _ _ h
section
variable {w:World}{k:KV}{K:Value->Prop}(hk:∀v,k v w->K v)
include hk
theorem Qf7{p:Option Addr}{F G:Addr->Prop}(h:Qv0 p F)(d:∀a,F a->G a):Qv0 p G:=by
 have _:=hk;cases p
 ·exact h
 ·exact d _ h
theorem Q5m{o:Option Value}(h:kO o w k):∃v,o=some v/\K v:=by
 cases o
 ·exact h.elim
 ·exact⟨_,rfl,hk _ h⟩
theorem QEm{c a b:Value}(h:pk c a b w k):∃x,c= .bool x/\Q9 x (K a) (K b):=by
 cases c<;>first|exact h.elim|skip
 rename_i c;refine⟨c,rfl,?_⟩;cases c
 ·exact hk _ h
 ·exact hk _ h
theorem QIl{x:Value}(h:nlC x w k):QHl x K:=by
 cases x<;>first|exact h.elim|skip
 ·exact Qf7 hk h fun _=>hk _
 ·rename_i f _ _
  cases f<;>first|exact h.elim|exact hk _ h
end
theorem QLi(p:Addr)(i:Nat):adO p i=p.add i:=by
 cases i
 ·cases p;rfl
 ·rfl
theorem QEl{w:World}{p:Addr}{k:KV}{K:List Value->Prop}(hk:∀l,k (.agg l.toArray) w->K l)(ts:List Nat):∀i acc,ldR w p k ts i acc->Q09 Tryz.prog w p ts i acc K:=by
 induction ts with
 |nil=>intro i acc h;rw[ldR,Qle,List.append_nil]at h;exact hk _ h
 |cons t ts ih=>intro i acc h;rw[ldR]at h;exact Qhl h fun v a=>⟨by rw[←QLi];exact a.1,ih _ _ a.2⟩
theorem Q7k{t:Nat}(h:(okE t&&okZ t)=true):(Tryz.prog.underlying t).isSome=true/\(Tryz.prog.info? t).isSome=true/\Tryz.prog.cellsOf t=ce t/\(Qo1 Tryz.prog t).isSome=true/\(Qc Tryz.prog t).length=Tryz.prog.cellsOf t:=by
 obtain⟨a,d⟩:=Q6 h;obtain⟨a,e⟩:=Q6 a;obtain⟨a,f⟩:=Q6 a;obtain⟨d,g⟩:=Q6 d;exact⟨a,f,eq_of_beq e,d,eq_of_beq g⟩
theorem Qgg{t:Nat}(h:okT (ty t)=true):(Tryz.prog.underlying t).isSome=true/\(Tryz.prog.info? t).isSome=true/\Tryz.prog.cellsOf t=ce t/\(Qo1 Tryz.prog t).isSome=true/\(Qc Tryz.prog t).length=Tryz.prog.cellsOf t:=by
 have a:=(tyF t).2;generalize ty t=i at h a;cases i<;>first|exact Q7k a|exact Q7k (Q6 a).1|exact Q7k (Q6 (Q6 a).1).1|exact Q7k (Q6 (Q6 (Q6 (Q6 a).1).1).1).1|exact nomatch h
theorem Qh7{e:Nat}(h:okE e=true):(Tryz.prog.underlying e).isSome=true/\(Tryz.prog.info? e).isSome=true/\Tryz.prog.cellsOf e=ce e:=by
 obtain⟨a,d⟩:=Q6 h;obtain⟨a,f⟩:=Q6 a;exact⟨a,f,eq_of_beq d⟩
theorem Q2m{t:Nat}{l:List Nat}(hi:ag (ty t)= .ag l):ce t=l.length:=by
 unfold ce;cases a:ty t<;>rw[a]at hi<;>simp only[ag,AG.ag.injEq,reduceCtorEq]at hi
 ·simp only[ceT,QUc,hi]
 ·simp only[ceT,QUc,hi]
theorem QOk{x:Nat}(h:(x==0)=false):Nat.beq x 0=false:=by
 cases x with
 |zero=>cases h
 |succ n=>rfl
theorem Q9k{t e:Nat}(h:ty t= .slc e):Tryz.prog.underlying t=some (.slice e)/\okE e=true/\okZ e=true/\(Tryz.prog.bytesOf e==0)=false/\Tryz.prog.bytesOf e=gN bys e:=by
 have g:=uP t;have f:=(tyF t).2;rw[h]at g f;obtain⟨f,a⟩:=Q6 f;obtain⟨f,b⟩:=Q6 f;obtain⟨f,c⟩:=Q6 f;obtain⟨f,d⟩:=Q6 f;exact⟨g,d,c,by simpa using b,eq_of_beq a⟩
theorem Qtl{t n e:Nat}{fl:List Nat}(h:ty t= .arr n e fl):Tryz.prog.underlying t=some (.array n e)/\okE e=true:=by
 have a:=uP t;have d:=(tyF t).2;rw[h]at a d;exact⟨a,(Q6 (Q6 d).1).2⟩
theorem Qul{t n e s:Nat}(h:ty t= .bar n e s):Tryz.prog.underlying t=some (.array n e)/\okE e=true:=by
 have a:=uP t;have d:=(tyF t).2;rw[h]at a d;exact⟨a,(Q6 d).2⟩
theorem Qzk{s i off t:Nat}(h:flO (ty s) i=some (off,t)):Qp4 Tryz.prog s i=some (off,t)/\okE t=true/\(Tryz.prog.cellsOf t==0)=false:=by
 have g:=uP s;have j:=(tyF s).2;have key:∀{fs:List (Nat×Nat)}{fs'},Tryz.prog.underlying s=some (.struct fs')->fs'.toList.map (fun f=>(f.offset,f.type))=fs->(fs.all fun f=>okE f.2&& !(Tryz.prog.cellsOf f.2==0))=true→
   gP fs i=some (off,t)->Qp4 Tryz.prog s i=some (off,t)/\okE t=true/\(Tryz.prog.cellsOf t==0)=false:=by
  intro fs fs' a d ha e;rw[Qwj]at e;have l:(off,t)∈fs:=List.mem_of_getElem? e;have:=(List.all_eq_true.1 ha) _ l;obtain⟨ha,hb⟩:=Q6 this;refine⟨?_,ha,by simpa using hb⟩;unfold Qp4;rw[a];subst d;simp only[List.getElem?_map]at e;simpa using e
 cases hi:ty s<;>rw[hi]at h g j<;>first|cases h|skip
 ·obtain⟨fs',a,d⟩:=g
  exact key a d (Q6 j).2 h
 ·obtain⟨fs',a,d⟩:=g
  exact key a d (Q6 j).2 h
section
variable {w:World}{k:KV}{K:Value->Prop}(hk:∀v,k v w->K v)
include hk
theorem Q6m{t:Nat}{x:Value}(h:ld t x w k):QDb Tryz.prog t x w K/\(Tryz.prog.underlying t).isSome=true:=by
 have ha:=agT t;have a:ag (ty t)= .sc\/(∃l,ag (ty t)= .ag l)->okT (ty t)=true:=by cases ty t<;>simp[ag,okT]
 unfold ld at h;unfold QDb;cases hi:ag (ty t)<;>rw[hi]at h ha a
 ·cases h
 ·cases h
 ·have a:=Qgg (a (.inl rfl))
  cases x<;>first|exact h.elim|skip
  rename_i p;cases p with
  |none=>exact h.elim
  |some p=>
   refine⟨?_,a.1⟩;simp only at ha⊢;rw[ha];exact Qhl h fun v d=>⟨d.1,hk _ d.2⟩
 ·have a:=Qgg (a (.inr ⟨_,rfl⟩))
  cases x<;>first|exact h.elim|skip
  rename_i p;cases p with
  |none=>exact h.elim
  |some p=>
   refine⟨?_,a.1⟩;simp only at ha⊢;rw[ha.1];have e:=Q2m hi;rw[←ha.2,show Nat.beq _ (Tryz.prog.cellsOf t)=true by rw[a.2.2.1,e];exact Nat.beq_refl _];exact QEl (fun l=>hk _) _ _ _ h
theorem Qom{s i:Nat}{x:Value}(h:fA (flO (ty s) i) x w k):QL2 Tryz.prog s x i K:=by
 cases d:flO (ty s) i with
 |none=>rw[d]at h;exact h.elim
 |some ot=>
  obtain⟨off,t⟩:=ot;rw[d]at h;obtain⟨e,_,f⟩:=Qzk d;unfold QL2;rw[e];cases x<;>first|exact h.elim|skip
  refine Qf7 hk h fun a ha=> ?_;rw[show Nat.beq (Tryz.prog.cellsOf t) 0=false from QOk f];exact hk _ ha
theorem Qpm{s i:Nat}{x:Value}(h:fE (flO (ty s) i) x w k):QY9 Tryz.prog s x i K:=by
 cases d:flO (ty s) i with
 |none=>rw[d]at h;exact h.elim
 |some ot=>
  obtain⟨off,t⟩:=ot;rw[d]at h;obtain⟨e,a,_⟩:=Qzk d;have a:=Qh7 a;have ha:=agT t;unfold QY9;rw[e];simp only[fE]at h;cases hi:ag (ty t)<;>rw[hi]at h ha
  ·cases h
  ·cases h
  ·cases x<;>first|exact h.elim|skip
   simp only at ha⊢;rw[a.1,ha];rw[fEb,Qxj]at h;obtain⟨v,f,h⟩:=Q5m hk h;rw[f];exact h
  ·cases x<;>first|exact h.elim|skip
   rename_i l cs;simp only at ha⊢;rw[a.1,ha.1];have g:=Q2m hi;rw[fEb,Q6l,Qpk,QUc]at h;rw[a.2.2,g];exact hk _ h
theorem Qvm{t:Nat}{x i:Value}(h:iA (ty t) x i w k):QM2 Tryz.prog t x i K:=by
 unfold QM2;cases hi:ty t<;>rw[hi]at h<;>first|exact False.elim h|skip
 ·obtain⟨e,d,_⟩:=Q9k hi
  have d:=Qh7 d;cases x<;>first|exact False.elim h|skip
  cases i<;>first|exact False.elim h|skip
  simp only[e];rw[d.1];exact⟨h.1,Qf7 hk h.2 fun a ha=>by rw[d.2.2];exact hk _ ha⟩
 ·obtain⟨e,d⟩:=Qtl hi
  have d:=Qh7 d;cases x<;>first|exact False.elim h|skip
  cases i<;>first|exact False.elim h|skip
  simp only[e];rw[d.1];exact⟨h.1,Qf7 hk h.2 fun a ha=>by rw[d.2.2];exact hk _ ha⟩
 ·obtain⟨e,d⟩:=Qul hi
  have d:=Qh7 d;cases x<;>first|exact False.elim h|skip
  cases i<;>first|exact False.elim h|skip
  simp only[e];rw[d.1];exact⟨h.1,Qf7 hk h.2 fun a ha=>by rw[d.2.2];exact hk _ ha⟩
theorem Qym{t:Nat}{x i:Value}(h:ix (ty t) x i w k):Q5a Tryz.prog t x i K:=by
 unfold Q5a;have a:=uP t;cases hi:ty t<;>rw[hi]at h a<;>first|exact False.elim h|skip
 cases x<;>first|exact False.elim h|skip
 cases i<;>first|exact False.elim h|skip
 simp only at a;simp only[a];exact⟨h.1,hk _ h.2⟩
theorem QOi{x:Option Value}{d y:Nat}{F G:Nat->Prop}(h:bd x d y F)(a:∀n,F n->G n):Ql3 x d y G:=by
 have _:=hk;cases x with
 |none=>exact a _ h
 |some v=>cases v<;>first|exact False.elim h|exact⟨h.1,a _ h.2⟩
theorem QSl{t:Nat}{x:Value}{lo hi:Option Value}(h:slI (ty t) x lo hi w k):QGa Tryz.prog t x lo hi none K:=by
 unfold QGa;have e:=uP t;cases hi:ty t<;>rw[hi]at h e<;>first|exact False.elim h|skip
 ·cases x<;>first|exact False.elim h|skip
  simp only at e;simp only[e];exact QOi hk h fun _ h=>QOi hk h fun _ h=>hk _ h
 ·obtain⟨e,d,_⟩:=Q9k hi
  have d:=Qh7 d;cases x<;>first|exact False.elim h|skip
  simp only[e];rw[d.1,d.2.2];exact QOi hk h fun _ h=>QOi hk h fun _ h=>hk _ h
 ·obtain⟨e,d⟩:=Qtl hi
  have d:=Qh7 d;cases x<;>first|exact False.elim h|skip
  simp only[e];rw[d.1,d.2.2];exact Qf7 hk h fun a h=>QOi hk h fun _ h=>QOi hk h fun _ h=>hk _ h
 ·obtain⟨e,d⟩:=Qul hi
  have d:=Qh7 d;cases x<;>first|exact False.elim h|skip
  simp only[e];rw[d.1,d.2.2];exact Qf7 hk h fun a h=>QOi hk h fun _ h=>QOi hk h fun _ h=>hk _ h
theorem QRm{x:Value}{i:Nat}(h:xt x i w k):Qq6 x i K:=by
 cases x<;>first|exact False.elim h|skip
 rw[xt,Qxj]at h;obtain⟨v,a,h⟩:=Q5m hk h;unfold Qq6;simp only[a];exact h
theorem QQm{o:UnOp}{x:Value}(h:uO o x w k):unW o x K:=by
 cases o<;>cases x<;>first|exact hk _ h|exact h.elim
theorem Q7m{b:Bool}{l:List Value}(h:mM b l w k):Qc7 b l K:=by
 match b,l,h with
 |true,[.int _ _, .int _ _],h=>exact hk _ h
 |false,[.int _ _, .int _ _],h=>exact hk _ h
theorem Qll{o:BinOp}{b:Bool}(h:qB o b w k):eqW o b K:=by
 cases o<;>first|exact hk _ h|exact h.elim
theorem QJm{o:BinOp}{a b:ByteArray}(h:sB o a b w k):Qhc o a b K:=by
 cases o<;>first|exact hk _ h|exact⟨h.1,hk _ h.2⟩|exact h.elim
theorem Qwm{o:BinOp}{t:IntKind}{a b:Int}(h:iB o t a b w k):QX8 o t a b K:=by
 cases o<;>first|exact hk _ h|exact⟨h.1,hk _ h.2⟩|exact h.elim
theorem Qxm{o:BinOp}{t u:IntKind}{a b:Int}{ty:Nat}(h:iD o t u a b w k):QEe Tryz.prog o ty (.int t a) (.int u b) K:=by
 have key:∀{o},iC (Qa5 t u) o t a b w k->(if t=u then QX8 o t a b K else False):=by
  intro o h;cases hs:Qa5 t u<;>rw[hs]at h
  ·exact h.elim
  ·rw[if_pos (Qcc hs)];exact Qwm hk h
 unfold QEe;cases o<;>first|exact⟨h.1,hk _ h.2⟩|exact key h
end
theorem QUl:∀{l:List Value}{off:Nat}{vs a:List Value},spl l off vs=some a->QD3 l off vs=a/\off+vs.length<=l.length:=by
 intro l
 induction l with
 |nil=>
  intro off vs a h;cases off<;>cases vs<;>simp[spl]at h;subst h;simp[QD3]
 |cons x l ih=>
  intro off vs a h;cases off with
  |zero=>
   cases vs with
   |nil=>simp[spl]at h;subst h;simp[QD3]
   |cons v vs=>
    simp only[spl]at h;cases hs:spl l 0 vs with
    |none=>rw[hs]at h;cases h
    |some r=>
     rw[hs]at h;simp only[cnO,Option.some.injEq]at h;obtain⟨d,e⟩:=ih hs;subst h d;refine⟨by simp[QD3],by simp at e⊢;omega⟩
  |succ n=>
   simp only[spl]at h;cases hs:spl l n vs with
   |none=>rw[hs]at h;cases h
   |some r=>
    rw[hs]at h;simp only[cnO,Option.some.injEq]at h;obtain⟨d,e⟩:=ih hs;subst h d;refine⟨by simp[QD3,show n+1+vs.length=(n+vs.length)+1 by omega],by simp at e⊢;omega⟩
theorem Qyk{l vs a:List Value}{o:Option (Nat×Nat)}(h:fiC l vs o=some a):∃off sz,o=some (off,sz)/\(Nat.beq vs.length sz&&Nat.ble (off+vs.length) l.length)=true/\QD3 l off vs=a:=by
 cases o with
 |none=>cases h
 |some os=>
  obtain⟨off,sz⟩:=os;simp only[fiC]at h;cases hb:(lnV vs==sz)<;>rw[hb]at h
  ·cases h
  ·obtain⟨d,e⟩:=QUl h
   rw[QVc]at hb;refine⟨off,sz,rfl,?_,d⟩;rw[show Nat.beq vs.length sz=true by rw[eq_of_beq hb];exact Nat.beq_refl _,show Nat.ble (off+vs.length) l.length=true from Nat.ble_eq▸e]
   rfl
theorem Qtm{t:TI}{env:List Value}{pl:Nat->Option (Nat×Nat)}(e:∀i os,pO t i=some os->pl i=some os):∀{ps:List (Nat×Operand)}{l a:List Value},fi t env ps (some l)=some a→
  QN7 pl l (ps.map fun(i,x)=>(i,evL env x))=some a:=by
 intro ps
 induction ps with
 |nil=>intro l a h;exact h
 |cons io ps ih=>
  obtain⟨i,o⟩:=io;intro l a h;simp only[fi]at h;cases d:fiC l (cls (evL env o)) (pO t i)with
  |none=>rw[d]at h;cases ps<;>cases h
  |some g=>
   rw[d]at h;obtain⟨off,sz,f,hb,hs⟩:=Qyk d;rw[QM9]at hb hs;simp only[List.map_cons,QN7,e _ _ f];rw[hb,hs];exact ih h
theorem Qsm{c:Nat}{env:List Value}:∀{ps:List (Nat×Operand)}{l a:List Value},fS c env ps (some l)=some a→
  QN7 (fun i=>some (i*c,c)) l (ps.map fun(i,x)=>(i,evL env x))=some a:=by
 intro ps
 induction ps with
 |nil=>intro l a h;exact h
 |cons io ps ih=>
  obtain⟨i,o⟩:=io;intro l a h;simp only[fS]at h;cases d:fiC l (cls (evL env o)) (some (i*c,c))with
  |none=>rw[d]at h;cases ps<;>cases h
  |some f=>
   rw[d]at h;obtain⟨off,sz,e,hb,hs⟩:=Qyk d;rw[QM9]at hb hs;cases e;simp only[List.map_cons,QN7];rw[hb,hs];exact ih h
theorem QYk(z:List Value):∀n,rp z n=(List.replicate n z).flatten
 |0=>rfl
 |n+1=>by rw[rp,Qlh,QYk z n];rfl
theorem Qdl{t:Nat}(h:(Qo1 Tryz.prog t).isSome=true):∃z,Qo1 Tryz.prog t=some z/\z.cells.toList=ze t:=by
 obtain⟨z,a⟩:=Option.isSome_iff_exists.1 h;refine⟨z,a,?_⟩;rw[zeF,Qc,a]
theorem QTi{fs':Array Field}{fs:List (Nat×Nat)}(a:fs'.toList.map (fun f=>(f.offset,f.type))=fs)(ha:(fs.all fun f=>okE f.2&& !(Tryz.prog.cellsOf f.2==0))=true):
  (fs'.all (fun f=>(Tryz.prog.info? f.type).isSome))=true/\∀i os,pO.pOb (gP fs i)=some os->((fs'[i]?).map fun f=>(f.offset,Tryz.prog.cellsOf f.type))=some os:=by
 have d:∀f∈fs'.toList,okE f.type=true:=by
  intro f h;have:(f.offset,f.type)∈fs:=by rw[←a];exact List.mem_map.2 ⟨f,h,rfl⟩
  exact(Q6 ((List.all_eq_true.1 ha) _ this)).1
 refine⟨?_,?_⟩
 ·rw[←Array.all_toList]
  exact List.all_eq_true.2 fun f h=>(Qh7 (d f h)).2.1
 ·intro i os h
  rw[Qwj,←a,List.getElem?_map]at h;rw[←Array.getElem?_toList];cases hi:fs'.toList[i]? with
  |none=>rw[hi]at h;cases h
  |some f=>
   rw[hi]at h;simp only[Option.map_some,pO.pOb]at h⊢;rw[(Qh7 (d f (List.mem_of_getElem? hi))).2.2];exact h
theorem Qci{t:Nat}(h:isA (ty t)=true):∃pl,Q05 Tryz.prog t=some pl/\∀i os,pO (ty t) i=some os->pl i=some os:=by
 have e:=uP t;have f:=(tyF t).2;unfold Q05;cases hi:ty t<;>rw[hi]at h e f<;>first|(cases h;done)|skip
 ·obtain⟨d,a⟩:=Qtl hi
  have a:=Qh7 a;simp only[d,a.2.1,if_pos];refine⟨_,rfl,fun i os h=> ?_⟩;rw[a.2.2];exact h
 ·obtain⟨fs',d,g⟩:=e
  obtain⟨ha,hb⟩:=QTi g (Q6 f).2;simp only[d,ha,if_pos];exact⟨_,rfl,hb⟩
 ·obtain⟨fs',d,g⟩:=e
  obtain⟨ha,hb⟩:=QTi g (Q6 f).2;simp only[d,ha,if_pos];exact⟨_,rfl,hb⟩
 ·obtain⟨d,a⟩:=Qul hi
  have a:=Qh7 a;simp only[d,a.2.1,if_pos];refine⟨_,rfl,fun i os h=> ?_⟩;rw[a.2.2];exact h
theorem Qfm{w:World}{k:KV}{K:Value->Prop}(hk:∀v,k v w->K v){t:Nat}{env:List Value}{ps:List (Nat×Operand)}(h:bl t env ps w k):Qxc Tryz.prog t (ps.map fun(i,x)=>(i,evL env x)) K:=by
 unfold bl at h;cases ha:isA (ty t)<;>rw[ha]at h
 ·exact False.elim h
 obtain⟨pl,f,a⟩:=Qci ha;have g:okT (ty t)=true:=by cases hi:ty t<;>rw[hi]at ha<;>first|rfl|(cases ha;done)
 obtain⟨z,j,d⟩:=Qdl (Qgg g).2.2.2.1;unfold Qxc;rw[j,f];simp only[bl1]at h;cases e:fi (ty t) env ps (some (ze t))with
 |none=>rw[e]at h;exact False.elim h
 |some l=>
  rw[e]at h;simp only[d,Qtm a e];exact hk _ h
theorem Qgm{s d:Nat}{x:Operand}{env:List Value}{w:World}{k:KV}{K:Value->Prop}{L:Value->World->Prop}{t:Nat}{ops:List Oper}{dst:Option Nat}(hk:∀v,k v w->K v)(hl:∀v w',k v w'->L v w')
  (h:cO s d (ty s) (ty d) (evL env x) w k):
  (Qk0 Tryz.prog (.convert s d x)= .pure/\Qz3 Tryz.prog (.convert s d x) (evL env) K)\/(Qk0 Tryz.prog (.convert s d x)= .mem/\Qdh Tryz.prog ops dst (.convert s d x) (evL env) w K)∨
   (Qk0 Tryz.prog (.convert s d x)= .eff/\Qtj Tryz.prog (.convert s d x) t (evL env) w L):=by
 have a:=uP s;have f:=uP d;cases hs:ty s<;>rw[hs]at h a<;>cases j:ty d<;>rw[j]at h f<;>cases g:evL env x<;>rw[g]at h<;>first|exact False.elim h|skip
 ·refine .inl ⟨by simp only[Qk0,a],?_⟩
  simp only[Qz3,Qph,a,f,g];exact hk _ h
 ·refine .inl ⟨by simp only[Qk0,a,f],?_⟩
  simp only[Qz3,Qph,a,f,g];exact hk _ h
 ·obtain⟨f,_⟩:=Q9k j
  refine .inr (.inr ⟨by simp only[Qk0,a,f],?_⟩);simp only[Qtj,Q9c,g];exact Quf h fun v ⟨w',l,hk⟩=>⟨w',l,hl _ _ hk⟩
 ·obtain⟨a,_⟩:=Q9k hs
  refine .inr (.inl ⟨by simp only[Qk0,a],?_⟩);rename_i e _ _ _ _ _;have i:=uP e;simp only[cO]at h;cases m:ty e<;>rw[m]at h i<;>first|exact False.elim h|skip
  rename_i kk;cases kk<;>first|exact False.elim h|skip
  simp only at i f;simp only[Qdh,QWg,a,f,i,g];obtain⟨b,hb,h⟩:=h;exact⟨b,hb,hk _ h⟩
theorem Qzm{x:Operand}{t:Nat}{env:List Value}{w:World}{k:KV}{K:Value->Prop}{ops:List Oper}{dst:Option Nat}(hk:∀v,k v w->K v)(h:le (ty t) (evL env x) w k):
  (Qk0 Tryz.prog (.call ⟨.builtin .len,⟨[x]⟩,⟨[t]⟩⟩)= .pure/\Qz3 Tryz.prog (.call ⟨.builtin .len,⟨[x]⟩,⟨[t]⟩⟩) (evL env) K)∨
   (Qk0 Tryz.prog (.call ⟨.builtin .len,⟨[x]⟩,⟨[t]⟩⟩)= .mem/\Qdh Tryz.prog ops dst (.call ⟨.builtin .len,⟨[x]⟩,⟨[t]⟩⟩) (evL env) w K):=by
 have a:=uP t;cases hi:ty t<;>rw[hi]at h a<;>first|exact False.elim h|skip
 ·cases d:evL env x<;>rw[d]at h<;>first|exact False.elim h|skip
  refine .inl ⟨by simp only[Qk0,a],?_⟩;simp only[Qz3,QYi,a,d];exact hk _ h
 ·rename_i e
  have f:=uP e;refine .inl ⟨by simp only[Qk0,a],?_⟩;simp only[le]at h;cases g:ty e<;>rw[g]at h f<;>first|exact False.elim h|skip
  ·simp only at f
   simp only[Qz3,QYi,a,f];exact hk _ h
  ·simp only at f
   simp only[Qz3,QYi,a,f];exact hk _ h
 ·cases d:evL env x<;>rw[d]at h<;>first|exact False.elim h|skip
  refine .inl ⟨by simp only[Qk0,a],?_⟩;simp only[Qz3,QYi,a,d];exact hk _ h
 ·obtain⟨kk,a⟩:=a
  refine .inr ⟨by simp only[Qk0,a],?_⟩;simp only[Qdh,QFb,a];obtain⟨n,i,h⟩:=h;exact⟨n,i,hk _ h⟩
 ·refine .inl ⟨by simp only[Qk0,a],?_⟩
  simp only[Qz3,QYi,a];exact hk _ h
 ·refine .inl ⟨by simp only[Qk0,a],?_⟩
  simp only[Qz3,QYi,a];exact hk _ h
theorem QFm{t:Nat}{a b:Value}{o:BinOp}{w:World}{k:KV}{K:Value->Prop}(hk:∀v,k v w->K v)(h:qM t a b w k o):(o= .eql\/o= .neq)/\∃c:Bool,QBh Tryz.prog t a b w c/\eqW o c K:=by
 cases o<;>first|exact False.elim h|skip
 ·obtain⟨c,d,h⟩:=h;exact⟨.inl rfl,c,d,hk _ h⟩
 ·obtain⟨c,d,h⟩:=h;exact⟨.inr rfl,c,d,hk _ h⟩
theorem Qdm{t u:Nat}{o:BinOp}{x y:Operand}{env:List Value}{w:World}{k:KV}{K:Value->Prop}{ops:List Oper}{dst:Option Nat}(hk:∀v,k v w->K v)(h:bO t (ty t) (isC y) o (evL env x) (evL env y) w k):
  (Qk0 Tryz.prog (.binOp o t x y u)= .pure/\Qz3 Tryz.prog (.binOp o t x y u) (evL env) K)\/(Qk0 Tryz.prog (.binOp o t x y u)= .mem/\Qdh Tryz.prog ops dst (.binOp o t x y u) (evL env) w K):=by
 have a:=uP t;have mem:isC y=false->(∀l,Tryz.prog.underlying t≠some (.int l))->Tryz.prog.underlying t≠some .string->Tryz.prog.underlying t≠some .bool->qM t (evL env x) (evL env y) w k o→
   (Qk0 Tryz.prog (.binOp o t x y u)= .mem/\Qdh Tryz.prog ops dst (.binOp o t x y u) (evL env) w K):=by
  intro e m n p h;obtain⟨r,c,f,h⟩:=QFm hk h;refine⟨?_,c,f,h⟩;have i:Qq3 Tryz.prog t y=false:=by
   unfold Qq3;cases j:Tryz.prog.underlying t with
   |none=>cases y<;>first|rfl|cases e
   |some d=>cases d<;>first|exact absurd j (m _)|exact absurd j n|exact absurd j p|(cases y<;>first|rfl|cases e)
  rcases r with rfl|rfl<;>simp[Qk0,i]
 have pur:(Qq3 Tryz.prog t y=true\/(o≠ .eql/\o≠ .neq))->QEe Tryz.prog o t (evL env x) (evL env y) K->(Qk0 Tryz.prog (.binOp o t x y u)= .pure/\Qz3 Tryz.prog (.binOp o t x y u) (evL env) K):=by
  intro i h;refine⟨?_,h⟩;rcases i with i|⟨s,z⟩
  ·cases o<;>simp[Qk0,i]
  ·cases o<;>first|rfl|exact absurd rfl s|exact absurd rfl z
 have con:∀v,isC y=true->evL env y=v->y= .const v:=by
  intro v f A;cases y<;>first|cases f;done|skip
  rw[←A];rfl
 cases hi:ty t<;>rw[hi]at h a
 case int=>
  cases g:evL env x<;>rw[g]at h<;>cases e:evL env y<;>rw[e]at h<;>first|exact False.elim h|skip
  exact .inl (pur (.inl (by simp only[Qq3,a])) (by rw[g,e];exact Qxm hk h))
 case str=>
  cases g:evL env x<;>rw[g]at h<;>cases e:evL env y<;>rw[e]at h<;>first|exact False.elim h|skip
  exact .inl (pur (.inl (by simp only[Qq3,a])) (by rw[g,e];exact QJm hk h))
 case bool=>
  cases g:evL env x<;>rw[g]at h<;>cases e:evL env y<;>rw[e]at h<;>first|exact False.elim h|skip
  exact .inl (pur (.inl (by simp only[Qq3,a])) (by rw[g,e];simp only[QEe,a];exact Qll hk h))
 case ptr=>
  cases f:isC y<;>rw[f]at h
  ·simp only at a
   exact .inr (mem f (by rw[a];rintro _ ⟨⟩) (by rw[a];rintro⟨⟩) (by rw[a];rintro⟨⟩) h)
  ·cases g:evL env x<;>rw[g]at h<;>cases e:evL env y<;>rw[e]at h<;>first|exact False.elim h|skip
   rename_i q;cases q<;>first|exact False.elim h|skip
   simp only at a;exact .inl (pur (.inl (by rw[con _ f e];simp only[Qq3,a])) (by rw[g,e];simp only[QEe,a];exact Qll hk h))
 case slc=>
  cases f:isC y<;>rw[f]at h<;>first|exact False.elim h|skip
  cases g:evL env x<;>rw[g]at h<;>cases e:evL env y<;>rw[e]at h<;>first|exact False.elim h|skip
  rename_i q _ _;cases q<;>first|exact False.elim h|skip
  simp only at a;exact .inl (pur (.inl (by rw[con _ f e];simp only[Qq3,a])) (by rw[g,e];simp only[QEe,a];exact Qll hk h))
 case map=>
  cases f:isC y<;>rw[f]at h<;>first|exact False.elim h|skip
  cases g:evL env x<;>rw[g]at h<;>cases e:evL env y<;>rw[e]at h<;>first|exact False.elim h|skip
  rename_i q;cases q<;>first|exact False.elim h|skip
  obtain⟨kk,a⟩:=a;exact .inl (pur (.inl (by rw[con _ f e];simp only[Qq3,a])) (by rw[g,e];simp only[QEe,a];exact Qll hk h))
 case st=>
  obtain⟨fs,a,_⟩:=a;cases f:isC y<;>rw[f]at h<;>first|exact False.elim h|skip
  exact .inr (mem f (by rw[a];rintro _ ⟨⟩) (by rw[a];rintro⟨⟩) (by rw[a];rintro⟨⟩) h)
 case arr=>
  simp only at a;cases f:isC y<;>rw[f]at h<;>first|exact False.elim h|skip
  exact .inr (mem f (by rw[a];rintro _ ⟨⟩) (by rw[a];rintro⟨⟩) (by rw[a];rintro⟨⟩) h)
 all_goals exact False.elim h
theorem QGj{w:World}{p:Addr}{T f:Value->Value->World->Prop}{E g:World->Prop}(h:Q2e w p T E)(j:∀a v w,T a v w->f a v w)(i:∀w,E w->g w):Q2e w p f g:=by
 obtain⟨l,m,since,seen,last,n,o,q⟩:=h;refine⟨l,m,since,seen,last,n,fun h=>i _ (o h),fun r s=> ?_⟩;obtain⟨es,clock,a,b,c,d⟩:=q r s;exact⟨es,clock,a,b,fun e t hs x=>j _ _ _ (c e t hs x),fun hs x=>i _ (d hs x)⟩
theorem Qjk{i:TI}{n:Nat}{env:List Value}{ps:List (Nat×Operand)}{w:World}{k:KV}(h:bS i n env ps w k):∃e,i= .slc e:=by
 cases i<;>first|exact⟨_,rfl⟩|exact False.elim h
theorem nbq(a b:Nat):Nat.beq a b=(a==b):=by rw[Bool.eq_iff_iff];simp
section
variable {w:World}{k:KV}{L:Value->World->Prop}(hl:∀v w',k v w'->L v w')
include hl
theorem QVl{p:Addr}(l:List Value):∀i w,stR p k l i w->QA6 w p l i fun w'=>L undef w':=by
 induction l with
 |nil=>intro i w h;exact hl _ _ h
 |cons v l ih=>
  intro i w h;rw[stR,QLi]at h;refine⟨h.1,?_⟩;rcases Qk h.2 with⟨hb,h⟩|⟨_,h⟩
  ·rw[hb];exact fun w' a=>ih _ _ (h w' a)
  ·exact h.elim
theorem QMm{t:Nat}{v x:Value}(h:so (cls v) x w k (aB (okT (ty t)) (lnV (cls v)==ce t))):QLa Tryz.prog t x v w fun w'=>L undef w':=by
 rw[Qhk]at h;cases hb:(okT (ty t)&&(lnV (cls v)==ce t))<;>rw[hb]at h
 ·exact False.elim h
 obtain⟨hb,a⟩:=Q6 hb;have d:=Qgg hb;rw[QM9,QVc]at a;unfold QLa;cases x<;>first|exact False.elim h|skip
 rename_i p;have h:Qv0 p fun p=>stR p k (cls v) 0 w:=h;cases p with
 |none=>exact h
 |some p=>
  simp only[Qv0]at h⊢;rw[d.2.1,d.2.2.1,show Nat.beq v.cells.toList.length (ce t)=true by rw[eq_of_beq a];exact Nat.beq_refl _];rw[QM9]at h;exact QVl hl _ _ _ h
theorem Q6k{o:Obj}{f:Nat->World->Prop}{g:Nat->World->Prop}(h:nw w o f)(a:∀b w',f b w'->g b w'):Q2j w o g:=let _:= @hl;fun b w' hb=>a b w' (h b w' hb)
theorem Qbm{t:Nat}(h:QFk (nw w (.cells (ze t).toArray t) (kP k)) (okT (ty t))):Q9 (Qo1 Tryz.prog t).isSome (Q2j w (.cells (Qc Tryz.prog t).toArray t) fun b w'=>L (Qpg b) w') False:=by
 cases hb:okT (ty t)<;>rw[hb]at h
 ·exact False.elim h
 rw[(Qgg hb).2.2.2.1,←zeF];exact Q6k hl h fun b w' h=>hl _ _ h
theorem Qem{t n:Nat}{env:List Value}{ps:List (Nat×Operand)}(h:bS (ty t) n env ps w k):Q72 Tryz.prog t n (ps.map fun(i,x)=>(i,evL env x)) w L:=by
 obtain⟨e,hi⟩:=Qjk h;rw[hi]at h;obtain⟨j,m,o,_⟩:=Q9k hi;have a:=Q7k (t:=e) (by rw[m,o];rfl);simp only[bS]at h;cases hb:(n*ce e-65536==0)<;>rw[hb]at h
 ·exact False.elim h
 simp only[bSa]at h;cases f:fS (ce e) env ps (some (rp (ze e) n))with
 |none=>rw[f]at h;exact False.elim h
 |some l=>
  rw[f]at h;unfold Q72;simp only[j];have g:n*ce e<=65536:=by have:=eq_of_beq hb;omega
  rw[a.2.2.1,a.2.1,a.2.2.2.1,show Nat.ble (n*ce e) 65536=true from Nat.ble_eq▸g,show Nat.beq (Qc Tryz.prog e).length (ce e)=true by rw[a.2.2.2.2,a.2.2.1];exact Nat.beq_refl _];have d:=Qsm f;rw[QYk,zeF]at d;rw[d];exact Q6k hl h fun b w' h=>hl _ _ h
theorem QBm{t:Nat}{x y:Value}(h:mS (ty t) x y w k):QN2 Tryz.prog t x y w L:=by
 cases hi:ty t<;>rw[hi]at h<;>first|exact False.elim h|skip
 rename_i e;obtain⟨f,g,i,hb,a⟩:=Q9k hi;have d:=Q7k (t:=e) (by rw[g,i];rfl);cases x<;>first|exact False.elim h|skip
 cases y<;>first|exact False.elim h|skip
 unfold QN2;simp only[f];rw[d.2.1,d.2.2.2.1,show Nat.beq (Qc Tryz.prog e).length (Tryz.prog.cellsOf e)=true by rw[d.2.2.2.2];exact Nat.beq_refl _,QOk hb,a];exact⟨h.1,Q6k hl h.2 fun b w' h=>hl _ _ h⟩
theorem Qim{f:Nat}{args:List Value}(h:cl (gL rts f) f args w k):QG9 Tryz.prog f args.toArray w L:=by
 by_cases d:f<rts.length
 ·have:=(List.all_eq_true.1 QIm) f (List.mem_range.2 d)
  unfold QG9;cases g:Tryz.prog.funcs[f]? with
  |none=>rw[g]at this;cases this
  |some fn=>
   rw[g]at this;simp only at this;cases hb:fn.body.isSome<;>rw[hb]at this
   ·rw[Qil this]at h;exact False.elim h
   ·simp only[beq_iff_eq]at this
    rw[←this]at h;simp only[hb]
    match a:fn.resultTypes.toList,h with
    | [],h=>simp only[Q9,a];exact h.mono fun e w' h=>⟨h.1,hl _ _ h.2⟩
    | [t],h=>simp only[Q9,a];exact h.mono fun e w' h=>Quf h fun v h=>⟨h.1,hl _ _ h.2⟩
    | [t,u],h=>simp only[Q9,a];exact h.mono fun e w' h=>Quf h fun v h=>Quf h fun x h=>⟨h.1,hl _ _ h.2⟩
    | [t,u,s],h=>simp only[Q9,a];exact h.mono fun e w' h=>Quf h fun v h=>Quf h fun x h=>Quf h fun y h=>⟨h.1,hl _ _ h.2⟩
    |_::_::_::_::_,h=>exact False.elim h
 ·have:∀(l:List (List Nat))(f:Nat),l.length<=f->gL l f=[0,0,0,0,0]:=by
   intro l
   induction l with
   |nil=>intro f _;simp[gL]
   |cons x l ih=>intro f d;cases f with
    |zero=>simp at d
    |succ f=>rw[gL];exact ih f (by simpa using d)
  rw[this _ _ (Nat.le_of_not_lt d)]at h;exact False.elim h
theorem Qjm{f:Value}{args:List Value}(h:cv f args w k):Q48 Tryz.prog f args w L:=by
 cases f<;>first|exact False.elim h|skip
 rename_i fn _ _;cases fn<;>first|exact False.elim h|skip
 simp only[cv,Qlh]at h;exact Qim hl h
theorem Qml{t:Nat}{s:Sem Value}(h:rT t s w k):Q9c Tryz.prog t s w L:=Quf h fun v ⟨w',a,h⟩=>⟨w',a,hl _ _ h⟩
theorem QNl{s:Sem Unit}(h:rU s w k):Qsi Tryz.prog s w L:=by
 obtain⟨w',a,h⟩:=h;exact⟨w',a,hl _ _ h⟩
theorem QCm{t:Nat}{m key:Value}(h:me t (ty t) m key w k):QFc Tryz.prog t m key w L:=by
 have a:=uP t;cases hi:ty t<;>rw[hi]at h a<;>first|exact False.elim h|skip
 obtain⟨kk,a⟩:=a;unfold QFc;simp only[a];exact Quf h fun v ⟨n,w',d,h⟩=>⟨n,w',d,hl _ _ h⟩
theorem QGm{t:Nat}{x:Value}(h:rg (ty t) x w k):Qpa Tryz.prog t x w L:=by
 have a:=uP t;cases hi:ty t<;>rw[hi]at h a<;>first|exact False.elim h|skip
 cases x<;>first|exact False.elim h|skip
 obtain⟨kk,a⟩:=a;unfold Qpa;simp only[a];obtain⟨es,c,d,h⟩:=h;exact⟨es,c,d,Q6k hl h fun b w' h=>hl _ _ h⟩
theorem QDm{x:Value}(h:nx x w k):Q4i x w L:=by
 cases x<;>first|exact False.elim h|skip
 rename_i p;cases p with
 |none=>exact False.elim h
 |some p=>
  have h:Q2e w p (fun a v w'=>k (.tuple #[.bool true,a,v]) w') (fun w'=>k (.tuple #[.bool false]) w'):=h;exact QGj h (fun _ _ _ h=>hl _ _ h) fun _ h=>hl _ _ h
end
theorem QAm{w:World}{k:KV}{K:Value->Prop}(hk:∀v,k v w->K v){t:Nat}{m key:Value}{ok:Bool}(h:lk t (ty t) m key ok w k):Q29 Tryz.prog t m key ok w K:=by
 have a:=uP t;cases hi:ty t<;>rw[hi]at h a<;>first|exact False.elim h|skip
 obtain⟨kk,a⟩:=a;unfold Q29;simp only[a];exact Quf h fun v ⟨b,hb,h⟩=>⟨b,hb,hk _ h⟩
theorem QZl(d i:Nat):∀l:List Oper,xT d i l=QM8 l (some d) i:=by
 intro l
 induction l with
 |nil=>rfl
 |cons o l ih=>
  obtain⟨a,o,t,b,c,g⟩:=o;cases o<;>simp only[xT,QM8]<;>try exact ih
  rename_i x j;cases x<;>simp only[xT,QM8]<;>try exact ih
  rename_i y;rw[nbq,nbq];cases (y==d)<;>cases (i==j)<;>first|rfl|exact ih
theorem Q8m{t:Option Nat}{F a:Value->Prop}(h:xO t F)(d:∀v,F v->a v):exO Tryz.prog t a:=by
 cases t with
 |none=>exact h.imp fun _=>d _
 |some t=>exact Quf h d
theorem Qmm{w:World}{k:KV}{K:Value->Prop}(hk:∀v,k v w->K v){ops:List Oper}{it:Value}{dst:Option Nat}(h:eN ops it w k dst):
  exO Tryz.prog (QM8 ops dst 0) fun a=>exO Tryz.prog (QM8 ops dst 1) fun v=>entryAt Tryz.prog it w a v/\K (.tuple #[a,v]):=by
 cases dst with
 |none=>exact False.elim h
 |some d=>
  simp only[eN,QZl]at h;exact Q8m h fun a h=>Q8m h fun v h=>⟨h.1,hk _ h.2⟩
end Go.Nf
