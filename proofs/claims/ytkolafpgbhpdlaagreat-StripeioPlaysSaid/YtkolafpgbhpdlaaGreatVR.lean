import Derived.Test.YtkolafpgbhpdlaaGreatVcC
import Derived.RangeFuncLeaves
import Derived.RangeFuncRecord
namespace Go.Vc
open Go
def QSc:Code->Bool
 | .rangeFunc _ _ _ _=>true
 | .seq a b=>QSc a||QSc b
 | .block _ c=>QSc c
 |_=>false
def QFe:Code->Code
 | .rangeFunc _ _ _ _=> .skip
 | .seq a b=>bif QSc a then QFe a else .seq a (QFe b)
 | .block _ c=>QFe c
 |c=>c
def rfC:Code->Code
 | .seq a b=>bif QSc a then rfC a else rfC b
 | .block _ c=>rfC c
 |c=>c
def Q4c:Code->Code
 | .rangeFunc _ _ _ _=> .skip
 | .seq a b=>bif QSc a then(match Q4c a with| .skip=>b|c=> .seq c b)else Q4c b
 | .block _ c=>Q4c c
 |c=>c
def Qq7(P:Program):Code->(Exit->Act->World->Prop)->Act->World->Prop
 | .seq a b,Q=>bif QSc a then Qq7 P a (Exit.then (b.wp P Q) Q)else Qq7 P b Q
 | .block i c,Q=>Qq7 P c (Exit.inBlock i Q)
 | .rangeFunc _ _ _ _,Q=>Q .normal
 |_,_=>fun _ _=>False
theorem Qif{P:Program}(hP:QJ1 P)(t:P.follows .mixedOrders=true)(ann:Nat->Qa1):∀(c:Code)(p:Nat)(Q:Exit->List Value->World->Prop)(env:List Value)(w:World)(Qw:Exit->Act->World->Prop),
  QSc c=true->vc P ann (QFe c) p Q env w->(∀i env w,¬Q (.exit i) env w)->(∀e env' w',e≠ .normal->Q e env' w'->Qw e (QZ [] env') w')→
  (∀env' w',Q .normal env' w'->(rfC c).wp P (fun e a w=>e= .normal/\Qq7 P c Qw a w) (QZ [] env') w')->c.wp P Qw (QZ [] env) w:=by
 intro c
 induction c with
 |rangeFunc f ps a b=>
  intro p Q env w Qw _ h _ _ d;refine Go.wp_mono (d env w h) ?_;rintro e x w' ⟨rfl,l⟩;exact l
 |seq a b iha ihb=>
  intro p Q env w Qw m h n l d;cases ha:QSc a with
  |true=>
   have o:QFe (.seq a b)=QFe a:=by simp[QFe,ha]
   have q:rfC (.seq a b)=rfC a:=by simp[rfC,ha]
   have r:∀Q,Qq7 P (.seq a b) Q=Qq7 P a (Exit.then (b.wp P Q) Q):=fun Q=>by simp[Qq7,ha]
   rw[o]at h;rw[q]at d;refine wp_seq (iha p Q env w _ ha h n (fun e env' w' g k=> ?_) fun env' w' k=> ?_)
   ·have:=l e env' w' g k
    cases e with
    |normal=>exact(g rfl).elim
    |_=>exact this
   ·have:=d env' w' k
    rw[r]at this;exact this
  |false=>
   have hb:QSc b=true:=by simpa[QSc,ha]using m
   have o:QFe (.seq a b)= .seq a (QFe b):=by simp[QFe,ha]
   have q:rfC (.seq a b)=rfC b:=by simp[rfC,ha]
   have r:∀Q,Qq7 P (.seq a b) Q=Qq7 P b Q:=fun Q=>by simp[Qq7,ha]
   rw[o]at h;rw[q]at d;have u:=Qo9 (ds:=[]) hP t ann a _ _ _ _ h;refine wp_seq (Go.wp_mono u ?_);rintro e x w' ⟨env',rfl,_,k⟩;cases e with
   |normal=>
    refine ihb _ Q env' w' Qw hb k n l fun env'' w'' s=> ?_;have:=d env'' w'' s;rw[r]at this;exact this
   |_=>exact l _ _ _ (by simp) k
 |block i c ih=>
  intro p Q env w Qw m h n l d;refine wp_block (ih p Q env w _ m h n (fun e env' w' g k=> ?_) d);have:=l e env' w' g k;cases e with
  |exit j=>exact(n _ _ _ k).elim
  |_=>exact this
 |_=>intro p Q env w Qw m;simp[QSc]at m
def Q3m(P:Program)(rs:List ResultVar)(R:Value->World->Prop)(Z:List Value->World->Prop):Exit->List Value->World->Prop:=fun e env w=>
 match e with
 | .normal=>Z env w
 | .ret=>QGe P w rs env [] fun vs=>R (Qv5 vs) w
 |_=>False
def Qnl(P:Program)(D:Nat)(rs:List ResultVar)(R:Value->World->Prop):Exit->List Value->World->Prop:=fun e env w=>
 match e with
 | .normal| .ret=>w.heap[D]? =some (.deferred (some []))/\QGe P (w.putObj D (.deferred none)) rs env [] fun vs=>R (Qv5 vs) (w.putObj D (.deferred none))
 |_=>False
theorem QEg{P:Program}{fn:Func}{w:World}{env:List Value}{ds:List Deferred}{R:Value->World->Prop}(h:QGe P w fn.results.toList env [] fun vs=>R (Qv5 vs) w):
  ∃v,(results fn (QZ ds env).tmps).run P w= .ok v w/\∃i,Ending.returned v= .returned i/\R i w:=by
 obtain⟨vs,j,e⟩:=Qu8 h;refine⟨Qv5 vs,?_,_,rfl,by simpa using j⟩;have d:∀t,(QZ ds env).tmps.getD t undef=Qy env t:=by intro t;simp[QZ,Qx2]
 have k:=QGb (f:=fun
  | .tmp t=>pure ((QZ ds env).tmps.getD t undef)
  | .cell a t=>do loadVar t (←asAddr ((QZ ds env).tmps.getD a undef))) (by
   intro r v g;cases r with
   |tmp t=>simp only[d];rw[g];rfl
   |cell a t=>
    obtain⟨p,l,m⟩:=g
    simp only[d,l,asAddr,Sem.run_bind,Sem.run_pure,Result.andThen,m]) e
 have n:(fn.results.mapM fun
  | .tmp t=>pure ((QZ ds env).tmps.getD t undef)
  | .cell a t=>do loadVar t (←asAddr ((QZ ds env).tmps.getD a undef)):Sem (Array Value)).run P w= .ok vs.toArray w:=by
  rw[Array.mapM_eq_mapM_toList];simp only[Sem.run_map,k,Result.andThen]
 unfold results;rw[Sem.run_bind];refine(congrArg (fun r:Result (Array Value)=>r.andThen _) n).trans ?_;simp only[Result.andThen,Sem.run_pure]
 match vs with
 | []=>rfl
 | [v]=>rfl
 |v::u::rest=>simp[Qv5]
theorem QI9{P:Program}(hP:QJ1 P)(m:P.follows .mixedOrders=true)(ann annB:Nat->Qa1){f:FuncId}{fn:Func}{args:Array Value}{w:World}{R:Value->World->Prop}{Z:List Value->World->Prop}
  (s:P.funcs[f]? =some fn) (hb:fn.body.isSome=true) (o:QSc (fn.body.getD .skip)=true)
  (d:∀(Q:Exit->Act->World->Prop)(a:Act)(w:World),(Q4c (fn.body.getD .skip)).wp P Q a w->Qq7 P (fn.body.getD .skip) Q a w)
  (h:vc P ann (QFe (fn.body.getD .skip)) 1 (Q3m P fn.results.toList R Z) (args.toList++List.replicate (fn.ntmps-args.toList.length) undef) w)
  (p:∀env w',Z env w'->(rfC (fn.body.getD .skip)).wp P (fun e a w=>e= .normal/\∃D,a=QZ [{target:= .collected D,args:= #[]}] env∧
   vc P annB (Q4c (fn.body.getD .skip)) 1 (Qnl P D fn.results.toList R) env w) (QZ [] env) w'):
  Calls P f args w fun e w'=>∃v,e= .returned v/\R v w':=by
 obtain⟨c,q⟩:=Option.isSome_iff_exists.1 hb;refine(callsIn_wide (n:=0)).1 (callsIn_of_wp_marks s q trivial ?_ rfl);refine wpIn_wide.2 ?_;rw[q]at h p o d;have e:(⟨args++Array.replicate (fn.ntmps-args.size) undef,[]⟩:Act)=QZ [] (args.toList++List.replicate (fn.ntmps-args.toList.length) undef):=by
  unfold QZ
  congr 1
  apply Array.toList_inj.1;simp
 rw[e];refine Qif hP m ann c 1 _ _ _ _ o h (fun i env w h=>h) (fun e env' w' l k=> ?_) fun env' w' k=> ?_
 ·cases e with
  |normal=>exact(l rfl).elim
  |ret=>exact QEg k
  |_=>exact k.elim
 ·refine Go.wp_mono (p env' w' k) ?_
  rintro e a w'' ⟨rfl,D,rfl,t⟩;refine⟨rfl,d _ _ _ ?_⟩;refine Go.wp_mono (Qo9 (ds:=[{target:= .collected D,args:= #[]}]) hP m annB _ _ _ _ _ t) ?_;rintro e x r ⟨g,rfl,_,hQ3⟩;have key:Qnl P D fn.results.toList R .ret g r->LeavesInM Fence.wide 0 P fn (QZ [{target:= .collected D,args:= #[]}] g).tmps (fun e w'=>∃v,e= .returned v/\R v w') (QZ [{target:= .collected D,args:= #[]}] g).defers .returning r:=by
   rintro⟨u,j⟩;refine⟨by simp, .inl ⟨_,_,rfl,run_takeDeferred u,?_⟩⟩;exact QEg j
  cases e with
  |normal=>exact key hQ3
  |ret=>exact key hQ3
  |_=>exact hQ3.elim
end Go.Vc
