import Derived.Test.YtkolafpgbhpdlaaGreatNfB
namespace Go.Nf
open Go Go.Vc Go.Proofs
attribute [local irreducible] Go.Proofs.Tryz.prog ty tys bys rts
noncomputable def ldB:Op->Bool
 | .load t _=>(Tryz.prog.underlying t).isSome
 |_=>true
theorem QMl{ops:List Oper}{dst:Option Nat}{t:Nat}{env:List Value}{w:World}{k:KV}{Kr:Value->Prop}{Ke:Value->World->Prop}(g:∀v,k v w->Kr v)(j:∀v w',k v w'->Ke v w')(o:Op)(h:op ops dst t env w k o):
  (Qk0 Tryz.prog o= .pure/\Qz3 Tryz.prog o (evL env) Kr)\/(Qk0 Tryz.prog o= .mem/\ldB o=true/\Qdh Tryz.prog ops dst o (evL env) w Kr)∨
   (Qk0 Tryz.prog o= .eff/\Qtj Tryz.prog o t (evL env) w Ke):=by
 cases o with
 |move x=>exact .inl ⟨rfl,g _ h⟩
 |assign x=>exact .inl ⟨rfl,g _ h⟩
 |pick c a b=>
  obtain⟨x,z,h⟩:=QEm g h;exact .inl ⟨rfl,by simp only[Qz3,z];exact h⟩
 |nilCheck x=>exact .inl ⟨rfl,QIl g h⟩
 |fieldAddr s x i=>exact .inl ⟨rfl,Qom g h⟩
 |field s x i=>exact .inl ⟨rfl,Qpm g h⟩
 |indexAddr t x i=>exact .inl ⟨rfl,Qvm g h⟩
 |index t x i=>exact .inl ⟨rfl,Qym g h⟩
 |slice t x lo hi mx=>
  cases mx with
  |none=>simp only[op,Quk]at h;exact .inl ⟨rfl,QSl g h⟩
  |some _=>exact False.elim h
 |extract x i=>exact .inl ⟨rfl,QRm g h⟩
 |binOp o t x y u=>
  rcases Qdm (ops:=ops) (dst:=dst) (u:=u) g h with h|⟨p,q⟩
  ·exact .inl h
  ·exact .inr (.inl ⟨p,rfl,q⟩)
 |unOp o t x=>exact .inl ⟨rfl,QQm g h⟩
 |convert s d x=>
  rcases Qgm (ops:=ops) (dst:=dst) (t:=t) g j h with h|⟨p,q⟩|h
  ·exact .inl h
  ·exact .inr (.inl ⟨p,rfl,q⟩)
  ·exact .inr (.inr h)
 |makeFunc fn first captured=>
  refine .inl ⟨rfl,?_⟩;simp only[op,Qg8]at h;have e:∀a:Array Operand,(a.toList.map (evL env)).toArray=a.map (evL env):=fun a=>by apply Array.toList_inj.1;simp
  rw[e,e]at h;exact g _ h
 |build t parts=>exact .inl ⟨rfl,Qfm g h⟩
 |load t a=>
  obtain⟨p,q⟩:=Q6m g h;exact .inr (.inl ⟨rfl,q,p⟩)
 |lookup t m key ok=>exact .inr (.inl ⟨rfl,rfl,QAm g h⟩)
 |entry it=>exact .inr (.inl ⟨rfl,rfl,Qmm g h⟩)
 |store t a v=>exact .inr (.inr ⟨rfl,QMm j h⟩)
 |alloc t=>exact .inr (.inr ⟨rfl,Qbm j h⟩)
 |box t v=>
  refine .inr (.inr ⟨rfl,?_⟩);simp only[op,QM9]at h;exact Q6k j h fun b w' h=>j _ _ h
 |buildSlice t n parts=>exact .inr (.inr ⟨rfl,Qem j h⟩)
 |makeMap t r=>
  cases r with
  |none=>exact .inr (.inr ⟨rfl,Q6k j h fun b w' h=>j _ _ h⟩)
  |some _=>exact False.elim h
 |makeSlice t l c=>exact .inr (.inr ⟨rfl,QBm j h⟩)
 |mapUpdate t m key v=>exact .inr (.inr ⟨rfl,QNl j h⟩)
 |mapEntry t m key=>exact .inr (.inr ⟨rfl,QCm j h⟩)
 |entryStore t m s v=>exact .inr (.inr ⟨rfl,QNl j h⟩)
 |insert t m key v=>exact .inr (.inr ⟨rfl,QNl j h⟩)
 |range t x=>exact .inr (.inr ⟨rfl,QGm j h⟩)
 |next it b=>
  cases b
  ·exact .inr (.inr ⟨rfl,QDm j h⟩)
  ·exact False.elim h
 |call c=>
  obtain⟨cal,args,ts⟩:=c;have e:∀a:Array Operand,(evs env a.toList).toArray=a.map (evL env):=fun a=>by rw[Qg8];apply Array.toList_inj.1;simp
  cases cal with
  |value f=>
   refine .inr (.inr ⟨rfl,?_⟩);simp only[op,Qg8]at h;exact Qjm j h
  |invoke r m=>exact False.elim h
  |builtin b=>
   cases b<;>first|exact False.elim h|skip
   ·simp only[op]at h;rw[e]at h;exact .inr (.inr ⟨rfl,Qml j h⟩)
   ·simp only[op]at h;rw[e]at h;exact .inr (.inr ⟨rfl,Qml j h⟩)
   ·simp only[op]at h;rw[e]at h;exact .inr (.inr ⟨rfl,Qml j h⟩)
   ·simp only[op]at h;rw[e]at h;exact .inr (.inr ⟨rfl,Qml j h⟩)
   ·obtain⟨args⟩:=args
    obtain⟨ts⟩:=ts
    match args,ts,h with
    | [x],[u],h=>
     rcases Qzm (ops:=ops) (dst:=dst) g h with h|⟨p,q⟩
     ·exact .inl h
     ·exact .inr (.inl ⟨p,rfl,q⟩)
    | [],_,h=>exact False.elim h
    |_::_::_,_,h=>exact False.elim h
    | [_],[],h=>exact False.elim h
    | [_],_::_::_,h=>exact False.elim h
   ·simp only[op,Qg8]at h;exact .inl ⟨rfl,Q7m g h⟩
   ·simp only[op,Qg8]at h;exact .inl ⟨rfl,Q7m g h⟩
 |_=>exact False.elim h
theorem QMf(i:Nat):∀l:List Oper,gdL i l=QQ8 l i:=by
 intro l
 induction l with
 |nil=>rfl
 |cons o l ih=>
  obtain⟨a,o,t,b,c,g⟩:=o;unfold QQ8 at ih⊢;simp only[gdL,List.any_cons,ih];cases g with
  |none=>simp[gdB]
  |some x=>simp only[gdB,QLl,nbq]
theorem Q9l(ops:List Oper)(env:List Value)(j:Nat)(b:Bool)(o:Oper)(a:o.guard=some (j,b)):wG env b (gD ops j)=Qp0 ops o env:=by
 unfold Qp0;rw[a,QAk];simp only;cases ops[j]? with
 |none=>rfl
 |some g=>
  simp only[Option.bind_some];cases g.dst with
  |none=>rfl
  |some d=>
   simp only[wG];cases Qy env d<;>first|rfl|skip
   ·rename_i c;cases c<;>cases b<;>rfl
   all_goals cases b<;>rfl
theorem QDl{dst:Option Nat}{env:List Value}{κ next:KE}{g:Bool}{v:Value}{w:World}(hκ:∀env,κ env w->next env w)(h:kp dst env κ g v w):Q9h g v fun v=>next (QR2 env dst v) w:=by
 cases g
 ·exact hκ _ h
 ·cases v<;>first|exact hκ _ h|skip
  rename_i c;cases c
  ·exact hκ _ h
  ·exact hκ _ h
theorem QKl{ops:List Oper}{g:Bool}{o:Oper}{env:List Value}{w:World}{κ next:KE}(f:∀env,κ env w->next env w)(i:Qk0 Tryz.prog o.op= .eff->∀env w',κ env w'->next env w')
  (h:oA g ops env w κ o):opW Tryz.prog ops g o env w next:=by
 obtain⟨dst,o,t,ps,af,gu⟩:=o
 have key:op ops dst t env w (kp dst env κ g) o->(match Qk0 Tryz.prog o with
   | .eff=>Qtj Tryz.prog o t (evL env) w fun v w'=>Q9h g v fun v=>next (QR2 env dst v) w'
   |_=>QU7 Tryz.prog ops g ⟨dst,o,t,ps,af,gu⟩ env w fun v=>next (QR2 env dst v) w):=by
  intro h
  by_cases e:Qk0 Tryz.prog o= .eff
  ·rcases QMl (Kr:=fun v=>Q9h g v fun v=>next (QR2 env dst v) w) (Ke:=fun v w'=>Q9h g v fun v=>next (QR2 env dst v) w') (fun v h=>QDl f h) (fun v w' h=>QDl (fun env=>i e env w') h) o h with⟨a,_⟩|⟨a,_⟩|⟨a,d⟩
   ·rw[e]at a;cases a
   ·rw[e]at a;cases a
   ·rw[a];exact d
  ·rcases QMl (Kr:=fun v=>Q9h g v fun v=>next (QR2 env dst v) w) (Ke:=fun _ _=>True) (fun v h=>QDl f h) (fun _ _ _=>trivial) o h with⟨a,d⟩|⟨a,d,k⟩|⟨a,_⟩
   ·simp only[a,QU7];exact d
   ·simp only[a,QU7]
    refine Q0 (fun _=>k) fun l=> ?_;have:ldB o=false:=by rw[←l];cases o<;>rfl
    rw[d]at this;cases this
   ·exact absurd a e
 unfold opW;cases gu with
 |none=>
  simp only[oA,oC]at h;simp only[Qp0];exact key h
 |some x=>
  obtain⟨j,b⟩:=x;simp only[oA,oC]at h;rw[Q9l ops env j b ⟨dst,o,t,ps,af,some (j,b)⟩ rfl]at h;cases m:Qp0 ops ⟨dst,o,t,ps,af,some (j,b)⟩ env<;>rw[m]at h
  ·exact f _ h
  ·exact key h
theorem QNm{ops:List Oper}{K a:KE}(d:∀env w,K env w->a env w)(l:List Oper):∀i env w,sq K ops l i env w->Qjl Tryz.prog ops l i env w a:=by
 induction l with
 |nil=>intro i env w h;exact d _ _ h
 |cons o l ih=>
  intro i env w h;rw[sq,QMf]at h;exact QKl (fun env h=>ih _ _ _ h) (fun _ env w' h=>ih _ _ _ h) h
noncomputable def stL(fl:List Bool)(M anc:Nat):List Oper->Nat->List Nat
 | [],_=>[]
 |r::l,i=>match M.testBit i&& !anc.testBit i&& !fl.getD i true&&(match Qk0 Tryz.prog r.op with| .mem=>true|_=>false)with
  |true=>i::stL fl M anc l (i+1)
  |false=>stL fl M anc l (i+1)
def plR(ops:List Oper)(fl:List Bool):List Nat->Nat->Nat->Option (Nat×Nat)
 | [],f,M=>some (f,M)
 |i::l,f,M=>match f with
  |0=>none
  |f+1=>match Qn0 fl M ops 0 with
   |some (j,_)=>match Nat.beq j i with
    |true=>plR ops fl l f (M|||2^i)
    |false=>none
   |none=>none
noncomputable def plC(ops:List Oper)(ancs:List Nat)(fl:List Bool):Pl->Option (List (Nat×Oper))->Nat->Nat->Bool
 | .r l n,none,f,M=>match plR ops fl l f M with
  |some (f',M')=>plC ops ancs fl n none f' M'
  |none=>false
 | .d,none,f,M=> !Nat.beq f 0&&(Qn0 fl M ops 0).isNone&&Nat.beq M (2^ops.length-1)
 | .x,some [],_,_=>true
 | .e i s n m,md,f,M=> !Nat.beq f 0&&(match md with|none=>(Qn0 fl M ops 0).isNone&& !Nat.beq M (2^ops.length-1)|some _=>true)&&
  match md.getD (QI0 fl M ops 0)with
  |(j,_)::rest=>Nat.beq j i&&s==stL fl M (ancs.getD i 0) ops 0&&plC ops ancs fl n none (f-1) (M|||2^i)&&plC ops ancs fl m (some rest) f M
  | []=>false
 |_,_,_,_=>false
theorem QKm{ops:List Oper}{fl:List Bool}{M anc:Nat}{κ:KE}{env:List Value}{w:World}{N:Prop}(hκ:κ env w->N)(l:List Oper):∀i,(∀n o,l[n]? =some o->ops[i+n]? =some o)→
  sb κ ops (stL fl M anc l i) env w->Q45 Tryz.prog ops fl M anc l i env w N:=by
 induction l with
 |nil=>intro i _ h;exact hκ h
 |cons r l ih=>
  intro i m h;have e:∀n o,l[n]? =some o->ops[i+1+n]? =some o:=fun n o q=>by rw[show i+1+n=i+(n+1) by omega];exact m (n+1) o (by simpa using q)
  unfold stL at h;unfold Q45;cases p:(M.testBit i&& !anc.testBit i&& !fl.getD i true&&(match Qk0 Tryz.prog r.op with| .mem=>true|_=>false))<;>rw[p]at h
  ·exact ih _ e h
  ·simp only[sb]at h
   rw[QKh (by simpa using m 0 r rfl)]at h;have a:Qk0 Tryz.prog r.op= .mem:=by
    have:=(Q6 p).2;cases s:Qk0 Tryz.prog r.op<;>rw[s]at this<;>first|rfl|cases this
   obtain⟨dst,o,t,ps,af,gu⟩:=r;have key:∀d,dst=some d->op ops (some d) t env w (eqK (Qy env d)) o->QU7 Tryz.prog ops false ⟨dst,o,t,ps,af,gu⟩ env w fun v=>v=(match dst with|some d=>Qy env d|none=>v):=by
    rintro d rfl h;rcases QMl (Kr:=fun v=>v=Qy env d) (Ke:=fun _ _=>True) (fun v h=>h) (fun _ _ _=>trivial) o h with⟨f,_⟩|⟨_,u,y⟩|⟨f,_⟩
    ·rw[a]at f;cases f
    ·simp only at a
     simp only[QU7,a];refine Q0 (fun _=>y) fun g=> ?_;have:ldB o=false:=by rw[←g];cases o<;>rfl
     rw[u]at this;cases this
    ·rw[a]at f;cases f
   cases dst with
   |none=>cases gu<;>exact False.elim h
   |some d=>
    cases gu with
    |none=>
     simp only[sbA]at h;exact Q0 (fun _=>⟨key d rfl h.1,ih _ e h.2⟩) fun g=>by simp[Qp0]at g
    |some x=>
     obtain⟨j,b⟩:=x;simp only[sbA]at h;rw[Q9l ops env j b ⟨some d,o,t,ps,af,some (j,b)⟩ rfl]at h;refine Q0 (fun k=> ?_) fun k=> ?_
     ·rw[k]at h;exact⟨key d rfl h.1,ih _ e h.2⟩
     ·rw[k]at h;exact ih _ e h
theorem Qkm{ops:List Oper}{ancs:List Nat}{fl:List Bool}(n:QD4 Tryz.prog ops ancs fl){κ K:KE}{w:World}(l:List Nat):∀f M f' d,plR ops fl l f M=some (f',d)→
  (∀env,κ env w->Qo3 Tryz.prog ops ancs fl f' d env w K)->∀env,dR κ ops l env w->Qo3 Tryz.prog ops ancs fl f M env w K:=by
 induction l with
 |nil=>intro f M f' d h hκ env a;cases h;exact hκ _ a
 |cons i l ih=>
  intro f M f' d h hκ env a;cases f with
  |zero=>cases h
  |succ f=>
   simp only[plR]at h;cases e:Qn0 fl M ops 0 with
   |none=>rw[e]at h;cases h
   |some jo=>
    obtain⟨j,o⟩:=jo;rw[e]at h;simp only at h;cases m:Nat.beq j i<;>rw[m]at h
    ·cases h
    ·obtain rfl:=Nat.eq_of_beq_eq_true m
     obtain⟨_,g,_,k⟩:=Q24 e;simp only[Nat.sub_zero]at g;unfold Qo3;rw[e];simp only[dR]at a;rw[QKh g,QMf]at a;refine QKl (fun env p=>ih _ _ _ _ h hκ env p) (fun q=> ?_) a;have:=n.flag _ _ g k;unfold QXd at this;rw[q]at this;cases this
theorem QUe{i:Nat}{o:Oper}{l:List (Nat×Oper)}{F:Nat->Oper->Prop}(a:F i o)(d:l≠ []->QMi l F):QMi ((i,o)::l) F:=by
 cases l with
 |nil=>exact a
 |cons x l=>exact⟨a,d (by simp)⟩
theorem Qua{fl:List Bool}{M:Nat}(l:List Oper):∀{k i:Nat}{o:Oper},(i,o)∈QI0 fl M l k->∃n,i=k+n/\l[n]? =some o:=by
 induction l with
 |nil=>intro k i o h;cases h
 |cons r l ih=>
  intro k i o h;have rc:(i,o)∈QI0 fl M l (k+1)->∃n,i=k+n/\(r::l)[n]? =some o:=fun h=>by
   obtain⟨n,d,a⟩:=ih h;exact⟨n+1,by omega,by simpa using a⟩
  unfold QI0 at h
  split at h
  ·rcases List.mem_cons.1 h with h|h
   ·cases h;exact⟨0,rfl,rfl⟩
   ·exact rc h
  ·exact rc h
theorem Qe9{fl:List Bool}{M:Nat}{l:List Oper}{i:Nat}{o:Oper}(h:(i,o)∈QI0 fl M l 0):l[i]? =some o:=by
 obtain⟨n,a,d⟩:=Qua l h;rw[a,Nat.zero_add];exact d
theorem Qlm{ops:List Oper}{ancs:List Nat}{fl:List Bool}(B:QD4 Tryz.prog ops ancs fl){K p:KE}(C:∀env w,K env w->p env w)(pl:Pl):
  (∀f M env w,plC ops ancs fl pl none f M=true->dp K ops pl env w->Qo3 Tryz.prog ops ancs fl f M env w p)∧
  (∀effs f M env w,(∀i o,(i,o)∈effs->ops[i]? =some o)->plC ops ancs fl pl (some effs) (f+1) M=true->dp K ops pl env w->QMi effs fun i o=>
   opW Tryz.prog ops (QQ8 ops i) o env w fun env' w'=>Q45 Tryz.prog ops fl M (ancs.getD i 0) ops 0 env' w' (Qo3 Tryz.prog ops ancs fl f (M|||2^i) env' w' p)):=by
 induction pl with
 |d=>
  refine⟨fun f M env w a h=> ?_,fun effs f M env w _ a h=>by simp[plC]at a⟩;cases f with
  |zero=>simp[plC]at a
  |succ f=>
   simp only[plC,Bool.and_eq_true]at a;unfold Qo3;cases g:Qn0 fl M ops 0 with
   |some x=>rw[g]at a;simp at a
   |none=>simp only[a.2];exact C _ _ h
 |x=>
  refine⟨fun f M env w a h=>by simp[plC]at a,fun effs f M env w _ a h=> ?_⟩;cases effs with
  |nil=>trivial
  |cons _ _=>simp[plC]at a
 |r l n ih=>
  refine⟨fun f M env w a h=> ?_,fun effs f M env w _ a h=>by simp[plC]at a⟩;simp only[plC]at a;cases g:plR ops fl l f M with
  |none=>rw[g]at a;cases a
  |some fm=>
   obtain⟨f',H⟩:=fm;rw[g]at a;exact Qkm B l _ _ _ _ g (fun env h=>ih.1 _ _ _ _ a h) _ h
 |e i s n m ihn ihm=>
  have chain:∀effs f M env w,(∀i o,(i,o)∈effs->ops[i]? =some o)->plC ops ancs fl (.e i s n m) (some effs) (f+1) M=true->dp K ops (.e i s n m) env w->QMi effs fun i o=>
    opW Tryz.prog ops (QQ8 ops i) o env w fun env' w'=>Q45 Tryz.prog ops fl M (ancs.getD i 0) ops 0 env' w' (Qo3 Tryz.prog ops ancs fl f (M|||2^i) env' w' p):=by
   intro effs f M env w z a h;simp only[plC,Option.getD_some]at a;have a:=(Q6 a).2;cases effs with
   |nil=>cases a
   |cons jo rest=>
    obtain⟨j,o⟩:=jo;simp only at a;obtain⟨a,k⟩:=Q6 a;obtain⟨a,q⟩:=Q6 a;obtain⟨D,t⟩:=Q6 a;obtain rfl:=Nat.eq_of_beq_eq_true D;have t:=Qil t;subst t;have u:oA (gdL j ops) ops env w (sb (dp K ops n) ops (stL fl M (ancs.getD j 0) ops 0)) (gO ops j)/\(rest≠ []->dp K ops m env w):=by
     simp only[dp]at h;cases m with
     |x=>
      refine⟨h,fun g=> ?_⟩;cases rest with
      |nil=>exact absurd rfl g
      |cons _ _=>simp[plC]at k
     |d=>exact⟨h.1,fun _=>h.2⟩
     |r _ _=>exact⟨h.1,fun _=>h.2⟩
     |e _ _ _ _=>exact⟨h.1,fun _=>h.2⟩
    refine QUe ?_ fun g=>ihm.2 rest f M env w (fun i o v=>z i o (List.mem_cons_of_mem _ v)) k (u.2 g);have E:=z j o (List.mem_cons_self ..);have A:=u.1;rw[QKh E,QMf]at A;simp only[Nat.add_sub_cancel]at q
    have hs:∀env' w',sb (dp K ops n) ops (stL fl M (ancs.getD j 0) ops 0) env' w'->Q45 Tryz.prog ops fl M (ancs.getD j 0) ops 0 env' w' (Qo3 Tryz.prog ops ancs fl f (M|||2^j) env' w' p):=
     fun env' w' y=>QKm (fun y=>ihn.1 _ _ _ _ q y) ops 0 (fun n o F=>by simpa using F) y
    exact QKl (fun env'=>hs env' w) (fun _ env' w'=>hs env' w') A
  refine⟨fun f M env w a h=> ?_,chain⟩;cases f with
  |zero=>simp[plC]at a
  |succ f=>
   have G:=a;simp only[plC,Option.getD_none]at a;obtain⟨a,t⟩:=Q6 a;have a:=(Q6 a).2;obtain⟨q,k⟩:=Q6 a;unfold Qo3;cases g:Qn0 fl M ops 0 with
   |some x=>rw[g]at q;cases q
   |none=>
    have k:Nat.beq M (2^ops.length-1)=false:=by simpa using k
    simp only[k];refine chain _ f M env w (fun i o v=> ?_) ?_ h
    ·exact Qe9 v
    ·simp only[plC,Option.getD_some]
     rw[t]
     rfl
theorem Qum{t:Nat}{v:Value}(h:hS (ty t) v=true):QD1 Tryz.prog t v=true:=by
 have a:=uP t;unfold QD1;cases hi:ty t<;>rw[hi]at h a
 case int=>
  cases v<;>first|(cases h;done)|skip
  simp only at a;simp only[a,Qcc h,decide_true]
 case map=>
  obtain⟨k,a⟩:=a;simp only[a];cases v<;>first|rfl|(cases h;done)
 case st=>obtain⟨fs,a,_⟩:=a;simp only[a]
 case bst=>obtain⟨fs,a,_⟩:=a;simp only[a]
 case fn=>obtain⟨d,a,e⟩:=a;simp only[a];cases d<;>first|rfl|(cases e;done)
 case ifc=>obtain⟨d,a,e⟩:=a;simp only[a];cases d<;>first|rfl|(cases e;done)
 case oth=>
  cases f:Tryz.prog.underlying t with
  |none=>rfl
  |some d=>have e:=a d f;cases d<;>first|rfl|(cases e;done)
 case non=>cases h
 all_goals (simp only at a;simp only[a];try (cases v<;>first|rfl|(cases h;done)))
theorem Q4m:∀{ts:List Nat}{vs:List Value},hL ts vs=true->QOh Tryz.prog ts vs=true:=by
 intro ts
 induction ts with
 |nil=>intro vs h;cases vs<;>first|rfl|(cases h;done)
 |cons t ts ih=>
  intro vs h;cases vs with
  |nil=>cases h
  |cons v vs=>
   rw[hL,Qhk]at h;obtain⟨a,d⟩:=Q6 h;simp only[QOh,Qum a,ih d,Bool.and_self]
theorem QBl{t:Nat}{F g:Value->Prop}(h:fSa (ty t) F)(e:∀v,F v->g v):faS Tryz.prog t g:=by
 have a:=uP t;unfold faS;cases hi:ty t<;>rw[hi]at h a
 case map=>obtain⟨k,a⟩:=a;simp only[a];exact fun _=>e _ (h _)
 case st=>obtain⟨fs,a,_⟩:=a;simp only[a];exact fun _=>e _ (h _)
 case bst=>obtain⟨fs,a,_⟩:=a;simp only[a];exact fun _=>e _ (h _)
 case fn=>obtain⟨d,a,f⟩:=a;simp only[a];cases d<;>first|(exact fun _=>e _ (h _))|(cases f;done)
 case ifc=>obtain⟨d,a,f⟩:=a;simp only[a];cases d<;>first|(exact fun _=>e _ (h _))|(cases f;done)
 case oth=>
  cases i:Tryz.prog.underlying t with
  |none=>exact fun _=>e _ (h _)
  |some d=>have f:=a d i;cases d<;>first|(exact fun _=>e _ (h _))|(cases f;done)
 case non=>exact False.elim h
 case slc=>simp only at a;simp only[a];exact fun _ _ _=>e _ (h _ _ _)
 all_goals (simp only at a;simp only[a];exact fun _=>e _ (h _))
theorem Qrm{F a:List Value->Prop}(d:∀l,F l->a l)(ts:List Nat):∀acc,fL F ts acc->faL Tryz.prog ts acc a:=by
 induction ts with
 |nil=>intro acc h;rw[fL,Qle,List.append_nil]at h;exact d _ h
 |cons t ts ih=>intro acc h;rw[fL]at h;exact QBl h fun v e=>ih _ e
theorem Qqm{F a:List Value->Prop}(d:∀l,F l->a l)(ts:List Nat):∀acc,fJ F ts acc->faJ ts acc a:=by
 induction ts with
 |nil=>intro acc h;rw[fJ,Qle,List.append_nil]at h;exact d _ h
 |cons t ts ih=>intro acc h v;exact ih _ (h v)
theorem QLk:∀(is:List Nat)(vs env:List Value),lsS is vs env=Qu3 env is vs:=by
 intro is
 induction is with
 |nil=>intro vs env;cases vs<;>rfl
 |cons i is ih=>intro vs env;cases vs with
  |nil=>rfl
  |cons v vs=>exact ih vs _
noncomputable def okC(A:Nat->Qa1)(D:List (Nat×Pl)):Code->Nat->Bool
 | .region i ops true,_=>Qsf Tryz.prog ops.toList (Q14 ops.toList []) (Q17 Tryz.prog ops.toList (Q14 ops.toList []))&&
   plC ops.toList (Q14 ops.toList []) (Q17 Tryz.prog ops.toList (Q14 ops.toList [])) (gPl D i) none (ops.toList.length+1) 0
 | .seq a b,p=>okC A D a (4*p)&&okC A D b (4*p+1)
 | .cond _ a b,p=>okC A D a (4*p+2)&&okC A D b (4*p+3)
 | .block _ b,p=>okC A D b (4*p)
 | .loop b,p=>Qpl (Qv2 b) ((A p).lv++(A p).jk)&&okC A D b (4*p)
 | .scope b,p=>okC A D b (4*p)
 |_,_=>true
theorem Qhm{A:Nat->Qa1}{D:List (Nat×Pl)}(c:Code):∀(p:Nat)(Q f:Exit->KE)(env:List Value)(w:World),okC A D c p=true->(∀e env w,Q e env w->f e env w)->cd A D c p Q env w->vc Tryz.prog A c p f env w:=by
 have thn:∀{N q:KE}{Q f:Exit->KE},(∀env w,N env w->q env w)->(∀e env w,Q e env w->f e env w)->∀e env w,thN N Q e env w->QUj q f e env w:=by
  intro N q Q f r d e env w h;cases e<;>first|exact False.elim h|exact r _ _ h|exact d _ _ _ h
 induction c with
 |skip=>intro p Q f env w _ d h;exact d _ _ _ h
 |region i ops b=>
  intro p Q f env w g d h;cases b
  ·exact QNm (fun env w=>d _ env w) _ _ _ _ h
  ·obtain⟨k,m⟩:=Q6 g
   exact Q0 (fun _ w' s=>(Qlm (QW6 k) (fun env w=>d .normal env w) _).1 _ _ _ _ m (h w' s)) fun n=>by rw[k]at n;cases n
 |seq a b iha ihb=>
  intro p Q f env w g d h;obtain⟨k,m⟩:=Q6 g;exact iha _ _ _ _ _ k (thn (fun env w h=>ihb _ _ _ _ _ m d h) d) h
 |cond c a b iha ihb=>
  intro p Q f env w g d h;obtain⟨k,m⟩:=Q6 g;simp only[cd]at h;unfold vc;cases t:evL env c<;>rw[t]at h<;>first|exact False.elim h|skip
  rename_i x;cases x
  ·exact ihb _ _ _ _ _ m d h
  ·exact iha _ _ _ _ _ k d h
 |block id b ih=>
  intro p Q f env w g d h;refine ih _ _ _ _ _ g (fun e env w h=> ?_) h;cases e<;>first|exact False.elim h|exact d _ _ _ h|skip
  rename_i j;simp only[bkN]at h;simp only[QPi,nbq];cases hb:(j==id)<;>rw[hb]at h
  ·exact d _ _ _ h
  ·exact d _ _ _ h
 |loop b ih=>
  intro p Q f env w g d h;obtain⟨k,m⟩:=Q6 g;simp only[cd]at h;unfold vc;generalize u:A p=L at h k;obtain⟨lv,ts,jk,inv,mu⟩:=L;simp only[lp]at h;cases o:hL ts (Q4 env lv)<;>rw[o]at h
  ·exact False.elim h
  simp only[lpC]at h;refine Q0 (fun _=>⟨h.1,Qrm (fun vs h w' hi=>Qqm (fun js h=> ?_) _ _ (h w' hi)) _ _ h.2⟩) fun n=> ?_
  ·simp only[lpJ,QLk]at h
   refine ih _ _ _ _ _ m (thn (fun env'' w'' h=> ?_) d) h;simp only[lpE]at h;cases o:hL ts (Q4 env'' lv)<;>rw[o]at h
   ·exact False.elim h
   ·simp only
    rw[Q4m o];exact h
  ·simp only at n k
   rw[k,Q4m o]at n;cases n
 |exit id=>intro p Q f env w _ d h;exact d _ _ _ h
 |ret=>intro p Q f env w _ d h;exact d _ _ _ h
 |label l=>intro p Q f env w _ d h;exact d _ _ _ h
 |scope b ih=>
  intro p Q f env w g d h;refine ih _ _ _ _ _ g (fun e env w h=> ?_) h;cases e<;>first|exact False.elim h|exact d _ _ _ h
 |_=>intro p Q f env w _ _ h;exact False.elim h
theorem QQk(l:List Value):onA l=Qv5 l:=by
 match l with
 | []=>rfl
 | [_]=>rfl
 | [_,_]=>rfl
 | [_,_,_]=>rfl
 |_::_::_::_::_=>rfl
theorem QHm{R:KV}{w:World}{env:List Value}(l:List ResultVar):∀acc,rs R w env l acc->QGe Tryz.prog w l env acc fun vs=>R (Qv5 vs) w:=by
 induction l with
 |nil=>intro acc h;rw[rs,Qle,List.append_nil,QQk]at h;exact h
 |cons r l ih=>
  intro acc h;cases r with
  |tmp t=>exact ih _ h
  |cell a t=>
   simp only[rs]at h;obtain⟨e,f⟩:=Q6m (K:=fun v=>QGe Tryz.prog w l env (v::acc) fun vs=>R (Qv5 vs) w) (fun v h=>ih _ h) h;exact Q0 (fun _=>e) fun d=>by rw[f]at d;cases d
theorem QPl{l:List ResultVar}{R:KV}(e:Exit)(env:List Value)(w:World)(h:rtN l R e env w):QOl Tryz.prog l R e env w:=by
 cases e<;>first|exact False.elim h|exact QHm _ _ h
theorem Q8l:∀n,ud n=List.replicate n undef
 |0=>rfl
 |n+1=>by rw[ud,Q8l n];rfl
end Go.Nf
