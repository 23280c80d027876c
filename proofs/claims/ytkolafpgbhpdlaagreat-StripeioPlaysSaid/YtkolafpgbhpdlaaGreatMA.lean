import Derived.Test.YtkolafpgbhpdlaaGreatMC
import Derived.Test.YtkolafpgbhpdlaaGreatGb
import Derived.Test.YtkolafpgbhpdlaaGreatRepO
import Derived.WalkKit
import Derived.ProofKit
import Derived.OpenShut
import Derived.Laws.BitsAllLaws
set_option maxHeartbeats 1000000
namespace Go.Proofs.YtkolafpgbhpdlaaGreat
open Go Go.Vc
open Go.IntKind (i64)
open Go.Value (int)
open Go.Proofs.Tryz (prog)
structure Mem where
 d:Dk
 births:Int
def Qe0:List Nat->List Mem->List Value
 |b::bs,m::ms=> .pointer (some (at0 b))::int i64 m.births::Qe0 bs ms
 |_,_=>[]
theorem Qr4:∀{bs:List Nat}{M:List Mem}{i b:Nat}{m:Mem},bs[i]? =some b->M[i]? =some m->(Qe0 bs M)[i*2]? =some (.pointer (some (at0 b)))/\(Qe0 bs M)[i*2+1]? =some (int i64 m.births)
 |_::_,_::_,0,_,_,d,e=>by
  simp only[List.getElem?_cons_zero,Zi]at d e;subst d;subst e;exact⟨rfl,rfl⟩
 |f::bs,m'::M,i+1,b,m,d,e=>by
  have:=Qr4 (bs:=bs) (M:=M) (i:=i) (by simpa using d) (by simpa using e);rw[show(i+1)*2=i*2+1+1 by omega];simpa[Qe0]using this
 | [],_,_,_,_,d,_=>by simp at d
 |_::_,[],_,_,_,_,e=>by simp at e
theorem QU5:∀{bs:List Nat}{M:List Mem}(b:Nat)(m:Mem),bs.length=M.length->Qe0 (bs++ [b]) (M++ [m])=Qe0 bs M++ [.pointer (some (at0 b)),int i64 m.births]
 | [],[],_,_,_=>rfl
 |d::bs,m'::M,b,m,h=>by
  have:=QU5 (bs:=bs) (M:=M) b m (by simpa using h);simp only[List.cons_append,Qe0,this]
theorem QV5:∀{bs:List Nat}{M:List Mem}{i:Nat}{m m':Mem},M[i]? =some m->m'.births=m.births->Qe0 bs (M.set i m')=Qe0 bs M
 | [],_,_,_,_,_,_=>by cases‹List Mem›<;>rfl
 |_::_,[],_,_,_,h,_=>by simp at h
 |b::bs,d::M,0,m,m',h,hb=>by
  simp only[List.getElem?_cons_zero,Zi]at h;subst h;simp[Qe0,hb]
 |b::bs,d::M,i+1,m,m',h,hb=>by
  have:=QV5 (bs:=bs) (M:=M) (i:=i) (m:=m) (m':=m') (by simpa using h) hb;simp only[List.set_cons_succ,Qe0,this]
theorem QV4:∀{bs:List Nat}{M:List Mem}{i:Nat}{m m':Mem},bs.length=M.length->M[i]? =some m->Qe0 bs (M.set i m')=(Qe0 bs M).set (i*2+1) (int i64 m'.births)
 |_::_,[],_,_,_,_,h=>by simp at h
 | [],_::_,_,_,_,h,_=>by simp at h
 | [],[],_,_,_,_,h=>by simp at h
 |b::bs,d::M,0,m,m',_,h=>by simp[Qe0]
 |b::bs,d::M,i+1,m,m',e,h=>by
  have:=QV4 (bs:=bs) (M:=M) (i:=i) (m:=m) (m':=m') (by simpa using e) (by simpa using h);rw[show(i+1)*2+1=i*2+1+1+1 by omega];simp only[List.set_cons_succ,Qe0,this]
def Ql(w:World)(a:Nat)(M:List Mem)(left:Int)(down:Bool)(F:Nat->Prop):Prop:=
 ∃(p:σ)(cm:Nat)(bs:List Nat)(Fs:Nat->Nat->Prop),RowW w a #[.slice p M.length cm,int i64 left, .bool down]/\Q5 w 0 75 2 p M.length cm (Qe0 bs M)/\bs.length=M.length∧
  (∀(i:Nat)(m:Mem),M[i]? =some m->∃b,bs[i]? =some b/\Dsk w b m.d (Fs i))/\(∀(i j x:Nat),i<M.length->j<M.length->Fs i x->Fs j x->i=j)∧
  (∀(i x:Nat),i<M.length->Fs i x->x≠a/\p≠some (at0 x))/\p≠some (at0 a)/\(∀x:Nat,F x↔x=a\/p=some (at0 x)\/∃i,i<M.length/\Fs i x)
theorem Qr8{w:World}{base:Nat}{e:TypeId}{sz:Nat}{p:σ}{n c:Nat}{xs:List Value}(h:Q5 w base e sz p n c xs){x:Nat}(d:p=some (at0 x)):x<w.heap.size:=by
 rcases h.where_ with⟨f,_⟩|⟨g,f,_,i,_⟩
 ·rw[f]at d;cases d
 ·rw[f]at d
  simp only[Zi,at0,Zv,and_true]at d;omega
theorem Ql.lt{w:World}{a:Nat}{M:List Mem}{left:Int}{down:Bool}{F:Nat->Prop}(h:Ql w a M left down F):∀x,F x->x<w.heap.size:=by
 obtain⟨p,cm,bs,Fs,e,f,l,g,m,n,o,j⟩:=h;intro x d;rcases(j x).1 d with rfl|d|⟨i,hi,d⟩
 ·exact e.lt
 ·exact Qr8 f d
 ·obtain⟨b,_,k⟩:=g i M[i] (Zc hi)
  exact k.lt x d
theorem Ql.upd{S:Nat->Prop}{w w':World}{a:Nat}{M:List Mem}{left:Int}{down:Bool}{F:Nat->Prop}(h:Ql w a M left down F)(e:Upd S w w')(hS:∀x,S x->¬F x):Ql w' a M left down F:=by
 obtain⟨p,cm,bs,Fs,f,j,k,l,n,o,q,d⟩:=h;refine⟨p,cm,bs,Fs,e.rowW f fun hs=>hS _ hs ((d _).2 (.inl rfl)),j.upd e fun g r hs=>hS _ hs ((d _).2 (.inr (.inl r))),k,fun i m hi=> ?_,n,o,q,d⟩;obtain⟨b,hb,t⟩:=l i m hi;exact⟨b,hb,t.upd e fun x hs u=>hS _ hs ((d _).2 (.inr (.inr ⟨i,(Zd.1 hi).1,u⟩)))⟩
theorem Ql.ext{w w':World}{a:Nat}{M:List Mem}{left:Int}{down:Bool}{F:Nat->Prop}(h:Ql w a M left down F)(d:Ext w w'):Ql w' a M left down F:=h.upd d fun _ h=>h.elim
theorem Ql.row{w:World}{a:Nat}{M:List Mem}{left:Int}{down:Bool}{F:Nat->Prop}(h:Ql w a M left down F):∃p cm,RowW w a #[.slice p M.length cm,int i64 left, .bool down]:=by
 obtain⟨p,cm,bs,Fs,d,_⟩:=h;exact⟨p,cm,d⟩
theorem Ql.setLeft{w w':World}{a:Nat}{M:List Mem}{left:Int}{down:Bool}{F:Nat->Prop}(h:Ql w a M left down F){v:Int}(hs:Qt w ((at0 a).add 1) (int i64 v) w'):Ql w' a M v down F/\Qp F F w w':=by
 obtain⟨p,cm,bs,Fs,l,n,o,q,r,f,j,k⟩:=h;have e:Upd (fun x=>x=a) w w':=by
  have:=hs.upd;rw[QJ]at this;exact this
 refine⟨⟨p,cm,bs,Fs,hs.row l,n.upd e (by rintro g t rfl;exact j t),o,fun i m hi=> ?_,r,f,j,k⟩,e.mono fun x _ d=>(k x).2 (.inl d),fun x d=> .inl d⟩;obtain⟨b,hb,u⟩:=q i m hi;exact⟨b,hb,u.upd e fun x d y=>(f i x (Zd.1 hi).1 y).1 d⟩
theorem Ql.setDown{w w':World}{a:Nat}{M:List Mem}{left:Int}{down:Bool}{F:Nat->Prop}(h:Ql w a M left down F){v:Bool}(hs:Qt w ((at0 a).add 2) (.bool v) w'):Ql w' a M left v F/\Qp F F w w':=by
 obtain⟨p,cm,bs,Fs,l,n,o,q,r,f,j,k⟩:=h;have e:Upd (fun x=>x=a) w w':=by
  have:=hs.upd;rw[QJ]at this;exact this
 refine⟨⟨p,cm,bs,Fs,hs.row l,n.upd e (by rintro g t rfl;exact j t),o,fun i m hi=> ?_,r,f,j,k⟩,e.mono fun x _ d=>(k x).2 (.inl d),fun x d=> .inl d⟩;obtain⟨b,hb,u⟩:=q i m hi;exact⟨b,hb,u.upd e fun x d y=>(f i x (Zd.1 hi).1 y).1 d⟩
theorem Ql.at{w:World}{a:Nat}{M:List Mem}{left:Int}{down:Bool}{F:Nat->Prop}(h:Ql w a M left down F){i:Nat}{m:Mem}(hi:M[i]? =some m):
  ∃ap cm b Fi,w.cell? ((at0 a).add 0)=some (.slice (some ap) M.length cm)/\w.cell? (ap.add (i*2))=some (.pointer (some (at0 b)))/\w.cell? ((ap.add (i*2)).add 0)=some (.pointer (some (at0 b)))∧
   w.cell? ((ap.add (i*2)).add 1)=some (int i64 m.births)/\Dsk w b m.d Fi/\(∀x,Fi x->F x/\x≠a)∧
   (∀w' A B,Qp Fi B w w'->Dsk w' b A B->∃F2,Ql w' a (M.set i {m with d:=A}) left down F2/\Qp F F2 w w'):=by
 have I:=h.lt;obtain⟨p,cm,bs,Fs,J,E,R,O,G,C,S,y⟩:=h;obtain⟨b,hb,T⟩:=O i m hi;have l:i<M.length:=(Zd.1 hi).1;obtain⟨c1,c2⟩:=Qr4 hb hi;obtain⟨ap,P,Q⟩:=E.cells _ _ c1;obtain⟨ap',D,U⟩:=E.cells _ _ c2;rw[P]at D;cases D;subst P;refine⟨ap,cm,b,Fs i,J.c rfl,Q,by rw[QB];exact Q,by rw[QB];exact U,T,fun x u=>⟨(y x).2 (.inr (.inr ⟨i,l,u⟩)),(C i x l u).1⟩,?_⟩;intro w' A B hs K;have n:(M.set i {m with d:=A}).length=M.length:=List.length_set;refine⟨fun x=>x=a\/some ap=some (at0 x)\/∃j,j<M.length/\(if j=i then B else Fs j) x,⟨some ap,cm,bs,fun j=>if j=i then B else Fs j,?_,?_,by rw[n];exact R,?_,?_,?_,S,?_⟩,?_,?_⟩
 ·rw[n];exact hs.upd.rowW J fun v=>(C i a l v).1 rfl
 ·rw[n,QV5 (m':={m with d:=A}) hi rfl]
  exact E.upd hs.upd fun g V v=>(C i g l v).2 V
 ·intro j mj o
  by_cases f:j=i
  ·subst f
   rw[List.getElem?_set_self l]at o;cases o;exact⟨b,hb,by simpa using K⟩
  ·rw[List.getElem?_set_ne (fun e=>f e.symm)]at o
   obtain⟨bj,L,N⟩:=O j mj o;refine⟨bj,L,?_⟩;simp only[if_neg f];exact N.upd hs.upd fun x u v=>f (G j i x (Zd.1 o).1 l v u)
 ·intro j k x o H r t
  rw[n]at o H;have old:∀q,q<M.length->Fs q x->x<w.heap.size:=fun q W v=>I x ((y x).2 (.inr (.inr ⟨q,W,v⟩)))
  by_cases f:j=i<;>by_cases z:k=i
  ·omega
  ·simp only[if_pos f]at r;simp only[if_neg z]at t
   rcases hs.grow x r with h|h
   ·have:=G i k x l H h t;omega
   ·have:=old k H t;omega
  ·simp only[if_neg f]at r;simp only[if_pos z]at t
   rcases hs.grow x t with h|h
   ·have:=G j i x o l r h;omega
   ·have:=old j o r;omega
  ·simp only[if_neg f]at r;simp only[if_neg z]at t
   exact G j k x o H r t
 ·intro j x o v
  rw[n]at o
  by_cases f:j=i
  ·simp only[if_pos f]at v
   rcases hs.grow x v with h|h
   ·exact C i x l h
   ·refine⟨?_,fun e=> ?_⟩
    ·have:=J.lt;omega
    ·have:=Qr8 E e;omega
  ·simp only[if_neg f]at v
   exact C j x o v
 ·intro x
  rw[n]
 ·exact hs.upd.mono fun x _ u=>(y x).2 (.inr (.inr ⟨i,l,u⟩))
 ·rintro x (rfl|u|⟨j,o,u⟩)
  ·exact .inl ((y _).2 (.inl rfl))
  ·exact .inl ((y _).2 (.inr (.inl u)))
  ·by_cases f:j=i
   ·simp only[if_pos f]at u
    rcases hs.grow x u with h|h
    ·exact .inl ((y _).2 (.inr (.inr ⟨i,l,h⟩)))
    ·exact .inr h
   ·simp only[if_neg f]at u
    exact .inl ((y _).2 (.inr (.inr ⟨j,o,u⟩)))
theorem Ql.born{w:World}{a:Nat}{M:List Mem}{left:Int}{down:Bool}{F:Nat->Prop}(h:Ql w a M left down F){i:Nat}{m:Mem}(hi:M[i]? =some m):
  ∃ap cm,w.cell? ((at0 a).add 0)=some (.slice (some ap) M.length cm)/\w.cell? ((ap.add (i*2)).add 1)=some (int i64 m.births)/\QD w ((ap.add (i*2)).add 1)∧
   ∀v w',Qt w ((ap.add (i*2)).add 1) (int i64 v) w'->Ql w' a (M.set i {m with births:=v}) left down F/\Qp F F w w':=by
 obtain⟨p,cm,bs,Fs,E,r,G,H,L,I,J,K⟩:=h;obtain⟨b,hb,R⟩:=H i m hi;have u:i<M.length:=(Zd.1 hi).1;obtain⟨c1,c2⟩:=Qr4 hb hi;obtain⟨ap,N,O⟩:=r.cells _ _ c2;subst N;have k:i*2+1<(Qe0 bs M).length:=(Zd.1 c2).1;refine⟨ap,cm,E.c rfl,by rw[QB];exact O,by rw[QB];exact r.live k,fun v w' hs=> ?_⟩;rw[QB]at hs;obtain⟨y,z⟩:=r.set hs;obtain⟨g,P⟩:∃g,ap=at0 g:=by
  rcases r.where_ with⟨A,_⟩|⟨g,A,_⟩
  ·cases A
  ·cases A;exact⟨g,rfl⟩
 subst P;have f:(M.set i {m with births:=v}).length=M.length:=List.length_set;have B:¬a=g:=fun e=>J (by rw[e]);refine⟨⟨some (at0 g),cm,bs,Fs,?_,?_,by rw[f];exact G,?_,by rw[f];exact L,by rw[f];exact I,J,by rw[f];exact K⟩,?_⟩
 ·rw[f];exact z.rowW E B
 ·rw[f,QV4 G hi];exact y
 ·intro j mj t
  have l:∃mj',M[j]? =some mj'/\mj'.d=mj.d:=by
   by_cases n:j=i
   ·subst n
    rw[List.getElem?_set_self u]at t;cases t;exact⟨m,hi,rfl⟩
   ·rw[List.getElem?_set_ne (fun e=>n e.symm)]at t
    exact⟨mj,t,rfl⟩
  obtain⟨mj',o,C⟩:=l;obtain⟨bj,D,l⟩:=H j mj' o;refine⟨bj,D,?_⟩;rw[←C];exact l.upd z fun x q Q=>(I j x (Zd.1 o).1 Q).2 (by rw[show x=g from q])
 ·exact⟨z.mono fun x _ q=>(K x).2 (.inr (.inl (by rw[show x=g from q]))),fun x q=> .inl q⟩
open Go Go.Vc
open Go.IntKind (i64)
open Go.Value (int)
open Go.Proofs.Tryz (prog)
theorem QC9{P:Program}{t e:TypeId}{sz bytes:Nat}(E:Qz1 P t e sz bytes)(ty:TypeId){w:World}{base:Nat}{p:σ}{n c:Nat}{xs:List Value}(h:Q5 w base e sz p n c xs)
  {a:Addr} {m d:Nat} {news:List Value} (x:news.length=m*sz) (J:Qa w (some a) news) (K:∀u∈news,u.oneCell'=true) (V:0<m) (A:n+m<=maxLen)
  (l:(n+m)*bytes<=140737488355328) {B:σ} {L N:Nat} {w':World} (r:(Builtin.append_ #[t,t] ty #[.slice p n c, .slice (some a) m d]).run P w= .ok (.slice B L N) w'):
  B=p\/B=some (at0 w.heap.size):=by
 obtain⟨i,z,hi,I,hs,hb,O⟩:=E.hi;subst hs;subst hb;have y:n+m<=9223372036854775807:=by simp only[maxLen]at A;omega
 have k:∀j u,news[j]? =some u->w.cell? (a.add j)=some u:=by
  intro j u C;obtain⟨Q,ha,D⟩:=J j u C;cases ha;exact D
 rcases h.where_ with⟨rfl,rfl,rfl⟩|⟨g,rfl,R,S,T,cur,U,G,H⟩
 ·have f:=run_append_nil (P:=P) w t ty e i z E.ht hi I a m d news x k (by omega) (by omega) (by have hb:=l;simp only[Nat.zero_add]at hb;omega)
  rw[r]at f;simp only[Result.ok.injEq,Value.slice.injEq]at f;exact .inr f.1.1
 ·by_cases o:n+m<=c
  ·have v:n*i.size+news.length<=cur.size:=by rw[x,G,←Nat.add_mul];exact Nat.mul_le_mul_right _ o
   have f:=run_append_room (P:=P) w t ty e i E.ht hi g n c cur U a m d news x k K o v;rw[show(some (at0 g):σ)=some ⟨g,0,none⟩from rfl]at r;rw[r]at f;simp only[Result.ok.injEq,Value.slice.injEq]at f;exact .inl f.1.1
  ·have q:∀j u,xs[j]? =some u->w.cell? ((⟨g,0,none⟩:Addr).add j)=some u:=by
    intro j u C;obtain⟨Q,ha,D⟩:=h.cells j u C;cases ha;exact D
   have f:=run_append_grow (P:=P) w t ty e i z E.ht hi I ⟨g,0,none⟩ n c xs h.length q a m d news x k (by omega) (by omega) (growslice_fits (by omega) l);rw[show(some (at0 g):σ)=some ⟨g,0,none⟩from rfl]at r;rw[r]at f;simp only[Result.ok.injEq,Value.slice.injEq]at f;exact .inr f.1.1
theorem Qsk:Qz1 prog 68 75 2 16:=⟨by kernel_rfl,⟨Tryz.t75, .agg #[.pointer none,int i64 0],by kernel_rfl,by kernel_rfl,by kernel_rfl,by kernel_rfl,by kernel_rfl⟩,by decide⟩
theorem Ql.push{w0 w1:World}{a:Nat}{M:List Mem}{left:Int}{down:Bool}{F:Nat->Prop}(h:Ql w0 a M left down F)(v:Ext w0 w1){b:Nat}{D:Dk}{Fd:Nat->Prop}(hd:Dsk w1 b D Fd)(l:∀x,Fd x->w0.heap.size<=x)(hM:M.length<=100):
  ∃p cm,w1.cell? ((at0 a).add 0)=some (.slice p M.length cm)/\∀(k:Nat)(U:World),QG w1 k (.cells #[.pointer (some (at0 b)),int i64 0] 75) U→
   ∃A V O,Sem.run prog (Builtin.append_ #[68,68] 68 #[.slice p M.length cm, .slice (some (at0 k)) 1 1]) U= .ok (.slice A (M.length+1) V) O/\QD O ((at0 a).add 0)∧
    ∀P,Qt O ((at0 a).add 0) (.slice A (M.length+1) V) P->∃Q,Ql P a (M++ [⟨D,0⟩]) left down Q/\Upd F w0 P/\∀x,Q x->F x\/w0.heap.size<=x:=by
 have y:=h.lt;have h':=h.ext v;obtain⟨p,cm,bs,Fs,h1,h2,h3,h4,h5,h6,h7,B⟩:=h';refine⟨p,cm,h1.c rfl,fun k U R=> ?_⟩;have x2:=v.trans R.ext;have aj:=R.size;have az:=v.size;have C:Qa U (some (at0 k)) [.pointer (some (at0 b)),int i64 0]:=by
  intro j u H;refine⟨_,rfl,?_⟩;have hb:=R.at
  match j,H with
  |0,H=>cases H;simp[World.cell?,Addr.add,hb]
  |1,H=>cases H;simp[World.cell?,Addr.add,hb]
 have E:∀u∈ [Value.pointer (some (at0 b)),int i64 0],u.oneCell'=true:=by
  intro u hu;simp only[List.mem_cons,List.not_mem_nil,or_false]at hu;rcases hu with rfl|rfl<;>rfl
 have W:=h2.ext R.ext;obtain⟨A,V,O,hr,X,I,_⟩:=W.append Qsk 68 (q:=some (at0 k)) (m:=1) (d:=1) (news:=[.pointer (some (at0 b)),int i64 0]) rfl C (fun h=>by cases h) E (by unfold maxLen;omega) (by omega) (Nat.zero_le _);have hw:=QC9 Qsk 68 W rfl C E (by omega) (by unfold maxLen;omega) (by omega) hr;have p_lt:∀x,p=some (at0 x)->x<w0.heap.size:=fun x T=>y x ((B x).2 (.inr (.inl T)));have F_lt:∀i x,i<M.length->Fs i x->x<w0.heap.size:=fun i x hi f=>y x ((B x).2 (.inr (.inr ⟨i,hi,f⟩)));have a_lt:a<w0.heap.size:=y a ((B a).2 (.inl rfl));have hd_lt:=hd.lt;have z:∀x,A=some (at0 x)->(p=some (at0 x))\/x=U.heap.size:=by
  intro x T;rcases hw with h|h
  ·exact .inl (by rw[←h];exact T)
  ·rw[h]at T
   simp only[Zi,at0,Zv,and_true]at T;exact .inr T.symm
 have Y:p≠some (at0 a):=h7;have r3:=I.rowW (R.ext.rowW h1 id) (fun e=>Y e);refine⟨A,V,O,hr,r3.live (by simp),fun P hs=> ?_⟩;have J:Upd (fun x=>x=a) O P:=by
  have:=hs.upd;rw[QJ]at this;exact this
 have hp'a:A≠some (at0 a):=fun e=>by
  rcases z a e with h|h
  ·exact Y h
  ·omega
 have n:(M++ [(⟨D,0⟩:Mem)]).length=M.length+1:=by simp
 have G:∀{Z:Nat}{D':Dk}{Q:Nat->Prop},Dsk w1 Z D' Q->(∀x,Q x->x≠a/\p≠some (at0 x))->Dsk P Z D' Q:=fun K hF=>
  ((K.ext R.ext).upd I (fun x v f=>(hF x f).2 v)).upd J fun x v f=>(hF x f).1 v
 refine⟨fun x=>x=a\/A=some (at0 x)\/∃i,i<M.length+1/\(if i=M.length then Fd else Fs i) x,⟨A,V,bs++ [b],fun i=>if i=M.length then Fd else Fs i,?_,?_,by simp[h3],?_,?_,?_,hp'a,?_⟩,?_,?_⟩
 ·rw[n];exact hs.row r3
 ·rw[n,QU5 _ _ h3]
  exact X.upd J fun g hg e=>hp'a (by rw[hg,e])
 ·intro i m hi
  rcases Nat.lt_or_ge i M.length with L|L
  ·rw[Zl L]at hi
   obtain⟨Z,ab,K⟩:=h4 i m hi;refine⟨Z,by rw[Zl (by omega)];exact ab,?_⟩;have ac:¬i=M.length:=by omega
   simp only[if_neg ac];exact G K fun x f=>h6 i x L f
  ·have ad:i=M.length:=by
    have:=(Zd.1 hi).1;rw[n]at this;omega
   subst ad;rw[Zm (Nat.le_refl _),Nat.sub_self]at hi;cases hi;refine⟨b,by rw[Zm (by omega),h3,Nat.sub_self];rfl,?_⟩;simp only[if_true];exact G hd fun x f=>⟨fun e=>by have:=l x f;omega,fun e=>by have:=l x f;have:=p_lt x e;omega⟩
 ·intro i j x hi H r t
  rw[n]at hi H
  by_cases o:i=M.length<;>by_cases N:j=M.length
  ·omega
  ·simp only[if_pos o]at r;simp only[if_neg N]at t
   have:=l x r;have:=F_lt j x (by omega) t;omega
  ·simp only[if_neg o]at r;simp only[if_pos N]at t
   have:=l x t;have:=F_lt i x (by omega) r;omega
  ·simp only[if_neg o]at r;simp only[if_neg N]at t
   exact h5 i j x (by omega) (by omega) r t
 ·intro i x hi f
  rw[n]at hi
  by_cases o:i=M.length
  ·simp only[if_pos o]at f
   have:=l x f;refine⟨by omega,fun e=> ?_⟩;rcases z x e with h|h
   ·have:=p_lt x h;omega
   ·have:=hd_lt x f;omega
  ·simp only[if_neg o]at f
   obtain⟨q1,q2⟩:=h6 i x (by omega) f;refine⟨q1,fun e=> ?_⟩;rcases z x e with h|h
   ·exact q2 h
   ·have:=F_lt i x (by omega) f;omega
 ·intro x
  rw[n]
 ·refine Upd.trans (Upd.trans (x2.upd (S:=F)) I fun x _ v=>(B x).2 (.inr (.inl v))) J fun x _ v=>(B x).2 (.inl v)
 ·rintro x (rfl|ae|⟨i,hi,f⟩)
  ·exact .inl ((B _).2 (.inl rfl))
  ·rcases z x ae with h|h
   ·exact .inl ((B _).2 (.inr (.inl h)))
   ·exact .inr (by omega)
  ·by_cases o:i=M.length
   ·simp only[if_pos o]at f
    exact .inr (l x f)
   ·simp only[if_neg o]at f
    exact .inl ((B _).2 (.inr (.inr ⟨i,by omega,f⟩)))
open Go Go.Vc
open Go.IntKind (i64)
open Go.Value (int)
open Go.Proofs.Tryz (prog)
theorem Qfl{n s:Int}(h:n<1\/32<n)(w:World):Calls prog 10 #[int i64 n,int i64 s] w fun e w'=>e= .returned (.tuple #[.pointer none,int i64 1])/\w'=w:=by
 refine(F10_calls n s w (fun v w'=>v= .tuple #[.pointer none,int i64 1]/\w'=w) (fun _ _ _ _ _=>False) (fun _ _ _ _ _=>0) ?_).mono (by rintro e w' ⟨v,rfl,rfl,h⟩;exact⟨rfl,h⟩);refine Q0 (fun _=>⟨rfl,rfl⟩) (fun d=>Q0 (fun _=>⟨rfl,rfl⟩) (fun f=> ?_));simp only[Zb]at d f;omega
theorem QB9{n s:Int}(h:1<=n/\n<=32)(hs:1<=s/\s<=4096)(w:World):Calls prog 10 #[int i64 n,int i64 s] w fun e w'=>∃a F,e= .returned (.tuple #[.pointer (some (at0 a)),int i64 0])/\Ext w w'∧
  Ql w' a (List.replicate n.toNat ⟨⟨s,[],[],false⟩,0⟩) (-1) false F/\∀x,F x->w.heap.size<=x:=by
 refine(F10_calls n s w (fun v w'=>∃a F,v= .tuple #[.pointer (some (at0 a)),int i64 0]/\Ext w w'/\Ql w' a (List.replicate n.toNat ⟨⟨s,[],[],false⟩,0⟩) (-1) false F/\∀x,F x->w.heap.size<=x)
  (fun p _ _ n7 w8=>∃(a i:Nat)(F:Nat->Prop),p=some (at0 a)/\n7=i/\i<=n.toNat/\Ext w w8/\Ql w8 a (List.replicate i ⟨⟨s,[],[],false⟩,0⟩) (-1) false F/\∀x,F x->w.heap.size<=x) (fun _ _ _ n7 _=>32-n7.toNat) ?_).mono (by
   rintro e w' ⟨v,rfl,a,F,rfl,h⟩;exact⟨a,F,rfl,h⟩)
 refine Q0 (fun q=>by simp only[Za]at q;omega) (fun _=>Q0 (fun q=>by simp only[Za]at q;omega) (fun _=> ?_));intro o W r;refine⟨⟨o,0,fun x=>x=o,rfl,rfl,Nat.zero_le _,r.ext,⟨none,0,[],fun _ _=>False,⟨_,r.at⟩,Q5.nil _ _ _ _,rfl,fun i m hi=>by simp at hi,fun i j x hi _ _ _=>by simp at hi,fun i x hi _=>by simp at hi,by simp,fun x=>by simp⟩,?_⟩,?_⟩
 ·rintro x rfl
  rw[r.size.1];exact Nat.le_refl _
 rintro n7 w8 ⟨a,i,F,I,rfl,hi,f,E,t⟩;cases I
 intros
 refine Q0 (fun u=> ?_) (fun y=> ?_)
 ·simp only[Za]at u
  refine(Qyl hs w8).mono ?_;rintro e J ⟨b,Fd,rfl,z,K,A⟩;obtain⟨p,cm,G,d⟩:=E.push z K A (by rw[List.length_replicate];omega);rw[List.length_replicate]at G d;refine⟨_,_,rfl,Q0 (fun h=>by simp at h) fun _=>⟨p,i,cm,G,fun B C g=> ?_⟩⟩;obtain⟨L,N,O,P,Q,k⟩:=d B C g;refine⟨L,i+1,N,O,P,Q,fun D l=> ?_⟩;obtain⟨R,S,T,U⟩:=k D l;rw[w64 (by omega)];refine⟨⟨o,i+1,R,rfl,by omega,by omega,?_,?_,fun x H=> ?_⟩,by show 32-((i:Int)+1).toNat<32-(i:Int).toNat;omega⟩
  ·refine Upd.trans f T fun x H V=> ?_
   have:=t x V;omega
  ·rw[List.replicate_succ'];exact S
  ·rcases U x H with h|h
   ·exact t x h
   ·exact Zu f.size h
 ·simp only[Zb]at y
  have:i=n.toNat:=by omega
  subst this;exact⟨o,F,rfl,f,E,t⟩
section
variable {w:World}{a:Nat}{M:List Mem}{left:Int}{down:Bool}{F:Nat->Prop}
theorem Qp1(h:Ql w a M left down F):Calls prog 59 #[.pointer (some (at0 a))] w fun e w'=>e= .returned (.bool down)/\w'=w:=by
 obtain⟨p,cm,d⟩:=h.row;exact(F59_calls (some (at0 a)) w (fun v w'=>v= .bool down/\w'=w) (Q0 (fun _=>⟨_,d.c rfl,rfl,rfl⟩) fun h=>by cases h)).mono (by rintro e w' ⟨v,rfl,rfl,h⟩;exact⟨rfl,h⟩)
theorem QW(h:Ql w a M left down F)(k:Int):Calls prog 43 #[.pointer (some (at0 a)),int i64 k] w fun e w'=>e= .returned (.bool (decide (0<=k/\k<M.length)))/\w'=w:=by
 obtain⟨p,cm,f⟩:=h.row;refine(F43_calls (some (at0 a)) k w (fun v w'=>v= .bool (decide (0<=k/\k<M.length))/\w'=w) ?_).mono (by rintro e w' ⟨v,rfl,rfl,h⟩;exact⟨rfl,h⟩);refine Q0 (fun _=>Q0 (fun d=>⟨_,_,_,f.c rfl,?_,rfl⟩) fun d=>⟨?_,rfl⟩) fun h=>by cases h
 ·simp only[Za]at d
  simp[d]
 ·simp only[Zb]at d
  simp[d]
theorem Qmd(h:Ql w a M left down F)(k:Int):Calls prog 88 #[.pointer (some (at0 a)),int i64 k] w fun e w'=>e= .returned (.tuple #[])/\Qp F F w w'∧
  Ql w' a M (if down then left else if k< -1 then-1 else k) (if down then true else decide (k=0)) F:=by
 obtain⟨p,cm,l⟩:=h.row;refine(F88_calls (some (at0 a)) k w (fun v w'=>v= .tuple #[]/\Qp F F w w'/\Ql w' a M (if down then left else if k< -1 then-1 else k) (if down then true else decide (k=0)) F) ?_).mono (by rintro e w' ⟨v,rfl,rfl,h⟩;exact⟨rfl,h⟩);refine Q0 (fun _=>⟨_,l.c rfl,Q0 (fun f=> ?_) fun f=> ?_⟩) fun h=>by cases h
 ·have d:down=false:=by simpa using f
  subst d;refine⟨l.live (by simp),fun t n=> ?_⟩;obtain⟨m,g⟩:=h.setLeft n;obtain⟨u,o,i⟩:=m.row;refine⟨i.live (by simp),fun w8 q=> ?_⟩;obtain⟨r,j⟩:=m.setDown q;exact⟨rfl,g.trans j,by simpa using r⟩
 ·have d:down=true:=by simpa using f
  subst d;exact⟨rfl,Qp.refl _ _,by simpa using h⟩
theorem Q08(h:Ql w a M left true F)(i k:Int):Calls prog 61 #[.pointer (some (at0 a)),int i64 i,int i64 k] w fun e w'=>e= .returned (.tuple #[.slice none 0 0,int i64 130])/\w'=w:=by
 refine(F61_calls (some (at0 a)) i k w (fun v w'=>v= .tuple #[.slice none 0 0,int i64 130]/\w'=w) ?_).mono (by rintro e w' ⟨v,rfl,rfl,h⟩;exact⟨rfl,h⟩);refine(Qp1 h).mono ?_;rintro e d ⟨rfl,rfl⟩;exact⟨_,rfl,Q0 (fun _=>⟨rfl,rfl⟩) fun h=>by cases h⟩
theorem Q18(h:Ql w a M left false F){i:Nat}{m:Mem}(hi:M[i]? =some m)(k:Int):Calls prog 61 #[.pointer (some (at0 a)),int i64 (i:Int),int i64 k] w fun e w'=>Ext w w'∧
  ∃p l c bs,e= .returned (.tuple #[.slice p l c,int i64 (Qh m.d.dead m.d.sectors k)])/\bs=(if Qh m.d.dead m.d.sectors k=0 then Qy0 m.d k else [])/\l=bs.length/\Q5 w' w.heap.size 5 1 p l c (QE bs)/\l<=4108:=by
 refine(F61_calls (some (at0 a)) (i:Int) k w (fun v w'=>Ext w w'/\∃p l c bs,v= .tuple #[.slice p l c,int i64 (Qh m.d.dead m.d.sectors k)]/\bs=(if Qh m.d.dead m.d.sectors k=0 then Qy0 m.d k else [])/\l=bs.length/\Q5 w' w.heap.size 5 1 p l c (QE bs)/\l<=4108) ?_).mono (by rintro e w' ⟨v,rfl,f,p,l,c,bs,rfl,h⟩;exact⟨f,p,l,c,bs,rfl,h⟩);have g:i<M.length:=(Zd.1 hi).1;refine(Qp1 h).mono ?_;rintro e t ⟨rfl,rfl⟩;refine⟨_,rfl,Q0 (fun h=>by cases h) fun _=>(QW h (i:Int)).mono ?_⟩;rintro e u ⟨rfl,rfl⟩;obtain⟨ap,cm,b,Fi,j,_,n,x,o,_,_⟩:=h.at hi;refine⟨_,rfl,Q0 (fun q=>by simp at q;omega) fun _=>⟨_,_,_,j,⟨by omega,by omega⟩,_,by rw[Ze];exact n,?_⟩⟩;refine(Qmk o k).mono ?_;rintro e r ⟨f,_,p,l,c,bs,rfl,h⟩;exact⟨_,_,_,_,rfl,f,p,l,c,bs,rfl,h⟩
theorem QJ6(h:Ql w a M left false F)(t: -1<=left/\left<=9223372036854775807){i:Nat}{m:Mem}(hi:M[i]? =some m)(k:Int){p:σ}{l c:Nat}{bs:τ}(hb:Q1 w p l bs):
  Calls prog 69 #[.pointer (some (at0 a)),int i64 (i:Int),int i64 k, .slice p l c] w fun e w'=>∃f,e= .returned (int i64 (Qs m.d k bs.length))/\Qp F f w w'∧
   Ql w' a (M.set i {m with d:=QT m.d k bs}) (if Qs m.d k bs.length=0/\0<left then left-1 else left) (decide (Qs m.d k bs.length=0/\left=1)) f:=by
 refine(F69_calls (some (at0 a)) (i:Int) k p l c w (fun v w'=>∃f,v=int i64 (Qs m.d k bs.length)/\Qp F f w w'∧
   Ql w' a (M.set i {m with d:=QT m.d k bs}) (if Qs m.d k bs.length=0/\0<left then left-1 else left) (decide (Qs m.d k bs.length=0/\left=1)) f) ?_).mono (by rintro e w' ⟨v,rfl,f,rfl,h⟩;exact⟨f,rfl,h⟩)
 have C:i<M.length:=(Zd.1 hi).1;refine(Qp1 h).mono ?_;rintro e Q ⟨rfl,rfl⟩;refine⟨_,rfl,Q0 (fun h=>by cases h) fun _=>(QW h (i:Int)).mono ?_⟩;rintro e R ⟨rfl,rfl⟩;obtain⟨ap,cm,b,Fi,D,_,E,S,G,_,g⟩:=h.at hi;refine⟨_,rfl,Q0 (fun H=>by simp at H;omega) fun _=>⟨_,_,_,D,⟨by omega,by omega⟩,_,by rw[Ze];exact E,?_⟩⟩;refine(Qsj G k hb).mono ?_;rintro e I ⟨f,rfl,hs,u⟩;obtain⟨F2,r,x⟩:=g _ _ _ hs u;obtain⟨T,J,j⟩:=r.row;refine⟨_,rfl,Q0 (fun n=> ?_) (fun n=> ?_)⟩
 ·simp only[Za]at n
  refine⟨_,j.c rfl,Q0 (fun o=> ?_) (fun o=> ?_)⟩
  ·simp only[Za]at o
   refine⟨_,j.c rfl,j.live (by simp),fun K y=> ?_⟩;obtain⟨A,L⟩:=r.setLeft y;obtain⟨U,N,q⟩:=A.row;refine⟨_,q.c rfl,q.live (by simp),fun O z=> ?_⟩;obtain⟨B,P⟩:=A.setDown z;refine⟨F2,rfl,(x.trans L).trans P,?_⟩;rw[w64 (by omega)]at B;rw[if_pos ⟨n,o⟩];have:decide (Qs m.d k bs.length=0/\left=1)=decide (left-1=0):=by
    apply decide_eq_decide.2;constructor
    ·rintro⟨_,h⟩;omega
    ·intro h;exact⟨n,by omega⟩
   rw[this];exact B
  ·simp only[Zb]at o
   refine⟨F2,rfl,x,?_⟩;rw[if_neg (fun h=>o h.2)];have:decide (Qs m.d k bs.length=0/\left=1)=false:=decide_eq_false fun h=>by omega
   rw[this];exact r
 ·simp only[Zb]at n
  refine⟨F2,rfl,x,?_⟩;rw[if_neg (fun h=>n h.1)];have:decide (Qs m.d k bs.length=0/\left=1)=false:=decide_eq_false fun h=>n h.1;rw[this];exact r
theorem Q28(h:Ql w a M left false F){i:Int}(hi:¬(0<=i/\i<M.length))(k:Int)(p:σ)(l c:Nat):
  Calls prog 69 #[.pointer (some (at0 a)),int i64 i,int i64 k, .slice p l c] w fun e w'=>e= .returned (int i64 1)/\w'=w:=by
 refine(F69_calls (some (at0 a)) i k p l c w (fun v w'=>v=int i64 1/\w'=w) ?_).mono (by rintro e w' ⟨v,rfl,rfl,h⟩;exact⟨rfl,h⟩);refine(Qp1 h).mono ?_;rintro e f ⟨rfl,rfl⟩;refine⟨_,rfl,Q0 (fun h=>by cases h) fun _=>(QW h i).mono ?_⟩;rintro e g ⟨rfl,rfl⟩;exact⟨_,rfl,Q0 (fun _=>⟨rfl,rfl⟩) fun d=>by simp only[Zf,Za]at d;exact absurd d hi⟩
theorem Qld(h:Ql w a M left down F){i:Nat}{m:Mem}(hi:M[i]? =some m):
  Calls prog 20 #[.pointer (some (at0 a)),int i64 (i:Int)] w fun e w'=>∃f,e= .returned (int i64 0)/\Qp F f w w'∧
   Ql w' a (M.set i ⟨{m.d with dead:=true,lasts:=[],waits:=[]},i64.wrap (m.births+1)⟩) left down f:=by
 refine(F20_calls (some (at0 a)) (i:Int) w (fun v w'=>∃f,v=int i64 0/\Qp F f w w'∧
   Ql w' a (M.set i ⟨{m.d with dead:=true,lasts:=[],waits:=[]},i64.wrap (m.births+1)⟩) left down f) ?_).mono (by rintro e w' ⟨v,rfl,f,rfl,h⟩;exact⟨f,rfl,h⟩)
 have j:i<M.length:=(Zd.1 hi).1;refine(QW h (i:Int)).mono ?_;rintro e H ⟨rfl,rfl⟩;obtain⟨ap,cm,b,Fi,p,_,q,I,r,_,g⟩:=h.at hi;refine⟨_,rfl,Q0 (fun t=>by simp at t;omega) fun _=>⟨_,_,_,p,⟨by omega,by omega⟩,_,by rw[Ze];exact q,?_⟩⟩;refine(Qlk r).mono ?_;rintro e u ⟨rfl,hs,k⟩;obtain⟨F2,x,y⟩:=g _ _ _ hs k;obtain⟨z,A,n,B,C,D⟩:=x.born (i:=i) (m:={m with d:={m.d with dead:=true,lasts:=[],waits:=[]}}) (List.getElem?_set_self j);rw[List.length_set]at n;rw[Ze];refine⟨rfl,_,_,_,n,⟨by omega,by omega⟩,_,B,⟨by omega,by omega⟩,C,fun E l=> ?_⟩;obtain⟨o,G⟩:=D _ _ l;rw[List.set_set]at o;exact⟨F2,rfl,y.trans G,o⟩
end
open Go Go.Vc
open Go.IntKind (i64)
open Go.Value (int)
open Go.Proofs.Tryz (prog)
theorem Qg4{P:Program}{t e:TypeId}{bytes:Nat}(E:Qz1 P t e 1 bytes)(y:bytes<=64){w0 w:World}(G:Ext w0 w){p:σ}{n c:Nat}{xs:List Value}(h:Q5 w w0.heap.size e 1 p n c xs){k:Nat}{v:Value}{w1:World}
  (z:QG w k (.cells #[v] e) w1) (H:v.oneCell'=true) (N:n<=100000):
  ∃l o w',Sem.run P (Builtin.append_ #[t,t] t #[.slice p n c, .slice (some (at0 k)) 1 1]) w1= .ok (.slice l (n+1) o) w'/\Q5 w' w0.heap.size e 1 l (n+1) o (xs++ [v])/\Ext w0 w':=by
 have f:Qa w1 (some (at0 k)) [v]:=by
  intro j u A;refine⟨_,rfl,?_⟩;have hb:=z.at
  match j,A with
  |0,A=>cases A;simp[World.cell?,Addr.add,hb]
 have i:=G.trans z.ext;have C:=h.ext z.ext;have D:(n+1)*bytes<=(100000+1)*64:=Nat.mul_le_mul (by omega) y;obtain⟨l,o,w',I,J,r,_⟩:=C.append E t (q:=some (at0 k)) (m:=1) (d:=1) (news:=[v]) rfl f (fun h=>by cases h) (by intro u r;simp only[List.mem_singleton]at r;subst r;exact H) (by unfold maxLen;omega) (by omega) i.size;refine⟨l,o,w',I,J,?_⟩;refine Upd.trans i r fun x K hs=> ?_;rcases C.where_ with⟨B,_⟩|⟨g,B,L,_⟩
 ·rw[B]at hs;cases hs
 ·rw[B]at hs
  simp only[Zi,at0,Zv,and_true]at hs;omega
theorem QDc:Qz1 prog 116 4 1 1:=⟨by kernel_rfl,⟨Tryz.t4, .bool false,by kernel_rfl,by kernel_rfl,by kernel_rfl,by kernel_rfl,by kernel_rfl⟩,by decide⟩
theorem QK8:Qz1 prog 30 3 1 8:=⟨by kernel_rfl,⟨Tryz.t3,int i64 0,by kernel_rfl,by kernel_rfl,by kernel_rfl,by kernel_rfl,by kernel_rfl⟩,by decide⟩
theorem Qf0{w0 w w':World}{k j:Nat}{v:Value}(h:Ext w0 w)(e:w0.heap.size<=k)(hs:Qt w ((at0 k).add j) v w'):Ext w0 w':=by
 refine Upd.trans h hs.upd fun x f d=> ?_;have:x=k:=by
  rw[QJ]at d;exact d
 omega
section
variable {w:World}{a:Nat}{M:List Mem}{left:Int}{down:Bool}{F:Nat->Prop}
theorem Ql.entry(h:Ql w a M left down F){p:σ}{cm:Nat}(g:RowW w a #[.slice p M.length cm,int i64 left, .bool down]){i:Nat}{m:Mem}(hi:M[i]? =some m):
  ∃ap b Fi,p=some ap/\w.cell? (ap.add (i*2))=some (.pointer (some (at0 b)))/\w.cell? ((ap.add (i*2)).add 1)=some (int i64 m.births)/\Dsk w b m.d Fi/\(∀x,Fi x->F x/\x≠a)∧
   ∀w' e f,Qp Fi f w w'->Dsk w' b e f->∃F2,Ql w' a (M.set i {m with d:=e}) left down F2/\Qp F F2 w w':=by
 obtain⟨ap,cm',b,Fi,j,k,_,l,o,q,hs⟩:=h.at hi;have:=g.row.cell (n:=0) rfl;rw[j]at this;cases this;exact⟨ap,b,Fi,rfl,k,l,o,q,hs⟩
theorem Q9a(h:Ql w a M left down F)(hM:M.length<=100):Calls prog 56 #[.pointer (some (at0 a))] w fun e w'=>∃p l c,e= .returned (.slice p l c)/\Ext w w'/\l=M.length∧
  Q5 w' w.heap.size 4 1 p l c (M.map fun m=> .bool (!m.d.dead)):=by
 refine(F56_calls (some (at0 a)) w (fun v w'=>∃p l c,v= .slice p l c/\Ext w w'/\l=M.length/\Q5 w' w.heap.size 4 1 p l c (M.map fun m=> .bool (!m.d.dead)))
  (fun _ _ _ _ _ E f G D g=>∃i:Nat,D=i/\i<=M.length/\Ext w g/\f=i/\Q5 g w.heap.size 4 1 E f G ((M.take i).map fun m=> .bool (!m.d.dead))) (fun _ _ _ _ _ _ _ _ D _=>100-D.toNat) ?_).mono (by
   rintro e w' ⟨v,rfl,p,l,c,rfl,h⟩;exact⟨p,l,c,rfl,h⟩)
 obtain⟨p,cm,R⟩:=h.row;refine Q0 (fun h=>by cases h) fun _=>⟨_,_,_,R.c rfl,⟨0,rfl,Nat.zero_le _,Upd.refl _ _,rfl,Q5.nil _ _ _ _⟩,?_⟩;rintro E f G D g ⟨i,rfl,hi,j,rfl,own⟩
 intros
 refine Q0 (fun t=> ?_) (fun H=> ?_)
 ·simp only[Za]at t
  obtain⟨m,S⟩:∃m,M[f]? =some m:=⟨M[f]'(by omega),Zc _⟩;obtain⟨ap,b,Fi,rfl,T,U,V,_,_⟩:=(h.ext j).entry (j.rowW R id) S;rw[Ze];refine⟨⟨by omega,t⟩,_,T,_,U,fun o u I=> ?_⟩;have x:g.heap.size<=o:=by rw[I.size.1];exact Nat.le_refl _
  have y:RowW u o _:=⟨_,I.at⟩;refine⟨y.live (n:=0) (by simp),fun J K=> ?_⟩;have k:Qt u ((at0 o).add 0) (.pointer (some (at0 b))) J:=K;have z:=k.row y;have L:=Qf0 I.ext x k;refine⟨z.live (by simp),fun W A=> ?_⟩;have N:=A.row z;have q:=Qf0 L x A;refine⟨some (at0 b),N.c rfl,?_⟩;refine(Qkk (V.ext q)).mono ?_;rintro e X ⟨rfl,rfl⟩;refine⟨_,rfl,fun Y Z B=> ?_⟩;have O:=j.trans q;obtain⟨p',c',P,C,r,Q⟩:=Qg4 QDc (by omega) O (own.ext q) B rfl (by omega);refine⟨p',f+1,c',P,C,?_⟩;rw[w64 (by omega)];refine⟨⟨f+1,by omega,by omega,Q,rfl,?_⟩,by show 100-((f:Int)+1).toNat<100-(f:Int).toNat;omega⟩;rw[Zn,S];simpa using r
 ·simp only[Zb]at H
  have:M.take f=M:=Zh (by omega);rw[this]at own;exact⟨E,f,G,rfl,j,by omega,own⟩
theorem Q9b(h:Ql w a M left down F)(hM:M.length<=100):Calls prog 58 #[.pointer (some (at0 a))] w fun e w'=>∃p l c,e= .returned (.slice p l c)/\Ext w w'/\l=M.length∧
  Q5 w' w.heap.size 3 1 p l c (M.map fun m=>int i64 m.births):=by
 refine(F58_calls (some (at0 a)) w (fun v w'=>∃p l c,v= .slice p l c/\Ext w w'/\l=M.length/\Q5 w' w.heap.size 3 1 p l c (M.map fun m=>int i64 m.births))
  (fun _ _ _ _ _ D d E C f=>∃i:Nat,C=i/\i<=M.length/\Ext w f/\d=i/\Q5 f w.heap.size 3 1 D d E ((M.take i).map fun m=>int i64 m.births)) (fun _ _ _ _ _ _ _ _ C _=>100-C.toNat) ?_).mono (by
   rintro e w' ⟨v,rfl,p,l,c,rfl,h⟩;exact⟨p,l,c,rfl,h⟩)
 obtain⟨p,cm,Q⟩:=h.row;refine Q0 (fun h=>by cases h) fun _=>⟨_,_,_,Q.c rfl,⟨0,rfl,Nat.zero_le _,Upd.refl _ _,rfl,Q5.nil _ _ _ _⟩,?_⟩;rintro D d E C f ⟨i,rfl,hi,g,rfl,own⟩
 intros
 refine Q0 (fun q=> ?_) (fun G=> ?_)
 ·simp only[Za]at q
  obtain⟨m,R⟩:∃m,M[d]? =some m:=⟨M[d]'(by omega),Zc _⟩;obtain⟨ap,b,Fi,rfl,S,T,Z,_,_⟩:=(h.ext g).entry (g.rowW Q id) R;rw[Ze];refine⟨⟨by omega,q⟩,_,S,_,T,fun k r H=> ?_⟩;have t:f.heap.size<=k:=by rw[H.size.1];exact Nat.le_refl _
  have u:RowW r k _:=⟨_,H.at⟩;refine⟨u.live (n:=0) (by simp),fun I J=> ?_⟩;have j:Qt r ((at0 k).add 0) (.pointer (some (at0 b))) I:=J;have x:=j.row u;have K:=Qf0 H.ext t j;refine⟨x.live (by simp),fun U y=> ?_⟩;have L:=y.row x;have z:=Qf0 K t y;refine⟨m.births,L.c rfl,fun V W A=> ?_⟩;have N:=g.trans z;obtain⟨X,Y,O,B,o,P⟩:=Qg4 QK8 (by omega) N (own.ext z) A rfl (by omega);refine⟨X,d+1,Y,O,B,?_⟩;rw[w64 (by omega)];refine⟨⟨d+1,by omega,by omega,P,rfl,?_⟩,by show 100-((d:Int)+1).toNat<100-(d:Int).toNat;omega⟩;rw[Zn,R];simpa using o
 ·simp only[Zb]at G
  have:M.take d=M:=Zh (by omega);rw[this]at own;exact⟨D,d,E,rfl,g,by omega,own⟩
theorem Qm6{S:Nat->Prop}{w w':World}{a:Addr}{v:Value}(h:w.cell? a=some v)(e:Upd S w w')(hS:¬S a.block):w'.cell? a=some v:=by
 have:Qa w (some a) [v]:=fun j u d=>⟨a,rfl,by
  match j,d with
  |0,d=>cases d;simpa[Addr.add]using h⟩
 obtain⟨f,ha,h⟩:=(this.upd e fun f ha _=>by cases ha;exact hS) 0 v rfl;cases ha;simpa[Addr.add]using h
def QI5(w:World)(KB:Nat->Prop)(p:σ)(l:Nat)(KS:List (List Int)):Prop:=
 l=KS.length/\∀i ks,KS[i]? =some ks->∃a q n c,p=some a/\KB a.block/\w.cell? (a.add (i*1))=some (.slice q n c)/\QV w q n ks/\(ks≠ []->∀a',q=some a'->KB a'.block)/\n<=9223372036854775807
theorem QI5.upd{S KB:Nat->Prop}{w w':World}{p:σ}{l:Nat}{KS:List (List Int)}(h:QI5 w KB p l KS)(e:Upd S w w')(hS:∀x,KB x->¬S x):QI5 w' KB p l KS:=by
 refine⟨h.1,fun i ks hi=> ?_⟩;obtain⟨a,q,n,c,k,f,m,g,j,o⟩:=h.2 i ks hi;refine⟨a,q,n,c,k,f,Qm6 m e (by rw[Qx];exact hS _ f),⟨g.1,g.2.upd e fun r ha d=>hS _ (j (by rintro rfl;exact d rfl) r ha)⟩,j,o⟩
theorem Ql8{w:World}{p:σ}{l:Nat}{ks:List Int}(h:QV w p l ks)(e:ks≠ []){a:Addr}(ha:p=some a):a.block<w.heap.size:=by
 obtain⟨k,ks',rfl⟩:=List.exists_cons_of_ne_nil e;obtain⟨i,d,f⟩:=h.2 0 _ rfl;rw[ha]at d;cases d;have:(a.add 0).block=a.block:=rfl;rw[←this];unfold World.cell? at f
 split at f
 ·rename_i g;exact Qe g
 all_goals cases f
def QA0(KS:List (List Int))(i:Nat)(M:List Mem):List Mem:=M.mapIdx fun j m=>if j<i then{m with d:=Qk2 m.d (KS.getD j [])}else m
theorem Qj5(KS:List (List Int))(i:Nat)(M:List Mem):(QA0 KS i M).length=M.length:=by simp[QA0]
theorem Qef{KS:List (List Int)}{i:Nat}{M:List Mem}{m:Mem}(h:M[i]? =some m):(QA0 KS i M)[i]? =some m:=by simp[QA0,h]
theorem QDd{KS:List (List Int)}{i:Nat}{M:List Mem}{m:Mem}(h:M[i]? =some m):(QA0 KS i M).set i {m with d:=Qk2 m.d (KS.getD i [])}=QA0 KS (i+1) M:=by
 apply List.ext_getElem?;intro j;rw[List.getElem?_set]
 by_cases e:i=j
 ·subst e
  have k:i<M.length:=(Zd.1 h).1;have f:M[i]=m:=(Zd.1 h).2;subst f;simp[QA0,k]
 ·rw[if_neg e]
  simp only[QA0,List.getElem?_mapIdx];cases M[j]? with
  |none=>rfl
  |some mj=>
   simp only[Option.map_some,Zi]
   by_cases g:j<i
   ·rw[if_pos g,if_pos (by omega)]
   ·rw[if_neg g,if_neg (by omega)]
theorem Qwa(h:Ql w a M left down F)(hM:M.length<=100){KB:Nat->Prop}(G:∀x,KB x->¬F x)(z:∀x,KB x->¬w.heap.size<=x){p:σ}{l c:Nat}{KS:List (List Int)}(hK:QI5 w KB p l KS):
  Calls prog 90 #[.pointer (some (at0 a)), .slice p l c] w fun e w'=>∃g,e= .returned (.tuple #[])/\Qp F g w w'/\Ql w' a (QA0 KS M.length M) (-1) false g:=by
 obtain⟨p4,c4,hr⟩:=h.row
 refine(F90_calls (some (at0 a)) p l c w (fun v w'=>∃g,v= .tuple #[]/\Qp F g w w'/\Ql w' a (QA0 KS M.length M) (-1) false g)
  (fun _ _ _ _ _ Z k=>∃(i:Nat)(g:Nat->Prop),Z=i/\i<=M.length/\Qp F g w k/\Ql k a (QA0 KS i M) left down g/\RowW k a #[.slice p4 M.length c4,int i64 left, .bool down]) (fun _ _ _ _ _ Z _=>100-Z.toNat) ?_).mono (by
   rintro e w' ⟨v,rfl,g,rfl,h⟩;exact⟨g,rfl,h⟩)
 have hl:=hK.1;have A:QA0 KS 0 M=M:=by
  apply List.ext_getElem?;intro j;simp[QA0]
 refine Q0 (fun h=>by cases h) fun _=>⟨_,_,_,hr.c rfl,⟨0,F,rfl,Nat.zero_le _,Qp.refl _ _,by rw[A];exact h,hr⟩,?_⟩;rintro Z k ⟨i,g,rfl,hi,r,H,r10⟩
 intros
 refine Q0 (fun I=> ?_) (fun ab=> ?_)
 ·simp only[Za]at I
  obtain⟨m,hm⟩:∃m,M[i]? =some m:=⟨M[i]'(by omega),Zc _⟩;have ac:=Qef (KS:=KS) hm;have J:RowW k a #[.slice p4 (QA0 KS i M).length c4,int i64 left, .bool down]:=by rw[Qj5];exact r10
  obtain⟨ap,b,Fi,rfl,e1,e2,hd,K,B⟩:=H.entry J ac;rw[Ze];refine⟨⟨by omega,I⟩,_,e1,_,e2,fun C L hk=> ?_⟩;have N:k.heap.size<=C:=by rw[hk.size.1];exact Nat.le_refl _
  have O:RowW L C _:=⟨_,hk.at⟩;refine⟨O.live (n:=0) (by simp),fun ae af=> ?_⟩;have u:Qt L ((at0 C).add 0) (.pointer (some (at0 b))) ae:=af;have P:=u.row O;have ah:=Qf0 hk.ext N u;refine⟨P.live (by simp),fun Q R=> ?_⟩;have S:=R.row P;have D:=Qf0 ah N R;have y:=hd.ext D;have ai:100-((i:Int)+1).toNat<100-(i:Int).toNat:=by omega
  have done:∀f,Qp Fi Fi Q f->Dsk f b (Qk2 m.d (KS.getD i [])) Fi->(∃(i':Nat)(g:Nat->Prop),i64.wrap ((i:Int)+1)=i'/\i'<=M.length/\Qp F g w f/\Ql f a (QA0 KS i' M) left down g/\RowW f a #[.slice (some ap) M.length c4,int i64 left, .bool down])∧
    100-(i64.wrap ((i:Int)+1)).toNat<100-(i:Int).toNat:=by
   intro f hs o;have T:Qp Fi Fi k f:=(Qp.ext D).trans hs;obtain⟨F2,h2,s2⟩:=B f _ _ T o;rw[QDd hm]at h2;rw[w64 (by omega)];exact⟨⟨i+1,F2,by omega,by omega,r.trans s2,h2,T.upd.rowW r10 fun hf=>(K a hf).2 rfl⟩,ai⟩
  refine Q0 (fun t=> ?_) (fun t=> ?_)
  ·simp only[Za]at t
   obtain⟨ks,U⟩:∃ks,KS[i]? =some ks:=⟨KS[i]'(by omega),Zc _⟩;obtain⟨aa,q,nn,cc,rfl,a8,ec,E,al,am⟩:=((hK.upd r.upd G).upd D fun _ _ h=>h).2 i ks U;refine⟨⟨by omega,t⟩,_,_,_,ec,some (at0 b),S.c rfl,?_⟩;refine(Qkf y E am fun a' ha ao hf=> ?_).mono ?_
   ·have hw:=al ao a' ha
    rcases r.grow _ (K _ hf).1 with h1|h1
    ·exact G _ hw h1
    ·exact z _ hw h1
   rintro e f ⟨rfl,hs,o⟩;have:KS.getD i []=ks:=by simp[List.getD,U]
   exact⟨rfl,done f hs (by rw[this];exact o)⟩
  ·simp only[Zb]at t
   refine⟨some (at0 b),S.c rfl,?_⟩;have V:QV Q none 0 []:=⟨rfl,Qa.nil _ _⟩;refine(Qkf y V (by omega) fun a' ha=>by cases ha).mono ?_;rintro e f ⟨rfl,hs,o⟩;have:KS.getD i []=[]:=by
    have:KS[i]? =none:=Zr (by omega);simp[List.getD,this]
   exact⟨rfl,done f hs (by rw[this];exact o)⟩
 ·simp only[Zb]at ab
  have:i=M.length:=by omega
  subst this;refine⟨r10.live (by simp),fun a9 ar=> ?_⟩;obtain⟨W,X⟩:=H.setLeft ar;obtain⟨p5,c5,au⟩:=W.row;refine⟨au.live (by simp),fun ba av=> ?_⟩;obtain⟨aw,Y⟩:=W.setDown av;exact⟨g,rfl,(r.trans X).trans Y,aw⟩
end
open Go Go.Vc
open Go.IntKind (i64)
open Go.Value (int)
open Go.Proofs.Tryz (prog)
section
variable {w:World}{a:Nat}{M:List Mem}{left:Int}{down:Bool}{F:Nat->Prop}
theorem QRe(h:Ql w a M left down F){i:Int}(hi:¬(0<=i/\i<M.length)):Calls prog 20 #[.pointer (some (at0 a)),int i64 i] w fun e w'=>e= .returned (int i64 1)/\w'=w:=by
 refine(F20_calls (some (at0 a)) i w (fun v w'=>v=int i64 1/\w'=w) ?_).mono (by rintro e w' ⟨v,rfl,rfl,h⟩;exact⟨rfl,h⟩);refine(QW h i).mono ?_;rintro e f ⟨rfl,rfl⟩;exact⟨_,rfl,Q0 (fun _=>⟨rfl,rfl⟩) fun d=>by simp only[Zf,Za]at d;exact absurd d hi⟩
theorem QK5(h:Ql w a M left down F){i:Int}(hi:¬(0<=i/\i<M.length)):Calls prog 21 #[.pointer (some (at0 a)),int i64 i] w fun e w'=>e= .returned (int i64 1)/\w'=w:=by
 refine(F21_calls (some (at0 a)) i w (fun v w'=>v=int i64 1/\w'=w) ?_).mono (by rintro e w' ⟨v,rfl,rfl,h⟩;exact⟨rfl,h⟩);refine(QW h i).mono ?_;rintro e f ⟨rfl,rfl⟩;exact⟨_,rfl,Q0 (fun _=>⟨rfl,rfl⟩) fun d=>by simp only[Zf,Za]at d;exact absurd d hi⟩
theorem Qy9(h:Ql w a M left down F){i:Int}(hi:¬(0<=i/\i<M.length))(k t y:Int):Calls prog 22 #[.pointer (some (at0 a)),int i64 i,int i64 k,int i64 t, .int .u8 y] w fun e w'=>e= .returned (int i64 1)/\w'=w:=by
 refine(F22_calls (some (at0 a)) i k t y w (fun v w'=>v=int i64 1/\w'=w) ?_).mono (by rintro e w' ⟨v,rfl,rfl,h⟩;exact⟨rfl,h⟩);refine(QW h i).mono ?_;rintro e f ⟨rfl,rfl⟩;exact⟨_,rfl,Q0 (fun _=>⟨rfl,rfl⟩) fun d=>by simp only[Zf,Za]at d;exact absurd d hi⟩
theorem Qnd(h:Ql w a M left down F){i:Int}(hi:¬(0<=i/\i<M.length)):Calls prog 26 #[.pointer (some (at0 a)),int i64 i] w fun e w'=>e= .returned (.slice none 0 0)/\w'=w:=by
 refine(F26_calls (some (at0 a)) i w (fun v w'=>v= .slice none 0 0/\w'=w) ?_).mono (by rintro e w' ⟨v,rfl,rfl,h⟩;exact⟨rfl,h⟩);refine(QW h i).mono ?_;rintro e f ⟨rfl,rfl⟩;exact⟨_,rfl,Q0 (fun _=>⟨rfl,rfl⟩) fun d=>by simp only[Zf,Za]at d;exact absurd d hi⟩
theorem Qod(h:Ql w a M left down F){i:Int}(hi:¬(0<=i/\i<M.length)):Calls prog 24 #[.pointer (some (at0 a)),int i64 i] w fun e w'=>e= .returned (.slice none 0 0)/\w'=w:=by
 refine(F24_calls (some (at0 a)) i w (fun v w'=>v= .slice none 0 0/\w'=w) ?_).mono (by rintro e w' ⟨v,rfl,rfl,h⟩;exact⟨rfl,h⟩);refine(QW h i).mono ?_;rintro e f ⟨rfl,rfl⟩;exact⟨_,rfl,Q0 (fun _=>⟨rfl,rfl⟩) fun d=>by simp only[Zf,Za]at d;exact absurd d hi⟩
theorem QG4(h:Ql w a M left down F){i:Nat}{m:Mem}(hi:M[i]? =some m):
  Calls prog 21 #[.pointer (some (at0 a)),int i64 (i:Int)] w fun e w'=>∃f,e= .returned (int i64 0)/\Qp F f w w'∧
   Ql w' a (M.set i ⟨{m.d with dead:=false,lasts:=[],waits:=[]},i64.wrap (m.births+1)⟩) left down f:=by
 refine(F21_calls (some (at0 a)) (i:Int) w (fun v w'=>∃f,v=int i64 0/\Qp F f w w'∧
   Ql w' a (M.set i ⟨{m.d with dead:=false,lasts:=[],waits:=[]},i64.wrap (m.births+1)⟩) left down f) ?_).mono (by rintro e w' ⟨v,rfl,f,rfl,h⟩;exact⟨f,rfl,h⟩)
 have j:i<M.length:=(Zd.1 hi).1;refine(QW h (i:Int)).mono ?_;rintro e H ⟨rfl,rfl⟩;obtain⟨ap,cm,b,Fi,p,_,q,I,r,_,g⟩:=h.at hi;refine⟨_,rfl,Q0 (fun t=>by simp at t;omega) fun _=>⟨_,_,_,p,⟨by omega,by omega⟩,_,by rw[Ze];exact q,?_⟩⟩;refine(Qlf r).mono ?_;rintro e u ⟨rfl,hs,k⟩;obtain⟨F2,x,y⟩:=g _ _ _ hs k;obtain⟨z,A,n,B,C,D⟩:=x.born (i:=i) (m:={m with d:={m.d with dead:=false,lasts:=[],waits:=[]}}) (List.getElem?_set_self j);rw[List.length_set]at n;rw[Ze];refine⟨rfl,_,_,_,n,⟨by omega,by omega⟩,_,B,⟨by omega,by omega⟩,C,fun E l=> ?_⟩;obtain⟨o,G⟩:=D _ _ l;rw[List.set_set]at o;exact⟨F2,rfl,y.trans G,o⟩
theorem QC8(h:Ql w a M left down F){i:Nat}{m:Mem}(hi:M[i]? =some m)(k t:Int)(y:UInt8)(ht: -9223372036854775808<=t/\t<=9223372036854775807):
  Calls prog 22 #[.pointer (some (at0 a)),int i64 (i:Int),int i64 k,int i64 t, .int .u8 (y.toNat:Int)] w fun e w'=>∃f,e= .returned (int i64 (QC m.d k))/\Qp F f w w'∧
   Ql w' a (M.set i {m with d:=Qf m.d k t y}) left down f:=by
 refine(F22_calls (some (at0 a)) (i:Int) k t (y.toNat:Int) w (fun v w'=>∃f,v=int i64 (QC m.d k)/\Qp F f w w'∧
   Ql w' a (M.set i {m with d:=Qf m.d k t y}) left down f) ?_).mono (by rintro e w' ⟨v,rfl,f,rfl,h⟩;exact⟨f,rfl,h⟩)
 have l:i<M.length:=(Zd.1 hi).1;refine(QW h (i:Int)).mono ?_;rintro e z ⟨rfl,rfl⟩;obtain⟨ap,cm,b,Fi,n,_,o,A,p,_,g⟩:=h.at hi;refine⟨_,rfl,Q0 (fun q=>by simp at q;omega) fun _=>⟨_,_,_,n,⟨by omega,by omega⟩,_,by rw[Ze];exact o,?_⟩⟩;refine(Qjf p k t y ht).mono ?_;rintro e r ⟨f,rfl,hs,j⟩;obtain⟨F2,u,x⟩:=g _ _ _ hs j;exact⟨_,rfl,F2,rfl,x,u⟩
theorem Q4b(h:Ql w a M left down F){i:Nat}{m:Mem}(hi:M[i]? =some m):
  Calls prog 26 #[.pointer (some (at0 a)),int i64 (i:Int)] w fun e w'=>∃p l c,e= .returned (.slice p l c)/\Ext w w'/\QV0 w' w.heap.size p l c m.d.lasts:=by
 refine(F26_calls (some (at0 a)) (i:Int) w (fun v w'=>∃p l c,v= .slice p l c/\Ext w w'/\QV0 w' w.heap.size p l c m.d.lasts) ?_).mono (by rintro e w' ⟨v,rfl,p,l,c,rfl,h⟩;exact⟨p,l,c,rfl,h⟩);have f:i<M.length:=(Zd.1 hi).1;refine(QW h (i:Int)).mono ?_;rintro e t ⟨rfl,rfl⟩;obtain⟨ap,cm,b,Fi,g,_,j,u,k,_,_⟩:=h.at hi;refine⟨_,rfl,Q0 (fun n=>by simp at n;omega) fun _=>⟨_,_,_,g,⟨by omega,by omega⟩,_,by rw[Ze];exact j,?_⟩⟩;refine(Qqj k).mono ?_;rintro e o ⟨p,l,c,rfl,q,_,r⟩;exact⟨_,_,_,rfl,p,l,c,rfl,q,r⟩
theorem Q6b(h:Ql w a M left down F){i:Nat}{m:Mem}(hi:M[i]? =some m):
  Calls prog 24 #[.pointer (some (at0 a)),int i64 (i:Int)] w fun e w'=>∃p l c,e= .returned (.slice p l c)/\Ext w w'/\QV0 w' w.heap.size p l c m.d.waits:=by
 refine(F24_calls (some (at0 a)) (i:Int) w (fun v w'=>∃p l c,v= .slice p l c/\Ext w w'/\QV0 w' w.heap.size p l c m.d.waits) ?_).mono (by rintro e w' ⟨v,rfl,p,l,c,rfl,h⟩;exact⟨p,l,c,rfl,h⟩);have f:i<M.length:=(Zd.1 hi).1;refine(QW h (i:Int)).mono ?_;rintro e t ⟨rfl,rfl⟩;obtain⟨ap,cm,b,Fi,g,_,j,u,k,_,_⟩:=h.at hi;refine⟨_,rfl,Q0 (fun n=>by simp at n;omega) fun _=>⟨_,_,_,g,⟨by omega,by omega⟩,_,by rw[Ze];exact j,?_⟩⟩;refine(Qrj k).mono ?_;rintro e o ⟨p,l,c,rfl,q,_,r⟩;exact⟨_,_,_,rfl,p,l,c,rfl,q,r⟩
theorem QD9(h:Ql w a M left false F){i:Int}(hi:¬(0<=i/\i<M.length))(k:Int):Calls prog 61 #[.pointer (some (at0 a)),int i64 i,int i64 k] w fun e w'=>e= .returned (.tuple #[.slice none 0 0,int i64 1])/\w'=w:=by
 refine(F61_calls (some (at0 a)) i k w (fun v w'=>v= .tuple #[.slice none 0 0,int i64 1]/\w'=w) ?_).mono (by rintro e w' ⟨v,rfl,rfl,h⟩;exact⟨rfl,h⟩);refine(Qp1 h).mono ?_;rintro e f ⟨rfl,rfl⟩;refine⟨_,rfl,Q0 (fun h=>by cases h) fun _=>(QW h i).mono ?_⟩;rintro e g ⟨rfl,rfl⟩;exact⟨_,rfl,Q0 (fun _=>⟨rfl,rfl⟩) fun d=>by simp only[Zf,Za]at d;exact absurd d hi⟩
theorem Qi4(h:Ql w a M left true F)(i k:Int)(p:σ)(l c:Nat):Calls prog 69 #[.pointer (some (at0 a)),int i64 i,int i64 k, .slice p l c] w fun e w'=>e= .returned (int i64 130)/\w'=w:=by
 refine(F69_calls (some (at0 a)) i k p l c w (fun v w'=>v=int i64 130/\w'=w) ?_).mono (by rintro e w' ⟨v,rfl,rfl,h⟩;exact⟨rfl,h⟩);refine(Qp1 h).mono ?_;rintro e d ⟨rfl,rfl⟩;exact⟨_,rfl,Q0 (fun _=>⟨rfl,rfl⟩) fun h=>by cases h⟩
def Qq0(i:Nat)(M:List Mem):List Mem:=M.mapIdx fun j m=>if j<i then{m with d:=QB1 m.d}else m
theorem Qp5(i:Nat)(M:List Mem):(Qq0 i M).length=M.length:=by simp[Qq0]
theorem QFf{i:Nat}{M:List Mem}{m:Mem}(h:M[i]? =some m):(Qq0 i M)[i]? =some m:=by simp[Qq0,h]
theorem QRd{i:Nat}{M:List Mem}{m:Mem}(h:M[i]? =some m):(Qq0 i M).set i {m with d:=QB1 m.d}=Qq0 (i+1) M:=by
 apply List.ext_getElem?;intro j;rw[List.getElem?_set]
 by_cases e:i=j
 ·subst e
  have k:i<M.length:=(Zd.1 h).1;have f:M[i]=m:=(Zd.1 h).2;subst f;simp[Qq0,k]
 ·rw[if_neg e]
  simp only[Qq0,List.getElem?_mapIdx];cases M[j]? with
  |none=>rfl
  |some mj=>
   simp only[Option.map_some,Zi]
   by_cases g:j<i
   ·rw[if_pos g,if_pos (by omega)]
   ·rw[if_neg g,if_neg (by omega)]
theorem Q2b(h:Ql w a M left true F):Calls prog 86 #[.pointer (some (at0 a))] w fun e w'=>e= .returned (int i64 130)/\w'=w:=by
 obtain⟨f,c4,d⟩:=h.row;refine(F86_calls (some (at0 a)) w (fun v w'=>v=int i64 130/\w'=w) (fun _ _ _ _ _ _ _=>False) (fun _ _ _ _ _ _ _=>0) ?_).mono (by rintro e w' ⟨v,rfl,rfl,h⟩;exact⟨rfl,h⟩);exact Q0 (fun h=>by cases h) fun _=>⟨_,d.c rfl,Q0 (fun _=>⟨rfl,rfl⟩) fun h=>by cases h⟩
theorem Q3b(h:Ql w a M left false F)(hM:M.length<=100):Calls prog 86 #[.pointer (some (at0 a))] w fun e w'=>∃f,e= .returned (int i64 0)/\Qp F f w w'/\Ql w' a (Qq0 M.length M) left false f:=by
 obtain⟨R,c4,G⟩:=h.row
 refine(F86_calls (some (at0 a)) w (fun v w'=>∃f,v=int i64 0/\Qp F f w w'/\Ql w' a (Qq0 M.length M) left false f)
  (fun _ _ _ _ _ E d=>∃(i:Nat)(f:Nat->Prop),E=i/\i<=M.length/\Qp F f w d/\Ql d a (Qq0 i M) left false f/\RowW d a #[.slice R M.length c4,int i64 left, .bool false]) (fun _ _ _ _ _ E _=>100-E.toNat) ?_).mono (by
   rintro e w' ⟨v,rfl,f,rfl,h⟩;exact⟨f,rfl,h⟩)
 have k:Qq0 0 M=M:=by
  apply List.ext_getElem?;intro j;simp[Qq0]
 refine Q0 (fun h=>by cases h) fun _=>⟨_,G.c rfl,Q0 (fun h=>by cases h) fun _=>⟨_,_,_,G.c rfl,⟨0,F,rfl,Nat.zero_le _,Qp.refl _ _,by rw[k];exact h,G⟩,?_⟩⟩;rintro E d ⟨i,f,rfl,hi,p,q,r10⟩
 intros
 refine Q0 (fun r=> ?_) (fun H=> ?_)
 ·simp only[Za]at r
  obtain⟨m,S⟩:∃m,M[i]? =some m:=⟨M[i]'(by omega),Zc _⟩;have I:=QFf S;have t:RowW d a #[.slice R (Qq0 i M).length c4,int i64 left, .bool false]:=by rw[Qp5];exact r10
  obtain⟨ap,b,Fi,rfl,U,V,W,J,l⟩:=q.entry t I;rw[Ze];refine⟨⟨by omega,r⟩,_,U,_,V,fun o u K=> ?_⟩;have x:d.heap.size<=o:=by rw[K.size.1];exact Nat.le_refl _
  have y:RowW u o _:=⟨_,K.at⟩;refine⟨y.live (n:=0) (by simp),fun L N=> ?_⟩;have g:Qt u ((at0 o).add 0) (.pointer (some (at0 b))) L:=N;have z:=g.row y;have O:=Qf0 K.ext x g;refine⟨z.live (by simp),fun X A=> ?_⟩;have P:=A.row z;have B:=Qf0 O x A;refine⟨some (at0 b),P.c rfl,?_⟩;refine(Qpj (W.ext B)).mono ?_;rintro e C ⟨rfl,hs,Q⟩;have D:Qp Fi Fi d C:=(Qp.ext B).trans hs;obtain⟨F2,T,Y⟩:=l C _ _ D Q;rw[QRd S]at T;rw[w64 (by omega)];exact⟨_,rfl,⟨i+1,F2,by omega,by omega,p.trans Y,T,D.upd.rowW r10 fun Z=>(J a Z).2 rfl⟩,by show 100-((i:Int)+1).toNat<100-(i:Int).toNat;omega⟩
 ·simp only[Zb]at H
  have:i=M.length:=by omega
  subst this;exact⟨f,rfl,p,q⟩
end
open Go Go.Vc Go.ChangeShapes Go.WideShapes Go.ChangeAt Go.RowKit
open Go.IntKind (i64)
open Go.Value (int)
open Go.Proofs.Tryz (prog)
theorem QJk:ownKnob Tryz.prog.godebug=none:=by kernel_rfl
theorem QEj:laidOutB prog=true:=by kernel_rfl
theorem Q65{H:Type}{enc:TypeId×Value->H}{P:Program}(i:laidOutB P=true){W j:World}(hb:RowKit.Below W.heap.size W j):
  ∀{ts:List TypeId}{vs:List Value}{ds:List (DataW H)}{ps:List MemPlace},(ts.all fun t=>P.readableRec t&&decide (t<P.types.size))=true->(∀x∈ps,x.block<W.heap.size)→
   DataW.TrodAll enc P W 0 (fun _=>true) true ts vs ds ps->DataW.TrodAll enc P j 0 (fun b=>decide (b<W.heap.size)) true ts vs ds ps
 | [],[],[],_,_,_,h=>h
 |t::ts,v::vs,d::ds,_,f,e,h=>by
  obtain⟨p,q,k,l,rfl⟩:=h;simp only[List.all_cons,Bool.and_eq_true,Za]at f;exact⟨p,q,Below.trod i f.1.1 f.1.2 k hb fun x g=>e x (by simp[g]),Q65 i hb f.2 (fun x g=>e x (by simp[g])) l,rfl⟩
 | [],_::_,_,_,_,_,h=>h.elim
 | [],[],_::_,_,_,_,h=>h.elim
 |_::_,[],_,_,_,_,h=>h.elim
 |_::_,_::_,[],_,_,_,h=>h.elim
theorem Qng{H:Type}{enc:TypeId×Value->H}{P:Program}(o:laidOutB P=true){f:Func}{s:ChangeSpec}{W l:World}{args:Array Value}{ds:List (DataW H)}{before:List MemPlace}{tb:TypeId}
  (d:s.vars=[]) (r:(f.params.toList.all fun t=>P.readableRec t&&decide (t<P.types.size))=true) (g:f.resultTypes= #[tb]) (j:P.underlying tb=some .bool)
  (m:DataW.Whole enc P f.params.toList s.vars false W args.toList ds [] before) (e:s.fn H (ds++ [])={results:=[.lit (.bool true)],args:=ds}) (hb:RowKit.Below W.heap.size W l):
  s.post enc P f false true false false W args (.bool true) l:=by
 have i:=m;obtain⟨p,q,u,n,rfl,v,y⟩:=m;rw[d]at n;obtain⟨_,rfl⟩:=trodVars_none n;have k:∀x∈p,x.block<W.heap.size:=fun x z=>i.lt x (by simp[z]);refine⟨ds,[],p++ [],[],p,[],i,?_,?_,?_,hb.frame _,fun h=>by cases h⟩
 ·rw[e,g]
  exact trodAll_cons_mk (shut_bool j _) trodAll_mk0
 ·rw[e]
  exact Q65 o hb r k u
 ·rw[e,d]
  rfl
open Go Go.Vc
open Go.IntKind (i64)
open Go.Value (int)
open Go.Proofs.Tryz (prog)
theorem QM0{w w':World}{a:Addr}{v:Value}(h:w.cell? a=some v)(d:Ext w w'):w'.cell? a=some v:=Qm6 h d id
structure QB4 where
 kind:Int
 d:Int
 n:Int
 m:Int
 y:UInt8
 b:τ
 keep:List (List Int)
structure Qc5(w:World)(a:Addr)(c:QB4)(p5:σ)(l5 c5:Nat)(p6:σ)(l6 c6:Nat):Prop where
 kind:w.cell? a=some (int i64 c.kind)
 d:w.cell? (a.add 1)=some (int i64 c.d)
 n:w.cell? (a.add 2)=some (int i64 c.n)
 m:w.cell? (a.add 3)=some (int i64 c.m)
 y:w.cell? (a.add 4)=some (.int .u8 (c.y.toNat:Int))
 b:w.cell? (a.add 5)=some (.slice p5 l5 c5)
 bytes:Q1 w p5 l5 c.b
 keep:w.cell? (a.add 6)=some (.slice p6 l6 c6)
 ints:l6=c.keep.length/\∀i ks,c.keep[i]? =some ks->∃a q n c,p6=some a/\w.cell? (a.add (i*1))=some (.slice q n c)/\QV w q n ks
 nr: -9223372036854775808<=c.n/\c.n<=9223372036854775807
 mr: -9223372036854775808<=c.m/\c.m<=9223372036854775807
def QC4(w:World)(p:σ)(l:Nat)(L:List QB4):Prop:=
 l=L.length/\∀i c,L[i]? =some c->∃a p5 l5 c5 p6 l6 c6,p=some a/\Qc5 w (a.add (i*7)) c p5 l5 c5 p6 l6 c6
theorem Qc5.ext{w w':World}{a:Addr}{c:QB4}{f:σ}{g c5:Nat}{j:σ}{k l:Nat}(h:Qc5 w a c f g c5 j k l)(e:Ext w w'):Qc5 w' a c f g c5 j k l:=
 ⟨QM0 h.kind e,QM0 h.d e,QM0 h.n e,QM0 h.m e,QM0 h.y e,QM0 h.b e,h.bytes.ext e,QM0 h.keep e,⟨h.ints.1,fun i ks hi=>by
  obtain⟨a,q,n,c,p,r,o⟩:=h.ints.2 i ks hi
  exact⟨a,q,n,c,p,QM0 r e,o.1,o.2.ext e⟩⟩,h.nr,h.mr⟩
theorem QC4.ext{w w':World}{p:σ}{l:Nat}{L:List QB4}(h:QC4 w p l L)(d:Ext w w'):QC4 w' p l L:=
 ⟨h.1,fun i c hi=>by
  obtain⟨a,e,f,c5,g,j,k,m,n⟩:=h.2 i c hi
  exact⟨a,e,f,c5,g,j,k,m,n.ext d⟩⟩
structure QKe(w w0:World)(a:Addr)(c:QB4)(p5:σ)(l5 c5:Nat)(p6:σ)(l6 c6:Nat):Prop where
 kind:w.cell? a=some (int i64 c.kind)
 d:w.cell? (a.add 1)=some (int i64 c.d)
 n:w.cell? (a.add 2)=some (int i64 c.n)
 m:w.cell? (a.add 3)=some (int i64 c.m)
 y:w.cell? (a.add 4)=some (.int .u8 (c.y.toNat:Int))
 b:w.cell? (a.add 5)=some (.slice p5 l5 c5)
 bytes:Q1 w0 p5 l5 c.b
 keep:w.cell? (a.add 6)=some (.slice p6 l6 c6)
 ints:l6=c.keep.length/\∀i ks,c.keep[i]? =some ks->∃a q n c,p6=some a/\w0.cell? (a.add (i*1))=some (.slice q n c)/\QV w0 q n ks
 nr: -9223372036854775808<=c.n/\c.n<=9223372036854775807
 mr: -9223372036854775808<=c.m/\c.m<=9223372036854775807
def Qdj(w w0:World)(p:σ)(l:Nat)(L:List QB4):Prop:=
 l=L.length/\∀i c,L[i]? =some c->∃a p5 l5 c5 p6 l6 c6,p=some a/\QKe w w0 (a.add (i*7)) c p5 l5 c5 p6 l6 c6
theorem QC4.two{w w0:World}{p:σ}{l:Nat}{L:List QB4}(h:QC4 w0 p l L)(e:Ext w0 w):Qdj w w0 p l L:=
 ⟨h.1,fun i c hi=>by
  obtain⟨a,f,j,c5,k,o,q,r,g⟩:=h.2 i c hi
  exact⟨a,f,j,c5,k,o,q,r,QM0 g.kind e,QM0 g.d e,QM0 g.n e,QM0 g.m e,QM0 g.y e,QM0 g.b e,g.bytes,QM0 g.keep e,g.ints,g.nr,g.mr⟩⟩
theorem QKe.now{w w0 w':World}{S:Nat->Prop}{a:Addr}{c:QB4}{f:σ}{g c5:Nat}{l:σ}{o p:Nat}(h:QKe w w0 a c f g c5 l o p)(r:Upd S w w')(hS:¬S a.block)(e:Ext w0 w'):
  Qc5 w' a c f g c5 l o p:=
 have k:∀(j:Nat)(v:Value),w.cell? (a.add j)=some v->w'.cell? (a.add j)=some v:=fun j v u=>Qm6 u r (by rw[Qx];exact hS)
 ⟨Qm6 h.kind r hS,k 1 _ h.d,k 2 _ h.n,k 3 _ h.m,k 4 _ h.y,k 5 _ h.b,h.bytes.ext e,k 6 _ h.keep,⟨h.ints.1,fun i ks hi=>by
  obtain⟨a,q,n,c,x,z,t⟩:=h.ints.2 i ks hi
  exact⟨a,q,n,c,x,QM0 z e,t.1,t.2.ext e⟩⟩,h.nr,h.mr⟩
structure StA where
 M:List Mem
 left:Int
 down:Bool
def Q40(s:StA)(d:Int)(f:Mem->Mem):StA:=match s.M[d.toNat]? with
 |some m=>if 0<=d then{s with M:=s.M.set d.toNat (f m)}else s
 |none=>s
def Q70(s:StA)(d n:Int)(b:τ):StA:=
 if s.down then s else if 0<=d then match s.M[d.toNat]? with
  |some m=>⟨s.M.set d.toNat {m with d:=QT m.d n b},if Qs m.d n b.length=0/\0<s.left then s.left-1 else s.left,decide (Qs m.d n b.length=0/\s.left=1)⟩
  |none=>s
 else s
def QQ1(s:StA)(c:QB4):StA:=
 if c.kind=1 then Q70 s c.d c.n c.b
 else if c.kind=3 then(if s.down then s else{s with M:=Qq0 s.M.length s.M})
 else if c.kind=4 then(if s.down then s else⟨s.M,if c.n< -1 then-1 else c.n,decide (c.n=0)⟩)
 else if c.kind=5 then⟨QA0 c.keep s.M.length s.M,-1,false⟩
 else if c.kind=6 then Q40 s c.d fun m=>⟨{m.d with dead:=true,lasts:=[],waits:=[]},i64.wrap (m.births+1)⟩
 else if c.kind=7 then Q40 s c.d fun m=>⟨{m.d with dead:=false,lasts:=[],waits:=[]},i64.wrap (m.births+1)⟩
 else if c.kind=8 then Q40 s c.d fun m=>{m with d:=Qf m.d c.n c.m c.y}
 else s
open Go Go.Vc
open Go.IntKind (i64)
open Go.Value (int)
open Go.Proofs.Tryz (prog)
def IsA(w:World)(a:Nat)(s:StA)(F:Nat->Prop):Prop:=Ql w a s.M s.left s.down F
def OkA(s:StA):Prop:=s.M.length<=32/\ -1<=s.left/\s.left<=9223372036854775807
theorem Qj1{M:List Mem}{d:Int}(h:0<=d/\d<M.length):∃(i:Nat)(m:Mem),d=i/\M[i]? =some m:=by
 refine⟨d.toNat,M[d.toNat]'(by omega),by omega,Zc _⟩
section
variable {w:World}{a:Nat}{s:StA}{F:Nat->Prop}
theorem Qw3{d:Int}{i:Nat}{m:Mem}(f:Mem->Mem)(e:d=i)(g:s.M[i]? =some m):Q40 s d f={s with M:=s.M.set i (f m)}:=by
 subst e;unfold Q40;rw[Ze,g];simp
theorem Qr1{d:Int}(f:Mem->Mem)(h:¬(0<=d/\d<s.M.length)):Q40 s d f=s:=by
 unfold Q40
 split
 ·rename_i m e
  have:=(Zd.1 e).1;rw[if_neg (by omega)]
 ·rfl
theorem Q3c(h:IsA w a s F)(d:Int):Calls prog 21 #[.pointer (some (at0 a)),int i64 d] w fun e w'=>∃f z,e= .returned (int i64 z)/\Qp F f w w'∧
  IsA w' a (Q40 s d fun m=>⟨{m.d with dead:=false,lasts:=[],waits:=[]},i64.wrap (m.births+1)⟩) f:=by
 by_cases g:0<=d/\d<s.M.length
 ·obtain⟨i,m,rfl,j⟩:=Qj1 g
  refine(QG4 h j).mono ?_;rintro e w' ⟨f,rfl,hs,k⟩;exact⟨f,_,rfl,hs,by rw[Qw3 _ rfl j];exact k⟩
 ·refine(QK5 h g).mono ?_
  rintro e w' ⟨rfl,rfl⟩;exact⟨F,_,rfl,Qp.refl _ _,by rw[Qr1 _ g];exact h⟩
end
open Go Go.Vc
open Go.IntKind (i64)
open Go.Value (int)
open Go.Proofs.Tryz (prog)
theorem QHd{w:World}{p:σ}{l c:Nat}{bs:τ}(h:Q1 w p l bs){a b:Nat}(hb:b<=l)(ha:a<=b)(m:l<=c):
  Q1 w (QT0 p c a 1) (b-a) ((bs.take b).drop a):=by
 have f:=h.1;refine⟨by simp;omega,fun d=> ?_⟩;have g:a<b:=by
  rcases Nat.lt_or_ge a b with e|e
  ·exact e
  ·exact(d (Zk (by simp;omega))).elim
 obtain⟨x,rfl,j⟩:=h.2 (by rintro rfl;simp at f;omega);unfold QT0;rw[if_neg (by omega)];refine⟨_,rfl,fun i hi=> ?_⟩;have k:i<b-a:=by simp at hi;omega
 rw[Nat.mul_one,QB,j (a+i) (by omega)]
 congr 4
 simp only[Zj,List.getElem?_drop,List.getElem?_take];rw[if_pos (by omega)]
def sh(x:Int)(n:Int):Int:=x.fdiv (2^(min n.toNat IntKind.u32.bits))
def Q01(x:Int):Int:=QO .xor .u32 (x.fdiv (2^(min (1:Int).toNat IntKind.u32.bits))) (QO .and .u32 (2197175160:Int) (IntKind.u32.wrap (0-(QO .and .u32 x (1:Int)))))
def QX0:Nat->Int->Int
 |0,x=>x
 |n+1,x=>Q01 (QX0 n x)
def Qb1(x:Int)(b:UInt8):Int:=
 if QO .and .u32 (QO .xor .u32 x (IntKind.u32.wrap (b.toNat:Int))) (255:Int)=0 then(QO .xor .u32 x (IntKind.u32.wrap (b.toNat:Int))).fdiv (2^(min (8:Int).toNat IntKind.u32.bits))
 else QX0 8 (QO .xor .u32 x (IntKind.u32.wrap (b.toNat:Int)))
theorem QR6{x:Int}{b:UInt8}(h:QO .and .u32 (QO .xor .u32 x (IntKind.u32.wrap (b.toNat:Int))) (255:Int)=0):
  Qb1 x b=(QO .xor .u32 x (IntKind.u32.wrap (b.toNat:Int))).fdiv (2^(min (8:Int).toNat IntKind.u32.bits)):=if_pos h
theorem QQ6{x:Int}{b:UInt8}(h:QO .and .u32 (QO .xor .u32 x (IntKind.u32.wrap (b.toNat:Int))) (255:Int)≠0):
  Qb1 x b=QX0 8 (QO .xor .u32 x (IntKind.u32.wrap (b.toNat:Int))):=if_neg h
def QN5(x:Int):Int:=QO .xor .u32 (if IntKind.u32.signed then-1 else IntKind.u32.max) x
def QGd(x:Int)(bs:τ):Int:=QN5 (bs.foldl Qb1 (QN5 x))
def QM7(bs:τ):Int:=QGd 0 bs
theorem QB7(n:Int):0<=IntKind.u32.wrap n/\IntKind.u32.wrap n<4294967296:=by rw[IntKind.wrap_u32'];omega
theorem QF3(bs:τ):0<=QM7 bs/\QM7 bs<4294967296:=QB7 _
theorem Qy1{α:Type}(f:α->UInt8->α)(x:α)(bs:τ){i:Nat}(hi:i<bs.length):
  (bs.take (i+1)).foldl f x=f ((bs.take i).foldl f x) (bs.getD i 0):=by
 rw[Zn,Zc hi,List.foldl_append];simp[Zj,Zc hi]
theorem Qbg(x:Int){p:σ}{l c:Nat}{w:World}{bs:τ}(h:Q1 w p l bs)(q:l<=4611686018427387904):
  Calls prog 135 #[.int .u32 x, .slice p l c] w fun e w'=>e= .returned (.int .u32 (QGd x bs))/\w'=w:=by
 have r:=h.1
 refine(F135_calls x p l c w (fun v w'=>v= .int .u32 (QGd x bs)/\w'=w)
  (fun _ _ _ _ _ n7 d o=>0<=d/\d<=l/\o=w/\n7=(bs.take d.toNat).foldl Qb1 (QN5 x)) (fun _ _ _ _ _ _ d _=>(l-d).toNat)
  (fun _ _ _ _ d _ j f k=>0<=f/\f<=8/\k=w/\0<=d/\d<l/\j=QX0 f.toNat (QO .xor .u32 ((bs.take d.toNat).foldl Qb1 (QN5 x)) (IntKind.u32.wrap ((bs.getD d.toNat 0).toNat:Int)))∧
   QO .and .u32 (QO .xor .u32 ((bs.take d.toNat).foldl Qb1 (QN5 x)) (IntKind.u32.wrap ((bs.getD d.toNat 0).toNat:Int))) (255:Int)≠0)
  (fun _ _ _ _ _ _ _ f _=>(8-f).toNat) ?_).mono (by rintro e w' ⟨v,rfl,rfl,h⟩;exact⟨rfl,h⟩)
 refine⟨⟨by omega,by omega,rfl,rfl⟩,?_⟩;rintro n7 d o ⟨m,t,rfl,rfl⟩
 intros
 refine Q0 (fun ht=> ?_) (fun ht=> ?_)
 ·simp only[Za]at ht
  obtain⟨a,rfl,ha⟩:=h.get (i:=d.toNat) (by omega);refine⟨⟨m,ht⟩,_,by rw[Nat.mul_one];exact ha,Q0 (fun g=> ?_) (fun g=> ?_)⟩
  ·simp only[Za]at g
   refine⟨by omega,?_⟩;rw[w64 (n:=d+1) (by omega)];refine⟨⟨by omega,by omega,rfl,?_⟩,by show((l:Int)-(d+1)).toNat<((l:Int)-d).toNat;omega⟩;rw[show(d+1).toNat=d.toNat+1 by omega,Qy1 _ _ _ (by omega)];exact(QR6 g).symm
  ·simp only[Zb]at g
   refine⟨⟨by omega,by omega,rfl,m,ht,rfl,g⟩,?_⟩;rintro j f k ⟨u,y,rfl,_,_,rfl,_⟩
   intros
   refine Q0 (fun hs=> ?_) (fun hs=> ?_)
   ·simp only[Za]at hs
    refine⟨by omega,?_⟩;rw[w64 (n:=f+1) (by omega)];refine⟨⟨by omega,by omega,rfl,m,ht,?_,g⟩,by show((8:Int)-(f+1)).toNat<((8:Int)-f).toNat;omega⟩;rw[show(f+1).toNat=f.toNat+1 by omega]
    rfl
   ·simp only[Zb]at hs
    rw[w64 (n:=d+1) (by omega)];refine⟨⟨by omega,by omega,rfl,?_⟩,by show((l:Int)-(d+1)).toNat<((l:Int)-d).toNat;omega⟩;rw[show(d+1).toNat=d.toNat+1 by omega,Qy1 _ _ _ (by omega)];rw[QQ6 g,show f.toNat=8 by omega]
 ·simp only[Zb]at ht
  refine⟨?_,rfl⟩;rw[show d.toNat=bs.length by omega,List.take_length]
  rfl
theorem Qdd{p:σ}{l c:Nat}{w:World}{bs:τ}(h:Q1 w p l bs)(d:l<=4611686018427387904):
  Calls prog 99 #[.slice p l c] w fun e w'=>e= .returned (.int .u32 (QM7 bs))/\w'=w:=by
 refine(F99_calls p l c w (fun v w'=>v= .int .u32 (QM7 bs)/\w'=w) ?_).mono (by rintro e w' ⟨v,rfl,rfl,h⟩;exact⟨rfl,h⟩);refine(Qbg 0 h d).mono ?_;rintro e w' ⟨rfl,rfl⟩;exact⟨_,rfl,rfl,rfl⟩
def Q69(n:Int)(b:UInt8):Int:=QO .or .u32 (IntKind.u32.wrap (n*2^(min (8:Int).toNat IntKind.u32.bits))) (IntKind.u32.wrap (b.toNat:Int))
def Qfa(bs:τ):Int:=bs.foldl Q69 0
theorem Qu4{p:σ}{l c:Nat}{w:World}{bs:τ}(h:Q1 w p l bs)(f:l<=4611686018427387904):
  Calls prog 98 #[.slice p l c] w fun e w'=>e= .returned (.int .u32 (Qfa bs))/\w'=w:=by
 have g:=h.1
 refine(F98_calls p l c w (fun v w'=>v= .int .u32 (Qfa bs)/\w'=w)
  (fun _ _ _ _ _ n6 n7 w8=>0<=n7/\n7<=l/\w8=w/\n6=(bs.take n7.toNat).foldl Q69 0) (fun _ _ _ _ _ _ n7 _=>(l-n7).toNat) ?_).mono (by rintro e w' ⟨v,rfl,rfl,h⟩;exact⟨rfl,h⟩)
 refine⟨⟨by omega,by omega,rfl,rfl⟩,?_⟩;rintro n6 n7 w8 ⟨d,j,rfl,rfl⟩
 intros
 refine Q0 (fun ht=> ?_) (fun ht=> ?_)
 ·simp only[Za]at ht
  obtain⟨a,rfl,ha⟩:=h.get (i:=n7.toNat) (by omega);refine⟨⟨d,ht⟩,_,by rw[Nat.mul_one];exact ha,by omega,?_⟩;rw[w64 (n:=n7+1) (by omega)];refine⟨⟨by omega,by omega,rfl,?_⟩,by show((l:Int)-(n7+1)).toNat<((l:Int)-n7).toNat;omega⟩;rw[show(n7+1).toNat=n7.toNat+1 by omega,Qy1 _ _ _ (by omega)]
  rfl
 ·simp only[Zb]at ht
  refine⟨?_,rfl⟩;rw[show n7.toNat=bs.length by omega,List.take_length]
  rfl
theorem u8b(b:UInt8):b.toNat<256:=UInt8.toNat_lt b
theorem QO3{n:Int}(f:0<=n)(g:n<16777216)(b:UInt8):Q69 n b=n*256+(b.toNat:Int):=by
 have hb:=u8b b;unfold Q69;have d:IntKind.u32.wrap (n*2^(min (8:Int).toNat IntKind.u32.bits))=((n.toNat<<<8:Nat):Int):=by
  have:(2:Int)^(min (8:Int).toNat IntKind.u32.bits)=256:=rfl;rw[this,IntKind.wrap_u32',Nat.shiftLeft_eq];omega
 have e:IntKind.u32.wrap (b.toNat:Int)=(b.toNat:Int):=by rw[IntKind.wrap_u32'];omega
 rw[d,e];show IntKind.u32.wrap (((BitVec.ofInt 32 ((n.toNat<<<8:Nat):Int))|||(BitVec.ofInt 32 (b.toNat:Int))).toNat:Int)=_
 have hs:n.toNat<<<8=n.toNat*256:=by rw[Nat.shiftLeft_eq]
 rw[BitVec.toNat_or,ofInt_u32 _ (by omega),ofInt_u32 _ (by omega),←Nat.shiftLeft_add_eq_or_of_lt (by omega:b.toNat<2^8),IntKind.wrap_u32',hs];omega
theorem QJl(a b c d:UInt8):Qfa [a,b,c,d]=((a.toNat*256+b.toNat)*256+c.toNat)*256+d.toNat:=by
 have ha:=u8b a;have hb:=u8b b;have e:=u8b c;simp only[Qfa,List.foldl_cons,List.foldl_nil]
 rw[QO3 (n:=0) (by omega) (by omega) a,QO3 (n:=0*256+(a.toNat:Int)) (by omega) (by omega) b,QO3 (n:=(0*256+(a.toNat:Int))*256+(b.toNat:Int)) (by omega) (by omega) c,
  QO3 (n:=((0*256+(a.toNat:Int))*256+(b.toNat:Int))*256+(c.toNat:Int)) (by omega) (by omega) d]
 omega
def Q50(x:Int):τ:=[UInt8.ofNat (x.toNat/16777216),UInt8.ofNat (x.toNat/65536),UInt8.ofNat (x.toNat/256),UInt8.ofNat x.toNat]
theorem Qh1(x:Int):(Q50 x).length=4:=rfl
theorem QW4{x:Int}(d:0<=x)(e:x<4294967296):Qfa (Q50 x)=x:=by
 unfold Q50;rw[QJl];simp only[UInt8.toNat_ofNat'];omega
theorem QP8{bs:τ}(h:bs.length=4):0<=Qfa bs/\Qfa bs<4294967296/\Q50 (Qfa bs)=bs:=by
 match bs,h with
 | [a,b,c,d],_=>
  have ha:=u8b a;have hb:=u8b b;have f:=u8b c;have g:=u8b d;rw[QJl];refine⟨by omega,by omega,?_⟩;unfold Q50;have e:∀{n:Nat}{x:UInt8},n % 256=x.toNat->UInt8.ofNat n=x:=fun{n x} h=>UInt8.toNat_inj.1 (by rw[UInt8.toNat_ofNat'];exact h);rw[e (x:=a) (by omega),e (x:=b) (by omega),e (x:=c) (by omega),e (x:=d) (by omega)]
theorem Qm3{x:Int}(d:0<=x)(k:Nat):IntKind.u8.wrap (x.fdiv ((k:Nat):Int))=((UInt8.ofNat (x.toNat/k)).toNat:Int):=by
 rw[UInt8.toNat_ofNat'];have:IntKind.u8.wrap (x.fdiv ((k:Nat):Int))=x.fdiv ((k:Nat):Int) % 256:=by simp[IntKind.wrap,IntKind.bits,IntKind.signed]
 rw[this,Int.fdiv_eq_ediv_of_nonneg _ (by omega)];obtain⟨n,rfl⟩:=Int.eq_ofNat_of_zero_le d;simp
theorem QGf(x:Int)(f:0<=x)(w:World):Calls prog 107 #[.int .u32 x] w fun e w'=>e= .returned (.agg ((QE (Q50 x)).toArray))/\Ext w w':=by
 refine(F107_calls x w (fun v w'=>v= .agg ((QE (Q50 x)).toArray)/\Ext w w') ?_).mono (by rintro e w' ⟨v,rfl,rfl,h⟩;exact⟨rfl,h⟩);intro k t d;have l:RowW t k #[.int .u8 0, .int .u8 0, .int .u8 0, .int .u8 0]:=⟨_,d.at⟩;have g:(at0 k)=(at0 k).add 0:=(QJ k 0).symm;refine⟨by omega,by omega,by omega,by rw[g];exact l.live (by simp),fun u i=> ?_⟩;rw[g]at i;have m:=i.row l;refine⟨m.live (by simp),fun y n=> ?_⟩;have o:=n.row m;refine⟨o.live (by simp),fun z p=> ?_⟩;have r6:=p.row o;refine⟨r6.live (by simp),fun A q=> ?_⟩;have r7:=q.row r6;have B:Ext w u:=Qf0 d.ext (by rw[d.size.1];exact Nat.le_refl _) i;have C:Ext w y:=Qf0 B (by rw[d.size.1];exact Nat.le_refl _) n;have D:Ext w z:=Qf0 C (by rw[d.size.1];exact Nat.le_refl _) p;have E:Ext w A:=Qf0 D (by rw[d.size.1];exact Nat.le_refl _) q;refine⟨_,by rw[g];exact r7.c rfl,_,r7.c rfl,_,r7.c rfl,_,r7.c rfl,?_,E⟩;have b0:=Qm3 f 16777216;have G:=Qm3 f 65536;have H:=Qm3 f 256;have r:=Qm3 f 1;rw[Nat.div_one]at r;have j:IntKind.u8.wrap x=IntKind.u8.wrap (x.fdiv ((1:Nat):Int)):=by simp[Int.fdiv_one]
 show Value.agg #[.int .u8 (IntKind.u8.wrap (x.fdiv ((16777216:Nat):Int))), .int .u8 (IntKind.u8.wrap (x.fdiv ((65536:Nat):Int))), .int .u8 (IntKind.u8.wrap (x.fdiv ((256:Nat):Int))), .int .u8 (IntKind.u8.wrap x)]=_
 rw[b0,G,H,j,r]
 rfl
theorem QZ6(n:Int)(w:World):Calls prog 97 #[int i64 n] w fun e w'=>e= .returned (.bool (decide (0<=n/\n<=2147483647)))/\w'=w:=by
 refine(F97_calls n w (fun v w'=>v= .bool (decide (0<=n/\n<=2147483647))/\w'=w) ?_).mono (by rintro e w' ⟨v,rfl,rfl,h⟩;exact⟨rfl,h⟩);refine Q0 (fun h=>⟨?_,rfl⟩) (fun h=>⟨?_,rfl⟩)
 ·simp only[Za]at h
  congr 1
  simp[h]
 ·simp only[Zb]at h
  rw[decide_eq_false (fun d=>h d.1)]
open Go Go.Vc
open Go.IntKind (i64)
open Go.Value (int)
open Go.Proofs.Tryz (prog)
def QH0(n:Int):Prop:=0<=n/\n<=2147483647
instance (n:Int):Decidable (QH0 n):=inferInstanceAs (Decidable (_/\_))
def Qc3(addr:Int)(b:τ):Prop:=
 12<=b.length/\b.length<=4108/\QH0 addr/\Qfa (b.drop (b.length-4))=QM7 (b.take (b.length-4))/\Qfa (b.take 4)=addr/\Qfa ((b.take 8).drop 4)<=2147483647
instance (addr:Int) (b:τ):Decidable (Qc3 addr b):=inferInstanceAs (Decidable (_/\_/\_/\_/\_/\_))
def Q10(addr:Int)(b:τ):Option (Int×τ):=
 if Qc3 addr b then some (Qfa ((b.take 8).drop 4),(b.take (b.length-4)).drop 8)else none
def UnP(addr:Int)(bs:τ)(w:World)(v:Value)(w':World):Prop:=
 Ext w w'/\match Q10 addr bs with
 |none=>v= .tuple #[int i64 0, .slice none 0 0,int i64 110]
 |some (n,d)=>∃p c,v= .tuple #[int i64 n, .slice p d.length c,int i64 0]/\Q5 w' w.heap.size 5 1 p d.length c (QE d)
theorem UnP.bad{addr:Int}{bs:τ}{w w':World}(d:Ext w w')(h:¬Qc3 addr bs):UnP addr bs w (.tuple #[int i64 0, .slice none 0 0,int i64 110]) w':=by
 refine⟨d,?_⟩;unfold Q10;rw[if_neg h]
theorem Qnc(addr:Int){p:σ}{l c:Nat}{w:World}{bs:τ}(h:Q1 w p l bs)(L:l<=4611686018427387904)(k:l<=c):
  Calls prog 64 #[int i64 addr, .slice p l c] w fun e w'=>∃v,e= .returned v/\UnP addr bs w v w':=by
 refine F64_calls addr p l c w (fun v w'=>UnP addr bs w v w') ?_;have r:=h.1;rw[w64 (n:=(l:Int)-4) (by omega)];refine Q0 (fun t=> ?_) (fun t=> ?_)
 ·simp only[Za]at t
  exact UnP.bad (Upd.refl _ _) fun d=>by have:=d.1;omega
 simp only[Zb]at t;refine Q0 (fun u=> ?_) (fun u=> ?_)
 ·simp only[Za]at u
  exact UnP.bad (Upd.refl _ _) fun d=>by have:=d.2.1;omega
 simp only[Zb]at u;refine(QZ6 addr w).mono ?_;rintro e N ⟨rfl,rfl⟩;refine⟨_,rfl,Q0 (fun g=> ?_) (fun g=> ?_)⟩
 ·simp only[Zg,Zb]at g
  exact UnP.bad (Upd.refl _ _) fun d=>g d.2.2.1
 simp only[Zf,Za]at g;have D:((l:Int)-4).toNat=l-4:=by omega
 rw[D];refine⟨⟨by omega,by omega⟩,⟨by omega,by decide⟩,?_⟩;refine(Qu4 (QHd h (a:=4) (b:=8) (by omega) (by omega) k) (by omega)).mono ?_;rintro e E ⟨rfl,rfl⟩;refine⟨_,rfl,fun G H=>⟨⟨by omega,by omega⟩,⟨by omega,by omega⟩,?_⟩⟩;have j:Ext E G:=H.ext;have m:=h.ext j;have c1:=QHd m (c:=c) (a:=l-4) (b:=l) (Nat.le_refl _) (by omega) k;have I:bs.take l=bs:=by rw[r];exact List.take_length
 rw[I]at c1;refine(Qu4 c1 (by omega)).mono ?_;rintro e O ⟨rfl,rfl⟩;refine⟨_,rfl,?_⟩;have c2:=QHd m (c:=c) (a:=0) (b:=l-4) (by omega) (by omega) k;rw[List.drop_zero]at c2;refine(Qdd c2 (by omega)).mono ?_;rintro e P ⟨rfl,rfl⟩;refine⟨_,rfl,Q0 (fun o=> ?_) (fun o=> ?_)⟩
 ·simp only[Zg,Zb]at o
  exact UnP.bad j fun d=>o (by rw[r];exact d.2.2.2.1)
 simp only[Zf,Za]at o;have c3:=QHd m (c:=c) (a:=0) (b:=4) (by omega) (by omega) k;rw[List.drop_zero]at c3;refine⟨⟨by omega,by omega⟩,?_⟩;refine(Qu4 c3 (by omega)).mono ?_;rintro e Q ⟨rfl,rfl⟩;have eu:IntKind.u32.wrap addr=addr:=by rw[IntKind.wrap_u32'];have:=g.1;have:=g.2;omega
 rw[eu];refine⟨_,rfl,Q0 (fun q=> ?_) (fun q=> ?_)⟩
 ·simp only[Zg,Zb]at q
  exact UnP.bad j fun d=>q d.2.2.2.2.1
 simp only[Zf,Za]at q;refine Q0 (fun x=> ?_) (fun x=> ?_)
 ·simp only[Za]at x
  exact UnP.bad j fun d=>by have:=d.2.2.2.2.2;omega
 simp only[Zb]at x;refine⟨⟨by omega,by omega⟩,⟨by omega,by omega⟩,?_⟩;have c4:=QHd m (c:=c) (a:=8) (b:=l-4) (by omega) (by omega) k;obtain⟨a,rfl,_⟩:=m.get (i:=0) (by omega);refine(QH2 (c:=c-8) c4 (by omega) (fun y=>by unfold QT0 Qik at y;split at y<;>cases y)).mono ?_;rintro e w8 ⟨z,A,rfl,B,J,_⟩;have C:Qc3 addr bs:=⟨by omega,by omega,g,by rw[←r];exact o,q,by omega⟩;have K:=QP8 (bs:=(bs.take 8).drop 4) (by simp;omega);refine⟨_,_,_,rfl,j.trans B,?_⟩;unfold Q10;rw[if_pos C,w64 (by omega)];have f:((bs.take (bs.length-4)).drop 8).length=l-4-8:=by simp;omega
 refine⟨z,A,?_,?_⟩
 ·show Value.tuple _=Value.tuple #[int i64 (Qfa ((bs.take 8).drop 4)), .slice z ((bs.take (bs.length-4)).drop 8).length A,int i64 0]
  rw[f]
 ·show Q5 w8 _ _ 1 z ((bs.take (bs.length-4)).drop 8).length A (QE ((bs.take (bs.length-4)).drop 8))
  rw[f,←r];exact J.base_le j.size
def QO0(addr epoch:Int)(d:τ):τ:=Q50 addr++(Q50 epoch++d)
def QR(addr epoch:Int)(d:τ):τ:=QO0 addr epoch d++Q50 (QM7 (QO0 addr epoch d))
theorem QY4(addr epoch:Int)(d:τ):(QO0 addr epoch d).length=8+d.length:=by simp[QO0,Qh1];omega
theorem Qx3(addr epoch:Int)(d:τ):(QR addr epoch d).length=12+d.length:=by simp[QR,QY4,Qh1];omega
theorem Qmc{addr epoch:Int}{d:τ}(ha:QH0 addr)(e:QH0 epoch)(m:d.length<=4096):Q10 addr (QR addr epoch d)=some (epoch,d):=by
 have n:=Qx3 addr epoch d;have g:=QY4 addr epoch d;have h:(QR addr epoch d).take (8+d.length)=QO0 addr epoch d:=by
  unfold QR;rw[List.take_append_of_le_length (by omega),←g,List.take_length]
 have k:(QR addr epoch d).drop (8+d.length)=Q50 (QM7 (QO0 addr epoch d)):=by
  unfold QR;rw[←g,List.drop_left]
 have l:(QR addr epoch d).take 4=Q50 addr:=by
  unfold QR QO0;rw[List.append_assoc,List.take_append_of_le_length (by rw[Qh1];omega)]
  rfl
 have i:((QR addr epoch d).take 8).drop 4=Q50 epoch:=by
  have:(QR addr epoch d)=(Q50 addr++Q50 epoch)++(d++Q50 (QM7 (QO0 addr epoch d))):=by
   unfold QR;rw[show QO0 addr epoch d=Q50 addr++(Q50 epoch++d)from rfl];simp[List.append_assoc]
  rw[this,List.take_append_of_le_length (by simp[Qh1])]
  rfl
 have j:(QR addr epoch d).length-4=8+d.length:=by omega
 have f:=QF3 (QO0 addr epoch d);unfold Q10;rw[if_pos]
 ·rw[i,j,h,QW4 e.1 (by have:=e.2;omega)]
  congr 1
 ·refine⟨by omega,by omega,ha,?_,?_,?_⟩
  ·rw[j,h,k,QW4 f.1 f.2]
  ·rw[l,QW4 ha.1 (by have:=ha.2;omega)]
  ·rw[i,QW4 e.1 (by have:=e.2;omega)];exact e.2
def Q61(a:Nat)(xs bs:τ):τ:=bs.take a++(xs++bs.drop (a+xs.length))
theorem QZ4{a:Nat}{xs u v t:τ}(ha:u.length=a)(d:v.length=xs.length):Q61 a xs (u++(v++t))=u++(xs++t):=by
 unfold Q61;rw[List.take_left' ha,←List.append_assoc u v t,List.drop_left' (by simp;omega)]
theorem Qoe(w:World)(g:Nat)(cs:Array Value):Upd (fun b=>b=g) w (w.setRow g cs):=
 ⟨rfl,rfl,rfl,by simp[World.setRow],fun k _ hS=>by
  unfold World.setRow
  rw[Array.getElem?_modify,if_neg (fun e=>hS e.symm)]⟩
theorem Qh9{P:Program}(w:World)(dT sT ty elem:TypeId)(a:Addr)(dLen dCap c:Nat)(e:P.underlying dT=some (.slice elem))(hs:((P.info? elem).map (·.size)).isSome=true):
  (Builtin.copy_ #[dT,sT] ty #[.slice (some a) dLen dCap, .slice none 0 c]).run P w= .ok (goInt 0) w:=by
 cases d:P.info? elem with
 |none=>simp[d]at hs
 |some i=>simp[Builtin.copy_,run_underlying e,Builtin.lenOf,Builtin.firstCells,sizeOf,typeInfo,d,storeCells]
theorem Q98{w:World}{g a dCap:Nat}{bs xs:τ}(d:w.heap[g]? =some (.cells (QE bs).toArray 5 (0,0)))(ha:a+xs.length<=bs.length)
  {p:σ} {l c:Nat} (h:Q1 w p l xs):
  ∃n:Int,∃w',Sem.run prog (Builtin.copy_ #[25,25] 3 #[.slice (some ((at0 g).add (a*1))) (bs.length-a) dCap, .slice p l c]) w= .ok (int i64 n) w'∧
   w'.heap[g]? =some (.cells (QE (Q61 a xs bs)).toArray 5 (0,0))/\Upd (fun b=>b=g) w w':=by
 have k:=h.1;rw[QJ,Nat.mul_one];cases p with
 |none=>
  have m:xs=[]:=by
   refine Decidable.byContradiction fun o=> ?_;obtain⟨a,ha,_⟩:=h.2 o;cases ha
  subst m;obtain rfl:l=0:=k;refine⟨0,w,?_,?_,Upd.refl _ _⟩
  ·exact Qh9 (P:=prog) w 25 25 3 5 _ _ _ _ (by kernel_rfl) (by kernel_rfl)
  ·rw[d];simp[Q61]
 |some q=>
  have e:=h.cells;have i:=run_copy_row (P:=prog) w 25 25 3 5 g a (bs.length-a) dCap q l c (QE bs).toArray 5 (QE xs) (by kernel_rfl) (by kernel_rfl) d
   (by rw[Qb];show _=min _ _;omega) (fun j v r=>by
    obtain⟨x,f,t⟩:=e j v r;cases f
    exact t) (by simp[Qb];omega) (Qd1 xs)
  have u:(QE bs).toArray.toList.take a++QE xs++(QE bs).toArray.toList.drop (a+(QE xs).length)=QE (Q61 a xs bs):=by
   simp[Q61,QE,List.map_take,List.map_drop]
  rw[u]at i;exact⟨((QE xs).length:Int),w.setRow g (QE (Q61 a xs bs)).toArray,i,setRow_heap _ _ _ _ _ _ d,Qoe _ _ _⟩
open Go Go.Vc
open Go.IntKind (i64)
open Go.Value (int)
open Go.Proofs.Tryz (prog)
def Q0b(w:World)(k:Nat)(bs:τ):Prop:=w.heap[k]? =some (.cells (QE bs).toArray 5 (0,0))
theorem Q0b.bytes{w:World}{k:Nat}{bs:τ}(h:Q0b w k bs):Q1 w (some (at0 k)) bs.length bs:=
 Q1.of_cells fun j u d=>⟨_,rfl,Row.cell ⟨_,_,h⟩ (by simpa using d)⟩
theorem Q0b.upd{S:Nat->Prop}{w w':World}{k:Nat}{bs:τ}(h:Q0b w k bs)(d:Upd S w w')(hS:¬S k):Q0b w' k bs:=d.keep h hS
theorem Ql7{w:World}{kc kb a:Nat}{L:Nat}{bs:τ}{x:Int}(q:0<=x)(P:RowW w kc #[.slice (some (at0 kb)) L L])(hb:Q0b w kb bs)(hL:L=bs.length)(ha:a+4<=L):
  Calls prog 106 #[int i64 (a:Int), .int .u32 x, .pointer (some (at0 kc))] w fun e w'=>e= .returned (.tuple #[])/\Upd (fun b=>b=kb) w w'/\Q0b w' kb (Q61 a (Q50 x) bs):=by
 refine(F106_calls (a:Int) x (at0 kc) w (fun v w'=>v= .tuple #[]/\Upd (fun b=>b=kb) w w'/\Q0b w' kb (Q61 a (Q50 x) bs)) ?_).mono (by rintro e w' ⟨v,rfl,rfl,h⟩;exact⟨rfl,h⟩);refine(QGf x q w).mono ?_;rintro e Y ⟨rfl,i⟩;refine⟨_,_,_,_,rfl,fun k r t=> ?_⟩;have D:RowW r k #[.int .u8 0, .int .u8 0, .int .u8 0, .int .u8 0]:=⟨_,t.at⟩;have E:(at0 k)=(at0 k).add 0:=(QJ k 0).symm;refine⟨by rw[E];exact D.live (by simp),fun Q z=> ?_⟩;rw[E]at z;have G:=z.row D;refine⟨G.live (by simp),fun R H=> ?_⟩;have I:=H.row G;refine⟨I.live (by simp),fun S J=> ?_⟩;have r6:=J.row I;refine⟨r6.live (by simp),fun A K=> ?_⟩;have r7:=K.row r6;have f:w.heap.size<=k:=by rw[t.size.1];exact i.size
 have T:Ext w A:=Qf0 (Qf0 (Qf0 (Qf0 (i.trans t.ext) f z) f H) f J) f K;intro d N;have B:Ext w d:=T.trans N.ext;have C:RowW d kc _:=B.rowW P id;have U:(at0 kc)=(at0 kc).add 0:=(QJ kc 0).symm;refine⟨_,_,_,by rw[U];exact C.c rfl,⟨by omega,by omega⟩,?_⟩;have l:Q0b d kb bs:=hb.upd B id;have m:Q1 d (some (at0 k)) 4 (Q50 x):=by
  have this:RowW d k (QE (Q50 x)).toArray:=N.ext.rowW r7 id;exact Q1.of_cells (bs:=Q50 x) fun j u V=>⟨_,rfl,Row.cell this.row (by rw[List.getElem?_toArray];exact V)⟩
 have g:Q1 d (QT0 (some (at0 k)) 4 0 1) (4-0) (Q50 x):=QHd m (b:=4) (a:=0) (by omega) (by omega) (by omega);obtain⟨n,w',O,o,W⟩:=Q98 (dCap:=L-a) (c:=4-0) l (a:=a) (by rw[Qh1];omega) g;have p:QT0 (some (at0 kb)) L ((a:Int).toNat) 1=some ((at0 kb).add (a*1)):=by
  unfold QT0;rw[if_neg (by omega)]
  rfl
 rw[p];rw[←hL]at O;exact⟨n,w',O,rfl,Upd.trans (Ext.upd B) W fun y _ X=>X,o⟩
theorem Q1m:Qc prog 5=[.int .u8 0]:=by kernel_rfl
theorem QZd(n:Nat):QK prog 5 n=(QE (List.replicate n 0)).toArray:=by
 unfold QK;rw[Q1m]
 congr 1
 induction n with
 |zero=>rfl
 |succ n ih=>
  rw[List.replicate_succ,List.flatten_cons,ih,List.replicate_succ]
  rfl
theorem Q6e{a:Nat}{xs bs:τ}(h:a<=bs.length):(Q61 a xs bs).take a=bs.take a:=by
 unfold Q61;rw[List.take_append_of_le_length (by simp;omega),List.take_take,Nat.min_self]
theorem Qmg(A B C X:τ)(d:A.length=4)(f:B.length=4)(g:C.length=4):Q61 (8+X.length) C (Q61 8 X (Q61 4 B (Q61 0 A (List.replicate (12+X.length) 0))))=(A++(B++X))++C:=by
 have e:(List.replicate (12+X.length) 0:τ)=[]++(List.replicate 4 0++(List.replicate 4 0++(List.replicate X.length 0++List.replicate 4 0))):=by
  simp only[List.replicate_append_replicate,List.nil_append]
  congr 1;omega
 rw[e,QZ4 (a:=0) rfl (by simp[d]),List.nil_append,QZ4 (a:=4) d (by simp[f]),←List.append_assoc A B,QZ4 (a:=8) (by simp[d,f]) (by simp)];have:(A++B)++(X++List.replicate 4 0)=((A++B)++X)++(List.replicate 4 0++ []):=by simp
 rw[this,QZ4 (by simp[d,f];omega) (by simp[g])];simp
theorem Qkg(addr epoch:Int){p:σ}{l c:Nat}{w:World}{d:τ}(h:Q1 w p l d)(hm:l<=4611686018427387904):
  Calls prog 68 #[int i64 addr,int i64 epoch, .slice p l c] w fun e w'=>Ext w w'∧
   if QH0 addr/\QH0 epoch/\d.length<=4096 then∃k B,w.heap.size<=k/\e= .returned (.tuple #[.slice (some (at0 k)) (QR addr epoch d).length B,int i64 0])/\Q1 w' (some (at0 k)) (QR addr epoch d).length (QR addr epoch d)
   else e= .returned (.tuple #[.slice none 0 0,int i64 1]):=by
 refine(F68_calls addr epoch p l c w (fun v w'=>Ext w w'/\if QH0 addr/\QH0 epoch/\d.length<=4096 then∃k B,w.heap.size<=k/\v= .tuple #[.slice (some (at0 k)) (QR addr epoch d).length B,int i64 0]/\Q1 w' (some (at0 k)) (QR addr epoch d).length (QR addr epoch d)
   else v= .tuple #[.slice none 0 0,int i64 1]) ?_).mono (by
  rintro e w' ⟨v,rfl,hx,h⟩;refine⟨hx,?_⟩
  split at h
  ·rw[if_pos (by assumption)];obtain⟨k,B,h0,rfl,h⟩:=h;exact⟨k,B,h0,rfl,h⟩
  ·rw[if_neg (by assumption),h])
 have hl:=h.1;refine(QZ6 addr w).mono ?_;rintro e w4 ⟨rfl,rfl⟩;refine⟨_,rfl,Q0 (fun m=> ?_) (fun m=> ?_)⟩
 ·simp only[Zg,Zb]at m
  exact⟨Upd.refl _ _,by rw[if_neg (fun C=>m C.1)]⟩
 simp only[Zf,Za]at m;refine(QZ6 epoch w4).mono ?_;rintro e A ⟨rfl,rfl⟩;refine⟨_,rfl,Q0 (fun o=> ?_) (fun o=> ?_)⟩
 ·simp only[Zg,Zb]at o
  exact⟨Upd.refl _ _,by rw[if_neg (fun C=>o C.2.1)]⟩
 simp only[Zf,Za]at o;refine Q0 (fun h3=> ?_) (fun h3=> ?_)
 ·simp only[Za]at h3
  exact⟨Upd.refl _ _,by rw[if_neg (fun C=>by have:=C.2.2;omega)]⟩
 simp only[Zb]at h3;have D:QH0 addr/\QH0 epoch/\d.length<=4096:=⟨m,o,by omega⟩;have w1:i64.wrap ((12:Int)+(l:Int))=((12+l:Nat):Int):=by rw[w64 (by omega)];omega
 have Z:i64.wrap ((8:Int)+(l:Int))=((8+l:Nat):Int):=by rw[w64 (by omega)];omega
 rw[w1,Z];refine⟨⟨by omega,by omega,by have:(2:Int)^48=281474976710656:=rfl;rw[this];omega⟩,fun kb ad g kc ae i=> ?_⟩;have E:(at0 kc)=(at0 kc).add 0:=(QJ kc 0).symm;have G:RowW ae kc #[.slice none 0 0]:=⟨_,i.at⟩;refine⟨by rw[E];exact G.live (by simp),fun r j=> ?_⟩;rw[E]at j;have r14:RowW r kc #[.slice (some (at0 kb)) (12+l) (12+l)]:=j.row G;have H:A.heap.size<=kb:=by rw[g.size.1];exact Nat.le_refl _
 have I:A.heap.size<=kc:=by rw[i.size.1];exact g.ext.size
 have J:kb≠kc:=by
  rw[i.size.1];exact Nat.ne_of_lt (Qe g.at)
 have f:kc≠kb:=fun e=>J e.symm;have af:Ext A r:=Qf0 (g.ext.trans i.ext) I j;have ah:Q0b ad kb (List.replicate (12+l) 0):=by
  have:=g.at;rw[QZd]at this;exact this
 have ai:Q0b r kb (List.replicate (12+l) 0):=by
  refine(ah.upd i.ext id).upd j.upd ?_;rw[Qx];exact J
 have step:∀{w1 Z:World},Ext A w1->Upd (fun b=>b=kb) w1 Z->Ext A Z:=fun hx hu=>Upd.trans hx hu fun y hy he=>by omega
 have fb:IntKind.u32.wrap addr=addr:=by rw[IntKind.wrap_u32'];have:=m.1;have:=m.2;omega
 have fe:IntKind.u32.wrap epoch=epoch:=by rw[IntKind.wrap_u32'];have:=o.1;have:=o.2;omega
 rw[fb,fe];refine(Ql7 (a:=0) m.1 r14 ai (by simp) (by omega)).mono ?_;rintro e aj ⟨rfl,K,ak⟩;refine⟨rfl,?_⟩;have L:RowW aj kc _:=K.rowW r14 f;have al:(Q61 0 (Q50 addr) (List.replicate (12+l) 0)).length=12+l:=by simp[Q61,Qh1];omega
 refine(Ql7 (a:=4) o.1 L ak al.symm (by omega)).mono ?_;rintro e N ⟨rfl,O,am⟩;have P:RowW N kc _:=O.rowW L f;have ao:(Q61 4 (Q50 epoch) (Q61 0 (Q50 addr) (List.replicate (12+l) 0))).length=12+l:=by simp[Q61,Qh1];omega
 refine⟨rfl,_,_,_,by rw[E];exact P.c rfl,⟨by omega,by omega⟩,?_⟩;have Q:Ext A N:=step (step af K) O;obtain⟨n,t,hr,R,S⟩:=Q98 (dCap:=12+l-8) (c:=c) am (a:=8) (by omega) (h.ext Q);have T:QT0 (some (at0 kb)) (12+l) ((8:Int).toNat) 1=some ((at0 kb).add (8*1)):=by
  unfold QT0;rw[if_neg (show¬12+l=(8:Int).toNat by have:(8:Int).toNat=8:=rfl;omega)]
  rfl
 rw[T];rw[ao]at hr;have u:RowW t kc _:=S.rowW P f;refine⟨n,t,hr,_,_,_,by rw[E];exact u.c rfl,⟨by omega,by omega⟩,?_⟩;have x:(Q61 8 d (Q61 4 (Q50 epoch) (Q61 0 (Q50 addr) (List.replicate (12+l) 0)))).length=12+l:=by simp[Q61,Qh1];omega
 have hB:=Q0b.bytes (show Q0b t kb _ from R);rw[x]at hB;have U:=QHd hB (c:=12+l) (a:=0) (b:=8+l) (by omega) (by omega) (Nat.le_refl _);rw[List.drop_zero]at U;refine(Qdd U (by omega)).mono ?_;rintro e a0 ⟨rfl,rfl⟩;have q:=Qmg (Q50 addr) (Q50 epoch) (Q50 (QM7 (QO0 addr epoch d))) d rfl rfl rfl;have z:(Q61 8 d (Q61 4 (Q50 epoch) (Q61 0 (Q50 addr) (List.replicate (12+l) 0)))).take (8+l)=QO0 addr epoch d:=by
  rw[hl];rw[hl]at x;have:=congrArg (List.take (8+d.length)) q;rw[Q6e (by omega)]at this;rw[this,show Q50 addr++(Q50 epoch++d)=QO0 addr epoch d from rfl];exact List.take_left' (QY4 addr epoch d)
 rw[z];refine⟨_,rfl,?_⟩;have aq:=QF3 (QO0 addr epoch d);refine(Ql7 (a:=8+l) aq.1 u R x.symm (by omega)).mono ?_;rintro e V ⟨rfl,W,X⟩;have ar:RowW V kc _:=W.rowW u f;refine⟨rfl,_,_,_,by rw[E];exact ar.c rfl,step (step Q S) W,?_⟩;rw[if_pos D];have Y:Q61 (8+l) (Q50 (QM7 (QO0 addr epoch d))) (Q61 8 d (Q61 4 (Q50 epoch) (Q61 0 (Q50 addr) (List.replicate (12+l) 0))))=QR addr epoch d:=by
  rw[hl];exact q
 rw[Y]at X;have au:(QR addr epoch d).length=12+l:=by rw[Qx3];omega
 have:=Q0b.bytes (show Q0b V kb _ from X);refine⟨kb,12+l,H,by rw[au],this⟩
end Go.Proofs.YtkolafpgbhpdlaaGreat
