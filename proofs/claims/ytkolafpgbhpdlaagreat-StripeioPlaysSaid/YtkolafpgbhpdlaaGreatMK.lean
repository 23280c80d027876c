import Derived.Test.YtkolafpgbhpdlaaGreatME
import Derived.Test.YtkolafpgbhpdlaaGreatMJ
import Derived.Test.YtkolafpgbhpdlaaGreatGd
set_option maxHeartbeats 4000000
namespace Go.Gf
def Qs5(p c:Nat)(W:Nat->Nat->UInt8)(r t:Nat):UInt8:=if r=c then W p t else if r=p then W c t else W r t
structure Q22(n:Nat)(W:Nat->Nat->UInt8)(c:Nat):Prop where
 off:∀r,r<n->∀c',c'<c->r≠c'->W r c'=0
 dia:∀c',c'<c->W c' c'≠0
section
variable {n:Nat}{A W:Nat->Nat->UInt8}
theorem Q67(p c:Nat)(W:Nat->Nat->UInt8)(r:Nat):∃s,(∀t,Qs5 p c W r t=W s t)/\(r=c/\s=p\/r≠c/\r=p/\s=c\/r≠c/\r≠p/\s=r):=by
 unfold Qs5
 by_cases e:r=c
 ·exact⟨p,fun t=>by rw[if_pos e], .inl ⟨e,rfl⟩⟩
 ·by_cases d:r=p
  ·exact⟨c,fun t=>by rw[if_neg e,if_pos d], .inr (.inl ⟨e,d,rfl⟩)⟩
  ·exact⟨r,fun t=>by rw[if_neg e,if_neg d], .inr (.inr ⟨e,d,rfl⟩)⟩
theorem Qj6.swap(h:Qj6 n A W){p c:Nat}(l:p<n)(g:c<n):Qj6 n A (Qs5 p c W):=by
 refine⟨fun r i t ht=> ?_,fun y m=>h.inj y fun r i=> ?_⟩
 ·obtain⟨s,hs,q⟩:=Q67 p c W r
  have f:s<n:=by omega
  rw[hs,h.left s f t ht];exact Qv fun j _=>by rw[hs]
 ·
  have key:∀u,u<n->(∀t,Qs5 p c W u t=W r t)->xs n (fun j=>gm (W r (n+j)) (y j))=0:=fun u o e=>by
   rw[←m u o];exact Qv fun j _=>by rw[e]
  by_cases e:r=c
  ·by_cases d:p=c
   ·exact key c g fun t=>by unfold Qs5;rw[if_pos rfl,d,e]
   ·exact key p l fun t=>by unfold Qs5;rw[if_neg d,if_pos rfl,e]
  ·by_cases d:r=p
   ·exact key c g fun t=>by unfold Qs5;rw[if_pos rfl,d]
   ·exact key r i fun t=>by unfold Qs5;rw[if_neg e,if_neg d]
theorem Q22.zero(n:Nat)(W:Nat->Nat->UInt8):Q22 n W 0:=⟨fun _ _ _ h=>(Nat.not_lt_zero _ h).elim,fun _ h=>(Nat.not_lt_zero _ h).elim⟩
theorem Q22.swap{c p:Nat}(h:Q22 n W c)(j:p<n)(l:c<n)(f:c<=p):Q22 n (Qs5 p c W) c:=by
 refine⟨fun r m e d g=> ?_,fun e d=> ?_⟩
 ·obtain⟨s,hs,i⟩:=Q67 p c W r
  rw[hs];exact h.off s (by omega) e d (by omega)
 ·obtain⟨s,hs,i⟩:=Q67 p c W e
  rw[hs,show s=e by omega];exact h.dia e d
theorem Q22.add{c t:Nat}(h:Q22 n W c)(f:UInt8)(ht:t<n)(l:c<n):Q22 n (Qvb t c f W) c:=by
 have e:∀r,r<n->∀g,g<c->Qvb t c f W r g=W r g:=fun r i g d=>by
  unfold Qvb
  by_cases e:r=t
  ·rw[if_pos e,h.off c l g d (by omega),QU,x0,e]
  ·rw[if_neg e]
 exact⟨fun r i g d j=>by rw[e r i g d];exact h.off r i g d j,fun g d=>by rw[e g (by omega) g d];exact h.dia g d⟩
theorem Q22.next{c:Nat}(h:Q22 n W c)(j:W c c≠0)(l:∀r,r<n->r≠c->W r c=0):Q22 n W (c+1):=by
 refine⟨fun r i d f g=> ?_,fun d f=> ?_⟩
 ·by_cases e:d=c
  ·rw[e];exact l r i (by omega)
  ·exact h.off r i d (by omega) g
 ·by_cases e:d=c
  ·rw[e];exact j
  ·exact h.dia d (by omega)
theorem Q22.congr{c:Nat}(h:Q22 n W c)(j:c<=n){W':Nat->Nat->UInt8}(e:∀r,r<n->∀c,c<2*n->W' r c=W r c):Q22 n W' c:=
 ⟨fun r i f d g=>by rw[e r i f (by omega)];exact h.off r i f d g,fun f d=>by rw[e f (by omega) f (by omega)];exact h.dia f d⟩
theorem Qj6.pivotD(h:Qj6 n A W){c:Nat}(m:Q22 n W c)(s:c<n)(t:∀x:Nat->UInt8,(∀r,r<n->xs n (fun j=>gm (A r j) (x j))=0)->∀j,j<n->x j=0)
  (o:∀p,c<=p->p<n->W p c=0):False:=by
 let x:Nat->UInt8:=fun j=>if j<c then gm (W j c) (gi (W j j))else if j=c then 1 else 0
 have u:∀r,r<n->xs n (fun j=>gm (W r j) (x j))=0:=fun r f=>by
  by_cases e:r<c
  ·have v:xs n (fun j=>gm (W r j) (x j))=xs n (fun j=>(if j=r then W r c else 0)^^^(if j=c then W r c else 0)):=Qv fun j l=>by
    simp only[x]
    by_cases g:j<c
    ·rw[if_pos g,if_neg (show¬j=c by omega),x0]
     by_cases d:j=r
     ·rw[if_pos d,d,Qr0,QT8 (m.dia r e),Qi1]
     ·rw[if_neg d,m.off r f j g (fun e=>d e.symm),QU]
    ·rw[if_neg g,if_neg (show¬j=r by omega),zx]
     by_cases d:j=c
     ·rw[if_pos d,if_pos d,Qi1,d]
     ·rw[if_neg d,if_neg d,Qq]
   rw[v,Q76,Q66 (k:=r) f (fun j _ l=>if_neg l),Q66 (k:=c) s (fun j _ l=>if_neg l),if_pos rfl,if_pos rfl,xx]
  ·refine Qz2 fun j l=> ?_
   simp only[x]
   by_cases g:j<c
   ·rw[if_pos g,m.off r f j g (by omega),QU]
   ·rw[if_neg g]
    by_cases d:j=c
    ·rw[d,o r (by omega) f,QU]
    ·rw[if_neg d,Qq]
 have y:∀r,r<n->xs n (fun j=>gm (W r (n+j)) (xs n fun i=>gm (A j i) (x i)))=0:=fun r f=>by
  rw[←u r f];have z:xs n (fun i=>gm (W r i) (x i))=xs n (fun i=>xs n fun j=>gm (W r (n+j)) (gm (A j i) (x i))):=Qv fun i hi=>by
   rw[h.left r f i hi,Q90,←Qi6];exact Qv fun j _=>by rw[Q90,QS]
  rw[z,QG7];exact Qv fun j _=>(Qi6 _ _ _).symm
 have q:=t x (fun r f=>h.inj _ y r f) c s;simp only[x]at q;rw[if_neg (Nat.lt_irrefl _)]at q
 revert q
 simp only[if_true]
 decide
def QAb(n:Nat)(W:Nat->Nat->UInt8)(r j:Nat):UInt8:=gm (W r (n+j)) (gi (W r r))
theorem Qj6.doneD(h:Qj6 n A W)(f:Q22 n W n):∀r,r<n->∀c,c<n->xs n (fun j=>gm (QAb n W r j) (A j c))=if r=c then 1 else 0:=fun r d c g=>by
 have i:xs n (fun j=>gm (QAb n W r j) (A j c))=gm (gi (W r r)) (W r c):=by
  rw[h.left r d c g,←Qi6];exact Qv fun j _=>by unfold QAb;rw[Q90 (W r (n+j)),QS]
 rw[i]
 by_cases e:r=c
 ·rw[if_pos e,←e,QPf (f.dia r d)]
 ·rw[if_neg e,f.off r d c g e,Qq]
end
end Go.Gf
namespace Go.Proofs.YtkolafpgbhpdlaaGreat
open Go Go.Vc Go.Gf
open Go.IntKind (i64)
open Go.Value (int)
open Go.Proofs.Tryz (prog)
end Go.Proofs.YtkolafpgbhpdlaaGreat
namespace Go.Proofs.YtkolafpgbhpdlaaGreat
open Go Go.Vc Go.Gf
open Go.IntKind (i64)
open Go.Value (int)
open Go.Proofs.Tryz (prog)
theorem QCb{R C r c:Nat}(d:r<R)(e:c<C):r*C+c<R*C:=by
 have:=Nat.mul_le_mul_right C (show r+1<=R from d);rw[Nat.add_mul,Nat.one_mul]at this;omega
theorem QGk{C r c g d:Nat}(f:c<C)(i:d<C)(h:r*C+c=g*C+d):r=g/\c=d:=by
 have e:∀r c,c<C->(r*C+c)/C=r/\(r*C+c) % C=c:=fun r c f=>by
  rw[Nat.mul_comm];exact⟨by rw[Nat.mul_add_div (by omega),Nat.div_eq_of_lt f,Nat.add_zero],by rw[Nat.mul_add_mod,Nat.mod_eq_of_lt f]⟩
 have j:=e r c f;have l:=e g d i;rw[h]at j;exact⟨j.1.symm.trans l.1,j.2.symm.trans l.2⟩
structure Qe4(w:World)(base k R C:Nat)(V:Nat->Nat->UInt8):Prop where
 le:base<=k
 row:∃bs:τ,bs.length=R*C/\Q7 w k 5 (QE bs).toArray/\∀r c,r<R->c<C->co bs (r*C+c)=V r c
section
variable {w w':World}{base k R C:Nat}{V:Nat->Nat->UInt8}
theorem Qe4.ext(h:Qe4 w base k R C V)(d:Ext w w'):Qe4 w' base k R C V:=by
 obtain⟨bs,e,f,g⟩:=h.row;exact⟨h.le,bs,e,d.keep f,g⟩
theorem Qe4.base_le{b:Nat}(h:Qe4 w base k R C V)(hb:b<=base):Qe4 w b k R C V:=⟨Zu hb h.le,h.row⟩
theorem Qe4.congr{d:Nat->Nat->UInt8}(h:Qe4 w base k R C V)(g:∀r c,r<R->c<C->d r c=V r c):Qe4 w base k R C d:=by
 obtain⟨bs,i,j,l⟩:=h.row;exact⟨h.le,bs,i,j,fun r c e f=>by rw[l r c e f,g r c e f]⟩
theorem Qe4.typ(h:Qe4 w base k R C V):∃cs,Q7 w k 5 cs:=let⟨_,_,d,_⟩:=h.row;⟨_,d⟩
theorem Qe4.lt(h:Qe4 w base k R C V):k<w.heap.size:=let⟨_,d⟩:=h.typ;Qe d
theorem Qe4.keep{d:Nat}{e:TypeId}{cs:Array Value}(h:Qe4 w base k R C V)(g:Upd (fun x=>x=d) w w')(i:Q7 w d e cs)(j:e≠5):Qe4 w' base k R C V:=by
 obtain⟨bs,l,f,m⟩:=h.row;exact⟨h.le,bs,l,g.keep f (Q7.ne f i j.symm),m⟩
theorem Qe4.apart{d:Nat}(h:Qe4 w base k R C V)(e:Upd (fun x=>x=d) w w')(f:k≠d):Qe4 w' base k R C V:=by
 obtain⟨bs,g,i,j⟩:=h.row;exact⟨h.le,bs,g,e.keep i f,j⟩
theorem Qxh{bs:τ}{i:Nat}(hi:i<bs.length):(QE bs).toArray[i]? =some (vb (co bs i)):=by
 simp[QE,Gf.co,Zj,hi]
theorem Qe4.at(h:Qe4 w base k R C V){r c:Nat}(g:r<R)(d:c<C):QD w (((at0 k).add (r*C)).add c)/\w.cell? (((at0 k).add (r*C)).add c)=some (vb (V r c))∧
  ∀b w',Qt w (((at0 k).add (r*C)).add c) (vb b) w'->Qe4 w' base k R C (fun i j=>if i=r/\j=c then b else V i j)/\Upd (fun x=>x=k) w w':=by
 obtain⟨bs,o,f,l⟩:=h.row;have p:=QCb g d;rw[QB];refine⟨f.live3 (by simp[Qb];omega),f.cell3 (by rw[Qxh (by omega),l r c g d]),fun b w' hs=> ?_⟩;obtain⟨q,s⟩:=f.set3 hs;refine⟨⟨h.le,bs.set (r*C+c) b,by simpa using o,?_,fun i j hi m=> ?_⟩,s⟩
 ·have e:(QE bs).toArray.setIfInBounds (r*C+c) (vb b)=(QE (bs.set (r*C+c) b)).toArray:=by simp[QE,List.map_set]
  rw[←e];exact q
 ·rw[Qi2 (by omega)]
  by_cases e:i*C+j=r*C+c
  ·rw[if_pos e,if_pos (QGk m d e)]
  ·rw[if_neg e,if_neg (fun h=>e (by rw[h.1,h.2])),l i j hi m]
theorem Qe4.bytes(h:Qe4 w base k R C V){r s:Nat}(f:r<R)(hs:s<=C):Q1 w (some ((at0 k).add (r*C+s))) (C-s) ((List.range (C-s)).map fun c=>V r (s+c)):=by
 refine⟨by simp,fun _=>⟨_,rfl,fun i hi=> ?_⟩⟩;have d:i<C-s:=by simpa using hi
 have e:=(h.at (c:=s+i) f (by omega)).2.1;rw[QB]at e;rw[QB,Nat.add_assoc,e];simp[d]
theorem Qe4.copy(h:Qe4 w base k R C V){r dcap l c:Nat}{q:Addr}{xs:τ}(z:r<R)(s:Q1 w (some q) l xs)(G:l<=C):
  ∃n:Int,∃w',Sem.run prog (Builtin.copy_ #[25,25] 3 #[.slice (some ((at0 k).add (r*C))) C dcap, .slice (some q) l c]) w= .ok (int i64 n) w'∧
   Qe4 w' base k R C (fun i j=>if i=r/\j<l then co xs j else V i j)/\Upd (fun x=>x=k) w w':=by
 obtain⟨bs,H,t,B⟩:=h.row;have D:=s.1;have I:r*C+C<=R*C:=by
  have:=Nat.mul_le_mul_right C (show r+1<=R from z);rw[Nat.add_mul,Nat.one_mul]at this;omega
 have o:=s.cells;have d:=run_copy_row (P:=prog) w 25 25 3 5 k (r*C) C dcap q l c (QE bs).toArray 5 (QE xs) (by kernel_rfl) (by kernel_rfl) t
   (by rw[Qb];show _=min _ _;omega) (fun j v f=>by
    obtain⟨J,p,g⟩:=o j v f;cases p
    exact g) (by simp[Qb];omega) (Qd1 xs)
 let bs':=bs.take (r*C)++xs++bs.drop (r*C+xs.length)
 have E:(QE bs).toArray.toList.take (r*C)++QE xs++(QE bs).toArray.toList.drop (r*C+(QE xs).length)=QE bs':=by
  simp[bs',QE,List.map_take,List.map_drop]
 rw[E]at d;rw[QJ];refine⟨((QE xs).length:Int),w.setRow k (QE bs').toArray,d,⟨h.le,bs',?_,setRow_heap _ _ _ _ _ _ t,fun i j hi f=> ?_⟩,?_⟩
 ·simp only[bs',List.length_append,List.length_take,List.length_drop];omega
 ·have F:=QCb hi f
  have g:=B i j hi f;simp only[Gf.co,Zj,bs']at g⊢
  by_cases u:i=r
  ·subst u
   by_cases m:j<l
   ·rw[if_pos ⟨rfl,m⟩,Zl (by simp;omega),Zm (by simp;omega)]
    simp only[List.length_take];rw[show i*C+j-min (i*C) bs.length=j by omega]
   ·rw[if_neg fun h=>m h.2,Zm (by simp;omega),←g,List.getElem?_drop,show i*C+xs.length+(i*C+j-(bs.take (i*C)++xs).length)=i*C+j by
     simp only[List.length_append,List.length_take];omega]
  ·rw[if_neg fun h=>u h.1,←g]
   by_cases m:i<r
   ·have y:=QCb m f
    rw[List.append_assoc,Zl (by simp;omega),List.getElem?_take,if_pos y]
   ·have y:r*C+C<=i*C:=by
     have:=Nat.mul_le_mul_right C (show r+1<=i by omega);rw[Nat.add_mul,Nat.one_mul]at this;omega
    rw[Zm (by simp;omega),List.getElem?_drop,show r*C+xs.length+(i*C+j-(bs.take (r*C)++xs).length)=i*C+j by
     simp only[List.length_append,List.length_take];omega]
 ·exact⟨rfl,rfl,rfl,by simp[World.setRow],fun x _ hS=>by
   unfold World.setRow
   rw[Array.getElem?_modify,if_neg (fun e=>hS e.symm)]⟩
end
theorem Qal{a b:Nat}(h:a*b<=1073741824):i64.wrap ((a:Int)*(b:Int))=((a*b:Nat):Int):=by
 rw[←Int.natCast_mul];exact w64 (by omega)
end Go.Proofs.YtkolafpgbhpdlaaGreat
namespace Go.Proofs.YtkolafpgbhpdlaaGreat
open Go Go.Vc Go.Gf
open Go.IntKind (i64)
open Go.Value (int)
open Go.Proofs.Tryz (prog)
def QIi(w:World)(a:Addr)(R C:Nat)(V:Nat->Nat->UInt8):Prop:=∀r,r<R->Q1 w (some (a.add (r*C))) C ((List.range C).map (V r))
theorem QIi.ext{w w':World}{a:Addr}{R C:Nat}{V:Nat->Nat->UInt8}(h:QIi w a R C V)(d:Ext w w'):QIi w' a R C V:=fun r e=>(h r e).ext d
theorem Qe4.read{w:World}{base k R C:Nat}{V:Nat->Nat->UInt8}(h:Qe4 w base k R C V):QIi w (at0 k) R C V:=fun r e=>by
 have d:=h.bytes (s:=0) e (Nat.zero_le _);simp only[Nat.add_zero,Nat.sub_zero,Nat.zero_add]at d;exact d
theorem QOc{w:World}{base R C l c:Nat}{p:σ}{val:Nat->Nat->UInt8}(h:Q2 w base p l c (QA4 val C (R*C)))(g:0<C)(j:0<R):∃a,p=some a/\R*C<=c/\l=R*C/\QIi w a R C val:=by
 have e:=Q2.len h;have m:=Q2.le h;rw[Qm2]at e;have f:0<R*C:=Nat.mul_pos j g;obtain⟨a,rfl,_⟩:=Q1.co (Q2.bytes h) (i:=0) (by omega);refine⟨a,rfl,by omega,e,fun r o=>⟨by simp,fun _=>⟨_,rfl,fun i hi=> ?_⟩⟩⟩;have d:i<C:=by simpa using hi
 have q:=QCb o d;obtain⟨v,ha,s⟩:=Q1.co (Q2.bytes h) (i:=r*C+i) (by omega);cases ha;rw[QB,s,Q37 _ (by omega)];have t:(r*C+i)/C=r:=by rw[Nat.mul_comm,Nat.mul_add_div (by omega),Nat.div_eq_of_lt d,Nat.add_zero]
 have u:(r*C+i) % C=i:=by rw[Nat.mul_comm,Nat.mul_add_mod,Nat.mod_eq_of_lt d]
 rw[t,u];simp[d]
theorem Qv3{o:World}{a b:Int}{p:σ}{l c:Nat}{K:Nat->ψ}(t:∀d e,Q7 e d 137 (Q21 a b p l c)->o.heap.size<=d->Ext o e->K d e):
  ∀(d:Nat)(f:World),QG o d (.cells #[int i64 (0:Int),int i64 (0:Int), .slice none 0 0] 137) f->(QD f (at0 d)/\(∀g:World,Qt f (at0 d) (int i64 a) g->(QD g ((at0 d).add 1)/\(∀h:World,Qt g ((at0 d).add 1) (int i64 b) h→
    (QD h ((at0 d).add 2)/\(∀e:World,Qt h ((at0 d).add 2) (Value.slice p l c) e->K d e)))))):=by
 intro d f j;have m:Q7 f d 137 (Q21 0 0 none 0 0):=j.at;have i:o.heap.size<=d:=by rw[j.size.1];exact Nat.le_refl _
 refine⟨m.live0 (by simp),fun g q=> ?_⟩;obtain⟨c1,u⟩:=m.set0 q;refine⟨c1.live3 (by simp),fun h r=> ?_⟩;obtain⟨c2,v⟩:=c1.set3 r;refine⟨c2.live3 (by simp),fun e s=> ?_⟩;obtain⟨c3,v3⟩:=c2.set3 s;exact t d e c3 i (Q8 (Q8 (Q8 j.ext i u) i v) i v3)
end Go.Proofs.YtkolafpgbhpdlaaGreat
namespace Go.Proofs.YtkolafpgbhpdlaaGreat
open Go Go.Vc Go.Gf
open Go.IntKind (i64)
open Go.Value (int)
open Go.Proofs.Tryz (prog)
def Q04(w:World)(q:σ)(e:TypeId)(cs:Array Value):Prop:=∃k,q=some (at0 k)/\Q7 w k e cs
theorem Q04.get{w:World}{k:Nat}{e:TypeId}{cs:Array Value}(h:Q04 w (some (at0 k)) e cs):Q7 w k e cs:=by
 obtain⟨g,d,f⟩:=h;simp only[Zi,at0,Zv,and_true]at d;subst d;exact f
theorem Q04.of{w:World}{k:Nat}{e:TypeId}{cs:Array Value}(h:Q7 w k e cs):Q04 w (some (at0 k)) e cs:=⟨k,rfl,h⟩
theorem Q04.ext{w w':World}{q:σ}{e:TypeId}{cs:Array Value}(h:Q04 w q e cs)(d:Ext w w'):Q04 w' q e cs:=let⟨k,f,g⟩:=h;⟨k,f,d.keep g⟩
theorem Q04.keep{w w':World}{q:σ}{d:Nat}{e:TypeId}{cs cs':Array Value}(h:Q04 w q e cs)(g:Upd (fun x=>x=d) w w')(i:Q7 w d 5 cs')(j:e≠5):Q04 w' q e cs:=let⟨k,l,f⟩:=h;⟨k,l,g.keep f (Q7.ne f i j)⟩
structure Qgh(w:World)(n:Nat)(q7 q41:σ)(kw:Nat)(W:Nat->Nat->UInt8)(w1:World):Prop where
 ext:Ext w w1
 n7:∀k,q7=some (at0 k)->w.heap.size<=k
 r7:Q04 w1 q7 137 (Q21 0 0 none 0 0)
 r41:Q04 w1 q41 137 (Q21 n ((2*n:Nat):Int) (some (at0 kw)) (n*(2*n)) (n*(2*n)))
 mat:Qe4 w1 w.heap.size kw n (2*n) W
section
variable {w:World}{n kw:Nat}{q7 q41:σ}{W W' A:Nat->Nat->UInt8}{w1 w2:World}
theorem Qgh.mono(h:Qgh w n q7 q41 kw W w1)(d:Ext w1 w2):Qgh w n q7 q41 kw W w2:=⟨h.ext.trans d,h.n7,h.r7.ext d,h.r41.ext d,h.mat.ext d⟩
theorem Qgh.write(h:Qgh w n q7 q41 kw W w1)(e:Qe4 w2 w.heap.size kw n (2*n) W')(d:Upd (fun x=>x=kw) w1 w2):Qgh w n q7 q41 kw W' w2:=by
 obtain⟨cs,f⟩:=h.mat.typ;exact⟨Q8 h.ext e.le d,h.n7,h.r7.keep d f Qb0.1,h.r41.keep d f Qb0.1,e⟩
theorem Qgh.congr(h:Qgh w n q7 q41 kw W w1)(e:∀r c,r<n->c<2*n->W' r c=W r c):Qgh w n q7 q41 kw W' w1:=⟨h.ext,h.n7,h.r7,h.r41,h.mat.congr e⟩
end
section
variable (w:World)(n:Nat)(a:Addr)(cp:Nat)(A:Nat->Nat->UInt8)
end
end Go.Proofs.YtkolafpgbhpdlaaGreat
namespace Go.Proofs.YtkolafpgbhpdlaaGreat
open Go Go.Vc Go.Gf
open Go.IntKind (i64)
open Go.Value (int)
open Go.Proofs.Tryz (prog)
end Go.Proofs.YtkolafpgbhpdlaaGreat
namespace Go.Proofs.YtkolafpgbhpdlaaGreat
open Go Go.Vc Go.Gf
open Go.IntKind (i64)
open Go.Value (int)
open Go.Proofs.Tryz (prog)
def Qt9(V:Nat->Nat->UInt8)(l:List Nat)(L:List (τ))(j s i:Nat):τ:=(List.range s).map fun x=>xs i fun t=>gm (V j t) (co (L.getD (l.getD t 0) []) x)
end Go.Proofs.YtkolafpgbhpdlaaGreat
namespace Go.Proofs.YtkolafpgbhpdlaaGreat
open Go Go.Vc Go.Gf
open Go.IntKind (i64)
open Go.Value (int)
open Go.Proofs.Tryz (prog)
theorem QL1{n t:Nat}{hs:List Bool}:t∈mis n hs↔t<n/\hs.getD t false=true:=by simp[mis]
theorem Q1e(n:Nat)(hs:List Bool):(mis n hs).Pairwise (· < ·):=List.Pairwise.filter _ List.pairwise_lt_range
theorem Q7e{n k:Nat}{hs:List Bool}(d:k<=(mis n hs).length):((List.range n).filter fun i=>decide (i∈(mis n hs).take k)).length=k:=by
 have e:((List.range n).filter fun i=>decide (i∈(mis n hs).take k))=(mis n hs).take k:=by
  refine QS3 (List.Pairwise.filter _ List.pairwise_lt_range) (List.Pairwise.sublist (List.take_sublist _ _) (Q1e n hs)) fun x=> ?_;simp only[List.mem_filter,List.mem_range,Za];exact⟨fun h=>h.2,fun h=>⟨(QL1.1 (List.mem_of_mem_take h)).1,h⟩⟩
 rw[e,List.length_take];omega
theorem Qnf{k m n s:Nat}{hs:List Bool}{L D0:List (τ)}{V:Nat->Nat->UInt8}(B:n=k+m)(D:k<=(mis n hs).length)(l:D0.length=k)(d:∀i,i<k->(D0.getD i []).length=s)(f:(D0.getD 0 []).length=s)
  (hL:∀i,i<n->hs.getD i false=true->L.getD i []=Qd0 k m D0 i)
  (o:∀r,r<k->∀c,c<k->xs k (fun j=>gm (V r j) (QP7 k (((mis n hs).take k).getD j 0) c))=if r=c then 1 else 0) {j:Nat} (h:j<k):Qt9 V ((mis n hs).take k) L j s k=D0.getD j []:=by
 refine Q92 (by rw[d j h];simp[Qt9]) fun x p=> ?_;have e:x<s:=by simpa[Qt9]using p
 unfold Qt9;rw[Qq2 _ e];have g:(D0.map fun y=>co y x).length=k:=by rw[List.length_map,l]
 have q:xs k (fun t=>gm (V j t) (co (L.getD (((mis n hs).take k).getD t 0) []) x))=xs k (fun t=>gm (V j t) (xs k fun c=>gm (QP7 k (((mis n hs).take k).getD t 0) c) (co (D0.map fun y=>co y x) c))):=Qv fun t ht=>by
  have u:((mis n hs).take k).getD t 0∈mis n hs:=by
   rw[Zj,Zc (by rw[List.length_take];omega)];exact List.mem_of_mem_take (List.getElem_mem _)
  obtain⟨v,z⟩:=QL1.1 u;rw[hL _ v z,QJ2 (by rw[f];exact e),QOf g (m:=m) (by omega)]
 rw[q,QSh (n:=k) (A:=fun r c=>QP7 k (((mis n hs).take k).getD r 0) c) o (fun c=>co (D0.map fun y=>co y x) c) h,Qda]
end Go.Proofs.YtkolafpgbhpdlaaGreat
namespace Go.Proofs.YtkolafpgbhpdlaaGreat
open Go Go.Vc Go.Gf
open Go.IntKind (i64)
open Go.Value (int)
open Go.Proofs.Tryz (prog)
theorem Qcm(a:Nat)(h:a<256):QO .and .u8 (a:Int) (1:Int)=((a % 2:Nat):Int):=by
 show IntKind.u8.wrap (((BitVec.ofInt 8 (a:Int))&&&(BitVec.ofInt 8 (1:Int))).toNat:Int)=_
 have e:(BitVec.ofInt 8 (a:Int)).toNat=a:=by rw[BitVec.toNat_ofInt];omega
 have d:(BitVec.ofInt 8 (1:Int)).toNat=1:=by decide
 rw[BitVec.toNat_and,e,d,Nat.and_one_is_mod,Qp9 _ (by omega),Ze];unfold pt;rw[UInt8.toNat_ofNat'];omega
theorem Q0m:(Q7h 256 fun x=>Nat.blt (xt x) 256)=true:=by kernel_rfl
theorem Qcl{x:Nat}(h:x<256):xt x<256:=by
 have:=QW2 Q0m x h
 rwa [Nat.blt_eq]at this
theorem QLm{x:Nat}(h:x<256):i64.wrap ((x:Int)*2^(min (1:Int).toNat IntKind.i64.bits))=((x*2:Nat):Int):=by
 show i64.wrap ((x:Int)*2)=_
 rw[w64 (by omega)];omega
theorem w8{t:Nat}(h:t<8):IntKind.u64.wrap (t:Int)=(t:Int):=by
 rcases(by omega:t=0\/t=1\/t=2\/t=3\/t=4\/t=5\/t=6\/t=7)with rfl|rfl|rfl|rfl|rfl|rfl|rfl|rfl<;>rfl
theorem fd8{t:Nat}(b:Nat)(h:t<8):((b:Nat):Int).fdiv (2^(min (IntKind.u64.wrap (t:Int)).toNat IntKind.u8.bits))=((b/2^t:Nat):Int):=by
 have key:∀n:Nat,((b:Nat):Int).fdiv (n:Int)=((b/n:Nat):Int):=fun n=>by
  rw[Int.fdiv_eq_ediv_of_nonneg _ (by omega)];rfl
 rcases(by omega:t=0\/t=1\/t=2\/t=3\/t=4\/t=5\/t=6\/t=7)with rfl|rfl|rfl|rfl|rfl|rfl|rfl|rfl
 ·exact key 1
 ·exact key 2
 ·exact key 4
 ·exact key 8
 ·exact key 16
 ·exact key 32
 ·exact key 64
 ·exact key 128
theorem QCj{t x o b:Nat}(h:t<8):go (8-t) x (b/2^t) o=go (8-(t+1)) (xt x) (b/2^(t+1)) (if b/2^t % 2=1 then o^^^x else o):=by
 rw[show 8-t=(8-(t+1))+1 by omega];show go (8-(t+1)) (xt x) (b/2^t/2) (cond (Nat.beq (b/2^t % 2) 1) (o^^^x) o)=_
 rw[Nat.div_div_eq_div_mul,←Nat.pow_succ]
 congr 1
 by_cases e:b/2^t % 2=1
 ·rw[if_pos e,e];rfl
 ·rw[if_neg e,Q0f.2 e];rfl
theorem QA3{w:World}(a b:UInt8):Calls prog 155 #[vb a,vb b] w fun e w'=>e= .returned (vb (gm a b))/\w'=w:=by
 refine(F155_calls a.toNat b.toNat w (fun v w'=>v=vb (gm a b)/\w'=w)
  (fun _ x o i w1=>0<=i/\i<=8/\w1=w/\∃l m:Nat,x=l/\o=m/\l<256/\m<256/\go (8-i.toNat) l (b.toNat/2^i.toNat) m=go 8 a.toNat b.toNat 0)
  (fun _ _ _ i _=>(8-i).toNat) ?_).mono (by rintro e w' ⟨v,rfl,rfl,h⟩;exact⟨rfl,h⟩)
 have ha:=QC7 a;have hb:=QC7 b;refine⟨⟨by omega,by omega,rfl,a.toNat,0,w64 (by omega),rfl,ha,by omega,by simp⟩,?_⟩;rintro xI oI i E ⟨s,G,rfl,x,o,rfl,rfl,u,F,p⟩
 intros
 obtain⟨t,rfl⟩:=Int.eq_ofNat_of_zero_le s;simp only[Ze]at p;refine Q0 (fun hs=> ?_) (fun hs=> ?_)
 ·simp only[Za]at hs
  have ht:t<8:=by omega
  have B:b.toNat/2^t<256:=Nat.lt_of_le_of_lt (Nat.div_le_self _ _) hb;have r:QO .xor .i64 ((x*2:Nat):Int) 285=((x*2^^^285:Nat):Int):=Qwl (b:=285) (by omega) (by omega);rw[fd8 _ ht,Qcm _ B,QLm u,w64 (n:=(t:Int)+1) (by omega),r,Qwl (a:=o) (b:=x) (by omega) (by omega)];have D:o^^^x<256:=Nat.xor_lt_two_pow (n:=8) F u;have q:((8:Int)-((t:Int)+1)).toNat<((8:Int)-t).toNat:=by omega
  have fin:∀y z:Nat,y=xt x->z=(if b.toNat/2^t % 2=1 then o^^^x else o)->(0<=(t:Int)+1/\(t:Int)+1<=8/\E=E/\∃l m:Nat,(y:Int)=l/\(z:Int)=m/\l<256/\m<256/\go (8-((t:Int)+1).toNat) l (b.toNat/2^((t:Int)+1).toNat) m=go 8 a.toNat b.toNat 0)/\((8:Int)-((t:Int)+1)).toNat<((8:Int)-t).toNat:=by
   rintro y z rfl rfl;refine⟨⟨by omega,by omega,rfl,_,_,rfl,rfl,Qcl u,?_,?_⟩,q⟩
   ·split
    ·exact D
    ·exact F
   ·rw[show((t:Int)+1).toNat=t+1 by omega,←QCj ht];exact p
  have g:(256:Int)<=((x*2:Nat):Int)->x*2^^^285=xt x:=fun h=>by
   unfold xt;rw[show Nat.ble 256 (x*2)=true by rw[Nat.ble_eq];omega]
   rfl
  have j:¬(256:Int)<=((x*2:Nat):Int)->x*2=xt x:=fun h=>by
   unfold xt;have:Nat.ble 256 (x*2)=false:=by
    rw[←Bool.not_eq_true,Nat.ble_eq];omega
   rw[this]
   rfl
  refine⟨by rw[w8 ht];omega,Q0 (fun f=> ?_) (fun f=> ?_)⟩
  ·simp only[Za]at f
   refine⟨by omega,Q0 (fun d=> ?_) (fun d=> ?_)⟩
   ·simp only[Za]at d
    exact fin _ _ (g d) (by rw[if_pos (by omega)])
   ·simp only[Zb]at d
    exact fin _ _ (j d) (by rw[if_pos (by omega)])
  ·simp only[Zb]at f
   refine⟨by omega,Q0 (fun d=> ?_) (fun d=> ?_)⟩
   ·simp only[Za]at d
    exact fin _ _ (g d) (by rw[if_neg (by omega)])
   ·simp only[Zb]at d
    exact fin _ _ (j d) (by rw[if_neg (by omega)])
 ·simp only[Zb]at hs
  obtain rfl:t=8:=by omega
  have e:o=gmN a.toNat b.toNat:=by rw[QQc ha hb,←p];rfl
  refine⟨?_,rfl⟩;rw[Qp9 _ (by omega),Ze,e,←QS0];show Value.int .u8 ((pt (gm a b).toNat).toNat:Int)=vb (gm a b)
  unfold pt;rw[UInt8.ofNat_toNat]
set_option maxRecDepth 20000 in
theorem Qxa{w:World}(a:UInt8):Calls prog 189 #[vb a] w fun e w'=>e= .returned (.tuple #[vb (gi a),int i64 (if a=0 then 10 else 0)])/\w'=w:=by
 refine(F189_calls a.toNat w (fun v w'=>v= .tuple #[vb (gi a),int i64 (if a=0 then 10 else 0)]/\w'=w)
  (fun _ i w1=>1<=i/\i<=256/\w1=w/\∀j:Nat,1<=j->(j:Int)<i->gm a (pt j)≠1) (fun _ i _=>(256-i).toNat) ?_).mono (by rintro e w' ⟨v,rfl,rfl,h⟩;exact⟨rfl,h⟩)
 refine⟨⟨by omega,by omega,rfl,fun j d g=>by omega⟩,?_⟩;rintro i o ⟨p,q,rfl,f⟩
 intros
 obtain⟨t,rfl⟩:=Int.eq_ofNat_of_zero_le (show 0<=i by omega);refine Q0 (fun hs=> ?_) (fun hs=> ?_)
 ·simp only[Za]at hs
  rw[Qp9 _ (by omega),Ze];refine(QA3 (w:=o) a (pt t)).mono ?_;rintro e r ⟨rfl,rfl⟩;refine⟨_,rfl,Q0 (fun d=> ?_) (fun d=> ?_)⟩
  ·simp only[Za]at d
   have g:gm a (pt t)=1:=QQa.1 (by rw[d];rfl);have l:a≠0:=fun e=>by rw[e,QU]at g;revert g;decide
   rw[if_neg l,←Q2a g];exact⟨rfl,rfl⟩
  ·simp only[Zb]at d
   rw[w64 (n:=(t:Int)+1) (by omega)];refine⟨⟨by omega,by omega,rfl,fun j m s=> ?_⟩,by show((256:Int)-((t:Int)+1)).toNat<((256:Int)-t).toNat;omega⟩
   by_cases e:j=t
   ·subst e
    exact fun h=>d (by rw[h];rfl)
   ·exact f j m (by omega)
 ·simp only[Zb]at hs
  have l:a=0:=Decidable.byContradiction fun h=>by
   have d:=f (gi a).toNat (Nat.pos_of_ne_zero fun e=>QAj h (QJ0.2 e)) (by have:=QC7 (gi a);omega);rw[Qdi]at d;exact d (QT8 h)
  subst l;exact⟨rfl,rfl⟩
theorem Qsa{w:World}(a b:UInt8)(hb:b≠0):Calls prog 216 #[vb a,vb b] w fun e w'=>e= .returned (.tuple #[vb (gm a (gi b)),int i64 0])/\w'=w:=by
 refine(F216_calls a.toNat b.toNat w (fun v w'=>v= .tuple #[vb (gm a (gi b)),int i64 0]/\w'=w) ?_).mono (by rintro e w' ⟨v,rfl,rfl,h⟩;exact⟨rfl,h⟩);refine(Qxa b).mono ?_;rintro e d ⟨rfl,rfl⟩;rw[if_neg hb];refine⟨_,_,rfl,Q0 (fun h=>by simp at h) fun _=>(QA3 a (gi b)).mono ?_⟩;rintro e f ⟨rfl,rfl⟩;exact⟨_,rfl,rfl,rfl⟩
theorem Qu1(k m:Int)(w:World):Calls prog 153 #[int i64 k,int i64 m] w fun e w'=>e= .returned (int i64 (kmE k m))/\w'=w:=by
 refine(F153_calls k m w (fun v w'=>v=int i64 (kmE k m)/\w'=w) ?_).mono (by rintro e w' ⟨v,rfl,rfl,h⟩;exact⟨rfl,h⟩);have bad:¬QZ0 k m->(int i64 50=int i64 (kmE k m)/\w=w):=fun h=>⟨by rw[Qq1 h],rfl⟩;refine Q0 (fun h=>bad fun⟨d,_⟩=> ?_) fun d=>Q0 (fun h=>bad fun⟨_,_,d,_⟩=> ?_) fun f=>Q0 (fun h=>bad fun⟨_,d,_⟩=> ?_) fun g=>Q0 (fun h=>bad fun⟨_,_,_,d⟩=> ?_) fun i=>Q0 (fun h=>bad fun⟨_,_,_,d⟩=> ?_) fun j=> ?_
 ·simp only[Za]at h;omega
 ·simp only[Za]at h;omega
 ·simp only[Za]at h;omega
 ·simp only[Za,Zb]at h d f g;omega
 ·simp only[Zb]at d f g i
  rw[w64 (n:=k+m) (by omega)]at h;simp only[Za]at h;omega
 ·simp only[Zb]at d f g i
  rw[w64 (n:=k+m) (by omega)]at j;simp only[Zb]at j;rw[Q64 ⟨by omega,by omega,by omega,by omega⟩];exact⟨rfl,rfl⟩
theorem Qv8{w:World}{k i j:Nat}(h:k+i<4294967296):Calls prog 154 #[int i64 (k:Int),int i64 (i:Int),int i64 (j:Int)] w fun e w'=>e= .returned (vb (Q84 k i j))/\w'=w:=by
 refine(F154_calls k i j w (fun v w'=>v=vb (Q84 k i j)/\w'=w) ?_).mono (by rintro e w' ⟨v,rfl,rfl,h⟩;exact⟨rfl,h⟩);rw[w64 (n:=(k:Int)+i) (by omega),Qp9 _ (by omega),Qp9 _ (by omega),bx8,Ze,show((k:Int)+i).toNat=k+i by omega];refine(Qxa (pt (k+i)^^^pt j)).mono ?_;rintro e d ⟨rfl,rfl⟩;exact⟨_,_,rfl,rfl,rfl⟩
theorem QTb{w:World}(i j:Nat):Calls prog 212 #[int i64 (i:Int),int i64 (j:Int)] w fun e w'=>e= .returned (vb (if i=j then 1 else 0))/\w'=w:=by
 refine(F212_calls i j w (fun v w'=>v=vb (if i=j then 1 else 0)/\w'=w) ?_).mono (by rintro e w' ⟨v,rfl,rfl,h⟩;exact⟨rfl,h⟩);refine Q0 (fun h=> ?_) (fun h=> ?_)
 ·simp only[Za]at h
  rw[if_pos (by omega)];exact⟨rfl,rfl⟩
 ·simp only[Zb]at h
  rw[if_neg (by omega)];exact⟨rfl,rfl⟩
end Go.Proofs.YtkolafpgbhpdlaaGreat
namespace Go.Proofs.YtkolafpgbhpdlaaGreat
open Go Go.Vc Go.Gf
open Go.IntKind (i64)
open Go.Value (int)
open Go.Proofs.Tryz (prog)
theorem Qca{w e l:World}{m d o rows cols r c:Nat}{val:Nat->Nat->UInt8}{v:σ}{x cp':Nat}(K:Ext w e)(ne:m≠d)(n6:w.heap.size<=m)(p:w.heap.size<=d)(M:Q7 e m 137 (Q21 0 0 none 0 0))(z:Q7 e d 137 (Q21 rows cols v x cp'))
  (u:Q2 e w.heap.size v x cp' (QA4 val cols (r*cols+c))) (B:QG e o (.cells #[vb (val r c)] 5) l) (N:c<cols) (hb:r*cols+c<=1048576):
  ∃q L c2 f,Sem.run prog (Builtin.append_ #[25,25] 25 #[.slice v x cp', .slice (some (at0 o)) 1 1]) l= .ok (.slice q L c2) f/\QD f ((at0 d).add 2)∧
   ∀g,Qt f ((at0 d).add 2) (.slice q L c2) g->Qb6 w val rows cols (some (at0 m)) (some (at0 d)) (r*cols+(c+1)) g:=by
 have D:=Q2.len u;rw[Qm2]at D;obtain⟨q,c2,f,s,E,t⟩:=Q2.push u B K.size (by omega);have keep:∀{k:Nat}{cs:Array Value},Q7 e k 137 cs->Q7 f k 137 cs:=fun h=>Q7.keep h t fun y F=>by
  obtain⟨cs,O,fz,P,Q⟩:=Q5.typed u F;exact⟨cs,O,fz,P,by rw[Q];exact Qb0.1.symm⟩
 have i:=keep z;have G:=keep M;refine⟨q,_,c2,f,s,i.live3 (by simp),fun g H=> ?_⟩;obtain⟨I,j⟩:=i.set3 H;have J:=Q2.new_ext K t fun y F=>Q2.blk u F;refine⟨Q8 J p j,m,d,q,_,c2,rfl,rfl,ne,n6,p,j.keep G ne,I,?_⟩;rw[←Nat.add_assoc,←QO4 val N];exact Q2.apart E j i Qb0.1
theorem Qb6.open_{w w1:World}{g d rows cols L:Nat}{val:Nat->Nat->UInt8}(h:Qb6 w val rows cols (some (at0 g)) (some (at0 d)) L w1):Ext w w1/\g≠d/\w.heap.size<=g/\w.heap.size<=d/\Q7 w1 g 137 (Q21 0 0 none 0 0)∧
  ∃p l c,Q7 w1 d 137 (Q21 rows cols p l c)/\Q2 w1 w.heap.size p l c (QA4 val cols L):=by
 obtain⟨q,r,j,p,l,c,m,o,ne',i,e,r6'',f,s⟩:=h;simp only[Zi,at0,Zv,and_true]at m o;subst m o;exact⟨q,ne',i,e,r6'',p,l,c,f,s⟩
def Qa4(w:World)(val:Nat->Nat->UInt8)(R C:Nat)(v:Value)(w':World):Prop:=∃p l c,v= .tuple #[QQ7 R C p l c,int i64 0]/\Ext w w'/\Q2 w' w.heap.size p l c (QA4 val C (R*C))
theorem QFg{w:World}{k m:Nat}(hk:1<=k)(Y:k+m<=256):Calls prog 208 #[int i64 (k:Int),int i64 (m:Int)] w fun e w'=>∃v,e= .returned v/\Qa4 w (QP7 k) (k+m) k v w':=by
 refine F208_calls k m w (Qa4 w (QP7 k) (k+m) k)
  (fun o d _ r w1=>0<=r/\r<=((k+m:Nat):Int)/\Qb6 w (QP7 k) (k+m) k o d (r.toNat*k) w1) (fun _ _ _ r _=>(((k+m:Nat):Int)-r).toNat)
  (fun o d r _ c w1=>0<=c/\c<=k/\0<=r/\r<((k+m:Nat):Int)/\Qb6 w (QP7 k) (k+m) k o d (r.toNat*k+c.toNat) w1) (fun _ _ _ _ c _=>((k:Int)-c).toNat) ?_
 intro D S I;have T:Q7 S D 137 (Q21 0 0 none 0 0):=I.at;have Z:w.heap.size<=D:=by rw[I.size.1];exact Nat.le_refl _
 refine(Qu1 k m S).mono ?_;rintro e w5 ⟨rfl,rfl⟩;rw[Q64 ⟨by omega,by omega,by omega,by omega⟩,w64 (n:=(k:Int)+m) (by omega),show(k:Int)+(m:Int)=((k+m:Nat):Int) by omega];refine⟨_,rfl,Q0 (fun h=>by simp at h) fun _=>Qv3 fun q aa r14 ab E=> ?_⟩;have ne:D≠q:=by have:=Qe T;omega
 refine⟨⟨by omega,by omega,I.ext.trans E,D,q,none,0,0,rfl,rfl,ne,Z,by have:=I.ext.size;omega,E.keep T,r14,?_⟩,?_⟩
 ·rw[show(0:Int).toNat*k=0 by simp];exact Q5.nil _ _ _ _
 rintro r L ⟨s,ac,hM⟩
 intros
 obtain⟨t,rfl⟩:=Int.eq_ofNat_of_zero_le s;refine Q0 (fun hs=> ?_) (fun hs=> ?_)
 ·simp only[Za]at hs
  refine⟨⟨by omega,by omega,s,hs,by rw[show(0:Int).toNat=0 from rfl,Nat.add_zero];exact hM⟩,?_⟩;rintro c x ⟨M,ad,_,_,hM59⟩
  intros
  obtain⟨u,rfl⟩:=Int.eq_ofNat_of_zero_le M;have U:t*k<=256*256:=Nat.mul_le_mul (by omega) (by omega);refine Q0 (fun ht=> ?_) (fun ht=> ?_)
  ·simp only[Za]at ht
   simp only[Ze]at hM59;have fin:∀y:Int,Value.int .u8 y=vb (QP7 k t u)->F208_A0 x q y D (t:Int) L (u:Int) x (Qa4 w (QP7 k) (k+m) k)
     (fun o d _ r w1=>0<=r/\r<=((k+m:Nat):Int)/\Qb6 w (QP7 k) (k+m) k o d (r.toNat*k) w1) (fun _ _ _ r _=>(((k+m:Nat):Int)-r).toNat)
     (fun o d r _ c w1=>0<=c/\c<=k/\0<=r/\r<((k+m:Nat):Int)/\Qb6 w (QP7 k) (k+m) k o d (r.toNat*k+c.toNat) w1) (fun _ _ _ _ c _=>((k:Int)-c).toNat):=by
    intro y he;obtain⟨N,ne',z,g,J,p,l,cp,f,K⟩:=hM59.open_;refine⟨_,_,_,f.cell3 rfl,fun af ah F=> ?_⟩;rw[he]at F;obtain⟨p2,l2,c2,O,G,lv,H⟩:=Qca N ne' z g J f K F (by omega) (by omega);refine⟨p2,l2,c2,O,G,lv,fun P Q=> ?_⟩;rw[w64 (n:=(u:Int)+1) (by omega)];refine⟨⟨by omega,by omega,s,hs,?_⟩,by show((k:Int)-((u:Int)+1)).toNat<((k:Int)-u).toNat;omega⟩;rw[Ze,show((u:Int)+1).toNat=u+1 by omega];exact H P Q
   refine(QTb (w:=x) t u).mono ?_;rintro e ak ⟨rfl,rfl⟩;refine⟨_,rfl,Q0 (fun B=> ?_) (fun B=> ?_)⟩
   ·simp only[Za]at B
    rw[w64 (n:=(t:Int)-k) (by omega),show(t:Int)-(k:Int)=((t-k:Nat):Int) by omega];refine(Qv8 (k:=k) (i:=t-k) (j:=u) (by omega)).mono ?_;rintro e al ⟨rfl,rfl⟩;refine⟨_,rfl,fin _ ?_⟩;show vb (Q84 k (t-k) u)=vb (QP7 k t u)
    unfold Q84 QP7;rw[if_neg (by omega),show k+(t-k)=t by omega]
   ·simp only[Zb]at B
    refine fin _ ?_;show vb (if t=u then 1 else 0)=vb (QP7 k t u)
    unfold QP7;rw[if_pos (show t<k by omega)]
  ·simp only[Zb]at ht
   obtain rfl:u=k:=by omega
   rw[w64 (n:=(t:Int)+1) (by omega)];refine⟨⟨by omega,by omega,?_⟩,by show(((u+m:Nat):Int)-((t:Int)+1)).toNat<(((u+m:Nat):Int)-t).toNat;omega⟩;rw[show((t:Int)+1).toNat=t+1 by omega,Nat.add_mul,Nat.one_mul];exact hM59
 ·simp only[Zb]at hs
  obtain⟨N,ne',z,g,J,p,l,cp,f,K⟩:=hM.open_;refine Qeh (R:=Qa4 w (QP7 k) (k+m) k) f J rfl fun w' X=>⟨p,l,cp,rfl,Q8 N z X,?_⟩;rw[show((t:Nat):Int).toNat=k+m by omega]at K;exact Q2.apart K X J Qb0.1
theorem QJg{w:World}{k m:Nat}(hk:1<=k)(aa:k+m<=256):Calls prog 116 #[int i64 (k:Int),int i64 (m:Int)] w fun e w'=>∃v,e= .returned v/\Qa4 w (Q84 k) m k v w':=by
 refine F116_calls k m w (Qa4 w (Q84 k) m k)
  (fun L o _ r w1=>0<=r/\r<=m/\Qb6 w (Q84 k) m k L o (r.toNat*k) w1) (fun _ _ _ r _=>((m:Int)-r).toNat)
  (fun L o r _ c w1=>0<=c/\c<=k/\0<=r/\r<m/\Qb6 w (Q84 k) m k L o (r.toNat*k+c.toNat) w1) (fun _ _ _ _ c _=>((k:Int)-c).toNat) ?_
 intro G T H;have U:Q7 T G 137 (Q21 0 0 none 0 0):=H.at;have n3:w.heap.size<=G:=by rw[H.size.1];exact Nat.le_refl _
 refine(Qu1 k m T).mono ?_;rintro e w5 ⟨rfl,rfl⟩;rw[Q64 ⟨by omega,by omega,by omega,by omega⟩];refine⟨_,rfl,Q0 (fun h=>by simp at h) fun _=>Qv3 fun f ac r14 ad y=> ?_⟩;have ne:G≠f:=by have:=Qe U;omega
 refine⟨⟨by omega,by omega,H.ext.trans y,G,f,none,0,0,rfl,rfl,ne,n3,by have:=H.ext.size;omega,y.keep U,r14,?_⟩,?_⟩
 ·rw[show(0:Int).toNat*k=0 by simp];exact Q5.nil _ _ _ _
 rintro r ae ⟨q,af,hM⟩
 intros
 obtain⟨t,rfl⟩:=Int.eq_ofNat_of_zero_le q;refine Q0 (fun hs=> ?_) (fun hs=> ?_)
 ·simp only[Za]at hs
  refine⟨⟨by omega,by omega,q,hs,by rw[show(0:Int).toNat=0 from rfl,Nat.add_zero];exact hM⟩,?_⟩;rintro c ah ⟨M,ai,_,_,hM47⟩
  intros
  obtain⟨u,rfl⟩:=Int.eq_ofNat_of_zero_le M;have X:t*k<=256*256:=Nat.mul_le_mul (by omega) (by omega);refine Q0 (fun ht=> ?_) (fun ht=> ?_)
  ·simp only[Za]at ht
   simp only[Ze]at hM47;obtain⟨N,ne',s,g,I,p,l,cp,x,J⟩:=hM47.open_;intro z K;have d:Q7 z f 137 (Q21 m k p l cp):=K.ext.keep x;refine⟨_,_,_,d.cell3 rfl,(Qv8 (w:=z) (k:=k) (i:=t) (j:=u) (by omega)).mono ?_⟩;rintro e Y ⟨rfl,rfl⟩;refine⟨_,rfl,⟨_,_,_,d.cell3 rfl,rfl⟩,fun aj O B=> ?_⟩;have D:Q7 O f 137 (Q21 m k p l cp):=B.ext.keep d;obtain⟨p2,l2,c2,P,E,lv,F⟩:=Qca (N.trans K.ext) ne' s g (K.ext.keep I) d (Q2.ext J K.ext) B (by omega) (by omega);refine⟨⟨_,_,_,D.cell3 rfl,rfl⟩,p2,l2,c2,P,E,lv,fun Q S=> ?_⟩;rw[w64 (n:=(u:Int)+1) (by omega)];refine⟨⟨by omega,by omega,q,hs,?_⟩,by show((k:Int)-((u:Int)+1)).toNat<((k:Int)-u).toNat;omega⟩;rw[Ze,show((u:Int)+1).toNat=u+1 by omega];exact F Q S
  ·simp only[Zb]at ht
   obtain rfl:u=k:=by omega
   rw[w64 (n:=(t:Int)+1) (by omega)];refine⟨⟨by omega,by omega,?_⟩,by show((m:Int)-((t:Int)+1)).toNat<((m:Int)-t).toNat;omega⟩;rw[show((t:Int)+1).toNat=t+1 by omega,Nat.add_mul,Nat.one_mul];exact hM47
 ·simp only[Zb]at hs
  obtain⟨N,ne',s,g,I,p,l,cp,x,J⟩:=hM.open_;refine Qeh (R:=Qa4 w (Q84 k) m k) x I rfl fun w' Z=>⟨p,l,cp,rfl,Q8 N s Z,?_⟩;rw[show((t:Nat):Int).toNat=m by omega]at J;exact Q2.apart J Z I Qb0.1
end Go.Proofs.YtkolafpgbhpdlaaGreat
namespace Go.Proofs.YtkolafpgbhpdlaaGreat
open Go Go.Vc Go.Gf
open Go.IntKind (i64)
open Go.Value (int)
open Go.Proofs.Tryz (prog)
theorem Q06{w:World}{p:σ}{c R C:Nat}(g:R<=256)(i:C<=256):
  Calls prog 213 #[.agg #[int i64 (R:Int),int i64 (C:Int), .slice p (R*C) c]] w fun e w'=>e= .returned (int i64 0)/\Ext w w':=by
 refine(F213_calls R C p (R*C) c w (fun v w'=>v=int i64 0/\Ext w w') ?_).mono (by rintro e w' ⟨v,rfl,rfl,h⟩;exact⟨rfl,h⟩);intro j l f;have d:Q7 l j 137 (Q21 R C p (R*C) c):=f.at;have m:R*C<=256*256:=Nat.mul_le_mul g i
 refine⟨_,d.cell3 rfl,Q0 (fun h=>by simp only[Za]at h;omega) fun _=>⟨_,d.cell3 rfl,Q0 (fun h=>by simp only[Za]at h;omega) fun _=>⟨_,d.cell3 rfl,Q0 (fun h=>by simp only[Za]at h;omega) fun _=>
  ⟨_,d.cell3 rfl,Q0 (fun h=>by simp only[Za]at h;omega) fun _=>⟨_,_,_,d.cell3 rfl,_,d.cell3 rfl,_,d.cell3 rfl,?_⟩⟩⟩⟩⟩
 rw[Qal (by omega)];exact Q0 (fun h=>by simp at h) fun _=>⟨rfl,f.ext⟩
theorem QLh(val:Nat->Nat->UInt8){C:Nat}(i:Nat):∀c,c<=C->QA4 val C (i*C)++(List.range c).map (val i)=QA4 val C (i*C+c):=by
 intro c
 induction c with
 |zero=>intro _;simp
 |succ c ih=>
  intro d;rw[List.range_succ,Zp,←List.append_assoc,ih (by omega)];exact QO4 val (by omega)
theorem Qhf{a:Addr}{C r c:Nat}(f:0<C)(g:(r+1)*C<=c)(hb:(r+1)*C<=1048576)(h:r<=1048576):
  (0<=i64.wrap (i64.wrap ((r:Int)+1)*(C:Int))/\i64.wrap (i64.wrap ((r:Int)+1)*(C:Int))<=(c:Int))∧
  (0<=i64.wrap ((r:Int)*(C:Int))/\i64.wrap ((r:Int)*(C:Int))<=(((i64.wrap (i64.wrap ((r:Int)+1)*(C:Int))).toNat:Nat):Int))∧
  Value.slice (QT0 (some a) c (i64.wrap ((r:Int)*(C:Int))).toNat 1) ((i64.wrap (i64.wrap ((r:Int)+1)*(C:Int))).toNat-(i64.wrap ((r:Int)*(C:Int))).toNat) (c-(i64.wrap ((r:Int)*(C:Int))).toNat)=
   .slice (some (a.add (r*C))) C (c-r*C):=by
 have d:(r+1)*C=r*C+C:=by rw[Nat.add_mul,Nat.one_mul]
 have e:i64.wrap ((r:Int)+1)=((r+1:Nat):Int):=w64 (by omega);rw[e,Qal (by omega),Qal (by omega)];refine⟨⟨by omega,by omega⟩,⟨by omega,by omega⟩,?_⟩;rw[Ze,Ze];unfold QT0;rw[if_neg (by omega),d];show Value.slice (some (a.add (r*C*1))) _ _=_
 rw[Nat.mul_one,Nat.add_sub_cancel_left]
theorem Qie{w:World}{a:Addr}{c R C m c4:Nat}{p4:σ}{V:Nat->Nat->UInt8}{L:List Nat}(hA:QIi w a R C V)(hL:Qj0 w p4 m L)(aj:∀t∈L,t<R)(hm:m<=256)(hR:R<=256)(hC:C<=256)(hC0:0<C)(hc:R*C<=c):
  Calls prog 210 #[.agg #[int i64 (R:Int),int i64 (C:Int), .slice (some a) (R*C) c], .slice p4 m c4] w fun e w'=>∃v,e= .returned v/\Qa4 w (fun r c=>V (L.getD r 0) c) m C v w':=by
 refine F210_calls R C (some a) (R*C) c p4 m c4 w (Qa4 w (fun r c=>V (L.getD r 0) c) m C)
  (fun q5 q7 al _ i w1=>0<=i/\i<=m/\Q04 w1 q5 137 (Q21 R C (some a) (R*C) c)/\Qb6 w (fun r c=>V (L.getD r 0) c) m C q7 al (i.toNat*C) w1) (fun _ _ _ _ i _=>(m-i).toNat) ?_
 have bc:=hL.1;have be:m*C<=256*256:=Nat.mul_le_mul hm hC;have bf:R*C<=256*256:=Nat.mul_le_mul hR hC;intro k5 w6 h5 K w8 M;have r5:Q7 w8 k5 137 (Q21 R C (some a) (R*C) c):=M.ext.keep h5.at;have r7:Q7 w8 K 137 (Q21 0 0 none 0 0):=M.at;have x8:=h5.ext.trans M.ext;have n7:w.heap.size<=K:=by rw[M.size.1];exact h5.ext.size
 refine⟨_,r5.cell0 rfl,_,r5.cell3 rfl,_,_,_,r5.cell3 rfl,(Q06 hR hC).mono ?_⟩;rintro e N ⟨rfl,x⟩;have H:Q7 N k5 137 (Q21 R C (some a) (R*C) c):=x.keep r5;have O:Q7 N K 137 (Q21 0 0 none 0 0):=x.keep r7;refine⟨_,rfl,Q0 (fun h=>by simp at h) fun _=>Q0 (fun h=>by simp only[Za]at h;omega) fun _=>⟨_,H.cell3 rfl,Qv3 fun q bg aq bh I=> ?_⟩⟩;have ne:K≠q:=by have:=Qe O;omega
 have P:=x8.trans (x.trans I);refine⟨⟨by omega,by omega,Q04.of (I.keep H),P,K,q,none,0,0,rfl,rfl,ne,n7,by have:=(x8.trans x).size;omega,I.keep O,aq,?_⟩,?_⟩
 ·rw[show(0:Int).toNat*C=0 by simp];exact Q5.nil _ _ _ _
 rintro i ar ⟨s,bi,Q,hM⟩
 intros
 obtain⟨t,rfl⟩:=Int.eq_ofNat_of_zero_le s;obtain⟨hx,ne',S,D,s7,p,l,cp,T,ho⟩:=hM.open_;simp only[Ze]at ho;refine Q0 (fun hs=> ?_) (fun hs=> ?_)
 ·simp only[Za]at hs
  intro av hd;have U:=hx.trans hd.ext;obtain⟨b,rfl,hb⟩:=(hL.ext U).get (i:=t) (by omega);have aw:L.getD t 0<R:=by
   rw[Zj,Zc (by omega)];exact aj _ (List.getElem_mem _)
  have s5:=(Q.ext hd.ext).get;have m2:(L.getD t 0+1)*C<=R*C:=Nat.mul_le_mul_right C (by omega);have J:av.cell? (b.add ((t:Int).toNat*1))=some (int i64 ((L.getD t 0:Nat):Int)):=by rw[Ze,Nat.mul_one];exact hb
  refine⟨⟨s,hs⟩,_,J,Q0 (fun h=>by simp only[Za]at h;omega) fun _=>⟨⟨s,hs⟩,_,J,_,s5.cell3 rfl,Q0 (fun h=>by simp only[Za]at h;omega) fun _=>fun j z=> ?_⟩⟩;have u:=U.trans z.ext;have f:Ext ar j:=hd.ext.trans z.ext;have B:=((Q.ext hd.ext).ext z.ext).get;have E:Q7 j q 137 (Q21 m C p l cp):=f.keep T;have X:j.cell? (b.add ((t:Int).toNat*1))=some (int i64 ((L.getD t 0:Nat):Int)):=z.ext.cell J id;obtain⟨ax,ay,az⟩:=Qhf (a:=a) (C:=C) (r:=L.getD t 0) (c:=c) hC0 (by omega) (by omega) (by omega);have g:=Q2.ext ho f;have Y:=Q2.len g;rw[Qm2]at Y;have m1:(t+1)*C<=m*C:=Nat.mul_le_mul_right C (by omega);have m0:(t+1)*C=t*C+C:=by rw[Nat.add_mul,Nat.one_mul]
  obtain⟨p',c',F,Z,aa,G⟩:=Q2.append (d:=c-L.getD t 0*C) g ((hA.ext u) _ aw) u.size (by omega);have keep:∀{k:Nat}{cs:Array Value},Q7 j k 137 cs->Q7 F k 137 cs:=fun h=>Q7.keep h G fun y hy=>by
   obtain⟨cs,e',fz,M,h8⟩:=Q5.typed g hy;exact⟨cs,e',fz,M,by rw[h8];exact Qb0.1.symm⟩
  have t28:=keep E;have t7:=keep (f.keep s7);have t5:=keep B;have ab:=Q2.new_ext u G fun y hy=>Q2.blk g hy;refine⟨_,_,_,E.cell3 rfl,_,_,_,B.cell3 rfl,⟨s,hs⟩,_,X,_,B.cell3 rfl,⟨s,hs⟩,_,X,_,B.cell3 rfl,ax,ay,p',_,c',F,by rw[az];exact Z,t28.live3 (by simp),fun a7 ac=> ?_⟩;obtain⟨ad,o⟩:=t28.set3 ac;have a1:=Qe t28;rw[w64 (n:=(t:Int)+1) (by omega)];refine⟨⟨by omega,by omega,?_,Q8 ab D o,K,q,p',_,c',rfl,rfl,ne',S,D,o.keep t7 ne',ad,?_⟩,by show((m:Int)-((t:Int)+1)).toNat<((m:Int)-t).toNat;omega⟩
  ·by_cases e:k5=q
   ·exact absurd e (by have:=Qe H;omega)
   ·exact Q04.of (o.keep t5 e)
  ·rw[show((t:Int)+1).toNat=t+1 by omega,m0,←QLh (fun r c=>V (L.getD r 0) c) t C (Nat.le_refl _)]
   exact Q2.apart aa o t28 Qb0.1
 ·simp only[Zb]at hs
  refine Qeh (R:=Qa4 w (fun r c=>V (L.getD r 0) c) m C) T s7 rfl fun w' hu=>⟨p,l,cp,rfl,Q8 hx S hu,?_⟩;rw[show t=m by omega]at ho;exact Q2.apart ho hu s7 Qb0.1
end Go.Proofs.YtkolafpgbhpdlaaGreat
namespace Go.Proofs.YtkolafpgbhpdlaaGreat
open Go Go.Vc Go.Gf
open Go.IntKind (i64)
open Go.Value (int)
open Go.Proofs.Tryz (prog)
def Qw6(V:Nat->Nat->UInt8)(C r:Nat):τ:=(List.range C).map (V r)
theorem QZg{w:World}{a:Addr}{c R C:Nat}{V:Nat->Nat->UInt8}(hA:QIi w a R C V)(hR:R<=256)(hC:C<=256)(hC0:0<C)(hc:R*C<=c):
  Calls prog 214 #[.agg #[int i64 (R:Int),int i64 (C:Int), .slice (some a) (R*C) c]] w fun e w'=>∃p j,e= .returned (.slice p R j)/\Ext w w'/\QL0 w' w.heap.size p R j (Qw6 V C):=by
 refine(F214_calls R C (some a) (R*C) c w (fun v w'=>∃p j,v= .slice p R j/\Ext w w'/\QL0 w' w.heap.size p R j (Qw6 V C))
  (fun q4 _ p l cp i w1=>0<=i/\i<=R/\(l:Int)=i/\Ext w w1/\Q04 w1 q4 137 (Q21 R C (some a) (R*C) c)/\QL0 w1 w.heap.size p l cp (Qw6 V C)) (fun _ _ _ _ _ i _=>(R-i).toNat) ?_).mono (by rintro e w' ⟨v,rfl,p,j,rfl,h⟩;exact⟨p,j,rfl,h⟩)
 have af:R*C<=256*256:=Nat.mul_le_mul hR hC;intro Y w5 D;have n4:w.heap.size<=Y:=by rw[D.size.1];exact Nat.le_refl _
 refine⟨⟨by omega,by omega,rfl,D.ext,Q04.of D.at,QL0.nil _ _ _⟩,?_⟩;rintro p l cp i Z ⟨E,ah,ai,o,F,hS⟩
 intros
 obtain⟨t,rfl⟩:=Int.eq_ofNat_of_zero_le E;have G:=F.get;refine⟨_,G.cell3 rfl,Q0 (fun hs=> ?_) (fun hs=> ?_)⟩
 ·simp only[Za]at hs
  intro H q f;have s:Q2 q Z.heap.size (some (at0 H)) 0 0 []:=Q5.made f (by rw[f.size.1];exact Nat.le_refl _) (Nat.le_refl _) (by unfold maxLen;omega) rfl;have m:Q7 q Y 137 (Q21 R C (some a) (R*C) c):=f.ext.keep G;have m2:(t+1)*C<=R*C:=Nat.mul_le_mul_right C (by omega);obtain⟨I,J,K⟩:=Qhf (a:=a) (C:=C) (r:=t) (c:=c) hC0 (by omega) (by omega) (by omega);obtain⟨L,M,z,hr,B,N⟩:=Q2.append (d:=c-t*C) s ((hA.ext (o.trans f.ext)) t (by omega)) f.ext.size (by omega);rw[List.nil_append]at B;have g:Ext Z z:=Q2.new_ext f.ext N fun x o=>Q2.blk s o;refine⟨_,_,_,m.cell3 rfl,_,m.cell3 rfl,_,m.cell3 rfl,I,J,L,_,M,z,by rw[K];exact hr,fun ak al O=> ?_⟩;obtain⟨p',j,Q,S,T,hu⟩:=hS.push g B O o.size (by omega);rw[w64 (n:=(t:Int)+1) (by omega)];refine⟨_,_,_,Q,S,⟨by omega,by omega,by omega,Q2.new_ext (o.trans g) hu fun y U=> ?_,?_,T.congr fun u _=> ?_⟩,by show((R:Int)-((t:Int)+1)).toNat<((R:Int)-t).toNat;omega⟩
  ·obtain⟨P,X,_⟩:=hS
   exact Q5.blk X U
  ·obtain⟨P,X,_⟩:=hS
   refine Q04.of (Q7.keep (g.keep G) hu fun y U=> ?_);obtain⟨cs,e',fz,h7,h8⟩:=Q5.typed (Q5.ext X g) U;exact⟨cs,e',fz,h7,by rw[h8];exact Qb0.2.2.2.2.symm⟩
  ·by_cases e:u=l
   ·rw[if_pos e,show u=t by omega];rfl
   ·rw[if_neg e]
 ·simp only[Zb]at hs
  obtain rfl:l=R:=by omega
  exact⟨p,cp,rfl,o,hS⟩
def Qn3(xs ys:τ)(c:Nat):τ:=(List.range xs.length).map fun i=>co xs i^^^gm (gm (co xs c) (gi (co ys c))) (co ys i)
theorem QL9{w:World}{r s:σ}{d c1 q c2 c:Nat}{xs ys:τ}(u:Q1 w r d xs)(G:Q1 w s q ys)(hl:d=q)(J:d<=1048576)(K:c<d)(x:co ys c≠0):
  Calls prog 215 #[.slice r d c1, .slice s q c2,int i64 (c:Int)] w fun e w'=>∃p g,e= .returned (.slice p d g)/\Ext w w'/\Q2 w' w.heap.size p d g (Qn3 xs ys c):=by
 have L:=u.1
 refine(F215_calls r d c1 s q c2 c w (fun v w'=>∃p g,v= .slice p d g/\Ext w w'/\Q2 w' w.heap.size p d g (Qn3 xs ys c))
  (fun _ _ p l cp i w1=>0<=i/\i<=d/\Ext w w1/\Q2 w1 w.heap.size p l cp ((Qn3 xs ys c).take i.toNat)) (fun _ _ _ _ _ i _=>(d-i).toNat) ?_).mono (by rintro e w' ⟨v,rfl,p,g,rfl,h⟩;exact⟨p,g,rfl,h⟩)
 have M:(Qn3 xs ys c).length=d:=by simp[Qn3];omega
 intro N z;obtain⟨a1,rfl,O⟩:=Q1.co (u.ext z.ext) (i:=c) K;obtain⟨a2,rfl,P⟩:=Q1.co (G.ext z.ext) (i:=c) (by omega);refine⟨⟨by omega,by omega⟩,_,by rw[Ze,Nat.mul_one];exact O,⟨by omega,by omega⟩,_,by rw[Ze,Nat.mul_one];exact P,(Qsa (w:=N) (co xs c) (co ys c) x).mono ?_⟩;rintro e w9 ⟨rfl,rfl⟩;refine⟨_,_,rfl,⟨by omega,by omega,z.ext,by rw[show(Qn3 xs ys c).take (0:Int).toNat=[]from rfl];exact Q5.nil _ _ _ _⟩,?_⟩;rintro p l cp i Q ⟨j,S,H,m⟩
 intros
 obtain⟨t,rfl⟩:=Int.eq_ofNat_of_zero_le j;have lo:=Q2.len m;rw[List.length_take]at lo;refine Q0 (fun hs=> ?_) (fun hs=> ?_)
 ·simp only[Za]at hs
  intro B o;have f:=H.trans o.ext;obtain⟨T,U,I⟩:=Q1.co (u.ext f) (i:=t) (by omega);cases U;obtain⟨X,Y,Z⟩:=Q1.co (G.ext f) (i:=t) (by omega);cases Y;refine⟨⟨j,hs⟩,_,by rw[Ze,Nat.mul_one];exact I,⟨j,by omega⟩,_,by rw[Ze,Nat.mul_one];exact Z,(QA3 (w:=B) (gm (co xs c) (gi (co ys c))) (co ys t)).mono ?_⟩;rintro e aa ⟨rfl,rfl⟩;refine⟨_,rfl,⟨_,by rw[Ze,Nat.mul_one];exact I,rfl⟩,?_⟩;rw[bx8];intro ab ac D;obtain⟨p',g,E,hr,F,hu⟩:=Q2.push (Q2.ext m o.ext) D f.size (by omega);rw[w64 (n:=(t:Int)+1) (by omega)];refine⟨_,_,_,E,hr,⟨by omega,by omega,Q2.new_ext f hu fun y x=>Q2.blk m x,?_⟩,by show((d:Int)-((t:Int)+1)).toNat<((d:Int)-t).toNat;omega⟩;have e3:(Qn3 xs ys c).take ((t:Int)+1).toNat=(Qn3 xs ys c).take (t:Int).toNat++ [co xs t^^^gm (gm (co xs c) (gi (co ys c))) (co ys t)]:=by
   rw[show((t:Int)+1).toNat=t+1 by omega,Ze,Zn,Zc (by omega)];simp[Qn3]
  rw[e3];exact F
 ·simp only[Zb]at hs
  rw[Zh (by omega)]at m;obtain rfl:l=d:=by
   have:=Q2.len m;omega
  exact⟨p,cp,rfl,H,m⟩
end Go.Proofs.YtkolafpgbhpdlaaGreat
namespace Go.Proofs.YtkolafpgbhpdlaaGreat
open Go Go.Vc Go.Gf
open Go.IntKind (i64)
open Go.Value (int)
open Go.Proofs.Tryz (prog)
theorem Qg.rowk{w:World}{base k n:Nat}{L:Nat->τ}(h:Qg w base (at0 k) n L)(d:0<n):∃cs,Q7 w k 25 cs:=h.typ d
theorem Qg.swap{w:World}{base k n i j:Nat}{L:Nat->τ}(h:Qg w base (at0 k) n L)(hi:i<n)(p:j<n):
  ∃B D c1 E F c2,w.cell? ((at0 k).add i)=some (.slice B D c1)/\w.cell? ((at0 k).add j)=some (.slice E F c2)/\QD w ((at0 k).add i)/\∀w1,Qt w ((at0 k).add i) (.slice E F c2) w1→
   QD w1 ((at0 k).add j)/\∀w2,Qt w1 ((at0 k).add j) (.slice B D c1) w2->Qg w2 base (at0 k) n (fun t=>if t=j then L i else if t=i then L j else L t)/\Upd (fun x=>x=k) w w2:=by
 obtain⟨cs,m⟩:=h.rowk (by omega);obtain⟨P,o,K⟩:=h.own;have f:∀t,t<n->t<cs.size:=fun t ht=>by
  have G:=(o t ht).1;rw[Qj m]at G;exact(Array.getElem?_eq_some_iff.1 G).1
 refine⟨_,_,_,_,_,_,(o i hi).1,(o j p).1,m.live3 (f i hi),fun w1 M=> ?_⟩;obtain⟨q,H⟩:=m.set3 M;refine⟨q.live3 (by simp[f j p]),fun w2 N=> ?_⟩;obtain⟨I,J⟩:=q.set3 N;have inj:∀s t,s<n->t<n->∀g,(P s).1=some (at0 g)->(P t).1=some (at0 g)->s=t:=fun s t hs ht g r d=>Decidable.byContradiction fun y=>K s t hs ht y g r d;refine⟨⟨fun _=>⟨_,I⟩,fun t=>if t=j then P i else if t=i then P j else P t,fun t ht=>⟨?_,?_⟩,?_⟩,Upd.trans H J fun _ _ h=>h⟩
 ·dsimp only
  rw[Qj I,Array.getElem?_setIfInBounds]
  by_cases e:t=j
  ·subst e
   simp only[if_true];rw[if_pos (by simp[f t ht])]
  ·rw[if_neg (fun d=>e d.symm),Array.getElem?_setIfInBounds,if_neg e]
   by_cases d:t=i
   ·subst d
    simp only[if_true];rw[if_pos (f t ht)]
   ·rw[if_neg (fun O=>d O.symm),if_neg d,←Qj m]
    exact(o t ht).1
 ·have keep:∀s,s<n->Q2 w2 base (P s).1 (P s).2.1 (P s).2.2 (L s):=fun s hs=>Q2.apart (Q2.apart (o s hs).2 H m QM.1.symm) J q QM.1.symm
  dsimp only
  by_cases e:t=j
  ·rw[if_pos e,if_pos e];exact keep i hi
  ·rw[if_neg e,if_neg e]
   by_cases d:t=i
   ·rw[if_pos d,if_pos d];exact keep j p
   ·rw[if_neg d,if_neg d];exact keep t ht
 ·have src:∀s,s<n->∃u,u<n/\(if s=j then P i else if s=i then P j else P s)=P u/\(s=j/\u=i\/s≠j/\s=i/\u=j\/s≠j/\s≠i/\u=s):=fun s hs=>by
   by_cases e:s=j
   ·exact⟨i,hi,by rw[if_pos e], .inl ⟨e,rfl⟩⟩
   ·by_cases d:s=i
    ·exact⟨j,p,by rw[if_neg e,if_pos d], .inr (.inl ⟨e,d,rfl⟩)⟩
    ·exact⟨s,hs,by rw[if_neg e,if_neg d], .inr (.inr ⟨e,d,rfl⟩)⟩
  intro s t hs ht Q g z l;obtain⟨u,S,r,c1⟩:=src s hs;obtain⟨v,T,d,c2⟩:=src t ht
  dsimp only at z l
  rw[r]at z;rw[d]at l;have:=inj u v S T g z l;omega
theorem Qg.append{w:World}{base k n i m d:Nat}{q:Addr}{L:Nat->τ}{xs:τ}(h:Qg w base (at0 k) n L)(hi:i<n)(N:Q1 w (some q) m xs)(hm:0<m)(hb:base<=w.heap.size)(hk:base<=k)(Z:(L i).length+m<=1073741824):
  ∃p l c,w.cell? ((at0 k).add i)=some (.slice p l c)/\∃x l' B w2,Sem.run prog (Builtin.append_ #[25,25] 25 #[.slice p l c, .slice (some q) m d]) w= .ok (.slice x l' B) w2/\QD w2 ((at0 k).add i)∧
   ∀D,Qt w2 ((at0 k).add i) (.slice x l' B) D->Qg D base (at0 k) n (fun t=>if t=i then L i++xs else L t)/\(∀w0,Ext w0 w->w0.heap.size<=base->Ext w0 D)∧
    ∀(z:Nat)(e:TypeId)(cs:Array Value),e≠5->e≠25->Q7 w z e cs->Q7 D z e cs:=by
 obtain⟨cs,O⟩:=h.rowk (by omega);obtain⟨P,E,Q⟩:=h.own;have F:i<cs.size:=by
  have f:=(E i hi).1;rw[Qj O]at f;exact(Array.getElem?_eq_some_iff.1 f).1
 obtain⟨hc,G⟩:=E i hi;have hl:=Q2.len G;obtain⟨x,B,w2,K,o2,S⟩:=Q2.append (d:=d) G N hb (by omega);have ai:=N.1;have r:=QA5 QJd 25 G (news:=QE xs) (by rw[Qb];omega) N.cells (Qd1 xs) hm (by unfold maxLen;omega) (by omega) K;have T:∀y,(P i).1=some (at0 y)->∃(cs:Array Value)(e':TypeId)(fz:Nat×Nat),w.heap[y]? =some (Obj.cells cs e' fz)/\e'=5:=fun y H=>Q5.typed G H;have kp:∀{z:Nat}{e:TypeId}{cs:Array Value},e≠5->Q7 w z e cs->Q7 w2 z e cs:=fun u K=>Q7.keep K S fun y H=>by
  obtain⟨a,b,c,d,e⟩:=T y H;exact⟨a,b,c,d,by rw[e];exact u.symm⟩
 have r2:=kp QM.1.symm O;have j:Q7 w2 k 25 cs:=r2;refine⟨_,_,_,hc,x,_,B,w2,K,j.live3 F,fun D s3=> ?_⟩;obtain⟨r3,M⟩:=j.set3 s3;have fresh:∀t,t<n->t≠i->∀g,(P t).1=some (at0 g)->x≠some (at0 g):=fun t ht U g o u=>by
  rcases r with e|e
  ·rw[e]at u
   exact Q i t hi ht (fun e=>U e.symm) g u o
  ·rw[e]at u
   simp only[Zi,at0,Zv,and_true]at u;have f:=(E t ht).2;rw[o]at f;have:=Q5.lt_heap f;omega
 refine⟨⟨fun _=>⟨_,r3⟩,fun t=>if t=i then(x,(P i).2.1+m,B)else P t,fun t ht=> ?_,?_⟩,fun w0 hx am=> ?_,fun z e cs' I X J=> ?_⟩
 ·dsimp only
  rw[Qj r3,Array.getElem?_setIfInBounds]
  by_cases e:t=i
  ·subst e
   simp only[if_true];rw[if_pos F];exact⟨rfl,Q2.apart o2 M j QM.1.symm⟩
  ·rw[if_neg (fun Y=>e Y.symm),if_neg e,if_neg e]
   refine⟨?_,Q2.apart (Q5.upd (E t ht).2 S fun g o hS=> ?_) M j QM.1.symm⟩
   ·rw[←Qj O]
    exact(E t ht).1
   ·exact Q i t hi ht (fun Y=>e Y.symm) g hS o
 ·intro s t hs ht v g o
  dsimp only at o⊢
  by_cases f:s=i
  ·rw[if_pos f]at o
   rw[if_neg (fun e=>v (f.trans e.symm))];exact fun u=>fresh t ht (fun e=>v (f.trans e.symm)) g u o
  ·rw[if_neg f]at o
   by_cases h6:t=i
   ·rw[if_pos h6];exact fresh s hs f g o
   ·rw[if_neg h6];exact Q s t hs ht v g o
 ·exact Q8 (Q2.new_ext hx S fun y H=>by have:=Q2.blk G H;omega) (by omega) M
 ·exact M.keep (kp I J) (Q7.ne (kp I J) j X)
end Go.Proofs.YtkolafpgbhpdlaaGreat
namespace Go.Proofs.YtkolafpgbhpdlaaGreat
open Go Go.Vc Go.Gf
open Go.IntKind (i64)
open Go.Value (int)
open Go.Proofs.Tryz (prog)
structure QF6(w:World)(n:Nat)(q6 p:σ)(L:Nat->τ)(w1:World):Prop where
 ext:Ext w w1
 n6:∀k,q6=some (at0 k)->w.heap.size<=k
 r6:Q04 w1 q6 137 (Q21 0 0 none 0 0)
 rows:∃g,p=some (at0 g)/\w.heap.size<=g/\Qg w1 w.heap.size (at0 g) n L
theorem QF6.mono{w w1 w2:World}{n:Nat}{e p:σ}{L:Nat->τ}(h:QF6 w n e p L w1)(d:Ext w1 w2):QF6 w n e p L w2:=
 ⟨h.ext.trans d,h.n6,h.r6.ext d,let⟨g,f,i,j⟩:=h.rows;⟨g,f,i,j.ext d⟩⟩
theorem QF6.congr{w w1:World}{n:Nat}{d p:σ}{L L':Nat->τ}(h:QF6 w n d p L w1)(e:∀i,i<n->L' i=L i):QF6 w n d p L' w1:=
 ⟨h.ext,h.n6,h.r6,let⟨g,f,j,l⟩:=h.rows;⟨g,f,j,l.congr e⟩⟩
theorem QF6.get{w w1:World}{n g:Nat}{e:σ}{L:Nat->τ}(h:QF6 w n e (some (at0 g)) L w1):w.heap.size<=g/\Qg w1 w.heap.size (at0 g) n L:=by
 obtain⟨j,d,f,i⟩:=h.rows;simp only[Zi,at0,Zv,and_true]at d;subst d;exact⟨f,i⟩
theorem QF6.write{w w1 w2:World}{n g:Nat}{d:σ}{L L':Nat->τ}(h:QF6 w n d (some (at0 g)) L w1)(i:Ext w w2)(j:∀(f:Nat)(e:TypeId)(cs:Array Value),e≠5->e≠25->Q7 w1 f e cs->Q7 w2 f e cs)
  (l:Qg w2 w.heap.size (at0 g) n L'):QF6 w n d (some (at0 g)) L' w2:=
 ⟨i,h.n6,let⟨k,m,o⟩:=h.r6;⟨k,m,j _ _ _ Qb0.1 Qb0.2.2.2.2 o⟩,g,rfl,h.get.1,l⟩
theorem QF6.table{w w1 w2:World}{n g:Nat}{d:σ}{L L':Nat->τ}{cs:Array Value}(h:QF6 w n d (some (at0 g)) L w1)(i:Q7 w1 g 25 cs)(e:Upd (fun x=>x=g) w1 w2)(j:Qg w2 w.heap.size (at0 g) n L'):QF6 w n d (some (at0 g)) L' w2:=
 h.write (Q8 h.ext h.get.1 e) (fun m _ _ _ l f=>e.keep f (Q7.ne f i l)) j
theorem Qg.live2{w:World}{base k n i:Nat}{L:Nat->τ}(h:Qg w base (at0 k) n L)(hi:i<n):QD w ((at0 k).add i):=by
 obtain⟨cs,d⟩:=h.rowk (by omega);obtain⟨P,f,g⟩:=h.own;have e:=(f i hi).1;rw[Qj d]at e;exact d.live3 (Array.getElem?_eq_some_iff.1 e).1
section
variable (w:World)(n:Nat)(A:Nat->Nat->UInt8)
def RI0:σ->Int->σ->Nat->Nat->World->Int->ψ:=fun q6 _ p _ _ _ i w1=>0<=i/\i<=n/\QF6 w n q6 p (fun r=>if(r:Int)<i then Qw6 (QS4 n A) (2*n) r else Qw6 A n r) w1
def RI1:σ->Int->σ->Nat->Nat->World->Int->ψ:=fun q6 _ p _ _ _ c w1=>0<=c/\c<=n/\∃W,QF6 w n q6 p (Qw6 W (2*n)) w1/\Qj6 n A W/\Q22 n W c.toNat
def RI2:σ->Int->σ->Nat->Nat->Int->World->Int->ψ:=fun q6 _ p _ _ c _ i w1=>0<=c/\c<n/\c<=i/\i<=n/\∃W,QF6 w n q6 p (Qw6 W (2*n)) w1/\Qj6 n A W/\Q22 n W c.toNat/\∀t:Nat,c<=(t:Int)->(t:Int)<i->W t c.toNat=0
def RI3:σ->Int->σ->Nat->Nat->Int->World->Int->ψ:=fun q6 _ p _ _ c _ r w1=>0<=r/\r<=n/\∃W,QF6 w n q6 p (Qw6 W (2*n)) w1/\Qj6 n A W/\Q22 n W c.toNat/\W c.toNat c.toNat≠0/\∀t:Nat,(t:Int)<r->t≠c.toNat->W t c.toNat=0
def Qbk(val:Nat->Nat->UInt8)(q:σ)(w0:World)(T:Nat)(w1:World):Prop:=Upd (fun x=>q=some (at0 x)) w0 w1/\∃p l c,Q04 w1 q 137 (Q21 n n p l c)/\Q2 w1 w0.heap.size p l c (QA4 val n T)
def RI4:σ->Int->σ->Nat->Nat->σ->World->Int->ψ:=fun q6 _ p _ _ q _ i w1=>0<=i/\i<=n/\∃w0 W,QF6 w n q6 p (Qw6 W (2*n)) w0/\Qj6 n A W/\Q22 n W n/\q6≠q/\(∀k,q=some (at0 k)->w.heap.size<=k)/\Q04 w0 q 137 (Q21 n n none 0 0)/\Qbk n (QAb n W) q w0 (i.toNat*n) w1
def RI5:σ->Int->σ->Nat->Nat->σ->Int->World->Int->ψ:=fun q6 _ p _ _ q i _ j w1=>0<=j/\j<=n/\0<=i/\i<n/\∃w0 W,QF6 w n q6 p (Qw6 W (2*n)) w0/\Qj6 n A W/\Q22 n W n/\q6≠q/\(∀k,q=some (at0 k)->w.heap.size<=k)/\Q04 w0 q 137 (Q21 n n none 0 0)/\Qbk n (QAb n W) q w0 (i.toNat*n+j.toNat) w1
def RM0:σ->Int->σ->Nat->Nat->World->Int->World->Nat:=fun _ _ _ _ _ _ i _=>(n-i).toNat
def RM2:σ->Int->σ->Nat->Nat->Int->World->Int->World->Nat:=fun _ _ _ _ _ _ _ i _=>(n-i).toNat
def RM4:σ->Int->σ->Nat->Nat->σ->World->Int->World->Nat:=fun _ _ _ _ _ _ _ i _=>(n-i).toNat
def RM5:σ->Int->σ->Nat->Nat->σ->Int->World->Int->World->Nat:=fun _ _ _ _ _ _ _ _ i _=>(n-i).toNat
end
def Qoi(w:World)(n:Nat)(A:Nat->Nat->UInt8)(v:Value)(w':World):Prop:=∃p l c V,v= .tuple #[QQ7 n n p l c,int i64 0]/\Ext w w'/\Q2 w' w.heap.size p l c (QA4 V n (n*n))∧
 ∀r,r<n->∀c,c<n->xs n (fun j=>gm (V r j) (A j c))=if r=c then 1 else 0
theorem Qx1(V:Nat->Nat->UInt8)(C r:Nat):(Qw6 V C r).length=C:=by simp[Qw6]
theorem QB3{V:Nat->Nat->UInt8}{C r t:Nat}(h:t<C):co (Qw6 V C r) t=V r t:=Qq2 _ h
theorem Q8f{W:Nat->Nat->UInt8}{n t c:Nat}(d:c<2*n):Qn3 (Qw6 W (2*n) t) (Qw6 W (2*n) c) c=Qw6 (Qvb t c (gm (W t c) (gi (W c c))) W) (2*n) t:=by
 unfold Qn3;rw[Qx1,QB3 d,QB3 d];refine List.map_congr_left fun i hi=> ?_;rw[List.mem_range]at hi;rw[QB3 hi,QB3 hi];unfold Qvb;rw[if_pos rfl,Q90]
set_option maxRecDepth 20000 in
theorem QGg{w:World}{n Q c S g y:Nat}{A W:Nat->Nat->UInt8}{T U l:World}(hn:n<=256)(F:c<n)(X:y<n)(Y:c<=y)(z:QF6 w n (some (at0 Q)) (some (at0 g)) (Qw6 W (2*n)) l)(G:Qj6 n A W)(B:Q22 n W c)(f:W y c≠0):
  F211_A0 (y:Int) (n:Int) l Q n (some (at0 g)) (c:Int) S T U (Qoi w n A) (RI0 w n A) (RM0 n) (RI1 w n A) (RM0 n) (RI2 w n A) (RM2 n) (RI3 w n A) (RM2 n) (RI4 w n A) (RM4 n) (RI5 w n A) (RM5 n):=by
 refine Q0 (fun h=>by simp only[Za]at h;omega) fun _=> ?_;obtain⟨hg,Z⟩:=z.get;obtain⟨csg,rowg⟩:=Z.rowk (by omega);obtain⟨p1,l1,c1,p2,l2,c2,e1,N,aa,H⟩:=Z.swap X F;refine⟨⟨by omega,by omega⟩,_,_,_,by rw[Ze,Nat.mul_one];exact e1,⟨by omega,by omega⟩,_,_,_,by rw[Ze,Nat.mul_one];exact N,⟨by omega,by omega⟩,by rw[Ze,Nat.mul_one];exact aa,fun I m=> ?_⟩;rw[Ze,Nat.mul_one]at m;obtain⟨ab,o⟩:=H I m;refine⟨⟨by omega,by omega⟩,by rw[Ze,Nat.mul_one];exact ab,fun p q=> ?_⟩;rw[Ze,Nat.mul_one]at q;obtain⟨J,K⟩:=o p q;have L:QF6 w n (some (at0 Q)) (some (at0 g)) (Qw6 (Qs5 y c W) (2*n)) p:=(z.table rowg K J).congr fun t _=>by
  unfold Qw6 Qs5
  by_cases e:t=c
  ·simp only[if_pos e]
  ·simp only[if_neg e]
   by_cases N:t=y
   ·simp only[if_pos N]
   ·simp only[if_neg N]
 have d:Qs5 y c W c c≠0:=by unfold Qs5;rw[if_pos rfl];exact f
 refine⟨⟨by omega,by omega,_,L,G.swap X F,B.swap X F Y,d,fun t ht=>by omega⟩,?_⟩;clear L J K o H z G B f Z rowg d;rintro rI ai ⟨D,ax,W2,z,G,B,d,O⟩;obtain⟨t,rfl⟩:=Int.eq_ofNat_of_zero_le D;simp only[Ze]at B d O
 intros
 refine Q0 (fun hs=> ?_) (fun hs=> ?_)
 ·simp only[Za]at hs
  have i:((n:Int)-((t:Int)+1)).toNat<((n:Int)-t).toNat:=by omega
  rw[w64 (n:=(t:Int)+1) (by omega)];refine Q0 (fun f=> ?_) (fun ac=> ?_)
  ·simp only[Zg,Zb]at f
   have M:t≠c:=fun e=>f (by rw[e]);intro aj hd;have hK2:=z.mono hd.ext;obtain⟨P,h3,_⟩:=hK2.get.2.own;obtain⟨a1,o1⟩:=h3 t (by omega);obtain⟨a2,o2⟩:=h3 c F;have ad:=Q2.len o1;have ae:=Q2.len o2;rw[Qx1]at ad ae;refine⟨⟨D,hs⟩,_,_,_,by rw[Ze,Nat.mul_one];exact a1,⟨by omega,by omega⟩,_,_,_,by rw[Ze,Nat.mul_one];exact a2,(QL9 (Q2.bytes o1) (Q2.bytes o2) (by omega) (by omega) (by omega) (by rw[QB3 (by omega)];exact d)).mono ?_⟩;rintro e ao ⟨aq,ar,rfl,s,v⟩;rw[Q8f (by omega)]at v;have hK3:=hK2.mono s;have hR3:=hK3.get.2;obtain⟨au,E⟩:=hR3.rowk (by omega);refine⟨_,_,_,rfl,⟨D,hs⟩,by rw[Ze,Nat.mul_one];exact hR3.live2 (by omega),fun av x=> ?_⟩;rw[Ze,Nat.mul_one]at x;obtain⟨hR4,u4⟩:=(hK2.get.2).put s (by omega) v hK2.ext.size x;refine⟨⟨by omega,by omega,Qvb t c (gm (W2 t c) (gi (W2 c c))) W2,(hK3.table E u4 hR4).congr fun u _=> ?_,G.add _ M (by omega) F,B.add _ (by omega) F,?_,fun u af j=> ?_⟩,i⟩
   ·by_cases e:u=t
    ·rw[if_pos e,e]
    ·rw[if_neg e]
     unfold Qw6 Qvb;simp only[if_neg e]
   ·simp only[Ze]
    unfold Qvb;rw[if_neg (fun e=>M e.symm)];exact d
   ·simp only[Ze]at j⊢
    unfold Qvb
    by_cases e:u=t
    ·rw[if_pos e,Qr0,QT8 d,Qi1,xx]
    ·rw[if_neg e];exact O u (by omega) j
  ·simp only[Zf,Za]at ac
   refine⟨⟨by omega,by omega,W2,z,G,B,d,fun u af j=>O u (by simp only[Ze]at j;omega) j⟩,i⟩
 ·simp only[Zb]at hs
  rw[w64 (n:=(c:Int)+1) (by omega)];refine⟨⟨by omega,by omega,W2,z,G,?_⟩,by show((n:Int)-((c:Int)+1)).toNat<((n:Int)-c).toNat;omega⟩;rw[show((c:Int)+1).toNat=c+1 by omega];exact B.next d fun r hr ah=>O r (by omega) ah
end Go.Proofs.YtkolafpgbhpdlaaGreat
namespace Go.Proofs.YtkolafpgbhpdlaaGreat
open Go Go.Vc Go.Gf
open Go.IntKind (i64)
open Go.Value (int)
open Go.Proofs.Tryz (prog)
theorem QAi{n t:Nat}(A:Nat->Nat->UInt8)(ht:t<n):Qw6 A n t++(List.replicate n (0:UInt8)).set t 1=Qw6 (QS4 n A) (2*n) t:=by
 refine Q92 (by simp[Qx1];omega) fun x g=> ?_;have d:x<2*n:=by simp[Qx1]at g;omega
 rw[QB3 d];unfold QS4;simp only[Gf.co,Zj]
 by_cases e:x<n
 ·rw[if_pos e,Zl (by rw[Qx1];exact e)]
  simp[Qw6,e]
 ·rw[if_neg e,Zm (by rw[Qx1];omega),Qx1,List.getElem?_set]
  by_cases f:x=n+t
  ·rw[if_pos f,if_pos (by omega),if_pos (by simp;omega)];rfl
  ·rw[if_neg f,if_neg (by omega),List.getElem?_replicate,if_pos (by omega)];rfl
set_option maxRecDepth 20000 in
theorem Qya{w:World}{n cp:Nat}{a:Addr}{A:Nat->Nat->UInt8}(M:n<=256)(Y:0<n)(hA:QIi w a n n A)(bh:n*n<=cp)
  (al:∀x:Nat->UInt8,(∀r,r<n->xs n (fun j=>gm (A r j) (x j))=0)->∀j,j<n->x j=0):
  Calls prog 211 #[.agg #[int i64 (n:Int),int i64 (n:Int), .slice (some a) (n*n) cp]] w fun e w'=>∃v,e= .returned v/\Qoi w n A v w':=by
 refine F211_calls n n (some a) (n*n) cp w (Qoi w n A) (RI0 w n A) (RM0 n) (RI1 w n A) (RM0 n) (RI2 w n A) (RM2 n) (RI3 w n A) (RM2 n) (RI4 w n A) (RM4 n) (RI5 w n A) (RM5 n) ?_;have cw:n*n<=256*256:=Nat.mul_le_mul M M;intro k4 w5 h4 k6 w7 Z;have r4:Q7 w7 k4 137 (Q21 n n (some a) (n*n) cp):=Z.ext.keep h4.at;have r6:Q7 w7 k6 137 (Q21 0 0 none 0 0):=Z.at;have x7:=h4.ext.trans Z.ext;have n6:w.heap.size<=k6:=by rw[Z.size.1];exact h4.ext.size
 refine⟨_,r4.cell0 rfl,_,r4.cell3 rfl,_,_,_,r4.cell3 rfl,(Q06 M M).mono ?_⟩;rintro e bj ⟨rfl,aa⟩;have E:Q7 bj k4 137 (Q21 n n (some a) (n*n) cp):=aa.keep r4;have D:=x7.trans aa;refine⟨_,rfl,Q0 (fun h=>by simp at h) fun _=>⟨_,E.cell3 rfl,_,E.cell3 rfl,Q0 (fun h=>by simp at h) fun _=>⟨_,E.cell3 rfl,_,E.cell0 rfl,_,E.cell3 rfl,_,_,_,E.cell3 rfl,(QZg (hA.ext D) M M Y bh).mono ?_⟩⟩⟩;rintro e bk ⟨cy,cz,rfl,am,hS⟩;obtain⟨g,rfl,hg,hR⟩:=hS.first Y
 have hK0:QF6 w n (some (at0 k6)) (some (at0 g)) (Qw6 A n) bk:=⟨D.trans am,fun k hk=>by
  simp only[Zi,at0,Zv,and_true]at hk
  omega,Q04.of (am.keep (aa.keep r6)),g,rfl,Zu D.size hg,hR.base_le D.size⟩
 refine⟨_,_,_,rfl,⟨by omega,by omega,hK0.congr fun i _=>by rw[if_neg (by omega)]⟩,?_⟩;clear hK0 hR hS hg;rintro iI ao ⟨m,aq,f⟩;obtain⟨t,rfl⟩:=Int.eq_ofNat_of_zero_le m
 intros
 refine Q0 (fun hs=> ?_) (fun hs=> ?_)
 ·simp only[Za]at hs
  refine⟨⟨by omega,by omega,by omega⟩,fun bm bn K=> ?_⟩;rw[Ze]at K⊢;have bo:Q2 bn ao.heap.size (some (at0 bm)) n n (List.replicate n 0):=Q2.made K (by rw[K.size.1];exact Nat.le_refl _) (by unfold maxLen;omega);obtain⟨kk,ar,bp,lv,_,au⟩:=Q2.at bo (i:=t) (by omega);simp only[Zi,at0,Zv,and_true]at ar;subst ar;refine⟨⟨m,hs⟩,by rw[Ze,Nat.mul_one];exact lv,fun av aw=> ?_⟩;rw[Ze,Nat.mul_one]at aw;obtain⟨bq,u64⟩:=au 1 _ aw;have br:Ext ao av:=Q8 K.ext bp u64;have hK2:=f.mono br;obtain⟨bs,hR2⟩:=hK2.get;obtain⟨c5,c6,c7,bt,c8,c9,da,bu,G,bv,ab⟩:=hR2.append (d:=n) (by omega:t<n) (Q2.bytes bq) Y hK2.ext.size bs (by rw[if_neg (by omega),Qx1];omega);refine⟨⟨m,hs⟩,_,_,_,by rw[Ze,Nat.mul_one];exact bt,_,_,_,bu,G,⟨m,hs⟩,by rw[Ze,Nat.mul_one];exact bv,fun bw ax=> ?_⟩;rw[Ze,Nat.mul_one]at ax;obtain⟨hR3,bx,bz⟩:=ab bw ax;rw[w64 (n:=(t:Int)+1) (by omega)];refine⟨⟨by omega,by omega,(hK2.write (bx w hK2.ext (Nat.le_refl _)) bz hR3).congr fun u _=> ?_⟩,by show((n:Int)-((t:Int)+1)).toNat<((n:Int)-t).toNat;omega⟩
  by_cases e:u=t
  ·rw[if_pos (show(u:Int)<t+1 by omega),if_pos e,if_neg (by omega),e,QAi A (by omega)]
  ·rw[if_neg e]
   by_cases e2:(u:Int)<t
   ·rw[if_pos e2,if_pos (show(u:Int)<t+1 by omega)]
   ·rw[if_neg e2,if_neg (show¬(u:Int)<t+1 by omega)]
 simp only[Zb]at hs;refine⟨⟨by omega,by omega,QS4 n A,f.congr fun u _=>by rw[if_pos (by omega)],Qj6.start n A,Q22.zero _ _⟩,?_⟩;clear f hs m aq;rintro cI db ⟨b0,dc,W,f,z,s⟩;obtain⟨c,rfl⟩:=Int.eq_ofNat_of_zero_le b0;simp only[Ze]at s
 intros
 refine Q0 (fun hs=> ?_) (fun hs=> ?_)
 ·simp only[Za]at hs
  refine⟨⟨by omega,hs,by omega,by omega,W,f,z,s,fun t h1 h2=>by omega⟩,?_⟩;clear f z s;rintro pI cg ⟨_,_,de,df,W,f,z,s,hz⟩;obtain⟨p,rfl⟩:=Int.eq_ofNat_of_zero_le (show 0<=pI by omega);simp only[Ze]at s hz
  intros
  refine Q0 (fun o=> ?_) (fun o=> ?_)
  ·simp only[Za]at o
   obtain⟨P,h3,_⟩:=f.get.2.own;obtain⟨a1,o1⟩:=h3 p (by omega);have ad:=Q2.len o1;rw[Qx1]at ad;obtain⟨b,hb,az⟩:=Q1.co (Q2.bytes o1) (i:=c) (by omega);rw[QB3 (by omega)]at az;rw[hb]at a1;refine⟨⟨by omega,by omega⟩,some b,_,_,by rw[Ze,Nat.mul_one];exact a1,⟨by omega,by omega⟩,_,by rw[Ze,Nat.mul_one];exact az,Q0 (fun B=> ?_) (fun B=> ?_)⟩
   ·simp only[Za]at B
    rw[Qz4]at B;rw[w64 (n:=(p:Int)+1) (by omega)];refine⟨⟨by omega,hs,by omega,by omega,W,f,z,s,fun t h1 h2=> ?_⟩,by show((n:Int)-((p:Int)+1)).toNat<((n:Int)-p).toNat;omega⟩;simp only[Ze]
    by_cases e:t=p
    ·rw[e];exact B
    ·exact hz t h1 (by omega)
   ·simp only[Zb]at B
    rw[Qz4]at B;exact QGg M (by omega) (by omega) (by omega) f z s B
  ·simp only[Zb]at o
   exact(z.pivotD s (by omega) al fun t h1 h2=>hz t (by omega) (by omega)).elim
 ·simp only[Zb]at hs
  obtain rfl:c=n:=by omega
  refine Qv3 fun q a0 H ch N=> ?_;have hK2:=f.mono N;have I:(some (at0 k6):σ)≠some (at0 q):=fun e=>by
   simp only[Zi,at0,Zv,and_true]at e;have:=Qe f.r6.get;omega
  have J:∀k,(some (at0 q):σ)=some (at0 k)->w.heap.size<=k:=fun k e=>by
   simp only[Zi,at0,Zv,and_true]at e;have:=f.ext.size;omega
  refine⟨⟨by omega,by omega,a0,W,hK2,z,s,I,J,Q04.of H,Upd.refl _ _,none,0,0,Q04.of H,by rw[show(0:Int).toNat*c=0 by simp];exact Q5.nil _ _ _ _⟩,?_⟩;clear hK2 H N f z s;rintro iI O ⟨m,aq,w0,W,f,z,s,_,_,F,Q,p,l,cc,hq,ho⟩;obtain⟨i,rfl⟩:=Int.eq_ofNat_of_zero_le m
  intros
  refine Q0 (fun o=> ?_) (fun o=> ?_)
  ·simp only[Za]at o
   refine⟨⟨by omega,by omega,m,o,w0,W,f,z,s,I,J,F,Q,p,l,cc,hq,by rw[show(0:Int).toNat=0 from rfl,Nat.add_zero];exact ho⟩,?_⟩;clear f z s F Q hq ho;rintro jI ci ⟨b4,dg,_,_,w0,W,f,z,s,_,_,F,Q,p,l,cc,hq,ho⟩;obtain⟨j,rfl⟩:=Int.eq_ofNat_of_zero_le b4;simp only[Ze]at ho
   intros
   refine Q0 (fun af=> ?_) (fun af=> ?_)
   ·simp only[Za]at af
    intro S hd
    have b5:=(Qg.otherT f.get.2 Q fun x hx=>by
     simp only[Zi,at0,Zv,and_true]at hx;subst hx
     exact⟨_,_,(0,0),F.get,Qb0.1,Qb0.2.2.2.2⟩).ext hd.ext
    obtain⟨P,h3,_⟩:=b5.own;obtain⟨a1,o1⟩:=h3 i (by omega);have ad:=Q2.len o1;rw[Qx1]at ad;obtain⟨b,hb,a3⟩:=Q1.co (Q2.bytes o1) (i:=c+j) (by omega);obtain⟨b',a4,a5⟩:=Q1.co (Q2.bytes o1) (i:=i) (by omega);rw[hb]at a4;cases a4;rw[QB3 (by omega)]at a3 a5;rw[hb]at a1;have ew:i64.wrap ((c:Int)+(j:Int))=((c+j:Nat):Int):=w64 (by omega);have ac:S.cell? ((at0 g).add ((i:Int).toNat*1))=some (.slice (some b) (P i).2.1 (P i).2.2):=by rw[Ze,Nat.mul_one];exact a1
    rw[ew];refine⟨⟨m,o⟩,some b,_,_,ac,⟨by omega,by omega⟩,_,by rw[Ze,Nat.mul_one];exact a3,⟨m,o⟩,some b,_,_,ac,⟨by omega,by omega⟩,_,by rw[Ze,Nat.mul_one];exact a5,(Qsa (w:=S) (W i (c+j)) (W i i) (s.dia i (by omega))).mono ?_⟩;rintro e a6 ⟨rfl,rfl⟩;have a7:=(hq.ext hd.ext).get;have L:=Q2.ext ho hd.ext;have b6:=Q2.len L;rw[Qm2]at b6;have ck:i*c<=256*256:=Nat.mul_le_mul (by omega) M;refine⟨_,_,rfl,_,_,_,a7.cell3 rfl,fun cm cn a8=> ?_⟩;have a9:Upd (fun x=>(some (at0 q):σ)=some (at0 x)) w0 a6:=Q.trans hd.ext.upd fun _ _ h=>h;obtain⟨p',c',T,G,ba,U⟩:=Q2.push L a8 a9.size (by omega);have ah:Q7 T q 137 (Q21 c c p l cc):=Q7.keep a7 U fun y hy=>by
     obtain⟨cs,e',fz,h7,h8⟩:=Q5.typed L hy;exact⟨cs,e',fz,h7,by rw[h8];exact Qb0.1.symm⟩
    refine⟨p',_,c',T,G,ah.live3 (by simp),fun ct bb=> ?_⟩;obtain⟨bc,X⟩:=ah.set3 bb;rw[w64 (n:=(j:Int)+1) (by omega)];refine⟨⟨by omega,by omega,m,o,w0,W,f,z,s,I,J,F,?_,p',_,c',Q04.of bc,?_⟩,by show((c:Int)-((j:Int)+1)).toNat<((c:Int)-j).toNat;omega⟩
    ·exact Upd.trans (Upd.trans a9 U fun x hx hs=>by have:=Q2.blk L hs;omega) X fun x _ hs=>by rw[show x=q from hs]
    ·rw[Ze,show((j:Int)+1).toNat=j+1 by omega,←Nat.add_assoc,←QO4 (QAb c W) (by omega)]
     exact Q2.apart ba X ah Qb0.1
   ·simp only[Zb]at af
    obtain rfl:j=c:=by omega
    rw[w64 (n:=(i:Int)+1) (by omega)];refine⟨⟨by omega,by omega,w0,W,f,z,s,I,J,F,Q,p,l,cc,hq,?_⟩,by show((j:Int)-((i:Int)+1)).toNat<((j:Int)-i).toNat;omega⟩;rw[show((i:Int)+1).toNat=i+1 by omega,Nat.add_mul,Nat.one_mul];exact ho
  ·simp only[Zb]at o
   obtain rfl:i=c:=by omega
   have Z:Q7 O k6 137 (Q21 0 0 none 0 0):=Q.keep f.r6.get fun e=>I (by rw[show q=k6 by simpa[at0]using e]);have xw:Ext w O:=Q2.new_ext f.ext Q fun x hx=>J x hx;refine Qeh (R:=Qoi w i A) hq.get Z rfl fun w' be=>⟨p,l,cc,QAb i W,rfl,Q8 xw n6 be,?_,z.doneD s⟩;exact Q2.base_le (Q2.apart ho be Z Qb0.1) f.ext.size
end Go.Proofs.YtkolafpgbhpdlaaGreat
