import Derived.Test.YtkolafpgbhpdlaaGreatMN
import Derived.Test.YtkolafpgbhpdlaaGreatMA
import Derived.Test.YtkolafpgbhpdlaaGreatGd
import Derived.Test.YtkolafpgbhpdlaaGreatMT
set_option maxHeartbeats 2000000
namespace Go.Proofs.YtkolafpgbhpdlaaGreat
open Go Go.Vc
open Go.IntKind (i64)
open Go.Value (int)
open Go.Proofs.Tryz (prog)
structure QY3(w:World)(b:Nat)(D:Dk)(F:Nat->Prop):Prop where
 is:∃G,Qh0 w b D G/\F=fun x=>x=b\/G x
 ok:Qk3 D
theorem QY3.lt{w:World}{b:Nat}{D:Dk}{F:Nat->Prop}(h:QY3 w b D F):∀x,F x->x<w.heap.size:=by
 obtain⟨⟨G,d,rfl⟩,_⟩:=h;rintro x (rfl|e)
 ·exact d.lt
 ·obtain⟨_,_,_,_,_,_,_,_,_,_,_,_,f⟩:=d
  exact f x e
theorem QY3.row{w:World}{b:Nat}{D:Dk}{F:Nat->Prop}(h:QY3 w b D F):∃pL lL cL pW lW cW G,RowW w b #[int i64 D.sectors, .slice pL lL cL, .slice pW lW cW, .bool D.dead]/\QE2 w G pL lL cL D.lasts/\QE2 w G pW lW cW D.waits:=by
 obtain⟨⟨G,d,rfl⟩,_⟩:=h;obtain⟨pL,lL,cL,pW,lW,cW,e,f,g,_⟩:=d;exact⟨pL,lL,cL,pW,lW,cW,G,e,f,g⟩
theorem QY3.asc{w:World}{b:Nat}{D:Dk}{F:Nat->Prop}(h:QY3 w b D F):Asc D.lasts/\Asc D.waits:=by
 obtain⟨⟨G,d,rfl⟩,_⟩:=h;obtain⟨_,_,_,_,_,_,_,_,_,e,f,_⟩:=d;exact⟨e,f⟩
theorem QY3.upd{S:Nat->Prop}{w w':World}{b:Nat}{D:Dk}{F:Nat->Prop}(h:QY3 w b D F)(d:Upd S w w')(hS:∀x,S x->¬F x):QY3 w' b D F:=by
 obtain⟨⟨G,e,rfl⟩,f⟩:=h;exact⟨⟨G,e.upd d hS,rfl⟩,f⟩
theorem QY3.ext{w w':World}{b:Nat}{D:Dk}{F:Nat->Prop}(h:QY3 w b D F)(d:Ext w w'):QY3 w' b D F:=h.upd d fun _ h=>h.elim
theorem Q02{b:Nat}{G G':Nat->Prop}{w w':World}(e:Upd (fun x=>x=b) w w')(h:Qe5 G G' w w'):Qp (fun x=>x=b\/G x) (fun x=>x=b\/G' x) w w':=by
 refine⟨e.mono fun x _ d=> .inl d,?_⟩;rintro x (d|d)
 ·exact .inl (.inl d)
 ·rcases h x d with h|h
  ·exact .inl (.inr h)
  ·exact .inr h.1
section
variable {w:World}{b:Nat}{D:Dk}{F:Nat->Prop}
theorem QVk{n:Int}(h:1<=n/\n<=4096)(w:World):Calls prog 49 #[int i64 n] w fun e w'=>∃b F,e= .returned (.tuple #[.pointer (some (at0 b)),int i64 0])/\Ext w w'/\QY3 w' b ⟨n,[],[],false⟩ F/\∀x,F x->w.heap.size<=x:=by
 refine(QHg h w).mono ?_;rintro e w' ⟨b,rfl,d,f,hb⟩;refine⟨b,_,rfl,d,⟨⟨_,f,rfl⟩,Qk3.new h⟩,?_⟩;rintro x (rfl|d)
 ·exact hb
 ·exact d.elim
theorem Qli(h:QY3 w b D F)(k:Int){p:σ}{l c:Nat}{bs:τ}(hb:Q1 w p l bs):
  Calls prog 126 #[.pointer (some (at0 b)),int i64 k, .slice p l c] w fun e w'=>∃f,e= .returned (int i64 (Qs D k bs.length))/\Qp F f w w'/\QY3 w' b (QT D k bs) f:=by
 obtain⟨⟨G,i,rfl⟩,g⟩:=h;refine(Qac i g k hb).mono ?_;rintro e w' ⟨G',rfl,j,d,m⟩;exact⟨_,rfl,Q02 j m,⟨G',d,rfl⟩,g.write k bs⟩
theorem QPj(h:QY3 w b D F)(k:Int):
  Calls prog 127 #[.pointer (some (at0 b)),int i64 k] w fun e w'=>Ext w w'/\∃p l c bs,e= .returned (.tuple #[.slice p l c,int i64 (Qh D.dead D.sectors k)])∧
   bs=(if Qh D.dead D.sectors k=0 then Qy0 D k else [])/\Q1 w' p l bs/\l<=4108:=by
 obtain⟨⟨G,d,rfl⟩,f⟩:=h;exact Qje d f k
theorem Qji(h:QY3 w b D F):Calls prog 129 #[.pointer (some (at0 b))] w fun e w'=>∃f,e= .returned (int i64 (if D.dead then 120 else 0))/\Qp F f w w'/\QY3 w' b (QB1 D) f:=by
 have ha:=h.asc;obtain⟨⟨G,i,rfl⟩,g⟩:=h;refine(Q6c i g).mono ?_;rintro e w' ⟨G',rfl,hs,d⟩;exact⟨_,rfl,Q02 hs.upd hs.grow,⟨G',d,rfl⟩,g.flush ha.2⟩
theorem Q9d(h:QY3 w b D F){p:σ}{l c:Nat}{ks:List Int}(i:QV w p l ks)(j:l<=9223372036854775807)(k:∀a,p=some a->ks≠ []->¬F a.block):
  Calls prog 131 #[.pointer (some (at0 b)), .slice p l c] w fun e w'=>∃g,e= .returned (.tuple #[])/\Qp F g w w'/\QY3 w' b (Qk2 D ks) g:=by
 have ha:=h.asc;obtain⟨⟨G,m,rfl⟩,d⟩:=h;refine(QZb m d i j fun a n o q=>k a n o (.inl q)).mono ?_;rintro e w' ⟨G',rfl,hs,f⟩;exact⟨_,rfl,Q02 hs.upd hs.grow,⟨G',f,rfl⟩,d.crash ha.2 ks⟩
theorem QOj(h:QY3 w b D F):Calls prog 132 #[.pointer (some (at0 b))] w fun e w'=>e= .returned (.tuple #[])/\Qp F F w w'/\QY3 w' b {D with dead:=true,lasts:=[],waits:=[]} F:=by
 obtain⟨⟨G,g,rfl⟩,d⟩:=h;refine(Qee g).mono ?_;rintro e w' ⟨rfl,i,f⟩;exact⟨rfl,Q02 i fun x j=> .inl j,⟨G,f,rfl⟩,d.empty true⟩
theorem Qde(h:QY3 w b D F):Calls prog 133 #[.pointer (some (at0 b))] w fun e w'=>e= .returned (.tuple #[])/\Qp F F w w'/\QY3 w' b {D with dead:=false,lasts:=[],waits:=[]} F:=by
 obtain⟨⟨G,g,rfl⟩,d⟩:=h;refine(Qg9 g).mono ?_;rintro e w' ⟨rfl,i,f⟩;exact⟨rfl,Q02 i fun x j=> .inl j,⟨G,f,rfl⟩,d.empty false⟩
theorem Qce(h:QY3 w b D F)(k a:Int)(y:UInt8)(ha: -9223372036854775808<=a/\a<=9223372036854775807):
  Calls prog 134 #[.pointer (some (at0 b)),int i64 k,int i64 a, .int .u8 (y.toNat:Int)] w fun e w'=>∃g,e= .returned (int i64 (QC D k))/\Qp F g w w'/\QY3 w' b (Qf D k a y) g:=by
 obtain⟨⟨G,i,rfl⟩,d⟩:=h;refine(Qa9 i d k a y ha).mono ?_;rintro e w' ⟨G',rfl,hs,f⟩;exact⟨_,rfl,Q02 hs.upd hs.grow,⟨G',f,rfl⟩,d.corrupt k a y⟩
end
open Go Go.Vc
open Go.IntKind (i64)
open Go.Value (int)
open Go.Proofs.Tryz (prog)
def Qqg(bs:List Nat):List Value:=bs.map fun b=> .pointer (some (at0 b))
def QY8(B:List Int):List Value:=B.map fun n=>int i64 n
def Q20(w:World)(r:Nat)(Ds:List Dk)(B:List Int)(left:Int)(off:Bool)(F:Nat->Prop):Prop:=
 ∃(pD:σ)(cD:Nat)(pB:σ)(cB:Nat)(bs:List Nat)(Fs:Nat->Nat->Prop),RowW w r #[.slice pD Ds.length cD, .slice pB B.length cB,int i64 left, .bool off]∧
  Q5 w 0 105 1 pD Ds.length cD (Qqg bs)/\Q5 w 0 3 1 pB B.length cB (QY8 B)/\bs.length=Ds.length∧
  (∀(i:Nat)(D:Dk),Ds[i]? =some D->∃b,bs[i]? =some b/\QY3 w b D (Fs i))/\(∀(i j x:Nat),i<Ds.length->j<Ds.length->Fs i x->Fs j x->i=j)∧
  (∀(i x:Nat),i<Ds.length->Fs i x->x≠r/\pD≠some (at0 x)/\pB≠some (at0 x))/\(pD≠some (at0 r)/\pB≠some (at0 r)/\∀x:Nat,pD=some (at0 x)->pB≠some (at0 x))∧
  (∀x:Nat,F x↔x=r\/pD=some (at0 x)\/pB=some (at0 x)\/∃i,i<Ds.length/\Fs i x)
section
variable {w w':World}{r:Nat}{Ds:List Dk}{B:List Int}{left:Int}{off:Bool}{F:Nat->Prop}
theorem Q20.lt(h:Q20 w r Ds B left off F):∀x,F x->x<w.heap.size:=by
 obtain⟨pD,cD,pB,cB,bs,Fs,e,f,g,m,j,n,o,p,k⟩:=h;intro x d;rcases(k x).1 d with rfl|d|d|⟨i,hi,d⟩
 ·exact e.lt
 ·exact Qr8 f d
 ·exact Qr8 g d
 ·obtain⟨b,_,l⟩:=j i Ds[i] (Zc hi)
  exact l.lt x d
theorem Q20.upd{S:Nat->Prop}(h:Q20 w r Ds B left off F)(e:Upd S w w')(hS:∀x,S x->¬F x):Q20 w' r Ds B left off F:=by
 obtain⟨pD,cD,pB,cB,bs,Fs,j,k,l,n,o,p,q,t,d⟩:=h;refine⟨pD,cD,pB,cB,bs,Fs,e.rowW j fun hs=>hS _ hs ((d _).2 (.inl rfl)),k.upd e fun g f hs=>hS _ hs ((d _).2 (.inr (.inl f))),l.upd e fun g f hs=>hS _ hs ((d _).2 (.inr (.inr (.inl f)))),n,fun i m hi=> ?_,p,q,t,d⟩;obtain⟨b,hb,u⟩:=o i m hi;exact⟨b,hb,u.upd e fun x hs v=>hS _ hs ((d _).2 (.inr (.inr (.inr ⟨i,(Zd.1 hi).1,v⟩))))⟩
theorem Q20.ext(h:Q20 w r Ds B left off F)(d:Ext w w'):Q20 w' r Ds B left off F:=h.upd d fun _ h=>h.elim
theorem Q20.row(h:Q20 w r Ds B left off F):∃pD cD pB cB,RowW w r #[.slice pD Ds.length cD, .slice pB B.length cB,int i64 left, .bool off]:=by
 obtain⟨pD,cD,pB,cB,bs,Fs,d,_⟩:=h;exact⟨pD,cD,pB,cB,d⟩
theorem Q20.setField(h:Q20 w r Ds B left off F){j:Nat}{v:Value}(hs:Qt w ((at0 r).add j) v w'){n:Int}{o:Bool}
  (d:∀a b,(#[a,b,int i64 left, .bool off]:Array Value).setIfInBounds j v= #[a,b,int i64 n, .bool o]):Q20 w' r Ds B n o F/\Qp F F w w':=by
 obtain⟨pD,cD,pB,cB,bs,Fs,u,y,z,A,C,E,p,k,q⟩:=h;have f:Upd (fun x=>x=r) w w':=by
  have:=hs.upd;rw[Qx]at this;exact this
 have t:=hs.row u;rw[d]at t;refine⟨⟨pD,cD,pB,cB,bs,Fs,t,y.upd f (by rintro g l rfl;exact k.1 l),z.upd f (by rintro g l rfl;exact k.2.1 l),A,fun i m hi=> ?_,E,p,k,q⟩,f.mono fun x _ e=>(q x).2 (.inl e),fun x e=> .inl e⟩;obtain⟨b,hb,H⟩:=C i m hi;exact⟨b,hb,H.upd f fun x e I=>(p i x (Zd.1 hi).1 I).1 e⟩
theorem Q20.setLeft(h:Q20 w r Ds B left off F){v:Int}(hs:Qt w ((at0 r).add 2) (int i64 v) w'):Q20 w' r Ds B v off F/\Qp F F w w':=h.setField hs fun _ _=>rfl
theorem Q20.setOff(h:Q20 w r Ds B left off F){v:Bool}(hs:Qt w ((at0 r).add 3) (.bool v) w'):Q20 w' r Ds B left v F/\Qp F F w w':=h.setField hs fun _ _=>rfl
theorem Q20.at(h:Q20 w r Ds B left off F){i:Nat}{D:Dk}(hi:Ds[i]? =some D):
  ∃ap cD b Fi,w.cell? ((at0 r).add 0)=some (.slice (some ap) Ds.length cD)/\w.cell? (ap.add (i*1))=some (.pointer (some (at0 b)))/\QY3 w b D Fi/\(∀x,Fi x->F x/\x≠r)∧
   (∀w' A z,Qp Fi z w w'->QY3 w' b A z->∃F2,Q20 w' r (Ds.set i A) B left off F2/\Qp F F2 w w'):=by
 have H:=h.lt;obtain⟨pD,cD,pB,cB,bs,Fs,I,J,O,Q,P,C,y,R,u⟩:=h;obtain⟨b,hb,S⟩:=P i D hi;have f:i<Ds.length:=(Zd.1 hi).1;obtain⟨ap,T,U⟩:=J.cells i _ (by unfold Qqg;rw[Zq,hb];rfl);subst T;refine⟨ap,cD,b,Fs i,I.c rfl,by rw[Nat.mul_one];exact U,S,fun x m=>⟨(u x).2 (.inr (.inr (.inr ⟨i,f,m⟩))),(y i x f m).1⟩,?_⟩;intro w' A z hs K;have l:(Ds.set i A).length=Ds.length:=List.length_set;refine⟨fun x=>x=r\/some ap=some (at0 x)\/pB=some (at0 x)\/∃j,j<Ds.length/\(if j=i then z else Fs j) x,⟨some ap,cD,pB,cB,bs,fun j=>if j=i then z else Fs j,?_,?_,?_,by rw[l];exact Q,?_,?_,?_,R,?_⟩,?_,?_⟩
 ·rw[l];exact hs.upd.rowW I fun t=>(y i r f t).1 rfl
 ·rw[l];exact J.upd hs.upd fun g L t=>(y i g f t).2.1 L
 ·exact O.upd hs.upd fun g L t=>(y i g f t).2.2 L
 ·intro j mj n
  by_cases d:j=i
  ·subst d
   rw[List.getElem?_set_self f]at n;cases n;exact⟨b,hb,by simpa using K⟩
  ·rw[List.getElem?_set_ne (fun e=>d e.symm)]at n
   obtain⟨bj,M,N⟩:=P j mj n;refine⟨bj,M,?_⟩;simp only[if_neg d];exact N.upd hs.upd fun x m t=>d (C j i x (Zd.1 n).1 f t m)
 ·intro j k x n E o p
  rw[l]at n E;have old:∀q,q<Ds.length->Fs q x->x<w.heap.size:=fun q V t=>H x ((u x).2 (.inr (.inr (.inr ⟨q,V,t⟩))))
  by_cases d:j=i<;>by_cases v:k=i
  ·omega
  ·simp only[if_pos d]at o;simp only[if_neg v]at p
   rcases hs.grow x o with h|h
   ·have:=C i k x f E h p;omega
   ·have:=old k E p;omega
  ·simp only[if_neg d]at o;simp only[if_pos v]at p
   rcases hs.grow x p with h|h
   ·have:=C j i x n f o h;omega
   ·have:=old j n o;omega
  ·simp only[if_neg d]at o;simp only[if_neg v]at p
   exact C j k x n E o p
 ·intro j x n t
  rw[l]at n
  by_cases d:j=i
  ·simp only[if_pos d]at t
   rcases hs.grow x t with h|h
   ·exact y i x f h
   ·refine⟨?_,fun e=> ?_,fun e=> ?_⟩
    ·have:=I.lt;omega
    ·have:=Qr8 J e;omega
    ·have:=Qr8 O e;omega
  ·simp only[if_neg d]at t
   exact y j x n t
 ·intro x
  rw[l]
 ·exact hs.upd.mono fun x _ m=>(u x).2 (.inr (.inr (.inr ⟨i,f,m⟩)))
 ·rintro x (rfl|m|m|⟨j,n,m⟩)
  ·exact .inl ((u _).2 (.inl rfl))
  ·exact .inl ((u _).2 (.inr (.inl m)))
  ·exact .inl ((u _).2 (.inr (.inr (.inl m))))
  ·by_cases d:j=i
   ·simp only[if_pos d]at m
    rcases hs.grow x m with h|h
    ·exact .inl ((u _).2 (.inr (.inr (.inr ⟨i,f,h⟩))))
    ·exact .inr h
   ·simp only[if_neg d]at m
    exact .inl ((u _).2 (.inr (.inr (.inr ⟨j,n,m⟩))))
theorem Q20.born(h:Q20 w r Ds B left off F){i:Nat}{n:Int}(hi:B[i]? =some n):
  ∃ap cB,w.cell? ((at0 r).add 1)=some (.slice (some ap) B.length cB)/\w.cell? (ap.add (i*1))=some (int i64 n)/\QD w (ap.add (i*1))∧
   ∀v w',Qt w (ap.add (i*1)) (int i64 v) w'->Q20 w' r Ds (B.set i v) left off F/\Qp F F w w':=by
 obtain⟨pD,cD,pB,cB,bs,Fs,z,H,k,I,J,K,A,o,C⟩:=h;have p:i<B.length:=(Zd.1 hi).1;obtain⟨ap,L,M⟩:=k.cells i _ (by unfold QY8;rw[Zq,hi];rfl);subst L;refine⟨ap,cB,z.c rfl,by rw[Nat.mul_one];exact M,by rw[Nat.mul_one];exact k.live (by simpa[QY8]using p),fun v w' hs=> ?_⟩;rw[Nat.mul_one]at hs;obtain⟨t,l⟩:=k.set hs;obtain⟨g,N⟩:∃g,ap=at0 g:=by
  rcases k.where_ with⟨u,_⟩|⟨g,u,_⟩
  ·cases u
  ·cases u;exact⟨g,rfl⟩
 subst N;have d:(B.set i v).length=B.length:=List.length_set;have y:¬r=g:=fun e=>o.2.1 (by rw[e]);refine⟨⟨pD,cD,some (at0 g),cB,bs,Fs,?_,?_,?_,I,?_,K,A,o,C⟩,?_,fun x f=> .inl f⟩
 ·rw[d];exact l.rowW z y
 ·exact H.upd l fun q O e=>o.2.2 q O (by rw[show q=g from e])
 ·rw[d]
  have:QY8 (B.set i v)=(QY8 B).set i (int i64 v):=by unfold QY8;rw[List.map_set]
  rw[this];exact t
 ·intro j m E
  obtain⟨b,hb,P⟩:=J j m E;exact⟨b,hb,P.upd l fun x f Q=>(A j x (Zd.1 E).1 Q).2.2 (by rw[show x=g from f])⟩
 ·exact l.mono fun x _ f=>(C x).2 (.inr (.inr (.inl (by rw[show x=g from f]))))
end
open Go Go.Vc
open Go.IntKind (i64)
open Go.Value (int)
open Go.Proofs.Tryz (prog)
section
variable {w:World}{r:Nat}{Ds:List Dk}{B:List Int}{left:Int}{off:Bool}{F:Nat->Prop}
theorem Qm1(h:Q20 w r Ds B left off F)(k:Int):Calls prog 125 #[.pointer (some (at0 r)),int i64 k] w fun e w'=>e= .returned (.bool (decide (0<=k/\k<Ds.length)))/\w'=w:=by
 refine(F125_calls (some (at0 r)) k w (fun v w'=>v= .bool (decide (0<=k/\k<Ds.length))/\w'=w) ?_).mono (by rintro e w' ⟨v,rfl,rfl,h⟩;exact⟨rfl,h⟩);obtain⟨pD,cD,pB,cB,f⟩:=h.row;refine Q0 (fun d=>⟨_,_,_,f.c rfl,?_,rfl⟩) (fun d=>⟨?_,rfl⟩)
 ·simp only[Za]at d
  congr 1
  rw[decide_eq_decide];omega
 ·simp only[Zb]at d
  rw[decide_eq_false (by omega)]
theorem Qna(h:Q20 w r Ds B left true F)(i k:Int)(p:σ)(l c:Nat):Calls prog 84 #[.pointer (some (at0 r)),int i64 i,int i64 k, .slice p l c] w fun e w'=>e= .returned (int i64 130)/\w'=w:=by
 refine(F84_calls (some (at0 r)) i k p l c w (fun v w'=>v=int i64 130/\w'=w) ?_).mono (by rintro e w' ⟨v,rfl,rfl,h⟩;exact⟨rfl,h⟩);obtain⟨pD,cD,pB,cB,d⟩:=h.row;exact⟨_,d.c rfl,Q0 (fun _=>⟨rfl,rfl⟩) fun h=>by cases h⟩
theorem Qoa(h:Q20 w r Ds B left false F){i:Int}(hi:¬(0<=i/\i<Ds.length))(k:Int)(p:σ)(l c:Nat):Calls prog 84 #[.pointer (some (at0 r)),int i64 i,int i64 k, .slice p l c] w fun e w'=>e= .returned (int i64 1)/\w'=w:=by
 refine(F84_calls (some (at0 r)) i k p l c w (fun v w'=>v=int i64 1/\w'=w) ?_).mono (by rintro e w' ⟨v,rfl,rfl,h⟩;exact⟨rfl,h⟩);obtain⟨pD,cD,pB,cB,d⟩:=h.row;refine⟨_,d.c rfl,Q0 (fun h=>by cases h) fun _=>(Qm1 h i).mono ?_⟩;rintro e g ⟨rfl,rfl⟩;exact⟨_,rfl,Q0 (fun _=>⟨rfl,rfl⟩) fun f=>by simp at f;omega⟩
theorem Qhi(h:Q20 w r Ds B left false F)(q: -1<=left/\left<=9223372036854775807){i:Nat}{D:Dk}(hi:Ds[i]? =some D)(k:Int){p:σ}{l c:Nat}{bs:τ}(hb:Q1 w p l bs):
  Calls prog 84 #[.pointer (some (at0 r)),int i64 (i:Int),int i64 k, .slice p l c] w fun e w'=>∃d,e= .returned (int i64 (Qs D k bs.length))/\Qp F d w w'∧
   Q20 w' r (Ds.set i (QT D k bs)) B (if Qs D k bs.length=0/\0<left then left-1 else left) (decide (Qs D k bs.length=0/\left=1)) d:=by
 refine(F84_calls (some (at0 r)) (i:Int) k p l c w (fun v w'=>∃d,v=int i64 (Qs D k bs.length)/\Qp F d w w'∧
   Q20 w' r (Ds.set i (QT D k bs)) B (if Qs D k bs.length=0/\0<left then left-1 else left) (decide (Qs D k bs.length=0/\left=1)) d) ?_).mono (by rintro e w' ⟨v,rfl,d,rfl,h⟩;exact⟨d,rfl,h⟩)
 have A:i<Ds.length:=(Zd.1 hi).1;obtain⟨pD,cD,pB,cB,C⟩:=h.row;refine⟨_,C.c rfl,Q0 (fun h=>by cases h) fun _=>(Qm1 h (i:Int)).mono ?_⟩;rintro e L ⟨rfl,rfl⟩;obtain⟨ap,cD',b,Fi,E,t,H,_,f⟩:=h.at hi;refine⟨_,rfl,Q0 (fun I=>by simp at I;omega) fun _=>⟨_,_,_,E,⟨by omega,by omega⟩,_,by rw[Ze];exact t,?_⟩⟩;refine(Qli H k hb).mono ?_;rintro e u ⟨F1,rfl,hs,x⟩;obtain⟨F2,m,hS⟩:=f u _ F1 hs x;obtain⟨pD2,cD2,pB2,cB2,g⟩:=m.row;refine⟨_,rfl,Q0 (fun n=> ?_) (fun n=> ?_)⟩
 ·simp only[Za]at n
  refine⟨_,g.c rfl,Q0 (fun o=> ?_) (fun o=> ?_)⟩
  ·simp only[Za]at o
   refine⟨_,g.c rfl,g.live (by simp),fun J y=> ?_⟩;obtain⟨hA22,hS22⟩:=m.setLeft y;obtain⟨pD3,cD3,pB3,cB3,j⟩:=hA22.row;refine⟨_,j.c rfl,j.live (by simp),fun K z=> ?_⟩;obtain⟨hA26,hS26⟩:=hA22.setOff z;refine⟨F2,rfl,(hS.trans hS22).trans hS26,?_⟩;rw[w64 (by omega)]at hA26;rw[if_pos ⟨n,o⟩];have t:decide (Qs D k bs.length=0/\left=1)=decide (left-1=0):=by rw[decide_eq_decide];omega
   rw[t];exact hA26
  ·simp only[Zb]at o
   refine⟨F2,rfl,hS,?_⟩;rw[if_neg (by omega),decide_eq_false (by omega)];exact m
 ·simp only[Zb]at n
  refine⟨F2,rfl,hS,?_⟩;rw[if_neg (by omega),decide_eq_false (by omega)];exact m
theorem Qo7(h:Q20 w r Ds B left true F)(i k:Int):Calls prog 85 #[.pointer (some (at0 r)),int i64 i,int i64 k] w fun e w'=>e= .returned (.tuple #[.slice none 0 0,int i64 130])/\w'=w:=by
 refine(F85_calls (some (at0 r)) i k w (fun v w'=>v= .tuple #[.slice none 0 0,int i64 130]/\w'=w) ?_).mono (by rintro e w' ⟨v,rfl,rfl,h⟩;exact⟨rfl,h⟩);obtain⟨pD,cD,pB,cB,d⟩:=h.row;exact⟨_,d.c rfl,Q0 (fun _=>⟨rfl,rfl⟩) fun h=>by cases h⟩
theorem Qp7(h:Q20 w r Ds B left false F){i:Int}(hi:¬(0<=i/\i<Ds.length))(k:Int):Calls prog 85 #[.pointer (some (at0 r)),int i64 i,int i64 k] w fun e w'=>e= .returned (.tuple #[.slice none 0 0,int i64 1])/\w'=w:=by
 refine(F85_calls (some (at0 r)) i k w (fun v w'=>v= .tuple #[.slice none 0 0,int i64 1]/\w'=w) ?_).mono (by rintro e w' ⟨v,rfl,rfl,h⟩;exact⟨rfl,h⟩);obtain⟨pD,cD,pB,cB,d⟩:=h.row;refine⟨_,d.c rfl,Q0 (fun h=>by cases h) fun _=>(Qm1 h i).mono ?_⟩;rintro e g ⟨rfl,rfl⟩;exact⟨_,rfl,Q0 (fun _=>⟨rfl,rfl⟩) fun f=>by simp at f;omega⟩
theorem QMj(h:Q20 w r Ds B left false F){i:Nat}{D:Dk}(hi:Ds[i]? =some D)(k:Int):Calls prog 85 #[.pointer (some (at0 r)),int i64 (i:Int),int i64 k] w fun e w'=>Ext w w'∧
  ∃p l c bs,e= .returned (.tuple #[.slice p l c,int i64 (Qh D.dead D.sectors k)])/\bs=(if Qh D.dead D.sectors k=0 then Qy0 D k else [])/\Q1 w' p l bs/\l<=4108:=by
 refine(F85_calls (some (at0 r)) (i:Int) k w (fun v w'=>Ext w w'/\∃p l c bs,v= .tuple #[.slice p l c,int i64 (Qh D.dead D.sectors k)]/\bs=(if Qh D.dead D.sectors k=0 then Qy0 D k else [])/\Q1 w' p l bs/\l<=4108) ?_).mono (by
  rintro e w' ⟨v,rfl,d,p,l,c,bs,rfl,h⟩;exact⟨d,p,l,c,bs,rfl,h⟩)
 have f:i<Ds.length:=(Zd.1 hi).1;obtain⟨pD,cD,pB,cB,g⟩:=h.row;refine⟨_,g.c rfl,Q0 (fun h=>by cases h) fun _=>(Qm1 h (i:Int)).mono ?_⟩;rintro e t ⟨rfl,rfl⟩;obtain⟨ap,cD',b,Fi,j,m,n,_,_⟩:=h.at hi;refine⟨_,rfl,Q0 (fun o=>by simp at o;omega) fun _=>⟨_,_,_,j,⟨by omega,by omega⟩,_,by rw[Ze];exact m,?_⟩⟩;refine(QPj n k).mono ?_;rintro e q ⟨d,p,l,c,bs,rfl,h⟩;exact⟨_,_,_,_,rfl,d,p,l,c,bs,rfl,h⟩
theorem QS7(h:Q20 w r Ds B left off F){i:Int}(hi:¬(0<=i/\i<Ds.length))(k t y:Int):Calls prog 94 #[.pointer (some (at0 r)),int i64 i,int i64 k,int i64 t, .int .u8 y] w fun e w'=>e= .returned (int i64 1)/\w'=w:=by
 refine(F94_calls (some (at0 r)) i k t y w (fun v w'=>v=int i64 1/\w'=w) ?_).mono (by rintro e w' ⟨v,rfl,rfl,h⟩;exact⟨rfl,h⟩);refine(Qm1 h i).mono ?_;rintro e f ⟨rfl,rfl⟩;exact⟨_,rfl,Q0 (fun _=>⟨rfl,rfl⟩) fun d=>by simp at d;omega⟩
theorem Q9e(h:Q20 w r Ds B left off F){i:Nat}{D:Dk}(hi:Ds[i]? =some D)(k t:Int)(y:UInt8)(ht: -9223372036854775808<=t/\t<=9223372036854775807):
  Calls prog 94 #[.pointer (some (at0 r)),int i64 (i:Int),int i64 k,int i64 t, .int .u8 (y.toNat:Int)] w fun e w'=>∃d,e= .returned (int i64 (QC D k))/\Qp F d w w'/\Q20 w' r (Ds.set i (Qf D k t y)) B left off d:=by
 refine(F94_calls (some (at0 r)) (i:Int) k t (y.toNat:Int) w (fun v w'=>∃d,v=int i64 (QC D k)/\Qp F d w w'/\Q20 w' r (Ds.set i (Qf D k t y)) B left off d) ?_).mono (by rintro e w' ⟨v,rfl,d,rfl,h⟩;exact⟨d,rfl,h⟩);have l:i<Ds.length:=(Zd.1 hi).1;refine(Qm1 h (i:Int)).mono ?_;rintro e u ⟨rfl,rfl⟩;obtain⟨ap,cD',b,Fi,m,n,o,_,f⟩:=h.at hi;refine⟨_,rfl,Q0 (fun p=>by simp at p;omega) fun _=>⟨_,_,_,m,⟨by omega,by omega⟩,_,by rw[Ze];exact n,?_⟩⟩;refine(Qce o k t y ht).mono ?_;rintro e g ⟨F1,rfl,hs,j⟩;obtain⟨F2,q,hS⟩:=f g _ F1 hs j;exact⟨_,rfl,F2,rfl,hS,q⟩
theorem Qfi(h:Q20 w r Ds B left off F)(k:Int):Calls prog 89 #[.pointer (some (at0 r)),int i64 k] w fun e w'=>e= .returned (.tuple #[])/\Qp F F w w'∧
  Q20 w' r Ds B (if off then left else if k< -1 then-1 else k) (if off then true else decide (k=0)) F:=by
 refine(F89_calls (some (at0 r)) k w (fun v w'=>v= .tuple #[]/\Qp F F w w'/\Q20 w' r Ds B (if off then left else if k< -1 then-1 else k) (if off then true else decide (k=0)) F) ?_).mono (by rintro e w' ⟨v,rfl,rfl,h⟩;exact⟨rfl,h⟩);obtain⟨pD,cD,pB,cB,x⟩:=h.row;refine⟨_,x.c rfl,Q0 (fun j=>⟨rfl,Qp.refl _ _,?_⟩) fun j=> ?_⟩
 ·subst j
  simpa using h
 ·subst j
  refine⟨x.live (by simp),fun H z=> ?_⟩;obtain⟨l,d⟩:=h.setLeft z;obtain⟨_,_,_,_,f⟩:=l.row;simp only[Bool.false_eq_true,if_false];refine Q0 (fun m=> ?_) (fun m=> ?_)
  ·simp only[Za]at m
   refine⟨f.live (by simp),fun w8 A=> ?_⟩;obtain⟨y,n⟩:=l.setLeft A;obtain⟨_,_,_,_,o⟩:=y.row;refine⟨o.live (by simp),fun C p=> ?_⟩;obtain⟨q,g⟩:=y.setOff p;refine⟨trivial,(d.trans n).trans g,?_⟩;rw[if_neg (by omega)];exact q
  ·simp only[Zb]at m
   refine⟨f.live (by simp),fun E t=> ?_⟩;obtain⟨u,i⟩:=l.setOff t;refine⟨trivial,d.trans i,?_⟩;have:(if k< -1 then-1 else k)= -1:=by split<;>omega
   rw[this];exact u
end
open Go Go.Vc
open Go.IntKind (i64)
open Go.Value (int)
open Go.Proofs.Tryz (prog)
section
variable {w:World}{r:Nat}{Ds:List Dk}{B:List Int}{left:Int}{off:Bool}{F:Nat->Prop}
theorem QUb(h:Q20 w r Ds B left off F){i:Int}(hi:¬(0<=i/\i<Ds.length)):Calls prog 92 #[.pointer (some (at0 r)),int i64 i] w fun e w'=>e= .returned (int i64 1)/\w'=w:=by
 refine(F92_calls (some (at0 r)) i w (fun v w'=>v=int i64 1/\w'=w) ?_).mono (by rintro e w' ⟨v,rfl,rfl,h⟩;exact⟨rfl,h⟩);refine(Qm1 h i).mono ?_;rintro e f ⟨rfl,rfl⟩;exact⟨_,rfl,Q0 (fun _=>⟨rfl,rfl⟩) fun d=>by simp at d;omega⟩
theorem QT7(h:Q20 w r Ds B left off F){i:Int}(hi:¬(0<=i/\i<Ds.length)):Calls prog 93 #[.pointer (some (at0 r)),int i64 i] w fun e w'=>e= .returned (int i64 1)/\w'=w:=by
 refine(F93_calls (some (at0 r)) i w (fun v w'=>v=int i64 1/\w'=w) ?_).mono (by rintro e w' ⟨v,rfl,rfl,h⟩;exact⟨rfl,h⟩);refine(Qm1 h i).mono ?_;rintro e f ⟨rfl,rfl⟩;exact⟨_,rfl,Q0 (fun _=>⟨rfl,rfl⟩) fun d=>by simp at d;omega⟩
theorem QLj(h:Q20 w r Ds B left off F){i:Nat}{D:Dk}(hi:Ds[i]? =some D){n:Int}(m:B[i]? =some n):
  Calls prog 92 #[.pointer (some (at0 r)),int i64 (i:Int)] w fun e w'=>∃d,e= .returned (int i64 0)/\Qp F d w w'/\Q20 w' r (Ds.set i {D with dead:=true,lasts:=[],waits:=[]}) (B.set i (i64.wrap (n+1))) left off d:=by
 refine(F92_calls (some (at0 r)) (i:Int) w (fun v w'=>∃d,v=int i64 0/\Qp F d w w'/\Q20 w' r (Ds.set i {D with dead:=true,lasts:=[],waits:=[]}) (B.set i (i64.wrap (n+1))) left off d) ?_).mono (by rintro e w' ⟨v,rfl,d,rfl,h⟩;exact⟨d,rfl,h⟩);have o:i<Ds.length:=(Zd.1 hi).1;have p:i<B.length:=(Zd.1 m).1;refine(Qm1 h (i:Int)).mono ?_;rintro e H ⟨rfl,rfl⟩;obtain⟨ap,cD',b,Fi,q,t,u,_,f⟩:=h.at hi;refine⟨_,rfl,Q0 (fun x=>by simp at x;omega) fun _=>⟨_,_,_,q,⟨by omega,by omega⟩,_,by rw[Ze];exact t,?_⟩⟩;refine(QOj u).mono ?_;rintro e k ⟨rfl,hs,l⟩;obtain⟨F2,y,hS⟩:=f k _ _ hs l;obtain⟨aB,cB,z,A,C,g⟩:=y.born m;refine⟨rfl,_,_,_,z,⟨by omega,by omega⟩,_,by rw[Ze];exact A,⟨by omega,by omega⟩,by rw[Ze];exact C,fun E j=> ?_⟩;rw[Ze]at j;obtain⟨hA2,hS2⟩:=g _ _ j;exact⟨F2,rfl,hS.trans hS2,hA2⟩
theorem Qae(h:Q20 w r Ds B left off F){i:Nat}{D:Dk}(hi:Ds[i]? =some D){n:Int}(m:B[i]? =some n):
  Calls prog 93 #[.pointer (some (at0 r)),int i64 (i:Int)] w fun e w'=>∃d,e= .returned (int i64 0)/\Qp F d w w'/\Q20 w' r (Ds.set i {D with dead:=false,lasts:=[],waits:=[]}) (B.set i (i64.wrap (n+1))) left off d:=by
 refine(F93_calls (some (at0 r)) (i:Int) w (fun v w'=>∃d,v=int i64 0/\Qp F d w w'/\Q20 w' r (Ds.set i {D with dead:=false,lasts:=[],waits:=[]}) (B.set i (i64.wrap (n+1))) left off d) ?_).mono (by rintro e w' ⟨v,rfl,d,rfl,h⟩;exact⟨d,rfl,h⟩);have o:i<Ds.length:=(Zd.1 hi).1;have p:i<B.length:=(Zd.1 m).1;refine(Qm1 h (i:Int)).mono ?_;rintro e H ⟨rfl,rfl⟩;obtain⟨ap,cD',b,Fi,q,t,u,_,f⟩:=h.at hi;refine⟨_,rfl,Q0 (fun x=>by simp at x;omega) fun _=>⟨_,_,_,q,⟨by omega,by omega⟩,_,by rw[Ze];exact t,?_⟩⟩;refine(Qde u).mono ?_;rintro e k ⟨rfl,hs,l⟩;obtain⟨F2,y,hS⟩:=f k _ _ hs l;obtain⟨aB,cB,z,A,C,g⟩:=y.born m;refine⟨rfl,_,_,_,z,⟨by omega,by omega⟩,_,by rw[Ze];exact A,⟨by omega,by omega⟩,by rw[Ze];exact C,fun E j=> ?_⟩;rw[Ze]at j;obtain⟨hA2,hS2⟩:=g _ _ j;exact⟨F2,rfl,hS.trans hS2,hA2⟩
def QY0(i:Nat)(Ds:List Dk):List Dk:=Ds.mapIdx fun j D=>if j<i then QB1 D else D
theorem Qq4(i:Nat)(Ds:List Dk):(QY0 i Ds).length=Ds.length:=by simp[QY0]
theorem QPd{i:Nat}{Ds:List Dk}{D:Dk}(h:Ds[i]? =some D):(QY0 i Ds)[i]? =some D:=by simp[QY0,h]
theorem Qub{i:Nat}{Ds:List Dk}{D:Dk}(h:Ds[i]? =some D):(QY0 i Ds).set i (QB1 D)=QY0 (i+1) Ds:=by
 apply List.ext_getElem?;intro j;rw[List.getElem?_set]
 by_cases d:i=j
 ·subst d
  have f:=(Zd.1 h).1;rw[if_pos rfl,if_pos (by rw[Qq4];exact f)];simp[QY0,h]
 ·rw[if_neg d]
  simp only[QY0,List.getElem?_mapIdx];cases Ds[j]? with
  |none=>rfl
  |some m=>
   simp only[Option.map_some]
   by_cases e:j<i
   ·rw[if_pos e,if_pos (by omega)]
   ·rw[if_neg e,if_neg (by omega)]
theorem Qma(h:Q20 w r Ds B left true F):Calls prog 87 #[.pointer (some (at0 r))] w fun e w'=>e= .returned (int i64 130)/\w'=w:=by
 refine(F87_calls (some (at0 r)) w (fun v w'=>v=int i64 130/\w'=w) (fun _ _ _=>False) (fun _ _ _=>0) ?_).mono (by rintro e w' ⟨v,rfl,rfl,h⟩;exact⟨rfl,h⟩);obtain⟨pD,cD,pB,cB,d⟩:=h.row;exact⟨_,d.c rfl,Q0 (fun _=>⟨rfl,rfl⟩) fun h=>by cases h⟩
theorem Qgi(h:Q20 w r Ds B left false F)(hM:Ds.length<=100):Calls prog 87 #[.pointer (some (at0 r))] w fun e w'=>∃d,e= .returned (int i64 0)/\Qp F d w w'/\Q20 w' r (QY0 Ds.length Ds) B left false d:=by
 refine(F87_calls (some (at0 r)) w (fun v w'=>∃d,v=int i64 0/\Qp F d w w'/\Q20 w' r (QY0 Ds.length Ds) B left false d)
  (fun _ n4 l=>∃(i:Nat)(d:Nat->Prop),n4=i/\i<=Ds.length/\Qp F d w l/\Q20 l r (QY0 i Ds) B left false d) (fun _ n4 _=>100-n4.toNat) ?_).mono (by rintro e w' ⟨v,rfl,d,rfl,h⟩;exact⟨d,rfl,h⟩)
 obtain⟨pD,cD,pB,cB,y⟩:=h.row;have z:QY0 0 Ds=Ds:=by
  apply List.ext_getElem?;intro j;simp only[QY0,List.getElem?_mapIdx];cases Ds[j]? <;>simp
 refine⟨_,y.c rfl,Q0 (fun h=>by cases h) fun _=>⟨⟨0,F,rfl,Nat.zero_le _,Qp.refl _ _,by rw[z];exact h⟩,?_⟩⟩;rintro n4 l ⟨i,F5,rfl,hi,q,m⟩
 intros
 obtain⟨pD5,cD5,pB5,cB5,g⟩:=m.row;rw[Qq4]at g;refine⟨_,_,_,g.c rfl,Q0 (fun k=> ?_) (fun n=> ?_)⟩
 ·simp only[Za]at k
  obtain⟨D,t⟩:∃D,Ds[i]? =some D:=⟨Ds[i]'(by omega),Zc _⟩;obtain⟨ap,cD',b,Fi,u,A,C,_,f⟩:=m.at (QPd t);rw[Qq4]at u;refine⟨_,_,_,u,⟨by omega,k⟩,_,by rw[Ze];exact A,?_⟩;refine(Qji C).mono ?_;rintro e o ⟨F1,rfl,hs,p⟩;obtain⟨F2,x,hS⟩:=f o _ F1 hs p;rw[Qub t]at x;rw[w64 (by omega)];exact⟨_,rfl,⟨i+1,F2,by omega,by omega,q.trans hS,x⟩,by show 100-((i:Int)+1).toNat<100-(i:Int).toNat;omega⟩
 ·simp only[Zb]at n
  have:i=Ds.length:=by omega
  subst this;exact⟨F5,rfl,q,m⟩
theorem Qsg(h:Q20 w r Ds B left off F)(hM:Ds.length<=100):Calls prog 57 #[.pointer (some (at0 r))] w fun e w'=>∃p l c,e= .returned (.slice p l c)/\Ext w w'/\l=Ds.length∧
  Q5 w' w.heap.size 4 1 p l c (Ds.map fun D=> .bool (!D.dead)):=by
 refine(F57_calls (some (at0 r)) w (fun v w'=>∃p l c,v= .slice p l c/\Ext w w'/\l=Ds.length/\Q5 w' w.heap.size 4 1 p l c (Ds.map fun D=> .bool (!D.dead)))
  (fun _ t d u q f=>∃i:Nat,q=i/\i<=Ds.length/\Ext w f/\d=i/\Q5 f w.heap.size 4 1 t d u ((Ds.take i).map fun D=> .bool (!D.dead))) (fun _ _ _ _ q _=>100-q.toNat) ?_).mono (by
   rintro e w' ⟨v,rfl,p,l,c,rfl,h⟩;exact⟨p,l,c,rfl,h⟩)
 refine⟨⟨0,rfl,Nat.zero_le _,Upd.refl _ _,rfl,Q5.nil _ _ _ _⟩,?_⟩;rintro t d u q f ⟨i,rfl,hi,g,rfl,own⟩
 intros
 have k:=h.ext g;obtain⟨pD,cD,pB,cB,C⟩:=k.row;refine⟨_,_,_,C.c rfl,Q0 (fun m=> ?_) (fun x=> ?_)⟩
 ·simp only[Za]at m
  obtain⟨D,A⟩:∃D,Ds[d]? =some D:=⟨Ds[d]'(by omega),Zc _⟩;obtain⟨ap,cD',b,Fi,E,H,I,_,_⟩:=k.at A;obtain⟨pL,lL,cL,pW,lW,cW,G,n,_⟩:=I.row;refine⟨_,_,_,E,⟨by omega,m⟩,some (at0 b),by rw[Ze];exact H,_,n.c rfl,fun J K L=> ?_⟩;obtain⟨M,N,y,o,j,z⟩:=Qg4 QDc (by omega) g own L rfl (by omega);refine⟨M,d+1,N,y,o,?_⟩;rw[w64 (by omega)];refine⟨⟨d+1,by omega,by omega,z,rfl,?_⟩,by show 100-((d:Int)+1).toNat<100-(d:Int).toNat;omega⟩;rw[Zn,A];simpa using j
 ·simp only[Zb]at x
  have:Ds.take d=Ds:=Zh (by omega);rw[this]at own;exact⟨t,d,u,rfl,g,by omega,own⟩
end
open Go Go.Vc
open Go.IntKind (i64)
open Go.Value (int)
open Go.Proofs.Tryz (prog)
def QF0(KS:List (List Int))(i:Nat)(Ds:List Dk):List Dk:=Ds.mapIdx fun j D=>if j<i then Qk2 D (KS.getD j [])else D
theorem Q03(KS:List (List Int))(i:Nat)(Ds:List Dk):(QF0 KS i Ds).length=Ds.length:=by simp[QF0]
theorem Qa8{KS:List (List Int)}{i:Nat}{Ds:List Dk}{D:Dk}(h:Ds[i]? =some D):(QF0 KS i Ds)[i]? =some D:=by simp[QF0,h]
theorem Qmb{KS:List (List Int)}{i:Nat}{Ds:List Dk}{D:Dk}(h:Ds[i]? =some D):(QF0 KS i Ds).set i (Qk2 D (KS.getD i []))=QF0 KS (i+1) Ds:=by
 apply List.ext_getElem?;intro j;rw[List.getElem?_set]
 by_cases d:i=j
 ·subst d
  have f:=(Zd.1 h).1;rw[if_pos rfl,if_pos (by rw[Q03];exact f)];simp[QF0,h]
 ·rw[if_neg d]
  simp only[QF0,List.getElem?_mapIdx];cases Ds[j]? with
  |none=>rfl
  |some m=>
   simp only[Option.map_some]
   by_cases e:j<i
   ·rw[if_pos e,if_pos (by omega)]
   ·rw[if_neg e,if_neg (by omega)]
section
variable {w:World}{r:Nat}{Ds:List Dk}{B:List Int}{left:Int}{off:Bool}{F:Nat->Prop}
theorem Qbe(h:Q20 w r Ds B left off F)(hM:Ds.length<=100){KB:Nat->Prop}(E:∀x,KB x->¬F x)(t:∀x,KB x->¬w.heap.size<=x){p:σ}{l c:Nat}{KS:List (List Int)}(hK:QI5 w KB p l KS)(T:∀ks∈KS,ks.length<=9223372036854775807):
  Calls prog 91 #[.pointer (some (at0 r)), .slice p l c] w fun e w'=>∃f,e= .returned (.tuple #[])/\Qp F f w w'/\Q20 w' r (QF0 KS Ds.length Ds) B (-1) false f:=by
 refine(F91_calls (some (at0 r)) p l c w (fun v w'=>∃f,v= .tuple #[]/\Qp F f w w'/\Q20 w' r (QF0 KS Ds.length Ds) B (-1) false f)
  (fun _ Q H=>∃(i:Nat)(f:Nat->Prop),Q=i/\i<=Ds.length/\Qp F f w H/\Q20 H r (QF0 KS i Ds) B left off f) (fun _ Q _=>100-Q.toNat) ?_).mono (by rintro e w' ⟨v,rfl,f,rfl,h⟩;exact⟨f,rfl,h⟩)
 have hl:=hK.1;have u:QF0 KS 0 Ds=Ds:=by
  apply List.ext_getElem?;intro j;simp[QF0]
 refine⟨⟨0,F,rfl,Nat.zero_le _,Qp.refl _ _,by rw[u];exact h⟩,?_⟩;rintro Q H ⟨i,f,rfl,hi,R,S⟩
 intros
 obtain⟨pD,cD,pB,cB,y⟩:=S.row;rw[Q03]at y;refine⟨_,_,_,y.c rfl,Q0 (fun z=> ?_) (fun U=> ?_)⟩
 ·simp only[Za]at z
  obtain⟨D,V⟩:∃D,Ds[i]? =some D:=⟨Ds[i]'(by omega),Zc _⟩;have go:∀d (Fi F1:Nat->Prop) (F2:Nat->Prop),Qp f F2 H d->Q20 d r ((QF0 KS i Ds).set i (Qk2 D (KS.getD i []))) B left off F2→
    (∃(i_1:Nat)(f:Nat->Prop),i64.wrap ((i:Int)+1)=i_1/\i_1<=Ds.length/\Qp F f w d/\Q20 d r (QF0 KS i_1 Ds) B left off f)/\100-(i64.wrap ((i:Int)+1)).toNat<100-(i:Int).toNat:=by
   intro d _ _ F2 hs C;rw[Qmb V]at C;rw[w64 (by omega)];exact⟨⟨i+1,F2,by omega,by omega,R.trans hs,C⟩,by omega⟩
  refine Q0 (fun k=> ?_) (fun k=> ?_)
  ·simp only[Za]at k
   intro ak m;have W:=S.ext m.ext;obtain⟨ap,cD',b,Fi,I,X,Y,J,g⟩:=W.at (Qa8 V);rw[Q03]at I;obtain⟨ks,n⟩:∃ks,KS[i]? =some ks:=⟨KS[i]'(by omega),Zc _⟩;obtain⟨aa,q,nn,cc,rfl,al,ec,o,Z,am⟩:=((hK.upd R.upd E).upd m.ext fun _ _ h=>h).2 i ks n;refine⟨_,_,_,I,⟨by omega,z⟩,some (at0 b),by rw[Ze];exact X,⟨by omega,k⟩,_,_,_,by rw[Ze];exact ec,?_⟩;have ao:=o.1;have aq:=T ks (Zs n);refine(Q9d Y o (by omega) fun a' ha ab hf=> ?_).mono ?_
   ·have hw:=Z ab a' ha
    rcases R.grow _ (J _ hf).1 with h1|h1
    ·exact E _ hw h1
    ·exact t _ hw h1
   rintro e d ⟨F1,rfl,hs,A⟩;have:KS.getD i []=ks:=by simp[List.getD,n]
   obtain⟨F2,C,hS⟩:=g d _ F1 hs A;refine⟨rfl,go d Fi F1 F2 ((Qp.ext m.ext).trans hS) (by rw[this];exact C)⟩
  ·simp only[Zb]at k
   obtain⟨ap,cD',b,Fi,I,X,Y,J,g⟩:=S.at (Qa8 V);rw[Q03]at I;refine⟨_,_,_,I,⟨by omega,z⟩,some (at0 b),by rw[Ze];exact X,?_⟩;have K:QV H none 0 []:=⟨rfl,Qa.nil _ _⟩;refine(Q9d Y K (by omega) fun a' ha=>by cases ha).mono ?_;rintro e L ⟨F1,rfl,hs,A⟩;have:KS.getD i []=[]:=by
    have:KS[i]? =none:=Zr (by omega);simp[List.getD,this]
   obtain⟨F2,C,hS⟩:=g L _ F1 hs A;exact⟨rfl,go L Fi F1 F2 hS (by rw[this];exact C)⟩
 ·simp only[Zb]at U
  have k:i=Ds.length:=by omega
  subst k;refine⟨y.live (by simp),fun au ad=> ?_⟩;obtain⟨M,N⟩:=S.setOff ad;obtain⟨_,_,_,_,O⟩:=M.row;refine⟨O.live (by simp),fun av ae=> ?_⟩;obtain⟨af,P⟩:=M.setLeft ae;exact⟨f,rfl,(R.trans N).trans P,af⟩
end
open Go Go.Vc
open Go.IntKind (i64)
open Go.Value (int)
open Go.Proofs.Tryz (prog)
theorem QAl:Qz1 prog 102 105 1 8:=⟨by kernel_rfl,⟨Tryz.t105, .pointer none,by kernel_rfl,by kernel_rfl,by kernel_rfl,by kernel_rfl,by kernel_rfl⟩,by decide⟩
theorem Qhg{w1 d:World}{k:Nat}{v:Value}{e:TypeId}(f:QG w1 k (.cells #[v] e) d):Qa d (some (at0 k)) [v]:=fun j u g=>⟨_,rfl,Row.cell ⟨_,_,f.at⟩ (by simpa using g)⟩
theorem QX2{P:Program}{t e:TypeId}{bytes:Nat}(E:Qz1 P t e 1 bytes)(z:bytes<=64){w1 l:World}{p:σ}{n c:Nat}{xs:List Value}(h:Q5 w1 0 e 1 p n c xs){k:Nat}{v:Value}
  (A:QG w1 k (.cells #[v] e) l) (L:v.oneCell'=true) (N:n<=100000):
  ∃g o i,Sem.run P (Builtin.append_ #[t,t] t #[.slice p n c, .slice (some (at0 k)) 1 1]) l= .ok (.slice g (n+1) o) i/\Q5 i 0 e 1 g (n+1) o (xs++ [v])/\Upd (fun b=>p=some (at0 b)) l i∧
   (∀x,g=some (at0 x)->p=some (at0 x)\/x=l.heap.size):=by
 have H:=h.ext A.ext;have f:∀u∈ [v],u.oneCell'=true:=by
  intro u I;simp only[List.mem_singleton]at I;subst I;exact L
 have J:(n+1)*bytes<=(100000+1)*64:=Nat.mul_le_mul (by omega) z;obtain⟨g,o,i,K,j,C,_⟩:=H.append E t (q:=some (at0 k)) (m:=1) (d:=1) (news:=[v]) rfl (Qhg A) (fun h=>by cases h) f (by unfold maxLen;omega) (by omega) (Nat.zero_le _);have M:=QC9 E t H rfl (Qhg A) f (by omega) (by unfold maxLen;omega) (by omega) K;refine⟨g,o,i,K,j,C,fun x y=> ?_⟩;rcases M with h|h
 ·exact .inl (by rw[←h];exact y)
 ·rw[h]at y
  simp only[Zi,at0,Zv,and_true]at y;exact .inr y.symm
section
variable {w0 w1:World}{r:Nat}{Ds:List Dk}{B:List Int}{left:Int}{off:Bool}{F:Nat->Prop}
theorem Q20.pushD(h:Q20 w0 r Ds B left off F)(l:Ext w0 w1){b:Nat}{D:Dk}{Fd:Nat->Prop}(hd:QY3 w1 b D Fd)(d:∀x,Fd x->w0.heap.size<=x)(hM:Ds.length<=100):
  ∃p cD,w1.cell? ((at0 r).add 0)=some (.slice p Ds.length cD)/\∀(k:Nat)(V:World),QG w1 k (.cells #[.pointer (some (at0 b))] 105) V→
   ∃H Q L,Sem.run prog (Builtin.append_ #[102,102] 102 #[.slice p Ds.length cD, .slice (some (at0 k)) 1 1]) V= .ok (.slice H (Ds.length+1) Q) L/\QD L ((at0 r).add 0)∧
    ∀M,Qt L ((at0 r).add 0) (.slice H (Ds.length+1) Q) M->∃N,Q20 M r (Ds++ [D]) B left off N/\Upd F w0 M/\∀x,N x->F x\/w0.heap.size<=x:=by
 have q:=h.lt;have h':=h.ext l;obtain⟨pD,cD,pB,cB,bs,Fs,h1,h2,h3,h4,h5,h6,W,O,y⟩:=h';refine⟨pD,cD,h1.c rfl,fun k V P=> ?_⟩;have x2:=l.trans P.ext;have aq:=x2.size;have ae:=P.size;have ar:=l.size;obtain⟨H,Q,L,hr,R,z,v⟩:=QX2 QAl (by omega) h2 P rfl (by omega);have p_lt:∀x,pD=some (at0 x)->x<w0.heap.size:=fun x I=>q x ((y x).2 (.inr (.inl I)));have q_lt:∀x,pB=some (at0 x)->x<w0.heap.size:=fun x I=>q x ((y x).2 (.inr (.inr (.inl I))));have F_lt:∀i x,i<Ds.length->Fs i x->x<w0.heap.size:=fun i x hi o=>q x ((y x).2 (.inr (.inr (.inr ⟨i,hi,o⟩))));have r_lt:r<w0.heap.size:=q r ((y r).2 (.inl rfl));have hd_lt:=hd.lt;have r3:=z.rowW (P.ext.rowW h1 id) (fun e=>O.1 e);refine⟨H,Q,L,hr,r3.live (by simp),fun M hs=> ?_⟩;have A:Upd (fun x=>x=r) L M:=by
  have:=hs.upd;rw[Qx]at this;exact this
 have hp'r:H≠some (at0 r):=fun e=>by
  rcases v r e with h|h
  ·exact O.1 h
  ·omega
 have f:(Ds++ [D]).length=Ds.length+1:=by simp
 have E:∀{U:Nat}{D':Dk}{N:Nat->Prop},QY3 w1 U D' N->(∀x,N x->x≠r/\pD≠some (at0 x))->QY3 M U D' N:=fun J hF=>
  ((J.ext P.ext).upd z (fun x l o=>(hF x o).2 l)).upd A fun x l o=>(hF x o).1 l
 refine⟨fun x=>x=r\/H=some (at0 x)\/pB=some (at0 x)\/∃i,i<Ds.length+1/\(if i=Ds.length then Fd else Fs i) x,⟨H,Q,pB,cB,bs++ [b],fun i=>if i=Ds.length then Fd else Fs i,?_,?_,?_,by simp[h4],?_,?_,?_,⟨hp'r,O.2.1,?_⟩,?_⟩,?_,?_⟩
 ·rw[f];exact hs.row r3
 ·rw[f]
  have:Qqg (bs++ [b])=Qqg bs++ [.pointer (some (at0 b))]:=by simp[Qqg]
  rw[this];exact R.upd A fun g T e=>hp'r (by rw[T,e])
 ·exact((h3.ext P.ext).upd z fun g T e=>O.2.2 g e T).upd A fun g T e=>O.2.1 (by rw[T,e])
 ·intro i m hi
  rcases Nat.lt_or_ge i Ds.length with C|C
  ·rw[Zl C]at hi
   obtain⟨U,X,J⟩:=h5 i m hi;refine⟨U,by rw[Zl (by omega)];exact X,?_⟩;have Y:¬i=Ds.length:=by omega
   simp only[if_neg Y];exact E J fun x o=>⟨(W i x C o).1,(W i x C o).2.1⟩
  ·have Z:i=Ds.length:=by
    have:=(Zd.1 hi).1;rw[f]at this;omega
   subst Z;rw[Zm (Nat.le_refl _),Nat.sub_self]at hi;cases hi;refine⟨b,by rw[Zm (by omega),h4,Nat.sub_self];rfl,?_⟩;simp only[if_true];exact E hd fun x o=>⟨fun e=>by have:=d x o;omega,fun e=>by have:=d x o;have:=p_lt x e;omega⟩
 ·intro i j x hi hj t u
  rw[f]at hi hj
  by_cases n:i=Ds.length<;>by_cases K:j=Ds.length
  ·omega
  ·simp only[if_pos n]at t;simp only[if_neg K]at u
   have:=d x t;have:=F_lt j x (by omega) u;omega
  ·simp only[if_neg n]at t;simp only[if_pos K]at u
   have:=d x u;have:=F_lt i x (by omega) t;omega
  ·simp only[if_neg n]at t;simp only[if_neg K]at u
   exact h6 i j x (by omega) (by omega) t u
 ·intro i x hi o
  rw[f]at hi
  by_cases n:i=Ds.length
  ·simp only[if_pos n]at o
   have:=d x o;refine⟨by omega,fun e=> ?_,fun e=> ?_⟩
   ·rcases v x e with h|h
    ·have:=p_lt x h;omega
    ·have:=hd_lt x o;omega
   ·have:=q_lt x e;omega
  ·simp only[if_neg n]at o
   obtain⟨g1,g2,g3⟩:=W i x (by omega) o;refine⟨g1,fun e=> ?_,g3⟩;rcases v x e with h|h
   ·exact g2 h
   ·have:=F_lt i x (by omega) o;omega
 ·intro x I hb
  rcases v x I with h|h
  ·exact O.2.2 x h hb
  ·have:=q_lt x hb;omega
 ·intro x
  rw[f]
 ·refine Upd.trans (Upd.trans (Ext.upd (S:=F) x2) (z.mono fun x l I=>(y x).2 (.inr (.inl I))) fun _ _ h=>h) (A.mono fun x _ l=>(y x).2 (.inl l)) fun _ _ h=>h
 ·rintro x (rfl|l|l|⟨i,hi,l⟩)
  ·exact .inl ((y _).2 (.inl rfl))
  ·rcases v x l with h|h
   ·exact .inl ((y _).2 (.inr (.inl h)))
   ·exact .inr (by omega)
  ·exact .inl ((y _).2 (.inr (.inr (.inl l))))
  ·by_cases n:i=Ds.length
   ·simp only[if_pos n]at l
    exact .inr (d x l)
   ·simp only[if_neg n]at l
    exact .inl ((y _).2 (.inr (.inr (.inr ⟨i,by omega,l⟩))))
theorem Q20.pushB(h:Q20 w1 r Ds B left off F)(n:Int)(hM:B.length<=100):
  ∃p cB,w1.cell? ((at0 r).add 1)=some (.slice p B.length cB)/\∀(k:Nat)(L:World),QG w1 k (.cells #[int i64 n] 3) L→
   ∃v E z,Sem.run prog (Builtin.append_ #[30,30] 30 #[.slice p B.length cB, .slice (some (at0 k)) 1 1]) L= .ok (.slice v (B.length+1) E) z/\QD z ((at0 r).add 1)∧
    ∀H,Qt z ((at0 r).add 1) (.slice v (B.length+1) E) H->∃P,Q20 H r Ds (B++ [n]) left off P/\Upd F w1 H/\∀x,P x->F x\/w1.heap.size<=x:=by
 have f:=h.lt;obtain⟨pD,cD,pB,cB,bs,Fs,Q,U,V,W,X,Y,M,A,j⟩:=h;refine⟨pB,cB,Q.c rfl,fun k L y=> ?_⟩;have Z:=y.ext.size;have R:=y.size;obtain⟨v,E,z,hr,I,l,o⟩:=QX2 QK8 (by omega) V y rfl (by omega);have p_lt:∀x,pD=some (at0 x)->x<w1.heap.size:=fun x C=>f x ((j x).2 (.inr (.inl C)));have F_lt:∀i x,i<Ds.length->Fs i x->x<w1.heap.size:=fun i x hi t=>f x ((j x).2 (.inr (.inr (.inr ⟨i,hi,t⟩))));have r_lt:r<w1.heap.size:=f r ((j r).2 (.inl rfl));have T:=l.rowW (y.ext.rowW Q id) (fun e=>A.2.1 e);refine⟨v,E,z,hr,T.live (by simp),fun H hs=> ?_⟩;have q:Upd (fun x=>x=r) z H:=by
  have:=hs.upd;rw[Qx]at this;exact this
 have hp'r:v≠some (at0 r):=fun e=>by
  rcases o r e with h|h
  ·exact A.2.1 h
  ·omega
 have u:(B++ [n]).length=B.length+1:=by simp
 refine⟨fun x=>x=r\/pD=some (at0 x)\/v=some (at0 x)\/∃i,i<Ds.length/\Fs i x,⟨pD,cD,v,E,bs,Fs,?_,?_,?_,W,?_,Y,?_,⟨A.1,hp'r,?_⟩,?_⟩,?_,?_⟩
 ·rw[u];exact hs.row T
 ·exact((U.ext y.ext).upd l fun g J e=>A.2.2 g J e).upd q fun g J e=>A.1 (by rw[J,e])
 ·rw[u]
  have:QY8 (B++ [n])=QY8 B++ [int i64 n]:=by simp[QY8]
  rw[this];exact I.upd q fun g J e=>hp'r (by rw[J,e])
 ·intro i m hi
  obtain⟨b',N,O⟩:=X i m hi;have K:=(Zd.1 hi).1;exact⟨b',N,((O.ext y.ext).upd l fun x d t=>(M i x K t).2.2 d).upd q fun x d t=>(M i x K t).1 d⟩
 ·intro i x hi t
  obtain⟨g1,g2,g3⟩:=M i x hi t;refine⟨g1,g2,fun e=> ?_⟩;rcases o x e with h|h
  ·exact g3 h
  ·have:=F_lt i x hi t;omega
 ·intro x C hb
  rcases o x hb with h|h
  ·exact A.2.2 x C h
  ·have:=p_lt x C;omega
 ·intro x;rfl
 ·refine Upd.trans (Upd.trans (Ext.upd (S:=F) y.ext) (l.mono fun x d C=>(j x).2 (.inr (.inr (.inl C)))) fun _ _ h=>h) (q.mono fun x _ d=>(j x).2 (.inl d)) fun _ _ h=>h
 ·rintro x (rfl|d|d|⟨i,hi,d⟩)
  ·exact .inl ((j _).2 (.inl rfl))
  ·exact .inl ((j _).2 (.inr (.inl d)))
  ·rcases o x d with h|h
   ·exact .inl ((j _).2 (.inr (.inr (.inl h))))
   ·exact .inr (by omega)
  ·exact .inl ((j _).2 (.inr (.inr (.inr ⟨i,hi,d⟩))))
end
theorem Q8k{n s:Int}(h:n<1\/32<n)(w:World):Calls prog 27 #[int i64 n,int i64 s] w fun e w'=>e= .returned (.tuple #[.pointer none,int i64 1])/\w'=w:=by
 refine(F27_calls n s w (fun v w'=>v= .tuple #[.pointer none,int i64 1]/\w'=w) (fun _ _ _ _=>False) (fun _ _ _ _=>0) ?_).mono (by rintro e w' ⟨v,rfl,rfl,h⟩;exact⟨rfl,h⟩);refine Q0 (fun _=>⟨rfl,rfl⟩) (fun d=>Q0 (fun _=>⟨rfl,rfl⟩) (fun f=> ?_));simp only[Zb]at d f;omega
theorem QVb{n s:Int}(h:1<=n/\n<=32)(hs:1<=s/\s<=4096)(w:World):Calls prog 27 #[int i64 n,int i64 s] w fun e w'=>∃r F,e= .returned (.tuple #[.pointer (some (at0 r)),int i64 0])/\Ext w w'∧
  Q20 w' r (List.replicate n.toNat ⟨s,[],[],false⟩) (List.replicate n.toNat 0) (-1) false F/\∀x,F x->w.heap.size<=x:=by
 refine(F27_calls n s w (fun v w'=>∃r F,v= .tuple #[.pointer (some (at0 r)),int i64 0]/\Ext w w'/\Q20 w' r (List.replicate n.toNat ⟨s,[],[],false⟩) (List.replicate n.toNat 0) (-1) false F/\∀x,F x->w.heap.size<=x)
  (fun p _ n6 C=>∃(r i:Nat)(F:Nat->Prop),p=some (at0 r)/\n6=i/\i<=n.toNat/\Ext w C/\Q20 C r (List.replicate i ⟨s,[],[],false⟩) (List.replicate i 0) (-1) false F/\∀x,F x->w.heap.size<=x) (fun _ _ n6 _=>32-n6.toNat) ?_).mono (by
   rintro e w' ⟨v,rfl,r,F,rfl,h⟩;exact⟨r,F,rfl,h⟩)
 refine Q0 (fun H=>by simp only[Za]at H;omega) (fun _=>Q0 (fun H=>by simp only[Za]at H;omega) (fun _=> ?_));intro E w4 I;refine⟨⟨E,0,fun x=>x=E,rfl,rfl,Nat.zero_le _,I.ext,⟨none,0,none,0,[],fun _ _=>False,⟨_,I.at⟩,Q5.nil _ _ _ _,Q5.nil _ _ _ _,rfl,fun i m hi=>by simp at hi,fun i j x hi _ _ _=>by simp at hi,fun i x hi _=>by simp at hi,⟨by simp,by simp,fun x h=>by cases h⟩,fun x=>by simp⟩,?_⟩,?_⟩
 ·rintro x rfl
  rw[I.size.1];exact Nat.le_refl _
 rintro n6 C ⟨r,i,F,hp,rfl,hi,g,h7,J⟩;simp only[Zi,at0,Zv,and_true]at hp;subst hp
 intros
 refine Q0 (fun K=> ?_) (fun L=> ?_)
 ·simp only[Za]at K
  refine(QVk hs C).mono ?_;rintro e ah ⟨b,Fd,rfl,M,hd,N⟩;obtain⟨p,cD,e1,f⟩:=h7.pushD M hd N (by rw[List.length_replicate];omega);rw[List.length_replicate]at e1 f;refine⟨_,_,rfl,Q0 (fun h=>by simp at h) fun _=>⟨p,i,cD,e1,fun O P l=> ?_⟩⟩;obtain⟨p',c',Q,hr,hl,o⟩:=f O P l;refine⟨p',i+1,c',Q,hr,hl,fun q t=> ?_⟩;obtain⟨F1,hA1,R,S⟩:=o q t;obtain⟨p2,cB,e2,d⟩:=hA1.pushB 0 (by rw[List.length_replicate];omega);rw[List.length_replicate]at e2 d;refine⟨p2,i,cB,e2,fun T U u=> ?_⟩;obtain⟨p3,c3,V,W,X,k⟩:=d T U u;refine⟨p3,i+1,c3,V,W,X,fun Y y=> ?_⟩;obtain⟨F2,hA2,Z,aa⟩:=k Y y;rw[w64 (by omega)];have z:Ext w q:=Upd.trans g R fun x A hf=>by have:=J x hf;omega
  have hF1:∀x,F1 x->w.heap.size<=x:=fun x A=>by
   rcases S x A with h|h
   ·exact J x h
   ·exact Zu g.size h
  refine⟨⟨E,i+1,F2,rfl,by omega,by omega,Upd.trans z Z fun x A hf=>(by have:=hF1 x hf;omega),?_,fun x A=> ?_⟩,by show 32-((i:Int)+1).toNat<32-(i:Int).toNat;omega⟩
  ·rw[List.replicate_succ',List.replicate_succ'];exact hA2
  ·rcases aa x A with h|h
   ·exact hF1 x h
   ·exact Zu z.size h
 ·simp only[Zb]at L
  have:i=n.toNat:=by omega
  subst this;exact⟨E,F,rfl,g,h7,J⟩
open Go Go.Vc
open Go.IntKind (i64)
open Go.Value (int)
open Go.Proofs.Tryz (prog)
def QG3(s:StA):List Dk:=s.M.map (·.d)
def Qj3(s:StA):List Int:=s.M.map (·.births)
def IsR(w:World)(r:Nat)(s:StA)(G:Nat->Prop):Prop:=Q20 w r (QG3 s) (Qj3 s) s.left s.down G
theorem QB0(s:StA):(QG3 s).length=s.M.length:=by simp[QG3]
theorem Qp3{s:StA}{i:Nat}{m:Mem}(h:s.M[i]? =some m):(QG3 s)[i]? =some m.d:=by simp[QG3,h]
theorem Qab{s:StA}{i:Nat}{m:Mem}(h:s.M[i]? =some m):(Qj3 s)[i]? =some m.births:=by simp[Qj3,h]
structure QJ7(w:World)(a r:Nat)(s:StA)(F G:Nat->Prop):Prop where
 arr:IsA w a s F
 ref:IsR w r s G
 dis:∀x,F x->¬G x
theorem QJ7.ext{w w':World}{a r:Nat}{s:StA}{F G:Nat->Prop}(h:QJ7 w a r s F G)(d:Ext w w'):QJ7 w' a r s F G:=⟨Ql.ext h.arr d,Q20.ext h.ref d,h.dis⟩
theorem QJ7.both{w w1 k:World}{a r:Nat}{s l:StA}{F j G G':Nat->Prop}(h:QJ7 w a r s F G)(hs:Qp F j w w1)(m:IsA w1 a l j)(e:Qp G G' w1 k)(o:IsR k r l G'):QJ7 k a r l j G'/\Qp (fun x=>F x\/G x) (fun x=>j x\/G' x) w k:=by
 have gl:=Q20.lt h.ref;have fl:=Ql.lt m;have n:∀x,j x->¬G x:=fun x g i=>by
  rcases hs.grow x g with d|d
  ·exact h.dis x d i
  ·have:=gl x i;omega
 have z:=hs.upd.size;refine⟨⟨Ql.upd m e.upd fun x i g=>n x g i,o,fun x g i=> ?_⟩,?_,?_⟩
 ·rcases e.grow x i with d|d
  ·exact n x g d
  ·have:=fl x g;omega
 ·exact Upd.trans (hs.upd.mono fun x _ f=> .inl f) (e.upd.mono (T:=fun x=>F x\/G x) fun x _ f=> .inr f) fun _ _ h=>h
 ·rintro x (f|f)
  ·rcases hs.grow x f with d|d
   ·exact .inl (.inl d)
   ·exact .inr d
  ·rcases e.grow x f with d|d
   ·exact .inl (.inr d)
   ·exact .inr (by omega)
theorem QJ7.mid{w w1:World}{a r:Nat}{s:StA}{F d G:Nat->Prop}(h:QJ7 w a r s F G)(hs:Qp F d w w1):IsR w1 r s G:=Q20.upd h.ref hs.upd fun x e=>h.dis x e
section
variable {w:World}{a r:Nat}{s:StA}{F G:Nat->Prop}
def QNi(s:StA)(d n:Int)(l:Nat):Int:=if s.down then 130 else if 0<=d then match s.M[d.toNat]? with
 |some m=>Qs m.d n l
 |none=>1 else 1
theorem Q0d{d:Int}(h:¬(0<=d/\d<s.M.length))(e:0<=d):s.M[d.toNat]? =none:=Zr (by omega)
theorem Qoh(h:IsA w a s F)(q:OkA s)(d n:Int){p:σ}{l c:Nat}{b:τ}(hb:Q1 w p l b):
  Calls prog 69 #[.pointer (some (at0 a)),int i64 d,int i64 n, .slice p l c] w fun e w'=>∃g,e= .returned (int i64 (QNi s d n b.length))/\Qp F g w w'/\IsA w' a (Q70 s d n b) g:=by
 obtain⟨M,left,down⟩:=s;cases down with
 |true=>
  refine(Qi4 h d n p l c).mono ?_;rintro e w' ⟨rfl,rfl⟩;exact⟨F,rfl,Qp.refl _ _,by simpa[Q70]using h⟩
 |false=>
  by_cases k:0<=d/\d<M.length
  ·obtain⟨i,m,rfl,j⟩:=Qj1 k
   refine(QJ6 h q.2 j n hb).mono ?_;rintro e w' ⟨g,rfl,hs,t⟩;refine⟨g,by simp[QNi,j],hs,?_⟩;have:Q70 ⟨M,left,false⟩ (i:Int) n b=⟨M.set i {m with d:=QT m.d n b},if Qs m.d n b.length=0/\0<left then left-1 else left,decide (Qs m.d n b.length=0/\left=1)⟩:=by
    unfold Q70;simp[j]
   rw[this];exact t
  ·refine(Q28 h k n p l c).mono ?_
   rintro e w' ⟨rfl,rfl⟩;have o:0<=d->M[d.toNat]? =none:=fun f=>Zr (by omega);refine⟨F,?_,Qp.refl _ _,?_⟩
   ·unfold QNi
    by_cases f:0<=d
    ·simp[f,o f]
    ·simp[f]
   ·have:Q70 ⟨M,left,false⟩ d n b=⟨M,left,false⟩:=by
     unfold Q70
     by_cases f:0<=d
     ·simp[f,o f]
     ·simp[f]
    rw[this];exact h
theorem Qwc(h:IsR w r s G)(u:OkA s)(d n:Int){p:σ}{l c:Nat}{b:τ}(hb:Q1 w p l b):
  Calls prog 84 #[.pointer (some (at0 r)),int i64 d,int i64 n, .slice p l c] w fun e w'=>∃G',e= .returned (int i64 (QNi s d n b.length))/\Qp G G' w w'/\IsR w' r (Q70 s d n b) G':=by
 obtain⟨M,left,down⟩:=s;cases down with
 |true=>
  refine(Qna h d n p l c).mono ?_;rintro e w' ⟨rfl,rfl⟩;exact⟨G,rfl,Qp.refl _ _,by simpa[Q70]using h⟩
 |false=>
  by_cases q:0<=d/\d<M.length
  ·obtain⟨i,m,rfl,g⟩:=Qj1 q
   refine(Qhi h u.2 (Qp3 (s:=⟨M,left,false⟩) g) n hb).mono ?_;rintro e w' ⟨v,rfl,hs,x⟩;refine⟨v,by simp[QNi,g],hs,?_⟩;have:Q70 ⟨M,left,false⟩ (i:Int) n b=⟨M.set i {m with d:=QT m.d n b},if Qs m.d n b.length=0/\0<left then left-1 else left,decide (Qs m.d n b.length=0/\left=1)⟩:=by
    unfold Q70;simp[g]
   rw[this];have y:QG3 ⟨M.set i {m with d:=QT m.d n b},if Qs m.d n b.length=0/\0<left then left-1 else left,decide (Qs m.d n b.length=0/\left=1)⟩=(QG3 ⟨M,left,false⟩).set i (QT m.d n b):=by
    simp[QG3,List.map_set]
   have z:Qj3 ⟨M.set i {m with d:=QT m.d n b},if Qs m.d n b.length=0/\0<left then left-1 else left,decide (Qs m.d n b.length=0/\left=1)⟩=Qj3 ⟨M,left,false⟩:=by
    apply List.ext_getElem?;intro j;simp only[Qj3,Zq,List.getElem?_set]
    by_cases k:i=j
    ·subst k
     have A:=(Zd.1 g).1;have o:M[i]=m:=(Zd.1 g).2;simp[A,o]
    ·simp[k]
   unfold IsR;rw[y,z];exact x
  ·refine(Qoa h (by rw[QB0];exact q) n p l c).mono ?_
   rintro e w' ⟨rfl,rfl⟩;have t:0<=d->M[d.toNat]? =none:=fun f=>Zr (by omega);refine⟨G,?_,Qp.refl _ _,?_⟩
   ·unfold QNi
    by_cases f:0<=d
    ·simp[f,t f]
    ·simp[f]
   ·have:Q70 ⟨M,left,false⟩ d n b=⟨M,left,false⟩:=by
     unfold Q70
     by_cases f:0<=d
     ·simp[f,t f]
     ·simp[f]
    rw[this];exact h
def inA(s:StA)(d:Int):Prop:=0<=d/\d<s.M.length
instance (s:StA) (d:Int):Decidable (inA s d):=inferInstanceAs (Decidable (_/\_))
theorem Qi7{i:Nat}{m:Mem}(f:Mem->Mem)(e:s.M[i]? =some m):QG3 (Q40 s (i:Int) f)=(QG3 s).set i (f m).d/\Qj3 (Q40 s (i:Int) f)=(Qj3 s).set i (f m).births/\(Q40 s (i:Int) f).left=s.left/\(Q40 s (i:Int) f).down=s.down:=by
 rw[Qw3 f rfl e];refine⟨by simp[QG3,List.map_set],by simp[Qj3,List.map_set],rfl,rfl⟩
theorem Qhj(h:IsR w r s G)(d:Int):Calls prog 92 #[.pointer (some (at0 r)),int i64 d] w fun e w'=>∃G',e= .returned (int i64 (if inA s d then 0 else 1))/\Qp G G' w w'∧
  IsR w' r (Q40 s d fun m=>⟨{m.d with dead:=true,lasts:=[],waits:=[]},i64.wrap (m.births+1)⟩) G':=by
 by_cases f:inA s d
 ·obtain⟨i,m,rfl,g⟩:=Qj1 f
  refine(QLj h (Qp3 g) (Qab g)).mono ?_;rintro e w' ⟨G',rfl,hs,j⟩;obtain⟨k,l,n,o⟩:=Qi7 (fun m:Mem=>⟨{m.d with dead:=true,lasts:=[],waits:=[]},i64.wrap (m.births+1)⟩) g;refine⟨G',by rw[if_pos f],hs,?_⟩;unfold IsR;rw[k,l,n,o];exact j
 ·refine(QUb h (by rw[QB0];exact f)).mono ?_
  rintro e w' ⟨rfl,rfl⟩;exact⟨G,by rw[if_neg f],Qp.refl _ _,by rw[Qr1 _ f];exact h⟩
theorem Qsd(h:IsR w r s G)(d:Int):Calls prog 93 #[.pointer (some (at0 r)),int i64 d] w fun e w'=>∃G',e= .returned (int i64 (if inA s d then 0 else 1))/\Qp G G' w w'∧
  IsR w' r (Q40 s d fun m=>⟨{m.d with dead:=false,lasts:=[],waits:=[]},i64.wrap (m.births+1)⟩) G':=by
 by_cases f:inA s d
 ·obtain⟨i,m,rfl,g⟩:=Qj1 f
  refine(Qae h (Qp3 g) (Qab g)).mono ?_;rintro e w' ⟨G',rfl,hs,j⟩;obtain⟨k,l,n,o⟩:=Qi7 (fun m:Mem=>⟨{m.d with dead:=false,lasts:=[],waits:=[]},i64.wrap (m.births+1)⟩) g;refine⟨G',by rw[if_pos f],hs,?_⟩;unfold IsR;rw[k,l,n,o];exact j
 ·refine(QT7 h (by rw[QB0];exact f)).mono ?_
  rintro e w' ⟨rfl,rfl⟩;exact⟨G,by rw[if_neg f],Qp.refl _ _,by rw[Qr1 _ f];exact h⟩
def Q4k(s:StA)(d k:Int):Int:=if 0<=d then match s.M[d.toNat]? with
 |some m=>QC m.d k
 |none=>1 else 1
theorem Qqd(h:IsR w r s G)(d k t:Int)(y:UInt8)(ht: -9223372036854775808<=t/\t<=9223372036854775807):
  Calls prog 94 #[.pointer (some (at0 r)),int i64 d,int i64 k,int i64 t, .int .u8 (y.toNat:Int)] w fun e w'=>∃G',e= .returned (int i64 (Q4k s d k))/\Qp G G' w w'/\IsR w' r (Q40 s d fun m=>{m with d:=Qf m.d k t y}) G':=by
 by_cases g:inA s d
 ·obtain⟨i,m,rfl,l⟩:=Qj1 g
  refine(Q9e h (Qp3 l) k t y ht).mono ?_;rintro e w' ⟨G',rfl,hs,o⟩;obtain⟨p,q,u,v⟩:=Qi7 (fun m:Mem=>{m with d:=Qf m.d k t y}) l;have x:(Qj3 s).set i m.births=Qj3 s:=by
   apply List.ext_getElem?;intro j;rw[List.getElem?_set]
   by_cases f:i=j
   ·subst f
    have:=Qab l;rw[if_pos rfl,if_pos (Zd.1 this).1,this]
   ·rw[if_neg f]
  refine⟨G',by simp[Q4k,l],hs,?_⟩;unfold IsR;rw[p,q,u,v,x];exact o
 ·refine(QS7 h (by rw[QB0];exact g) k t _).mono ?_
  rintro e w' ⟨rfl,rfl⟩;refine⟨G,?_,Qp.refl _ _,by rw[Qr1 _ g];exact h⟩;unfold Q4k
  by_cases n:0<=d
  ·simp[n,Q0d g n]
  ·simp[n]
end
open Go Go.Vc
open Go.IntKind (i64)
open Go.Value (int)
open Go.Proofs.Tryz (prog)
section
variable {w:World}{a r:Nat}{s:StA}{F G:Nat->Prop}
theorem Qgj(h:IsA w a s F)(d:Int):Calls prog 20 #[.pointer (some (at0 a)),int i64 d] w fun e w'=>∃g,e= .returned (int i64 (if inA s d then 0 else 1))/\Qp F g w w'∧
  IsA w' a (Q40 s d fun m=>⟨{m.d with dead:=true,lasts:=[],waits:=[]},i64.wrap (m.births+1)⟩) g:=by
 by_cases f:inA s d
 ·obtain⟨i,m,rfl,j⟩:=Qj1 f
  refine(Qld h j).mono ?_;rintro e w' ⟨g,rfl,hs,k⟩;exact⟨g,by rw[if_pos f],hs,by rw[Qw3 _ rfl j];exact k⟩
 ·refine(QRe h f).mono ?_
  rintro e w' ⟨rfl,rfl⟩;exact⟨F,by rw[if_neg f],Qp.refl _ _,by rw[Qr1 _ f];exact h⟩
theorem Qrd(h:IsA w a s F)(d:Int):Calls prog 21 #[.pointer (some (at0 a)),int i64 d] w fun e w'=>∃g,e= .returned (int i64 (if inA s d then 0 else 1))/\Qp F g w w'∧
  IsA w' a (Q40 s d fun m=>⟨{m.d with dead:=false,lasts:=[],waits:=[]},i64.wrap (m.births+1)⟩) g:=by
 by_cases f:inA s d
 ·obtain⟨i,m,rfl,j⟩:=Qj1 f
  refine(QG4 h j).mono ?_;rintro e w' ⟨g,rfl,hs,k⟩;exact⟨g,by rw[if_pos f],hs,by rw[Qw3 _ rfl j];exact k⟩
 ·refine(QK5 h f).mono ?_
  rintro e w' ⟨rfl,rfl⟩;exact⟨F,by rw[if_neg f],Qp.refl _ _,by rw[Qr1 _ f];exact h⟩
theorem Qpd(h:IsA w a s F)(d k t:Int)(y:UInt8)(ht: -9223372036854775808<=t/\t<=9223372036854775807):
  Calls prog 22 #[.pointer (some (at0 a)),int i64 d,int i64 k,int i64 t, .int .u8 (y.toNat:Int)] w fun e w'=>∃f,e= .returned (int i64 (Q4k s d k))/\Qp F f w w'/\IsA w' a (Q40 s d fun m=>{m with d:=Qf m.d k t y}) f:=by
 by_cases g:inA s d
 ·obtain⟨i,m,rfl,j⟩:=Qj1 g
  refine(QC8 h j k t y ht).mono ?_;rintro e w' ⟨f,rfl,hs,n⟩;exact⟨f,by simp[Q4k,j],hs,by rw[Qw3 _ rfl j];exact n⟩
 ·refine(Qy9 h g k t _).mono ?_
  rintro e w' ⟨rfl,rfl⟩;refine⟨F,?_,Qp.refl _ _,by rw[Qr1 _ g];exact h⟩;unfold Q4k
  by_cases l:0<=d
  ·simp[l,Q0d g l]
  ·simp[l]
def QCe(s:StA)(d n:Int):Int×τ:=if s.down then(130,[])else if 0<=d then match s.M[d.toNat]? with
 |some m=>(Qh m.d.dead m.d.sectors n,if Qh m.d.dead m.d.sectors n=0 then Qy0 m.d n else [])
 |none=>(1,[])else(1,[])
theorem Qij(h:IsA w a s F)(d n:Int):Calls prog 61 #[.pointer (some (at0 a)),int i64 d,int i64 n] w fun e w'=>Ext w w'/\∃p l c,e= .returned (.tuple #[.slice p l c,int i64 (QCe s d n).1])/\Q1 w' p l (QCe s d n).2/\l<=4108:=by
 obtain⟨M,left,down⟩:=s;cases down with
 |true=>
  refine(Q08 h d n).mono ?_;rintro e w' ⟨rfl,rfl⟩;exact⟨Upd.refl _ _,none,0,0,rfl,Q1.nil _ _,by omega⟩
 |false=>
  by_cases j:0<=d/\d<M.length
  ·obtain⟨i,m,rfl,k⟩:=Qj1 j
   refine(Q18 h k n).mono ?_;rintro e w' ⟨q,p,l,c,bs,rfl,f,rfl,t,u⟩;have g:QCe ⟨M,left,false⟩ (i:Int) n=(Qh m.d.dead m.d.sectors n,bs):=by simp[QCe,k,f]
   rw[g];exact⟨q,p,_,c,rfl,Q1.of_cells t.cells,u⟩
  ·refine(QD9 h j n).mono ?_
   rintro e w' ⟨rfl,rfl⟩;have g:QCe ⟨M,left,false⟩ d n=(1,[]):=by
    unfold QCe
    by_cases o:0<=d
    ·have v:M[d.toNat]? =none:=Zr (by omega)
     simp[o,v]
    ·simp[o]
   rw[g];exact⟨Upd.refl _ _,none,0,0,rfl,Q1.nil _ _,by omega⟩
theorem Qjj(h:IsR w r s G)(d n:Int):Calls prog 85 #[.pointer (some (at0 r)),int i64 d,int i64 n] w fun e w'=>Ext w w'/\∃p l c,e= .returned (.tuple #[.slice p l c,int i64 (QCe s d n).1])/\Q1 w' p l (QCe s d n).2/\l<=4108:=by
 obtain⟨M,left,down⟩:=s;cases down with
 |true=>
  refine(Qo7 h d n).mono ?_;rintro e w' ⟨rfl,rfl⟩;exact⟨Upd.refl _ _,none,0,0,rfl,Q1.nil _ _,by omega⟩
 |false=>
  by_cases j:0<=d/\d<M.length
  ·obtain⟨i,m,rfl,k⟩:=Qj1 j
   refine(QMj h (Qp3 (s:=⟨M,left,false⟩) k) n).mono ?_;rintro e w' ⟨q,p,l,c,bs,rfl,f,hb,t⟩;have g:QCe ⟨M,left,false⟩ (i:Int) n=(Qh m.d.dead m.d.sectors n,bs):=by simp[QCe,k,f]
   rw[g];exact⟨q,p,_,c,rfl,hb,t⟩
  ·refine(Qp7 h (by rw[QB0];exact j) n).mono ?_
   rintro e w' ⟨rfl,rfl⟩;have g:QCe ⟨M,left,false⟩ d n=(1,[]):=by
    unfold QCe
    by_cases o:0<=d
    ·have u:M[d.toNat]? =none:=Zr (by omega)
     simp[o,u]
    ·simp[o]
   rw[g];exact⟨Upd.refl _ _,none,0,0,rfl,Q1.nil _ _,by omega⟩
theorem QQd(s:StA):QG3 {s with M:=Qq0 s.M.length s.M}=QY0 (QG3 s).length (QG3 s)/\Qj3 {s with M:=Qq0 s.M.length s.M}=Qj3 s:=by
 constructor
 ·apply List.ext_getElem?
  intro j;simp only[QG3,QY0,Qq0,Zq,List.getElem?_mapIdx,List.length_map];cases s.M[j]? with
  |none=>rfl
  |some m=>
   simp only[Option.map_some]
   split<;>rfl
 ·apply List.ext_getElem?
  intro j;simp only[Qj3,Qq0,Zq,List.getElem?_mapIdx];cases s.M[j]? with
  |none=>rfl
  |some m=>
   simp only[Option.map_some]
   split<;>rfl
theorem QCd(s:StA)(KS:List (List Int))(l:Int)(dn:Bool):QG3 ⟨QA0 KS s.M.length s.M,l,dn⟩=QF0 KS (QG3 s).length (QG3 s)/\Qj3 ⟨QA0 KS s.M.length s.M,l,dn⟩=Qj3 s:=by
 constructor
 ·apply List.ext_getElem?
  intro j;simp only[QG3,QF0,QA0,Zq,List.getElem?_mapIdx,List.length_map];cases s.M[j]? with
  |none=>rfl
  |some m=>
   simp only[Option.map_some]
   split<;>rfl
 ·apply List.ext_getElem?
  intro j;simp only[Qj3,QA0,Zq,List.getElem?_mapIdx];cases s.M[j]? with
  |none=>rfl
  |some m=>
   simp only[Option.map_some]
   split<;>rfl
theorem Qmh(h:IsA w a s F)(f:OkA s):Calls prog 86 #[.pointer (some (at0 a))] w fun e w'=>∃d,e= .returned (int i64 (if s.down then 130 else 0))/\Qp F d w w'/\IsA w' a (if s.down then s else{s with M:=Qq0 s.M.length s.M}) d:=by
 obtain⟨M,left,down⟩:=s;cases down with
 |true=>
  refine(Q2b h).mono ?_;rintro e w' ⟨rfl,rfl⟩;exact⟨F,rfl,Qp.refl _ _,h⟩
 |false=>
  refine(Q3b h (by have i:M.length<=32:=f.1;show M.length<=100;omega)).mono ?_;rintro e w' ⟨d,rfl,hs,g⟩;exact⟨d,rfl,hs,g⟩
theorem Qnh(h:IsR w r s G)(i:OkA s):Calls prog 87 #[.pointer (some (at0 r))] w fun e w'=>∃G',e= .returned (int i64 (if s.down then 130 else 0))/\Qp G G' w w'/\IsR w' r (if s.down then s else{s with M:=Qq0 s.M.length s.M}) G':=by
 have f:=QQd s;cases g:s.down with
 |true=>
  have d:Q20 w r (QG3 s) (Qj3 s) s.left s.down G:=h;rw[g]at d;refine(Qma d).mono ?_;rintro e w' ⟨rfl,rfl⟩;exact⟨G,rfl,Qp.refl _ _,h⟩
 |false=>
  have d:Q20 w r (QG3 s) (Qj3 s) s.left s.down G:=h;rw[g]at d;refine(Qgi d (by rw[QB0];have:=i.1;omega)).mono ?_;rintro e w' ⟨G',rfl,hs,j⟩;refine⟨G',rfl,hs,?_⟩;have k:QG3 ⟨Qq0 s.M.length s.M,s.left,false⟩=QY0 (QG3 s).length (QG3 s):=f.1;have l:Qj3 ⟨Qq0 s.M.length s.M,s.left,false⟩=Qj3 s:=f.2;show Q20 w' r (QG3 ⟨Qq0 s.M.length s.M,s.left,false⟩) (Qj3 ⟨Qq0 s.M.length s.M,s.left,false⟩) s.left false G'
  rw[k,l];exact j
end
open Go Go.Vc
open Go.IntKind (i64)
open Go.Value (int)
open Go.Proofs.Tryz (prog)
theorem Qrh{w0 w:World}{a r:Nat}{s:StA}{F G:Nat->Prop}(h:QJ7 w a r s F G)(ho:OkA s)(hx:Ext w0 w)(hF:∀x,F x->w0.heap.size<=x)(hG:∀x,G x->w0.heap.size<=x){c:QB4}{p5:σ}{l5 c5:Nat}{p6:σ}{l6 c6:Nat}
  (hb:Q1 w0 p5 l5 c.b) (hk:l6=c.keep.length/\∀i ks,c.keep[i]? =some ks->∃a q n c,p6=some a/\w0.cell? (a.add (i*1))=some (.slice q n c)/\QV w0 q n ks)
  (hm: -9223372036854775808<=c.m/\c.m<=9223372036854775807) (hs:∀ks∈c.keep,ks.length<=9223372036854775807):
  Calls prog 54 #[.pointer (some (at0 a)), .pointer (some (at0 r)), .agg #[int i64 c.kind,int i64 c.d,int i64 c.n,int i64 c.m, .int .u8 (c.y.toNat:Int), .slice p5 l5 c5, .slice p6 l6 c6]] w fun e w'=>e= .returned (.bool true)∧
   ∃A G',QJ7 w' a r (QQ1 s c) A G'/\Qp (fun x=>F x\/G x) (fun x=>A x\/G' x) w w':=by
 refine(F54_calls (some (at0 a)) (some (at0 r)) c.kind c.d c.n c.m (c.y.toNat:Int) p5 l5 c5 p6 l6 c6 w (fun v w'=>v= .bool true/\∃A G',QJ7 w' a r (QQ1 s c) A G'/\Qp (fun x=>F x\/G x) (fun x=>A x\/G' x) w w') ?_).mono (by
  rintro e w' ⟨v,rfl,rfl,h⟩;exact⟨rfl,h⟩)
 intro o ai L;have u:RowW ai o #[int i64 c.kind,int i64 c.d,int i64 c.n,int i64 c.m, .int .u8 (c.y.toNat:Int), .slice p5 l5 c5, .slice p6 l6 c6]:=⟨_,L.at⟩;have t:=L.ext;have j:=h.ext t;have kF:¬F o:=fun Q=>by have:=Ql.lt h.arr _ Q;have:=L.size.1;omega
 have kG:¬G o:=fun Q=>by have:=Q20.lt h.ref _ Q;have:=L.size.1;omega
 have fin:∀{w1 w2:World}{s':StA}{A G':Nat->Prop},Ext w w1->QJ7 w1 a r s F G->∀{w3:World},Qp F A w1 w3->IsA w3 a s' A->Qp G G' w3 w2->IsR w2 r s' G'->∃A G',QJ7 w2 a r s' A G'/\Qp (fun x=>F x\/G x) (fun x=>A x\/G' x) w w2:=by
  intro w1 w2 s' A G' a4 hp w3 f I k J;obtain⟨p,st⟩:=hp.both f I k J;exact⟨A,G',p,(Qp.ext a4).trans st⟩
 refine⟨_,u.c rfl,Q0 (fun R=> ?_) (fun R=>Q0 (fun k2=> ?_) (fun k2=>Q0 (fun S=> ?_) (fun S=>Q0 (fun U=> ?_) (fun U=>Q0 (fun k5=> ?_) (fun k5=>Q0 (fun k6=> ?_) (fun k6=>Q0 (fun k7=> ?_) (fun k7=>Q0 (fun k8=> ?_) (fun k8=> ?_))))))))⟩<;>simp only[Za,Zb]at*
 ·
  intro a6 C;have V:=j.ext C.ext;have W:=t.trans C.ext;have K:RowW a6 o _:=C.ext.rowW u id;refine⟨_,K.c rfl,_,K.c rfl,_,_,_,K.c rfl,_,K.c rfl,_,K.c rfl,_,_,_,K.c rfl,?_⟩;refine(Qoh V.arr ho c.d c.n (hb.ext (hx.trans W))).mono ?_;rintro e al ⟨A,rfl,f,I⟩;have X:RowW al o _:=f.upd.rowW K kF;have am:Q1 al p5 l5 c.b:=(hb.ext (hx.trans W)).upd f.upd fun ap ha Y Q=>by
   obtain⟨a',ao,bo⟩:=hb.lt Y;rw[ha]at ao;cases ao;have:=hF _ Q;omega
  refine⟨_,rfl,⟨_,X.c rfl,rfl⟩,⟨_,X.c rfl,rfl⟩,⟨_,_,_,X.c rfl,rfl⟩,?_⟩;refine(Qwc (V.mid f) ho c.d c.n am).mono ?_;rintro e bp ⟨G',rfl,k,J⟩;refine⟨_,rfl,by simp,?_⟩;have E:QQ1 s c=Q70 s c.d c.n c.b:=by unfold QQ1;rw[if_pos R]
  rw[E];exact fin W V f I k J
 ·
  refine⟨_,u.c rfl,_,u.c rfl,?_⟩;refine(Qij j.arr c.d c.n).mono ?_;rintro e a7 ⟨Z,p,l,c',rfl,a8,bq⟩;have aq:RowW a7 o _:=Z.rowW u id;refine⟨_,_,_,_,rfl,_,aq.c rfl,_,aq.c rfl,?_⟩;refine(Qjj (j.ext Z).ref c.d c.n).mono ?_;rintro e br ⟨ar,q,l',c'',rfl,a9,bs⟩;refine⟨_,_,_,_,rfl,?_⟩;refine(Q35 (a8.ext ar) a9 (by omega)).mono ?_;rintro e bt ⟨rfl,hq⟩;refine⟨_,rfl,Q0 (fun _=>⟨by simp,?_⟩) (fun h=>by simp at h)⟩;have xx:=((t.trans Z).trans ar).trans hq.ext;have E:QQ1 s c=s:=by unfold QQ1;simp[k2]
  rw[E];exact⟨F,G,h.ext xx,Qp.ext xx⟩
 ·
  refine(Qmh j.arr ho).mono ?_;rintro e bv ⟨A,rfl,f,I⟩;refine⟨_,rfl,(Qnh (j.mid f) ho).mono ?_⟩;rintro e bw ⟨G',rfl,k,J⟩;refine⟨_,rfl,by simp,?_⟩;have E:QQ1 s c=(if s.down then s else{s with M:=Qq0 s.M.length s.M}):=by unfold QQ1;simp[S]
  rw[E];exact fin t j f I k J
 ·
  refine⟨_,u.c rfl,(Qmd j.arr c.n).mono ?_⟩;rintro e ba ⟨rfl,f,I⟩;have bb:RowW ba o _:=f.upd.rowW u kF;refine⟨rfl,_,bb.c rfl,(Qfi (j.mid f) c.n).mono ?_⟩;rintro e bx ⟨rfl,k,J⟩;refine⟨rfl,trivial,?_⟩;have E:QQ1 s c=⟨s.M,if s.down then s.left else if c.n< -1 then-1 else c.n,if s.down then true else decide (c.n=0)⟩:=by
   unfold QQ1;rw[if_neg R,if_neg S,if_pos U];obtain⟨M,left,down⟩:=s;cases down<;>rfl
  rw[E];exact fin t j f I k J
 ·
  have E:QQ1 s c=⟨QA0 c.keep s.M.length s.M,-1,false⟩:=by unfold QQ1;rw[if_neg R,if_neg S,if_neg U,if_pos k5]
  refine⟨_,_,_,u.c rfl,(Q5c (w0:=w0) j.arr ho (hx.trans t) hF hk hs).mono ?_⟩;rintro e au ⟨A,rfl,f,I⟩;have bc:RowW au o _:=f.upd.rowW u kF;have hR57:=j.mid f;have be:QI5 au (fun x=>x<w0.heap.size) p6 l6 c.keep:=by
   have T:=hx.trans t;have h0:QI5 ai (fun x=>x<w0.heap.size) p6 l6 c.keep:=by
    refine⟨hk.1,fun i ks hi=> ?_⟩;obtain⟨ap,q,n,cc,g1,g2,g3⟩:=hk.2 i ks hi;have hn:=g3.1;have:=hs ks (Zs hi);refine⟨ap,q,n,cc,g1,?_,QM0 g2 T,⟨g3.1,g3.2.ext T⟩,fun Y a' ha=>Ql8 g3 Y ha,by omega⟩;have hb:(ap.add (i*1)).block=ap.block:=Qx _ _;rw[←hb];exact Qcb g2
   exact h0.upd f.upd fun x av Q=>by have:=hF x Q;omega
  have C:=QCd s c.keep (-1) false;refine⟨rfl,_,_,_,bc.c rfl,(Qbe hR57 (by rw[QB0];have:=ho.1;omega) (fun x av Q=>by have:=hG x Q;omega) (fun x av b1=>by have:=(hx.trans t).size;have:=f.upd.size;omega) be (fun ks bf=>by have:=hs ks bf;omega)).mono ?_⟩;rintro e bg ⟨G',rfl,k,J⟩;refine⟨rfl,trivial,?_⟩;rw[E];refine fin t j f I k ?_;show Q20 bg r (QG3 ⟨QA0 c.keep s.M.length s.M,-1,false⟩) (Qj3 ⟨QA0 c.keep s.M.length s.M,-1,false⟩) (-1) false G'
  rw[C.1,C.2];exact J
 ·
  intro N C;have z:=j.ext C.ext;have O:=t.trans C.ext;have g:RowW N o _:=C.ext.rowW u id;refine⟨_,g.c rfl,_,g.c rfl,(Qgj z.arr c.d).mono ?_⟩;rintro e P ⟨A,rfl,f,I⟩;have H:RowW P o _:=f.upd.rowW g kF;refine⟨_,rfl,⟨_,H.c rfl,rfl⟩,(Qhj (z.mid f) c.d).mono ?_⟩;rintro e aw ⟨G',rfl,k,J⟩;refine⟨_,rfl,by simp,?_⟩;have E:QQ1 s c=Q40 s c.d fun m=>⟨{m.d with dead:=true,lasts:=[],waits:=[]},i64.wrap (m.births+1)⟩:=by unfold QQ1;rw[if_neg R,if_neg S,if_neg U,if_neg k5,if_pos k6]
  rw[E];exact fin O z f I k J
 ·
  intro N C;have z:=j.ext C.ext;have O:=t.trans C.ext;have g:RowW N o _:=C.ext.rowW u id;refine⟨_,g.c rfl,_,g.c rfl,(Qrd z.arr c.d).mono ?_⟩;rintro e P ⟨A,rfl,f,I⟩;have H:RowW P o _:=f.upd.rowW g kF;refine⟨_,rfl,⟨_,H.c rfl,rfl⟩,(Qsd (z.mid f) c.d).mono ?_⟩;rintro e aw ⟨G',rfl,k,J⟩;refine⟨_,rfl,by simp,?_⟩;have E:QQ1 s c=Q40 s c.d fun m=>⟨{m.d with dead:=false,lasts:=[],waits:=[]},i64.wrap (m.births+1)⟩:=by unfold QQ1;rw[if_neg R,if_neg S,if_neg U,if_neg k5,if_neg k6,if_pos k7]
  rw[E];exact fin O z f I k J
 ·
  intro N C;have z:=j.ext C.ext;have O:=t.trans C.ext;have g:RowW N o _:=C.ext.rowW u id;refine⟨_,g.c rfl,_,g.c rfl,_,g.c rfl,_,g.c rfl,_,g.c rfl,_,g.c rfl,_,g.c rfl,_,g.c rfl,(Qpd z.arr c.d c.n c.m c.y hm).mono ?_⟩;rintro e P ⟨A,rfl,f,I⟩;have H:RowW P o _:=f.upd.rowW g kF;refine⟨_,rfl,⟨_,H.c rfl,rfl⟩,⟨_,H.c rfl,rfl⟩,⟨_,H.c rfl,rfl⟩,⟨_,H.c rfl,rfl⟩,(Qqd (z.mid f) c.d c.n c.m c.y hm).mono ?_⟩;rintro e aw ⟨G',rfl,k,J⟩;refine⟨_,rfl,by simp,?_⟩;have E:QQ1 s c=Q40 s c.d fun m=>{m with d:=Qf m.d c.n c.m c.y}:=by unfold QQ1;rw[if_neg R,if_neg S,if_neg U,if_neg k5,if_neg k6,if_neg k7,if_pos k8]
  rw[E];exact fin O z f I k J
 ·have E:QQ1 s c=s:=by unfold QQ1;rw[if_neg R,if_neg S,if_neg U,if_neg k5,if_neg k6,if_neg k7,if_neg k8]
  rw[E];exact⟨trivial,F,G,j,Qp.ext t⟩
open Go Go.Vc
open Go.IntKind (i64)
open Go.Value (int)
open Go.Proofs.Tryz (prog)
theorem Qpe{w:World}{a r:Nat}{s:StA}{F G:Nat->Prop}(h:QJ7 w a r s F G)(ho:OkA s)(h1:1<=s.M.length):
  Calls prog 29 #[.pointer (some (at0 a)), .pointer (some (at0 r))] w fun e w'=>e= .returned (.bool true)/\Ext w w':=by
 refine(F29_calls (some (at0 a)) (some (at0 r)) w (fun v w'=>v= .bool true/\Ext w w') (fun w U w4=>∃i:Nat,U=i/\i<=s.M.length/\Ext w w4) (fun _ U _=>100-U.toNat) ?_).mono (by rintro e w' ⟨v,rfl,rfl,h⟩;exact⟨rfl,h⟩);have hM:s.M.length<=32:=ho.1;refine⟨⟨0,rfl,Nat.zero_le _,Upd.refl _ _⟩,?_⟩;rintro U w4 ⟨i,rfl,hi,Y⟩
 intros
 have V:=h.ext Y;obtain⟨pD,cD,pB,cB,I⟩:=Q20.row V.ref;rw[QB0]at I;refine⟨_,_,_,I.c rfl,Q0 (fun x=> ?_) (fun a3=> ?_)⟩
 ·simp only[Za]at x
  intro a4 q;obtain⟨m,Z⟩:∃m,s.M[i]? =some m:=⟨s.M[i]'(by omega),Zc _⟩;have y:=V.ext q.ext;obtain⟨ap,cD',b,Fi,J,W,X,_,_⟩:=Q20.at y.ref (Qp3 Z);rw[QB0]at J;obtain⟨pL,lL,cL,pW,lW,cW,G',j,hL,hW⟩:=X.row;have f:=Qw4 X.ok X.asc.1 X.asc.2;refine⟨_,_,_,J,⟨by omega,x⟩,some (at0 b),by rw[Ze];exact W,_,_,_,j.c rfl,?_⟩;refine(Q4b y.arr Z).mono ?_;rintro e aa ⟨a6,a7,a8,rfl,k,K⟩;have ab:RowW aa b _:=k.rowW j id;refine⟨_,_,_,rfl,⟨_,_,_,QM0 J k,rfl⟩,⟨_,by rw[Ze];exact QM0 W k,rfl⟩,⟨_,_,_,ab.c rfl,rfl⟩,?_⟩;refine(Qw8 (K.read f.1) ((hL.ext k).read f.1)).mono ?_;rintro e a9 ⟨rfl,ac⟩;refine⟨_,rfl,fun ad L=> ?_⟩;have xx:=(k.trans ac).trans L.ext;have ae:=y.ext xx;have N:RowW ad b _:=xx.rowW j id;refine⟨_,_,_,QM0 J xx,⟨by omega,x⟩,some (at0 b),by rw[Ze];exact QM0 W xx,_,_,_,N.c rfl,?_⟩;refine(Q6b ae.arr Z).mono ?_;rintro e af ⟨ba,bb,bc,rfl,l,O⟩;have ah:RowW af b _:=l.rowW N id;refine⟨_,_,_,rfl,⟨_,_,_,QM0 J (xx.trans l),rfl⟩,⟨_,by rw[Ze];exact QM0 W (xx.trans l),rfl⟩,⟨_,_,_,ah.c rfl,rfl⟩,?_⟩;refine(Qw8 (O.read f.2) ((hW.ext (xx.trans l)).read f.2)).mono ?_;rintro e be ⟨rfl,ai⟩;refine⟨_,rfl,Q0 (fun h=>by simp at h) fun _=>Q0 (fun h=>by simp at h) fun _=> ?_⟩;rw[w64 (by omega)];exact⟨⟨i+1,by omega,by omega,(((Y.trans q.ext).trans xx).trans l).trans ai⟩,by show 100-((i:Int)+1).toNat<100-(i:Int).toNat;omega⟩
 ·refine(Q9a V.arr (by omega)).mono ?_
  rintro e bf ⟨pl,ll,cl,rfl,P,rfl,aj⟩;refine⟨_,_,_,rfl,?_⟩;have Q:=V.ext P;refine(Qsg Q.ref (by rw[QB0];omega)).mono ?_;rintro e R ⟨ak,bg,bh,rfl,z,rfl,S⟩;refine⟨_,_,_,rfl,?_⟩
  have al:s.M.length=(s.M.map fun m=> !m.d.dead).length/\Qa R pl ((s.M.map fun m=> !m.d.dead).map Value.bool):=⟨by simp,by
   have:=aj.cells.ext z
   simpa[List.map_map,Function.comp_def]using this⟩
  have am:(QG3 s).length=(s.M.map fun m=> !m.d.dead).length/\Qa R ak ((s.M.map fun m=> !m.d.dead).map Value.bool):=⟨by simp[QG3],by
   have:=S.cells
   simpa[QG3,List.map_map,Function.comp_def]using this⟩
  refine(Qxd al am (by omega)).mono ?_;rintro e bi ⟨rfl,T⟩;refine⟨_,rfl,fun A t=> ?_⟩;have o:=((Q.ext z).ext T).ext t.ext;obtain⟨pD9,cD9,pB9,cB9,C⟩:=Q20.row o.ref;refine⟨_,_,_,C.c rfl,?_⟩;refine(Q9b o.arr (by omega)).mono ?_;rintro e E ⟨pb,lb,cb,rfl,p,rfl,ao⟩;have aq:RowW E r _:=p.rowW C id;refine⟨_,_,_,rfl,⟨_,_,_,aq.c rfl,rfl⟩,?_⟩;have ar:(Qj3 s).length=s.M.length:=by simp[Qj3]
  have au:s.M.length=(Qj3 s).length/\Qa E pb ((Qj3 s).map (Value.int .i64)):=⟨ar.symm,by
   have:=ao.cells
   simpa[Qj3,List.map_map,Function.comp_def]using this⟩
  have av:(Qj3 s).length=(Qj3 s).length/\Qa E pB9 ((Qj3 s).map (Value.int .i64)):=by
   refine⟨rfl,?_⟩;obtain⟨pD,cD,pB,cB,bs,Fs,g1,_,g3,_⟩:=o.ref;have he:RowW A r #[.slice pD9 (QG3 s).length cD9, .slice pB9 (Qj3 s).length cB9,int i64 s.left, .bool s.down]:=C;have c1:A.cell? ((at0 r).add 1)=some (.slice pB9 (Qj3 s).length cB9):=he.c rfl;have c2:A.cell? ((at0 r).add 1)=some (.slice pB (Qj3 s).length cB):=g1.c rfl;rw[c1]at c2;simp only[Zi,Value.slice.injEq]at c2;rw[c2.1];exact(g3.ext p).cells
  refine(QWd au av (by omega)).mono ?_;rintro e ax ⟨rfl,u⟩;refine⟨_,rfl,fun ay n=>Q0 (fun _=> ?_) fun h=>by simp at h⟩;refine Q0 (fun _=> ?_) fun h=>by simp at h
  have g:=((o.ext p).ext u).ext n.ext;obtain⟨pDx,cDx,pBx,cBx,H⟩:=Q20.row g.ref;refine⟨_,H.c rfl,(Qp1 g.arr).mono ?_⟩;rintro e az ⟨rfl,rfl⟩;refine⟨_,rfl,⟨_,H.c rfl,rfl⟩,Q0 (fun _=> ?_) fun h=>by simp at h⟩;refine(Qnd g.arr (i:= -1) (by omega)).mono ?_;rintro e a0 ⟨rfl,rfl⟩;refine⟨_,_,_,rfl,Q0 (fun _=> ?_) fun h=>by simp at h⟩;refine⟨_,_,_,H.c rfl,(Qod g.arr (i:=(((QG3 s).length:Nat):Int)) (by rw[QB0];omega)).mono ?_⟩;rintro e a1 ⟨rfl,rfl⟩;exact⟨_,_,_,rfl,by simp,((((((Y.trans P).trans z).trans T).trans t.ext).trans p).trans u).trans n.ext⟩
open Go Go.Vc
open Go.IntKind (i64)
open Go.Value (int)
open Go.Proofs.Tryz (prog)
open Go Go.Vc
open Go.IntKind (i64)
open Go.Value (int)
open Go.Proofs.Tryz (prog)
theorem Qvg(x:Int)(b:UInt8)(w:World):Calls prog 201 #[.int .u32 x, .int .u8 (b.toNat:Int)] w fun e w'=>e= .returned (.int .u32 (Qb1 x b))/\w'=w:=by
 have g:0<=QO .xor .u32 x (IntKind.u32.wrap (b.toNat:Int))/\QO .xor .u32 x (IntKind.u32.wrap (b.toNat:Int))<4294967296:=QB7 _
 refine(F201_calls x (b.toNat:Int) w (fun v w'=>v= .int .u32 (Qb1 x b)/\w'=w)
  (fun _ i n4 j=>0<=n4/\n4<=8/\j=w/\i=QX0 n4.toNat (QO .xor .u32 x (IntKind.u32.wrap (b.toNat:Int)))) (fun _ _ n4 _=>(8-n4).toNat) ?_).mono (by rintro e w' ⟨v,rfl,rfl,h⟩;exact⟨rfl,h⟩)
 rw[QP6];generalize k:QO .xor .u32 x (IntKind.u32.wrap (b.toNat:Int))=y at g;obtain⟨n,rfl⟩:=Int.eq_ofNat_of_zero_le g.1
 try rw[k]
 refine⟨⟨by omega,by omega,rfl,rfl⟩,?_⟩;rintro i n4 j ⟨o,p,rfl,rfl⟩
 intros
 obtain⟨m,e,l⟩:=Qs0 (n:=n) (by omega) n4.toNat;have hs:=(Qv6 l).1;refine Q0 (fun d=> ?_) (fun f=> ?_)
 ·simp only[Za]at d
  rw[w64 (n:=n4+1) (by omega)];have mu:(8-(n4+1)).toNat<(8-n4).toNat:=by omega
  have nx:QX0 (n4+1).toNat (n:Int)=QNj (QX0 n4.toNat (n:Int)):=by
   rw[show(n4+1).toNat=n4.toNat+1 by omega];show Q01 _=_
   rw[e,hs]
  refine Q0 (fun hb=>⟨by omega,⟨by omega,by omega,rfl,?_⟩,mu⟩) (fun hb=>⟨by omega,⟨by omega,by omega,rfl,?_⟩,mu⟩)
  ·simp only[Za]at hb
   rw[nx,QNj,if_pos hb]
  ·simp only[Zb]at hb
   rw[nx,QNj,if_neg hb]
 ·simp only[Zb]at f
  rw[show n4.toNat=8 by omega];exact⟨rfl,rfl⟩
theorem Qug(x:Int){p:σ}{l c:Nat}{w:World}{bs:τ}(h:Q1 w p l bs)(j:l<=4611686018427387904):
  Calls prog 190 #[.int .u32 x, .slice p l c] w fun e w'=>e= .returned (.int .u32 (QGd x bs))/\w'=w:=by
 have k:=h.1
 refine(F190_calls x p l c w (fun v w'=>v= .int .u32 (QGd x bs)/\w'=w)
  (fun _ f n4 d=>0<=n4/\n4<=l/\d=w/\f=(bs.take n4.toNat).foldl Qb1 (QN5 x)) (fun _ _ n4 _=>(l-n4).toNat) ?_).mono (by rintro e w' ⟨v,rfl,rfl,h⟩;exact⟨rfl,h⟩)
 refine⟨⟨by omega,by omega,rfl,rfl⟩,?_⟩;rintro f n4 d ⟨g,m,rfl,rfl⟩
 intros
 refine Q0 (fun ht=> ?_) (fun ht=> ?_)
 ·simp only[Za]at ht
  obtain⟨a,rfl,ha⟩:=h.get (i:=n4.toNat) (by omega);refine⟨⟨g,ht⟩,_,by rw[Nat.mul_one];exact ha,(Qvg _ _ d).mono ?_⟩;rintro e w' ⟨rfl,rfl⟩;rw[w64 (n:=n4+1) (by omega)];refine⟨_,rfl,⟨by omega,by omega,rfl,?_⟩,by show((l:Int)-(n4+1)).toNat<((l:Int)-n4).toNat;omega⟩;rw[show(n4+1).toNat=n4.toNat+1 by omega,Qy1 _ _ _ (by omega)]
 ·simp only[Zb]at ht
  refine⟨?_,rfl⟩;rw[show n4.toNat=bs.length by omega,List.take_length]
  rfl
theorem Q7d{p:σ}{l c:Nat}{w:World}{bs:τ}(h:Q1 w p l bs)(d:l<=4611686018427387904):
  Calls prog 158 #[.slice p l c] w fun e w'=>e= .returned (.int .u32 (QM7 bs))/\w'=w:=by
 refine(F158_calls p l c w (fun v w'=>v= .int .u32 (QM7 bs)/\w'=w) ?_).mono (by rintro e w' ⟨v,rfl,rfl,h⟩;exact⟨rfl,h⟩);refine(Qug 0 h d).mono ?_;rintro e w' ⟨rfl,rfl⟩;exact⟨_,rfl,rfl,rfl⟩
open Go Go.Vc
open Go.IntKind (i64)
open Go.Value (int)
open Go.Proofs.Tryz (prog)
theorem Q9i{w w':World}{k:Nat}{bs:τ}(d:QG w k (.cells (QE bs).toArray 5) w'){n:Nat}(e:n=bs.length)(f:n<=9000):Q5 w' w.heap.size 5 1 (some (at0 k)) n n (QE bs):=by
 refine⟨by rw[Qb,Nat.mul_one,e], .inr ⟨k,n,_,rfl,by rw[d.size.1];exact Nat.le_refl _,d.at,Nat.le_refl _,by unfold maxLen;omega,?_,?_⟩⟩
 ·rw[List.size_toArray,Qb,Nat.mul_one,e]
 ·rw[Nat.mul_one,Zh (by rw[Qb];omega)]
theorem Qw5{w:World}{base:Nat}{p:σ}{n c:Nat}{bs:τ}(h:Q5 w base 5 1 p n c (QE bs)):Q1 w p n bs:=by
 have d:=h.length;rw[Qb,Nat.mul_one]at d;have:=Q1.of_cells h.cells;rw[←d];exact this
theorem Q89{w0 w:World}(l:Ext w0 w){p:σ}{n c:Nat}{xs:τ}(h:Q5 w w0.heap.size 5 1 p n c (QE xs)){q:σ}{m d:Nat}{ys:τ}(i:Q1 w q m ys)(hb:n+m<=90000):
  ∃(e:σ)(j f:Nat),∃w',Sem.run prog (Builtin.append_ #[25,25] 25 #[.slice p n c, .slice q m d]) w= .ok (.slice e j f) w'/\Q5 w' w0.heap.size 5 1 e j f (QE (xs++ys))/\j=n+m/\Ext w0 w'/\Upd (fun b=>p=some (at0 b)) w w':=by
 have z:=i.1;obtain⟨e,f,w',t,u,o,_⟩:=h.append Quj 25 (q:=q) (m:=m) (d:=d) (news:=QE ys) (by rw[Qb];omega) i.cells (Q38 i) (Qd1 ys) (by unfold maxLen;omega) (by omega) l.size;refine⟨e,_,f,w',t,?_,rfl,?_,o⟩
 ·have:QE (xs++ys)=QE xs++QE ys:=by simp[QE]
  rw[this];exact u
 ·refine Upd.trans l o fun x v hs=> ?_
  rcases h.where_ with⟨k,_⟩|⟨g,k,y,_⟩
  ·rw[k]at hs;cases hs
  ·rw[k]at hs
   simp only[Zi,at0,Zv,and_true]at hs;omega
theorem Qr7{p:σ}{l c:Nat}{w:World}{bs:τ}(h:Q1 w p l bs)(y:4<=l):Calls prog 159 #[.slice p l c] w fun e w'=>e= .returned (.int .u32 (Qfa (bs.take 4)))/\Ext w w':=by
 refine(F159_calls p l c w (fun v w'=>v= .int .u32 (Qfa (bs.take 4))/\Ext w w') ?_).mono (by rintro e w' ⟨v,rfl,rfl,h⟩;exact⟨rfl,h⟩);intro z m;have n:=h.1;have d:=h.ext m.ext;obtain⟨a,rfl,o⟩:=d.get (i:=0) (by omega);obtain⟨A,q,c1⟩:=d.get (i:=1) (by omega);cases q;obtain⟨C,t,c2⟩:=d.get (i:=2) (by omega);cases t;obtain⟨a3,u,c3⟩:=d.get (i:=3) (by omega);cases u;refine⟨⟨by omega,by omega⟩,_,o,by omega,⟨by omega,by omega⟩,_,c1,by omega,⟨by omega,by omega⟩,_,c2,by omega,⟨by omega,by omega⟩,_,c3,?_,m.ext⟩
 match bs,n with
 |x0::f::g::j::rest,_=>
  have b0:=u8b x0;have E:=u8b f;have H:=u8b g;have I:=u8b j;have t24:(2:Int)^(min (24:Int).toNat IntKind.u32.bits)=16777216:=rfl;have k:(2:Int)^(min (16:Int).toNat IntKind.u32.bits)=65536:=rfl;have x:(2:Int)^(min (8:Int).toNat IntKind.u32.bits)=256:=rfl;show Value.int .u32 (IntKind.u32.wrap ((IntKind.u32.wrap ((IntKind.u32.wrap ((IntKind.u32.wrap ((IntKind.u32.wrap (x0.toNat:Int))*2^(min (24:Int).toNat IntKind.u32.bits)))+(IntKind.u32.wrap ((IntKind.u32.wrap (f.toNat:Int))*2^(min (16:Int).toNat IntKind.u32.bits)))))+(IntKind.u32.wrap ((IntKind.u32.wrap (g.toNat:Int))*2^(min (8:Int).toNat IntKind.u32.bits)))))+(IntKind.u32.wrap (j.toNat:Int))))= .int .u32 (Qfa [x0,f,g,j])
  rw[QJl,t24,k,x];simp only[IntKind.wrap_u32']
  congr 1
  omega
 | [],h=>simp at h;omega
 | [_],h=>simp at h;omega
 | [_,_],h=>simp at h;omega
 | [_,_,_],h=>simp at h;omega
theorem QD5(x:Int)(f:0<=x)(w:World):Calls prog 157 #[.int .u32 x] w fun e w'=>∃k,e= .returned (.slice (some (at0 k)) 4 4)/\Ext w w'/\Q5 w' w.heap.size 5 1 (some (at0 k)) 4 4 (QE (Q50 x)):=by
 refine(F157_calls x w (fun v w'=>∃k,v= .slice (some (at0 k)) 4 4/\Ext w w'/\Q5 w' w.heap.size 5 1 (some (at0 k)) 4 4 (QE (Q50 x))) ?_).mono (by rintro e w' ⟨v,rfl,k,rfl,h⟩;exact⟨k,rfl,h⟩);refine⟨by omega,by omega,by omega,fun k l i=>⟨k,rfl,i.ext,Q9i ?_ rfl (by omega)⟩⟩;have b0:=Qm3 f 16777216;have m:=Qm3 f 65536;have n:=Qm3 f 256;have j:=Qm3 f 1;rw[Nat.div_one]at j;have g:IntKind.u8.wrap x=IntKind.u8.wrap (x.fdiv ((1:Nat):Int)):=by simp[Int.fdiv_one]
 have d:QG w k (.cells #[.int .u8 (IntKind.u8.wrap (x.fdiv ((16777216:Nat):Int))), .int .u8 (IntKind.u8.wrap (x.fdiv ((65536:Nat):Int))), .int .u8 (IntKind.u8.wrap (x.fdiv ((256:Nat):Int))), .int .u8 (IntKind.u8.wrap x)] 5) l:=i;rw[b0,m,n,g,j]at d;exact d
theorem Qhe(addr epoch:Int){p:σ}{l c:Nat}{w:World}{d:τ}(h:Q1 w p l d):
  Calls prog 121 #[int i64 addr,int i64 epoch, .slice p l c] w fun e w'=>Ext w w'∧
   if QH0 addr/\QH0 epoch/\d.length<=4096 then∃i j k,e= .returned (.tuple #[.slice i j k,int i64 0])/\Q5 w' w.heap.size 5 1 i j k (QE (QR addr epoch d))
   else e= .returned (.tuple #[.slice none 0 0,int i64 1]):=by
 refine(F121_calls addr epoch p l c w (fun v w'=>Ext w w'/\if QH0 addr/\QH0 epoch/\d.length<=4096 then∃i j k,v= .tuple #[.slice i j k,int i64 0]/\Q5 w' w.heap.size 5 1 i j k (QE (QR addr epoch d))
   else v= .tuple #[.slice none 0 0,int i64 1]) ?_).mono (by
  rintro e w' ⟨v,rfl,P,h⟩;refine⟨P,?_⟩
  by_cases g:QH0 addr/\QH0 epoch/\d.length<=4096
  ·rw[if_pos g]at h⊢
   obtain⟨i,j,k,rfl,h⟩:=h;exact⟨i,j,k,rfl,h⟩
  ·rw[if_neg g]at h⊢
   rw[h])
 have hl:=h.1
 have bad:¬(QH0 addr/\QH0 epoch/\d.length<=4096)->(Ext w w/\if QH0 addr/\QH0 epoch/\d.length<=4096 then∃i j k,(Value.tuple #[.slice none 0 0,int i64 1])= .tuple #[.slice i j k,int i64 0]/\Q5 w w.heap.size 5 1 i j k (QE (QR addr epoch d))
   else(Value.tuple #[.slice none 0 0,int i64 1])= .tuple #[.slice none 0 0,int i64 1]):=fun Q=>⟨Upd.refl _ _,by rw[if_neg Q]⟩
 refine Q0 (fun y=>bad fun g=> ?_) fun y=>Q0 (fun z=>bad fun g=> ?_) fun z=>Q0 (fun A=>bad fun g=> ?_) fun A=>Q0 (fun C=>bad fun g=> ?_) fun C=>Q0 (fun E=>bad fun g=> ?_) fun E=> ?_
 ·simp only[Za]at y;have:=g.1.1;omega
 ·simp only[Za]at z;have:=g.1.2;omega
 ·simp only[Za]at A;have:=g.2.1.1;omega
 ·simp only[Za]at C;have:=g.2.1.2;omega
 ·simp only[Za]at E;have:=g.2.2;omega
 simp only[Zb]at y z A C E;have H:QH0 addr/\QH0 epoch/\d.length<=4096:=⟨⟨by omega,by omega⟩,⟨by omega,by omega⟩,by omega⟩;have ea:IntKind.u32.wrap addr=addr:=by rw[IntKind.wrap_u32'];omega
 have ee:IntKind.u32.wrap epoch=epoch:=by rw[IntKind.wrap_u32'];omega
 rw[ea,ee];refine(QD5 addr (by omega) w).mono ?_;rintro e R ⟨k6,rfl,S,q⟩;refine⟨_,_,_,rfl,(QD5 epoch (by omega) R).mono ?_⟩;rintro e w7 ⟨k9,rfl,L,t⟩;have T:=S.trans L;obtain⟨U,V,W,X,r10,m,M,u,_⟩:=Q89 T (q.ext L) (d:=4) (Qw5 t) (by omega);obtain⟨Y,Z,aa,ab,r12,f,N,I,_⟩:=Q89 u m (d:=c) (h.ext u) (by omega);have eH:(Q50 addr++Q50 epoch)++d=QO0 addr epoch d:=by rw[List.append_assoc];rfl
 rw[eH]at f;refine⟨_,_,_,rfl,_,_,_,_,r10,_,_,_,_,r12,(Q7d (Qw5 f) (by omega)).mono ?_⟩;rintro e ac ⟨rfl,rfl⟩;refine⟨_,rfl,(QD5 _ (QF3 _).1 _).mono ?_⟩;rintro e ad ⟨ae,rfl,x,n⟩;obtain⟨af,ah,ai,aj,J,o,O,K,_⟩:=Q89 (I.trans x) (f.ext x) (d:=4) (Qw5 n) (by omega);refine⟨_,_,_,rfl,_,_,_,_,J,K,?_⟩;rw[if_pos H];exact⟨_,_,_,rfl,o⟩
theorem QBa(addr:Int){p:σ}{l c:Nat}{w:World}{bs:τ}(h:Q1 w p l bs)(hm:l<=4611686018427387904)(t:l<=c):
  Calls prog 123 #[int i64 addr, .slice p l c] w fun e w'=>Ext w w'/\∃n d f k z,e= .returned (.tuple #[int i64 n, .slice f d.length k,int i64 z])/\Q1 w' f d.length d/\(∀g,f=some g->∃m,p=some m/\g.block=m.block)/\d.length<=k/\(match Q10 addr bs with
   |some (u,x)=>z=0/\n=u/\d=x
   |none=>z=110/\n=0/\d=[]):=by
 refine(F123_calls addr p l c w (fun v w'=>Ext w w'/\∃n d f k z,v= .tuple #[int i64 n, .slice f d.length k,int i64 z]/\Q1 w' f d.length d/\(∀g,f=some g->∃m,p=some m/\g.block=m.block)/\d.length<=k/\(match Q10 addr bs with
   |some (u,x)=>z=0/\n=u/\d=x
   |none=>z=110/\n=0/\d=[])) ?_).mono (by rintro e w' ⟨v,rfl,J,n,d,f,k,z,rfl,h⟩;exact⟨J,n,d,f,k,z,rfl,h⟩)
 have H:=h.1
 have bad:∀{w':World},Ext w w'->¬Qc3 addr bs->(Ext w w'/\∃n d f k z,(Value.tuple #[int i64 0, .slice none 0 0,int i64 110])= .tuple #[int i64 n, .slice f d.length k,int i64 z]/\Q1 w' f d.length d/\(∀g,f=some g->∃m,p=some m/\g.block=m.block)/\d.length<=k/\(match Q10 addr bs with
   |some (u,x)=>z=0/\n=u/\d=x
   |none=>z=110/\n=0/\d=[])):=fun J K=>⟨J,0,[],none,0,110,rfl,Q1.nil _ _,(fun g h=>by cases h),Nat.zero_le _,by unfold Q10;rw[if_neg K];exact⟨rfl,rfl,rfl⟩⟩
 rw[w64 (n:=(l:Int)-4) (by omega)];refine Q0 (fun L=>bad (Upd.refl _ _) fun i=> ?_) fun L=>Q0 (fun M=>bad (Upd.refl _ _) fun i=> ?_) fun M=>Q0 (fun N=>bad (Upd.refl _ _) fun i=> ?_) fun N=>Q0 (fun O=>bad (Upd.refl _ _) fun i=> ?_) fun O=> ?_
 ·simp only[Za]at L;have:=i.1;omega
 ·simp only[Za]at M;have:=i.2.1;omega
 ·simp only[Za]at N;have:=i.2.2.1.1;omega
 ·simp only[Za]at O;have:=i.2.2.1.2;omega
 simp only[Zb]at L M N O;have K:((l:Int)-4).toNat=l-4:=by omega
 rw[K];have P:=QHd h (c:=c) (a:=4) (b:=8) (by omega) (by omega) t;refine⟨⟨by omega,by omega⟩,⟨by omega,by decide⟩,(Qr7 P (by omega)).mono ?_⟩;rintro e w3 ⟨rfl,U⟩;refine⟨_,rfl,fun w6 V=>⟨⟨by omega,by omega⟩,⟨by omega,by omega⟩,?_⟩⟩;have T:=U.trans V.ext;have W:bs.take l=bs:=by rw[H];exact List.take_length
 have cn:=QHd (h.ext T) (c:=c) (a:=l-4) (b:=l) (Nat.le_refl _) (by omega) t;rw[W]at cn;refine(Qr7 cn (by omega)).mono ?_;rintro e w7 ⟨rfl,X⟩;have I:=T.trans X;have cs:=QHd (h.ext I) (c:=c) (a:=0) (b:=l-4) (by omega) (by omega) t;rw[List.drop_zero]at cs;refine⟨_,rfl,(Q7d cs (by omega)).mono ?_⟩;rintro e Y ⟨rfl,rfl⟩;have Z:((bs.take 8).drop 4).take 4=(bs.take 8).drop 4:=Zh (by simp;omega);have t2:(bs.drop (l-4)).take 4=bs.drop (l-4):=Zh (by simp;omega);rw[Z,t2];refine⟨_,rfl,Q0 (fun y=>bad I fun i=> ?_) fun y=>⟨⟨by omega,by omega⟩,?_⟩⟩
 ·simp only[Zg,Zb]at y
  have:=i.2.2.2.1;rw[←H]at this;exact y this
 simp only[Zf,Za]at y;have A:=QHd (h.ext I) (c:=c) (a:=0) (b:=4) (by omega) (by omega) t;rw[List.drop_zero]at A;refine(Qr7 A (by omega)).mono ?_;rintro e aa ⟨rfl,Q⟩;have o:=I.trans Q;have t3:(bs.take 4).take 4=bs.take 4:=Zh (by simp;omega);have ea:IntKind.u32.wrap addr=addr:=by rw[IntKind.wrap_u32'];omega
 rw[t3,ea];refine⟨_,rfl,Q0 (fun C=>bad o fun i=> ?_) fun C=>Q0 (fun R=>bad o fun i=> ?_) fun R=>fun ab E=>⟨⟨by omega,by omega⟩,⟨by omega,by omega⟩,o.trans E.ext,?_⟩⟩
 ·simp only[Zg,Zb]at C
  exact C i.2.2.2.2.1
 ·simp only[Za]at R;have:=i.2.2.2.2.2;omega
 simp only[Zf,Za]at C;simp only[Zb]at R;have S:Qc3 addr bs:=⟨by omega,by omega,⟨by omega,by omega⟩,by rw[←H];exact y,C,by omega⟩;have c8:=QHd (h.ext (o.trans E.ext)) (c:=c) (a:=8) (b:=l-4) (by omega) (by omega) t;have ad:=QP8 (bs:=(bs.take 8).drop 4) (by simp;omega);have j:((bs.take (l-4)).drop 8).length=l-4-8:=by simp;omega
 refine⟨Qfa ((bs.take 8).drop 4),(bs.take (l-4)).drop 8,QT0 p c 8 1,c-8,0,?_,?_,?_,?_,?_⟩
 ·rw[j,w64 (by omega)];rfl
 ·rw[j];exact c8
 ·intro g q
  cases p with
  |none=>unfold QT0 Qik at q;split at q<;>cases q
  |some m=>
   refine⟨m,rfl,?_⟩;unfold QT0 Qik at q
   split at q<;>cases q
   ·rfl
   ·rfl
 ·rw[j];omega
 ·unfold Q10
  rw[if_pos S,←H];exact⟨rfl,rfl,rfl⟩
open Go Go.Vc
open Go.IntKind (i64)
open Go.Value (int)
open Go.Proofs.Tryz (prog)
theorem Q0c{w:World}{b:Nat}{D:Dk}{F:Nat->Prop}(h:QY3 w b D F)(k:Int):
  Calls prog 127 #[.pointer (some (at0 b)),int i64 k] w fun e w'=>Ext w w'/\∃p l c bs,e= .returned (.tuple #[.slice p l c,int i64 (Qh D.dead D.sectors k)])∧
   bs=(if Qh D.dead D.sectors k=0 then Qy0 D k else [])/\Q1 w' p l bs/\l<=4108/\Q5 w' w.heap.size 5 1 p l c (QE bs):=by
 obtain⟨⟨G,d,rfl⟩,f⟩:=h;exact Qza d f k
theorem QWb{w:World}{r:Nat}{Ds:List Dk}{B:List Int}{left:Int}{F:Nat->Prop}(h:Q20 w r Ds B left false F){i:Nat}{D:Dk}(hi:Ds[i]? =some D)(k:Int):Calls prog 85 #[.pointer (some (at0 r)),int i64 (i:Int),int i64 k] w fun e w'=>Ext w w'∧
  ∃p l c bs,e= .returned (.tuple #[.slice p l c,int i64 (Qh D.dead D.sectors k)])/\bs=(if Qh D.dead D.sectors k=0 then Qy0 D k else [])/\Q1 w' p l bs/\l<=4108/\Q5 w' w.heap.size 5 1 p l c (QE bs):=by
 refine(F85_calls (some (at0 r)) (i:Int) k w (fun v w'=>Ext w w'/\∃p l c bs,v= .tuple #[.slice p l c,int i64 (Qh D.dead D.sectors k)]/\bs=(if Qh D.dead D.sectors k=0 then Qy0 D k else [])/\Q1 w' p l bs/\l<=4108/\Q5 w' w.heap.size 5 1 p l c (QE bs)) ?_).mono (by
  rintro e w' ⟨v,rfl,d,p,l,c,bs,rfl,h⟩;exact⟨d,p,l,c,bs,rfl,h⟩)
 have f:i<Ds.length:=(Zd.1 hi).1;obtain⟨pD,cD,pB,cB,g⟩:=h.row;refine⟨_,g.c rfl,Q0 (fun h=>by cases h) fun _=>(Qm1 h (i:Int)).mono ?_⟩;rintro e t ⟨rfl,rfl⟩;obtain⟨ap,cD',b,Fi,j,m,n,_,_⟩:=h.at hi;refine⟨_,rfl,Q0 (fun o=>by simp at o;omega) fun _=>⟨_,_,_,j,⟨by omega,by omega⟩,_,by rw[Ze];exact m,?_⟩⟩;refine(Q0c n k).mono ?_;rintro e q ⟨d,p,l,c,bs,rfl,h⟩;exact⟨_,_,_,_,rfl,d,p,l,c,bs,rfl,h⟩
def QQj(addr:Int)(m:Mem):τ:=if Qh m.d.dead m.d.sectors addr=0 then Qy0 m.d addr else []
theorem Q7b{w:World}{r:Nat}{s:StA}{G:Nat->Prop}(h:IsR w r s G)(g:s.down=false){i:Nat}{m:Mem}(j:s.M[i]? =some m)(n:Int):Calls prog 85 #[.pointer (some (at0 r)),int i64 (i:Int),int i64 n] w fun e w'=>Ext w w'∧
  ∃p l c,e= .returned (.tuple #[.slice p l c,int i64 (Qh m.d.dead m.d.sectors n)])/\l<=4108/\Q5 w' w.heap.size 5 1 p l c (QE (QQj n m)):=by
 obtain⟨M,left,down⟩:=s;simp only at g j;subst g;refine(QWb h (Qp3 (s:=⟨M,left,false⟩) j) n).mono ?_;rintro e w' ⟨o,p,l,c,bs,rfl,f,hb,q,k⟩;refine⟨o,p,l,c,rfl,q,?_⟩;rw[f]at k;exact k
end Go.Proofs.YtkolafpgbhpdlaaGreat
