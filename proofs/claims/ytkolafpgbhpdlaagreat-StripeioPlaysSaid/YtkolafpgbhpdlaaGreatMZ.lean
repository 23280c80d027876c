import Derived.Test.YtkolafpgbhpdlaaGreatGd
import Derived.Test.YtkolafpgbhpdlaaGreatMT
import Derived.Test.YtkolafpgbhpdlaaGreatMR
import Derived.Test.YtkolafpgbhpdlaaGreatML
set_option maxHeartbeats 4000000
namespace Go.Proofs.YtkolafpgbhpdlaaGreat
open Go Go.Vc
open Go.IntKind (i64)
open Go.Value (int)
open Go.Proofs.Tryz (prog)
theorem QFi(k m:Int)(w:World):Calls prog 153 #[int i64 k,int i64 m] w fun e w'=>e= .returned (int i64 (if Q60 k m then 0 else 50))/\w'=w:=by
 refine(F153_calls k m w (fun v w'=>v=int i64 (if Q60 k m then 0 else 50)/\w'=w) ?_).mono (by rintro e w' ⟨v,rfl,rfl,h⟩;exact⟨rfl,h⟩);have bad:¬Q60 k m->(int i64 50=int i64 (if Q60 k m then 0 else 50)/\w=w):=fun h=>⟨by rw[if_neg h],rfl⟩;refine Q0 (fun h=>bad fun a=> ?_) fun f=>Q0 (fun h=>bad fun a=> ?_) fun g=>Q0 (fun h=>bad fun a=> ?_) fun i=>Q0 (fun h=>bad fun a=> ?_) fun j=>Q0 (fun h=>bad fun a=> ?_) fun d=>⟨?_,rfl⟩
 ·simp only[Za]at h;unfold Q60 at a;omega
 ·simp only[Za]at h;unfold Q60 at a;omega
 ·simp only[Za]at h;unfold Q60 at a;omega
 ·simp only[Za]at h;unfold Q60 at a;omega
 ·simp only[Za]at h;unfold Q60 at a;rw[w64 (by omega)]at h;omega
 ·simp only[Zb]at f g i j d
  rw[w64 (by omega)]at d;rw[if_pos (by unfold Q60;omega)]
theorem QH7(g:Geo)(w:World):Calls prog 115 #[gV g] w fun e w'=>e= .returned (int i64 (Q80 g))/\Ext w w':=by
 refine(F115_calls g.k g.m g.size g.stripes g.slots g.objects w (fun v w'=>v=int i64 (Q80 g)/\Ext w w') ?_).mono (by rintro e w' ⟨v,rfl,rfl,h⟩;exact⟨rfl,h⟩);intro o w8 f;have r:RowW w8 o _:=⟨_,f.at⟩;have bad:¬QA g->(int i64 50=int i64 (Q80 g)/\Ext w w8):=fun h=>⟨by rw[Q80,if_neg h],f.ext⟩;refine⟨_,r.row.cell (n:=0) rfl,_,r.c rfl,(QFi g.k g.m w8).mono ?_⟩;rintro e p ⟨rfl,rfl⟩
 refine⟨_,rfl,Q0 (fun h=>bad fun a=> ?_) fun j=>⟨_,r.row.cell (n:=0) rfl,_,r.c rfl,Q0 (fun h=>bad fun a=> ?_) fun l=>⟨_,r.c rfl,Q0 (fun h=>bad fun a=> ?_) fun q=>⟨_,r.c rfl,Q0 (fun h=>bad fun a=> ?_) fun s=>
  ⟨_,r.c rfl,Q0 (fun h=>bad fun a=> ?_) fun t=>⟨_,r.c rfl,Q0 (fun h=>bad fun a=> ?_) fun u=>⟨_,r.c rfl,Q0 (fun h=>bad fun a=> ?_) fun x=>⟨_,r.c rfl,Q0 (fun h=>bad fun a=> ?_) fun y=>
  ⟨_,r.c rfl,Q0 (fun h=>bad fun a=> ?_) fun z=>⟨_,r.c rfl,Q0 (fun h=>bad fun a=> ?_) fun i=>⟨?_,f.ext⟩⟩⟩⟩⟩⟩⟩⟩⟩⟩⟩
 ·have:Q60 g.k g.m:=by unfold Q60;unfold QA at a;omega
  rw[if_pos this]at h;simp at h
 ·have:Q60 g.k g.m:=by unfold Q60;unfold QA at a;omega
  unfold Q60 at this;simp only[Za]at h;rw[w64 (by omega)]at h;unfold QA at a;omega
 ·simp only[Za]at h;unfold QA at a;omega
 ·simp only[Za]at h;unfold QA at a;omega
 ·simp only[Za]at h;unfold QA at a;omega
 ·simp only[Za]at h;unfold QA at a;omega
 ·simp only[Za]at h;unfold QA at a;omega
 ·simp only[Za]at h;unfold QA at a;omega
 ·simp only[Za]at h;unfold QA at a;omega
 ·simp only[Za]at h;unfold QA at a;omega
 ·have d:Q60 g.k g.m:=by
   by_cases d:Q60 g.k g.m
   ·exact d
   ·rw[if_neg d]at j;simp at j
  unfold Q60 at d;simp only[Zb]at l q s t u x y z i;rw[w64 (by omega)]at l;rw[Q80,if_pos (by unfold QA;omega)]
theorem QSa(g:Geo)(i n:Int)(w:World):Calls prog 156 #[gV g,int i64 i,int i64 n] w fun e w'=>∃b,e= .returned (.bool b)/\(b=true↔QA g/\0<=i/\i<n)/\Ext w w':=by
 refine(F156_calls g.k g.m g.size g.stripes g.slots g.objects i n w (fun v w'=>∃b,v= .bool b/\(b=true↔QA g/\0<=i/\i<n)/\Ext w w') ?_).mono (by rintro e w' ⟨v,rfl,b,rfl,h⟩;exact⟨b,rfl,h⟩);intro p d o;have r:RowW d p (gC g):=⟨_,o.at⟩;refine⟨_,r.row.cell (n:=0) rfl,_,r.c rfl,_,r.c rfl,_,r.c rfl,_,r.c rfl,_,r.c rfl,(QH7 g d).mono ?_⟩;rintro e q ⟨rfl,l⟩;have y:=o.ext.trans l;refine⟨_,rfl,Q0 (fun h=>Q0 (fun f=>⟨_,rfl,?_,y⟩) fun f=>⟨false,rfl,?_,y⟩) fun h=>⟨false,rfl,?_,y⟩⟩
 ·simp only[Za]at h f⊢
  have j:QA g:=by
   by_cases j:QA g
   ·exact j
   ·unfold Q80 at h;rw[if_neg j]at h;cases h
  exact⟨fun a=>⟨j,f,a⟩,fun a=>a.2.2⟩
 ·simp only[Zb]at f
  exact⟨fun h=>(by cases h),fun a=>absurd a.2.1 f⟩
 ·simp only[Zb]at h
  exact⟨fun h=>(by cases h),fun a=>absurd (show Q80 g=0 by unfold Q80;rw[if_pos a.1]) h⟩
theorem Q86(g:Geo)(i:Int)(w:World):Calls prog 120 #[gV g,int i64 i] w fun e w'=>e= .returned (int i64 (atZ g i))/\Ext w w':=by
 refine(F120_calls g.k g.m g.size g.stripes g.slots g.objects i w (fun v w'=>v=int i64 (atZ g i)/\Ext w w') ?_).mono (by rintro e w' ⟨v,rfl,rfl,h⟩;exact⟨rfl,h⟩);intro j l o;have r:RowW l j (gC g):=⟨_,o.at⟩;refine⟨_,r.row.cell (n:=0) rfl,_,r.c rfl,_,r.c rfl,_,r.c rfl,_,r.c rfl,_,r.c rfl,_,r.c rfl,(QSa g i g.stripes l).mono ?_⟩;rintro e f ⟨b,rfl,hb,a⟩;have q:RowW f j (gC g):=a.rowW r id;have y:=o.ext.trans a;refine⟨_,rfl,Q0 (fun h=>⟨?_,y⟩) fun h=>⟨_,q.c rfl,?_,y⟩⟩
 ·simp only[Zg]at h
  unfold atZ;rw[if_neg (fun d=>by rw[hb.2 d]at h;cases h)]
 ·simp only[Zf]at h
  have d:=hb.1 h;unfold atZ;rw[if_pos d];obtain⟨⟨_,_,p,s,_⟩,_⟩:=d;rw[w64 (n:=5+g.slots) (by omega),w64 (by omega)]
theorem QG5(g:Geo)(i j:Int)(w:World):Calls prog 122 #[gV g,int i64 i,int i64 j] w fun e w'=>e= .returned (int i64 (Qc0 g i j))/\Ext w w':=by
 refine(F122_calls g.k g.m g.size g.stripes g.slots g.objects i j w (fun v w'=>v=int i64 (Qc0 g i j)/\Ext w w') ?_).mono (by rintro e w' ⟨v,rfl,rfl,h⟩;exact⟨rfl,h⟩);intro t a u;have r:RowW a t (gC g):=⟨_,u.at⟩;refine⟨_,r.row.cell (n:=0) rfl,_,r.c rfl,_,r.c rfl,_,r.c rfl,_,r.c rfl,_,r.c rfl,_,r.c rfl,(QSa g i g.stripes a).mono ?_⟩;rintro e d ⟨b,rfl,hb,f⟩;have q:RowW d t (gC g):=f.rowW r id;have y:=u.ext.trans f;have bad:¬(QA g/\(0<=i/\i<g.stripes)/\0<=j/\j<g.k+g.m)->int i64 0=int i64 (Qc0 g i j)/\Ext w d:=fun h=>⟨by unfold Qc0;rw[if_neg h],y⟩;refine⟨_,rfl,Q0 (fun h=>bad fun l=> ?_) fun h=>Q0 (fun o=>bad fun l=> ?_) fun o=>⟨_,q.row.cell (n:=0) rfl,_,q.c rfl,?_⟩⟩
 ·rw[hb.2 ⟨l.1,l.2.1⟩]at h;cases h
 ·simp only[Za]at o;omega
 simp only[Zf]at h;simp only[Zb]at o;obtain⟨x,hi⟩:=hb.1 h;have p:=x;obtain⟨z,A,B,C,D⟩:=x;rw[w64 (n:=g.k+g.m) (by omega)];refine Q0 (fun s=>bad fun l=> ?_) fun s=>⟨_,q.row.cell (n:=0) rfl,_,q.c rfl,?_⟩
 ·simp only[Za]at s;omega
 simp only[Zb]at s;rw[w64 (n:=g.k+g.m) (by omega),w64 (n:=j+i) (by omega)];refine⟨by omega,?_,y⟩;unfold Qc0;rw[if_pos ⟨p,hi,by omega,by omega⟩,Int.tmod_eq_emod_of_nonneg (by omega)]
open Go Go.Vc
open Go.IntKind (i64)
open Go.Value (int)
open Go.Proofs.Tryz (prog)
theorem QH5(g:Geo)(i e:Int)(w:World):Calls prog 79 #[gV g,int i64 i,int i64 e] w fun x w'=>(∀a k:Nat,x= .returned (int i64 (Q11 (some (at0 a)) (some (at0 k)) g i e)))/\Ext w w':=by
 have B:∀a k:Nat,Q11 (some (at0 a)) (some (at0 k)) g i e=if Q80 g=0 then(if Qh3 g i e then 0 else 1)else Q80 g:=fun a k=>by
  unfold Q11
  by_cases l:Q80 g=0
  ·rw[if_pos l,l]
   cases Qh3 g i e<;>rfl
  ·rw[if_neg l]
   show QN1 [(0:Int),Q80 g,_]=_
   unfold QN1;rw[if_pos rfl];unfold QN1;rw[if_neg l]
 refine(F79_calls g.k g.m g.size g.stripes g.slots g.objects i e w (fun v w'=>v=int i64 (if Q80 g=0 then(if Qh3 g i e then 0 else 1)else Q80 g)/\Ext w w') ?_).mono (by rintro e w' ⟨v,rfl,rfl,h⟩;exact⟨fun a k=>by rw[B],h⟩);intro z d A;have r:RowW d z (gC g):=⟨_,A.at⟩;refine⟨_,r.row.cell (n:=0) rfl,_,r.c rfl,_,r.c rfl,_,r.c rfl,_,r.c rfl,_,r.c rfl,(QH7 g d).mono ?_⟩;rintro x f ⟨rfl,j⟩;have q:RowW f z (gC g):=j.rowW r id;have y:=A.ext.trans j;refine⟨_,rfl,Q0 (fun h=> ?_) fun h=> ?_⟩
 ·simp only[Zg,Zb]at h
  rw[if_neg h];exact⟨rfl,y⟩
 simp only[Zf,Za]at h;rw[if_pos h];have no:¬(0<=i/\i<g.stripes/\0<=e/\e<=2147483647)->int i64 1=int i64 (if Qh3 g i e then 0 else 1)/\Ext w f:=fun C=>by
  have:Qh3 g i e=false:=decide_eq_false C;rw[this];exact⟨rfl,y⟩
 refine Q0 (fun o=>no fun p=> ?_) fun o=>⟨_,q.c rfl,Q0 (fun s=>no fun p=> ?_) fun s=>Q0 (fun t=>no fun p=> ?_) fun t=>Q0 (fun u=>no fun p=> ?_) fun u=> ?_⟩
 ·simp only[Za]at o;omega
 ·simp only[Za]at s;omega
 ·simp only[Za]at t;omega
 ·simp only[Za]at u;omega
 ·simp only[Zb]at o s t u
  have:Qh3 g i e=true:=decide_eq_true ⟨by omega,by omega,by omega,by omega⟩;rw[this];exact⟨rfl,y⟩
theorem QZj{s:StA}{d:Int}(a:0<=d)(n:Int)(l:Nat):QNi s d n l=wrZ s d.toNat n l:=by
 unfold QNi wrZ;rw[if_pos a];rfl
theorem QUa{w:World}{r:Nat}{s:StA}{G:Nat->Prop}(h:IsR w r s G)(K:OkA s)(g:Geo)(i e j:Int){p:σ}{l c:Nat}{b:τ}(hb:Q1 w p l b):
  Calls prog 82 #[.pointer (some (at0 r)),gV g,int i64 i,int i64 e,int i64 j, .slice p l c] w fun t w'=>∃G',t= .returned (int i64 (QRb s g i e j b))/\Qp G G' w w'/\IsR w' r (QR7 s g i e j b) G':=by
 refine(F82_calls (some (at0 r)) g.k g.m g.size g.stripes g.slots g.objects i e j p l c w (fun v w'=>∃G',v=int i64 (QRb s g i e j b)/\Qp G G' w w'/\IsR w' r (QR7 s g i e j b) G') ?_).mono (by rintro t w' ⟨v,rfl,G',rfl,h⟩;exact⟨G',rfl,h⟩);intro u x J;have a:RowW x u (gC g):=⟨_,J.at⟩;refine⟨_,a.row.cell (n:=0) rfl,_,a.c rfl,_,a.c rfl,_,a.c rfl,_,a.c rfl,_,a.c rfl,(Q86 g i x).mono ?_⟩;rintro t L ⟨rfl,y⟩;have z:=J.ext.trans y;refine⟨_,rfl,(Qhe (c:=c) (atZ g i) e (hb.ext z)).mono ?_⟩;rintro t A ⟨B,F⟩;have q:=z.trans B;have d:RowW A u (gC g):=(y.trans B).rowW a id
 by_cases f:Q8e g i e b
 ·have o:QH0 (atZ g i)/\QH0 e/\b.length<=4096:=f
  rw[if_pos o]at F;obtain⟨R,M,N,rfl,C⟩:=F;have I:M=(QR (atZ g i) e b).length:=by have:=Q2.len C;exact this
  subst I;refine⟨_,_,_,_,rfl,Q0 (fun h=>by simp at h) fun _=>⟨_,d.row.cell (n:=0) rfl,_,d.c rfl,_,d.c rfl,_,d.c rfl,_,d.c rfl,_,d.c rfl,(QG5 g i j A).mono ?_⟩⟩;rintro t O ⟨rfl,D⟩;have E:=q.trans D;refine⟨_,rfl,(Qwc (c:=N) (Q20.ext h E) K (Qc0 g i j) (atZ g i) (Q1.ext (Q2.bytes C) D)).mono ?_⟩;rintro t P ⟨G',rfl,hs,Q⟩;refine⟨_,rfl,G',?_,(Qp.ext E).trans hs,?_⟩
  ·unfold QRb
   rw[if_pos f,QZj (Qc2 g i j)]
  ·unfold QR7
   rw[if_pos f];exact Q
 ·have o:¬(QH0 (atZ g i)/\QH0 e/\b.length<=4096):=f
  rw[if_neg o]at F;subst F;refine⟨_,_,_,_,rfl,Q0 (fun _=>⟨G,?_,Qp.ext q,?_⟩) fun h=>by simp at h⟩
  ·unfold QRb;rw[if_neg f]
  ·unfold QR7;rw[if_neg f];exact Q20.ext h q
open Go Go.Vc Go.Gf
open Go.IntKind (i64)
open Go.Value (int)
open Go.Proofs.Tryz (prog)
def Q5h(p:σ)(c S j:Nat):Value:= .slice (QT0 p c (j*S) 1) S (c-j*S)
theorem QTa{w:World}{base K S c g:Nat}{p f:σ}{bs:τ}(h:Q1 w p (K*S) bs)(j:K*S<=c)(k:Q5 w base 25 1 f K g ((List.range K).map (Q5h p c S))):Qr w f K (QD0 bs K S):=by
 refine⟨(Qx5 _ _ _).symm,fun i hi=> ?_⟩;obtain⟨a,ha,e⟩:=Q5.cells k i (Q5h p c S i) (by simp[hi]);have l:=Nat.mul_le_mul_right S (show i+1<=K from hi);rw[Nat.add_mul,Nat.one_mul]at l;have d:=QHd h (c:=c) (a:=i*S) (b:=i*S+S) (by omega) (by omega) j;rw[show i*S+S-i*S=S by omega,List.drop_take,show i*S+S-i*S=S by omega]at d;rw[Qy3 hi];exact⟨a,_,_,_,ha,e,d,by omega⟩
theorem Qpc{w:World}{g:Geo}(D:QA g){p:σ}{l c:Nat}{bs:τ}(h:Q1 w p l bs)(U:(l:Int)=g.k*g.size)(y:l<=c):
  Calls prog 81 #[gV g, .slice p l c] w fun e w'=>∃j s,e= .returned (.slice j g.k.toNat s)/\Ext w w'/\Qr w' j g.k.toNat (QD0 bs g.k.toNat g.size.toNat):=by
 have I:=D;obtain⟨V,W,X,Y,Z⟩:=D;obtain⟨K,E⟩:∃K,K=g.k.toNat:=⟨_,rfl⟩;obtain⟨S,hS⟩:∃S,S=g.size.toNat:=⟨_,rfl⟩;have ekz:g.k*g.size=((K*S:Nat):Int):=by rw[Int.natCast_mul,E,hS,Int.toNat_of_nonneg (by omega),Int.toNat_of_nonneg (by omega)]
 have bkz:K*S<=32*4096:=Nat.mul_le_mul (by omega) (by omega);obtain rfl:l=K*S:=by omega
 have mul:∀t:Nat,t<=K->(t:Int)*g.size=((t*S:Nat):Int)/\t*S<=K*S:=fun t ht=>⟨by rw[Int.natCast_mul,hS,Int.toNat_of_nonneg (by omega)],Nat.mul_le_mul_right S ht⟩;rw[←E,←hS]
 refine(F81_calls g.k g.m g.size g.stripes g.slots g.objects p (K*S) c w (fun v w'=>∃j s,v= .slice j K s/\Ext w w'/\Qr w' j K (QD0 bs K S))
  (fun _ x o a q d f=>∃t:Nat,d=t/\t<=K/\Ext x f/\a=t/\Q5 f x.heap.size 25 1 o a q ((List.range t).map (Q5h p c S))) (fun _ _ _ _ _ d _=>(K-d).toNat) ?_).mono (by rintro e w' ⟨v,rfl,j,s,rfl,h⟩;exact⟨j,s,rfl,h⟩)
 intro F x z;have J:RowW x F (gC g):=⟨_,z.at⟩;refine⟨⟨0,rfl,Nat.zero_le _,Upd.refl _ _,rfl,Q5.nil _ _ _ _⟩,?_⟩;rintro o a q d f ⟨t,rfl,ht,i,rfl,G⟩;have r:RowW f F (gC g):=i.rowW J id
 intros
 refine⟨_,r.c rfl,Q0 (fun A=>⟨_,r.c rfl,_,r.c rfl,?_⟩) fun B=> ?_⟩
 ·simp only[Za]at A
  have L:a<K:=by omega
  obtain⟨M,m2⟩:=mul a (by omega);obtain⟨N,m4⟩:=mul (a+1) (by omega);have m5:(a+1)*S=a*S+S:=by rw[Nat.add_mul,Nat.one_mul]
  rw[w64 (n:=(a:Int)+1) (by omega),show((a:Int)+1)=((a+1:Nat):Int)from rfl,N,M,w64 (n:=((a*S:Nat):Int)) (by omega),w64 (n:=(((a+1)*S:Nat):Int)) (by omega),Ze,Ze];refine⟨⟨by omega,by omega⟩,⟨by omega,by omega⟩,fun O P u=> ?_⟩;have Q:Value.slice (QT0 p c (a*S) 1) ((a+1)*S-a*S) (c-a*S)=Q5h p c S a:=by unfold Q5h;rw[show(a+1)*S-a*S=S by omega]
  rw[Q]at u;obtain⟨j,s,w2,R,C,T⟩:=Qg4 Qwh (by omega) i G u rfl (by omega);exact⟨_,_,_,_,R,⟨a+1,rfl,by omega,T,rfl,by rw[List.range_succ,Zp];exact C⟩,by show((K:Int)-((a+1:Nat):Int)).toNat<((K:Int)-(a:Int)).toNat;omega⟩
 ·simp only[Zb]at B
  obtain rfl:a=K:=by omega
  exact⟨o,q,rfl,z.ext.trans i,QTa (h.ext (z.ext.trans i)) y G⟩
set_option maxRecDepth 20000 in
theorem Qrc{w:World}{r:Nat}{s:StA}{G:Nat->Prop}(h:IsR w r s G)(ho:OkA s)(g:Geo)(i e:Int){p:σ}{l c:Nat}{bs:τ}(hb:Q1 w p l bs)(ao:l<=c)(a kf:Nat):
  Calls prog 50 #[.pointer (some (at0 r)),gV g,int i64 i,int i64 e, .slice p l c] w fun Z w'=>∃G',Z= .returned (int i64 (swZ s (some (at0 a)) (some (at0 kf)) g i e bs))/\Qp G G' w w'/\IsR w' r (swS s (some (at0 a)) (some (at0 kf)) g i e bs) G':=by
 have a6:=hb.1
 refine(F50_calls (some (at0 r)) g.k g.m g.size g.stripes g.slots g.objects i e p l c w (fun v w'=>∃G',v=int i64 (swZ s (some (at0 a)) (some (at0 kf)) g i e bs)/\Qp G G' w w'/\IsR w' r (swS s (some (at0 a)) (some (at0 kf)) g i e bs) G')
  (fun _ _ R _ E j I=>∃(n:Nat)(G':Nat->Prop),j=n/\n<=g.k.toNat+g.m.toNat/\R=g.k.toNat+g.m.toNat/\Qp G G' E I/\(putN s g i e (QP0 g bs) n).2=false/\IsR I r (putN s g i e (QP0 g bs) n).1 G') (fun _ _ R _ _ j _=>(R-j).toNat) ?_).mono (by rintro Z w' ⟨v,rfl,G',rfl,h⟩;exact⟨G',rfl,h⟩)
 intro o aa S;have t:RowW aa o (gC g):=⟨_,S.at⟩;refine⟨_,t.row.cell (n:=0) rfl,_,t.c rfl,_,t.c rfl,_,t.c rfl,_,t.c rfl,_,t.c rfl,(QH5 g i e aa).mono ?_⟩;rintro Z T ⟨L,ab⟩;obtain rfl:=L a kf;have U:=S.ext.trans ab;have V:RowW T o (gC g):=ab.rowW t id;have bad:∀z,¬Qfh (some (at0 a)) (some (at0 kf)) g i e bs->z=QN1 [Q11 (some (at0 a)) (some (at0 kf)) g i e,1]->∃G',int i64 z=int i64 (swZ s (some (at0 a)) (some (at0 kf)) g i e bs)/\Qp G G' w T/\IsR T r (swS s (some (at0 a)) (some (at0 kf)) g i e bs) G':=by
  rintro z hn rfl;refine⟨G,by unfold swZ;rw[if_neg hn],Qp.ext U,?_⟩;unfold swS;rw[if_neg hn];exact Q20.ext h U
 refine⟨_,rfl,Q0 (fun A=> ?_) fun he=> ?_⟩
 ·simp only[Zg,Zb]at A
  refine bad _ (fun q=>A q.1) ?_;unfold QN1;rw[if_neg A]
 simp only[Zf,Za]at he;obtain⟨_,hg,a7⟩:=QV1 he;have ar:=hg;obtain⟨g1,g2,g3,g4,g5⟩:=hg;have ekz:g.k*g.size=((g.k.toNat*g.size.toNat:Nat):Int):=by rw[Int.natCast_mul,Int.toNat_of_nonneg (by omega),Int.toNat_of_nonneg (by omega)]
 have bkz:g.k.toNat*g.size.toNat<=32*4096:=Nat.mul_le_mul (by omega) (by omega);refine⟨_,V.row.cell (n:=0) rfl,_,V.c rfl,?_⟩;rw[w64 (n:=g.k*g.size) (by omega)];refine Q0 (fun A=> ?_) fun M=>fun au N=> ?_
 ·simp only[Zg,Zb]at A
  refine bad _ (fun q=>A (by have:=q.2;omega)) ?_;rw[he];rfl
 simp only[Zf,Za]at M;have q:Qfh (some (at0 a)) (some (at0 kf)) g i e bs:=⟨he,by omega⟩;have ac:=U.trans N.ext;have d:RowW au o (gC g):=N.ext.rowW V id;refine⟨_,d.row.cell (n:=0) rfl,_,d.c rfl,_,d.row.cell (n:=0) rfl,_,d.c rfl,_,d.c rfl,_,d.c rfl,_,d.c rfl,_,d.c rfl,(Qpc ar (hb.ext ac) M ao).mono ?_⟩;rintro Z ad ⟨pp,cp,rfl,ae,hL⟩;have W:RowW ad o (gC g):=ae.rowW d id;have af:=ac.trans ae;refine⟨_,_,_,rfl,⟨_,W.row.cell (n:=0) rfl,rfl⟩,⟨_,W.c rfl,rfl⟩,?_⟩;have X:((QD0 bs g.k.toNat g.size.toNat).getD 0 []).length=g.size.toNat:=Qs1 (by omega) (by omega);have ah:=QZ5 (c:=cp) (m:=g.m.toNat) hL (fun j hj=>by rw[X,Qs1 (by omega) hj]) (by omega) (by omega) (by omega);rw[show((g.k.toNat:Nat):Int)=g.k by omega,show((g.m.toNat:Nat):Int)=g.m by omega]at ah;refine ah.mono ?_;rintro Z E ⟨gr,cr,rfl,ai,av,u⟩;have u:Qg E ad.heap.size (at0 gr) (g.k.toNat+g.m.toNat) (QP0 g bs):=u;have aj:=af.trans ai;have aw:RowW E o (gC g):=ai.rowW W id;have hG:∀x,G x->x<w.heap.size:=Q20.lt h;have k11G:¬G o:=fun hh=>by have:=hG _ hh;have:=S.size;omega
 have C:swN s g i e bs=putN s g i e (QP0 g bs) (g.k.toNat+g.m.toNat):=rfl;refine⟨_,_,_,_,rfl,⟨0,G,rfl,Nat.zero_le _,rfl,Qp.refl _ _,rfl,Q20.ext h aj⟩,?_⟩;rintro jI I ⟨n,G',rfl,hn,_,J,ak,hA⟩
 intros
 have st:=(Qp.ext (F:=G) aj).trans J;have ax:RowW I o (gC g):=J.upd.rowW aw k11G;have D:=Qr.updS u J.upd (fun x hx=>by have:=hG x hx;have:=af.size;omega) av;refine Q0 (fun K=>fun ay y=> ?_) (fun K=> ?_)
 ·simp only[Za]at K
  have B:RowW ay o (gC g):=y.ext.rowW ax id;obtain⟨P,hP,_⟩:=(D.ext y.ext).own;obtain⟨Y,az⟩:=hP n (by omega)
  refine⟨_,B.row.cell (n:=0) rfl,_,B.c rfl,_,B.c rfl,_,B.c rfl,_,B.c rfl,_,B.c rfl,⟨by omega,K⟩,_,_,_,by rw[Ze,Nat.mul_one];exact Y,
   (QUa (Q20.ext hA y.ext) (ho.putN g i e _ n) g i e n (Q2.bytes az)).mono ?_⟩
  rintro Z bb ⟨G2,rfl,a0,hA2⟩;have al:=(Qp.ext (F:=G') y.ext).trans a0;have a1:=st.trans al;have f:=Qn7 ak;refine⟨_,rfl,Q0 (fun L=> ?_) fun L=> ?_⟩
  ·simp only[Za]at L
   have O:(putN s g i e (QP0 g bs) (n+1)).2=true:=by rw[f];exact decide_eq_true L
   have Q:swN s g i e bs=putN s g i e (QP0 g bs) (n+1):=by
    rw[C,show g.k.toNat+g.m.toNat=n+1+(g.k.toNat+g.m.toNat-(n+1)) by omega,QC5 O]
   refine⟨G2,?_,a1,?_⟩
   ·unfold swZ;rw[if_pos q,Q,O,if_pos rfl,L]
   ·unfold swS;rw[if_pos q,Q,f];exact hA2
  ·simp only[Zb]at L
   rw[w64 (n:=(n:Int)+1) (by omega)];exact⟨⟨n+1,G2,by omega,by omega,rfl,J.trans al,by rw[f];exact decide_eq_false L,by rw[f];exact hA2⟩,by show(((g.k.toNat+g.m.toNat:Nat):Int)-((n:Int)+1)).toNat<(((g.k.toNat+g.m.toNat:Nat):Int)-n).toNat;omega⟩
 ·simp only[Zb]at K
  obtain rfl:n=g.k.toNat+g.m.toNat:=by omega
  refine⟨G',?_,st,?_⟩
  ·unfold swZ;rw[if_pos q,C,ak,if_neg (by simp)]
  ·unfold swS;rw[if_pos q,C];exact hA
open Go Go.Vc Go.Gf
open Go.IntKind (i64)
open Go.Value (int)
open Go.Proofs.Tryz (prog)
theorem Q6h{w:World}{r:Nat}{s:StA}{G:Nat->Prop}(h:IsR w r s G){d:Int}(g:0<=d)(n:Int):
  Calls prog 85 #[.pointer (some (at0 r)),int i64 d,int i64 n] w fun e w'=>Ext w w'/\∃p l c,e= .returned (.tuple #[.slice p l c,int i64 (rdZ s d.toNat n)])/\Q2 w' w.heap.size p l c (rdB s d.toNat n)/\l<=4108:=by
 obtain⟨i,rfl⟩:=Int.eq_ofNat_of_zero_le g;obtain⟨M,left,down⟩:=s;rw[Ze];cases down with
 |true=>
  refine(Qo7 h (i:Int) n).mono ?_;rintro e w' ⟨rfl,rfl⟩;exact⟨Upd.refl _ _,none,0,0,rfl,Q5.nil _ _ _ _,by omega⟩
 |false=>
  cases a:M[i]? with
  |none=>
   have hi:M.length<=i:=List.getElem?_eq_none_iff.1 a;refine(Qp7 h (by rw[QB0];intro j;have k:(i:Int)<(M.length:Int):=j.2;omega) n).mono ?_;rintro e w' ⟨rfl,rfl⟩;refine⟨Upd.refl _ _,none,0,0,by simp[rdZ,a],?_,by omega⟩;have:rdB ⟨M,left,false⟩ i n=[]:=by simp[rdB,a]
   rw[this];exact Q5.nil _ _ _ _
  |some m=>
   refine(Q7b h rfl a n).mono ?_;rintro e w' ⟨x,p,l,c,rfl,f,ob⟩;refine⟨x,p,l,c,by simp[rdZ,a],?_,f⟩;have:rdB ⟨M,left,false⟩ i n=QQj n m:=by simp[rdB,a,QQj]
   rw[this];exact ob
def RwS(w:World)(rows:List Value)(L:List (τ)):Prop:=rows.length=L.length/\∀(i:Nat)(d:τ),L[i]? =some d->∃(q:σ)(n c:Nat),rows[i]? =some (Value.slice q n c)/\Q1 w q n d/\(∀g cs e fz,q=some g->d≠ []->w.heap[g.block]? =some (.cells cs e fz)->e=5)/\n<=c
theorem RwS.nil(w:World):RwS w [] []:=⟨rfl,fun i s h=>by simp at h⟩
theorem RwS.ext{w w':World}{rows:List Value}{L:List (τ)}(h:RwS w rows L)(k:Ext w w'):RwS w' rows L:=by
 refine⟨h.1,fun i d hi=> ?_⟩;obtain⟨q,n,c,o,l,p,r⟩:=h.2 i d hi;refine⟨q,n,c,o,l.ext k,fun g cs e fz m f s=>p g cs e fz m f ?_,r⟩;subst m;obtain⟨a,ha,j⟩:=l.lt f;cases ha;rw[←k.block _ j id];exact s
theorem RwS.keep{w w':World}{rows:List Value}{L:List (τ)}(h:RwS w rows L){base:Nat}{r:TypeId}{sz:Nat}{p:σ}{n c:Nat}{xs:List Value}(own:Q5 w base r sz p n c xs)(x:r≠5)(s:Upd (fun b=>p=some (at0 b)) w w'):RwS w' rows L:=by
 refine⟨h.1,fun i d hi=> ?_⟩;obtain⟨q,n,c,y,t,u,z⟩:=h.2 i d hi;have k:∀g,q=some g->d≠ []->¬(p=some (at0 g.block)):=fun g j f l=>by
  rcases own.where_ with⟨m,_⟩|⟨b,m,_,_,_,cur,v,_⟩
  ·rw[m]at l;cases l
  ·rw[m]at l
   simp only[Zi,at0,Zv,and_true]at l;rw[l]at v;exact x (u g _ _ _ j f v)
 refine⟨q,n,c,y,t.upd s fun g j f=>k g j f,fun g cs e fz j f A=>u g cs e fz j f ?_,z⟩;subst j;obtain⟨a,ha,o⟩:=t.lt f;cases ha;rw[←s.block _ o (k _ rfl f)];exact A
theorem RwS.snoc{w:World}{rows:List Value}{L:List (τ)}(h:RwS w rows L){d:τ}{q:σ}{n c:Nat}(hb:Q1 w q n d)(ht:∀g cs e fz,q=some g->d≠ []->w.heap[g.block]? =some (.cells cs e fz)->e=5)(k:n<=c):
  RwS w (rows++ [.slice q n c]) (L++ [d]):=by
 have j:=h.1;refine⟨by simp[j],fun i l hi=> ?_⟩
 by_cases a:i<L.length
 ·rw[Zl a]at hi
  obtain⟨q,n,c,m,o⟩:=h.2 i l hi;exact⟨q,n,c,by rw[Zl (by omega)];exact m,o⟩
 ·rw[Zm (by omega)]at hi
  have f:i=L.length:=by
   have:=(Zd.1 hi).1;simp at this;omega
  subst f;rw[Nat.sub_self]at hi;cases hi;exact⟨q,n,c,by rw[Zm (by omega),j,Nat.sub_self];rfl,hb,ht,k⟩
theorem Qjg{w:World}{base:Nat}{f:TypeId}{sz:Nat}{p:σ}{n c:Nat}{xs:List Value}(own:Q5 w base f sz p n c xs):∀g cs e fz,p=some g->w.heap[g.block]? =some (.cells cs e fz)->e=f:=by
 intro g cs e fz a i;rcases own.where_ with⟨d,_⟩|⟨b,d,_,_,_,cur,h,_⟩
 ·rw[d]at a;cases a
 ·rw[d]at a
  cases a;have j:w.heap[b]? =some (.cells cs e fz):=i;rw[j]at h;cases h
  rfl
theorem RwS.lists{w:World}{base:Nat}{p:σ}{n c:Nat}{rows:List Value}{L:List (τ)}(h:RwS w rows L)(own:Q5 w base 25 1 p n c rows):Qr w p n L:=by
 have e:n=rows.length:=by have:=Q5.length own;omega
 refine⟨by rw[e];exact h.1,fun i hi=> ?_⟩;obtain⟨q,m,cc,f,g,_,j⟩:=h.2 i (L.getD i []) (by rw[Zj,Zc (by rw[←h.1];omega)];rfl);obtain⟨a,ha,d⟩:=Q5.cells own i _ f;exact⟨a,q,m,cc,ha,d,g,j⟩
open Go Go.Vc Go.Gf
open Go.IntKind (i64)
open Go.Value (int)
open Go.Proofs.Tryz (prog)
theorem QRc{P:Program}{t e:TypeId}{bytes:Nat}(E:Qz1 P t e 1 bytes)(a:bytes<=64){w0 w:World}(q:Ext w0 w){p:σ}{n c:Nat}{xs:List Value}(h:Q5 w w0.heap.size e 1 p n c xs){k:Nat}{v:Value}{w1:World}
  (j:QG w k (.cells #[v] e) w1) (l:v.oneCell'=true) (m:n<=100000):
  ∃f g w',Sem.run P (Builtin.append_ #[t,t] t #[.slice p n c, .slice (some (at0 k)) 1 1]) w1= .ok (.slice f (n+1) g) w'/\Q5 w' w0.heap.size e 1 f (n+1) g (xs++ [v])/\Ext w0 w'/\Upd (fun b=>p=some (at0 b)) w1 w':=by
 obtain⟨f,g,w',o,r,i⟩:=Qg4 E a q h j l m;obtain⟨u,c2,x,d,_,s,_⟩:=QX2 E a (Q5.base_le h (Nat.zero_le _)) j l m;rw[o]at d;cases d;exact⟨f,g,w',o,r,i,s⟩
theorem Ql9{w0 w:World}(f:Ext w0 w){ph ps:σ}{lh ch ls cs:Nat}{fl:List Bool}{rows:List Value}{L:List (τ)}(B:QX3 w w0.heap.size ph lh ch fl)(hs:Q5 w w0.heap.size 25 1 ps ls cs rows)(K:RwS w rows L)
  (C:lh<=100) (D:ls<=100) {q:σ} {m c:Nat} {d:τ} (hb:Q1 w q m d) (ht:∀g cs e fz,q=some g->d≠ []->w.heap[g.block]? =some (.cells cs e fz)->e=5) (u:m<=c) (b:Bool) {k:Nat} {w':World}
  (t:QG w k (.cells #[.bool b] 4) w') {Z:σ->Nat->Nat->σ->Nat->Nat->ψ}
  (M:∀j c1 l c2 h,Ext w0 h->QX3 h w0.heap.size j (lh+1) c1 (fl++ [b])->Q5 h w0.heap.size 25 1 l (ls+1) c2 (rows++ [.slice q m c])->RwS h (rows++ [.slice q m c]) (L++ [d])->Z j (lh+1) c1 l (ls+1) c2 h):
  ∃(j:σ)(E c1:Nat),∃w1:World,Sem.run prog (Builtin.append_ #[116,116] 116 #[.slice ph lh ch, .slice (some (at0 k)) 1 1]) w'= .ok (.slice j E c1) w1∧
   ∀(v:Nat)(h:World),QG w1 v (.cells #[.slice q m c] 25) h->∃(l:σ)(F c2:Nat),∃o:World,Sem.run prog (Builtin.append_ #[79,79] 79 #[.slice ps ls cs, .slice (some (at0 v)) 1 1]) h= .ok (.slice l F c2) o/\Z j E c1 l F c2 o:=by
 obtain⟨j,c1,w1,N,O,P,G⟩:=QRc Qqk (by omega) f B t rfl (by omega);refine⟨j,lh+1,c1,w1,N,fun v h i=> ?_⟩;have p:Q5 w' w0.heap.size 4 1 ph lh ch (Qf8 fl):=Q5.ext B t.ext;have ty:∀x,ph=some (at0 x)->∃(cs:Array Value)(I:TypeId)(fz:Nat×Nat),w'.heap[x]? =some (Obj.cells cs I fz)/\I=4:=fun x f=>by
  rcases p.where_ with⟨n,_⟩|⟨b,n,_,_,_,cur,y,_⟩
  ·rw[n]at f;cases f
  ·rw[n]at f
   cases f;exact⟨_,_,_,y,rfl⟩
 have r:Q5 w1 w0.heap.size 25 1 ps ls cs rows:=Q5.other (hs.ext t.ext) G fun x f=>by
  obtain⟨a,b,c,C,D⟩:=ty x f;exact⟨a,b,c,C,by rw[D];decide⟩
 have z:RwS w (rows++ [.slice q m c]) (L++ [d]):=K.snoc hb ht u;have A:=(z.ext t.ext).keep p (by decide) G;obtain⟨l,c2,o,Q,R,S,J⟩:=QRc Qwh (by omega) P r i rfl (by omega);have s:=Q5.ext r i.ext;refine⟨l,ls+1,c2,o,Q,M _ _ _ _ _ S ?_ R ((A.ext i.ext).keep s (by decide) J)⟩;show Q5 o w0.heap.size 4 1 j (lh+1) c1 (Qf8 (fl++ [b]))
 rw[show Qf8 (fl++ [b])=Qf8 fl++ [.bool b] by simp[Qf8]];refine Q5.other (Q5.ext O i.ext) J fun x f=> ?_;rcases s.where_ with⟨n,_⟩|⟨b,n,_,_,_,cur,y,_⟩
 ·rw[n]at f;cases f
 ·rw[n]at f
  cases f;exact⟨_,_,_,y,by decide⟩
open Go Go.Vc Go.Gf
open Go.IntKind (i64)
open Go.Value (int)
open Go.Proofs.Tryz (prog)
def Q0k(s:StA)(g:Geo)(i e:Int)(w:World)(v:Value)(w':World):Prop:=Ext w w'∧
 ((s.down=true/\v= .tuple #[.slice none 0 0, .slice none 0 0,int i64 130])∨
  (s.down=false/\¬QU0 s g i e/\v= .tuple #[.slice none 0 0, .slice none 0 0,int i64 150])∨
  (s.down=false/\QU0 s g i e/\∃ko p2 n2 c2,v= .tuple #[.slice (some (at0 ko)) (nG g) (nG g), .slice p2 n2 c2,int i64 0]/\w.heap.size<=ko/\Qg w' w.heap.size (at0 ko) (nG g) (Q91 s g i e)/\QI w' w.heap.size p2 n2 c2 (Qtd s g i e)))
noncomputable def wrL(s:StA)(g:Geo)(i e:Int):List Nat:=(List.range (nG g)).filter (QN4 g.k.toNat g.m.toNat (nG g) (hsL s g i e) (shL s g i) g.size.toNat)
set_option maxRecDepth 20000 in
theorem QRa{w:World}{r:Nat}{s:StA}{G:Nat->Prop}(h:IsR w r s G)(ho:OkA s){g:Geo}{i e:Int}(hg:QA g)(hi:0<=i/\i<g.stripes):
  Calls prog 83 #[.pointer (some (at0 r)),gV g,int i64 i,int i64 e] w fun e' w'=>∃v,e'= .returned v/\Q0k s g i e w v w':=by
 have cu:=hg;obtain⟨g1,g2,g3,g4,g5⟩:=hg;have hn:(nG g:Int)=g.k+g.m:=by unfold nG;omega
 refine F83_calls (some (at0 r)) g.k g.m g.size g.stripes g.slots g.objects i e w (Q0k s g i e w)
  (fun _ _ a am K a8 a9 U bp ao C=>∃t:Nat,ao=t/\t<=nG g/\(s.down=true->t=0)/\Ext a C/\K=t/\U=t/\QX3 C a.heap.size am K a8 ((List.range t).map (QD1 s g i e))/\∃rows,Q5 C a.heap.size 25 1 a9 U bp rows/\RwS C rows ((List.range t).map (shS s g i)))
  (fun _ _ _ _ _ _ _ _ _ ao _=>(nG g-ao).toNat)
  (fun _ _ _ _ _ _ _ _ _ _ _ _ _ q bq br bs A P=>∃t:Nat,A=t/\t<=nG g/\Ext q P/\QI P q.heap.size bq br bs ((List.range t).filter (Qi3 s g i e)))
  (fun _ _ _ _ _ _ _ _ _ _ _ _ _ _ _ _ _ A _=>(nG g-A).toNat)
  (fun _ _ _ _ _ _ _ _ X _ _ _ _ _ _ _ A P bt Y bu=>bu=P/\∃u:Nat,Y=u/\u<=X/\bt=(!QD1 s g i e A.toNat||decide (A.toNat∈(wrL s g i e).take u)))
  (fun _ _ _ _ _ _ _ _ X _ _ _ _ _ _ _ _ _ _ Y _=>(X-Y).toNat) ?_
 intro L bv bw;have N:RowW bv L (gC g):=⟨_,bw.at⟩;refine⟨_,N.row.cell (n:=0) rfl,_,N.c rfl,_,N.c rfl,_,N.c rfl,_,N.c rfl,_,N.c rfl,(Q86 g i bv).mono ?_⟩;rintro e' a ⟨rfl,bx⟩;have bz:RowW a L (gC g):=bx.rowW N id;have cw:=bw.ext.trans bx;refine⟨_,rfl,⟨0,rfl,Nat.zero_le _,fun _=>rfl,Upd.refl _ _,rfl,rfl,Q5.nil _ _ _ _,[],Q5.nil _ _ _ _,RwS.nil _⟩,?_⟩;rintro am K a8 a9 U bp ao C ⟨t,rfl,ht,cx,ba,cy,cz,hF,rows,hS,hR⟩
 intros
 have o:RowW C L (gC g):=ba.rowW bz id;have aq:=cw.trans ba;refine⟨_,o.row.cell (n:=0) rfl,_,o.c rfl,?_⟩;rw[w64 (n:=g.k+g.m) (by omega)];refine Q0 (fun bb=> ?_) (fun bc=> ?_)
 ·simp only[Za]at bb
  have ar:t<nG g:=by omega
  refine⟨_,o.row.cell (n:=0) rfl,_,o.c rfl,_,o.c rfl,_,o.c rfl,_,o.c rfl,_,o.c rfl,(QG5 g i t C).mono ?_⟩;rintro e' d8 ⟨rfl,Z⟩;have b0:=aq.trans Z;refine⟨_,rfl,(Q6h (Q20.ext h b0) (Qc2 g i t) (atZ g i)).mono ?_⟩;rintro e' dz ⟨D,p,l,c,rfl,ob,d9⟩;have b1:=b0.trans D;refine⟨_,_,_,_,rfl,Q0 (fun B=> ?_) fun B=>(QBa (atZ g i) (Q2.bytes ob) (by omega) (Q2.le ob)).mono ?_⟩
  ·simp only[Za]at B
   rw[B];exact⟨b1, .inl ⟨(Qb9 _ _ _).1 B,rfl⟩⟩
  rintro e' aa ⟨E,n,d,p',c',z,rfl,hb,b2,au,V⟩;simp only[Zb]at B;have ab:s.down=false:=QZc B;have F:=(ba.trans (Z.trans D)).trans E;have Q:QX3 aa a.heap.size am K a8 ((List.range t).map (QD1 s g i e)):=Q5.ext hF ((Z.trans D).trans E);have R:=Q5.ext hS ((Z.trans D).trans E);have T:=hR.ext ((Z.trans D).trans E);have b3:RowW aa L (gC g):=F.rowW bz id;have av:∀g1 cs e1 fz,p'=some g1->d≠ []->aa.heap[g1.block]? =some (.cells cs e1 fz)->e1=5:=fun g1 cs e1 fz hp _ hc=>by
   obtain⟨g0,c6,c7⟩:=b2 g1 hp;rw[c7]at hc;exact Qjg (Q2.ext ob E) g0 cs e1 fz c6 hc
  have c8:rdZ s (Qc0 g i t).toNat (atZ g i)≠0->rdB s (Qc0 g i t).toNat (atZ g i)=[]:=fun ac=>by
   unfold rdZ at ac;unfold rdB;rw[ab]at ac⊢;simp only[Bool.false_eq_true,if_false]at ac⊢
   split at ac
   ·rw[if_neg ac]
   ·rfl
  have b4:rdZ s (Qc0 g i t).toNat (atZ g i)=0->unS s g i t=Q10 (atZ g i) (rdB s (Qc0 g i t).toNat (atZ g i)):=fun I=>by unfold unS;rw[if_pos I]
  have f:rdZ s (Qc0 g i t).toNat (atZ g i)≠0->unS s g i t=none:=fun I=>by unfold unS;rw[if_neg I]
  have hd:d=shS s g i t:=by
   unfold shS
   by_cases I:rdZ s (Qc0 g i t).toNat (atZ g i)=0
   ·rw[b4 I]
    cases hu:Q10 (atZ g i) (rdB s (Qc0 g i t).toNat (atZ g i))with
    |none=>rw[hu]at V;exact V.2.2
    |some nd=>rw[hu]at V;exact V.2.2
   ·rw[f I]
    rw[c8 I]at V;exact V.2.2
  have da:QD1 s g i e t=(decide (rdZ s (Qc0 g i t).toNat (atZ g i)=0)&&(decide (z=0)&&(decide (n=e)&&decide ((d.length:Int)=g.size)))):=by
   unfold QD1
   by_cases I:rdZ s (Qc0 g i t).toNat (atZ g i)=0
   ·rw[b4 I,decide_eq_true I,Bool.true_and]
    cases hu:Q10 (atZ g i) (rdB s (Qc0 g i t).toNat (atZ g i))with
    |none=>rw[hu]at V;rw[V.1];rfl
    |some nd=>
     obtain⟨n',d'⟩:=nd;rw[hu]at V;obtain⟨rfl,rfl,rfl⟩:=V;simp
   ·rw[f I,decide_eq_false I,Bool.false_and]
  have fin:∀b,b=QD1 s g i e t->∀(p1:σ)(c1:Nat)(p2:σ)(c2:Nat)(w2:World),Ext a w2->QX3 w2 a.heap.size p1 (K+1) c1 ((List.range t).map (QD1 s g i e)++ [b])->Q5 w2 a.heap.size 25 1 p2 (U+1) c2 (rows++ [.slice p' d.length c'])→
    RwS w2 (rows++ [.slice p' d.length c']) ((List.range t).map (shS s g i)++ [d])→
    (∃t':Nat,i64.wrap ((t:Int)+1)=t'/\t'<=nG g/\(s.down=true->t'=0)/\Ext a w2/\K+1=t'/\U+1=t'/\QX3 w2 a.heap.size p1 (K+1) c1 ((List.range t').map (QD1 s g i e))/\∃rows,Q5 w2 a.heap.size 25 1 p2 (U+1) c2 rows/\RwS w2 rows ((List.range t').map (shS s g i)))∧
     ((nG g:Int)-i64.wrap ((t:Int)+1)).toNat<((nG g:Int)-(t:Int)).toNat:=by
   rintro b rfl p1 c1 p2 c2 w2 x2 f2 s2 q2;rw[w64 (n:=(t:Int)+1) (by omega)];exact⟨⟨t+1,by omega,by omega,fun hh=>(by rw[ab]at hh;cases hh),x2,by omega,by omega,by rw[List.range_succ,Zp];exact f2,_,s2,by rw[List.range_succ,Zp,List.map_singleton,←hd];exact q2⟩,by omega⟩
  refine⟨_,_,_,_,_,rfl,Q0 (fun I=>Q0 (fun h1=>Q0 (fun h2=>⟨_,b3.c rfl,fun k w' hk=>Ql9 F Q R T (by omega) (by omega) hb av au _ hk (fin _ ?_)⟩) fun h2=>fun k w' hk=>Ql9 F Q R T (by omega) (by omega) hb av au _ hk (fin _ ?_)) fun h1=>fun k w' hk=>Ql9 F Q R T (by omega) (by omega) hb av au _ hk (fin _ ?_)) fun I=>fun k w' hk=>Ql9 F Q R T (by omega) (by omega) hb av au _ hk (fin _ ?_)⟩
  all_goals simp only[Za,Zb]at I;rw[da]
  ·simp[I,h1,h2]
  ·simp only[Zb]at h2;simp[h2]
  ·simp only[Zb]at h1;simp[h1]
  ·simp[I]
 ·simp only[Zb]at bc
  obtain rfl:t=nG g:=by omega
  subst cy cz;have ab:s.down=false:=by
   cases hd:s.down
   ·rfl
   ·have:=cx hd;omega
  have b5:QX C am (nG g) (hsL s g i e):=QX3.flags hF;have dc:Qr C a9 (nG g) (shL s g i):=hR.lists hS;refine⟨_,o.row.cell (n:=0) rfl,_,o.c rfl,(QAa b5 dc g.k g.m ?_).mono ?_⟩
  ·intro x O
   obtain⟨j,_,rfl⟩:=List.mem_map.1 O;have:=QMg s g i j;omega
  rintro e' az ⟨v,rfl,af,hv⟩;have ah:=aq.trans af;have bg:=QFa (s:=s) (i:=i) (e:=e) cu;have a0:¬QU0 s g i e->Q0k s g i e w (.tuple #[.slice none 0 0, .slice none 0 0,int i64 150]) az:=fun f=>⟨ah, .inr (.inl ⟨ab,f,rfl⟩)⟩;rcases hv with⟨f,_⟩|⟨_,f,rfl⟩|⟨_,S,b6,⟨⟨x,O,de⟩,rfl⟩|⟨cs,eh,b7,ko,p2,n2,c2,W,rfl,df,a1,hW,dg,dh⟩⟩
  ·exact(f ⟨by omega,by omega,by omega,by omega⟩).elim
  ·exact⟨_,_,_,_,_,_,_,rfl,Q0 (fun _=>a0 fun ai=>f _ ((bg _).2 ⟨ai.1,rfl⟩)) fun h=>by simp at h⟩
  ·exact⟨_,_,_,_,_,_,_,rfl,Q0 (fun _=>a0 fun ai=>ai.2 x (by have:=((bg _).1 b6).2;omega) de) fun h=>by simp at h⟩
  obtain⟨b8,di⟩:=(bg _).1 b6;subst di;have ai:QU0 s g i e:=⟨b8,fun x O=>by rw[b7 x O];simp⟩;have aj:∀x,x<g.size.toNat->Q78 g.k.toNat g.m.toNat (nG g) (hsL s g i e) (shL s g i) x=cs.getD x []:=fun x O=>by unfold Q78;rw[b7 x O];rfl
  have bh:(fun y=>cs.map fun c=>co c y)=Q91 s g i e:=by
   funext y
   apply List.ext_getElem?;intro x;unfold Q91 Qw9
   by_cases O:x<g.size.toNat
   ·have b9:x<cs.length:=by omega
    simp only[Zq,List.getElem?_range O,Option.map_some,Zc b9];rw[aj x O,Zj,Zc b9];rfl
   ·rw[Zr (by simp;omega),Zr (by simp;omega)]
  have ca:∀y,y∈W↔y∈wrL s g i e:=fun y=>by
   unfold wrL;rw[dh,List.mem_filter,Qr6,List.mem_range];constructor
   ·rintro⟨x,O,hy⟩
    have cb:=hy;simp only[dif,List.mem_filter,List.mem_range]at cb;exact⟨cb.1,x,O,by unfold Qm4;rw[aj x O];exact hy⟩
   ·rintro⟨_,x,O,hy⟩
    refine⟨x,O,?_⟩;unfold Qm4 at hy;rw[aj x O]at hy;exact hy
  rw[bh]at a1;obtain rfl:W=wrL s g i e:=QS3 dg (List.Pairwise.filter _ List.pairwise_lt_range) ca;have cc:RowW az L (gC g):=af.rowW o id;refine⟨_,_,_,_,_,_,_,rfl,Q0 (fun h=>by simp at h) fun _=>(Qsg (Q20.ext h ah) (by rw[QB0];have:=ho.1;omega)).mono ?_⟩;rintro e' q ⟨pl,ll,cl,rfl,J,ei,dj⟩;have a3:=ah.trans J;have cf:RowW q L (gC g):=J.rowW cc id;have dk:n2=(wrL s g i e).length:=QI.len hW;have ej:n2<=nG g:=by rw[dk];unfold wrL;exact Zu (List.length_filter_le _ _) (by rw[List.length_range];exact Nat.le_refl _)
  have ek:(QG3 s).length=s.M.length:=QB0 s;refine⟨_,_,_,rfl,⟨0,rfl,Nat.zero_le _,Upd.refl _ _,Q5.nil _ _ _ _⟩,?_⟩;rintro p5 n5 c5 j5 w5 ⟨t,rfl,em,x5,ax⟩
  intros
  have r5:RowW w5 L (gC g):=x5.rowW cf id;refine⟨_,r5.row.cell (n:=0) rfl,_,r5.c rfl,?_⟩;rw[w64 (n:=g.k+g.m) (by omega),w64 (n:=(t:Int)+1) (by omega)];refine Q0 (fun bb=> ?_) (fun bc=> ?_)
  ·simp only[Za]at bb
   have ar:t<nG g:=by omega
   obtain⟨a23,cg,a6⟩:=b5.get ar;subst cg;rw[QQ5 ar]at a6;refine⟨⟨by omega,by omega⟩,_,by rw[Ze,Nat.mul_one];exact QM0 a6 (af.trans (J.trans x5)),⟨rfl,0,rfl,Nat.zero_le _,by simp⟩,?_⟩;rintro b u' w6 ⟨rfl,u,rfl,hu,hb⟩
   intros
   simp only[Ze]at hb⊢;refine Q0 (fun dl=> ?_) (fun dm=> ?_)
   ·simp only[Za]at dl
    have dn:u<(wrL s g i e).length:=by omega
    rw[w64 (n:=(u:Int)+1) (by omega)];have ch:(wrL s g i e).take (u+1)=(wrL s g i e).take u++ [(wrL s g i e).getD u 0]:=by
     rw[Zn,Zj,Zc dn];rfl
    refine Q0 (fun bi=>⟨⟨trivial,u+1,by omega,by omega,?_⟩,by omega⟩) (fun bj=>⟨⟨by omega,by omega⟩,?_⟩)
    ·rw[bi]at hb
     rw[ch];rcases(Bool.or_eq_true _ _).mp hb.symm with h1|h1
     ·rw[h1];rfl
     ·simp only[Za]at h1
      rw[decide_eq_true (List.mem_append_left _ h1),Bool.or_true]
    ·rw[bj]at hb
     obtain⟨h1,h2⟩:=(Bool.or_eq_false_iff).mp hb.symm;simp only[Zb]at h2;obtain⟨a2,dq,ds⟩:=(QI.nats hW).get (i:=u) (by omega);subst dq;refine⟨_,by rw[Nat.mul_one];exact QM0 ds (J.trans x5),⟨trivial,u+1,by omega,by omega,?_⟩,by omega⟩;rw[ch,h1,Bool.false_or,Bool.eq_iff_iff,Za,Za,List.mem_append,List.mem_singleton];constructor
     ·intro h;exact .inr (by omega)
     ·rintro(h|h)
      ·exact(h2 h).elim
      ·omega
   ·simp only[Zb]at dm
    rw[Zh (by omega)]at hb;have ci:decide (t∈wrL s g i e)=QN4 g.k.toNat g.m.toNat (nG g) (hsL s g i e) (shL s g i) g.size.toNat t:=by
     rw[Bool.eq_iff_iff,Za];unfold wrL;rw[List.mem_filter,List.mem_range];exact⟨fun h=>h.2,fun h=>⟨ar,h⟩⟩
    rw[ci]at hb;have ak:(List.range (t+1)).filter (Qi3 s g i e)=(List.range t).filter (Qi3 s g i e)++if Qi3 s g i e t=true then [t]else []:=Qi _ _
    refine⟨_,r5.row.cell (n:=0) rfl,_,r5.c rfl,_,r5.c rfl,_,r5.c rfl,_,r5.c rfl,_,r5.c rfl,(QG5 g i t w6).mono ?_⟩;rintro e' w7 ⟨rfl,x7⟩;have ep:=Qc2 g i t;have f:Qi3 s g i e t=false->∀w8,Ext w7 w8->(∃t':Nat,(t:Int)+1=t'/\t'<=nG g/\Ext q w8/\QI w8 q.heap.size p5 n5 c5 ((List.range t').filter (Qi3 s g i e)))/\((nG g:Int)-((t:Int)+1)).toNat<((nG g:Int)-(t:Int)).toNat:=by
     intro hf w8 x8;refine⟨⟨t+1,by omega,by omega,x5.trans (x7.trans x8),?_⟩,by omega⟩;rw[ak,hf,if_neg (by simp),List.append_nil];exact Q5.ext ax (x7.trans x8)
    refine⟨_,rfl,Q0 (fun bi=>Q0 (fun hl=> ?_) fun hl=> ?_) fun bj=> ?_⟩
    ·simp only[Za]at hl
     obtain⟨m,V⟩:∃m,s.M[(Qc0 g i t).toNat]? =some m:=⟨s.M[(Qc0 g i t).toNat]'(by omega),Zc _⟩;have a7:Q87 s g i t= !m.d.dead:=by unfold Q87;rw[V]
     obtain⟨al,dt,cm⟩:=Q5.cells dj (Qc0 g i t).toNat (.bool (!m.d.dead)) (by rw[Zq,Qp3 V];rfl);subst dt;refine⟨⟨by omega,hl⟩,_,by rw[Nat.mul_one];exact QM0 cm (x5.trans x7),?_⟩;refine Q0 (fun bk=> ?_) fun bk=>f ?_ _ (Upd.refl _ _)
     ·intro k8 w8 h8
      have du:Qi3 s g i e t=true:=by unfold Qi3;rw[a7,bk,←hb,bi];rfl
      obtain⟨p',c',w9,hr,cn,x9⟩:=Qg4 QK8 (by omega) (x5.trans x7) (Q5.ext ax x7) h8 rfl (by have:=QI.len ax;have h3:((List.range t).filter (Qi3 s g i e)).length<=t:=Zu (List.length_filter_le _ _) (by rw[List.length_range];exact Nat.le_refl _);omega);refine⟨_,_,_,_,hr,⟨t+1,by omega,by omega,x9,?_⟩,by omega⟩;rw[ak,du,if_pos rfl];have:QI1 ((List.range t).filter (Qi3 s g i e))++ [int i64 (t:Int)]=QI1 ((List.range t).filter (Qi3 s g i e)++ [t]):=by simp[QI1]
      rw[this]at cn;exact cn
     ·unfold Qi3;rw[a7,bk,Bool.false_and]
    ·simp only[Zb]at hl
     refine f ?_ _ (Upd.refl _ _);have:s.M[(Qc0 g i t).toNat]? =none:=Zr (by omega);unfold Qi3 Q87;rw[this,Bool.false_and]
    ·refine f ?_ _ (Upd.refl _ _)
     unfold Qi3;rw[←hb,bj,Bool.and_false]
  ·simp only[Zb]at bc
   obtain rfl:t=nG g:=by omega
   refine⟨a3.trans x5, .inr (.inr ⟨ab,ai,ko,p5,n5,c5,rfl,?_,?_,?_⟩)⟩
   ·exact Zu aq.size df
   ·exact(a1.base_le aq.size).ext (J.trans x5)
   ·exact Q5.base_le ax a3.size
open Go Go.Vc Go.Gf
open Go.IntKind (i64)
open Go.Value (int)
open Go.Proofs.Tryz (prog)
def QVa(pa pf:σ)(s:StA)(g:Geo)(i e:Int)(w:World)(v:Value)(w':World):Prop:=Ext w w'∧
 ((Q11 pa pf g i e≠0/\v= .tuple #[.slice none 0 0, .slice none 0 0,int i64 (Q11 pa pf g i e)])∨
  (Q11 pa pf g i e=0/\((s.down=true/\v= .tuple #[.slice none 0 0, .slice none 0 0,int i64 130])∨
  (s.down=false/\¬QU0 s g i e/\v= .tuple #[.slice none 0 0, .slice none 0 0,int i64 150])∨
  (s.down=false/\QU0 s g i e/\∃p l c p2 n2 c2,v= .tuple #[.slice p l c, .slice p2 n2 c2,int i64 0]/\Q1 w' p l (Qob s g i e)/\QI w' w.heap.size p2 n2 c2 (Qtd s g i e)))))
set_option maxRecDepth 20000 in
theorem Qqc{w:World}{r:Nat}{s:StA}{G:Nat->Prop}(h:IsR w r s G)(ho:OkA s)(g:Geo)(i e:Int)(a kf:Nat):
  Calls prog 51 #[.pointer (some (at0 r)),gV g,int i64 i,int i64 e] w fun N w'=>∃v,N= .returned v/\QVa (some (at0 a)) (some (at0 kf)) s g i e w v w':=by
 refine F51_calls (some (at0 r)) g.k g.m g.size g.stripes g.slots g.objects i e w (QVa (some (at0 a)) (some (at0 kf)) s g i e w)
  (fun _ _ _ _ _ _ _ f p l c n o=>∃t:Nat,n=t/\t<=g.k.toNat/\Ext f o/\Q2 o f.heap.size p l c (((List.range t).map (Q91 s g i e)).flatten)) (fun _ _ _ _ _ _ _ _ _ _ _ n _=>(g.k-n).toNat) ?_
 intro q A B;have r12:RowW A q (gC g):=⟨_,B.at⟩;refine⟨_,r12.row.cell (n:=0) rfl,_,r12.c rfl,_,r12.c rfl,_,r12.c rfl,_,r12.c rfl,_,r12.c rfl,(QH5 g i e A).mono ?_⟩;rintro N O ⟨hz,C⟩;obtain rfl:=hz a kf;have u:=B.ext.trans C;have r41:RowW O q (gC g):=C.rowW r12 id;refine⟨_,rfl,Q0 (fun D=> ?_) fun E=> ?_⟩
 ·simp only[Zg,Zb]at D
  exact⟨u, .inl ⟨D,rfl⟩⟩
 simp only[Zf,Za]at E;obtain⟨_,Z,F⟩:=QV1 E;have Q:=Z;obtain⟨g1,g2,g3,g4,g5⟩:=Z;have hi:0<=i/\i<g.stripes:=by
  unfold Qh3 at F;have:=of_decide_eq_true F;omega
 refine⟨_,r41.row.cell (n:=0) rfl,_,r41.c rfl,_,r41.c rfl,_,r41.c rfl,_,r41.c rfl,_,r41.c rfl,(QRa (Q20.ext h u) ho Q hi).mono ?_⟩;rintro N f ⟨v,rfl,I,hv⟩;have y:=u.trans I;rcases hv with⟨J,rfl⟩|⟨J,R,rfl⟩|⟨J,S,ko,p2,n2,c2,rfl,af,K,hW⟩
 ·exact⟨_,_,_,_,_,_,_,rfl,Q0 (fun _=>⟨y, .inr ⟨E, .inl ⟨J,rfl⟩⟩⟩) fun h=>by simp at h⟩
 ·exact⟨_,_,_,_,_,_,_,rfl,Q0 (fun _=>⟨y, .inr ⟨E, .inr (.inl ⟨J,R,rfl⟩)⟩⟩) fun h=>by simp at h⟩
 have T:RowW f q (gC g):=I.rowW r41 id;have hn:nG g=g.k.toNat+g.m.toNat:=rfl;have L:∀t,((List.range t).map (Q91 s g i e)).flatten.length=t*g.size.toNat:=fun t=>QO8 fun i _=>Qs2 _ _ _ _ _ _ _;refine⟨_,_,_,_,_,_,_,rfl,Q0 (fun h=>by simp at h) fun _=>⟨⟨0,rfl,Nat.zero_le _,Upd.refl _ _,Q5.nil _ _ _ _⟩,?_⟩⟩;rintro p l c j o ⟨t,rfl,ht,d,ob⟩
 intros
 have U:RowW o q (gC g):=d.rowW T id;refine⟨_,U.c rfl,Q0 (fun V=> ?_) fun W=> ?_⟩
 ·simp only[Za]at V
  have X:t<nG g:=by omega
  obtain⟨P,hP,_⟩:=(K.ext d).own;obtain⟨z,M⟩:=hP t X;have lrow:(Q91 s g i e t).length=g.size.toNat:=Qs2 _ _ _ _ _ _ _;have hl:=Q2.len ob;rw[L]at hl;have m1:t*g.size.toNat<=32*4096:=Nat.mul_le_mul (by omega) (by omega);have aj:=Q2.len M;obtain⟨p',c',w',hr,Y,hu⟩:=Q2.append ob (Q2.bytes M) d.size (by omega);refine⟨⟨by omega,by omega⟩,_,_,_,by rw[Ze,Nat.mul_one];exact z,_,_,_,_,hr,?_⟩;rw[w64 (n:=(t:Int)+1) (by omega)];refine⟨⟨t+1,by omega,by omega,Q2.new_ext d hu fun x hx=>Q2.blk ob hx,?_⟩,by omega⟩;rw[List.range_succ,Zp,List.flatten_append,List.map_singleton,List.flatten_singleton];exact Y
 ·simp only[Zb]at W
  obtain rfl:t=g.k.toNat:=by omega
  exact⟨y.trans d, .inr ⟨E, .inr (.inr ⟨J,S,p,l,c,p2,n2,c2,rfl,Q2.bytes ob,(Q5.base_le hW u.size).ext d⟩)⟩⟩
def QGi(pa pf:σ)(r:Nat)(s:StA)(G:Nat->Prop)(g:Geo)(i e:Int)(w:World)(v:Value)(w':World):Prop:=
 (Q11 pa pf g i e≠0/\v= .tuple #[int i64 0,int i64 (Q11 pa pf g i e)]/\Ext w w')∨
  (Q11 pa pf g i e=0/\((s.down=true/\v= .tuple #[int i64 0,int i64 130]/\Ext w w')∨
  (s.down=false/\¬QU0 s g i e/\v= .tuple #[int i64 0,int i64 150]/\Ext w w')∨
  (s.down=false/\QU0 s g i e/\∃G',v= .tuple #[int i64 (if(Qd6 s g i e).2.2 then 0 else(Qd6 s g i e).2.1),int i64 (if(Qd6 s g i e).2.2 then 130 else 0)]/\Qp G G' w w'/\IsR w' r (Qd6 s g i e).1 G')))
set_option maxRecDepth 20000 in
theorem QAe{w:World}{r:Nat}{s:StA}{G:Nat->Prop}(h:IsR w r s G)(ho:OkA s)(g:Geo)(i e:Int)(a kf:Nat):
  Calls prog 53 #[.pointer (some (at0 r)),gV g,int i64 i,int i64 e] w fun e' w'=>∃v,e'= .returned v/\QGi (some (at0 a)) (some (at0 kf)) r s G g i e w v w':=by
 refine F53_calls (some (at0 r)) g.k g.m g.size g.stripes g.slots g.objects i e w (QGi (some (at0 a)) (some (at0 kf)) r s G g i e w)
  (fun _ _ _ _ _ _ _ B n j l=>∃(t:Nat)(G':Nat->Prop),j=t/\t<=(Qtd s g i e).length/\Qp G G' B l/\(fixN s g i e (Q91 s g i e) ((Qtd s g i e).take t)).2=(n,false)/\0<=n/\n<=t/\IsR l r (fixN s g i e (Q91 s g i e) ((Qtd s g i e).take t)).1 G') (fun _ _ _ _ _ al _ _ _ j _=>(al-j).toNat) ?_
 intro o R J;have r12:RowW R o (gC g):=⟨_,J.at⟩;refine⟨_,r12.row.cell (n:=0) rfl,_,r12.c rfl,_,r12.c rfl,_,r12.c rfl,_,r12.c rfl,_,r12.c rfl,(QH5 g i e R).mono ?_⟩;rintro e' K ⟨I,S⟩;obtain rfl:=I a kf;have C:=J.ext.trans S;have r41:RowW K o (gC g):=S.rowW r12 id;refine⟨_,rfl,Q0 (fun T=> ?_) fun U=> ?_⟩
 ·simp only[Zg,Zb]at T
  exact .inl ⟨T,rfl,C⟩
 simp only[Zf,Za]at U;obtain⟨_,hg,X⟩:=QV1 U;have am:=hg;obtain⟨g1,g2,g3,g4,g5⟩:=hg;have hi:0<=i/\i<g.stripes:=by
  unfold Qh3 at X;have:=of_decide_eq_true X;omega
 refine⟨_,r41.row.cell (n:=0) rfl,_,r41.c rfl,_,r41.c rfl,_,r41.c rfl,_,r41.c rfl,_,r41.c rfl,(QRa (Q20.ext h C) ho am hi).mono ?_⟩;rintro e' B ⟨v,rfl,Y,hv⟩;have D:=C.trans Y;rcases hv with⟨Z,rfl⟩|⟨Z,ao,rfl⟩|⟨Z,aq,ko,p2,n2,c2,rfl,ar,aa,hW⟩
 ·exact⟨_,_,_,_,_,_,_,rfl,Q0 (fun _=> .inr ⟨U, .inl ⟨Z,rfl,D⟩⟩) fun h=>by simp at h⟩
 ·exact⟨_,_,_,_,_,_,_,rfl,Q0 (fun _=> .inr ⟨U, .inr (.inl ⟨Z,ao,rfl,D⟩)⟩) fun h=>by simp at h⟩
 have hF:∀x,G x->x<w.heap.size:=Q20.lt h;have bf:=C.size;obtain⟨W,p⟩:∃W,W=Qtd s g i e:=⟨_,rfl⟩;have hW:QI B K.heap.size p2 n2 c2 W:=by rw[p];exact hW
 have bg:=QI.len hW;have av:∀j,j∈W->j<nG g:=fun j hj=>by rw[p]at hj;exact List.mem_range.1 (List.mem_filter.1 hj).1
 have bh:W.length<=nG g:=by
  rw[p];exact Zu (List.length_filter_le _ _) (by rw[List.length_range];exact Nat.le_refl _)
 have hn:(nG g:Int)=g.k+g.m:=by unfold nG;omega
 have aw:RowW B o (gC g):=Y.rowW r41 id;have k11F:¬G o:=fun hh=>by have:=hF _ hh;have:=J.size;omega
 rw[←p];refine⟨_,_,_,_,_,_,_,rfl,Q0 (fun h=>by simp at h) fun _=>⟨⟨0,G,rfl,Nat.zero_le _,Qp.refl _ _,rfl,by omega,by omega,Q20.ext h D⟩,?_⟩⟩;rintro ac bj l ⟨t,G',rfl,ht,u,E,bk,bm,hA⟩
 intros
 have st:=(Qp.ext (F:=G) D).trans u;have rl:RowW l o (gC g):=u.upd.rowW aw k11F;have L:=Qr.updS aa u.upd (fun x hx=>by have:=hF x hx;omega) ar;have hW7:QI l K.heap.size p2 n2 c2 W:=Q5.upd hW u.upd fun x hx hs=>by
  have:=Q5.blk hW hx;have:=hF x hs;omega
 have fin:∀(q:StA×Int×Bool)(G2:Nat->Prop)(w':World),Qd6 s g i e=q->Qp G G2 w w'->IsR w' r q.1 G2->QGi (some (at0 a)) (some (at0 kf)) r s G g i e w (.tuple #[int i64 (if q.2.2 then 0 else q.2.1),int i64 (if q.2.2 then 130 else 0)]) w':=by
  rintro q G2 w' rfl h1 h2;exact .inr ⟨U, .inr (.inr ⟨Z,aq,G2,rfl,h1,h2⟩)⟩
 refine Q0 (fun M=> ?_) (fun az=> ?_)
 ·simp only[Za]at M
  have ad:t<W.length:=by omega
  have ae:W[t]? =some (W.getD t 0):=by rw[Zj,Zc ad];rfl
  have a0:W.getD t 0<nG g:=av _ (Zs ae);obtain⟨ja,a1,a2⟩:=Q5.cells hW7 t (int i64 (W.getD t 0:Int)) (by unfold QI1;rw[Zq,ae];rfl);subst a1;intro a3 f;have y:RowW a3 o (gC g):=f.ext.rowW rl id;obtain⟨P,hP,_⟩:=(L.ext f.ext).own;obtain⟨N,a4⟩:=hP (W.getD t 0) a0;have af:=QM0 a2 f.ext
  refine⟨_,y.row.cell (n:=0) rfl,_,y.c rfl,_,y.c rfl,_,y.c rfl,_,y.c rfl,_,y.c rfl,⟨by omega,M⟩,_,by rw[Ze,Nat.mul_one];exact af,⟨by omega,M⟩,_,by rw[Ze,Nat.mul_one];exact af,
   ⟨by omega,by omega⟩,_,_,_,by rw[Ze,Nat.mul_one];exact N,(QUa (Q20.ext hA f.ext) (ho.fixN g i e _ _) g i e (W.getD t 0) (Q2.bytes a4)).mono ?_⟩
  rintro e' ah ⟨F2,rfl,a5,hA2⟩;have O:=(Qp.ext (F:=G') f.ext).trans a5;have a6:=st.trans O;have Q:=QNa ad;have d:=Q07 s g i e (Q91 s g i e) (W.take t) (W.getD t 0);rw[←Q]at d;have z:(fixN s g i e (Q91 s g i e) (W.take t)).2.2=false:=by rw[E]
  have ai:(fixN s g i e (Q91 s g i e) (W.take t)).2.1=ac:=by rw[E]
  refine⟨_,rfl,Q0 (fun I=> ?_) fun I=> ?_⟩
  ·simp only[Za]at I
   unfold Qg1 at d;rw[z,if_neg (by simp),if_pos I]at d;have h3:Qd6 s g i e=fixN s g i e (Q91 s g i e) (W.take (t+1)):=by
    have h4:(fixN s g i e (Q91 s g i e) (W.take (t+1))).2.2=true:=by rw[d]
    have h5:=Qj8 (V:=W.drop (t+1)) h4;rw[List.take_append_drop]at h5;unfold Qd6;rw[←p];exact h5
   rw[d]at h3;have:=fin _ F2 ah h3 a6 hA2;rw[I];simpa using this
  ·simp only[Zb]at I
   unfold Qg1 at d;rw[z,if_neg (by simp),if_neg I,ai]at d;rw[w64 (n:=(t:Int)+1) (by omega),w64 (n:=ac+1) (by omega)];refine Q0 (fun A=> ?_) fun A=> ?_
   ·simp only[Za]at A
    rw[if_pos A]at d;exact⟨⟨t+1,F2,by omega,by omega,u.trans O,by rw[d],by omega,by omega,by rw[d];exact hA2⟩,by omega⟩
   ·simp only[Zb]at A
    rw[if_neg A]at d;exact⟨⟨t+1,F2,by omega,by omega,u.trans O,by rw[d],by omega,by omega,by rw[d];exact hA2⟩,by omega⟩
 ·simp only[Zb]at az
  obtain rfl:t=W.length:=by omega
  rw[List.take_length]at E hA;have h3:Qd6 s g i e=fixN s g i e (Q91 s g i e) W:=by unfold Qd6;rw[←p]
  have:=fin _ G' l h3 st hA;rw[E]at this;simpa using this
open Go Go.Vc Go.ChangeShapes Go.WideShapes Go.ChangeAt
open Go.IntKind (i64)
open Go.Value (int)
open Go.Proofs.Tryz (prog)
structure QXa where
 kind:Int
 n:Int
 m:Int
 data:τ
 arr:QB4
structure QYa(w:World)(a:Addr)(c:QXa)(p3:σ)(l3 c3:Nat)(p5:σ)(l5 c5:Nat)(p6:σ)(l6 c6:Nat):Prop where
 kind:w.cell? a=some (int i64 c.kind)
 n:w.cell? (a.add 1)=some (int i64 c.n)
 m:w.cell? (a.add 2)=some (int i64 c.m)
 dat:w.cell? (a.add 3)=some (.slice p3 l3 c3)
 bytes:Q1 w p3 l3 c.data
 cap:l3<=c3
 arr:Qc5 w (a.add 4) c.arr p5 l5 c5 p6 l6 c6
 kl:∀ks∈c.arr.keep,ks.length<=9223372036854775807
def Qsc(w:World)(p:σ)(l:Nat)(L:List QXa):Prop:=
 l=L.length/\∀i c,L[i]? =some c->∃a p3 l3 c3 p5 l5 c5 p6 l6 c6,p=some a/\QYa w (a.add (i*11)) c p3 l3 c3 p5 l5 c5 p6 l6 c6
theorem QKk{α:Type}:∀(l:List α),l.length=11->∃d e f g h i j k m n a,l=[d,e,f,g,h,i,j,k,m,n,a]
 | [d,e,f,g,h,i,j,k,m,n,a],_=>⟨d,e,f,g,h,i,j,k,m,n,a,rfl⟩
section
variable {H:Type}{enc:TypeId×Value->H}{w:World}{base:Nat}{sp:Nat->Bool}{held:Bool}
theorem Qii{n:Nat}{ys:List Value}{y:DataW H×List MemPlace}(z:ys.length=11)(hy:DataW.trod enc prog w base sp held n 63 ys=some y):
  ∃(cl:QXa)(D:σ)(A c3:Nat)(E:σ)(F c5:Nat)(G:σ)(I J:Nat),
   ys=[int i64 cl.kind,int i64 cl.n,int i64 cl.m, .slice D A c3,int i64 cl.arr.kind,int i64 cl.arr.d,int i64 cl.arr.n,int i64 cl.arr.m, .int .u8 (cl.arr.y.toNat:Int), .slice E F c5, .slice G I J]∧
   Q1 w D A cl.data/\A<=c3/\Q1 w E F cl.arr.b∧
   (I=cl.arr.keep.length/\∀i ks,cl.arr.keep[i]? =some ks->∃a q n c,G=some a/\w.cell? (a.add (i*1))=some (.slice q n c)/\QV w q n ks)∧
   (-9223372036854775808<=cl.arr.n/\cl.arr.n<=9223372036854775807)/\(-9223372036854775808<=cl.arr.m/\cl.arr.m<=9223372036854775807)/\∀ks∈cl.arr.keep,ks.length<=9223372036854775807:=by
 obtain⟨xs,g,_,_,_,K,B⟩:=DataW.trod_struct Tryz.underlying63 hy;obtain⟨h,k,l,o,p,r,s,t,u,v,f,rfl⟩:=QKk ys z;have L:Tryz.prog.cellsOf 3=1:=by kernel_rfl
 have e3:Tryz.prog.cellsOf 25=1:=by kernel_rfl
 have e5:Tryz.prog.cellsOf 61=7:=by kernel_rfl
 have C:∀j,j<5->∃x,xs[j]? =some x:=fun j hj=>⟨xs[j]'(by rw[K];exact hj),Zc _⟩;obtain⟨x0,M⟩:=C 0 (by omega);obtain⟨X,N⟩:=C 1 (by omega);obtain⟨Y,O⟩:=C 2 (by omega);obtain⟨Z,P⟩:=C 3 (by omega);obtain⟨x4,Q⟩:=C 4 (by omega);have f0:DataW.trod enc prog w base sp held g 3 (([h,k,l,o,p,r,s,t,u,v,f].drop 0).take (Tryz.prog.cellsOf 3))=some x0:=(B 0 _ rfl).trans M;rw[L]at f0;have R:DataW.trod enc prog w base sp held g 3 [h]=some x0:=f0;have f1:DataW.trod enc prog w base sp held g 3 (([h,k,l,o,p,r,s,t,u,v,f].drop 1).take (Tryz.prog.cellsOf 3))=some X:=(B 1 _ rfl).trans N;rw[L]at f1;have S:DataW.trod enc prog w base sp held g 3 [k]=some X:=f1;have f2:DataW.trod enc prog w base sp held g 3 (([h,k,l,o,p,r,s,t,u,v,f].drop 2).take (Tryz.prog.cellsOf 3))=some Y:=(B 2 _ rfl).trans O;rw[L]at f2;have T:DataW.trod enc prog w base sp held g 3 [l]=some Y:=f2;have f3:DataW.trod enc prog w base sp held g 25 (([h,k,l,o,p,r,s,t,u,v,f].drop 3).take (Tryz.prog.cellsOf 25))=some Z:=(B 3 _ rfl).trans P;rw[e3]at f3;have U:DataW.trod enc prog w base sp held g 25 [o]=some Z:=f3;have f4:DataW.trod enc prog w base sp held g 61 (([h,k,l,o,p,r,s,t,u,v,f].drop 4).take (Tryz.prog.cellsOf 61))=some x4:=(B 4 _ rfl).trans Q;rw[e5]at f4;have V:DataW.trod enc prog w base sp held g 61 [p,r,s,t,u,v,f]=some x4:=f4;obtain⟨n0,q0,g0⟩:=Qr2 Tryz.underlying3 R;obtain⟨n1,q1,g1⟩:=Qr2 Tryz.underlying3 S;obtain⟨n2,q2,g2⟩:=Qr2 Tryz.underlying3 T;obtain⟨D,A,c3,bs,q3,g3,W,_,_⟩:=Q8d (e:=5) (by kernel_rfl) (by kernel_rfl) (by kernel_rfl) U;obtain⟨cl,E,F,c5,G,I,J,q5,g5,g6,gn,gm,gk⟩:=Qwg rfl V;cases q0;cases q1;cases q2;cases q3;cases q5;exact⟨⟨n0,n1,n2,bs,cl⟩,D,A,c3,E,F,c5,G,I,J,rfl,g3,W,g5,g6,gn,gm,gk⟩
theorem Qga{v:Value}{d:DataW H}{ps:List MemPlace}(hs:∃a l c,v= .slice a l c)(h:DataW.Trod enc prog w base sp held 55 v d ps):
  ∃p l c L,v= .slice p l c/\Qsc w p l L:=by
 obtain⟨p,l,c,rfl⟩:=hs;obtain⟨fuel,h⟩:=h;obtain⟨Q,R,I,J,_,_,_,r⟩:=Qzg (t:=55) (e:=63) (k:=11) (by kernel_rfl) (by kernel_rfl) h;cases J;have s:∀i,i<l->∃cl,∃a u x c3 z A c5 B C D,p=some a/\QYa w (a.add (i*11)) cl u x c3 z A c5 B C D:=by
  intro i hi;obtain⟨a,ys,n,y,ha,K,E,f⟩:=r i hi;obtain⟨cl,u,x,c3,z,A,c5,B,C,D,rfl,M,F,N,O,gn,gm,gk⟩:=Qii E K;have o:∀(j:Nat)(v:Value),w.cell? ((a.add (i*11)).add (4+j))=some v->w.cell? (((a.add (i*11)).add 4).add j)=some v:=fun j v h=>by rw[QB (a.add (i*11)) 4 j];exact h
  exact⟨cl,a,u,x,c3,z,A,c5,B,C,D,ha,f 0 (by omega),f 1 (by omega),f 2 (by omega),f 3 (by omega),M,F,
   ⟨f 4 (by omega),o 1 _ (f 5 (by omega)),o 2 _ (f 6 (by omega)),o 3 _ (f 7 (by omega)),o 4 _ (f 8 (by omega)),o 5 _ (f 9 (by omega)),N,o 6 _ (f 10 (by omega)),O,gn,gm⟩,gk⟩
 have m:∀k,k<=l->∃L:List QXa,L.length=k/\∀i cl,L[i]? =some cl->∃a u x c3 z A c5 B C D,p=some a/\QYa w (a.add (i*11)) cl u x c3 z A c5 B C D:=by
  intro k
  induction k with
  |zero=>intro _;exact⟨[],rfl,fun i cl hi=>by simp at hi⟩
  |succ k ih=>
   intro S;obtain⟨L,hL,g⟩:=ih (by omega);obtain⟨cl,G⟩:=s k (by omega);refine⟨L++ [cl],by simp[hL],fun i I hi=> ?_⟩;rw[List.getElem?_append]at hi
   split at hi
   ·exact g i I hi
   ·have:i-L.length=0:=by
     rcases P:i-L.length with _|q
     ·rfl
     ·rw[P]at hi;simp at hi
    rw[this]at hi;cases hi;have:i=k:=by omega
    subst this;exact G
 obtain⟨L,hL,g⟩:=m l (Nat.le_refl _);exact⟨p,l,c,L,rfl,hL.symm,g⟩
end
open Go Go.Vc Go.Gf
open Go.IntKind (i64)
open Go.Value (int)
open Go.Proofs.Tryz (prog)
theorem Q4d(s:StA)(g:Geo)(i e j:Int)(b:τ):(QR7 s g i e j b).M.length=s.M.length:=by
 unfold QR7
 split
 ·exact QA8 _ _ _ _
 ·rfl
theorem Q6d(s:StA)(g:Geo)(i e:Int)(R:Nat->τ):∀n,(putN s g i e R n).1.M.length=s.M.length
 |0=>rfl
 |n+1=>by
  have ih:=Q6d s g i e R n;unfold putN;simp only
  split
  ·exact ih
  ·exact(Q4d _ _ _ _ _ _).trans ih
theorem QIh(s:StA)(g:Geo)(i e:Int)(R:Nat->τ)(W:List Nat):(fixN s g i e R W).1.M.length=s.M.length:=by
 unfold fixN
 suffices a:∀(r:StA×Int×Bool),(W.foldl (Qg1 g i e R) r).1.M.length=r.1.M.length from a _
 induction W with
 |nil=>exact fun r=>rfl
 |cons j W ih=>
  intro r;rw[List.foldl_cons,ih];unfold Qg1
  split
  ·rfl
  ·split<;>exact Q4d _ _ _ _ _ _
theorem Q3l{s:StA}(h:OkA s)(pa pf:σ)(g:Geo)(i e:Int)(bs:τ):OkA (swS s pa pf g i e bs)/\(swS s pa pf g i e bs).M.length=s.M.length:=by
 unfold swS
 split
 ·exact⟨h.putN _ _ _ _ _,Q6d _ _ _ _ _ _⟩
 ·exact⟨h,rfl⟩
theorem QBf{s:StA}(h:OkA s)(g:Geo)(i e:Int):OkA (Qd6 s g i e).1/\(Qd6 s g i e).1.M.length=s.M.length:=⟨h.fixN _ _ _ _ _,QIh _ _ _ _ _ _⟩
theorem Qj0.nil0(w:World)(p:σ):Qj0 w p 0 []:=⟨rfl,Qa.nil w p⟩
theorem QAg{a kf:Nat}{s:StA}{g:Geo}{i e:Int}{w w1:World}{v:Value}(h:QJa (some (at0 kf)) a s g i e w v w1):
  ∃p l cc y t u z D B,v= .tuple #[.slice p l cc, .slice y t u,int i64 z]/\Q1 w1 p l D/\Qj0 w1 y t B/\l<=4611686018427387904/\t<=4611686018427387904∧
   ∀n j w',QVa (some (at0 a)) (some (at0 kf)) s g i e n j w'->∃q C cc' E o r,j= .tuple #[.slice q C cc', .slice E o r,int i64 z]/\Ext n w'/\Q1 w' q C D/\Qj0 w' E o B:=by
 have emp:∀(P:Prop)(z:Int)(v:Value),v= .tuple #[.slice none 0 0, .slice none 0 0,int i64 z]->(∀n j w',QVa (some (at0 a)) (some (at0 kf)) s g i e n j w'->j= .tuple #[.slice none 0 0, .slice none 0 0,int i64 z])→
   ∃p l cc y t u z D B,v= .tuple #[.slice p l cc, .slice y t u,int i64 z]/\Q1 w1 p l D/\Qj0 w1 y t B/\l<=4611686018427387904/\t<=4611686018427387904∧
   ∀n j w',QVa (some (at0 a)) (some (at0 kf)) s g i e n j w'->∃q C cc' E o r,j= .tuple #[.slice q C cc', .slice E o r,int i64 z]/\Ext n w'/\Q1 w' q C D/\Qj0 w' E o B:=by
  rintro _ z v rfl O;refine⟨none,0,0,none,0,0,z,[],[],rfl,Q1.nil _ _,Qj0.nil0 _ _,by omega,by omega,fun n j w' f=> ?_⟩;exact⟨none,0,0,none,0,0,O _ _ _ f,f.1,Q1.nil _ _,Qj0.nil0 _ _⟩
 rcases h with⟨_,⟨I,F⟩|⟨G,⟨A,F⟩|⟨A,J,F⟩|⟨A,K,gd,cd,y,T,c2,rfl,_,Q,_,N⟩⟩⟩
 ·refine emp True _ _ F fun n j w' f=> ?_
  rcases f with⟨_,⟨_,f⟩|⟨d,_⟩⟩
  ·exact f
  ·exact(I d).elim
 ·refine emp True _ _ F fun n j w' f=> ?_
  rcases f with⟨_,⟨d,_⟩|⟨_,⟨_,f⟩|⟨d,_⟩|⟨d,_⟩⟩⟩
  ·exact(d G).elim
  ·exact f
  ·rw[A]at d;cases d
  ·rw[A]at d;cases d
 ·refine emp True _ _ F fun n j w' f=> ?_
  rcases f with⟨_,⟨d,_⟩|⟨_,⟨d,_⟩|⟨_,_,f⟩|⟨_,d,_⟩⟩⟩
  ·exact(d G).elim
  ·rw[A]at d;cases d
  ·exact f
  ·exact(J d).elim
 ·obtain⟨_,R,_⟩:=QV1 G
  obtain⟨U,V,_⟩:=R;have bkz:g.k.toNat*g.size.toNat<=32*4096:=Nat.mul_le_mul (by omega) (by omega);have W:=QI.len N;have X:((List.range (nG g)).filter (Qi3 s g i e)).length<=nG g:=Zu (List.length_filter_le _ _) (by rw[List.length_range];exact Nat.le_refl _);have S:nG g=g.k.toNat+g.m.toNat:=rfl;refine⟨_,_,_,_,_,_,_,Qob s g i e,Qtd s g i e,rfl,Q,QI.nats N,by omega,by omega,fun n j w' f=> ?_⟩;rcases f with⟨x,⟨d,_⟩|⟨_,⟨d,_⟩|⟨_,d,_⟩|⟨_,_,p,l,c,Y,Z,c3,rfl,L,M⟩⟩⟩
  ·exact(d G).elim
  ·rw[A]at d;cases d
  ·exact(d K).elim
  ·exact⟨_,_,_,_,_,_,rfl,x,L,QI.nats M⟩
theorem QJh{a kf r:Nat}{s:StA}{F G:Nat->Prop}{g:Geo}{i e:Int}{w w1:World}{v:Value}(p:OkA s)(y:IsA w a s F)(h:Qti (some (at0 kf)) a s F g i e w v w1):
  ∃n z t u,v= .tuple #[int i64 n,int i64 z]/\Qp F u w w1/\IsA w1 a t u/\OkA t/\t.M.length=s.M.length/\∀j l w',IsR j r s G->QGi (some (at0 a)) (some (at0 kf)) r s G g i e j l w'->∃G',l= .tuple #[int i64 n,int i64 z]/\Qp G G' j w'/\IsR w' r t G':=by
 rcases h with⟨A,rfl,x⟩|⟨B,⟨m,rfl,x⟩|⟨m,C,rfl,x⟩|⟨m,D,u,rfl,E,I⟩⟩
 ·refine⟨_,_,s,F,rfl,Qp.ext x,Ql.ext y x,p,rfl,fun j l w' o k=> ?_⟩
  rcases k with⟨_,rfl,f⟩|⟨d,_⟩
  ·exact⟨G,rfl,Qp.ext f,Q20.ext o f⟩
  ·exact(A d).elim
 ·refine⟨_,_,s,F,rfl,Qp.ext x,Ql.ext y x,p,rfl,fun j l w' o k=> ?_⟩
  rcases k with⟨d,_⟩|⟨_,⟨_,rfl,f⟩|⟨d,_⟩|⟨d,_⟩⟩
  ·exact(d B).elim
  ·exact⟨G,rfl,Qp.ext f,Q20.ext o f⟩
  ·rw[m]at d;cases d
  ·rw[m]at d;cases d
 ·refine⟨_,_,s,F,rfl,Qp.ext x,Ql.ext y x,p,rfl,fun j l w' o k=> ?_⟩
  rcases k with⟨d,_⟩|⟨_,⟨d,_⟩|⟨_,_,rfl,f⟩|⟨_,d,_⟩⟩
  ·exact(d B).elim
  ·rw[m]at d;cases d
  ·exact⟨G,rfl,Qp.ext f,Q20.ext o f⟩
  ·exact(C d).elim
 ·refine⟨_,_,_,u,rfl,E,I,(QBf p g i e).1,(QBf p g i e).2,fun j l w' o k=> ?_⟩
  rcases k with⟨d,_⟩|⟨_,⟨d,_⟩|⟨_,d,_⟩|⟨_,_,G',rfl,q,J⟩⟩
  ·exact(d B).elim
  ·rw[m]at d;cases d
  ·exact(d D).elim
  ·exact⟨G',rfl,q,J⟩
theorem Qjb{b:Bool}{T E:Prop}(h:b=true)(t:T):Q9 b T E:=by subst h;exact t
theorem Qi5{b:Bool}{T E:Prop}(h:b=false)(t:E):Q9 b T E:=by subst h;exact t
def Q58(c:QXa)(p3:σ)(l3 c3:Nat)(p5:σ)(l5 c5:Nat)(p6:σ)(l6 c6:Nat):Array Value:=
 #[int i64 c.kind,int i64 c.n,int i64 c.m, .slice p3 l3 c3,int i64 c.arr.kind,int i64 c.arr.d,int i64 c.arr.n,int i64 c.arr.m, .int .u8 (c.arr.y.toNat:Int), .slice p5 l5 c5, .slice p6 l6 c6]
set_option maxRecDepth 20000 in
theorem QId{w0 w:World}{a r kf:Nat}{s:StA}{F G:Nat->Prop}(h:QJ7 w a r s F G)(T:OkA s)(hx:Ext w0 w)(hF:∀x,F x->w0.heap.size<=x)(hG:∀x,G x->w0.heap.size<=x)(hf:Qm w0 (some (at0 kf)))(g:Geo){c:QXa}{p3:σ}{Y c3:Nat}{p5:σ}{l5 c5:Nat}{p6:σ}{l6 c6:Nat}
  (hd:Q1 w0 p3 Y c.data) (ay:Y<=c3) (hb:Q1 w0 p5 l5 c.arr.b) (hk:l6=c.arr.keep.length/\∀i ks,c.arr.keep[i]? =some ks->∃a q n c,p6=some a/\w0.cell? (a.add (i*1))=some (.slice q n c)/\QV w0 q n ks)
  (hn: -9223372036854775808<=c.arr.n/\c.arr.n<=9223372036854775807) (hm: -9223372036854775808<=c.arr.m/\c.arr.m<=9223372036854775807) (hs:∀ks∈c.arr.keep,ks.length<=9223372036854775807):
  Calls prog 28 #[.pointer (some (at0 a)), .pointer (some (at0 r)), .pointer (some (at0 kf)),gV g, .agg (Q58 c p3 Y c3 p5 l5 c5 p6 l6 c6)] w fun e w'=>e= .returned (.bool true)∧
   ∃C J G',QJ7 w' a r C J G'/\Qp (fun x=>F x\/G x) (fun x=>J x\/G' x) w w'/\OkA C/\C.M.length=s.M.length:=by
 refine(F28_calls (some (at0 a)) (some (at0 r)) (some (at0 kf)) g.k g.m g.size g.stripes g.slots g.objects c.kind c.n c.m p3 Y c3 c.arr.kind c.arr.d c.arr.n c.arr.m (c.arr.y.toNat:Int) p5 l5 c5 p6 l6 c6 w (fun v w'=>v= .bool true/\∃C J G',QJ7 w' a r C J G'/\Qp (fun x=>F x\/G x) (fun x=>J x\/G' x) w w'/\OkA C/\C.M.length=s.M.length) ?_).mono (by
  rintro e w' ⟨v,rfl,rfl,h⟩;exact⟨rfl,h⟩)
 intro P bt Z K aa ab;have Q:=Z.ext.trans ab.ext;have f:RowW aa P (gC g):=ab.ext.rowW ⟨_,Z.at⟩ id;have o:RowW aa K (Q58 c p3 Y c3 p5 l5 c5 p6 l6 c6):=⟨_,ab.at⟩;have P16:=h.ext Q;have al:=hx.trans Q;have kF:∀x,F x\/G x->x≠P/\x≠K:=fun x hf=>by
  have:=hf.elim (Ql.lt h.arr x) (Q20.lt h.ref x);have:=Z.size.1;have:=ab.size.1;have:=Z.ext.size;exact⟨by omega,by omega⟩
 refine⟨_,o.c rfl,Q0 (fun a8=> ?_) fun a8=>Q0 (fun a9=> ?_) fun a9=>Q0 (fun ba=> ?_) fun ba=> ?_⟩
 ·intro az O
  have a0:=Q.trans O.ext;have am:=hx.trans a0;have P17:=P16.ext O.ext;have t:RowW az P (gC g):=O.ext.rowW f id;have L:RowW az K (Q58 c p3 Y c3 p5 l5 c5 p6 l6 c6):=O.ext.rowW o id;refine⟨_,t.row.cell (n:=0) rfl,_,t.c rfl,_,t.c rfl,_,t.c rfl,_,t.c rfl,_,t.c rfl,_,L.c rfl,_,L.c rfl,_,_,_,L.c rfl,_,t.row.cell (n:=0) rfl,_,t.c rfl,_,t.c rfl,_,t.c rfl,_,t.c rfl,_,t.c rfl,_,L.c rfl,_,L.c rfl,_,_,_,L.c rfl,?_⟩;refine(Qy7 P17.arr T (hf.ext am) g c.n c.m (hd.ext am) ay).mono ?_;rintro e a1 ⟨J,rfl,E,hA⟩;have R:RowW a1 P (gC g):=E.upd.rowW t fun hh=>(kF _ (.inl hh)).1 rfl;have aq:RowW a1 K (Q58 c p3 Y c3 p5 l5 c5 p6 l6 c6):=E.upd.rowW L fun hh=>(kF _ (.inl hh)).2 rfl;have bc:=(QW9 am E hF).1;refine⟨_,rfl,⟨_,R.row.cell (n:=0) rfl,_,R.c rfl,_,R.c rfl,_,R.c rfl,_,R.c rfl,_,R.c rfl,rfl⟩,⟨_,aq.c rfl,rfl⟩,⟨_,aq.c rfl,rfl⟩,⟨_,_,_,aq.c rfl,rfl⟩,(Qrc (P17.mid E) T g c.n c.m (hd.ext bc) ay a kf).mono ?_⟩;rintro e bu ⟨G',rfl,ar,hR⟩;obtain⟨hP,U⟩:=P17.both E hA ar hR;exact⟨_,rfl,by simp,_,J,G',hP,(Qp.ext a0).trans U,Q3l T _ _ _ _ _ _⟩
 ·refine⟨_,f.row.cell (n:=0) rfl,_,f.c rfl,_,f.c rfl,_,f.c rfl,_,f.c rfl,_,f.c rfl,_,o.c rfl,_,o.c rfl,(QT3 P16.arr T (hf.ext al) g c.n c.m).mono ?_⟩
  rintro e S ⟨v,rfl,hv⟩;have ac:=hv.1;obtain⟨p,l,cc,p2,l2,au,z,D,B,rfl,hD,hB,hl,bf,N⟩:=QAg hv;have u:RowW S P (gC g):=ac.rowW f id;have V:RowW S K (Q58 c p3 Y c3 p5 l5 c5 p6 l6 c6):=ac.rowW o id;have fin:∀(I:World)(p q:σ)(l cc l' cc':Nat)(p2 q2:σ)(l2 au ad W:Nat)(z:Int)(D:τ)(B:List Nat),Ext S I->Q1 I p l D->Q1 I q l' D->l<=4611686018427387904->Qj0 I p2 l2 B->Qj0 I q2 ad B->l2<=4611686018427387904→
    Calls prog 18 #[.slice p l cc, .slice q l' cc'] I fun e w'=>∃b,e= .returned (.bool b)/\Calls prog 52 #[.slice p2 l2 au, .slice q2 ad W] w' fun e w'=>∃b1,e= .returned (.bool b1)/\Q9 b (Q9 b1 (Value.bool (decide (z=z))= .bool true/\∃C J G',QJ7 w' a r C J G'/\Qp (fun x=>F x\/G x) (fun x=>J x\/G' x) w w'/\OkA C/\C.M.length=s.M.length) (Value.bool false= .bool true/\∃C J G',QJ7 w' a r C J G'/\Qp (fun x=>F x\/G x) (fun x=>J x\/G' x) w w'/\OkA C/\C.M.length=s.M.length)) (Value.bool false= .bool true/\∃C J G',QJ7 w' a r C J G'/\Qp (fun x=>F x\/G x) (fun x=>J x\/G' x) w w'/\OkA C/\C.M.length=s.M.length):=by
   intro I p q l cc l' cc' p2 q2 l2 au ad W z D B X h1 h2 h3 h4 h5 h6;refine(Q35 h1 h2 h3).mono ?_;rintro e b6 ⟨rfl,av⟩;refine⟨_,rfl,(QVf (h4.ext av.ext) (h5.ext av.ext) h6).mono ?_⟩;rintro e b7 ⟨rfl,bg⟩;have xx:=(ac.trans X).trans (av.ext.trans bg);exact⟨_,rfl,Qjb (decide_eq_true rfl) (Qjb (decide_eq_true rfl) ⟨by simp,s,F,G,P16.ext xx,Qp.ext (Q.trans xx),T,rfl⟩)⟩
  refine⟨_,_,_,_,_,_,_,rfl,_,u.row.cell (n:=0) rfl,_,u.c rfl,_,u.c rfl,_,u.c rfl,_,u.c rfl,_,u.c rfl,_,V.c rfl,_,V.c rfl,(Qqc (Q20.ext P16.ref ac) T g c.n c.m a kf).mono ?_⟩;rintro e I ⟨v,rfl,aw⟩;obtain⟨q,l',cc',q2,ad,W,rfl,X,bh,bi⟩:=N _ _ _ aw;exact⟨_,_,_,_,_,_,_,rfl,fin I _ _ _ _ _ _ _ _ _ _ _ _ z D B X (hD.ext X) bh hl (hB.ext X) bi bf⟩
 ·refine⟨_,f.row.cell (n:=0) rfl,_,f.c rfl,_,f.c rfl,_,f.c rfl,_,f.c rfl,_,f.c rfl,_,o.c rfl,_,o.c rfl,(QDa P16.arr T (hf.ext al) g c.n c.m).mono ?_⟩
  rintro e S ⟨v,rfl,hv⟩;obtain⟨n,z,C,J,rfl,E,hA,bj,a3,N⟩:=QJh (r:=r) (G:=G) T P16.arr hv;have u:RowW S P (gC g):=E.upd.rowW f fun hh=>(kF _ (.inl hh)).1 rfl;have V:RowW S K (Q58 c p3 Y c3 p5 l5 c5 p6 l6 c6):=E.upd.rowW o fun hh=>(kF _ (.inl hh)).2 rfl;have hR20:=P16.mid E;refine⟨_,_,rfl,_,u.row.cell (n:=0) rfl,_,u.c rfl,_,u.c rfl,_,u.c rfl,_,u.c rfl,_,u.c rfl,_,V.c rfl,_,V.c rfl,(QAe hR20 T g c.n c.m a kf).mono ?_⟩;rintro e I ⟨v,rfl,aw⟩;obtain⟨G',rfl,ar,hR⟩:=N _ _ _ hR20 aw;obtain⟨hP,U⟩:=P16.both E hA ar hR;exact⟨_,_,rfl,Qjb (decide_eq_true rfl) ⟨by simp,C,J,G',hP,(Qp.ext Q).trans U,bj,a3⟩⟩
 ·have A:∀{j:Nat}{v:Value},aa.cell? ((at0 K).add (4+j))=some v->aa.cell? (((at0 K).add 4).add j)=some v:=fun h=>by rw[QB];exact h
  refine⟨_,o.c rfl,_,A (o.c rfl),_,A (o.c rfl),_,A (o.c rfl),_,A (o.c rfl),_,_,_,A (o.c rfl),_,_,_,A (o.c rfl),?_⟩;refine(Qrh (w0:=w0) P16 T al hF hG hb hk hm hs).mono ?_;rintro e b8 ⟨rfl,J,G',hP,U⟩;exact⟨_,rfl,rfl,_,J,G',hP,(Qp.ext Q).trans U,T.call hn,Q5f _ _⟩
end Go.Proofs.YtkolafpgbhpdlaaGreat
