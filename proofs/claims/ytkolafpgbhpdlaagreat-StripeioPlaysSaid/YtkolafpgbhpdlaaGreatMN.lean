import Derived.Test.YtkolafpgbhpdlaaGreatGd
import Derived.Test.YtkolafpgbhpdlaaGreatMJ
import Derived.Test.YtkolafpgbhpdlaaGreatMT
set_option maxHeartbeats 8000000
namespace Go.Proofs.YtkolafpgbhpdlaaGreat
open Go Go.Vc
open Go.IntKind (i64)
open Go.Value (int)
open Go.Proofs.Tryz (prog)
theorem QW9{F d:Nat->Prop}{w0 w w':World}(h:Ext w0 w)(hs:Qp F d w w')(e:∀x,F x->w0.heap.size<=x):Ext w0 w'/\∀x,d x->w0.heap.size<=x:=by
 refine⟨Upd.trans h hs.upd fun x f g=> ?_,fun x f=> ?_⟩
 ·have:=e x g;omega
 ·rcases hs.grow x f with a|a
  ·exact e x a
  ·exact Zu h.size a
theorem Q5c{w0 w:World}{a:Nat}{s:StA}{F:Nat->Prop}(h:IsA w a s F)(t:OkA s)(g:Ext w0 w)(u:∀x,F x->w0.heap.size<=x){p:σ}{l c:Nat}{KS:List (List Int)}
  (o:l=KS.length/\∀i ks,KS[i]? =some ks->∃a q n c,p=some a/\w0.cell? (a.add (i*1))=some (.slice q n c)/\QV w0 q n ks) (hs:∀ks∈KS,ks.length<=9223372036854775807):
  Calls prog 90 #[.pointer (some (at0 a)), .slice p l c] w fun e w'=>∃r,e= .returned (.tuple #[])/\Qp F r w w'/\IsA w' a ⟨QA0 KS s.M.length s.M,-1,false⟩ r:=by
 have j:QI5 w (fun x=>x<w0.heap.size) p l KS:=by
  refine⟨o.1,fun i ks hi=> ?_⟩;obtain⟨ap,q,n,cc,v,d,f⟩:=o.2 i ks hi;have B:=f.1;have:=hs ks (Zs hi);refine⟨ap,q,n,cc,v,?_,QM0 d g,⟨f.1,f.2.ext g⟩,fun k C ha=>Ql8 f k ha,by omega⟩;have hb:(ap.add (i*1)).block=ap.block:=Qx _ _;rw[←hb];unfold World.cell? at d
  split at d
  ·rename_i y;exact Qe y
  all_goals cases d
 exact Qwa h (by have:=t.1;omega) (fun x m z=>by have:=u x z;omega) (fun x m A=>by have:=g.size;omega) j
open Go Go.Vc
open Go.IntKind (i64)
open Go.Value (int)
open Go.Proofs.Tryz (prog)
open Go Go.Vc Go.ChangeShapes Go.WideShapes Go.ChangeAt Go.RowKit
open Go.IntKind (i64)
open Go.Value (int)
open Go.Proofs.Tryz (prog)
section
variable {H:Type}{enc:TypeId×Value->H}{w:World}{base:Nat}{sp:Nat->Bool}{held:Bool}
theorem Q8j{n:Int}(h:(Lit.int .i64 n).wf=true): -9223372036854775808<=n/\n<=9223372036854775807:=by
 simp only[Lit.wf,Bool.and_eq_true,Za]at h;exact⟨Int.le_trans (by decide) h.1,Int.le_trans h.2 (by decide)⟩
theorem QXl{n:Int}(h:(Lit.int .u8 n).wf=true):∃y:UInt8,n=(y.toNat:Int):=by
 simp only[Lit.wf,Bool.and_eq_true,Za]at h;have a:(0:Int)<=n:=Int.le_trans (by decide) h.1;have d:n<=255:=Int.le_trans h.2 (by decide);refine⟨UInt8.ofNat n.toNat,?_⟩;rw[UInt8.toNat_ofNat'];omega
theorem QFl{α:Type}(l:List α)(h:l.length=7):∃a d e f g i j,l=[a,d,e,f,g,i,j]:=by
 obtain⟨a,l,rfl⟩:=List.exists_cons_of_length_eq_add_one h;obtain⟨d,l,rfl⟩:=List.exists_cons_of_length_eq_add_one (Nat.succ.inj h);obtain⟨e,l,rfl⟩:=List.exists_cons_of_length_eq_add_one (Nat.succ.inj (Nat.succ.inj h));obtain⟨f,l,rfl⟩:=List.exists_cons_of_length_eq_add_one (Nat.succ.inj (Nat.succ.inj (Nat.succ.inj h)));obtain⟨g,l,rfl⟩:=List.exists_cons_of_length_eq_add_one (Nat.succ.inj (Nat.succ.inj (Nat.succ.inj (Nat.succ.inj h))));obtain⟨i,l,rfl⟩:=List.exists_cons_of_length_eq_add_one (Nat.succ.inj (Nat.succ.inj (Nat.succ.inj (Nat.succ.inj (Nat.succ.inj h)))));obtain⟨j,l,rfl⟩:=List.exists_cons_of_length_eq_add_one (Nat.succ.inj (Nat.succ.inj (Nat.succ.inj (Nat.succ.inj (Nat.succ.inj (Nat.succ.inj h))))));have:l=[]:=Zk (by simpa using h);subst this;exact⟨a,d,e,f,g,i,j,rfl⟩
theorem Qki{fuel:Nat}{cs:List Value}{x:DataW H×List MemPlace}(h:DataW.trod enc prog w base sp held fuel 59 cs=some x):
  ∃p l c KS,cs=[.slice p l c]/\l=List.length KS/\∀(i:Nat)(ks:List Int),KS[i]? =some ks->(∃a q n c,p=some a/\w.cell? (a.add (i*1))=some (.slice q n c)/\QV w q n ks)/\ks.length<=9223372036854775807:=by
 obtain⟨p,l,c,rfl,_,_,_,j⟩:=Qzg (t:=59) (e:=30) (k:=1) (by kernel_rfl) (by kernel_rfl) h;have m:∀i,i<l->∃ks:List Int,(∃a q n c,p=some a/\w.cell? (a.add (i*1))=some (.slice q n c)/\QV w q n ks)/\ks.length<=9223372036854775807:=by
  intro i hi;obtain⟨a,ys,n,y,ha,v,u,f⟩:=j i hi;obtain⟨q,nn,cc,zs,rfl,z,A,D,B,_⟩:=Qyg (t:=30) (e:=3) (k:= .i64) (by kernel_rfl) (by kernel_rfl) (by kernel_rfl) v;have:=f 0 (by omega);exact⟨zs,⟨a,q,nn,cc,ha,by rw[QB]at this;exact this,z,A⟩,by unfold maxLen at B;omega⟩
 have g:∀k,k<=l->∃KS:List (List Int),KS.length=k/\∀(i:Nat)(ks:List Int),KS[i]? =some ks->(∃a q n c,p=some a/\w.cell? (a.add (i*1))=some (.slice q n c)/\QV w q n ks)/\ks.length<=9223372036854775807:=by
  intro k
  induction k with
  |zero=>intro _;exact⟨[],rfl,fun i ks hi=>by simp at hi⟩
  |succ k ih=>
   intro E;obtain⟨KS,r,d⟩:=ih (by omega);obtain⟨s,o⟩:=m k (by omega);refine⟨KS++ [s],by simp[r],fun i ks hi=> ?_⟩;rw[List.getElem?_append]at hi
   split at hi
   ·exact d i ks hi
   ·have:i-KS.length=0:=by
     rcases C:i-KS.length with _|q
     ·rfl
     ·rw[C]at hi;simp at hi
    rw[this]at hi;cases hi;have:i=k:=by omega
    subst this;exact o
 obtain⟨KS,r,d⟩:=g l (Nat.le_refl _);exact⟨p,l,c,KS,rfl,r.symm,d⟩
theorem Qwg{n:Nat}{ys:List Value}{y:DataW H×List MemPlace}(u:ys.length=7)(hy:DataW.trod enc prog w base sp held n 61 ys=some y):
  ∃(cl:QB4)(v:σ)(z c5:Nat)(A:σ)(B D:Nat),ys=[int i64 cl.kind,int i64 cl.d,int i64 cl.n,int i64 cl.m, .int .u8 (cl.y.toNat:Int), .slice v z c5, .slice A B D]/\Q1 w v z cl.b∧
   (B=cl.keep.length/\∀i ks,cl.keep[i]? =some ks->∃a q n c,A=some a/\w.cell? (a.add (i*1))=some (.slice q n c)/\QV w q n ks)∧
   (-9223372036854775808<=cl.n/\cl.n<=9223372036854775807)/\(-9223372036854775808<=cl.m/\cl.m<=9223372036854775807)/\∀ks∈cl.keep,ks.length<=9223372036854775807:=by
 obtain⟨xs,f,_,_,_,E,s⟩:=DataW.trod_struct Tryz.underlying61 hy;obtain⟨g,h,k,l,o,p,r,rfl⟩:=QFl ys u;have C:Tryz.prog.cellsOf 3=1:=by kernel_rfl
 have e2:Tryz.prog.cellsOf 5=1:=by kernel_rfl
 have e3:Tryz.prog.cellsOf 25=1:=by kernel_rfl
 have e4:Tryz.prog.cellsOf 59=1:=by kernel_rfl
 have t:∀j,j<7->∃x,xs[j]? =some x:=fun j hj=>⟨xs[j]'(by rw[E];exact hj),Zc _⟩;obtain⟨x0,F⟩:=t 0 (by omega);obtain⟨V,G⟩:=t 1 (by omega);obtain⟨W,I⟩:=t 2 (by omega);obtain⟨X,J⟩:=t 3 (by omega);obtain⟨Y,K⟩:=t 4 (by omega);obtain⟨Z,L⟩:=t 5 (by omega);obtain⟨x6,M⟩:=t 6 (by omega);have f0:DataW.trod enc prog w base sp held f 3 (([g,h,k,l,o,p,r].drop 0).take (Tryz.prog.cellsOf 3))=some x0:=(s 0 _ rfl).trans F;rw[C]at f0;have N:DataW.trod enc prog w base sp held f 3 [g]=some x0:=f0;have f1:DataW.trod enc prog w base sp held f 3 (([g,h,k,l,o,p,r].drop 1).take (Tryz.prog.cellsOf 3))=some V:=(s 1 _ rfl).trans G;rw[C]at f1;have O:DataW.trod enc prog w base sp held f 3 [h]=some V:=f1;have f2:DataW.trod enc prog w base sp held f 3 (([g,h,k,l,o,p,r].drop 2).take (Tryz.prog.cellsOf 3))=some W:=(s 2 _ rfl).trans I;rw[C]at f2;have P:DataW.trod enc prog w base sp held f 3 [k]=some W:=f2;have f3:DataW.trod enc prog w base sp held f 3 (([g,h,k,l,o,p,r].drop 3).take (Tryz.prog.cellsOf 3))=some X:=(s 3 _ rfl).trans J;rw[C]at f3;have Q:DataW.trod enc prog w base sp held f 3 [l]=some X:=f3;have f4:DataW.trod enc prog w base sp held f 5 (([g,h,k,l,o,p,r].drop 4).take (Tryz.prog.cellsOf 5))=some Y:=(s 4 _ rfl).trans K;rw[e2]at f4;have R:DataW.trod enc prog w base sp held f 5 [o]=some Y:=f4;have f5:DataW.trod enc prog w base sp held f 25 (([g,h,k,l,o,p,r].drop 5).take (Tryz.prog.cellsOf 25))=some Z:=(s 5 _ rfl).trans L;rw[e3]at f5;have S:DataW.trod enc prog w base sp held f 25 [p]=some Z:=f5;have f6:DataW.trod enc prog w base sp held f 59 (([g,h,k,l,o,p,r].drop 6).take (Tryz.prog.cellsOf 59))=some x6:=(s 6 _ rfl).trans M;rw[e4]at f6;have T:DataW.trod enc prog w base sp held f 59 [r]=some x6:=f6;obtain⟨n0,q0,g0⟩:=Qr2 Tryz.underlying3 N;obtain⟨n1,q1,g1⟩:=Qr2 Tryz.underlying3 O;obtain⟨n2,q2,g2⟩:=Qr2 Tryz.underlying3 P;obtain⟨n3,q3,g3⟩:=Qr2 Tryz.underlying3 Q;obtain⟨n4,q4,g4⟩:=Qr2 Tryz.underlying5 R;obtain⟨v,z,c5,bs,q5,g5,_,_,_⟩:=Q8d (e:=5) (by kernel_rfl) (by kernel_rfl) (by kernel_rfl) S;obtain⟨A,B,D,KS,q6,g6,g7⟩:=Qki T;cases q0;cases q1;cases q2;cases q3;cases q4;cases q5;cases q6;obtain⟨y,rfl⟩:=QXl g4
 exact⟨⟨n0,n1,n2,n3,y,bs,KS⟩,v,z,c5,A,B,D,rfl,g5,⟨g6,fun i ks hi=>(g7 i ks hi).1⟩,Q8j g2,Q8j g3,fun ks U=>by
  obtain⟨i,hi⟩:=List.getElem?_of_mem U
  exact(g7 i ks hi).2⟩
end
open Go Go.Vc
open Go.IntKind (i64)
open Go.Value (int)
open Go.Proofs.Tryz (prog)
theorem QDi{D:Dk}{k:Int}{bs:τ}(h:Qs D k bs.length≠0):QT D k bs=D:=by
 unfold QT;rw[if_neg h]
open Go Go.Vc
open Go.IntKind (i64)
open Go.Value (int)
open Go.Proofs.Tryz (prog)
def QZa(w:World)(p:σ)(l:Nat)(L:SM):Prop:=
 l=L.length/\l<=4096/\∀i x,L[i]? =some x->∃a q n c,p=some a/\w.cell? ((a.add (i*2)).add 0)=some (int i64 x.1)/\w.cell? ((a.add (i*2)).add 1)=some (.slice q n c)/\Q1 w q n x.2/\n<=4108
theorem QZa.ext{w w':World}{p:σ}{l:Nat}{L:SM}(h:QZa w p l L)(d:Ext w w'):QZa w' p l L:=
 ⟨h.1,h.2.1,fun i x hi=>by
  obtain⟨a,q,n,c,e,f,g,j,k⟩:=h.2.2 i x hi
  exact⟨a,q,n,c,e,QM0 f d,QM0 g d,j.ext d,k⟩⟩
theorem QV0.read{w:World}{base:Nat}{p:σ}{l c:Nat}{L:SM}(h:QV0 w base p l c L)(d:L.length<=4096):QZa w p l L:=by
 refine⟨h.length,by rw[h.length];exact d,fun i x hi=> ?_⟩;obtain⟨a,v,e,f,g,q,n,c,rfl,hb,_,j,_⟩:=h.at hi;have k:(a.add (i*2)).add 0=a.add (2*i):=by simp[Addr.add,Nat.mul_comm]
 have m:(a.add (i*2)).add 1=a.add (2*i+1):=by rw[QB,Nat.mul_comm]
 exact⟨a,q,n,c,e,by rw[k];exact f,by rw[m];exact g,hb,j⟩
theorem QRi{D:Dk}(h:Qk3 D)(a:Asc D.lasts/\Asc D.waits):D.lasts.length<=4096/\D.waits.length<=4096:=
 ⟨QI6 (lo:=0) a.1 fun x d=>by have:=h.lasts x d;have:=h.sec;omega,QI6 (lo:=0) a.2 fun x d=>by have:=h.waits x d;have:=h.sec;omega⟩
theorem Qw8{w:World}{r s:σ}{p c1 t c2:Nat}{L M:SM}(u:QZa w r p L)(I:QZa w s t M):
  Calls prog 25 #[.slice r p c1, .slice s t c2] w fun e w'=>e= .returned (.bool (decide (L=M)))/\Ext w w':=by
 refine(F25_calls r p c1 s t c2 w (fun v w'=>v= .bool (decide (L=M))/\Ext w w')
  (fun _ n J=>∃i:Nat,n=i/\i<=p/\Ext w J/\L.take i=M.take i) (fun _ n _=>4096-n.toNat) ?_).mono (by rintro e w' ⟨v,rfl,rfl,h⟩;exact⟨rfl,h⟩)
 have K:=u.1;have N:=I.1;have O:=u.2.1;refine Q0 (fun z=> ?_) (fun A=> ?_)
 ·refine⟨?_,Upd.refl _ _⟩
  simp only[Zg,Zb]at z;have:¬L=M:=by rintro rfl;omega
  simp[this]
 simp only[Zf,Za]at A;refine⟨⟨0,rfl,Nat.zero_le _,Upd.refl _ _,by simp⟩,?_⟩;rintro n J ⟨i,rfl,hi,m,d⟩
 intros
 refine Q0 (fun l=> ?_) (fun B=> ?_)
 ·simp only[Za]at l
  intro C D;have g:=m.trans D.ext;obtain⟨x,k⟩:∃x,L[i]? =some x:=⟨L[i]'(by omega),Zc _⟩;obtain⟨y,f⟩:∃y,M[i]? =some y:=⟨M[i]'(by omega),Zc _⟩;obtain⟨a,q,nn,cc,rfl,ca,cb,cbytes,cn⟩:=(u.ext g).2.2 i x k;obtain⟨S,T,nn',cc',rfl,ca',cb',cbytes',cn'⟩:=(I.ext g).2.2 i y f;rw[Ze];refine⟨⟨by omega,l⟩,_,_,_,cb,⟨by omega,by omega⟩,_,_,_,cb',?_⟩;refine(Q35 cbytes cbytes' (by omega)).mono ?_;rintro e P ⟨rfl,E⟩;refine⟨_,rfl,?_⟩;intro F G;have j:Ext C F:=E.ext.trans G.ext;refine Q0 (fun hb=> ?_) (fun hb=> ?_)
  ·refine⟨?_,g.trans j⟩
   simp only[Zg,Zb]at hb;have:¬L=M:=by
    rintro rfl;rw[k]at f;cases f;exact hb rfl
   simp[this]
  simp only[Zf,Za]at hb;refine⟨⟨by omega,l⟩,_,QM0 ca j,⟨by omega,by omega⟩,_,QM0 ca' j,?_⟩;refine Q0 (fun o=> ?_) (fun o=> ?_)
  ·refine⟨?_,g.trans j⟩
   simp only[Zg,Zb]at o;have:¬L=M:=by
    rintro rfl;rw[k]at f;cases f;exact o rfl
   simp[this]
  simp only[Zf,Za]at o;rw[w64 (by omega)];refine⟨⟨i+1,by omega,by omega,g.trans j,?_⟩,by show 4096-((i:Int)+1).toNat<4096-(i:Int).toNat;omega⟩;rw[Zn,Zn,d,k,f];have:x=y:=Prod.ext o hb;rw[this]
 ·simp only[Zb]at B
  refine⟨?_,m⟩;have:L=M:=by
   have Q:L.take i=L:=Zh (by omega);have R:M.take i=M:=Zh (by omega);rw[Q,R]at d;exact d
  simp[this]
open Go Go.Vc
open Go.IntKind (i64)
open Go.Value (int)
open Go.Proofs.Tryz (prog)
theorem Qxd{w:World}{l m:σ}{g c1 o c2:Nat}{A B:List Bool}(u:g=A.length/\Qa w l (A.map Value.bool))(z:o=B.length/\Qa w m (B.map Value.bool))(J:g<=1000):
  Calls prog 55 #[.slice l g c1, .slice m o c2] w fun e w'=>e= .returned (.bool (decide (A=B)))/\Ext w w':=by
 refine(F55_calls l g c1 m o c2 w (fun v w'=>v= .bool (decide (A=B))/\Ext w w') (fun _ n C=>∃i:Nat,n=i/\i<=g/\Ext w C/\A.take i=B.take i) (fun _ n _=>1000-n.toNat) ?_).mono (by rintro e w' ⟨v,rfl,rfl,h⟩;exact⟨rfl,h⟩);have K:=u.1;have L:=z.1;refine Q0 (fun f=> ?_) (fun p=> ?_)
 ·simp only[Zg,Zb]at f
  refine⟨?_,Upd.refl _ _⟩;have:¬A=B:=by rintro rfl;omega
  simp[this]
 simp only[Zf,Za]at p;refine⟨⟨0,rfl,Nat.zero_le _,Upd.refl _ _,by simp⟩,?_⟩;rintro n C ⟨i,rfl,hi,D,ht⟩
 intros
 refine Q0 (fun j=> ?_) (fun q=> ?_)
 ·simp only[Za]at j
  intro E r;have d:=D.trans r.ext;obtain⟨x,s⟩:∃x,A[i]? =some x:=⟨A[i]'(by omega),Zc _⟩;obtain⟨y,k⟩:∃y,B[i]? =some y:=⟨B[i]'(by omega),Zc _⟩;obtain⟨a,rfl,ca⟩:=(u.2.ext d) i (Value.bool x) (by rw[Zq,s];rfl);obtain⟨b,rfl,cb⟩:=(z.2.ext d) i (Value.bool y) (by rw[Zq,k];rfl);rw[Ze,Nat.mul_one];refine⟨⟨by omega,j⟩,x,ca,⟨by omega,by omega⟩,y,cb,Q0 (fun f=> ?_) (fun F=> ?_)⟩
  ·refine⟨?_,d⟩
   have:¬A=B:=by
    rintro rfl;rw[s]at k;cases k;simp at f
   simp[this]
  ·have t:x=y:=by simpa using F
   subst t;rw[w64 (by omega)];refine⟨⟨i+1,by omega,by omega,d,?_⟩,by show 1000-((i:Int)+1).toNat<1000-(i:Int).toNat;omega⟩;rw[Zn,Zn,ht,s,k]
 ·simp only[Zb]at q
  refine⟨?_,D⟩;have G:A.take i=A:=Zh (by omega);have I:B.take i=B:=Zh (by omega);rw[G,I]at ht;simp[ht]
theorem QWd{w:World}{l m:σ}{g c1 o c2:Nat}{A B:List Int}(u:g=A.length/\Qa w l (A.map (Value.int .i64)))(z:o=B.length/\Qa w m (B.map (Value.int .i64)))(J:g<=1000):
  Calls prog 52 #[.slice l g c1, .slice m o c2] w fun e w'=>e= .returned (.bool (decide (A=B)))/\Ext w w':=by
 refine(F52_calls l g c1 m o c2 w (fun v w'=>v= .bool (decide (A=B))/\Ext w w') (fun _ n C=>∃i:Nat,n=i/\i<=g/\Ext w C/\A.take i=B.take i) (fun _ n _=>1000-n.toNat) ?_).mono (by rintro e w' ⟨v,rfl,rfl,h⟩;exact⟨rfl,h⟩);have K:=u.1;have L:=z.1;refine Q0 (fun f=> ?_) (fun p=> ?_)
 ·simp only[Zg,Zb]at f
  refine⟨?_,Upd.refl _ _⟩;have:¬A=B:=by rintro rfl;omega
  simp[this]
 simp only[Zf,Za]at p;refine⟨⟨0,rfl,Nat.zero_le _,Upd.refl _ _,by simp⟩,?_⟩;rintro n C ⟨i,rfl,hi,D,ht⟩
 intros
 refine Q0 (fun j=> ?_) (fun q=> ?_)
 ·simp only[Za]at j
  intro E r;have d:=D.trans r.ext;obtain⟨x,s⟩:∃x,A[i]? =some x:=⟨A[i]'(by omega),Zc _⟩;obtain⟨y,k⟩:∃y,B[i]? =some y:=⟨B[i]'(by omega),Zc _⟩;obtain⟨a,rfl,ca⟩:=(u.2.ext d) i ((Value.int .i64) x) (by rw[Zq,s];rfl);obtain⟨b,rfl,cb⟩:=(z.2.ext d) i ((Value.int .i64) y) (by rw[Zq,k];rfl);rw[Ze,Nat.mul_one];refine⟨⟨by omega,j⟩,x,ca,⟨by omega,by omega⟩,y,cb,Q0 (fun f=> ?_) (fun F=> ?_)⟩
  ·refine⟨?_,d⟩
   have:¬A=B:=by
    rintro rfl;rw[s]at k;cases k;simp at f
   simp[this]
  ·have t:x=y:=by simpa using F
   subst t;rw[w64 (by omega)];refine⟨⟨i+1,by omega,by omega,d,?_⟩,by show 1000-((i:Int)+1).toNat<1000-(i:Int).toNat;omega⟩;rw[Zn,Zn,ht,s,k]
 ·simp only[Zb]at q
  refine⟨?_,D⟩;have G:A.take i=A:=Zh (by omega);have I:B.take i=B:=Zh (by omega);rw[G,I]at ht;simp[ht]
def QZ3(w:World)(base:Nat)(p:σ)(l c:Nat)(LL:List SM):Prop:=
 ∃vs,QA2 (fun v L=>∃q n d,v=Value.slice q n d/\QV0 w base q n d L) vs LL/\Q5 w base 49 1 p l c vs/\l=LL.length
theorem QRk{w:World}{base:Nat}{e:TypeId}{sz:Nat}{p:σ}{n c:Nat}{xs:List Value}(h:Q5 w base e sz p n c xs){g:Nat}(a:p=some (at0 g)):
  base<=g/\g<w.heap.size/\∃cur,w.heap[g]? =some (.cells cur e (0,0)):=by
 rcases h.where_ with⟨f,_⟩|⟨j,f,hb,i,_,cur,d,_⟩
 ·rw[f]at a;cases a
 ·rw[f]at a
  simp only[Zi,at0,Zv,and_true]at a;subst a;exact⟨hb,i,cur,d⟩
theorem QZ3.nil(w:World)(base:Nat):QZ3 w base none 0 0 []:=⟨[], .nil,Q5.nil _ _ _ _,rfl⟩
theorem QZ3.upd{S:Nat->Prop}{w w':World}{base:Nat}{p:σ}{l c:Nat}{LL:List SM}(h:QZ3 w base p l c LL)(a:Upd S w w')(hS:∀y,base<=y->y<w.heap.size->¬S y):QZ3 w' base p l c LL:=by
 obtain⟨vs,f,e,i⟩:=h;refine⟨vs,QP1 f fun v L j=> ?_,e.upd a fun g k=> ?_,i⟩
 ·obtain⟨q,n,d,rfl,m⟩:=j
  exact⟨q,n,d,rfl,m.upd a hS⟩
 ·obtain⟨o,r,_⟩:=QRk e k
  exact hS g o r
theorem QZ3.ext{w w':World}{base:Nat}{p:σ}{l c:Nat}{LL:List SM}(h:QZ3 w base p l c LL)(a:Ext w w'):QZ3 w' base p l c LL:=h.upd a fun _ _ _ h=>h
theorem QZ3.at{w:World}{base:Nat}{p:σ}{l c:Nat}{LL:List SM}(h:QZ3 w base p l c LL){i:Nat}{L:SM}(hi:LL[i]? =some L):
  ∃a q n d,p=some a/\w.cell? (a.add (i*1))=some (.slice q n d)/\QV0 w base q n d L:=by
 obtain⟨vs,f,g,_⟩:=h;obtain⟨v,j,q,n,d,rfl,k⟩:=QE8 f hi;obtain⟨a,ha,e⟩:=g.cells i _ j;exact⟨a,q,n,d,ha,by rw[Nat.mul_one];exact e,k⟩
open Go Go.Vc
open Go.IntKind (i64)
open Go.Value (int)
open Go.Proofs.Tryz (prog)
def QDe(n:Nat)(k:Int):StA:=⟨List.replicate n ⟨⟨k,[],[],false⟩,0⟩,-1,false⟩
theorem Qkj{n:Nat}{k:Int}(h:n<=32):OkA (QDe n k):=⟨by simpa[QDe]using h,by show(-1:Int)<= -1;omega,by show(-1:Int)<=_;omega⟩
theorem QA8(s:StA)(d n:Int)(b:τ):(Q70 s d n b).M.length=s.M.length:=by
 unfold Q70
 split
 ·rfl
 split
 ·split
  ·simp
  ·rfl
 ·rfl
theorem Q5f(s:StA)(c:QB4):(QQ1 s c).M.length=s.M.length:=by
 unfold QQ1
 split
 ·exact QA8 _ _ _ _
 split
 ·split
  ·rfl
  ·exact Qp5 _ _
 split
 ·split<;>rfl
 split
 ·exact Qj5 _ _ _
 split
 ·exact(QP3 _ _ _).1
 split
 ·exact(QP3 _ _ _).1
 split
 ·exact(QP3 _ _ _).1
 ·rfl
theorem QV0.base_le{w:World}{base base':Nat}{p:σ}{l c:Nat}{L:SM}(h:QV0 w base p l c L)(hb:base'<=base):QV0 w base' p l c L:=by
 obtain⟨vs,a,d,e⟩:=h;exact⟨vs,QP1 a fun v x f=>f.base_le hb,d.base_le hb,e⟩
theorem QZ3.length{w:World}{base:Nat}{p:σ}{l c:Nat}{LL:List SM}(h:QZ3 w base p l c LL):l=LL.length:=by
 obtain⟨_,_,_,h⟩:=h;exact h
theorem Ql.few{w:World}{a:Nat}{M:List Mem}{left:Int}{down:Bool}{F:Nat->Prop}(h:Ql w a M left down F){i:Nat}{m:Mem}(hi:M[i]? =some m):m.d.lasts.length<=4096/\m.d.waits.length<=4096:=by
 obtain⟨_,_,_,_,_,_,_,_,e,_⟩:=h.at hi;exact QRi e.ok e.asc
structure Two(w:World)(base:Nat)(p:σ)(l c:Nat)(q:σ)(m d:Nat)(LL WW:List SM):Prop where
 one:QZ3 w base p l c LL
 two:QZ3 w base q m d WW
 apart:∀g,p=some (at0 g)->q≠some (at0 g)
theorem Two.nil(w:World)(base:Nat):Two w base none 0 0 none 0 0 [] []:=⟨QZ3.nil _ _,QZ3.nil _ _,fun g h=>by cases h⟩
theorem Two.upd{S:Nat->Prop}{w w':World}{base:Nat}{p:σ}{l c:Nat}{q:σ}{m d:Nat}{LL WW:List SM}(h:Two w base p l c q m d LL WW)(a:Upd S w w')(hS:∀y,base<=y->y<w.heap.size->¬S y):
  Two w' base p l c q m d LL WW:=⟨h.one.upd a hS,h.two.upd a hS,h.apart⟩
theorem Two.ext{w w':World}{base:Nat}{p:σ}{l c:Nat}{q:σ}{m d:Nat}{LL WW:List SM}(h:Two w base p l c q m d LL WW)(a:Ext w w'):Two w' base p l c q m d LL WW:=h.upd a fun _ _ _ h=>h
open Go Go.Vc
open Go.IntKind (i64)
open Go.Value (int)
open Go.Proofs.Tryz (prog)
theorem Q88{c:Bool}{A X Q:Prop}(d:c=true->(Q->X)->A)(e:c=false->Q)(a:Q->X):Q9 c A X:=
 Q0 (fun h=>d h a) fun h=>a (e h)
theorem QHj{p:σ}{a:Addr}{K:Addr->Prop}(h:p=some a)(d:K a):Qv0 p K:=by
 subst h;exact d
theorem QVi{k:Int}{bs:τ}{A C B:SM}(d:∀x∈A,x.1<k)(e:∀x∈C,x.1=k)(f:∀x∈B,k<x.1):ins k bs (A++C++B)=A++(k,bs)::B:=by
 unfold ins;have g:A.filter (fun y=>decide (y.1<k))=A:=List.filter_eq_self.2 fun x a=>by simpa using d x a
 have h:A.filter (fun y=>decide (k<y.1))=[]:=List.filter_eq_nil_iff.2 fun x a=>by have:=d x a;simp;omega
 have c1:C.filter (fun y=>decide (y.1<k))=[]:=List.filter_eq_nil_iff.2 fun x a=>by have:=e x a;simp;omega
 have c2:C.filter (fun y=>decide (k<y.1))=[]:=List.filter_eq_nil_iff.2 fun x a=>by have:=e x a;simp;omega
 have i:B.filter (fun y=>decide (y.1<k))=[]:=List.filter_eq_nil_iff.2 fun x a=>by have:=f x a;simp;omega
 have j:B.filter (fun y=>decide (k<y.1))=B:=List.filter_eq_self.2 fun x a=>by simpa using f x a
 simp only[List.filter_append,g,h,c1,c2,i,j,List.append_nil,List.nil_append]
theorem QT4:∀{vs:List Value}{L:SM}{us:List Value}{M:SM},vs.length=L.length->Qd (vs++us) (L++M)=Qd vs L++Qd us M
 | [],[],_,_,_=>rfl
 |v::vs,x::L,us,M,h=>by
  have:=QT4 (vs:=vs) (L:=L) (us:=us) (M:=M) (by simpa using h);simp only[List.cons_append,Qd,this]
theorem Q34:∀(j:Nat){vs:List Value}{L:SM},vs.length=L.length->(Qd vs L).drop (j*2)=Qd (vs.drop j) (L.drop j)
 |0,_,_,_=>by simp
 |j+1,[],[],_=>by simp[Qd]
 |j+1,v::vs,x::L,h=>by
  have:=Q34 j (vs:=vs) (L:=L) (by simpa using h);rw[show(j+1)*2=j*2+1+1 by omega];simpa[Qd]using this
theorem Q44:∀(j:Nat){vs:List Value}{L:SM},vs.length=L.length->(Qd vs L).take (j*2)=Qd (vs.take j) (L.take j)
 |0,_,_,_=>by simp[Qd]
 |j+1,[],[],_=>by simp[Qd]
 |j+1,v::vs,x::L,h=>by
  have:=Q44 j (vs:=vs) (L:=L) (by simpa using h);rw[show(j+1)*2=j*2+1+1 by omega];simpa[Qd]using this
theorem QV8{R:Value->Int×τ->Prop}(d:∀v x,R v x->∃p l c,v= .slice p l c){vs:List Value}{L:SM}(h:QA2 R vs L):∀u∈Qd vs L,u.oneCell'=true:=by
 induction h with
 |nil=>intro u a;cases a
 |cons h _ ih=>
  intro u a;obtain⟨p,l,c,rfl⟩:=d _ _ h;simp only[Qd,List.mem_cons]at a;rcases a with rfl|rfl|a
  ·rfl
  ·rfl
  ·exact ih u a
theorem QTe{α β:Type}{R:α->β->Prop}{xs:List α}{bs:List β}(h:QA2 R xs bs):∀j,QA2 R (xs.take j) (bs.take j):=by
 induction h with
 |nil=>intro j;simp;exact .nil
 |cons h _ ih=>
  intro j;cases j with
  |zero=>exact .nil
  |succ j=>exact .cons h (ih j)
theorem QSe{α β:Type}{R:α->β->Prop}{xs:List α}{bs:List β}(h:QA2 R xs bs):∀j,QA2 R (xs.drop j) (bs.drop j):=by
 induction h with
 |nil=>intro j;simp;exact .nil
 |cons h a ih=>
  intro j;cases j with
  |zero=>exact .cons h a
  |succ j=>exact ih j
theorem QI4{w:World}{p:σ}{xs:List Value}(h:Qa w p xs){c j:Nat}(d:c=j->xs.drop (j*2)=[]):Qa w (QT0 p c j 2) (xs.drop (j*2)):=by
 unfold QT0
 split
 ·rename_i e
  rw[d e];exact Qa.nil _ _
 ·cases p with
  |none=>
   intro i u hi;rw[List.getElem?_drop]at hi;obtain⟨a,ha,_⟩:=h _ u hi;cases ha
  |some a=>exact h.drop (j*2)
theorem QK4{p:σ}{c j:Nat}(h:QT0 p c j 2=none):p=none:=by
 unfold QT0 at h
 split at h
 ·exact h
 ·cases p with
  |none=>rfl
  |some a=>cases h
def QE2(w:World)(G:Nat->Prop)(p:σ)(l c:Nat)(L:SM):Prop:=
 l=L.length/\l<=c/\(p=none->l=0)/\(∀a,p=some a->G a.block)/\∃vs,QA2 (fun v (x:Int×τ)=>Qn G w v x.2) vs L/\Qa w p (Qd vs L)
theorem Qx0{w0 w:World}(j:Ext w0 w){p:σ}{n c:Nat}{xs:List Value}(h:Q5 w w0.heap.size 52 2 p n c xs){q:σ}{m d:Nat}{news:List Value}(l:news.length=m*2)
  (o:Qa w q news) (f:q=none->m=0) (r:∀u∈news,u.oneCell'=true) (hb:n+m<=9000):
  ∃a e w',Sem.run prog (Builtin.append_ #[49,49] 49 #[.slice p n c, .slice q m d]) w= .ok (.slice a (n+m) e) w'/\Q5 w' w0.heap.size 52 2 a (n+m) e (xs++news)∧
   Ext w0 w'/\Upd (fun b=>p=some (at0 b)) w w':=by
 obtain⟨a,e,w',s,t,k,_⟩:=h.append Qrk 49 (q:=q) (m:=m) (d:=d) (news:=news) l o f r (by unfold maxLen;omega) (by omega) j.size;refine⟨a,e,w',s,t,?_,k⟩;refine Upd.trans j k fun x v hs=> ?_;rcases h.where_ with⟨i,_⟩|⟨g,i,y,_⟩
 ·rw[i]at hs;cases hs
 ·rw[i]at hs
  simp only[Zi,at0,Zv,and_true]at hs;omega
theorem Q2f{w:World}{k:Nat}{a b:Value}{e:TypeId}{fz:Nat×Nat}(h:w.heap[k]? =some (.cells #[a,b] e fz)):Qa w (some (at0 k)) [a,b]:=by
 intro j u d;refine⟨_,rfl,?_⟩
 match j,d with
 |0,d=>cases d;simp[World.cell?,Addr.add,h]
 |1,d=>cases d;simp[World.cell?,Addr.add,h]
theorem QE9{L:SM}(ha:Asc L){k:Int}{i:Nat}{x:Int×τ}(e:L[i]? =some x)(h:k<=x.1):∀y∈L.drop (i+1),k<y.1:=by
 intro y g;have a:i<L.length:=(Zd.1 e).1;have d:L[i]=x:=(Zd.1 e).2;have f:Asc (L.drop i):=List.Pairwise.sublist (List.drop_sublist i L) ha;rw[List.drop_eq_getElem_cons a,d]at f;have:=(List.pairwise_cons.1 f).1 y g;omega
theorem Q85{w:World}{G:Nat->Prop}{p:σ}{l c:Nat}{L:SM}(h:QE2 w G p l c L)(ha:Asc L)(di:L.length<=4096)(k:Int){pv:σ}{lv cv:Nat}{bs:τ}(hv:Qn G w (.slice pv lv cv) bs):
  Calls prog 163 #[.slice p l c, .agg #[int i64 k, .slice pv lv cv]] w fun e w'=>∃p' l' c',e= .returned (.slice p' l' c')/\Ext w w'∧
   QE2 w' (fun x=>G x\/(w.heap.size<=x/\x<w'.heap.size)) p' l' c' (ins k bs L):=by
 refine(F163_calls p l c k pv lv cv w (fun v w'=>∃p' l' c',v= .slice p' l' c'/\Ext w w'/\QE2 w' (fun x=>G x\/(w.heap.size<=x/\x<w'.heap.size)) p' l' c' (ins k bs L))
  (fun _ w5 n w8=>∃i:Nat,n=i/\i<=l/\Ext w5 w8/\∀x∈L.take i,x.1<k) (fun _ _ n _=>4096-n.toNat) ?_).mono (by rintro e w' ⟨v,rfl,p',l',c',rfl,h⟩;exact⟨p',l',c',rfl,h⟩)
 obtain⟨hl,dk,bp,dl,vs,aq,I⟩:=h;have P:vs.length=L.length:=aq.length;have ar:=QV8 (fun v x (h:Qn G w v x.2)=>by obtain⟨p,n,c,rfl,_⟩:=h;exact⟨p,n,c,rfl⟩) aq;intro k4 w5 cm;have W:=cm.ext;have r5:RowW w5 k4 _:=⟨_,cm.at⟩;refine⟨⟨0,rfl,Nat.zero_le _,Upd.refl _ _,by simp⟩,?_⟩;rintro n7 w8 ⟨i,rfl,hi,x8,bq⟩
 intros
 rename_i cn cu;have bg:=x8.trans cu.ext;have row:∀w',Ext w5 w'->w'.cell? ((at0 k4).add 0)=some (int i64 k)/\w'.cell? ((at0 k4).add 1)=some (.slice pv lv cv):=fun w' U=>by
  have:=U.rowW r5 id;exact⟨this.c rfl,this.c rfl⟩
 have st:∀w',Ext w5 w'->∃n,w'.cell? (at0 k4)=some (int i64 n)/\∃p l c,w'.cell? ((at0 k4).add 1)=some (.slice p l c)/\(Value.agg #[int i64 n, .slice p l c])=(Value.agg #[int i64 k, .slice pv lv cv]):=
  fun w' U=>⟨k,(row w' U).1,pv,lv,cv,(row w' U).2,rfl⟩
 have cellK:∀j x,L[j]? =some x->∀w',Ext w5 w'->∃a,p=some a/\w'.cell? ((a.add (j*2)).add 0)=some (int i64 x.1):=by
  intro j x U w' bh;obtain⟨v,cw,_⟩:=QE8 aq U;obtain⟨a,V,hc⟩:=(I.ext (W.trans bh)) _ _ (Qn2 cw U).1;exact⟨a,V,by rw[QB,Nat.add_zero,Nat.mul_comm];exact hc⟩
 have B:((Qd vs L).take (i*2)).length=i*2:=by rw[List.length_take,QP P];omega
 have R:∀w',Ext w w'->Qa w' (QT0 p c 0 2) ((Qd vs L).take (i*2)):=fun w' U=>by
  have:=QI4 (I.ext U) (c:=c) (j:=0) (fun e=>by
   have:L.length=0:=by omega
   have:(Qd vs L).length=0:=by rw[QP P];omega
   rw[Zk this];rfl)
  rw[Nat.zero_mul,List.drop_zero]at this;exact this.take _
 have C:QT0 p c 0 2=none->i=0:=fun e=>by have:=bp (QK4 e);omega
 have D:∀u∈(Qd vs L).take (i*2),u.oneCell'=true:=fun u hu=>ar u (List.mem_of_mem_take hu);have E:∀u∈ [int i64 k, .slice pv lv cv],u.oneCell'=true:=by
  intro u hu;simp only[List.mem_cons,List.not_mem_nil,or_false]at hu;rcases hu with rfl|rfl<;>rfl
 have box:∀{w':World}{kk:Nat}{e:TypeId}{fz:Nat×Nat},w'.heap[kk]? =some (.cells #[int i64 k, .slice pv lv cv] e fz)->Qa w' (some (at0 kk)) [int i64 k, .slice pv lv cv]:=fun h=>Q2f h;have bm:∀j,i<=j->j<=L.length->ins k bs L=L.take i++(k,bs)::L.drop j->∀w' p' n' c',Ext w5 w'->Q5 w' w5.heap.size 52 2 p' n' c' ([]++(Qd vs L).take (i*2)++ [int i64 k, .slice pv lv cv]++(Qd vs L).drop (j*2))→
   ∃p'' l'' c'',Value.slice p' n' c'= .slice p'' l'' c''/\Ext w w'/\QE2 w' (fun x=>G x\/(w.heap.size<=x/\x<w'.heap.size)) p'' l'' c'' (ins k bs L):=by
  intro j dq hj J w' p' n' c' U ho;have xw:=W.trans U;rw[Q44 i P,Q34 j P]at ho;have e1: []++Qd (vs.take i) (L.take i)++ [int i64 k, .slice pv lv cv]++Qd (vs.drop j) (L.drop j)=Qd (vs.take i++ .slice pv lv cv::vs.drop j) (L.take i++(k,bs)::L.drop j):=by
   rw[QT4 (by simp[P]),List.nil_append,List.append_assoc];rfl
  rw[e1]at ho;have bt:∀v (b:τ),Qn G w v b->Qn (fun x=>G x\/(w.heap.size<=x/\x<w'.heap.size)) w' v b:=fun v b hv=>(hv.upd xw fun _ _ h=>h).mono fun x U=> .inl U;have bu:n'=(ins k bs L).length:=by
   have:=ho.length;rw[QP (by simp[P])]at this;rw[J];omega
  refine⟨p',n',c',rfl,xw,bu,?_,?_,?_,vs.take i++ .slice pv lv cv::vs.drop j,?_,?_⟩
  ·rcases ho.where_ with⟨_,h0,h1⟩|⟨g,_,_,_,h1,_⟩
   ·omega
   ·exact h1
  ·intro h0
   rcases ho.where_ with⟨_,h1,_⟩|⟨g,h1,_⟩
   ·exact h1
   ·rw[h0]at h1;cases h1
  ·intro a V
   rcases ho.where_ with⟨h1,_⟩|⟨g,h1,au,ak,_⟩
   ·rw[h1]at V;cases V
   ·rw[h1]at V;cases V
    exact .inr ⟨Zu W.size au,ak⟩
  ·rw[J]
   exact(QP1 (QTe aq i) fun v x hv=>bt v x.2 hv).append (.cons (bt _ _ hv) (QP1 (QSe aq j) fun v x hv=>bt v x.2 hv))
  ·rw[J]
   exact ho.cells
 refine Q88 (Q:=i=l\/∃x,L[i]? =some x/\k<=x.1) (fun ak hX=> ?_) (fun au=> ?_) (fun bv=> ?_)
 ·simp only[Za]at ak
  obtain⟨x,F⟩:∃x,L[i]? =some x:=⟨L[i]'(by omega),Zc _⟩;obtain⟨a,rfl,hc⟩:=cellK i x F cn bg;rw[Ze];refine⟨⟨by omega,ak⟩,_,hc,k,(row cn bg).1,Q0 (fun hk=> ?_) (fun hk=> ?_)⟩
  ·simp only[Za]at hk
   rw[w64 (by omega)];refine⟨⟨i+1,by omega,by omega,bg,fun y S=> ?_⟩,by show 4096-((i:Int)+1).toNat<4096-(i:Int).toNat;omega⟩;rw[Zn,F]at S;rcases List.mem_append.1 S with S|S
   ·exact bq y S
   ·simp at S;subst S;exact hk
  ·simp only[Zb]at hk
   exact hX (.inr ⟨x,F,by omega⟩)
 ·simp only[Zb]at au
  exact .inl (by omega)
 refine⟨⟨by omega,by omega⟩,?_⟩;intro cr cz;have bi:=bg.trans cz.ext;simp only[Ze,Nat.sub_zero];refine Q88 (Q:=∀y∈L.drop i,k<y.1) (fun ak hX=> ?_) (fun au=> ?_) (fun bj=> ?_)
 ·simp only[Za]at ak
  obtain⟨x,F⟩:∃x,L[i]? =some x:=⟨L[i]'(by omega),Zc _⟩;have cs:k<=x.1:=by
   rcases bv with h0|⟨x',bh,hk⟩
   ·omega
   ·rw[F]at bh;cases bh;exact hk
  obtain⟨a,V,hc⟩:=cellK i x F cr bi;have c0:¬c=i:=by omega
  have ct:QT0 p c i 2=some (a.add (i*2)):=by rw[V];unfold QT0;rw[if_neg c0];rfl
  refine⟨⟨by omega,by omega⟩,QHj ct ?_⟩;refine⟨_,hc,k,(row cr bi).1,Q0 (fun hk=> ?_) (fun hk=> ?_)⟩
  ·simp only[Za]at hk
   refine⟨⟨by omega,by omega⟩,?_⟩;intro aw bw;have K:=bi.trans bw.ext;refine⟨⟨by omega,by omega⟩,k,(row aw K).1,pv,lv,cv,(row aw K).2,?_⟩;have ax:i<L.length:=(Zd.1 F).1;have J:ins k bs L=L.take i++(k,bs)::L.drop (i+1):=by
    have e:L=L.take i++ [x]++L.drop (i+1):=by
     rw[List.append_assoc];have:L[i]=x:=(Zd.1 F).2;rw[←this,List.singleton_append,←List.drop_eq_getElem_cons ax,List.take_append_drop]
    conv=>lhs;rw[e]
    exact QVi bq (fun y S=>by simp at S;subst S;exact hk) (QE9 ha F cs)
   have fin:=bm (i+1) (by omega) (by omega) J;have f:((Qd vs L).drop ((i+1)*2)).length=(l-i-1)*2:=by rw[List.length_drop,QP P];omega
   have t:∀w',Ext w w'->Qa w' (QT0 (QT0 p c i 2) (c-i) 1 2) ((Qd vs L).drop ((i+1)*2)):=fun w' U=>by
    have h1:=QI4 (I.ext U) (c:=c) (j:=i) (fun e=>by omega)
    have h2:=QI4 h1 (c:=c-i) (j:=1) (fun e=>by
     apply Zk
     rw[List.length_drop,List.length_drop,QP P];omega)
    rw[List.drop_drop]at h2;rw[show(i+1)*2=i*2+1*2 by omega];exact h2
   have o:QT0 (QT0 p c i 2) (c-i) 1 2=none->l-i-1=0:=fun e=>by have:=bp (QK4 (QK4 e));omega
   have r:∀u∈(Qd vs L).drop ((i+1)*2),u.oneCell'=true:=fun u hu=>ar u (List.mem_of_mem_drop hu);refine⟨fun bx bz z=> ?_,fun b0 c5 M ay b1 s=> ?_⟩
   ·have T:=K.trans z.ext
    have N:Q5 bz w5.heap.size 52 2 (some (at0 bx)) 0 0 []:=Q5.made z (by rw[z.size.1];exact K.size) (Nat.le_refl _) (by unfold maxLen;omega) rfl;refine⟨st _ T,?_,fun b2 c6 A=> ?_⟩
    ·obtain⟨az,a0,w64,b3,X,a1,_⟩:=Qx0 T N (q:=QT0 p c 0 2) (m:=i) (d:=c) B (R _ (W.trans T)) C D (by omega)
     refine⟨_,_,_,_,b3,st _ a1,fun b4 c7 O=> ?_⟩;obtain⟨a2,a3,c8,b5,Y,a4,_⟩:=Qx0 (a1.trans O.ext) (X.ext O.ext) (q:=some (at0 b4)) (m:=1) (d:=1) rfl (box O.at) (fun h=>by cases h) E (by omega);refine⟨_,_,_,_,b5,?_⟩;obtain⟨a5,a6,c9,b6,Z,b7,_⟩:=Qx0 a4 Y (q:=QT0 (QT0 p c i 2) (c-i) 1 2) (m:=l-i-1) (d:=c-i-1) (f) (t _ (W.trans a4)) o r (by omega);exact⟨_,_,_,_,b6,fin _ _ _ _ b7 Z⟩
    ·have a7:=T.trans A.ext
     obtain⟨az,a0,da,b8,aa,a8,b9⟩:=Qx0 a7 (N.ext A.ext) (q:=QT0 p c 0 2) (m:=i) (d:=c) B (R _ (W.trans a7)) C D (by omega);refine⟨_,_,_,_,b8,st _ a8,?_⟩;have a9:=b9.keep A.at (by intro e;simp only[Zi,at0,Zv,and_true]at e;have:=A.size.1;have:=z.size;omega);obtain⟨a2,a3,db,ca,ab,ba,_⟩:=Qx0 a8 aa (q:=some (at0 b2)) (m:=1) (d:=1) rfl (box a9) (fun h=>by cases h) E (by omega);refine⟨_,_,_,_,ca,?_⟩;obtain⟨a5,a6,dc,cb,ac,cc,_⟩:=Qx0 ba ab (q:=QT0 (QT0 p c i 2) (c-i) 1 2) (m:=l-i-1) (d:=c-i-1) (f) (t _ (W.trans ba)) o r (by omega);exact⟨_,_,_,_,cb,fin _ _ _ _ cc ac⟩
   ·have bb:=K.trans M.ext
    have ad:=bb.trans s.ext;have ae:Q5 b1 w5.heap.size 52 2 (some (at0 ay)) 0 0 []:=Q5.made s (by rw[s.size.1];exact bb.size) (Nat.le_refl _) (by unfold maxLen;omega) rfl;obtain⟨az,a0,de,r42,af,bc,cf⟩:=Qx0 ad ae (q:=QT0 p c 0 2) (m:=i) (d:=c) B (R _ (W.trans ad)) C D (by omega);refine⟨st _ ad,_,_,_,_,r42,st _ bc,?_⟩;have be:=cf.keep (s.ext.keep M.at) (by intro e;simp only[Zi,at0,Zv,and_true]at e;have:=M.size;have:=s.size.1;omega);obtain⟨a2,a3,df,cg,ah,bf,_⟩:=Qx0 bc af (q:=some (at0 b0)) (m:=1) (d:=1) rfl (box be) (fun h=>by cases h) E (by omega);refine⟨_,_,_,_,cg,?_⟩;obtain⟨a5,a6,dg,ch,ai,ci,_⟩:=Qx0 bf ah (q:=QT0 (QT0 p c i 2) (c-i) 1 2) (m:=l-i-1) (d:=c-i-1) (f) (t _ (W.trans bf)) o r (by omega);exact⟨_,_,_,_,ch,fin _ _ _ _ ci ai⟩
  ·simp only[Zb]at hk
   refine hX fun y S=> ?_;have ax:i<L.length:=(Zd.1 F).1;have dh:L[i]=x:=(Zd.1 F).2;rw[List.drop_eq_getElem_cons ax,dh]at S;rcases List.mem_cons.1 S with rfl|S
   ·omega
   ·exact QE9 ha F cs y S
 ·simp only[Zb]at au
  have:L.drop i=[]:=List.drop_eq_nil_of_le (by omega);rw[this];intro y S;cases S
 ·intro aw bw
  have K:=bi.trans bw.ext;refine⟨⟨by omega,by omega⟩,k,(row aw K).1,pv,lv,cv,(row aw K).2,?_⟩;have J:ins k bs L=L.take i++(k,bs)::L.drop i:=by
   have e:L=L.take i++ []++L.drop i:=by simp
   conv=>lhs;rw[e]
   exact QVi bq (fun y S=>by cases S) bj
  have fin:=bm i (Nat.le_refl _) (by omega) J;have f:((Qd vs L).drop (i*2)).length=(l-i)*2:=by rw[List.length_drop,QP P];omega
  have t:∀w',Ext w w'->Qa w' (QT0 p c i 2) ((Qd vs L).drop (i*2)):=fun w' U=>
   QI4 (I.ext U) (c:=c) (j:=i) (fun e=>by
    apply Zk
    rw[List.length_drop,QP P];omega)
  have o:QT0 p c i 2=none->l-i=0:=fun e=>by have:=bp (QK4 e);omega
  have r:∀u∈(Qd vs L).drop (i*2),u.oneCell'=true:=fun u hu=>ar u (List.mem_of_mem_drop hu);refine⟨fun bx bz z=> ?_,fun b0 c5 M ay b1 s=> ?_⟩
  ·have T:=K.trans z.ext
   have N:Q5 bz w5.heap.size 52 2 (some (at0 bx)) 0 0 []:=Q5.made z (by rw[z.size.1];exact K.size) (Nat.le_refl _) (by unfold maxLen;omega) rfl;refine⟨st _ T,?_,fun b2 c6 A=> ?_⟩
   ·obtain⟨az,a0,w64,b3,X,a1,_⟩:=Qx0 T N (q:=QT0 p c 0 2) (m:=i) (d:=c) B (R _ (W.trans T)) C D (by omega)
    refine⟨_,_,_,_,b3,st _ a1,fun b4 c7 O=> ?_⟩;obtain⟨a2,a3,c8,b5,Y,a4,_⟩:=Qx0 (a1.trans O.ext) (X.ext O.ext) (q:=some (at0 b4)) (m:=1) (d:=1) rfl (box O.at) (fun h=>by cases h) E (by omega);refine⟨_,_,_,_,b5,?_⟩;obtain⟨a5,a6,c9,b6,Z,b7,_⟩:=Qx0 a4 Y (q:=QT0 p c i 2) (m:=l-i) (d:=c-i) (f) (t _ (W.trans a4)) o r (by omega);exact⟨_,_,_,_,b6,fin _ _ _ _ b7 Z⟩
   ·have a7:=T.trans A.ext
    obtain⟨az,a0,da,b8,aa,a8,b9⟩:=Qx0 a7 (N.ext A.ext) (q:=QT0 p c 0 2) (m:=i) (d:=c) B (R _ (W.trans a7)) C D (by omega);refine⟨_,_,_,_,b8,st _ a8,?_⟩;have a9:=b9.keep A.at (by intro e;simp only[Zi,at0,Zv,and_true]at e;have:=A.size.1;have:=z.size;omega);obtain⟨a2,a3,db,ca,ab,ba,_⟩:=Qx0 a8 aa (q:=some (at0 b2)) (m:=1) (d:=1) rfl (box a9) (fun h=>by cases h) E (by omega);refine⟨_,_,_,_,ca,?_⟩;obtain⟨a5,a6,dc,cb,ac,cc,_⟩:=Qx0 ba ab (q:=QT0 p c i 2) (m:=l-i) (d:=c-i) (f) (t _ (W.trans ba)) o r (by omega);exact⟨_,_,_,_,cb,fin _ _ _ _ cc ac⟩
  ·have bb:=K.trans M.ext
   have ad:=bb.trans s.ext;have ae:Q5 b1 w5.heap.size 52 2 (some (at0 ay)) 0 0 []:=Q5.made s (by rw[s.size.1];exact bb.size) (Nat.le_refl _) (by unfold maxLen;omega) rfl;obtain⟨az,a0,de,r42,af,bc,cf⟩:=Qx0 ad ae (q:=QT0 p c 0 2) (m:=i) (d:=c) B (R _ (W.trans ad)) C D (by omega);refine⟨st _ ad,_,_,_,_,r42,st _ bc,?_⟩;have be:=cf.keep (s.ext.keep M.at) (by intro e;simp only[Zi,at0,Zv,and_true]at e;have:=M.size;have:=s.size.1;omega);obtain⟨a2,a3,df,cg,ah,bf,_⟩:=Qx0 bc af (q:=some (at0 b0)) (m:=1) (d:=1) rfl (box be) (fun h=>by cases h) E (by omega);refine⟨_,_,_,_,cg,?_⟩;obtain⟨a5,a6,dg,ch,ai,ci,_⟩:=Qx0 bf ah (q:=QT0 p c i 2) (m:=l-i) (d:=c-i) (f) (t _ (W.trans bf)) o r (by omega);exact⟨_,_,_,_,ch,fin _ _ _ _ ci ai⟩
open Go Go.Vc
open Go.IntKind (i64)
open Go.Value (int)
open Go.Proofs.Tryz (prog)
theorem Qxl{w w':World}{a:Addr}{v:Value}(h:w.cell? a=some v)(d:Ext w w'):w'.cell? a=some v:=Upd.cell d h id
theorem QE2.upd{S G:Nat->Prop}{w w':World}{p:σ}{l c:Nat}{L:SM}(h:QE2 w G p l c L)(d:Upd S w w')(hS:∀x,G x->¬S x):QE2 w' G p l c L:=by
 obtain⟨f,g,i,e,vs,j,k⟩:=h;exact⟨f,g,i,e,vs,QP1 j fun v x m=>m.upd d hS,k.upd d fun a ha _=>hS _ (e a ha)⟩
theorem QE2.ext{G:Nat->Prop}{w w':World}{p:σ}{l c:Nat}{L:SM}(h:QE2 w G p l c L)(a:Ext w w'):QE2 w' G p l c L:=h.upd a fun _ _ h=>h
theorem QE2.mono{G G':Nat->Prop}{w:World}{p:σ}{l c:Nat}{L:SM}(h:QE2 w G p l c L)(d:∀x,G x->G' x):QE2 w G' p l c L:=by
 obtain⟨e,f,g,i,vs,j,k⟩:=h;exact⟨e,f,g,fun a ha=>d _ (i a ha),vs,QP1 j fun v x m=>m.mono d,k⟩
theorem QE2.nil(w:World)(G:Nat->Prop):QE2 w G none 0 0 []:=⟨rfl,Nat.le_refl _,fun _=>rfl,fun a h=>(by cases h),[], .nil,Qa.nil _ _⟩
theorem QE2.at{G:Nat->Prop}{w:World}{p:σ}{l c:Nat}{L:SM}(h:QE2 w G p l c L){i:Nat}{x:Int×τ}(g:L[i]? =some x):
  ∃a q n e,p=some a/\w.cell? (a.add (i*2))=some (int i64 x.1)/\w.cell? ((a.add (i*2)).add 0)=some (int i64 x.1)/\w.cell? ((a.add (i*2)).add 1)=some (.slice q n e)/\Qn G w (.slice q n e) x.2:=by
 obtain⟨s,t,u,y,vs,m,j⟩:=h;obtain⟨v,o,hs⟩:=QE8 m g;obtain⟨c1,c2⟩:=Qn2 o g;obtain⟨a,ha,k⟩:=j _ _ c1;obtain⟨z,d,r⟩:=j _ _ c2;rw[ha]at d;cases d;have f:=hs;obtain⟨q,n,e,rfl,_⟩:=hs;exact⟨a,q,n,e,ha,by rw[Nat.mul_comm];exact k,by rw[QB,Nat.add_zero,Nat.mul_comm];exact k,by rw[QB,Nat.mul_comm];exact r,f⟩
theorem QE2.read{G:Nat->Prop}{w:World}{p:σ}{l c:Nat}{L:SM}(h:QE2 w G p l c L)(d:L.length<=4096):QZa w p l L:=by
 refine⟨h.1,by rw[h.1];exact d,fun i x hi=> ?_⟩;obtain⟨a,q,n,e,f,_,g,j,o,r,c'',k,hb,_,m,_⟩:=h.at hi;cases k;exact⟨a,q,n,e,f,g,j,hb,m⟩
def Qh0(w:World)(b:Nat)(D:Dk)(G:Nat->Prop):Prop:=
 ∃pL lL cL pW lW cW,RowW w b #[int i64 D.sectors, .slice pL lL cL, .slice pW lW cW, .bool D.dead]/\QE2 w G pL lL cL D.lasts/\QE2 w G pW lW cW D.waits/\Asc D.lasts/\Asc D.waits/\¬G b/\∀x,G x->x<w.heap.size
theorem Qh0.upd{S G:Nat->Prop}{w w':World}{b:Nat}{D:Dk}(h:Qh0 w b D G)(a:Upd S w w')(hS:∀x,S x->¬(x=b\/G x)):Qh0 w' b D G:=by
 obtain⟨pL,lL,cL,pW,lW,cW,f,g,i,j,k,l,m⟩:=h;have e:∀x,G x->¬S x:=fun x d hs=>hS x hs (.inr d);exact⟨pL,lL,cL,pW,lW,cW,a.rowW f fun hs=>hS _ hs (.inl rfl),g.upd a e,i.upd a e,j,k,l,fun x d=>Zo (m x d) a.size⟩
theorem Qh0.ext{G:Nat->Prop}{w w':World}{b:Nat}{D:Dk}(h:Qh0 w b D G)(a:Ext w w'):Qh0 w' b D G:=h.upd a fun _ h=>h.elim
theorem Qh0.lt{G:Nat->Prop}{w:World}{b:Nat}{D:Dk}(h:Qh0 w b D G):b<w.heap.size:=by
 obtain⟨_,_,_,_,_,_,a,_⟩:=h;exact a.lt
theorem Q31{w w':World}{b j:Nat}{v:Value}(h:Qt w ((at0 b).add j) v w'):Upd (fun x=>x=b) w w':=by
 have:=h.upd;rw[QJ]at this;exact this
theorem Qh0.setW{w w1 w':World}{b:Nat}{D:Dk}{G G':Nat->Prop}(h:Qh0 w b D G)(a:Ext w w1){p:σ}{l c:Nat}{L:SM}(hL:QE2 w1 G' p l c L)(e:∀x,G x->G' x)(hb:¬G' b)(f:∀x,G' x->x<w1.heap.size)
  (ha:Asc L) (hs:Qt w1 ((at0 b).add 2) (.slice p l c) w'):Qh0 w' b {D with waits:=L} G'/\Upd (fun x=>x=b) w w':=by
 obtain⟨pL,lL,cL,pW,lW,cW,i,j,m,k,n,o,q⟩:=h;have d:=Q31 hs;have g:∀x,G' x->¬(x=b):=by rintro x a rfl;exact hb a
 refine⟨⟨pL,lL,cL,p,l,c,hs.row (a.rowW i id),((j.ext a).mono e).upd d g,hL.upd d g,k,ha,hb,fun x a=>Zo (f x a) d.size⟩,?_⟩;exact Upd.trans (a.upd (S:=fun x=>x=b)) d fun _ _ h=>h
theorem Qh0.setL{w w1 w':World}{b:Nat}{D:Dk}{G G':Nat->Prop}(h:Qh0 w b D G)(a:Ext w w1){p:σ}{l c:Nat}{L:SM}(hL:QE2 w1 G' p l c L)(e:∀x,G x->G' x)(hb:¬G' b)(f:∀x,G' x->x<w1.heap.size)
  (ha:Asc L) (hs:Qt w1 ((at0 b).add 1) (.slice p l c) w'):Qh0 w' b {D with lasts:=L} G'/\Upd (fun x=>x=b) w w':=by
 obtain⟨pL,lL,cL,pW,lW,cW,i,m,j,n,k,o,q⟩:=h;have d:=Q31 hs;have g:∀x,G' x->¬(x=b):=by rintro x a rfl;exact hb a
 refine⟨⟨p,l,c,pW,lW,cW,hs.row (a.rowW i id),hL.upd d g,((j.ext a).mono e).upd d g,ha,k,hb,fun x a=>Zo (f x a) d.size⟩,?_⟩;exact Upd.trans (a.upd (S:=fun x=>x=b)) d fun _ _ h=>h
theorem Qol{n:Int}(h:n<1\/4096<n)(w:World):Calls prog 49 #[int i64 n] w fun e w'=>e= .returned (.tuple #[.pointer none,int i64 1])/\w'=w:=by
 refine(F49_calls n w (fun v w'=>v= .tuple #[.pointer none,int i64 1]/\w'=w) ?_).mono (by rintro e w' ⟨v,rfl,rfl,h⟩;exact⟨rfl,h⟩);refine Q0 (fun _=>⟨rfl,rfl⟩) (fun a=>Q0 (fun _=>⟨rfl,rfl⟩) (fun d=> ?_));simp only[Zb]at a d;omega
theorem QHg{n:Int}(h:1<=n/\n<=4096)(w:World):Calls prog 49 #[int i64 n] w fun e w'=>∃b,e= .returned (.tuple #[.pointer (some (at0 b)),int i64 0])/\Ext w w'/\Qh0 w' b ⟨n,[],[],false⟩ (fun _=>False)/\w.heap.size<=b:=by
 refine(F49_calls n w (fun v w'=>∃b,v= .tuple #[.pointer (some (at0 b)),int i64 0]/\Ext w w'/\Qh0 w' b ⟨n,[],[],false⟩ (fun _=>False)/\w.heap.size<=b) ?_).mono (by rintro e w' ⟨v,rfl,b,rfl,h⟩;exact⟨b,rfl,h⟩);refine Q0 (fun d=> ?_) (fun d=>Q0 (fun f=> ?_) (fun f=> ?_))
 ·simp only[Za]at d;omega
 ·simp only[Za]at f;omega
 intro k g a;exact⟨k,rfl,a.ext,⟨none,0,0,none,0,0,⟨_,a.at⟩,QE2.nil _ _,QE2.nil _ _,List.Pairwise.nil,List.Pairwise.nil,id,fun x h=>h.elim⟩,by rw[a.size.1];exact Nat.le_refl _⟩
theorem Qx4{w:World}{b:Nat}{D:Dk}{G:Nat->Prop}(h:Qh0 w b D G)(k:Int):Calls prog 162 #[.pointer (some (at0 b)),int i64 k] w fun e w'=>e= .returned (int i64 (Qh D.dead D.sectors k))/\w'=w:=by
 obtain⟨pL,lL,cL,pW,lW,cW,g,_⟩:=h;refine(F162_calls (some (at0 b)) k w (fun v w'=>v=int i64 (Qh D.dead D.sectors k)/\w'=w) ?_).mono (by rintro e w' ⟨v,rfl,rfl,h⟩;exact⟨rfl,h⟩);refine⟨D.dead,g.c rfl,?_⟩;unfold Qh;refine Q0 (fun f=>⟨by rw[if_pos f],rfl⟩) (fun f=> ?_);rw[if_neg (by simp[f])];refine Q0 (fun a=>⟨?_,rfl⟩) (fun a=>⟨_,g.c rfl,Q0 (fun d=>⟨?_,rfl⟩) (fun d=>⟨?_,rfl⟩)⟩)
 ·simp only[Za]at a
  rw[if_pos (.inl a)]
 ·simp only[Za]at d
  rw[if_pos (.inr d)]
 ·simp only[Zb]at a d
  rw[if_neg (by omega)]
theorem QQ3{w:World}{G:Nat->Prop}{p:σ}{l c:Nat}{L:SM}(h:QE2 w G p l c L)(s:L.length<=4096)(k:Int):
  Calls prog 164 #[.slice p l c,int i64 k] w fun e w'=>Ext w w'/\((∃(i:Nat)(bs:τ),e= .returned (int i64 (i:Int))/\L[i]? =some (k,bs)/\get k L=some bs)\/(e= .returned (int i64 (-1))/\get k L=none)):=by
 refine(F164_calls p l c k w (fun v w'=>Ext w w'/\((∃(i:Nat)(bs:τ),v=int i64 (i:Int)/\L[i]? =some (k,bs)/\get k L=some bs)\/(v=int i64 (-1)/\get k L=none)))
  (fun _ n t=>∃i:Nat,n=i/\i<=l/\Ext w t/\get k (L.take i)=none) (fun _ n _=>4096-n.toNat) ?_).mono (by
   rintro e w' ⟨v,rfl,y,⟨i,bs,rfl,h⟩|⟨rfl,h⟩⟩
   ·exact⟨y, .inl ⟨i,bs,rfl,h⟩⟩
   ·exact⟨y, .inr ⟨rfl,h⟩⟩)
 have A:=h.1;refine⟨⟨0,rfl,Nat.zero_le _,Upd.refl _ _,by simp[Vc.get]⟩,?_⟩;rintro n t ⟨i,rfl,hi,d,f⟩
 intros
 refine Q0 (fun m=> ?_) (fun r=> ?_)
 ·simp only[Za]at m
  obtain⟨x,g⟩:∃x,L[i]? =some x:=⟨L[i]'(by omega),Zc _⟩;obtain⟨a,q,nn,cc,rfl,_,ca,_⟩:=(h.ext d).at g;rw[Ze];refine⟨⟨by omega,m⟩,_,ca,Q0 (fun j=> ?_) (fun j=> ?_)⟩
  ·simp only[Za]at j
   refine⟨d, .inl ⟨i,x.2,rfl,?_,?_⟩⟩
   ·rw[g,←j]
   ·have e:L=L.take i++L.drop i:=(List.take_append_drop i L).symm
    have o:i<L.length:=by omega
    rw[e,Qq5,f,List.drop_eq_getElem_cons o];have:L[i]=x:=(Zd.1 g).2;rw[this];obtain⟨u,v⟩:=x;simp only[Vc.get];rw[if_pos j];rfl
  ·simp only[Zb]at j
   rw[w64 (by omega)];refine⟨⟨i+1,by omega,by omega,d,?_⟩,by show 4096-((i:Int)+1).toNat<4096-(i:Int).toNat;omega⟩;rw[Zn,g,Qq5,f];obtain⟨u,v⟩:=x;simp only[Option.toList_some,Vc.get];rw[if_neg j];rfl
 ·simp only[Zb]at r
  have z:L.take i=L:=Zh (by omega);rw[z]at f;exact⟨d, .inr ⟨rfl,f⟩⟩
theorem Q38{w:World}{p:σ}{l:Nat}{bs:τ}(h:Q1 w p l bs):p=none->l=0:=by
 intro d;cases bs with
 |nil=>rw[h.1];rfl
 |cons b bs=>
  obtain⟨a,ha,_⟩:=h.2 (by simp);rw[d]at ha;cases ha
theorem Qqb{w w1:World}{k:Nat}(a:QG w k (.cells #[] 5) w1){p:σ}{l c:Nat}{bs:τ}(hb:Q1 w p l bs)(o:l<=4300):
  ∃e f w',Sem.run prog (Builtin.append_ #[25,25] 25 #[.slice (some (at0 k)) 0 0, .slice p l c]) w1= .ok (.slice e l f) w'/\Ext w w'/\Q5 w' w.heap.size 5 1 e l f (QE bs):=by
 have j:=hb.1;have hs:=a.size;have own:Q5 w1 w.heap.size 5 1 (some (at0 k)) 0 0 []:=Q5.made a (by rw[hs.1];exact Nat.le_refl _) (Nat.le_refl _) (by unfold maxLen;omega) rfl;obtain⟨e,f,w',i,g,n,_⟩:=own.append Quj 25 (q:=p) (m:=l) (d:=c) (news:=QE bs) (by rw[Qb];omega) ((hb.ext a.ext).cells) (Q38 hb)
  (Qd1 bs) (by unfold maxLen;omega) (by omega) (by omega)
 rw[Nat.zero_add]at i g;rw[List.nil_append]at g;refine⟨e,f,w',i,?_,g⟩;refine Upd.trans a.ext n fun x r h=> ?_;simp only[Zi,at0,Zv,and_true]at h;omega
theorem QNb{w w':World}{base:Nat}{p:σ}{l c:Nat}{bs:τ}(e:Q5 w' base 5 1 p l c (QE bs))(hb:w.heap.size<=base)(f:bs≠ [])(m:bs.length<=4108):
  Qn (fun x=>w.heap.size<=x/\x<w'.heap.size) w' (.slice p l c) bs:=by
 have k:=Q1.of_cells e.cells;have d:=e.length;rw[Qb,Nat.mul_one]at d;rw[d]at k;refine⟨p,l,c,rfl,k,f,by omega,fun a ha=> ?_⟩;rcases e.where_ with⟨h,_⟩|⟨g,h,i,j,_⟩
 ·rw[h]at ha;cases ha
 ·rw[h]at ha;cases ha
  exact⟨Zu hb i,j⟩
open Go Go.Vc
open Go.IntKind (i64)
open Go.Value (int)
open Go.Proofs.Tryz (prog)
abbrev Gn(G:Nat->Prop)(n m:Nat):Nat->Prop:=fun x=>G x\/(n<=x/\x<m)
theorem Qw4{D:Dk}(h:Qk3 D)(a:Asc D.lasts)(d:Asc D.waits):D.lasts.length<=4096/\D.waits.length<=4096:=QRi h ⟨a,d⟩
theorem Qac{w:World}{b:Nat}{D:Dk}{G:Nat->Prop}(h:Qh0 w b D G)(B:Qk3 D)(k:Int){p:σ}{l c:Nat}{bs:τ}(hb:Q1 w p l bs):
  Calls prog 126 #[.pointer (some (at0 b)),int i64 k, .slice p l c] w fun e w'=>∃G',e= .returned (int i64 (Qs D k bs.length))/\Upd (fun x=>x=b) w w'/\Qh0 w' b (QT D k bs) G'/\Qe5 G G' w w':=by
 refine(F126_calls (some (at0 b)) k p l c w (fun v w'=>∃G',v=int i64 (Qs D k bs.length)/\Upd (fun x=>x=b) w w'/\Qh0 w' b (QT D k bs) G'/\Qe5 G G' w w') ?_).mono (by rintro e w' ⟨v,rfl,G',rfl,h⟩;exact⟨G',rfl,h⟩);have S:=hb.1;refine(Qx4 h k).mono ?_;rintro e d ⟨rfl,rfl⟩;have same:Qs D k bs.length≠0->∃G',int i64 (Qs D k bs.length)=int i64 (Qs D k bs.length)/\Upd (fun x=>x=b) d d/\Qh0 d b (QT D k bs) G'/\Qe5 G G' d d:=fun j=>
  ⟨G,rfl,Upd.refl _ _,by rw[QDi j];exact h,fun x a=> .inl a⟩
 refine⟨_,rfl,Q0 (fun m=> ?_) (fun m=> ?_)⟩
 ·simp only[Zg,Zb]at m
  have j:Qs D k bs.length=Qh D.dead D.sectors k:=by simp[Qs,m]
  rw[←j];exact same (by rw[j];exact m)
 simp only[Zf,Za]at m;have bad:(bs.length<1\/4108<bs.length)->Qs D k bs.length=1:=fun r=>by rw[Qs,if_neg (by simp[m]),if_pos r]
 refine Q0 (fun C=> ?_) (fun C=>Q0 (fun E=> ?_) (fun E=> ?_))
 ·simp only[Za]at C
  have:=bad (by omega);have:=same (by rw[this];decide);rw[bad (by omega)]at this⊢;exact this
 ·simp only[Za]at E
  have:=bad (by omega);have:=same (by rw[this];decide);rw[bad (by omega)]at this⊢;exact this
 simp only[Zb]at C E;have j:Qs D k bs.length=0:=by rw[Qs,if_neg (by simp[m]),if_neg (by omega)]
 have F:bs≠ []:=by rintro rfl;simp at S;omega
 intro w7 T;obtain⟨pL,lL,cL,pW,lW,cW,q,U,K,L,i5,M,N⟩:=h;have s:=Qw4 B L i5;have t:=T.ext;refine⟨_,_,_,(t.rowW q id).row.cell rfl,?_⟩;intro V W O;have I:=t.trans O.ext;obtain⟨u,y,f,X,z,own⟩:=Qqb O (hb.ext t) (c:=c) (by omega);have g:=t.trans z;refine⟨⟨_,_,_,(I.rowW q id).row.cell rfl,rfl⟩,u,l,y,f,X,⟨_,_,_,(g.rowW q id).row.cell rfl,rfl⟩,?_⟩;have Y:Qn (Gn G d.heap.size f.heap.size) f (.slice u l y) bs:=(QNb (w:=d) own t.size F (by omega)).mono fun x a=> .inr a;refine(Q85 ((K.ext g).mono (G':=Gn G d.heap.size f.heap.size) fun x a=> .inl a) i5 s.2 k Y).mono ?_;rintro e n ⟨P,Q,R,rfl,i,hL⟩;have o:=g.trans i;refine⟨P,Q,R,rfl,(o.rowW q id).live (by simp),fun Z hs=> ?_⟩;have J:QE2 n (Gn G d.heap.size n.heap.size) P Q R (ins k bs D.waits):=hL.mono fun x a=>by
  have s1:=g.size;have s2:=i.size;rcases a with(a|a)|a
  ·exact .inl a
  ·exact .inr ⟨a.1,by omega⟩
  ·exact .inr ⟨by omega,a.2⟩
 have ab:=q.lt;have A:Qh0 d b D G:=⟨pL,lL,cL,pW,lW,cW,q,U,K,L,i5,M,N⟩
 obtain⟨r1,r2⟩:=A.setW o J (fun x a=> .inl a) (fun a=>a.elim M fun h=>by omega) (by
  have s1:=o.size;rintro x (a|a)
  ·have:=N x a;omega
  ·exact a.2) (Qt5 i5) hs
 refine⟨Gn G d.heap.size n.heap.size,by rw[j],r2,?_,fun x a=> ?_⟩
 ·rw[QT,if_pos j];exact r1
 ·rcases a with a|a
  ·exact .inl a
  ·exact .inr ⟨a.1,by have:=(Q31 hs).size;omega⟩
theorem Qza{w:World}{b:Nat}{D:Dk}{G:Nat->Prop}(h:Qh0 w b D G)(J:Qk3 D)(k:Int):
  Calls prog 127 #[.pointer (some (at0 b)),int i64 k] w fun e w'=>Ext w w'/\∃p l c bs,e= .returned (.tuple #[.slice p l c,int i64 (Qh D.dead D.sectors k)])∧
   bs=(if Qh D.dead D.sectors k=0 then Qy0 D k else [])/\Q1 w' p l bs/\l<=4108/\Q5 w' w.heap.size 5 1 p l c (QE bs):=by
 refine(F127_calls (some (at0 b)) k w (fun v w'=>Ext w w'/\∃p l c bs,v= .tuple #[.slice p l c,int i64 (Qh D.dead D.sectors k)]∧
   bs=(if Qh D.dead D.sectors k=0 then Qy0 D k else [])/\Q1 w' p l bs/\l<=4108/\Q5 w' w.heap.size 5 1 p l c (QE bs)) ?_).mono (by rintro e w' ⟨v,rfl,E,p,l,c,bs,rfl,h⟩;exact⟨E,p,l,c,bs,rfl,h⟩)
 refine(Qx4 h k).mono ?_;rintro e K ⟨rfl,rfl⟩;refine⟨_,rfl,Q0 (fun s=> ?_) (fun s=> ?_)⟩
 ·simp only[Zg,Zb]at s
  exact⟨Upd.refl _ _,none,0,0,[],rfl,by rw[if_neg s],Q1.nil _ _,by omega,Q5.nil _ _ _ _⟩
 simp only[Zf,Za]at s;obtain⟨pL,lL,cL,pW,lW,cW,F,P,Q,S,i5,i6,i7⟩:=h;have t:=Qw4 J S i5;refine⟨_,_,_,F.c rfl,?_⟩;have done:∀{L:SM}{p:σ}{l c:Nat}{i:Nat}{bs:τ}{w8:World},QE2 w8 G p l c L->L[i]? =some (k,bs)->Qy0 D k=bs->Ext K w8->∀(f:Nat)(d:World),QG w8 f (.cells #[] 5) d→
   (0<=(i:Int)/\(i:Int)<((l:Nat):Int))/\(Qv0 p fun M=>(∃(z:σ)(A B:Nat),d.cell? ((M.add ((i:Int).toNat*2)).add 1)=some (.slice z A B)/\(∃(j:σ)(C m:Nat),∃g:World,
    Sem.run prog (Builtin.append_ #[25,25] 25 #[.slice (some (at0 f)) 0 0, .slice z A B]) d= .ok (.slice j C m) g∧
    (Ext K g/\∃p l c bs,(Value.tuple #[.slice j C m,int i64 (0:Int)])= .tuple #[.slice p l c,int i64 (Qh D.dead D.sectors k)]/\bs=(if Qh D.dead D.sectors k=0 then Qy0 D k else [])/\Q1 g p l bs/\l<=4108/\Q5 g K.heap.size 5 1 p l c (QE bs))))):=by
  intro L p l c i bs w8 hL hi N E f d u;have T:i<L.length:=(Zd.1 hi).1;obtain⟨a,q,n,R,rfl,_,_,U,q',n',c'',V,hb,W,X,_⟩:=hL.at hi;cases V;refine⟨⟨by omega,by have:=hL.1;omega⟩,?_⟩;obtain⟨j,m,g,Y,O,own⟩:=Qqb u hb (c:=R) (by omega);refine⟨q,n,R,by rw[Ze];exact Qxl U u.ext,j,n,m,g,Y,E.trans O,j,n,m,bs,by rw[s],by rw[if_pos s,N],?_,X,own.base_le E.size⟩;have:=Q1.of_cells own.cells;rw[←hb.1]at this;exact this
 refine(QQ3 Q t.2 k).mono ?_;rintro e w8 ⟨o,⟨i,bs,rfl,hi,I⟩|⟨rfl,I⟩⟩
 ·refine⟨_,rfl,Q0 (fun _ f d u=> ?_) (fun x=>by simp at x)⟩
  exact⟨_,_,_,((o.trans u.ext).rowW F id).row.cell rfl,done (Q.ext o) hi (by simp[Qy0,I]) o f d u⟩
 ·refine⟨_,rfl,Q0 (fun x=>by simp at x) (fun _=> ?_)⟩
  refine⟨_,_,_,(o.rowW F id).row.cell rfl,?_⟩;refine(QQ3 (P.ext o) t.1 k).mono ?_;rintro e Z ⟨r,⟨i,bs,rfl,hi,y⟩|⟨rfl,y⟩⟩
  ·refine⟨_,rfl,Q0 (fun _ f d u=> ?_) (fun x=>by simp at x)⟩
   exact⟨_,_,_,(((o.trans r).trans u.ext).rowW F id).row.cell rfl,done (P.ext (o.trans r)) hi (by simp[Qy0,I,y]) (o.trans r) f d u⟩
  ·refine⟨_,rfl,Q0 (fun x=>by simp at x) (fun _=> ?_)⟩
   exact⟨o.trans r,none,0,0,[],by rw[s],by rw[if_pos s];simp[Qy0,I,y],Q1.nil _ _,by omega,Q5.nil _ _ _ _⟩
theorem Qje{w:World}{b:Nat}{D:Dk}{G:Nat->Prop}(h:Qh0 w b D G)(a:Qk3 D)(k:Int):
  Calls prog 127 #[.pointer (some (at0 b)),int i64 k] w fun e w'=>Ext w w'/\∃p l c bs,e= .returned (.tuple #[.slice p l c,int i64 (Qh D.dead D.sectors k)])∧
   bs=(if Qh D.dead D.sectors k=0 then Qy0 D k else [])/\Q1 w' p l bs/\l<=4108:=
 (Qza h a k).mono fun _ _ ⟨d,p,l,c,bs,f,hb,g,i,_⟩=>⟨d,p,l,c,bs,f,hb,g,i⟩
theorem Q0i(L W:SM)(x:Int×τ):mrg L (W++ [x])=ins x.1 x.2 (mrg L W):=by simp[mrg,List.foldl_append]
theorem Q3j{w:World}{b:Nat}{D:Dk}{G:Nat->Prop}(h:Qh0 w b D G)(dd:Bool){d e a:World}(f:Qt w ((at0 b).add 3) (.bool dd) d)(g:Qt d ((at0 b).add 1) (.slice none 0 0) e)(i:Qt e ((at0 b).add 2) (.slice none 0 0) a):
  Upd (fun x=>x=b) w a/\Qh0 a b {D with dead:=dd,lasts:=[],waits:=[]} G:=by
 obtain⟨pL,lL,cL,pW,lW,cW,k,o,p,q,i5,l,m⟩:=h;have j:=Upd.trans (Upd.trans (Q31 f) (Q31 g) fun _ _ h=>h) (Q31 i) fun _ _ h=>h;exact⟨j,none,0,0,none,0,0,i.row (g.row (f.row k)),QE2.nil _ _,QE2.nil _ _,List.Pairwise.nil,List.Pairwise.nil,l,fun x n=>Zo (m x n) j.size⟩
theorem Qee{w:World}{b:Nat}{D:Dk}{G:Nat->Prop}(h:Qh0 w b D G):
  Calls prog 132 #[.pointer (some (at0 b))] w fun e w'=>e= .returned (.tuple #[])/\Upd (fun x=>x=b) w w'/\Qh0 w' b {D with dead:=true,lasts:=[],waits:=[]} G:=by
 refine(F132_calls (some (at0 b)) w (fun v w'=>v= .tuple #[]/\Upd (fun x=>x=b) w w'/\Qh0 w' b {D with dead:=true,lasts:=[],waits:=[]} G) ?_).mono (by rintro e w' ⟨v,rfl,rfl,h⟩;exact⟨rfl,h⟩);have g:=h;obtain⟨pL,lL,cL,pW,lW,cW,a,_⟩:=g;exact⟨a.live (by simp),fun j d=>⟨(d.row a).live (by simp),fun k f=>⟨(f.row (d.row a)).live (by simp),fun l i=>⟨rfl,Q3j h true d f i⟩⟩⟩⟩
theorem Qg9{w:World}{b:Nat}{D:Dk}{G:Nat->Prop}(h:Qh0 w b D G):
  Calls prog 133 #[.pointer (some (at0 b))] w fun e w'=>e= .returned (.tuple #[])/\Upd (fun x=>x=b) w w'/\Qh0 w' b {D with dead:=false,lasts:=[],waits:=[]} G:=by
 refine(F133_calls (some (at0 b)) w (fun v w'=>v= .tuple #[]/\Upd (fun x=>x=b) w w'/\Qh0 w' b {D with dead:=false,lasts:=[],waits:=[]} G) ?_).mono (by rintro e w' ⟨v,rfl,rfl,h⟩;exact⟨rfl,h⟩);have g:=h;obtain⟨pL,lL,cL,pW,lW,cW,a,_⟩:=g;exact⟨a.live (by simp),fun j d=>⟨(d.row a).live (by simp),fun k f=>⟨(f.row (d.row a)).live (by simp),fun l i=>⟨rfl,Q3j h false d f i⟩⟩⟩⟩
open Go Go.Vc
open Go.IntKind (i64)
open Go.Value (int)
open Go.Proofs.Tryz (prog)
theorem Qk3.mrg{D:Dk}(h:Qk3 D){W:SM}(d:∀x∈W,x∈D.waits)(ha:Asc W):Qk3 {D with lasts:=mrg D.lasts W}:=by
 refine⟨h.sec,fun x a=> ?_,h.waits⟩;rcases QIb ha a with a|a
 ·exact h.waits x (d x a)
 ·exact h.lasts x a
structure Q42(b:Nat)(G G':Nat->Prop)(w w':World):Prop where
 upd:Upd (fun x=>x=b) w w'
 grow:Qe5 G G' w w'
theorem Q42.refl(b:Nat)(G:Nat->Prop)(w:World):Q42 b G G w w:=⟨Upd.refl _ _,fun _ h=> .inl h⟩
theorem Q42.ext{b:Nat}{G:Nat->Prop}{w w':World}(h:Ext w w'):Q42 b G G w w':=⟨h.upd,fun _ h=> .inl h⟩
theorem Q42.trans{b:Nat}{G G' G'':Nat->Prop}{w w' w'':World}(h:Q42 b G G' w w')(a:Q42 b G' G'' w' w''):Q42 b G G'' w w'':=by
 refine⟨Upd.trans h.upd a.upd fun _ _ h=>h,fun x f=> ?_⟩;have g:=h.upd.size;have i:=a.upd.size;rcases a.grow x f with d|d
 ·rcases h.grow x d with e|e
  ·exact .inl e
  ·exact .inr ⟨e.1,by omega⟩
 ·exact .inr ⟨by omega,d.2⟩
theorem Qei{w:World}{b:Nat}{D:Dk}{G:Nat->Prop}{pL:σ}{lL cL:Nat}{pW:σ}{lW cW:Nat}
  (n:RowW w b #[int i64 D.sectors, .slice pL lL cL, .slice pW lW cW, .bool D.dead]) (p:QE2 w G pL lL cL D.lasts) (q:QE2 w G pW lW cW D.waits) (r:Asc D.lasts) (s:¬G b) (t:∀x,G x->x<w.heap.size)
  (i:D.lasts.length<=4096) (k:Int) {pv:σ} {lv cv:Nat} {bs:τ} (u:Qn G w (.slice pv lv cv) bs):
  Calls prog 163 #[.slice pL lL cL, .agg #[int i64 k, .slice pv lv cv]] w fun e w1=>∃d f g,e= .returned (.slice d f g)/\QD w1 ((at0 b).add 1)/\∀w',Qt w1 ((at0 b).add 1) (.slice d f g) w'→
   ∃G',Q42 b G G' w w'/\RowW w' b #[int i64 D.sectors, .slice d f g, .slice pW lW cW, .bool D.dead]/\QE2 w' G' d f g (ins k bs D.lasts)/\QE2 w' G' pW lW cW D.waits/\¬G' b/\(∀x,G' x->x<w'.heap.size):=by
 refine(Q85 p r i k u).mono ?_;rintro e w1 ⟨d,f,g,rfl,j,hL⟩;have hb:=n.lt;refine⟨d,f,g,rfl,(j.rowW n id).live (by simp),fun w' hs=> ?_⟩;have l:=Q31 hs;have m:¬Gn G w.heap.size w1.heap.size b:=fun a=>a.elim s fun h=>by omega
 have o:∀x,Gn G w.heap.size w1.heap.size x->¬(x=b):=by rintro x a rfl;exact m a
 refine⟨Gn G w.heap.size w1.heap.size,⟨Upd.trans (j.upd (S:=fun x=>x=b)) l fun _ _ h=>h,fun x a=> ?_⟩,hs.row (j.rowW n id),hL.upd l o,((q.ext j).mono fun x a=> .inl a).upd l o,m,fun x a=> ?_⟩
 ·rcases a with a|a
  ·exact .inl a
  ·exact .inr ⟨a.1,by have:=l.size;omega⟩
 ·have v:=j.size
  have y:=l.size;rcases a with a|a
  ·have:=t x a;omega
  ·omega
structure Mid(w:World)(b:Nat)(D:Dk)(G:Nat->Prop)(w':World)(M:SM)(pW:σ)(lW cW:Nat):Prop where
 ex:∃G' pL lL cL,Q42 b G G' w w'/\RowW w' b #[int i64 D.sectors, .slice pL lL cL, .slice pW lW cW, .bool D.dead]/\QE2 w' G' pL lL cL (mrg D.lasts M)/\QE2 w' G' pW lW cW D.waits/\¬G' b/\∀x,G' x->x<w'.heap.size
theorem Mid.ext{w:World}{b:Nat}{D:Dk}{G:Nat->Prop}{w' w'':World}{M:SM}{pW:σ}{lW cW:Nat}(h:Mid w b D G w' M pW lW cW)(a:Ext w' w''):Mid w b D G w'' M pW lW cW:=by
 obtain⟨G',pL,lL,cL,e,f,g,i,j,k⟩:=h;exact⟨G',pL,lL,cL,e.trans (Q42.ext a),a.rowW f id,g.ext a,i.ext a,j,fun x d=>Zo (k x d) a.size⟩
theorem Mid.done{w:World}{b:Nat}{D:Dk}{G:Nat->Prop}{w' w'':World}{M:SM}{pW:σ}{lW cW:Nat}(h:Mid w b D G w' M pW lW cW)(f:Asc D.lasts)(hs:Qt w' ((at0 b).add 2) (.slice none 0 0) w''):
  ∃G',Q42 b G G' w w''/\Qh0 w'' b {D with lasts:=mrg D.lasts M,waits:=[]} G':=by
 obtain⟨G',pL,lL,cL,g,i,j,m,e,k⟩:=h;have a:=Q31 hs;have l:∀x,G' x->¬(x=b):=by rintro x d rfl;exact e d
 refine⟨G',g.trans ⟨a,fun _ h=> .inl h⟩,pL,lL,cL,none,0,0,hs.row i,j.upd a l,QE2.nil _ _,Q49 f,List.Pairwise.nil,e,fun x d=>Zo (k x d) a.size⟩
theorem Mid.put{w:World}{b:Nat}{D:Dk}{G:Nat->Prop}{w':World}{M:SM}{pW:σ}{lW cW:Nat}(h:Mid w b D G w' M pW lW cW)(m:Qk3 D)(p:Asc D.lasts)(s:Asc D.waits)(hM:∀x∈M,x∈D.waits)(aM:Asc M)
  {i:Nat} {x:Int×τ} (t:D.waits[i]? =some x):
  ∃pL lL cL a q n c,w'.cell? ((at0 b).add 1)=some (.slice pL lL cL)/\w'.cell? ((at0 b).add 2)=some (.slice pW lW cW)/\pW=some a/\w'.cell? (a.add (i*2))=some (int i64 x.1)/\w'.cell? ((a.add (i*2)).add 1)=some (.slice q n c)∧
   Calls prog 163 #[.slice pL lL cL, .agg #[int i64 x.1, .slice q n c]] w' fun e w1=>∃d f g,e= .returned (.slice d f g)/\QD w1 ((at0 b).add 1)/\∀w'',Qt w1 ((at0 b).add 1) (.slice d f g) w''->Mid w b D G w'' (M++ [x]) pW lW cW:=by
 obtain⟨G',pL,lL,cL,u,o,v,r,y,z⟩:=h;obtain⟨a,q,n,c,A,B,_,c1,C⟩:=r.at t;refine⟨pL,lL,cL,a,q,n,c,o.c rfl,o.c rfl,A,B,c1,?_⟩;have j:=m.mrg hM aM;have k:=(Qw4 j (Q49 p) s).1;have:=Qei (D:={D with lasts:=mrg D.lasts M}) o v r (Q49 p) y z k x.1 C;refine this.mono ?_;rintro e w1 ⟨d,f,g,rfl,E,l⟩;refine⟨d,f,g,rfl,E,fun w'' hs=> ?_⟩;obtain⟨G2,F,I,J,K,L,N⟩:=l w'' hs;refine⟨G2,d,f,g,u.trans F,I,?_,K,L,N⟩;rw[Q0i];exact J
theorem Q6c{w:World}{b:Nat}{D:Dk}{G:Nat->Prop}(h:Qh0 w b D G)(d:Qk3 D):
  Calls prog 129 #[.pointer (some (at0 b))] w fun e w'=>∃G',e= .returned (int i64 (if D.dead then 120 else 0))/\Q42 b G G' w w'/\Qh0 w' b (QB1 D) G':=by
 have E:=h;obtain⟨pL,lL,cL,pW,lW,cW,z,F,m,o,i5,I,J⟩:=E
 refine(F129_calls (some (at0 b)) w (fun v w'=>∃G',v=int i64 (if D.dead then 120 else 0)/\Q42 b G G' w w'/\Qh0 w' b (QB1 D) G')
  (fun _ n A=>∃i:Nat,n=i/\i<=D.waits.length/\Mid w b D G A (D.waits.take i) pW lW cW) (fun _ n _=>4096-n.toNat) ?_).mono (by rintro e w' ⟨v,rfl,G',rfl,h⟩;exact⟨G',rfl,h⟩)
 have B:=Qw4 d o i5;refine⟨_,z.c rfl,Q0 (fun f=>⟨G,by rw[if_pos f],Q42.refl _ _ _,?_⟩) (fun f=> ?_)⟩
 ·unfold QB1;rw[if_pos f];exact h
 refine⟨⟨0,rfl,Nat.zero_le _,G,pL,lL,cL,Q42.refl _ _ _,z,F,m,I,J⟩,?_⟩;rintro n A ⟨i,rfl,hi,l⟩
 intros
 have p:=l;obtain⟨G',pL',lL',cL',Y,C,Z,k4,k5,k6⟩:=p;refine⟨_,_,_,C.c rfl,Q0 (fun g=> ?_) (fun r=> ?_)⟩
 ·simp only[Za]at g
  have K:=m.1;intro L s;obtain⟨x,j⟩:∃x,D.waits[i]? =some x:=⟨D.waits[i]'(by omega),Zc _⟩;obtain⟨p1,l1,c1,a,q,nn,cc,t,M,rfl,N,O,P⟩:=(l.ext s.ext).put d o i5 (fun x Q=>List.mem_of_mem_take Q) (List.Pairwise.sublist (List.take_sublist _ _) i5) j;rw[Ze];refine⟨_,_,_,t,_,_,_,M,⟨by omega,g⟩,_,N,_,_,_,O,P.mono ?_⟩;rintro e R ⟨S,T,U,rfl,u,k⟩;refine⟨S,T,U,rfl,u,fun y hs=> ?_⟩;rw[w64 (by omega)];refine⟨⟨i+1,by omega,by omega,?_⟩,by show 4096-((i:Int)+1).toNat<4096-(i:Int).toNat;omega⟩;rw[Zn,j];exact k y hs
 ·simp only[Zb]at r
  have K:=m.1;have t:D.waits.take i=D.waits:=Zh (by omega);rw[t]at l;refine⟨C.live (by simp),fun V hs=> ?_⟩;obtain⟨G2,W,X⟩:=l.done o hs;refine⟨G2,by rw[if_neg (by simp[f])],W,?_⟩;unfold QB1;rw[if_neg (by simp[f])];exact X
theorem QZb{w:World}{b:Nat}{D:Dk}{G:Nat->Prop}(h:Qh0 w b D G)(u:Qk3 D){p:σ}{l c:Nat}{ks:List Int}(W:QV w p l ks)(ad:l<=9223372036854775807)(J:∀a,p=some a->ks≠ []->a.block≠b):
  Calls prog 131 #[.pointer (some (at0 b)), .slice p l c] w fun e w'=>∃G',e= .returned (.tuple #[])/\Q42 b G G' w w'/\Qh0 w' b (Qk2 D ks) G':=by
 have h':=h;obtain⟨pL,lL,cL,pW,lW,cW,i1,i2,X,K,i5,i6,i7⟩:=h'
 refine(F131_calls (some (at0 b)) p l c w (fun v w'=>∃G',v= .tuple #[]/\Q42 b G G' w w'/\Qh0 w' b (Qk2 D ks) G')
  (fun _ n Y=>∃i:Nat,n=i/\i<=D.waits.length/\Mid w b D G Y ((D.waits.take i).filter fun y=>decide (y.1∈ks)) pW lW cW) (fun _ n _=>4096-n.toNat)
  (fun n3 w4 A B C=>∃j:Nat,B=j/\j<=l/\Ext w4 C/\∀x,D.waits[n3.toNat]? =some x->A=decide (x.1∈ks.take j)) (fun _ _ _ n _=>9223372036854775807-n.toNat) ?_).mono (by rintro e w' ⟨v,rfl,G',rfl,h⟩;exact⟨G',rfl,h⟩)
 have Z:=Qw4 u K i5;have hl:=X.1;have aa:=W.1;refine⟨⟨0,rfl,Nat.zero_le _,G,pL,lL,cL,Q42.refl _ _ _,i1,i2,X,i6,i7⟩,?_⟩;rintro n Y ⟨i,rfl,hi,I⟩
 intros
 have L:=I;obtain⟨G',pL',lL',cL',k1,k2,k3,k4,k5,k6⟩:=L;refine⟨_,_,_,k2.c rfl,Q0 (fun m=> ?_) (fun M=> ?_)⟩
 ·simp only[Za]at m
  obtain⟨x,d⟩:∃x,D.waits[i]? =some x:=⟨D.waits[i]'(by omega),Zc _⟩;refine⟨⟨0,rfl,Nat.zero_le _,Upd.refl _ _,fun x _=>by simp⟩,?_⟩;rintro A B C ⟨j,rfl,hj,o,r⟩
  intros
  have E:=r x (by rw[Ze];exact d);subst E;have f:=I.ext o;have tk:(D.waits.take (i+1)).filter (fun y=>decide (y.1∈ks))=(D.waits.take i).filter (fun y=>decide (y.1∈ks))++(if x.1∈ks then [x]else []):=by
   rw[Zn,d,List.filter_append]
   congr 1
   by_cases N:x.1∈ks<;>simp[N]
  refine Q0 (fun k=> ?_) (fun k=> ?_)
  ·simp only[Za]at k
   intro O s;obtain⟨z,hz⟩:∃z,ks[j]? =some z:=⟨ks[j]'(by omega),Zc _⟩;have g:9223372036854775807-((j:Int)+1).toNat<9223372036854775807-(j:Int).toNat:=by omega
   have tm:∀y:Int×τ,y.1∈ks.take (j+1)↔(y.1∈ks.take j\/z=y.1):=fun y=>by
    rw[Zn,hz];simp[eq_comm]
   refine Q0 (fun hb=> ?_) (fun hb=> ?_)
   ·simp only[Za]at hb
    rw[w64 (by omega)];refine⟨⟨j+1,by omega,by omega,o.trans s.ext,fun y t=> ?_⟩,g⟩
    (try rw[Ze]at t);rw[d]at t
    cases t;exact(decide_eq_true ((tm x).2 (.inl hb))).symm
   ·simp only[Zb]at hb
    obtain⟨G2,pL2,lL2,cL2,q1,q2,q3,q4,q5,q6⟩:=f.ext s.ext;have P:Qa O p (ks.map fun x=>int i64 x):=W.2.upd q1.upd fun a ha Q=>J a ha (by rintro rfl;exact Q rfl);obtain⟨a,ha,R⟩:=P j (int i64 z) (by rw[Zq,hz];rfl);subst ha;obtain⟨a2,q,nn,cc,rfl,_,c0,_,_⟩:=q4.at d;rw[Ze,Ze];refine⟨⟨by omega,k⟩,z,by rw[Nat.mul_one];exact R,_,_,_,q2.c rfl,⟨by omega,m⟩,_,c0,?_⟩;rw[w64 (by omega)];refine⟨⟨j+1,by omega,by omega,o.trans s.ext,fun y t=> ?_⟩,g⟩
    (try rw[Ze]at t);rw[d]at t
    cases t;apply decide_eq_decide.2;rw[tm x];simp[hb]
  ·simp only[Zb]at k
   have ej:ks.take j=ks:=Zh (by omega);rw[ej];have g:4096-((i:Int)+1).toNat<4096-(i:Int).toNat:=by omega
   refine Q0 (fun hb=> ?_) (fun hb=> ?_)
   ·simp only[Za]at hb
    intro au S;obtain⟨p1,l1,c1,a,q,nn,cc,T,e2,rfl,e3,e4,R⟩:=(f.ext S.ext).put u K i5 (fun x hx=>List.mem_of_mem_take (List.mem_filter.1 hx).1) (Asc.filter (List.Pairwise.sublist (List.take_sublist _ _) i5) _) d;rw[Ze];refine⟨_,_,_,T,_,_,_,e2,⟨by omega,m⟩,_,e3,_,_,_,e4,R.mono ?_⟩;rintro e az ⟨p',l',c',rfl,U,F⟩;refine⟨p',l',c',rfl,U,fun V hs=> ?_⟩;rw[w64 (by omega)];refine⟨⟨i+1,by omega,by omega,?_⟩,g⟩;rw[tk,if_pos hb];exact F V hs
   ·simp only[Zb]at hb
    rw[w64 (by omega)];refine⟨⟨i+1,by omega,by omega,?_⟩,g⟩;rw[tk,if_neg hb,List.append_nil];exact f
 ·simp only[Zb]at M
  have T:D.waits.take i=D.waits:=Zh (by omega);rw[T]at I;refine⟨k2.live (by simp),fun a4 hs=> ?_⟩;obtain⟨G2,r1,r2⟩:=I.done K hs;exact⟨G2,rfl,r1,r2⟩
open Go Go.Vc
open Go.IntKind (i64)
open Go.Value (int)
open Go.Proofs.Tryz (prog)
theorem Qj2(bs:τ)(a:Int)(y:UInt8):(QF bs a y).length=bs.length:=by simp[QF]
theorem QL5{w:World}{p:σ}{l c:Nat}{bs:τ}(hb:Q1 w p l bs)(I:bs≠ [])(W:l<=4108)(a:Int)(ha: -9223372036854775808<=a/\a<=9223372036854775807)(y:UInt8):
  Calls prog 166 #[.slice p l c,int i64 a, .int .u8 (y.toNat:Int)] w fun e w'=>∃i k f,e= .returned (.slice i k f)/\Ext w w'/\Q5 w' w.heap.size 5 1 i k f (QE (QF bs a y)):=by
 refine(F166_calls p l c a (y.toNat:Int) w (fun v w'=>∃i k f,v= .slice i k f/\Ext w w'/\Q5 w' w.heap.size 5 1 i k f (QE (QF bs a y))) ?_).mono (by rintro e w' ⟨v,rfl,i,k,f,rfl,h⟩;exact⟨i,k,f,rfl,h⟩);have J:=hb.1;have o:0<bs.length:=List.length_pos_iff.2 I;have q:=QO6 a o
 have main:∀E:Int,E=(if a<0 then-(a+1)else a)->∀(K:Nat)(L:World),QG w K (.cells #[] 5) L->(∃(D:σ)(F P:Nat),∃G:World,Sem.run prog (Builtin.append_ #[25,25] 25 #[.slice (some (at0 K)) 0 0, .slice p l c]) L= .ok (.slice D F P) G∧
   (∀w8:World,QX7 G w8->(((l:Nat):Int)≠0/\(((l:Nat):Int)≠0/\((0<=(E.tmod ((l:Nat):Int))/\(E.tmod ((l:Nat):Int))<((F:Nat):Int))/\(Qv0 D fun a9=>(∃(r:Int),w8.cell? (a9.add ((E.tmod ((l:Nat):Int)).toNat*1))=some (.int .u8 r)∧
    ((0<=(E.tmod ((l:Nat):Int))/\(E.tmod ((l:Nat):Int))<((F:Nat):Int))/\(Qv0 D fun s=>(QD w8 (s.add ((E.tmod ((l:Nat):Int)).toNat*1))/\(∀m:World,Qt w8 (s.add ((E.tmod ((l:Nat):Int)).toNat*1)) (Value.int .u8 (QO .xor .u8 r (y.toNat:Int))) m→
     (∃i k f,Value.slice D F P= .slice i k f/\Ext w m/\Q5 m w.heap.size 5 1 i k f (QE (QF bs a y)))))))))))))):=by
  intro E Q K L S;have M:0<=E:=by rw[Q];split<;>omega
  have N:E.tmod (l:Int)=E % (l:Int):=Int.tmod_eq_emod_of_nonneg M;have t:(E % (l:Int)).toNat=Qa2 a bs.length:=by rw[Q,←J];rfl
  obtain⟨i,f,G,T,U,own⟩:=Qqb S hb (c:=c) (by omega);refine⟨i,l,f,G,T,?_⟩;intro w8 R;have d:=own.ext R.ext;rw[N,Nat.mul_one,t];have u:=Int.emod_nonneg E (show(l:Int)≠0 by omega);have z:=Int.emod_lt_of_pos E (show(0:Int)<l by omega);have O:(QE bs)[Qa2 a bs.length]? =some (.int .u8 ((bs.getD (Qa2 a bs.length) 0).toNat:Int)):=by
   simp[QE,Zc q,List.getD]
  obtain⟨aa,rfl,n⟩:=d.cells _ _ O;refine⟨by omega,by omega,⟨u,z⟩,_,n,⟨u,z⟩,d.live (by rw[Qb];exact q),?_⟩;intro m A;obtain⟨j,B⟩:=d.set A;rw[Qaj,QEc]at j;refine⟨_,l,f,rfl,?_,j⟩;refine Upd.trans (U.trans R.ext) B fun x X hs=> ?_;rcases d.where_ with⟨h,_⟩|⟨g,h,V,_⟩
  ·cases h
  ·cases h
   have:x=g:=hs;omega
 refine Q0 (fun C=> ?_) (fun C=> ?_)
 ·simp only[Za]at C
  exact main _ (by rw[w64 (by omega: -9223372036854775808<=a+1/\a+1<=9223372036854775807),w64 (by omega),if_pos C];omega)
 ·simp only[Zb]at C
  exact main _ (by rw[if_neg C])
theorem Qa9{w:World}{b:Nat}{D:Dk}{G:Nat->Prop}(h:Qh0 w b D G)(S:Qk3 D)(k a:Int)(y:UInt8)(ha: -9223372036854775808<=a/\a<=9223372036854775807):
  Calls prog 134 #[.pointer (some (at0 b)),int i64 k,int i64 a, .int .u8 (y.toNat:Int)] w fun e w'=>∃G',e= .returned (int i64 (QC D k))/\Q42 b G G' w w'/\Qh0 w' b (Qf D k a y) G':=by
 have h':=h;obtain⟨pL,lL,cL,pW,lW,cW,s,Q,R,T,i5,i6,i7⟩:=h';refine(F134_calls (some (at0 b)) k a (y.toNat:Int) w (fun v w'=>∃G',v=int i64 (QC D k)/\Q42 b G G' w w'/\Qh0 w' b (Qf D k a y) G') ?_).mono (by rintro e w' ⟨v,rfl,G',rfl,h⟩;exact⟨G',rfl,h⟩);have p:=Qw4 S T i5;have ak:=s.lt;refine(Qx4 h k).mono ?_;rintro e F ⟨rfl,rfl⟩;refine⟨_,rfl,Q0 (fun t=> ?_) (fun t=> ?_)⟩
 ·simp only[Zg,Zb]at t
  have hz:QC D k=Qh D.dead D.sectors k:=by simp[QC,t]
  refine⟨G,by rw[hz],Q42.refl _ _ _,?_⟩;rw[Qf,if_pos t];exact h
 simp only[Zf,Za]at t;refine⟨_,_,_,s.c rfl,?_⟩;refine(QQ3 R p.2 k).mono ?_;rintro e am ⟨r,⟨i,bs,rfl,hi,I⟩|⟨rfl,I⟩⟩
 ·refine⟨_,rfl,Q0 (fun _ U J=> ?_) (fun u=>by simp at u)⟩
  have f:=r.trans J.ext;have V:i<D.waits.length:=(Zd.1 hi).1;obtain⟨aa,q,n,W,rfl,_,_,X,q',n',c'',Y,hb,z,Z,_⟩:=(R.ext f).at hi;cases Y;rw[Ze];refine⟨_,_,_,(f.rowW s id).row.cell rfl,_,_,_,(f.rowW s id).row.cell rfl,⟨by omega,by have:=R.1;omega⟩,q,n,W,X,?_⟩;refine(QL5 hb z Z a ha y).mono ?_;rintro e l ⟨M,N,c2,rfl,A,own⟩;have g:=f.trans A;refine⟨M,N,c2,rfl,⟨_,_,_,(g.rowW s id).row.cell rfl,rfl⟩,?_⟩;have K:bs.length<=4108:=by have e:n=bs.length:=hb.1;omega
  have B:QF bs a y≠ []:=by
   intro u;have:=congrArg List.length u;rw[Qj2]at this;exact z (Zk this)
  have hv:Qn (Gn G F.heap.size l.heap.size) l (.slice M N c2) (QF bs a y):=(QNb (w:=F) own f.size B (by rw[Qj2];exact K)).mono fun x d=> .inr d;refine(Q85 ((R.ext g).mono (G':=Gn G F.heap.size l.heap.size) fun x d=> .inl d) i5 p.2 k hv).mono ?_;rintro e m ⟨O,P,c3,rfl,j,hL⟩;have o:=g.trans j;refine⟨O,P,c3,rfl,(o.rowW s id).live (by simp),fun ac hs=> ?_⟩;have L:QE2 m (Gn G F.heap.size m.heap.size) O P c3 (ins k (QF bs a y) D.waits):=hL.mono fun x d=>by
   have s1:=g.size;have s2:=j.size;rcases d with(d|d)|d
   ·exact .inl d
   ·exact .inr ⟨d.1,by omega⟩
   ·exact .inr ⟨by omega,d.2⟩
  obtain⟨r1,r2⟩:=h.setW o L (fun x d=> .inl d) (fun d=>d.elim i6 fun h=>by omega) (by
   have s1:=o.size;rintro x (d|d)
   ·have:=i7 x d;omega
   ·exact d.2) (Qt5 i5) hs
  refine⟨Gn G F.heap.size m.heap.size,by simp[QC,t,I],⟨r2,fun x d=> ?_⟩,?_⟩
  ·rcases d with d|d
   ·exact .inl d
   ·exact .inr ⟨d.1,by have:=(Q31 hs).size;omega⟩
  ·have:Qf D k a y={D with waits:=ins k (QF bs a y) D.waits}:=by simp[Qf,t,I]
   rw[this];exact r1
 refine⟨_,rfl,Q0 (fun u=>by simp at u) (fun _=> ?_)⟩;refine⟨_,_,_,(r.rowW s id).row.cell rfl,?_⟩;refine(QQ3 (Q.ext r) p.1 k).mono ?_;rintro e au ⟨C,⟨i,bs,rfl,hi,E⟩|⟨rfl,E⟩⟩
 ·refine⟨_,rfl,Q0 (fun u=>by simp only[Za]at u;omega) (fun _ U J=> ?_)⟩
  have f:=(r.trans C).trans J.ext;have V:i<D.lasts.length:=(Zd.1 hi).1;obtain⟨aa,q,n,W,rfl,_,_,X,q',n',c'',Y,hb,z,Z,_⟩:=(Q.ext f).at hi;cases Y;rw[Ze];refine⟨_,_,_,(f.rowW s id).row.cell rfl,_,_,_,(f.rowW s id).row.cell rfl,⟨by omega,by have:=Q.1;omega⟩,q,n,W,X,?_⟩;refine(QL5 hb z Z a ha y).mono ?_;rintro e l ⟨M,N,c2,rfl,A,own⟩;have g:=f.trans A;refine⟨M,N,c2,rfl,⟨_,_,_,(g.rowW s id).row.cell rfl,rfl⟩,?_⟩;have K:bs.length<=4108:=by have e:n=bs.length:=hb.1;omega
  have B:QF bs a y≠ []:=by
   intro u;have:=congrArg List.length u;rw[Qj2]at this;exact z (Zk this)
  have hv:Qn (Gn G F.heap.size l.heap.size) l (.slice M N c2) (QF bs a y):=(QNb (w:=F) own f.size B (by rw[Qj2];exact K)).mono fun x d=> .inr d;refine(Q85 ((Q.ext g).mono (G':=Gn G F.heap.size l.heap.size) fun x d=> .inl d) T p.1 k hv).mono ?_;rintro e m ⟨O,P,c3,rfl,j,hL⟩;have o:=g.trans j;refine⟨O,P,c3,rfl,(o.rowW s id).live (by simp),fun ac hs=> ?_⟩;have L:QE2 m (Gn G F.heap.size m.heap.size) O P c3 (ins k (QF bs a y) D.lasts):=hL.mono fun x d=>by
   have s1:=g.size;have s2:=j.size;rcases d with(d|d)|d
   ·exact .inl d
   ·exact .inr ⟨d.1,by omega⟩
   ·exact .inr ⟨by omega,d.2⟩
  obtain⟨r1,r2⟩:=h.setL o L (fun x d=> .inl d) (fun d=>d.elim i6 fun h=>by omega) (by
   have s1:=o.size;rintro x (d|d)
   ·have:=i7 x d;omega
   ·exact d.2) (Qt5 T) hs
  refine⟨Gn G F.heap.size m.heap.size,by simp[QC,t,I,E],⟨r2,fun x d=> ?_⟩,?_⟩
  ·rcases d with d|d
   ·exact .inl d
   ·exact .inr ⟨d.1,by have:=(Q31 hs).size;omega⟩
  ·have:Qf D k a y={D with lasts:=ins k (QF bs a y) D.lasts}:=by simp[Qf,t,I,E]
   rw[this];exact r1
 ·refine⟨_,rfl,Q0 (fun _=> ?_) (fun u=>by simp at u)⟩
  refine⟨G,by simp[QC,t,I,E],Q42.ext (r.trans C),?_⟩;have:Qf D k a y=D:=by simp[Qf,t,I,E]
  rw[this];exact h.ext (r.trans C)
end Go.Proofs.YtkolafpgbhpdlaaGreat
