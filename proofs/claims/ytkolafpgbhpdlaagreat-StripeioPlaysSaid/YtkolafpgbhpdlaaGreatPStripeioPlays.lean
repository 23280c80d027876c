import Derived.Test.YtkolafpgbhpdlaaGreatMZ
import Derived.Test.YtkolafpgbhpdlaaGreatRows
set_option maxHeartbeats 4000000
namespace Go.Proofs.YtkolafpgbhpdlaaGreat
open Go Go.Vc Go.Gf Go.ChangeShapes Go.WideShapes Go.ChangeAt Go.RowKit
open Go.IntKind (i64)
open Go.Value (int)
open Go.Proofs.Tryz (prog)
theorem Q1f{n s:Int}(i:1<=n/\n<=32)(hs:1<=s/\s<=4096)(w:World):Calls prog 10 #[int i64 n,int i64 s] w fun f w1=>∃a,f= .returned (.tuple #[.pointer (some (at0 a)),int i64 0])∧
  Calls prog 27 #[int i64 n,int i64 s] w1 fun g d=>∃r F G,g= .returned (.tuple #[.pointer (some (at0 r)),int i64 0])/\Ext w d/\QJ7 d a r (QDe n.toNat s) F G/\OkA (QDe n.toNat s)/\1<=(QDe n.toNat s).M.length/\(∀x,F x\/G x->w.heap.size<=x):=by
 refine(QB9 (n:=n) (s:=s) i hs w).mono ?_;rintro e w1 ⟨a,F,rfl,j,k,o⟩;refine⟨_,rfl,(QVb (n:=n) (s:=s) i hs w1).mono ?_⟩;rintro e d ⟨r,G,rfl,l,p,m⟩;have q:IsA d a (QDe n.toNat s) F:=Ql.ext k l;have t:IsR d r (QDe n.toNat s) G:=by
  have f:QG3 (QDe n.toNat s)=List.replicate n.toNat ⟨s,[],[],false⟩:=by simp[QG3,QDe]
  have g:Qj3 (QDe n.toNat s)=List.replicate n.toNat 0:=by simp[Qj3,QDe]
  unfold IsR;rw[f,g];exact p
 refine⟨r,F,G,rfl,j.trans l,⟨q,t,fun x u v=> ?_⟩,Qkj (by omega),by simp[QDe];omega,?_⟩
 ·have:=Ql.lt k x u
  have:=m x v;omega
 ·rintro x (h|h)
  ·exact o x h
  ·exact Zu j.size (m x h)
def Qql(g:Geo)(w:World)(kb pf pa pr:σ)(n:Int)(w1:World):Prop:=
 ∃(k13 kf i a r:Nat)(s:StA)(F G:Nat->Prop)(wb:World),kb=some (at0 k13)/\pf=some (at0 kf)/\pa=some (at0 a)/\pr=some (at0 r)/\n=i/\i<=30/\Ext w wb/\Ext wb w1/\RowW wb k13 (gC g)/\Qm wb (some (at0 kf))/\(∀x,F x\/G x->wb.heap.size<=x)/\QJ7 w1 a r s F G/\OkA s/\1<=s.M.length
set_option maxRecDepth 20000 in
theorem Q55(g:Geo)(n7:Int){w:World}{X:σ}{Y c8:Nat}{L:List QXa}(hL:Qsc w X Y L):
  Calls prog 8 #[gV g,int i64 n7, .slice X Y c8] w fun e w'=>e= .returned (.bool true)/\Ext w w':=by
 refine(F8_calls g.k g.m g.size g.stripes g.slots g.objects n7 X Y c8 w (fun v w'=>v= .bool true/\Ext w w') (fun kb pf pa pr _ n w1=>Qql g w kb pf pa pr n w1) (fun _ _ _ _ _ n _=>50-n.toNat) ?_).mono (by rintro e w' ⟨v,rfl,rfl,h⟩;exact⟨rfl,h⟩);intro H Z Q;refine(Qdc Z).mono ?_;rintro e aa ⟨rfl,R⟩;refine⟨_,rfl,(Q1a aa).mono ?_⟩;rintro e A ⟨kf,rfl,o,_,P⟩;have l:=(Q.ext.trans R).trans o;have f:RowW A H (gC g):=(R.trans o).rowW ⟨_,Q.at⟩ id;refine⟨_,rfl,Q0 (fun h=>by cases h) fun _=>Q0 (fun h=>by cases h) fun _=>⟨_,f.row.cell (n:=0) rfl,_,f.c rfl,_,f.c rfl,_,f.c rfl,_,f.c rfl,_,f.c rfl,(Qqe g A).mono ?_⟩⟩;rintro e I ⟨rfl,J⟩;have B:=l.trans J;have S:RowW I H (gC g):=J.rowW f id;refine⟨_,rfl,Q0 (fun _=>⟨rfl,B⟩) fun _=>Q0 (fun _=>⟨rfl,B⟩) fun h1=>Q0 (fun _=>⟨rfl,B⟩) fun h2=> ?_⟩;simp only[Zb]at h1 h2;refine(Q1f (n:=n7) (s:=40) ⟨by omega,by omega⟩ ⟨by omega,by omega⟩ I).mono ?_;rintro e w6 ⟨a,rfl,hc⟩;refine⟨_,_,rfl,hc.mono ?_⟩;rintro e au ⟨r,F,G,rfl,ae,hP,z,t,p⟩;refine⟨_,_,rfl,Qi5 rfl (Qi5 rfl (Qi5 (by simp) (Qi5 (by simp) ⟨⟨H,kf,0,a,r,_,F,G,I,rfl,rfl,rfl,rfl,rfl,by omega,B,ae,S,P.ext J,p,hP,z,t⟩,?_⟩)))⟩;clear hP z t p S P f;rintro av aw ⟨k',kf',i,a',r',s,F,G,wb,e0,e3,e1,e2,rfl,hi,xb,K,rb,P,p,hP,z,t⟩;simp only[Zi,at0,Zv,and_true]at e0 e1 e2 e3;subst e0 e1 e2 e3
 intros
 have M:=xb.trans K;refine Q0 (fun N=> ?_) (fun _=>⟨rfl,M⟩);refine Q0 (fun O=> ?_) (fun _=>⟨rfl,M⟩);simp only[Za]at N O;obtain⟨cl,af⟩:∃cl,L[i]? =some cl:=⟨L[i]'(by have:=hL.1;omega),Zc _⟩;obtain⟨ap,p3,l3,c3,p5,l5,c5,p6,l6,c6,rfl,C⟩:=hL.2 i cl af;rw[Ze];have ce:∀{w':World}{b:Addr}{v:Value},Ext w w'->w.cell? b=some v->w'.cell? b=some v:=fun T hc=>T.cell hc id;have u:∀{j:Nat}{v:Value},w.cell? (((ap.add (i*11)).add 4).add j)=some v->w.cell? ((ap.add (i*11)).add (4+j))=some v:=fun h=>by rw[QB]at h;exact h
 have ah:i64.wrap ((i:Int)+1)=((i+1:Nat):Int):=by rw[Go.Vc.w64 (by omega)];omega
 have mu:50-(((i+1:Nat):Int)).toNat<50-((i:Int)).toNat:=by omega
 rw[ah];have va:=C.arr;refine⟨⟨by omega,N⟩,_,_,_,ce M C.dat,Q0 (fun _=>⟨⟨_,_,i+1,_,_,s,F,G,wb,rfl,rfl,rfl,rfl,rfl,by omega,xb,K,rb,P,p,hP,z,t⟩,mu⟩) fun az=>fun A D=> ?_⟩;have o:=K.trans D.ext;have l:=xb.trans o;have f:RowW A _ (gC g):=o.rowW rb id;refine⟨_,f.row.cell (n:=0) rfl,_,f.c rfl,_,f.c rfl,_,f.c rfl,_,f.c rfl,_,f.c rfl,⟨by omega,N⟩,_,ce l C.kind,_,ce l C.n,_,ce l C.m,_,_,_,ce l C.dat,_,ce l va.kind,_,ce l (u va.d),_,ce l (u va.n),_,ce l (u va.m),_,ce l (u va.y),_,_,_,ce l (u va.b),_,_,_,ce l (u va.keep),?_⟩
 have ik:(l6=cl.arr.keep.length/\∀i ks,cl.arr.keep[i]? =some ks->∃a q n c,p6=some a/\wb.cell? (a.add (i*1))=some (.slice q n c)/\QV wb q n ks):=⟨va.ints.1,fun j ks hj=>by
  obtain⟨a,q,n,c,h1,h2,h3⟩:=va.ints.2 j ks hj
  exact⟨a,q,n,c,h1,ce xb h2,h3.ext xb⟩⟩
 refine(QId (w0:=wb) (hP.ext D.ext) z o (fun x T=>p x (.inl T)) (fun x T=>p x (.inr T)) P g (C.bytes.ext xb) C.cap (va.bytes.ext xb) ik va.nr va.mr C.kl).mono ?_;rintro e a2 ⟨rfl,s',F',G',U,ai,E,aj⟩;obtain⟨ak,V⟩:=QW9 o ai p;refine⟨_,rfl,(Qpe U E (by omega)).mono ?_⟩;rintro e a5 ⟨rfl,W⟩;exact⟨_,rfl,Qi5 rfl (Qi5 rfl ⟨⟨_,_,i+1,_,_,s',F',G',wb,rfl,rfl,rfl,rfl,rfl,by omega,xb,ak.trans W,rb,P,V,U.ext W,E,by omega⟩,mu⟩)⟩
set_option maxRecDepth 100000 in
theorem stripeioPlays_lifted(os:Os)(started:os.Started)(H:Type)(enc:TypeId×Value->H):
  ReturnsInHanded {} Tryz.checked os 8 .any (Rows.stripeioPlaysSpec.pre6 enc prog Tryz.f8 Rows.stripeioPlaysRow.domain false) (Rows.stripeioPlaysSpec.post enc prog Tryz.f8 false true false false):=by
 refine returnsInHanded_of_change (C:=Tryz.checked) QJk started (by kernel_rfl) Tryz.func8
  (ChangeSpec.witness6 (enc:=enc) (C:=Tryz.checked) false ⟨#[],#[.agg #[int i64 0,int i64 0,int i64 0,int i64 0,int i64 0,int i64 0],int i64 0, .slice none 0 0],[]⟩ 8 (by kernel_rfl) (by kernel_rfl) (by kernel_rfl) (by kernel_rfl)) ?_
 intro W base args ds gs before d h i _;have a:∀(j:Nat) t v,Tryz.f8.params[j]? =some t->args[j]? =some v->Value.okWide prog W .any base t v:=d;have f:=h;obtain⟨p,q,hA0,n,rfl,o,r⟩:=h;have k:DataW.TrodAll enc prog W 0 (fun _=>true) true Tryz.f8.params.toList args.toList ds p:=hA0;rw[Tryz.params8]at k a;obtain⟨v0,s,O,u,P,Q,g,rfl,rfl,x,y⟩:=trodAll_cons k;obtain⟨l,z,R,A,S,T,rfl,rfl,rfl,B,D⟩:=trodAll_cons y;obtain⟨m,E,U,F,V,X,rfl,rfl,rfl,G,I⟩:=trodAll_cons D;obtain⟨rfl,rfl,rfl⟩:=trodAll_nil I;obtain rfl:args= #[v0,l,m]:=by cases args;simp_all
 obtain⟨rfl,rfl⟩:=trodVars_none n;obtain⟨J,rfl⟩:=Q7i (okWide_struct Tryz.underlying24 (a 0 24 v0 rfl rfl)) x;obtain⟨K,rfl,rfl,rfl,L⟩:=open_int Tryz.underlying3 (a 1 3 l rfl rfl) B;obtain⟨Y,Z,c2,L2,rfl,hL2⟩:=Qga (okWide_slice Tryz.underlying55 (a 2 55 m rfl rfl)) G;refine(Q55 J K hL2).mono fun e W' ⟨M,N⟩=> ?_;subst M;exact⟨_,rfl,Qng QEj rfl (by kernel_rfl) rfl Tryz.underlying4 f rfl N.below⟩
theorem stripeioPlays_holds:Rows.StripeioPlaysSaid:=
 OpenClaim.holds_of_wide 8 Tryz.f8 rfl rfl rfl rfl rfl rfl rfl ⟨rfl,rfl,rfl,rfl,rfl⟩ rfl rfl rfl rfl rfl (by kernel_rfl) Tryz.func8 (by kernel_rfl)
  (of_decide_eq_true (by kernel_rfl)) (by unfold Func.isWrapper;first|(rw[if_pos (by decide+kernel)];kernel_rfl)|(rw[if_neg (by decide+kernel)];exact⟨rfl,rfl⟩))
  (fun os started H enc _=>stripeioPlays_lifted os started H enc)
end Go.Proofs.YtkolafpgbhpdlaaGreat
#print axioms Go.Proofs.YtkolafpgbhpdlaaGreat.stripeioPlays_holds
