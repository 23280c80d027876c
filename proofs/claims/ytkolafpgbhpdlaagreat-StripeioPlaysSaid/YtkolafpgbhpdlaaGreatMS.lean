import Derived.Test.YtkolafpgbhpdlaaGreatMJ
import Derived.Test.YtkolafpgbhpdlaaGreatMA
import Derived.Test.YtkolafpgbhpdlaaGreatMC
import Derived.Test.YtkolafpgbhpdlaaGreatRF2
import Derived.Test.YtkolafpgbhpdlaaGreatMI
set_option maxHeartbeats 4000000
namespace Go.Proofs.YtkolafpgbhpdlaaGreat
open Go Go.Vc
open Go.IntKind (i64)
open Go.Value (int)
open Go.Proofs.Tryz (prog)
def Qp2(g:Geo)(i n:Int)(L:List Int):Int:=if QA g/\0<=i/\i<n then L.foldl (fun a x=>i64.wrap (a+x)) (i64.wrap (1+i))else 0
theorem Qz5(g:Geo)(i n:Int){p:σ}{l c:Nat}{L:List Int}{w:World}(h:QV w p l L)(N:l<=4611686018427387904):Calls prog 42 #[gV g,int i64 i,int i64 n, .slice p l c] w fun e w'=>e= .returned (int i64 (Qp2 g i n L))/\Ext w w':=by
 refine(F42_calls g.k g.m g.size g.stripes g.slots g.objects i n p l c w (fun v w'=>v=int i64 (Qp2 g i n L)/\Ext w w')
  (fun _ _ _ _ f t d u=>∃j:Nat,d=j/\j<=l/\u=f/\t=(L.take j).foldl (fun a x=>i64.wrap (a+x)) (i64.wrap (1+i))) (fun _ _ _ _ _ _ d _=>4611686018427387905-d.toNat) ?_).mono (by rintro e w' ⟨v,rfl,rfl,h⟩;exact⟨rfl,h⟩)
 have I:=h.1;intro B y J;have r:RowW y B _:=⟨_,J.at⟩;refine⟨_,r.row.cell (n:=0) rfl,_,r.c rfl,_,r.c rfl,_,r.c rfl,_,r.c rfl,_,r.c rfl,(Qh5 g y).mono ?_⟩;rintro e f ⟨rfl,C⟩;have o:=J.ext.trans C;have bad:¬(QA g/\0<=i/\i<n)->int i64 0=int i64 (Qp2 g i n L)/\Ext w f:=fun M=>⟨by unfold Qp2;rw[if_neg M],o⟩;refine⟨_,rfl,Q0 (fun q=>bad fun D=> ?_) fun q=>Q0 (fun E=>bad fun D=> ?_) fun E=>Q0 (fun F=>bad fun D=> ?_) fun F=> ?_⟩
 ·unfold Q80 at q;rw[if_pos D.1]at q;cases q
 ·simp only[Za]at E;omega
 ·simp only[Za]at F;omega
 simp only[Zb]at E F;have A:QA g:=by
  by_cases A:QA g
  ·exact A
  ·unfold Q80 at q;rw[if_neg A]at q;cases q
 have G:QA g/\0<=i/\i<n:=⟨A,by omega,by omega⟩;refine⟨⟨0,rfl,Nat.zero_le _,rfl,rfl⟩,?_⟩;rintro t d u ⟨j,rfl,O,rfl,rfl⟩
 intros
 refine Q0 (fun z=> ?_) (fun H=> ?_)
 ·simp only[Za]at z
  obtain⟨x,K⟩:∃x,L[j]? =some x:=⟨L[j]'(by omega),Zc _⟩;obtain⟨a,rfl,ca⟩:=(h.ext o).2 j (int i64 x) (by rw[Zq,K];rfl);refine⟨⟨by omega,z⟩,x,by rw[Ze,Nat.mul_one];exact ca,?_⟩;rw[w64 (n:=(j:Int)+1) (by omega)];refine⟨⟨j+1,by omega,by omega,rfl,?_⟩,?_⟩
  ·rw[Zn,K,List.foldl_append];rfl
  ·show 4611686018427387905-((j:Int)+1).toNat<4611686018427387905-(j:Int).toNat
   omega
 ·simp only[Zb]at H
  rw[Zh (by omega)];exact⟨by unfold Qp2;rw[if_pos G],o⟩
theorem QZ8{w w':World}{k:Nat}{L:List Int}(h:RowW w k (L.map (Value.int .i64)).toArray)(_:w'=w):QV w (some (at0 k)) L.length L:=⟨rfl,fun j u a=>⟨_,rfl,h.row.cell (by simpa using a)⟩⟩
def atZ(g:Geo)(i:Int):Int:=if QA g/\0<=i/\i<g.stripes then 5+g.slots+i else 0
theorem Qic(g:Geo)(i:Int)(w:World):Calls prog 23 #[gV g,int i64 i] w fun e w'=>e= .returned (int i64 (atZ g i))/\Ext w w':=by
 refine(F23_calls g.k g.m g.size g.stripes g.slots g.objects i w (fun v w'=>v=int i64 (atZ g i)/\Ext w w') ?_).mono (by rintro e w' ⟨v,rfl,rfl,h⟩;exact⟨rfl,h⟩);intro l o j;have r:RowW o l _:=⟨_,j.at⟩;refine⟨_,r.row.cell (n:=0) rfl,_,r.c rfl,_,r.c rfl,_,r.c rfl,_,r.c rfl,_,r.c rfl,_,r.c rfl,_,r.c rfl,fun p d a=> ?_⟩;refine(Qz5 g i g.stripes (L:=[4,g.slots]) (QZ8 (L:=[4,g.slots]) (w':=d) ⟨_,a.at⟩ rfl) (by simp)).mono ?_;rintro e q ⟨rfl,f⟩;refine⟨_,rfl,?_,(j.ext.trans a.ext).trans f⟩;unfold Qp2 atZ
 by_cases h:QA g/\0<=i/\i<g.stripes
 ·rw[if_pos h,if_pos h]
  obtain⟨_,_,t,u,_⟩:=h.1;show int i64 (i64.wrap (i64.wrap (i64.wrap (1+i)+4)+g.slots))=_
  rw[w64 (n:=1+i) (by omega),w64 (n:=1+i+4) (by omega),w64 (by omega)]
  congr 1
  omega
 ·rw[if_neg h,if_neg h]
def Qbd(g:Geo):Int:=if QA g then 5+g.slots+g.stripes else 0
def Qc0(g:Geo)(i j:Int):Int:=if QA g/\(0<=i/\i<g.stripes)/\0<=j/\j<g.k+g.m then(j+i) % (g.k+g.m)else 0
theorem Qn5(g:Geo)(i j:Int)(w:World):Calls prog 62 #[gV g,int i64 i,int i64 j] w fun e w'=>e= .returned (int i64 (Qc0 g i j))/\Ext w w':=by
 refine(F62_calls g.k g.m g.size g.stripes g.slots g.objects i j w (fun v w'=>v=int i64 (Qc0 g i j)/\Ext w w') ?_).mono (by rintro e w' ⟨v,rfl,rfl,h⟩;exact⟨rfl,h⟩);intro z l F;have r:RowW l z _:=⟨_,F.at⟩;refine⟨_,r.row.cell (n:=0) rfl,_,r.c rfl,_,r.c rfl,_,r.c rfl,_,r.c rfl,_,r.c rfl,_,r.c rfl,?_⟩;have d:QV l none 0 []:=⟨rfl,Qa.nil _ _⟩;refine(Qz5 g i g.stripes (c:=0) d (by omega)).mono ?_;rintro e o ⟨rfl,p⟩;have a:RowW o z _:=p.rowW r id;have q:=F.ext.trans p
 by_cases ha:QA g/\0<=i/\i<g.stripes
 ·obtain⟨⟨G,H,I,J,K⟩,hi⟩:=ha
  have A:QA g:=⟨G,H,I,J,K⟩;have B:Qp2 g i g.stripes []=1+i:=by unfold Qp2;rw[if_pos ⟨A,hi⟩];show i64.wrap (1+i)=_;rw[w64 (by omega)]
  rw[B];refine⟨_,rfl,Q0 (fun C=>by simp only[Za]at C;omega) fun _=>⟨_,a.row.cell (n:=0) rfl,_,a.c rfl,_,a.c rfl,_,a.c rfl,_,a.c rfl,_,a.c rfl,_,a.row.cell (n:=0) rfl,_,a.c rfl,?_⟩⟩;rw[w64 (n:=g.k+g.m) (by omega)];have d:QV o none 0 []:=⟨rfl,Qa.nil _ _⟩;refine(Qz5 g j (g.k+g.m) (c:=0) d (by omega)).mono ?_;rintro e D ⟨rfl,t⟩;have u:RowW D z _:=t.rowW a id;have x:=q.trans t
  by_cases y:0<=j/\j<g.k+g.m
  ·have E:Qp2 g j (g.k+g.m) []=1+j:=by unfold Qp2;rw[if_pos ⟨A,y⟩];show i64.wrap (1+j)=_;rw[w64 (by omega)]
   rw[E];refine⟨_,rfl,Q0 (fun C=>by simp only[Za]at C;omega) fun _=>⟨_,u.row.cell (n:=0) rfl,_,u.c rfl,?_⟩⟩;rw[w64 (n:=g.k+g.m) (by omega),w64 (n:=j+i) (by omega)];refine⟨by omega,?_,x⟩;unfold Qc0;rw[if_pos ⟨A,hi,y⟩,Int.tmod_eq_emod_of_nonneg (by omega)]
  ·have E:Qp2 g j (g.k+g.m) []=0:=by unfold Qp2;rw[if_neg (fun f=>y f.2)]
   rw[E];refine⟨_,rfl,Q0 (fun _=>⟨?_,x⟩) fun h=>by simp at h⟩;unfold Qc0;rw[if_neg (fun f=>y f.2.2)]
 ·have B:Qp2 g i g.stripes []=0:=by unfold Qp2;rw[if_neg ha]
  rw[B];refine⟨_,rfl,Q0 (fun _=>⟨?_,q⟩) fun h=>by simp at h⟩;unfold Qc0;rw[if_neg (fun f=>ha ⟨f.1,f.2.1⟩)]
open Go Go.Vc
open Go.IntKind (i64)
open Go.Value (int)
open Go.Proofs.Tryz (prog)
def QN1:List Int->Int
 | []=>0
 |x::l=>if x=0 then QN1 l else x
theorem Qu7{p:σ}{l c:Nat}{L:List Int}{w:World}(h:QV w p l L)(B:l<=1000):Calls prog 37 #[.slice p l c] w fun e w'=>e= .returned (int i64 (QN1 L))/\w'=w:=by
 refine(F37_calls p l c w (fun v w'=>v=int i64 (QN1 L)/\w'=w) (fun _ _ _ _ _ n6 t=>∃j:Nat,n6=j/\j<=l/\t=w/\QN1 (L.drop j)=QN1 L) (fun _ _ _ _ _ n6 _=>1001-n6.toNat) ?_).mono (by rintro e w' ⟨v,rfl,rfl,h⟩;exact⟨rfl,h⟩);have u:=h.1;refine⟨⟨0,rfl,Nat.zero_le _,rfl,rfl⟩,?_⟩;rintro n6 t ⟨j,rfl,C,rfl,d⟩
 intros
 refine Q0 (fun f=> ?_) (fun o=> ?_)
 ·simp only[Za]at f
  obtain⟨x,y⟩:∃x,L[j]? =some x:=⟨L[j]'(by omega),Zc _⟩;obtain⟨a,rfl,ca⟩:=h.2 j (int i64 x) (by rw[Zq,y];rfl);have q:L.drop j=x::L.drop (j+1):=by
   have r:j<L.length:=by omega
   rw[List.drop_eq_getElem_cons r]
   congr 1
   exact(Zd.1 y).2
  rw[q,QN1]at d;refine⟨⟨by omega,f⟩,x,by rw[Ze,Nat.mul_one];exact ca,Q0 (fun z=> ?_) fun A=> ?_⟩
  ·simp only[Zg,Zb]at z
   rw[if_neg z]at d;exact⟨by rw[d],rfl⟩
  ·simp only[Zf,Za]at A
   rw[if_pos A]at d;rw[w64 (by omega)];exact⟨⟨j+1,by omega,by omega,rfl,d⟩,by show 1001-((j:Int)+1).toNat<1001-(j:Int).toNat;omega⟩
 ·simp only[Zb]at o
  rw[List.drop_of_length_le (by omega)]at d;exact⟨by rw[←d];rfl,rfl⟩
abbrev lnV(pa pf:σ)(g:Geo)(i e:Int):Value:= .agg #[.pointer pa, .pointer pf,int i64 g.k,int i64 g.m,int i64 g.size,int i64 g.stripes,int i64 g.slots,int i64 g.objects,int i64 i,int i64 e]
abbrev lnC(pa pf:σ)(g:Geo)(i e:Int):Array Value:= #[.pointer pa, .pointer pf,int i64 g.k,int i64 g.m,int i64 g.size,int i64 g.stripes,int i64 g.slots,int i64 g.objects,int i64 i,int i64 e]
theorem Qm0{w:World}{k:Nat}{cs:Array Value}(r:RowW w k cs){i j:Nat}{v:Value}(h:cs[i+j]? =some v):w.cell? (((at0 k).add i).add j)=some v:=by rw[QB];exact r.row.cell h
theorem Qh4(b:Bool)(w:World):Calls prog 60 #[.bool b] w fun e w'=>e= .returned (int i64 (if b then 0 else 1))/\w'=w:=
 (F60_calls b w (fun v w'=>v=int i64 (if b then 0 else 1)/\w'=w) (Q0 (fun h=>by subst h;exact⟨rfl,rfl⟩) fun h=>by subst h;exact⟨rfl,rfl⟩)).mono (by rintro e w' ⟨v,rfl,rfl,h⟩;exact⟨rfl,h⟩)
def Qh3(g:Geo)(i e:Int):Bool:=decide (0<=i/\i<g.stripes/\0<=e/\e<=2147483647)
def Q11(pa pf:σ)(g:Geo)(i e:Int):Int:=QN1 [if pa.isSome&&pf.isSome then 0 else 1,Q80 g,if Qh3 g i e then 0 else 1]
theorem Qy4(pa pf:σ)(g:Geo)(i e:Int)(w:World):Calls prog 32 #[lnV pa pf g i e] w fun F w'=>F= .returned (int i64 (Q11 pa pf g i e))/\Ext w w':=by
 refine(F32_calls pa pf g.k g.m g.size g.stripes g.slots g.objects i e w (fun v w'=>v=int i64 (Q11 pa pf g i e)/\Ext w w') ?_).mono (by rintro e w' ⟨v,rfl,rfl,h⟩;exact⟨rfl,h⟩);intro l O M t N;have r:RowW t l (lnC pa pf g i e):=N.ext.rowW ⟨_,M.at⟩ id;have y:=M.ext.trans N.ext;have leaf:∀(j:World)(b:Bool),Ext w j->b=Qh3 g i e->Calls prog 60 #[.bool b] j fun H z=>(∃(A:Int),H= .returned (int i64 A)/\(∀(u:Nat)(o:World),QG z u (.cells #[int i64 (if pa.isSome&&pf.isSome then 0 else 1),int i64 (Q80 g),int i64 A] 27) o->(Calls prog 37 #[.slice (some (at0 u)) 3 3] o fun I B=>(∃(C:Int),I= .returned (int i64 C)/\(int i64 C=int i64 (Q11 pa pf g i e)/\Ext w B))))):=by
  rintro j b p rfl;refine(Qh4 _ j).mono ?_;rintro e z ⟨rfl,rfl⟩;refine⟨_,rfl,fun u o D=>(Qu7 (L:=[if pa.isSome&&pf.isSome then 0 else 1,Q80 g,if Qh3 g i e then 0 else 1]) (QZ8 (w':=o) ⟨_,D.at⟩ rfl) (by simp)).mono ?_⟩;rintro e B ⟨rfl,rfl⟩;exact⟨_,rfl,rfl,p.trans D.ext⟩
 have tail:∀(f:World),Ext w f->RowW f l (lnC pa pf g i e)->F32_A0 (.returned (int i64 (if pa.isSome&&pf.isSome then 0 else 1))) f l g.k g.m g.size g.stripes g.slots g.objects i (fun v w'=>v=int i64 (Q11 pa pf g i e)/\Ext w w'):=by
  intro f J d;unfold F32_A0;refine⟨_,rfl,⟨_,d.c rfl,_,Qm0 d rfl,_,Qm0 d rfl,_,Qm0 d rfl,_,Qm0 d rfl,_,Qm0 d rfl,rfl⟩,⟨_,d.c rfl,rfl⟩,(Qh5 g f).mono ?_⟩;rintro F j ⟨rfl,p⟩;have r33:RowW j l (lnC pa pf g i e):=p.rowW d id;have q:=J.trans p;refine⟨_,rfl,⟨_,r33.c rfl,rfl⟩,Q0 (fun G=>⟨_,r33.c rfl,_,Qm0 r33 rfl,Q0 (fun x=>⟨_,r33.c rfl,Q0 (fun E=>⟨_,r33.c rfl,leaf _ _ q ?_⟩) fun E=>leaf _ _ q ?_⟩) fun x=>leaf _ _ q ?_⟩) fun G=>leaf _ _ q ?_⟩
  all_goals simp only[Za,Zb]at G
  ·simp only[Za]at x E
   unfold Qh3;exact decide_eq_decide.2 ⟨fun h=>⟨G,x,E,h⟩,fun h=>h.2.2.2⟩
  ·simp only[Za,Zb]at x E
   exact(decide_eq_false (fun h=>E h.2.2.1)).symm
  ·simp only[Zb]at x
   exact(decide_eq_false (fun h=>x h.2.1)).symm
  ·exact(decide_eq_false (fun h=>G h.1)).symm
 refine⟨_,r.row.cell (n:=0) rfl,Q0 (fun ha=>⟨_,r.c rfl,_,r.c rfl,_,Qm0 r rfl,_,Qm0 r rfl,_,Qm0 r rfl,_,Qm0 r rfl,_,Qm0 r rfl,_,r.c rfl,(Qh4 _ t).mono ?_⟩) fun ha=>⟨_,r.c rfl,_,Qm0 r rfl,_,Qm0 r rfl,_,Qm0 r rfl,_,Qm0 r rfl,_,Qm0 r rfl,_,r.c rfl,(Qh4 _ t).mono ?_⟩⟩
 ·rintro F f ⟨rfl,rfl⟩
  have K:(if(!pf.isNone)=true then(0:Int)else 1)=if pa.isSome&&pf.isSome then 0 else 1:=by
   cases pa with
   |none=>cases ha
   |some a=>cases pf<;>rfl
  rw[K];exact tail _ y r
 ·rintro F f ⟨rfl,rfl⟩
  have K:(if(false:Bool)=true then(0:Int)else 1)=if pa.isSome&&pf.isSome then 0 else 1:=by
   cases pa with
   |none=>rfl
   |some a=>cases ha
  rw[K];exact tail _ y r
theorem Qx6(pa pf:σ)(g:Geo)(i e:Int)(w:World):Calls prog 63 #[lnV pa pf g i e] w fun j w'=>j= .returned (int i64 (atZ g i))/\Ext w w':=by
 refine(F63_calls pa pf g.k g.m g.size g.stripes g.slots g.objects i e w (fun v w'=>v=int i64 (atZ g i)/\Ext w w') ?_).mono (by rintro e w' ⟨v,rfl,rfl,h⟩;exact⟨rfl,h⟩);intro d a l;have r:RowW a d (lnC pa pf g i e):=⟨_,l.at⟩;refine⟨_,r.c rfl,_,Qm0 r rfl,_,Qm0 r rfl,_,Qm0 r rfl,_,Qm0 r rfl,_,Qm0 r rfl,_,r.c rfl,(Qic g i a).mono ?_⟩;rintro j o ⟨rfl,f⟩;exact⟨_,rfl,rfl,l.ext.trans f⟩
open Go Go.Vc
open Go.IntKind (i64)
open Go.Value (int)
open Go.Proofs.Tryz (prog)
def wrZ(s:StA)(i:Nat)(n:Int)(len:Nat):Int:=if s.down then 130 else match s.M[i]? with
 |some m=>Qs m.d n len
 |none=>1
theorem QCi{w:World}{a:Nat}{s:StA}{F:Nat->Prop}(h:IsA w a s F)(o:OkA s){i:Nat}(hi:i<s.M.length)(n:Int){p:σ}{l c:Nat}{b:τ}(hb:Q1 w p l b):
  Calls prog 69 #[.pointer (some (at0 a)),int i64 (i:Int),int i64 n, .slice p l c] w fun e w'=>∃f,e= .returned (int i64 (wrZ s i n b.length))/\Qp F f w w'/\IsA w' a (Q70 s i n b) f:=by
 obtain⟨M,left,down⟩:=s;cases down with
 |true=>
  refine(Qi4 h (i:Int) n p l c).mono ?_;rintro e w' ⟨rfl,rfl⟩;exact⟨F,rfl,Qp.refl _ _,by simpa[Q70]using h⟩
 |false=>
  obtain⟨m,j⟩:∃m,M[i]? =some m:=⟨M[i]'hi,Zc _⟩;refine(QJ6 h o.2 j n hb).mono ?_;rintro e w' ⟨f,rfl,hs,q⟩;refine⟨f,by simp[wrZ,j],hs,?_⟩;have:Q70 ⟨M,left,false⟩ (i:Int) n b=⟨M.set i {m with d:=QT m.d n b},if Qs m.d n b.length=0/\0<left then left-1 else left,decide (Qs m.d n b.length=0/\left=1)⟩:=by
   unfold Q70;simp[j]
  rw[this];exact q
theorem Qye{w:World}{a:Nat}{s:StA}{F:Nat->Prop}(h:IsA w a s F)(o:OkA s){d:Int}(q:0<=d)(n:Int){p:σ}{l c:Nat}{b:τ}(hb:Q1 w p l b):
  Calls prog 69 #[.pointer (some (at0 a)),int i64 d,int i64 n, .slice p l c] w fun e w'=>∃j,e= .returned (int i64 (wrZ s d.toNat n b.length))/\Qp F j w w'/\IsA w' a (Q70 s d n b) j:=by
 obtain⟨i,rfl⟩:=Int.eq_ofNat_of_zero_le q
 by_cases hi:i<s.M.length
 ·exact QCi h o hi n hb
 ·have f:s.M[i]? =none:=Zr (by omega)
  obtain⟨M,left,down⟩:=s;cases down with
  |true=>
   refine(Qi4 h (i:Int) n p l c).mono ?_;rintro e w' ⟨rfl,rfl⟩;exact⟨F,rfl,Qp.refl _ _,by simpa[Q70]using h⟩
  |false=>
   refine(Q28 h (i:=(i:Int)) (fun r=>hi (by have t:(i:Int)<(M.length:Int):=r.2;show i<M.length;omega)) n p l c).mono ?_;rintro e w' ⟨rfl,rfl⟩;refine⟨F,by dsimp only at f;simp[wrZ,f],Qp.refl _ _,?_⟩;have:Q70 ⟨M,left,false⟩ (i:Int) n b=⟨M,left,false⟩:=by
    dsimp only at f
    unfold Q70;simp[f]
   rw[this];exact h
def Q8e(g:Geo)(i e:Int)(b:τ):Prop:=QH0 (atZ g i)/\QH0 e/\b.length<=4096
instance (g:Geo) (i e:Int) (b:τ):Decidable (Q8e g i e b):=inferInstanceAs (Decidable (_/\_/\_))
def QRb(s:StA)(g:Geo)(i e j:Int)(b:τ):Int:=if Q8e g i e b then wrZ s (Qc0 g i j).toNat (atZ g i) (QR (atZ g i) e b).length else 1
def QR7(s:StA)(g:Geo)(i e j:Int)(b:τ):StA:=if Q8e g i e b then Q70 s (Qc0 g i j) (atZ g i) (QR (atZ g i) e b)else s
theorem Qc2(g:Geo)(i j:Int):0<=Qc0 g i j:=by
 unfold Qc0
 split
 ·rename_i h
  have:=h.1.1;exact Int.emod_nonneg _ (by omega)
 ·exact Int.le_refl _
theorem QIa{w:World}{a:Nat}{s:StA}{F:Nat->Prop}(h:IsA w a s F)(X:OkA s)(pf:σ)(g:Geo)(i e j:Int){p:σ}{l c:Nat}{b:τ}(hb:Q1 w p l b)(Y:l<=4611686018427387904):
  Calls prog 36 #[lnV (some (at0 a)) pf g i e,int i64 j, .slice p l c] w fun y w'=>∃u,y= .returned (int i64 (QRb s g i e j b))/\Qp F u w w'/\IsA w' a (QR7 s g i e j b) u:=by
 refine(F36_calls (some (at0 a)) pf g.k g.m g.size g.stripes g.slots g.objects i e j p l c w (fun v w'=>∃u,v=int i64 (QRb s g i e j b)/\Qp F u w w'/\IsA w' a (QR7 s g i e j b) u) ?_).mono (by rintro e w' ⟨v,rfl,u,rfl,h⟩;exact⟨u,rfl,h⟩);intro o Z V z W;have O:=V.ext.trans W.ext;have r:RowW z o (lnC (some (at0 a)) pf g i e):=W.ext.rowW ⟨_,V.at⟩ id;refine⟨_,r.row.cell (n:=0) rfl,_,r.c rfl,_,r.c rfl,_,r.c rfl,_,r.c rfl,_,r.c rfl,_,r.c rfl,_,r.c rfl,_,r.c rfl,_,r.c rfl,_,r.c rfl,(Qx6 (some (at0 a)) pf g i e z).mono ?_⟩;rintro y P ⟨rfl,A⟩;have B:RowW P o (lnC (some (at0 a)) pf g i e):=A.rowW r id;have C:=O.trans A;refine⟨_,rfl,⟨_,B.c rfl,rfl⟩,(Qkg (atZ g i) e (c:=c) (hb.ext C) Y).mono ?_⟩;rintro y Q ⟨D,N⟩;have R:RowW Q o (lnC (some (at0 a)) pf g i e):=D.rowW B id;have x:=C.trans D
 by_cases q:Q8e g i e b
 ·have t:QH0 (atZ g i)/\QH0 e/\b.length<=4096:=q
  rw[if_pos t]at N;obtain⟨kp,cp,_,rfl,S⟩:=N;refine⟨_,_,_,_,rfl,Q0 (fun h=>by simp at h) fun _=> ?_⟩;intro E G;have d:RowW E o (lnC (some (at0 a)) pf g i e):=G.ext.rowW R id;refine⟨_,d.row.cell (n:=0) rfl,_,d.c rfl,_,Qm0 d rfl,_,Qm0 d rfl,_,Qm0 d rfl,_,Qm0 d rfl,_,Qm0 d rfl,_,d.c rfl,_,d.row.cell (n:=0) rfl,_,d.c rfl,_,d.c rfl,_,d.c rfl,_,d.c rfl,_,d.c rfl,_,d.c rfl,_,d.c rfl,_,d.c rfl,_,d.c rfl,(Qn5 g i j E).mono ?_⟩;rintro y H ⟨rfl,I⟩;have f:RowW H o (lnC (some (at0 a)) pf g i e):=I.rowW d id;refine⟨_,rfl,⟨_,f.row.cell (n:=0) rfl,rfl⟩,⟨_,f.row.cell (n:=0) rfl,_,f.c rfl,_,f.c rfl,_,f.c rfl,_,f.c rfl,_,f.c rfl,_,f.c rfl,_,f.c rfl,_,f.c rfl,_,f.c rfl,rfl⟩,(Qx6 (some (at0 a)) pf g i e H).mono ?_⟩;rintro y T ⟨rfl,J⟩;have U:RowW T o (lnC (some (at0 a)) pf g i e):=J.rowW f id;have K:=(G.ext.trans I).trans J;have M:=x.trans K;refine⟨_,rfl,⟨_,U.row.cell (n:=0) rfl,rfl⟩,(Qye (c:=cp) (Ql.ext h M) X (Qc2 g i j) (atZ g i) (S.ext K)).mono ?_⟩;rintro y aa ⟨u,rfl,hs,h'⟩;refine⟨_,rfl,u,?_,(Qp.ext M).trans hs,?_⟩
  ·unfold QRb;rw[if_pos q]
  ·unfold QR7;rw[if_pos q];exact h'
 ·have t:¬(QH0 (atZ g i)/\QH0 e/\b.length<=4096):=q
  rw[if_neg t]at N;subst N;refine⟨_,_,_,_,rfl,Q0 (fun _=>⟨F,?_,Qp.ext x,?_⟩) fun h=>by simp at h⟩
  ·unfold QRb;rw[if_neg q]
  ·unfold QR7;rw[if_neg q];exact Ql.ext h x
open Go Go.Vc Go.Gf
open Go.IntKind (i64)
open Go.Value (int)
open Go.Proofs.Tryz (prog)
theorem QAd{p:σ}{l c:Nat}{s:Int}(w:World)(hs:1<=s):Calls prog 38 #[.slice p l c,int i64 s] w fun e w'=>∃ks kn,e= .returned (.func (.func 70) #[] #[.pointer (some (at0 ks)), .pointer (some (at0 kn))])/\Ext w w'/\w.heap.size<=ks/\w.heap.size<=kn∧
  Q7 w' ks 25 #[.slice p l c]/\Q7 w' kn 3 #[int i64 s]:=by
 refine(F38_calls p l c s w (fun v w'=>∃ks kn,v= .func (.func 70) #[] #[.pointer (some (at0 ks)), .pointer (some (at0 kn))]/\Ext w w'/\w.heap.size<=ks/\w.heap.size<=kn∧
  Q7 w' ks 25 #[.slice p l c]/\Q7 w' kn 3 #[int i64 s]) ?_).mono (by rintro e w' ⟨v,rfl,ks,kn,rfl,h⟩;exact⟨ks,kn,rfl,h⟩)
 intro f o d j q a;refine⟨_,Q7.cell a.at,Q0 (fun h=> ?_) fun _=>⟨f,j,rfl,d.ext.trans a.ext,by rw[d.size.1];exact Nat.le_refl _,by rw[a.size.1];exact d.ext.size,a.ext.keep d.at,a.at⟩⟩;simp only[Za]at h;omega
def QD0(bs:τ)(k s:Nat):List (τ):=(List.range k).map fun j=>(bs.drop (j*s)).take s
theorem Qx5(bs:τ)(k s:Nat):(QD0 bs k s).length=k:=by simp[QD0]
theorem Qy3{bs:τ}{k s j:Nat}(a:j<k):(QD0 bs k s).getD j []=(bs.drop (j*s)).take s:=by simp[QD0,Zj,a]
theorem Qs1{bs:τ}{k s j:Nat}(d:bs.length=k*s)(a:j<k):((QD0 bs k s).getD j []).length=s:=by
 have:=Nat.mul_le_mul_right s (show j+1<=k from a);rw[Nat.add_mul,Nat.one_mul]at this;rw[Qy3 a,List.length_take,List.length_drop];omega
theorem QH6(b o i:Nat):(⟨b,o,none⟩:Addr).add i=⟨b,o+i,none⟩:=by unfold Addr.add;split<;>simp_all
theorem Q5e{w:World}{b off cap k s j:Nat}{bs:τ}(h:Q1 w (some ⟨b,off,none⟩) (k*s) bs)(l:j<k):Q1 w (some ⟨b,off+j*s,none⟩) s ((bs.drop (j*s)).take s):=by
 have f:=h.1;have o:=Nat.mul_le_mul_right s (show j+1<=k from l);rw[Nat.add_mul,Nat.one_mul]at o;refine⟨by rw[List.length_take,List.length_drop];omega,fun p=>⟨_,rfl,fun i hi=> ?_⟩⟩;have d:i<s:=by rw[List.length_take]at hi;omega
 obtain⟨a,ha,q⟩:=h.2 (by intro e;rw[e]at f;simp at f;omega);cases ha;have:=q (j*s+i) (by omega);rw[show(⟨b,off+j*s,none⟩:Addr).add i=(⟨b,off,none⟩:Addr).add (j*s+i) by rw[QH6,QH6,Nat.add_assoc]];rw[this];simp[Zj,List.getElem?_take,List.getElem?_drop,d]
theorem QOb{w:World}{base b off cap k s c:Nat}{p:σ}{bs:τ}(h:Q1 w (some ⟨b,off,none⟩) (k*s) bs)(d:Q5 w base 25 1 p k c ((QJe (QY2 b off s) k).map QG2)):Qr w p k (QD0 bs k s):=by
 refine⟨(Qx5 _ _ _).symm,fun i hi=> ?_⟩;obtain⟨a,ha,f⟩:=Q5.cells d i (QG2 (QY2 b off s i)) (by simp[QJe,hi]);rw[Qy3 hi];exact⟨a,_,_,_,ha,f,Q5e (cap:=cap) h hi,Nat.le_refl _⟩
def putN(s:StA)(g:Geo)(i e:Int)(R:Nat->τ):Nat->StA×Bool
 |0=>(s,false)
 |n+1=>let r:=putN s g i e R n;if r.2 then r else(QR7 r.1 g i e n (R n),decide (QRb r.1 g i e n (R n)=130))
theorem OkA.put{s:StA}(h:OkA s)(g:Geo)(i e j:Int)(b:τ):OkA (QR7 s g i e j b):=by
 unfold QR7
 split
 ·exact h.write _ _ _
 ·exact h
theorem OkA.putN{s:StA}(h:OkA s)(g:Geo)(i e:Int)(R:Nat->τ):∀n,OkA (putN s g i e R n).1
 |0=>h
 |n+1=>by
  have ih:=OkA.putN h g i e R n;show OkA (if(Go.Proofs.YtkolafpgbhpdlaaGreat.putN s g i e R n).2 then Go.Proofs.YtkolafpgbhpdlaaGreat.putN s g i e R n else(QR7 (Go.Proofs.YtkolafpgbhpdlaaGreat.putN s g i e R n).1 g i e n (R n),decide (QRb (Go.Proofs.YtkolafpgbhpdlaaGreat.putN s g i e R n).1 g i e n (R n)=130))).1
  split
  ·exact ih
  ·exact ih.put _ _ _ _ _
theorem QC5{s:StA}{g:Geo}{i e:Int}{R:Nat->τ}{n:Nat}(h:(putN s g i e R n).2=true):∀d,putN s g i e R (n+d)=putN s g i e R n
 |0=>rfl
 |d+1=>by
  have ih:=QC5 h d;show(if(putN s g i e R (n+d)).2 then putN s g i e R (n+d)else _)=_
  rw[ih,if_pos h]
theorem Qn7{s:StA}{g:Geo}{i e:Int}{R:Nat->τ}{n:Nat}(h:(putN s g i e R n).2=false):putN s g i e R (n+1)=(QR7 (putN s g i e R n).1 g i e n (R n),decide (QRb (putN s g i e R n).1 g i e n (R n)=130)):=by
 show(if(putN s g i e R n).2 then _ else _)=_
 rw[h,if_neg (by simp)]
def Qfh(pa pf:σ)(g:Geo)(i e:Int)(bs:τ):Prop:=Q11 pa pf g i e=0/\(bs.length:Int)=g.k*g.size
instance (pa pf:σ) (g:Geo) (i e:Int) (bs:τ):Decidable (Qfh pa pf g i e bs):=inferInstanceAs (Decidable (_/\_))
def QP0(g:Geo)(bs:τ):Nat->τ:=Qd0 g.k.toNat g.m.toNat (QD0 bs g.k.toNat g.size.toNat)
def swN(s:StA)(g:Geo)(i e:Int)(bs:τ):StA×Bool:=putN s g i e (QP0 g bs) (g.k.toNat+g.m.toNat)
def swZ(s:StA)(pa pf:σ)(g:Geo)(i e:Int)(bs:τ):Int:=if Qfh pa pf g i e bs then(if(swN s g i e bs).2 then 130 else 0)else QN1 [Q11 pa pf g i e,1]
def swS(s:StA)(pa pf:σ)(g:Geo)(i e:Int)(bs:τ):StA:=if Qfh pa pf g i e bs then(swN s g i e bs).1 else s
theorem QV1{pa pf:σ}{g:Geo}{i e:Int}(h:Q11 pa pf g i e=0):(pa.isSome=true/\pf.isSome=true)/\QA g/\Qh3 g i e=true:=by
 cases a:(pa.isSome&&pf.isSome)
 ·simp[Q11,QN1,a]at h
 by_cases d:QA g
 ·cases f:Qh3 g i e
  ·simp[Q11,QN1,a,f,Q80,d]at h
  ·exact⟨by simpa using a,d,rfl⟩
 ·simp[Q11,QN1,a,Q80,d]at h
theorem Qr.updS{S:Nat->Prop}{w w':World}{base n g:Nat}{L:Nat->τ}(h:Qg w base (at0 g) n L)(a:Upd S w w')(hS:∀x,S x->x<base)(q:base<=g):Qg w' base (at0 g) n L:=by
 obtain⟨P,d,j⟩:=h.own;refine⟨fun l=>let⟨cs,o⟩:=h.typ l;⟨cs,a.keep o fun hs=>by have:g<base:=hS g hs;omega⟩,P,fun i hi=>⟨a.cell (d i hi).1 (by rw[Qx];exact fun hs=>by have:g<base:=hS g hs;omega),Q5.upd (d i hi).2 a fun x p hs=> ?_⟩,j⟩;have f:=(d i hi).2;rw[p]at f;have:=Q2.blk f rfl;have:=hS x hs;omega
theorem QSm{env:List Value}{pf:σ}{kg kl kp ks kn:Nat}(h:env=[(Qy env 0), .pointer pf,(Qy env 2),(Qy env 3),(Qy env 4),(Qy env 5),(Qy env 6),(Qy env 7), .pointer (some (at0 kg)),(Qy env 9),(Qy env 10),(Qy env 11),(Qy env 12), .pointer (some (at0 kl)),(Qy env 14), .pointer (some (at0 kp)),(Qy env 16),(Qy env 17),(Qy env 18),(Qy env 19),(Qy env 20),(Qy env 21),(Qy env 22),(Qy env 23),(Qy env 24),(Qy env 25),(Qy env 26),(Qy env 27),(Qy env 28),(Qy env 29),(Qy env 30),(Qy env 31),(Qy env 32),(Qy env 33),(Qy env 34),(Qy env 35),(Qy env 36),(Qy env 37),(Qy env 38),(Qy env 39),(Qy env 40),(Qy env 41),(Qy env 42),(Qy env 43),(Qy env 44),(Qy env 45),(Qy env 46), .func (.func 70) #[] #[.pointer (some (at0 ks)), .pointer (some (at0 kn))],(Qy env 48),(Qy env 49),(Qy env 50),(Qy env 51),(Qy env 52),(Qy env 53),(Qy env 54),(Qy env 55),(Qy env 56),(Qy env 57),(Qy env 58),(Qy env 59),(Qy env 60),(Qy env 61),(Qy env 62),(Qy env 63),(Qy env 64),(Qy env 65),(Qy env 66),(Qy env 67),(Qy env 68),(Qy env 69),(Qy env 70),(Qy env 71),(Qy env 72),(Qy env 73),(Qy env 74),(Qy env 75),(Qy env 76)]):∃zs:Nat->Value,env=[(zs 0), .pointer pf,(zs 2),(zs 3),(zs 4),(zs 5),(zs 6),(zs 7), .pointer (some (at0 kg)),(zs 9),(zs 10),(zs 11),(zs 12), .pointer (some (at0 kl)),(zs 14), .pointer (some (at0 kp)),(zs 16),(zs 17),(zs 18),(zs 19),(zs 20),(zs 21),(zs 22),(zs 23),(zs 24),(zs 25),(zs 26),(zs 27),(zs 28),(zs 29),(zs 30),(zs 31),(zs 32),(zs 33),(zs 34),(zs 35),(zs 36),(zs 37),(zs 38),(zs 39),(zs 40),(zs 41),(zs 42),(zs 43),(zs 44),(zs 45),(zs 46), .func (.func 70) #[] #[.pointer (some (at0 ks)), .pointer (some (at0 kn))],(zs 48),(zs 49),(zs 50),(zs 51),(zs 52),(zs 53),(zs 54),(zs 55),(zs 56),(zs 57),(zs 58),(zs 59),(zs 60),(zs 61),(zs 62),(zs 63),(zs 64),(zs 65),(zs 66),(zs 67),(zs 68),(zs 69),(zs 70),(zs 71),(zs 72),(zs 73),(zs 74),(zs 75),(zs 76)]:=⟨fun n=>Qy env n,h⟩
set_option maxRecDepth 20000 in
theorem Q59{x h:World}{a:Nat}{pa pf:σ}{g:Geo}{i e:Int}{C:ψ}(y:QG x a (.cells #[.pointer none, .pointer none,int i64 0,int i64 0,int i64 0,int i64 0,int i64 0,int i64 0,int i64 0,int i64 0] 77) h)
  (R:∀f,RowW f a (lnC pa pf g i e)->Ext x f->C f):
  (QD h (at0 a)/\(∀j:World,Qt h (at0 a) (Value.pointer pa) j->(QD j ((at0 a).add 1)/\(∀l:World,Qt j ((at0 a).add 1) (Value.pointer pf) l->(QD l ((at0 a).add 2)/\(∀o:World,Qt l ((at0 a).add 2) (int i64 g.k) o->(QD o ((at0 a).add 3)/\(∀p:World,Qt o ((at0 a).add 3) (int i64 g.m) p→
   (QD p ((at0 a).add 4)/\(∀q:World,Qt p ((at0 a).add 4) (int i64 g.size) q->(QD q ((at0 a).add 5)/\(∀r:World,Qt q ((at0 a).add 5) (int i64 g.stripes) r->(QD r ((at0 a).add 6)/\(∀t:World,Qt r ((at0 a).add 6) (int i64 g.slots) t->(QD t ((at0 a).add 7)/\(∀u:World,Qt t ((at0 a).add 7) (int i64 g.objects) u→
   (QD u ((at0 a).add 8)/\(∀v:World,Qt u ((at0 a).add 8) (int i64 i) v->(QD v ((at0 a).add 9)/\(∀f:World,Qt v ((at0 a).add 9) (int i64 e) f->C f)))))))))))))))))))):=by
 have d:x.heap.size<=a:=by rw[y.size.1];exact Nat.le_refl _
 have t0:Q7 h a 77 #[.pointer none, .pointer none,int i64 0,int i64 0,int i64 0,int i64 0,int i64 0,int i64 0,int i64 0,int i64 0]:=y.at;refine⟨t0.live0 (by simp),fun j z=> ?_⟩;obtain⟨N,S⟩:=t0.set0 z;refine⟨N.live3 (by simp),fun l A=> ?_⟩;obtain⟨t2,T⟩:=N.set3 A;refine⟨t2.live3 (by simp),fun o B=> ?_⟩;obtain⟨t3,v3⟩:=t2.set3 B;refine⟨t3.live3 (by simp),fun p D=> ?_⟩;obtain⟨t4,v4⟩:=t3.set3 D;refine⟨t4.live3 (by simp),fun q E=> ?_⟩;obtain⟨t5,v5⟩:=t4.set3 E;refine⟨t5.live3 (by simp),fun r F=> ?_⟩;obtain⟨O,U⟩:=t5.set3 F;refine⟨O.live3 (by simp),fun t G=> ?_⟩;obtain⟨P,V⟩:=O.set3 G;refine⟨P.live3 (by simp),fun u H=> ?_⟩;obtain⟨Q,W⟩:=P.set3 H;refine⟨Q.live3 (by simp),fun v I=> ?_⟩;obtain⟨t9,v9⟩:=Q.set3 I;refine⟨t9.live3 (by simp),fun f J=> ?_⟩;obtain⟨K,M⟩:=t9.set3 J;exact R f ⟨_,by simpa using K⟩ (Q8 (Q8 (Q8 (Q8 (Q8 (Q8 (Q8 (Q8 (Q8 (Q8 y.ext d S) d T) d v3) d v4) d v5) d U) d V) d W) d v9) d M)
set_option maxRecDepth 20000 in
theorem Qy7{w:World}{a:Nat}{s:StA}{F:Nat->Prop}(h:IsA w a s F)(ho:OkA s){pf:σ}(hf:Qm w pf)(g:Geo)(i e:Int){p:σ}{l c:Nat}{bs:τ}(hb:Q1 w p l bs)(bf:l<=c):
  Calls prog 14 #[.pointer (some (at0 a)), .pointer pf,gV g,int i64 i,int i64 e, .slice p l c] w fun e' w'=>∃y,e'= .returned (int i64 (swZ s (some (at0 a)) pf g i e bs))/\Qp F y w w'/\IsA w' a (swS s (some (at0 a)) pf g i e bs) y:=by
 have ci:=hb.1
 refine(F14_calls (some (at0 a)) pf g.k g.m g.size g.stripes g.slots g.objects i e p l c w (fun v w'=>∃y,v=int i64 (swZ s (some (at0 a)) pf g i e bs)/\Qp F y w w'/\IsA w' a (swS s (some (at0 a)) pf g i e bs) y)
  (fun env w1=>∃(kg kl kp ks kn:Nat),(∃zs:Nat->Value,env=[(zs 0), .pointer pf,(zs 2),(zs 3),(zs 4),(zs 5),(zs 6),(zs 7), .pointer (some (at0 kg)),(zs 9),(zs 10),(zs 11),(zs 12), .pointer (some (at0 kl)),(zs 14), .pointer (some (at0 kp)),(zs 16),(zs 17),(zs 18),(zs 19),(zs 20),(zs 21),(zs 22),(zs 23),(zs 24),(zs 25),(zs 26),(zs 27),(zs 28),(zs 29),(zs 30),(zs 31),(zs 32),(zs 33),(zs 34),(zs 35),(zs 36),(zs 37),(zs 38),(zs 39),(zs 40),(zs 41),(zs 42),(zs 43),(zs 44),(zs 45),(zs 46), .func (.func 70) #[] #[.pointer (some (at0 ks)), .pointer (some (at0 kn))],(zs 48),(zs 49),(zs 50),(zs 51),(zs 52),(zs 53),(zs 54),(zs 55),(zs 56),(zs 57),(zs 58),(zs 59),(zs 60),(zs 61),(zs 62),(zs 63),(zs 64),(zs 65),(zs 66),(zs 67),(zs 68),(zs 69),(zs 70),(zs 71),(zs 72),(zs 73),(zs 74),(zs 75),(zs 76)])/\Qfh (some (at0 a)) pf g i e bs/\Ext w w1/\w.heap.size<=kg/\w.heap.size<=kl/\w.heap.size<=kp/\RowW w1 kg #[int i64 g.k,int i64 g.m,int i64 g.size,int i64 g.stripes,int i64 g.slots,int i64 g.objects]/\RowW w1 kl (lnC (some (at0 a)) pf g i e)∧
   Q7 w1 kp 79 #[.slice none 0 0]/\Q7 w1 ks 25 #[.slice p l c]/\Q7 w1 kn 3 #[int i64 g.size]/\kl≠kp/\kg≠kp)
  (fun q er _ l7 _ z w5 j C=>∃(n:Nat)(y:Nat->Prop),j=n/\n<=g.k.toNat+g.m.toNat/\er=0/\l7=g.k.toNat+g.m.toNat/\Qp F y w5 C/\(putN s g i e (QP0 g bs) n).2=false/\IsA C a (putN s g i e (QP0 g bs) n).1 y) (fun _ _ _ l7 _ _ _ j _=>(l7-j).toNat)
  ?partA ?partB).mono (by rintro e' w' ⟨v,rfl,y,rfl,h⟩;exact⟨y,rfl,h⟩)
 case partA=>
  have leaf:∀(f:World),Ext w f->¬Qfh (some (at0 a)) pf g i e bs->∀(af:Nat)(Q:World),QG f af (.cells #[int i64 (Q11 (some (at0 a)) pf g i e),int i64 1] 27) Q->(Calls prog 37 #[.slice (some (at0 af)) 2 2] Q fun bh ah=>(∃(av:Int),bh= .returned (int i64 av)∧
    (∃y,int i64 av=int i64 (swZ s (some (at0 a)) pf g i e bs)/\Qp F y w ah/\IsA ah a (swS s (some (at0 a)) pf g i e bs) y))):=by
   intro f A E af Q aw;refine(Qu7 (L:=[Q11 (some (at0 a)) pf g i e,1]) (QZ8 (w':=Q) ⟨_,aw.at⟩ rfl) (by simp)).mono ?_;rintro e' ah ⟨rfl,rfl⟩;have xx:=A.trans aw.ext;refine⟨_,rfl,F,?_,Qp.ext xx,?_⟩
   ·unfold swZ;rw[if_neg E]
   ·unfold swS;rw[if_neg E];exact Ql.ext h xx
  intro B ax R;have r12:RowW ax B #[int i64 g.k,int i64 g.m,int i64 g.size,int i64 g.stripes,int i64 g.slots,int i64 g.objects]:=⟨_,R.at⟩;have bi:w.heap.size<=B:=by rw[R.size.1];exact Nat.le_refl _
  refine⟨_,r12.row.cell (n:=0) rfl,_,r12.c rfl,_,r12.c rfl,_,r12.c rfl,_,r12.c rfl,_,r12.c rfl,fun T ck ay=> ?_⟩;have cm:ax.heap.size<=T:=by rw[ay.size.1];exact Nat.le_refl _
  refine Q59 ay fun az o ai=> ?_;have bj:RowW az B #[int i64 g.k,int i64 g.m,int i64 g.size,int i64 g.stripes,int i64 g.slots,int i64 g.objects]:=ai.rowW r12 id;have bk:=R.ext.trans ai;refine⟨_,o.row.cell (n:=0) rfl,_,o.c rfl,_,o.c rfl,_,o.c rfl,_,o.c rfl,_,o.c rfl,_,o.c rfl,_,o.c rfl,_,o.c rfl,_,o.c rfl,(Qy4 (some (at0 a)) pf g i e az).mono ?_⟩;rintro e' f ⟨rfl,A⟩;have U:=bk.trans A;refine⟨_,rfl,Q0 (fun H=> ?_) fun he=> ?_⟩
  ·simp only[Zg,Zb]at H
   exact leaf f U fun r=>H r.1
  simp only[Zf,Za]at he;obtain⟨_,hg,bn⟩:=QV1 he;obtain⟨g1,g2,g3,g4,g5⟩:=hg;have aj:RowW f B #[int i64 g.k,int i64 g.m,int i64 g.size,int i64 g.stripes,int i64 g.slots,int i64 g.objects]:=A.rowW bj id;have ekz:g.k*g.size=((g.k.toNat*g.size.toNat:Nat):Int):=by rw[Int.natCast_mul,Int.toNat_of_nonneg (by omega),Int.toNat_of_nonneg (by omega)]
  have bkz:g.k.toNat*g.size.toNat<=32*4096:=Nat.mul_le_mul (by omega) (by omega);refine⟨_,aj.row.cell (n:=0) rfl,_,aj.c rfl,?_⟩;rw[w64 (n:=g.k*g.size) (by omega)];refine Q0 (fun H=> ?_) fun ab=> ?_
  ·simp only[Zg,Zb]at H
   exact leaf f U fun r=>H (by have:=r.2;omega)
  simp only[Zf,Za]at ab;have r:Qfh (some (at0 a)) pf g i e bs:=⟨he,by omega⟩;intro a0 V I;have bo:=U.trans I.ext;have a1:RowW V B #[int i64 g.k,int i64 g.m,int i64 g.size,int i64 g.stripes,int i64 g.slots,int i64 g.objects]:=I.ext.rowW aj id;have bp:RowW V T (lnC (some (at0 a)) pf g i e):=I.ext.rowW (A.rowW o id) id;have bq:Q7 V a0 79 #[.slice none 0 0]:=I.at;refine⟨_,a1.c rfl,(QAd V (by omega)).mono ?_⟩;rintro e' cn ⟨ks,kn,rfl,W,nks,nkn,rs,rn⟩;have cp:B<f.heap.size:=by have:=r12.lt;have:=(ai.trans A).size;omega
  have cq:T<f.heap.size:=by have:=o.lt;have:=A.size;omega
  have cs:=I.size.1;have ct:=U.size;have cu:=R.ext.size;exact⟨_,rfl,B,T,a0,ks,kn,QSm rfl,r,bo.trans W,bi,by omega,by omega,W.rowW a1 id,W.rowW bp id,W.keep bq,rs,rn,by omega,by omega⟩
 case partB=>
  rintro env w1 ⟨kg,kl,kp,ks,kn,⟨zs,rfl⟩,r,x1,ng,nl,np,rg,rl,rp,rs,rn,nlp,ngp⟩;obtain⟨_,hg,bn⟩:=QV1 r.1;have ab:=r.2;obtain⟨g1,g2,g3,g4,g5⟩:=hg;have hg:QA g:=⟨g1,g2,g3,g4,g5⟩;obtain⟨K,hK⟩:∃K,K=g.k.toNat:=⟨_,rfl⟩;obtain⟨M,hM⟩:∃M,M=g.m.toNat:=⟨_,rfl⟩;obtain⟨S,hS⟩:∃S,S=g.size.toNat:=⟨_,rfl⟩;have ekz:g.k*g.size=((K*S:Nat):Int):=by rw[Int.natCast_mul,hK,hS,Int.toNat_of_nonneg (by omega),Int.toNat_of_nonneg (by omega)]
  have bkz:K*S<=32*4096:=Nat.mul_le_mul (by omega) (by omega);obtain rfl:l=K*S:=by omega
  have pos:1*1<=K*S:=Nat.mul_le_mul (by omega) (by omega);obtain⟨ad,a3,ak⟩:=Q1.co hb (i:=0) (by omega);subst a3;obtain⟨b,off,sp⟩:=ad;have br:sp=none:=by
   cases sp with
   |none=>rfl
   |some x=>
    rw[show(⟨b,off,some x⟩:Addr).add 0=⟨b,off,some x⟩from rfl]at ak;unfold World.cell? at ak
    revert ak
    split<;>simp
  subst br;have rn':Q7 w1 kn 3 #[int i64 (S:Int)]:=by rw[show(S:Int)=g.size by omega];exact rn
  refine Go.wp_mono (Qeb (zs 0) (.pointer pf) (zs 2) (zs 3) (zs 4) (zs 5) (zs 6) (zs 7) (.pointer (some (at0 kg))) (zs 9) (zs 10) (zs 11) (zs 12) (.pointer (some (at0 kl))) (zs 14) (zs 16) (zs 17) (zs 18) (zs 19) (zs 20) (zs 21) (zs 22) (zs 23) (zs 24) (zs 25) (zs 26) (zs 27) (zs 28) (zs 29) (zs 30) (zs 31) (zs 32) (zs 33) (zs 34) (zs 35) (zs 36) (zs 37) (zs 38) (zs 39) (zs 40) (zs 41) (zs 42) (zs 43) (zs 44) (zs 45) (zs 46) (zs 48) (zs 49) (zs 50) (zs 51) (zs 52) (zs 53) (zs 54) (zs 55) (zs 56) (zs 57) (zs 58) (zs 59) (zs 60) (zs 61) (zs 62) (zs 63) (zs 64) (zs 65) (zs 66) (zs 67) (zs 68) (zs 69) (zs 70) (zs 71) (zs 72) (zs 73) (zs 74) (zs 75) (zs 76) rp rs rn' (by omega) bf (by omega)) ?_;rintro e' a' w2 ⟨rfl,D,hD,rfl,a4,hU,p2,c2,bu,bv⟩;refine⟨rfl,D,rfl,?_⟩;refine Eq.mpr (F14b_eq (zs 0) pf (zs 2) (zs 3) (zs 4) (zs 5) (zs 6) (zs 7) kg (zs 9) (zs 10) (zs 11) (zs 12) kl (zs 14) kp (zs 16) (zs 17) (zs 18) (zs 19) (zs 20) (zs 21) (zs 22) (zs 23) (zs 24) (zs 25) (zs 26) (zs 27) (zs 28) (zs 29) (zs 30) (zs 31) (zs 32) (zs 33) (zs 34) (zs 35) (zs 36) (zs 37) (zs 38) (zs 39) (zs 40) (zs 41) (zs 42) (zs 43) (zs 44) (zs 45) (zs 46) (.func (.func 70) #[] #[.pointer (some (at0 ks)), .pointer (some (at0 kn))]) (zs 48) (zs 49) (zs 50) (zs 51) (zs 52) (zs 53) (zs 54) (zs 55) (zs 56) (zs 57) (zs 58) (zs 59) (zs 60) (zs 61) (zs 62) (zs 63) (zs 64) (zs 65) (zs 66) (zs 67) (zs 68) (zs 69) (zs 70) (zs 71) (zs 72) (zs 73) (zs 74) (zs 75) (zs 76) D w2 _ _ _) ?_;have X:Ext w w2:=Q8 x1 np hU;have a5:RowW w2 kg #[int i64 g.k,int i64 g.m,int i64 g.size,int i64 g.stripes,int i64 g.slots,int i64 g.objects]:=hU.rowW rg (fun e=>ngp e);have bw:RowW w2 kl (lnC (some (at0 a)) pf g i e):=hU.rowW rl (fun e=>nlp e);have hL:Qr w2 p2 K (QD0 bs K S):=QOb (cap:=c) (hb.ext X) bv;have J:((QD0 bs K S).getD 0 []).length=S:=Qs1 (by omega) (by omega);refine⟨_,a5.row.cell (n:=0) rfl,_,a5.c rfl,_,_,_,bu.cell,(QMd (hf.ext X) hL (by omega) (by omega) g.k g.m).mono ?_⟩;rintro e' w5 ⟨v,rfl,x5,⟨E,_⟩|⟨_,E,_⟩|⟨_,_,ar,cr,rfl,t,gr,rfl,bz⟩⟩
  ·exact(E ⟨by omega,by omega,by omega,by omega⟩).elim
  ·exact(E ⟨by omega,fun j hj=>by rw[J,Qs1 (by omega) hj]⟩).elim
  have hN:(g.k+g.m).toNat=K+M:=by omega
  have a6:=X.trans x5;rw[hN,←hK,←hM]at t;have t:Qg w5 w2.heap.size (at0 gr) (K+M) (QP0 g bs):=by unfold QP0;rw[←hK,←hM,←hS];exact t
  rw[hN];have b0:RowW w5 kl (lnC (some (at0 a)) pf g i e):=x5.rowW bw id;have hF:∀x,F x->x<w.heap.size:=Ql.lt h;have hD5:w5.heap[D]? =some (.deferred (some [])):=(x5.block D (Array.getElem?_eq_some_iff.1 a4).1 id).trans a4;have cz:w.heap.size<=D:=Zu x1.size hD;refine⟨_,_,_,_,rfl,⟨0,F,rfl,Nat.zero_le _,rfl,by omega,Qp.refl _ _,rfl,Ql.ext h a6⟩,?_⟩;rintro jI C ⟨n,y,rfl,hn,_,_,G,a7,hA⟩
  intros
  have st:=(Qp.ext (F:=F) a6).trans G;have hD16:C.heap[D]? =some (.deferred (some [])):=(G.upd.block D (Array.getElem?_eq_some_iff.1 hD5).1 (fun al=>by have:=hF D al;omega)).trans hD5;have d:RowW C kl (lnC (some (at0 a)) pf g i e):=G.upd.rowW b0 (fun b1=>by have:=hF kl b1;omega);have N:=Qr.updS t G.upd (fun x hx=>by have:=hF x hx;have:=X.size;omega) bz;have put:∀(z:Int)(F'':Nat->Prop)(sX:StA)(w':World),Qp F F'' w w'->¬F'' D->IsA w' a sX F''->w'.heap[D]? =some (.deferred (some []))->z=swZ s (some (at0 a)) pf g i e bs->sX=swS s (some (at0 a)) pf g i e bs->(w'.heap[D]? =some (.deferred (some []))/\∃y,int i64 z=int i64 (swZ s (some (at0 a)) pf g i e bs)/\Qp F y w (w'.putObj D (.deferred none))/\IsA (w'.putObj D (.deferred none)) a (swS s (some (at0 a)) pf g i e bs) y):=by
   rintro z F'' sX w' a8 al b2 b3 rfl rfl;have a9:Upd (fun x=>x=D) w' (w'.putObj D (.deferred none)):=⟨rfl,rfl,rfl,by simp[World.putObj],fun x _ hx=>by simp only[World.putObj];rw[Array.getElem?_setIfInBounds_ne (fun e=>hx e.symm)]⟩;refine⟨b3,F'',rfl,⟨Upd.trans a8.upd a9 fun x hx e=> ?_,a8.grow⟩,Ql.upd b2 a9 fun x e hx=>al (by rw[←show x=D from e];exact hx)⟩;have:x=D:=e;omega
  have hF5:¬F D:=fun hh=>by have:=hF D hh;omega
  have lD5:=(Array.getElem?_eq_some_iff.1 hD5).1;have hF16:=G.apart lD5 hF5;have O:swN s g i e bs=putN s g i e (QP0 g bs) (K+M):=by unfold swN;rw[←hK,←hM]
  refine Q0 (fun Y=> ?_) (fun Y=> ?_)
  ·simp only[Za]at Y
   have b4:n<K+M:=by omega
   obtain⟨P,hP,_⟩:=N.own;obtain⟨am,ba⟩:=hP n b4;have lob:=Q2.len ba;have lrow:(QP0 g bs n).length=S:=by unfold QP0;rw[Q71,←hK,←hS];exact J
   refine⟨⟨by omega,Y⟩,_,_,_,by rw[Ze,Nat.mul_one];exact am,_,d.row.cell (n:=0) rfl,_,d.c rfl,_,d.c rfl,_,d.c rfl,_,d.c rfl,_,d.c rfl,_,d.c rfl,_,d.c rfl,_,d.c rfl,_,d.c rfl,
    (QIa hA (ho.putN g i e _ n) pf g i e n (Q2.bytes ba) (by omega)).mono ?_⟩
   rintro e' f ⟨F2,rfl,Z,hA2⟩;have b5:=st.trans Z;have lD16:=(Array.getElem?_eq_some_iff.1 hD16).1;have hF42:=Z.apart lD16 hF16;have hD42:f.heap[D]? =some (.deferred (some [])):=(Z.upd.block D lD16 hF16).trans hD16;have u:=Qn7 a7;refine⟨_,rfl,Q0 (fun hz=> ?_) fun hz=> ?_⟩
   ·simp only[Za]at hz
    have ac:(putN s g i e (QP0 g bs) (n+1)).2=true:=by rw[u];exact decide_eq_true hz
    have ae:swN s g i e bs=putN s g i e (QP0 g bs) (n+1):=by
     rw[O,show K+M=n+1+(K+M-(n+1)) by omega,QC5 ac]
    refine put 130 F2 _ f b5 hF42 hA2 hD42 ?_ ?_
    ·unfold swZ;rw[if_pos r,ae,ac,if_pos rfl]
    ·unfold swS;rw[if_pos r,ae,u]
   ·simp only[Zb]at hz
    rw[w64 (n:=(n:Int)+1) (by omega)];refine⟨⟨n+1,F2,by omega,by omega,rfl,by omega,G.trans Z,by rw[u];exact decide_eq_false hz,by rw[u];exact hA2⟩,by show(((K+M:Nat):Int)-((n:Int)+1)).toNat<(((K+M:Nat):Int)-n).toNat;omega⟩
  ·simp only[Zb]at Y
   obtain rfl:n=K+M:=by omega
   refine put 0 y _ C st hF16 hA hD16 ?_ ?_
   ·unfold swZ;rw[if_pos r,O,a7,if_neg (by simp)]
   ·unfold swS;rw[if_pos r,O]
open Go Go.Vc Go.Gf
open Go.IntKind (i64)
open Go.Value (int)
open Go.Proofs.Tryz (prog)
section
variable (k m n:Nat)(hs:List Bool)(L:List (τ))
noncomputable def Q78(t:Nat):τ:=(Ql5 k m (QH n hs L t) (Ql1 hs)).getD []
noncomputable def Qm4(t:Nat):List Nat:=dif n (Ql1 hs) (Q78 k m n hs L t) (QH n hs L t)
noncomputable def Qw9(x i:Nat):τ:=(List.range x).map fun t=>co (Q78 k m n hs L t) i
noncomputable def QN4(x i:Nat):Bool:=(List.range x).any fun t=>decide (i∈Qm4 k m n hs L t)
theorem QIg(x i:Nat):Qw9 k m n hs L (x+1) i=Qw9 k m n hs L x i++ [co (Q78 k m n hs L x) i]:=by simp[Qw9,List.range_succ]
theorem Qs2(x i:Nat):(Qw9 k m n hs L x i).length=x:=by simp[Qw9]
theorem QEf(x i:Nat):QN4 k m n hs L (x+1) i=(QN4 k m n hs L x i||decide (i∈Qm4 k m n hs L x)):=by simp[QN4,List.range_succ,List.any_append]
theorem Qr6(x i:Nat):QN4 k m n hs L x i=true↔∃t,t<x/\i∈Qm4 k m n hs L t:=by simp[QN4]
end
def Qg3(n:Nat)(ff:Nat->Bool):Array Value:=((List.range n).map fun i=>Value.bool (ff i)).toArray
theorem QH3{n i:Nat}{ff:Nat->Bool}(hi:i<n):(Qg3 n ff)[i]? =some (.bool (ff i)):=by simp[Qg3,hi]
theorem QGh{n x:Nat}{ff:Nat->Bool}:(Qg3 n ff).setIfInBounds x (.bool true)=Qg3 n fun i=>ff i||decide (i=x):=by
 apply Array.ext_getElem?;intro i;rw[Array.getElem?_setIfInBounds]
 by_cases hi:i<n
 ·rw[QH3 hi,QH3 hi]
  by_cases e:x=i
  ·subst e
   rw[if_pos rfl,if_pos (by simp[Qg3,hi])];simp
  ·rw[if_neg e,decide_eq_false (fun h=>e h.symm),Bool.or_false]
 ·have a:(Qg3 n ff)[i]? =none:=by simp[Qg3,hi]
  have d:(Qg3 n fun i=>ff i||decide (i=x))[i]? =none:=by simp[Qg3,hi]
  rw[a,d]
  split
  ·rw[if_neg (by simp[Qg3];omega)]
  ·rfl
theorem QFh{n x:Nat}{ff:Nat->Bool}(b:Bool):(Qg3 n ff).setIfInBounds x (.bool b)=Qg3 n fun i=>if i=x then b else ff i:=by
 apply Array.ext_getElem?;intro i;rw[Array.getElem?_setIfInBounds]
 by_cases hi:i<n
 ·rw[QH3 hi,QH3 hi]
  by_cases e:x=i
  ·subst e
   rw[if_pos rfl,if_pos (by simp[Qg3,hi])];simp
  ·rw[if_neg e,if_neg (fun h=>e h.symm)]
 ·have a:(Qg3 n ff)[i]? =none:=by simp[Qg3,hi]
  have d:(Qg3 n fun i=>if i=x then b else ff i)[i]? =none:=by simp[Qg3,hi]
  rw[a,d]
  split
  ·rw[if_neg (by simp[Qg3];omega)]
  ·rfl
theorem QEh(n:Nat)(ff:Nat->Bool):(Qg3 n ff).size=n:=by simp[Qg3]
open Go Go.Vc Go.Gf
open Go.IntKind (i64)
open Go.Value (int)
open Go.Proofs.Tryz (prog)
def rdZ(s:StA)(i:Nat)(n:Int):Int:=if s.down then 130 else match s.M[i]? with
 |some m=>Qh m.d.dead m.d.sectors n
 |none=>1
def rdB(s:StA)(i:Nat)(n:Int):τ:=if s.down then []else match s.M[i]? with
 |some m=>if Qh m.d.dead m.d.sectors n=0 then Qy0 m.d n else []
 |none=>[]
theorem Qzf{d:Bool}{a b:Int}:Qh d a b≠130:=by unfold Qh;split<;>(try split)<;>omega
theorem Qb9(s:StA)(i:Nat)(n:Int):rdZ s i n=130↔s.down=true:=by
 unfold rdZ
 split
 ·simp[*]
 ·split
  ·simp[*,Qzf]
  ·simp[*]
theorem Qmi{w:World}{a:Nat}{s:StA}{F:Nat->Prop}(h:IsA w a s F){d:Int}(o:0<=d)(n:Int):
  Calls prog 61 #[.pointer (some (at0 a)),int i64 d,int i64 n] w fun e w'=>Ext w w'/\∃p l c,e= .returned (.tuple #[.slice p l c,int i64 (rdZ s d.toNat n)])/\Q2 w' w.heap.size p l c (rdB s d.toNat n)/\l<=4108:=by
 obtain⟨i,rfl⟩:=Int.eq_ofNat_of_zero_le o;obtain⟨M,left,down⟩:=s;rw[Ze];cases down with
 |true=>
  refine(Q08 h (i:Int) n).mono ?_;rintro e w' ⟨rfl,rfl⟩;exact⟨Upd.refl _ _,none,0,0,rfl,Q5.nil _ _ _ _,by omega⟩
 |false=>
  cases f:M[i]? with
  |none=>
   have hi:M.length<=i:=List.getElem?_eq_none_iff.1 f;refine(QD9 h (i:=(i:Int)) (fun q=>by have r:(i:Int)<(M.length:Int):=q.2;omega) n).mono ?_;rintro e w' ⟨rfl,rfl⟩;refine⟨Upd.refl _ _,none,0,0,by simp[rdZ,f],?_,by omega⟩;have:rdB ⟨M,left,false⟩ i n=[]:=by simp[rdB,f]
   rw[this];exact Q5.nil _ _ _ _
  |some m=>
   refine(Q18 h f n).mono ?_;rintro e w' ⟨x,p,l,c,bs,rfl,rfl,rfl,ob,j⟩;refine⟨x,p,_,c,by simp[rdZ,f],?_,j⟩;have:rdB ⟨M,left,false⟩ i n=if Qh m.d.dead m.d.sectors n=0 then Qy0 m.d n else []:=by simp[rdB,f]
   rw[this];exact ob
section
variable (s:StA)(g:Geo)(i e:Int)
def unS(j:Nat):Option (Int×τ):=if rdZ s (Qc0 g i j).toNat (atZ g i)=0 then Q10 (atZ g i) (rdB s (Qc0 g i j).toNat (atZ g i))else none
def QD1(j:Nat):Bool:=match unS s g i j with
 |some (n,d)=>decide (n=e/\(d.length:Int)=g.size)
 |none=>false
def shS(j:Nat):τ:=match unS s g i j with
 |some (_,d)=>d
 |none=>[]
def nG:Nat:=g.k.toNat+g.m.toNat
def hsL:List Bool:=(List.range (nG g)).map (QD1 s g i e)
def shL:List (τ):=(List.range (nG g)).map (shS s g i)
def Q87(j:Nat):Bool:=match s.M[(Qc0 g i j).toNat]? with
 |some m=> !m.d.dead
 |none=>false
noncomputable def Qi3(j:Nat):Bool:=Q87 s g i j&&(!QD1 s g i e j||QN4 g.k.toNat g.m.toNat (nG g) (hsL s g i e) (shL s g i) g.size.toNat j)
def QU0:Prop:=(∃j,j<nG g/\QD1 s g i e j=true)/\∀x,x<g.size.toNat->Ql5 g.k.toNat g.m.toNat (QH (nG g) (hsL s g i e) (shL s g i) x) (Ql1 (hsL s g i e))≠none
def Q1c(w:World)(v:Value)(w':World):Prop:=Ext w w'∧
 ((s.down=true/\v= .tuple #[.slice none 0 0, .slice none 0 0,int i64 130])∨
  (s.down=false/\¬QU0 s g i e/\v= .tuple #[.slice none 0 0, .slice none 0 0,int i64 150])∨
  (s.down=false/\QU0 s g i e/\∃ko p2 n2 c2,v= .tuple #[.slice (some (at0 ko)) (nG g) (nG g), .slice p2 n2 c2,int i64 0]∧
   QK0 w' w.heap.size ko (nG g) (Qw9 g.k.toNat g.m.toNat (nG g) (hsL s g i e) (shL s g i) g.size.toNat)/\QI w' w.heap.size p2 n2 c2 ((List.range (nG g)).filter (Qi3 s g i e))))
end
theorem QQ5{s:StA}{g:Geo}{i e:Int}{j:Nat}(a:j<nG g):(hsL s g i e).getD j false=QD1 s g i e j:=by simp[hsL,Zj,a]
theorem QLg{s:StA}{g:Geo}{i:Int}{j:Nat}(a:j<nG g):(shL s g i).getD j []=shS s g i j:=by simp[shL,Zj,a]
theorem Qlc{a:Int}{b d:τ}{n:Int}(h:Q10 a b=some (n,d)):d.length<=4108:=by
 unfold Q10 at h
 split at h
 ·rename_i f
  cases h;have:=f.2.1;simp;omega
 ·cases h
theorem QMg(s:StA)(g:Geo)(i:Int)(j:Nat):(shS s g i j).length<=4108:=by
 unfold shS;cases a:unS s g i j with
 |none=>simp
 |some v=>
  obtain⟨n,d⟩:=v;unfold unS at a
  split at a
  ·exact Qlc a
  ·cases a
theorem QFa{s:StA}{g:Geo}{i e:Int}(p:QA g)(x:Nat):QF2 g.k g.m (nG g) (nG g) (hsL s g i e) (shL s g i) x↔(∃j,j<nG g/\QD1 s g i e j=true)/\x=g.size.toNat:=by
 obtain⟨r,t,u,y,z⟩:=p;have h:∀j,j<nG g->QD1 s g i e j=true->(shS s g i j).length=g.size.toNat:=fun j _ hb=>by
  unfold QD1 at hb;unfold shS;cases l:unS s g i j with
  |none=>rw[l]at hb;cases hb
  |some v=>
   obtain⟨n,d⟩:=v;rw[l]at hb;simp only[Za]at hb;show d.length=_
   omega
 have o:(nG g:Int)=g.k+g.m:=by unfold nG;omega
 constructor
 ·rintro⟨_,_,⟨j,a,hb⟩,q⟩
  have f:=hb;rw[QQ5 a]at f;refine⟨⟨j,a,f⟩,?_⟩;rw[←q j a hb,QLg a,h j a f]
 ·rintro⟨⟨j,a,hb⟩,rfl⟩
  refine⟨o,o,⟨j,a,by rw[QQ5 a];exact hb⟩,fun j a hb=> ?_⟩;rw[QQ5 a]at hb;rw[QLg a,h j a hb]
def Qvl(q:σ):Nat:=(q.map (·.block)).getD 0
structure Qid(w w1:World)(s:StA)(g:Geo)(i e:Int)(lnc:Array Value)(k11 k250 k252 t:Nat):Prop where
 ext:Ext w w1
 row:RowW w1 k11 lnc
 has:Q7 w1 k250 4 (Qg3 (nG g) fun x=>decide (x<t)&&QD1 s g i e x)
 rows:Qg w1 w.heap.size (at0 k252) (nG g) fun x=>if x<t then shS s g i x else []
 b250:w.heap.size<=k250
 b252:w.heap.size<=k252
 n250:k11≠k250
 n252:k11≠k252
theorem Qid.mono{w w1 l:World}{s:StA}{g:Geo}{i e:Int}{lnc:Array Value}{f a d t:Nat}(h:Qid w w1 s g i e lnc f a d t)(j:Ext w1 l):Qid w l s g i e lnc f a d t:=
 ⟨h.ext.trans j,j.rowW h.row id,j.keep h.has,h.rows.ext j,h.b250,h.b252,h.n250,h.n252⟩
theorem QK2{n:Nat}{f f':Nat->Bool}(h:∀i,i<n->f i=f' i):Qg3 n f=Qg3 n f':=by
 unfold Qg3
 congr 1
 exact List.map_congr_left fun i hi=>by rw[h i (List.mem_range.1 hi)]
theorem Qid.put{w w1 f:World}{s:StA}{g:Geo}{i e:Int}{lnc:Array Value}{j a d t:Nat}(h:Qid w w1 s g i e lnc j a d t)(_ht:t<nG g){b:Bool}(hb:b=QD1 s g i e t)(hs:Qt w1 ((at0 a).add t) (.bool b) f):
  Ext w f/\RowW f j lnc/\Q7 f a 4 (Qg3 (nG g) fun x=>decide (x<t+1)&&QD1 s g i e x)/\Qg f w.heap.size (at0 d) (nG g) (fun x=>if x<t then shS s g i x else [])/\Upd (fun x=>x=a) w1 f:=by
 obtain⟨p,l⟩:=h.has.set3 hs;refine⟨Q2.new_ext h.ext l fun x o=>by rw[show x=a from o];exact h.b250,l.rowW h.row (fun e=>h.n250 e),?_,h.rows.otherT l (fun x o=>by obtain rfl:x=a:=o;exact⟨_,_,_,h.has,Qg0.1,Qg0.2.1⟩),l⟩;rw[QFh,QK2 (f':=fun x=>decide (x<t+1)&&QD1 s g i e x)]at p
 ·exact p
 ·intro x _
  skip
  by_cases e:x=t
  ·subst e;rw[if_pos rfl,hb,decide_eq_true (by omega),Bool.true_and]
  ·rw[if_neg e]
   congr 1
   exact decide_eq_decide.2 (by omega)
theorem Qid.same{w w1:World}{s:StA}{g:Geo}{i e:Int}{lnc:Array Value}{f a d t:Nat}(h:Qid w w1 s g i e lnc f a d t)(hb:QD1 s g i e t=false)(o:shS s g i t=[]):Qid w w1 s g i e lnc f a d (t+1):=by
 refine{h with has:= ?_,rows:= ?_}
 ·rw[QK2 (f':=fun x=>decide (x<t)&&QD1 s g i e x)]
  ·exact h.has
  ·intro x _
   by_cases j:x=t
   ·subst j;rw[hb,Bool.and_false,Bool.and_false]
   ·congr 1
    exact decide_eq_decide.2 (by omega)
 ·refine h.rows.congr fun x _=> ?_
  by_cases j:x=t
  ·subst j;rw[if_pos (by omega),if_neg (by omega),o]
  ·by_cases l:x<t
   ·rw[if_pos l,if_pos (by omega)]
   ·rw[if_neg l,if_neg (by omega)]
theorem Qba(n:Nat):QK prog 4 n=Qg3 n fun x=>decide (x<0)&&false:=by
 rw[Q63 4 (.bool false) (by kernel_rfl)];unfold Qg3
 congr 1
 apply List.ext_getElem?;intro i
 by_cases h:i<n<;>simp[h]
theorem Qad{w w1:World}{k n:Nat}(base:Nat)(h:QG w k (.cells (QK prog 25 n) 25) w1):Qg w1 base (at0 k) n fun _=>[]:=by
 rw[Q63 25 (.slice none 0 0) (by kernel_rfl)]at h;have r:Q7 w1 k 25 (List.replicate n (.slice none 0 0)).toArray:=h.at;refine⟨fun _=>⟨_,r⟩,fun _=>(none,0,0),fun i hi=>⟨?_,Q5.nil _ _ _ _⟩,fun _ _ _ _ _ g a=>by cases a⟩;rw[Qj r];simp[hi]
def rI0(w:World)(s:StA)(g:Geo)(i e:Int)(lnc:Array Value)(q11:σ)(_:Int)(q250:σ)(_ _:Nat)(q252:σ)(_ _:Nat)(_:Int)(_:World)(j:Int)(w1:World):Prop:=∃t:Nat,j=t/\t<=nG g/\(s.down=true->t=0)/\Qid w w1 s g i e lnc (Qvl q11) (Qvl q250) (Qvl q252) t
def rM0(g:Geo)(_:σ)(_:Int)(_:σ)(_ _:Nat)(_:σ)(_ _:Nat)(_:Int)(_:World)(j:Int)(_:World):Nat:=((nG g:Nat)-j).toNat
def rI1(s:StA)(g:Geo)(i e:Int)(_ _:σ)(_ _:Nat)(_:σ)(_ _:Nat)(_:σ)(_ _:Nat)(_:σ)(_ _:Nat)(_:Int)(w403:World)(p:σ)(l c:Nat)(j:Int)(w1:World):Prop:=∃t:Nat,j=t/\t<=nG g/\Ext w403 w1/\l<=t/\QI w1 w403.heap.size p l c ((List.range t).filter (Qi3 s g i e))
def rM1(g:Geo)(_ _:σ)(_ _:Nat)(_:σ)(_ _:Nat)(_:σ)(_ _:Nat)(_:σ)(_ _:Nat)(_:Int)(_:World)(_:σ)(_ _:Nat)(j:Int)(_:World):Nat:=((nG g:Nat)-j).toNat
theorem QKj{w0 w w':World}{S:Nat->Prop}{base k n i:Nat}{L:Nat->τ}(h:Qg w0 base (at0 k) n L)(f:Upd S w0 w)(z:¬S k)(hS:∀x,S x->∃(cs:Array Value)(e:TypeId)(fz:Nat×Nat),w0.heap[x]? =some (Obj.cells cs e fz)/\e≠5)(hi:i<n){p:σ}{m c:Nat}{bs:τ}(A:Q2 w w0.heap.size p m c bs)(hb:base<=w0.heap.size)
  (hs:Qt w ((at0 k).add i) (.slice p m c) w'):Qg w' base (at0 k) n (fun t=>if t=i then bs else L t)/\Upd (fun x=>x=k) w w':=by
 obtain⟨cs,D⟩:=h.typ (by omega);have j:Q7 w k 25 cs:=f.keep D z;obtain⟨P,r,E⟩:=h.own;have B:∀t,t<n->w.cell? ((at0 k).add t)=some (.slice (P t).1 (P t).2.1 (P t).2.2):=fun t ht=>f.cell (r t ht).1 (by rw[Qx];exact z);have u:i<cs.size:=by
  have a:=B i hi;rw[Qj j]at a;exact(Array.getElem?_eq_some_iff.1 a).1
 obtain⟨C,v⟩:=j.set3 hs;have fresh:∀t,t<n->∀g,(P t).1=some (at0 g)->p≠some (at0 g):=fun t ht g d y=>by
  have a:=(r t ht).2;rw[d]at a;have:=Q5.lt_heap a;have:=Q2.blk A y;omega
 refine⟨⟨fun _=>⟨_,C⟩,fun t=>if t=i then(p,m,c)else P t,fun t ht=> ?_,?_⟩,v⟩
 ·dsimp only
  rw[Qj C,Array.getElem?_setIfInBounds]
  by_cases e:t=i
  ·subst e
   simp only[if_true];rw[if_pos u];exact⟨rfl,Q2.base_le (Q2.apart A v j QM.1.symm) hb⟩
  ·rw[if_neg (fun F=>e F.symm),if_neg e,if_neg e]
   refine⟨?_,Q2.apart (Q2.other (r t ht).2 f fun x f=> ?_) v j QM.1.symm⟩
   ·rw[←Qj j]
    exact B t ht
   ·obtain⟨cs',G,fz,a,q⟩:=hS x f
    exact⟨cs',G,fz,a,q⟩
 ·intro s t l ht o g d
  dsimp only at d⊢
  by_cases a:s=i
  ·rw[if_pos a]at d
   rw[if_neg (fun e=>o (a.trans e.symm))];exact fun y=>fresh t ht g y d
  ·rw[if_neg a]at d
   by_cases q:t=i
   ·rw[if_pos q];exact fresh s l g d
   ·rw[if_neg q];exact E s t l ht o g d
theorem QUk{w j l a:World}{s:StA}{g:Geo}{i e:Int}{lnc:Array Value}{o d f t:Nat}{R:φ}(p:QA g)(ht:t<nG g)(q:s.down=false)(h:Qid w a s g i e lnc o d f (t+1)):
  F33_A4 o g.k g.m d f j t a l R (rI0 w s g i e lnc) (rM0 g) (rI1 s g i e) (rM1 g):=by
 obtain⟨r,u,v,x,y⟩:=p;unfold F33_A4;have z:(nG g:Int)=g.k+g.m:=by unfold nG;omega
 rw[w64 (n:=(t:Int)+1) (by omega)];exact⟨⟨t+1,by omega,by omega,fun h=>(by rw[q]at h;cases h),h⟩,by show((nG g:Int)-((t:Int)+1)).toNat<((nG g:Int)-t).toNat;omega⟩
theorem QTk{w u v w1 f:World}{s:StA}{g:Geo}{i e:Int}{lnc:Array Value}{y a d t:Nat}{R:φ}(K:QA g)(ht:t<nG g)(S:s.down=false){b:Bool}(hb:b=QD1 s g i e t){p:σ}{l c:Nat}{wu:World}
  (z:Qid w wu s g i e lnc y a d t) (o:Ext wu w1) (T:Q2 w1 wu.heap.size p l c (shS s g i t)) (hs:Qt w1 ((at0 a).add t) (.bool b) f):
  F33_A2 t g.k g.m f d p l c y a u v R (rI0 w s g i e lnc) (rM0 g) (rI1 s g i e) (rM1 g):=by
 have h:=z.mono o;have E:=K;obtain⟨X,Y,Z,g4,g5⟩:=K;have hn:(nG g:Int)=g.k+g.m:=by unfold nG;omega
 unfold F33_A2;rw[w64 (n:=g.k+g.m) (by omega)];obtain⟨U,V,M,_,F⟩:=h.put ht hb hs;have r:=z.rows;have A:=(z.rows.ext o).otherT F fun x o=>by obtain rfl:x=a:=o;exact⟨_,_,_,h.has,Qg0.1,Qg0.2.1⟩
 have G:Q2 f wu.heap.size p l c (shS s g i t):=Q2.apart T F h.has Qg0.1;obtain⟨cs,j⟩:=A.typ (by omega);have j:Q7 f d 25 cs:=j;have H:t<cs.size:=by
  obtain⟨P,D,_⟩:=A.own;have N:=(D t ht).1;rw[Qj j]at N;exact(Array.getElem?_eq_some_iff.1 N).1
 have B:a≠d:=fun e=>by
  have I:=M;rw[e]at I;unfold Q7 at I j;rw[I]at j;have:=(Option.some.inj j)
  injection this with _ W _
  exact Qg0.2.1 W
 refine⟨⟨by omega,by omega⟩,by rw[Ze,Nat.mul_one];exact j.live3 H,fun O q=> ?_⟩;rw[Ze,Nat.mul_one]at q;have xm:Upd (fun x=>x=a) wu f:=Upd.trans o.upd F fun x _ o=>o;obtain⟨C,J⟩:=QKj r xm (show¬(d=a)from fun e=>B e.symm) (fun x o=>by obtain rfl:x=a:=o;exact⟨_,_,_,z.has,Qg0.1⟩) ht G z.ext.size q;refine QUk E ht S ⟨?_,J.rowW V (fun e=>h.n252 e),J.keep M (fun e=>B e),?_,h.b250,h.b252,h.n250,h.n252⟩
 ·exact Q2.new_ext U J fun x o=>by rw[show x=d from o];exact h.b252
 ·refine C.congr fun x _=> ?_
  skip
  by_cases Q:x=t
  ·subst Q;rw[if_pos (by omega),if_pos rfl]
  ·rw[if_neg Q]
   by_cases D:x<t
   ·rw[if_pos D,if_pos (by omega)]
   ·rw[if_neg D,if_neg (by omega)]
open Go Go.Vc Go.Gf
open Go.IntKind (i64)
open Go.Value (int)
open Go.Proofs.Tryz (prog)
theorem QOd{w:World}{k n:Nat}{ff:Nat->Bool}(r:Q7 w k 4 (Qg3 n ff)):QX w (some (at0 k)) n ((List.range n).map ff):=by
 refine⟨by simp,fun j u a=>⟨_,rfl,?_⟩⟩;rw[Qj r];unfold Qg3;simpa using a
theorem QRh{w:World}{base:Nat}{p:σ}{n c:Nat}{W:List Nat}(h:QI w base p n c W):QV w p n (W.map fun(i:Nat)=>(i:Int)):=by
 refine⟨by have:=QI.len h;simp[this],?_⟩;have:=Q5.cells h;have e:QI1 W=(W.map fun(i:Nat)=>(i:Int)).map (Value.int .i64):=by simp[QI1,List.map_map,Function.comp_def]
 rw[e]at this;exact this
theorem Qri{w:World}{base k n:Nat}{L L':Nat->τ}(h:Qg w base (at0 k) n L)(hL:∀i,i<n->L i=L' i):Qr w (some (at0 k)) n ((List.range n).map L'):=by
 have:=(h.congr (L':=L') fun i hi=>(hL i hi).symm).lists;exact this
theorem QZc{s:StA}{i:Nat}{n:Int}(h:¬rdZ s i n=130):s.down=false:=by
 cases a:s.down
 ·rfl
 ·exact(h ((Qb9 _ _ _).2 a)).elim
set_option maxRecDepth 20000 in
theorem Qxg{w ab:World}{a:Nat}{s:StA}{F:Nat->Prop}(h:IsA w a s F)(ho:OkA s){pf:σ}(hf:Qm w pf){g:Geo}{i e:Int}(hg:QA g)(hi:0<=i/\i<g.stripes){o q H:Nat}(h0:Qid w ab s g i e (lnC (some (at0 a)) pf g i e) o q H 0):
  F33_A0 o g.k g.m q H ab (Q1c s g i e w) (rI0 w s g i e (lnC (some (at0 a)) pf g i e)) (rM0 g) (rI1 s g i e) (rM1 g):=by
 have ao:=hg;obtain⟨g1,g2,g3,g4,g5⟩:=hg;have hn:(nG g:Int)=g.k+g.m:=by unfold nG;omega
 unfold F33_A0;rw[w64 (n:=g.k+g.m) (by omega)];have hN:(g.k+g.m).toNat=nG g:=by omega
 rw[hN];refine⟨⟨0,rfl,Nat.zero_le _,fun _=>rfl,h0⟩,?_⟩;rintro j I ⟨t,rfl,ht,ci,st⟩;have st:Qid w I s g i e (lnC (some (at0 a)) pf g i e) o q H t:=st
 intros
 refine Q0 (fun bf=> ?_) (fun bg=> ?_)
 ·simp only[Za]at bf
  have P:t<nG g:=by omega
  intro ar ac;have f:RowW ar o (lnC (some (at0 a)) pf g i e):=ac.ext.rowW st.row id;refine⟨_,f.row.cell (n:=0) rfl,_,f.c rfl,_,Qm0 f rfl,_,Qm0 f rfl,_,Qm0 f rfl,_,Qm0 f rfl,_,Qm0 f rfl,_,f.c rfl,_,f.row.cell (n:=0) rfl,_,f.c rfl,_,f.c rfl,_,f.c rfl,_,f.c rfl,_,f.c rfl,_,f.c rfl,_,f.c rfl,_,f.c rfl,_,f.c rfl,(Qn5 g i t ar).mono ?_⟩;rintro e' av ⟨rfl,aw⟩;have z:RowW av o (lnC (some (at0 a)) pf g i e):=aw.rowW f id;refine⟨_,rfl,⟨_,z.row.cell (n:=0) rfl,rfl⟩,⟨_,z.row.cell (n:=0) rfl,_,z.c rfl,_,z.c rfl,_,z.c rfl,_,z.c rfl,_,z.c rfl,_,z.c rfl,_,z.c rfl,_,z.c rfl,_,z.c rfl,rfl⟩,(Qx6 (some (at0 a)) pf g i e av).mono ?_⟩;rintro e' bs ⟨rfl,ax⟩;have ck:RowW bs o (lnC (some (at0 a)) pf g i e):=ax.rowW z id;have bt:=(ac.ext.trans aw).trans ax;refine⟨_,rfl,⟨_,ck.row.cell (n:=0) rfl,rfl⟩,(Qmi (Ql.ext h (st.ext.trans bt)) (Qc2 g i t) (atZ g i)).mono ?_⟩;rintro e' ay ⟨bu,p,l,c,rfl,ob,dm⟩;have cm:=bt.trans bu;have aq:=st.mono cm;have r:RowW ay o (lnC (some (at0 a)) pf g i e):=aq.row;refine⟨_,_,_,_,rfl,Q0 (fun E=> ?_) (fun E=>Q0 (fun bv=> ?_) fun J=> ?_)⟩
  ·simp only[Za]at E
   rw[E];exact⟨aq.ext, .inl ⟨(Qb9 _ _ _).1 E,rfl⟩⟩
  all_goals simp only[Zb]at E
  all_goals have Z:s.down=false:=(QZc E)
  ·simp only[Za]at bv
   refine⟨_,r.row.cell (n:=0) rfl,_,r.c rfl,_,r.c rfl,_,r.c rfl,_,r.c rfl,_,r.c rfl,_,r.c rfl,_,r.c rfl,_,r.c rfl,_,r.c rfl,(Qx6 (some (at0 a)) pf g i e ay).mono ?_⟩;rintro e' ad ⟨rfl,az⟩;have bh:=aq.mono az;have a0:Q2 ad _ p l c _:=Q2.ext ob az;refine⟨_,rfl,(Qnc (atZ g i) (Q2.bytes a0) (by omega) (Q2.le a0)).mono ?_⟩;rintro e' K ⟨v,rfl,ae,hv⟩;have bw:=bh.mono ae;have bx:RowW K o (lnC (some (at0 a)) pf g i e):=bw.row;have G:unS s g i t=Q10 (atZ g i) (rdB s (Qc0 g i t).toNat (atZ g i)):=by unfold unS;rw[if_pos bv]
   have N:QD K ((at0 q).add t):=bw.has.live3 (by rw[QEh];exact P);have a1:∀(n:Int){p':σ}{l' c':Nat},QD1 s g i e t=false->Q2 K ad.heap.size p' l' c' (shS s g i t)->F33_A1 t g.k g.m K q H p' l' c' o ab I (Q1c s g i e w) (rI0 w s g i e (lnC (some (at0 a)) pf g i e)) (rM0 g) (rI1 s g i e) (rM1 g):=by
    intro n p' l' c' hh af;unfold F33_A1;rw[w64 (n:=g.k+g.m) (by omega)];refine⟨⟨by omega,by omega⟩,by rw[Ze,Nat.mul_one];exact N,fun c8 a2=> ?_⟩;rw[Ze,Nat.mul_one]at a2;exact QTk ao P Z (b:=false) hh.symm bh ae af a2
   cases hu:Q10 (atZ g i) (rdB s (Qc0 g i t).toNat (atZ g i))with
   |none=>
    rw[hu]at hv G;subst hv;refine⟨_,_,_,_,_,rfl,Q0 (fun h=>by simp at h) fun _=>a1 0 ?_ ?_⟩
    ·unfold QD1;rw[G]
    ·have:shS s g i t=[]:=by unfold shS;rw[G]
     rw[this];exact Q5.nil _ _ _ _
   |some nd=>
    obtain⟨n,d⟩:=nd;rw[hu]at hv G;obtain⟨p',c',rfl,ob'⟩:=hv;have cp:shS s g i t=d:=by unfold shS;rw[G]
    have b0:QD1 s g i e t=decide (n=e/\(d.length:Int)=g.size):=by unfold QD1;rw[G]
    have ob':Q2 K ad.heap.size p' d.length c' (shS s g i t):=by rw[cp];exact ob'
    refine⟨_,_,_,_,_,rfl,Q0 (fun _=>⟨_,bx.c rfl,Q0 (fun J=> ?_) fun J=> ?_⟩) fun h=>by simp at h⟩
    ·simp only[Za]at J
     refine⟨_,Qm0 bx rfl,⟨by omega,by omega⟩,by rw[Ze,Nat.mul_one];exact N,fun da a4=> ?_⟩;rw[Ze,Nat.mul_one]at a4;exact QTk ao P Z (by rw[b0];exact decide_eq_decide.2 ⟨fun h=>⟨J,h⟩,fun h=>h.2⟩) bh ae ob' a4
    ·simp only[Zb]at J
     exact a1 0 (by rw[b0];exact decide_eq_false fun h=>J h.1) ob'
  ·simp only[Zb]at J
   have G:unS s g i t=none:=by unfold unS;rw[if_neg J]
   refine QUk ao P Z (aq.same ?_ ?_)
   ·unfold QD1;rw[G]
   ·unfold shS;rw[G]
 ·simp only[Zb]at bg
  obtain rfl:t=nG g:=by omega
  have Z:s.down=false:=by
   cases hd:s.down
   ·rfl
   ·have:=ci hd;omega
  have r:RowW I o (lnC (some (at0 a)) pf g i e):=st.row;have cq:QX I (some (at0 q)) (nG g) (hsL s g i e):=by
   have h1:=st.has;rw[QK2 (f':=QD1 s g i e) fun x D=>by simp[D]]at h1;exact QOd h1
  have cr:Qr I (some (at0 H)) (nG g) (shL s g i):=Qri st.rows fun x D=>by rw[if_pos D]
  refine⟨_,r.c rfl,_,Qm0 r rfl,_,Qm0 r rfl,(Qgc (hf.ext st.ext) cq cr g.k g.m ?_).mono ?_⟩
  ·intro x D
   obtain⟨j,_,rfl⟩:=List.mem_map.1 D;have:=QMg s g i j;omega
  rintro e' a6 ⟨v,rfl,a7,hv⟩;have bi:=st.ext.trans a7;have bj:=QFa (s:=s) (i:=i) (e:=e) ao;have a8:¬QU0 s g i e->Q1c s g i e w (.tuple #[.slice none 0 0, .slice none 0 0,int i64 150]) a6:=fun ah=>⟨bi, .inr (.inl ⟨Z,ah,rfl⟩)⟩;rcases hv with⟨ah,_⟩|⟨_,ah,rfl⟩|⟨_,S,hS,⟨⟨x,D,ct⟩,rfl⟩|⟨cs,dq,b1,ko,p2,n2,c2,W,rfl,a9,hW,cx,b2⟩⟩
  ·exact(ah ⟨by omega,by omega,by omega,by omega⟩).elim
  ·refine⟨_,_,_,_,_,_,_,rfl,Q0 (fun _=>a8 fun ai=>ah _ ((bj _).2 ⟨ai.1,rfl⟩)) fun h=>by simp at h⟩
  ·refine⟨_,_,_,_,_,_,_,rfl,Q0 (fun _=>a8 fun ai=>ai.2 x (by have:=((bj _).1 hS).2;omega) ct) fun h=>by simp at h⟩
  obtain⟨b3,cy⟩:=(bj _).1 hS;subst cy;have ai:QU0 s g i e:=⟨b3,fun x D=>by rw[b1 x D];simp⟩;have aj:∀x,x<g.size.toNat->Q78 g.k.toNat g.m.toNat (nG g) (hsL s g i e) (shL s g i) x=cs.getD x []:=fun x D=>by unfold Q78;rw[b1 x D];rfl
  have bk:(fun y=>cs.map fun c=>co c y)=Qw9 g.k.toNat g.m.toNat (nG g) (hsL s g i e) (shL s g i) g.size.toNat:=by
   funext y
   apply List.ext_getElem?;intro x;unfold Qw9
   by_cases D:x<g.size.toNat
   ·have b4:x<cs.length:=by omega
    simp only[Zq,List.getElem?_range D,Option.map_some,Zc b4];rw[aj x D,Zj,Zc b4];rfl
   ·rw[Zr (by simp;omega),Zr (by simp;omega)]
  have b5:∀y,y∈W↔QN4 g.k.toNat g.m.toNat (nG g) (hsL s g i e) (shL s g i) g.size.toNat y=true:=fun y=>by
   rw[b2,Qr6];constructor
   ·rintro⟨x,D,hy⟩
    exact⟨x,D,by unfold Qm4;rw[aj x D];exact hy⟩
   ·rintro⟨x,D,hy⟩
    refine⟨x,D,?_⟩;unfold Qm4 at hy;rw[aj x D]at hy;exact hy
  rw[bk]at a9;have b6:=st.mono a7;have cz:RowW a6 o (lnC (some (at0 a)) pf g i e):=b6.row;refine⟨_,_,_,_,_,_,_,rfl,Q0 (fun h=>by simp at h) fun _=>⟨_,cz.row.cell (n:=0) rfl,(Q9a (Ql.ext h bi) (by have:=ho.1;omega)).mono ?_⟩⟩;rintro e' ak ⟨ba,de,bb,rfl,Q,rfl,bm⟩;have bc:=bi.trans Q;have b7:=b6.mono Q;refine⟨_,_,_,rfl,⟨0,rfl,Nat.zero_le _,Upd.refl _ _,Nat.le_refl _,Q5.nil _ _ _ _⟩,?_⟩;rintro R T U j2 V ⟨t,rfl,ds,A,df,af⟩
  intros
  have be:=b7.mono A;have B:RowW V o (lnC (some (at0 a)) pf g i e):=be.row;refine Q0 (fun bf=> ?_) (fun bg=> ?_)
  ·simp only[Za]at bf
   have P:t<nG g:=by omega
   have am:(List.range (t+1)).filter (Qi3 s g i e)=(List.range t).filter (Qi3 s g i e)++if Qi3 s g i e t=true then [t]else []:=Qi _ _
   refine⟨_,B.c rfl,_,Qm0 B rfl,_,Qm0 B rfl,_,Qm0 B rfl,_,Qm0 B rfl,_,Qm0 B rfl,_,B.c rfl,(Qn5 g i t V).mono ?_⟩;rintro e' X ⟨rfl,C⟩;have a5:∀u,Ext X u->Qi3 s g i e t=false->F33_A5 o q g.k g.m (some (at0 ko)) (nG g) (nG g) p2 n2 c2 ba s.M.length bb ak R T U t u V (Q1c s g i e w) (rI0 w s g i e (lnC (some (at0 a)) pf g i e)) (rM0 g) (rI1 s g i e) (rM1 g):=by
    intro u O hb;unfold F33_A5;rw[w64 (n:=g.k+g.m) (by omega),hN,w64 (n:=(t:Int)+1) (by omega)];refine⟨⟨t+1,by omega,by omega,A.trans (C.trans O),by omega,?_⟩,by show((nG g:Int)-((t:Int)+1)).toNat<((nG g:Int)-t).toNat;omega⟩;rw[am,hb,if_neg (by simp),List.append_nil];exact Q5.ext af (C.trans O)
   have a3:∀u,Ext X u->Qi3 s g i e t=true->F33_A3 u t R T U o q g.k g.m (some (at0 ko)) (nG g) (nG g) p2 n2 c2 ba s.M.length bb ak V (Q1c s g i e w) (rI0 w s g i e (lnC (some (at0 a)) pf g i e)) (rM0 g) (rI1 s g i e) (rM1 g):=by
    intro u O hb;unfold F33_A3;rw[w64 (n:=g.k+g.m) (by omega),hN,w64 (n:=(t:Int)+1) (by omega)];intro dg dh b8;have b9:Q5 u ak.heap.size 3 1 R T U (QI1 ((List.range t).filter (Qi3 s g i e))):=Q5.ext af (C.trans O);obtain⟨p',c',w2,hr,ca,x2⟩:=Qg4 QK8 (by omega) (A.trans (C.trans O)) b9 b8 rfl (by omega);refine⟨_,_,_,_,hr,⟨t+1,by omega,by omega,x2,by omega,?_⟩,by show((nG g:Int)-((t:Int)+1)).toNat<((nG g:Int)-t).toNat;omega⟩;rw[am,hb,if_pos rfl];have:QI1 ((List.range t).filter (Qi3 s g i e))++ [int i64 (t:Int)]=QI1 ((List.range t).filter (Qi3 s g i e)++ [t]):=by simp[QI1]
    rw[this]at ca;exact ca
   have cb:=be.mono C;have dpos:=Qc2 g i t;refine⟨_,rfl,Q0 (fun hl=> ?_) fun hl=>a5 _ (Upd.refl _ _) ?_⟩
   ·simp only[Za]at hl
    obtain⟨m,hm⟩:∃m,s.M[(Qc0 g i t).toNat]? =some m:=⟨s.M[(Qc0 g i t).toNat]'(by omega),Zc _⟩;have bn:Q87 s g i t= !m.d.dead:=by unfold Q87;rw[hm]
    obtain⟨al,c0,cc⟩:=Q5.cells bm (Qc0 g i t).toNat (.bool (!m.d.dead)) (by rw[Zq,hm];rfl);subst c0;refine⟨⟨by omega,hl⟩,_,by rw[Nat.mul_one];exact QM0 cc (A.trans C),?_⟩;have cHas:X.cell? ((at0 q).add t)=some (.bool (QD1 s g i e t)):=by rw[Qj cb.has,QH3 P];simp[P]
    refine Q0 (fun Y=>⟨⟨by omega,by omega⟩,_,by rw[Ze,Nat.mul_one];exact cHas,Q0 (fun hh=>a3 _ (Upd.refl _ _) ?_) fun hh=> ?_⟩) fun Y=>a5 _ (Upd.refl _ _) ?_
    ·unfold Qi3;rw[bn,Y,hh];rfl
    ·have c5:QV X p2 n2 (W.map fun(i:Nat)=>(i:Int)):=(QRh hW).ext (Q.trans (A.trans C))
     have dw:=QI.len hW;have dx:W.length<=nG g:=by
      have:W=(List.range (nG g)).filter fun y=>decide (y∈W):=QS3 cx (List.pairwise_lt_range.filter _) fun y=>by
       rw[List.mem_filter,List.mem_range,Za];exact⟨fun hy=>⟨((b2 y).1 hy).elim fun x D=>(Qs4.1 D.2).1,hy⟩,fun hy=>hy.2⟩
      rw[this];exact Zu (List.length_filter_le _ _) (by rw[List.length_range];exact Nat.le_refl _)
     refine(QJ4 (c:=c2) (x:=(t:Int)) c5 (by omega)).mono ?_;rintro e' u ⟨rfl,rfl⟩;have cf:decide ((t:Int)∈W.map fun(i:Nat)=>(i:Int))=QN4 g.k.toNat g.m.toNat (nG g) (hsL s g i e) (shL s g i) g.size.toNat t:=by
      rw[Bool.eq_iff_iff,Za,←b5];constructor
      ·intro h;obtain⟨y,hy,he⟩:=List.mem_map.1 h;rw[←show y=t by omega];exact hy
      ·intro h;exact List.mem_map.2 ⟨t,h,rfl⟩
     rw[cf];refine⟨_,rfl,Q0 (fun bo=>a3 _ (Upd.refl _ _) ?_) fun bo=>a5 _ (Upd.refl _ _) ?_⟩
     ·unfold Qi3;rw[bn,Y,bo,Bool.or_true];rfl
     ·unfold Qi3;rw[bo,hh,Bool.or_false,Bool.and_false]
    ·unfold Qi3;rw[bn,Y,Bool.false_and]
   ·simp only[Zb]at hl
    have:s.M[(Qc0 g i t).toNat]? =none:=Zr (by omega);unfold Qi3 Q87;rw[this,Bool.false_and]
  ·simp only[Zb]at bg
   obtain rfl:t=nG g:=by omega
   refine⟨bc.trans A, .inr (.inr ⟨Z,ai,ko,R,T,U,rfl,?_,?_⟩)⟩
   ·exact(a9.base_le st.ext.size).ext (Q.trans A)
   ·exact Q5.base_le af bc.size
open Go Go.Vc Go.Gf
open Go.IntKind (i64)
open Go.Value (int)
open Go.Proofs.Tryz (prog)
theorem Qn8{w:World}{a:Nat}{s:StA}{F:Nat->Prop}(h:IsA w a s F)(z:OkA s){pf:σ}(A:Qm w pf){g:Geo}{i e:Int}(B:QA g)(hi:0<=i/\i<g.stripes):
  Calls prog 33 #[lnV (some (at0 a)) pf g i e] w fun J w'=>∃v,J= .returned v/\Q1c s g i e w v w':=by
 refine F33_calls (some (at0 a)) pf g.k g.m g.size g.stripes g.slots g.objects i e w (Q1c s g i e w) (rI0 w s g i e (lnC (some (at0 a)) pf g i e)) (rM0 g) (rI1 s g i e) (rM1 g) ?_;have r:=B;obtain⟨U,V,W,X,Y⟩:=B;have Z:(nG g:Int)=g.k+g.m:=by unfold nG;omega
 intro t y p;have r12:RowW y t (lnC (some (at0 a)) pf g i e):=⟨_,p.at⟩;refine⟨_,Qm0 r12 rfl,_,Qm0 r12 rfl,fun u f=> ?_⟩;rw[w64 (n:=g.k+g.m) (by omega)];have K:(g.k+g.m).toNat=nG g:=by omega
 rw[K];have q:=p.ext.trans f.ext;have M:t<u.heap.size:=by have:=p.size;have:=f.ext.size;omega
 have N:w.heap.size<=u.heap.size:=q.size;refine⟨⟨⟨by omega,by omega,by omega⟩,fun C D j=>⟨⟨by omega,by omega,by omega⟩,fun E G d=> ?_⟩⟩,⟨⟨by omega,by omega,by omega⟩,fun O P o=>⟨⟨by omega,by omega,by omega⟩,fun Q R l=> ?_⟩⟩⟩
 ·have H:=j.size
  have I:=d.size;have hb:=j;rw[Qba,QK2 (f':=fun x=>decide (x<0)&&QD1 s g i e x) (fun x _=>by simp)]at hb;refine Qxg h z A r hi ⟨q.trans (j.ext.trans d.ext),d.ext.rowW (j.ext.rowW (f.ext.rowW r12 id) id) id,d.ext.keep hb.at,?_,by omega,by omega,by omega,by omega⟩;exact(Qad _ d).congr fun x _=>by simp
 ·have S:=o.size
  have T:=l.size;have hb:=l;rw[Qba,QK2 (f':=fun x=>decide (x<0)&&QD1 s g i e x) (fun x _=>by simp)]at hb;refine Qxg h z A r hi ⟨q.trans (o.ext.trans l.ext),l.ext.rowW (o.ext.rowW (f.ext.rowW r12 id) id) id,hb.at,?_,by omega,by omega,by omega,by omega⟩;exact((Qad _ o).ext l.ext).congr fun x _=>by simp
end Go.Proofs.YtkolafpgbhpdlaaGreat
