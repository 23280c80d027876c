import Derived.Test.YtkolafpgbhpdlaaGreatGa
import Derived.Test.YtkolafpgbhpdlaaGreatRepM
import Derived.Test.YtkolafpgbhpdlaaGreatRepS
import Derived.Maps.Own
import Derived.Lib.SlKeysI
import Derived.Test.YtkolafpgbhpdlaaGreatProg
import Derived.Shelf.SlIterI.Nil
import Derived.Shelf.SortM.Plain
import Derived.Shelf.SortM.SortNone
import Derived.Test.YtkolafpgbhpdlaaGreatRep
set_option maxHeartbeats 1000000
namespace Go.Proofs.YtkolafpgbhpdlaaGreat
open Go.Vc
open Go.IntKind (i64)
open Go.Value (int)
open Go.Proofs.Tryz (prog)
theorem QPc{xs ys:τ}(i:Nat):((xs.getD i 0).toNat:Int)=((ys.getD i 0).toNat:Int)↔xs.getD i 0=ys.getD i 0:=by
 constructor
 ·intro h;exact UInt8.toNat_inj.1 (by omega)
 ·intro h;rw[h]
theorem Q35{o p:σ}{d c1 m c2:Nat}{w:World}{xs ys:τ}(s:Q1 w o d xs)(t:Q1 w p m ys)(B:d<=4611686018427387904):
  Calls prog 18 #[.slice o d c1, .slice p m c2] w fun e w'=>e= .returned (.bool (decide (xs=ys)))/\QD2 w w':=by
 refine(F18_calls o d c1 p m c2 w (fun v w'=>v= .bool (decide (xs=ys))/\QD2 w w')
  (fun _ i w1=>0<=i/\i<=d/\QD2 w w1/\∀j:Nat,(j:Int)<i->xs.getD j 0=ys.getD j 0) (fun _ i _=>(d-i).toNat) ?_).mono (by rintro e w' ⟨v,rfl,rfl,h⟩;exact⟨rfl,h⟩)
 have C:=s.1;have E:=t.1;refine Q0 (fun n=> ?_) (fun n=> ?_)
 ·simp only[Zg,Zb]at n
  have:xs≠ys:=by rintro rfl;omega
  exact⟨by simp[this],QD2.refl w⟩
 ·simp only[Zf,Za]at n
  have n:d=m:=by omega
  refine⟨⟨by omega,by omega,QD2.refl w,fun j x=>by omega⟩,?_⟩;rintro i G ⟨k,y,u,g⟩
  intros
  refine Q0 (fun ht=> ?_) (fun ht=> ?_)
  ·simp only[Za]at ht
   intro z A;have f:=u.trans A.quiet;refine⟨⟨k,ht⟩,?_⟩;obtain⟨a,rfl,ha⟩:=(s.ext f.ext).get (i:=i.toNat) (by omega);obtain⟨b,rfl,hb⟩:=(t.ext f.ext).get (i:=i.toNat) (by omega);refine⟨_,by rw[Nat.mul_one];exact ha,⟨k,by omega⟩,_,by rw[Nat.mul_one];exact hb,?_⟩;refine Q0 (fun l=> ?_) (fun l=> ?_)
   ·simp only[Zg,Zb,QPc]at l
    have:xs≠ys:=by rintro rfl;exact l rfl
    exact⟨by simp[this],f⟩
   ·simp only[Zf,Za,QPc]at l
    rw[w64 (by omega)];refine⟨⟨by omega,by omega,f,fun j x=> ?_⟩,by show((d:Int)-(i+1)).toNat<((d:Int)-i).toNat;omega⟩
    by_cases h:(j:Int)<i
    ·exact g j h
    ·have:j=i.toNat:=by omega
     rw[this];exact l
  ·simp only[Zb]at ht
   have:xs=ys:=by
    apply List.ext_getElem (by omega);intro j q r;have:=g j (by omega);simpa[Zj,q,r]using this
   exact⟨by simp[this],u⟩
def Qh(dead:Bool)(sectors n:Int):Int:=if dead then 120 else if n<0\/sectors<=n then 121 else 0
theorem QI3{b:Nat}{n sectors:Int}{g i:Option Nat}{dead:Bool}{w:World}(h:RowW w b #[int i64 sectors, .map g, .map i, .bool dead]):
  Calls prog 75 #[.pointer (some (at0 b)),int i64 n] w fun e w'=>e= .returned (int i64 (Qh dead sectors n))/\w'=w:=by
 refine(F75_calls (some (at0 b)) n w (fun v w'=>v=int i64 (Qh dead sectors n)/\w'=w) ?_).mono (by rintro e w' ⟨v,rfl,rfl,h⟩;exact⟨rfl,h⟩);refine⟨dead,h.c rfl,?_⟩;unfold Qh;refine Q0 (fun a=> ?_) (fun a=> ?_)
 ·simp[a]
 ·refine Q0 (fun d=> ?_) (fun d=> ?_)
  ·simp only[Za]at d
   simp[a,d]
  ·simp only[Zb]at d
   refine⟨sectors,h.c rfl,Q0 (fun f=> ?_) (fun f=> ?_)⟩
   ·simp only[Za]at f
    simp[a,f]
   ·simp only[Zb]at f
    simp[a,d,f]
open Go.Vc
open Go.IntKind (i64)
open Go.Value (int)
open Go.Proofs.Tryz (prog)
def QV(w:World)(p:σ)(n:Nat)(xs:List Int):Prop:=n=xs.length/\Qa w p (xs.map fun x=>int i64 x)
theorem QV.ext{w w':World}{p:σ}{n:Nat}{xs:List Int}(h:QV w p n xs)(a:Ext w w'):QV w' p n xs:=⟨h.1,h.2.ext a⟩
theorem QV.get{w:World}{p:σ}{n:Nat}{xs:List Int}(h:QV w p n xs){i:Nat}(hi:i<n):∃a,p=some a/\w.cell? (a.add i)=some (int i64 (xs.getD i 0)):=by
 have d:i<xs.length:=by rw[←h.1];exact hi
 obtain⟨a,ha,e⟩:=h.2 i (int i64 xs[i]) (by simp[d]);exact⟨a,ha,by rw[e];simp[Zj,d]⟩
theorem QVd{p:σ}{l c:Nat}{x:Int}{w:World}{xs:List Int}(h:QV w p l xs)(q:l<=9223372036854775807):
  Calls prog 105 #[.slice p l c,int i64 x] w fun e w'=>∃i:Int,e= .returned (int i64 i)/\(0<=i↔x∈xs)/\w'=w:=by
 have r:=h.1
 refine(F105_calls p l c x w (fun v w'=>∃i:Int,v=int i64 i/\(0<=i↔x∈xs)/\w'=w)
  (fun _ _ i w1=>0<=i/\i<=l/\w1=w/\∀j:Nat,(j:Int)<i->xs.getD j 0≠x) (fun _ _ i _=>(l-i).toNat) ?_).mono (by rintro e w' ⟨v,rfl,i,rfl,h⟩;exact⟨i,rfl,h⟩)
 refine⟨⟨by omega,by omega,rfl,fun j k=>by omega⟩,?_⟩;rintro i s ⟨f,m,rfl,d⟩
 intros
 refine Q0 (fun ht=> ?_) (fun ht=> ?_)
 ·simp only[Za]at ht
  refine⟨⟨f,ht⟩,?_⟩;obtain⟨a,rfl,ha⟩:=h.get (i:=i.toNat) (by omega);refine⟨_,by rw[Nat.mul_one];exact ha,?_⟩;refine Q0 (fun g=> ?_) (fun g=> ?_)
  ·simp only[Za]at g
   refine⟨i,rfl,⟨fun _=> ?_,fun _=>f⟩,rfl⟩;rw[g,Zj,Zc (by omega)];exact List.getElem_mem _
  ·simp only[Zb]at g
   rw[w64 (by omega)];refine⟨⟨by omega,by omega,rfl,fun j k=> ?_⟩,by show((l:Int)-(i+1)).toNat<((l:Int)-i).toNat;omega⟩
   by_cases n:(j:Int)<i
   ·exact d j n
   ·have:j=i.toNat:=by omega
    rw[this];exact Ne.symm g
 ·simp only[Zb]at ht
  refine⟨-1,rfl,⟨fun t=>by omega,fun o=> ?_⟩,rfl⟩;exfalso
  obtain⟨j,k,rfl⟩:=List.getElem_of_mem o;exact d j (by omega) (by simp[Zj,k])
theorem QJ4{p:σ}{l c:Nat}{x:Int}{w:World}{xs:List Int}(h:QV w p l xs)(a:l<=9223372036854775807):
  Calls prog 66 #[.slice p l c,int i64 x] w fun e w'=>e= .returned (.bool (decide (x∈xs)))/\w'=w:=by
 refine(F66_calls p l c x w (fun v w'=>v= .bool (decide (x∈xs))/\w'=w) ?_).mono (by rintro e w' ⟨v,rfl,rfl,h⟩;exact⟨rfl,h⟩);refine(QVd h a).mono ?_;rintro e w' ⟨i,rfl,hi,rfl⟩;refine⟨i,rfl,?_,rfl⟩;simp only[hi]
open Go.Vc
open Go.IntKind (i64)
open Go.Value (int)
open Go.Proofs.Tryz (prog)
theorem Quj:Qz1 prog 25 5 1 1:=⟨by kernel_rfl,⟨Tryz.t5, .int .u8 0,by kernel_rfl,by kernel_rfl,by kernel_rfl,by kernel_rfl,by kernel_rfl⟩,by omega⟩
theorem QH2{p:σ}{l c:Nat}{w:World}{bs:τ}(h:Q1 w p l bs)(hb:l<=1073741824)(s:p=none->l=0):
  Calls prog 77 #[.slice p l c] w fun e w'=>∃a g,e= .returned (.slice a l g)/\Ext w w'/\Q5 w' w.heap.size 5 1 a l g (QE bs)/\(a=none↔p=none):=by
 refine(F77_calls p l c w (fun v w'=>∃a g,v= .slice a l g/\Ext w w'/\Q5 w' w.heap.size 5 1 a l g (QE bs)/\(a=none↔p=none)) ?_).mono (by
  rintro e w' ⟨v,rfl,a,g,rfl,h⟩;exact⟨a,g,rfl,h⟩)
 refine Q0 (fun o=> ?_) (fun o=> ?_)
 ·have:p=none:=by simpa using o
  subst this;obtain rfl:=s rfl;have r:bs=[]:=Zk h.1.symm;subst r;exact⟨none,0,rfl,Upd.refl _ _,Q5.nil _ _ _ _,by simp⟩
 ·intro k u i
  have j:Q5 u w.heap.size 5 1 (some (at0 k)) 0 0 []:=Q5.made i (by rw[i.size.1];exact Nat.le_refl _) (Nat.le_refl _) (by unfold maxLen;omega) rfl;have z:=h.1;obtain⟨a,g,w',t,f,y,n⟩:=j.append Quj 25 (q:=p) (m:=l) (d:=c) (news:=QE bs) (by rw[Qb];omega) ((h.ext i.ext).cells) s
   (Qd1 bs) (by unfold maxLen;omega) (by omega) (by rw[i.size.2];omega)
  rw[Nat.zero_add]at t f;refine⟨a,l,g,w',t,a,g,rfl,?_,f,?_⟩
  ·refine Upd.trans i.ext y fun x A hs=> ?_
   simp only[Zi,at0,Zv,and_true]at hs;rw[i.size.1]at hs;omega
  ·rw[n]
   simp only[Option.isNone_eq_false_iff]at o;have:p≠none:=by rintro rfl;simp at o
   simp[this]
structure Dk where
 sectors:Int
 lasts:SM
 waits:SM
 dead:Bool
def Qn(G:Nat->Prop)(w:World)(v:Value)(bs:τ):Prop:=
 ∃p n c,v= .slice p n c/\Q1 w p n bs/\bs≠ []/\n<=4108/\∀a,p=some a->G a.block
theorem Qn.upd{S G:Nat->Prop}{w w':World}{v:Value}{bs:τ}(h:Qn G w v bs)(f:Upd S w w')(hS:∀x,G x->¬S x):Qn G w' v bs:=by
 obtain⟨p,n,c,rfl,hb,d,g,e⟩:=h;exact⟨p,n,c,rfl,hb.upd f (fun a ha _=>hS _ (e a ha)),d,g,e⟩
theorem Qn.mono{G G':Nat->Prop}{w:World}{v:Value}{bs:τ}(h:Qn G w v bs)(e:∀x,G x->G' x):Qn G' w v bs:=by
 obtain⟨p,n,c,rfl,hb,d,f,h⟩:=h;exact⟨p,n,c,rfl,hb,d,f,fun a ha=>e _ (h a ha)⟩
structure Qz(w:World)(b m1 m2:Nat)(D:Dk)(G:Nat->Prop):Prop where
 row:RowW w b #[int i64 D.sectors, .map (some m1), .map (some m2), .bool D.dead]
 lasts:QY Qu9 (Qn G w) w m1 D.lasts
 waits:QY Qu9 (Qn G w) w m2 D.waits
 asc1:Asc D.lasts
 asc2:Asc D.waits
 ne:b≠m1/\b≠m2/\m1≠m2
 apart:∀x,G x->x≠b/\x≠m1/\x≠m2
 bound:∀x,G x->x<w.heap.size
def Q2k(b m1 m2:Nat)(G:Nat->Prop):Nat->Prop:=fun x=>x=b\/x=m1\/x=m2\/G x
theorem Qz.upd{S:Nat->Prop}{w w':World}{b d e:Nat}{D:Dk}{G:Nat->Prop}(h:Qz w b d e D G)(a:Upd S w w')(hS:∀x,S x->¬Q2k b d e G x):
  Qz w' b d e D G:=by
 have i:∀x,G x->¬S x:=fun x f hs=>hS x hs (.inr (.inr (.inr f)))
 exact⟨a.rowW h.row fun hs=>hS _ hs (.inl rfl),(h.lasts.upd a fun hs=>hS _ hs (.inr (.inl rfl))).mono fun v x g=>g.upd a i,
  (h.waits.upd a fun hs=>hS _ hs (.inr (.inr (.inl rfl)))).mono fun v x g=>g.upd a i,h.asc1,h.asc2,h.ne,h.apart,fun x f=>Zo (h.bound x f) a.size⟩
theorem Qz.ext{w w':World}{b a d:Nat}{D:Dk}{G:Nat->Prop}(h:Qz w b a d D G)(e:Ext w w'):Qz w' b a d D G:=h.upd e fun _ h=>h.elim
theorem Qz.foot{w:World}{b a d:Nat}{D:Dk}{G:Nat->Prop}(h:Qz w b a d D G):∀x,Q2k b a d G x->x<w.heap.size:=by
 rintro x (rfl|rfl|rfl|e)
 ·exact h.row.lt
 ·exact h.lasts.lt
 ·exact h.waits.lt
 ·exact h.bound x e
theorem Qof{w:World}{b a d:Nat}{D:Dk}{G:Nat->Prop}(h:Qz w b a d D G):
  Calls prog 95 #[.pointer (some (at0 b))] w fun e w'=>e= .returned (.bool D.dead)/\w'=w:=
 (F95_calls (some (at0 b)) w (fun v w'=>v= .bool D.dead/\w'=w) ⟨_,h.row.c rfl,rfl,rfl⟩).mono (by rintro e w' ⟨v,rfl,rfl,h⟩;exact⟨rfl,h⟩)
theorem Qch:Tryz.prog.underlying 119=some (.map 3 25):=by kernel_rfl
theorem QDj:Tryz.prog.underlying 3=some Qu9.kd:=by kernel_rfl
theorem Q1k:Qo1 prog 25=some (.slice none 0 0):=by kernel_rfl
def QB8(b m1 m2:Nat):Nat->Prop:=fun x=>x=b\/x=m1\/x=m2
theorem Qe8{w:World}{b g i:Nat}{D:Dk}{G:Nat->Prop}(h:Qz w b g i D G)(dd:Bool):
  Calls prog 74 #[.pointer (some (at0 b)), .bool dd] w fun e w'=>e= .returned (.tuple #[])/\Upd (QB8 b g i) w w'/\Qz w' b g i {D with dead:=dd,lasts:=[],waits:=[]} G:=by
 refine(F74_calls (some (at0 b)) dd w (fun v w'=>v= .tuple #[]/\Upd (QB8 b g i) w w'/\Qz w' b g i {D with dead:=dd,lasts:=[],waits:=[]} G) ?_).mono (by
  rintro e w' ⟨v,rfl,rfl,h⟩;exact⟨rfl,h⟩)
 obtain⟨q,r,s⟩:=h.ne;refine⟨h.row.live (n:=3) (by simp),fun t hs=> ?_⟩;have d:Upd (fun x=>x=b) w t:=by have:=hs.upd;rw[QJ]at this;exact this
 have u:RowW t b #[int i64 D.sectors, .map (some g), .map (some i), .bool dd]:=hs.row h.row;refine⟨_,u.c rfl,?_⟩;obtain⟨y,m,f,_,o⟩:=QY.clear (P:=prog) (ty:=0) (h.lasts.upd d (Ne.symm q)) Qch;refine⟨_,y,m,?_⟩;have r7:=f.rowW u q;refine⟨_,r7.c rfl,?_⟩;obtain⟨p,k,a,_,l⟩:=QY.clear (P:=prog) (ty:=0) ((h.waits.upd d (Ne.symm r)).upd f (Ne.symm s)) Qch;refine⟨_,p,k,rfl,?_,?_⟩
 ·refine Upd.trans (Upd.trans (S:=QB8 b g i) (d.mono fun x _ j=> .inl j) f fun x _ j=> .inr (.inl j)) a fun x _ j=> .inr (.inr j)
 ·refine⟨a.rowW r7 r,?_,?_, .nil, .nil,h.ne,h.apart,fun x j=>Zo (h.bound x j) (Zu d.size (Zu f.size a.size))⟩
  ·exact(o.upd a s).empty
  ·exact l.empty
open Go.Vc
open Go.IntKind (i64)
open Go.Value (int)
open Go.Proofs.Tryz (prog)
theorem Qcf{V:Value->τ->Prop}(T:∀v x,V v x->∃p n c,v= .slice p n c){w:World}{f m:Nat}{L W:SM}(M:QY Qu9 V w f L)(H:QY Qu9 V w m W)(t:f≠m):
  Calls prog 165 #[.map (some f), .map (some m)] w fun e w'=>e= .returned (.tuple #[])/\Upd (fun x=>x=f) w w'/\QY Qu9 V w' f (Q1d L W):=by
 refine(F165_calls (some f) (some m) w (fun v w'=>v= .tuple #[]/\Upd (fun x=>x=f) w w'/\QY Qu9 V w' f (Q1d L W))
  (fun it _ w8=>∃k dn rest,it=some (at0 k)/\(dn++rest).Perm W/\QI7 Qu9 V w8 k m W rest/\QY Qu9 V w8 f (Q1d L dn)/\Upd (fun x=>x=f) w w8/\w.heap.size<=k)
  (fun it _ w8=>Q74 w8 it m) ?_).mono (by rintro e w' ⟨v,rfl,rfl,h⟩;exact⟨rfl,h⟩)
 obtain⟨es,c,l,N,U,hp⟩:=id H;refine⟨es,c,N,fun k w6 G=>⟨⟨k,[],W,rfl,by simp,QI7.made H N G,?_,G.ext.upd,?_⟩,?_⟩⟩
 ·rw[Q2d];exact M.upd G.ext id
 ·rw[G.size.1];exact Nat.le_refl _
 ·rintro w8 ⟨k',dn,rest,u,a,z,o,O,I⟩
  simp only[Zi,at0,Zv,_root_.and_true]at u;subst u
  intros
  have r:k≠f:=by have:=M.lt;omega
  refine z.next ?_ ?_
  ·intro kk x v rest' J d q P i
   obtain⟨Q,X⟩:=i.entry;obtain⟨p,n,Y,rfl⟩:=T v x Q;refine⟨kk,p,n,Y,i.entryAt,?_⟩;have j:=o.upd q (Ne.symm r);obtain⟨A,B,g,R,C⟩:=j.update Qch QDj kk Q;refine⟨A,B,⟨k,dn++ [(kk,x)],rest',rfl,?_,(i.toIt.upd g r (Ne.symm t)),?_,?_,I⟩,?_⟩
   ·refine List.Perm.trans ?_ a
    rw[List.append_assoc];exact(d.symm).append_left dn
   ·have K:kk∉dn.map (·.1):=by
     have Z:=H.nodup;have:=((a.map (·.1)).nodup_iff).2 Z;rw[Zp,List.nodup_append]at this;intro E;exact this.2.2 kk E kk ((d.map (·.1)).mem_iff.2 (by simp)) rfl
    exact C.perm ((Qha K).trans (Qj7 (List.perm_append_singleton _ _).symm))
   ·have s:Upd (fun x=>x=f) w J:=Upd.trans O q fun y hy aa=>by omega
    exact Upd.trans s g fun _ _ h=>h
   ·show Q74 A (some (at0 k)) m<Q74 w8 (some (at0 k)) m
    rw[(i.toIt.upd g r (Ne.symm t)).left,z.left,d.length_eq];simp
  ·rintro rfl ab S
   rw[List.append_nil]at a;refine⟨rfl,Upd.trans O S.ext (fun _ _ h=>h.elim),(o.upd S.ext id).perm (Qj7 a)⟩
theorem Qn.slice{G:Nat->Prop}{w:World}{v:Value}{x:τ}(h:Qn G w v x):∃p n c,v= .slice p n c:=by
 obtain⟨p,n,c,rfl,_⟩:=h;exact⟨p,n,c,rfl⟩
theorem Q5j{w:World}{b g i:Nat}{D:Dk}{G:Nat->Prop}(h:Qz w b g i D G){R:ψ}
  (q:∀w',Upd (QB8 b g i) w w'->Qz w' b g i {D with lasts:=mrg D.lasts D.waits,waits:=[]} G->R w'):
  Calls prog 165 #[.map (some g), .map (some i)] w fun e w'=>e= .returned (.tuple #[])∧
   ∃r,w'.cell? ((at0 b).add 2)=some (.map r)/\∃v w'',Sem.run prog (Builtin.clear_ #[119] 0 #[.map r]) w'= .ok v w''/\R w'':=by
 obtain⟨s,t,k⟩:=h.ne;refine(Qcf (fun _ _ l=>l.slice) h.lasts h.waits k).mono ?_;rintro e w1 ⟨rfl,a,m⟩;have j:=a.rowW h.row s;refine⟨rfl,_,j.c rfl,?_⟩;have u:∀x,G x->¬(x=g):=fun x f=>(h.apart x f).2.1;obtain⟨p,n,d,_,o⟩:=QY.clear (P:=prog) (ty:=0) (h.waits.upd a (Ne.symm k)) Qch;refine⟨_,p,n,q p ?_ ?_⟩
 ·exact Upd.trans (a.mono fun x _ f=> .inr (.inl f)) d fun x _ f=> .inr (.inr f)
 ·have hG2:∀x,G x->¬(x=i):=fun x f=>(h.apart x f).2.2
  refine⟨d.rowW j t,?_,o.empty,Q49 h.asc1, .nil,h.ne,h.apart,fun x f=>Zo (h.bound x f) (Zu a.size d.size)⟩;have:=(m.perm (QYc h.asc2.nodup).symm).upd d k;exact this.mono fun v x l=>(l.upd a u).upd d hG2
def QB1(D:Dk):Dk:=if D.dead then D else{D with lasts:=mrg D.lasts D.waits,waits:=[]}
theorem QSd{w:World}{b a d:Nat}{D:Dk}{G:Nat->Prop}(h:Qz w b a d D G)(hs:1<=D.sectors):
  Calls prog 128 #[.pointer (some (at0 b))] w fun e w'=>e= .returned (int i64 (if D.dead then 120 else 0))/\Upd (QB8 b a d) w w'/\Qz w' b a d (QB1 D) G:=by
 refine(F128_calls (some (at0 b)) w (fun v w'=>v=int i64 (if D.dead then 120 else 0)/\Upd (QB8 b a d) w w'/\Qz w' b a d (QB1 D) G) ?_).mono (by
  rintro e w' ⟨v,rfl,rfl,h⟩;exact⟨rfl,h⟩)
 refine(QI3 h.row).mono ?_;rintro e k ⟨rfl,rfl⟩;refine⟨_,rfl,?_⟩;cases j:D.dead with
 |true=>
  refine Q0 (fun _=> ?_) (fun g=>by simp[Qh]at g);exact⟨by simp[Qh],Upd.refl _ _,by simp[QB1,j,h]⟩
 |false=>
  refine Q0 (fun g=>by simp[Qh]at g;omega) (fun _=> ?_);intro n f;have i:=h.ext f.ext;refine⟨_,i.row.c rfl,_,i.row.c rfl,?_⟩;refine(Q5j i (R:=fun w''=>int i64 0=int i64 (if false=true then 120 else 0)/\Upd (QB8 b a d) k w''/\Qz w'' b a d (QB1 D) G) ?_).mono (fun _ _ h=>h);intro w' l m;exact⟨rfl,Upd.trans f.ext.upd l fun _ _ h=>h,by simpa[QB1,j]using m⟩
open Go.Vc
open Go.IntKind (i64)
open Go.Value (int)
open Go.Proofs.Tryz (prog)
def Qk2(D:Dk)(ks:List Int):Dk:={D with lasts:=mrg D.lasts (D.waits.filter fun y=>decide (y.1∈ks)),waits:=[]}
theorem QEd{w:World}{b s g:Nat}{D:Dk}{G:Nat->Prop}(h:Qz w b s g D G){p:σ}{l c:Nat}{ks:List Int}(hk:QV w p l ks)(hl:l<=9223372036854775807)
  (hp:∀a,p=some a->ks≠ []->a.block≠g):
  Calls prog 130 #[.pointer (some (at0 b)), .slice p l c] w fun e w'=>e= .returned (.tuple #[])/\Upd (QB8 b s g) w w'/\Qz w' b s g (Qk2 D ks) G:=by
 obtain⟨n1,n2,n3⟩:=h.ne;have B:∀x,G x->x≠g:=fun x t=>(h.apart x t).2.2
 refine(F130_calls (some (at0 b)) p l c w (fun v w'=>v= .tuple #[]/\Upd (QB8 b s g) w w'/\Qz w' b s g (Qk2 D ks) G)
  (fun it _ w8=>∃k dn rest,it=some (at0 k)/\(dn++rest).Perm D.waits/\QI7 Qu9 (Qn G w) w8 k g (D.waits.filter fun y=>decide (y.1∈ks\/y.1∉dn.map (·.1))) rest/\Upd (fun x=>x=g) w w8/\w.heap.size<=k)
  (fun it _ w8=>Q74 w8 it g) ?_).mono (by rintro e w' ⟨v,rfl,rfl,h⟩;exact⟨rfl,h⟩)
 have T:=h.waits;obtain⟨es,c0,l0,hm,aq,S⟩:=id T;refine⟨_,h.row.c rfl,es,c0,hm,fun k w8 U=>⟨⟨k,[],D.waits,rfl,by simp,?_,U.ext.upd,by rw[U.size.1];exact Nat.le_refl _⟩,?_⟩⟩
 ·have:(D.waits.filter fun y=>decide (y.1∈ks\/y.1∉([]:SM).map (·.1)))=D.waits:=by
   rw[List.filter_eq_self];intro y _;simp
  rw[this];exact QI7.made T hm U
 ·rintro z ⟨k',dn,rest,C,i,q,hu,E⟩
  simp only[Zi,at0,Zv,_root_.and_true]at C;subst C
  intros
  have m:((dn++rest).map (·.1)).Nodup:=((i.map (·.1)).nodup_iff).2 T.nodup;refine q.next ?_ ?_
  ·intro kk x v rest' H d I ai r
   refine⟨kk,v,r.entryAt,?_⟩;have j:Upd (fun x=>x=g) w H:=Upd.trans hu I fun y u ar=>by omega
   have J:QV H p l ks:=by
    refine⟨hk.1,hk.2.upd j fun a ha V hb=> ?_⟩;exact hp a ha (by rintro rfl;exact V rfl) hb
   refine(QJ4 J hl).mono ?_;rintro e W ⟨rfl,rfl⟩;have au:kk∉dn.map (·.1):=by
    rw[Zp,List.nodup_append]at m;intro K;exact m.2.2 kk K kk ((d.map (·.1)).mem_iff.2 (by simp)) rfl
   have n:((dn++ [(kk,x)])++rest').Perm D.waits:=by
    refine List.Perm.trans ?_ i;rw[List.append_assoc];exact(d.symm).append_left dn
   refine⟨_,rfl,Q0 (fun L=> ?_) (fun L=> ?_)⟩
   ·simp only[Zg,Zb]at L
    obtain⟨M,N,O,aj,o⟩:=r.delete (P:=prog) (ty:=0) (t2:=3) Qch QDj;refine⟨_,(j.rowW h.row n2).row.cell rfl,_,M,N,⟨k,dn++ [(kk,x)],rest',rfl,n,?_,Upd.trans j O fun _ _ h=>h,E⟩,?_⟩
    ·have:del kk (D.waits.filter fun y=>decide (y.1∈ks\/y.1∉dn.map (·.1)))=D.waits.filter fun y=>decide (y.1∈ks\/y.1∉(dn++ [(kk,x)]).map (·.1)):=by
      unfold del;rw[List.filter_filter];apply List.filter_congr;intro y _
      by_cases u:y.1=kk
      ·simp[u,L]
      ·by_cases X:y.1∈ks<;>by_cases Y:y.1∈dn.map (·.1)<;>simp[u,X,Y]
     rw[←this];exact o
    ·show Q74 M (some (at0 k)) g<Q74 z (some (at0 k)) g
     rw[o.left,q.left,d.length_eq];simp
   ·simp only[Zf,Za]at L
    refine⟨⟨k,dn++ [(kk,x)],rest',rfl,n,?_,j,E⟩,?_⟩
    ·have:(D.waits.filter fun y=>decide (y.1∈ks\/y.1∉dn.map (·.1)))=D.waits.filter fun y=>decide (y.1∈ks\/y.1∉(dn++ [(kk,x)]).map (·.1)):=by
      apply List.filter_congr;intro y _
      by_cases u:y.1=kk
      ·simp[u,L]
      ·by_cases X:y.1∈ks<;>by_cases Y:y.1∈dn.map (·.1)<;>simp[u,X,Y]
     rw[←this];exact r.toIt
    ·show Q74 W (some (at0 k)) g<Q74 z (some (at0 k)) g
     rw[r.toIt.left,q.left,d.length_eq];simp
  ·rintro rfl av hq A hd
   rw[List.append_nil]at i;have Q:(D.waits.filter fun y=>decide (y.1∈ks\/y.1∉dn.map (·.1)))=D.waits.filter fun y=>decide (y.1∈ks):=by
    apply List.filter_congr;intro y u;have:y.1∈dn.map (·.1):=(i.map (·.1)).mem_iff.2 (List.mem_map.2 ⟨y,u,rfl⟩);simp[this]
   have t:Ext z A:=(hq.trans hd.quiet).ext;have f:Upd (fun x=>x=g) w A:=Upd.trans hu t fun _ _ h=>h.elim;have Z:Qz A b s g {D with waits:=D.waits.filter fun y=>decide (y.1∈ks)} G:=by
    refine⟨f.rowW h.row n2,(h.lasts.upd f n3).mono fun v x hv=>hv.upd f B,?_,h.asc1,h.asc2.filter _,h.ne,h.apart,fun x t=>Zo (h.bound x t) f.size⟩;have:=(q.upd t id id).map;rw[Q]at this;exact this.mono fun v x hv=>hv.upd f B
   refine⟨_,Z.row.c rfl,_,Z.row.c rfl,?_⟩;refine(Q5j Z (R:=fun w''=>Value.tuple #[]= .tuple #[]/\Upd (QB8 b s g) w w''/\Qz w'' b s g (Qk2 D ks) G) ?_).mono (fun _ _ h=>h);intro w' ab ac;exact⟨rfl,Upd.trans (f.mono fun x _ t=> .inr (.inr t)) ab fun _ _ h=>h,ac⟩
theorem QXe{w:World}{b d m:Nat}{D:Dk}{G:Nat->Prop}(h:Qz w b d m D G)(k:Int):
  Calls prog 76 #[.pointer (some (at0 b)),int i64 k] w fun e w'=>QD2 w w'/\∃p l c r,e= .returned (.tuple #[.slice p l c, .map (some r)])∧
   ((∃bs,get k D.waits=some bs/\Qn G w (.slice p l c) bs/\r=m)\/(∃bs,get k D.waits=none/\get k D.lasts=some bs/\Qn G w (.slice p l c) bs/\r=d)∨
    (get k D.waits=none/\get k D.lasts=none/\p=none/\l=0/\r=d)):=by
 refine(F76_calls (some (at0 b)) k w (fun v w'=>QD2 w w'/\∃p l c r,v= .tuple #[.slice p l c, .map (some r)]∧
   ((∃bs,get k D.waits=some bs/\Qn G w (.slice p l c) bs/\r=m)\/(∃bs,get k D.waits=none/\get k D.lasts=some bs/\Qn G w (.slice p l c) bs/\r=d)∨
    (get k D.waits=none/\get k D.lasts=none/\p=none/\l=0/\r=d))) ?_).mono (by
  rintro e w' ⟨v,rfl,q,p,l,c,r,rfl,h⟩;exact⟨q,p,l,c,r,rfl,h⟩)
 refine⟨_,h.row.c rfl,?_⟩;rcases h.waits.lookup Qch QDj Q1k k with⟨bs,v,n,j,o⟩|⟨n,o⟩
 ·obtain⟨p,l,c,rfl⟩:=j.slice
  refine⟨p,l,c,true,o,fun u f=> ?_⟩;have s:=h.ext f.ext;exact⟨_,s.row.c rfl,f.quiet,p,l,c,m,rfl, .inl ⟨bs,n,j,rfl⟩⟩
 ·refine⟨none,0,0,false,o,fun t f=> ?_⟩
  have a:=h.ext f.ext;refine⟨_,a.row.c rfl,?_⟩;rcases a.lasts.lookup Qch QDj Q1k k with⟨bs,v,g,j,i⟩|⟨g,i⟩
  ·obtain⟨p,l,c,rfl⟩:=j.slice
   refine⟨p,l,c,true,i,_,a.row.c rfl,f.quiet,p,l,c,d,rfl, .inr (.inl ⟨bs,n,g,?_,rfl⟩)⟩;exact j.upd f.quiet.symm.ext fun _ _=>id
  ·exact⟨none,0,0,false,i,_,a.row.c rfl,f.quiet,none,0,0,d,rfl, .inr (.inr ⟨n,g,rfl,rfl,rfl⟩)⟩
def Qy0(D:Dk)(k:Int):τ:=match get k D.waits with
 |some bs=>bs
 |none=>match get k D.lasts with
  |some bs=>bs
  |none=>[]
theorem QBg{w:World}{b z A:Nat}{D:Dk}{G:Nat->Prop}(h:Qz w b z A D G)(k:Int):
  Calls prog 96 #[.pointer (some (at0 b)),int i64 k] w fun e w'=>Ext w w'/\∃p l c bs,e= .returned (.tuple #[.slice p l c,int i64 (Qh D.dead D.sectors k)])∧
   bs=(if Qh D.dead D.sectors k=0 then Qy0 D k else [])/\l=bs.length/\Q5 w' w.heap.size 5 1 p l c (QE bs)/\l<=4108:=by
 refine(F96_calls (some (at0 b)) k w (fun v w'=>Ext w w'/\∃p l c bs,v= .tuple #[.slice p l c,int i64 (Qh D.dead D.sectors k)]∧
   bs=(if Qh D.dead D.sectors k=0 then Qy0 D k else [])/\l=bs.length/\Q5 w' w.heap.size 5 1 p l c (QE bs)/\l<=4108) ?_).mono (by
  rintro e w' ⟨v,rfl,t,p,l,c,bs,rfl,h⟩;exact⟨t,p,l,c,bs,rfl,h⟩)
 refine(QI3 h.row).mono ?_;rintro e B ⟨rfl,rfl⟩;refine⟨_,rfl,Q0 (fun i=> ?_) (fun i=> ?_)⟩
 ·simp only[Zg,Zb]at i
  exact⟨Upd.refl _ _,none,0,0,[],rfl,by rw[if_neg i],rfl,Q5.nil _ _ _ _,by omega⟩
 ·simp only[Zf,Za]at i
  refine(QXe h k).mono ?_;rintro e I ⟨u,p,l,c,r,rfl,d⟩;refine⟨p,l,c,some r,rfl,?_⟩;have hb:∃bs,Qy0 D k=bs/\Q1 B p l bs/\l<=4108/\(p=none->l=0):=by
   unfold Qy0;rcases d with⟨bs,j,x,_⟩|⟨bs,j,f,x,_⟩|⟨j,f,rfl,rfl,_⟩
   ·obtain⟨q,C,s,m,hb,g,n,_⟩:=x
    simp only[Value.slice.injEq]at m;obtain⟨rfl,rfl,rfl⟩:=m;refine⟨bs,by rw[j],hb,n,fun e=> ?_⟩;obtain⟨a,ha,_⟩:=hb.lt g;rw[e]at ha;cases ha
   ·obtain⟨q,C,s,m,hb,g,n,_⟩:=x
    simp only[Value.slice.injEq]at m;obtain⟨rfl,rfl,rfl⟩:=m;refine⟨bs,by rw[j,f],hb,n,fun e=> ?_⟩;obtain⟨a,ha,_⟩:=hb.lt g;rw[e]at ha;cases ha
   ·exact⟨[],by rw[j,f],Q1.nil _ _,by omega,fun _=>rfl⟩
  obtain⟨bs,y,hb,n,E⟩:=hb;refine(QH2 (hb.ext u.ext) (by omega) E).mono ?_;rintro e H ⟨q,s,rfl,t,o,_⟩;refine⟨q,l,s,rfl,u.ext.trans t,q,l,s,bs,by rw[i],by rw[if_pos i,y],hb.1,?_,n⟩;rw[←u.heap];exact o
open Go.Vc
open Go.IntKind (i64)
open Go.Value (int)
open Go.Proofs.Tryz (prog)
theorem QGl{n:Int}(h:n<1\/4096<n)(w:World):Calls prog 31 #[int i64 n] w fun e w'=>e= .returned (.tuple #[.pointer none,int i64 1])/\w'=w:=by
 refine(F31_calls n w (fun v w'=>v= .tuple #[.pointer none,int i64 1]/\w'=w) ?_).mono (by rintro e w' ⟨v,rfl,rfl,h⟩;exact⟨rfl,h⟩);refine Q0 (fun _=>⟨rfl,rfl⟩) (fun a=>Q0 (fun _=>⟨rfl,rfl⟩) (fun d=> ?_));simp only[Zb]at a d;omega
theorem Q3i{n:Int}(h:1<=n/\n<=4096)(w:World):Calls prog 31 #[int i64 n] w fun e w'=>∃b a d,e= .returned (.tuple #[.pointer (some (at0 b)),int i64 0])/\Ext w w'∧
  Qz w' b a d ⟨n,[],[],false⟩ (fun _=>False)/\w.heap.size<=b/\w.heap.size<=a/\w.heap.size<=d:=by
 refine(F31_calls n w (fun v w'=>∃b a d,v= .tuple #[.pointer (some (at0 b)),int i64 0]/\Ext w w'∧
  Qz w' b a d ⟨n,[],[],false⟩ (fun _=>False)/\w.heap.size<=b/\w.heap.size<=a/\w.heap.size<=d) ?_).mono (by rintro e w' ⟨v,rfl,b,a,d,rfl,h⟩;exact⟨b,a,d,rfl,h⟩)
 refine Q0 (fun j=> ?_) (fun _=>Q0 (fun k=> ?_) (fun _=> ?_))
 ·simp only[Za]at j;omega
 ·simp only[Za]at k;omega
 ·intro l p i m q g o r f
  have s:=i.size;have t:=g.size;have u:=f.size;refine⟨o,l,m,rfl,(i.ext.trans g.ext).trans f.ext,?_,by omega,by omega,by omega⟩;exact⟨f.row,((QY.made i).upd g.ext id).upd f.ext id,(QY.made g).upd f.ext id, .nil, .nil,⟨by omega,by omega,by omega⟩,fun _ h=>h.elim,fun _ h=>h.elim⟩
def Qs(D:Dk)(k:Int)(n:Nat):Int:=if Qh D.dead D.sectors k≠0 then Qh D.dead D.sectors k else if n<1\/4108<n then 1 else 0
def QT(D:Dk)(k:Int)(bs:τ):Dk:=if Qs D k bs.length=0 then{D with waits:=ins k bs D.waits}else D
def Qe5(G G':Nat->Prop)(w w':World):Prop:=∀x,G' x->G x\/(w.heap.size<=x/\x<w'.heap.size)
theorem Qze{w:World}{b H j:Nat}{D:Dk}{G:Nat->Prop}(h:Qz w b H j D G)(k:Int){p:σ}{l c:Nat}{bs:τ}(hb:Q1 w p l bs):
  Calls prog 108 #[.pointer (some (at0 b)),int i64 k, .slice p l c] w fun e w'=>∃G',e= .returned (int i64 (Qs D k bs.length))/\Upd (fun x=>x=j) w w'∧
   Qz w' b H j (QT D k bs) G'/\Qe5 G G' w w':=by
 refine(F108_calls (some (at0 b)) k p l c w (fun v w'=>∃G',v=int i64 (Qs D k bs.length)/\Upd (fun x=>x=j) w w'∧
   Qz w' b H j (QT D k bs) G'/\Qe5 G G' w w') ?_).mono (by rintro e w' ⟨v,rfl,G',rfl,h⟩;exact⟨G',rfl,h⟩)
 obtain⟨n1,U,V⟩:=h.ne;have T:=hb.1;refine(QI3 h.row).mono ?_;rintro e q ⟨rfl,rfl⟩;refine⟨_,rfl,Q0 (fun r=> ?_) (fun r=> ?_)⟩
 ·simp only[Zg,Zb]at r
  have n:Qs D k bs.length=Qh D.dead D.sectors k:=by simp[Qs,r]
  refine⟨G,by rw[n],Upd.refl _ _,?_,fun x d=> .inl d⟩;rw[QT,n,if_neg r];exact h
 ·simp only[Zf,Za]at r
  have bad:(bs.length<1\/4108<bs.length)->∃G',int i64 1=int i64 (Qs D k bs.length)/\Upd (fun x=>x=j) q q/\Qz q b H j (QT D k bs) G'/\Qe5 G G' q q:=by
   intro t;have n:Qs D k bs.length=1:=by rw[Qs,if_neg (by simp[r]),if_pos t]
   refine⟨G,by rw[n],Upd.refl _ _,?_,fun x d=> .inl d⟩;rw[QT,n,if_neg (by omega)];exact h
  refine Q0 (fun J=> ?_) (fun J=>Q0 (fun K=> ?_) (fun K=> ?_))
  ·simp only[Za]at J
   exact bad (by omega)
  ·simp only[Za]at K
   exact bad (by omega)
  ·simp only[Zb]at J K
   have n:Qs D k bs.length=0:=by
    rw[Qs,if_neg (by simp[r]),if_neg (by omega)]
   have u:bs≠ []:=by rintro rfl;simp at T;omega
   intro W I;have L:=h.ext I.ext;refine⟨_,L.row.c rfl,?_⟩
   refine(QH2 (hb.ext I.ext) (by omega) (fun e=>by
    obtain⟨a,ha,_⟩:=hb.lt u
    rw[e]at ha;cases ha)).mono ?_
   rintro e y ⟨M,N,rfl,d,o,_⟩;have m:=L.ext d;refine⟨M,l,N,rfl,⟨_,m.row.c rfl,rfl⟩,?_⟩
   let G':Nat->Prop:=fun x=>G x\/(q.heap.size<=x/\x<y.heap.size)
   have O:W.heap.size=q.heap.size:=by rw[I.quiet.heap]
   have z:Qn G' y (.slice M l N) bs:=by
    have A:=Q1.of_cells o.cells;rw[←T]at A;refine⟨M,l,N,rfl,A,u,by omega,fun a ha=> .inr ?_⟩;rcases o.where_ with⟨X,hn,_⟩|⟨g,Y,P,Q,_⟩
    ·rw[X]at ha;cases ha
    ·rw[Y]at ha
     cases ha;exact⟨by rw[←O];exact P,Q⟩
   obtain⟨R,Z,f,i,B⟩:=(m.waits.mono fun v x C=>C.mono (G':=G') fun x d=> .inl d).update Qch QDj k z;refine⟨R,Z,G',by rw[n],?_,?_,fun x d=> ?_⟩
   ·exact Upd.trans ((I.ext.trans d).upd (S:=fun x=>x=j)) f fun _ _ h=>h
   ·have E:∀x,G' x->¬(x=j):=by
     rintro x (d|d)
     ·exact(h.apart x d).2.2
     ·have:=h.waits.lt;omega
    rw[QT,n,if_pos rfl];refine⟨f.rowW m.row U,(m.lasts.upd f V).mono fun v x C=>(C.mono fun x d=> .inl d).upd f E,?_,h.asc1,Qt5 h.asc2,h.ne,?_,?_⟩
    ·exact(B.perm (Qs6 k bs D.waits).symm).mono fun v x C=>C.upd f E
    ·rintro x (d|d)
     ·exact h.apart x d
     ·have a1:=h.row.lt;have a2:=h.lasts.lt;have a3:=h.waits.lt
      exact⟨by omega,by omega,by omega⟩
    ·rintro x (s|s)
     ·rw[i];exact Zo (L.bound x s) d.size
     ·rw[i];exact s.2
   ·rcases d with d|d
    ·exact .inl d
    ·exact .inr (by rw[i];exact d)
def Qa2(at_:Int)(n:Nat):Nat:=((if at_<0 then-(at_+1)else at_) % (n:Int)).toNat
def QF(bs:τ)(at_:Int)(by_:UInt8):τ:=bs.set (Qa2 at_ bs.length) (bs.getD (Qa2 at_ bs.length) 0^^^by_)
def QC(D:Dk)(k:Int):Int:=if Qh D.dead D.sectors k≠0 then Qh D.dead D.sectors k else match get k D.waits with
 |some _=>0
 |none=>match get k D.lasts with
  |some _=>0
  |none=>1
def Qf(D:Dk)(k at_:Int)(by_:UInt8):Dk:=if Qh D.dead D.sectors k≠0 then D else match get k D.waits with
 |some bs=>{D with waits:=ins k (QF bs at_ by_) D.waits}
 |none=>match get k D.lasts with
  |some bs=>{D with lasts:=ins k (QF bs at_ by_) D.lasts}
  |none=>D
theorem Qaj(x y:UInt8):QO .xor .u8 (x.toNat:Int) (y.toNat:Int)=((x^^^y).toNat:Int):=by
 have a:(BitVec.ofInt 8 (x.toNat:Int))=x.toBitVec:=by
  apply BitVec.eq_of_toNat_eq;simp
 have d:(BitVec.ofInt 8 (y.toNat:Int))=y.toBitVec:=by
  apply BitVec.eq_of_toNat_eq;simp
 have e:(x.toBitVec^^^y.toBitVec).toNat=(x^^^y).toNat:=by simp
 have f:=(x^^^y).toNat_lt
 change IntKind.u8.wrap ((BitVec.ofInt 8 (x.toNat:Int)^^^BitVec.ofInt 8 (y.toNat:Int)).toNat:Int)=_
 rw[a,d,e];exact IntWalk.u8_in _ ⟨by omega,by omega⟩
open Go Go.Vc
open Go.IntKind (i64)
open Go.Value (int)
open Go.Proofs.Tryz (prog)
theorem QJj{β:Type}{V:Value->β->Prop}{P:Program}{t:TypeId}(ht:P.underlying t=some (.int .i64)){w:World}{m:Nat}{L:List (Int×β)}(h:QY Qu9 V w m L)
  (u:∀x∈L,(Lit.int .i64 x.1).wf=true) (I:L.length<=maxLen):
  ∃D:DataW Unit,w.ownsMap P t (fun _=>some (.nil,[])) m L.length D/\(intKeys D).Perm (L.map (·.1))/\Maps.size D=L.length:=by
 obtain⟨es,clock,l,v,d,i⟩:=h;have o:es.toList.length=L.length:=(d.ents.length).trans i.length_eq;have j:∀x∈l,(Lit.int .i64 x.1).wf=true:=fun x f=>u x (i.mem_iff.1 f);have k:∀(xs:List MapEntry)(bs:List (Int×β)),QA2 (QE6 Qu9 V) xs bs->(∀x∈bs,(Lit.int .i64 x.1).wf=true)→
   (∀a∈xs,∃y,Go.WideElems.rd (H:=Unit) P t (fun _=>some (.nil,[])) a=some y)/\xs.map (Go.WideElems.rg (H:=Unit) P t (fun _=>some (.nil,[])))=bs.map (fun x=>(Lit.int .i64 x.1,DataW.nil))∧
   xs.map (·.key)=bs.map fun x=>int i64 x.1:=by
  intro xs bs z
  induction z with
  |nil=>intro _;exact⟨fun _ h=>(by cases h),rfl,rfl⟩
  |cons p _ ih=>
   intro q;rename_i a b xs' bs' _;obtain⟨A,B,C⟩:=ih fun x f=>q x (List.mem_cons_of_mem _ f);have g:keyOf P t a.key=some (Lit.int .i64 b.1):=by
    rw[p.1];have:=q b List.mem_cons_self;simp[Qu9,keyOf,ht,mapKey,this]
   have r:Go.WideElems.rd (H:=Unit) P t (fun _=>some (.nil,[])) a=some (Lit.int .i64 b.1,DataW.nil):=by
    simp[Go.WideElems.rd,g]
   refine⟨?_,?_,?_⟩
   ·intro x f
    rcases List.mem_cons.1 f with rfl|f
    ·exact⟨_,r⟩
    ·exact A x f
   ·simp only[List.map_cons,B]
    rw[Go.WideElems.rg_of r]
   ·simp only[List.map_cons,C,p.1];rfl
 obtain⟨E,s,G⟩:=k _ _ d.ents j;have e:=Go.WideShapes.sorted_perm (l.map fun x=>(Lit.int .i64 x.1,(DataW.nil:DataW Unit)));refine⟨_,⟨es,clock,v,⟨by rw[←Array.length_toList];omega,⟨d.born,d.nodup,?_⟩,E⟩,by rw[←Array.length_toList];omega,rfl⟩,?_,?_⟩
 ·rw[G]
  have:=d.keys;rw[show(l.map fun x=>int i64 x.1)=(l.map (·.1)).map (Value.int .i64) by simp];exact List.Pairwise.map _ (fun a b n h=>n (by simpa using h)) this
 ·rw[s]
  refine(e.map _).trans ?_;simp only[List.map_map];exact i.map _
 ·rw[s]
  simp only[Go.Maps.size];rw[e.length_eq,List.length_map];exact i.length_eq
def QLe:Prop:=∀(w:World)(m:Nat)(L:SM)(V:Value->τ->Prop),QY Qu9 V w m L->Asc L->(∀x∈L,0<=x.1/\x.1<4096)->L.length<=4096→
 Calls prog 114 #[.map (some m)] w fun e1 w1=>∃v,e1= .returned v/\Calls prog 113 #[v] w1 fun e w'=>∃p l c,e= .returned (.slice p l c)/\Ext w w'∧
  Q5 w' w.heap.size 3 1 p l c (L.map fun x=>int i64 x.1)/\l=L.length
def ByB(w:World)(base:Nat)(y:Nat):Prop:=base<=y/\∃cs fz,w.heap[y]? =some (.cells cs 5 fz)
theorem ByB.lt{w:World}{base y:Nat}(h:ByB w base y):y<w.heap.size:=by
 obtain⟨_,cs,fz,h⟩:=h;exact Qe h
theorem ByB.upd{S:Nat->Prop}{w w':World}{base y:Nat}(h:ByB w base y)(a:Upd S w w')(hS:¬S y):ByB w' base y:=by
 obtain⟨d,cs,fz,e⟩:=h;exact⟨d,cs,fz,a.keep e hS⟩
def Qd:List Value->SM->List Value
 |v::vs,x::L=>int i64 x.1::v::Qd vs L
 |_,_=>[]
theorem QP:∀{vs:List Value}{L:SM},vs.length=L.length->(Qd vs L).length=2*L.length
 | [],[],_=>rfl
 |v::vs,x::L,h=>by
  have:=QP (vs:=vs) (L:=L) (by simpa using h);simp only[Qd,List.length_cons,this];omega
theorem Qd3:∀{vs:List Value}{L:SM}(v:Value)(x:Int×τ),vs.length=L.length->Qd (vs++ [v]) (L++ [x])=Qd vs L++ [int i64 x.1,v]
 | [],[],_,_,_=>rfl
 |a::vs,d::L,v,x,h=>by
  have:=Qd3 (vs:=vs) (L:=L) v x (by simpa using h);simp only[List.cons_append,Qd,this]
theorem Qn2:∀{vs:List Value}{L:SM}{i:Nat}{v:Value}{x:Int×τ},vs[i]? =some v->L[i]? =some x->(Qd vs L)[2*i]? =some (int i64 x.1)/\(Qd vs L)[2*i+1]? =some v
 |_::_,_::_,0,_,_,a,d=>by
  simp only[List.getElem?_cons_zero,Zi]at a d;subst a;subst d;exact⟨rfl,rfl⟩
 |e::vs,f::L,i+1,v,x,a,d=>by
  have:=Qn2 (vs:=vs) (L:=L) (i:=i) (by simpa using a) (by simpa using d);rw[show 2*(i+1)=2*i+1+1 by omega];simpa[Qd]using this
 | [],_,_,_,_,a,_=>by simp at a
 |_::_,[],_,_,_,_,d=>by simp at d
def QK1(w:World)(base:Nat)(v:Value)(bs:τ):Prop:=
 ∃p n c,v= .slice p n c/\Q5 w base 5 1 p n c (QE bs)/\bs≠ []/\n<=4108
theorem QK1.upd{S:Nat->Prop}{w w':World}{base:Nat}{v:Value}{bs:τ}(h:QK1 w base v bs)(i:Upd S w w')(hS:∀y,ByB w base y->¬S y):QK1 w' base v bs:=by
 obtain⟨p,n,c,rfl,f,j,k⟩:=h;refine⟨p,n,c,rfl,f.upd i fun g a=> ?_,j,k⟩;rcases f.where_ with⟨d,_⟩|⟨l,d,hb,_,_,cur,e,_⟩
 ·rw[d]at a;cases a
 ·rw[d]at a
  simp only[Zi,at0,Zv,and_true]at a;subst a;exact hS _ ⟨hb,cur,_,e⟩
theorem QK1.base_le{w:World}{base base':Nat}{v:Value}{bs:τ}(h:QK1 w base v bs)(hb:base'<=base):QK1 w base' v bs:=by
 obtain⟨p,n,c,rfl,a,d,e⟩:=h;exact⟨p,n,c,rfl,a.base_le hb,d,e⟩
theorem QK1.val{w:World}{base:Nat}{v:Value}{bs:τ}(h:QK1 w base v bs):Qn (ByB w base) w v bs:=by
 obtain⟨p,n,c,rfl,d,i,j⟩:=h;have hb:=Q1.of_cells d.cells;have k:n=bs.length:=by
  have:=d.length;rw[Qb,Nat.mul_one]at this;exact this.symm
 rw[←k]at hb;refine⟨p,n,c,rfl,hb,i,j,fun a ha=> ?_⟩;rcases d.where_ with⟨e,_⟩|⟨g,e,f,_,_,cur,l,_⟩
 ·rw[e]at ha;cases ha
 ·rw[e]at ha;cases ha
  exact⟨f,cur,_,l⟩
def QV0(w:World)(base:Nat)(p:σ)(l c:Nat)(L:SM):Prop:=
 ∃vs,QA2 (fun v (x:Int×τ)=>QK1 w base v x.2) vs L/\Q5 w base 52 2 p l c (Qd vs L)/\l=L.length
theorem QP1{α β:Type}{R d:α->β->Prop}{xs:List α}{bs:List β}(h:QA2 R xs bs)(hi:∀a b,R a b->d a b):QA2 d xs bs:=by
 induction h with
 |nil=>exact .nil
 |cons h _ ih=>exact .cons (hi _ _ h) ih
theorem QE8{α β:Type}{R:α->β->Prop}{xs:List α}{bs:List β}(h:QA2 R xs bs):∀{i:Nat}{b:β},bs[i]? =some b->∃a,xs[i]? =some a/\R a b:=by
 induction h with
 |nil=>intro i b hb;simp at hb
 |cons h _ ih=>
  intro i b hb;cases i with
  |zero=>simp only[List.getElem?_cons_zero,Zi]at hb⊢;subst hb;exact⟨_,rfl,h⟩
  |succ i=>simp only[List.getElem?_cons_succ]at hb⊢;exact ih hb
theorem QV0.upd{S:Nat->Prop}{w w':World}{base:Nat}{p:σ}{l c:Nat}{L:SM}(h:QV0 w base p l c L)(f:Upd S w w')(hS:∀y,base<=y->y<w.heap.size->¬S y):QV0 w' base p l c L:=by
 obtain⟨vs,k,i,m⟩:=h;refine⟨vs,QP1 k fun v x n=> ?_,i.upd f ?_,m⟩
 ·exact n.upd f fun y j=>hS y j.1 j.lt
 ·intro g a
  rcases i.where_ with⟨d,_⟩|⟨o,d,hb,e,_⟩
  ·rw[d]at a;cases a
  ·rw[d]at a
   simp only[Zi,at0,Zv,and_true]at a;subst a;exact hS _ hb e
theorem QV0.ext{w w':World}{base:Nat}{p:σ}{l c:Nat}{L:SM}(h:QV0 w base p l c L)(a:Ext w w'):QV0 w' base p l c L:=h.upd a fun _ _ _ h=>h
theorem QV0.length{w:World}{base:Nat}{p:σ}{l c:Nat}{L:SM}(h:QV0 w base p l c L):l=L.length:=by
 obtain⟨_,_,_,h⟩:=h;exact h
theorem QV0.at{w:World}{base:Nat}{p:σ}{l c:Nat}{L:SM}(h:QV0 w base p l c L){i:Nat}{x:Int×τ}(hi:L[i]? =some x):
  ∃a v,p=some a/\w.cell? (a.add (2*i))=some (int i64 x.1)/\w.cell? (a.add (2*i+1))=some v/\Qn (ByB w base) w v x.2:=by
 obtain⟨vs,f,e,_⟩:=h;obtain⟨v,g,hs⟩:=QE8 f hi;obtain⟨c1,c2⟩:=Qn2 g hi;obtain⟨a,ha,j⟩:=e.cells _ _ c1;obtain⟨m,d,k⟩:=e.cells _ _ c2;rw[ha]at d;cases d;exact⟨a,v,ha,j,k,hs.val⟩
theorem Qrk:Qz1 prog 49 52 2 32:=⟨by kernel_rfl,⟨Tryz.t52, .agg #[int i64 0, .slice none 0 0],by kernel_rfl,by kernel_rfl,by kernel_rfl,by kernel_rfl,by kernel_rfl⟩,by decide⟩
theorem QI6{n:Nat}:∀{L:SM}{lo:Int},Asc L->(∀x∈L,lo<=x.1/\x.1<lo+n)->L.length<=n:=by
 induction n with
 |zero=>
  intro L lo _ h;cases L with
  |nil=>simp
  |cons a L=>have:=h a List.mem_cons_self;omega
 |succ n ih=>
  intro L lo ha h;cases L with
  |nil=>simp
  |cons a L=>
   obtain⟨e,f⟩:=List.pairwise_cons.1 ha;have:=ih (L:=L) (lo:=lo+1) f fun x d=>by
    have:=e x d;have:=h a List.mem_cons_self;have:=h x (List.mem_cons_of_mem _ d);omega
   simp only[List.length_cons];omega
theorem QOa(KS:QLe){w:World}{m:Nat}{L:SM}{G:Nat->Prop}(h:QY Qu9 (Qn G w) w m L)(ha:Asc L)(hr:∀x∈L,0<=x.1/\x.1<4096):
  Calls prog 78 #[.map (some m)] w fun e w'=>∃p l c,e= .returned (.slice p l c)/\Ext w w'/\QV0 w' w.heap.size p l c L:=by
 have Q:L.length<=4096:=QI6 (lo:=0) ha fun x hx=>by have:=hr x hx;omega
 refine(F78_calls (some m) w (fun v w'=>∃p l c,v= .slice p l c/\Ext w w'/\QV0 w' w.heap.size p l c L)
  (fun _ _ _ _ J p l c n s=>∃i:Nat,n=i/\i<=L.length/\Ext J s/\QV0 s J.heap.size p l c (L.take i))
  (fun _ _ _ _ _ _ _ _ n _=>4096-n.toNat) ?_).mono (by rintro e w' ⟨v,rfl,p,l,c,rfl,h⟩;exact⟨p,l,c,rfl,h⟩)
 refine(KS w m L _ h ha hr Q).mono ?_;rintro e w2 ⟨v,rfl,hc⟩;refine⟨v,rfl,hc.mono ?_⟩;rintro e J ⟨p7,l7,c7,rfl,B,M,rfl⟩;refine⟨p7,_,c7,rfl,⟨0,rfl,Nat.zero_le _,Upd.refl _ _,[], .nil,Q5.nil _ _ _ _,rfl⟩,?_⟩;rintro R S am a6 s ⟨i,rfl,hi,o,hh⟩
 intros
 refine Q0 (fun T=> ?_) (fun U=> ?_)
 ·simp only[Za]at T
  have V:i<L.length:=by omega
  refine⟨⟨by omega,T⟩,?_⟩;obtain⟨x,C⟩:∃x,L[i]? =some x:=⟨L[i],Zc V⟩;have W:x∈L:=Zs C;obtain⟨a,aq,N⟩:=(M.ext o).cells i (int i64 x.1) (by rw[Zq,C];rfl);subst aq;refine⟨x.1,by simpa using N,?_⟩;have hx:Ext w s:=Upd.trans B o fun _ _ h=>h;have X:QY Qu9 (Qn G s) s m L:=(h.upd hx id).mono fun v x E=>E.upd hx fun _ _ h=>h;rcases X.lookup Qch QDj Q1k x.1 with⟨y,v,Y,E,hl⟩|⟨Z,_⟩
  rotate_left
  ·have:=(QQ4 ha.nodup (k:=x.1) (x:=x.2)).1 W
   rw[this]at Z;cases Z
  have ar:y=x.2:=by
   have:=(QQ4 ha.nodup (k:=x.1) (x:=x.2)).1 W;rw[this]at Y;cases Y;rfl
  subst ar;obtain⟨p,n,c,rfl,hb,aa,hn,_⟩:=E;refine⟨p,n,c,true,hl,?_⟩
  refine(QH2 hb (by omega) (fun e=>by
   obtain⟨a,ha,_⟩:=hb.lt aa
   rw[e]at ha;cases ha)).mono ?_
  rintro e a9 ⟨O,P,rfl,t,H,_⟩;refine⟨O,n,P,rfl,?_⟩;intro k z hk;obtain⟨vs,ac,r,A⟩:=hh.ext (Upd.trans t hk.ext fun _ _ h=>h);have au:vs.length=(L.take i).length:=ac.length;have av:Qa z (some (at0 k)) [int i64 x.1, .slice O n P]:=by
   intro j u hj;refine⟨_,rfl,?_⟩;have hb:=hk.at
   match j,hj with
   |0,hj=>cases hj;simp[World.cell?,Addr.add,hb]
   |1,hj=>cases hj;simp[World.cell?,Addr.add,hb]
  have ae:J.heap.size<=z.heap.size:=by
   have:=o.size;have:=t.size;have:=hk.size;omega
  obtain⟨aw,ax,af,ah,I,K,_⟩:=r.append Qrk 49 (q:=some (at0 k)) (m:=1) (d:=1) (news:=[int i64 x.1, .slice O n P]) rfl av (fun h=>by cases h)
   (by intro u hu;simp only[List.mem_cons,List.not_mem_nil,or_false]at hu;rcases hu with rfl|rfl<;>rfl) (by simp only[List.length_take]at A;unfold maxLen;omega) (by simp only[List.length_take]at A;omega) ae
  refine⟨aw,S+1,ax,af,ah,?_⟩;have hw:i64.wrap ((i:Int)+1)=((i+1:Nat):Int):=by
   rw[w64 (by omega)];omega
  rw[hw];have ai:∀y,ByB z J.heap.size y->¬(R=some (at0 y)):=by
   rintro y ⟨_,cs,fz,Y⟩ hp;rcases r.where_ with⟨f,_⟩|⟨g,f,_,_,_,cur,hg,_⟩
   ·rw[hp]at f;cases f
   ·rw[hp]at f
    simp only[Zi,at0,Zv,and_true]at f;subst f;rw[Y]at hg;simp at hg
  have aj:∀(v:Value)(b:τ),QK1 z J.heap.size v b->QK1 af J.heap.size v b:=fun v b E=>E.upd K ai;have ak:QK1 z J.heap.size (.slice O n P) x.2:=⟨O,n,P,rfl,(H.ext hk.ext).base_le o.size,aa,hn⟩;refine⟨⟨i+1,rfl,by omega,?_,vs++ [.slice O n P],?_,?_,?_⟩,?_⟩
  ·refine Upd.trans (Upd.trans o (Upd.trans t hk.ext fun _ _ h=>h) fun _ _ h=>h) K fun y Y hs=> ?_
   rcases r.where_ with⟨f,_⟩|⟨g,f,U,_⟩
   ·rw[f]at hs;cases hs
   ·rw[f]at hs
    simp only[Zi,at0,Zv,and_true]at hs;omega
  ·rw[Zn,C]
   exact(QP1 ac fun v x E=>aj v x.2 E).append (.cons (aj _ _ ak) .nil)
  ·rw[Zn,C]
   simp only[Option.toList_some];rw[Qd3 _ _ au];exact I
  ·simp only[List.length_take]at A⊢;omega
  ·simp only[Ze];omega
 ·simp only[Zb]at U
  have ay:i=L.length:=by omega
  subst ay;rw[List.take_length]at hh;refine⟨R,S,am,rfl,Upd.trans B o fun _ _ h=>h,?_⟩;obtain⟨vs,h1,h2,h3⟩:=hh;exact⟨vs,QP1 h1 fun v x E=>E.base_le B.size,h2.base_le B.size,h3⟩
structure Qk3(D:Dk):Prop where
 sec:1<=D.sectors/\D.sectors<=4096
 lasts:∀x∈D.lasts,0<=x.1/\x.1<D.sectors
 waits:∀x∈D.waits,0<=x.1/\x.1<D.sectors
open Go Go.Proofs Go.RowKit Go.Maps Go.Sort Go.Shelf
open Go.IntKind (i64)
open Go.Value (int)
open Go.Proofs.Tryz (prog)
def Q7a:Go.Shelf.Ren:=⟨fun|7=>114|10=>152|n=>n,fun|23=>119|26=>3|3=>25|28=>171|0=>0|27=>170|33=>99|4=>4|n=>n,fun|n=>n⟩
theorem QIk:Go.Proofs.SlLaysZI.n7 prog Q7a:={
 mixed:=by kernel_rfl
 f7:=⟨Tryz.f114.name,by decide,Tryz.func114.trans (congrArg some (by kernel_rfl))⟩
 f10:=⟨Tryz.f152.name,by decide,Tryz.func152.trans (congrArg some (by kernel_rfl))⟩
 t0:=Tryz.underlying0
 a0:=Tryz.isAgg0
 z0:=Tryz.sizeOf0
 v0:=Tryz.zeroValue0
 t4:=Tryz.underlying4
 a4:=Tryz.isAgg4
 z4:=Tryz.sizeOf4
 v4:=Tryz.zeroValue4
 t23:=Tryz.underlying119
 a23:=Tryz.isAgg119
 z23:=Tryz.sizeOf119
 v23:=Tryz.zeroValue119
 t26:=Tryz.underlying3
 a26:=Tryz.isAgg3
 z26:=Tryz.sizeOf3
 v26:=Tryz.zeroValue3
 t27:=Tryz.underlying170
 a27:=Tryz.isAgg170
 z27:=Tryz.sizeOf170
 v27:=Tryz.zeroValue170
 t28:=Tryz.underlying171
 a28:=Tryz.isAgg171
 z28:=Tryz.sizeOf171
 v28:=Tryz.zeroValue171
 t33:=Tryz.underlying99
 a33:=Tryz.isAgg99
 z33:=Tryz.sizeOf99
 v33:=Tryz.zeroValue99}
def Qx7:Go.Shelf.Ren:=⟨fun|6=>113|8=>151|9=>103|11=>188|13=>147|12=>146|23=>186|24=>187|14=>177|15=>178|16=>179|17=>180|18=>181|19=>182|20=>183|21=>184|22=>185|25=>195|26=>196|27=>197|28=>198|29=>199|30=>200|31=>207|n=>n,fun|26=>3|28=>171|24=>30|0=>0|3=>3|37=>88|48=>156|50=>220|4=>4|40=>212|39=>211|45=>216|5=>5|9=>9|51=>228|55=>232|57=>240|58=>241|33=>99|n=>n,fun|n=>n⟩
theorem QTj:Go.Proofs.SlLaysZI.n6 prog Qx7:={
 mixed:=by kernel_rfl
 f6:=⟨Tryz.f113.name,by decide,Tryz.func113.trans (congrArg some (by kernel_rfl))⟩
 f8:=⟨Tryz.f151.name,by decide,Tryz.func151.trans (congrArg some (by kernel_rfl))⟩
 f11:=⟨Tryz.f188.name,by decide,Tryz.func188.trans (congrArg some (by kernel_rfl))⟩
 t0:=Tryz.underlying0
 a0:=Tryz.isAgg0
 z0:=Tryz.sizeOf0
 v0:=Tryz.zeroValue0
 t24:=Tryz.underlying30
 a24:=Tryz.isAgg30
 z24:=Tryz.sizeOf30
 v24:=Tryz.zeroValue30
 t26:=Tryz.underlying3
 a26:=Tryz.isAgg3
 z26:=Tryz.sizeOf3
 v26:=Tryz.zeroValue3
 t28:=Tryz.underlying171
 a28:=Tryz.isAgg171
 z28:=Tryz.sizeOf171
 v28:=Tryz.zeroValue171
 i26:=by kernel_rfl}
def QTg:Go.Shelf.Ren:=⟨fun|5=>103|8=>147|7=>146|19=>186|20=>187|10=>177|11=>178|12=>179|13=>180|14=>181|15=>182|16=>183|17=>184|18=>185|30=>195|31=>196|32=>197|33=>198|34=>199|35=>200|40=>207|n=>n,fun|23=>30|25=>3|3=>3|32=>88|22=>30|0=>0|44=>156|46=>220|4=>4|36=>212|35=>211|41=>216|5=>5|9=>9|53=>228|57=>232|63=>240|64=>241|n=>n,fun|n=>n⟩
theorem Q1l:Go.Proofs.SlLaysM.n5 prog QTg:={
 mixed:=by kernel_rfl
 f5:=⟨Tryz.f103.name,by decide,Tryz.func103.trans (congrArg some (by kernel_rfl))⟩
 f7:=⟨Tryz.f146.name,by decide,Tryz.func146.trans (congrArg some (by kernel_rfl))⟩
 f8:=Tryz.func147.trans (congrArg some (by kernel_rfl))
 f10:=⟨Tryz.f177.name,by decide,Tryz.func177.trans (congrArg some (by kernel_rfl))⟩
 f11:=⟨Tryz.f178.name,by decide,Tryz.func178.trans (congrArg some (by kernel_rfl))⟩
 f12:=⟨Tryz.f179.name,by decide,Tryz.func179.trans (congrArg some (by kernel_rfl))⟩
 f13:=⟨Tryz.f180.name,by decide,Tryz.func180.trans (congrArg some (by kernel_rfl))⟩
 f14:=⟨Tryz.f181.name,by decide,Tryz.func181.trans (congrArg some (by kernel_rfl))⟩
 f15:=⟨Tryz.f182.name,by decide,Tryz.func182.trans (congrArg some (by kernel_rfl))⟩
 f16:=⟨Tryz.f183.name,by decide,Tryz.func183.trans (congrArg some (by kernel_rfl))⟩
 f17:=⟨Tryz.f184.name,by decide,Tryz.func184.trans (congrArg some (by kernel_rfl))⟩
 f18:=⟨Tryz.f185.name,by decide,Tryz.func185.trans (congrArg some (by kernel_rfl))⟩
 f19:=Tryz.func186.trans (congrArg some (by kernel_rfl))
 f20:=Tryz.func187.trans (congrArg some (by kernel_rfl))
 f30:=⟨Tryz.f195.name,by decide,Tryz.func195.trans (congrArg some (by kernel_rfl))⟩
 f31:=Tryz.func196.trans (congrArg some (by kernel_rfl))
 f32:=Tryz.func197.trans (congrArg some (by kernel_rfl))
 f33:=⟨Tryz.f198.name,by decide,Tryz.func198.trans (congrArg some (by kernel_rfl))⟩
 f34:=⟨Tryz.f199.name,by decide,Tryz.func199.trans (congrArg some (by kernel_rfl))⟩
 f35:=⟨Tryz.f200.name,by decide,Tryz.func200.trans (congrArg some (by kernel_rfl))⟩
 f40:=⟨Tryz.f207.name,by decide,Tryz.func207.trans (congrArg some (by kernel_rfl))⟩
 t0:=Tryz.underlying0
 a0:=Tryz.isAgg0
 z0:=Tryz.sizeOf0
 v0:=Tryz.zeroValue0
 t3:=Tryz.underlying3
 a3:=Tryz.isAgg3
 z3:=Tryz.sizeOf3
 v3:=Tryz.zeroValue3
 t4:=Tryz.underlying4
 a4:=Tryz.isAgg4
 z4:=Tryz.sizeOf4
 v4:=Tryz.zeroValue4
 t5:=Tryz.underlying5
 a5:=Tryz.isAgg5
 z5:=Tryz.sizeOf5
 v5:=Tryz.zeroValue5
 t9:=Tryz.underlying9
 a9:=Tryz.isAgg9
 z9:=Tryz.sizeOf9
 v9:=Tryz.zeroValue9
 t22:=Tryz.underlying30
 a22:=Tryz.isAgg30
 z22:=Tryz.sizeOf30
 v22:=Tryz.zeroValue30
 t23:=Tryz.underlying30
 a23:=Tryz.isAgg30
 z23:=Tryz.sizeOf30
 v23:=Tryz.zeroValue30
 t25:=Tryz.underlying3
 a25:=Tryz.isAgg3
 z25:=Tryz.sizeOf3
 v25:=Tryz.zeroValue3
 t32:=Tryz.underlying88
 a32:=Tryz.isAgg88
 z32:=Tryz.sizeOf88
 v32:=Tryz.zeroValue88
 t35:=Tryz.underlying211
 a35:=Tryz.isAgg211
 z35:=Tryz.sizeOf211
 v35:=Tryz.zeroValue211
 t36:=Tryz.underlying212
 a36:=Tryz.isAgg212
 z36:=Tryz.sizeOf212
 v36:=Tryz.zeroValue212
 t41:=Tryz.underlying216
 a41:=Tryz.isAgg216
 z41:=Tryz.sizeOf216
 v41:=Tryz.zeroValue216
 t44:=Tryz.underlying156
 a44:=Tryz.isAgg156
 z44:=Tryz.sizeOf156
 v44:=Tryz.zeroValue156
 t46:=Tryz.underlying220
 a46:=Tryz.isAgg220
 z46:=Tryz.sizeOf220
 v46:=Tryz.zeroValue220
 t53:=Tryz.underlying228
 a53:=Tryz.isAgg228
 z53:=Tryz.sizeOf228
 v53:=Tryz.zeroValue228
 t57:=Tryz.underlying232
 a57:=Tryz.isAgg232
 z57:=Tryz.sizeOf232
 v57:=Tryz.zeroValue232
 t63:=Tryz.underlying240
 a63:=Tryz.isAgg240
 z63:=Tryz.sizeOf240
 v63:=Tryz.zeroValue240
 t64:=Tryz.underlying241
 a64:=Tryz.isAgg241
 z64:=Tryz.sizeOf241
 v64:=Tryz.zeroValue241}
theorem Q2l(m:Nat):AnyZI.SortsIn prog Qx7 Fence.wide m:=
 ⟨fun blk off cap ss W e a d=>callsIn_wide.2 (AnyM.slices_Sort_int Q1l blk off cap ss W e a d),
  fun p cap W=>callsIn_wide.2 (AnyM.slices_Sort_int_none Q1l p cap W)⟩
open Go Go.Vc Go.RowKit Go.Maps Go.Sort Go.Shelf Go.Proofs
open Go.IntKind (i64)
open Go.Value (int)
open Go.Proofs.Tryz (prog)
theorem Qui{L:SM}(ha:Asc L){ss:List Int}(f:ss.Perm (L.map (·.1))):ss.mergeSort (fun x y=>decide (x<=y))=L.map (·.1):=by
 have tr:∀a b c:Int,leI a b=true->leI b c=true->leI a c=true:=fun a b c d e=>by simp only[leI,Za]at*;exact Int.le_trans d e
 have to:∀a b:Int,(leI a b||leI b a)=true:=fun a b=>by simp only[leI,Bool.or_eq_true,Za];exact Int.le_total a b
 refine List.Perm.eq_of_pairwise (le:=fun a b=>leI a b=true) (fun a b _ _ d e=> ?_) (List.pairwise_mergeSort tr to ss) ?_ ((List.mergeSort_perm ss _).trans f)
 ·simp only[leI,Za]at d e
  exact Int.le_antisymm d e
 ·exact(List.pairwise_map.2 (ha.imp fun h=>by simp only[leI,Za];exact Int.le_of_lt h))
theorem Q0g:QLe:=by
 intro w m L V q ha s r
 obtain⟨D,i,d,f⟩:=QJj (P:=prog) (t:=3) (by kernel_rfl) q (fun x u=>by
  have:=s x u;simp only[Lit.wf,Bool.and_eq_true,Za];constructor
  ·exact Int.le_trans (by decide) this.1
  ·exact Int.le_trans (Int.le_of_lt this.2) (by decide)) (by unfold maxLen;omega)
 have o:=q.lt
 have j:SeqGives Fence.wide 2 prog 152 #[.pointer (some ⟨w.heap.size,0,none⟩)] encZ (fun ss=>ss.Perm (intKeys D)) (Maps.size D) (w.alloc (.cells #[.map (some m)] 119)):=
  AnyZI.keys_gives (ρ:=Q7a) {QIk with} Fence.wide _ trivial rfl (by omega) w.heap.size m L.length D _ (by simp) (by simp) (by
   obtain⟨es,clock,hb,Ft,hs,y⟩:=i
   exact⟨es,clock,(Below.heap_alloc _ _ m o).trans hb,Ft,hs,y⟩)
 have cK:CallsIn Fence.wide 5 prog 114 #[.map (some m)] w fun e w'=>e= .returned (.func (.func 152) #[] #[.pointer (some ⟨w.heap.size,0,none⟩)])/\w'=w.alloc (.cells #[.map (some m)] 119):=AnyZI.keys_in QIk Fence.wide 5 trivial rfl (some m) w;have cS:=AnyZI.sorted_in QTj Fence.wide 5 trivial trivial trivial trivial rfl (by omega) (Q2l _) (enters_of Tryz.func103 (by kernel_rfl) rfl) 152 #[.pointer (some ⟨w.heap.size,0,none⟩)] trivial (enters_of Tryz.func152 (by kernel_rfl) rfl) _ _ (by rw[f];unfold maxLen;omega) (by rw[f];omega) _ j
 change CallsIn _ _ prog 113 _ _ _ at cS
 refine((callsIn_wide (n:=5)).1 cK).mono ?_;rintro e w1 ⟨rfl,rfl⟩;refine⟨_,rfl,((callsIn_wide (n:=5)).1 cS).mono ?_⟩;rintro e A ⟨v,ss,rfl,hS,k,_,hb⟩;have hs:=Qui ha (hS.trans d);have h:ss.length=L.length:=by
  have:=(hS.trans d).length_eq;simpa using this
 have a:=ownsRow_base_a k (show w.heap.size<=_ by simp);rw[hs,h]at a;have l:∃p c,v= .slice p L.length c:=by
  rcases a.2 with⟨l,z⟩|⟨g,cap,cur,l,_⟩
  ·exact⟨none,0,by rw[l,z]⟩
  ·exact⟨_,_,l⟩
 obtain⟨p,c,rfl⟩:=l;refine⟨p,L.length,c,rfl,Ext.of_below (((Below.refl _ w).alloc (Nat.le_refl _) _).trans (hb.mono (by simp))),?_,rfl⟩;rw[List.map_map]at a;exact a
theorem QYd{w:World}{b d f:Nat}{D:Dk}{G:Nat->Prop}(h:Qz w b d f D G)(a:Qk3 D):
  Calls prog 48 #[.pointer (some (at0 b))] w fun e w'=>∃p l c,e= .returned (.slice p l c)/\Ext w w'/\QV0 w' w.heap.size p l c D.lasts:=by
 refine(F48_calls (some (at0 b)) w (fun v w'=>∃p l c,v= .slice p l c/\Ext w w'/\QV0 w' w.heap.size p l c D.lasts) ?_).mono (by rintro e w' ⟨v,rfl,p,l,c,rfl,h⟩;exact⟨p,l,c,rfl,h⟩);refine⟨_,h.row.c rfl,?_⟩;refine(QOa Q0g h.lasts h.asc1 fun x g=>by have:=a.lasts x g;have:=a.sec;omega).mono ?_;rintro e w' ⟨p,l,c,rfl,i⟩;exact⟨p,l,c,rfl,p,l,c,rfl,i⟩
theorem Qwe{w:World}{b d f:Nat}{D:Dk}{G:Nat->Prop}(h:Qz w b d f D G)(a:Qk3 D):
  Calls prog 47 #[.pointer (some (at0 b))] w fun e w'=>∃p l c,e= .returned (.slice p l c)/\Ext w w'/\QV0 w' w.heap.size p l c D.waits:=by
 refine(F47_calls (some (at0 b)) w (fun v w'=>∃p l c,v= .slice p l c/\Ext w w'/\QV0 w' w.heap.size p l c D.waits) ?_).mono (by rintro e w' ⟨v,rfl,p,l,c,rfl,h⟩;exact⟨p,l,c,rfl,h⟩);refine⟨_,h.row.c rfl,?_⟩;refine(QOa Q0g h.waits h.asc2 fun x g=>by have:=a.waits x g;have:=a.sec;omega).mono ?_;rintro e w' ⟨p,l,c,rfl,i⟩;exact⟨p,l,c,rfl,p,l,c,rfl,i⟩
open Go Go.Vc
open Go.IntKind (i64)
open Go.Value (int)
open Go.Proofs.Tryz (prog)
theorem QEc(bs:τ)(i:Nat)(b:UInt8):(QE bs).set i (.int .u8 (b.toNat:Int))=QE (bs.set i b):=by
 simp[QE,List.map_set]
theorem Qyf{w:World}{b a d:Nat}{D:Dk}{G:Nat->Prop}(h:Qz w b a d D G):
  Calls prog 44 #[.pointer (some (at0 b))] w fun e w'=>e= .returned (.tuple #[])/\Upd (QB8 b a d) w w'/\Qz w' b a d {D with dead:=true,lasts:=[],waits:=[]} G:=by
 refine(F44_calls (some (at0 b)) w (fun v w'=>v= .tuple #[]/\Upd (QB8 b a d) w w'/\Qz w' b a d {D with dead:=true,lasts:=[],waits:=[]} G) ?_).mono (by rintro e w' ⟨v,rfl,rfl,h⟩;exact⟨rfl,h⟩);refine(Qe8 h true).mono ?_;rintro e f ⟨rfl,h⟩;exact⟨rfl,rfl,h⟩
theorem Qva{w:World}{b a d:Nat}{D:Dk}{G:Nat->Prop}(h:Qz w b a d D G):
  Calls prog 45 #[.pointer (some (at0 b))] w fun e w'=>e= .returned (.tuple #[])/\Upd (QB8 b a d) w w'/\Qz w' b a d {D with dead:=false,lasts:=[],waits:=[]} G:=by
 refine(F45_calls (some (at0 b)) w (fun v w'=>v= .tuple #[]/\Upd (QB8 b a d) w w'/\Qz w' b a d {D with dead:=false,lasts:=[],waits:=[]} G) ?_).mono (by rintro e w' ⟨v,rfl,rfl,h⟩;exact⟨rfl,h⟩);refine(Qe8 h false).mono ?_;rintro e f ⟨rfl,h⟩;exact⟨rfl,rfl,h⟩
theorem QO6(a:Int){n:Nat}(h:0<n):Qa2 a n<n:=by
 unfold Qa2;have d:=Int.emod_lt_of_pos (if a<0 then-(a+1)else a) (show(0:Int)<n by omega);have e:=Int.emod_nonneg (if a<0 then-(a+1)else a) (show(n:Int)≠0 by omega);omega
theorem QO9{w:World}{b O P:Nat}{D:Dk}{G:Nat->Prop}(h:Qz w b O P D G)(k a:Int)(y:UInt8)(ha: -9223372036854775808<=a/\a<=9223372036854775807):
  Calls prog 46 #[.pointer (some (at0 b)),int i64 k,int i64 a, .int .u8 (y.toNat:Int)] w fun e w'=>∃G',e= .returned (int i64 (QC D k))/\Upd (QB8 b O P) w w'∧
   Qz w' b O P (Qf D k a y) G'/\Qe5 G G' w w':=by
 refine(F46_calls (some (at0 b)) k a (y.toNat:Int) w (fun v w'=>∃G',v=int i64 (QC D k)/\Upd (QB8 b O P) w w'∧
   Qz w' b O P (Qf D k a y) G'/\Qe5 G G' w w') ?_).mono (by rintro e w' ⟨v,rfl,G',rfl,h⟩;exact⟨G',rfl,h⟩)
 obtain⟨n1,n2,n3⟩:=h.ne;refine(QI3 h.row).mono ?_;rintro e w5 ⟨rfl,rfl⟩;refine⟨_,rfl,Q0 (fun A=> ?_) (fun A=> ?_)⟩
 ·simp only[Zg,Zb]at A
  have Q:QC D k=Qh D.dead D.sectors k:=by simp[QC,A]
  refine⟨G,by rw[Q],Upd.refl _ _,?_,fun x d=> .inl d⟩;rw[Qf,if_pos A];exact h
 simp only[Zf,Za]at A;refine(QXe h k).mono ?_;rintro e w8 ⟨hq,p,l,c,r,rfl,X⟩;refine⟨p,l,c,some r,rfl,?_⟩;have B:Ext w5 w8:=hq.ext;have q:=h.ext B;have main:∀(bs:τ)(M:SM),Qn G w8 (.slice p l c) bs->QY Qu9 (Qn G w8) w8 r M->Asc M->QC D k=0->(r=O\/r=P)→
   (∀w' G',(∀x,G x->G' x)->Upd (fun x=>x=r) w8 w'->(∀x,G' x->x<w'.heap.size)->Qe5 G G' w8 w'->QY Qu9 (Qn G' w') w' r (ins k (QF bs a y) M)->Asc (ins k (QF bs a y) M)→
    Qz w' b O P (Qf D k a y) G')→
   ∀E:Int,E=(if a<0 then-(a+1)else a)→
   Calls prog 77 #[.slice p l c] w8 fun a5 R=>(∃(T:σ)(f ad:Nat),a5= .returned (.slice T f ad)/\(((f:Nat):Int)≠0/\((0<=(E.tmod ((f:Nat):Int))/\(E.tmod ((f:Nat):Int))<((f:Nat):Int))∧
    (Qv0 T fun a6=>(∃(ae:Int),R.cell? (a6.add ((E.tmod ((f:Nat):Int)).toNat*1))=some (.int .u8 ae)/\((0<=(E.tmod ((f:Nat):Int))/\(E.tmod ((f:Nat):Int))<((f:Nat):Int))∧
    (Qv0 T fun af=>(QD R (af.add ((E.tmod ((f:Nat):Int)).toNat*1))/\(∀z:World,Qt R (af.add ((E.tmod ((f:Nat):Int)).toNat*1)) (Value.int .u8 (QO .xor .u8 ae (y.toNat:Int))) z→
    (∃m:World,Sem.run prog (Instr.mapUpdate 119 (.map (some r)) (int i64 k) (.slice T f ad)) z= .ok () m∧
     (∃G',int i64 0=int i64 (QC D k)/\Upd (QB8 b O P) w5 m/\Qz m b O P (Qf D k a y) G'/\Qe5 G G' w5 m))))))))))):=by
  intro bs M s hM o Q hr ah E hE;obtain⟨p0,l0,c0,he,hb,t,hn,hG⟩:=s;cases he;have hl:=hb.1;have bk:0<l:=by
   rw[hl];exact List.length_pos_iff.2 t
  have a8:0<=E:=by rw[hE];split<;>omega
  have a9:E.tmod (l:Int)=E % (l:Int):=Int.tmod_eq_emod_of_nonneg a8;have aj:(E % (l:Int)).toNat=Qa2 a bs.length:=by rw[hE,←hl];rfl
  have U:=QO6 a (n:=bs.length) (by omega)
  refine(QH2 hb (by omega) (fun e=>by
   obtain⟨a,ha,_⟩:=hb.lt t
   rw[e]at ha;cases ha)).mono ?_
  rintro e R ⟨p',c',rfl,ak,u,bm⟩;refine⟨p',l,c',rfl,by omega,?_⟩;rw[a9,Nat.mul_one,aj];have al:=Int.emod_nonneg E (show(l:Int)≠0 by omega);have am:=Int.emod_lt_of_pos E (show(0:Int)<l by omega);refine⟨⟨al,am⟩,?_⟩;have bb:(QE bs)[Qa2 a bs.length]? =some (.int .u8 ((bs.getD (Qa2 a bs.length) 0).toNat:Int)):=by
   simp[QE,Zc U,List.getD]
  obtain⟨aa,rfl,Y⟩:=u.cells _ _ bb;refine⟨_,Y,⟨al,am⟩,u.live (by rw[Qb];exact U),?_⟩;intro z ao;obtain⟨j,aq⟩:=u.set ao;rw[Qaj,QEc]at j;have bc:∃g,aa=at0 g/\w8.heap.size<=g:=by
   rcases u.where_ with⟨h,_⟩|⟨g,h,Z,_⟩
   ·cases h
   ·cases h;exact⟨g,rfl,Z⟩
  obtain⟨g,rfl,Z⟩:=bc;have C:Ext w8 z:=Upd.trans ak aq fun x d hs=>by
   have:x=g:=hs;omega
  let G':Nat->Prop:=fun x=>G x\/(w8.heap.size<=x/\x<z.heap.size)
  have ar:QF bs a y≠ []:=by
   intro i;have:=congrArg List.length i;simp[QF]at this;exact t this
  have au:Qn G' z (.slice (some (at0 g)) l c') (QF bs a y):=by
   have av:=Q1.of_cells j.cells;have aw:(bs.set (Qa2 a bs.length) (bs.getD (Qa2 a bs.length) 0^^^y)).length=l:=by rw[List.length_set];exact hl.symm
   rw[aw]at av;refine⟨_,l,c',rfl,av,ar,by omega,?_⟩;rintro a ⟨⟩;refine .inr ⟨Z,?_⟩;rcases j.where_ with⟨h,_⟩|⟨g',h,_,U,_⟩
   ·cases h
   ·cases h;exact U
  obtain⟨m,ax,W,H,ay⟩:=(((hM.upd C id).mono fun v x V=>(V.upd C fun _ _ h=>h).mono (G':=G') fun x d=> .inl d)).update Qch QDj k au;have I:Upd (fun x=>x=r) w8 m:=Upd.trans (C.upd (S:=fun x=>x=r)) W fun _ _ h=>h;have bn:r<w8.heap.size:=hM.lt;have be:∀x,G' x->¬(x=r):=by
   rintro x (d|d)
   ·have:=h.apart x d
    rcases hr with rfl|rfl
    ·exact this.2.1
    ·exact this.2.2
   ·omega
  refine⟨m,ax,G',by rw[Q],?_,?_,?_⟩
  ·refine Upd.trans (B.upd) (I.mono fun x _ d=> ?_) fun _ _ h=>h
   rcases hr with rfl|rfl
   ·exact Or.inr (Or.inl d)
   ·exact Or.inr (Or.inr d)
  ·refine ah m G' (fun x d=> .inl d) I ?_ ?_ ?_ (Qt5 o)
   ·rintro x (d|d)
    ·have:=q.bound x d;have:=I.size;omega
    ·rw[H];exact d.2
   ·rintro x (d|d)
    ·exact .inl d
    ·exact .inr (by rw[H];exact d)
   ·exact(ay.perm (Qs6 k _ M).symm).mono fun v x V=>V.upd W be
  ·rintro x (d|d)
   ·exact .inl d
   ·have:=B.size
    exact .inr (by rw[H];exact⟨by omega,d.2⟩)
 have J:a<0->i64.wrap (0-i64.wrap (a+1))= -(a+1):=fun i=>by
  rw[w64 (by omega: -9223372036854775808<=a+1/\a+1<=9223372036854775807),w64 (by omega)];omega
 have az:∀{v:Value}{bs:τ},Qn G w5 v bs->Qn G w8 v bs:=fun V=>V.upd B fun _ _ h=>h;rcases X with⟨bs,hg,s,rfl⟩|⟨bs,K,L,s,rfl⟩|⟨K,L,rfl,rfl,rfl⟩
 ·have Q:QC D k=0:=by simp[QC,A,hg]
  have hD:Qf D k a y={D with waits:=ins k (QF bs a y) D.waits}:=by simp[Qf,A,hg]
  have bf:l≠0:=by
   obtain⟨_,_,_,he,hb,t,_⟩:=s;cases he;have:=hb.1;have:=List.length_pos_iff.2 t;omega
  have fin:=main bs D.waits (az s) q.waits h.asc2 Q (.inr rfl) (by
   intro w' G' ab I ac N hm o;rw[hD];refine⟨I.rowW q.row n2,(q.lasts.upd I n3).mono fun v x V=>(V.mono ab).upd I ?_,hm,h.asc1,o,h.ne,?_,ac⟩
   ·intro x d
    rcases N x d with d|d
    ·exact(h.apart x d).2.2
    ·have:=q.waits.lt;omega
   ·intro x d
    rcases N x d with d|d
    ·exact h.apart x d
    ·have a1:=q.row.lt;have a2:=q.lasts.lt;have a3:=q.waits.lt
     exact⟨by omega,by omega,by omega⟩)
  refine Q0 (fun i=>by simp only[Za]at i;omega) (fun _=>Q0 (fun i=> ?_) (fun i=> ?_))
  ·simp only[Za]at i
   exact fin _ (by rw[J i,if_pos i])
  ·simp only[Zb]at i
   exact fin _ (by rw[if_neg i])
 ·have Q:QC D k=0:=by simp[QC,A,K,L]
  have hD:Qf D k a y={D with lasts:=ins k (QF bs a y) D.lasts}:=by simp[Qf,A,K,L]
  have bf:l≠0:=by
   obtain⟨_,_,_,he,hb,t,_⟩:=s;cases he;have:=hb.1;have:=List.length_pos_iff.2 t;omega
  have fin:=main bs D.lasts (az s) q.lasts h.asc1 Q (.inl rfl) (by
   intro w' G' ab I ac N hm o;rw[hD];refine⟨I.rowW q.row n1,hm,(q.waits.upd I (fun e=>n3 e.symm)).mono fun v x V=>(V.mono ab).upd I ?_,o,h.asc2,h.ne,?_,ac⟩
   ·intro x d
    rcases N x d with d|d
    ·exact(h.apart x d).2.1
    ·have:=q.lasts.lt;omega
   ·intro x d
    rcases N x d with d|d
    ·exact h.apart x d
    ·have a1:=q.row.lt;have a2:=q.lasts.lt;have a3:=q.waits.lt
     exact⟨by omega,by omega,by omega⟩)
  refine Q0 (fun i=>by simp only[Za]at i;omega) (fun _=>Q0 (fun i=> ?_) (fun i=> ?_))
  ·simp only[Za]at i
   exact fin _ (by rw[J i,if_pos i])
  ·simp only[Zb]at i
   exact fin _ (by rw[if_neg i])
 ·have Q:QC D k=1:=by simp[QC,A,K,L]
  refine Q0 (fun _=> ?_) (fun i=>by simp at i);refine⟨G,by rw[Q],B.upd,?_,fun x d=> .inl d⟩;have hD:Qf D k a y=D:=by simp[Qf,A,K,L]
  rw[hD];exact q
open Go Go.Vc
open Go.IntKind (i64)
open Go.Value (int)
open Go.Proofs.Tryz (prog)
structure Qp(F F':Nat->Prop)(w w':World):Prop where
 upd:Upd F w w'
 grow:∀x,F' x->F x\/w.heap.size<=x
theorem Qp.refl(F:Nat->Prop)(w:World):Qp F F w w:=⟨Upd.refl _ _,fun _ h=> .inl h⟩
theorem Qp.ext{F:Nat->Prop}{w w':World}(h:Ext w w'):Qp F F w w':=⟨h.upd,fun _ h=> .inl h⟩
theorem Qp.trans{F d F'':Nat->Prop}{w w' w'':World}(h:Qp F d w w')(e:Qp d F'' w' w''):Qp F F'' w w'':=by
 refine⟨Upd.trans h.upd e.upd fun x f g=> ?_,fun x f=> ?_⟩
 ·rcases h.grow x g with h|h
  ·exact h
  ·omega
 ·rcases e.grow x f with a|a
  ·exact h.grow x a
  ·exact .inr (Zu h.upd.size a)
theorem Qp.apart{F a:Nat->Prop}{w w':World}(h:Qp F a w w'){x:Nat}(g:x<w.heap.size)(e:¬F x):¬a x:=fun f=>by
 rcases h.grow x f with d|d
 ·exact e d
 ·omega
open Go Go.Vc
open Go.IntKind (i64)
open Go.Value (int)
open Go.Proofs.Tryz (prog)
theorem QBb{k:Int}{x:τ}{L:SM}{y:Int×τ}(h:y∈ins k x L):y=(k,x)\/y∈L:=by
 have:=(Qs6 k x L).mem_iff.1 h;rcases List.mem_cons.1 this with h|h
 ·exact .inl h
 ·exact .inr (List.mem_filter.1 h).1
theorem QIb{L W:SM}(a:Asc W){y:Int×τ}(h:y∈mrg L W):y∈W\/y∈L:=by
 have:=(QYc a.nodup).mem_iff.1 h;rcases List.mem_append.1 this with h|h
 ·exact .inl h
 ·exact .inr (List.mem_filter.1 h).1
theorem QAf{dead:Bool}{s k:Int}(h:Qh dead s k=0):dead=false/\0<=k/\k<s:=by
 unfold Qh at h;cases dead
 ·simp only[Bool.false_eq_true,if_false]at h
  split at h
  ·omega
  ·rename_i a
   exact⟨rfl,by omega,by omega⟩
 ·simp at h
theorem Qk3.new{n:Int}(h:1<=n/\n<=4096):Qk3 ⟨n,[],[],false⟩:=⟨h,fun x a=>(by cases a),fun x a=>(by cases a)⟩
theorem Qk3.write{D:Dk}(h:Qk3 D)(k:Int)(bs:τ):Qk3 (QT D k bs):=by
 unfold QT
 split
 ·rename_i a
  refine⟨h.sec,h.lasts,fun x d=> ?_⟩;rcases QBb d with rfl|d
  ·have:Qh D.dead D.sectors k=0:=by
    unfold Qs at a
    split at a
    ·exact a
    ·rename_i h;simpa using h
   exact(QAf this).2
  ·exact h.waits x d
 ·exact h
theorem Qk3.flush{D:Dk}(h:Qk3 D)(ha:Asc D.waits):Qk3 (QB1 D):=by
 unfold QB1
 split
 ·exact h
 ·refine⟨h.sec,fun x a=> ?_,fun x a=>by cases a⟩
  rcases QIb ha a with a|a
  ·exact h.waits x a
  ·exact h.lasts x a
theorem Qk3.crash{D:Dk}(h:Qk3 D)(ha:Asc D.waits)(ks:List Int):Qk3 (Qk2 D ks):=by
 refine⟨h.sec,fun x a=> ?_,fun x a=>by cases a⟩;rcases QIb (ha.filter _) a with a|a
 ·exact h.waits x (List.mem_filter.1 a).1
 ·exact h.lasts x a
theorem Qk3.empty{D:Dk}(h:Qk3 D)(dd:Bool):Qk3 {D with dead:=dd,lasts:=[],waits:=[]}:=⟨h.sec,fun x a=>(by cases a),fun x a=>(by cases a)⟩
theorem Qzb{k:Int}{bs:τ}:∀{L:SM},get k L=some bs->(k,bs)∈L
 | [],h=>by cases h
 |(d,x)::L,h=>by
  unfold Vc.get at h
  split at h
  ·rename_i a;subst a;cases h;exact List.mem_cons_self
  ·exact List.mem_cons_of_mem _ (Qzb h)
theorem Qk3.corrupt{D:Dk}(h:Qk3 D)(k a:Int)(y:UInt8):Qk3 (Qf D k a y):=by
 unfold Qf
 split
 ·exact h
 ·split
  ·rename_i bs e
   refine⟨h.sec,h.lasts,fun x d=> ?_⟩;rcases QBb d with rfl|d
   ·exact h.waits (k,bs) (Qzb e)
   ·exact h.waits x d
  ·split
   ·rename_i bs e
    refine⟨h.sec,fun x d=> ?_,h.waits⟩;rcases QBb d with rfl|d
    ·exact h.lasts (k,bs) (Qzb e)
    ·exact h.lasts x d
   ·exact h
structure Dsk(w:World)(b:Nat)(D:Dk)(F:Nat->Prop):Prop where
 is:∃m1 m2 G,Qz w b m1 m2 D G/\F=Q2k b m1 m2 G
 ok:Qk3 D
theorem Dsk.lt{w:World}{b:Nat}{D:Dk}{F:Nat->Prop}(h:Dsk w b D F):∀x,F x->x<w.heap.size:=by
 obtain⟨⟨d,e,G,a,rfl⟩,_⟩:=h;exact a.foot
theorem Dsk.asc{w:World}{b:Nat}{D:Dk}{F:Nat->Prop}(h:Dsk w b D F):Asc D.lasts/\Asc D.waits:=by
 obtain⟨⟨d,e,G,a,rfl⟩,_⟩:=h;exact⟨a.asc1,a.asc2⟩
theorem Dsk.upd{S:Nat->Prop}{w w':World}{b:Nat}{D:Dk}{F:Nat->Prop}(h:Dsk w b D F)(a:Upd S w w')(hS:∀x,S x->¬F x):Dsk w' b D F:=by
 obtain⟨⟨d,e,G,f,rfl⟩,g⟩:=h;exact⟨⟨d,e,G,f.upd a hS,rfl⟩,g⟩
theorem Dsk.ext{w w':World}{b:Nat}{D:Dk}{F:Nat->Prop}(h:Dsk w b D F)(a:Ext w w'):Dsk w' b D F:=h.upd a fun _ h=>h.elim
theorem Qdf{b a d:Nat}{G:Nat->Prop}(x:Nat)(h:QB8 b a d x):Q2k b a d G x:=by
 rcases h with h|h|h
 ·exact .inl h
 ·exact .inr (.inl h)
 ·exact .inr (.inr (.inl h))
theorem QZ1{b d e:Nat}{G G':Nat->Prop}{w w':World}(f:Upd (QB8 b d e) w w')(h:Qe5 G G' w w'):Qp (Q2k b d e G) (Q2k b d e G') w w':=by
 refine⟨f.mono fun x _ a=>Qdf x a,?_⟩;rintro x (a|a|a|a)
 ·exact .inl (.inl a)
 ·exact .inl (.inr (.inl a))
 ·exact .inl (.inr (.inr (.inl a)))
 ·rcases h x a with h|h
  ·exact .inl (.inr (.inr (.inr h)))
  ·exact .inr h.1
section
variable {w:World}{b:Nat}{D:Dk}{F:Nat->Prop}
theorem Qyl{n:Int}(h:1<=n/\n<=4096)(w:World):Calls prog 31 #[int i64 n] w fun e w'=>∃b F,e= .returned (.tuple #[.pointer (some (at0 b)),int i64 0])/\Ext w w'∧
  Dsk w' b ⟨n,[],[],false⟩ F/\∀x,F x->w.heap.size<=x:=by
 refine(Q3i h w).mono ?_;rintro e w' ⟨b,d,f,rfl,a,g,i,j,k⟩;refine⟨b,_,rfl,a,⟨⟨d,f,_,g,rfl⟩,Qk3.new h⟩,?_⟩;rintro x (rfl|rfl|rfl|a)
 ·exact i
 ·exact j
 ·exact k
 ·exact a.elim
theorem Qkk(h:Dsk w b D F):Calls prog 95 #[.pointer (some (at0 b))] w fun e w'=>e= .returned (.bool D.dead)/\w'=w:=by
 obtain⟨⟨d,f,G,a,rfl⟩,_⟩:=h;exact Qof a
theorem Qqj(h:Dsk w b D F):Calls prog 48 #[.pointer (some (at0 b))] w fun e w'=>∃p l c,e= .returned (.slice p l c)/\Ext w w'/\Dsk w' b D F/\QV0 w' w.heap.size p l c D.lasts:=by
 have d:=h;obtain⟨⟨j,k,G,f,rfl⟩,g⟩:=h;refine(QYd f g).mono ?_;rintro e w' ⟨p,l,c,rfl,a,i⟩;exact⟨p,l,c,rfl,a,d.ext a,i⟩
theorem Qrj(h:Dsk w b D F):Calls prog 47 #[.pointer (some (at0 b))] w fun e w'=>∃p l c,e= .returned (.slice p l c)/\Ext w w'/\Dsk w' b D F/\QV0 w' w.heap.size p l c D.waits:=by
 have d:=h;obtain⟨⟨j,k,G,f,rfl⟩,g⟩:=h;refine(Qwe f g).mono ?_;rintro e w' ⟨p,l,c,rfl,a,i⟩;exact⟨p,l,c,rfl,a,d.ext a,i⟩
theorem Qmk(h:Dsk w b D F)(k:Int):Calls prog 96 #[.pointer (some (at0 b)),int i64 k] w fun e w'=>Ext w w'/\Dsk w' b D F∧
  ∃p l c bs,e= .returned (.tuple #[.slice p l c,int i64 (Qh D.dead D.sectors k)])/\bs=(if Qh D.dead D.sectors k=0 then Qy0 D k else [])/\l=bs.length∧
   Q5 w' w.heap.size 5 1 p l c (QE bs)/\l<=4108:=by
 have d:=h;obtain⟨⟨i,j,G,f,rfl⟩,m⟩:=h;refine(QBg f k).mono ?_;rintro e w' ⟨a,g⟩;exact⟨a,d.ext a,g⟩
theorem Qsj(h:Dsk w b D F)(k:Int){p:σ}{l c:Nat}{bs:τ}(hb:Q1 w p l bs):
  Calls prog 108 #[.pointer (some (at0 b)),int i64 k, .slice p l c] w fun e w'=>∃d,e= .returned (int i64 (Qs D k bs.length))/\Qp F d w w'/\Dsk w' b (QT D k bs) d:=by
 obtain⟨⟨f,g,G,i,rfl⟩,j⟩:=h;refine(Qze i k hb).mono ?_;rintro e w' ⟨G',rfl,m,a,n⟩;exact⟨_,rfl,QZ1 (m.mono fun x _ o=> .inr (.inr o)) n,⟨f,g,G',a,rfl⟩,j.write k bs⟩
theorem Qpj(h:Dsk w b D F):Calls prog 128 #[.pointer (some (at0 b))] w fun e w'=>e= .returned (int i64 (if D.dead then 120 else 0))/\Qp F F w w'/\Dsk w' b (QB1 D) F:=by
 obtain⟨⟨g,i,G,d,rfl⟩,f⟩:=h;refine(QSd d f.sec.1).mono ?_;rintro e w' ⟨rfl,j,a⟩;exact⟨rfl,QZ1 j fun _ h=> .inl h,⟨g,i,G,a,rfl⟩,f.flush d.asc2⟩
theorem Qkf(h:Dsk w b D F){p:σ}{l c:Nat}{ks:List Int}(j:QV w p l ks)(k:l<=9223372036854775807)(m:∀a,p=some a->ks≠ []->¬F a.block):
  Calls prog 130 #[.pointer (some (at0 b)), .slice p l c] w fun e w'=>e= .returned (.tuple #[])/\Qp F F w w'/\Dsk w' b (Qk2 D ks) F:=by
 obtain⟨⟨n,o,G,i,rfl⟩,d⟩:=h;refine(QEd i j k fun a ha f e=>m a ha f (.inr (.inr (.inl e)))).mono ?_;rintro e w' ⟨rfl,q,g⟩;exact⟨rfl,QZ1 q fun _ h=> .inl h,⟨n,o,G,g,rfl⟩,d.crash i.asc2 ks⟩
theorem Qlk(h:Dsk w b D F):Calls prog 44 #[.pointer (some (at0 b))] w fun e w'=>e= .returned (.tuple #[])/\Qp F F w w'/\Dsk w' b {D with dead:=true,lasts:=[],waits:=[]} F:=by
 obtain⟨⟨d,f,G,g,rfl⟩,i⟩:=h;refine(Qyf g).mono ?_;rintro e w' ⟨rfl,j,a⟩;exact⟨rfl,QZ1 j fun _ h=> .inl h,⟨d,f,G,a,rfl⟩,i.empty true⟩
theorem Qlf(h:Dsk w b D F):Calls prog 45 #[.pointer (some (at0 b))] w fun e w'=>e= .returned (.tuple #[])/\Qp F F w w'/\Dsk w' b {D with dead:=false,lasts:=[],waits:=[]} F:=by
 obtain⟨⟨d,f,G,g,rfl⟩,i⟩:=h;refine(Qva g).mono ?_;rintro e w' ⟨rfl,j,a⟩;exact⟨rfl,QZ1 j fun _ h=> .inl h,⟨d,f,G,a,rfl⟩,i.empty false⟩
theorem Qjf(h:Dsk w b D F)(k a:Int)(y:UInt8)(ha: -9223372036854775808<=a/\a<=9223372036854775807):
  Calls prog 46 #[.pointer (some (at0 b)),int i64 k,int i64 a, .int .u8 (y.toNat:Int)] w fun e w'=>∃f,e= .returned (int i64 (QC D k))/\Qp F f w w'/\Dsk w' b (Qf D k a y) f:=by
 obtain⟨⟨g,i,G,j,rfl⟩,l⟩:=h;refine(QO9 j k a y ha).mono ?_;rintro e w' ⟨G',rfl,m,d,n⟩;exact⟨_,rfl,QZ1 m n,⟨g,i,G',d,rfl⟩,l.corrupt k a y⟩
end
open Go Go.Vc
open Go.IntKind (i64)
open Go.Value (int)
open Go.Proofs.Tryz (prog)
theorem Q1.one{w:World}{k:Nat}{b:UInt8}{fz:Nat×Nat}(h:w.heap[k]? =some (.cells #[.int .u8 (b.toNat:Int)] 5 fz)):Q1 w (some (at0 k)) 1 [b]:=by
 have:Qa w (some (at0 k)) (QE [b]):=by
  intro j u a;refine⟨_,rfl,?_⟩
  match j,a with
  |0,a=>cases a;simp[World.cell?,Addr.add,h]
 exact Q1.of_cells this
theorem QV0.step{F a:Nat->Prop}{w w':World}{base:Nat}{p:σ}{l c:Nat}{L:SM}(h:QV0 w base p l c L)(hs:Qp F a w w')(d:∀x,F x->x<base):QV0 w' base p l c L:=
 h.upd hs.upd fun y f _ e=>by have:=d y e;omega
end Go.Proofs.YtkolafpgbhpdlaaGreat
