import Derived.Test.YtkolafpgbhpdlaaGreatMH
set_option maxHeartbeats 8000000
namespace Go.Proofs.YtkolafpgbhpdlaaGreat
open Go Go.Vc Go.Gf
open Go.IntKind (i64)
open Go.Value (int)
open Go.Proofs.Tryz (prog)
def QZ0(k m:Int):Prop:=1<=k/\0<=m/\k<=256/\m<=256-k
instance (k m:Int):Decidable (QZ0 k m):=inferInstanceAs (Decidable (_/\_/\_/\_))
def kmE(k m:Int):Int:=if QZ0 k m then 0 else 50
theorem Q64{k m:Int}(h:QZ0 k m):kmE k m=0:=if_pos h
theorem Qq1{k m:Int}(h:¬QZ0 k m):kmE k m=50:=if_neg h
theorem Qk4(k m:Int)(w:World):Calls prog 41 #[int i64 k,int i64 m] w fun e w'=>e= .returned (int i64 (kmE k m))/\w'=w:=by
 refine(F41_calls k m w (fun v w'=>v=int i64 (kmE k m)/\w'=w) ?_).mono (by rintro e w' ⟨v,rfl,rfl,h⟩;exact⟨rfl,h⟩);refine Q0 (fun h=>⟨?_,rfl⟩) fun d=>Q0 (fun h=>⟨?_,rfl⟩) fun f=>Q0 (fun h=>⟨?_,rfl⟩) fun g=>Q0 (fun h=>⟨?_,rfl⟩) fun i=>⟨?_,rfl⟩
 ·simp only[Za]at h
  rw[Qq1 fun a=>by have:=a.1;omega]
 ·simp only[Za]at h
  rw[Qq1 fun a=>by have:=a.2.1;omega]
 ·simp only[Za]at h
  rw[Qq1 fun a=>by have:=a.2.2.1;omega]
 ·simp only[Zb]at d f g
  simp only[Za]at h;rw[w64 (by omega)]at h;rw[Qq1 fun a=>by have:=a.2.2.2;omega]
 ·simp only[Zb]at d f g i
  rw[w64 (by omega)]at i;rw[Q64 ⟨by omega,by omega,by omega,by omega⟩]
theorem Qwl{a b:Nat}(ha:a<4294967296)(hb:b<4294967296):QO .xor .i64 (a:Int) (b:Int)=((a^^^b:Nat):Int):=by
 show i64.wrap (((BitVec.ofInt 64 (a:Int))^^^(BitVec.ofInt 64 (b:Int))).toNat:Int)=_
 have e:∀x:Nat,x<4294967296->(BitVec.ofInt 64 (x:Int)).toNat=x:=fun x d=>by rw[BitVec.toNat_ofInt];omega
 have d:a^^^b<2^32:=Nat.xor_lt_two_pow ha hb;rw[BitVec.toNat_xor,e a ha,e b hb,w64 (by omega)]
theorem px{a b:Nat}(ha:a<4294967296)(hb:b<4294967296):IntKind.u8.wrap (QO .xor .i64 (a:Int) (b:Int))=((pt a^^^pt b).toNat:Int):=by
 rw[Qwl ha hb,Qp9 _ (by omega),Ze,QSk]
theorem Qoc{k m i qk qm qf:Nat}{f:σ}{w:World}(u:k+m<=256)(hi:i<256)(r:Qm w f)(s:Q7 w qk 3 #[int i64 (k:Int)])(y:Q7 w qm 3 #[int i64 (m:Int)])(z:Q7 w qf 33 #[.pointer f]):
  Calls prog 167 #[int i64 (i:Int), .pointer (some (at0 qk)), .pointer (some (at0 qm)), .pointer (some (at0 qf))] w fun e w'=>e= .returned (vb (wgt k m i))/\Ext w w':=by
 refine(F167_calls i (at0 qk) (at0 qm) (at0 qf) w (fun v w'=>v=vb (wgt k m i)/\Ext w w')
  (fun _ _ _ _ p x w1=>Ext w w1/\(k:Int)<=x/\x<=k+m/\p=((wp k (x.toNat-k) i).toNat:Int)) (fun _ _ _ _ _ x _=>(k+m-x).toNat) ?_).mono (by rintro e w' ⟨v,rfl,rfl,h⟩;exact⟨rfl,h⟩)
 refine⟨_,s.cell,⟨Upd.refl _ _,by omega,by omega,by rw[show((k:Int).toNat-k)=0 by omega];rfl⟩,?_⟩;rintro p x w1 ⟨d,E,F,rfl⟩
 intros
 have A:Q7 w1 qk 3 #[int i64 (k:Int)]:=d.keep s;have B:Q7 w1 qm 3 #[int i64 (m:Int)]:=d.keep y;have t:Q7 w1 qf 33 #[.pointer f]:=d.keep z;refine⟨_,A.cell,_,B.cell,?_⟩;rw[w64 (n:=(k:Int)+(m:Int)) (by omega),w64 (n:=x+1) (by omega)];have l:((x.toNat:Nat):Int)=x:=by omega
 have a:(x+1).toNat-k=(x.toNat-k)+1:=by omega
 have j:k+(x.toNat-k)=x.toNat:=by omega
 refine Q0 (fun hs=> ?_) (fun hs=> ?_)
 ·simp only[Za]at hs
  refine Q0 (fun o=> ?_) (fun o=> ?_)
  ·simp only[Zg,Zb]at o
   have q:x.toNat≠i:=by omega
   refine⟨_,t.cell,?_⟩;have C:IntKind.u8.wrap (QO .xor .i64 x (i:Int))=((pt x.toNat^^^pt i).toNat:Int):=by
    rw[←l,px (by omega) (by omega),Ze]
   rw[C];refine(QC1 (r.ext d) _ _).mono ?_;rintro e D ⟨rfl,g⟩;refine⟨_,rfl,⟨d.trans g,by omega,by omega,?_⟩,by show((k:Int)+m-(x+1)).toNat<((k:Int)+m-x).toNat;omega⟩;rw[a,wp,j,if_neg q]
  ·simp only[Zf,Za]at o
   refine⟨⟨d,by omega,by omega,?_⟩,by show((k:Int)+m-(x+1)).toNat<((k:Int)+m-x).toNat;omega⟩;rw[a,wp,j,if_pos (by omega)]
 ·simp only[Zb]at hs
  refine⟨_,t.cell,(QM4 (r.ext d) _).mono ?_⟩;rintro e D ⟨rfl,g⟩;refine⟨_,_,rfl,?_,d.trans g⟩;rw[show x.toNat-k=m by omega];rfl
theorem Q56{f:σ}{w:World}(R:Qm w f)(k m:Int):
  Calls prog 136 #[.pointer f,int i64 k,int i64 m] w fun e w'=>Ext w w'/\((¬QZ0 k m/\e= .returned (.tuple #[.slice none 0 0,int i64 50]))∨
   QZ0 k m/\∃p c W,e= .returned (.tuple #[.slice p (k+m).toNat c,int i64 0])/\Q2 w' w.heap.size p (k+m).toNat c W/\∀i,i<(k+m).toNat->co W i=wgt k.toNat m.toNat i):=by
 refine(F136_calls f k m w (fun v w'=>Ext w w'/\((¬QZ0 k m/\v= .tuple #[.slice none 0 0,int i64 50])∨
   QZ0 k m/\∃p c W,v= .tuple #[.slice p (k+m).toNat c,int i64 0]/\Q2 w' w.heap.size p (k+m).toNat c W/\∀i,i<(k+m).toNat->co W i=wgt k.toNat m.toNat i))
  (fun q _ _ _ o i d=>0<=i/\i<=(k+m)/\Ext w d/\Upd (fun x=>q=some (at0 x)) o d/\∃W,Q2 d w.heap.size q (k+m).toNat (k+m).toNat W/\∀j:Nat,(j:Int)<i->co W j=wgt k.toNat m.toNat j)
  (fun _ _ _ _ _ i _=>(k+m-i).toNat) ?_).mono (by
  rintro e w' ⟨v,rfl,l,⟨h,rfl⟩|⟨h,p,c,W,rfl,Z⟩⟩
  ·exact⟨l, .inl ⟨h,rfl⟩⟩
  ·exact⟨l, .inr ⟨h,p,c,W,rfl,Z⟩⟩)
 intro S w5 T U w7 K V t H;have M:Ext w t:=T.ext.trans (K.ext.trans H.ext);have rf:Q7 t S 33 #[.pointer f]:=(K.ext.trans H.ext).keep T.at;have rk:Q7 t U 3 #[int i64 k]:=H.ext.keep K.at;have rm:Q7 t V 3 #[int i64 m]:=H.at;refine⟨_,rf.cell,?_⟩;rw[R.there];refine Q0 (fun h=>by cases h) fun _=>⟨_,rk.cell,_,rm.cell,(Qk4 k m t).mono ?_⟩;rintro e aa ⟨rfl,rfl⟩;refine⟨_,rfl,Q0 (fun u=> ?_) (fun u=> ?_)⟩
 ·simp only[Zg,Zb]at u
  have I:¬QZ0 k m:=fun h=>u (Q64 h);refine⟨M, .inl ⟨I,?_⟩⟩;rw[Qq1 I]
 simp only[Zf,Za]at u;have I:QZ0 k m:=Decidable.byContradiction fun h=>by rw[Qq1 h]at u;omega
 obtain⟨a1,a2,a3,a4⟩:=I;refine⟨_,rk.cell,_,rm.cell,?_⟩;rw[w64 (n:=k+m) (by omega)];refine⟨⟨by omega,by omega,by omega⟩,fun r o a=> ?_⟩;have N:Q2 o w.heap.size (some (at0 r)) (k+m).toNat (k+m).toNat (List.replicate (k+m).toNat 0):=Q2.made a (by rw[a.size.1];exact M.size) (by unfold maxLen;omega);refine⟨⟨by omega,by omega,M.trans a.ext,Upd.refl _ _,_,N,fun j X=>by omega⟩,?_⟩;rintro i d ⟨ad,ae,l,J,W,oW,Y⟩
 intros
 have lW:=Q2.len oW;refine Q0 (fun hs=> ?_) (fun hs=> ?_)
 ·simp only[Za]at hs
  have z:Q7 d S 33 #[.pointer f]:=J.keep (a.ext.keep rf) fun h=>by
   simp only[Zi,at0,Zv,and_true]at h;have:=Qe rf;have:=a.size.1;omega
  have A:Q7 d U 3 #[int i64 k]:=J.keep (a.ext.keep rk) fun h=>by
   simp only[Zi,at0,Zv,and_true]at h;have:=Qe rk;have:=a.size.1;omega
  have B:Q7 d V 3 #[int i64 m]:=J.keep (a.ext.keep rm) fun h=>by
   simp only[Zi,at0,Zv,and_true]at h;have:=Qe rm;have:=a.size.1;omega
  have ek:((k.toNat:Nat):Int)=k:=by omega
  have em:((m.toNat:Nat):Int)=m:=by omega
  have ei:((i.toNat:Nat):Int)=i:=by omega
  have C:=Qoc (k:=k.toNat) (m:=m.toNat) (i:=i.toNat) (by omega) (by omega) (R.ext l) (by rw[ek];exact A) (by rw[em];exact B) z;rw[ei]at C;refine C.mono ?_;rintro e af ⟨rfl,g⟩;obtain⟨k',D,O,s,_,E⟩:=Q2.at (Q2.ext oW g) (i:=i.toNat) (by omega);simp only[Zi,at0,Zv,and_true]at D;subst D;rw[Nat.mul_one,w64 (n:=i+1) (by omega)];refine⟨_,rfl,⟨by omega,by omega⟩,s,fun ah F=> ?_⟩;obtain⟨P,G⟩:=E _ _ F
  refine⟨⟨by omega,by omega,Q2.new_ext (l.trans g) G (fun y hy=>by rw[show y=r from hy];exact O),Upd.trans J (Upd.trans g.upd (G.mono fun x _ l=>by rw[show x=r from l]) fun _ _ h=>h) fun _ _ h=>h,_,P,fun j X=> ?_⟩,
   by show(k+m-(i+1)).toNat<(k+m-i).toNat;omega⟩
  rw[Qi2 (by omega)]
  by_cases Q:j=i.toNat
  ·rw[if_pos Q,Q]
  ·rw[if_neg Q];exact Y j (by omega)
 ·simp only[Zb]at hs
  exact⟨l, .inr ⟨⟨a1,a2,a3,a4⟩,_,_,W,rfl,oW,fun j X=>Y j (by omega)⟩⟩
open Go Go.Vc Go.Gf
open Go.IntKind (i64)
open Go.Value (int)
open Go.Proofs.Tryz (prog)
theorem Q4j(n j:Nat):co (List.replicate n (0:UInt8)) j=0:=by
 simp only[Gf.co,Zj,List.getElem?_replicate]
 split<;>rfl
def Q4l(k m:Nat)(bs:τ)(l i:Nat):UInt8:=gm (gm (co bs i) (wgt k m i)) (pw (pt i) l)
theorem Q5l(k m:Nat)(bs:τ)(l:Nat):syn k m bs l=xs (k+m) (Q4l k m bs l):=rfl
theorem Qy8{f q:σ}{w:World}{n c:Nat}{bs:τ}(V:Qm w f)(h:Q1 w q n bs)(hn:n<=1073741824)(k m:Int):
  Calls prog 137 #[.pointer f,int i64 k,int i64 m, .slice q n c] w fun e w'=>Ext w w'/\((¬QZ0 k m/\e= .returned (.tuple #[.slice none 0 0,int i64 50]))∨
   (QZ0 k m/\(n:Int)≠k+m/\e= .returned (.tuple #[.slice none 0 0,int i64 60]))∨
   QZ0 k m/\(n:Int)=k+m/\∃p H S,e= .returned (.tuple #[.slice p m.toNat H,int i64 0])/\Q2 w' w.heap.size p m.toNat H S/\∀l,l<m.toNat->co S l=syn k.toNat m.toNat bs l):=by
 have X:=h.1
 refine(F137_calls f k m q n c w (fun v w'=>Ext w w'/\((¬QZ0 k m/\v= .tuple #[.slice none 0 0,int i64 50])∨
   (QZ0 k m/\(n:Int)≠k+m/\v= .tuple #[.slice none 0 0,int i64 60])∨
   QZ0 k m/\(n:Int)=k+m/\∃p H S,v= .tuple #[.slice p m.toNat H,int i64 0]/\Q2 w' w.heap.size p m.toNat H S/\∀l,l<m.toNat->co S l=syn k.toNat m.toNat bs l))
  (fun pw_ lw cw r _ _ _ _ i A=>0<=i/\i<=n/\Ext w A/\∃W S kr,r=some (at0 kr)/\Q2 A w.heap.size pw_ lw cw W/\Q96 pw_ kr/\Q2 A w.heap.size r m.toNat m.toNat S∧
   (∀j,j<(k+m).toNat->co W j=wgt k.toNat m.toNat j)/\∀l,l<m.toNat->co S l=xs i.toNat (Q4l k.toNat m.toNat bs l)) (fun _ _ _ _ _ _ _ _ i _=>(n-i).toNat)
  (fun pw_ lw cw r _ _ _ _ i _ _ x l B=>0<=l/\l<=m/\0<=i/\i<n/\Ext w B/\x=((Q4l k.toNat m.toNat bs l.toNat i.toNat).toNat:Int)/\∃W S kr,r=some (at0 kr)/\Q2 B w.heap.size pw_ lw cw W/\Q96 pw_ kr/\Q2 B w.heap.size r m.toNat m.toNat S∧
   (∀j,j<(k+m).toNat->co W j=wgt k.toNat m.toNat j)/\∀t,t<m.toNat->co S t=xs i.toNat (Q4l k.toNat m.toNat bs t)^^^(if(t:Int)<l then Q4l k.toNat m.toNat bs t i.toNat else 0)) (fun _ _ _ _ _ _ _ _ _ _ _ _ l _=>(m-l).toNat) ?_).mono (by
  rintro e w' ⟨v,rfl,M,⟨h,rfl⟩|⟨h,Y,rfl⟩|⟨h,Y,p,H,S,rfl,h3⟩⟩
  ·exact⟨M, .inl ⟨h,rfl⟩⟩
  ·exact⟨M, .inr (.inl ⟨h,Y,rfl⟩)⟩
  ·exact⟨M, .inr (.inr ⟨h,Y,p,H,S,rfl,h3⟩)⟩)
 refine(Q56 V k m).mono ?_;rintro e w5 ⟨C,⟨N,rfl⟩|⟨N,p7,c7,W,rfl,oW,hW⟩⟩
 ·exact⟨_,_,_,_,rfl,Q0 (fun _=>⟨C, .inl ⟨N,rfl⟩⟩) (fun h=>by simp at h)⟩
 obtain⟨a1,a2,a3,a4⟩:=N;have N:QZ0 k m:=⟨a1,a2,a3,a4⟩;refine⟨_,_,_,_,rfl,Q0 (fun h=>by simp at h) fun _=> ?_⟩;rw[w64 (n:=k+m) (by omega)];refine Q0 (fun P=> ?_) (fun P=> ?_)
 ·simp only[Zg,Zb]at P
  exact⟨C, .inr (.inl ⟨N,P,rfl⟩)⟩
 simp only[Zf,Za]at P;refine⟨⟨by omega,by omega,by omega⟩,fun O Z d=> ?_⟩;have aa:Q2 Z w.heap.size (some (at0 O)) m.toNat m.toNat (List.replicate m.toNat 0):=Q2.made d (by rw[d.size.1];exact C.size) (by unfold maxLen;omega);refine⟨⟨by omega,by omega,C.trans d.ext,W,_,O,rfl,Q2.ext oW d.ext,Q2.away2 oW (by rw[d.size.1];exact Nat.le_refl _),aa,hW,fun l X=>Q4j _ _⟩,?_⟩;rintro i A ⟨g,al,M,W1,S,kr,o,oW1,aW,oS,hW1,hS⟩;simp only[Zi,at0,Zv,and_true]at o;subst o
 intros
 have lW:=Q2.len oW1;refine Q0 (fun hs=> ?_) (fun hs=> ?_)
 ·simp only[Za]at hs
  intro am U;have s:=M.trans U.ext;obtain⟨a,rfl,ha⟩:=Q1.co (h.ext s) (i:=i.toNat) (by omega);obtain⟨b,rfl,hb⟩:=Q1.co (Q2.bytes (Q2.ext oW1 U.ext)) (i:=i.toNat) (by omega);refine⟨⟨g,hs⟩,_,by rw[Nat.mul_one];exact ha,⟨g,by omega⟩,_,by rw[Nat.mul_one];exact hb,?_⟩;refine(QC1 (V.ext s) _ _).mono ?_;rintro e ao ⟨rfl,u⟩;have I:=s.trans u;refine⟨_,rfl,⟨by omega,by omega,g,hs,I,?_,W1,S,O,rfl,Q2.ext (Q2.ext oW1 U.ext) u,aW,Q2.ext (Q2.ext oS U.ext) u,hW1,fun t ht=> ?_⟩,?_⟩
  ·rw[hW1 _ (by omega)]
   show _=((gm (gm (co bs i.toNat) (wgt k.toNat m.toNat i.toNat)) 1).toNat:Int)
   rw[Qi1]
  ·rw[hS t ht,if_neg (by omega),x0]
  rintro x l B ⟨aq,ar,_,_,E,rfl,W2,S2,kr,o,oW2,aW2,oS2,hW2,hS2⟩;simp only[Zi,at0,Zv,and_true]at o;subst o
  intros
  have lS:=Q2.len oS2;refine Q0 (fun ht=> ?_) (fun ht=> ?_)
  ·simp only[Za]at ht
   obtain⟨k',Q,ab,J,K,R⟩:=Q2.at oS2 (i:=l.toNat) (by omega);simp only[Zi,at0,Zv,and_true]at Q;subst Q;simp only[Nat.mul_one];refine⟨⟨by omega,by omega⟩,_,K,⟨by omega,by omega⟩,J,fun ac F=> ?_⟩;rw[bx8]at F;obtain⟨ad,T⟩:=R _ _ F;have G:Ext w ac:=Q2.new_ext E T fun y hy=>by rw[show y=O from hy];exact ab
   have e8:IntKind.u8.wrap i=((pt i.toNat).toNat:Int):=Qp9 i g;rw[e8];refine(QC1 (V.ext G) _ _).mono ?_;rintro e aw ⟨rfl,z⟩;rw[w64 (n:=l+1) (by omega)];refine⟨_,rfl,⟨by omega,by omega,g,hs,G.trans z,?_,W2,_,O,rfl,Q2.ext (Q2.setk oW2 T aW2) z,aW2,Q2.ext ad z,hW2,fun t D=> ?_⟩,by show(m-(l+1)).toNat<(m-l).toNat;omega⟩
   ·rw[show(l+1).toNat=l.toNat+1 by omega]
    show _=((gm (gm (co bs i.toNat) (wgt k.toNat m.toNat i.toNat)) (gm (pw (pt i.toNat) l.toNat) (pt i.toNat))).toNat:Int)
    rw[←QS];rfl
   ·rw[Qi2 (by omega)]
    by_cases h5:t=l.toNat
    ·subst h5
     rw[if_pos rfl,hS2 _ D,if_neg (by omega),if_pos (by omega),x0]
    ·rw[if_neg h5,hS2 t D]
     by_cases h6:(t:Int)<l
     ·rw[if_pos h6,if_pos (by omega)]
     ·rw[if_neg h6,if_neg (by omega)]
  ·simp only[Zb]at ht
   rw[w64 (n:=i+1) (by omega)];refine⟨⟨by omega,by omega,E,W2,S2,O,rfl,oW2,aW2,oS2,hW2,fun t D=> ?_⟩,by show((n:Int)-(i+1)).toNat<((n:Int)-i).toNat;omega⟩;rw[hS2 t D,if_pos (by omega),show(i+1).toNat=i.toNat+1 by omega];rfl
 ·simp only[Zb]at hs
  refine⟨M, .inr (.inr ⟨N,P,_,_,S,rfl,oS,fun l X=> ?_⟩)⟩;rw[hS l X,Q5l,show i.toNat=k.toNat+m.toNat by omega]
theorem Qeg(b:UInt8)(w:World):Calls prog 145 #[vb b] w fun e w'=>e= .returned (.bool (decide (b≠0)))/\w'=w:=by
 refine(F145_calls b.toNat w (fun v w'=>v= .bool (decide (b≠0))/\w'=w) ?_).mono (by rintro e w' ⟨v,rfl,rfl,h⟩;exact⟨rfl,h⟩);refine⟨?_,rfl⟩
 congr 1
 by_cases h:b=0
 ·subst h;rfl
 ·rw[decide_eq_true h,decide_eq_false (fun e=>h (Qz4.1 e))];rfl
theorem QVe{p:σ}{n c:Nat}{w:World}{bs:τ}(h:Q1 w p n bs)(s:n<=1073741824):
  Calls prog 144 #[.slice p n c, .func (.func 145) #[] #[]] w fun e w'=>(∃b,e= .returned (.bool b)/\(b=true↔∃i,i<n/\co bs i≠0))/\w'=w:=by
 have t:=h.1;refine(F144_145_calls p n c w (fun v w'=>(∃b,v= .bool b/\(b=true↔∃i,i<n/\co bs i≠0))/\w'=w) ?_).mono (by rintro e w' ⟨v,rfl,⟨b,rfl,h⟩,o⟩;exact⟨⟨b,rfl,h⟩,o⟩)
 refine(F176_145_calls p n c w (fun v w'=>(∃i:Int,v=int i64 i/\(0<=i↔∃i,i<n/\co bs i≠0))/\w'=w)
  (fun _ _ i f=>0<=i/\i<=n/\f=w/\∀j:Nat,(j:Int)<i->co bs j=0) (fun _ _ i _=>(n-i).toNat) ?_).mono ?_
 ·refine⟨⟨by omega,by omega,rfl,fun j l=>by omega⟩,?_⟩
  rintro i f ⟨d,q,rfl,m⟩
  intros
  refine Q0 (fun hs=> ?_) (fun hs=> ?_)
  ·simp only[Za]at hs
   obtain⟨a,rfl,ha⟩:=Q1.co h (i:=i.toNat) (by omega);refine⟨⟨d,hs⟩,_,by rw[Nat.mul_one];exact ha,(Qeg _ _).mono ?_⟩;rintro e u ⟨rfl,rfl⟩;refine⟨_,rfl,Q0 (fun hb=> ?_) (fun hb=> ?_)⟩
   ·simp only[Za]at hb
    exact⟨⟨i,rfl,fun _=>⟨i.toNat,by omega,hb⟩,fun _=>d⟩,rfl⟩
   ·simp only[Zb,Decidable.not_not]at hb
    rw[w64 (n:=i+1) (by omega)];refine⟨⟨by omega,by omega,rfl,fun j l=> ?_⟩,by show((n:Int)-(i+1)).toNat<((n:Int)-i).toNat;omega⟩
    by_cases r:(j:Int)<i
    ·exact m j r
    ·rw[show j=i.toNat by omega];exact hb
  ·simp only[Zb]at hs
   exact⟨⟨-1,rfl,fun h=>by omega,fun⟨j,l,g⟩=>(g (m j (by omega))).elim⟩,rfl⟩
 ·rintro e f ⟨v,rfl,⟨i,rfl,hi⟩,rfl⟩
  exact⟨_,rfl,⟨_,rfl,by rw[Za];exact hi⟩,rfl⟩
open Go Go.Vc Go.Gf
open Go.IntKind (i64)
open Go.Value (int)
open Go.Proofs.Tryz (prog)
def QX(w:World)(p:σ)(l:Nat)(ks:List Bool):Prop:=l=ks.length/\Qa w p (ks.map Value.bool)
theorem QX.ext{w w':World}{p:σ}{l:Nat}{ks:List Bool}(h:QX w p l ks)(a:Ext w w'):QX w' p l ks:=⟨h.1,h.2.ext a⟩
theorem QX.get{w:World}{p:σ}{l:Nat}{ks:List Bool}(h:QX w p l ks){i:Nat}(hi:i<l):∃a,p=some a/\w.cell? (a.add i)=some (.bool (ks.getD i false)):=by
 have d:i<ks.length:=by rw[←h.1];exact hi
 obtain⟨a,ha,e⟩:=h.2 i (.bool ks[i]) (by simp[d]);exact⟨a,ha,by rw[e];simp[Zj,d]⟩
def QI1(l:List Nat):List Value:=l.map fun(i:Nat)=>int i64 (i:Int)
theorem QG0(l:List Nat):(QI1 l).length=l.length:=by simp[QI1]
theorem Qvh:Qz1 prog 30 3 1 8:=⟨by kernel_rfl,⟨Tryz.t3,int i64 0,by kernel_rfl,by kernel_rfl,by kernel_rfl,by kernel_rfl,by kernel_rfl⟩,by omega⟩
abbrev QI(w:World)(base:Nat)(p:σ)(n c:Nat)(l:List Nat):Prop:=Q5 w base 3 1 p n c (QI1 l)
theorem QI.len{w:World}{base:Nat}{p:σ}{n c:Nat}{l:List Nat}(h:QI w base p n c l):n=l.length:=by have:=Q5.length h;rw[QG0]at this;omega
theorem Q5.blk{w:World}{base:Nat}{e:TypeId}{sz:Nat}{p:σ}{n c:Nat}{xs:List Value}(h:Q5 w base e sz p n c xs){x:Nat}(a:p=some (at0 x)):base<=x:=by
 subst a;rcases h.where_ with⟨h,_⟩|⟨g,h,hb,_⟩
 ·cases h
 ·simp only[Zi,at0,Zv,and_true]at h
  omega
theorem Q5.other{S:Nat->Prop}{w w':World}{base:Nat}{e:TypeId}{sz:Nat}{p:σ}{n c:Nat}{xs:List Value}(h:Q5 w base e sz p n c xs)(f:Upd S w w')
  (hS:∀x,S x->∃(cs:Array Value)(a:TypeId)(fz:Nat×Nat),w.heap[x]? =some (Obj.cells cs a fz)/\a≠e):Q5 w' base e sz p n c xs:=by
 refine Q5.upd h f fun g i hs=> ?_;obtain⟨cs,a,fz,j,l⟩:=hS g hs;obtain⟨cs',e'',fz',d,m⟩:=Q5.typed h i;rw[j]at d;cases d;exact l m
theorem QI.push{w w1:World}{base:Nat}{p:σ}{n c k:Nat}{l:List Nat}{b:Nat}(h:QI w base p n c l)(e:QG w k (.cells #[int i64 (b:Int)] 3) w1)(i:base<=w.heap.size)(A:n<=1073741824):
  ∃f g a,Sem.run prog (Builtin.append_ #[30,30] 30 #[.slice p n c, .slice (some (at0 k)) 1 1]) w1= .ok (.slice f (n+1) g) a/\QI a base f (n+1) g (l++ [b])∧
   Upd (fun x=>p=some (at0 x)) w a:=by
 have s:Q5 w1 base 3 1 p n c (QI1 l):=Q5.ext h e.ext;have t:Qa w1 (some (at0 k)) (QI1 [b]):=by
  intro j u v;refine⟨_,rfl,e.row.row.cell ?_⟩;simpa[QI1]using v
 obtain⟨f,g,a,y,r,o,_⟩:=s.append Qvh 30 (q:=some (at0 k)) (m:=1) (d:=1) (news:=QI1 [b]) rfl t (fun h=>by cases h) (fun u o=>by
  obtain⟨_,_,rfl⟩:=List.mem_map.1 o;rfl) (by unfold maxLen;omega) (by omega) (by rw[e.size.2];omega)
 refine⟨f,g,a,y,?_,Upd.trans e.ext.upd o fun x _ z=>z⟩;have:QI1 l++QI1 [b]=QI1 (l++ [b]):=by simp[QI1]
 rw[this]at r;exact r
theorem QA5{P:Program}{t e:TypeId}{sz bytes:Nat}(E:Qz1 P t e sz bytes)(ty:TypeId){w:World}{base:Nat}{p:σ}{n c:Nat}{xs:List Value}(h:Q5 w base e sz p n c xs)
  {a:Addr} {m d:Nat} {news:List Value} (x:news.length=m*sz) (I:Qa w (some a) news) (J:∀u∈news,u.oneCell'=true) (U:0<m) (A:n+m<=maxLen)
  (o:(n+m)*bytes<=140737488355328) {B:σ} {K M:Nat} {w':World} (s:(Builtin.append_ #[t,t] ty #[.slice p n c, .slice (some a) m d]).run P w= .ok (.slice B K M) w'):
  B=p\/B=some (at0 w.heap.size):=by
 obtain⟨i,z,hi,H,hs,hb,N⟩:=E.hi;subst hs;subst hb;have y:n+m<=9223372036854775807:=by simp only[maxLen]at A;omega
 have l:∀j u,news[j]? =some u->w.cell? (a.add j)=some u:=by
  intro j u C;obtain⟨O,ha,D⟩:=I j u C;cases ha;exact D
 rcases h.where_ with⟨rfl,rfl,rfl⟩|⟨g,rfl,Q,R,S,cur,T,F,G⟩
 ·have f:=run_append_nil (P:=P) w t ty e i z E.ht hi H a m d news x l (by omega) (by omega) (by have hb:=o;simp only[Nat.zero_add]at hb;omega)
  rw[s]at f;simp only[Result.ok.injEq,Value.slice.injEq]at f;exact .inr f.1.1
 ·by_cases q:n+m<=c
  ·have v:n*i.size+news.length<=cur.size:=by rw[x,F,←Nat.add_mul];exact Nat.mul_le_mul_right _ q
   have f:=run_append_room (P:=P) w t ty e i E.ht hi g n c cur T a m d news x l J q v;rw[show(some (at0 g):σ)=some ⟨g,0,none⟩from rfl]at s;rw[s]at f;simp only[Result.ok.injEq,Value.slice.injEq]at f;exact .inl f.1.1
  ·have r:∀j u,xs[j]? =some u->w.cell? ((⟨g,0,none⟩:Addr).add j)=some u:=by
    intro j u C;obtain⟨O,ha,D⟩:=h.cells j u C;cases ha;exact D
   have f:=run_append_grow (P:=P) w t ty e i z E.ht hi H ⟨g,0,none⟩ n c xs h.length r a m d news x l (by omega) (by omega) (growslice_fits (by omega) o);rw[show(some (at0 g):σ)=some ⟨g,0,none⟩from rfl]at s;rw[s]at f;simp only[Result.ok.injEq,Value.slice.injEq]at f;exact .inr f.1.1
theorem Q2.push2{w w1:World}{base:Nat}{p:σ}{n c k:Nat}{bs:τ}{b:UInt8}(h:Q2 w base p n c bs)(l:QG w k (.cells #[vb b] 5) w1)(f:base<=w.heap.size)(A:n<=1073741824):
  ∃g o i,Sem.run prog (Builtin.append_ #[25,25] 25 #[.slice p n c, .slice (some (at0 k)) 1 1]) w1= .ok (.slice g (n+1) o) i/\Q2 i base g (n+1) o (bs++ [b])∧
   Upd (fun x=>p=some (at0 x)) w i/\∀x,x<w.heap.size->Q96 p x->Q96 g x:=by
 obtain⟨g,o,i,q,r,s⟩:=Q2.push h l f (by omega);have t:Qa w1 (some (at0 k)) (QE [b]):=by
  intro j u v;refine⟨_,rfl,l.row.row.cell ?_⟩;simpa[QE]using v
 have y:=QA5 QJd 25 (Q5.ext h l.ext) (news:=QE [b]) (m:=1) (d:=1) rfl t (Qd1 _) (by omega) (by unfold maxLen;omega) (by omega) q;refine⟨g,o,i,q,r,s,fun x B ha=> ?_⟩;rcases y with rfl|rfl
 ·exact ha
 ·intro a e z
  cases e;have:w1.heap.size=x:=z;rw[l.size.2]at this;omega
def Qxe(w:World)(k m:Int)(l4 l5:Nat)(bs:τ)(ms:List Bool)(v:Value)(w':World):Prop:=Ext w w'∧
 ((¬QZ0 k m/\v= .tuple #[.slice none 0 0, .slice none 0 0,int i64 50])∨
  (QZ0 k m/\¬((l4:Int)=k+m/\(l5:Int)=k+m)/\v= .tuple #[.slice none 0 0, .slice none 0 0,int i64 60])∨
  QZ0 k m/\(l4:Int)=k+m/\(l5:Int)=k+m/\((Ql5 k.toNat m.toNat bs ms=none/\v= .tuple #[.slice none 0 0, .slice none 0 0,int i64 100])∨
  ∃c,Ql5 k.toNat m.toNat bs ms=some c/\∃p1 c1 p2 n2 c2,v= .tuple #[.slice p1 l4 c1, .slice p2 n2 c2,int i64 0]/\Q2 w' w.heap.size p1 l4 c1 c/\QI w' w.heap.size p2 n2 c2 (dif (k.toNat+m.toNat) ms c bs)))
def Qfk(w:World)(k m n:Nat)(bs:τ)(ms:List Bool)(p8:σ)(l8 c8:Nat)(p12:σ)(l12 c12:Nat)(p24:σ)(l24 c24:Nat)(i:Int)(w1:World):Prop:=
 0<=i/\i<=n/\∃w6,Ext w w6/\Ext w6 w1/\∃ko z kn W,p12=some (at0 ko)/\Q2 w1 w6.heap.size p12 l12 c12 z/\l12=n/\Q2 w1 w6.heap.size p24 l24 c24 kn/\Q96 p24 ko/\Q2 w6 w.heap.size p8 l8 c8 W/\l8=n∧
  (∀j,j<n->co W j=wgt k m j)/\(∀j:Nat,j<n->co z j=if(j:Int)<i/\ms.getD j false=true then 0 else co bs j)/\kn=(mis i.toNat ms).map pt
def Qgk(w:World)(k m n:Nat)(bs:τ)(ms:List Bool)(p8:σ)(l8 c8:Nat)(p12:σ)(l12 c12:Nat)(p61:σ)(l61 c61:Nat)(p65:σ)(l65 c65:Nat)(p68:σ)(l68 c68:Nat)
  (p85:σ) (l85 c85:Nat) (rt i:Int) (w1:World):Prop:=
 0<=i/\i<=n/\Ext w w1/\∃ko z W T g P b o full slope out,p12=some (at0 ko)/\Qa0 k m bs z ms T g P/\Gf.Found m (mis (k+m) ms).length (co P) b o/\Qo full/\co full=act b (co g)/\co slope=der (co full)∧
  Q2 w1 w.heap.size p12 l12 c12 out/\l12=n/\Q2 w1 w.heap.size p8 l8 c8 W/\l8=n/\Q96 p8 ko/\(∀j,j<n->co W j=wgt k m j)/\Q2 w1 w.heap.size p61 l61 c61 o/\Q96 p61 ko/\l61<=4096/\Q2 w1 w.heap.size p65 l65 c65 full/\Q96 p65 ko/\l65<=4096∧
  Q2 w1 w.heap.size p68 l68 c68 slope/\Q96 p68 ko/\l68<=4096/\(∀j:Nat,j<n->co out j=if(j:Int)<i then QCf k m z full o slope j else co z j)/\QI w1 w.heap.size p85 l85 c85 (wrg i.toNat ms full)/\rt=((zer i.toNat full).length:Int)
open Go Go.Vc Go.Gf
open Go.IntKind (i64)
open Go.Value (int)
open Go.Proofs.Tryz (prog)
theorem Qi(p:Nat->Bool)(i:Nat):(List.range (i+1)).filter p=(List.range i).filter p++(if p i=true then [i]else []):=by
 rw[List.range_succ,List.filter_append]
 congr 1
 by_cases h:p i=true
 ·rw[if_pos h,List.filter_cons_of_pos h];rfl
 ·rw[if_neg h,List.filter_cons_of_neg h];rfl
theorem QM3(i:Nat)(ms:List Bool):mis (i+1) ms=mis i ms++(if ms.getD i false=true then [i]else []):=Qi _ _
theorem Qq9(i:Nat)(ms:List Bool)(full:τ):wrg (i+1) ms full=wrg i ms full++(if(decide (ev full (pt i)=0)&& !ms.getD i false)=true then [i]else []):=Qi _ _
theorem Qgd(i:Nat)(full:τ):zer (i+1) full=zer i full++(if decide (ev full (pt i)=0)=true then [i]else []):=Qi _ _
theorem QXj:3≠5:=by decide
theorem Q2.at0_{w:World}{base:Nat}{p:σ}{n c:Nat}{bs:τ}(h:Q2 w base p n c bs)(e:0<n):∃k,p=some (at0 k)/\base<=k/\k<w.heap.size:=by
 rcases h.where_ with⟨_,f,_⟩|⟨g,a,hb,d,_⟩
 ·omega
 ·exact⟨g,a,hb,d⟩
theorem Q2.row{w:World}{base k:Nat}{n c:Nat}{bs:τ}(h:Q2 w base (some (at0 k)) n c bs):∃cs,Q7 w k 5 cs:=by
 rcases h.where_ with⟨a,_⟩|⟨g,a,_,_,_,cur,d,_⟩
 ·cases a
 ·simp only[Zi,at0,Zv,and_true]at a
  subst a;exact⟨cur,d⟩
theorem QYe(k:Nat):Q96 none k:=fun a h=>by cases h
theorem Q0h{f p4 p5:σ}{w:World}{l4 c4 s c5:Nat}{bs:τ}{ms:List Bool}(hf:Qm w f)(h4:Q1 w p4 l4 bs)(h5:QX w p5 s ms)(k m:Int):
  Calls prog 102 #[.pointer f,int i64 k,int i64 m, .slice p4 l4 c4, .slice p5 s c5] w fun e w'=>∃v,e= .returned v/\Qxe w k m l4 s bs ms v w':=by
 refine F102_calls f k m p4 l4 c4 p5 s c5 w (Qxe w k m l4 s bs ms)
  (fun p8 l8 c8 _ bm b8 bn _ _ _ _ _ dc de df i w1=>Qfk w k.toNat m.toNat s bs ms p8 l8 c8 bm b8 bn dc de df i w1) (fun _ _ _ _ _ _ _ _ _ _ _ _ _ _ _ i _=>(s-i).toNat)
  (fun p8 l8 c8 bm b8 bn em en eo dg b9 dh di dj dk _ _ ca cc cf rt i w1=>Qgk w k.toNat m.toNat s bs ms p8 l8 c8 bm b8 bn em en eo dg b9 dh di dj dk ca cc cf rt i w1)
  (fun _ _ _ _ _ _ _ _ _ _ _ _ _ _ _ _ _ _ _ _ _ i _=>(s-i).toNat) ?_
 have e4:=h4.1;have e5:=h5.1;refine(Q56 hf k m).mono ?_;rintro e w6 ⟨ai,⟨hk,rfl⟩|⟨hk,p8,c8,W,rfl,oW,hW⟩⟩
 ·exact⟨_,_,_,_,rfl,Q0 (fun _=>⟨ai, .inl ⟨hk,rfl⟩⟩) (fun h=>by simp at h)⟩
 obtain⟨a1,a2,a3,a4⟩:=hk;have hk:QZ0 k m:=⟨a1,a2,a3,a4⟩;refine⟨_,_,_,_,rfl,Q0 (fun h=>by simp at h) fun _=> ?_⟩;rw[w64 (n:=k+m) (by omega)];refine Q0 (fun hc=> ?_) (fun hc=> ?_)
 ·simp only[Zg,Zb]at hc
  exact⟨ai, .inr (.inl ⟨hk,fun h=>hc h.1,rfl⟩)⟩
 simp only[Zf,Za]at hc;refine Q0 (fun G=> ?_) (fun G=> ?_)
 ·simp only[Zg,Zb]at G
  exact⟨ai, .inr (.inl ⟨hk,fun h=>G h.2,rfl⟩)⟩
 simp only[Zf,Za]at G;have hn:(k+m).toNat=s:=by omega
 have T:k.toNat+m.toNat=s:=by omega
 rw[hn]at oW hW⊢;refine(Qf5 (h4.ext ai) (by omega)).mono ?_;rintro e ep ⟨bm,bn,rfl,bz,oz⟩;have ga:Ext w ep:=ai.trans bz;obtain⟨ko,rfl,dl,dm⟩:=Q2.at0_ oz (by omega);have aW:Q96 p8 ko:=Q2.away2 oW dl;refine⟨_,_,_,rfl,⟨by omega,by omega,w6,ai,bz,ko,bs,[],W,rfl,oz,by omega,Q5.nil _ _ _ _,QYe ko,oW,rfl,hW,(fun j hj=>by rw[if_neg (by omega)]),rfl⟩,?_⟩;clear oz dl dm aW;rintro dc de df i dn ⟨H,er,bp,ab,hx,ko',z,kn,W',K,oz,D,okn,akn,oW',_,cg,hz,rfl⟩;simp only[Zi,at0,Zv,and_true]at K;subst K
 intros
 have lkn:=Q2.len okn;have ch:=ab.trans hx;refine Q0 (fun hs=> ?_) (fun hs=> ?_)
 ·
  simp only[Za]at hs;obtain⟨a,rfl,ha⟩:=(h5.ext ch).get (i:=i.toNat) (by omega);rw[w64 (n:=i+1) (by omega)];have M:(i+1).toNat=i.toNat+1:=by omega
  have gb:(mis i.toNat ms).length<=i.toNat:=by
   unfold mis;exact Zu (List.length_filter_le _ _) (by simp)
  refine⟨⟨H,hs⟩,_,by rw[Nat.mul_one];exact ha,Q0 (fun hb=> ?_) (fun hb=> ?_)⟩
  ·obtain⟨k',av,ci,U,_,ax⟩:=Q2.at oz (i:=i.toNat) (by omega)
   simp only[Zi,at0,Zv,and_true]at av;subst av;rw[Nat.mul_one];refine⟨⟨H,by omega⟩,U,fun ck dq=> ?_⟩;obtain⟨ds,cn⟩:=ax 0 ck dq;have dt:Ext bp ck:=Q2.new_ext hx cn fun y hy=>by rw[show y=ko from hy];exact ci
   intro gd gf du;rw[Qp9 i H]at du;obtain⟨gg,gh,dw,hr,dx,dy,dz⟩:=Q2.push2 (Q2.setk okn cn akn) du dt.size (by simp at lkn;omega);have V:ko<ck.heap.size:=Zo (Q5.lt_heap oz) cn.size;have eu:Ext bp dw:=Q2.new_ext dt dy fun y hy=>Q2.blk okn hy;have ew:=Q2.len oz;refine⟨_,_,_,dw,hr,⟨by omega,by omega,bp,ab,eu,ko,_,_,W',rfl,Q5.upd ds dy (fun g hg he=> ?_),D,dx,dz ko V akn,oW',rfl,cg,fun j hj=> ?_,?_⟩,by show((s:Int)-(i+1)).toNat<((s:Int)-i).toNat;omega⟩
   ·simp only[Zi,at0,Zv,and_true]at hg
    subst hg;exact akn _ he rfl
   ·rw[Qi2 (by omega),hz j hj]
    by_cases h1:j=i.toNat
    ·rw[if_pos h1,h1,if_pos ⟨by omega,hb⟩]
    ·rw[if_neg h1]
     by_cases C:(j:Int)<i/\ms.getD j false=true
     ·rw[if_pos C,if_pos ⟨by omega,C.2⟩]
     ·rw[if_neg C,if_neg (fun h3=>C ⟨by omega,h3.2⟩)]
   ·rw[M,QM3,if_pos hb,Zp];rfl
  ·have hb:ms.getD i.toNat false=false:=hb
   refine⟨⟨by omega,by omega,bp,ab,hx,ko,z,_,W',rfl,oz,D,okn,akn,oW',rfl,cg,fun j hj=> ?_,?_⟩,by show((s:Int)-(i+1)).toNat<((s:Int)-i).toNat;omega⟩
   ·rw[hz j hj]
    by_cases h1:j=i.toNat
    ·subst h1
     rw[hb,if_neg (by simp),if_neg (by simp)]
    ·by_cases C:(j:Int)<i/\ms.getD j false=true
     ·rw[if_pos C,if_pos ⟨by omega,C.2⟩]
     ·rw[if_neg C,if_neg (fun h3=>C ⟨by omega,h3.2⟩)]
   ·rw[M,QM3,hb];simp
 ·simp only[Zb]at hs
  obtain rfl:i=(s:Int):=by omega
  rw[Ze]at okn lkn;have ew:=Q2.len oz;have gk:s=k.toNat+m.toNat:=T.symm;have ex:∀j,j<k.toNat+m.toNat->co z j=if ms.getD j false=true then 0 else co bs j:=fun j hj=>by
   rw[hz j (by omega)]
   by_cases C:ms.getD j false=true
   ·rw[if_pos ⟨by omega,C⟩,if_pos C]
   ·rw[if_neg (fun h3=>C h3.2),if_neg C]
  have fp:(mis s ms).length<=s:=by
   unfold mis;exact Zu (List.length_filter_le _ _) (by simp)
  have ey:((mis s ms).map pt).length=(mis s ms).length:=List.length_map ..;refine(Qy8 (hf.ext ch) (Q2.bytes oz) (by omega) k m).mono ?_;rintro e ez ⟨bq,⟨h,_⟩|⟨_,h,_⟩|⟨_,_,gn,e0,S,rfl,oS,hS⟩⟩
  ·exact(h hk).elim
  ·exact(h (by omega)).elim
  have ay:=ch.trans bq;refine⟨_,_,_,_,rfl,Q0 (fun X=> ?_) (fun X=> ?_)⟩
  ·simp only[Za]at X
   refine⟨ay, .inr (.inr ⟨hk,hc,G, .inl ⟨?_,rfl⟩⟩)⟩;refine QT5 ?_;rw[T];omega
  simp only[Zb]at X;have cq:=Q2.ext okn bq;refine(Qaa (hf.ext ay) (Q2.bytes cq) (by omega)).mono ?_;rintro e e1 ⟨gp,gq,gr,g,rfl,br,og,ng,eg⟩;have az:=ay.trans br;have lg:=Q2.len og;have b3:=Q53 ((mis s ms).map pt);have b4:=Qu5 ((mis s ms).map pt);rw[ey,←eg]at b3 b4;have d1:g.length=(mis s ms).length+1:=by
   have h1:=ng.le b3;have C:(mis s ms).length<g.length:=Qo.pos (by rw[b4];decide);omega
  have g0:g≠ []:=by rintro rfl;simp at d1
  have oS55:=Q2.ext oS br;refine⟨_,_,_,rfl,(Qse (cm:=e0) (hf.ext az) (Q2.bytes oS55) (Q2.bytes og) (Q2.le og) ng g0 (by omega) (by omega)).mono ?_⟩;rintro e d2 ⟨v,rfl,bt,b5⟩;have N:=az.trans bt;have e2:=Q2.len oS;have hT:∀i,co S.reverse i=if i<m.toNat then syn k.toNat m.toNat z (m.toNat-1-i)else 0:=fun i=>by
   by_cases hi:i<m.toNat
   ·rw[if_pos hi,←hS _ (by omega)]
    simp only[Gf.co,Zj];rw[List.getElem?_reverse (by omega),←e2]
   ·rw[if_neg hi,Qn1 (by rw[List.length_reverse];omega)]
  have d3:Qa0 k.toNat m.toNat bs z ms S.reverse g (Qg6 g S.reverse):=⟨by omega,ex,hT,by rw[T];exact eg,ng,by rw[QW0]⟩;rw[d1,Nat.add_sub_cancel]at b5;rcases b5 with⟨rfl,e3⟩|⟨pb,nb,cb,b,po,no,oc,o,rfl,ob,oo,gt,A⟩
  ·refine⟨_,_,_,_,_,_,_,rfl,Q0 (fun _=> ?_) (fun h=>by simp at h)⟩
   refine⟨N, .inr (.inr ⟨hk,hc,G, .inl ⟨?_,rfl⟩⟩)⟩;refine d3.none ?_;rw[T];exact e3
  refine⟨_,_,_,_,_,_,_,rfl,Q0 (fun h=>by simp at h) fun _=> ?_⟩;have lb:=Q2.len ob;have lo:=Q2.len oo;have fr:=A.few;have d4:=Q2.ext og bt;refine(QQ2 (hf.ext N) (Q2.bytes ob) (by omega) (Q2.bytes d4) (by omega)).mono ?_;rintro e e6 ⟨dg,b9,dh,full,rfl,a0,ofu,nfu,efu⟩;have lfu:=Q2.len ofu;have efu':co full=act b (co g):=by rw[efu,Qz9]
  have gu:full.length+1=b.length+g.length:=mul_len A.nb ng nfu A.b0 g0 efu';refine⟨_,_,_,rfl,(QPb (Q2.bytes ofu) (by omega)).mono ?_⟩;rintro e d5 ⟨di,dj,dk,slope,rfl,bu,osl,nsl,esl⟩;have lsl:=Q2.len osl
  have gv:slope.length<=4096:=nsl.le (n:=4096) (by
   rw[esl];intro i hi;unfold der
   split
   ·exact Qn1 (by omega)
   ·rfl)
  have V:ko<dn.heap.size:=Q5.lt_heap oz;have e7:ko<ez.heap.size:=Zo V bq.size;have d6:ko<e1.heap.size:=Zo e7 br.size;have d7:ko<d2.heap.size:=Zo d6 bt.size;have fa:ko<e6.heap.size:=Zo d7 a0.size;have ao:=Q2.away oo d6;have afu:=Q2.away ofu d7;have asl:=Q2.away osl fa;have d8:=N.trans (a0.trans bu);have xr:Ext dn d5:=bq.trans (br.trans (bt.trans (a0.trans bu)));have cr:Ext d2 d5:=a0.trans bu;have aW:Q96 p8 ko:=Q2.away2 oW' (Q2.blk oz rfl)
  refine⟨_,_,_,rfl,⟨by omega,by omega,d8,ko,z,W',S.reverse,g,Qg6 g S.reverse,b,o,full,slope,z,rfl,d3,by rw[T];exact A,nfu,efu',esl,Q2.base_le (Q2.ext oz xr) ab.size,D,Q2.ext oW' (hx.trans xr),rfl,aW,cg,
   Q2.base_le (Q2.ext oo cr) az.size,ao,by omega,Q2.base_le (Q2.ext ofu bu) N.size,afu,by omega,Q2.base_le osl (N.trans a0).size,asl,by omega,fun j hj=>by rw[if_neg (by omega)],Q5.nil _ _ _ _,rfl⟩,?_⟩
  rintro ca cc cf rt i bv ⟨H,er,E,ko',z1,W1,T1,g1,P1,b1,o1,d,q,out,K,F,al,am,aq,ar,oout,_,oW1,_,aW1,hW1,bw,a5,ct,O,P,a6,ad,Q,a7,ae,owr,rfl⟩;simp only[Zi,at0,Zv,and_true]at K;subst K
  intros
  have lout:=Q2.len oout;have lW1:=Q2.len oW1;refine Q0 (fun hs=> ?_) (fun hs=> ?_)
  ·simp only[Za]at hs
   have e8:IntKind.u8.wrap i=((pt i.toNat).toNat:Int):=Qp9 i H;rw[e8,w64 (n:=i+1) (by omega)];have M:(i+1).toNat=i.toNat+1:=by omega
   refine(Qy5 (hf.ext E) (Q2.bytes O) (by omega) _).mono ?_;rintro e fs ⟨rfl,u⟩;have cu:=E.trans u;have Y:((s:Int)-(i+1)).toNat<((s:Int)-i).toNat:=by omega
   refine⟨_,rfl,Q0 (fun I=> ?_) (fun I=> ?_)⟩
   ·simp only[Zg,Zb,Qz4]at I
    refine⟨⟨by omega,by omega,cu,ko,z1,W1,T1,g1,P1,b1,o1,d,q,out,rfl,F,al,am,aq,ar,Q2.ext oout u,D,Q2.ext oW1 u,rfl,aW1,hW1,Q2.ext bw u,a5,ct,Q2.ext O u,P,a6,Q2.ext ad u,Q,a7,fun j hj=> ?_,?_,?_⟩,Y⟩
    ·rw[ae j hj]
     by_cases h1:(j:Int)<i
     ·rw[if_pos h1,if_pos (by omega)]
     ·rw[if_neg h1]
      by_cases C:j=i.toNat
      ·rw[if_pos (by omega),QCf,if_neg (by rw[C];exact I)]
      ·rw[if_neg (by omega)]
    ·rw[M,Qq9,decide_eq_false I]
     simpa using Q5.ext owr u
    ·rw[M,Qgd,decide_eq_false I];simp
   ·simp only[Zf,Za,Qz4]at I
    intro d9 hd;have R:Ext bv d9:=u.trans hd.ext;have J:=E.trans R;obtain⟨aw,rfl,cw⟩:=Q1.co (Q2.bytes (Q2.ext oW1 R)) (i:=i.toNat) (by omega);rw[Nat.mul_one];refine⟨⟨H,by omega⟩,_,cw,(Qy5 (hf.ext J) (Q2.bytes (Q2.ext bw R)) (by omega) _).mono ?_⟩;rintro e ft ⟨rfl,B⟩;refine⟨_,rfl,⟨_,B.cell cw id,rfl⟩,(Qy5 (hf.ext (J.trans B)) (Q2.bytes (Q2.ext (Q2.ext ad R) B)) (by omega) _).mono ?_⟩;rintro e fu ⟨rfl,af⟩;refine⟨_,rfl,⟨_,af.cell (B.cell cw id) id,rfl⟩,(QC1 (hf.ext ((J.trans B).trans af)) _ _).mono ?_⟩;rintro e fv ⟨rfl,b6⟩;refine⟨_,rfl,(QX9 (hf.ext (((J.trans B).trans af).trans b6)) _ _).mono ?_⟩;rintro e ea ⟨rfl,eb⟩;have xx:Ext bv ea:=R.trans (B.trans (af.trans (b6.trans eb)));have xx':=E.trans xx;obtain⟨k',av,ci,U,cx,ax⟩:=Q2.at (Q2.ext oout xx) (i:=i.toNat) (by omega);simp only[Zi,at0,Zv,and_true]at av;subst av;refine⟨_,_,rfl,⟨H,by omega⟩,_,cx,⟨H,by omega⟩,U,fun a8 a9=> ?_⟩;rw[bx8]at a9;obtain⟨oout',ba⟩:=ax _ _ a9;obtain⟨csk,rowk⟩:=Q2.row (Q2.ext oout xx);have ah:Ext w a8:=Q2.new_ext xx' ba fun y hy=>by rw[show y=ko from hy];exact ci
    obtain⟨ap,rfl,fd⟩:=(h5.ext ah).get (i:=i.toNat) (by omega);have r:QI a8 w.heap.size ca cc cf (wrg i.toNat ms d):=Q5.other (Q5.ext owr xx) ba fun x hx=>⟨csk,_,(0,0),by rw[show x=ko from hx];exact rowk,fun h=>QXj h.symm⟩;have kp:∀{p:σ}{n c:Nat}{bs:τ},Q2 bv w.heap.size p n c bs->Q96 p ko->Q2 a8 w.heap.size p n c bs:=fun o ha=>Q2.setk (Q2.ext o xx) ba ha;have bc:∀j:Nat,j<s->co (out.set i.toNat (co out i.toNat^^^gm (ev o1 (pt i.toNat)) (gi (gm (ev q (pt i.toNat)) (co W1 i.toNat))))) j=if(j:Int)<i+1 then QCf k.toNat m.toNat z1 d o1 q j else co z1 j:=fun j hj=>by
     rw[Qi2 (by omega)]
     by_cases C:j=i.toNat
     ·subst C
      rw[if_pos rfl,if_pos (by omega),ae _ hj,if_neg (by omega),QCf,if_pos I,hW1 _ hj]
     ·rw[if_neg C,ae j hj]
      by_cases h1:(j:Int)<i
      ·rw[if_pos h1,if_pos (by omega)]
      ·rw[if_neg h1,if_neg (by omega)]
    have fe:i64.wrap (((zer i.toNat d).length:Int)+1)=((zer (i+1).toNat d).length:Int):=by
     have gy:(zer i.toNat d).length<=i.toNat:=by
      unfold zer;exact Zu (List.length_filter_le _ _) (by simp)
     rw[w64 (by omega),M,Qgd,decide_eq_true I];simp
    rw[fe];refine⟨⟨H,by omega⟩,_,fd,Q0 (fun cy=> ?_) (fun cy=> ?_)⟩
    ·have be:ms.getD i.toNat false=false:=by simpa using cy
     intro fw fx b7;have gz:(wrg i.toNat ms d).length<=i.toNat:=by
      unfold wrg;exact Zu (List.length_filter_le _ _) (by simp)
     have lwr:=QI.len r;rw[show i=((i.toNat:Nat):Int) by omega]at b7;obtain⟨fy,f0,bf,hr,cz,bg⟩:=QI.push r b7 ah.size (by omega);have ec:Ext w bf:=Q2.new_ext ah bg fun y hy=>Q5.blk r hy;have bx:∀{p:σ}{n c:Nat}{bs:τ},Q2 bv w.heap.size p n c bs->Q96 p ko->Q2 bf w.heap.size p n c bs:=fun o ha=>Q2.other (kp o ha) bg fun x hx=>by
      obtain⟨cs,e',fz,h7,h8⟩:=Q5.typed r hx;exact⟨cs,e',fz,h7,by rw[h8];exact QXj⟩
     have c0:=Q2.other oout' bg fun x hx=>by
      obtain⟨cs,e',fz,h7,h8⟩:=Q5.typed r hx;exact⟨cs,e',fz,h7,by rw[h8];exact QXj⟩
     refine⟨_,_,_,bf,hr,⟨by omega,by omega,ec,ko,z1,W1,T1,g1,P1,b1,o1,d,q,_,rfl,F,al,am,aq,ar,c0,D,bx oW1 aW1,rfl,aW1,hW1,bx bw a5,a5,ct,bx O P,P,a6,bx ad Q,Q,a7,bc,?_,rfl⟩,Y⟩;rw[M,Qq9,decide_eq_true I,be];exact cz
    ·have be:ms.getD i.toNat false=true:=by simpa using cy
     refine⟨⟨by omega,by omega,ah,ko,z1,W1,T1,g1,P1,b1,o1,d,q,_,rfl,F,al,am,aq,ar,oout',D,kp oW1 aW1,rfl,aW1,hW1,kp bw a5,a5,ct,kp O P,P,a6,kp ad Q,Q,a7,bc,?_,rfl⟩,Y⟩;rw[M,Qq9,be];simpa using r
  ·simp only[Zb]at hs
   obtain rfl:i=(s:Int):=by omega
   rw[Ze]at owr⊢;have Z:∀j,j<k.toNat+m.toNat->co out j=QCf k.toNat m.toNat z1 d o1 q j:=fun j hj=>by
    rw[ae j (by omega),if_pos (by omega)]
   have bh:out.length=k.toNat+m.toNat:=by omega
   have lfu:=Q2.len O;refine(Qy8 (hf.ext E) (Q2.bytes oout) (by omega) k m).mono ?_;rintro e f1 ⟨bi,⟨h,_⟩|⟨_,h,_⟩|⟨_,_,f2,f3,S2,rfl,oS2,hS2⟩⟩
   ·exact(h hk).elim
   ·exact(h (by omega)).elim
   have aa:=E.trans bi;have e9:i64.wrap (((b9:Nat):Int)-(1:Int))=(d.length:Int)-1:=by rw[w64 (by omega)];omega
   rw[e9];have ed:zer (k.toNat+m.toNat) d=zer s d:=by rw[T]
   refine⟨_,_,_,_,rfl,Q0 (fun hr=> ?_) (fun hr=> ?_)⟩
   ·simp only[Zg,Zb]at hr
    refine⟨aa, .inr (.inr ⟨hk,hc,G, .inl ⟨?_,rfl⟩⟩)⟩;refine F.many al am aq ar bh Z fun hh=>hr ?_;have:=hh.1;rw[ed]at this;omega
   simp only[Zf,Za]at hr;have fl:(zer (k.toNat+m.toNat) d).length+1=d.length:=by rw[ed];omega
   have lS2:=Q2.len oS2;refine(QVe (Q2.bytes oS2) (by omega)).mono ?_;rintro e f4 ⟨⟨bb,rfl,ee⟩,rfl⟩;refine⟨_,rfl,Q0 (fun bj=> ?_) (fun bj=> ?_)⟩
   ·obtain⟨t,ht,c6⟩:=ee.1 bj
    refine⟨aa, .inr (.inr ⟨hk,hc,G, .inl ⟨?_,rfl⟩⟩)⟩;refine F.many al am aq ar bh Z fun hh=>c6 ?_;rw[hS2 t ht];exact hh.2 t ht
   ·have ef:∀l,l<m.toNat->syn k.toNat m.toNat out l=0:=fun l hl=>by
     rw[←hS2 l hl];refine Decidable.byContradiction fun c6=> ?_;have:=ee.2 ⟨l,hl,c6⟩;rw[bj]at this;cases this
    obtain⟨h1,C⟩:=F.ok al am aq ar bh Z fl ef;refine⟨aa, .inr (.inr ⟨hk,hc,G, .inr ⟨out,h1,_,_,_,_,_,rfl,Q2.ext oout bi,?_⟩⟩)⟩;rw[←C,T];exact Q5.ext owr bi
open Go Go.Vc Go.Gf
open Go.IntKind (i64)
open Go.Value (int)
open Go.Proofs.Tryz (prog)
def QF2(k m:Int)(l3 l4:Nat)(hs:List Bool)(L:List (τ))(s:Nat):Prop:=
 (l3:Int)=k+m/\(l4:Int)=k+m/\(∃i,i<l3/\hs.getD i false=true)/\∀i,i<l3->hs.getD i false=true->(L.getD i []).length=s
theorem QOg{G H:σ}{g c3 C c4:Nat}{w:World}{hs:List Bool}{L:List (τ)}(O:QX w G g hs)(P:Qr w H C L){k m:Int}(Q:QZ0 k m):
  Calls prog 100 #[int i64 k,int i64 m, .slice G g c3, .slice H C c4] w fun e w'=>(∃r:Int,e= .returned (int i64 r)/\((r= -1/\∀s,¬QF2 k m g C hs L s)\/0<=r/\QF2 k m g C hs L r.toNat))/\w'=w:=by
 obtain⟨V,W,a3,a4⟩:=Q
 refine(F100_calls k m G g c3 H C c4 w (fun v w'=>(∃r:Int,v=int i64 r/\((r= -1/\∀s,¬QF2 k m g C hs L s)\/0<=r/\QF2 k m g C hs L r.toNat))/\w'=w)
  (fun _ _ _ _ _ n i w1=>0<=i/\i<=g/\w1=w/\((n= -1/\∀j:Nat,(j:Int)<i->hs.getD j false=false)\/(0<=n/\(∃j:Nat,(j:Int)<i/\hs.getD j false=true)/\∀j:Nat,(j:Int)<i->hs.getD j false=true->((L.getD j []).length:Int)=n)))
  (fun _ _ _ _ _ _ i _=>(g-i).toNat) ?_).mono (by rintro e w' ⟨v,rfl,⟨r,rfl,h⟩,R⟩;exact⟨⟨r,rfl,h⟩,R⟩)
 unfold F100;rw[w64 (n:=k+m) (by omega)];refine Q0 (fun h=> ?_) fun h=>Q0 (fun F=> ?_) fun F=> ?_
 ·simp only[Zg,Zb]at h
  exact⟨⟨-1,rfl, .inl ⟨rfl,fun s hs=>h hs.1⟩⟩,rfl⟩
 ·simp only[Zg,Zb]at F
  exact⟨⟨-1,rfl, .inl ⟨rfl,fun s hs=>F hs.2.1⟩⟩,rfl⟩
 simp only[Zf,Za]at h F;refine⟨⟨by omega,by omega,rfl, .inl ⟨rfl,fun j l=>by omega⟩⟩,?_⟩;rintro n i w1 ⟨D,S,rfl,x⟩
 intros
 refine Q0 (fun y=> ?_) (fun y=> ?_)
 ·simp only[Za]at y
  obtain⟨a,rfl,ha⟩:=O.get (i:=i.toNat) (by omega);obtain⟨b,q,ln,cn,rfl,o,T,U⟩:=P.2 i.toNat (by omega);have I:=T.1;have p:((g:Int)-(i+1)).toNat<((g:Int)-i).toNat:=by omega
  have J:i64.wrap (i+1)=i+1:=w64 (by omega);refine⟨⟨D,y⟩,_,by rw[Nat.mul_one];exact ha,?_⟩;unfold F100_A0;rw[J];have go:(∀j:Nat,(j:Int)<i->hs.getD j false=true->((L.getD j []).length:Int)=(ln:Int))->hs.getD i.toNat false=true→
    ((0<=i/\i<((C:Nat):Int))/\Qv0 (some b) fun a44=>∃(K:σ)(z M:Nat),w1.cell? (a44.add (i.toNat*1))=some (.slice K z M)∧
     ((0<=i+1/\i+1<=g/\w1=w1/\(((z:Int)= -1/\∀j:Nat,(j:Int)<i+1->hs.getD j false=false)\/(0<=(z:Int)/\(∃j:Nat,(j:Int)<i+1/\hs.getD j false=true)/\∀j:Nat,(j:Int)<i+1->hs.getD j false=true->((L.getD j []).length:Int)=z)))∧
      ((g:Int)-(i+1)).toNat<((g:Int)-i).toNat)):=by
   intro f hb;refine⟨⟨D,by omega⟩,q,ln,cn,by rw[Nat.mul_one];exact o,⟨by omega,by omega,rfl, .inr ⟨by omega,⟨i.toNat,by omega,hb⟩,fun j l d=> ?_⟩⟩,p⟩
   by_cases t:(j:Int)<i
   ·exact f j t d
   ·rw[show j=i.toNat by omega,←I]
  refine Q0 (fun hb=> ?_) (fun hb=> ?_)
  ·refine Q0 (fun E=> ?_) (fun E=> ?_)
   ·simp only[Za]at E
    rcases x with⟨x,_⟩|⟨_,N,f⟩
    ·omega
    ·refine⟨⟨D,by omega⟩,q,ln,cn,by rw[Nat.mul_one];exact o,Q0 (fun A=> ?_) (fun A=> ?_)⟩
     ·simp only[Zg,Zb]at A
      refine⟨⟨-1,rfl, .inl ⟨rfl,fun s B=> ?_⟩⟩,rfl⟩;obtain⟨j,l,d⟩:=N;have X:=B.2.2.2 j (by omega) d;have Y:=B.2.2.2 i.toNat (by omega) hb;have Z:=f j l d;omega
     ·simp only[Zf,Za]at A
      rw[hb];exact go (fun j l d=>by rw[f j l d,A]) hb
   ·simp only[Zb]at E
    rcases x with⟨_,u⟩|⟨x,_⟩
    ·rw[hb]
     exact go (fun j l d=>by rw[u j l]at d;cases d) hb
    ·omega
  ·have hb:hs.getD i.toNat false=false:=hb
   rw[hb];refine⟨⟨by omega,by omega,rfl,?_⟩,p⟩;rcases x with⟨rfl,u⟩|⟨x,⟨j,l,d⟩,f⟩
   ·refine .inl ⟨rfl,fun j l=> ?_⟩
    by_cases t:(j:Int)<i
    ·exact u j t
    ·rw[show j=i.toNat by omega];exact hb
   ·refine .inr ⟨x,⟨j,by omega,d⟩,fun j l d=> ?_⟩
    by_cases t:(j:Int)<i
    ·exact f j t d
    ·rw[show j=i.toNat by omega,hb]at d;cases d
 ·simp only[Zb]at y
  refine⟨⟨n,rfl,?_⟩,rfl⟩;rcases x with⟨rfl,u⟩|⟨x,⟨j,l,d⟩,f⟩
  ·refine .inl ⟨rfl,fun s B=> ?_⟩
   obtain⟨j,l,d⟩:=B.2.2.1;rw[u j (by omega)]at d;cases d
  ·exact .inr ⟨x,h,F,⟨j,by omega,d⟩,fun j l d=>by have:=f j (by omega) d;omega⟩
structure QK0(w:World)(base k n:Nat)(L:Nat->τ):Prop where
 row:∃cs,Q7 w k 25 cs/\cs.size=n
 le:base<=k
 own:∃P:Nat->σ×Nat×Nat,(∀i,i<n->w.cell? ((at0 k).add i)=some (.slice (P i).1 (P i).2.1 (P i).2.2)/\Q2 w base (P i).1 (P i).2.1 (P i).2.2 (L i))∧
  ∀i j,i<n->j<n->i≠j->∀g,(P i).1=some (at0 g)->(P j).1≠some (at0 g)
section
variable {w w':World}{base k n:Nat}{L:Nat->τ}
theorem QK0.ext(h:QK0 w base k n L)(a:Ext w w'):QK0 w' base k n L:=by
 obtain⟨cs,e,f⟩:=h.row;obtain⟨P,d,g⟩:=h.own;exact⟨⟨cs,a.keep e,f⟩,h.le,P,fun i hi=>⟨a.cell (d i hi).1 id,Q2.ext (d i hi).2 a⟩,g⟩
theorem QK0.base_le{b:Nat}(h:QK0 w base k n L)(hb:b<=base):QK0 w b k n L:=by
 obtain⟨P,a,d⟩:=h.own;exact⟨h.row,Zu hb h.le,P,fun i hi=>⟨(a i hi).1,Q2.base_le (a i hi).2 hb⟩,d⟩
theorem QK0.congr{L':Nat->τ}(h:QK0 w base k n L)(hL:∀i,i<n->L' i=L i):QK0 w base k n L':=by
 obtain⟨P,a,d⟩:=h.own;exact⟨h.row,h.le,P,fun i hi=>⟨(a i hi).1,by rw[hL i hi];exact(a i hi).2⟩,d⟩
theorem QK0.other{S:Nat->Prop}(h:QK0 w base k n L)(d:Upd S w w')(hS:∀x,S x->∃(cs:Array Value)(e:TypeId)(fz:Nat×Nat),w.heap[x]? =some (Obj.cells cs e fz)/\e≠5/\e≠25):QK0 w' base k n L:=by
 obtain⟨cs,f,m⟩:=h.row;obtain⟨P,j,o⟩:=h.own;have l:¬S k:=fun hs=>by
  obtain⟨cs',e,fz,a,_,g⟩:=hS k hs;unfold Q7 at f;rw[f]at a;cases a;exact g rfl
 refine⟨⟨cs,d.keep f l,m⟩,h.le,P,fun i hi=>⟨d.cell (j i hi).1 (by rw[Qx];exact l),Q2.other (j i hi).2 d fun x p=> ?_⟩,o⟩;obtain⟨cs',e,fz,a,g,_⟩:=hS x p;exact⟨cs',e,fz,a,g⟩
theorem QK0.lists(h:QK0 w base k n L):Qr w (some (at0 k)) n ((List.range n).map L):=by
 obtain⟨P,a,d⟩:=h.own;refine⟨by simp,fun i hi=>⟨_,_,_,_,rfl,(a i hi).1,?_,Q2.le (a i hi).2⟩⟩;have:((List.range n).map L).getD i []=L i:=by simp[Zj,hi]
 rw[this];exact Q2.bytes (a i hi).2
end
open Go Go.Vc Go.Gf
open Go.IntKind (i64)
open Go.Value (int)
open Go.Proofs.Tryz (prog)
structure Qek(w0 w:World)(k m:Int)(n:Nat)(f ph psh:σ)(lh ch lsh csh k6 k8 k10 k12 k14 k33 k36 k42 k31 k40:Nat)(Lf:Nat->τ)(wr:List Nat):Prop where
 ext:Ext w0 w
 n36:w0.heap.size<=k36
 n40:w0.heap.size<=k40
 r6:Q7 w k6 33 #[.pointer f]
 r8:Q7 w k8 3 #[int i64 k]
 r10:Q7 w k10 3 #[int i64 m]
 r12:Q7 w k12 116 #[.slice ph lh ch]
 r14:Q7 w k14 79 #[.slice psh lsh csh]
 r33:Q7 w k33 79 #[.slice (some (at0 k31)) n n]
 r42:Q7 w k42 116 #[.slice (some (at0 k40)) n n]
 ne:k12≠k42/\k14≠k33
 r36:∃p nw c b,w0.heap.size<=b/\b<=w.heap.size/\k8<b/\k10<b/\Q7 w k36 30 #[.slice p nw c]/\QI w b p nw c wr
 out:QK0 w w0.heap.size k31 n Lf
 mrow:∃cs,Q7 w k40 4 cs/\cs.size=n
def QH(n:Nat)(hs:List Bool)(L:List (τ))(i:Nat):τ:=(List.range n).map fun j=>if hs.getD j false=true then co (L.getD j []) i else 0
def Ql1(hs:List Bool):List Bool:=hs.map fun b=> !b
theorem Qu6{hs:List Bool}{i:Nat}(h:i<hs.length):(Ql1 hs).getD i false= !hs.getD i false:=by simp[Ql1,Zj,h]
theorem QN6{n:Nat}{hs:List Bool}{L:List (τ)}{i j:Nat}(a:j<n):co (QH n hs L i) j=if hs.getD j false=true then co (L.getD j []) i else 0:=by
 simp[Gf.co,QH,Zj,a]
theorem QT2(n:Nat)(hs:List Bool)(L:List (τ))(i:Nat):(QH n hs L i).length=n:=by simp[QH]
theorem Qg0:4≠5/\4≠25/\4≠33/\4≠3/\4≠116/\4≠79/\4≠30:=by decide
theorem QM:5≠25/\5≠33/\5≠3/\5≠116/\5≠79/\5≠30/\5≠4:=by decide
theorem Qd4:25≠33/\25≠3/\25≠116/\25≠79/\25≠30/\25≠4:=by decide
theorem QO1:3≠33/\3≠25/\3≠116/\3≠79/\3≠30/\3≠4:=by decide
theorem Qy2:30≠33/\30≠25/\30≠116/\30≠79/\30≠3/\30≠4/\30≠5:=by decide
theorem Q7.keep{w w':World}{k:Nat}{e:TypeId}{cs:Array Value}{S:Nat->Prop}(h:Q7 w k e cs)(f:Upd S w w')(hS:∀x,S x->∃(cs:Array Value)(a:TypeId)(fz:Nat×Nat),w.heap[x]? =some (Obj.cells cs a fz)/\a≠e):Q7 w' k e cs:=
 f.keep h fun hs=>by
  obtain⟨cs',a,fz,d,g⟩:=hS k hs;unfold Q7 at h;rw[h]at d;cases d;exact g rfl
theorem Qj{w:World}{k:Nat}{e:TypeId}{cs:Array Value}(h:Q7 w k e cs)(t:Nat):w.cell? ((at0 k).add t)=cs[t]? :=by
 rw[QJ];unfold Q7 at h;simp[World.cell?,h]
theorem Q3d{w:World}{b j:Nat}{e:TypeId}{sz:Nat}{p:σ}{n c:Nat}{us vs:List Value}(h:Q5 w b e sz p n c us)(f:Q5 w j e sz p n c vs):us=vs:=by
 refine List.ext_getElem (by rw[h.length,f.length]) fun i hi m=> ?_;obtain⟨a,ha,l⟩:=Q5.cells h i us[i] (by simp);obtain⟨o,d,g⟩:=Q5.cells f i vs[i] (by simp);rw[ha]at d;cases d;rw[l]at g;exact Option.some.inj g
theorem Qyh{xs ys:τ}(h:QE xs=QE ys):xs=ys:=by
 refine Q92 (by have:=congrArg List.length h;simpa[Qb]using this) fun i hi=> ?_;have d:xs.length=ys.length:=by have:=congrArg List.length h;simpa[Qb]using this
 have a:=congrArg (fun l=>l[i]?) h;simp only[QE,Zq,Zc hi,Zc (show i<ys.length by omega),Option.map_some,Zi,Value.int.injEq,true_and]at a;simp only[Gf.co,Zj,Zc hi,Zc (show i<ys.length by omega),Option.getD_some];exact QQa.1 a
theorem Qzh{xs ys:List Nat}(h:QI1 xs=QI1 ys):xs=ys:=by
 have a:xs.length=ys.length:=by have:=congrArg List.length h;simpa[QG0]using this
 refine List.ext_getElem a fun i hi d=> ?_;have e:=congrArg (fun l=>l[i]?) h;simp only[QI1,Zq,Zc hi,Zc d,Option.map_some,Zi,Value.int.injEq,true_and]at e;omega
def Qrl(w:World)(n:Nat)(hs:List Bool)(L:List (τ))(x k40:Nat)(q:σ)(i:Int)(w1:World):Prop:=
 0<=i/\i<=n/\Upd (fun y=>y=k40) w w1/\∃kw z,q=some (at0 kw)/\Q2 w1 w.heap.size q n n z/\(∀j:Nat,j<n->co z j=if(j:Int)<i/\hs.getD j false=true then co (L.getD j []) x else 0)∧
  ∃cs,Q7 w1 k40 4 cs/\cs.size=n/\∀j:Nat,(j:Int)<i->cs[j]? =some (.bool (!hs.getD j false))
def Qsl(w0 w30 w69:World)(n:Nat)(k8 k10 k33 k36 k31:Nat)(Lf:Nat->τ)(wr:List Nat)(p71:σ)(l71 c71:Nat)(c:τ)(p72:σ)(l72 c72:Nat)(d:List Nat)(i:Int)(w1:World):Prop:=
 0<=i/\i<=l71/\l71<=n/\Ext w0 w1/\Q7 w1 k33 79 #[.slice (some (at0 k31)) n n]/\(∃p nw cw b,w0.heap.size<=b/\b<=w1.heap.size/\k8<b/\k10<b/\Q7 w1 k36 30 #[.slice p nw cw]/\QI w1 b p nw cw wr)/\Q2 w1 w30.heap.size p71 l71 c71 c/\QI w1 w30.heap.size p72 l72 c72 d∧
  (∀(k':Nat)(e:TypeId)(cs:Array Value),e≠5->e≠25->Q7 w69 k' e cs->Q7 w1 k' e cs)∧
  w30.heap.size<=w1.heap.size/\(∃cs,Q7 w1 k31 25 cs/\cs.size=n)/\w0.heap.size<=k31/\∃P:Nat->σ×Nat×Nat,
   (∀t,t<n->w1.cell? ((at0 k31).add t)=some (.slice (P t).1 (P t).2.1 (P t).2.2)/\Q2 w1 w0.heap.size (P t).1 (P t).2.1 (P t).2.2 (if(t:Int)<i then Lf t++ [co c t]else Lf t))∧
   (∀s t,s<n->t<n->s≠t->∀g,(P s).1=some (at0 g)->(P t).1≠some (at0 g))/\∀t:Nat,i<=(t:Int)->t<n->∀g,(P t).1=some (at0 g)->g<w30.heap.size
theorem Qfe{w0 w:World}{k m:Int}{n:Nat}{f ph psh:σ}{lh ch lsh csh k6 k8 a8 bh a9 aj H bi I F:Nat}{Lf:Nat->τ}{wr:List Nat}{hs:List Bool}{L:List (τ)}{s x:Nat}
  (hf:Qm w0 f) (hh:QX w0 ph lh hs) (ed:Qr w0 psh lsh L) (hk:QZ0 k m) (hn:(n:Int)=k+m) (cw:QF2 k m lh lsh hs L s) (hx:x<s) (bs:s<=1048576) (eg:∀t,t<n->(Lf t).length<=x) (fh:wr.length<=256*x)
  (st:Qek w0 w k m n f ph psh lh ch lsh csh k6 k8 a8 bh a9 aj H bi I F Lf wr):
  Calls prog 101 #[int i64 (x:Int), .pointer (some (at0 k8)), .pointer (some (at0 a8)), .pointer (some (at0 bh)), .pointer (some (at0 bi)), .pointer (some (at0 a9)), .pointer (some (at0 k6)), .pointer (some (at0 aj)), .pointer (some (at0 H))] w fun e w'=>
   Ext w0 w'/\((Ql5 k.toNat m.toNat (QH n hs L x) (Ql1 hs)=none/\e= .returned (int i64 100))∨
    ∃c,Ql5 k.toNat m.toNat (QH n hs L x) (Ql1 hs)=some c/\e= .returned (int i64 0)∧
     Qek w0 w' k m n f ph psh lh ch lsh csh k6 k8 a8 bh a9 aj H bi I F (fun t=>Lf t++ [co c t]) (wr++dif (k.toNat+m.toNat) (Ql1 hs) c (QH n hs L x))):=by
 obtain⟨a1,a2,a3,a4⟩:=hk;have hk:QZ0 k m:=⟨a1,a2,a3,a4⟩;have fk:=hh.1;have fl:=cw.1;have fm:=cw.2.1;have fn:k.toNat+m.toNat=n:=by omega
 refine(F101_calls x (at0 k8) (at0 a8) (at0 bh) (at0 bi) (at0 a9) (at0 k6) (at0 aj) (at0 H) w (fun v w'=>Ext w0 w'/\((Ql5 k.toNat m.toNat (QH n hs L x) (Ql1 hs)=none/\v=int i64 100)∨
    ∃c,Ql5 k.toNat m.toNat (QH n hs L x) (Ql1 hs)=some c/\v=int i64 0∧
     Qek w0 w' k m n f ph psh lh ch lsh csh k6 k8 a8 bh a9 aj H bi I F (fun t=>Lf t++ [co c t]) (wr++dif (k.toNat+m.toNat) (Ql1 hs) c (QH n hs L x))))
  (fun _ _ _ _ _ _ _ q _ _ _ _ _ _ _ i w1=>Qrl w n hs L x F q i w1) (fun _ _ _ _ _ _ _ _ _ _ _ _ _ _ _ i _=>(n-i).toNat)
  (fun _ _ df dg dh _ di bv dj _ ba i w1=>∃B c d,Q2 ba B.heap.size di bv dj c/\QI ba B.heap.size df dg dh d/\Qsl w0 B ba n k8 a8 aj H I Lf wr di bv dj c df dg dh d i w1) (fun _ _ _ _ _ _ _ bv _ _ _ i _=>(bv-i).toNat) ?_).mono (by
  rintro e w' ⟨v,rfl,hx,⟨h,rfl⟩|⟨c,h,rfl,r⟩⟩
  ·exact⟨hx, .inl ⟨h,rfl⟩⟩
  ·exact⟨hx, .inr ⟨c,h,rfl,r⟩⟩)
 refine⟨_,st.r8.cell,_,st.r10.cell,?_⟩;rw[w64 (n:=k+m) (by omega)];have eh:(k+m).toNat=n:=by omega
 rw[eh];refine⟨⟨by omega,by omega,by omega⟩,fun Q ei bj=> ?_⟩;have ej:Q2 ei w.heap.size (some (at0 Q)) n n (List.replicate n 0):=Q2.made bj (by rw[bj.size.1];exact Nat.le_refl _) (by unfold maxLen;omega);obtain⟨csm,b8,dk⟩:=st.mrow;refine⟨_,_,_,Q7.cell (bj.ext.keep st.r12),⟨by omega,by omega,bj.ext.upd,Q,_,rfl,ej,fun j hj=>by rw[if_neg (by omega)];exact Q4j _ _,csm,bj.ext.keep b8,dk,fun j hj=>by omega⟩,?_⟩;rintro i B ⟨ac,ek,hu,kw,z,dl,oz,hz,cs,rm,cx,av⟩;simp only[Zi,at0,Zv,and_true]at dl;subst dl
 intros
 have bw:∀y,y=F->∃(cs:Array Value)(T:TypeId)(fz:Nat×Nat),w.heap[y]? =some (Obj.cells cs T fz)/\T=4:=fun y o=>⟨csm,_,(0,0),by rw[o];exact b8,rfl⟩;have kp:∀{O:Nat}{e:TypeId}{cs:Array Value},Q7 w O e cs->4≠e->Q7 B O e cs:=fun h he=>Q7.keep h hu fun y o=>by
  obtain⟨a,b,c,d,e⟩:=bw y o;exact⟨a,b,c,d,by rw[e];exact he⟩
 have bx:Ext w0 B:=Q2.new_ext st.ext hu fun y o=>by rw[o];exact st.n40
 have r42:=kp st.r42 Qg0.2.2.2.2.1;have r14:=kp st.r14 Qg0.2.2.2.2.2.1;refine Q0 (fun bz=> ?_) (fun bz=> ?_)
 ·
  simp only[Za]at bz;obtain⟨a,rfl,ha⟩:=(hh.ext bx).get (i:=i.toNat) (by omega);have lm:QD B ((at0 F).add i.toNat):=RowW.live ⟨_,rm⟩ (by omega);refine⟨⟨ac,bz⟩,_,by rw[Nat.mul_one];exact ha,_,_,_,r42.cell,⟨ac,by omega⟩,?_⟩;show QD B ((at0 F).add (i.toNat*1))/\_
  rw[Nat.mul_one];refine⟨lm,fun bb dm=> ?_⟩;have aw:Q7 bb F 4 (cs.setIfInBounds i.toNat (.bool (!hs.getD i.toNat false))):=by
   have b9:=dm;rw[QJ]at b9;exact b9.at rm rfl
  have b0:Upd (fun y=>y=F) B bb:=by
   have:=dm.upd;rw[Qx]at this;exact this
  have ca:∀y,y=F->∃(cs:Array Value)(T:TypeId)(fz:Nat×Nat),B.heap[y]? =some (Obj.cells cs T fz)/\T=4:=fun y o=>⟨cs,_,(0,0),by rw[o];exact rm,rfl⟩;have bk:Q2 bb w.heap.size (some (at0 Q)) n n z:=Q2.other oz b0 fun y o=>by
   obtain⟨a,b,c,d,e⟩:=ca y o;exact⟨a,b,c,d,by rw[e];exact Qg0.1⟩
  have dn:Q7 bb a9 79 #[.slice psh lsh csh]:=Q7.keep r14 b0 fun y o=>by
   obtain⟨a,b,c,d,e⟩:=ca y o;exact⟨a,b,c,d,by rw[e];exact Qg0.2.2.2.2.2.1⟩
  have em:Ext w0 bb:=Q2.new_ext bx b0 fun y o=>by rw[o];exact st.n40
  have cb:Upd (fun y=>y=F) w bb:=Upd.trans hu b0 fun _ _ h=>h;have al:((n:Int)-(i+1)).toNat<((n:Int)-i).toNat:=by omega
  have ad:∀j:Nat,(j:Int)<i+1->(cs.setIfInBounds i.toNat (.bool (!hs.getD i.toNat false)))[j]? =some (.bool (!hs.getD j false)):=fun j hj=>by
   rw[Array.getElem?_setIfInBounds]
   by_cases A:j=i.toNat
   ·subst A
    rw[if_pos rfl,if_pos (by omega)]
   ·rw[if_neg (fun e=>A e.symm)]
    exact av j (by omega)
  unfold F101_A0;rw[w64 (n:=i+1) (by omega)];refine Q0 (fun hb=> ?_) (fun hb=> ?_)
  ·obtain⟨b,q,ln,cn,rfl,cy,hq,fo⟩:=(ed.ext em).2 i.toNat (by omega)
   have fp:=hq.1;have e5:=cw.2.2.2 i.toNat (by omega) hb;obtain⟨a2,rfl,am⟩:=Q1.co hq (i:=x) (by omega);obtain⟨O,dq,fq,cz,_,ds⟩:=Q2.at bk (i:=i.toNat) (by omega);simp only[Zi,at0,Zv,and_true]at dq;subst dq;simp only[Nat.mul_one];refine⟨_,_,_,dn.cell,⟨ac,by omega⟩,_,_,_,cy,⟨by omega,by omega⟩,_,by rw[Ze];exact am,⟨ac,by omega⟩,cz,fun e6 dt=> ?_⟩;obtain⟨du,u64⟩:=ds _ _ dt;have c0:F≠Q:=fun e=>by
    obtain⟨csz,b1⟩:=Q2.row bk;rw[←e]at b1;unfold Q7 at aw b1;rw[aw]at b1;cases b1
   have fr:=Q2.len oz;refine⟨⟨by omega,by omega,?_,Q,_,rfl,du,fun j hj=> ?_,_,u64.keep aw c0,by simp[cx],ad⟩,al⟩
   ·exact Upd.trans cb u64 fun y o he=>by
     have:y=Q:=he;omega
   ·rw[Qi2 (by omega),hz j hj]
    by_cases A:j=i.toNat
    ·subst A
     rw[if_pos rfl,if_pos ⟨by omega,hb⟩]
    ·rw[if_neg A]
     by_cases r:(j:Int)<i/\hs.getD j false=true
     ·rw[if_pos r,if_pos ⟨by omega,r.2⟩]
     ·rw[if_neg r,if_neg (fun h3=>r ⟨by omega,h3.2⟩)]
  ·have hb:hs.getD i.toNat false=false:=hb
   refine⟨⟨by omega,by omega,cb,Q,z,rfl,bk,fun j hj=> ?_,_,aw,by simp[cx],ad⟩,al⟩;rw[hz j hj]
   by_cases A:j=i.toNat
   ·subst A
    rw[hb,if_neg (by simp),if_neg (by simp)]
   ·by_cases r:(j:Int)<i/\hs.getD j false=true
    ·rw[if_pos r,if_pos ⟨by omega,r.2⟩]
    ·rw[if_neg r,if_neg (fun h3=>r ⟨by omega,h3.2⟩)]
 ·simp only[Zb]at bz
  obtain rfl:i=(n:Int):=by omega
  have en:z=QH n hs L x:=by
   refine Q92 (by rw[QT2];exact(Q2.len oz).symm) fun j hj=> ?_;have bm:j<n:=by rw[Q2.len oz];exact hj
   rw[hz j bm,QN6 bm]
   by_cases r:hs.getD j false=true
   ·rw[if_pos ⟨by omega,r⟩,if_pos r]
   ·rw[if_neg (fun h3=>r h3.2),if_neg r]
  subst en;have eo:QX B (some (at0 F)) n (Ql1 hs):=by
   refine⟨by rw[Ql1,List.length_map];omega,fun j u hj=>⟨_,rfl,Row.cell ⟨_,_,rm⟩ ?_⟩⟩;have bm:j<hs.length:=by
    have:=(Zd.1 hj).1;simpa[Ql1]using this
   have r:=av j (by omega);rw[r];simp only[Ql1,List.map_map,Zq,Zc bm]at hj;simp only[Zj,Zc bm,Option.getD_some];simpa using hj
  have r6:=kp st.r6 Qg0.2.2.1;have r8:=kp st.r8 Qg0.2.2.2.1;have r10:=kp st.r10 Qg0.2.2.2.1;have r12:=kp st.r12 Qg0.2.2.2.2.1;have r33:=kp st.r33 Qg0.2.2.2.2.2.1;obtain⟨ep,n36,er,b3,dw,b4,dx,cg,dy,dz⟩:=st.r36;have r36:=kp dy Qg0.2.2.2.2.2.2;have bt:∀{e:TypeId},4≠e->∀y,y=F->∃(cs:Array Value)(T:TypeId)(fz:Nat×Nat),w.heap[y]? =some (Obj.cells cs T fz)/\T≠e:=fun he y o=>by
   obtain⟨a,b,c,d,e⟩:=bw y o;exact⟨a,b,c,d,by rw[e];exact he⟩
  have b4:b3<=B.heap.size:=Zu b4 hu.size;have ci:QI B b3 ep n36 er wr:=Q5.other dz hu (bt Qg0.2.2.2.1);have J:QK0 B w0.heap.size I n Lf:=QK0.other st.out hu fun y o=>by
   obtain⟨a,b,c,d,e⟩:=bw y o;exact⟨a,b,c,d,by rw[e];exact Qg0.1,by rw[e];exact Qg0.2.1⟩
  refine⟨_,r6.cell,_,r8.cell,_,r10.cell,_,_,_,r42.cell,?_⟩;refine(Q0h (c4:=n) (c5:=n) (hf.ext bx) (Q2.bytes oz) eo k m).mono ?_;rintro e ba ⟨v,rfl,C,⟨h,_⟩|⟨_,h,_⟩|⟨_,_,_,hv⟩⟩
  ·exact(h hk).elim
  ·exact(h ⟨hn,hn⟩).elim
  have ck:Ext w0 ba:=bx.trans C;rcases hv with⟨hd,rfl⟩|⟨c,hd,p1,c1,p2,n2,c2,rfl,oc,od⟩
  ·
   refine⟨_,_,_,_,_,_,_,rfl,?_,?_⟩
   ·obtain⟨csr,G,K⟩:=(J.ext C).row
    obtain⟨P,hP1,hP2⟩:=(J.ext C).own;refine⟨ba,[],[],Q5.nil _ _ _ _,Q5.nil _ _ _ _,by omega,by omega,by omega,ck,C.keep r33,⟨_,_,_,b3,dw,Zu b4 C.size,dx,cg,C.keep r36,Q5.ext ci C⟩,Q5.nil _ _ _ _,Q5.nil _ _ _ _,fun _ _ _ _ _ h=>h,Nat.le_refl _,⟨csr,G,K⟩,J.le,P,fun t ht=> ?_,hP2,fun t _ ht g U=> ?_⟩
    ·rw[if_neg (by omega)]
     exact hP1 t ht
    ·have:=(hP1 t ht).2
     rw[U]at this;exact Q5.lt_heap this
   ·rintro j c6 ⟨cm,c',d',_,_,fv,fw,_,bc,bn,⟨pp,nn,cc,b',ae,af,ay,aa,M,D⟩,_,od',_⟩
    intros
    refine Q0 (fun h=>by simp only[Za]at h;omega) fun _=> ?_;have et:=QI.len D;obtain⟨p',c'',V,hr,d1,ab,_⟩:=Q5.append Qvh 30 D (q:=none) (m:=0) (d:=0) (news:=[]) rfl (Qa.nil _ _) (fun _=>rfl) (fun u hu=>by simp at hu) (by unfold maxLen;omega) (by omega) af;refine⟨_,_,_,M.cell,_,_,_,V,hr,?_⟩;have E:Q7 V H 30 #[.slice pp nn cc]:=Q7.keep M ab fun y o=>by
     obtain⟨cs,T,fz,h7,h8⟩:=Q5.typed D o;exact⟨cs,T,fz,h7,by rw[h8];exact QO1.2.2.2.2.1⟩
    refine⟨E.live,fun R az=>⟨?_, .inl ⟨hd,rfl⟩⟩⟩;exact Q2.new_ext (Q2.new_ext bc ab fun y o=>Zu ae (Q5.blk D o)) (QR0 az) fun y o=>by rw[show y=H from o];exact st.n36
  ·
   have lc:=Q2.len oc;refine⟨_,_,_,_,_,_,_,rfl,?_,?_⟩
   ·obtain⟨csr,G,K⟩:=(J.ext C).row
    obtain⟨P,hP1,hP2⟩:=J.own;refine⟨B,c,_,oc,od,by omega,by omega,Nat.le_refl _,ck,C.keep r33,⟨_,_,_,b3,dw,Zu b4 C.size,dx,cg,C.keep r36,Q5.ext ci C⟩,oc,od,fun _ _ _ _ _ h=>h,C.size,⟨csr,G,K⟩,J.le,P,fun t ht=> ?_,hP2,fun t _ ht g U=> ?_⟩
    ·rw[if_neg (by omega)]
     exact⟨C.cell (hP1 t ht).1 id,Q2.ext (hP1 t ht).2 C⟩
    ·have:=(hP1 t ht).2
     rw[U]at this;exact Q5.lt_heap this
   ·rintro i c6 ⟨cm,c',d',oc',od',ac,ek,_,bc,bn,⟨pp,nn,cc,b',ae,af,ay,aa,M,D⟩,ocw,odw,aq,e8,⟨csr,G,K⟩,bo,P,hP1,hP2,hP3⟩
    obtain rfl:c'=c:=Qyh (Q3d oc' oc);obtain rfl:=Qzh (Q3d od' od)
    intros
    have al:((n:Int)-(i+1)).toNat<((n:Int)-i).toNat\/¬i<n:=by omega
    refine Q0 (fun b5=> ?_) (fun b5=> ?_)
    ·
     simp only[Za]at b5;obtain⟨ax,ex,am⟩:=Q1.co (Q2.bytes ocw) (i:=i.toNat) (by omega);subst ex;refine⟨⟨ac,b5⟩,_,by rw[Nat.mul_one];exact am,fun W c7=> ?_⟩;have l:=c7.ext;have X:Q7 W aj 79 #[.slice (some (at0 I)) n n]:=l.keep bn;have be:i.toNat<n:=by omega
     have c8:=hP1 i.toNat be;rw[if_neg (by omega)]at c8;have a0:=l.cell c8.1 id;have ownP:=Q2.ext c8.2 l;refine⟨_,_,_,X.cell,_,_,_,X.cell,⟨ac,by omega⟩,?_⟩;show∃(d2:σ)(d3 d4:Nat),W.cell? ((at0 I).add (i.toNat*1))=some (.slice d2 d3 d4)/\_
     rw[Nat.mul_one];refine⟨_,_,_,a0,fun e9 d5 cp=> ?_⟩;have a5:=cp.ext;have fa:Ext w0 d5:=bc.trans (l.trans a5);refine⟨⟨_,_,_,Q7.cell (a5.keep X),rfl⟩,⟨_,_,_,Q7.cell (a5.keep X),rfl⟩,⟨_,_,_,a5.cell a0 id,rfl⟩,?_⟩;have ey:=Q2.len ownP;have fb:=eg i.toNat be;obtain⟨bp,cq,Y,d6,b6,S,c9⟩:=Q2.push2 ownP cp (bc.trans l).size (by omega);refine⟨_,_,_,Y,d6,?_⟩;have tyS:∀y,(P i.toNat).1=some (at0 y)->∃(cs:Array Value)(T:TypeId)(fz:Nat×Nat),W.heap[y]? =some (Obj.cells cs T fz)/\T=5:=fun y o=>Q5.typed ownP o;have ar:∀{O:Nat}{e:TypeId}{cs:Array Value},5≠e->Q7 W O e cs->Q7 Y O e cs:=fun he hr=>Q7.keep hr S fun y o=>by
      obtain⟨a,b,c,d,e⟩:=tyS y o;exact⟨a,b,c,d,by rw[e];exact he⟩
     have r33'':=ar QM.2.2.2.2.1 X;have bq:Q7 Y I 25 csr:=ar QM.1 (l.keep G);refine⟨⟨_,_,_,r33''.cell,rfl⟩,⟨ac,by omega⟩,?_⟩;refine⟨RowW.live ⟨_,bq⟩ (by omega),fun ah cr=> ?_⟩;rw[w64 (n:=i+1) (by omega)];have N:Upd (fun y=>y=I) Y ah:=by
      have:=cr.upd;rw[Qx]at this;exact this
     have ct:Q7 ah I 25 (csr.setIfInBounds i.toNat (.slice bp ((P i.toNat).2.1+1) cq)):=by
      have s':=cr;rw[QJ]at s';exact s'.at bq rfl
     have br:∀{e:TypeId},25≠e->∀y,y=I->∃(cs:Array Value)(T:TypeId)(fz:Nat×Nat),Y.heap[y]? =some (Obj.cells cs T fz)/\T≠e:=fun he y o=>⟨csr,_,(0,0),by rw[o];exact bq,he⟩;have au:∀{O:Nat}{e:TypeId}{cs:Array Value},5≠e->25≠e->Q7 W O e cs->Q7 ah O e cs:=fun A r hr=>Q7.keep (ar A hr) N (br r);have d7:Ext w0 Y:=Q2.new_ext (bc.trans l) S fun y o=>Q2.blk ownP o;have d8:Ext w0 ah:=Q2.new_ext d7 N fun y o=>by rw[show y=I from o];exact bo
     have a6:∀{b:Nat}{e:TypeId}{sz:Nat}{p:σ}{n c:Nat}{xs:List Value},5≠e->25≠e->Q5 W b e sz p n c xs->Q5 ah b e sz p n c xs:=fun A r ho=>
      Q5.other (Q5.other ho S fun y o=>by
       obtain⟨a,b,c,d,e⟩:=tyS y o
       exact⟨a,b,c,d,by rw[e];exact A⟩) N (br r)
     have fx:(n:Int)-(i+1)<n-i:=by omega
     refine⟨⟨cm,c',_,oc',od',by omega,by omega,Nat.le_refl _,d8,au QM.2.2.2.2.1 Qd4.2.2.2.1 X,⟨_,_,_,b',ae,Zu af (Zu l.size (Zu S.size N.size)),ay,aa,au QM.2.2.2.2.2.1 Qd4.2.2.2.2.1 (l.keep M),a6 QM.2.2.1 Qd4.2.1 (Q5.ext D l)⟩,?_,a6 QM.2.2.1 Qd4.2.1 (Q5.ext odw l),
      fun O e cs A r hr=>au A.symm r.symm (l.keep (aq O e cs A r hr)),?_,⟨_,ct,by simp[K]⟩,bo,fun t=>if t=i.toNat then(bp,(P i.toNat).2.1+1,cq)else P t,fun t ht=> ?_,?_,fun t A ht g U=> ?_⟩,by show((n:Int)-(i+1)).toNat<((n:Int)-i).toNat;omega⟩
     ·refine Q2.other (Q5.upd (Q5.ext ocw l) S fun g U hS=> ?_) N (br QM.1.symm)
      have A:=Q5.blk oc' U;have r:=hP3 i.toNat (by omega) be g hS;omega
     ·have:=S.size
      have:=N.size;have:=l.size;omega
     ·dsimp only
      rw[Qj ct,Array.getElem?_setIfInBounds]
      by_cases A:t=i.toNat
      ·subst A
       simp only[if_true];rw[if_pos (by omega),if_pos (by omega)];exact⟨rfl,Q2.apart b6 N bq QM.1.symm⟩
      ·rw[if_neg (fun e=>A e.symm),if_neg A]
       have d9:=hP1 t ht;refine⟨?_,?_⟩
       ·rw[←Qj G];exact d9.1
       ·have e1:(if(t:Int)<i+1 then Lf t++ [co c' t]else Lf t)=(if(t:Int)<i then Lf t++ [co c' t]else Lf t):=by
         by_cases r:(t:Int)<i
         ·rw[if_pos r,if_pos (by omega)]
         ·rw[if_neg r,if_neg (by omega)]
        rw[e1];refine Q2.apart (Q5.upd (Q2.ext d9.2 l) S fun g U hS=> ?_) N bq QM.1.symm;exact hP2 i.toNat t be ht (fun e=>A e.symm) g hS U
     ·have far:∀t,t<n->t≠i.toNat->∀g,(P t).1=some (at0 g)->bp≠some (at0 g):=fun t ht c0 g U he=>by
       have ho:=Q2.ext (hP1 t ht).2 l;rw[U]at ho;refine c9 g (Q5.lt_heap ho) (fun a ha hb=> ?_) _ he rfl;rcases ownP.where_ with⟨h0,_⟩|⟨g',h0,_⟩
       ·rw[h0]at ha;cases ha
       ·rw[h0]at ha
        cases ha;have:g'=g:=hb;subst this;exact hP2 i.toNat t be ht (fun e=>c0 e.symm) g' h0 U
      intro s t hs ht da g U
      dsimp only at U⊢
      by_cases A:s=i.toNat
      ·rw[if_pos A]at U
       rw[if_neg (fun e=>da (A.trans e.symm))];exact fun he=>far t ht (fun e=>da (A.trans e.symm)) g he U
      ·rw[if_neg A]at U
       by_cases r:t=i.toNat
       ·rw[if_pos r];exact far s hs A g U
       ·rw[if_neg r];exact hP2 s t hs ht da g U
     ·dsimp only at U
      rw[if_neg (by omega)]at U;exact hP3 t (by omega) ht g U
    ·simp only[Zb]at b5
     have et:=QI.len D;have f0:=QI.len odw;have fe:(dif (k.toNat+m.toNat) (Ql1 hs) c' (QH n hs L x)).length<=256:=by
      unfold dif;refine Zu (List.length_filter_le _ _) ?_;rw[List.length_range];omega
     obtain⟨pf,cf,V,hr,d1,ab,_⟩:=Q5.append Qvh 30 D (q:=p2) (m:=n2) (d:=c2) (news:=QI1 (dif (k.toNat+m.toNat) (Ql1 hs) c' (QH n hs L x))) (by rw[QG0];omega) (Q5.cells odw)
      (fun hp=>by
       rcases odw.where_ with⟨_,h,_⟩|⟨g,h,_⟩
       ·exact h
       ·rw[hp]at h;cases h) (fun u hu=>by obtain⟨_,_,rfl⟩:=List.mem_map.1 hu;rfl) (by unfold maxLen;omega) (by omega) af
     refine⟨_,_,_,M.cell,_,_,_,V,hr,?_⟩;have tyw:∀{e:TypeId},3≠e->∀y,pp=some (at0 y)->∃(cs:Array Value)(T:TypeId)(fz:Nat×Nat),c6.heap[y]? =some (Obj.cells cs T fz)/\T≠e:=fun he y o=>by
      obtain⟨cs,T,fz,h7,h8⟩:=Q5.typed D o;exact⟨cs,T,fz,h7,by rw[h8];exact he⟩
     have E:Q7 V H 30 #[.slice pp nn cc]:=Q7.keep M ab (tyw QO1.2.2.2.2.1);refine⟨E.live,fun R az=> ?_⟩;have Z:=QR0 az;have ea:=Q2.new_ext bc ab fun y o=>Zu ae (Q5.blk D o);have cu:Ext w0 R:=Q2.new_ext ea Z fun y o=>by rw[show y=H from o];exact st.n36
     refine⟨cu, .inr ⟨c',hd,rfl,?_⟩⟩;have fin:∀{O:Nat}{e:TypeId}{cs:Array Value},3≠e->30≠e->Q7 c6 O e cs->Q7 R O e cs:=fun A r hr=>Q7.keep (Q7.keep hr ab (tyw A)) Z fun y o=>⟨#[.slice pp nn cc],_,(0,0),by rw[show y=H from o];exact E,r⟩;have ai:∀{O:Nat}{e:TypeId}{cs:Array Value},3≠e->30≠e->e≠5->e≠25->Q7 B O e cs->Q7 R O e cs:=fun A r h3 h4 hr=>fin A r (aq _ _ _ h3 h4 (C.keep hr));have a7:∀{O:Nat}{v:Value},O<b'->Q7 B O 3 #[v]->Q7 R O 3 #[v]:=fun{O v} f2 hr=>by
      have A:=aq _ _ _ QM.2.2.1.symm Qd4.2.1.symm (C.keep hr);have r:Q7 V O 3 #[v]:=ab.keep A fun hp=>by
       have:=Q5.blk D hp;omega
      exact Z.keep r fun e=>by
       have h3:O=H:=e;subst h3;unfold Q7 at r E;rw[r]at E;cases E
     have be:i=(n:Int):=by omega
     have tyo:3≠5:=QM.2.2.1.symm;have b7:QK0 R w0.heap.size I n (fun t=>Lf t++ [co c' t]):=by
      refine⟨⟨csr,fin QO1.2.1 Qy2.2.1 G,K⟩,bo,P,fun t ht=> ?_,hP2⟩;have A:=hP1 t ht;rw[if_pos (by omega)]at A;refine⟨?_,Q2.apart (Q2.other A.2 ab (tyw tyo)) Z E Qy2.2.2.2.2.2.2⟩;rw[Qj (fin QO1.2.1 Qy2.2.1 G),←Qj G];exact A.1
     have db:QI R b' pf (nn+n2) cf (wr++dif (k.toNat+m.toNat) (Ql1 hs) c' (QH n hs L x)):=by
      have:QI1 (wr++dif (k.toNat+m.toNat) (Ql1 hs) c' (QH n hs L x))=QI1 wr++QI1 (dif (k.toNat+m.toNat) (Ql1 hs) c' (QH n hs L x)):=by simp[QI1]
      unfold QI;rw[this];exact Q5.other d1 Z fun y o=>⟨#[.slice pp nn cc],_,(0,0),by rw[show y=H from o];exact E,Qy2.2.2.2.2.1⟩
     exact⟨cu,st.n36,st.n40,ai QO1.1 Qy2.1 QM.2.1.symm Qd4.1.symm r6,a7 ay r8,a7 aa r10,ai QO1.2.2.1 Qy2.2.2.1 QM.2.2.2.1.symm Qd4.2.2.1.symm r12,
      ai QO1.2.2.2.1 Qy2.2.2.2.1 QM.2.2.2.2.1.symm Qd4.2.2.2.1.symm r14,fin QO1.2.2.2.1 Qy2.2.2.2.1 bn,ai QO1.2.2.1 Qy2.2.2.1 QM.2.2.2.1.symm Qd4.2.2.1.symm r42,st.ne,
      ⟨_,_,_,b',ae,Zu af (Zu ab.size Z.size),ay,aa,E.set az,db⟩,b7,⟨cs,ai QO1.2.2.2.2.2 Qy2.2.2.2.2.2.1 Qg0.1 Qg0.2.1 rm,cx⟩⟩
end Go.Proofs.YtkolafpgbhpdlaaGreat
