import Derived.Test.YtkolafpgbhpdlaaGreatMK
import Derived.Test.YtkolafpgbhpdlaaGreatMS
set_option maxHeartbeats 8000000
namespace Go.Gf
def dgs(N:Nat):List Nat->Nat
 | []=>0
 |a::l=>a*N^l.length+dgs N l
theorem Qrf{N:Nat}:∀{l:List Nat},(∀i,i<l.length->l.getD i 0<N)->dgs N l<N^l.length
 | [],_=>by simp[dgs]
 |a::l,h=>by
  have d:=h 0 (by simp);have g:dgs N l<N^l.length:=Qrf fun i hi=>by
   have:=h (i+1) (by simpa using hi);simpa using this
  have e:a<N:=by simpa using d
  show a*N^l.length+dgs N l<N^(l.length+1)
  have f:(a+1)*N^l.length<=N*N^l.length:=Nat.mul_le_mul_right _ e;rw[Nat.pow_succ,Nat.mul_comm (N^l.length) N];rw[Nat.add_mul,Nat.one_mul]at f;omega
theorem Qqf{N:Nat}:∀{a b:List Nat},a.length=b.length->(∀i,i<a.length->a.getD i 0<=b.getD i 0)->dgs N a<=dgs N b
 | [],[],_,_=>Nat.le_refl _
 |x::a,y::b,e,h=>by
  have d:a.length=b.length:=by simpa using e
  have f:x<=y:=by simpa using h 0 (by simp)
  have g:dgs N a<=dgs N b:=Qqf d fun i hi=>by
   have:=h (i+1) (by simpa using hi);simpa using this
  show x*N^a.length+dgs N a<=y*N^b.length+dgs N b
  rw[d];have:=Nat.mul_le_mul_right (N^b.length) f;omega
def Lx(a b:List Nat):Prop:=∃i,i<a.length/\(∀j,j<i->a.getD j 0=b.getD j 0)/\a.getD i 0<b.getD i 0
theorem QQ9{N:Nat}:∀{a b:List Nat},a.length=b.length->(∀i,i<a.length->a.getD i 0<N)->Lx a b->dgs N a<dgs N b
 | [],[],_,_,⟨i,hi,_⟩=>(Nat.not_lt_zero _ hi).elim
 |x::a,y::b,o,p,⟨i,hi,g,d⟩=>by
  have e:a.length=b.length:=by simpa using o
  have f:∀i,i<a.length->a.getD i 0<N:=fun i hi=>by
   have:=p (i+1) (by simpa using hi);simpa using this
  show x*N^a.length+dgs N a<y*N^b.length+dgs N b
  rw[e]
  match i,hi,g,d with
  |0,_,_,d=>
   have h:x<y:=by simpa using d
   have l:=Qrf f;rw[e]at l;have q:(x+1)*N^b.length<=y*N^b.length:=Nat.mul_le_mul_right _ h;rw[Nat.add_mul,Nat.one_mul]at q;omega
  |i+1,hi,g,d=>
   have h:x=y:=by simpa using g 0 (by omega)
   have l:dgs N a<dgs N b:=QQ9 e f ⟨i,by simpa using hi,fun j r=>by simpa using g (j+1) (by omega),by simpa using d⟩;rw[h];omega
theorem Q7g:∀{a b:List Nat},a.length=b.length->a=b\/Lx a b\/Lx b a
 | [],[],_=> .inl rfl
 |x::a,y::b,o=>by
  have g:a.length=b.length:=by simpa using o
  rcases(by omega:x=y\/x<y\/y<x)with h|h|h
  ·subst h
   rcases Q7g g with e|⟨i,hi,l,d⟩|⟨i,hi,l,d⟩
   ·exact .inl (by rw[e])
   ·refine .inr (.inl ⟨i+1,by simpa using hi,fun j f=> ?_,by simpa using d⟩)
    match j with
    |0=>rfl
    |j+1=>simpa using l j (by omega)
   ·refine .inr (.inr ⟨i+1,by simpa using hi,fun j f=> ?_,by simpa using d⟩)
    match j with
    |0=>rfl
    |j+1=>simpa using l j (by omega)
  ·exact .inr (.inl ⟨0,by simp,fun j f=>(Nat.not_lt_zero _ f).elim,by simpa using h⟩)
  ·exact .inr (.inr ⟨0,by simp,fun j f=>(Nat.not_lt_zero _ f).elim,by simpa using h⟩)
structure Pl(n t:Nat)(s:List Nat):Prop where
 len:s.length=t
 lt:∀i,i<t->s.getD i 0<n
 up:∀i,i+1<t->s.getD i 0<s.getD (i+1) 0
theorem Pl.gap{n t:Nat}{s:List Nat}(h:Pl n t s){i:Nat}:∀{d:Nat},i+d<t->s.getD i 0+d<=s.getD (i+d) 0
 |0,_=>Nat.le_refl _
 |d+1,a=>by
  have e:=h.gap (i:=i) (d:=d) (by omega);have f:=h.up (i+d) (by omega);rw[←Nat.add_assoc i d 1];omega
theorem Pl.top{n t:Nat}{s:List Nat}(h:Pl n t s){i:Nat}(hi:i<t):s.getD i 0+t<=n+i:=by
 have a:=h.gap (i:=i) (d:=t-1-i) (by omega);rw[show i+(t-1-i)=t-1 by omega]at a;have:=h.lt (t-1) (by omega);omega
theorem Pl.ge{n t:Nat}{s:List Nat}(h:Pl n t s){i:Nat}(hi:i<t):i<=s.getD i 0:=by
 have a:=h.gap (i:=0) (d:=i) (by omega);rw[Nat.zero_add]at a;omega
theorem Pl.first{n t:Nat}(h:t<=n):Pl n t (List.range t):=
 ⟨List.length_range,fun i hi=>by simp[Zj,hi];omega,fun i hi=>by simp[Zj,hi,show i<t by omega]⟩
theorem Pl.first_le{n t N:Nat}{s:List Nat}(h:Pl n t s):dgs N (List.range t)<=dgs N s:=
 Qqf (by rw[List.length_range,h.len]) fun i hi=>by
  rw[List.length_range]at hi;have:=h.ge hi;simpa[Zj,hi]using this
def nxt(s:List Nat)(i:Nat):List Nat:=(List.range s.length).map fun j=>if j<i then s.getD j 0 else s.getD i 0+1+(j-i)
theorem Qv4(s:List Nat)(i:Nat):(nxt s i).length=s.length:=by simp[nxt]
theorem QX4{s:List Nat}{i j:Nat}(a:j<s.length):(nxt s i).getD j 0=if j<i then s.getD j 0 else s.getD i 0+1+(j-i):=by
 simp[nxt,Zj,a]
theorem Pl.nxt{n t:Nat}{s:List Nat}(h:Pl n t s){i:Nat}(hi:i<t)(hs:s.getD i 0+t<n+i):Pl n t (nxt s i):=by
 have f:=h.len;refine⟨by rw[Qv4,f],fun j a=> ?_,fun j a=> ?_⟩
 ·rw[QX4 (by omega)]
  by_cases e:j<i
  ·rw[if_pos e];exact h.lt j a
  ·rw[if_neg e];omega
 ·rw[QX4 (by omega),QX4 (by omega)]
  by_cases e:j+1<i
  ·rw[if_pos e,if_pos (by omega)];exact h.up j a
  ·rw[if_neg e]
   by_cases d:j<i
   ·rw[if_pos d]
    have g:=h.up j a;obtain rfl:i=j+1:=by omega
    omega
   ·rw[if_neg d];omega
theorem Pl.nxt_lt{n t N:Nat}{s:List Nat}(h:Pl n t s)(d:n<=N){i:Nat}(hi:i<t):dgs N s<dgs N (Gf.nxt s i):=by
 have e:=h.len;refine QQ9 (by rw[Qv4]) (fun j a=>by have:=h.lt j (by omega);omega) ⟨i,by omega,fun j a=> ?_,?_⟩
 ·rw[QX4 (by omega),if_pos a]
 ·rw[QX4 (by omega),if_neg (Nat.lt_irrefl _)];omega
theorem Pl.between{n t N:Nat}{s W:List Nat}(h:Pl n t s)(l:Pl n t W)(x:n<=N){i:Nat}(hi:i<t)(hs:s.getD i 0+t<n+i)(g:∀j,i<j->j<t->n+j<=s.getD j 0+t)(u:dgs N W<dgs N (Gf.nxt s i)):W=s\/dgs N W<dgs N s:=by
 have y:=h.len;have v:=l.len;rcases Q7g (a:=W) (b:=s) (by omega)with e|e|⟨q,p,r,o⟩
 ·exact .inl e
 ·exact .inr (QQ9 (by omega) (fun j f=>by have:=l.lt j (by omega);omega) e)
 ·exfalso
  rcases(by omega:q<i\/q=i\/i<q)with c|c|c
  ·have:=QQ9 (N:=N) (a:=Gf.nxt s i) (b:=W) (by rw[Qv4];omega) (fun j f=>by
    rw[Qv4]at f;have:=(h.nxt hi hs).lt j (by omega)
    omega) ⟨q,by rw[Qv4];exact p,fun j f=>by rw[QX4 (by omega),if_pos (by omega)];exact r j f,by rw[QX4 p,if_pos c];exact o⟩
   omega
  ·subst c
   have:=Qqf (N:=N) (a:=Gf.nxt s q) (b:=W) (by rw[Qv4];omega) fun j f=>by
    rw[Qv4]at f;rw[QX4 f]
    by_cases c:j<q
    ·rw[if_pos c,r j c];exact Nat.le_refl _
    ·rw[if_neg c]
     have:=l.gap (i:=q) (d:=j-q) (by omega);rw[show q+(j-q)=j by omega]at this;omega
   omega
  ·have:=g q c (by omega)
   have:=l.top (i:=q) (by omega);omega
theorem Pl.last{n t N:Nat}{s W:List Nat}(h:Pl n t s)(f:Pl n t W)(o:n<=N)(d:∀j,j<t->n+j<=s.getD j 0+t):W=s\/dgs N W<dgs N s:=by
 have p:=h.len;have g:=f.len;rcases Q7g (a:=W) (b:=s) (by omega)with e|e|⟨q,r,u,l⟩
 ·exact .inl e
 ·exact .inr (QQ9 (by omega) (fun j v=>by have:=f.lt j (by omega);omega) e)
 ·exfalso
  have:=d q (by omega);have:=f.top (i:=q) (by omega);omega
theorem Pl.of_sorted{n:Nat}{s:List Nat}(h:s.Pairwise (· < ·))(a:∀x∈s,x<n):Pl n s.length s:=by
 refine⟨rfl,fun i hi=> ?_,fun i hi=> ?_⟩
 ·rw[Zj,Zc hi]
  exact a _ (List.getElem_mem _)
 ·rw[Zj,Zc (by omega),Zj,Zc hi]
  exact List.pairwise_iff_getElem.1 h i (i+1) (by omega) hi (by omega)
end Go.Gf
namespace Go.Proofs.YtkolafpgbhpdlaaGreat
open Go Go.Vc Go.Gf
open Go.IntKind (i64)
open Go.Value (int)
open Go.Proofs.Tryz (prog)
theorem QYb{p:σ}{l c:Nat}{w:World}{ms:List Bool}(h:QX w p l ms)(q:l<=1073741824):
  Calls prog 191 #[.slice p l c] w fun e w'=>e= .returned (int i64 ((mis l ms).length:Int))/\w'=w:=by
 refine(F191_calls p l c w (fun v w'=>v=int i64 ((mis l ms).length:Int)/\w'=w)
  (fun _ n i w1=>0<=i/\i<=l/\w1=w/\n=((mis i.toNat ms).length:Int)) (fun _ _ i _=>(l-i).toNat) ?_).mono (by rintro e w' ⟨v,rfl,rfl,h⟩;exact⟨rfl,h⟩)
 refine⟨⟨by omega,by omega,rfl,rfl⟩,?_⟩;rintro n i w1 ⟨g,j,rfl,rfl⟩
 intros
 have o:=Qag i.toNat ms;refine Q0 (fun hs=> ?_) (fun hs=> ?_)
 ·simp only[Za]at hs
  obtain⟨a,rfl,ha⟩:=h.get (i:=i.toNat) (by omega);rw[w64 (n:=i+1) (by omega),w64 (n:=((mis i.toNat ms).length:Int)+1) (by omega)];have f:(i+1).toNat=i.toNat+1:=by omega
  have d:((l:Int)-(i+1)).toNat<((l:Int)-i).toNat:=by omega
  refine⟨⟨g,hs⟩,_,by rw[Nat.mul_one];exact ha,Q0 (fun hb=> ?_) (fun hb=> ?_)⟩
  ·refine⟨⟨by omega,by omega,rfl,?_⟩,d⟩
   rw[f,QM3,if_pos hb];simp
  ·refine⟨⟨by omega,by omega,rfl,?_⟩,d⟩
   rw[f,QM3,show ms.getD i.toNat false=false from hb];simp
 ·simp only[Zb]at hs
  refine⟨?_,rfl⟩;rw[show i.toNat=l by omega]
end Go.Proofs.YtkolafpgbhpdlaaGreat
namespace Go.Proofs.YtkolafpgbhpdlaaGreat
open Go Go.Vc Go.Gf
open Go.IntKind (i64)
open Go.Value (int)
open Go.Proofs.Tryz (prog)
theorem QWf{C r c:Nat}(a:c<C):(r*C+c)/C=r:=by
 rw[Nat.mul_comm,Nat.mul_add_div (by omega),Nat.div_eq_of_lt a,Nat.add_zero]
theorem QXf{C r c:Nat}(a:c<C):(r*C+c) % C=c:=by
 rw[Nat.mul_comm,Nat.mul_add_mod,Nat.mod_eq_of_lt a]
theorem QL0.base_le{w:World}{base b n c:Nat}{p:σ}{L:Nat->τ}(h:QL0 w base p n c L)(hb:b<=base):QL0 w b p n c L:=by
 obtain⟨P,a,d,e⟩:=h;exact⟨P,Q5.base_le a hb,fun t ht=>Q2.base_le (d t ht) hb,e⟩
theorem Qrb{k m t:Nat}{L:List (τ)}(hL:L.length=k)(ht:t<k)(hs:(L.getD t []).length=(L.getD 0 []).length):Qd0 k m L t=L.getD t []:=by
 refine Q92 (by rw[Q71,hs]) fun x a=> ?_;rw[Q71]at a;rw[QJ2 a,Q23 (by rw[List.length_map,hL]) ht,Qda]
theorem QKd{k m i x:Nat}{L:List (τ)}(hL:L.length=k)(hi:i<m)(a:x<(L.getD 0 []).length):co (Qd0 k m L (k+i)) x=xs k fun j=>gm (Q84 k i j) (co (L.getD j []) x):=by
 rw[QJ2 a,QL8 (by rw[List.length_map,hL]) hi];unfold par Q84;exact Qv fun j _=>by rw[Qda]
theorem QXb{p:σ}{w:World}{l c:Nat}{n:Int}{L:List (τ)}(h:Qr w p l L)(ha:Qb5 n l L)(A:l<=1048576)(o:0<l):
  Calls prog 117 #[.slice p l c,int i64 n] w fun e w'=>e= .returned (.bool true)/\Ext w w':=by
 refine(F117_calls p l c n w (fun v w'=>v= .bool true/\Ext w w')
  (fun _ i w1=>1<=i/\i<=l/\Ext w w1) (fun _ i _=>(l-i).toNat) ?_).mono (by rintro e w' ⟨v,rfl,rfl,h⟩;exact⟨rfl,h⟩)
 refine Q0 (fun h=> ?_) fun _=>⟨⟨by omega,by omega,Upd.refl _ _⟩,?_⟩
 ·simp only[Zg,Zb]at h
  exact(h ha.1).elim
 rintro i w1 ⟨r,s,j⟩
 intros
 obtain⟨t,rfl⟩:=Int.eq_ofNat_of_zero_le (show 0<=i by omega);refine Q0 (fun hs=> ?_) (fun hs=>⟨rfl,j⟩);simp only[Za]at hs;intro u x;have d:=j.trans x.ext;obtain⟨a,q,ln,cn,rfl,y,z,_⟩:=(h.ext d).2 t (by omega);obtain⟨B,C,ln',cn',e,f,g,_⟩:=(h.ext d).2 0 o;cases e;have D:=z.1;have E:=g.1;have F:=ha.2 t (by omega);refine⟨⟨by omega,hs⟩,_,_,_,by rw[Ze,Nat.mul_one];exact y,⟨by omega,by omega⟩,_,_,_,f,Q0 (fun h=> ?_) fun _=> ?_⟩
 ·simp only[Zg,Zb]at h
  omega
 ·rw[w64 (n:=(t:Int)+1) (by omega)]
  exact⟨⟨by omega,by omega,d⟩,by show((l:Int)-((t:Int)+1)).toNat<((l:Int)-t).toNat;omega⟩
theorem Qne{w:World}{k m i x lA cA c5:Nat}{pA p:σ}{L:List (τ)}(A:Q1 w pA lA (QA4 (Q84 k) k (m*k)))(h:Qr w p k L)(hi:i<m)(D:k<=256)(E:m<=256)(F:∀j,j<k->x<(L.getD j []).length):
  Calls prog 119 #[.agg #[int i64 (m:Int),int i64 (k:Int), .slice pA lA cA],int i64 (i:Int), .slice p k c5,int i64 (x:Int)] w fun e w'=>e= .returned (vb (xs k fun j=>gm (Q84 k i j) (co (L.getD j []) x)))/\Ext w w':=by
 refine(F119_calls m k pA lA cA i p k c5 x w (fun v w'=>v=vb (xs k fun j=>gm (Q84 k i j) (co (L.getD j []) x))/\Ext w w')
  (fun q _ o j w1=>0<=j/\j<=k/\Ext w w1/\Q04 w1 q 137 (Q21 m k pA lA cA)/\o=((xs j.toNat fun j=>gm (Q84 k i j) (co (L.getD j []) x)).toNat:Int)) (fun _ _ _ j _=>(k-j).toNat) ?_).mono (by rintro e w' ⟨v,rfl,rfl,h⟩;exact⟨rfl,h⟩)
 have G:m*k<=256*256:=Nat.mul_le_mul E D;have lAe:=A.1;rw[Qm2]at lAe;intro H w8 B;have r7:Q7 w8 H 137 (Q21 m k pA lA cA):=B.at;refine⟨⟨by omega,by omega,B.ext,Q04.of r7,rfl⟩,?_⟩;clear r7;rintro o j w1 ⟨d,I,f,C,rfl⟩
 intros
 obtain⟨t,rfl⟩:=Int.eq_ofNat_of_zero_le d;refine Q0 (fun hs=> ?_) (fun hs=> ?_)
 ·simp only[Za]at hs
  intro s u;have a:=f.trans u.ext;have r:=(C.ext u.ext).get;have y:=QCb hi (show t<k by omega);have ew:i64.wrap (i64.wrap ((i:Int)*(k:Int))+(t:Int))=((i*k+t:Nat):Int):=by
   rw[Qal (by omega)];exact w64 (by omega)
  obtain⟨aA,rfl,g⟩:=Q1.co (A.ext a) (i:=i*k+t) (by omega);rw[Q37 _ y,QWf (by omega),QXf (by omega)]at g;obtain⟨a5,q,ln,cn,rfl,J,l,_⟩:=(h.ext a).2 t (by omega);have K:=F t (by omega);have N:=l.1;obtain⟨aq,rfl,z⟩:=Q1.co l (i:=x) (by omega);refine⟨_,_,_,r.cell3 rfl,_,r.cell3 rfl,?_⟩;rw[ew];refine⟨⟨by omega,by omega⟩,_,by rw[Ze,Nat.mul_one];exact g,⟨d,hs⟩,some aq,ln,cn,by rw[Ze,Nat.mul_one];exact J,⟨by omega,by omega⟩,_,by rw[Ze,Nat.mul_one];exact z,(QA3 (w:=s) (Q84 k i t) (co (L.getD t []) x)).mono ?_⟩;rintro e M ⟨rfl,rfl⟩;rw[w64 (n:=(t:Int)+1) (by omega)];refine⟨_,rfl,⟨by omega,by omega,a,C.ext u.ext,?_⟩,by show((k:Int)-((t:Int)+1)).toNat<((k:Int)-t).toNat;omega⟩;rw[bx8,show((t:Int)+1).toNat=t+1 by omega]
  rfl
 ·simp only[Zb]at hs
  rw[show(t:Int).toNat=k by omega];exact⟨rfl,f⟩
theorem QZ5{p:σ}{w:World}{k m c:Nat}{L:List (τ)}(h:Qr w p k L)(z:∀i,i<k->(L.getD i []).length=(L.getD 0 []).length)(h0:(L.getD 0 []).length<=1048576)(hk:1<=k)(U:k+m<=256):
  Calls prog 80 #[int i64 (k:Int),int i64 (m:Int), .slice p k c] w fun e w'=>∃a C,e= .returned (.tuple #[.slice (some (at0 a)) (k+m) C,int i64 0])/\Ext w w'/\w.heap.size<=a/\Qg w' w.heap.size (at0 a) (k+m) (Qd0 k m L):=by
 have aq:=h.1
 refine(F80_calls k m p k c w (fun v w'=>∃a C,v= .tuple #[.slice (some (at0 a)) (k+m) C,int i64 0]/\Ext w w'/\w.heap.size<=a/\Qg w' w.heap.size (at0 a) (k+m) (Qd0 k m L))
  (fun q _ D l K i f=>0<=i/\i<=m/\(l:Int)=k+i/\Ext w f/\(∃pA lA cA,Q04 f q 137 (Q21 m k pA lA cA)/\Q2 f w.heap.size pA lA cA (QA4 (Q84 k) k (m*k)))/\QL0 f w.heap.size D l K (Qd0 k m L)) (fun _ _ _ _ _ i _=>(m-i).toNat)
  (fun _ _ _ _ i f M N O x A=>0<=x/\x<=(L.getD 0 []).length/\Ext f A/\Q2 A f.heap.size M N O ((Qd0 k m L (k+i.toNat)).take x.toNat)) (fun _ _ _ _ _ _ _ _ _ x _=>((L.getD 0 []).length-x).toNat) ?_).mono (by rintro e w' ⟨v,rfl,a,C,rfl,h⟩;exact⟨a,C,rfl,h⟩)
 refine(QJg hk U).mono ?_;rintro e w4 ⟨_,rfl,pA,lA,cA,rfl,x4,oA⟩;refine⟨_,_,_,_,_,_,rfl,Qv3 fun au av r10 _ Q=>Q0 (fun h=>by simp at h) fun _=> ?_⟩;have B:=x4.trans Q;refine(QXb (c:=c) (h.ext B) ⟨rfl,z⟩ (by omega) (by omega)).mono ?_;rintro e aw ⟨rfl,E⟩;refine⟨_,rfl,Q0 (fun h=>by simp at h) fun _=> ?_⟩;have o:=B.trans E;refine(Qkb (c:=c) (h.ext o) (by omega) fun y s=> ?_).mono ?_
 ·obtain⟨i,hi,rfl⟩:=List.getElem_of_mem s
  have:=z i (by omega);rw[Zj,Zc hi,Option.getD_some]at this;omega
 rintro e ax ⟨ay,az,rfl,F,hS⟩;refine⟨_,_,_,rfl,⟨by omega,by omega,by omega,o.trans F,⟨pA,lA,cA,Q04.of (F.keep (E.keep r10)),Q2.ext (Q2.ext (Q2.ext oA Q) E) F⟩,?_⟩,?_⟩
 ·exact(hS.congr fun t ht=>Qrb (by omega) ht (z t ht)).base_le o.size
 clear hS oA r10;rintro D l K iI f ⟨V,a0,ak,u,⟨pA,lA,cA,hq,hA⟩,T⟩;obtain⟨i,rfl⟩:=Int.eq_ofNat_of_zero_le V
 intros
 refine Q0 (fun hs=> ?_) (fun hs=> ?_)
 ·simp only[Za]at hs
  refine⟨⟨by omega,by omega,Upd.refl _ _,by rw[show(Qd0 k m L (k+(i:Int).toNat)).take (0:Int).toNat=[]from rfl];exact Q5.nil _ _ _ _⟩,?_⟩;rintro M N O xI A ⟨W,a1,d,I⟩;obtain⟨x,rfl⟩:=Int.eq_ofNat_of_zero_le W;simp only[Ze]at I
  intros
  have lo:=Q2.len I;rw[List.length_take,Q71]at lo;obtain⟨a,q,ln,cn,rfl,hc,X,_⟩:=(h.ext (u.trans d)).2 0 (by omega);have e1:=X.1;refine⟨⟨by omega,by omega⟩,_,_,_,hc,Q0 (fun G=> ?_) (fun G=> ?_)⟩
  ·simp only[Za]at G
   have r:=(hq.ext d).get;refine⟨_,r.cell0 rfl,_,r.cell3 rfl,_,_,_,r.cell3 rfl,(Qne (i:=i) (x:=x) (Q2.bytes (Q2.ext hA d)) (h.ext (u.trans d)) (by omega) (by omega) (by omega) fun j hj=>by have:=z j hj;omega).mono ?_⟩;rintro e a4 ⟨rfl,H⟩;refine⟨_,rfl,fun a5 a6 Y=> ?_⟩;obtain⟨p',C,Z,hr,ab,R⟩:=Q2.push (Q2.ext I H) Y (d.trans H).size (by omega);rw[w64 (n:=(x:Int)+1) (by omega)];refine⟨_,_,_,Z,hr,⟨by omega,by omega,Q2.new_ext (d.trans H) R fun y s=>Q2.blk I s,?_⟩,by show(((L.getD 0 []).length:Int)-((x:Int)+1)).toNat<(((L.getD 0 []).length:Int)-x).toNat;omega⟩;have e2:(Qd0 k m L (k+(i:Int).toNat)).take ((x:Int)+1).toNat=(Qd0 k m L (k+i)).take x++ [xs k fun j=>gm (Q84 k i j) (co (L.getD j []) x)]:=by
    rw[Ze,show((x:Int)+1).toNat=x+1 by omega,←QKd (m:=m) (by omega) (by omega) (by omega),Zn,Zc (by rw[Q71];omega)];simp[Gf.co,Zj,Zc (show x<(Qd0 k m L (k+i)).length by rw[Q71];omega)]
   rw[e2];exact ab
  ·simp only[Zb]at G
   rw[Zh (by rw[Q71];omega)]at I;intro a9 ba ac;obtain⟨p',C,S,hr,ad,R⟩:=T.push d I ac u.size (by omega);have hX:Ext w S:=Q2.new_ext (u.trans d) R fun y s=>by
    obtain⟨P,g1,_⟩:=T;exact Q5.blk g1 s
   have tyR:∀y,D=some (at0 y)->∃(cs:Array Value)(J:TypeId)(fz:Nat×Nat),A.heap[y]? =some (Obj.cells cs J fz)/\J=25:=fun y s=>by
    obtain⟨P,g1,_⟩:=T;exact Q5.typed (Q5.ext g1 d) s
   rw[w64 (n:=(i:Int)+1) (by omega)];refine⟨_,_,_,S,hr,⟨by omega,by omega,by omega,hX,⟨pA,lA,cA,?_,?_⟩,ad.congr fun t ht=> ?_⟩,by show((m:Int)-((i:Int)+1)).toNat<((m:Int)-i).toNat;omega⟩
   ·obtain⟨kq,e3,r⟩:=hq.ext d
    refine⟨kq,e3,Q7.keep r R fun y s=> ?_⟩;obtain⟨cs,J,fz,h7,h8⟩:=tyR y s;exact⟨cs,J,fz,h7,by rw[h8];exact Qb0.2.2.2.2.symm⟩
   ·refine Q2.other (Q2.ext hA d) R fun y s=> ?_
    obtain⟨cs,J,fz,h7,h8⟩:=tyR y s;exact⟨cs,J,fz,h7,by rw[h8];exact QM.1.symm⟩
   ·by_cases e:t=l
    ·rw[if_pos e]
     rw[show t=k+i by omega]
    ·rw[if_neg e]
 ·simp only[Zb]at hs
  obtain rfl:i=m:=by omega
  obtain rfl:l=k+i:=by omega
  obtain⟨g,rfl,ai,aj⟩:=T.first (by omega);exact⟨_,_,rfl,u,ai,aj⟩
end Go.Proofs.YtkolafpgbhpdlaaGreat
namespace Go.Proofs.YtkolafpgbhpdlaaGreat
open Go Go.Vc Go.Gf
open Go.IntKind (i64)
open Go.Value (int)
open Go.Proofs.Tryz (prog)
theorem Q7c{K M:σ}{w:World}{n c1 z c2 s:Nat}{hs:List Bool}{L:List (τ)}(V:QX w K n hs)(T:Qr w M z L)(hn:n<=z)(hl:z<=1048576)(j:∀i,i<n->hs.getD i false=true->(L.getD i []).length=s):
  Calls prog 209 #[.slice K n c1, .slice M z c2] w fun e w'=>∃p c,e= .returned (.tuple #[.slice p (mis n hs).length c, .bool true])/\Ext w w'/\QI w' w.heap.size p (mis n hs).length c (mis n hs):=by
 refine(F209_calls K n c1 M z c2 w (fun v w'=>∃p c,v= .tuple #[.slice p (mis n hs).length c, .bool true]/\Ext w w'/\QI w' w.heap.size p (mis n hs).length c (mis n hs))
  (fun _ p l c i w1=>0<=i/\i<=n/\Ext w w1/\QI w1 w.heap.size p l c (mis i.toNat hs)) (fun _ _ _ _ i _=>(n-i).toNat) ?_).mono (by rintro e w' ⟨v,rfl,p,c,rfl,h⟩;exact⟨p,c,rfl,h⟩)
 refine⟨⟨by omega,by omega,Upd.refl _ _,by rw[show mis (0:Int).toNat hs=[]from rfl];exact Q5.nil _ _ _ _⟩,?_⟩;rintro p l c i w1 ⟨A,W,J,B⟩;obtain⟨t,rfl⟩:=Int.eq_ofNat_of_zero_le A;simp only[Ze]at B;have lo:=QI.len B;have X:=Qag t hs
 intros
 refine Q0 (fun ht=> ?_) (fun ht=> ?_)
 ·simp only[Za]at ht
  obtain⟨a,rfl,ha⟩:=(V.ext J).get (i:=t) (by omega);have C:((t:Int)+1).toNat=t+1:=by omega
  have d:((n:Int)-((t:Int)+1)).toNat<((n:Int)-t).toNat:=by omega
  rw[w64 (n:=(t:Int)+1) (by omega)];refine⟨⟨A,ht⟩,_,by simp only[Ze,Nat.mul_one];exact ha,Q0 (fun D=> ?_) (fun N=> ?_)⟩
  ·have f:hs.getD t false=true:=D
   intro E U;have g:=J.trans U.ext;have o:QI E w.heap.size p l c (mis t hs):=Q5.ext B U.ext;have push:∀(r:Nat)(u:World),QG E r (.cells #[int i64 (t:Int)] 3) u->∃(F:σ)(G H:Nat),∃x:World,Sem.run prog (Builtin.append_ #[30,30] 30 #[.slice p l c, .slice (some (at0 r)) 1 1]) u= .ok (.slice F G H) x∧
     (0<=(t:Int)+1/\(t:Int)+1<=n/\Ext w x/\QI x w.heap.size F G H (mis ((t:Int)+1).toNat hs))/\((n:Int)-((t:Int)+1)).toNat<((n:Int)-t).toNat:=fun r u O=>by
    obtain⟨Y,Z,w2,hr,P,hu⟩:=QI.push o O g.size (by omega);refine⟨Y,_,Z,w2,hr,⟨by omega,by omega,Q2.new_ext g hu fun y hy=>Q5.blk o hy,?_⟩,d⟩;rw[C,QM3,f,if_pos rfl];exact P
   refine Q0 (fun Q=> ?_) (fun Q=>push);simp only[Za]at Q;obtain⟨b,rfl,hb⟩:=(QI.nats o).get (i:=0) (by omega);have hm:(mis t hs).getD 0 0∈mis t hs:=by
    rw[Zj,Zc (by omega)];exact List.getElem_mem _
   obtain⟨m1,m2⟩:=QL1.1 hm;obtain⟨a2,q,ln,cn,rfl,hc,hq,_⟩:=(T.ext g).2 ((mis t hs).getD 0 0) (by omega);obtain⟨aj,q',ln',cn',e,R,S,_⟩:=(T.ext g).2 t (by omega);cases e;have e1:=hq.1;have e2:=S.1;have e3:=j _ (by omega) m2;have e4:=j t (by omega) f;refine⟨⟨by omega,Q⟩,_,hb,⟨by omega,by omega⟩,_,_,_,by simp only[Ze,Nat.mul_one];exact hc,⟨by omega,by omega⟩,_,_,_,by simp only[Ze,Nat.mul_one];exact R,Q0 (fun h=> ?_) fun _=>push⟩;simp only[Zg,Zb]at h;omega
  ·have I:hs.getD t false=false:=N
   refine⟨⟨by omega,by omega,J,?_⟩,d⟩;rw[C,QM3,I,if_neg (by simp),List.append_nil];exact B
 ·simp only[Zb]at ht
  obtain rfl:t=n:=by omega
  subst lo;exact⟨_,_,rfl,J,B⟩
def MV(w:World)(q:σ)(k:Nat)(V:Nat->Nat->UInt8):Prop:=∃kv cv,Q04 w q 137 (Q21 k k kv (k*k) cv)/\Q1 w kv (k*k) (QA4 V k (k*k))
theorem MV.ext{w w':World}{q:σ}{k:Nat}{V:Nat->Nat->UInt8}(h:MV w q k V)(a:Ext w w'):MV w' q k V:=let⟨kv,cv,d,e⟩:=h;⟨kv,cv,d.ext a,e.ext a⟩
theorem MV.same{w:World}{q:σ}{k:Nat}{V l:Nat->Nat->UInt8}(h:MV w q k V)(o:MV w q k l){r c:Nat}(p:r<k)(g:c<k):l r c=V r c:=by
 obtain⟨kv,cv,⟨kq,rfl,s⟩,u⟩:=h;obtain⟨kv',cv',v,x⟩:=o;have e:=v.get.cell3 (i:=2) rfl;have j:=Q7.cell3 (i:=2) s rfl;rw[e]at j;simp only[Zi,Value.slice.injEq]at j;obtain⟨rfl,_⟩:=j;have d:=QCb p g;obtain⟨a,ha,c1⟩:=Q1.co u d;obtain⟨y,f,c2⟩:=Q1.co x d;rw[ha]at f;cases f;rw[Q37 _ d,QWf g,QXf g]at c1 c2;rw[c1]at c2;simp only[Zi,Value.int.injEq,true_and]at c2;exact(QQa.1 c2).symm
theorem Qc8{V a:Nat->Nat->UInt8}{l:List Nat}{L:List (τ)}{j s k:Nat}(d:j<k)(h:∀r c,r<k->c<k->a r c=V r c):Qt9 a l L j s k=Qt9 V l L j s k:=by
 unfold Qt9;refine List.map_congr_left fun x _=>Qv fun t ht=> ?_;rw[h j t d ht]
def QWk(w:World)(k m s:Nat)(hs:List Bool)(L:List (τ))(v:Value)(w':World):Prop:=Ext w w'/\∃a c D,v= .tuple #[.slice (some a) (k+m) c,int i64 0]/\Qg w' w.heap.size a (k+m) (Qd0 k m D)/\D.length=k/\(∀i,i<k->(D.getD i []).length=s)∧
 ∀D0:List (τ),D0.length=k->(∀i,i<k->(D0.getD i []).length=s)->(∀i,i<k+m->hs.getD i false=true->L.getD i []=Qd0 k m D0 i)->D=D0
set_option maxRecDepth 20000 in
theorem Qra{p3 p4:σ}{w:World}{k m n c3 c4 s:Nat}{hs:List Bool}{L:List (τ)}(hn:n=k+m)(h3:QX w p3 n hs)(h4:Qr w p4 n L)(am:1<=k)(ao:k+m<=256)
  (ar:k<=(mis n hs).length) (Q:∀i,i<n->hs.getD i false=true->(L.getD i []).length=s) (br:s<=1048576):
  Calls prog 202 #[int i64 (k:Int),int i64 (m:Int), .slice p3 n c3, .slice p4 n c4] w fun e w'=>∃v,e= .returned v/\QWk w k m s hs L v w':=by
 obtain⟨l,d⟩:∃l,l=(mis n hs).take k:=⟨_,rfl⟩;have au:l.length=k:=by rw[d,List.length_take];omega
 have G:∀t∈l,t<n/\hs.getD t false=true:=fun t ht=>QL1.1 (List.mem_of_mem_take (d▸ht));have aw:∀t,t<k->l.getD t 0<n/\(L.getD (l.getD t 0) []).length=s:=fun t ht=>by
  have h5:l.getD t 0∈l:=by
   rw[Zj,Zc (by omega)];exact List.getElem_mem _
  have:=G _ h5;exact⟨this.1,Q _ this.1 this.2⟩
 have B:∀V j,(Qt9 V l L j s k).length=s:=fun V j=>by simp[Qt9]
 have c0:k*k<=256*256:=Nat.mul_le_mul (by omega) (by omega);have c5:n*k<=256*256:=Nat.mul_le_mul (by omega) (by omega);refine F202_calls k m p3 n c3 p4 n c4 w (QWk w k m s hs L)
  (fun _ _ _ q C aa p M j A=>0<=j/\j<=k/\(p:Int)=j/\Ext C A/\∃V,MV C q k V/\QL0 A C.heap.size aa p M (fun t=>Qt9 V l L t s k)) (fun _ _ _ _ _ _ _ _ j _=>(k-j).toNat)
  (fun _ _ _ q _ _ _ j A R S T x z=>0<=x/\x<=s/\Ext A z/\∃V,MV A q k V/\Q2 z A.heap.size R S T ((Qt9 V l L j.toNat s k).take x.toNat)) (fun _ _ _ _ _ _ _ _ _ _ _ _ x _=>(s-x).toNat)
  (fun _ _ _ q _ _ _ j _ _ _ x z o i U=>0<=i/\i<=k/\Ext z U/\∃V,MV z q k V/\o=((xs i.toNat fun t=>gm (V j.toNat t) (co (L.getD (l.getD t 0) []) x.toNat)).toNat:Int)) (fun _ _ _ _ _ _ _ _ _ _ _ _ _ _ i _=>(k-i).toNat) ?_
 have hg:=QFg (w:=w) am ao;rw[←hn]at hg;refine hg.mono ?_;rintro e w5 ⟨_,rfl,pg,lg,cg,rfl,x5,og⟩;obtain⟨ag,rfl,bt,rfl,bu⟩:=QOc og (by omega) (by omega);refine⟨_,_,_,_,_,_,rfl,Qv3 fun bv c7 bw _ ax=>Q0 (fun h=>by simp at h) fun _=> ?_⟩;have H:=x5.trans ax;rw[show(k:Int)+(m:Int)=(n:Int) by omega,w64 (n:=(n:Int)) (by omega)];refine Q0 (fun h=>by simp at h) fun _=>Q0 (fun h=>by simp at h) fun _=>(Q7c (c1:=c3) (c2:=c4) (h3.ext H) (h4.ext H) (Nat.le_refl _) (by omega) Q).mono ?_;rintro e ay ⟨pl,cl,rfl,ab,ol⟩;have lcl:(mis n hs).length<=cl:=by
  rcases ol.where_ with⟨_,h0,_⟩|⟨g,_,_,_,h0,_⟩
  ·omega
  ·exact h0
 refine⟨_,_,_,_,rfl,Q0 (fun h=>by simp at h) fun _=>Q0 (fun h=> ?_) fun _=>⟨⟨by omega,by omega⟩,?_⟩⟩
 ·simp only[Za]at h;omega
 have az:=H.trans ab;have I:Q7 ay bv 137 (Q21 n k (some ag) (n*k) cg):=ab.keep bw;have W:Qj0 ay pl k l:=by
  obtain⟨n1,n2⟩:=QI.nats ol;refine⟨au.symm,fun j u N=>n2 j u ?_⟩;rw[d]at N;unfold QI1 at N⊢;rw[List.map_take]at N;rw[List.getElem?_take]at N
  split at N
  ·exact N
  ·cases N
 rw[Qff,Nat.sub_zero,Nat.sub_zero,Ze];refine⟨_,I.cell0 rfl,_,I.cell3 rfl,_,_,_,I.cell3 rfl,(Qie (c4:=cl) (bu.ext (ax.trans ab)) W (fun t ht=>(G t ht).1) (by omega) (by omega) (by omega) (by omega) bt).mono ?_⟩;rintro e c9 ⟨_,rfl,pp,lp,cp,rfl,a0,op⟩;obtain⟨ap,rfl,bx,rfl,bz⟩:=QOc op (by omega) (by omega);refine⟨_,_,_,_,_,_,rfl,Qv3 fun da db ac _ ad=> ?_⟩;have a1:=az.trans (a0.trans ad);refine⟨_,ac.cell0 rfl,_,ac.cell3 rfl,_,_,_,ac.cell3 rfl,(Qya (by omega) (by omega) (bz.ext ad) bx ?_).mono ?_⟩
 ·have:=Qzj (k:=k) (m:=m) (l:=l) (by omega) au (by rw[←hn,d];exact Q7e ar) (fun t ht=>by have:=(G t ht).1;omega)
  exact this
 rintro e dc ⟨_,rfl,pv,lv,cv,V0,rfl,a2,ov,a3⟩;have lve:=Q2.len ov;rw[Qm2]at lve;subst lve;refine⟨_,_,_,_,_,_,rfl,Qv3 fun b0 C b1 _ ae=>Q0 (fun h=>by simp at h) fun _=> ?_⟩;have a4:=a1.trans a2;have a5:=a4.trans ae;have X:Qj0 C pl k l:=W.ext (a0.trans (ad.trans (a2.trans ae)));have hV47:MV C (some (at0 b0)) k V0:=⟨pv,cv,Q04.of b1,(Q2.bytes ov).ext ae⟩;refine⟨⟨by omega,by omega,by omega,Upd.refl _ _,V0,hV47,QL0.nil _ _ _⟩,?_⟩;rintro aa p M jI A ⟨b2,de,cm,F,V,Y,hR⟩;obtain⟨j,rfl⟩:=Int.eq_ofNat_of_zero_le b2
 intros
 have J:=a5.trans F
 replace hR:QL0 A C.heap.size aa p M (fun t=>Qt9 V0 l L t s k):=hR.congr fun t ht=>(Qc8 (by omega) fun r c hr hc=>hV47.same Y hr hc).symm
 clear Y V;refine Q0 (fun ah=> ?_) (fun ah=> ?_)
 ·simp only[Za]at ah
  have hV54:=hV47.ext F;refine⟨⟨by omega,by omega,Upd.refl _ _,V0,hV54,by rw[show(Qt9 V0 l L (j:Int).toNat s k).take (0:Int).toNat=[]from rfl];exact Q5.nil _ _ _ _⟩,?_⟩;rintro R S T xI z ⟨b3,df,f,V,Y,ho⟩;obtain⟨x,rfl⟩:=Int.eq_ofNat_of_zero_le b3;simp only[Ze]at ho;rw[Qc8 (V:=V0) (by omega) fun r c hr hc=>hV54.same Y hr hc]at ho;clear Y V
  intros
  have lo:=Q2.len ho;rw[List.length_take,B]at lo;have K:=J.trans f;obtain⟨al,rfl,b4⟩:=(X.ext (F.trans f)).get (i:=0) (by omega);obtain⟨b5,dg⟩:=aw 0 (by omega);obtain⟨a,q,ln,cn,rfl,hc,hq,_⟩:=(h4.ext K).2 _ b5;have e1:=hq.1;refine⟨⟨by omega,by omega⟩,_,b4,⟨by omega,by omega⟩,_,_,_,by simp only[Ze,Nat.mul_one];exact hc,Q0 (fun aj=> ?_) (fun aj=> ?_)⟩
  ·simp only[Za]at aj
   have hV120:=hV54.ext f;refine⟨⟨by omega,by omega,Upd.refl _ _,V0,hV120,rfl⟩,?_⟩;rintro o iI U ⟨a8,di,D,V,Y,rfl⟩;obtain⟨i,rfl⟩:=Int.eq_ofNat_of_zero_le a8;simp only[Ze];have eo:(xs i fun t=>gm (V j t) (co (L.getD (l.getD t 0) []) x))=xs i fun t=>gm (V0 j t) (co (L.getD (l.getD t 0) []) x):=Qv fun t ht=>by rw[hV120.same Y (by omega) (by omega)]
   rw[eo];clear Y eo V
   intros
   refine Q0 (fun O=> ?_) (fun O=> ?_)
   ·simp only[Za]at O
    intro a9 hd;have E:=D.trans hd.ext;obtain⟨kv,cv',⟨kq,ba,rq⟩,hb⟩:=hV120.ext E;simp only[Zi,at0,Zv,and_true]at ba;subst ba;have bb:=QCb (show j<k by omega) (show i<k by omega);have ew:i64.wrap (i64.wrap ((j:Int)*(k:Int))+(i:Int))=((j*k+i:Nat):Int):=by
     rw[Qal (by omega)];exact w64 (by omega)
    obtain⟨av,rfl,bc⟩:=Q1.co hb bb;rw[Q37 _ bb,QWf (by omega),QXf (by omega)]at bc;obtain⟨al',e,b6⟩:=(X.ext ((F.trans f).trans E)).get (i:=i) (by omega);cases e;obtain⟨ia,ib⟩:=aw i (by omega);obtain⟨a',q',ln',cn',e,b7,be,_⟩:=(h4.ext (K.trans E)).2 _ ia;cases e;have e2:=be.1;obtain⟨aq,rfl,b8⟩:=Q1.co be (i:=x) (by omega);refine⟨_,_,_,rq.cell3 rfl,?_⟩;rw[ew];refine⟨⟨by omega,by omega⟩,_,by simp only[Ze,Nat.mul_one];exact bc,⟨a8,O⟩,_,by simp only[Ze,Nat.mul_one];exact b6,⟨by omega,by omega⟩,some aq,ln',cn',by simp only[Ze,Nat.mul_one];exact b7,⟨by omega,by omega⟩,_,by simp only[Ze,Nat.mul_one];exact b8,(QA3 (w:=a9) (V0 j i) (co (L.getD (l.getD i 0) []) x)).mono ?_⟩;rintro e cr ⟨rfl,rfl⟩;rw[w64 (n:=(i:Int)+1) (by omega)];refine⟨_,rfl,⟨by omega,by omega,E,V0,hV120,?_⟩,by show((k:Int)-((i:Int)+1)).toNat<((k:Int)-i).toNat;omega⟩;rw[bx8,show((i:Int)+1).toNat=i+1 by omega]
    rfl
   ·simp only[Zb]at O
    obtain rfl:i=k:=by omega
    intro cs ct bf;obtain⟨p',c',bg,hr,ca,hu⟩:=Q2.push (Q2.ext ho D) bf (f.trans D).size (by omega);rw[w64 (n:=(x:Int)+1) (by omega)];refine⟨_,_,_,bg,hr,⟨by omega,by omega,Q2.new_ext (f.trans D) hu fun y hy=>Q2.blk ho hy,V0,hV54,?_⟩,by show((s:Int)-((x:Int)+1)).toNat<((s:Int)-x).toNat;omega⟩;have e2:(Qt9 V0 l L j s i).take ((x:Int)+1).toNat=(Qt9 V0 l L j s i).take x++ [xs i fun t=>gm (V0 j t) (co (L.getD (l.getD t 0) []) x)]:=by
     rw[show((x:Int)+1).toNat=x+1 by omega,Zn,Zc (by rw[B];omega)];simp[Qt9]
    rw[e2];exact ca
  ·simp only[Zb]at aj
   rw[Zh (by rw[B];omega)]at ho;intro cu cw bh;obtain⟨p',c',bi,hr,cf,hu⟩:=hR.push f ho bh F.size (by omega);rw[w64 (n:=(j:Int)+1) (by omega)];refine⟨_,_,_,bi,hr,⟨by omega,by omega,by omega,Q2.new_ext (F.trans f) hu fun y hy=> ?_,V0,hV47,cf.congr fun t ht=> ?_⟩,by show((k:Int)-((j:Int)+1)).toNat<((k:Int)-j).toNat;omega⟩
   ·obtain⟨P,g1,_⟩:=hR
    exact Q5.blk g1 hy
   ·by_cases e:t=p
    ·rw[if_pos e,show t=j by omega]
    ·rw[if_neg e]
 ·simp only[Zb]at ah
  obtain rfl:j=k:=by omega
  obtain rfl:p=j:=by omega
  obtain⟨g,rfl,_,ch⟩:=hR.first (by omega);have hD:∀i,i<p->((List.range p).map fun t=>Qt9 V0 l L t s p).getD i []=Qt9 V0 l L i s p:=fun i hi=>by simp[Zj,hi]
  refine(QZ5 (c:=M) (m:=m) ch.lists (fun i hi=>by rw[hD i hi,hD 0 (by omega),B,B]) (by rw[hD 0 (by omega),B];exact br) am ao).mono ?_;rintro e cx ⟨a,c',rfl,bj,_,ak⟩;refine⟨_,_,_,_,rfl,J.trans bj,_,c',_,rfl,ak.base_le J.size,by simp,fun i hi=>by rw[hD i hi,B],fun D0 hD0 Z bk=> ?_⟩;refine List.ext_getElem (by simp[hD0]) fun j h1 h2=> ?_;have N:j<p:=by simpa using h1
  have hb:=Qnf (k:=p) (m:=m) (n:=n) (s:=s) (hs:=hs) (L:=L) (D0:=D0) (V:=V0) hn ar hD0 Z (Z 0 (by omega)) (fun i hi hb=>bk i (by omega) hb) (by rw[←d];exact a3) N;rw[List.getElem_map,List.getElem_range,d,hb,Zj,Zc h2,Option.getD_some]
end Go.Proofs.YtkolafpgbhpdlaaGreat
namespace Go.Proofs.YtkolafpgbhpdlaaGreat
open Go Go.Vc Go.Gf
open Go.IntKind (i64)
open Go.Value (int)
open Go.Proofs.Tryz (prog)
def Qf8(l:List Bool):List Value:=l.map Value.bool
theorem Qqk:Qz1 prog 116 4 1 1:=⟨by kernel_rfl,⟨Tryz.t4, .bool false,by kernel_rfl,by kernel_rfl,by kernel_rfl,by kernel_rfl,by kernel_rfl⟩,by omega⟩
abbrev QX3(w:World)(base:Nat)(p:σ)(n c:Nat)(l:List Bool):Prop:=Q5 w base 4 1 p n c (Qf8 l)
theorem QX3.len{w:World}{base:Nat}{p:σ}{n c:Nat}{l:List Bool}(h:QX3 w base p n c l):n=l.length:=by have:=Q5.length h;simp[Qf8]at this;omega
theorem QX3.push{w w1:World}{base:Nat}{p:σ}{n c k:Nat}{l:List Bool}{b:Bool}(h:QX3 w base p n c l)(e:QG w k (.cells #[.bool b] 4) w1)(i:base<=w.heap.size)(B:n<=1073741824):
  ∃f g a,Sem.run prog (Builtin.append_ #[116,116] 116 #[.slice p n c, .slice (some (at0 k)) 1 1]) w1= .ok (.slice f (n+1) g) a/\QX3 a base f (n+1) g (l++ [b])∧
   Upd (fun x=>p=some (at0 x)) w a:=by
 have s:Q5 w1 base 4 1 p n c (Qf8 l):=Q5.ext h e.ext;have v:Qa w1 (some (at0 k)) (Qf8 [b]):=by
  intro j u y;refine⟨_,rfl,e.row.row.cell ?_⟩;simpa[Qf8]using y
 obtain⟨f,g,a,z,r,o,_⟩:=s.append Qqk 116 (q:=some (at0 k)) (m:=1) (d:=1) (news:=Qf8 [b]) rfl v (fun h=>by cases h) (fun u o=>by
  obtain⟨_,_,rfl⟩:=List.mem_map.1 o;rfl) (by unfold maxLen;omega) (by omega) (by rw[e.size.2];omega)
 refine⟨f,g,a,z,?_,Upd.trans e.ext.upd o fun x _ A=>A⟩;have:Qf8 l++Qf8 [b]=Qf8 (l++ [b]):=by simp[Qf8]
 rw[this]at r;exact r
theorem QX3.flags{w:World}{base:Nat}{p:σ}{n c:Nat}{l:List Bool}(h:QX3 w base p n c l):QX w p n l:=⟨QX3.len h,Q5.cells h⟩
theorem Qnj{k m:Nat}{d:τ}(g:0<k)(a:d.length=k)(t:Nat):Qd0 k m (d.map fun b=>[b]) t=[co (enc k m d) t]:=by
 have e:((d.map fun b=>[b]).getD 0 []).length=1:=by
  match d,a with
  | [],a=>simp at a;omega
  |b::d,_=>rfl
 have f:(d.map fun b=>[b]).map (fun x=>co x 0)=d:=by
  rw[List.map_map];exact(List.map_congr_left fun _ _=>rfl).trans (List.map_id d)
 unfold Qd0;rw[e];show [co (enc k m ((d.map fun b=>[b]).map fun x=>co x 0)) t]=_
 rw[f]
theorem QX3.set{w w':World}{base:Nat}{a:Addr}{n c:Nat}{l:List Bool}(h:QX3 w base (some a) n c l){i:Nat}{b:Bool}(hs:Qt w (a.add i) (.bool b) w'):QX3 w' base (some a) n c (l.set i b)/\Upd (fun x=>x=a.block) w w':=by
 obtain⟨d,f⟩:=Q5.set h hs;refine⟨?_,f⟩;have e:(Qf8 l).set i (.bool b)=Qf8 (l.set i b):=by unfold Qf8;rw[List.map_set]
 rw[e]at d;exact d
def thr(ms:List Bool)(W:List Nat):List Bool:=(List.range ms.length).map fun i=> !ms.getD i false&&decide (i∉W)
theorem Qk9(ms:List Bool)(W:List Nat):(thr ms W).length=ms.length:=by simp[thr]
theorem Qz7{ms:List Bool}{W:List Nat}{i:Nat}(hi:i<ms.length):(thr ms W).getD i false=(!ms.getD i false&&decide (i∉W)):=by
 simp[thr,Zj,hi]
theorem Q0a{a b:List Bool}(e:a.length=b.length)(h:∀i,i<a.length->a.getD i false=b.getD i false):a=b:=by
 refine List.ext_getElem e fun i d f=> ?_;have:=h i d;simpa[Zj,d,f]using this
theorem QVj(ms:List Bool):thr ms []=Ql1 ms:=by
 refine Q0a (by simp[thr,Ql1]) fun i hi=> ?_;rw[Qk9]at hi;rw[Qz7 hi,Qu6 hi];simp
theorem Qzi{ms:List Bool}{W:List Nat}{x:Nat}(a:x<ms.length):(thr ms W).set x false=thr ms (W++ [x]):=by
 refine Q0a (by simp[thr]) fun i hi=> ?_;rw[List.length_set,Qk9]at hi;rw[Qz7 hi];simp only[Zj,List.getElem?_set]
 by_cases e:x=i
 ·subst e
  rw[if_pos rfl,if_pos (by rw[Qk9];exact a)];simp
 ·rw[if_neg e]
  have:=Qz7 (W:=W) hi;rw[Zj]at this;rw[this];simp[Zj,show¬i=x from fun h=>e h.symm]
theorem QKc(p:Nat->Bool)(x:Nat):∀n,((List.range n).filter p).length<=((List.range n).filter fun i=>p i&&decide (i≠x)).length+(if x<n then 1 else 0)
 |0=>by simp
 |n+1=>by
  have ih:=QKc p x n;rw[Qi,Qi,List.length_append,List.length_append]
  by_cases e:n=x
  ·subst e
   rw[if_neg (Nat.lt_irrefl _)]at ih;rw[if_pos (Nat.lt_succ_self _)];have:(if p n=true then [n]else []).length<=1:=by split<;>simp
   omega
  ·have a:(p n&&decide (n≠x))=p n:=by rw[decide_eq_true e,Bool.and_true]
   rw[a];have:(if x<n then 1 else 0)<=(if x<n+1 then 1 else 0):=by split<;>split<;>omega
   omega
theorem QMc(p:Nat->Bool)(n:Nat):∀W:List Nat,((List.range n).filter p).length<=((List.range n).filter fun i=>p i&&decide (i∉W)).length+W.length
 | []=>by
  have:(fun i=>p i&&decide (i∉([]:List Nat)))=p:=by funext i;simp
  rw[this];simp
 |x::W=>by
  have ih:=QMc p n W;have a:=QKc (fun i=>p i&&decide (i∉W)) x n;have e:(fun i=>(p i&&decide (i∉W))&&decide (i≠x))=fun i=>p i&&decide (i∉x::W):=by
   funext i
   by_cases a:i=x<;>by_cases d:i∈W<;>simp[a,d]
  rw[e]at a;have:(if x<n then 1 else 0)<=1:=by split<;>omega
  rw[List.length_cons];omega
theorem QLc(p:Nat->Bool):∀n,((List.range n).filter p).length+((List.range n).filter fun i=> !p i).length=n
 |0=>by simp
 |n+1=>by
  have ih:=QLc p n;rw[Qi,Qi,List.length_append,List.length_append];cases h:p n<;>simp<;>omega
theorem Qyi{n:Nat}{ms:List Bool}(d:ms.length=n)(W:List Nat):n<=(mis n (thr ms W)).length+(mis n ms).length+W.length:=by
 have e:=QLc (fun i=>ms.getD i false) n;have f:=QMc (fun i=> !ms.getD i false) n W;have a:mis n (thr ms W)=(List.range n).filter fun i=> !ms.getD i false&&decide (i∉W):=List.filter_congr fun i hi=>by
  rw[List.mem_range]at hi;exact Qz7 (by omega)
 rw[a];unfold mis;omega
theorem Qi9{C D:σ}{w:World}{n c1 t c2:Nat}{ms:List Bool}{W:List Nat}(L:QX w C n ms)(M:Qj0 w D t W)(N:∀x∈W,x<n)(hn:n<=1048576)(ht:t<=1048576):
  Calls prog 203 #[.slice C n c1, .slice D t c2] w fun e w'=>∃p c,e= .returned (.slice p n c)/\Ext w w'/\QX3 w' w.heap.size p n c (thr ms W):=by
 have O:=L.1;have P:=M.1
 refine(F203_calls C n c1 D t c2 w (fun v w'=>∃p c,v= .slice p n c/\Ext w w'/\QX3 w' w.heap.size p n c (thr ms W))
  (fun _ p l c i w1=>0<=i/\i<=n/\Ext w w1/\QX3 w1 w.heap.size p l c ((Ql1 ms).take i.toNat)) (fun _ _ _ _ i _=>(n-i).toNat)
  (fun p l c _ i w1=>0<=i/\i<=t/\Ext w w1/\QX3 w1 w.heap.size p l c (thr ms (W.take i.toNat))) (fun _ _ _ _ i _=>(t-i).toNat) ?_).mono (by rintro e w' ⟨v,rfl,p,c,rfl,h⟩;exact⟨p,c,rfl,h⟩)
 refine⟨⟨by omega,by omega,Upd.refl _ _,by rw[show(Ql1 ms).take (0:Int).toNat=[]from rfl];exact Q5.nil _ _ _ _⟩,?_⟩;rintro p l c iI w5 ⟨u,Q,B,s⟩;obtain⟨i,rfl⟩:=Int.eq_ofNat_of_zero_le u;simp only[Ze]at s;have lo:=QX3.len s;rw[List.length_take,show(Ql1 ms).length=n by simp[Ql1];omega]at lo
 intros
 refine Q0 (fun hs=> ?_) (fun hs=> ?_)
 ·simp only[Za]at hs
  obtain⟨a,rfl,ha⟩:=(L.ext B).get (i:=i) (by omega);refine⟨⟨u,hs⟩,_,by rw[Ze,Nat.mul_one];exact ha,fun R S E=> ?_⟩;obtain⟨p',c',F,T,G,U⟩:=QX3.push s E B.size (by omega);rw[w64 (n:=(i:Int)+1) (by omega)];refine⟨_,_,_,F,T,⟨by omega,by omega,Q2.new_ext B U fun y H=>Q5.blk s H,?_⟩,by show((n:Int)-((i:Int)+1)).toNat<((n:Int)-i).toNat;omega⟩;have e:(Ql1 ms).take ((i:Int)+1).toNat=(Ql1 ms).take i++ [!ms.getD i false]:=by
   rw[show((i:Int)+1).toNat=i+1 by omega,Zn,Zc (by simp[Ql1];omega)];simp[Ql1,Zj,Zc (show i<ms.length by omega)]
  rw[e];exact G
 ·simp only[Zb]at hs
  obtain rfl:i=n:=by omega
  obtain rfl:l=i:=by omega
  rw[Zh (by simp[Ql1];omega),←QVj]at s;refine⟨⟨by omega,by omega,B,by rw[show W.take (0:Int).toNat=[]from rfl];exact s⟩,?_⟩;rintro jI V ⟨z,X,f,d⟩;obtain⟨j,rfl⟩:=Int.eq_ofNat_of_zero_le z;simp only[Ze]at d
  intros
  refine Q0 (fun o=> ?_) (fun o=> ?_)
  ·simp only[Za]at o
   obtain⟨a2,rfl,I⟩:=(M.ext f).get (i:=j) (by omega);have J:W.getD j 0<l:=by
    rw[Zj,Zc (by omega)];exact N _ (List.getElem_mem _)
   obtain⟨a3,r,Y⟩:=(QX3.flags d).get (i:=W.getD j 0) J;rcases d.where_ with⟨Z,_⟩|⟨g,hg,hb,_⟩
   ·rw[Z]at r;cases r
   subst hg;cases r;refine⟨⟨z,o⟩,_,by rw[Ze,Nat.mul_one];exact I,⟨by omega,by omega⟩,by rw[Ze,Nat.mul_one];exact Q5.live d (by rw[show(Qf8 (thr ms (W.take j))).length=ms.length by simp[Qf8,Qk9]];omega),fun ab A=> ?_⟩;rw[Ze,Nat.mul_one]at A;obtain⟨q,K⟩:=QX3.set d A;rw[Qzi (by omega)]at q;rw[w64 (n:=(j:Int)+1) (by omega)];refine⟨⟨by omega,by omega,Q2.new_ext f K fun y H=>by rw[show y=g from H];exact hb,?_⟩,by show((t:Int)-((j:Int)+1)).toNat<((t:Int)-j).toNat;omega⟩;have e:W.take ((j:Int)+1).toNat=W.take j++ [W.getD j 0]:=by
    rw[show((j:Int)+1).toNat=j+1 by omega,Zn,Zc (by omega)];simp[Zj,Zc (show j<W.length by omega)]
   rw[e];exact q
  ·simp only[Zb]at o
   rw[Zh (by omega)]at d;exact⟨_,_,rfl,f,d⟩
theorem Qc9{z A B:σ}{w:World}{n c1 s c2 u c3:Nat}{us bs:τ}{ms:List Bool}(L:Q1 w z n us)(M:Q1 w A s bs)(N:QX w B u ms)(O:n<=s)(P:n<=u)(X:n<=1048576):
  Calls prog 206 #[.slice z n c1, .slice A s c2, .slice B u c3] w fun e w'=>∃p c,e= .returned (.slice p (dif n ms us bs).length c)/\Ext w w'/\QI w' w.heap.size p (dif n ms us bs).length c (dif n ms us bs):=by
 refine(F206_calls z n c1 A s c2 B u c3 w (fun v w'=>∃p c,v= .slice p (dif n ms us bs).length c/\Ext w w'/\QI w' w.heap.size p (dif n ms us bs).length c (dif n ms us bs))
  (fun _ p l c i w1=>0<=i/\i<=n/\Ext w w1/\QI w1 w.heap.size p l c (dif i.toNat ms us bs)) (fun _ _ _ _ i _=>(n-i).toNat) ?_).mono (by rintro e w' ⟨v,rfl,p,c,rfl,h⟩;exact⟨p,c,rfl,h⟩)
 refine⟨⟨by omega,by omega,Upd.refl _ _,by rw[show dif (0:Int).toNat ms us bs=[]from rfl];exact Q5.nil _ _ _ _⟩,?_⟩;rintro p l c iI Y ⟨g,Q,I,x⟩;obtain⟨i,rfl⟩:=Int.eq_ofNat_of_zero_le g;simp only[Ze]at x;have lo:=QI.len x;have R:=Qm5 (n:=i) (ms:=ms) (a:=us) (b:=bs)
 intros
 refine Q0 (fun hs=> ?_) (fun hs=> ?_)
 ·simp only[Za]at hs
  intro j J;have d:=I.trans J.ext;have o:QI j w.heap.size p l c (dif i ms us bs):=Q5.ext x J.ext;obtain⟨a3,rfl,C⟩:=(N.ext d).get (i:=i) (by omega);obtain⟨Z,rfl,D⟩:=Q1.co (L.ext d) (i:=i) (by omega);obtain⟨a2,rfl,E⟩:=Q1.co (M.ext d) (i:=i) (by omega);rw[w64 (n:=(i:Int)+1) (by omega)];have q:((i:Int)+1).toNat=i+1:=by omega
  have f:((n:Int)-((i:Int)+1)).toNat<((n:Int)-i).toNat:=by omega
  have same:(!ms.getD i false&&decide (co us i≠co bs i))=false->(0<=(i:Int)+1/\(i:Int)+1<=n/\Ext w j/\QI j w.heap.size p l c (dif ((i:Int)+1).toNat ms us bs))/\((n:Int)-((i:Int)+1)).toNat<((n:Int)-i).toNat:=fun h=>by
   refine⟨⟨by omega,by omega,d,?_⟩,f⟩;rw[q,QBc,h,if_neg (by simp),List.append_nil];exact o
  refine⟨⟨g,by omega⟩,_,by rw[Ze,Nat.mul_one];exact C,Q0 (fun hb=> ?_) (fun hb=> ?_)⟩
  ·refine⟨⟨g,hs⟩,_,by rw[Ze,Nat.mul_one];exact D,⟨g,by omega⟩,_,by rw[Ze,Nat.mul_one];exact E,Q0 (fun r=> ?_) (fun K=> ?_)⟩
   ·simp only[Zg,Zb,QQa]at r
    intro S T F;obtain⟨p',c',G,U,H,V⟩:=QI.push o F d.size (by omega);refine⟨_,_,_,G,U,⟨by omega,by omega,Q2.new_ext d V fun y W=>Q5.blk o W,?_⟩,f⟩;rw[q,QBc,if_pos (by rw[hb,decide_eq_true r];rfl)];exact H
   ·simp only[Zf,Za,QQa]at K
    exact same (by rw[decide_eq_false (fun h=>h K),Bool.and_false])
  ·exact same (by rw[hb,Bool.false_and])
 ·simp only[Zb]at hs
  obtain rfl:i=n:=by omega
  subst lo;exact⟨_,_,rfl,I,x⟩
end Go.Proofs.YtkolafpgbhpdlaaGreat
namespace Go.Proofs.YtkolafpgbhpdlaaGreat
open Go Go.Vc Go.Gf
open Go.IntKind (i64)
open Go.Value (int)
open Go.Proofs.Tryz (prog)
def Q7j(w:World)(k m n t:Nat)(bs:τ)(ms:List Bool)(W:List Nat)(v:Value)(w':World):Prop:=Ext w w'/\∃c px cx pd cd,v= .tuple #[.slice px n cx, .slice pd (dif n ms c bs).length cd, .bool (decide ((dif n ms c bs).length<=t))]∧
 Gf.Code k m c/\Q2 w' w.heap.size px n cx c/\QI w' w.heap.size pd (dif n ms c bs).length cd (dif n ms c bs)/\∀x,Gf.Code k m x->(∀i,i<n->ms.getD i false=false->i∉W->co x i=co bs i)->c=x
theorem Q8c{F G H:σ}{w:World}{k m n t c3 c4 c5:Nat}{bs:τ}{ms:List Bool}{W:List Nat}(X:n=k+m)(I:Q1 w F n bs)(J:QX w G n ms)(Y:Qj0 w H t W)(hW:∀x∈W,x<n)(K:1<=k)(o:k+m<=256)
  (Z:2*t+(mis n ms).length<=m):
  Calls prog 192 #[int i64 (k:Int),int i64 (m:Int), .slice F n c3, .slice G n c4, .slice H t c5] w fun e w'=>∃v,e= .returned v/\Q7j w k m n t bs ms W v w':=by
 refine F192_calls k m F n c3 G n c4 H t c5 w (Q7j w k m n t bs ms W) ?_;have ai:=I.1;have aj:=J.1;have ak:=Y.1;refine(Qi9 (c1:=c4) (c2:=c5) J Y hW (by omega) (by omega)).mono ?_;rintro e w6 ⟨p8,c8,rfl,x6,o8⟩;refine⟨_,_,_,rfl,(Qgb (c:=c3) (I.ext x6) (by omega)).mono ?_⟩;rintro e w9 ⟨ao,L,rfl,x9,u⟩;have M:=x6.trans x9;have N:=Qyi (n:=n) (ms:=ms) (by omega) W;have one:∀i,i<n->((bs.map fun b=>[b]).getD i []).length=1:=fun i hi=>Q8g bs i (by omega);refine⟨_,_,_,rfl,(Qra (c3:=c8) (c4:=L) (s:=1) X ((QX3.flags o8).ext x9) u K o (by omega) (fun i hi _=>one i hi) (by omega)).mono ?_⟩;rintro e aq ⟨_,rfl,O,a,P,D,rfl,p,Q,hD1,R⟩;have j:=M.trans O;have hD:D=(D.map fun y=>co y 0).map fun b=>[b]:=by
  rw[List.map_map];refine List.ext_getElem (by simp) fun i h1 h2=> ?_;have:=hD1 i (by omega);rw[Zj,Zc h1,Option.getD_some]at this;rw[List.getElem_map]
  match D[i],this with
  | [b],_=>rfl
 obtain⟨d,hd⟩:∃d,d=D.map fun y=>co y 0:=⟨_,rfl⟩;rw[←hd]at hD;have q:d.length=k:=by rw[hd,List.length_map,Q]
 subst hD;refine⟨_,_,_,_,rfl,Q0 (fun h=>by simp at h) fun _=>(Q3g (c:=P) p.lists (by omega) fun i=>by have:=QDf (k:=k) (m:=m) (d:=d) i;omega).mono ?_⟩;rintro e au ⟨av,z,S,rfl,T,g⟩;have r:=QAh (m:=m) (by omega) q;rw[r]at g;have A:=Q2.len g;rw[Qsb q,←X]at A;subst A;have f:=j.trans T;refine⟨_,_,_,rfl,(Qc9 (c1:=S) (c2:=c3) (c3:=c4) (Q2.bytes g) (I.ext f) (J.ext f) (Nat.le_refl _) (Nat.le_refl _) (by omega)).mono ?_⟩;rintro e aw ⟨ax,ay,rfl,B,U⟩;refine⟨_,_,_,rfl,f.trans B,enc k m d,_,_,_,_,?_,Qo6 o q,Q2.base_le (Q2.ext g B) j.size,Q5.base_le U f.size,fun x hx V=> ?_⟩
 ·have e1:decide (((dif z ms (enc k m d) bs).length:Int)<=(t:Int))=decide ((dif z ms (enc k m d) bs).length<=t):=decide_eq_decide.2 (by omega)
  rw[e1]
 ·have a0:=hx.1
  have C:(x.take k).length=k:=by rw[List.length_take];omega
  have he:=hx.enc o;have h6:=R ((x.take k).map fun b=>[b]) (by rw[List.length_map,C]) (fun i hi=>Q8g _ i (by omega)) fun i hi hb=> ?_
  ·have h7:d=x.take k:=by
    have:(d.map fun b=>[b]).map (fun y=>co y 0)=((x.take k).map fun b=>[b]).map (fun y=>co y 0):=by rw[h6]
    rw[List.map_map,List.map_map]at this;have E:∀l:τ,l.map ((fun y=>co y 0)∘fun b=>[b])=l:=fun l=>(List.map_congr_left fun _ _=>rfl).trans (List.map_id l);rw[E,E]at this;exact this
   rw[h7,←he]
  ·rw[Qz7 (by omega)]at hb
   simp only[Bool.and_eq_true,Zg,Za]at hb;rw[Qnj (by omega) C,←he,V i (by omega) hb.1 hb.2];simp[Gf.co,Zj,Zc (show i<bs.length by omega)]
theorem QI.append{w:World}{base:Nat}{p q:σ}{n c m d:Nat}{bs cs:List Nat}(h:QI w base p n c bs)(i:Qj0 w q m cs)(hb:base<=w.heap.size)(r:n+m<=1073741824)(l:q=none->m=0):
  ∃e f a,Sem.run prog (Builtin.append_ #[30,30] 30 #[.slice p n c, .slice q m d]) w= .ok (.slice e (n+m) f) a/\QI a base e (n+m) f (bs++cs)/\Upd (fun x=>p=some (at0 x)) w a:=by
 have s:=i.1
 obtain⟨e,f,a,o,j,g,_⟩:=Q5.append Qvh 30 h (q:=q) (m:=m) (d:=d) (news:=QI1 cs) (by rw[QG0];omega) i.2 l (fun u g=>by
  obtain⟨_,_,rfl⟩:=List.mem_map.1 g;rfl) (by unfold maxLen;omega) (by omega) hb
 refine⟨e,f,a,o,?_,g⟩;have:QI1 bs++QI1 cs=QI1 (bs++cs):=by simp[QI1]
 rw[this]at j;exact j
theorem QI.set{w w':World}{base:Nat}{a:Addr}{n c:Nat}{l:List Nat}(h:QI w base (some a) n c l){i b:Nat}(hs:Qt w (a.add i) (int i64 (b:Int)) w'):QI w' base (some a) n c (l.set i b)/\Upd (fun x=>x=a.block) w w':=by
 obtain⟨d,f⟩:=Q5.set h hs;refine⟨?_,f⟩;have e:(QI1 l).set i (int i64 (b:Int))=QI1 (l.set i b):=by unfold QI1;rw[List.map_set]
 rw[e]at d;exact d
def nxk(s:List Nat)(i k:Nat):List Nat:=(List.range s.length).map fun j=>if j<i then s.getD j 0 else if j<k then s.getD i 0+1+(j-i)else s.getD j 0
theorem Q79(s:List Nat)(i k:Nat):(nxk s i k).length=s.length:=by simp[nxk]
theorem Qq8{s:List Nat}{i k j:Nat}(a:j<s.length):(nxk s i k).getD j 0=if j<i then s.getD j 0 else if j<k then s.getD i 0+1+(j-i)else s.getD j 0:=by
 simp[nxk,Zj,a]
theorem Qfg{s:List Nat}{i:Nat}(hi:i<s.length):s.set i (s.getD i 0+1)=nxk s i (i+1):=by
 refine QP4 (by simp[nxk]) fun j a=> ?_;rw[List.length_set]at a;rw[Qq8 a];simp only[Zj,List.getElem?_set]
 by_cases e:i=j
 ·subst e
  rw[if_pos rfl,if_pos hi,if_neg (by omega),if_pos (by omega)];simp
 ·rw[if_neg e]
  by_cases d:j<i
  ·rw[if_pos d]
  ·rw[if_neg d,if_neg (by omega)]
theorem Q6i{s:List Nat}{i k:Nat}(h:i<k)(l:k<s.length):(nxk s i k).set k ((nxk s i k).getD (k-1) 0+1)=nxk s i (k+1):=by
 refine QP4 (by simp[nxk]) fun j f=> ?_;rw[List.length_set,Q79]at f;rw[Qq8 f,Qq8 (by omega)];have a:=Qq8 (i:=i) (k:=k) f;rw[Zj]at a;rw[Zj,List.getElem?_set]
 by_cases e:k=j
 ·subst e
  rw[if_pos rfl,if_pos (by rw[Q79];exact l),if_neg (by omega),if_pos (by omega),if_neg (by omega),if_pos (by omega)];simp only[Option.getD_some];omega
 ·rw[if_neg e,a]
  by_cases d:j<i
  ·rw[if_pos d,if_pos d]
  ·rw[if_neg d,if_neg d]
   by_cases g:j<k
   ·rw[if_pos g,if_pos (by omega)]
   ·rw[if_neg g,if_neg (by omega)]
theorem Q5i{s:List Nat}{i:Nat}:nxk s i s.length=nxt s i:=by
 refine QP4 (by simp[nxk,nxt]) fun j a=> ?_;rw[Q79]at a;rw[Qq8 a,QX4 a,if_pos a]
def QPk(w:World)(n t:Nat)(s:List Nat)(v:Value)(w':World):Prop:=Ext w w'∧
 ((v= .tuple #[.slice none 0 0, .bool false]/\∀j,j<t->n+j<=s.getD j 0+t)∨
  ∃i p c,v= .tuple #[.slice p t c, .bool true]/\i<t/\s.getD i 0+t<n+i/\(∀j,i<j->j<t->n+j<=s.getD j 0+t)/\QI w' w.heap.size p t c (nxt s i))
theorem Qge{p:σ}{w:World}{n t c:Nat}{s:List Nat}(h:Qj0 w p t s)(hs:Pl n t s)(hn:n<=256)(ht:t<=n):
  Calls prog 193 #[.slice p t c,int i64 (n:Int)] w fun e w'=>∃v,e= .returned v/\QPk w n t s v w':=by
 have ab:=hs.len;refine F193_calls p t c n w (QPk w n t s)
  (fun _ _ _ O i z=> -1<=i/\i<t/\z=O/\∀j:Nat,i<j->j<t->n+j<=s.getD j 0+t) (fun _ _ _ _ i _=>(i+1).toNat)
  (fun Q l6 R _ k w64=>∃i:Nat,i<t/\s.getD i 0+t<n+i/\(∀j,i<j->j<t->n+j<=s.getD j 0+t)/\(i:Int)<k/\k<=t/\Ext w w64/\QI w64 w.heap.size Q l6 R (nxk s i k.toNat)) (fun _ _ _ _ k _=>(t-k).toNat) ?_
 intro k3 w4 G;have X:QI w4 w.heap.size (some (at0 k3)) 0 0 []:=Q5.made G (by rw[G.size.1];exact Nat.le_refl _) (Nat.le_refl _) (by unfold maxLen;omega) rfl;obtain⟨Q,R,O,Y,H,u5⟩:=QI.append (d:=c) X (h.ext G.ext) G.ext.size (by omega) fun e=>by
  subst e
  by_cases S:t=0
  ·exact S
  ·obtain⟨a,ha,_⟩:=h.get (i:=0) (by omega)
   cases ha
 rw[List.nil_append,Nat.zero_add]at H;rw[Nat.zero_add]at Y;have Z:Ext w O:=Q2.new_ext G.ext u5 fun y I=>Q5.blk X I;refine⟨Q,t,R,O,Y,?_⟩;rw[w64 (n:=(t:Int)-1) (by omega)];refine⟨⟨by omega,by omega,rfl,fun j P r=>by omega⟩,?_⟩;rintro iI z ⟨ah,A,rfl,o⟩
 intros
 refine Q0 (fun f=> ?_) (fun f=> ?_)
 ·simp only[Za]at f
  obtain⟨i,rfl⟩:=Int.eq_ofNat_of_zero_le f;obtain⟨a,rfl,ha⟩:=(QI.nats H).get (i:=i) (by omega);rw[w64 (n:=(n:Int)-t) (by omega),w64 (n:=(n:Int)-t+i) (by omega)];have J:z.cell? (a.add ((i:Int).toNat*1))=some (int i64 ((s.getD i 0:Nat):Int)):=by rw[Ze,Nat.mul_one];exact ha
  refine⟨⟨f,A⟩,_,J,Q0 (fun T=> ?_) (fun U=> ?_)⟩
  ·simp only[Za]at T
   have ai:=hs.lt i (by omega);refine⟨⟨f,A⟩,_,J,⟨f,A⟩,by rw[Ze,Nat.mul_one];exact Q5.live H (by rw[QG0];omega),fun aj B=> ?_⟩;rw[Ze,Nat.mul_one,w64 (n:=((s.getD i 0:Nat):Int)+1) (by omega),show((s.getD i 0:Nat):Int)+1=((s.getD i 0+1:Nat):Int) by omega]at B;have u:w.heap.size<=a.block:=by
    rcases H.where_ with⟨S,_⟩|⟨g,hg,hb,_⟩
    ·cases S
    ·cases hg;exact hb
   obtain⟨C,K⟩:=QI.set H B;rw[Qfg (by omega)]at C;rw[w64 (n:=(i:Int)+1) (by omega)];refine⟨⟨i,by omega,by omega,fun j P r=>o j (by omega) r,by omega,by omega,Q2.new_ext Z K fun y I=>by rw[show y=a.block from I];exact u,by rw[show((i:Int)+1).toNat=i+1 by omega];exact C⟩,?_⟩;clear C K B;rintro kI aa ⟨D,E,x,q,al,am,L,l⟩;obtain⟨k,rfl⟩:=Int.eq_ofNat_of_zero_le (show 0<=kI by omega);simp only[Ze]at l
   intros
   refine Q0 (fun F=> ?_) (fun F=> ?_)
   ·simp only[Za]at F
    rw[w64 (n:=(k:Int)-1) (by omega),w64 (n:=(k:Int)+1) (by omega)];obtain⟨a',e,V⟩:=(QI.nats l).get (i:=k-1) (by omega);cases e;have hv:(nxk s D k).getD (k-1) 0<=512:=by
     rw[Qq8 (by omega)];have:=hs.lt D E
     split
     ·have:=hs.lt (k-1) (by omega);omega
     ·rw[if_pos (by omega)];omega
    refine⟨⟨by omega,by omega⟩,_,by rw[show((k:Int)-1).toNat=k-1 by omega,Nat.mul_one];exact V,⟨by omega,by omega⟩,by rw[Ze,Nat.mul_one];exact Q5.live l (by rw[QG0,Q79];omega),fun ao M=> ?_⟩;rw[Ze,Nat.mul_one,w64 (n:=(((nxk s D k).getD (k-1) 0:Nat):Int)+1) (by omega),show(((nxk s D k).getD (k-1) 0:Nat):Int)+1=(((nxk s D k).getD (k-1) 0+1:Nat):Int) by omega]at M;obtain⟨N,W⟩:=QI.set l M;rw[Q6i (by omega) (by omega)]at N;exact⟨⟨D,E,x,q,by omega,by omega,Q2.new_ext L W fun y I=>by rw[show y=a.block from I];exact u,by rw[show((k:Int)+1).toNat=k+1 by omega];exact N⟩,by show((t:Int)-((k:Int)+1)).toNat<((t:Int)-k).toNat;omega⟩
   ·simp only[Zb]at F
    rw[show k=s.length by omega,Q5i]at l;exact⟨L, .inr ⟨D,_,_,rfl,E,x,q,l⟩⟩
  ·simp only[Zb]at U
   rw[w64 (n:=(i:Int)-1) (by omega)];refine⟨⟨by omega,by omega,rfl,fun j P r=> ?_⟩,by show((i:Int)-1+1).toNat<((i:Int)+1).toNat;omega⟩
   by_cases e:j=i
   ·subst e;omega
   ·exact o j (by omega) r
 ·simp only[Zb]at f
  exact⟨Z, .inl ⟨rfl,fun j P=>o j (by omega) P⟩⟩
end Go.Proofs.YtkolafpgbhpdlaaGreat
namespace Go.Proofs.YtkolafpgbhpdlaaGreat
open Go Go.Vc Go.Gf
open Go.IntKind (i64)
open Go.Value (int)
open Go.Proofs.Tryz (prog)
def rdN(w:World)(p:σ)(l:Nat):List Nat:=(List.range l).map fun i=>match p with
 |none=>0
 |some a=>match w.cell? (a.add i)with
  |some (.int _ n)=>n.toNat
  |_=>0
theorem Qj0.rd{w:World}{p:σ}{l:Nat}{s:List Nat}(h:Qj0 w p l s):rdN w p l=s:=by
 have f:=h.1;refine QP4 (by simp[rdN,f]) fun i hi=> ?_;have d:i<l:=by simpa[rdN]using hi
 obtain⟨a,rfl,g⟩:=h.get d;have e:(rdN w (some a) l).getD i 0=(match w.cell? (a.add i)with|some (.int _ n)=>n.toNat|_=>0):=by
  simp[rdN,Zj,d]
 rw[e,g];simp
section
variable {k m n t:Nat}{bs:τ}{ms:List Bool}
def NoW(k m n:Nat)(bs:τ)(ms:List Bool)(W:List Nat):Prop:=∀c,QWa k m bs ms c->dif n ms c bs≠W
theorem Qok(c:τ):Pl n (dif n ms c bs).length (dif n ms c bs):=by
 refine Pl.of_sorted (List.Pairwise.filter _ List.pairwise_lt_range) fun x a=> ?_;simp only[dif,List.mem_filter,List.mem_range]at a;exact a.1
theorem QXg{c:τ}{W:List Nat}(p:n=k+m)(d:W.length=t)(f:∀x,Gf.Code k m x->(∀i,i<n->ms.getD i false=false->i∉W->co x i=co bs i)->c=x)(g:¬(dif n ms c bs).length<=t):NoW k m n bs ms W:=by
 intro x h a;refine g ?_;have e:c=x:=f x h.code fun i hi j l=>Decidable.byContradiction fun o=>l ?_
 ·rw[e,a,d];exact Nat.le_refl _
 ·rw[←a]
  simp only[dif,List.mem_filter,List.mem_range,Bool.and_eq_true,Zg,Za];exact⟨hi,j,o⟩
theorem QIj(h:∀W,Pl n t W->NoW k m n bs ms W)(a:∀c,QWa k m bs ms c->t<=(dif n ms c bs).length):∀c,QWa k m bs ms c->t+1<=(dif n ms c bs).length:=by
 intro c d;have g:=a c d
 by_cases e:(dif n ms c bs).length=t
 ·have f:=Qok (n:=n) (ms:=ms) (bs:=bs) c
  rw[e]at f;exact(h _ f c d rfl).elim
 ·omega
end
theorem Qme{p3 p4:σ}{w:World}{k m E c3 F c4:Nat}{bs:τ}{ms:List Bool}(h3:Q1 w p3 E bs)(h4:QX w p4 F ms)(ae:1<=k)(G:k+m<=256):
  Calls prog 161 #[int i64 (k:Int),int i64 (m:Int), .slice p3 E c3, .slice p4 F c4] w fun e w'=>∃v,e= .returned v/\Qxe w k m E F bs ms v w':=by
 have M:QZ0 (k:Int) (m:Int):=⟨by omega,by omega,by omega,by omega⟩;have a4:=h4.1;refine F161_calls k m p3 E c3 p4 F c4 w (Qxe w k m E F bs ms)
  (fun lost _ t g=>0<=t/\t<=(m:Int)+1/\lost=((mis (k+m) ms).length:Int)/\E=k+m/\F=k+m/\Ext w g/\∀c,QWa k m bs ms c->t.toNat<=(dif (k+m) ms c bs).length) (fun _ _ t _=>((m:Int)+2-t).toNat)
  (fun _ t g p l c i o=>0<=i/\i<=t/\Ext g o/\QI o g.heap.size p l c (List.range i.toNat)) (fun _ t _ _ _ _ i _=>(t-i).toNat)
  (fun _ t o p l _ b f=>Ext o f/\((b=true/\∃s,Pl (k+m) t.toNat s/\Qj0 f p l s/\∀W,Pl (k+m) t.toNat W->dgs 257 W<dgs 257 s->NoW k m (k+m) bs ms W)\/(b=false/\∀W,Pl (k+m) t.toNat W->NoW k m (k+m) bs ms W)))
  (fun _ t _ p l _ b w=>if b=true then 257^t.toNat+1-dgs 257 (rdN w p l)else 0) ?_
 refine(Qu1 k m w).mono ?_;rintro e w5 ⟨rfl,rfl⟩;rw[Q64 M,w64 (n:=(k:Int)+m) (by omega)];refine⟨_,rfl,Q0 (fun h=>by simp at h) fun _=>Q0 (fun h=> ?_) fun g3=>Q0 (fun h=> ?_) fun g4=> ?_⟩
 ·simp only[Zg,Zb]at h
  exact⟨Upd.refl _ _, .inr (.inl ⟨M,fun h2=>h h2.1,rfl⟩)⟩
 ·simp only[Zg,Zb]at h
  exact⟨Upd.refl _ _, .inr (.inl ⟨M,fun h2=>h h2.2,rfl⟩)⟩
 simp only[Zf,Za]at g3 g4;obtain rfl:E=k+m:=by omega
 obtain rfl:F=k+m:=by omega
 refine(QYb (c:=c4) h4 (by omega)).mono ?_;rintro e w8 ⟨rfl,rfl⟩;have aw:=Qag (k+m) ms;refine⟨_,rfl,⟨by omega,by omega,rfl,rfl,rfl,Upd.refl _ _,fun c _=>Nat.zero_le _⟩,?_⟩;rintro tI g ⟨af,a7,_,_,_,O,q⟩;obtain⟨t,rfl⟩:=Int.eq_ofNat_of_zero_le af;simp only[Ze]at q
 intros
 rw[w64 (n:=2*(t:Int)) (by omega),w64 (n:=2*(t:Int)+((mis (k+m) ms).length:Int)) (by omega)];refine Q0 (fun hs=> ?_) (fun hs=> ?_)
 ·simp only[Za]at hs
  refine⟨⟨by omega,by omega,Upd.refl _ _,by rw[show List.range (0:Int).toNat=[]from rfl];exact Q5.nil _ _ _ _⟩,?_⟩;rintro a8 a9 ba iI o ⟨ah,bb,H,r⟩;obtain⟨i,rfl⟩:=Int.eq_ofNat_of_zero_le ah;simp only[Ze]at r;have ai:=QI.len r;rw[List.length_range]at ai
  intros
  refine Q0 (fun I=> ?_) (fun I=> ?_)
  ·simp only[Za]at I
   intro bc be aj;obtain⟨p',c',ak,hr,al,hu⟩:=QI.push r aj H.size (by omega);rw[w64 (n:=(i:Int)+1) (by omega)];refine⟨_,_,_,ak,hr,⟨by omega,by omega,Q2.new_ext H hu fun y hy=>Q5.blk r hy,by rw[show((i:Int)+1).toNat=i+1 by omega,List.range_succ];exact al⟩,by show((t:Int)-((i:Int)+1)).toNat<((t:Int)-i).toNat;omega⟩
  ·simp only[Zb]at I
   obtain rfl:i=t:=by omega
   have P:=O.trans H;refine⟨⟨Upd.refl _ _, .inl ⟨rfl,List.range i,Pl.first (by omega),QI.nats r,fun W B bh=> ?_⟩⟩,?_⟩
   ·rw[Ze]at B
    have:=B.first_le (N:=257);omega
   rintro J a Q b f ⟨R,hI⟩;simp only[Ze]at hI
   intros
   have d:=P.trans R;refine Q0 (fun hb=> ?_) (fun hb=> ?_)
   ·subst hb
    rcases hI with⟨_,s,hs,C,u⟩|⟨h,_⟩
    rotate_left
    ·cases h
    have S:=hs.len;have ax:=C.1;obtain rfl:a=i:=by omega
    have T:∀x∈s,x<k+m:=fun x hx=>by
     obtain⟨j,L,rfl⟩:=List.getElem_of_mem hx;have:=hs.lt j (by omega);rw[Zj,Zc L]at this;exact this
    have ay:dgs 257 s<257^a:=by
     have:=Qrf (N:=257) (l:=s) fun j L=>by
      have:=hs.lt j (by omega);omega
     rwa [S]at this
    refine(Q8c (c3:=c3) (c4:=c4) (c5:=Q) rfl (h3.ext d) (h4.ext d) C T ae G (by omega)).mono ?_;rintro e az ⟨_,rfl,z,c,px,cx,pd,cd,rfl,K,oc,od,hu⟩;refine⟨_,_,_,_,_,_,_,rfl,Q0 (fun aq=> ?_) (fun U=> ?_)⟩
    ·simp only[Za]at aq
     have hd:Ql5 k m bs ms=some c:=QU6 G ⟨K,by omega⟩;refine⟨d.trans z, .inr (.inr ⟨M,by omega,by omega, .inr ⟨c,hd,px,cx,pd,_,cd,rfl,Q2.base_le oc d.size,Q5.base_le od d.size⟩⟩)⟩
    ·simp only[Zb]at U
     have V:NoW k m (k+m) bs ms s:=QXg rfl S hu U;rw[show(k:Int)+(m:Int)=((k+m:Nat):Int) by omega];have xx:=R.trans z;refine(Qge (c:=Q) (C.ext z) hs G (by omega)).mono ?_;have e0:(if(true:Bool)=true then 257^(a:Int).toNat+1-dgs 257 (rdN f J a)else 0)=257^a+1-dgs 257 s:=by rw[if_pos rfl,C.rd,Ze]
     rintro e X ⟨_,rfl,D,⟨rfl,A⟩|⟨j,p,cc,rfl,L,Y,A,oN⟩⟩
     ·refine⟨_,_,_,_,rfl,⟨xx.trans D, .inr ⟨rfl,fun W B=> ?_⟩⟩,?_⟩
      ·rw[Ze]at B
       rcases hs.last (N:=257) B (by omega) A with e|e
       ·rw[e];exact V
       ·exact u W B e
      ·show(if(false:Bool)=true then _ else 0)<(if(true:Bool)=true then 257^(a:Int).toNat+1-dgs 257 (rdN f J a)else 0)
       rw[e0,if_neg (by simp)];omega
     ·have au:=hs.nxt L Y
      have a1:=hs.nxt_lt (N:=257) (by omega) L;refine⟨_,_,_,_,rfl,⟨xx.trans D, .inl ⟨rfl,nxt s j,by rw[Ze];exact au,QI.nats oN,fun W B av=> ?_⟩⟩,?_⟩
      ·rw[Ze]at B
       rcases hs.between (N:=257) B (by omega) L Y A av with e|e
       ·rw[e];exact V
       ·exact u W B e
      ·show(if(true:Bool)=true then 257^(a:Int).toNat+1-dgs 257 (rdN X p a)else 0)<(if(true:Bool)=true then 257^(a:Int).toNat+1-dgs 257 (rdN f J a)else 0)
       rw[e0,if_pos rfl,(QI.nats oN).rd,Ze];omega
   ·rcases hI with⟨h,_⟩|⟨_,Z⟩
    ·rw[h]at hb;cases hb
    rw[w64 (n:=(i:Int)+1) (by omega)];refine⟨⟨by omega,by omega,rfl,rfl,rfl,d,?_⟩,by show((m:Int)+2-((i:Int)+1)).toNat<((m:Int)+2-i).toNat;omega⟩;rw[show((i:Int)+1).toNat=i+1 by omega];exact QIj Z q
 ·simp only[Zb]at hs
  refine⟨O, .inr (.inr ⟨M,by omega,by omega, .inl ⟨?_,rfl⟩⟩)⟩;rw[Ze,Ze];cases hd:Ql5 k m bs ms with
  |none=>rfl
  |some c=>
   have hc:=Qpf hd;have h1:=q c hc;have h2:=hc.few;omega
theorem QCa{f g:σ}{w:World}{a c3 d c4:Nat}{bs:τ}{ms:List Bool}(j:Q1 w f a bs)(l:QX w g d ms)(k m:Int):
  Calls prog 161 #[int i64 k,int i64 m, .slice f a c3, .slice g d c4] w fun e w'=>∃v,e= .returned v/\Qxe w k m a d bs ms v w':=by
 by_cases i:QZ0 k m
 ·obtain⟨o,p,a3,a4⟩:=i
  obtain⟨K,rfl⟩:=Int.eq_ofNat_of_zero_le (show 0<=k by omega);obtain⟨M,rfl⟩:=Int.eq_ofNat_of_zero_le (show 0<=m by omega);exact Qme j l (by omega) (by omega)
 ·refine F161_calls k m f a c3 g d c4 w (Qxe w k m a d bs ms) (fun _ _ _ _=>True) (fun _ _ _ _=>0) (fun _ _ _ _ _ _ _ _=>True) (fun _ _ _ _ _ _ _ _=>0) (fun _ _ _ _ _ _ _ _=>True) (fun _ _ _ _ _ _ _ _=>0) ?_
  refine(Qu1 k m w).mono ?_;rintro e q ⟨rfl,rfl⟩;rw[Qq1 i];exact⟨_,rfl,Q0 (fun _=>⟨Upd.refl _ _, .inl ⟨i,rfl⟩⟩) fun h=>by simp at h⟩
end Go.Proofs.YtkolafpgbhpdlaaGreat
namespace Go.Proofs.YtkolafpgbhpdlaaGreat
open Go Go.Vc Go.Gf
open Go.IntKind (i64)
open Go.Value (int)
open Go.Proofs.Tryz (prog)
def QD6(w:World)(k n:Nat)(pz:σ):Prop:=∀t,t<n->∀g l c,w.cell? ((at0 k).add t)=some (.slice (some (at0 g)) l c)->pz≠some (at0 g)
theorem Qg.append2{w:World}{base k n i m d:Nat}{q:Addr}{L:Nat->τ}{xs:τ}(h:Qg w base (at0 k) n L)(hi:i<n)(T:Q1 w (some q) m xs)(hm:0<m)(hb:base<=w.heap.size)(hk:base<=k)(Y:(L i).length+m<=1073741824){bz nz cz:Nat}{pz:σ}{zs:τ}(U:Q2 w bz pz nz cz zs)(H:QD6 w k n pz):
  ∃p l c,w.cell? ((at0 k).add i)=some (.slice p l c)/\∃F Z I A,Sem.run prog (Builtin.append_ #[25,25] 25 #[.slice p l c, .slice (some q) m d]) w= .ok (.slice F Z I) A/\QD A ((at0 k).add i)∧
   ∀B,Qt A ((at0 k).add i) (.slice F Z I) B->Qg B base (at0 k) n (fun t=>if t=i then L i++xs else L t)/\(∀w0,Ext w0 w->w0.heap.size<=base->Ext w0 B)∧
    (∃S,Upd S w B/\∀x,S x->∃(cs:Array Value)(e:TypeId)(fz:Nat×Nat),w.heap[x]? =some (Obj.cells cs e fz)/\(e=5\/e=25))/\Q2 B bz pz nz cz zs/\QD6 B k n pz:=by
 obtain⟨cs,J⟩:=h.rowk (by omega);obtain⟨P,G,V⟩:=h.own;have C:i<cs.size:=by
  have u:=(G i hi).1;rw[Qj J]at u;exact(Array.getElem?_eq_some_iff.1 u).1
 obtain⟨r,K⟩:=G i hi;have hl:=Q2.len K;obtain⟨F,I,A,R,o2,M⟩:=Q2.append (d:=d) K T hb (by omega);have af:=T.1;have j:=QA5 QJd 25 K (news:=QE xs) (by rw[Qb];omega) T.cells (Qd1 xs) hm (by unfold maxLen;omega) (by omega) R;have N:∀y,(P i).1=some (at0 y)->∃(cs:Array Value)(e':TypeId)(fz:Nat×Nat),w.heap[y]? =some (Obj.cells cs e' fz)/\e'=5:=fun y O=>Q5.typed K O;have kp:∀{k':Nat}{e:TypeId}{cs:Array Value},e≠5->Q7 w k' e cs->Q7 A k' e cs:=fun o R=>Q7.keep R M fun y O=>by
  obtain⟨a,b,c,d,e⟩:=N y O;exact⟨a,b,c,d,by rw[e];exact o.symm⟩
 have r2:=kp QM.1.symm J;have v:Q7 A k 25 cs:=r2;refine⟨_,_,_,r,F,_,I,A,R,v.live3 C,fun B s3=> ?_⟩;obtain⟨W,Q⟩:=v.set3 s3;have fresh:∀t,t<n->t≠i->∀g,(P t).1=some (at0 g)->F≠some (at0 g):=fun t ht X g f o=>by
  rcases j with e|e
  ·rw[e]at o
   exact V i t hi ht (fun e=>X e.symm) g o f
  ·rw[e]at o
   simp only[Zi,at0,Zv,and_true]at o;have u:=(G t ht).2;rw[f]at u;have:=Q5.lt_heap u;omega
 have apz:∀t,t<n->∀g,(P t).1=some (at0 g)->pz≠some (at0 g):=fun t ht g f o=>H t ht g (P t).2.1 (P t).2.2 (by rw[←f];exact(G t ht).1) o;have z2:Q2 A bz pz nz cz zs:=Q5.upd U M fun g f hS=>apz i hi g hS f;refine⟨⟨fun _=>⟨_,W⟩,fun t=>if t=i then(F,(P i).2.1+m,I)else P t,fun t ht=> ?_,?_⟩,fun w0 D ak=> ?_,⟨fun x=>(P i).1=some (at0 x)\/x=k,Upd.trans (Upd.mono M fun _ _ D=>Or.inl D) Q fun x _ D=>Or.inr D,?_⟩,Q2.apart z2 Q v QM.1.symm,?_⟩
 ·dsimp only
  rw[Qj W,Array.getElem?_setIfInBounds]
  by_cases e:t=i
  ·subst e
   simp only[if_true];rw[if_pos C];exact⟨rfl,Q2.apart o2 Q v QM.1.symm⟩
  ·rw[if_neg (fun z=>e z.symm),if_neg e,if_neg e]
   refine⟨?_,Q2.apart (Q5.upd (G t ht).2 M fun g f hS=> ?_) Q v QM.1.symm⟩
   ·rw[←Qj J]
    exact(G t ht).1
   ·exact V i t hi ht (fun z=>e z.symm) g hS f
 ·intro s t hs ht E g f
  dsimp only at f⊢
  by_cases u:s=i
  ·rw[if_pos u]at f
   rw[if_neg (fun e=>E (u.trans e.symm))];exact fun o=>fresh t ht (fun e=>E (u.trans e.symm)) g o f
  ·rw[if_neg u]at f
   by_cases h6:t=i
   ·rw[if_pos h6];exact fresh s hs u g f
   ·rw[if_neg h6];exact V s t hs ht E g f
 ·exact Q8 (Q2.new_ext D M fun y O=>by have:=Q2.blk K O;omega) (by omega) Q
 ·rintro x (D|rfl)
  ·obtain⟨a,b,c,d,e⟩:=N x D
   exact⟨a,b,c,d, .inl e⟩
  ·exact⟨cs,_,(0,0),J, .inr rfl⟩
 ·intro t ht g l c r o
  rw[Qj W,Array.getElem?_setIfInBounds]at r
  by_cases e:t=i
  ·subst e
   rw[if_pos rfl,if_pos C]at r;simp only[Zi,Value.slice.injEq]at r;obtain⟨r,_⟩:=r;rcases j with z|z
   ·rw[z]at r
    exact apz t ht g r o
   ·rw[z]at r
    simp only[Zi,at0,Zv,and_true]at r;rw[o]at U;have:=Q5.lt_heap U;omega
  ·rw[if_neg (fun z=>e z.symm),←Qj J]at r
   exact H t ht g l c r o
theorem Qt7{H I:σ}{l c3 E c4:Nat}{w:World}{hs:List Bool}{L:List (τ)}(N:QX w H l hs)(O:Qr w I E L){k m:Int}(P:QZ0 k m)(h:(l:Int)=k+m)(Q:(E:Int)=k+m):
  Calls prog 160 #[.slice H l c3, .slice I E c4] w fun e w'=>(∃r:Int,e= .returned (int i64 r)/\((r= -1/\∀s,¬QF2 k m l E hs L s)\/0<=r/\QF2 k m l E hs L r.toNat))/\w'=w:=by
 obtain⟨V,W,a3,a4⟩:=P
 refine(F160_calls H l c3 I E c4 w (fun v w'=>(∃r:Int,v=int i64 r/\((r= -1/\∀s,¬QF2 k m l E hs L s)\/0<=r/\QF2 k m l E hs L r.toNat))/\w'=w)
  (fun _ n i w1=>0<=i/\i<=l/\w1=w/\((n= -1/\∀j:Nat,(j:Int)<i->hs.getD j false=false)\/(0<=n/\(∃j:Nat,(j:Int)<i/\hs.getD j false=true)/\∀j:Nat,(j:Int)<i->hs.getD j false=true->((L.getD j []).length:Int)=n)))
  (fun _ _ i _=>(l-i).toNat) ?_).mono (by rintro e w' ⟨v,rfl,⟨r,rfl,h⟩,R⟩;exact⟨⟨r,rfl,h⟩,R⟩)
 refine⟨⟨by omega,by omega,rfl, .inl ⟨rfl,fun j u=>by omega⟩⟩,?_⟩;rintro n i w1 ⟨o,S,rfl,A⟩
 intros
 refine Q0 (fun p=> ?_) (fun p=> ?_)
 ·simp only[Za]at p
  obtain⟨a,rfl,ha⟩:=N.get (i:=i.toNat) (by omega);obtain⟨b,q,ln,cn,rfl,F,T,U⟩:=O.2 i.toNat (by omega);have J:=T.1;have x:((l:Int)-(i+1)).toNat<((l:Int)-i).toNat:=by omega
  have K:i64.wrap (i+1)=i+1:=w64 (by omega);have B:w1.cell? (a.add (i.toNat*1))=some (.bool (hs.getD i.toNat false)):=by rw[Nat.mul_one];exact ha
  have g:w1.cell? (b.add (i.toNat*1))=some (.slice q ln cn):=by rw[Nat.mul_one];exact F
  refine⟨⟨o,p⟩,_,B,?_⟩;unfold F160_A0;rw[K];refine Q0 (fun hb=> ?_) (fun hb=> ?_)
  ·have go:(∀j:Nat,(j:Int)<i->hs.getD j false=true->((L.getD j []).length:Int)=(ln:Int))->((0<=i+1/\i+1<=l/\w1=w1/\(((ln:Int)= -1/\∀j:Nat,(j:Int)<i+1->hs.getD j false=false)\/(0<=(ln:Int)/\(∃j:Nat,(j:Int)<i+1/\hs.getD j false=true)/\∀j:Nat,(j:Int)<i+1->hs.getD j false=true->((L.getD j []).length:Int)=ln)))∧
      ((l:Int)-(i+1)).toNat<((l:Int)-i).toNat):=by
    intro f;refine⟨⟨by omega,by omega,rfl, .inr ⟨by omega,⟨i.toNat,by omega,hb⟩,fun j u d=> ?_⟩⟩,x⟩
    by_cases y:(j:Int)<i
    ·exact f j y d
    ·rw[show j=i.toNat by omega,←J]
   refine Q0 (fun G=> ?_) (fun G=> ?_)
   ·simp only[Za]at G
    rcases A with⟨A,_⟩|⟨_,M,f⟩
    ·omega
    ·refine⟨⟨o,by omega⟩,q,ln,cn,g,Q0 (fun C=> ?_) (fun C=> ?_)⟩
     ·simp only[Zg,Zb]at C
      refine⟨⟨-1,rfl, .inl ⟨rfl,fun s D=> ?_⟩⟩,rfl⟩;obtain⟨j,u,d⟩:=M;have X:=D.2.2.2 j (by omega) d;have Y:=D.2.2.2 i.toNat (by omega) hb;have Z:=f j u d;omega
     ·simp only[Zf,Za]at C
      refine⟨⟨o,p⟩,_,B,Q0 (fun _=>⟨⟨o,by omega⟩,q,ln,cn,g,go fun j u d=>by rw[f j u d,C]⟩) fun h=> ?_⟩;rw[hb]at h;cases h
   ·simp only[Zb]at G
    rcases A with⟨_,z⟩|⟨A,_⟩
    ·refine⟨⟨o,p⟩,_,B,Q0 (fun _=>⟨⟨o,by omega⟩,q,ln,cn,g,go fun j u d=>by rw[z j u]at d;cases d⟩) fun h=> ?_⟩
     rw[hb]at h;cases h
    ·omega
  ·refine⟨⟨o,p⟩,_,B,Q0 (fun h=>by rw[hb]at h;cases h) fun _=>⟨⟨by omega,by omega,rfl,?_⟩,x⟩⟩
   rcases A with⟨rfl,z⟩|⟨A,⟨j,u,d⟩,f⟩
   ·refine .inl ⟨rfl,fun j u=> ?_⟩
    by_cases y:(j:Int)<i
    ·exact z j y
    ·rw[show j=i.toNat by omega];exact hb
   ·refine .inr ⟨A,⟨j,by omega,d⟩,fun j u d=> ?_⟩
    by_cases y:(j:Int)<i
    ·exact f j y d
    ·rw[show j=i.toNat by omega,hb]at d;cases d
 ·simp only[Zb]at p
  refine⟨⟨n,rfl,?_⟩,rfl⟩;rcases A with⟨rfl,z⟩|⟨A,⟨j,u,d⟩,f⟩
  ·refine .inl ⟨rfl,fun s D=> ?_⟩
   obtain⟨j,u,d⟩:=D.2.2.1;rw[z j (by omega)]at d;cases d
  ·exact .inr ⟨A,h,Q,⟨j,by omega,d⟩,fun j u d=>by have:=f j (by omega) d;omega⟩
end Go.Proofs.YtkolafpgbhpdlaaGreat
namespace Go.Proofs.YtkolafpgbhpdlaaGreat
open Go Go.Vc Go.Gf
open Go.IntKind (i64)
open Go.Value (int)
open Go.Proofs.Tryz (prog)
theorem Qg.apart_new{w0 w:World}{base k n m c:Nat}{p:σ}{L:Nat->τ}{bs:τ}(h:Qg w0 base (at0 k) n L)(f:Ext w0 w)(i:Q2 w w0.heap.size p m c bs):QD6 w k n p:=by
 obtain⟨P,d,_⟩:=h.own;intro t ht g l cc j o;have a:=f.cell (d t ht).1 id;rw[j]at a;simp only[Zi,Value.slice.injEq]at a;have e:=(d t ht).2;rw[←a.1]at e;have:=Q5.lt_heap e;have:=Q2.blk i o;omega
theorem QD6.ext{w w':World}{base k n:Nat}{p:σ}{L:Nat->τ}(h:QD6 w k n p)(e:Qg w base (at0 k) n L)(f:Ext w w'):QD6 w' k n p:=by
 obtain⟨P,a,_⟩:=e.own;intro t ht g l c i;have d:=f.cell (a t ht).1 id;rw[i]at d;exact h t ht g l c (by rw[(a t ht).1,d])
def RSt(w w1:World)(q11 q13:σ)(n:Nat)(Lf:Nat->τ)(ff:Nat->Bool):Prop:=Ext w w1/\∃k11 k13,q11=some (at0 k11)/\q13=some (at0 k13)/\w.heap.size<=k11/\w.heap.size<=k13/\Qg w1 w.heap.size (at0 k11) n Lf/\Q7 w1 k13 4 (Qg3 n ff)
theorem RSt.open_{w w1:World}{d e n:Nat}{Lf:Nat->τ}{ff:Nat->Bool}(h:RSt w w1 (some (at0 d)) (some (at0 e)) n Lf ff):Ext w w1/\w.heap.size<=d/\w.heap.size<=e/\Qg w1 w.heap.size (at0 d) n Lf/\Q7 w1 e 4 (Qg3 n ff):=by
 obtain⟨i,a,b,f,g,j,l,o,p⟩:=h;simp only[Zi,at0,Zv,and_true]at f g;subst f g;exact⟨i,j,l,o,p⟩
def Q93(w:World)(k m:Int)(l3 l4:Nat)(hs:List Bool)(L:List (τ))(v:Value)(w':World):Prop:=Ext w w'∧
 ((¬QZ0 k m/\v= .tuple #[.slice none 0 0, .slice none 0 0,int i64 50])∨
  (QZ0 k m/\(∀s,¬QF2 k m l3 l4 hs L s)/\v= .tuple #[.slice none 0 0, .slice none 0 0,int i64 60])∨
  QZ0 k m/\∃s,QF2 k m l3 l4 hs L s/\(((∃x,x<s/\Ql5 k.toNat m.toNat (QH l3 hs L x) (Ql1 hs)=none)/\v= .tuple #[.slice none 0 0, .slice none 0 0,int i64 100])∨
  ∃cs:List (τ),cs.length=s/\(∀x,x<s->Ql5 k.toNat m.toNat (QH l3 hs L x) (Ql1 hs)=some (cs.getD x []))/\∃ko p2 n2 c2 W,v= .tuple #[.slice (some (at0 ko)) l3 l3, .slice p2 n2 c2,int i64 0]∧
   w.heap.size<=ko/\Qg w' w.heap.size (at0 ko) l3 (fun i=>cs.map fun c=>co c i)/\QI w' w.heap.size p2 n2 c2 W/\W.Pairwise (· < ·)/\∀i,i∈W↔∃x,x<s/\i∈dif l3 (Ql1 hs) (cs.getD x []) (QH l3 hs L x)))
set_option maxRecDepth 20000 in
theorem Qke{p3 p4:σ}{w:World}{k m l3 c3 a c4 s:Nat}{hs:List Bool}{L:List (τ)}(h3:QX w p3 l3 hs)(h4:Qr w p4 a L)(dw:1<=k)(dx:k+m<=256)(Z:QF2 k m l3 a hs L s)(dy:s<=1048576):
  Calls prog 124 #[int i64 (k:Int),int i64 (m:Int), .slice p3 l3 c3, .slice p4 a c4] w fun e w'=>∃v,e= .returned v/\Q93 w k m l3 a hs L v w':=by
 have hk:QZ0 (k:Int) (m:Int):=⟨by omega,by omega,by omega,by omega⟩;have z1:=Z.1;have z2:=Z.2.1;obtain⟨n,hn⟩:∃n,n=k+m:=⟨_,rfl⟩;obtain rfl:l3=n:=by omega
 obtain rfl:a=l3:=by omega
 have d0:=h3.1;refine F124_calls k m p3 a c3 p4 a c4 w (Q93 w k m a a hs L)
  (fun _ a5 _ _ ar _ _ _ x o=>0<=x/\x<=s/\(∀t:Nat,(t:Int)<x->Ql5 k m (QH a hs L t) (Ql1 hs)=some (Q78 k m a hs L t))/\RSt w o a5 ar a (Qw9 k m a hs L x.toNat) (QN4 k m a hs L x.toNat)) (fun _ _ _ _ _ _ _ _ x _=>(s-x).toNat)
  (fun _ _ _ _ _ _ _ x o U H K M f I i z=>0<=i/\i<=a/\Ext o z/\Q2 z o.heap.size U H K ((QH a hs L x.toNat).take i.toNat)/\QX3 z o.heap.size M f I ((Ql1 hs).take i.toNat)) (fun _ _ _ _ _ _ _ _ _ _ _ _ _ _ _ i _=>(a-i).toNat)
  (fun _ a5 _ _ ar _ _ x au a8 a9 ac A ad _ i E=>0<=i/\i<=a/\RSt w E a5 ar a (fun t=>if(t:Int)<i then Qw9 k m a hs L (x.toNat+1) t else Qw9 k m a hs L x.toNat t) (QN4 k m a hs L x.toNat)/\Q2 E w.heap.size au a8 a9 (Q78 k m a hs L x.toNat)/\a8=a∧
   (∀F,a5=some (at0 F)->QD6 E F a au)/\QI E w.heap.size ac A ad (Qm4 k m a hs L x.toNat)) (fun _ _ _ _ _ _ _ _ _ _ _ _ _ _ _ i _=>(a-i).toNat)
  (fun _ _ _ _ ar _ _ x _ A _ E j V=>0<=j/\j<=A/\∃B,ar=some (at0 B)/\Upd (fun y=>y=B) E V/\Q7 V B 4 (Qg3 a fun i=>QN4 k m a hs L x.toNat i||decide (i∈(Qm4 k m a hs L x.toNat).take j.toNat))) (fun _ _ _ _ _ _ _ _ _ A _ _ j _=>(A-j).toNat)
  (fun _ _ _ _ _ _ o p l c i ae=>0<=i/\i<=a/\Ext o ae/\QI ae o.heap.size p l c ((List.range i.toNat).filter (QN4 k m a hs L s))) (fun _ _ _ _ _ _ _ _ _ _ i _=>(a-i).toNat) ?_
 refine(Qu1 k m w).mono ?_;rintro e w5 ⟨rfl,rfl⟩;rw[Q64 hk,w64 (n:=(k:Int)+m) (by omega),show(k:Int)+(m:Int)=(a:Int) by omega,Ze];refine⟨_,rfl,Q0 (fun h=>by simp at h) fun _=>Q0 (fun h=>by simp at h) fun _=>Q0 (fun h=>by simp at h) fun _=> ?_⟩;refine(Qt7 (c3:=c3) (c4:=c4) h3 h4 hk (by omega) (by omega)).mono ?_;rintro e w8 ⟨⟨r,rfl,⟨_,ct⟩|⟨d1,hr⟩⟩,rfl⟩
 ·exact(ct _ Z).elim
 obtain rfl:r=(s:Int):=by have:=hr.one Z;omega
 refine⟨_,rfl,Q0 (fun h=>by simp only[Za]at h;omega) fun _=>⟨⟨by omega,by omega,by omega⟩,fun F d2 ai=>⟨⟨by omega,by omega,by omega⟩,fun B bu aj=> ?_⟩⟩⟩;rw[Q63 25 (.slice none 0 0) (by kernel_rfl) a]at ai;rw[Q63 4 (.bool false) (by kernel_rfl) a]at aj;have cu:=ai.ext.trans aj.ext;have aa:w8.heap.size<=F:=by rw[ai.size.1];exact Nat.le_refl _
 have ak:w8.heap.size<=B:=by rw[aj.size.1];have:=ai.size.2;omega
 have bh:Q7 bu F 25 (List.replicate a (.slice none 0 0)).toArray:=aj.ext.keep ai.at;have bv:Q7 bu B 4 (Qg3 a (QN4 k m a hs L 0)):=by
  have e:Qg3 a (QN4 k m a hs L 0)=(List.replicate a (Value.bool false)).toArray:=by
   unfold Qg3
   congr 1
   refine List.ext_getElem (by simp) fun i h1 h2=> ?_;simp[QN4]
  rw[e];exact aj.at
 refine⟨⟨by omega,by omega,fun t ht=>by omega,cu,F,B,rfl,rfl,aa,ak,⟨fun _=>⟨_,bh⟩,fun _=>(none,0,0),fun i hi=>⟨?_,?_⟩,fun _ _ _ _ _ g hg=>by cases hg⟩,bv⟩,?_⟩
 ·rw[Qj bh];simp[hi]
 ·have e:Qw9 k m a hs L (0:Int).toNat i=[]:=rfl
  rw[e];exact Q5.nil _ _ _ _
 clear bh bv ai aj;rintro xI o ⟨cw,d4,bb,av⟩;obtain⟨x,rfl⟩:=Int.eq_ofNat_of_zero_le cw;simp only[Ze]at av;obtain⟨af,aa,ak,hR,hF⟩:=av.open_
 intros
 refine Q0 (fun bi=> ?_) (fun bi=> ?_)
 ·simp only[Za]at bi
  refine⟨⟨by omega,by omega,Upd.refl _ _,?_,?_⟩,?_⟩
  ·rw[show(QH a hs L (x:Int).toNat).take (0:Int).toNat=[]from rfl];exact Q5.nil _ _ _ _
  ·rw[show(Ql1 hs).take (0:Int).toNat=[]from rfl];exact Q5.nil _ _ _ _
  rintro U H K M f I iI z ⟨G,bw,N,oB,oF⟩;obtain⟨i,rfl⟩:=Int.eq_ofNat_of_zero_le G;simp only[Ze]at oB oF;have lB:=Q2.len oB;rw[List.length_take,QT2]at lB;have lF:=QX3.len oF;rw[List.length_take,show(Ql1 hs).length=a by simp[Ql1];omega]at lF;have D:=af.trans N
  intros
  refine Q0 (fun u=> ?_) (fun u=> ?_)
  ·simp only[Za]at u
   obtain⟨a3,rfl,cy⟩:=(h3.ext D).get (i:=i) (by omega);have tail:∀(W:Nat)(X:World)(b:UInt8),b=co (QH a hs L x) i->QG z W (.cells #[vb b] 5) X->F124_A0 U H K W X (i:Int) a (some a3) M f I (s:Int) F k m B (x:Int) o z (Q93 w8 k m a a hs L) (fun _ _ _ _ _ _ _ _ _ _=>True) (fun _ _ _ _ _ _ _ _ _ _=>0)
    (fun _ _ _ _ _ _ _ x o U H K M f I i z=>0<=i/\i<=a/\Ext o z/\Q2 z o.heap.size U H K ((QH a hs L x.toNat).take i.toNat)/\QX3 z o.heap.size M f I ((Ql1 hs).take i.toNat)) (fun _ _ _ _ _ _ _ _ _ _ _ _ _ _ _ i _=>(a-i).toNat)
    (fun _ _ _ _ _ _ _ _ _ _ _ _ _ _ _ _ _=>True) (fun _ _ _ _ _ _ _ _ _ _ _ _ _ _ _ _ _=>0) (fun _ _ _ _ _ _ _ _ _ _ _ _ _ _=>True) (fun _ _ _ _ _ _ _ _ _ _ _ _ _ _=>0) (fun _ _ _ _ _ _ _ _ _ _ _ _=>True) (fun _ _ _ _ _ _ _ _ _ _ _ _=>0):=by
    rintro W X b rfl aw;unfold F124_A0;obtain⟨p',c',ax,hr,oB',uB⟩:=Q2.push oB aw N.size (by omega);have ay:Ext o ax:=Q2.new_ext N uB fun y J=>Q2.blk oB J;have oF166:QX3 ax o.heap.size M f I ((Ql1 hs).take i):=Q5.other oF uB fun y J=>by
     obtain⟨cs,e',fz,h7,h8⟩:=Q5.typed oB J;exact⟨cs,e',fz,h7,by rw[h8];exact Qg0.1.symm⟩
    obtain⟨d5,e,bz⟩:=(h3.ext (af.trans ay)).get (i:=i) (by omega);cases e;refine⟨_,_,_,ax,hr,⟨G,by omega⟩,_,by rw[Ze,Nat.mul_one];exact bz,fun df dg b0=> ?_⟩;obtain⟨p2,c2,bc,c6,oF',uF⟩:=QX3.push oF166 b0 ay.size (by omega);have b1:Ext o bc:=Q2.new_ext ay uF fun y J=>Q5.blk oF166 J;have oB172:=Q2.other oB' uF fun y J=>by
     obtain⟨cs,e',fz,h7,h8⟩:=Q5.typed oF166 J;exact⟨cs,e',fz,h7,by rw[h8];exact Qg0.1⟩
    rw[w64 (n:=(i:Int)+1) (by omega)];refine⟨_,_,_,bc,c6,⟨by omega,by omega,b1,?_,?_⟩,by show((a:Int)-((i:Int)+1)).toNat<((a:Int)-i).toNat;omega⟩
    ·have e:(QH a hs L (x:Int).toNat).take ((i:Int)+1).toNat=(QH a hs L x).take i++ [co (QH a hs L x) i]:=by
      rw[Ze,show((i:Int)+1).toNat=i+1 by omega,Zn,Zc (by rw[QT2];omega)];simp[Gf.co,Zj,Zc (show i<(QH a hs L x).length by rw[QT2];omega)]
     rw[e];exact oB172
    ·have e:(Ql1 hs).take ((i:Int)+1).toNat=(Ql1 hs).take i++ [!hs.getD i false]:=by
      rw[show((i:Int)+1).toNat=i+1 by omega,Zn,Zc (by simp[Ql1];omega)];simp[Ql1,Zj,Zc (show i<hs.length by omega)]
     rw[e];exact oF'
   have b2:=QN6 (hs:=hs) (L:=L) (i:=x) (show i<a by omega);refine⟨⟨G,u⟩,_,by rw[Ze,Nat.mul_one];exact cy,Q0 (fun hb=> ?_) (fun hb=> ?_)⟩
   ·have a6:hs.getD i false=true:=hb
    obtain⟨a4,q,ln,cn,rfl,hc,hq,_⟩:=(h4.ext D).2 i (by omega);have di:=Z.2.2.2 i (by omega) a6;have d7:=hq.1;obtain⟨aq,rfl,c7⟩:=Q1.co hq (i:=x) (by omega);refine⟨⟨G,by omega⟩,some aq,ln,cn,by rw[Ze,Nat.mul_one];exact hc,⟨by omega,by omega⟩,_,by rw[Ze,Nat.mul_one];exact c7,fun W X aw=> ?_⟩;exact tail W X _ (by rw[b2,if_pos a6]) aw
   ·have a6:hs.getD i false=false:=hb
    intro b3 b4 b5;exact tail b3 b4 0 (by rw[b2,a6,if_neg (by simp)]) b5
  ·simp only[Zb]at u
   obtain rfl:i=a:=by omega
   rw[Zh (by rw[QT2];omega)]at oB;rw[Zh (by simp[Ql1];omega)]at oF;obtain rfl:H=i:=by omega
   obtain rfl:f=H:=by omega
   refine(QCa (c3:=K) (c4:=I) (Q2.bytes oB) (QX3.flags oF) k m).mono ?_;rintro e dj ⟨_,rfl,Y,⟨h,_⟩|⟨_,h,_⟩|⟨_,_,_,⟨hd,rfl⟩|⟨c,hd,au,a9,ac,A,ad,rfl,oC,oD⟩⟩⟩
   ·exact(h hk).elim
   ·exact(h ⟨by omega,by omega⟩).elim
   ·refine⟨_,_,_,_,_,_,_,rfl,Q0 (fun _=> ?_) (fun h=>by simp at h)⟩
    exact⟨D.trans Y, .inr (.inr ⟨hk,s,Z, .inl ⟨⟨x,by omega,hd⟩,rfl⟩⟩)⟩
   simp only[Ze]at hd oD;have bj:Q78 k m f hs L x=c:=by unfold Q78;rw[hd];rfl
   have c8:Qm4 k m f hs L x=dif (k+m) (Ql1 hs) c (QH f hs L x):=by unfold Qm4;rw[bj,hn]
   rw[←bj]at oC;rw[←c8]at oD;have lD:=QI.len oD;have bk:=D.trans Y;refine⟨_,_,_,_,_,_,_,rfl,Q0 (fun h=>by simp at h) fun _=> ?_⟩;refine⟨⟨by omega,by omega,⟨bk,F,B,rfl,rfl,aa,ak,((hR.ext N).ext Y).congr fun t ht=>by rw[if_neg (by omega)];rfl,Y.keep (N.keep hF)⟩,Q2.base_le oC D.size,rfl,fun b7 e=> ?_,Q5.base_le oD D.size⟩,?_⟩
   ·simp only[Zi,at0,Zv,and_true]at e
    subst e;exact(hR.ext N).apart_new Y oC
   clear oC oD;rintro iI E ⟨G,bw,av,oC,_,bm,oD⟩;obtain⟨i,rfl⟩:=Int.eq_ofNat_of_zero_le G;simp only[Ze]at av oC oD;obtain⟨az,_,_,hR4,hF4⟩:=av.open_;have bm:=bm F rfl
   intros
   refine Q0 (fun u=> ?_) (fun u=> ?_)
   ·simp only[Za]at u
    intro b8 am;have a0:=az.trans am.ext;have hR5:=hR4.ext am.ext;have b9:=bm.ext hR4 am.ext;have oC5:=Q2.ext oC am.ext;have oD5:QI b8 w8.heap.size ac A ad (Qm4 k m f hs L x):=Q5.ext oD am.ext;obtain⟨P,g3,_⟩:=hR5.own;have Q:=(g3 i (by omega)).1;obtain⟨aC,rfl,c9⟩:=Q1.co (Q2.bytes oC5) (i:=i) (by omega);refine⟨⟨G,u⟩,_,_,_,by rw[Ze,Nat.mul_one];exact Q,⟨G,u⟩,_,by rw[Ze,Nat.mul_one];exact c9,fun dk dl C=> ?_⟩;have ca:=QG1 (bs:=[co (Q78 k m f hs L x) i]) C (by unfold maxLen;simp);have hR6:=hR5.ext C.ext;obtain⟨p0,l0,c0,R,p',l',c',w2,hr,bn,cb⟩:=hR6.append2 (i:=i) (m:=1) (d:=1) (by omega) (Q2.bytes ca) (by omega) (a0.trans C.ext).size aa (by rw[if_neg (by omega),Qs2];omega) (Q2.ext oC5 C.ext) (b9.ext hR5 C.ext);have T:=C.ext.cell Q id;rw[R]at T;simp only[Zi,Value.slice.injEq]at T;obtain⟨e1,e2,e3⟩:=T;rw[e1,e2,e3]at R hr;refine⟨⟨_,_,_,by rw[Ze,Nat.mul_one];exact R,rfl⟩,p',l',c',w2,hr,⟨G,u⟩,by rw[Ze,Nat.mul_one];exact bn,fun cc be=> ?_⟩;rw[Ze,Nat.mul_one]at be;obtain⟨hR7,hX,⟨S,hU,hS⟩,oC7,cf⟩:=cb cc be;rw[w64 (n:=(i:Int)+1) (by omega)];refine⟨⟨by omega,by omega,⟨hX w8 (a0.trans C.ext) (Nat.le_refl _),F,B,rfl,rfl,aa,ak,hR7.congr fun t ht=> ?_,?_⟩,oC7,rfl,fun b7 e=> ?_,?_⟩,by show((f:Int)-((i:Int)+1)).toNat<((f:Int)-i).toNat;omega⟩
    ·rw[Ze]
     by_cases e:t=i
     ·subst e
      rw[if_pos (by omega),if_pos rfl,if_neg (by omega),QIg]
     ·rw[if_neg e]
      by_cases e2:(t:Int)<i
      ·rw[if_pos (by omega),if_pos e2]
      ·rw[if_neg (by omega),if_neg e2]
    ·rw[Ze]
     refine Q7.keep (C.ext.keep (am.ext.keep hF4)) hU fun y J=> ?_;obtain⟨cs,e',fz,h7,h8⟩:=hS y J;rcases h8 with rfl|rfl
     ·exact⟨cs,_,fz,h7,Qg0.1.symm⟩
     ·exact⟨cs,_,fz,h7,Qg0.2.1.symm⟩
    ·simp only[Zi,at0,Zv,and_true]at e
     subst e;exact cf
    ·refine Q5.other (Q5.ext oD5 C.ext) hU fun y J=> ?_
     obtain⟨cs,e',fz,h7,h8⟩:=hS y J;rcases h8 with rfl|rfl
     ·exact⟨cs,_,fz,h7,ity.1.symm⟩
     ·exact⟨cs,_,fz,h7,QO1.2.1.symm⟩
   ·simp only[Zb]at u
    obtain rfl:i=f:=by omega
    refine⟨⟨by omega,by omega,B,rfl,Upd.refl _ _,?_⟩,?_⟩
    ·have e:(fun i'=>QN4 k m i hs L (x:Int).toNat i'||decide (i'∈(Qm4 k m i hs L (x:Int).toNat).take (0:Int).toNat))=QN4 k m i hs L x:=by
      funext i'
      rw[Ze,show(Qm4 k m i hs L x).take (0:Int).toNat=[]from rfl];simp
     rw[e];exact hF4
    rintro jI V ⟨cg,ee,dn,ch,ah,hF7⟩;simp only[Zi,at0,Zv,and_true]at ch;subst ch;obtain⟨j,rfl⟩:=Int.eq_ofNat_of_zero_le cg;simp only[Ze]at hF7
    intros
    have bo:Ext w8 V:=Q8 az ak ah;have ldd:(Qm4 k m i hs L x).length<=i:=Qm5;have tyF:∀y,y=B->∃(cs:Array Value)(e:TypeId)(fz:Nat×Nat),E.heap[y]? =some (Obj.cells cs e fz)/\e=4:=by rintro y rfl;exact⟨_,_,(0,0),hF4,rfl⟩
    refine Q0 (fun a7=> ?_) (fun a7=> ?_)
    ·simp only[Za]at a7
     have oD7:QI V w8.heap.size ac A ad (Qm4 k m i hs L x):=Q5.other oD ah fun y J=>by
      obtain⟨cs,e,fz,h7,h8⟩:=tyF y J;exact⟨cs,e,fz,h7,by rw[h8];exact ity.2.symm⟩
     obtain⟨aD,rfl,da⟩:=(QI.nats oD7).get (i:=j) (by omega);have db:(Qm4 k m i hs L x).getD j 0<i:=by
      rw[Zj,Zc (by omega)];have:=List.getElem_mem (l:=Qm4 k m i hs L x) (show j<(Qm4 k m i hs L x).length by omega);simp only[Qm4,dif,List.mem_filter,List.mem_range]at this;exact this.1
     refine⟨⟨cg,a7⟩,_,by rw[Ze,Nat.mul_one];exact da,⟨by omega,by omega⟩,by rw[Ze,Nat.mul_one];exact hF7.live3 (by simp[Qg3];exact db),fun dq bf=> ?_⟩;rw[Ze,Nat.mul_one]at bf;obtain⟨bg,ci⟩:=hF7.set3 bf;rw[QGh]at bg;rw[w64 (n:=(j:Int)+1) (by omega)];refine⟨⟨by omega,by omega,B,rfl,Upd.trans ah ci fun _ _ h=>h,?_⟩,by show((A:Int)-((j:Int)+1)).toNat<((A:Int)-j).toNat;omega⟩;have e:(fun i'=>QN4 k m i hs L (x:Int).toNat i'||decide (i'∈(Qm4 k m i hs L (x:Int).toNat).take ((j:Int)+1).toNat))=fun i'=>(QN4 k m i hs L x i'||decide (i'∈(Qm4 k m i hs L x).take j))||decide (i'=(Qm4 k m i hs L x).getD j 0):=by
      funext i'
      have e2:(Qm4 k m i hs L x).take (j+1)=(Qm4 k m i hs L x).take j++ [(Qm4 k m i hs L x).getD j 0]:=by
       rw[Zn,Zc (by omega)];simp[Zj,Zc (show j<(Qm4 k m i hs L x).length by omega)]
      rw[Ze,show((j:Int)+1).toNat=j+1 by omega,e2,Bool.or_assoc]
      congr 1
      simp[List.mem_append,Bool.decide_or]
     rw[e];exact bg
    ·simp only[Zb]at a7
     have etk:(Qm4 k m i hs L x).take j=Qm4 k m i hs L x:=Zh (by omega);simp only[etk,Ze]at hF7;rw[w64 (n:=(x:Int)+1) (by omega)];have a1:((x:Int)+1).toNat=x+1:=by omega
     refine⟨⟨by omega,by omega,fun t ht=> ?_,bo,F,B,rfl,rfl,aa,ak,?_,?_⟩,by show((s:Int)-((x:Int)+1)).toNat<((s:Int)-x).toNat;omega⟩
     ·by_cases e:t<x
      ·exact bb t (by omega)
      ·obtain rfl:t=x:=by omega
       rw[bj];exact hd
     ·rw[a1]
      refine(hR4.otherT ah fun y J=> ?_).congr fun t ht=>by rw[if_pos (by omega)]
      obtain⟨cs,e,fz,h7,h8⟩:=tyF y J;exact⟨cs,e,fz,h7,by rw[h8];exact Qg0.1,by rw[h8];exact Qg0.2.1⟩
     ·rw[a1]
      have e:QN4 k m i hs L (x+1)=fun i'=>QN4 k m i hs L x i'||decide (i'∈Qm4 k m i hs L x):=by funext i';exact QEf _ _ _ _ _ _ _
      rw[e];exact hF7
 ·simp only[Zb]at bi
  obtain rfl:x=s:=by omega
  refine⟨⟨by omega,by omega,Upd.refl _ _,by rw[show(List.range (0:Int).toNat).filter (QN4 k m a hs L x)=[]from rfl];exact Q5.nil _ _ _ _⟩,?_⟩;rintro p l c iI ae ⟨G,bw,O,oN⟩;obtain⟨i,rfl⟩:=Int.eq_ofNat_of_zero_le G;simp only[Ze]at oN;have lN:=QI.len oN;have ef:((List.range i).filter (QN4 k m a hs L x)).length<=i:=Zu (List.length_filter_le _ _) (by simp)
  intros
  refine Q0 (fun u=> ?_) (fun u=> ?_)
  ·simp only[Za]at u
   have hF7:Q7 ae B 4 (Qg3 a (QN4 k m a hs L x)):=O.keep hF;have Q:=hF7.cell3 (QH3 (ff:=QN4 k m a hs L x) (show i<a by omega));have a1:((i:Int)+1).toNat=i+1:=by omega
   have a2:((a:Int)-((i:Int)+1)).toNat<((a:Int)-i).toNat:=by omega
   rw[w64 (n:=(i:Int)+1) (by omega)];refine⟨⟨G,u⟩,_,by rw[Ze,Nat.mul_one];exact Q,Q0 (fun hb=> ?_) (fun hb=> ?_)⟩
   ·intro ds dt ck
    obtain⟨p',c',cm,hr,oN',hu⟩:=QI.push oN ck O.size (by omega);refine⟨_,_,_,cm,hr,⟨by omega,by omega,Q2.new_ext O hu fun y J=>Q5.blk oN J,?_⟩,a2⟩;rw[a1,Qi,if_pos hb];exact oN'
   ·refine⟨⟨by omega,by omega,O,?_⟩,a2⟩
    rw[a1,Qi,hb,if_neg (by simp),List.append_nil];exact oN
  ·simp only[Zb]at u
   obtain rfl:i=a:=by omega
   have bp:∀t,t<x->((List.range x).map (Q78 k m i hs L)).getD t []=Q78 k m i hs L t:=fun t ht=>by simp[Zj,ht]
   refine⟨af.trans O, .inr (.inr ⟨hk,x,Z, .inr ⟨(List.range x).map (Q78 k m i hs L),by simp,fun t ht=> ?_,F,p,l,c,_,rfl,aa,(hR.ext O).congr fun t ht=> ?_,Q5.base_le oN af.size,List.Pairwise.filter _ List.pairwise_lt_range,fun t=> ?_⟩⟩)⟩
   ·rw[bp t ht];exact bb t (by omega)
   ·rw[List.map_map];rfl
   ·simp only[List.mem_filter,List.mem_range,Qr6]
    constructor
    ·rintro⟨_,y,J,h⟩
     exact⟨y,J,by rw[bp y J];exact h⟩
    ·rintro⟨y,J,h⟩
     rw[bp y J]at h;have h':=h;simp only[dif,List.mem_filter,List.mem_range]at h';exact⟨h'.1,y,J,h⟩
theorem QAa{o p:σ}{w:World}{f c3 g c4:Nat}{hs:List Bool}{L:List (τ)}(u:QX w o f hs)(q:Qr w p g L)(k m:Int)(bl:∀x∈L,x.length<=1048576):
  Calls prog 124 #[int i64 k,int i64 m, .slice o f c3, .slice p g c4] w fun e w'=>∃v,e= .returned v/\Q93 w k m f g hs L v w':=by
 have trivial_:((¬QZ0 k m)\/QZ0 k m/\∀s,¬QF2 k m f g hs L s)->Calls prog 124 #[int i64 k,int i64 m, .slice o f c3, .slice p g c4] w fun e w'=>∃v,e= .returned v/\Q93 w k m f g hs L v w':=by
  intro j;refine F124_calls k m o f c3 p g c4 w (Q93 w k m f g hs L) (fun _ _ _ _ _ _ _ _ _ _=>True) (fun _ _ _ _ _ _ _ _ _ _=>0) (fun _ _ _ _ _ _ _ _ _ _ _ _ _ _ _ _ _=>True) (fun _ _ _ _ _ _ _ _ _ _ _ _ _ _ _ _ _=>0)
   (fun _ _ _ _ _ _ _ _ _ _ _ _ _ _ _ _ _=>True) (fun _ _ _ _ _ _ _ _ _ _ _ _ _ _ _ _ _=>0) (fun _ _ _ _ _ _ _ _ _ _ _ _ _ _=>True) (fun _ _ _ _ _ _ _ _ _ _ _ _ _ _=>0) (fun _ _ _ _ _ _ _ _ _ _ _ _=>True) (fun _ _ _ _ _ _ _ _ _ _ _ _=>0) ?_
  refine(Qu1 k m w).mono ?_;rintro e y ⟨rfl,rfl⟩;rcases j with d|⟨d,l⟩
  ·rw[Qq1 d]
   exact⟨_,rfl,Q0 (fun _=>⟨Upd.refl _ _, .inl ⟨d,rfl⟩⟩) fun h=>by simp at h⟩
  ·obtain⟨z,A,a3,a4⟩:=d
   have d:QZ0 k m:=⟨z,A,a3,a4⟩;have fin:Q93 y k m f g hs L (.tuple #[.slice none 0 0, .slice none 0 0,int i64 60]) y:=⟨Upd.refl _ _, .inr (.inl ⟨d,l,rfl⟩)⟩;rw[Q64 d,w64 (n:=k+m) (by omega)];refine⟨_,rfl,Q0 (fun h=>by simp at h) fun _=>Q0 (fun h=>fin) fun B=>Q0 (fun h=>fin) fun C=> ?_⟩;simp only[Zf,Za]at B C;refine(Qt7 (c3:=c3) (c4:=c4) u q d B C).mono ?_;rintro e w8 ⟨⟨r,rfl,⟨rfl,_⟩|⟨D,E⟩⟩,rfl⟩
   ·exact⟨_,rfl,Q0 (fun _=>fin) fun h=>by simp at h⟩
   ·exact(l _ E).elim
 by_cases d:QZ0 k m
 ·by_cases a:∃s,QF2 k m f g hs L s
  ·obtain⟨s,a⟩:=a
   obtain⟨z,A,a3,a4⟩:=d;obtain⟨K,rfl⟩:=Int.eq_ofNat_of_zero_le (show 0<=k by omega);obtain⟨M,rfl⟩:=Int.eq_ofNat_of_zero_le (show 0<=m by omega);refine Qke u q (by omega) (by omega) a ?_;obtain⟨i,hi,hb⟩:=a.2.2.1;have F:=q.1;have G:=a.1;have H:=a.2.1;rw[←a.2.2.2 i hi hb,Zj,Zc (by omega)];exact bl _ (List.getElem_mem _)
  ·exact trivial_ (.inr ⟨d,fun s h=>a ⟨s,h⟩⟩)
 ·exact trivial_ (.inl d)
end Go.Proofs.YtkolafpgbhpdlaaGreat
