import Derived.Test.YtkolafpgbhpdlaaGreatMS
import Derived.Test.YtkolafpgbhpdlaaGreatJN
import Derived.Test.YtkolafpgbhpdlaaGreatMA
set_option maxHeartbeats 4000000
namespace Go.Proofs.YtkolafpgbhpdlaaGreat
open Go Go.Vc Go.Gf
open Go.IntKind (i64)
open Go.Value (int)
open Go.Proofs.Tryz (prog)
theorem Q27{B:Nat}{w':World}{v:Value}{l:τ}(h:Lib.FreshBytes B w' v l):∃g cap,v= .slice (some (at0 g)) l.length cap/\B<=g/\Q1 w' (some (at0 g)) l.length l/\l.length<=cap:=by
 obtain⟨g,cap,zs,rfl,t,o,_,C,x,hb,y,_⟩:=h;refine⟨g,cap,rfl,t,Q1.of_cells fun j u m=> ?_,o⟩;have f:j<l.length:=by
  have:=(Zd.1 m).1;rw[Qb]at this;exact this
 refine⟨_,rfl,?_⟩;have p:=y j (by omega);rw[show(at0 g).add j=⟨g,j,none⟩ by show(⟨g,0,none⟩:Addr).add j=_;rw[QH6,Nat.zero_add],p];have k:j<zs.length:=by omega
 have z:u=vb l[j]:=by
  unfold QE at m;rw[Zq,Zc f]at m;exact(Option.some.inj m).symm
 have q:l[j]=UInt8.ofNat (zs[j]).toNat:=by
  have r:(Lib.bytesOf (zs.take l.length))[j]? =l[j]? :=by rw[hb]
  unfold Lib.bytesOf at r;rw[Zq,List.getElem?_take,if_pos f,Zc k,Zc f]at r;exact(Option.some.inj r).symm
 have A:=x zs[j] (List.getElem_mem _);rw[z,q,show zs.getD j 0=zs[j] by simp[Zj,k]]
 congr 2
 show zs[j]=((UInt8.ofNat zs[j].toNat).toNat:Int)
 rw[UInt8.toNat_ofNat'];omega
theorem QPh{w:World}{p:σ}{n c:Nat}{bs:τ}(h:Q1 w p n bs):Lib.HoldsBytes w (.slice p n c) bs:=by
 obtain⟨rfl,l⟩:=h;refine⟨p,c,rfl,fun m=> ?_,fun a ha i x k=> ?_⟩
 ·by_cases e:bs=[]
  ·exact e
  ·obtain⟨a,ha,_⟩:=l e
   rw[m]at ha;cases ha
 ·obtain⟨q,f,o⟩:=l (by intro e;rw[e]at k;simp at k)
  rw[ha]at f;cases f;have hi:=(Zd.1 k).1;rw[o i hi]
  congr 3
  rw[Zj,k];rfl
theorem QTc(L:List (τ)):Lib.join L []=L.flatten:=by
 show [].intercalate L=_
 induction L with
 |nil=>rfl
 |cons x L ih=>cases L with
  |nil=>simp[List.intercalate]
  |cons y L=>simp[List.intercalate,List.intersperse]at ih⊢;exact ih
theorem Q2g(L:List (τ)):Lib.lens L=L.flatten.length:=by simp[Lib.lens,List.length_flatten]
theorem QO8{n S:Nat}{L:Nat->τ}(hL:∀i,i<n->(L i).length=S):(((List.range n).map L).flatten).length=n*S:=by
 rw[List.length_flatten,List.map_map];have:(List.range n).map (List.length∘L)=(List.range n).map fun _=>S:=List.map_congr_left fun i hi=>hL i (List.mem_range.1 hi);rw[this,List.map_const',List.length_range,List.sum_replicate_nat]
theorem QZf{w:World}{base k n c S:Nat}{L:Nat->τ}(h:Qg w base (at0 k) n L)(T:1<=n)(hS:1<=S)(hb:n*S<=1048576)(J:n<=c)(hL:∀i,i<n->(L i).length=S):
  Calls prog 34 #[.slice (some (at0 k)) n c, .slice none 0 0] w fun e w'=>∃g D,e= .returned (.slice (some (at0 g)) (n*S) D)/\Ext w w'/\w.heap.size<=g/\Q1 w' (some (at0 g)) (n*S) (((List.range n).map L).flatten)/\n*S<=D:=by
 obtain⟨P,z,_⟩:=h.own;have o:=QO8 hL
 by_cases K:2<=n
 ·have M:Lib.PartsAt w ⟨k,0,none⟩ ((List.range n).map fun i=> .slice (P i).1 (P i).2.1 (P i).2.2) ((List.range n).map L):=by
   refine⟨by simp,fun i v p=> ?_,fun i v l p E=> ?_⟩
   ·by_cases hi:i<n
    ·rw[Zq,List.getElem?_range hi]at p
     cases p;exact(z i hi).1
    ·rw[Zr (by simp;omega)]at p;cases p
   ·by_cases hi:i<n
    ·rw[Zq,List.getElem?_range hi]at p E
     cases p;cases E;exact QPh (Q2.bytes (z i hi).2)
    ·rw[Zr (by simp;omega)]at p;cases p
  have O:n*1<=n*S:=Nat.mul_le_mul_left n hS;refine(Any.bytes_Join_many QHk k 0 n c _ _ (.slice none 0 0) [] w (by simp) K M J ⟨none,0,rfl,fun _=>rfl,fun a ha=>by cases ha⟩ (by omega) (by rw[Q2g,o];simp;omega)).mono ?_;rintro e w' ⟨v,rfl,A,q⟩;obtain⟨g,cap,rfl,B,m,f⟩:=Q27 A;rw[QTc]at m f;rw[QTc];rw[o]at m f⊢;exact⟨g,cap,rfl,Ext.of_below q,B,m,f⟩
 ·obtain rfl:n=1:=by omega
  have t:=z 0 (by omega);have u:=Q2.bytes t.2;have G:=hL 0 (by omega);have Q:((List.range 1).map L).flatten=L 0:=by simp
  rw[Q]at o⊢;obtain⟨ad,C,r⟩:=u.2 (by intro e;rw[e]at G;simp at G;omega);have y:=t.1;rw[C,u.1]at y;refine(Any.bytes_Join_one QHk k 0 c ad _ (L 0) (.slice none 0 0) w y (fun i x I=> ?_) (by omega) (by omega)).mono ?_
  ·have hi:=(Zd.1 I).1
   rw[r i hi,Zj,I];rfl
  rintro e w' ⟨v,rfl,A,q⟩;obtain⟨g,cap,rfl,B,m,f⟩:=Q27 A;rw[o]at m f⊢;exact⟨g,cap,rfl,Ext.of_below q,B,m,f⟩
noncomputable def Qob(s:StA)(g:Geo)(i e:Int):τ:=((List.range g.k.toNat).map (Qw9 g.k.toNat g.m.toNat (nG g) (hsL s g i e) (shL s g i) g.size.toNat)).flatten
theorem Qmf(s:StA)(g:Geo)(i e:Int):(Qob s g i e).length=g.k.toNat*g.size.toNat:=QO8 fun i _=>Qs2 _ _ _ _ _ _ _
def QJa(pf:σ)(a:Nat)(s:StA)(g:Geo)(i e:Int)(w:World)(v:Value)(w':World):Prop:=Ext w w'∧
 ((Q11 (some (at0 a)) pf g i e≠0/\v= .tuple #[.slice none 0 0, .slice none 0 0,int i64 (Q11 (some (at0 a)) pf g i e)])∨
  (Q11 (some (at0 a)) pf g i e=0/\((s.down=true/\v= .tuple #[.slice none 0 0, .slice none 0 0,int i64 130])∨
  (s.down=false/\¬QU0 s g i e/\v= .tuple #[.slice none 0 0, .slice none 0 0,int i64 150])∨
  (s.down=false/\QU0 s g i e/\∃gd cd p2 n2 c2,v= .tuple #[.slice (some (at0 gd)) (g.k.toNat*g.size.toNat) cd, .slice p2 n2 c2,int i64 0]/\w.heap.size<=gd∧
   Q1 w' (some (at0 gd)) (g.k.toNat*g.size.toNat) (Qob s g i e)/\g.k.toNat*g.size.toNat<=cd/\QI w' w.heap.size p2 n2 c2 ((List.range (nG g)).filter (Qi3 s g i e))))))
set_option maxRecDepth 20000 in
theorem QT3{w:World}{a:Nat}{s:StA}{F:Nat->Prop}(h:IsA w a s F)(ho:OkA s){pf:σ}(hf:Qm w pf)(g:Geo)(i e:Int):
  Calls prog 11 #[.pointer (some (at0 a)), .pointer pf,gV g,int i64 i,int i64 e] w fun J w'=>∃v,J= .returned v/\QJa pf a s g i e w v w':=by
 refine F11_calls (some (at0 a)) pf g.k g.m g.size g.stripes g.slots g.objects i e w (QJa pf a s g i e w) ?_;intro r K t;have r12:RowW K r #[int i64 g.k,int i64 g.m,int i64 g.size,int i64 g.stripes,int i64 g.slots,int i64 g.objects]:=⟨_,t.at⟩;refine⟨_,r12.row.cell (n:=0) rfl,_,r12.c rfl,_,r12.c rfl,_,r12.c rfl,_,r12.c rfl,_,r12.c rfl,fun L ae M=>Q59 M fun O f u=> ?_⟩;have Q:=t.ext.trans u;refine⟨_,f.row.cell (n:=0) rfl,_,f.c rfl,_,f.c rfl,_,f.c rfl,_,f.c rfl,_,f.c rfl,_,f.c rfl,_,f.c rfl,_,f.c rfl,_,f.c rfl,(Qy4 (some (at0 a)) pf g i e O).mono ?_⟩;rintro J x ⟨rfl,q⟩;have l:=Q.trans q;have r41:RowW x L (lnC (some (at0 a)) pf g i e):=q.rowW f id;refine⟨_,rfl,Q0 (fun y=> ?_) fun z=> ?_⟩
 ·simp only[Zg,Zb]at y
  exact⟨l, .inl ⟨y,rfl⟩⟩
 simp only[Zf,Za]at z;obtain⟨_,hg,A⟩:=QV1 z;have T:=hg;obtain⟨g1,g2,g3,g4,g5⟩:=hg;have hi:0<=i/\i<g.stripes:=by
  unfold Qh3 at A;have:=of_decide_eq_true A;omega
 refine⟨_,r41.row.cell (n:=0) rfl,_,r41.c rfl,_,r41.c rfl,_,r41.c rfl,_,r41.c rfl,_,r41.c rfl,_,r41.c rfl,_,r41.c rfl,_,r41.c rfl,_,r41.c rfl,(Qn8 (Ql.ext h l) ho (hf.ext l) T hi).mono ?_⟩;rintro J B ⟨v,rfl,C,hv⟩;have p:=l.trans C;rcases hv with⟨D,rfl⟩|⟨D,U,rfl⟩|⟨D,V,ko,p2,n2,c2,rfl,E,hW⟩
 ·exact⟨_,_,_,_,_,_,_,rfl,Q0 (fun _=>⟨p, .inr ⟨z, .inl ⟨D,rfl⟩⟩⟩) fun h=>by simp at h⟩
 ·exact⟨_,_,_,_,_,_,_,rfl,Q0 (fun _=>⟨p, .inr ⟨z, .inr (.inl ⟨D,U,rfl⟩)⟩⟩) fun h=>by simp at h⟩
 have W:RowW B r #[int i64 g.k,int i64 g.m,int i64 g.size,int i64 g.stripes,int i64 g.slots,int i64 g.objects]:=(u.trans (q.trans C)).rowW r12 id;refine⟨_,_,_,_,_,_,_,rfl,Q0 (fun h=>by simp at h) fun _=>⟨_,W.row.cell (n:=0) rfl,⟨by omega,by unfold nG;omega⟩,?_⟩⟩;have o:=E.rows;have G:Qg B x.heap.size (at0 ko) g.k.toNat (Qw9 g.k.toNat g.m.toNat (nG g) (hsL s g i e) (shL s g i) g.size.toNat):=by
  obtain⟨P,q3,q4⟩:=o.own;have am:g.k.toNat<=nG g:=by unfold nG;omega
  exact⟨fun _=>o.typ (by omega),P,fun i hi=>q3 i (by omega),fun i j hi hj=>q4 i j (by omega) (by omega)⟩
 have bkz:g.k.toNat*g.size.toNat<=32*4096:=Nat.mul_le_mul (by omega) (by omega);have X:QT0 (some (at0 ko)) (nG g) 0 1=some (at0 ko):=Qff _ _ _;rw[X,Nat.sub_zero,Nat.sub_zero];refine(QZf (S:=g.size.toNat) G (by omega) (by omega) (by omega) (by unfold nG;omega) fun i _=>Qs2 _ _ _ _ _ _ _).mono ?_;rintro J ao ⟨gd,cd,rfl,I,Y,Z,aa⟩;refine⟨_,_,_,rfl,p.trans I, .inr ⟨z, .inr (.inr ⟨D,V,gd,cd,p2,n2,c2,rfl,Zu p.size Y,Z,aa,?_⟩)⟩⟩;exact Q5.ext (Q5.base_le hW l.size) I
open Go Go.Vc Go.Gf
open Go.IntKind (i64)
open Go.Value (int)
open Go.Proofs.Tryz (prog)
def Qg1(g:Geo)(i e:Int)(R:Nat->τ)(r:StA×Int×Bool)(j:Nat):StA×Int×Bool:=
 if r.2.2 then r else if QRb r.1 g i e j (R j)=130 then(QR7 r.1 g i e j (R j),0,true)else(QR7 r.1 g i e j (R j),if QRb r.1 g i e j (R j)=0 then r.2.1+1 else r.2.1,false)
def fixN(s:StA)(g:Geo)(i e:Int)(R:Nat->τ)(W:List Nat):StA×Int×Bool:=W.foldl (Qg1 g i e R) (s,0,false)
theorem Q07(s:StA)(g:Geo)(i e:Int)(R:Nat->τ)(W:List Nat)(j:Nat):fixN s g i e R (W++ [j])=Qg1 g i e R (fixN s g i e R W) j:=by unfold fixN;rw[List.foldl_append];rfl
theorem QN8{g:Geo}{i e:Int}{R:Nat->τ}{r:StA×Int×Bool}(h:r.2.2=true)(W:List Nat):W.foldl (Qg1 g i e R) r=r:=by
 induction W with
 |nil=>rfl
 |cons j W ih=>
  rw[List.foldl_cons];have:Qg1 g i e R r j=r:=by unfold Qg1;rw[if_pos h]
  rw[this];exact ih
theorem Qj8{s:StA}{g:Geo}{i e:Int}{R:Nat->τ}{W V:List Nat}(h:(fixN s g i e R W).2.2=true):fixN s g i e R (W++V)=fixN s g i e R W:=by
 unfold fixN at h⊢;rw[List.foldl_append,QN8 h]
theorem OkA.fixN{s:StA}(h:OkA s)(g:Geo)(i e:Int)(R:Nat->τ)(W:List Nat):OkA (fixN s g i e R W).1:=by
 unfold Go.Proofs.YtkolafpgbhpdlaaGreat.fixN
 suffices k:∀(r:StA×Int×Bool),OkA r.1->OkA (W.foldl (Qg1 g i e R) r).1 from k _ h
 induction W with
 |nil=>exact fun r h=>h
 |cons j W ih=>
  intro r f;rw[List.foldl_cons];refine ih _ ?_;unfold Qg1
  split
  ·exact f
  ·split<;>exact f.put _ _ _ _ _
noncomputable def Q91(s:StA)(g:Geo)(i e:Int):Nat->τ:=Qw9 g.k.toNat g.m.toNat (nG g) (hsL s g i e) (shL s g i) g.size.toNat
noncomputable def Qtd(s:StA)(g:Geo)(i e:Int):List Nat:=(List.range (nG g)).filter (Qi3 s g i e)
noncomputable def Qd6(s:StA)(g:Geo)(i e:Int):StA×Int×Bool:=fixN s g i e (Q91 s g i e) (Qtd s g i e)
def Qti(pf:σ)(a:Nat)(s:StA)(F:Nat->Prop)(g:Geo)(i e:Int)(w:World)(v:Value)(w':World):Prop:=
 (Q11 (some (at0 a)) pf g i e≠0/\v= .tuple #[int i64 0,int i64 (Q11 (some (at0 a)) pf g i e)]/\Ext w w')∨
  (Q11 (some (at0 a)) pf g i e=0/\((s.down=true/\v= .tuple #[int i64 0,int i64 130]/\Ext w w')∨
  (s.down=false/\¬QU0 s g i e/\v= .tuple #[int i64 0,int i64 150]/\Ext w w')∨
  (s.down=false/\QU0 s g i e/\∃F',v= .tuple #[int i64 (if(Qd6 s g i e).2.2 then 0 else(Qd6 s g i e).2.1),int i64 (if(Qd6 s g i e).2.2 then 130 else 0)]/\Qp F F' w w'/\IsA w' a (Qd6 s g i e).1 F')))
theorem QNa{W:List Nat}{t:Nat}(h:t<W.length):W.take (t+1)=W.take t++ [W.getD t 0]:=by
 rw[Zn,Zc h,Zj,Zc h];rfl
def fxI(s:StA)(F:Nat->Prop)(a:Nat)(g:Geo)(i e:Int)(w:World)(R:Nat->τ)(W:List Nat)(n:Int)(j:Int)(w1:World):Prop:=∃(t:Nat)(F':Nat->Prop),j=t/\t<=W.length/\Qp F F' w w1/\(fixN s g i e R (W.take t)).2=(n,false)/\0<=n/\n<=t/\IsA w1 a (fixN s g i e R (W.take t)).1 F'
set_option maxRecDepth 20000 in
theorem QDa{w:World}{a:Nat}{s:StA}{F:Nat->Prop}(h:IsA w a s F)(ho:OkA s){pf:σ}(hf:Qm w pf)(g:Geo)(i e:Int):
  Calls prog 13 #[.pointer (some (at0 a)), .pointer pf,gV g,int i64 i,int i64 e] w fun e' w'=>∃v,e'= .returned v/\Qti pf a s F g i e w v w':=by
 refine F13_calls (some (at0 a)) pf g.k g.m g.size g.stripes g.slots g.objects i e w (Qti pf a s F g i e w)
  (fun _ br bt _ z bu L _ _ A n j p=>(z=0->fxI s F a g i e A (Q91 s g i e) (Qtd s g i e) n j p)/\(z≠0->n=0/\p=A/\L=0/\j=0)) (fun _ _ _ _ _ _ L _ _ _ _ j _=>(L-j).toNat) ?_
 intro ay az M;have r12:RowW az ay #[int i64 g.k,int i64 g.m,int i64 g.size,int i64 g.stripes,int i64 g.slots,int i64 g.objects]:=⟨_,M.at⟩;refine⟨_,r12.row.cell (n:=0) rfl,_,r12.c rfl,_,r12.c rfl,_,r12.c rfl,_,r12.c rfl,_,r12.c rfl,fun B bv ab=>Q59 ab fun a0 l a1=> ?_⟩;have a2:=M.ext.trans a1;refine⟨_,l.row.cell (n:=0) rfl,_,l.c rfl,_,l.c rfl,_,l.c rfl,_,l.c rfl,_,l.c rfl,_,l.c rfl,_,l.c rfl,_,l.c rfl,_,l.c rfl,(Qy4 (some (at0 a)) pf g i e a0).mono ?_⟩;rintro e' O ⟨rfl,ac⟩;have C:=a2.trans ac;have r41:RowW O B (lnC (some (at0 a)) pf g i e):=ac.rowW l id;refine⟨_,rfl,Q0 (fun ad=> ?_) fun he=> ?_⟩
 ·simp only[Zg,Zb]at ad
  exact .inl ⟨ad,rfl,C⟩
 simp only[Zf,Za]at he;obtain⟨_,hg,af⟩:=QV1 he;have a3:=hg;obtain⟨g1,g2,g3,g4,g5⟩:=hg;have hi:0<=i/\i<g.stripes:=by
  unfold Qh3 at af;have:=of_decide_eq_true af;omega
 refine⟨_,r41.row.cell (n:=0) rfl,_,r41.c rfl,_,r41.c rfl,_,r41.c rfl,_,r41.c rfl,_,r41.c rfl,_,r41.c rfl,_,r41.c rfl,_,r41.c rfl,_,r41.c rfl,(Qn8 (Ql.ext h C) ho (hf.ext C) a3 hi).mono ?_⟩;rintro e' A ⟨v,rfl,ah,hv⟩;have G:=C.trans ah;rcases hv with⟨hd,rfl⟩|⟨hd,a4,rfl⟩|⟨hd,a5,ko,p2,n2,c2,rfl,K,hW⟩
 ·refine⟨_,_,_,_,_,_,_,rfl,⟨(fun h=>by simp at h),fun _=>⟨rfl,rfl,rfl,rfl⟩⟩,?_⟩
  rintro I ak p ⟨_,h2⟩;obtain⟨rfl,rfl,_,rfl⟩:=h2 (by decide)
  intros
  exact Q0 (fun h=>by simp at h) fun _=> .inr ⟨he, .inl ⟨hd,rfl,G⟩⟩
 ·refine⟨_,_,_,_,_,_,_,rfl,⟨(fun h=>by simp at h),fun _=>⟨rfl,rfl,rfl,rfl⟩⟩,?_⟩
  rintro I ak p ⟨_,h2⟩;obtain⟨rfl,rfl,_,rfl⟩:=h2 (by decide)
  intros
  exact Q0 (fun h=>by simp at h) fun _=> .inr ⟨he, .inr (.inl ⟨hd,a4,rfl,G⟩)⟩
 have hF:∀x,F x->x<w.heap.size:=Ql.lt h;have bx:=C.size;obtain⟨W,u⟩:∃W,W=Qtd s g i e:=⟨_,rfl⟩;have hW:QI A O.heap.size p2 n2 c2 W:=by rw[u];exact hW
 have bz:=QI.len hW;have a7:∀j,j∈W->j<nG g:=fun j hj=>by rw[u]at hj;exact List.mem_range.1 (List.mem_filter.1 hj).1
 have b0:W.length<=nG g:=by
  rw[u];exact Zu (List.length_filter_le _ _) (by rw[List.length_range];exact Nat.le_refl _)
 have hn:(nG g:Int)=g.k+g.m:=by unfold nG;omega
 have a8:RowW A B (lnC (some (at0 a)) pf g i e):=ah.rowW r41 id;have k19F:¬F B:=fun hh=>by have:=hF _ hh;have:=ab.size;have:=M.ext.size;omega
 rw[←u];refine⟨_,_,_,_,_,_,_,rfl,⟨fun _=>⟨0,F,rfl,Nat.zero_le _,Qp.refl _ _,rfl,by omega,by omega,Ql.ext h G⟩,(fun h=>(h rfl).elim)⟩,?_⟩;rintro I ak p ⟨h1,_⟩;obtain⟨t,F',rfl,ht,y,J,b2,b3,hA⟩:=h1 rfl
 intros
 have st:=(Qp.ext (F:=F) G).trans y;have rl:RowW p B (lnC (some (at0 a)) pf g i e):=y.upd.rowW a8 k19F;have Q:=Qr.updS K.rows y.upd (fun x hx=>by have:=hF x hx;omega) K.le;have hW7:QI p O.heap.size p2 n2 c2 W:=Q5.upd hW y.upd fun x hx hs=>by
  have:=Q5.blk hW hx;have:=hF x hs;omega
 have T:Q91 s g i e=Qw9 g.k.toNat g.m.toNat (nG g) (hsL s g i e) (shL s g i) g.size.toNat:=rfl;have fin:∀(r:StA×Int×Bool)(F2:Nat->Prop)(w':World),Qd6 s g i e=r->Qp F F2 w w'->IsA w' a r.1 F2->Qti pf a s F g i e w (.tuple #[int i64 (if r.2.2 then 0 else r.2.1),int i64 (if r.2.2 then 130 else 0)]) w':=by
  rintro r F2 w' rfl h1 h2;exact .inr ⟨he, .inr (.inr ⟨hd,a5,F2,rfl,h1,h2⟩)⟩
 refine Q0 (fun am=> ?_) (fun bc=> ?_)
 ·simp only[Za]at am
  have ao:t<W.length:=by omega
  have aq:W[t]? =some (W.getD t 0):=by rw[Zj,Zc ao];rfl
  have be:W.getD t 0<nG g:=a7 _ (Zs aq);obtain⟨ja,bf,bg⟩:=Q5.cells hW7 t (int i64 (W.getD t 0:Int)) (by unfold QI1;rw[Zq,aq];rfl);subst bf;obtain⟨P,hP,_⟩:=Q.own;obtain⟨U,X⟩:=hP (W.getD t 0) be;have lrow:(Q91 s g i e (W.getD t 0)).length=g.size.toNat:=Qs2 _ _ _ _ _ _ _;have lob:=Q2.len X;rw[←T]at X lob;rw[lrow]at lob;refine⟨⟨by omega,am⟩,_,by rw[Ze,Nat.mul_one];exact bg,fun bh q=> ?_⟩;have o:RowW bh B (lnC (some (at0 a)) pf g i e):=q.ext.rowW rl id;refine⟨_,o.row.cell (n:=0) rfl,_,o.c rfl,_,o.c rfl,_,o.c rfl,_,o.c rfl,_,o.c rfl,_,o.c rfl,_,o.c rfl,_,o.c rfl,_,o.c rfl,⟨by omega,by omega⟩,_,_,_,by rw[Ze,Nat.mul_one];exact QM0 U q.ext,?_⟩;refine(QIa (Ql.ext hA q.ext) (ho.fixN g i e _ _) pf g i e (W.getD t 0) (Q2.bytes (Q2.ext X q.ext)) (by omega)).mono ?_;rintro e' ar ⟨F2,rfl,bi,hA2⟩;have Y:=(Qp.ext (F:=F') q.ext).trans bi;have bj:=st.trans Y;have Z:=QNa ao;have f:=Q07 s g i e (Q91 s g i e) (W.take t) (W.getD t 0);rw[←Z]at f;have D:(fixN s g i e (Q91 s g i e) (W.take t)).2.2=false:=by rw[J]
  have au:(fixN s g i e (Q91 s g i e) (W.take t)).2.1=I:=by rw[J]
  refine⟨_,rfl,Q0 (fun hz=> ?_) fun hz=> ?_⟩
  ·simp only[Za]at hz
   unfold Qg1 at f;rw[D,if_neg (by simp),if_pos hz]at f;have h3:Qd6 s g i e=fixN s g i e (Q91 s g i e) (W.take (t+1)):=by
    have h4:(fixN s g i e (Q91 s g i e) (W.take (t+1))).2.2=true:=by rw[f]
    have h5:=Qj8 (V:=W.drop (t+1)) h4;rw[List.take_append_drop]at h5;unfold Qd6;rw[←u];exact h5
   rw[f]at h3;have:=fin _ F2 ar h3 bj hA2;simpa using this
  ·simp only[Zb]at hz
   unfold Qg1 at f;rw[D,if_neg (by simp),if_neg hz,au]at f;rw[w64 (n:=(t:Int)+1) (by omega),w64 (n:=I+1) (by omega)];refine Q0 (fun E=> ?_) fun E=> ?_
   ·simp only[Za]at E
    rw[if_pos E]at f;exact⟨⟨fun _=>⟨t+1,F2,by omega,by omega,y.trans Y,by rw[f],by omega,by omega,by rw[f];exact hA2⟩,fun h=>(h rfl).elim⟩,by show((n2:Int)-((t:Int)+1)).toNat<((n2:Int)-t).toNat;omega⟩
   ·simp only[Zb]at E
    rw[if_neg E]at f;exact⟨⟨fun _=>⟨t+1,F2,by omega,by omega,y.trans Y,by rw[f],by omega,by omega,by rw[f];exact hA2⟩,fun h=>(h rfl).elim⟩,by show((n2:Int)-((t:Int)+1)).toNat<((n2:Int)-t).toNat;omega⟩
 ·simp only[Zb]at bc
  obtain rfl:t=W.length:=by omega
  rw[List.take_length]at J hA;have h3:Qd6 s g i e=fixN s g i e (Q91 s g i e) W:=by unfold Qd6;rw[←u]
  have:=fin _ F' p h3 st hA;rw[J]at this;simpa using this
open Go Go.Vc
open Go.IntKind (i64)
open Go.Value (int)
open Go.Proofs.Tryz (prog)
theorem Qq5{k:Int}{L M:SM}:get k (L++M)=(get k L).or (get k M):=by
 induction L with
 |nil=>rfl
 |cons a L ih=>
  obtain⟨f,x⟩:=a;simp only[List.cons_append,Vc.get]
  split
  ·rfl
  ·exact ih
theorem QT1{k:Int}{q:Int->Bool}(f:q k=true):∀{L:SM},get k (L.filter fun y=>q y.1)=get k L
 | []=>rfl
 |(l,x)::L=>by
  by_cases h:l=k
  ·subst h
   simp[List.filter,f,Vc.get]
  ·rw[List.filter]
   split
   ·simp only[Vc.get,if_neg h];exact QT1 f
   ·simp only[Vc.get,if_neg h];exact QT1 f
theorem QN0{k:Int}{q:Int->Bool}(f:q k=false):∀{L:SM},get k (L.filter fun y=>q y.1)=none
 | []=>rfl
 |(l,x)::L=>by
  by_cases h:l=k
  ·subst h
   rw[List.filter];simp only[f];exact QN0 f
  ·rw[List.filter]
   split
   ·simp only[Vc.get,if_neg h];exact QN0 f
   ·exact QN0 f
theorem Qyb(k f:Int)(x:τ)(L:SM):get k (ins f x L)=if f=k then some x else get k L:=by
 unfold ins;rw[Qq5]
 by_cases h:f=k
 ·subst h
  rw[if_pos rfl,QN0 (q:=fun z=>decide (z<f)) (by simp)];simp[Vc.get]
 ·rw[if_neg h]
  simp only[Vc.get,if_neg h]
  by_cases l:k<f
  ·rw[QT1 (q:=fun z=>decide (z<f)) (by simpa using l),QN0 (q:=fun z=>decide (f<z)) (by simp;omega)]
   simp
  ·rw[QN0 (q:=fun z=>decide (z<f)) (by simpa using l),QT1 (q:=fun z=>decide (f<z)) (by simp;omega)]
   simp
open Go Go.Vc Go.Gf
open Go.IntKind (i64)
open Go.Value (int)
open Go.Proofs.Tryz (prog)
structure Fit(s:StA)(N:Nat)(S:Int):Prop where
 down:s.down=false
 left:s.left= -1
 len:s.M.length=N
 sec:∀m∈s.M,m.d.sectors=S
def QC3(s:StA)(d:Nat)(n:Int):τ:=match s.M[d]? with
 |some m=>Qy0 m.d n
 |none=>[]
def QN(s:StA)(d:Nat):Bool:=match s.M[d]? with
 |some m=>m.d.dead
 |none=>true
section
variable {s:StA}{N:Nat}{S:Int}{d:Nat}{n:Int}{b:τ}
theorem Fit.at(h:Fit s N S)(f:d<N):∃m,s.M[d]? =some m/\m.d.sectors=S:=by
 have k:d<s.M.length:=by rw[h.len];exact f
 exact⟨s.M[d],Zc k,h.sec _ (List.getElem_mem _)⟩
theorem Fit.rdZ(h:Fit s N S)(k:d<N)(f:QN s d=false)(o:0<=n/\n<S):Go.Proofs.YtkolafpgbhpdlaaGreat.rdZ s d n=0:=by
 obtain⟨m,l,hs⟩:=h.at k;unfold QN at f;unfold Go.Proofs.YtkolafpgbhpdlaaGreat.rdZ;rw[l]at f⊢;rw[h.down,if_neg (by simp)];show Qh m.d.dead m.d.sectors n=0
 unfold Qh;rw[if_neg (by rw[show m.d.dead=false from f];simp),if_neg (by omega)]
theorem Fit.rdZ_dead(h:Fit s N S)(k:d<N)(f:QN s d=true):Go.Proofs.YtkolafpgbhpdlaaGreat.rdZ s d n=120:=by
 obtain⟨m,l,hs⟩:=h.at k;unfold QN at f;unfold Go.Proofs.YtkolafpgbhpdlaaGreat.rdZ;rw[l]at f⊢;rw[h.down,if_neg (by simp)];show Qh m.d.dead m.d.sectors n=120
 unfold Qh;rw[if_pos (show m.d.dead=true from f)]
theorem Fit.rdB(h:Fit s N S)(k:d<N)(l:QN s d=false)(o:0<=n/\n<S):Go.Proofs.YtkolafpgbhpdlaaGreat.rdB s d n=QC3 s d n:=by
 have f:=h.rdZ k l o;obtain⟨m,p,hs⟩:=h.at k;unfold Go.Proofs.YtkolafpgbhpdlaaGreat.rdB QC3;unfold Go.Proofs.YtkolafpgbhpdlaaGreat.rdZ at f;rw[p]at f⊢;rw[h.down,if_neg (by simp)]at f⊢;exact if_pos f
theorem Fit.write(h:Fit s N S)(z:d<N)(v:QN s d=false)(B:0<=n/\n<S)(hb:1<=b.length/\b.length<=4108):
  wrZ s d n b.length=0/\Fit (Q70 s d n b) N S/\(∀f,QN (Q70 s d n b) f=QN s f)/\∀f q,QC3 (Q70 s d n b) f q=if f=d/\q=n then b else QC3 s f q:=by
 obtain⟨m,r,hs⟩:=h.at z;have l:m.d.dead=false:=by unfold QN at v;rw[r]at v;exact v
 have t:Qs m.d n b.length=0:=by
  have A:Qh m.d.dead m.d.sectors n=0:=by unfold Qh;rw[l,if_neg (by simp),if_neg (by omega)]
  unfold Qs;rw[A,if_neg (by simp),if_neg (by omega)]
 have x:Q70 s d n b=⟨s.M.set d {m with d:=QT m.d n b},-1,false⟩:=by
  unfold Q70;rw[h.down,if_neg (by simp),if_pos (by omega),Ze,r];simp[h.left]
 have y:d<s.M.length:=by rw[h.len];exact z
 have k:∀f,(s.M.set d {m with d:=QT m.d n b})[f]? =if f=d then some {m with d:=QT m.d n b}else s.M[f]? :=fun f=>by
  rw[List.getElem?_set]
  by_cases e:d=f
  ·rw[if_pos e,if_pos e.symm,if_pos y]
  ·rw[if_neg e,if_neg (fun h=>e h.symm)]
 have o:QT m.d n b={m.d with waits:=ins n b m.d.waits}:=by unfold QT;rw[if_pos t]
 refine⟨by unfold wrZ;rw[h.down,if_neg (by simp),r];exact t,?_,fun f=> ?_,fun f q=> ?_⟩
 ·rw[x]
  refine⟨rfl,rfl,by show(s.M.set d _).length=N;rw[List.length_set,h.len],fun m' p=> ?_⟩;rcases List.mem_or_eq_of_mem_set p with p|rfl
  ·exact h.sec _ p
  ·show(QT m.d n b).sectors=S
   rw[o];exact hs
 ·unfold QN
  rw[x,k]
  by_cases e:f=d
  ·rw[if_pos e,e,r]
   show(QT m.d n b).dead=m.d.dead
   rw[o]
  ·rw[if_neg e]
 ·unfold QC3
  rw[x,k]
  by_cases e:f=d
  ·subst e
   rw[if_pos rfl,r];show Qy0 (QT m.d n b) q=_
   rw[o];unfold Qy0;rw[Qyb]
   by_cases u:n=q
   ·rw[if_pos u,if_pos ⟨rfl,u.symm⟩]
   ·rw[if_neg u,if_neg (fun h=>u h.2.symm)]
  ·rw[if_neg e,if_neg (fun h=>e h.1)]
end
def Qt0(g:Geo)(i:Int)(j:Nat):Nat:=(Qc0 g i j).toNat
section
variable {g:Geo}{i e:Int}{j j':Nat}
theorem QNk(f:QA g):(nG g:Int)=g.k+g.m:=by obtain⟨h,l,_⟩:=f;unfold nG;omega
theorem QJ8(f:QA g)(hi:0<=i/\i<g.stripes)(k:j<nG g):(Qt0 g i j:Int)=((j:Int)+i) % (nG g:Int):=by
 have h:=QNk f;unfold Qt0 Qc0;rw[if_pos ⟨f,hi,by omega,by omega⟩,←h];exact Int.toNat_of_nonneg (Int.emod_nonneg _ (by omega))
theorem QR1(f:QA g)(hi:0<=i/\i<g.stripes)(k:j<nG g):Qt0 g i j<nG g:=by
 have h:=QJ8 f hi k;have:=Int.emod_lt_of_pos ((j:Int)+i) (show(0:Int)<(nG g:Int) by omega);omega
theorem QV6(k:QA g)(hi:0<=i/\i<g.stripes)(m:j<nG g)(f:j'<nG g)(h:Qt0 g i j=Qt0 g i j'):j=j':=by
 have l:=QJ8 k hi m;have o:=QJ8 k hi f;rw[h]at l;have p:=l.symm.trans o;have q:(((j:Int)+i)-((j':Int)+i)) % (nG g:Int)=0:=Int.emod_eq_emod_iff_emod_sub_eq_zero.1 p;obtain⟨c,r⟩:=Int.dvd_of_emod_eq_zero q;rcases Int.lt_trichotomy c 0 with t|rfl|u
 ·have:(nG g:Int)*c<=(nG g:Int)*(-1):=Int.mul_le_mul_of_nonneg_left (by omega) (by omega)
  omega
 ·rw[Int.mul_zero]at r;omega
 ·have:(nG g:Int)*1<=(nG g:Int)*c:=Int.mul_le_mul_of_nonneg_left (by omega) (by omega)
  omega
theorem QWe(f:QA g)(hi:0<=i/\i<g.stripes):atZ g i=5+g.slots+i:=by unfold atZ;rw[if_pos ⟨f,hi⟩]
end
open Go Go.Vc Go.Gf
open Go.IntKind (i64)
open Go.Value (int)
open Go.Proofs.Tryz (prog)
section
variable {s:StA}{S:Int}{g:Geo}{i e:Int}{j:Nat}{b:τ}{R:Nat->τ}
structure QC2(g:Geo)(i e:Int)(S:Int):Prop where
 geo:QA g
 str:0<=i/\i<g.stripes
 ep:QH0 e
 at_:atZ g i<S
theorem QC2.rng(p:QC2 g i e S):0<=atZ g i/\atZ g i<S:=by
 have f:=QWe p.geo p.str;obtain⟨⟨_,_,_,k,_⟩,hi,_,h⟩:=p;exact⟨by omega,h⟩
theorem QC2.fits(p:QC2 g i e S):QH0 (atZ g i):=by
 have f:=QWe p.geo p.str;obtain⟨⟨_,_,k,l,_⟩,hi,_,h⟩:=p;exact⟨by omega,by omega⟩
theorem Qrg(h:Fit s (nG g) S)(p:QC2 g i e S)(l:j<nG g)(m:QN s (Qt0 g i j)=false)(hb:b.length<=4096):
  QRb s g i e j b=0/\Fit (QR7 s g i e j b) (nG g) S/\(∀d,QN (QR7 s g i e j b) d=QN s d)/\∀d n,QC3 (QR7 s g i e j b) d n=if d=Qt0 g i j/\n=atZ g i then QR (atZ g i) e b else QC3 s d n:=by
 have f:Q8e g i e b:=⟨p.fits,p.ep,hb⟩;have o:=Qx3 (atZ g i) e b;have q:=h.write (QR1 p.geo p.str l) m p.rng (b:=QR (atZ g i) e b) (by omega);have k:Qc0 g i j=(Qt0 g i j:Int):=(Int.toNat_of_nonneg (Qc2 g i j)).symm;unfold QRb QR7;rw[if_pos f,if_pos f];have:(Qc0 g i j).toNat=Qt0 g i j:=rfl;rw[this,k];exact q
theorem Q5d(h:Fit s (nG g) S)(p:QC2 g i e S)(m:∀j,j<nG g->QN s (Qt0 g i j)=false)(o:∀j,j<nG g->(R j).length<=4096):∀n,n<=nG g→
  (putN s g i e R n).2=false/\Fit (putN s g i e R n).1 (nG g) S/\(∀d,QN (putN s g i e R n).1 d=QN s d)/\(∀j,j<n->QC3 (putN s g i e R n).1 (Qt0 g i j) (atZ g i)=QR (atZ g i) e (R j))/\(∀d f,f≠atZ g i->QC3 (putN s g i e R n).1 d f=QC3 s d f)
 |0,_=>⟨rfl,h,fun _=>rfl,fun j q=>(Nat.not_lt_zero _ q).elim,fun _ _ _=>rfl⟩
 |n+1,D=>by
  obtain⟨v,x,r,y,z⟩:=Q5d h p m o n (by omega);obtain⟨A,B,C,t⟩:=Qrg x p (show n<nG g by omega) (by rw[r];exact m n (by omega)) (o n (by omega));rw[Qn7 v];refine⟨by dsimp only;rw[A];rfl,B,fun d=>(C d).trans (r d),fun j q=> ?_,fun d f k=> ?_⟩
  ·dsimp only
   rw[t]
   by_cases u:j=n
   ·subst u;rw[if_pos ⟨rfl,rfl⟩]
   ·rw[if_neg (fun l=>u (QV6 p.geo p.str (by omega) (by omega) l.1))]
    exact y j (by omega)
  ·dsimp only
   rw[t,if_neg (fun l=>k l.2)];exact z d f k
theorem QNc(h:Fit s (nG g) S)(p:QC2 g i e S)(v:∀j,j<nG g->(R j).length<=4096)(V:List Nat):∀W:List Nat,(∀j∈W,j<nG g/\QN s (Qt0 g i j)=false)→
  (fixN s g i e R W.reverse).2=((W.length:Int),false)/\Fit (fixN s g i e R W.reverse).1 (nG g) S/\(∀d,QN (fixN s g i e R W.reverse).1 d=QN s d)/\(∀j∈W,QC3 (fixN s g i e R W.reverse).1 (Qt0 g i j) (atZ g i)=QR (atZ g i) e (R j))∧
  (∀j,j<nG g->j∉W->QC3 (fixN s g i e R W.reverse).1 (Qt0 g i j) (atZ g i)=QC3 s (Qt0 g i j) (atZ g i))
 | [],_=>⟨rfl,h,fun _=>rfl,(fun j f=>by cases f),fun _ _ _=>rfl⟩
 |o::W,q=>by
  obtain⟨z,A,x,B,C⟩:=QNc h p v V W fun j f=>q j (List.mem_cons_of_mem _ f);obtain⟨k,r⟩:=q o List.mem_cons_self;obtain⟨D,E,G,y⟩:=Qrg A p k (by rw[x];exact r) (v o k);rw[List.reverse_cons,Q07];unfold Qg1;rw[z,if_neg (by simp),D,if_neg (by omega),if_pos rfl];refine⟨by simp,E,fun d=>(G d).trans (x d),fun j f=> ?_,fun j f l=> ?_⟩
  ·dsimp only
   rw[y]
   by_cases t:j=o
   ·subst t;rw[if_pos ⟨rfl,rfl⟩]
   ·have u:j∈W:=by
     rcases List.mem_cons.1 f with h|h
     ·exact(t h).elim
     ·exact h
    rw[if_neg (fun m=>t (QV6 p.geo p.str (q j f).1 k m.1))];exact B j u
  ·dsimp only
   rw[y,if_neg (fun m=>l (by rw[QV6 p.geo p.str f k m.1];exact List.mem_cons_self))];exact C j f fun m=>l (List.mem_cons_of_mem _ m)
theorem QW1(h:Fit s (nG g) S)(p:QC2 g i e S)(l:j<nG g)(f:QN s (Qt0 g i j)=false):unS s g i j=Q10 (atZ g i) (QC3 s (Qt0 g i j) (atZ g i)):=by
 have k:=QR1 p.geo p.str l;unfold unS;have:(Qc0 g i j).toNat=Qt0 g i j:=rfl;rw[this,h.rdZ k f p.rng,if_pos rfl,h.rdB k f p.rng]
theorem QB6(h:Fit s (nG g) S)(p:QC2 g i e S)(f:j<nG g)(k:QN s (Qt0 g i j)=true):unS s g i j=none:=by
 have l:=QR1 p.geo p.str f;unfold unS;have:(Qc0 g i j).toNat=Qt0 g i j:=rfl;rw[this,h.rdZ_dead l k,if_neg (by decide)]
theorem Qm9(h:Fit s (nG g) S)(p:QC2 g i e S)(k:j<nG g)(l:QN s (Qt0 g i j)=false)(hb:b.length<=4096){f:Int}(m:QH0 f)(hs:QC3 s (Qt0 g i j) (atZ g i)=QR (atZ g i) f b):unS s g i j=some (f,b):=by
 rw[QW1 h p k l,hs,Qmc p.fits m hb]
theorem QUh(j:Nat)(h:Fit s (nG g) S)(p:QC2 g i e S)(f:j<nG g):Q87 s g i j= !QN s (Qt0 g i j):=by
 obtain⟨m,k,_⟩:=h.at (QR1 p.geo p.str f);unfold Q87 QN;have:(Qc0 g i j).toNat=Qt0 g i j:=rfl;rw[this,k]
end
section
variable {s:StA}{g:Geo}{i e:Int}{bs:τ}
theorem Qs7(f:QA g)(hb:(bs.length:Int)=g.k*g.size)(j:Nat):(QP0 g bs j).length=g.size.toNat:=by
 obtain⟨h,l,_⟩:=f;have ekz:g.k*g.size=((g.k.toNat*g.size.toNat:Nat):Int):=by rw[Int.natCast_mul,Int.toNat_of_nonneg (by omega),Int.toNat_of_nonneg (by omega)]
 unfold QP0;rw[Q71,Qs1 (by omega) (by omega)]
theorem Qo8(s:StA)(g:Geo)(i e:Int):mis (nG g) (Ql1 (hsL s g i e))=(List.range (nG g)).filter fun j=> !QD1 s g i e j:=by
 unfold mis;refine List.filter_congr fun j f=> ?_;rw[List.mem_range]at f;rw[Qu6 (by simp[hsL];exact f),QQ5 f]
def Q5g(s:StA)(g:Geo)(i e:Int):Nat:=((List.range (nG g)).filter fun j=> !QD1 s g i e j).length
theorem QM6(bs:τ)(S:Nat):∀k,((List.range k).map fun j=>(bs.drop (j*S)).take S).flatten=bs.take (k*S)
 |0=>by simp
 |k+1=>by
  rw[List.range_succ,Zp,List.flatten_append,QM6 bs S k,Nat.succ_mul,List.take_add];simp
theorem Qni(E:QA g)(hb:(bs.length:Int)=g.k*g.size)(K:∀j,j<nG g->QD1 s g i e j=true->shS s g i j=QP0 g bs j)(G:Q5g s g i e<=g.m.toNat):
  QU0 s g i e/\(∀j,j<nG g->Q91 s g i e j=QP0 g bs j)/\Qob s g i e=bs/\∀j,j<nG g->Qi3 s g i e j=(Q87 s g i j&& !QD1 s g i e j):=by
 have z:=E;obtain⟨O,P,Q,T,U⟩:=E;have V:=QNk z;have L:nG g=g.k.toNat+g.m.toNat:=rfl;have ekz:g.k*g.size=((g.k.toNat*g.size.toNat:Nat):Int):=by rw[Int.natCast_mul,Int.toNat_of_nonneg (by omega),Int.toNat_of_nonneg (by omega)]
 have o:∀j,(QP0 g bs j).length=g.size.toNat:=Qs7 z hb;have r:(QD0 bs g.k.toNat g.size.toNat).length=g.k.toNat:=Qx5 _ _ _;have u:((QD0 bs g.k.toNat g.size.toNat).getD 0 []).length=g.size.toNat:=Qs1 (by omega) (by omega);have q:=Qo8 s g i e;have l:∀x,x<g.size.toNat->Ql5 g.k.toNat g.m.toNat (QH (nG g) (hsL s g i e) (shL s g i) x) (Ql1 (hsL s g i e))=some (enc g.k.toNat g.m.toNat ((QD0 bs g.k.toNat g.size.toNat).map fun y=>co y x))∧
   dif (nG g) (Ql1 (hsL s g i e)) (enc g.k.toNat g.m.toNat ((QD0 bs g.k.toNat g.size.toNat).map fun y=>co y x)) (QH (nG g) (hsL s g i e) (shL s g i) x)=[]:=fun x h=>by
  have I:dif (nG g) (Ql1 (hsL s g i e)) (enc g.k.toNat g.m.toNat ((QD0 bs g.k.toNat g.size.toNat).map fun y=>co y x)) (QH (nG g) (hsL s g i e) (shL s g i) x)=[]:=by
   refine List.filter_eq_nil_iff.2 fun j f=> ?_;rw[List.mem_range]at f;rw[Qu6 (by simp[hsL];exact f),QQ5 f,Bool.not_not];cases J:QD1 s g i e j with
   |false=>simp
   |true=>
    rw[QN6 f,QQ5 f,if_pos J,QLg f,K j f J];have:co (QP0 g bs j) x=co (enc g.k.toNat g.m.toNat ((QD0 bs g.k.toNat g.size.toNat).map fun y=>co y x)) j:=QJ2 (by rw[u];exact h);rw[this];simp
  refine⟨QU6 (by omega) ⟨Qo6 (by omega) (by rw[List.length_map,r]),?_⟩,I⟩;rw[←L,I,q];have:((List.range (nG g)).filter fun j=> !QD1 s g i e j).length<=g.m.toNat:=G;simpa using this
 have v:∃j,j<nG g/\QD1 s g i e j=true:=by
  obtain⟨j,f,hb⟩:=QZh (n:=nG g) (ms:=Ql1 (hsL s g i e)) (by
   rw[q];have:((List.range (nG g)).filter fun j=> !QD1 s g i e j).length<=g.m.toNat:=G
   omega)
  rw[Qu6 (by simp[hsL];exact f),QQ5 f]at hb;exact⟨j,f,by simpa using hb⟩
 have p:∀j,j<nG g->Q91 s g i e j=QP0 g bs j:=fun j f=>by
  refine Q92 (by rw[o];exact Qs2 _ _ _ _ _ _ _) fun x h=> ?_;have h:x<g.size.toNat:=by rw[←Qs2 g.k.toNat g.m.toNat (nG g) (hsL s g i e) (shL s g i) g.size.toNat j];exact h
  have D:co (Q91 s g i e j) x=co (Q78 g.k.toNat g.m.toNat (nG g) (hsL s g i e) (shL s g i) x) j:=by
   show co ((List.range g.size.toNat).map fun t=>co (Q78 g.k.toNat g.m.toNat (nG g) (hsL s g i e) (shL s g i) t) j) x=_
   exact Qq2 _ h
  have B:Q78 g.k.toNat g.m.toNat (nG g) (hsL s g i e) (shL s g i) x=enc g.k.toNat g.m.toNat ((QD0 bs g.k.toNat g.size.toNat).map fun y=>co y x):=by unfold Q78;rw[(l x h).1];rfl
  have A:co (QP0 g bs j) x=co (enc g.k.toNat g.m.toNat ((QD0 bs g.k.toNat g.size.toNat).map fun y=>co y x)) j:=QJ2 (by rw[u];exact h);rw[D,B,A]
 refine⟨⟨v,fun x h=>by rw[(l x h).1];simp⟩,p,?_,fun j f=> ?_⟩
 ·unfold Qob
  have D:(List.range g.k.toNat).map (Qw9 g.k.toNat g.m.toNat (nG g) (hsL s g i e) (shL s g i) g.size.toNat)=(List.range g.k.toNat).map fun j=>(bs.drop (j*g.size.toNat)).take g.size.toNat:=by
   refine List.map_congr_left fun j f=> ?_;rw[List.mem_range]at f;have B:=p j (by omega);unfold Q91 at B;rw[B];refine Q92 (by rw[o,←Qy3 f,Qs1 (by omega) f]) fun x h=> ?_;rw[o]at h;have A:co (QP0 g bs j) x=co (enc g.k.toNat g.m.toNat ((QD0 bs g.k.toNat g.size.toNat).map fun y=>co y x)) j:=QJ2 (by rw[u];exact h);rw[A,Q23 (by rw[List.length_map,r]) f,←Qy3 f];simp[Gf.co,Zj,r,f]
  rw[D,QM6,Zh (by omega)]
 ·unfold Qi3
  have:QN4 g.k.toNat g.m.toNat (nG g) (hsL s g i e) (shL s g i) g.size.toNat j=false:=by
   cases M:QN4 g.k.toNat g.m.toNat (nG g) (hsL s g i e) (shL s g i) g.size.toNat j with
   |false=>rfl
   |true=>
    obtain⟨x,h,C⟩:=(Qr6 _ _ _ _ _ _ _).1 M;unfold Qm4 Q78 at C;rw[(l x h).1]at C;have A:=(l x h).2;rw[show(some (enc g.k.toNat g.m.toNat ((QD0 bs g.k.toNat g.size.toNat).map fun y=>co y x))).getD []=enc g.k.toNat g.m.toNat ((QD0 bs g.k.toNat g.size.toNat).map fun y=>co y x)from rfl,A]at C;cases C
  rw[this,Bool.or_false]
theorem Qta(f:QA g)(l:g.m.toNat<Q5g s g i e):¬QU0 s g i e:=by
 rintro⟨_,h⟩;obtain⟨p,q,_⟩:=f;refine h 0 (by omega) (QT5 ?_);have:=Qo8 s g i e;have o:nG g=g.k.toNat+g.m.toNat:=rfl;rw[←o,this];exact l
end
open Go Go.Vc Go.Gf
open Go.IntKind (i64)
open Go.Value (int)
open Go.Proofs.Tryz (prog)
def QG6(s:StA)(g:Geo)(i e:Int)(bs:τ)(lost:Nat->Bool):Prop:=∀j,j<nG g->(lost j=false->unS s g i j=some (e,QP0 g bs j))/\(lost j=true->QD1 s g i e j=false)
def QEb(g:Geo)(lost:Nat->Bool):Nat:=((List.range (nG g)).filter lost).length
section
variable {s:StA}{S:Int}{g:Geo}{i e:Int}{bs:τ}{lost:Nat->Bool}{pa pf:σ}
theorem Qv7(f:QA g)(hb:(bs.length:Int)=g.k*g.size)(j:Nat):(QP0 g bs j).length<=4096:=by
 have:=Qs7 f hb j;obtain⟨_,h,_⟩:=f;omega
theorem QG6.has(h:QG6 s g i e bs lost)(f:QA g)(hb:(bs.length:Int)=g.k*g.size){j:Nat}(m:j<nG g):QD1 s g i e j= !lost j:=by
 obtain⟨o,p⟩:=h j m;cases l:lost j with
 |true=>rw[p l];rfl
 |false=>
  unfold QD1;rw[o l];show decide (e=e/\((QP0 g bs j).length:Int)=g.size)=true
  have:=Qs7 f hb j;obtain⟨_,q,_⟩:=f;exact decide_eq_true ⟨rfl,by omega⟩
theorem QG6.sh(h:QG6 s g i e bs lost){j:Nat}(f:j<nG g)(k:lost j=false):shS s g i j=QP0 g bs j:=by
 unfold shS;rw[(h j f).1 k]
theorem QG6.count(h:QG6 s g i e bs lost)(f:QA g)(hb:(bs.length:Int)=g.k*g.size):Q5g s g i e=QEb g lost:=by
 unfold Q5g QEb
 congr 1
 refine List.filter_congr fun j l=> ?_;rw[h.has f hb (List.mem_range.1 l),Bool.not_not]
theorem QG6.few(h:QG6 s g i e bs lost)(l:QA g)(hb:(bs.length:Int)=g.k*g.size)(p:QEb g lost<=g.m.toNat):
  QU0 s g i e/\(∀j,j<nG g->Q91 s g i e j=QP0 g bs j)/\Qob s g i e=bs/\∀j,j<nG g->Qi3 s g i e j=(Q87 s g i j&&lost j):=by
 obtain⟨q,r,t,u⟩:=Qni l hb (fun j f o=>by
  rw[h.has l hb f]at o
  exact h.sh f (by simpa using o)) (by rw[h.count l hb];exact p)
 exact⟨q,r,t,fun j f=>by rw[u j f,h.has l hb f,Bool.not_not]⟩
theorem QG6.many(h:QG6 s g i e bs lost)(f:QA g)(hb:(bs.length:Int)=g.k*g.size)(l:g.m.toNat<QEb g lost):¬QU0 s g i e:=Qta f (by rw[h.count f hb];exact l)
theorem QG6.other(h:QG6 s g i e bs fun _=>false)(k:QA g){f:Int}(l:f≠e):¬QU0 s g i f:=by
 refine Qta k ?_;have:((List.range (nG g)).filter fun j=> !QD1 s g i f j)=List.range (nG g):=by
  refine List.filter_eq_self.2 fun j m=> ?_;unfold QD1;rw[(h j (List.mem_range.1 m)).1 rfl];show(!decide (e=f/\_))=true
  rw[decide_eq_false (fun o=>l o.1.symm)];rfl
 unfold Q5g;rw[this,List.length_range];obtain⟨p,_⟩:=k;unfold nG;omega
def QZe(s:StA)(g:Geo)(i:Int)(lost:Nat->Bool):List Nat:=(List.range (nG g)).filter fun j=> !QN s (Qt0 g i j)&&lost j
theorem QG6.bad(h:QG6 s g i e bs lost)(l:Fit s (nG g) S)(p:QC2 g i e S)(hb:(bs.length:Int)=g.k*g.size)(o:QEb g lost<=g.m.toNat):Qtd s g i e=QZe s g i lost:=by
 unfold Qtd QZe;refine List.filter_congr fun j f=> ?_;have f:=List.mem_range.1 f;rw[(h.few p.geo hb o).2.2.2 j f,QUh j l p f]
theorem Qvj(h:QG6 s g i e bs lost)(v:Fit s (nG g) S)(p:QC2 g i e S)(hb:(bs.length:Int)=g.k*g.size)(A:QEb g lost<=g.m.toNat):
  (Qd6 s g i e).2=(((QZe s g i lost).length:Int),false)/\Fit (Qd6 s g i e).1 (nG g) S/\(∀d,QN (Qd6 s g i e).1 d=QN s d)/\QG6 (Qd6 s g i e).1 g i e bs (fun j=>lost j&&QN s (Qt0 g i j)):=by
 obtain⟨C,l,_,_⟩:=h.few p.geo hb A;have z:=h.bad v p hb A;have o:∀j,j∈QZe s g i lost↔j<nG g/\QN s (Qt0 g i j)=false/\lost j=true:=fun j=>by simp[QZe]
 have B:=QNc (R:=Q91 s g i e) v p (fun j f=>by rw[l j f];exact Qv7 p.geo hb j) [] (QZe s g i lost).reverse (fun j f=>by
  have:=(o j).1 (List.mem_reverse.1 f)
  exact⟨this.1,this.2.1⟩)
 rw[List.reverse_reverse,List.length_reverse]at B;unfold Qd6;rw[z];obtain⟨D,x,y,E,G⟩:=B;refine⟨D,x,y,fun j f=> ?_⟩;cases u:lost j with
 |false=>
  refine⟨fun _=> ?_,fun t=>by simp[u]at t⟩;have q:=(h j f).1 u;have hs:=G j f fun t=>by have:=((o j).1 (List.mem_reverse.1 t)).2.2;rw[u]at this;cases this
  cases r:QN s (Qt0 g i j)with
  |true=>rw[QB6 v p f r]at q;cases q
  |false=>
   rw[QW1 v p f r]at q;rw[QW1 x p f (by rw[y];exact r),hs];exact q
 |true=>
  cases r:QN s (Qt0 g i j)with
  |true=>
   refine⟨fun t=>by simp[u,r]at t,fun _=> ?_⟩;unfold QD1;rw[QB6 x p f (by rw[y];exact r)]
  |false=>
   refine⟨fun _=> ?_,fun t=>by simp[u,r]at t⟩;have hs:=E j (List.mem_reverse.2 ((o j).2 ⟨f,r,u⟩));rw[l j f]at hs;exact Qm9 x p f (by rw[y];exact r) (Qv7 p.geo hb j) p.ep hs
theorem Q1h(v:Fit s (nG g) S)(q:∀d,d<nG g->QN s d=false)(hS:S=Qbd g)(h:Qfh pa pf g i e bs):
  QC2 g i e S/\(bs.length:Int)=g.k*g.size/\swZ s pa pf g i e bs=0/\Fit (swS s pa pf g i e bs) (nG g) S/\(∀d,QN (swS s pa pf g i e bs) d=QN s d)/\QG6 (swS s pa pf g i e bs) g i e bs (fun _=>false)∧
   (∀d o,o≠atZ g i->QC3 (swS s pa pf g i e bs) d o=QC3 s d o):=by
 obtain⟨_,l,f⟩:=QV1 h.1;have hb:=h.2;unfold Qh3 at f;have f:=of_decide_eq_true f;have hi:0<=i/\i<g.stripes:=⟨f.1,f.2.1⟩;have p:QC2 g i e S:=⟨l,hi,f.2.2,by rw[hS,QWe l hi];unfold Qbd;rw[if_pos l];omega⟩;obtain⟨x,r,t,y,z⟩:=Q5d (R:=QP0 g bs) v p (fun j m=>q _ (QR1 l hi m)) (fun j _=>Qv7 l hb j) (nG g) (Nat.le_refl _);have u:swN s g i e bs=putN s g i e (QP0 g bs) (nG g):=rfl;have A:swS s pa pf g i e bs=(putN s g i e (QP0 g bs) (nG g)).1:=by unfold swS;rw[if_pos h,u]
 refine⟨p,hb,by unfold swZ;rw[if_pos h,u,x,if_neg (by simp)],?_,?_,?_,?_⟩
 all_goals rw[A]
 ·exact r
 ·exact t
 ·exact fun j m=>⟨fun _=>Qm9 r p m (by rw[t];exact q _ (QR1 l hi m)) (Qv7 l hb j) p.ep (y j m),fun B=>by cases B⟩
 ·exact z
end
def QJb(n:Nat)(S:Int):StA:=⟨List.replicate n ⟨⟨S,[],[],false⟩,0⟩,-1,false⟩
theorem Q2i(n:Nat)(S:Int):Fit (QJb n S) n S:=⟨rfl,rfl,by simp[QJb],fun m f=>by
 have:=(List.mem_replicate.1 f).2
 rw[this]⟩
theorem Qd7{n d:Nat}(S:Int)(h:d<n):QN (QJb n S) d=false:=by simp[QN,QJb,List.getElem?_replicate,h]
theorem QKa{pf:σ}{a:Nat}{s:StA}{S:Int}{g:Geo}{i e:Int}{bs:τ}{lost:Nat->Bool}{w w':World}{v:Value}(E:QJa pf a s g i e w v w')(G:Q11 (some (at0 a)) pf g i e=0)(z:Fit s (nG g) S)(p:QC2 g i e S)(h:QG6 s g i e bs lost)(hb:(bs.length:Int)=g.k*g.size)(A:QEb g lost<=g.m.toNat):
  Ext w w'/\∃gd cd o q c2,v= .tuple #[.slice (some (at0 gd)) bs.length cd, .slice o q c2,int i64 0]/\w.heap.size<=gd/\Q1 w' (some (at0 gd)) bs.length bs/\bs.length<=cd/\QI w' w.heap.size o q c2 (QZe s g i lost):=by
 obtain⟨I,K,B,_⟩:=h.few p.geo hb A;have r:=h.bad z p hb A;have f:g.k.toNat*g.size.toNat=bs.length:=by rw[←Qmf s g i e,B]
 rcases E with⟨J,⟨t,_⟩|⟨_,⟨C,_⟩|⟨_,u,_⟩|⟨_,_,gd,cd,o,q,c2,rfl,x,l,y,D⟩⟩⟩
 ·exact(t G).elim
 ·rw[z.down]at C;cases C
 ·exact(u I).elim
 ·refine⟨J,gd,cd,o,q,c2,by rw[f],x,?_,by rw[←f];exact y,?_⟩
  ·rw[B,f]at l;exact l
  ·have:(List.range (nG g)).filter (Qi3 s g i e)=Qtd s g i e:=rfl
   rw[this,r]at D;exact D
theorem Qwi{pf:σ}{a:Nat}{s:StA}{S:Int}{g:Geo}{i e:Int}{w w':World}{v:Value}(m:QJa pf a s g i e w v w')(o:Q11 (some (at0 a)) pf g i e=0)(p:Fit s (nG g) S)(h:¬QU0 s g i e):
  Ext w w'/\v= .tuple #[.slice none 0 0, .slice none 0 0,int i64 150]:=by
 rcases m with⟨q,⟨f,_⟩|⟨_,⟨l,_⟩|⟨_,_,rfl⟩|⟨_,k,_⟩⟩⟩
 ·exact(f o).elim
 ·rw[p.down]at l;cases l
 ·exact⟨q,rfl⟩
 ·exact(h k).elim
def QI2(s:StA)(d:Nat)(dead:Bool):StA:=Q40 s d fun m=>⟨{m.d with dead:=dead,lasts:=[],waits:=[]},i64.wrap (m.births+1)⟩
theorem QY6{s:StA}{N:Nat}{S:Int}{d:Nat}(o:Fit s N S)(q:d<N)(dead:Bool):Fit (QI2 s d dead) N S/\(∀f,QN (QI2 s d dead) f=if f=d then dead else QN s f)/\∀f n,QC3 (QI2 s d dead) f n=if f=d then []else QC3 s f n:=by
 obtain⟨m,r,hs⟩:=o.at q;have p:d<s.M.length:=by rw[o.len];exact q
 have t:QI2 s d dead={s with M:=s.M.set d ⟨{m.d with dead:=dead,lasts:=[],waits:=[]},i64.wrap (m.births+1)⟩}:=by
  unfold QI2 Q40;rw[Ze,r];simp
 have k:∀(x:Mem)(f:Nat),(s.M.set d x)[f]? =if f=d then some x else s.M[f]? :=fun x f=>by
  rw[List.getElem?_set]
  by_cases e:d=f
  ·rw[if_pos e,if_pos e.symm,if_pos p]
  ·rw[if_neg e,if_neg (fun h=>e h.symm)]
 rw[t];refine⟨⟨o.down,o.left,by show(s.M.set d _).length=N;rw[List.length_set,o.len],fun m' l=> ?_⟩,fun f=> ?_,fun f n=> ?_⟩
 ·rcases List.mem_or_eq_of_mem_set l with l|rfl
  ·exact o.sec _ l
  ·exact hs
 ·unfold QN
  show(match(s.M.set d _)[f]? with|some m=>m.d.dead|none=>true)=_
  rw[k]
  by_cases e:f=d
  ·rw[if_pos e,if_pos e]
  ·rw[if_neg e,if_neg e];try rfl
 ·unfold QC3
  show(match(s.M.set d _)[f]? with|some m=>Qy0 m.d n|none=>[])=_
  rw[k]
  by_cases e:f=d
  ·rw[if_pos e,if_pos e];rfl
  ·rw[if_neg e,if_neg e];try rfl
open Go Go.Vc Go.Gf
open Go.IntKind (i64)
open Go.Value (int)
open Go.Proofs.Tryz (prog)
def Q41:Geo:=⟨2,1,1,2,1,1⟩
set_option maxRecDepth 20000 in
theorem QE3(w:World):Calls prog 30 #[] w fun e w'=>e= .returned (gV Q41)/\Ext w w':=by
 refine(F30_calls w (fun v w'=>v=gV Q41/\Ext w w') ?_).mono (by rintro e w' ⟨v,rfl,rfl,h⟩;exact⟨rfl,h⟩);intro k o l;have f:w.heap.size<=k:=by rw[l.size.1];exact Nat.le_refl _
 have t0:Q7 o k 24 #[int i64 0,int i64 0,int i64 0,int i64 0,int i64 0,int i64 0]:=l.at;refine⟨t0.live0 (by simp),fun D p=> ?_⟩;obtain⟨m,q⟩:=t0.set0 p;refine⟨m.live3 (by simp),fun E t=> ?_⟩;obtain⟨t2,u⟩:=m.set3 t;refine⟨t2.live3 (by simp),fun G x=> ?_⟩;obtain⟨t3,v3⟩:=t2.set3 x;refine⟨t3.live3 (by simp),fun I y=> ?_⟩;obtain⟨t4,v4⟩:=t3.set3 y;refine⟨t4.live3 (by simp),fun J z=> ?_⟩;obtain⟨t5,v5⟩:=t4.set3 z;refine⟨t5.live3 (by simp),fun w8 A=> ?_⟩;obtain⟨B,C⟩:=t5.set3 A;have r:RowW w8 k #[int i64 2,int i64 1,int i64 1,int i64 2,int i64 1,int i64 1]:=⟨_,by simpa using B⟩;exact⟨_,r.row.cell (n:=0) rfl,_,r.c rfl,_,r.c rfl,_,r.c rfl,_,r.c rfl,_,r.c rfl,rfl,Q8 (Q8 (Q8 (Q8 (Q8 (Q8 l.ext f q) f u) f v3) f v4) f v5) f C⟩
def QSg(g:Geo):Bool:=if Q80 g≠0 then true else decide (g.k+g.m<=7)&&(decide (g.size<=8)&&decide (g.stripes<=20))
theorem Q6f{g:Geo}(h:Q80 g=0):QA g:=by
 by_cases f:QA g
 ·exact f
 ·unfold Q80 at h;rw[if_neg f]at h;cases h
abbrev gC(g:Geo):Array Value:= #[int i64 g.k,int i64 g.m,int i64 g.size,int i64 g.stripes,int i64 g.slots,int i64 g.objects]
theorem Qqe(g:Geo)(w:World):Calls prog 15 #[gV g] w fun e w'=>e= .returned (.bool (QSg g))/\Ext w w':=by
 refine(F15_calls g.k g.m g.size g.stripes g.slots g.objects w (fun v w'=>v= .bool (QSg g)/\Ext w w') ?_).mono (by rintro e w' ⟨v,rfl,rfl,h⟩;exact⟨rfl,h⟩);intro k w8 u;have r:RowW w8 k (gC g):=⟨_,u.at⟩;refine⟨_,r.row.cell (n:=0) rfl,_,r.c rfl,_,r.c rfl,_,r.c rfl,_,r.c rfl,_,r.c rfl,(Qh5 g w8).mono ?_⟩;rintro e q ⟨rfl,l⟩;have f:RowW q k (gC g):=l.rowW r id;have y:=u.ext.trans l;unfold QSg;refine⟨_,rfl,Q0 (fun o=> ?_) fun x=> ?_⟩
 ·simp only[Zg,Zb]at o
  rw[if_pos o];exact⟨rfl,y⟩
 simp only[Zf,Za]at x;obtain⟨z,A,B,_⟩:=Q6f x;rw[if_neg (by omega)];refine⟨_,f.c rfl,_,f.c rfl,?_⟩;rw[w64 (n:=g.k+g.m) (by omega)];refine Q0 (fun p=>⟨_,f.c rfl,Q0 (fun t=>⟨_,f.c rfl,?_⟩) fun t=> ?_⟩) fun p=> ?_
 ·rw[p,t];exact⟨rfl,y⟩
 ·rw[p,t];exact⟨rfl,y⟩
 ·rw[p];exact⟨rfl,y⟩
structure Run(w0 w:World)(a:Nat)(s:StA)(F:Nat->Prop):Prop where
 ext:Ext w0 w
 isa:IsA w a s F
 new:∀x,F x->w0.heap.size<=x
section
variable {w0 w w':World}{a:Nat}{s s':StA}{F F':Nat->Prop}
theorem Run.more(h:Run w0 w a s F)(f:Ext w w'):Run w0 w' a s F:=⟨h.ext.trans f,Ql.ext h.isa f,h.new⟩
theorem Run.step(h:Run w0 w a s F)(hs:Qp F F' w w')(hi:IsA w' a s' F'):Run w0 w' a s' F':=
 ⟨Q2.new_ext h.ext hs.upd h.new,hi,fun x f=>by
  rcases hs.grow x f with f|f
  ·exact h.new x f
  ·have:=h.ext.size;omega⟩
theorem Run.lt(h:Run w0 w a s F):∀x,F x->x<w.heap.size:=Ql.lt h.isa
end
theorem Fit.ok{s:StA}{N:Nat}{S:Int}(h:Fit s N S)(f:N<=32):OkA s:=⟨by rw[h.len];exact f,by rw[h.left];omega,by rw[h.left];omega⟩
open Go Go.Vc Go.Gf
open Go.IntKind (i64)
open Go.Value (int)
open Go.Proofs.Tryz (prog)
theorem QA7:QA Q41:=by decide
theorem QVg(a k:Nat){e:Int}(f:0<=e/\e<=2147483647):Q11 (some (at0 a)) (some (at0 k)) Q41 1 e=0:=by
 have h:Q80 Q41=0:=by unfold Q80;rw[if_pos QA7]
 have l:Qh3 Q41 1 e=true:=decide_eq_true ⟨by decide,by decide,f⟩;unfold Q11;rw[h,l];rfl
theorem Q1.of_get{F:Nat->Prop}{w w':World}{g n:Nat}{bs:τ}(h:Q1 w (some (at0 g)) n bs)(f:Upd F w w')(k:¬F g):Q1 w' (some (at0 g)) n bs:=Q1.upd h f fun a ha _=>by cases ha;exact k
theorem Qyd{F:Nat->Prop}{w w':World}{g n b:Nat}{bs:τ}(h:Q1 w (some (at0 g)) n bs)(f:Upd F w w')(k:∀x,F x->x<b)(m:b<=g):Q1 w' (some (at0 g)) n bs:=
 Q1.of_get h f fun l=>by have:=k g l;omega
set_option maxRecDepth 20000 in
theorem Qdc(w:World):Calls prog 9 #[] w fun e w'=>e= .returned (.bool true)/\Ext w w':=by
 refine(F9_calls w (fun v w'=>v= .bool true/\Ext w w') ?_).mono (by rintro e w' ⟨v,rfl,rfl,h⟩;exact⟨rfl,h⟩);refine(Q1a w).mono ?_;rintro e w1 ⟨kf,rfl,x1,_,P⟩;refine⟨_,rfl,(QB9 (n:=3) (s:=8) (by omega) (by omega) w1).mono ?_⟩;rintro e w4 ⟨a,F,rfl,x4,hA,ak⟩;have r4:Run w1 w4 a (QJb 3 8) F:=⟨x4,hA,ak⟩;have f0:Fit (QJb 3 8) 3 8:=Q2i 3 8;refine⟨_,_,rfl,Q0 (fun h=>by cases h) fun _=>Q0 (fun h=>by cases h) fun _=>(QE3 w4).mono ?_⟩;rintro e w8 ⟨rfl,x8⟩;refine⟨_,_,_,_,_,_,rfl,fun bo bp Q=> ?_⟩;have r:=r4.more (x8.trans Q.ext);have al:=QG1 (bs:=[7,9]) Q (by unfold maxLen;simp);have am:Qfh (some (at0 a)) (some (at0 kf)) Q41 1 5 [7,9]:=⟨QVg a kf (by omega),by decide⟩;have t:∀d,d<nG Q41->QN (QJb 3 8) d=false:=fun d M=>Qd7 8 M;obtain⟨p,f,hz,O,T,u,_⟩:=Q1h (pa:=some (at0 a)) (pf:=some (at0 kf)) (g:=Q41) (i:=1) (e:=5) (bs:=[7,9]) (S:=8) f0 t (by decide) am;refine(Qy7 (c:=2) r.isa (f0.ok (by omega)) (P.ext r.ext) Q41 1 5 (Q2.bytes al) (by decide)).mono ?_;rintro e ao ⟨F1,rfl,s1,A1⟩;have aq:=r.step s1 A1;rw[hz];refine⟨_,rfl,(QE3 ao).mono ?_⟩;rintro e bt ⟨rfl,ar⟩;have k:=aq.more ar;refine⟨_,_,_,_,_,_,rfl,(QT3 k.isa (O.ok (by decide)) (P.ext k.ext) Q41 1 5).mono ?_⟩;rintro e U ⟨v,rfl,y⟩;obtain⟨au,gd,cd,p2,n2,c2,rfl,av,V,bv,hW⟩:=QKa y (QVg a kf (by omega)) O p u f (by decide);have aw:=k.more au;have ax:=QI.len hW;have ay:(QZe (swS (QJb 3 8) (some (at0 a)) (some (at0 kf)) Q41 1 5 [7,9]) Q41 1 fun _=>false).length=0:=by simp[QZe]
 have az:n2=0:=ax.trans ay;subst az;refine⟨_,_,_,_,_,_,_,rfl,(QE3 U).mono ?_⟩;rintro e bx ⟨rfl,A⟩;have B:=aw.more A;refine⟨_,_,_,_,_,_,rfl,(QT3 B.isa (O.ok (by decide)) (P.ext B.ext) Q41 1 4).mono ?_⟩;rintro e W ⟨v,rfl,y⟩;obtain⟨C,rfl⟩:=Qwi y (QVg a kf (by omega)) O (u.other QA7 (by decide));have r42:=B.more C;refine⟨_,_,_,_,_,_,_,rfl,(Q3c r42.isa 2).mono ?_⟩;rintro e X ⟨F2,z,rfl,s2,A2⟩;have A2:IsA X a (QI2 (swS (QJb 3 8) (some (at0 a)) (some (at0 kf)) Q41 1 5 [7,9]) 2 false) F2:=A2;have a1:=r42.step s2 A2;obtain⟨D,Y,Z⟩:=QY6 (d:=2) O (by decide) false;have E:QG6 (QI2 (swS (QJb 3 8) (some (at0 a)) (some (at0 kf)) Q41 1 5 [7,9]) 2 false) Q41 1 5 [7,9] (fun j=>decide (Qt0 Q41 1 j=2)):=fun j G=>by
  have aa:QN (swS (QJb 3 8) (some (at0 a)) (some (at0 kf)) Q41 1 5 [7,9]) (Qt0 Q41 1 j)=false:=by rw[T];exact Qd7 8 (QR1 QA7 (by decide) G)
  have m:QN (QI2 (swS (QJb 3 8) (some (at0 a)) (some (at0 kf)) Q41 1 5 [7,9]) 2 false) (Qt0 Q41 1 j)=false:=by
   rw[Y]
   split
   ·rfl
   ·exact aa
  refine⟨fun hl=> ?_,fun hl=> ?_⟩
  ·have I:=of_decide_eq_false hl
   have h1:=(u j G).1 rfl;rw[QW1 O p G aa]at h1;rw[QW1 D p G m,Z,if_neg I];exact h1
  ·have he:=of_decide_eq_true hl
   unfold QD1;rw[QW1 D p G m,Z,if_pos he]
   rfl
 have l:∀d,d<3->QN (QI2 (swS (QJb 3 8) (some (at0 a)) (some (at0 kf)) Q41 1 5 [7,9]) 2 false) d=false:=fun d M=>by
  rw[Y]
  split
  ·rfl
  ·rw[T];exact Qd7 8 M
 have o:QZe (QI2 (swS (QJb 3 8) (some (at0 a)) (some (at0 kf)) Q41 1 5 [7,9]) 2 false) Q41 1 (fun j=>decide (Qt0 Q41 1 j=2))=[1]:=by
  have h1:QZe (QI2 (swS (QJb 3 8) (some (at0 a)) (some (at0 kf)) Q41 1 5 [7,9]) 2 false) Q41 1 (fun j=>decide (Qt0 Q41 1 j=2))=(List.range 3).filter fun j=>decide (Qt0 Q41 1 j=2):=by
   refine List.filter_congr fun j G=> ?_;rw[l _ (QR1 QA7 (by decide) (List.mem_range.1 G))]
   rfl
  rw[h1]
  decide
 refine⟨_,rfl,(QE3 X).mono ?_⟩;rintro e b0 ⟨rfl,ac⟩;have J:=a1.more ac;refine⟨_,_,_,_,_,_,rfl,(QT3 J.isa (D.ok (by decide)) (P.ext J.ext) Q41 1 5).mono ?_⟩;rintro e a2 ⟨v,rfl,y⟩;obtain⟨ad,b1,cd2,p3,n3,c3,rfl,_,_,_,hW3⟩:=QKa y (QVg a kf (by omega)) D p E f (by decide);have a3:=J.more ad;have ae:=QI.len hW3;rw[o]at ae;have a4:n3=1:=ae;subst a4;refine⟨_,_,_,_,_,_,_,rfl,(QE3 a2).mono ?_⟩;rintro e b3 ⟨rfl,af⟩;have K:=a3.more af;refine⟨_,_,_,_,_,_,rfl,(QDa K.isa (D.ok (by decide)) (P.ext K.ext) Q41 1 5).mono ?_⟩;rintro e a5 ⟨v,rfl,y⟩;obtain⟨ah,_⟩:=Qvj E D p f (by decide);rw[o]at ah;rcases y with⟨I,_⟩|⟨_,⟨M,_⟩|⟨_,a6,_⟩|⟨_,_,F3,rfl,s3,A3⟩⟩
 ·exact(I (QVg a kf (by omega))).elim
 ·rw[D.down]at M;cases M
 ·exact(a6 (E.few QA7 f (by decide)).1).elim
 have a7:=K.step s3 A3;rw[ah];have lF2:=r42.lt;have ai:Q1 a5 (some (at0 gd)) 2 [7,9]:=by
  have a8:Q1 W (some (at0 gd)) 2 [7,9]:=Q1.ext V (A.trans C);have lF1:=k.lt;have a9:=Qyd a8 s2.upd lF1 av;have ba:=Q1.ext a9 (ac.trans (ad.trans af));have lF63:∀x,F2 x->F1 x\/W.heap.size<=x:=s2.grow;exact Q1.of_get ba s3.upd fun hx=>by
   rcases lF63 _ hx with h|h
   ·have:=lF1 _ h;omega
   ·have:=Q1.lt V (by simp)
    obtain⟨q,hq,hl⟩:=this;cases hq;have h9:gd<U.heap.size:=hl;have:=(A.trans C).size;omega
 refine⟨_,_,rfl,fun b6 b7 L=> ?_⟩;have bb:=QG1 (bs:=[7,9]) L (by unfold maxLen;simp);refine(Q35 (c1:=cd) (c2:=2) (Q1.ext ai L.ext) (Q2.bytes bb) (by decide)).mono ?_;rintro e b8 ⟨rfl,bc⟩;have be:=x1.trans ((a7.more (L.ext.trans bc.ext)).ext);refine⟨_,rfl,Q0 (fun _=> ?_) (fun h=>by simp at h)⟩;refine Q0 (fun _=> ?_) (fun h=>by simp at h);refine Q0 (fun _=> ?_) (fun h=>by simp at h);refine Q0 (fun _=> ?_) (fun h=>by simp at h);refine Q0 (fun _=> ?_) (fun h=>by simp at h);refine Q0 (fun _=> ?_) (fun h=>by simp at h);refine Q0 (fun _=> ?_) (fun h=>by simp at h);refine Q0 (fun _=> ?_) (fun h=>by simp at h);exact⟨rfl,be⟩
open Go Go.Vc Go.ChangeShapes Go.WideShapes Go.ChangeAt Go.RowKit
open Go.IntKind (i64)
open Go.Value (int)
open Go.Proofs.Tryz (prog)
section
variable {H:Type}{enc:TypeId×Value->H}{w:World}{base:Nat}{sp:Nat->Bool}{held:Bool}
theorem QMk{α:Type}(l:List α)(h:l.length=6):∃f k m o p q,l=[f,k,m,o,p,q]:=by
 match l,h with
 | [f,k,m,o,p,q],_=>exact⟨f,k,m,o,p,q,rfl⟩
theorem QO2:Tryz.prog.cellsOf 3=1:=by kernel_rfl
theorem Q9g:Tryz.prog.cellsOf 24=6:=by kernel_rfl
theorem Q5k{P:Program}{f:Nat}{xs:List (DataW H×List MemPlace)}{m j off:Nat}{ys:List Value}{t:TypeId}{sz:Nat}(k:xs.length=m)(o:j<m)(h:DataW.trod enc P w base sp held f t ((ys.drop off).take (P.cellsOf t))=xs[j]?)(l:P.cellsOf t=sz):
  ∃x,DataW.trod enc P w base sp held f t ((ys.drop off).take sz)=some x:=by
 rw[l]at h;exact⟨xs[j]'(by omega),by rw[h,Zc]⟩
theorem Q7i{v:Value}{d:DataW H}{ps:List MemPlace}(hs:∃cs,v= .agg cs/\cs.size=Tryz.prog.cellsOf 24)(h:DataW.Trod enc prog w base sp held 24 v d ps):∃g:Geo,v=gV g:=by
 obtain⟨cs,rfl,o⟩:=hs;obtain⟨fuel,h⟩:=h;rw[Q9g]at o;obtain⟨xs,U,_,_,_,m,l⟩:=DataW.trod_struct Tryz.underlying24 h;obtain⟨q,r,t,u,x,y,p⟩:=QMk cs.toList (by simpa using o);have k:(Value.agg cs).cells.toList=[q,r,t,u,x,y]:=p;rw[k]at l;have f:xs.length=6:=m;obtain⟨x0,z⟩:=Q5k f (by omega) (l 0 _ rfl) QO2;obtain⟨V,A⟩:=Q5k f (by omega) (l 1 _ rfl) QO2;obtain⟨W,B⟩:=Q5k f (by omega) (l 2 _ rfl) QO2;obtain⟨X,C⟩:=Q5k f (by omega) (l 3 _ rfl) QO2;obtain⟨Y,D⟩:=Q5k f (by omega) (l 4 _ rfl) QO2;obtain⟨Z,f5⟩:=Q5k f (by omega) (l 5 _ rfl) QO2;obtain⟨E,G,g0⟩:=Qr2 Tryz.underlying3 z;obtain⟨I,J,g1⟩:=Qr2 Tryz.underlying3 A;obtain⟨K,L,g2⟩:=Qr2 Tryz.underlying3 B;obtain⟨M,O,g3⟩:=Qr2 Tryz.underlying3 C;obtain⟨n4,P,g4⟩:=Qr2 Tryz.underlying3 D;obtain⟨Q,T,g5⟩:=Qr2 Tryz.underlying3 f5;cases G;cases J;cases L;cases O;cases P;cases T;exact⟨⟨E,I,K,M,n4,Q⟩,congrArg Value.agg (Array.toList_inj.1 p)⟩
end
open Go Go.Vc Go.Gf
open Go.IntKind (i64)
open Go.Value (int)
open Go.Proofs.Tryz (prog)
open Go Go.Vc Go.Gf
open Go.IntKind (i64)
open Go.Value (int)
open Go.Proofs.Tryz (prog)
section
variable {s s':StA}{N:Nat}{S:Int}{d:Nat}{n:Int}{b:τ}{g:Geo}{i e:Int}{R:Nat->τ}
theorem QG6.keep{bs:τ}(h:QG6 s g i e bs fun _=>false)(o:Fit s (nG g) S)(m:Fit s' (nG g) S)(p:QC2 g i e S)(q:∀d,QN s' d=QN s d)(hs:∀d,QC3 s' d (atZ g i)=QC3 s d (atZ g i)):QG6 s' g i e bs fun _=>false:=fun j k=>by
 refine⟨fun _=> ?_,fun r=>by cases r⟩;have l:=(h j k).1 rfl;cases f:QN s (Qt0 g i j)with
 |true=>rw[QB6 o p k f]at l;cases l
 |false=>
  rw[QW1 o p k f]at l;rw[QW1 m p k (by rw[q];exact f),hs];exact l
end
open Go Go.Vc
open Go.IntKind (i64)
open Go.Value (int)
open Go.Proofs.Tryz (prog)
theorem Ql6(a b:Nat)(ha:a<4294967296)(hb:b<4294967296):QO .and .u32 (a:Int) (b:Int)=((a&&&b:Nat):Int):=by
 show IntKind.u32.wrap (((BitVec.ofInt 32 (a:Int))&&&(BitVec.ofInt 32 (b:Int))).toNat:Int)=_
 rw[BitVec.toNat_and,ofInt_u32 _ ha,ofInt_u32 _ hb,IntKind.wrap_u32'];have:a&&&b<=a:=Nat.and_le_left;omega
theorem QH4(a b:Nat)(ha:a<4294967296)(hb:b<4294967296):QO .xor .u32 (a:Int) (b:Int)=((a^^^b:Nat):Int)/\a^^^b<4294967296:=by
 have f:a^^^b<2^32:=Nat.xor_lt_two_pow (by omega) (by omega);refine⟨?_,by omega⟩;show IntKind.u32.wrap (((BitVec.ofInt 32 (a:Int))^^^(BitVec.ofInt 32 (b:Int))).toNat:Int)=_
 rw[BitVec.toNat_xor,ofInt_u32 _ ha,ofInt_u32 _ hb,IntKind.wrap_u32'];omega
def QNj(x:Int):Int:=if QO .and .u32 x (1:Int)=(1:Int)then QO .xor .u32 (x.fdiv (2^(min (1:Int).toNat IntKind.u32.bits))) (2197175160:Int)else x.fdiv (2^(min (1:Int).toNat IntKind.u32.bits))
theorem QU8(n:Nat):(n:Int).fdiv (2^(min (1:Int).toNat IntKind.u32.bits))=((n/2:Nat):Int):=by
 show(n:Int).fdiv (2:Int)=_
 rw[Int.fdiv_eq_ediv_of_nonneg _ (by decide)];omega
theorem Q5b(n:Nat)(h:n<4294967296):QO .and .u32 (n:Int) (1:Int)=((n % 2:Nat):Int):=by
 have:=Ql6 n 1 h (by omega);rw[Nat.and_one_is_mod]at this;exact this
theorem Qv6{n:Nat}(h:n<4294967296):QNj n=Q01 n/\∃m:Nat,Q01 n=m/\m<4294967296:=by
 have o:=Q5b n h;have hP:(2197175160:Int)=((2197175160:Nat):Int):=rfl;unfold QNj Q01;rw[o,QU8];rcases Nat.mod_two_eq_zero_or_one n with k|k
 ·rw[k]
  have l:IntKind.u32.wrap (0-((0:Nat):Int))=((0:Nat):Int):=by rw[IntKind.wrap_u32'];rfl
  have ha:QO .and .u32 (2197175160:Int) ((0:Nat):Int)=((0:Nat):Int):=by
   rw[hP,Ql6 _ _ (by omega) (by omega),Nat.and_zero]
  have f:=QH4 (n/2) 0 (by omega) (by omega);rw[l,ha,f.1,Nat.xor_zero,if_neg (by decide)];exact⟨rfl,n/2,rfl,by omega⟩
 ·rw[k]
  have l:IntKind.u32.wrap (0-((1:Nat):Int))=((4294967295:Nat):Int):=by rw[IntKind.wrap_u32'];rfl
  have ha:QO .and .u32 (2197175160:Int) ((4294967295:Nat):Int)=(2197175160:Int):=by
   rw[hP,Ql6 _ _ (by omega) (by omega)]
   decide
  have f:=QH4 (n/2) 2197175160 (by omega) (by omega);rw[l,ha,if_pos (show((1:Nat):Int)=1 from rfl)];exact⟨rfl,_,f.1,f.2⟩
theorem Qs0{n:Nat}(h:n<4294967296):∀k,∃m:Nat,QX0 k n=m/\m<4294967296
 |0=>⟨n,rfl,h⟩
 |k+1=>by
  obtain⟨m,e,f⟩:=Qs0 h k;show∃m':Nat,Q01 (QX0 k n)=m'/\_
  rw[e];exact(Qv6 f).2
theorem Qnb{t:Nat}(h:2*t<4294967296):Q01 ((2*t:Nat):Int)=(t:Int):=by
 rw[←(Qv6 h).1];unfold QNj;rw[Q5b _ h,QU8,show 2*t % 2=0 by omega,show 2*t/2=t by omega,if_neg (by decide)]
theorem QP9{m:Nat}(h:256*m<4294967296):QX0 8 ((256*m:Nat):Int)=(m:Int):=by
 have s:∀k t:Nat,2*k*t<4294967296->Q01 ((2*k*t:Nat):Int)=((k*t:Nat):Int):=fun k t f=>by
  have:=Qnb (t:=k*t) (by rw[←Nat.mul_assoc];exact f);rw[←Nat.mul_assoc]at this;exact this
 show Q01 (Q01 (Q01 (Q01 (Q01 (Q01 (Q01 (Q01 ((256*m:Nat):Int))))))))=_
 rw[s 128 m (by omega),s 64 m (by omega),s 32 m (by omega),s 16 m (by omega),s 8 m (by omega),s 4 m (by omega),s 2 m (by omega),s 1 m (by omega),Nat.one_mul]
theorem QP6(x:Int)(b:UInt8):Qb1 x b=QX0 8 (QO .xor .u32 x (IntKind.u32.wrap (b.toNat:Int))):=by
 by_cases f:QO .and .u32 (QO .xor .u32 x (IntKind.u32.wrap (b.toNat:Int))) (255:Int)=0
 ·rw[QR6 f]
  have h:0<=QO .xor .u32 x (IntKind.u32.wrap (b.toNat:Int))/\QO .xor .u32 x (IntKind.u32.wrap (b.toNat:Int))<4294967296:=QB7 _;generalize QO .xor .u32 x (IntKind.u32.wrap (b.toNat:Int))=y at f h;obtain⟨n,rfl⟩:=Int.eq_ofNat_of_zero_le h.1;have o:n<4294967296:=by omega
  have k:=Ql6 n 255 o (by omega);have p:n&&&255=n % 256:=Nat.and_two_pow_sub_one_eq_mod n 8;rw[p]at k;have q:((n % 256:Nat):Int)=0:=k.symm.trans f;have l:=QP9 (m:=n/256) (by omega);rw[show 256*(n/256)=n by omega]at l;rw[l];show(n:Int).fdiv (256:Int)=_
  rw[Int.fdiv_eq_ediv_of_nonneg _ (by decide)];omega
 ·exact QQ6 f
theorem Qb8{n:Nat}(h:n<4294967296):Q01 n=((if n % 2=1 then n/2^^^2197175160 else n/2:Nat):Int):=by
 rw[←(Qv6 h).1];unfold QNj;rw[Q5b n h,QU8]
 by_cases f:n % 2=1
 ·rw[if_pos (by omega),if_pos f]
  exact(QH4 (n/2) 2197175160 (by omega) (by omega)).1
 ·rw[if_neg (by omega),if_neg f]
theorem Q9j{a b:Nat}(ha:a<2147483648)(hb:b<2147483648):a^^^2197175160≠b:=fun h=>by
 have f:(a^^^2197175160).testBit 31=b.testBit 31:=by rw[h]
 have k:(2197175160:Nat).testBit 31=true:=by decide
 rw[Nat.testBit_xor,Nat.testBit_lt_two_pow (show a<2^31 from ha),Nat.testBit_lt_two_pow (show b<2^31 from hb),k]at f;cases f
theorem QU3{a b c:Nat}(h:a^^^c=b^^^c):a=b:=by
 have f:(a^^^c)^^^c=(b^^^c)^^^c:=by rw[h]
 rwa [Nat.xor_assoc,Nat.xor_self,Nat.xor_zero,Nat.xor_assoc,Nat.xor_self,Nat.xor_zero]at f
theorem QFd{n m:Nat}(l:n<4294967296)(o:m<4294967296)(h:Q01 n=Q01 m):n=m:=by
 rw[Qb8 l,Qb8 o]at h;have h:=Int.ofNat.inj h
 by_cases k:n % 2=1
 ·by_cases f:m % 2=1
  ·rw[if_pos k,if_pos f]at h
   have:=QU3 h;omega
  ·rw[if_pos k,if_neg f]at h
   exact(Q9j (by omega) (by omega) h).elim
 ·by_cases f:m % 2=1
  ·rw[if_neg k,if_pos f]at h
   exact(Q9j (by omega) (by omega) h.symm).elim
  ·rw[if_neg k,if_neg f]at h
   omega
theorem Ql4{n m:Nat}(f:n<4294967296)(l:m<4294967296):∀k,QX0 k n=QX0 k m->n=m
 |0,h=>Int.ofNat.inj h
 |k+1,h=>by
  obtain⟨a,ea,ha⟩:=Qs0 f k;obtain⟨b,eb,hb⟩:=Qs0 l k;have o:Q01 (QX0 k n)=Q01 (QX0 k m):=h;rw[ea,eb]at o;have:=QFd ha hb o;subst this;exact Ql4 f l k (by rw[ea,eb])
theorem Qb2{n:Nat}(h:n<4294967296)(b:UInt8):Qb1 n b=QX0 8 ((n^^^b.toNat:Nat):Int)/\n^^^b.toNat<4294967296:=by
 have hb:=b.toNat_lt;have f:=QH4 n b.toNat h (by omega);rw[QP6];have:IntKind.u32.wrap (b.toNat:Int)=(b.toNat:Int):=by rw[IntKind.wrap_u32'];omega
 rw[this,f.1];exact⟨rfl,f.2⟩
theorem Q13{n:Nat}(f:n<4294967296):∀bs:τ,∃m:Nat,bs.foldl Qb1 (n:Int)=m/\m<4294967296
 | []=>⟨n,rfl,f⟩
 |b::bs=>by
  obtain⟨h,k⟩:=Qb2 f b;obtain⟨m,em,l⟩:=Qs0 k 8;rw[List.foldl_cons,h,em];exact Q13 l bs
theorem QS6:∀(bs:τ){n m:Nat}(_:n<4294967296)(_:m<4294967296),bs.foldl Qb1 (n:Int)=bs.foldl Qb1 (m:Int)->n=m
 | [],_,_,_,_,h=>Int.ofNat.inj h
 |b::bs,n,m,l,o,h=>by
  obtain⟨p,f⟩:=Qb2 l b;obtain⟨q,k⟩:=Qb2 o b;obtain⟨x,ex,r⟩:=Qs0 f 8;obtain⟨y,ey,t⟩:=Qs0 k 8;rw[List.foldl_cons,List.foldl_cons,p,q,ex,ey]at h;have:=QS6 bs r t h;subst this;exact QU3 (Ql4 f k 8 (by rw[ex,ey]))
theorem Qk5{n:Nat}(f:n<4294967296):QN5 (n:Int)=((4294967295^^^n:Nat):Int)/\4294967295^^^n<4294967296:=QH4 4294967295 n (by omega) f
theorem Qoj(bs:τ){i:Nat}(hi:i<bs.length){b:UInt8}(hb:b≠bs[i]):QM7 (bs.set i b)≠QM7 bs:=fun h=>by
 have f:=Qk5 (n:=0) (by omega);unfold QM7 QGd at h;have v:QN5 (0:Int)=((4294967295^^^0:Nat):Int):=f.1;rw[v]at h;obtain⟨x,ex,z⟩:=Q13 f.2 (bs.set i b);obtain⟨y,ey,A⟩:=Q13 f.2 bs;have k:=h;rw[ex,ey,(Qk5 z).1,(Qk5 A).1]at k;have l:=Int.ofNat.inj k;rw[Nat.xor_comm,Nat.xor_comm 4294967295 y]at l;have B:=QU3 l;subst B;rw[←ey]at ex;have C:bs=bs.take i++bs[i]::bs.drop (i+1):=by rw[List.getElem_cons_drop,List.take_append_drop]
 have D:bs.set i b=bs.take i++b::bs.drop (i+1):=by rw[List.set_eq_take_append_cons_drop,if_pos hi]
 rw[D]at ex
 conv at ex=>rhs;rw[C]
 rw[List.foldl_append,List.foldl_append,List.foldl_cons,List.foldl_cons]at ex;obtain⟨u,eu,m⟩:=Q13 f.2 (bs.take i);rw[eu]at ex;obtain⟨E,o⟩:=Qb2 m b;obtain⟨G,r⟩:=Qb2 m bs[i];obtain⟨p,ep,I⟩:=Qs0 o 8;obtain⟨q,eq,J⟩:=Qs0 r 8;rw[E,G,ep,eq]at ex;have K:=QS6 _ I J ex;subst K;have t:=Ql4 o r 8 (by rw[ep,eq]);rw[Nat.xor_comm,Nat.xor_comm u]at t;exact hb (UInt8.toNat_inj.1 (QU3 t))
theorem Qve{addr e:Int}{d:τ}{i:Nat}(hi:i<(QR addr e d).length){b:UInt8}(hb:b≠(QR addr e d)[i]):Q10 addr ((QR addr e d).set i b)=none:=by
 have z:=Qx3 addr e d;have A:=QY4 addr e d;have k:=QF3 (QO0 addr e d);have v:(Q50 (QM7 (QO0 addr e d))).length=4:=Qh1 _;have f:¬Qc3 addr ((QR addr e d).set i b):=by
  rintro⟨_,_,_,l,_⟩;rw[List.length_set,show(QR addr e d).length-4=(QO0 addr e d).length by omega]at l
  by_cases h:i<(QO0 addr e d).length
  ·have p:(QR addr e d).set i b=(QO0 addr e d).set i b++Q50 (QM7 (QO0 addr e d)):=by unfold QR;rw[List.set_append_left _ _ h]
   have q:((QO0 addr e d).set i b).length=(QO0 addr e d).length:=List.length_set;rw[p,←q,List.drop_left,List.take_left,QW4 k.1 k.2]at l;have r:b≠(QO0 addr e d)[i]:=fun t=>by
    have m:(QR addr e d)[i]? =some b:=by unfold QR;rw[Zl h,Zc h,t]
    rw[Zc hi]at m;exact hb (Option.some.inj m).symm
   exact Qoj _ h r l.symm
  ·have p:(QR addr e d).set i b=QO0 addr e d++(Q50 (QM7 (QO0 addr e d))).set (i-(QO0 addr e d).length) b:=by unfold QR;rw[List.set_append_right _ _ (by omega)]
   rw[p,List.drop_left,List.take_left]at l;have u:=QP8 (bs:=(Q50 (QM7 (QO0 addr e d))).set (i-(QO0 addr e d).length) b) (by rw[List.length_set];exact v);rw[l]at u;have o:=u.2.2;have x:i-(QO0 addr e d).length<(Q50 (QM7 (QO0 addr e d))).length:=by omega
   have y:(Q50 (QM7 (QO0 addr e d)))[i-(QO0 addr e d).length]? =some b:=by
    rw[o,List.getElem?_set_self x]
   have m:(QR addr e d)[i]? =some b:=by unfold QR;rw[Zm (by omega)];exact y
   rw[Zc hi]at m;exact hb (Option.some.inj m).symm
 unfold Q10;rw[if_neg f]
open Go Go.Vc Go.Gf
open Go.IntKind (i64)
open Go.Value (int)
open Go.Proofs.Tryz (prog)
def QUd(s:StA)(at_ how:Int)(d:Nat):StA:=if how.tmod 3=0 then QI2 s d true else if how.tmod 3=1 then QI2 s d false else Q40 s d fun m=>{m with d:=Qf m.d at_ how 1}
theorem Qd9{D:Dk}{k t n:Int}{y:UInt8}(m:Qh D.dead D.sectors k=0):Qy0 (Qf D k t y) n=if n=k then QF (Qy0 D k) t y else Qy0 D n:=by
 unfold Qf;rw[m,if_neg (by simp)];cases f:Vc.get k D.waits with
 |some bs=>
  dsimp only
  unfold Qy0
  dsimp only
  rw[Qyb,f]
  by_cases e:n=k
  ·rw[if_pos e.symm,if_pos e]
  ·rw[if_neg (fun h=>e h.symm),if_neg e]
 |none=>
  dsimp only
  cases l:Vc.get k D.lasts with
  |some bs=>
   dsimp only
   unfold Qy0
   dsimp only
   rw[Qyb,f,l]
   by_cases e:n=k
   ·subst e
    rw[if_pos rfl,if_pos rfl,f]
   ·rw[if_neg (fun h=>e h.symm),if_neg e]
  |none=>
   dsimp only
   unfold Qy0;rw[f,l]
   by_cases e:n=k
   ·subst e
    rw[if_pos rfl,f,l]
    rfl
   ·rw[if_neg e]
theorem Qlb{s:StA}{N:Nat}{S:Int}{d:Nat}{n t:Int}{y:UInt8}(q:Fit s N S)(C:d<N)(A:QN s d=false)(E:0<=n/\n<S):
  Fit (Q40 s d fun m=>{m with d:=Qf m.d n t y}) N S/\(∀f,QN (Q40 s d fun m=>{m with d:=Qf m.d n t y}) f=QN s f)∧
   ∀f l,QC3 (Q40 s d fun m=>{m with d:=Qf m.d n t y}) f l=if f=d/\l=n then QF (QC3 s d n) t y else QC3 s f l:=by
 obtain⟨m,v,hs⟩:=q.at C;have B:d<s.M.length:=by rw[q.len];exact C
 have o:m.d.dead=false:=by unfold QN at A;rw[v]at A;exact A
 have r:Qh m.d.dead m.d.sectors n=0:=by unfold Qh;rw[o,if_neg (by simp),if_neg (by omega)]
 have D:(Q40 s d fun m=>{m with d:=Qf m.d n t y})={s with M:=s.M.set d {m with d:=Qf m.d n t y}}:=by
  unfold Q40;rw[Ze,v];simp
 have k:∀(x:Mem)(f:Nat),(s.M.set d x)[f]? =if f=d then some x else s.M[f]? :=fun x f=>by
  rw[List.getElem?_set]
  by_cases e:d=f
  ·rw[if_pos e,if_pos e.symm,if_pos B]
  ·rw[if_neg e,if_neg (fun h=>e h.symm)]
 have u:(Qf m.d n t y).sectors=m.d.sectors/\(Qf m.d n t y).dead=m.d.dead:=by
  unfold Qf;rw[r,if_neg (by simp)]
  split
  ·exact⟨rfl,rfl⟩
  ·split<;>exact⟨rfl,rfl⟩
 rw[D];refine⟨⟨q.down,q.left,by show(s.M.set d _).length=N;rw[List.length_set,q.len],fun m' p=> ?_⟩,fun f=> ?_,fun f l=> ?_⟩
 ·rcases List.mem_or_eq_of_mem_set p with p|rfl
  ·exact q.sec _ p
  ·exact u.1.trans hs
 ·unfold QN
  show(match(s.M.set d _)[f]? with|some m=>m.d.dead|none=>true)=_
  rw[k]
  by_cases e:f=d
  ·subst e
   rw[if_pos rfl,v];exact u.2
  ·rw[if_neg e];try rfl
 ·unfold QC3
  show(match(s.M.set d _)[f]? with|some m=>Qy0 m.d l|none=>[])=_
  rw[k]
  by_cases e:f=d
  ·subst e
   rw[if_pos rfl,v];show Qy0 (Qf m.d n t y) l=_
   rw[Qd9 r]
   by_cases z:l=n
   ·rw[if_pos z,if_pos ⟨rfl,z⟩]
   ·rw[if_neg z,if_neg (fun h=>z h.2)]
  ·rw[if_neg e,if_neg (fun h=>e h.1)];try rfl
theorem QQh{s:StA}{S:Int}{g:Geo}{i e how:Int}{d:Nat}{b:τ}(x:Fit s (nG g) S)(p:QC2 g i e S)(z:d<nG g)(A:QN s d=false)(hs:QC3 s d (atZ g i)=QR (atZ g i) e b):
  Fit (QUd s (atZ g i) how d) (nG g) S/\(∀f,QN (QUd s (atZ g i) how d) f=if f=d then decide (how.tmod 3=0)else QN s f)/\(∀f n,f≠d->QC3 (QUd s (atZ g i) how d) f n=QC3 s f n)∧
   Q10 (atZ g i) (QC3 (QUd s (atZ g i) how d) d (atZ g i))=none:=by
 have l:Q10 (atZ g i) []=none:=by
  unfold Q10;rw[if_neg (fun h=>by have:=h.1;simp at this)]
 unfold QUd
 by_cases o:how.tmod 3=0
 ·rw[if_pos o]
  obtain⟨q,r,m⟩:=QY6 x z true;exact⟨q,fun f=>by rw[r,decide_eq_true o],fun f n k=>by rw[m,if_neg k],by rw[m,if_pos rfl];exact l⟩
 rw[if_neg o]
 by_cases u:how.tmod 3=1
 ·rw[if_pos u]
  obtain⟨q,r,m⟩:=QY6 x z false;exact⟨q,fun f=>by rw[r,decide_eq_false o],fun f n k=>by rw[m,if_neg k],by rw[m,if_pos rfl];exact l⟩
 rw[if_neg u];obtain⟨q,r,m⟩:=Qlb (t:=how) (y:=1) x z A p.rng;refine⟨q,fun f=> ?_,fun f n k=>by rw[m,if_neg (fun h=>k h.1)],?_⟩
 ·rw[r,decide_eq_false o]
  by_cases e:f=d
  ·rw[if_pos e,e,A]
  ·rw[if_neg e]
 ·rw[m,if_pos ⟨rfl,rfl⟩,hs]
  unfold QF;have B:=Qx3 (atZ g i) e b;have v:=QO6 how (show 0<(QR (atZ g i) e b).length by omega);refine Qve v ?_;rw[Zj,Zc v];show(QR (atZ g i) e b)[Qa2 how (QR (atZ g i) e b).length]^^^1≠_
  intro C;have:(QR (atZ g i) e b)[Qa2 how (QR (atZ g i) e b).length]^^^((QR (atZ g i) e b)[Qa2 how (QR (atZ g i) e b).length]^^^1)=0:=by rw[C,UInt8.xor_self]
  rw[←UInt8.xor_assoc,UInt8.xor_self,UInt8.zero_xor]at this;exact absurd this (by decide)
structure Qak(s1 s:StA)(g:Geo)(i:Int)(S how:Int)(L:List Nat):Prop where
 fit:Fit s (nG g) S
 yes:∀d,d∈L->d<nG g->QN s d=decide (how.tmod 3=0)/\Q10 (atZ g i) (QC3 s d (atZ g i))=none
 no:∀d,d∉L->QN s d=QN s1 d/\QC3 s d (atZ g i)=QC3 s1 d (atZ g i)
theorem Qak.step{l s:StA}{g:Geo}{i e S how:Int}{L:List Nat}{d:Nat}{b:τ}(h:Qak l s g i S how L)(p:QC2 g i e S)(v:d<nG g)(x:d∉L)(y:QN l d=false)(hs:QC3 l d (atZ g i)=QR (atZ g i) e b):Qak l (QUd s (atZ g i) how d) g i S how (L++ [d]):=by
 obtain⟨z,A⟩:=h.no d x;obtain⟨B,m,u,C⟩:=QQh (how:=how) h.fit p v (z.trans y) (A.trans hs);refine⟨B,fun k f o=> ?_,fun k f=> ?_⟩
 ·by_cases e:k=d
  ·subst e
   exact⟨by rw[m,if_pos rfl],C⟩
  ·have q:k∈L:=by
    rcases List.mem_append.1 f with h|h
    ·exact h
    ·exact(e (List.mem_singleton.1 h)).elim
   obtain⟨r,t⟩:=h.yes k q o;exact⟨by rw[m,if_neg e];exact r,by rw[u _ _ e];exact t⟩
 ·have e:k≠d:=fun e=>f (List.mem_append.2 (.inr (List.mem_singleton.2 e)))
  obtain⟨r,t⟩:=h.no k fun q=>f (List.mem_append.2 (.inl q));exact⟨by rw[m,if_neg e];exact r,by rw[u _ _ e];exact t⟩
theorem Qak.ok{m s:StA}{g:Geo}{i e S how:Int}{L:List Nat}{bs:τ}(h:Qak m s g i S how L)(p:QC2 g i e S)(hb:(bs.length:Int)=g.k*g.size)(u:∀d,d<nG g->QN m d=false)(hs:∀j,j<nG g->QC3 m (Qt0 g i j) (atZ g i)=QR (atZ g i) e (QP0 g bs j)):
  QG6 s g i e bs fun j=>decide (Qt0 g i j∈L):=fun j f=>by
 have r:=QR1 p.geo p.str f;refine⟨fun o=> ?_,fun o=> ?_⟩
 ·obtain⟨t,q⟩:=h.no _ (of_decide_eq_false o)
  exact Qm9 h.fit p f (t.trans (u _ r)) (Qv7 p.geo hb j) p.ep (q.trans (hs j f))
 ·obtain⟨t,q⟩:=h.yes _ (of_decide_eq_true o) r
  unfold QD1;cases l:QN s (Qt0 g i j)with
  |true=>rw[QB6 h.fit p f l]
  |false=>rw[QW1 h.fit p f l,q]
open Go Go.Vc Go.Gf
open Go.IntKind (i64)
open Go.Value (int)
open Go.Proofs.Tryz (prog)
end Go.Proofs.YtkolafpgbhpdlaaGreat
