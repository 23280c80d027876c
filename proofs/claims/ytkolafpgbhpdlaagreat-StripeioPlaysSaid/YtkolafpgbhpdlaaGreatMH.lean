import Derived.Test.YtkolafpgbhpdlaaGreatMC
import Derived.Test.YtkolafpgbhpdlaaGreatME
import Derived.Test.YtkolafpgbhpdlaaGreatRepS
import Derived.Laws.BitsAllLaws
set_option maxHeartbeats 4000000
namespace Go.Proofs.YtkolafpgbhpdlaaGreat
open Go Go.Vc Go.Gf
open Go.IntKind (i64)
open Go.Value (int)
open Go.Proofs.Tryz (prog)
abbrev vb(a:UInt8):Value:= .int .u8 (a.toNat:Int)
def Qm(w:World)(p:σ):Prop:=
 ∃a,p=some a/\(∀i,i<510->w.cell? (a.add i)=some (.int .u8 (ge i:Int)))/\∀i,i<256->w.cell? (a.add (510+i))=some (int i64 (gl i:Int))
theorem Qm.upd{S:Nat->Prop}{w w':World}{p:σ}(h:Qm w p)(d:Upd S w w')(hS:∀a,p=some a->¬S a.block):Qm w' p:=by
 obtain⟨a,rfl,g,j⟩:=h;exact⟨a,rfl,fun i hi=>d.cell (g i hi) (by rw[Qx];exact hS a rfl),fun i hi=>d.cell (j i hi) (by rw[Qx];exact hS a rfl)⟩
theorem Qm.ext{w w':World}{p:σ}(h:Qm w p)(a:Ext w w'):Qm w' p:=h.upd a fun _ _=>id
theorem Qm.there{w:World}{p:σ}(h:Qm w p):p.isNone=false:=by obtain⟨a,rfl,_⟩:=h;rfl
theorem Qm.lt{w:World}{p:σ}(h:Qm w p):∃a,p=some a/\a.block<w.heap.size:=by
 obtain⟨a,rfl,d,_⟩:=h;have:=Qcb (d 0 (by omega));rw[Qx]at this;exact⟨a,rfl,this⟩
theorem QC1{f:σ}{w:World}(hf:Qm w f)(a b:UInt8):
  Calls prog 112 #[.pointer f,vb a,vb b] w fun e w'=>e= .returned (vb (gm a b))/\Ext w w':=by
 refine(F112_calls f a.toNat b.toNat w (fun v w'=>v=vb (gm a b)/\Ext w w') ?_).mono (by rintro e w' ⟨v,rfl,rfl,h⟩;exact⟨rfl,h⟩);rw[hf.there];have ha:=QC7 a;have hb:=QC7 b;refine Q0 (fun h=>by cases h) fun _=>Q0 (fun h=> ?_) fun h=>Q0 (fun d=> ?_) fun d=> ?_
 ·simp only[Za]at h
  have:a=0:=QJ0.2 (by omega);subst this;exact⟨by rw[QU];rfl,Upd.refl _ _⟩
 ·simp only[Za]at d
  have:b=0:=QJ0.2 (by omega);subst this;exact⟨by rw[Qq];rfl,Upd.refl _ _⟩
 ·simp only[Zb]at h d
  intro o g;obtain⟨q,rfl,j,i⟩:=hf.ext g.ext;have fa:=QU1 ha (by omega);have fb:=QU1 hb (by omega);refine⟨⟨by omega,by omega⟩,(gl a.toNat:Int),by rw[QB,Nat.mul_one,Ze];exact i _ ha,⟨by omega,by omega⟩,(gl b.toNat:Int),by rw[QB,Nat.mul_one,Ze];exact i _ hb,?_⟩;rw[w64 (n:=(gl a.toNat:Int)+(gl b.toNat:Int)) (by omega)];refine⟨⟨by omega,by omega⟩,(ge (gl a.toNat+gl b.toNat):Int),?_,?_,g.ext⟩
  ·rw[QB,Nat.mul_one,Nat.zero_add,show((gl a.toNat:Int)+(gl b.toNat:Int)).toNat=gl a.toNat+gl b.toNat by omega]
   exact j _ (by omega)
  ·show Value.int .u8 _=Value.int .u8 _
   rw[QS0,Qr5 (by omega) (by omega)]
theorem QHf{f:σ}{w:World}(hf:Qm w f)(a:UInt8):
  Calls prog 194 #[.pointer f,vb a,int i64 (-1)] w fun e w'=>e= .returned (.tuple #[vb (gi a),int i64 (if a=0 then 10 else 0)])/\Ext w w':=by
 refine(F194_calls f a.toNat (-1) w (fun v w'=>v= .tuple #[vb (gi a),int i64 (if a=0 then 10 else 0)]/\Ext w w') ?_).mono (by rintro e w' ⟨v,rfl,rfl,h⟩;exact⟨rfl,h⟩);have ha:=QC7 a;have go:a.toNat≠0->F194_A1 f a.toNat (-1) w (fun v w'=>v= .tuple #[vb (gi a),int i64 (if a=0 then 10 else 0)]/\Ext w w'):=by
  intro d;refine⟨by decide,by decide,fun x g=> ?_⟩;obtain⟨q,rfl,i,j⟩:=hf.ext g.ext;have fa:=QU1 ha d;refine⟨⟨by omega,by omega⟩,(gl a.toNat:Int),by rw[QB,Nat.mul_one,Ze];exact j _ ha,by decide,?_⟩;have o:(i64.wrap (((-1:Int).tmod (255:Int))+(255:Int))).tmod (255:Int)=254:=by rw[w64 (by decide)];decide
  rw[o,w64 (by omega),Int.tmod_eq_emod_of_nonneg (by omega)];have r:((gl a.toNat:Int)*254 % 255).toNat=gl a.toNat*254 % 255:=by omega
  refine⟨⟨by omega,by omega⟩,(ge (gl a.toNat*254 % 255):Int),by rw[QB,Nat.mul_one,Nat.zero_add,r];exact i _ (by omega),?_,g.ext⟩;have s:a≠0:=fun e=>d (QJ0.1 e);rw[if_neg s];have t:(gi a).toNat=ge (gl a.toNat*254 % 255):=by
   rw[Qed];unfold giN;rw[Q0f.2 d];rfl
  show Value.tuple #[.int .u8 _,int i64 0]=Value.tuple #[.int .u8 _,int i64 0]
  rw[t]
 unfold F194;rw[hf.there];refine Q0 (fun h=>by cases h) fun _=>Q0 (fun h=> ?_) fun h=> ?_
 ·simp only[Za]at h
  have d:a=0:=QJ0.2 (by omega);refine Q0 (fun _=>⟨?_,Upd.refl _ _⟩) fun h=>by simp at h
  subst d;rfl
 ·simp only[Zb]at h
  refine Q0 (fun u=>by simp only[Za]at u;omega) fun _=>go (by omega)
theorem QM4{f:σ}{w:World}(hf:Qm w f)(a:UInt8):
  Calls prog 168 #[.pointer f,vb a] w fun e w'=>e= .returned (.tuple #[vb (gi a),int i64 (if a=0 then 10 else 0)])/\Ext w w':=by
 refine(F168_calls f a.toNat w (fun v w'=>v= .tuple #[vb (gi a),int i64 (if a=0 then 10 else 0)]/\Ext w w') ?_).mono (by rintro e w' ⟨v,rfl,rfl,h⟩;exact⟨rfl,h⟩);refine(QHf hf a).mono ?_;rintro e g ⟨rfl,d⟩;exact⟨_,_,rfl,rfl,d⟩
theorem QX9{f:σ}{w:World}(hf:Qm w f)(a b:UInt8):
  Calls prog 143 #[.pointer f,vb a,vb b] w fun e w'=>e= .returned (.tuple #[vb (gm a (gi b)),int i64 (if b=0 then 10 else 0)])/\Ext w w':=by
 refine(F143_calls f a.toNat b.toNat w (fun v w'=>v= .tuple #[vb (gm a (gi b)),int i64 (if b=0 then 10 else 0)]/\Ext w w') ?_).mono (by rintro e w' ⟨v,rfl,rfl,h⟩;exact⟨rfl,h⟩);refine(QM4 hf b).mono ?_;rintro e i ⟨rfl,g⟩;refine⟨_,_,rfl,(QC1 (hf.ext g) a (gi b)).mono ?_⟩;rintro e j ⟨rfl,d⟩;exact⟨_,rfl,rfl,g.trans d⟩
open Go Go.Vc Go.Gf
open Go.IntKind (i64)
open Go.Value (int)
open Go.Proofs.Tryz (prog)
def Qbl(x:Int):Int:=if(255:Int)<(i64.wrap (x*2^(min (1:Int).toNat IntKind.i64.bits)))then QO .xor .i64 (i64.wrap (x*2^(min (1:Int).toNat IntKind.i64.bits))) (285:Int)else i64.wrap (x*2^(min (1:Int).toNat IntKind.i64.bits))
theorem Q4h:(Q7h 255 fun s=>Qbl (ge s:Int)==(ge (s+1):Int))=true:=by kernel_rfl
theorem QEi{s:Nat}(h:s<255):Qbl (ge s:Int)=(ge (s+1):Int):=by
 have:=QW2 Q4h s h;simpa using this
theorem QBj:gl 0=0:=by kernel_rfl
theorem Qyj:ge 0=1:=by kernel_rfl
theorem QJf:(Qc prog 86).toArray.size=766:=by kernel_rfl
theorem QKf:(Qc prog 86).toArray[510]? =some (int i64 0):=by kernel_rfl
theorem Qy6{w w':World}{b n:Nat}{v:Value}{cs:Array Value}{a:Addr}(h:Qt w a v w')(ha:a=(at0 b).add n)(hb:RowW w b cs):RowW w' b (cs.setIfInBounds n v):=by
 subst ha;exact Qt.row h hb
theorem QQl{w0 w w':World}{k j:Nat}{v:Value}(h:Ext w0 w)(a:w0.heap.size<=k)(hs:Qt w ((at0 k).add j) v w'):Ext w0 w':=by
 refine Upd.trans h hs.upd fun x d he=> ?_;have:x=k:=by
  rw[QJ]at he;exact he
 omega
theorem Qz6{w w':World}{v:Value}{a:Addr}{b n:Nat}(h:Qt w a v w')(ha:a=(at0 b).add n):Upd (fun x=>x=b) w w':=by
 subst ha;have:=h.upd;rw[Qx]at this;exact this
def Qe7(cs:Array Value)(n x:Nat):Array Value:=((cs.setIfInBounds n (.int .u8 (x:Int))).setIfInBounds (n+255) (.int .u8 (x:Int))).setIfInBounds (510+x) (int i64 (n:Int))
theorem QIf{w:World}{kc kb n x:Nat}{cs:Array Value}(I:RowW w kc #[.pointer (some (at0 kb))])(hb:RowW w kb cs)(hs:cs.size=766)(M:n<255)(N:x<256)(a:kc≠kb):
  Calls prog 35 #[int i64 (n:Int),int i64 (x:Int), .pointer (some (at0 kc))] w fun e w'=>e= .returned (.tuple #[])/\Upd (fun b=>b=kb) w w'/\RowW w' kb (Qe7 cs n x):=by
 refine(F35_calls n x (at0 kc) w (fun v w'=>v= .tuple #[]/\Upd (fun b=>b=kb) w w'/\RowW w' kb (Qe7 cs n x)) ?_).mono (by rintro e w' ⟨v,rfl,rfl,h⟩;exact⟨rfl,h⟩);intro r s;have t:at0 kc=(at0 kc).add 0:=(QJ kc 0).symm;have c4:RowW r kc #[.pointer (some (at0 kb))]:=s.ext.rowW I id;have C:RowW r kb cs:=s.ext.rowW hb id;have D:r.cell? (at0 kc)=some (.pointer (some (at0 kb))):=by rw[t];exact c4.c rfl
 have u:((at0 kb).add 0).add ((n:Int).toNat*1)=(at0 kb).add n:=by rw[QB,Nat.zero_add,Nat.mul_one,Ze]
 refine⟨_,D,_,D,⟨by omega,by omega⟩,?_⟩;refine⟨by rw[u];exact C.live (by omega),fun E F=> ?_⟩;have G:=Qz6 F u;have y:=Qy6 F u C;have H:RowW E kc _:=G.rowW c4 a;have J:E.cell? (at0 kc)=some (.pointer (some (at0 kb))):=by rw[t];exact H.c rfl
 have eu:IntKind.u8.wrap (x:Int)=(x:Int):=by
  have:IntKind.u8.wrap (x:Int)=(x:Int) % 256:=by simp[IntKind.wrap,IntKind.bits,IntKind.signed]
  rw[this];omega
 rw[eu]at y⊢;rw[w64 (n:=(n:Int)+255) (by omega)];have z:((at0 kb).add 0).add (((n:Int)+255).toNat*1)=(at0 kb).add (n+255):=by rw[QB,Nat.zero_add,Nat.mul_one,show((n:Int)+255).toNat=n+255 by omega]
 refine⟨⟨_,J,rfl⟩,⟨by omega,by omega⟩,by rw[z];exact y.live (by rw[Array.size_setIfInBounds];omega),fun d g=> ?_⟩;have i:=Qz6 g z;have j:=Qy6 g z y;have A:RowW d kc _:=i.rowW H a;have B:d.cell? (at0 kc)=some (.pointer (some (at0 kb))):=by rw[t];exact A.c rfl
 have a3:((at0 kb).add 510).add ((x:Int).toNat*1)=(at0 kb).add (510+x):=by rw[QB,Nat.mul_one,Ze]
 refine⟨_,B,⟨by omega,by omega⟩,by rw[a3];exact j.live (by rw[Array.size_setIfInBounds,Array.size_setIfInBounds];omega),fun K o=>⟨rfl,?_,?_⟩⟩
 ·exact Upd.trans s.ext.upd (Upd.trans G (Upd.trans i (Qz6 o a3) fun _ _ h=>h) fun _ _ h=>h) fun _ _ h=>h
 ·exact Qy6 o a3 j
structure QJi(w:World)(k1 k3:Nat)(w9:World)(n:Nat)(cs:Array Value):Prop where
 ext:Ext w w9
 row:RowW w9 k1 cs
 ptr:RowW w9 k3 #[.pointer (some (at0 k1))]
 size:cs.size=766
 exp:∀i,i<n->cs[i]? =some (.int .u8 (ge i:Int))/\cs[i+255]? =some (.int .u8 (ge i:Int))
 log:∀i,i<n->cs[510+ge i]? =some (int i64 (i:Int))
 zero:cs[510]? =some (int i64 0)
theorem QN3{cs:Array Value}{n x j:Nat}(hs:cs.size=766)(h:n<255)(i:x<256):
  (Qe7 cs n x)[j]? =if j=510+x then some (int i64 (n:Int))else if j=n+255 then some (.int .u8 (x:Int))else if j=n then some (.int .u8 (x:Int))else cs[j]? :=by
 unfold Qe7;rw[Array.getElem?_setIfInBounds,Array.getElem?_setIfInBounds,Array.getElem?_setIfInBounds];simp only[Array.size_setIfInBounds,hs]
 by_cases a:j=510+x
 ·rw[if_pos a.symm,if_pos a,if_pos (by omega)]
 ·rw[if_neg (Ne.symm a),if_neg a]
  by_cases d:j=n+255
  ·rw[if_pos d.symm,if_pos d,if_pos (by omega)]
  ·rw[if_neg (Ne.symm d),if_neg d]
   by_cases g:j=n
   ·rw[if_pos g.symm,if_pos g,if_pos (by omega)]
   ·rw[if_neg (Ne.symm g),if_neg g]
theorem Q1a(w:World):Calls prog 12 #[] w fun e w'=>∃k,e= .returned (.pointer (some (at0 k)))/\Ext w w'/\w.heap.size<=k/\Qm w' (some (at0 k)):=by
 refine(F12_calls w (fun v w'=>∃k,v= .pointer (some (at0 k))/\Ext w w'/\w.heap.size<=k/\Qm w' (some (at0 k)))
  (fun q _ x i U=>∃C r,q=some (at0 r)/\w.heap.size<=C/\w.heap.size<=r/\r≠C/\0<=i/\i<=255/\x=(ge i.toNat:Int)/\∃cs,QJi w C r U i.toNat cs) (fun _ _ _ i _=>(255-i).toNat) ?_).mono (by
  rintro e w' ⟨v,rfl,k,rfl,h⟩;exact⟨k,rfl,h⟩)
 intro C w2 u r w4 z;have H:at0 r=(at0 r).add 0:=(QJ r 0).symm;have V:RowW w4 r #[.pointer none]:=z.row;have I:w.heap.size<=C:=by rw[u.size.1];exact Nat.le_refl _
 have D:w.heap.size<=r:=by rw[z.size.1,u.size.2];omega
 have J:r≠C:=by rw[z.size.1,u.size.2,u.size.1];omega
 refine⟨by rw[H];exact V.live (by simp),fun X S=> ?_⟩;have u5:=Qz6 S H;have r5:=Qy6 S H V;have x5:Ext w X:=QQl (u.ext.trans z.ext) D (by rw[←H];exact S);have b5:RowW X C (Qc prog 86).toArray:=u5.rowW (z.ext.rowW u.row id) (fun h=>J h.symm);refine⟨⟨C,r,rfl,I,D,J,by omega,by omega,by rw[show(0:Int).toNat=0 from rfl,Qyj];rfl,_,x5,b5,r5,QJf,fun i hi=>absurd hi (by simp),fun i hi=>absurd hi (by simp),QKf⟩,?_⟩;rintro x i U ⟨A,ai,Y,E,K,t,aj,ak,rfl,cs,d⟩;simp only[Zi,at0,Zv,and_true]at Y;subst Y
 intros
 refine Q0 (fun ht=> ?_) (fun ht=> ?_)
 ·simp only[Za]at ht
  have hi:((i.toNat:Nat):Int)=i:=by omega
  have o:i.toNat<255:=by omega
  have B:=QIf d.ptr d.row d.size o (Qwb i.toNat) t;rw[hi]at B;refine B.mono ?_;rintro e M ⟨rfl,Z,N⟩;refine⟨rfl,by omega,?_⟩;have O:Ext w M:=Upd.trans d.ext Z fun y hy he=>by subst he;omega
  have inv:QJi w A r M (i.toNat+1) (Qe7 cs i.toNat (ge i.toNat)):=by
   refine⟨O,N,Z.rowW d.ptr t,by simp[Qe7,d.size],fun j hj=> ?_,fun j hj=> ?_,?_⟩
   ·rw[QN3 d.size o (Qwb _),QN3 d.size o (Qwb _)]
    by_cases h:j=i.toNat
    ·subst h
     rw[if_neg (by omega),if_neg (by omega),if_pos rfl,if_neg (by omega),if_pos rfl];exact⟨rfl,rfl⟩
    ·have:=d.exp j (by omega)
     rw[if_neg (by omega),if_neg (by omega),if_neg h,if_neg (by omega),if_neg (by omega),if_neg (by omega)];exact this
   ·rw[QN3 d.size o (Qwb _)]
    by_cases h:j=i.toNat
    ·subst h
     rw[if_pos rfl]
    ·have T:j<i.toNat:=by omega
     have ab:ge j≠ge i.toNat:=fun he=>h (by
      have F:=(QJ3 (s:=j) (by omega)).1;have G:=(QJ3 (s:=i.toNat) o).1
      rw[he]at F;omega)
     have:=d.log j T;rw[if_neg (by omega),if_neg (by omega),if_neg (by omega)];exact this
   ·rw[QN3 d.size o (Qwb _),if_neg (by have:=(QJ3 o).2.1;omega),if_neg (by omega),if_neg (by omega)]
    exact d.zero
  have Q:=QEi o;have h8:i64.wrap (i+1)=i+1:=w64 (by omega);rw[h8];have g:(i+1).toNat=i.toNat+1:=by omega
  refine Q0 (fun R=> ?_) (fun R=> ?_)
  ·simp only[Za]at R
   refine⟨⟨A,r,rfl,E,K,t,by omega,by omega,?_,_,by rw[g];exact inv⟩,by show((255:Int)-(i+1)).toNat<((255:Int)-i).toNat;omega⟩;rw[g,←Q];exact(if_pos R).symm
  ·simp only[Zb]at R
   refine⟨⟨A,r,rfl,E,K,t,by omega,by omega,?_,_,by rw[g];exact inv⟩,by show((255:Int)-(i+1)).toNat<((255:Int)-i).toNat;omega⟩;rw[g,←Q];exact(if_neg R).symm
 ·simp only[Zb]at ht
  have hi:i.toNat=255:=by omega
  rw[hi]at d;refine⟨_,by rw[H];exact d.ptr.c rfl,A,rfl,d.ext,E,at0 A,rfl,fun j hj=> ?_,fun a ha=> ?_⟩
  ·refine d.row.row.cell ?_
   by_cases h:j<255
   ·exact(d.exp j h).1
   ·have F:=(d.exp (j-255) (by omega)).2
    have G:=(QJ3 (s:=j-255) (by omega)).2.2;rw[show j-255+255=j by omega]at F G;rw[F,G]
  ·refine d.row.row.cell ?_
   by_cases h:a=0
   ·subst h
    rw[QBj];exact d.zero
   ·have F:=QU1 ha h
    have G:=d.log (gl a) F.2;rw[F.1]at G;exact G
open Go Go.Vc Go.Gf
open Go.IntKind (i64)
open Go.Value (int)
open Go.Proofs.Tryz (prog)
theorem QJd:Qz1 prog 25 5 1 1:=⟨by kernel_rfl,⟨Tryz.t5, .int .u8 0,by kernel_rfl,by kernel_rfl,by kernel_rfl,by kernel_rfl,by kernel_rfl⟩,by omega⟩
theorem bx8(a b:UInt8):QO .xor .u8 (a.toNat:Int) (b.toNat:Int)=((a^^^b).toNat:Int):=by
 have ha:=QC7 a;have hb:=QC7 b;have d:=QC7 (a^^^b);show IntKind.u8.wrap (((BitVec.ofInt 8 (a.toNat:Int))^^^(BitVec.ofInt 8 (b.toNat:Int))).toNat:Int)=_
 have e:∀x:UInt8,(BitVec.ofInt 8 (x.toNat:Int)).toNat=x.toNat:=fun x=>by
  have:=QC7 x;rw[BitVec.toNat_ofInt];omega
 rw[BitVec.toNat_xor,e,e,←UInt8.toNat_xor];have:IntKind.u8.wrap ((a^^^b).toNat:Int)=((a^^^b).toNat:Int) % 256:=by simp[IntKind.wrap,IntKind.bits,IntKind.signed]
 rw[this];omega
theorem Qp9(n:Int)(h:0<=n):IntKind.u8.wrap n=((pt n.toNat).toNat:Int):=by
 have:IntKind.u8.wrap n=n % 256:=by simp[IntKind.wrap,IntKind.bits,IntKind.signed]
 rw[this,pt,UInt8.toNat_ofNat'];omega
theorem QQa{a b:UInt8}:((a.toNat:Int)=(b.toNat:Int))↔a=b:=by
 constructor
 ·intro h;exact UInt8.toNat_inj.1 (by omega)
 ·rintro rfl;rfl
theorem Qz4{a:UInt8}:((a.toNat:Int)=0)↔a=0:=by rw[QJ0];omega
theorem Qff(p:σ)(c s:Nat):QT0 p c 0 s=p:=by
 unfold QT0;rw[Nat.zero_mul]
 split
 ·rfl
 ·cases p with
  |none=>rfl
  |some a=>show some (a.add 0)=_;simp[Addr.add]
theorem Q1.co{w:World}{p:σ}{n:Nat}{bs:τ}(h:Q1 w p n bs){i:Nat}(hi:i<n):∃a,p=some a/\w.cell? (a.add i)=some (vb (co bs i)):=h.get hi
abbrev Q2(w:World)(base:Nat)(p:σ)(n c:Nat)(bs:τ):Prop:=Q5 w base 5 1 p n c (QE bs)
section
variable {w w':World}{base:Nat}{p:σ}{n c:Nat}{bs:τ}
theorem Q2.len(h:Q2 w base p n c bs):n=bs.length:=by have:=h.length;rw[Qb]at this;omega
theorem Q2.le(h:Q2 w base p n c bs):n<=c:=by
 rcases h.where_ with⟨_,rfl,rfl⟩|⟨g,_,_,_,h,_⟩
 ·exact Nat.le_refl _
 ·exact h
theorem Q2.bytes(h:Q2 w base p n c bs):Q1 w p n bs:=by
 have hl:=Q2.len h;rw[hl];exact Q1.of_cells (Q5.cells h)
theorem Q2.new_ext{w0 w:World}{S:Nat->Prop}(a:Ext w0 w)(d:Upd S w w')(hS:∀x,S x->w0.heap.size<=x):Ext w0 w':=Upd.trans a d fun x a hs=>by have:=hS x hs;omega
theorem Q2.blk(h:Q2 w base p n c bs){x:Nat}(a:p=some (at0 x)):base<=x:=by
 subst a;rcases h.where_ with⟨h,_⟩|⟨g,h,hb,_⟩
 ·cases h
 ·simp only[Zi,at0,Zv,and_true]at h
  omega
theorem Q2.made{k m:Nat}(a:QG w k (.cells (QK prog 5 m) 5) w')(hb:base<=k)(hm:m<=maxLen):Q2 w' base (some (at0 k)) m m (List.replicate m 0):=by
 have e:QK prog 5 m=(QE (List.replicate m 0)).toArray:=by
  unfold QK;rw[show Qc prog 5=[.int .u8 0] by kernel_rfl]
  congr 1
  clear a hm
  induction m with
  |zero=>rfl
  |succ m ih=>
   rw[List.replicate_succ,List.flatten_cons,ih,List.replicate_succ];rfl
 rw[e]at a;have:=Q5.made (sz:=1) (n:=m) (c:=m) a hb (Nat.le_refl m) hm (by simp[Qb]);rw[Nat.mul_one]at this;have d:(QE (List.replicate m 0)).toArray.toList.take m=QE (List.replicate m 0):=by
  show(QE (List.replicate m 0)).take m=_
  rw[Zh (by rw[Qb,List.length_replicate];exact Nat.le_refl _)]
 rw[d]at this;exact this
theorem Q2.push{w1:World}{k:Nat}{b:UInt8}(h:Q2 w base p n c bs)(g:QG w k (.cells #[vb b] 5) w1)(r:base<=w.heap.size)(C:n<=1099511627776):
  ∃i o a,Sem.run prog (Builtin.append_ #[25,25] 25 #[.slice p n c, .slice (some (at0 k)) 1 1]) w1= .ok (.slice i (n+1) o) a/\Q2 a base i (n+1) o (bs++ [b])∧
   Upd (fun x=>p=some (at0 x)) w a:=by
 have t:Q5 w1 base 5 1 p n c (QE bs):=Q5.ext h g.ext;have v:Qa w1 (some (at0 k)) (QE [b]):=by
  intro j u y;refine⟨_,rfl,g.row.row.cell ?_⟩;simpa[QE]using y
 obtain⟨i,o,a,z,s,A,_⟩:=t.append QJd 25 (q:=some (at0 k)) (m:=1) (d:=1) (news:=QE [b]) (by rw[Qb];rfl) v (fun h=>by cases h) (Qd1 _) (by unfold maxLen;omega) (by omega)
  (by rw[g.size.2];omega)
 refine⟨i,o,a,z,?_,Upd.trans g.ext.upd A fun x _ B=>B⟩;have:QE bs++QE [b]=QE (bs++ [b]):=by simp[QE]
 rw[this]at s;exact s
theorem Q2.at(h:Q2 w base p n c bs){i:Nat}(hi:i<n):∃k,p=some (at0 k)/\base<=k/\QD w ((at0 k).add i)/\w.cell? ((at0 k).add i)=some (vb (co bs i))∧
  ∀b w',Qt w ((at0 k).add i) (vb b) w'->Q2 w' base (some (at0 k)) n c (bs.set i b)/\Upd (fun x=>x=k) w w':=by
 rcases h.where_ with⟨_,o,_⟩|⟨k,rfl,hb,_⟩
 ·omega
 ·have hl:=Q2.len h
  obtain⟨a,ha,g⟩:=Q1.co (Q2.bytes h) hi;cases ha;refine⟨k,rfl,hb,Q5.live h (by rw[Qb];omega),g,fun b w' hs=> ?_⟩;obtain⟨d,j⟩:=Q5.set h hs;refine⟨?_,j⟩;have:(QE bs).set i (vb b)=QE (bs.set i b):=by simp[QE,List.map_set]
  rw[this]at d;exact d
theorem Q2.cut(h:Q2 w base p n c bs){m:Nat}(hm:m<=n):Q2 w base p m c (bs.take m):=by
 have hl:=Q2.len h;refine⟨by rw[Qb,List.length_take];omega,?_⟩;rcases h.2 with⟨a,r⟩|⟨g,cap,cur,a,hb,i,s,j,o,d⟩
 ·left
  simp only[Value.slice.injEq]at a;obtain⟨rfl,rfl,rfl⟩:=a;have:m=0:=by omega
  subst this;exact⟨rfl,rfl⟩
 ·right
  simp only[Value.slice.injEq]at a;obtain⟨rfl,_,rfl⟩:=a;refine⟨g,c,cur,rfl,hb,i,by omega,j,o,?_⟩;rw[Nat.mul_one]at d⊢;have:QE (bs.take m)=(QE bs).take m:=by simp[QE,List.map_take]
  rw[this,←d,List.take_take,Nat.min_eq_left hm]
end
def Qr(w:World)(p:σ)(l:Nat)(L:List (τ)):Prop:=
 l=L.length/\∀i,i<l->∃a q n c,p=some a/\w.cell? (a.add i)=some (.slice q n c)/\Q1 w q n (L.getD i [])/\n<=c
theorem Qr.ext{w w':World}{p:σ}{l:Nat}{L:List (τ)}(h:Qr w p l L)(d:Ext w w'):Qr w' p l L:=
 ⟨h.1,fun i hi=>let⟨a,q,n,c,g,j,o,r⟩:=h.2 i hi;⟨a,q,n,c,g,d.cell j id,o.ext d,r⟩⟩
def lx(L:List (τ)):Se:=L.foldl (fun s p=>sa s (co p)) sz
theorem Q6g{L:List (τ)}{i:Nat}(hi:i<L.length):lx (L.take (i+1))=sa (lx (L.take i)) (co (L.getD i [])):=by
 unfold lx;rw[Zn,Zc hi,List.foldl_append];simp[Zj,Zc hi]
theorem QL7(xs:τ):co (xs++ [0])=co xs:=funext fun i=>by
 simp only[co,Zj]
 by_cases h:i<xs.length
 ·rw[Zl h]
 ·rw[Zm (by omega),Zr (by omega:xs.length<=i)]
  cases i-xs.length<;>rfl
theorem Qi2{xs:τ}{i:Nat}(hi:i<xs.length)(b:UInt8)(j:Nat):co (xs.set i b) j=if j=i then b else co xs j:=by
 simp only[co,Zj,List.getElem?_set]
 by_cases h:j=i
 ·subst h;simp[hi]
 ·rw[if_neg (fun e=>h e.symm),if_neg h]
theorem Qaf(xs:τ)(n j:Nat):co (xs.take n) j=if j<n then co xs j else 0:=by
 simp only[co,Zj,List.getElem?_take]
 split<;>rfl
def QNe(w:World)(L:List (τ))(l:Nat)(i:Int)(p39:σ)(l39:Nat)(p49:σ)(l49 c49:Nat)(j:Int)(w51:World):Prop:=
 0<=j/\j<=l39/\0<=i/\i<l/\Ext w w51/\Q1 w p39 l39 (L.getD i.toNat [])∧
  ∃xs,Q2 w51 w.heap.size p49 l49 c49 xs/\co xs=sa (lx (L.take i.toNat)) (fun t=>if(t:Int)<j then co (L.getD i.toNat []) t else 0)/\j<=l49/\xs.length<=1073741824
theorem QNe.write{w ws:World}{L:List (τ)}{l:Nat}{i j:Int}{r:σ}{g:Nat}{pz:σ}{lz cz:Nat}{zs:τ}(A:0<=i)(hi:i<l)(s:0<=j)(O:j<g)
  (C:Ext w ws) (D:Q2 ws w.heap.size pz lz cz zs) (E:co zs=sa (lx (L.take i.toNat)) (fun t=>if(t:Int)<j then co (L.getD i.toNat []) t else 0)) (B:j.toNat<lz) (G:zs.length<=1073741824) (H:Q1 w r g (L.getD i.toNat []))
  {I:σ->Nat->Nat->Int->ψ} {M:ψ} (J:∀d,QNe w L l i r g pz lz cz (j+1) d->I pz lz cz (j+1) d) (hM:∀d,M d):
  ((0<=j/\j<((lz:Nat):Int))/\Qv0 pz fun a=>∃u:Int,ws.cell? (a.add (j.toNat*1))=some (.int .u8 u)/\((0<=j/\j<((lz:Nat):Int))/\Qv0 pz fun v=>(QD ws (v.add (j.toNat*1))∧
   ∀d,Qt ws (v.add (j.toNat*1)) (Value.int .u8 (QO .xor .u8 u ((co (L.getD i.toNat []) j.toNat).toNat:Int))) d->(I pz lz cz (j+1) d/\M d)))):=by
 obtain⟨k,rfl,Q,h,o,y⟩:=Q2.at D B;have hl:=Q2.len D;refine⟨⟨s,by omega⟩,_,by rw[Nat.mul_one];exact o,⟨s,by omega⟩,by rw[Nat.mul_one];exact h,fun d hs=>⟨J _ ?_,hM _⟩⟩;rw[Nat.mul_one,bx8]at hs;obtain⟨K,N⟩:=y _ _ hs;have z:Ext w d:=Q2.new_ext C N fun x C=>by omega
 refine⟨by omega,by omega,A,hi,z,H,_,K,?_,by omega,by rw[List.length_set];exact G⟩
 funext t
 rw[Qi2 (by omega)]
 by_cases ht:t=j.toNat
 ·subst ht
  rw[if_pos rfl,E];simp only[sa];rw[if_neg (by omega),if_pos (by omega),x0]
 ·rw[if_neg ht,E]
  simp only[sa]
  by_cases F:(t:Int)<j
  ·rw[if_pos F,if_pos (by omega)]
  ·rw[if_neg F,if_neg (by omega)]
theorem Q15{p:σ}{l c:Nat}{w:World}{L:List (τ)}(h:Qr w p l L)(hb:∀q∈L,q.length<=1073741824)(hm:l<=1073741824):
  Calls prog 175 #[.slice p l c] w fun e w'=>∃y B z r,e= .returned (.slice y B z)/\Ext w w'/\Q2 w' w.heap.size y B z r/\Qo r/\co r=lx L:=by
 refine(F175_calls p l c w (fun v w'=>∃y B z r,v= .slice y B z/\Ext w w'/\Q2 w' w.heap.size y B z r/\Qo r/\co r=lx L)
  (fun _ _ _ _ _ p6 l6 c6 i w8=>0<=i/\i<=l/\Ext w w8/\∃xs,Q2 w8 w.heap.size p6 l6 c6 xs/\co xs=lx (L.take i.toNat)/\xs.length<=1073741824) (fun _ _ _ _ _ _ _ _ i _=>(l-i).toNat)
  (fun _ _ _ _ i ae C _ _ _ O D Q j R=>QNe w L l i ae C O D Q j R)
  (fun _ _ _ _ _ _ C _ _ _ _ _ _ j _=>(C-j).toNat)
  (fun _ S d T E=>Ext w E/\∃xs,Q2 E w.heap.size S d T xs/\co xs=lx L/\xs.length<=1073741824) (fun _ _ d _ _=>d) ?_).mono (by
  rintro e w' ⟨v,rfl,y,B,z,r,rfl,h⟩;exact⟨y,B,z,r,rfl,h⟩)
 have hl:=h.1;have U:∀i,i<L.length->(L.getD i []).length<=1073741824:=fun i hi=>by
  rw[Zj,Zc hi];exact hb _ (List.getElem_mem hi)
 refine⟨⟨by omega,by omega,Upd.refl _ _,[],Q5.nil _ _ _ _,rfl,by simp⟩,?_⟩;rintro p6 l6 c6 i w8 ⟨A,ao,F,xs,ho,V,X⟩
 intros
 refine Q0 (fun ht=> ?_) (fun ht=> ?_)
 ·simp only[Za]at ht
  obtain⟨a,q,n,cq,rfl,G,Y,aq⟩:=h.2 i.toNat (by omega);refine⟨⟨A,ht⟩,q,n,cq,by rw[Nat.mul_one];exact F.cell G id,?_⟩;have ar:=U i.toNat (by omega);have au:=Y.1;refine⟨⟨by omega,by omega,A,ht,F,Y,xs,ho,?_,by omega,X⟩,?_⟩
  ·rw[V]
   have:(fun t:Nat=>if(t:Int)<0 then co (L.getD i.toNat []) t else 0)=sz:=funext fun t=>if_neg (by omega);rw[this,Qa3]
  rintro O D Q j R ⟨H,av,_,_,s,_,ys,g,o,aw,I⟩
  intros
  have Z:=Q2.len g;refine Q0 (fun hs=> ?_) (fun hs=> ?_)
  ·simp only[Za]at hs
   obtain⟨b,rfl,J⟩:=Q1.co (Y.ext s) (i:=j.toNat) (by omega);refine⟨⟨H,hs⟩,_,by rw[Nat.mul_one];exact J,?_⟩;have K:i64.wrap (j+1)=j+1:=w64 (by omega);rw[K];refine Q0 (fun he=> ?_) (fun he=> ?_)
   ·simp only[Za]at he
    intro k ax hk;obtain⟨y,z,aa,hr,af,ah⟩:=Q2.push (b:=0) g hk s.size (by omega);have ab:Ext w aa:=Q2.new_ext s ah fun x hx=>Q2.blk g hx;refine⟨y,D+1,z,aa,hr,?_⟩;exact QNe.write A ht H hs ab af (by rw[QL7];exact o) (by omega) (by simp;omega) Y
     (fun M h=>h) (fun M=>by show((n:Int)-(j+1)).toNat<((n:Int)-j).toNat;omega)
   ·simp only[Zb]at he
    exact QNe.write A ht H hs s g o (by omega) I Y
     (fun M h=>h) (fun M=>by show((n:Int)-(j+1)).toNat<((n:Int)-j).toNat;omega)
  ·simp only[Zb]at hs
   rw[w64 (n:=i+1) (by omega)];refine⟨⟨by omega,by omega,s,ys,g,?_,I⟩,by show((l:Int)-(i+1)).toNat<((l:Int)-i).toNat;omega⟩;rw[show(i+1).toNat=i.toNat+1 by omega,Q6g (by omega),o]
   congr 1
   funext t
   by_cases h3:(t:Int)<j
   ·rw[if_pos h3]
   ·rw[if_neg h3,Qn1 (by omega)]
 ·simp only[Zb]at ht
  have hL:lx (L.take i.toNat)=lx L:=by rw[show i.toNat=L.length by omega,List.take_length]
  refine⟨⟨F,xs,ho,by rw[V,hL],X⟩,?_⟩;rintro S d T E ⟨u,ys,g,o,I⟩
  intros
  have Z:=Q2.len g;have a1:=Q2.le g;refine Q0 (fun hs=> ?_) (fun hs=> ?_)
  ·simp only[Za]at hs
   have N:i64.wrap ((d:Int)-1)=(d:Int)-1:=w64 (by omega);rw[N];have hn:((d:Int)-1).toNat=d-1:=by omega
   obtain⟨b,rfl,J⟩:=Q1.co (Q2.bytes g) (i:=d-1) (by omega);refine⟨⟨by omega,by omega⟩,_,by rw[hn,Nat.mul_one];exact J,?_⟩;refine Q0 (fun hz=> ?_) (fun hz=> ?_)
   ·simp only[Za,Qz4]at hz
    rw[hn,Qff,Nat.sub_zero,Nat.sub_zero];refine⟨⟨by omega,by omega⟩,⟨u,_,Q2.cut g (by omega),?_,by rw[List.length_take];omega⟩,by show d-1<d;omega⟩;rw[←o]
    funext t
    rw[Qaf]
    by_cases h3:t<d-1
    ·rw[if_pos h3]
    ·rw[if_neg h3]
     by_cases h4:t=d-1
     ·rw[h4,hz]
     ·rw[Qn1 (by omega)]
   ·simp only[Zb,Qz4]at hz
    exact⟨_,_,_,ys,rfl,u,g,fun _=>by rw[←Z];exact hz,o⟩
  ·simp only[Zb]at hs
   have:ys=[]:=Zk (by omega);subst this;exact⟨_,_,_,[],rfl,u,g,Q3e,o⟩
theorem Q4g{w w1:World}{k:Nat}{p:σ}{n c:Nat}{bs:τ}(a:QG w k (.cells #[.slice p n c] 25) w1)(h:Q1 w p n bs)(d:n<=c):Qr w1 (some (at0 k)) 1 [bs]:=by
 refine⟨rfl,fun i hi=> ?_⟩;obtain rfl:i=0:=by omega
 exact⟨_,p,n,c,rfl,a.row.c rfl,h.ext a.ext,d⟩
theorem Q8a{w w1:World}{k:Nat}{p q:σ}{n c m d:Nat}{bs cs:τ}(a:QG w k (.cells #[.slice p n c, .slice q m d] 25) w1)(h:Q1 w p n bs)(g:n<=c)(j:Q1 w q m cs)(o:m<=d):
  Qr w1 (some (at0 k)) 2 [bs,cs]:=by
 refine⟨rfl,fun i hi=> ?_⟩;rcases(by omega:i=0\/i=1)with rfl|rfl
 ·exact⟨_,p,n,c,rfl,a.row.c rfl,h.ext a.ext,g⟩
 ·exact⟨_,q,m,d,rfl,a.row.c rfl,j.ext a.ext,o⟩
theorem Qt1{p:σ}{n c:Nat}{w:World}{bs:τ}(h:Q1 w p n bs)(s:n<=c)(hm:n<=1073741824):
  Calls prog 169 #[.slice p n c] w fun e w'=>∃a d g r,e= .returned (.slice a d g)/\Ext w w'/\Q2 w' w.heap.size a d g r/\Qo r/\co r=co bs:=by
 refine(F169_calls p n c w (fun v w'=>∃a d g r,v= .slice a d g/\Ext w w'/\Q2 w' w.heap.size a d g r/\Qo r/\co r=co bs) ?_).mono (by
  rintro e w' ⟨v,rfl,a,d,g,r,rfl,h⟩;exact⟨a,d,g,r,rfl,h⟩)
 intro k x i;refine(Q15 (Q4g i h s) (fun q o=>by rw[List.mem_singleton]at o;subst o;have:=h.1;omega) (by omega)).mono ?_;rintro e y ⟨a,d,g,r,rfl,t,hb,u,j⟩;exact⟨a,d,g,rfl,a,d,g,r,rfl,i.ext.trans t,Q5.base_le hb i.ext.size,u,by rw[j];exact Qh6 _⟩
theorem Qlg{p q:σ}{n c m d:Nat}{w:World}{bs cs:τ}(h:Q1 w p n bs)(u:n<=c)(hm:n<=1073741824)(t:Q1 w q m cs)(y:m<=d)(z:m<=1073741824):
  Calls prog 173 #[.slice p n c, .slice q m d] w fun e w'=>∃a g i r,e= .returned (.slice a g i)/\Ext w w'/\Q2 w' w.heap.size a g i r/\Qo r/\co r=sa (co bs) (co cs):=by
 refine(F173_calls p n c q m d w (fun v w'=>∃a g i r,v= .slice a g i/\Ext w w'/\Q2 w' w.heap.size a g i r/\Qo r/\co r=sa (co bs) (co cs)) ?_).mono (by
  rintro e w' ⟨v,rfl,a,g,i,r,rfl,h⟩;exact⟨a,g,i,r,rfl,h⟩)
 intro k B o
 refine(Q15 (Q8a o h u t y) (fun x j=>by
  rcases List.mem_cons.1 j with rfl|j
  ·have:=h.1;omega
  ·rw[List.mem_singleton]at j;subst j;have:=t.1;omega) (by omega)).mono ?_
 rintro e C ⟨a,g,i,r,rfl,j,hb,A,s⟩;exact⟨a,g,i,rfl,a,g,i,r,rfl,o.ext.trans j,Q5.base_le hb o.ext.size,A,by rw[s];show sa (sa sz (co bs)) (co cs)=_;rw[Qh6]⟩
theorem Q2.base_le{w:World}{base base':Nat}{p:σ}{n c:Nat}{bs:τ}(h:Q2 w base p n c bs)(hb:base'<=base):Q2 w base' p n c bs:=Q5.base_le h hb
theorem Q2.ext{w w':World}{base:Nat}{p:σ}{n c:Nat}{bs:τ}(h:Q2 w base p n c bs)(a:Ext w w'):Q2 w' base p n c bs:=Q5.ext h a
theorem QX5{f p:σ}{n c t:Nat}{w:World}{bs:τ}(hf:Qm w f)(h:Q1 w p n bs)(V:n<=1073741824)(ht:t<=1073741824)(x:UInt8):
  Calls prog 174 #[.pointer f, .slice p n c,vb x,int i64 (t:Int)] w fun e w'=>∃g o r,e= .returned (.slice g (t+n) o)/\Ext w w'/\Q2 w' w.heap.size g (t+n) o r/\co r=sh t (sm x (co bs)):=by
 refine(F174_calls f p n c x.toNat t w (fun v w'=>∃g o r,v= .slice g (t+n) o/\Ext w w'/\Q2 w' w.heap.size g (t+n) o r/\co r=sh t (sm x (co bs)))
  (fun q _ _ _ _ i w1=>0<=i/\i<=n/\Ext w w1/\∃r,Q2 w1 w.heap.size q (t+n) (t+n) r/\∀j,co r j=if t<=j/\(j:Int)<t+i then gm x (co bs (j-t))else 0) (fun _ _ _ _ _ i _=>(n-i).toNat) ?_).mono (by
  rintro e w' ⟨v,rfl,g,o,r,rfl,h⟩;exact⟨g,o,r,rfl,h⟩)
 have hl:=h.1;have M:i64.wrap ((t:Int)+(n:Int))=(t:Int)+(n:Int):=w64 (by omega);have N:((t:Int)+(n:Int)).toNat=t+n:=by omega
 rw[M,N];refine⟨⟨by omega,by omega,by omega⟩,fun k O C=> ?_⟩;have Q:Q2 O w.heap.size (some (at0 k)) (t+n) (t+n) (List.replicate (t+n) 0):=Q2.made C (by rw[C.size.1];exact Nat.le_refl _) (by unfold maxLen;omega);refine⟨⟨by omega,by omega,C.ext,_,Q,fun j=> ?_⟩,?_⟩
 ·rw[if_neg (by omega)]
  simp only[Gf.co,Zj,List.getElem?_replicate]
  split<;>rfl
 rintro i w1 ⟨D,R,d,r,E,I⟩
 intros
 refine Q0 (fun hs=> ?_) (fun hs=> ?_)
 ·simp only[Za]at hs
  obtain⟨a,rfl,ha⟩:=Q1.co (h.ext d) (i:=i.toNat) (by omega);refine⟨⟨D,hs⟩,_,by rw[Nat.mul_one];exact ha,?_⟩;refine(QC1 (hf.ext d) _ _).mono ?_;rintro e X ⟨rfl,u⟩;rw[w64 (n:=(t:Int)+i) (by omega),w64 (n:=i+1) (by omega)];obtain⟨k',z,S,s,_,A⟩:=Q2.at (Q2.ext E u) (i:=t+i.toNat) (by omega);simp only[Zi,at0,Zv,and_true]at z;subst z;have T:((t:Int)+i).toNat=t+i.toNat:=by omega
  rw[T,Nat.mul_one];refine⟨_,rfl,⟨by omega,by omega⟩,s,fun Y F=> ?_⟩;obtain⟨G,H⟩:=A _ _ F;have J:=Q2.len E;refine⟨⟨by omega,by omega,Q2.new_ext (d.trans u) H (fun y Z=>by omega),_,G,fun j=> ?_⟩,by show((n:Int)-(i+1)).toNat<((n:Int)-i).toNat;omega⟩;rw[Qi2 (by omega)]
  by_cases K:j=t+i.toNat
  ·subst K
   rw[if_pos rfl,if_pos (by omega),Q90,show t+i.toNat-t=i.toNat by omega]
  ·rw[if_neg K,I]
   by_cases B:t<=j/\(j:Int)<t+i
   ·rw[if_pos B,if_pos (by omega)]
   ·rw[if_neg B,if_neg (by omega)]
 ·simp only[Zb]at hs
  refine⟨_,_,r,rfl,d,E,funext fun j=> ?_⟩;rw[I];unfold sh sm
  by_cases B:j<t
  ·rw[if_pos B,if_neg (by omega)]
  ·rw[if_neg B]
   by_cases U:(j:Int)<t+i
   ·rw[if_pos ⟨by omega,U⟩]
   ·rw[if_neg (by omega),Qn1 (p:=bs) (by omega),Qq]
open Go Go.Vc Go.Gf
open Go.IntKind (i64)
open Go.Value (int)
open Go.Proofs.Tryz (prog)
theorem Qwh:Qz1 prog 79 25 1 24:=⟨by kernel_rfl,⟨Tryz.t25, .slice none 0 0,by kernel_rfl,by kernel_rfl,by kernel_rfl,by kernel_rfl,by kernel_rfl⟩,by omega⟩
theorem Q2.other{S:Nat->Prop}{w w':World}{base:Nat}{p:σ}{n c:Nat}{bs:τ}(h:Q2 w base p n c bs)(j:Upd S w w')
  (hS:∀x,S x->∃(cs:Array Value)(e:TypeId)(fz:Nat×Nat),w.heap[x]? =some (Obj.cells cs e fz)/\e≠5):Q2 w' base p n c bs:=by
 refine Q5.upd h j fun g a hs=> ?_;obtain⟨cs,e,fz,i,o⟩:=hS g hs;rcases h.where_ with⟨d,_⟩|⟨s,d,_,_,_,cur,r,_⟩
 ·rw[d]at a;cases a
 ·rw[d]at a
  simp only[Zi,at0,Zv,and_true]at a;subst a;rw[r]at i;cases i;exact o rfl
theorem Q5.typed{w:World}{base:Nat}{e:TypeId}{sz:Nat}{p:σ}{n c:Nat}{xs:List Value}(h:Q5 w base e sz p n c xs){x:Nat}(a:p=some (at0 x)):
  ∃(cs:Array Value)(i:TypeId)(fz:Nat×Nat),w.heap[x]? =some (Obj.cells cs i fz)/\i=e:=by
 rcases h.where_ with⟨d,_⟩|⟨g,d,_,_,_,cur,j,_⟩
 ·rw[d]at a;cases a
 ·rw[d]at a
  simp only[Zi,at0,Zv,and_true]at a;subst a;exact⟨cur,e,(0,0),j,rfl⟩
def SlB(w:World)(base:Nat)(v:Value)(bs:τ):Prop:=∃q m d,v= .slice q m d/\Q2 w base q m d bs
def Qf4(w:World)(base:Nat)(p:σ)(n c:Nat)(L:List (τ)):Prop:=∃vs,Q5 w base 25 1 p n c vs/\QA2 (SlB w base) vs L
theorem SlB.one{w:World}{base:Nat}{v:Value}{bs:τ}(h:SlB w base v bs):v.oneCell'=true:=by obtain⟨q,m,d,rfl,_⟩:=h;rfl
section
variable {w w':World}{base:Nat}{p:σ}{n c:Nat}{L:List (τ)}
theorem Qf4.nil(w:World)(base:Nat):Qf4 w base none 0 0 []:=⟨[],Q5.nil _ _ _ _, .nil⟩
theorem Qf4.len(h:Qf4 w base p n c L):n=L.length:=by
 obtain⟨vs,a,d⟩:=h;have:=Q5.length a;rw[←d.length];omega
theorem Qkh{α β:Type}{R:α->β->Prop}{us:List α}{bs:List β}(h:QA2 R us bs){i:Nat}{b:β}(hb:bs[i]? =some b):∃a,us[i]? =some a/\R a b:=by
 induction h generalizing i with
 |nil=>simp at hb
 |cons d _ ih=>
  cases i with
  |zero=>
   simp only[List.getElem?_cons_zero,Zi]at hb;subst hb;exact⟨_,rfl,d⟩
  |succ i=>exact ih (by simpa using hb)
theorem Qf4.lists(h:Qf4 w base p n c L):Qr w p n L:=by
 have hl:=Qf4.len h;obtain⟨vs,j,o⟩:=h;refine⟨hl,fun i hi=> ?_⟩;obtain⟨v,r,q,m,d,rfl,g⟩:=Qkh o (i:=i) (b:=L[i]'(by omega)) (by simp);obtain⟨a,ha,s⟩:=Q5.cells j i _ r;refine⟨a,q,m,d,ha,s,?_,Q2.le g⟩;rw[Zj,Zc (by omega)];exact Q2.bytes g
theorem Qf4.ext(h:Qf4 w base p n c L)(a:Ext w w'):Qf4 w' base p n c L:=by
 obtain⟨vs,g,i⟩:=h;exact⟨vs,Q5.ext g a,i.mono fun v bs ⟨q,m,d,e,j⟩=>⟨q,m,d,e,Q2.ext j a⟩⟩
theorem Qf4.base_le{base':Nat}(h:Qf4 w base p n c L)(hb:base'<=base):Qf4 w base' p n c L:=by
 obtain⟨vs,a,g⟩:=h;exact⟨vs,Q5.base_le a hb,g.mono fun v bs ⟨q,m,d,e,i⟩=>⟨q,m,d,e,Q2.base_le i hb⟩⟩
theorem Qf4.push{w1:World}{k:Nat}{q:σ}{m d:Nat}{bs:τ}(h:Qf4 w base p n c L)(hb:Q2 w base q m d bs)(a:QG w k (.cells #[.slice q m d] 25) w1)(s:base<=w.heap.size)(I:n<=1073741824):
  ∃o r g,Sem.run prog (Builtin.append_ #[79,79] 79 #[.slice p n c, .slice (some (at0 k)) 1 1]) w1= .ok (.slice o (n+1) r) g/\Qf4 g base o (n+1) r (L++ [bs])∧
   Upd (fun x=>p=some (at0 x)) w g:=by
 obtain⟨vs,z,A⟩:=h;have y:Q5 w1 base 25 1 p n c vs:=Q5.ext z a.ext;have B:Qa w1 (some (at0 k)) [.slice q m d]:=by
  intro j u C;refine⟨_,rfl,a.row.row.cell ?_⟩;simpa using C
 obtain⟨o,r,g,D,E,i,_⟩:=y.append Qwh 79 (q:=some (at0 k)) (m:=1) (d:=1) (news:=[.slice q m d]) rfl B (fun h=>by cases h)
  (fun u i=>by rw[List.mem_singleton]at i;subst i;rfl) (by unfold maxLen;omega) (by omega) (by rw[a.size.2];omega)
 have keep:∀v bs,SlB w1 base v bs->SlB g base v bs:=fun v bs ⟨q,m,d,e,hb⟩=>⟨q,m,d,e,Q2.other hb i fun x t=>by
  obtain⟨cs,F,fz,G,H⟩:=Q5.typed y t
  exact⟨cs,F,fz,G,by rw[H];decide⟩⟩
 refine⟨o,r,g,D,⟨_,E,?_⟩,Upd.trans a.ext.upd i fun x _ t=>t⟩;refine QA2.append (A.mono fun v bs ⟨q,m,d,e,hb⟩=>keep _ _ ⟨q,m,d,e,Q2.ext hb a.ext⟩) (.cons (keep _ _ ⟨q,m,d,rfl,Q2.ext hb a.ext⟩) .nil)
theorem Qf4.blk(h:Qf4 w base p n c L){x:Nat}(a:p=some (at0 x)):base<=x:=by
 obtain⟨vs,d,_⟩:=h;subst a;rcases d.where_ with⟨h,_⟩|⟨g,h,hb,_⟩
 ·cases h
 ·simp only[Zi,at0,Zv,and_true]at h
  omega
end
theorem Qhh(q:τ)(c:UInt8)(s:Se):act (q++ [c]) s=sa (act q s) (sh q.length (sm c s)):=by
 induction q with
 |nil=>
  show sa (sm c s) (sh1 sz)=sa sz (sh 0 (sm c s))
  rw[Qu2,Qa3,Qh6,Qfc]
 |cons a q ih=>
  rw[List.cons_append,act,ih,act,Q46,List.length_cons,Qec,QQ0]
theorem Q0j{L:List (τ)}{q:τ}{s:Se}(hl:L.length=q.length)(h:∀t,t<L.length->co (L.getD t [])=sh t (sm (co q t) s)):∀n,n<=q.length->lx (L.take n)=act (q.take n) s
 |0,_=>by rw[List.take_zero,List.take_zero];rfl
 |n+1,a=>by
  have e:q.take (n+1)=q.take n++ [co q n]:=by
   rw[Zn,Zc (by omega)];simp[Gf.co,Zj,Zc (show n<q.length by omega)]
  rw[Q6g (by omega),Q0j hl h n (by omega),e,Qhh,h n (by omega),List.length_take,Nat.min_eq_left (by omega)]
theorem QQ2{f p q:σ}{n c m d:Nat}{w:World}{bs cs:τ}(hf:Qm w f)(h:Q1 w p n bs)(Z:n<=536870912)(M:Q1 w q m cs)(hm:m<=536870912):
  Calls prog 140 #[.pointer f, .slice p n c, .slice q m d] w fun e w'=>∃j s o r,e= .returned (.slice j s o)/\Ext w w'/\Q2 w' w.heap.size j s o r/\Qo r/\co r=act cs (co bs):=by
 refine(F140_calls f p n c q m d w (fun v w'=>∃j s o r,v= .slice j s o/\Ext w w'/\Q2 w' w.heap.size j s o r/\Qo r/\co r=act cs (co bs))
  (fun _ _ _ _ _ N O Q i w1=>0<=i/\i<=m/\Ext w w1/\∃L,Qf4 w1 w.heap.size N O Q L/\(L.length:Int)=i/\∀t,t<L.length->co (L.getD t [])=sh t (sm (co cs t) (co bs))/\(L.getD t []).length=t+n)
  (fun _ _ _ _ _ _ _ _ i _=>(m-i).toNat) ?_).mono (by
  rintro e w' ⟨v,rfl,j,s,o,r,rfl,h⟩;exact⟨j,s,o,r,rfl,h⟩)
 have hl:=h.1;have R:=M.1;refine⟨⟨by omega,by omega,Upd.refl _ _,[],Qf4.nil _ _,rfl,fun t ht=>absurd ht (by simp)⟩,?_⟩;rintro N O Q i w1 ⟨F,S,g,L,hL,T,u⟩
 intros
 have U:=Qf4.len hL;refine Q0 (fun hs=> ?_) (fun hs=> ?_)
 ·simp only[Za]at hs
  obtain⟨a,rfl,ha⟩:=Q1.co (M.ext g) (i:=i.toNat) (by omega);refine⟨⟨F,hs⟩,_,by rw[Nat.mul_one];exact ha,?_⟩;have A:=QX5 (c:=c) (t:=i.toNat) (hf.ext g) (h.ext g) (by omega) (by omega) (co cs i.toNat);rw[show((i.toNat:Nat):Int)=i by omega]at A;refine A.mono ?_;rintro e w2 ⟨j,o,r,rfl,y,E,V⟩;refine⟨_,_,_,rfl,fun k w3 X=> ?_⟩;obtain⟨p'',c'',G,B,hL4,H⟩:=Qf4.push (Qf4.ext hL y) (Q2.base_le E g.size) X (g.trans y).size (by omega);have z:Ext w G:=Q2.new_ext (g.trans y) H fun x I=>Qf4.blk hL I;refine⟨_,_,_,G,B,?_⟩;rw[w64 (n:=i+1) (by omega)];refine⟨⟨by omega,by omega,z,_,hL4,by simp;omega,fun t ht=> ?_⟩,by show((m:Int)-(i+1)).toNat<((m:Int)-i).toNat;omega⟩;simp only[List.length_append,List.length_cons,List.length_nil]at ht
  by_cases C:t<L.length
  ·have e:(L++ [r]).getD t []=L.getD t []:=by simp only[Zj];rw[Zl C]
   rw[e];exact u t C
  ·have Y:t=L.length:=by omega
   have e:(L++ [r]).getD t []=r:=by
    subst Y;simp[Zj]
   rw[e,V,show i.toNat=t by omega];have:=Q2.len E;exact⟨rfl,by omega⟩
 ·simp only[Zb]at hs
  have D:L.length=cs.length:=by omega
  refine(Q15 (Qf4.lists hL) (fun x I=> ?_) (by omega)).mono ?_
  ·obtain⟨t,ht,rfl⟩:=List.getElem_of_mem I
   have:=(u t ht).2;rw[Zj,Zc ht]at this;simp only[Option.getD_some]at this;omega
  ·rintro e G ⟨j,s,o,r,rfl,z,E,J,K⟩
   refine⟨_,_,_,rfl,j,s,o,r,rfl,g.trans z,Q2.base_le E g.size,J,?_⟩;have:=Q0j D (fun t ht=>(u t ht).1) cs.length (Nat.le_refl _);rw[List.take_length,Zh (l:=L) (by omega)]at this;rw[K,this]
theorem Qtf(bs:τ){i:Nat}(hi:i<bs.length):bs.drop i=co bs i::bs.drop (i+1):=by
 rw[List.drop_eq_getElem_cons hi];simp[Gf.co,Zj,hi]
theorem Qy5{f p:σ}{n c:Nat}{w:World}{bs:τ}(hf:Qm w f)(h:Q1 w p n bs)(y:n<=1073741824)(x:UInt8):
  Calls prog 142 #[.pointer f, .slice p n c,vb x] w fun e w'=>e= .returned (vb (ev bs x))/\Ext w w':=by
 refine(F142_calls f p n c x.toNat w (fun v w'=>v=vb (ev bs x)/\Ext w w')
  (fun _ o i w1=> -1<=i/\i<n/\Ext w w1/\o=((ev (bs.drop (i+1).toNat) x).toNat:Int)) (fun _ _ i _=>(i+1).toNat) ?_).mono (by rintro e w' ⟨v,rfl,rfl,h⟩;exact⟨rfl,h⟩)
 have hl:=h.1;rw[w64 (n:=(n:Int)-1) (by omega),hf.there];refine⟨⟨by omega,by omega,Upd.refl _ _,?_⟩,?_⟩
 ·rw[show((n:Int)-1+1).toNat=bs.length by omega,List.drop_length];rfl
 rintro o i w1 ⟨s,r,g,rfl⟩
 intros
 refine Q0 (fun hs=> ?_) (fun hs=> ?_)
 ·simp only[Za]at hs
  refine Q0 (fun _=> ?_) (fun h=>by cases h);intro t u;have d:Ext w t:=g.trans u.ext;obtain⟨a,rfl,ha⟩:=Q1.co (h.ext d) (i:=i.toNat) (by omega);refine⟨⟨hs,r⟩,_,by rw[Nat.mul_one];exact ha,?_⟩;refine(QC1 (hf.ext d) _ x).mono ?_;rintro e z ⟨rfl,j⟩;rw[w64 (n:=i-1) (by omega)];refine⟨_,rfl,⟨_,by rw[Nat.mul_one];exact j.cell ha id,rfl⟩,⟨by omega,by omega,d.trans j,?_⟩,by show(i-1+1).toNat<(i+1).toNat;omega⟩;rw[bx8,show(i-1+1).toNat=i.toNat by omega,show(i+1).toNat=i.toNat+1 by omega,Qtf bs (i:=i.toNat) (by omega),ev,Q90 x,UInt8.xor_comm]
 ·simp only[Zb]at hs
  refine⟨?_,g⟩;rw[show(i+1).toNat=0 by omega,List.drop_zero]
theorem QPb{p:σ}{n c:Nat}{w:World}{bs:τ}(h:Q1 w p n bs)(N:n<=1073741824):
  Calls prog 141 #[.slice p n c] w fun e w'=>∃d g o r,e= .returned (.slice d g o)/\Ext w w'/\Q2 w' w.heap.size d g o r/\Qo r/\co r=der (co bs):=by
 refine(F141_calls p n c w (fun v w'=>∃d g o r,v= .slice d g o/\Ext w w'/\Q2 w' w.heap.size d g o r/\Qo r/\co r=der (co bs))
  (fun q _ _ _ i w1=>1<=i/\i<=n+2/\i % 2=1/\Ext w w1/\∃r,Q2 w1 w.heap.size q n n r/\∀j:Nat,co r j=if j % 2=0/\(j:Int)+1<i then co bs (j+1)else 0) (fun _ _ _ _ i _=>(n+3-i).toNat) ?_).mono (by
  rintro e w' ⟨v,rfl,d,g,o,r,rfl,h⟩;exact⟨d,g,o,r,rfl,h⟩)
 have hl:=h.1;refine⟨⟨by omega,by omega,by omega⟩,fun k O B=> ?_⟩;rw[Ze]at B⊢;have Q:Q2 O w.heap.size (some (at0 k)) n n (List.replicate n 0):=Q2.made B (by rw[B.size.1];exact Nat.le_refl _) (by unfold maxLen;omega);refine⟨⟨by omega,by omega,by omega,B.ext,_,Q,fun j=> ?_⟩,?_⟩
 ·rw[if_neg (by omega)]
  simp only[Gf.co,Zj,List.getElem?_replicate]
  split<;>rfl
 rintro i w1 ⟨R,S,I,s,r,C,J⟩
 intros
 refine Q0 (fun hs=> ?_) (fun hs=> ?_)
 ·simp only[Za]at hs
  obtain⟨a,rfl,ha⟩:=Q1.co (h.ext s) (i:=i.toNat) (by omega);obtain⟨k',z,T,t,_,A⟩:=Q2.at C (i:=i.toNat-1) (by omega);simp only[Zi,at0,Zv,and_true]at z;subst z;rw[w64 (n:=i-1) (by omega),w64 (n:=i+2) (by omega)];have U:(i-1).toNat=i.toNat-1:=by omega
  simp only[U,Nat.mul_one];refine⟨⟨by omega,hs⟩,_,ha,⟨by omega,by omega⟩,t,fun V D=> ?_⟩;obtain⟨u,E⟩:=A _ _ D;have K:=Q2.len C;refine⟨⟨by omega,by omega,by omega,Q2.new_ext s E (fun y Z=>by omega),_,u,fun j=> ?_⟩,by show((n:Int)+3-(i+2)).toNat<((n:Int)+3-i).toNat;omega⟩;rw[Qi2 (by omega)]
  by_cases M:j=i.toNat-1
  ·rw[if_pos M,if_pos (by omega),show j+1=i.toNat by omega]
  ·rw[if_neg M,J]
   by_cases x:j % 2=0/\(j:Int)+1<i
   ·rw[if_pos x,if_pos (by omega)]
   ·rw[if_neg x,if_neg (by omega)]
 ·simp only[Zb]at hs
  refine(Qt1 (Q2.bytes C) (Nat.le_refl _) N).mono ?_;rintro e V ⟨d,g,o,X,rfl,F,u,G,H⟩;refine⟨_,_,_,rfl,d,g,o,X,rfl,s.trans F,Q2.base_le u s.size,G,funext fun j=> ?_⟩;rw[H,J];unfold der
  by_cases x:j % 2=0
  ·rw[if_pos x]
   by_cases Y:(j:Int)+1<i
   ·rw[if_pos ⟨x,Y⟩]
   ·rw[if_neg (by omega),Qn1 (p:=bs) (by omega)]
  ·rw[if_neg x,if_neg (by omega)]
open Go Go.Vc Go.Gf
open Go.IntKind (i64)
open Go.Value (int)
open Go.Proofs.Tryz (prog)
def Q96(p:σ)(k:Nat):Prop:=∀a,p=some a->a.block≠k
theorem Q2.away{w w0:World}{p:σ}{n c k:Nat}{bs:τ}(h:Q2 w w0.heap.size p n c bs)(i:k<w0.heap.size):Q96 p k:=by
 intro a ha he;rcases h.where_ with⟨d,_⟩|⟨g,d,hb,_⟩
 ·rw[d]at ha;cases ha
 ·rw[d]at ha
  cases ha;have:g=k:=he;omega
theorem Q2.away2{w:World}{base:Nat}{p:σ}{n c k:Nat}{bs:τ}(h:Q2 w base p n c bs)(i:w.heap.size<=k):Q96 p k:=by
 intro a ha he;rcases h.where_ with⟨d,_⟩|⟨g,d,_,hl,_⟩
 ·rw[d]at ha;cases ha
 ·rw[d]at ha
  cases ha;have:g=k:=he;omega
theorem Q2.setk{w w':World}{base:Nat}{p:σ}{n c k:Nat}{bs:τ}(h:Q2 w base p n c bs)(a:Upd (fun x=>x=k) w w')(ha:Q96 p k):Q2 w' base p n c bs:=
 Q5.upd h a fun _ d he=>ha _ d he
theorem Q5.lt_heap{w:World}{base:Nat}{e:TypeId}{sz:Nat}{k n c:Nat}{xs:List Value}(h:Q5 w base e sz (some (at0 k)) n c xs):k<w.heap.size:=by
 rcases h.where_ with⟨a,_⟩|⟨g,a,_,hl,_⟩
 ·cases a
 ·simp only[Zi,at0,Zv,and_true]at a
  omega
theorem Qth{p q l z by_:τ}{c:UInt8}{t:Nat}(h:co p=sa (act by_ (co q)) (co l))(i:co z=sa (co l) (sh t (sm c (co by_)))){a:τ}(o:∀j,co a j=if j=t then co q t^^^c else co q j):
  co p=sa (act by_ (co a)) (co z):=by
 have e:co a=sa (co q) (sh t (sm c so)):=funext fun j=>by
  rw[o];simp only[sa,sh,sm]
  by_cases d:j=t
  ·subst d
   rw[if_pos rfl,if_neg (by omega),Nat.sub_self];show _=_^^^gm c 1
   rw[Qi1]
  ·rw[if_neg d]
   by_cases g:j<t
   ·rw[if_pos g,x0]
   ·rw[if_neg g]
    obtain⟨m,hm⟩:∃m,j-t=m+1:=⟨j-t-1,by omega⟩;rw[hm];show _=_^^^gm c 0
    rw[Qq,x0]
 rw[h,e,i,QJ5,QY7,Quc,QA9,QQ0]
 congr 1
 rw[QKg (co l),Q36]
theorem Qsh{l z by_:τ}{t:Nat}(hb:Qo by_)(d:Qo z)(b0:by_≠ [])(g:by_.length<=l.length)(ht:t=l.length-by_.length)
  (e:co z=sa (co l) (sh t (sm (gm (co l (l.length-1)) (gi (co by_ (by_.length-1)))) (co by_)))):z.length<l.length:=by
 have lb:0<by_.length:=List.length_pos_iff.2 b0;have j:z.length<=l.length-1:=d.le fun i hi=>by
  rw[e];simp only[sa,sh,sm]
  by_cases h:i=l.length-1
  ·subst h
   rw[if_neg (by omega),show l.length-1-t=by_.length-1 by omega,QS,QPf (hb b0),Qi1,xx]
  ·rw[Qn1 (p:=l) (by omega)]
   by_cases a:i<t
   ·rw[if_pos a,xx]
   ·rw[if_neg a,Qn1 (p:=by_) (i:=i-t) (by omega),Qq,xx]
 omega
theorem Qja{f p q:σ}{n c m d:Nat}{w:World}{bs cs:τ}(hf:Qm w f)(h:Q1 w p n bs)(hc:n<=c)(hn:n<=536870912)(h':Q1 w q m cs)(hd:m<=d)(hm:m<=536870912)(h0:co cs≠sz):
  Calls prog 172 #[.pointer f, .slice p n c, .slice q m d] w fun e w'=>∃T U c1 J V X c2 B,e= .returned (.tuple #[.slice T U c1, .slice V X c2,int i64 0])/\Ext w w'∧
   Q2 w' w.heap.size T U c1 J/\Q2 w' w.heap.size V X c2 B/\Qo J/\Qo B/\co bs=sa (act cs (co J)) (co B)/\(∀by_,Qo by_->co by_=co cs->B.length<by_.length):=by
 refine(F172_calls f p n c q m d w (fun v w'=>∃T U c1 J V X c2 B,v= .tuple #[.slice T U c1, .slice V X c2,int i64 0]/\Ext w w'∧
   Q2 w' w.heap.size T U c1 J/\Q2 w' w.heap.size V X c2 B/\Qo J/\Qo B/\co bs=sa (act cs (co J)) (co B)/\(∀by_,Qo by_->co by_=co cs->B.length<by_.length))
  (fun p9 K _ a2 Y _ _ Z g aa C=>∃k by_ ql l,a2=some (at0 k)/\Ext w C/\Q1 C p9 K by_/\Q96 p9 k/\Qo by_/\co by_=co cs/\Q2 C w.heap.size (some (at0 k)) Y Y ql∧
   Q2 C w.heap.size Z g aa l/\Q96 Z k/\Qo l/\l.length<=Y/\co bs=sa (act by_ (co ql)) (co l)/\(∀j,j+by_.length<=l.length->co ql j=0))
  (fun _ _ _ _ _ _ _ _ g _ _=>g) ?_).mono (by
  rintro e w' ⟨v,rfl,T,U,c1,J,V,X,c2,B,rfl,h⟩;exact⟨T,U,c1,J,V,X,c2,B,rfl,h⟩)
 refine(Qt1 h hc (by omega)).mono ?_;rintro e w4 ⟨p6,l6,c6,l,rfl,ai,ol,nl,col⟩;refine⟨_,_,_,rfl,(Qt1 (h'.ext ai) hd (by omega)).mono ?_⟩;rintro e w7 ⟨p9,K,c9,by_,rfl,aj,ob,nb,cob⟩;have hx:Ext w w7:=ai.trans aj;have ad:=Q2.ext ol aj;have a3:=h'.1;have a4:=h.1;have lb:=Q2.len ob;have ll:=Q2.len ad;have b0:by_≠ []:=by rintro rfl;exact h0 cob.symm
 have bl:0<by_.length:=List.length_pos_iff.2 b0;have bm:by_.length<=536870912:=by have:=nb.le (n:=m) (by rw[cob,a3];exact Qc1 cs);omega
 have lm:l.length<=536870912:=by have:=nl.le (n:=n) (by rw[col,a4];exact Qc1 bs);omega
 rw[hf.there];refine⟨_,_,_,rfl,Q0 (fun h=>by cases h) fun _=>Q0 (fun hz=>by simp only[Za]at hz;omega) fun _=> ?_⟩;refine⟨⟨by omega,by omega,by omega⟩,fun k a5 M=> ?_⟩;rw[Ze]at M⊢;have a6:=hx.size;have a7:Q2 a5 w.heap.size (some (at0 k)) l6 l6 (List.replicate l6 0):=Q2.made M (by rw[M.size.1];exact a6) (by unfold maxLen;omega);have qz:∀j,co (List.replicate l6 (0:UInt8)) j=0:=fun j=>by
  simp only[Gf.co,Zj,List.getElem?_replicate]
  split<;>rfl
 refine⟨⟨k,by_,_,l,rfl,hx.trans M.ext,(Q2.bytes ob).ext M.ext,Q2.away2 ob (by rw[M.size.1];exact Nat.le_refl _),nb,cob,a7,Q2.ext ad M.ext,
  Q2.away2 ad (by rw[M.size.1];exact Nat.le_refl _),nl,by omega,?_,fun j _=>qz j⟩,?_⟩
 ·have:co (List.replicate l6 (0:UInt8))=sz:=funext qz
  rw[this,QZ7,Qh6,col]
 rintro Z g aa C ⟨k',by',ql,o,ak,D,bb,ab,nb',cob',oq,ol',al,nl',bt,am,ao⟩;simp only[Zi,at0,Zv,and_true]at ak;subst ak;obtain rfl:by'=by_:=nb'.eq nb (cob'.trans cob.symm)
 intros
 have ll':=Q2.len ol';have lq:=Q2.len oq;refine Q0 (fun hs=> ?_) (fun hs=> ?_)
 ·simp only[Za]at hs
  intro a8 A;have N:Ext w a8:=D.trans A.ext;rw[w64 (n:=(g:Int)-1) (by omega),w64 (n:=(K:Int)-1) (by omega),w64 (n:=(g:Int)-(K:Int)) (by omega)];have e1:((g:Int)-1).toNat=o.length-1:=by omega
  have e2:((K:Int)-1).toNat=by'.length-1:=by omega
  have e3:((g:Int)-(K:Int)).toNat=o.length-by'.length:=by omega
  obtain⟨a,rfl,ha⟩:=Q1.co (Q2.bytes (Q2.ext ol' A.ext)) (i:=o.length-1) (by omega);obtain⟨b,rfl,hb⟩:=Q1.co (bb.ext A.ext) (i:=by'.length-1) (by omega);simp only[e1,e2,e3,Nat.mul_one];refine⟨⟨by omega,by omega⟩,_,ha,⟨by omega,by omega⟩,_,hb,?_⟩;refine(QX9 (hf.ext N) _ _).mono ?_;rintro e bx ⟨rfl,u⟩;have ae:=N.trans u;obtain⟨k2,aq,bz,af,_,ar⟩:=Q2.at (Q2.ext (Q2.ext oq A.ext) u) (i:=o.length-by'.length) (by omega);simp only[Zi,at0,Zv,and_true]at aq;subst aq;refine⟨_,_,rfl,⟨by omega,by omega⟩,af,fun E au=> ?_⟩;obtain⟨O,F⟩:=ar _ _ au;have G:Ext w E:=Q2.new_ext ae F fun y hy=>by omega
  have av:Q1 E (some b) K by':=((bb.ext A.ext).ext u).upd F fun y hy _=>ab y hy;have a9:Q2 E w.heap.size (some a) g aa o:=Q2.setk (Q2.ext (Q2.ext ol' A.ext) u) F al;have aw:=QX5 (c:=c9) (t:=o.length-by'.length) (hf.ext G) av (by omega) (by omega) (gm (co o (o.length-1)) (gi (co by' (by'.length-1))));rw[show(((o.length-by'.length:Nat)):Int)=(g:Int)-(K:Int) by omega]at aw;refine aw.mono ?_;rintro e b1 ⟨b3,b4,r,rfl,Q,H,cor⟩;refine⟨_,_,_,rfl,fun b5 ba R=> ?_⟩;have ax:=Q2.ext a9 Q;have lr:=Q2.len H
  refine(Q15 (Q8a R (Q2.bytes ax) (Q2.le ax) (Q2.bytes H) (Q2.le H)) (fun x hx=>by
   rcases List.mem_cons.1 hx with rfl|hx
   ·omega
   ·rw[List.mem_singleton]at hx;subst hx;omega) (by omega)).mono ?_
  rintro e bc ⟨b6,be,b7,z,rfl,ay,oz,nz,coz⟩;have I:Ext E ba:=Q.trans R.ext;have s:Ext E bc:=I.trans ay;have coz':co z=sa (co o) (sh (o.length-by'.length) (sm (gm (co o (o.length-1)) (gi (co by' (by'.length-1)))) (co by'))):=by
   rw[coz,←cor];show sa (sa sz (co o)) (co r)=_
   rw[Qh6]
  have bf:=Qsh nb nz b0 (by omega) rfl coz';have b8:=Q2.len oz;refine⟨_,_,_,rfl,⟨k,by',_,z,rfl,G.trans s,av.ext s,ab,nb,cob,Q2.ext O s,Q2.base_le oz (G.trans I).size,Q2.away oz ?_,nz,by omega,?_,fun j hj=> ?_⟩,?_⟩
  ·exact Zo (Q5.lt_heap O) I.size
  ·refine Qth (t:=o.length-by'.length) am coz' fun j=> ?_
   rw[Qi2 (by omega)]
   by_cases hj:j=o.length-by'.length
   ·rw[if_pos hj,if_pos hj,ao _ (by omega),zx]
   ·rw[if_neg hj,if_neg hj]
  ·rw[Qi2 (by omega),if_neg (by omega)]
   exact ao j (by omega)
  ·show be<g
   omega
 ·simp only[Zb]at hs
  refine(Qt1 (Q2.bytes oq) (Nat.le_refl _) (by omega)).mono ?_;rintro e b9 ⟨ca,cb,cc,r,rfl,S,a0,nr,cor⟩;refine⟨_,_,_,rfl,_,_,_,r,_,_,_,o,rfl,D.trans S,Q2.base_le a0 D.size,Q2.ext ol' S,nr,nl',?_,fun b2 bg bh=> ?_⟩
  ·rw[am,←cor,QA1 cob']
  ·obtain rfl:=bg.eq nb (bh.trans cob.symm)
   omega
open Go Go.Vc Go.Gf
open Go.IntKind (i64)
open Go.Value (int)
open Go.Proofs.Tryz (prog)
theorem QG1{w w1:World}{k:Nat}{bs:τ}(a:QG w k (.cells (QE bs).toArray 5) w1)(hm:bs.length<=maxLen):Q2 w1 w.heap.size (some (at0 k)) bs.length bs.length bs:=by
 have:=Q5.made (sz:=1) (n:=bs.length) (c:=bs.length) a (by rw[a.size.1];exact Nat.le_refl _) (Nat.le_refl _) hm (by simp[Qb]);have e:(QE bs).toArray.toList.take (bs.length*1)=QE bs:=by
  rw[Nat.mul_one];show(QE bs).take _=_
  rw[Zh (by rw[Qb];exact Nat.le_refl _)]
 rw[e]at this;exact this
theorem QVh(u:τ)(a:UInt8):co (loc (u++ [a]))=act [a,1] (co (loc u)):=by
 rw[Qm8];have:co (loc [a])=act [a,1] so:=by
  show co (Qg6 [a,1] [1])=_
  have e:co ([1]:τ)=so:=by rw[QZ2,Qzc,Qu2,Qa3,Qw7]
  rw[QW0,e]
 rw[this,Qk6,QA9]
theorem Qaa{f q:σ}{m d:Nat}{w:World}{cs:τ}(hf:Qm w f)(h:Q1 w q m cs)(hm:m<=268435456):
  Calls prog 138 #[.pointer f, .slice q m d] w fun e w'=>∃j o s r,e= .returned (.slice j o s)/\Ext w w'/\Q2 w' w.heap.size j o s r/\Qo r/\co r=co (loc cs):=by
 refine(F138_calls f q m d w (fun v w'=>∃j o s r,v= .slice j o s/\Ext w w'/\Q2 w' w.heap.size j o s r/\Qo r/\co r=co (loc cs))
  (fun _ _ _ _ _ G H I i t=>0<=i/\i<=m/\Ext w t/\∃r,Q2 t w.heap.size G H I r/\Qo r/\co r=co (loc (cs.take i.toNat))) (fun _ _ _ _ _ _ _ _ i _=>(m-i).toNat) ?_).mono (by
  rintro e w' ⟨v,rfl,j,o,s,r,rfl,h⟩;exact⟨j,o,s,r,rfl,h⟩)
 have hl:=h.1;rw[hf.there];refine Q0 (fun h=>by cases h) fun _=> ?_;intro k Y J;have M:=QG1 (bs:=[1]) J (by unfold maxLen;simp);refine⟨⟨by omega,by omega,J.ext,[1],M,fun _=>by decide,rfl⟩,?_⟩;rintro G H I i t ⟨C,N,B,r,D,K,E⟩
 intros
 refine Q0 (fun hs=> ?_) (fun hs=> ?_)
 ·simp only[Za]at hs
  obtain⟨a,rfl,ha⟩:=Q1.co (h.ext B) (i:=i.toNat) (by omega);refine⟨⟨C,hs⟩,_,by rw[Nat.mul_one];exact ha,fun O Q g=> ?_⟩;have F:=QG1 (bs:=[co cs i.toNat,1]) g (by unfold maxLen;simp)
  have R:r.length<=cs.length+1:=K.le (by
   rw[E];have:=Q53 (cs.take i.toNat)
   exact this.mono (by rw[List.length_take];omega))
  have lr:=Q2.len D;refine(QQ2 (hf.ext (B.trans g.ext)) ((Q2.bytes D).ext g.ext) (by omega) (Q2.bytes F) (by simp)).mono ?_;rintro e S ⟨T,U,V,X,rfl,u,x,y,z⟩;rw[w64 (n:=i+1) (by omega)];have A:=(B.trans g.ext);refine⟨_,_,_,rfl,⟨by omega,by omega,A.trans u,X,Q2.base_le x A.size,y,?_⟩,by show((m:Int)-(i+1)).toNat<((m:Int)-i).toNat;omega⟩;have e:cs.take (i+1).toNat=cs.take i.toNat++ [co cs i.toNat]:=by
   rw[show(i+1).toNat=i.toNat+1 by omega,Zn,Zc (by omega)];simp[Gf.co,Zj,Zc (show i.toNat<cs.length by omega)]
  rw[z,E,e,QVh]
 ·simp only[Zb]at hs
  refine⟨_,_,_,r,rfl,B,D,K,?_⟩;rw[E,Zh (by omega)]
theorem Q8b{p:σ}{l c:Nat}{w:World}{bs:τ}(h:Q1 w p l bs)(hb:l<=1073741824):
  Calls prog 110 #[.slice p l c] w fun e w'=>∃a g,e= .returned (.slice a l g)/\Ext w w'/\Q2 w' w.heap.size a l g bs\/e= .returned (.slice none 0 0)/\p=none/\w'=w:=by
 refine(F110_calls p l c w (fun v w'=>∃a g,v= .slice a l g/\Ext w w'/\Q2 w' w.heap.size a l g bs\/v= .slice none 0 0/\p=none/\w'=w) ?_).mono (by
  rintro e w' ⟨v,rfl,a,g,⟨rfl,h⟩|⟨rfl,h⟩⟩
  ·exact⟨a,g, .inl ⟨rfl,h⟩⟩
  ·exact⟨a,g, .inr ⟨rfl,h⟩⟩)
 refine Q0 (fun r=> ?_) (fun r=> ?_)
 ·have:p=none:=by simpa using r
  exact⟨none,0, .inr ⟨rfl,this,rfl⟩⟩
 ·intro k u j
  have o:Q5 u w.heap.size 5 1 (some (at0 k)) 0 0 []:=Q5.made j (by rw[j.size.1];exact Nat.le_refl _) (Nat.le_refl _) (by unfold maxLen;omega) rfl;have hl:=h.1;have y:p=none->l=0:=fun e=>by subst e;simp at r
  obtain⟨a,g,w',s,i,z,t⟩:=o.append QJd 25 (q:=p) (m:=l) (d:=c) (news:=QE bs) (by rw[Qb];omega) ((h.ext j.ext).cells) y
   (Qd1 bs) (by unfold maxLen;omega) (by omega) (by rw[j.size.2];omega)
  rw[Nat.zero_add]at s i;refine⟨a,l,g,w',s,a,g, .inl ⟨rfl,?_,i⟩⟩;refine Upd.trans j.ext z fun x A hs=> ?_;simp only[Zi,at0,Zv,and_true]at hs;rw[j.size.1]at hs;omega
theorem Qf5{p:σ}{l c:Nat}{w:World}{bs:τ}(h:Q1 w p l bs)(hb:l<=1073741824):
  Calls prog 110 #[.slice p l c] w fun e w'=>∃d g,e= .returned (.slice d l g)/\Ext w w'/\Q2 w' w.heap.size d l g bs:=by
 by_cases j:p=none/\l≠0
 ·exfalso
  obtain⟨rfl,hl⟩:=j;obtain⟨a,ha,_⟩:=h.get (i:=0) (by omega);cases ha
 ·refine(Q8b h hb).mono ?_
  rintro e w' ⟨d,g,⟨rfl,o⟩|⟨rfl,rfl,rfl⟩⟩
  ·exact⟨d,g,rfl,o⟩
  ·have hl:l=0:=Decidable.byContradiction fun h=>j ⟨rfl,h⟩
   subst hl;have:bs=[]:=Zk h.1.symm;subst this;exact⟨none,0,rfl,Upd.refl _ _,Q5.nil _ _ _ _⟩
theorem Q4f{w:World}{base:Nat}{p:σ}{n c:Nat}{bs:τ}(h:Q2 w base p n c bs)(U:n<=1073741824):
  Calls prog 170 #[.slice p n c] w fun e w'=>e= .returned (.tuple #[])/\Upd (fun x=>p=some (at0 x)) w w'/\Q2 w' base p n c bs.reverse:=by
 have hl:=Q2.len h
 refine(F170_calls p n c w (fun v w'=>v= .tuple #[]/\Upd (fun x=>p=some (at0 x)) w w'/\Q2 w' base p n c bs.reverse)
  (fun _ i j y=>0<=i/\j=n-1-i/\i<=j+2/\Upd (fun x=>p=some (at0 x)) w y/\∃r,Q2 y base p n c r/\∀t:Nat,t<n->co r t=if(t:Int)<i\/j<t then co bs (n-1-t)else co bs t) (fun _ i j _=>(j+1-i).toNat) ?_).mono (by rintro e w' ⟨v,rfl,rfl,h⟩;exact⟨rfl,h⟩)
 rw[w64 (n:=(n:Int)-1) (by omega)];refine⟨⟨by omega,by omega,by omega,Upd.refl _ _,bs,h,fun t ht=>by rw[if_neg (by omega)]⟩,?_⟩;rintro i j y ⟨J,V,K,F,r,s,u⟩
 intros
 refine Q0 (fun hs=> ?_) (fun hs=> ?_)
 ·simp only[Za]at hs
  intro M G;have a:=Q2.ext s G.ext;have lo:=Q2.len a;obtain⟨k,rfl,hb,N,c1,O⟩:=Q2.at a (i:=i.toNat) (by omega);obtain⟨k',z,_,X,c2,Y⟩:=Q2.at a (i:=j.toNat) (by omega);cases z;simp only[Nat.mul_one];refine⟨⟨by omega,by omega⟩,_,c2,⟨by omega,by omega⟩,_,c1,⟨by omega,by omega⟩,N,fun Q d=> ?_⟩;obtain⟨A,u32⟩:=O _ _ d;obtain⟨k'',hk'',_,R,_,S⟩:=Q2.at A (i:=j.toNat) (by omega);cases hk'';refine⟨⟨by omega,by omega⟩,R,fun B g=> ?_⟩;obtain⟨C,D⟩:=S _ _ g;rw[w64 (n:=i+1) (by omega),w64 (n:=j-1) (by omega)];have up:Upd (fun x=>some (at0 k)=some (at0 x)) w B:=by
   refine Upd.trans F (Upd.trans G.ext.upd (Upd.trans (u32.mono fun x _ E=> ?_) (D.mono fun x _ E=> ?_) fun _ _ h=>h) fun _ _ h=>h) fun _ _ h=>h
   ·show some (at0 k)=some (at0 x)
    rw[show x=k from E]
   ·show some (at0 k)=some (at0 x)
    rw[show x=k from E]
  refine⟨⟨by omega,by omega,by omega,up,_,C,fun t ht=> ?_⟩,by show(j-1+1-(i+1)).toNat<(j+1-i).toNat;omega⟩;rw[Qi2 (by rw[List.length_set];omega),Qi2 (by omega)]
  by_cases H:t=j.toNat
  ·rw[if_pos H,if_pos (by omega),u _ (by omega),if_neg (by omega),show n-1-t=i.toNat by omega]
  ·rw[if_neg H]
   by_cases I:t=i.toNat
   ·rw[if_pos I,if_pos (by omega),u _ (by omega),if_neg (by omega),show n-1-t=j.toNat by omega]
   ·rw[if_neg I,u t ht]
    by_cases o:(t:Int)<i\/j<t
    ·rw[if_pos o,if_pos (by omega)]
    ·rw[if_neg o,if_neg (by omega)]
 ·simp only[Zb]at hs
  have lo:=Q2.len s;have e:r=bs.reverse:=by
   refine Q92 (by rw[List.length_reverse];omega) fun t ht=> ?_;rw[u t (by omega)];have T:co bs.reverse t=co bs (n-1-t):=by
    simp only[Gf.co,Zj];rw[List.getElem?_reverse (by omega),hl]
   rw[T]
   by_cases o:(t:Int)<i\/j<t
   ·rw[if_pos o]
   ·rw[if_neg o,show n-1-t=t by omega]
  rw[e]at s;exact⟨rfl,F,s⟩
open Go Go.Vc Go.Gf
open Go.IntKind (i64)
open Go.Value (int)
open Go.Proofs.Tryz (prog)
abbrev Q7(w:World)(k:Nat)(e:TypeId)(cs:Array Value):Prop:=w.heap[k]? =some (Obj.cells cs e (0,0))
theorem Q7.cell{w:World}{k:Nat}{e:TypeId}{v:Value}(h:Q7 w k e #[v]):w.cell? (at0 k)=some v:=by
 have:at0 k=(at0 k).add 0:=(QJ k 0).symm;rw[this];exact Row.cell ⟨_,_,h⟩ rfl
theorem Q7.live{w:World}{k:Nat}{e:TypeId}{v:Value}(h:Q7 w k e #[v]):QD w (at0 k):=by
 have:at0 k=(at0 k).add 0:=(QJ k 0).symm;rw[this];exact RowW.live ⟨_,h⟩ (by simp)
theorem Q7.set{w w':World}{k:Nat}{e:TypeId}{v u:Value}(h:Q7 w k e #[v])(hs:Qt w (at0 k) u w'):Q7 w' k e #[u]:=by
 have:=hs.at h rfl;exact this
theorem QR0{w w':World}{k:Nat}{u:Value}(hs:Qt w (at0 k) u w'):Upd (fun x=>x=k) w w':=hs.upd
def QW3(w:World)(base k:Nat)(bs:τ):Prop:=∃p n c,Q7 w k 25 #[.slice p n c]/\Q2 w base p n c bs
theorem Q2.apart{w w':World}{base k:Nat}{e:TypeId}{cs:Array Value}{p:σ}{n c:Nat}{bs:τ}(h:Q2 w base p n c bs)(a:Upd (fun x=>x=k) w w')(d:Q7 w k e cs)(he:e≠5):Q2 w' base p n c bs:=
 Q2.other h a fun x g=>⟨cs,e,(0,0),by rw[show x=k from g];exact d,he⟩
section
variable {w w':World}{base k k':Nat}{bs:τ}
theorem QW3.ext(h:QW3 w base k bs)(a:Ext w w'):QW3 w' base k bs:=by
 obtain⟨p,n,c,d,g⟩:=h;exact⟨p,n,c,a.keep d,Q2.ext g a⟩
theorem QW3.other{e:TypeId}{cs:Array Value}(h:QW3 w base k bs)(d:Upd (fun x=>x=k') w w')(g:Q7 w k' e cs)(he:e≠5)(a:k≠k'):QW3 w' base k bs:=by
 obtain⟨p,n,c,i,j⟩:=h;exact⟨p,n,c,d.keep i a,Q2.apart j d g he⟩
theorem QW3.row(h:QW3 w base k bs):∃v,Q7 w k 25 #[v]:=by obtain⟨p,n,c,a,_⟩:=h;exact⟨_,a⟩
end
structure Qx9(w0 w:World)(k4 kl kh kb ka:Nat)(f:σ)(low high a b:τ):Prop where
 ext:Ext w0 w
 n4:w0.heap.size<=k4
 nl:w0.heap.size<=kl
 nh:w0.heap.size<=kh
 nb:w0.heap.size<=kb
 na:w0.heap.size<=ka
 lh:kl≠kh
 lb:kl≠kb
 la:kl≠ka
 hb:kh≠kb
 ha:kh≠ka
 ba:kb≠ka
 rf:Q7 w k4 33 #[.pointer f]
 cl:QW3 w w0.heap.size kl low
 ch:QW3 w w0.heap.size kh high
 cb:QW3 w w0.heap.size kb b
 ca:QW3 w w0.heap.size ka a
theorem Qx9.mono{w0 w w':World}{k4 kl kh kb ka:Nat}{f:σ}{low d a b:τ}(h:Qx9 w0 w k4 kl kh kb ka f low d a b)(g:Ext w w'):Qx9 w0 w' k4 kl kh kb ka f low d a b:=
 ⟨h.ext.trans g,h.n4,h.nl,h.nh,h.nb,h.na,h.lh,h.lb,h.la,h.hb,h.ha,h.ba,g.keep h.rf,h.cl.ext g,h.ch.ext g,h.cb.ext g,h.ca.ext g⟩
theorem Qw1:33≠25/\25≠5/\33≠5:=by decide
theorem Q7.ne{w:World}{k k':Nat}{e d:TypeId}{cs cs':Array Value}(h:Q7 w k e cs)(a:Q7 w k' d cs')(he:e≠d):k≠k':=by
 rintro rfl;unfold Q7 at h a;rw[h]at a;cases a;exact he rfl
theorem Qte{w0 w:World}{k4 kl kh kb ka m:Nat}{f:σ}{low d a b:τ}{H:Se}(hf:Qm w0 f)(h:Qx9 w0 w k4 kl kh kb ka f low d a b)(J:Qz0 m H low d a b)(h0:d≠ [])(hm:m<=256):
  Calls prog 171 #[.pointer (some (at0 k4)), .pointer (some (at0 kl)), .pointer (some (at0 kh)), .pointer (some (at0 kb)), .pointer (some (at0 ka))] w fun e w'=>e= .returned (.tuple #[])∧
   Upd (fun x=>x=kl\/x=kh\/x=kb\/x=ka) w w'/\∃r F,Qx9 w0 w' k4 kl kh kb ka f d r b F/\Qz0 m H d r b F/\F.length+d.length=m+2:=by
 refine(F171_calls (at0 k4) (at0 kl) (at0 kh) (at0 kb) (at0 ka) w (fun v w'=>v= .tuple #[]∧
   Upd (fun x=>x=kl\/x=kh\/x=kb\/x=ka) w w'/\∃r F,Qx9 w0 w' k4 kl kh kb ka f d r b F/\Qz0 m H d r b F/\F.length+d.length=m+2) ?_).mono (by rintro e w' ⟨v,rfl,rfl,h⟩;exact⟨rfl,h⟩)
 have a8:=J.deg;have be:=J.lt;have bf:=J.ab;obtain⟨pl,nl,cl,rl,ol⟩:=h.cl;obtain⟨ph,nh,ch,rh,oh⟩:=h.ch;have ll:=Q2.len ol;have lh:=Q2.len oh;have bg:0<d.length:=List.length_pos_iff.2 h0;refine⟨_,h.rf.cell,_,_,_,rl.cell,_,_,_,rh.cell,?_⟩;refine(Qja (hf.ext h.ext) (Q2.bytes ol) (Q2.le ol) (by omega) (Q2.bytes oh) (Q2.le oh) (by omega) (fun e=>J.nhigh h0 (by rw[e];rfl))).mono ?_;rintro e w9 ⟨p1,n1,c1,q,p2,n2,c2,r,rfl,y,oq,or,nq,nr,az,a0⟩;have Q:=h.mono y;have R:=a0 d J.nhigh rfl;have e1:co low=sa (act q (co d)) (co r):=by rw[az,Qz9]
 have lq:=Q2.len oq;have lr:=Q2.len or;have bh:q.length<=258:=by
  by_cases q0:q=[]
  ·rw[q0];simp
  ·have bi:0<q.length:=List.length_pos_iff.2 q0
   have:=Qjc J.nlow nq J.nhigh q0 h0 e1 (by omega);omega
 have N:Q7 w9 kh 25 #[.slice ph nh ch]:=y.keep rh;have u:Q7 w9 kl 25 #[.slice pl nl cl]:=y.keep rl;refine⟨_,_,_,_,_,_,_,rfl,_,_,_,N.cell,u.live,fun a2 S=> ?_⟩;have t:=QR0 S;have T:=u.set S;have i:Q7 a2 kh 25 #[.slice ph nh ch]:=t.keep N h.lh.symm;refine⟨i.live,fun j U=> ?_⟩;have u16:=QR0 U;have V:=i.set U;have two:∀{base:Nat}{p:σ}{n c:Nat}{bs:τ},Q2 w9 base p n c bs->Q2 j base p n c bs:=fun o=>Q2.apart (Q2.apart o t u Qw1.2.1) u16 i Qw1.2.1;have X:Q7 j kl 25 #[.slice ph nh ch]:=u16.keep T h.lh;have Y:QW3 j w0.heap.size kb b:=(Q.cb.other t u Qw1.2.1 h.lb.symm).other u16 i Qw1.2.1 h.hb.symm;have Z:QW3 j w0.heap.size ka a:=(Q.ca.other t u Qw1.2.1 h.la.symm).other u16 i Qw1.2.1 h.ha.symm;have K:Q7 j k4 33 #[.pointer f]:=u16.keep (t.keep Q.rf (Q7.ne Q.rf u Qw1.1)) (Q7.ne Q.rf N Qw1.1);have aa:Ext w0 j:=Q2.new_ext (Q2.new_ext Q.ext t fun x g=>by rw[show x=kl from g];exact h.nl) u16 fun x g=>by rw[show x=kh from g];exact h.nh
 have ac:=two (Q2.ext oh y);have ad:=two or;have ae:=two oq;intro a3 O;have af:=Y.ext O.ext;have ah:=Z.ext O.ext;have A:Q7 a3 k4 33 #[.pointer f]:=O.ext.keep K;obtain⟨pb,nb,cb,rb,ob⟩:=af;obtain⟨pa,na,ca,ra,oa⟩:=ah;have lb:=Q2.len ob;have la:=Q2.len oa;have ai:=aa.trans O.ext;refine⟨_,_,_,rb.cell,_,_,_,ra.cell,_,A.cell,_,_,_,rb.cell,?_⟩;have aj:=Q2.ext ae O.ext;refine(QQ2 (hf.ext ai) (Q2.bytes aj) (by omega) (Q2.bytes ob) (by omega)).mono ?_;rintro e ak ⟨bj,bk,bm,z,rfl,s,oz,nz,ez⟩;have al:Q7 ak kb 25 #[.slice pb nb cb]:=s.keep rb;have am:Q7 ak ka 25 #[.slice pa na ca]:=s.keep ra;have lz:=Q2.len oz;have bn:z.length<=1000:=nz.le (by rw[ez];exact QV2 (Qc1 q) (by omega));refine⟨_,_,_,rfl,⟨_,_,_,al.cell,rfl⟩,⟨_,_,_,am.cell,rfl⟩,?_⟩;refine(Qlg (Q2.bytes (Q2.ext oa s)) (Q2.le oa) (by omega) (Q2.bytes oz) (Q2.le oz) (by omega)).mono ?_;rintro e G ⟨bo,bp,bq,F,rfl,ao,ob',nb',eb'⟩;have g:=s.trans ao;have M:Q7 G kb 25 #[.slice pb nb cb]:=g.keep rb;have B:Q7 G ka 25 #[.slice pa na ca]:=g.keep ra;refine⟨_,_,_,rfl,⟨_,_,_,M.cell,rfl⟩,B.live,fun a4 aq=> ?_⟩;have C:=QR0 aq;have ar:=B.set aq;have D:Q7 a4 kb 25 #[.slice pb nb cb]:=C.keep M h.ba;refine⟨D.live,fun E au=> ?_⟩;have u32:=QR0 au;have av:=D.set au;have aw:Q7 E ka 25 #[.slice pb nb cb]:=u32.keep ar h.ba.symm;have two':∀{base:Nat}{p:σ}{n c:Nat}{bs:τ},Q2 G base p n c bs->Q2 E base p n c bs:=fun o=>Q2.apart (Q2.apart o C B Qw1.2.1) u32 D Qw1.2.1;have rowk:∀{k:Nat}{e:TypeId}{cs:Array Value},k≠ka->k≠kb->Q7 j k e cs->Q7 E k e cs:=fun n1 n2 hr=>u32.keep (C.keep (g.keep (O.ext.keep hr)) n1) n2;have I:Ext j G:=O.ext.trans g;have a5:Ext w0 E:=Q2.new_ext (Q2.new_ext (aa.trans I) C fun x g=>by rw[show x=ka from g];exact h.na) u32 fun x g=>by rw[show x=kb from g];exact h.nb
 obtain⟨a6,a7⟩:=J.step h0 nq nr e1 R nb' (by rw[eb',ez,Qz9]);have up:Upd (fun x=>x=kl\/x=kh\/x=kb\/x=ka) w E:=by
  refine Upd.trans y.upd (Upd.trans (t.mono fun x _ g=> .inl g) (Upd.trans (u16.mono fun x _ g=> .inr (.inl g)) (Upd.trans I.upd (Upd.trans (C.mono fun x _ g=> .inr (.inr (.inr g))) (u32.mono fun x _ g=> .inr (.inr (.inl g))) fun _ _ h=>h) fun _ _ h=>h) fun _ _ h=>h) fun _ _ h=>h) fun _ _ h=>h
 refine⟨rfl,up,r,F,⟨a5,h.n4,h.nl,h.nh,h.nb,h.na,h.lh,h.lb,h.la,h.hb,h.ha,h.ba,rowk (Q7.ne A ra Qw1.1) (Q7.ne A rb Qw1.1) K,
  ⟨_,_,_,rowk h.la h.lb X,two' (Q2.ext ac I)⟩,⟨_,_,_,rowk h.ha h.hb V,two' (Q2.base_le (Q2.ext ad I) h.ext.size)⟩,
  ⟨_,_,_,av,two' (Q2.base_le ob' (ai.trans s).size)⟩,⟨_,_,_,aw,two' (Q2.ext ob g)⟩⟩,a6,a7⟩
open Go Go.Vc Go.Gf
open Go.IntKind (i64)
open Go.Value (int)
open Go.Proofs.Tryz (prog)
theorem QWl{w:World}{p:σ}{l:Nat}{bs:τ}(h:Q1 w p l bs){n:Nat}(j:n<=l):Q1 w p n (bs.take n):=by
 have hl:=h.1;refine⟨by simp;omega,fun d=> ?_⟩;obtain⟨a,rfl,g⟩:=h.2 (by rintro rfl;simp at d);refine⟨a,rfl,fun i hi=> ?_⟩;simp only[List.length_take]at hi;rw[g i (by omega)]
 congr 3
 simp only[Zj,List.getElem?_take];rw[if_pos (by omega)]
theorem Qzl{w:World}{p:σ}{l c:Nat}{bs:τ}(h:Q1 w p l bs){a:Nat}(ha:a<=l)(s:l<=c):Q1 w (QT0 p c a 1) (l-a) (bs.drop a):=by
 have hl:=h.1;refine⟨by simp;omega,fun d=> ?_⟩;have j:a<l:=by
  rcases Nat.lt_or_ge a l with g|g
  ·exact g
  ·exact(d (Zk (by simp;omega))).elim
 obtain⟨x,rfl,o⟩:=h.2 (by rintro rfl;simp at hl;omega);unfold QT0;rw[if_neg (by omega)];refine⟨_,rfl,fun i hi=> ?_⟩;have r:i<l-a:=by simp at hi;omega
 rw[Nat.mul_one,QB,o (a+i) (by omega)]
 congr 3
 simp only[Zj,List.getElem?_drop]
theorem Q9f(bs:τ)(a i:Nat):co (bs.drop a) i=co bs (a+i):=by
 simp only[Gf.co,Zj,List.getElem?_drop]
def lenAt(w:World)(q:σ):Nat:=
 match q with
 |some a=>match w.cell? a with
  |some (.slice _ n _)=>n
  |_=>0
 |none=>0
theorem QW3.lenAt{w:World}{base k:Nat}{bs:τ}(h:QW3 w base k bs):lenAt w (some (at0 k))=bs.length:=by
 obtain⟨p,n,c,a,d⟩:=h;unfold Proofs.YtkolafpgbhpdlaaGreat.lenAt;simp only[a.cell];exact Q2.len d
def Qre(w0:World)(m e:Nat)(P:τ):φ:=fun v w'=>Ext w0 w'∧
 ((v= .tuple #[.slice none 0 0, .slice none 0 0,int i64 100]/\∀t L pts,¬Gf.Good m e t (Q75 m P) L pts)∨
  ∃pb nb cb b po no oc o,v= .tuple #[.slice pb nb cb, .slice po no oc,int i64 0]/\Q2 w' w0.heap.size pb nb cb b/\Q2 w' w0.heap.size po no oc o/\o.length<=4096/\Gf.Found m e (co P) b o)
def QHe(w0:World)(f:σ)(m e:Nat)(P:τ):σ->Int->Int->σ->Nat->Nat->σ->σ->σ->σ->σ->σ->σ->World->ψ:=
 fun q4 _ _ p18 l18 c18 qh qb c4 cl ch cb ca _ w=>∃k4 kl kh kb ka low high a b P',q4=some (at0 k4)/\qh=some (at0 kh)/\qb=some (at0 kb)/\c4=some (at0 k4)/\cl=some (at0 kl)/\ch=some (at0 kh)/\cb=some (at0 kb)/\ca=some (at0 ka)∧
  Qx9 w0 w k4 kl kh kb ka f low high a b/\Qz0 m (Q75 m P) low high a b/\(∀t L pts,Gf.Good m e t (Q75 m P) L pts->b.length<=t+1)/\Q2 w w0.heap.size p18 l18 c18 P'/\co P'=co P
def QIe:σ->Int->Int->σ->Nat->Nat->σ->σ->σ->σ->σ->σ->σ->World->World->Nat:=
 fun _ _ _ _ _ _ qh _ _ _ _ _ _ _ w=>lenAt w qh
structure Q52(w0 w:World)(k4:Nat)(f:σ)(p:σ)(l c:Nat)(P:τ):Prop where
 ext:Ext w0 w
 n4:w0.heap.size<=k4
 rf:Q7 w k4 33 #[.pointer f]
 own:Q2 w w0.heap.size p l c P
theorem Q52.mono{w0 w w':World}{k4:Nat}{f p:σ}{l c:Nat}{P:τ}(h:Q52 w0 w k4 f p l c P)(a:Ext w w'):Q52 w0 w' k4 f p l c P:=
 ⟨h.ext.trans a,h.n4,a.keep h.rf,Q2.ext h.own a⟩
def QB2(w0 w:World)(m:Nat)(p:σ)(k:Nat):Prop:=Q2 w w0.heap.size (some (at0 k)) (m+1) (m+1) (List.replicate (m+1) 0)/\Q96 p k
def Q32(w0 w:World)(m:Nat)(P:τ)(p:σ)(l c:Nat)(hi:τ):Prop:=Q2 w w0.heap.size p l c hi/\Qo hi/\co hi=Q75 m P
def Ql0(w0 w:World)(k:Nat):Prop:=w0.heap.size<=k/\Q7 w k 25 #[.slice none 0 0]
section
variable {w0 w w':World}{m k:Nat}{p q:σ}{l c:Nat}{P hi:τ}
theorem QB2.mono(h:QB2 w0 w m p k)(a:Ext w w'):QB2 w0 w' m p k:=⟨Q2.ext h.1 a,h.2⟩
theorem Q32.mono(h:Q32 w0 w m P q l c hi)(a:Ext w w'):Q32 w0 w' m P q l c hi:=⟨Q2.ext h.1 a,h.2⟩
theorem Ql0.mono(h:Ql0 w0 w k)(a:Ext w w'):Ql0 w0 w' k:=⟨h.1,a.keep h.2⟩
theorem QB2.lt(h:QB2 w0 w m p k):k<w.heap.size:=Q5.lt_heap h.1
theorem Ql0.lt(h:Ql0 w0 w k):k<w.heap.size:=Qe h.2
theorem Qt2{K:Nat->ψ}(d:Ext w0 w)(g:Q2 w w0.heap.size p l c P)(hm:m<=256)(h:∀k w',Ext w w'->w.heap.size<=k->QB2 w0 w' m p k->K k w'):
  ((0<=(i64.wrap (((m:Nat):Int)+(1:Int)))/\(i64.wrap (((m:Nat):Int)+(1:Int)))<=(i64.wrap (((m:Nat):Int)+(1:Int)))/\(i64.wrap (((m:Nat):Int)+(1:Int)))*((1:Nat):Int)<=2^48)∧
   (∀(k:Nat)(w':World),QG w k (.cells (QK prog 5 (i64.wrap (((m:Nat):Int)+(1:Int))).toNat) 5) w'->K k w')):=by
 have i:i64.wrap (((m:Nat):Int)+(1:Int))=(m:Int)+1:=w64 (by omega);have j:((m:Int)+1).toNat=m+1:=by omega
 rw[i,j];refine⟨by omega,fun k w' a=>h k w' a.ext (by rw[a.size.1];exact Nat.le_refl _) ⟨Q2.made a (by rw[a.size.1];exact d.size) (by unfold maxLen;omega),?_⟩⟩;exact Q2.away2 g (by rw[a.size.1];exact Nat.le_refl _)
theorem Q30{K:Nat->ψ}(d:Ext w0 w)(h:∀k w',Ext w w'->w.heap.size<=k->Ql0 w0 w' k->K k w'):∀(k:Nat)(w':World),QG w k (.cells #[.slice none 0 0] 25) w'->K k w':=
 fun k w' a=>h k w' a.ext (by rw[a.size.1];exact Nat.le_refl _) ⟨by rw[a.size.1];exact d.size,a.at⟩
theorem QE1{K:σ->Nat->Nat->ψ}(s:Ext w0 w)(a:Q2 w w0.heap.size p l c P)(hl:l<=1024)(hm:m<=256)(h:∀q n d w' hi,Ext w w'->Q2 w' w.heap.size q n d hi->Q32 w0 w' m P q n d hi->K q n d w'):
  Calls prog 169 #[.slice (QT0 p c 0 1) ((if((m:Nat):Int)<((l:Nat):Int)then((m:Nat):Int)else((l:Nat):Int)).toNat-0) (c-0)] w fun e w'=>
   (∃(q:σ)(n d:Nat),e= .returned (.slice q n d)/\K q n d w'):=by
 have t:=Q2.le a;have j:=Q2.len a;have u:(if((m:Nat):Int)<((l:Nat):Int)then((m:Nat):Int)else((l:Nat):Int)).toNat=min m l:=by split<;>omega
 rw[u,Qff,Nat.sub_zero,Nat.sub_zero];refine(Qt1 (QWl (Q2.bytes a) (n:=min m l) (by omega)) (by omega) (by omega)).mono ?_;rintro e w' ⟨q,n,d,hi,rfl,g,oh,nh,eh⟩;refine⟨_,_,_,rfl,h q n d w' hi g oh ⟨Q2.base_le oh s.size,nh,?_⟩⟩;rw[eh]
 funext i
 rw[Qaf];show _=if i<m then co P i else 0
 by_cases o:i<min m l
 ·rw[if_pos o,if_pos (by omega)]
 ·rw[if_neg o]
  by_cases r:i<m
  ·rw[if_pos r,Qn1 (by omega)]
  ·rw[if_neg r]
end
open Go Go.Vc Go.Gf
open Go.IntKind (i64)
open Go.Value (int)
open Go.Proofs.Tryz (prog)
theorem QRj(m:Nat):(List.replicate (m+1) (0:UInt8)).set m 1=List.replicate m 0++ [1]:=by
 induction m with
 |zero=>rfl
 |succ m ih=>rw[List.replicate_succ,List.set_cons_succ,ih,List.replicate_succ,List.cons_append]
theorem QR3{w0 W:World}{kl kr m kh k4 lg e:Nat}{f ph p:σ}{nh ch l c:Nat}{P P' hi:τ}(hf:Qm w0 f)(d:Q52 w0 W k4 f p l c P')(hP:co P'=co P)(hm:m<=256)(hl:l<=1024)(hlg:lg=e+1)(he:e<=m)
  (C:Ql0 w0 W kl) (T:Ql0 w0 W kh) (ak:kl≠kh) (hr:QB2 w0 W m p kr) (hh:Q32 w0 W m P' ph nh ch hi) (b3:Q96 ph kr):
  F139_A10 W kl kr m kh ph nh ch k4 lg p l c (Qre w0 m e P) (QHe w0 f m e P) QIe:=by
 have eT:Q75 m P'=Q75 m P:=by unfold Q75;rw[hP]
 have e1:i64.wrap (((m:Nat):Int)+(1:Int))=(m:Int)+1:=w64 (by omega);have e2:((m:Int)+1).toNat=m+1:=by omega
 have e3:i64.wrap (((lg:Nat):Int)-(1:Int))=(e:Int):=by rw[w64 (by omega)];omega
 unfold F139_A10;rw[e1,e2,e3];obtain⟨oh,nhi,ehi⟩:=hh;have j:∀{w w':World}{k:Nat},Ext w0 w->w0.heap.size<=k->Upd (fun x=>x=k) w w'->Ext w0 w':=fun hx hk hu=>Q2.new_ext hx hu fun x hx=>by rw[show x=_ from hx];exact hk
 refine⟨C.2.live,fun w1 s1=> ?_⟩;have u1:=QR0 s1;have b4:=C.2.set s1;have x1:=j d.ext C.1 u1;have am:Q7 w1 kh 25 #[.slice none 0 0]:=u1.keep T.2 ak.symm;refine⟨am.live,fun w2 s2=> ?_⟩;have u2:=QR0 s2;have a8:=am.set s2;have x2:=j x1 T.1 u2;have ao:Q7 w2 kl 25 #[.slice (some (at0 kr)) (m+1) (m+1)]:=u2.keep b4 ak;have two:∀{base:Nat}{p:σ}{n c:Nat}{bs:τ},Q2 W base p n c bs->Q2 w2 base p n c bs:=fun o=>Q2.apart (Q2.apart o u1 C.2 Qw1.2.1) u2 am Qw1.2.1;have a9:Q7 w2 k4 33 #[.pointer f]:=u2.keep (u1.keep d.rf (Q7.ne d.rf C.2 Qw1.1)) (Q7.ne d.rf T.2 Qw1.1);obtain⟨kr',ba,b5,lvr,_,setr⟩:=Q2.at (two hr.1) (i:=m) (by omega);simp only[Zi,at0,Zv,and_true]at ba;subst ba;refine⟨_,_,_,ao.cell,⟨by omega,by omega⟩,?_⟩;show QD w2 ((at0 kr).add ((m:Int).toNat*1))/\_
 rw[Ze,Nat.mul_one];refine⟨lvr,fun G s3=> ?_⟩;obtain⟨bb,u3⟩:=setr 1 G s3;rw[QRj]at bb;have x3:=j x2 b5 u3;have tyr:∃cs,Q7 w2 kr 5 cs:=by
  rcases(two hr.1).where_ with⟨h0,_⟩|⟨g,h0,_,_,_,cur,hc,_⟩
  ·cases h0
  ·simp only[Zi,at0,Zv,and_true]at h0
   subst h0;exact⟨cur,hc⟩
 obtain⟨csr,tyr⟩:=tyr;have aq:Q7 G kl 25 #[.slice (some (at0 kr)) (m+1) (m+1)]:=u3.keep ao (Q7.ne ao tyr Qw1.2.1);have ar:Q7 G kh 25 #[.slice ph nh ch]:=u3.keep a8 (Q7.ne a8 tyr Qw1.2.1);have b6:Q7 G k4 33 #[.pointer f]:=u3.keep a9 (Q7.ne a9 tyr Qw1.2.2);have keepB:∀{p:σ}{n c:Nat}{bs:τ},Q2 w2 w0.heap.size p n c bs->Q96 p kr->Q2 G w0.heap.size p n c bs:=fun o ha=>Q2.setk o u3 ha;have b7:=keepB (two oh) b3;have b8:=keepB (two d.own) hr.2;intro d1 w4 y;have b9:=QG1 (bs:=[1]) y (by unfold maxLen;simp);intro ka w5 v kb w6 D;have be:Ext w4 w6:=v.ext.trans D.ext;have H:Ext G w6:=y.ext.trans be;have au:Q7 w6 ka 25 #[.slice none 0 0]:=D.ext.keep v.at;refine⟨Q7.live au,fun w7 s7=> ?_⟩;have u7:=QR0 s7;have cc:=au.set s7;have nab:kb≠ka:=by rw[D.size.1];have:=v.size;omega
 have av:Q7 w7 kb 25 #[.slice none 0 0]:=u7.keep D.at nab;refine⟨av.live,fun w8 s8=> ?_⟩;have u8:=QR0 s8;have cf:=av.set s8;have cg:Q7 w8 ka 25 #[.slice none 0 0]:=u8.keep cc nab.symm;have ci:w0.heap.size<=G.heap.size:=x3.size;have na:w0.heap.size<=ka:=by rw[v.size.1];have:=y.size;omega
 have nb:w0.heap.size<=kb:=by rw[D.size.1];have:=v.size;omega
 have x8:Ext w0 w8:=j (j (x3.trans H) na u7) nb u8;have E:∀{k:Nat}{e:TypeId}{cs:Array Value},Q7 G k e cs->k<G.heap.size:=fun h=>Qe h;have gka:G.heap.size<=ka:=by rw[v.size.1];have:=y.size;omega
 have gkb:G.heap.size<=kb:=by rw[D.size.1];have:=v.size;omega
 have aw:∀{k:Nat}{e:TypeId}{cs:Array Value},Q7 G k e cs->Q7 w8 k e cs:=fun h=>u8.keep (u7.keep (H.keep h) (by have:=E h;omega)) (by have:=E h;omega);have U:∀{base:Nat}{p:σ}{n c:Nat}{bs:τ},Q2 w6 base p n c bs->Q2 w8 base p n c bs:=fun o=>Q2.apart (Q2.apart o u7 au Qw1.2.1) u8 av Qw1.2.1
 have ck:Qx9 w0 w8 k4 kl kh kb ka f (List.replicate m 0++ [1]) hi [] [1]:=⟨x8,d.n4,C.1,T.1,nb,na,ak,by have:=E aq;omega,by have:=E aq;omega,by have:=E ar;omega,by have:=E ar;omega,nab,
  aw b6,⟨_,_,_,aw aq,U (Q2.ext bb H)⟩,⟨_,_,_,aw ar,U (Q2.ext b7 H)⟩,⟨_,_,_,cf,U (Q2.base_le (Q2.ext b9 be) ci)⟩,⟨_,_,_,cg,Q5.nil _ _ _ _⟩⟩
 have hI0:Qz0 m (Q75 m P) (List.replicate m 0++ [1]) hi [] [1]:=Qz0.init (fun i hi=>if_neg (by omega)) nhi (by rw[ehi,eT]);refine⟨⟨k4,kl,kh,kb,ka,_,_,_,_,P',rfl,rfl,rfl,rfl,rfl,rfl,rfl,rfl,ck,hI0,fun t L pts _=>by simp,U (Q2.ext b8 H),hP⟩,?_⟩;rintro w9 ⟨d6,kl',kh',kb',ka',low,X,a,b,P2,q1,q2,q3,q4,q5,q6,q7,q8,st,Y,hG,op,eP2⟩;simp only[Zi,at0,Zv,and_true]at q1 q2 q3 q5 q8;subst q1 q2 q3 q5 q8
 intros
 have dk:=Y.deg;have d7:=Y.lt;obtain⟨pb,nb',cb',ax,bf⟩:=st.cb;obtain⟨d8,d9,ea,bg,cn⟩:=st.ch;have lb:=Q2.len bf;have lh:=Q2.len cn;have bpos:0<b.length:=List.length_pos_iff.2 Y.b0;have f1:i64.wrap (((nb':Nat):Int)-(1:Int))=(b.length:Int)-1:=by rw[w64 (by omega)];omega
 have f2:i64.wrap ((2:Int)*((b.length:Int)-1))=2*((b.length:Int)-1):=w64 (by omega);have f3:i64.wrap (2*((b.length:Int)-1)+(e:Int))=2*((b.length:Int)-1)+(e:Int):=w64 (by omega);have f4:i64.wrap ((e:Int)+((b.length:Int)-1))=(e:Int)+((b.length:Int)-1):=w64 (by omega);refine⟨_,_,_,ax.cell,?_⟩;rw[f1,f2,f3,f4];refine Q0 (fun hs=> ?_) (fun hs=> ?_)
 ·simp only[Za]at hs
  refine⟨st.ext, .inl ⟨rfl,fun t L pts Z=> ?_⟩⟩;have h1:=hG t L pts Z;have h2:=Z.few;omega
 simp only[Zb]at hs;refine⟨_,_,_,bg.cell,Q0 (fun ay=> ?_) (fun ay=> ?_)⟩
 ·simp only[Za]at ay
  have az:X.length<=e+(b.length-1):=by omega
  intro cq hd;have I:=st.mono hd.ext;have J:Q7 cq kb 25 #[.slice pb nb' cb']:=hd.ext.keep ax;have aa:=Q2.ext bf hd.ext;have bh:=Q2.ext op hd.ext;obtain⟨ab,cr,a0⟩:=Q1.co (Q2.bytes aa) (i:=b.length-1) (by omega);subst cr;have f5:((b.length:Int)-1).toNat=b.length-1:=by omega
  refine⟨_,I.rf.cell,_,_,_,J.cell,_,_,_,J.cell,?_⟩;rw[f1,f5,Nat.mul_one];refine⟨⟨by omega,by omega⟩,_,a0,?_⟩;refine(QM4 (hf.ext I.ext) _).mono ?_;rintro ee ct ⟨rfl,z⟩;have ac:=I.mono z;have ad:Q7 ct kb 25 #[.slice (some ab) nb' cb']:=z.keep J;refine⟨_,_,rfl,_,ac.rf.cell,_,_,_,ad.cell,fun kx ef K=> ?_⟩;have M:=ac.mono K.ext;have ox:=QG1 (bs:=[gi (co b (b.length-1))]) K (by unfold maxLen;simp);refine(QQ2 (hf.ext M.ext) (Q2.bytes (Q2.ext (Q2.ext aa z) K.ext)) (by omega) (Q2.bytes ox) (by simp)).mono ?_;rintro eg bi ⟨a1,a2,a3,b2,rfl,N,cu,bj,cw⟩;have O:=M.mono N;have A:Q7 bi kb 25 #[.slice (some ab) nb' cb']:=N.keep (K.ext.keep ad);refine⟨_,_,_,rfl,Q7.live A,fun a4 bk=> ?_⟩;have a5:=QR0 bk;have af:=A.set bk;have bm:Ext w0 a4:=j O.ext st.nb a5;have bn:Q7 a4 k4 33 #[.pointer f]:=a5.keep O.rf (Q7.ne O.rf A Qw1.1);have bo:∀{base:Nat}{p:σ}{n c:Nat}{bs:τ},Q2 bi base p n c bs->Q2 a4 base p n c bs:=fun o=>Q2.apart o a5 A Qw1.2.1;have Q:=bo cu;have ah:=bo (Q2.ext (Q2.ext (Q2.ext bh z) K.ext) N);have V:co b2=sm (gi (co b (b.length-1))) (co b):=by
   rw[cw];show sa (sm _ (co b)) (sh1 sz)=_
   rw[Qu2,Qa3]
  have s:co b (b.length-1)≠0:=Y.nb Y.b0;have ginz:=QAj s;have ai:b2.length=b.length:=by
   have h1:b2.length<=b.length:=bj.le (by rw[V];exact(Qc1 b).sm _);have h2:b.length-1<b2.length:=Qo.pos (by rw[V];exact Q3a ginz s);omega
  have l2:=Q2.len Q;have lp:=Q2.len ah;refine⟨_,bn.cell,_,_,_,af.cell,?_⟩;refine(QQ2 (hf.ext bm) (Q2.bytes Q) (by omega) (Q2.bytes ah) (by omega)).mono ?_;rintro eh ei ⟨ej,F,ek,all,rfl,R,oall,nall,eall⟩;refine⟨_,_,_,rfl,fun cx B=> ?_⟩;have aj:Q7 cx kb 25 #[.slice a1 a2 a3]:=B.ext.keep (R.keep af);have u:=Q2.ext oall B.ext;have la:=Q2.len u;have lac:=Q2.le u;have dm:all.length<=4096:=nall.le (by rw[eall];exact QV2 (Qc1 b2) (by omega));have cy:(if((m:Nat):Int)<((F:Nat):Int)then((m:Nat):Int)else((F:Nat):Int))=((min m F:Nat):Int):=by split<;>omega
  refine⟨_,_,_,aj.cell,?_⟩;rw[cy,Ze];refine⟨⟨by omega,by omega⟩,?_⟩;refine(Qt1 (Qzl (Q2.bytes u) (a:=min m F) (by omega) lac) (by omega) (by omega)).mono ?_;rintro el cz ⟨c0,c5,c6,o,rfl,S,oo,no,eo⟩;have bp:Q7 cz kb 25 #[.slice a1 a2 a3]:=S.keep aj;have bq:=(bm.trans R).trans B.ext;refine⟨_,_,_,rfl,⟨_,_,_,bp.cell,rfl⟩,bq.trans S, .inr ⟨a1,a2,a3,b2,c0,c5,c6,o,rfl,?_,Q2.base_le oo bq.size,no.le fun i hi=>by rw[eo,Q9f];exact Qn1 (by omega),?_⟩⟩
  ·exact Q2.base_le (Q2.ext (Q2.ext (Q2.ext Q R) B.ext) S) M.ext.size
  ·refine⟨bj,by rintro rfl;simp at ai;omega,?_,by omega,fun i=> ?_,fun t L pts Z=> ?_⟩
   ·rw[ai,V]
    exact QPf s
   ·rw[eo,Q9f,←eP2,Qz9 b2,←eall]
    by_cases h1:m<=F
    ·rw[Nat.min_eq_left h1]
    ·rw[Qn1 (p:=all) (i:=min m F+i) (by omega),Qn1 (p:=all) (i:=m+i) (by omega)]
   ·obtain⟨h1,h2⟩:=QUf Z Y (hG t L pts Z) az
    refine⟨by omega,fun x hx=> ?_⟩;have:co b2=co (smL (gi (co b (b.length-1))) b):=by rw[V,Q68]
    rw[QS1 this,QV9,h2 x hx,Qq]
 ·simp only[Zb]at ay
  have h0:X≠ []:=by rintro rfl;simp at lh;omega
  refine(Qte hf st Y h0 hm).mono ?_;rintro em c7 ⟨rfl,up,r,b',st',br,c8⟩;refine⟨rfl,⟨k4,kl,kh,kb,ka,_,_,_,_,P2,rfl,rfl,rfl,rfl,rfl,rfl,rfl,rfl,st',br,fun t L pts Z=> ?_,?_,eP2⟩,?_⟩
  ·exact QTf Z Y (hG t L pts Z) (by omega) c8
  ·refine Q2.other op up fun x hx=> ?_
   obtain⟨_,_,_,r1,_⟩:=st.cl;obtain⟨_,_,_,r2,_⟩:=st.ca;rcases hx with rfl|rfl|rfl|rfl
   ·exact⟨_,_,_,r1,Qw1.2.1⟩
   ·exact⟨_,_,_,bg,Qw1.2.1⟩
   ·exact⟨_,_,_,ax,Qw1.2.1⟩
   ·exact⟨_,_,_,r2,Qw1.2.1⟩
  ·show lenAt c7 (some (at0 kh))<lenAt w9 (some (at0 kh))
   rw[st'.ch.lenAt,st.ch.lenAt];exact br.lt
open Go Go.Vc Go.Gf
open Go.IntKind (i64)
open Go.Value (int)
open Go.Proofs.Tryz (prog)
section
variable {w0 W:World}{kl kr m kh k4 lg e:Nat}{f ph p:σ}{nh ch l c:Nat}{P P' hi:τ}
variable (hf:Qm w0 f)(hP:co P'=co P)(hm:m<=256)(hl:l<=1024)(hlg:lg=e+1)(he:e<=m)
include hf hP hm hl hlg he
theorem sA9(a:Q52 w0 W k4 f p l c P')(d:Ql0 w0 W kl)(i:QB2 w0 W m p kr)(j:Q32 w0 W m P' ph nh ch hi)(h:Q96 ph kr):
  F139_A9 W kl kr m ph nh ch k4 lg p l c (Qre w0 m e P) (QHe w0 f m e P) QIe:=
 Q30 a.ext fun k w' g r o=>QR3 hf (a.mono g) hP hm hl hlg he (d.mono g) o (by have:=d.lt;omega) (i.mono g) (j.mono g) h
theorem sA8(a:Q52 w0 W k4 f p l c P')(i:QB2 w0 W m p kr)(d:Ql0 w0 W kh)(j:Q32 w0 W m P' ph nh ch hi)(h:Q96 ph kr):
  F139_A8 W kr m kh ph nh ch k4 lg p l c (Qre w0 m e P) (QHe w0 f m e P) QIe:=
 Q30 a.ext fun k w' g r o=>QR3 hf (a.mono g) hP hm hl hlg he o (d.mono g) (by have:=d.lt;omega) (i.mono g) (j.mono g) h
theorem sA7(a:Q52 w0 W k4 f p l c P')(g:Ql0 w0 W kl)(h:Ql0 w0 W kh)(i:kl≠kh)(j:QB2 w0 W m p kr):
  F139_A7 p c m l W kl kr kh k4 lg (Qre w0 m e P) (QHe w0 f m e P) QIe:=
 QE1 a.ext a.own hl hm fun _ _ _ _ _ d o r=>QR3 hf (a.mono d) hP hm hl hlg he (g.mono d) (h.mono d) i (j.mono d) r (Q2.away o j.lt)
theorem sA6(a:Q52 w0 W k4 f p l c P')(g:Ql0 w0 W kl)(h:Ql0 w0 W kh)(i:kl≠kh)(j:Q32 w0 W m P' ph nh ch hi):
  F139_A6 m W kl kh ph nh ch k4 lg p l c (Qre w0 m e P) (QHe w0 f m e P) QIe:=
 Qt2 a.ext a.own hm fun _ _ d o r=>QR3 hf (a.mono d) hP hm hl hlg he (g.mono d) (h.mono d) i r (j.mono d) (Q2.away2 j.1 o)
theorem sA5(a:Q52 w0 W k4 f p l c P')(i:QB2 w0 W m p kr)(j:Q32 w0 W m P' ph nh ch hi)(g:Q96 ph kr):
  F139_A5 W kr m ph nh ch k4 lg p l c (Qre w0 m e P) (QHe w0 f m e P) QIe:=
 ⟨Q30 a.ext fun _ _ d _ h=>sA9 hf hP hm hl hlg he (a.mono d) h (i.mono d) (j.mono d) g,
  Q30 a.ext fun _ _ d _ h=>sA8 hf hP hm hl hlg he (a.mono d) (i.mono d) h (j.mono d) g⟩
theorem sA4(a:Q52 w0 W k4 f p l c P')(d:Ql0 w0 W kl)(h:QB2 w0 W m p kr):
  F139_A4 p c m l W kl kr k4 lg (Qre w0 m e P) (QHe w0 f m e P) QIe:=
 ⟨QE1 a.ext a.own hl hm fun _ _ _ _ _ g i j=>sA9 hf hP hm hl hlg he (a.mono g) (d.mono g) (h.mono g) j (Q2.away i h.lt),
  Q30 a.ext fun _ _ g r o=>sA7 hf hP hm hl hlg he (a.mono g) (d.mono g) o (by have:=d.lt;omega) (h.mono g)⟩
theorem sA3(a:Q52 w0 W k4 f p l c P')(h:QB2 w0 W m p kr)(d:Ql0 w0 W kh):
  F139_A3 p c m l W kr kh k4 lg (Qre w0 m e P) (QHe w0 f m e P) QIe:=
 ⟨QE1 a.ext a.own hl hm fun _ _ _ _ _ g i j=>sA8 hf hP hm hl hlg he (a.mono g) (h.mono g) (d.mono g) j (Q2.away i h.lt),
  Q30 a.ext fun _ _ g r o=>sA7 hf hP hm hl hlg he (a.mono g) o (d.mono g) (by have:=d.lt;omega) (h.mono g)⟩
theorem sA2(a:Q52 w0 W k4 f p l c P')(d:Ql0 w0 W kh)(h:Q32 w0 W m P' ph nh ch hi):
  F139_A2 m W kh ph nh ch k4 lg p l c (Qre w0 m e P) (QHe w0 f m e P) QIe:=
 ⟨Qt2 a.ext a.own hm fun _ _ g i j=>sA8 hf hP hm hl hlg he (a.mono g) j (d.mono g) (h.mono g) (Q2.away2 h.1 i),
  Q30 a.ext fun _ _ g i o=>sA6 hf hP hm hl hlg he (a.mono g) o (d.mono g) (by have:=d.lt;omega) (h.mono g)⟩
theorem sA1(a:Q52 w0 W k4 f p l c P')(d:Ql0 w0 W kl)(h:Q32 w0 W m P' ph nh ch hi):
  F139_A1 m W kl ph nh ch k4 lg p l c (Qre w0 m e P) (QHe w0 f m e P) QIe:=
 ⟨Qt2 a.ext a.own hm fun _ _ g i j=>sA9 hf hP hm hl hlg he (a.mono g) (d.mono g) j (h.mono g) (Q2.away2 h.1 i),
  Q30 a.ext fun _ _ g i o=>sA6 hf hP hm hl hlg he (a.mono g) (d.mono g) o (by have:=d.lt;omega) (h.mono g)⟩
theorem sA0(a:Q52 w0 W k4 f p l c P')(g:Ql0 w0 W kl)(h:Ql0 w0 W kh)(i:kl≠kh):
  F139_A0 m W p c l kl kh k4 lg (Qre w0 m e P) (QHe w0 f m e P) QIe:=
 ⟨Qt2 a.ext a.own hm fun _ _ d _ j=>sA7 hf hP hm hl hlg he (a.mono d) (g.mono d) (h.mono d) i j,
  QE1 a.ext a.own hl hm fun _ _ _ _ _ d _ o=>sA6 hf hP hm hl hlg he (a.mono d) (g.mono d) (h.mono d) i o⟩
end
theorem Qse{f p q:σ}{m cm n cn:Nat}{w:World}{S g:τ}(hf:Qm w f)(hS:Q1 w p m S)(Z:Q1 w q n g)(M:n<=cn)(N:Qo g)(g0:g≠ [])(he:g.length<=m+1)(hm:m<=256):
  Calls prog 139 #[.pointer f, .slice p m cm, .slice q n cn] w fun e w'=>∃v,e= .returned v/\Qre w m (g.length-1) (Qg6 g S.reverse) v w':=by
 have gpos:0<g.length:=List.length_pos_iff.2 g0;refine F139_calls f p m cm q n cn w (Qre w m (g.length-1) (Qg6 g S.reverse)) (QHe w f m (g.length-1) (Qg6 g S.reverse)) QIe ?_;intro k4 w5 A;have ln:=Z.1;have lS:=hS.1;refine(Qt1 (Z.ext A.ext) M (by omega)).mono ?_;rintro e6 O ⟨p8,Q,c8,E,rfl,F,og,ng,eg⟩;obtain rfl:E=g:=ng.eq N eg;have lg:=Q2.len og;have G:Q7 O k4 33 #[.pointer f]:=F.keep A.at;have R:Ext w O:=A.ext.trans F;have e1:i64.wrap (((Q:Nat):Int)-(1:Int))=(Q:Int)-1:=w64 (by omega);refine⟨_,_,_,rfl,_,G.cell,?_⟩;rw[hf.there,e1];refine Q0 (fun h=>by cases h) fun _=>Q0 (fun h=>by simp only[Za]at h;omega) fun _=>Q0 (fun h=>by simp only[Za]at h;omega) fun _=> ?_;refine(Qf5 (hS.ext R) (by omega)).mono ?_;rintro e7 T ⟨ad,ae,rfl,u,oS⟩;refine⟨_,_,_,rfl,?_⟩;refine(Q4f oS (by omega)).mono ?_;rintro e8 H ⟨rfl,I,oT⟩;have af:Ext w T:=R.trans u;have B:Ext O H:=Q2.new_ext u I fun x i=>Q2.blk oS i;have y:Q7 H k4 33 #[.pointer f]:=B.keep G;have r:=R.trans B;refine⟨rfl,_,y.cell,?_⟩;refine(QQ2 (hf.ext r) (Q2.bytes (Q2.ext og B)) (by omega) (Q2.bytes oT) (by omega)).mono ?_;rintro e9 ah ⟨U,J,V,P',rfl,z,oP,nP,eP⟩;refine⟨_,_,_,rfl,fun K X=> ?_⟩;have lP:=Q2.len oP;have ai:P'.length<=600:=nP.le (by rw[eP];exact QV2 (Qc1 E) (by rw[List.length_reverse];omega));have Y:Ext w K:=(r.trans z).trans X.ext;have a:Q52 w K k4 f U J V P':=⟨Y,by rw[A.size.1];exact Nat.le_refl _,X.ext.keep (z.keep y),Q2.base_le (Q2.ext oP X.ext) r.size⟩;have hP:co P'=co (Qg6 E S.reverse):=by rw[eP,QW0,Qz9]
 have hl:J<=1024:=by omega
 have hlg:Q=E.length-1+1:=by omega
 have j:E.length-1<=m:=by omega
 have aj:=Q2.le oP;refine⟨by split<;>omega,?_⟩;refine⟨Qt2 a.ext a.own hm fun k w' i A s=>⟨?_,Q30 (a.mono i).ext fun k2 w2 d C o=> ?_,Q30 (a.mono i).ext fun k2 w2 d C o=> ?_⟩,?_,?_,?_⟩
 ·exact QE1 (a.mono i).ext (a.mono i).own hl hm fun _ _ _ _ _ d ho t=>sA5 hf hP hm hl hlg j ((a.mono i).mono d) (s.mono d) t (Q2.away ho s.lt)
 ·exact sA4 hf hP hm hl hlg j ((a.mono i).mono d) o (s.mono d)
 ·exact sA3 hf hP hm hl hlg j ((a.mono i).mono d) (s.mono d) o
 ·refine QE1 a.ext a.own hl hm fun _ _ _ _ _ i ho t=>⟨Qt2 (a.mono i).ext (a.mono i).own hm fun _ _ d A s=> ?_,Q30 (a.mono i).ext fun _ _ d _ o=> ?_,Q30 (a.mono i).ext fun _ _ d _ o=> ?_⟩
  ·exact sA5 hf hP hm hl hlg j ((a.mono i).mono d) s (t.mono d) (Q2.away2 t.1 A)
  ·exact sA1 hf hP hm hl hlg j ((a.mono i).mono d) o (t.mono d)
  ·exact sA2 hf hP hm hl hlg j ((a.mono i).mono d) o (t.mono d)
 ·refine Q30 a.ext fun _ _ i _ o=>⟨Qt2 (a.mono i).ext (a.mono i).own hm fun _ _ d _ s=> ?_,QE1 (a.mono i).ext (a.mono i).own hl hm fun _ _ _ _ _ d _ t=> ?_,Q30 (a.mono i).ext fun _ _ d C D=> ?_⟩
  ·exact sA4 hf hP hm hl hlg j ((a.mono i).mono d) (o.mono d) s
  ·exact sA1 hf hP hm hl hlg j ((a.mono i).mono d) (o.mono d) t
  ·exact sA0 hf hP hm hl hlg j ((a.mono i).mono d) (o.mono d) D (by have:=o.lt;omega)
 ·refine Q30 a.ext fun _ _ i _ o=>⟨Qt2 (a.mono i).ext (a.mono i).own hm fun _ _ d _ s=> ?_,QE1 (a.mono i).ext (a.mono i).own hl hm fun _ _ _ _ _ d _ t=> ?_,Q30 (a.mono i).ext fun _ _ d C D=> ?_⟩
  ·exact sA3 hf hP hm hl hlg j ((a.mono i).mono d) s (o.mono d)
  ·exact sA2 hf hP hm hl hlg j ((a.mono i).mono d) (o.mono d) t
  ·exact sA0 hf hP hm hl hlg j ((a.mono i).mono d) D (o.mono d) (by have:=o.lt;omega)
end Go.Proofs.YtkolafpgbhpdlaaGreat
