import Derived.KernelRfl
namespace Go.Gf
def gE:Nat:=0x8e47add86c361b83cfe9fa7db0582c160b8bcbebfbf3f7f5f47a3d90482412098a45ac562b9bc3eff9f279b259a251a653a7dde070381c0e078dc86432198241ae57a5dc6e3795c46231964babdbe3fff1f67bb3d7e5fc7e3f91c663bfd1e673b7d5e472399249aa55a452299a4da8542a158442219e4fa9da6db85c2e1785cc663397c5ec763b93c7edf87c3e1f81ce67bdd068341a0d884422118643afd9e271b65ba3dfe1fe7fb1d66bbbd3e7fdf0783c1e0f89ca65bc5e2f99c261be5fa1de6fb9d269ba5da05028140a058c46239fc1ee77b5d46a35944a259c4e279dc06030180c06038fc9ea75b45a2d984c261387cde8743a1d80402010080402018e47add86c361b83cfe9fa7db0582c160b8bcbebfbf3f7f5f47a3d90482412098a45ac562b9bc3eff9f279b259a251a653a7dde070381c0e078dc86432198241ae57a5dc6e3795c46231964babdbe3fff1f67bb3d7e5fc7e3f91c663bfd1e673b7d5e472399249aa55a452299a4da8542a158442219e4fa9da6db85c2e1785cc663397c5ec763b93c7edf87c3e1f81ce67bdd068341a0d884422118643afd9e271b65ba3dfe1fe7fb1d66bbbd3e7fdf0783c1e0f89ca65bc5e2f99c261be5fa1de6fb9d269ba5da05028140a058c46239fc1ee77b5d46a35944a259c4e279dc06030180c06038fc9ea75b45a2d984c261387cde8743a1d8040201008040201
def gL:Nat:=0xaf5850a8eaf4d674e8ade7e6e9d5ae4fd72c757aeb16f50b51a0a99cb05f59cb5a3eccbbb18660fbaa559d29523ba16cf66f0c7fec4917c476a47bb7d8432d1fa2416d4753393c849e5d2a14abd356f261befcdcb2978790cdcfbc955bd13f372e892023d99244117cb4b8267799a5e318fec531edde4a670d63808cf7c0700757a7f373ace5d44e2b79150a9f9b5eca3dba85fa54283a6b6e7e48c3a3b6421e404638835c13d2f1bddb968fce94d03688229110b32598e2fd30dd66628bbf06a672e44d78099ac9b9f9276a7dc2b51d458212f0da8e9335210f24e12f658a05714c08c8f869c11c81ef8d340ee064044bc7681bee33df03c61a320219010000
def ge(i:Nat):Nat:=Nat.mod (Nat.shiftRight gE (8*i)) 256
def gl(a:Nat):Nat:=Nat.mod (Nat.shiftRight gL (8*a)) 256
def gmN(a b:Nat):Nat:=cond (Nat.beq a 0||Nat.beq b 0) 0 (ge (gl a+gl b))
def giN(a:Nat):Nat:=cond (Nat.beq a 0) 0 (ge (gl a*254 % 255))
def gm(a b:UInt8):UInt8:=UInt8.ofNat (gmN a.toNat b.toNat)
def gi(a:UInt8):UInt8:=UInt8.ofNat (giN a.toNat)
def xt(x:Nat):Nat:=cond (Nat.ble 256 (x*2)) (Nat.xor (x*2) 285) (x*2)
def go:Nat->Nat->Nat->Nat->Nat
 |0,_,_,o=>o
 |n+1,x,b,o=>go n (xt x) (b/2) (cond (Nat.beq (b % 2) 1) (Nat.xor o x) o)
def Q7h:Nat->(Nat->Bool)->Bool
 |0,_=>true
 |n+1,p=>p n&&Q7h n p
theorem QW2{p:Nat->Bool}:∀{n:Nat},Q7h n p=true->∀i,i<n->p i=true
 |0,_,i,hi=>by omega
 |n+1,h,i,hi=>by
  simp only[Q7h,Bool.and_eq_true]at h
  by_cases e:i=n
  ·rw[e];exact h.1
  ·exact QW2 h.2 i (by omega)
theorem Qud{a b:Nat}:Nat.beq a b=true↔a=b:=⟨Nat.eq_of_beq_eq_true,fun h=>by subst h;exact Nat.beq_refl a⟩
theorem Q0f{a b:Nat}:Nat.beq a b=false↔a≠b:=by
 rw[←Bool.not_eq_true,Qud]
theorem c1:(Q7h 255 fun s=>Nat.beq (gl (ge s)) s&&(!Nat.beq (ge s) 0)&&Nat.beq (ge (s+255)) (ge s))=true:=by kernel_rfl
theorem c2:(Q7h 256 fun a=>Nat.beq a 0||(Nat.beq (ge (gl a)) a&&Nat.blt (gl a) 255))=true:=by kernel_rfl
theorem c3:(Q7h 256 fun a=>Q7h 256 fun b=>Nat.beq (gmN a b) (go 8 a b 0))=true:=by kernel_rfl
theorem Qwb(i:Nat):ge i<256:=Nat.mod_lt _ (by decide)
theorem QDk(a b:Nat):gmN a b<256:=by unfold gmN;cases (Nat.beq a 0||Nat.beq b 0)<;>simp[Qwb]
theorem QBk(a:Nat):giN a<256:=by unfold giN;cases Nat.beq a 0<;>simp[Qwb]
theorem QJ3{s:Nat}(h:s<255):gl (ge s)=s/\ge s≠0/\ge (s+255)=ge s:=by
 have:=QW2 c1 s h;simp only[Bool.and_eq_true,Bool.not_eq_true',Qud,Q0f]at this;exact⟨this.1.1,this.1.2,this.2⟩
theorem QU1{a:Nat}(h:a<256)(d:a≠0):ge (gl a)=a/\gl a<255:=by
 have:=QW2 c2 a h;simp only[Bool.and_eq_true,Bool.or_eq_true,Qud,Nat.blt_eq]at this;exact this.resolve_left d
theorem QQc{a b:Nat}(ha:a<256)(hb:b<256):gmN a b=go 8 a b 0:=by
 exact Qud.1 (QW2 (QW2 c3 a ha) b hb)
theorem QNf{s:Nat}(h:s<510):ge s=ge (s % 255):=by
 by_cases a:s<255
 ·rw[Nat.mod_eq_of_lt a]
 ·have e:s=(s-255)+255:=by omega
  rw[show s % 255=s-255 by omega];have:=(QJ3 (s:=s-255) (by omega)).2.2;rw[←e]at this;exact this
theorem QR8{s:Nat}(h:s<510):gl (ge s)=s % 255/\ge s≠0:=by
 rw[QNf h];have:=QJ3 (s:=s % 255) (by omega);exact⟨this.1,this.2.1⟩
theorem Qr5{a b:Nat}(ha:a≠0)(hb:b≠0):gmN a b=ge (gl a+gl b):=by
 have d:Nat.beq a 0=false:=Q0f.2 ha;have e:Nat.beq b 0=false:=Q0f.2 hb;unfold gmN;rw[d,e];rfl
theorem QR4(a:Nat):gmN a 0=0:=by unfold gmN;rw[show Nat.beq 0 0=true from rfl,Bool.or_true];rfl
theorem Q95(a:Nat):gmN 0 a=0:=by unfold gmN;rw[show Nat.beq 0 0=true from rfl,Bool.true_or];rfl
theorem QNh(a b:Nat):gmN a b=gmN b a:=by unfold gmN;rw[Bool.or_comm,Nat.add_comm]
theorem QRf{a b c:Nat}(ha:a<256)(hb:b<256)(h:c<256):gmN (gmN a b) c=gmN a (gmN b c):=by
 by_cases a0:a=0
 ·subst a0;rw[Q95,Q95,Q95]
 by_cases b0:b=0
 ·subst b0;rw[Q95,QR4,Q95]
 by_cases d:c=0
 ·subst d;rw[QR4,QR4,QR4]
 have fa:=QU1 ha a0;have fb:=QU1 hb b0;have fc:=QU1 h d;have e:=QR8 (s:=gl a+gl b) (by omega);have f:=QR8 (s:=gl b+gl c) (by omega);rw[Qr5 a0 b0,Qr5 b0 d,Qr5 e.2 d,Qr5 a0 f.2,e.1,f.1,QNf (by omega),QNf (s:=gl a+_) (by omega)]
 congr 1
 omega
theorem QEk(n x:Nat):∀b c o p:Nat,go n x (b^^^c) (o^^^p)=go n x b o^^^go n x c p:=by
 induction n generalizing x with
 |zero=>intro b c o p;rfl
 |succ n ih=>
  intro b c o p;have e:(b^^^c)/2=b/2^^^c/2:=Nat.xor_div_two;have f:cond (Nat.beq ((b^^^c) % 2) 1) (Nat.xor (o^^^p) x) (o^^^p)=cond (Nat.beq (b % 2) 1) (Nat.xor o x) o^^^cond (Nat.beq (c % 2) 1) (Nat.xor p x) p:=by
   have hb:b % 2=0\/b % 2=1:=by omega
   have d:c % 2=0\/c % 2=1:=by omega
   have h:(b^^^c) % 2=(b % 2)^^^(c % 2):=by
    have:=Nat.xor_mod_two_pow (a:=b) (b:=c) (n:=1);simpa using this
   rw[h];rcases hb with hb|hb<;>rcases d with d|d<;>rw[hb,d]
   ·rfl
   ·show(o^^^p)^^^x=o^^^(p^^^x)
    rw[Nat.xor_assoc]
   ·show(o^^^p)^^^x=(o^^^x)^^^p
    rw[Nat.xor_assoc,Nat.xor_assoc,Nat.xor_comm p x]
   ·show(o^^^p)=(o^^^x)^^^(p^^^x)
    rw[Nat.xor_assoc o x,←Nat.xor_assoc x p,Nat.xor_comm x p,Nat.xor_assoc p x,Nat.xor_self,Nat.xor_zero]
  show go n (xt x) ((b^^^c)/2) (cond (Nat.beq ((b^^^c) % 2) 1) (Nat.xor (o^^^p) x) (o^^^p))=go n (xt x) (b/2) _^^^go n (xt x) (c/2) _
  rw[e,f,ih]
theorem QC7(a:UInt8):a.toNat<256:=UInt8.toNat_lt a
theorem QS0(a b:UInt8):(gm a b).toNat=gmN a.toNat b.toNat:=by
 unfold gm;rw[UInt8.toNat_ofNat',Nat.mod_eq_of_lt (QDk _ _)]
theorem Qed(a:UInt8):(gi a).toNat=giN a.toNat:=by
 unfold gi;rw[UInt8.toNat_ofNat',Nat.mod_eq_of_lt (QBk _)]
theorem QJ0{a:UInt8}:a=0↔a.toNat=0:=by rw[←UInt8.toNat_inj];rfl
theorem Q90(a b:UInt8):gm a b=gm b a:=by unfold gm;rw[QNh]
theorem QS(a b c:UInt8):gm (gm a b) c=gm a (gm b c):=by
 rw[←UInt8.toNat_inj,QS0,QS0,QS0,QS0,QRf (QC7 a) (QC7 b) (QC7 c)]
theorem Qq(a:UInt8):gm a 0=0:=by
 rw[←UInt8.toNat_inj,QS0];exact QR4 _
theorem QU(a:UInt8):gm 0 a=0:=by rw[Q90,Qq]
theorem Qk8(a b c:UInt8):gm a (b^^^c)=gm a b^^^gm a c:=by
 rw[←UInt8.toNat_inj,UInt8.toNat_xor,QS0,QS0,QS0,UInt8.toNat_xor,QQc (QC7 a) (QC7 b),QQc (QC7 a) (QC7 c),
  QQc (QC7 a) (by rw[←UInt8.toNat_xor];exact QC7 _),←QEk]
 rfl
theorem QF7(a b c:UInt8):gm (a^^^b) c=gm a c^^^gm b c:=by rw[Q90,Qk8,Q90 c a,Q90 c b]
theorem Q3a{a b:UInt8}(ha:a≠0)(hb:b≠0):gm a b≠0:=by
 rw[Ne,QJ0]at ha hb⊢;rw[QS0,Qr5 ha hb];have fa:=QU1 (QC7 a) ha;have fb:=QU1 (QC7 b) hb;exact(QR8 (by omega)).2
theorem QY1{a b:UInt8}:gm a b=0↔a=0\/b=0:=by
 constructor
 ·intro h
  by_cases ha:a=0
  ·exact .inl ha
  ·by_cases hb:b=0
   ·exact .inr hb
   ·exact(Q3a ha hb h).elim
 ·rintro(rfl|rfl)
  ·exact QU _
  ·exact Qq _
theorem c4:(Q7h 256 fun a=>Nat.beq (gmN a 1) a&&(Nat.beq a 0||Nat.beq (gmN a (giN a)) 1))=true:=by kernel_rfl
theorem Qi1(a:UInt8):gm a 1=a:=by
 have:=QW2 c4 a.toNat (QC7 a);simp only[Bool.and_eq_true,Qud]at this;rw[←UInt8.toNat_inj,QS0];exact this.1
theorem QW5(a:UInt8):gm 1 a=a:=by rw[Q90,Qi1]
theorem QT8{a:UInt8}(h:a≠0):gm a (gi a)=1:=by
 have:=QW2 c4 a.toNat (QC7 a);rw[Ne,QJ0]at h;simp only[Bool.and_eq_true,Qud,Bool.or_eq_true]at this;rw[←UInt8.toNat_inj,QS0,Qed];exact this.2.resolve_left h
theorem QPf{a:UInt8}(h:a≠0):gm (gi a) a=1:=by rw[Q90,QT8 h]
theorem QQf:gi 0=0:=rfl
theorem QAj{a:UInt8}(h:a≠0):gi a≠0:=by
 intro e;have:=QT8 h;rw[e,Qq]at this;cases this
theorem QSf{a b c:UInt8}(h:a≠0)(e:gm a b=gm a c):b=c:=by
 have:gm (gi a) (gm a b)=gm (gi a) (gm a c):=by rw[e]
 rwa [←QS,←QS,QPf h,QW5,QW5]at this
theorem Qr0(a b c:UInt8):gm a (gm b c)=gm b (gm a c):=by rw[←QS,Q90 a b,QS]
theorem Q2a{a b:UInt8}(h:gm a b=1):b=gi a:=by
 have ha:a≠0:=by rintro rfl;rw[QU]at h;cases h
 exact QSf ha (h.trans (QT8 ha).symm)
theorem QCk(a b:UInt8):gi (gm a b)=gm (gi a) (gi b):=by
 by_cases ha:a=0
 ·subst ha;rw[QU,QQf,QU]
 by_cases hb:b=0
 ·subst hb;rw[Qq,QQf,Qq]
 refine(Q2a ?_).symm;rw[QS,Qr0 b,←QS,QT8 ha,QW5,QT8 hb]
theorem xx(a:UInt8):a^^^a=0:=UInt8.xor_self
theorem x0(a:UInt8):a^^^0=a:=UInt8.xor_zero
theorem zx(a:UInt8):0^^^a=a:=UInt8.zero_xor
theorem Q2h(a b c:UInt8):a^^^(b^^^c)=b^^^(a^^^c):=by rw[←UInt8.xor_assoc,UInt8.xor_comm a b,UInt8.xor_assoc]
theorem Qs9(a b:UInt8):a^^^(a^^^b)=b:=by rw[←UInt8.xor_assoc,xx,zx]
theorem QU2{a b:UInt8}:a^^^b=0↔a=b:=by
 constructor
 ·intro h
  have:a^^^(a^^^b)=a:=by rw[h,x0]
  rw[Qs9]at this;exact this.symm
 ·rintro rfl;exact xx _
def xs:Nat->(Nat->UInt8)->UInt8
 |0,_=>0
 |n+1,f=>xs n f^^^f n
theorem Qv{f g:Nat->UInt8}:∀{n:Nat},(∀i,i<n->f i=g i)->xs n f=xs n g
 |0,_=>rfl
 |n+1,h=>by rw[xs,xs,Qv (n:=n) fun i hi=>h i (by omega),h n (by omega)]
theorem Qz2{f:Nat->UInt8}:∀{n:Nat},(∀i,i<n->f i=0)->xs n f=0
 |0,_=>rfl
 |n+1,h=>by rw[xs,Qz2 (n:=n) fun i hi=>h i (by omega),h n (by omega),xx]
theorem Q76(f g:Nat->UInt8):∀n:Nat,xs n (fun i=>f i^^^g i)=xs n f^^^xs n g
 |0=>(xx 0).symm
 |n+1=>by rw[xs,xs,xs,Q76 f g n,UInt8.xor_assoc,UInt8.xor_assoc,Q2h (f n)]
theorem Qi6(c:UInt8)(f:Nat->UInt8):∀n:Nat,xs n (fun i=>gm c (f i))=gm c (xs n f)
 |0=>(Qq c).symm
 |n+1=>by rw[xs,xs,Qi6 c f n,Qk8]
theorem QG7(f:Nat->Nat->UInt8)(m:Nat):∀n:Nat,xs n (fun i=>xs m (f i))=xs m (fun j=>xs n (fun i=>f i j))
 |0=>(Qz2 fun _ _=>rfl).symm
 |n+1=>by
  rw[xs,QG7 f m n,←Q76]
  rfl
theorem Q66{f:Nat->UInt8}{n k:Nat}(a:k<n)(h:∀i,i<n->i≠k->f i=0):xs n f=f k:=by
 induction n with
 |zero=>omega
 |succ n ih=>
  rw[xs]
  by_cases e:k=n
  ·subst e
   rw[Qz2 fun i hi=>h i (by omega) (by omega),zx]
  ·rw[ih (by omega) fun i hi=>h i (by omega),h n (by omega) (by omega),x0]
theorem Qbj(f:Nat->UInt8)(n:Nat):∀m:Nat,xs (n+m) f=xs n f^^^xs m (fun i=>f (n+i))
 |0=>(x0 _).symm
 |m+1=>by rw[←Nat.add_assoc,xs,Qbj f n m,xs,UInt8.xor_assoc]
abbrev Se:=Nat->UInt8
def sa(s t:Se):Se:=fun i=>s i^^^t i
def sm(c:UInt8)(s:Se):Se:=fun i=>gm c (s i)
def sh1(s:Se):Se
 |0=>0
 |i+1=>s i
def sh(m:Nat)(s:Se):Se:=fun i=>if i<m then 0 else s (i-m)
def sz:Se:=fun _=>0
def so:Se
 |0=>1
 |_+1=>0
theorem QKg(s t:Se):sa s t=sa t s:=funext fun _=>UInt8.xor_comm _ _
theorem QQ0(s t u:Se):sa (sa s t) u=sa s (sa t u):=funext fun _=>UInt8.xor_assoc _ _ _
theorem QF5(s t u:Se):sa s (sa t u)=sa t (sa s u):=funext fun _=>Q2h _ _ _
theorem Qbc(s:Se):sa s s=sz:=funext fun _=>xx _
theorem Qa3(s:Se):sa s sz=s:=funext fun _=>x0 _
theorem Qh6(s:Se):sa sz s=s:=funext fun _=>zx _
theorem Q36(s t:Se):sa s (sa s t)=t:=funext fun _=>Qs9 _ _
theorem Q46(s t:Se):sh1 (sa s t)=sa (sh1 s) (sh1 t):=funext fun i=>by cases i<;>simp[sh1,sa]
theorem QEa(c:UInt8)(s:Se):sh1 (sm c s)=sm c (sh1 s):=funext fun i=>by cases i<;>simp[sh1,sm,Qq]
theorem QQg(c:UInt8)(s t:Se):sm c (sa s t)=sa (sm c s) (sm c t):=funext fun _=>Qk8 _ _ _
theorem QTl(c d:UInt8)(s:Se):sm c (sm d s)=sm d (sm c s):=funext fun _=>Qr0 _ _ _
theorem QPg(c d:UInt8)(s:Se):sm (gm c d) s=sm c (sm d s):=funext fun _=>QS _ _ _
theorem QRg(c d:UInt8)(s:Se):sm (c^^^d) s=sa (sm c s) (sm d s):=funext fun _=>QF7 _ _ _
theorem QSj(c:UInt8):sm c sz=sz:=funext fun _=>Qq _
theorem QM1(s:Se):sm 0 s=sz:=funext fun _=>QU _
theorem Qw7(s:Se):sm 1 s=s:=funext fun _=>QW5 _
theorem Qu2:sh1 sz=sz:=funext fun i=>by cases i<;>rfl
theorem Q0l(m:Nat)(s t:Se):sh m (sa s t)=sa (sh m s) (sh m t):=funext fun i=>by
 by_cases h:i<m
 ·simp only[sh,sa,if_pos h,xx]
 ·simp only[sh,sa,if_neg h]
theorem QRl(m:Nat)(c:UInt8)(s:Se):sh m (sm c s)=sm c (sh m s):=funext fun i=>by
 by_cases h:i<m
 ·simp only[sh,sm,if_pos h,Qq]
 ·simp only[sh,sm,if_neg h]
theorem Qfc(s:Se):sh 0 s=s:=funext fun i=>by unfold sh;simp
theorem Qec(m:Nat)(s:Se):sh (m+1) s=sh1 (sh m s):=funext fun i=>by
 cases i with
 |zero=>rfl
 |succ i=>
  show(if i+1<m+1 then 0 else s (i+1-(m+1)))=if i<m then 0 else s (i-m)
  rw[show i+1-(m+1)=i-m by omega]
  by_cases h:i<m
  ·rw[if_pos h,if_pos (by omega)]
  ·rw[if_neg h,if_neg (by omega)]
def co(p:List UInt8):Se:=fun i=>p.getD i 0
theorem Qzc:co []=sz:=rfl
theorem QZ2(a:UInt8)(p:List UInt8):co (a::p)=sa (sm a so) (sh1 (co p)):=funext fun i=>by
 cases i with
 |zero=>show a=gm a 1^^^0;rw[Qi1,x0]
 |succ i=>show co p i=gm a 0^^^co p i;rw[Qq,zx]
theorem Qn1{p:List UInt8}{i:Nat}(h:p.length<=i):co p i=0:=by
 unfold co;rw[List.getD_eq_getElem?_getD,List.getElem?_eq_none h];rfl
def act:List UInt8->Se->Se
 | [],_=>sz
 |a::p,s=>sa (sm a s) (sh1 (act p s))
theorem QJ5(p:List UInt8)(s t:Se):act p (sa s t)=sa (act p s) (act p t):=by
 induction p with
 |nil=>exact(Qbc sz).symm
 |cons a p ih=>simp only[act,ih,QQg,Q46];rw[QQ0,QQ0,QF5 (sm a t)]
theorem Quc(p:List UInt8)(c:UInt8)(s:Se):act p (sm c s)=sm c (act p s):=by
 induction p with
 |nil=>exact(QSj c).symm
 |cons a p ih=>simp only[act,ih,QQg,QEa,QTl a c]
theorem QPe(p:List UInt8)(s:Se):act p (sh1 s)=sh1 (act p s):=by
 induction p with
 |nil=>exact Qu2.symm
 |cons a p ih=>simp only[act,ih,Q46,QEa]
theorem QZ7(p:List UInt8):act p sz=sz:=by
 induction p with
 |nil=>rfl
 |cons a p ih=>simp only[act,ih,QSj,Qu2,Qa3]
theorem QY7(p:List UInt8)(m:Nat)(s:Se):act p (sh m s)=sh m (act p s):=by
 induction m with
 |zero=>rw[Qfc,Qfc]
 |succ m ih=>rw[Qec,Qec,QPe,ih]
theorem Qk6(p q:List UInt8)(s:Se):act p (act q s)=act q (act p s):=by
 induction p with
 |nil=>exact(QZ7 q).symm
 |cons a p ih=>simp only[act,ih,QJ5,Quc,QPe]
theorem QA9(p:List UInt8):act p so=co p:=by
 induction p with
 |nil=>rfl
 |cons a p ih=>rw[act,ih,QZ2]
theorem Qz9(p q:List UInt8):act p (co q)=act q (co p):=by
 rw[←QA9 q,Qk6,QA9]
def QK7:List UInt8->List UInt8->List UInt8
 | [],q=>q
 |a::p,[]=>a::p
 |a::p,b::q=>(a^^^b)::QK7 p q
def smL(c:UInt8)(p:List UInt8):List UInt8:=p.map (gm c)
def Qg6:List UInt8->List UInt8->List UInt8
 | [],_=>[]
 |a::p,q=>QK7 (smL a q) (0::Qg6 p q)
theorem Q82(p q:List UInt8):co (QK7 p q)=sa (co p) (co q):=by
 induction p generalizing q with
 |nil=>rw[QK7,Qzc,Qh6]
 |cons a p ih=>
  cases q with
  |nil=>rw[QK7,Qzc,Qa3]
  |cons b q=>
   rw[QK7,QZ2,ih,QZ2,QZ2,QRg,Q46,QQ0,QQ0,QF5 (sm b so)]
theorem Q68(c:UInt8)(p:List UInt8):co (smL c p)=sm c (co p):=funext fun i=>by
 simp only[co,smL,sm,List.getD_eq_getElem?_getD,List.getElem?_map];cases p[i]? with
 |none=>exact(Qq c).symm
 |some a=>rfl
theorem QW0(p q:List UInt8):co (Qg6 p q)=act p (co q):=by
 induction p with
 |nil=>rfl
 |cons a p ih=>
  rw[Qg6,Q82,Q68,act,QZ2,QM1,Qh6,ih]
theorem Qtc(p q:List UInt8)(s:Se):act (QK7 p q) s=sa (act p s) (act q s):=by
 induction p generalizing q with
 |nil=>rw[QK7,act,Qh6]
 |cons a p ih=>
  cases q with
  |nil=>rw[QK7];exact(Qa3 _).symm
  |cons b q=>simp only[QK7,act,ih,QRg,Q46];rw[QQ0,QQ0,QF5 (sm b s)]
theorem Qfj(c:UInt8)(p:List UInt8)(s:Se):act (smL c p) s=sm c (act p s):=by
 induction p with
 |nil=>exact(QSj c).symm
 |cons a p ih=>
  show sa (sm (gm c a) s) (sh1 (act (smL c p) s))=_
  rw[ih,act,QQg,QPg,QEa]
theorem QE4(p q:List UInt8)(s:Se):act (Qg6 p q) s=act p (act q s):=by
 induction p with
 |nil=>rfl
 |cons a p ih=>
  rw[Qg6,Qtc,Qfj,act,act,QM1,Qh6,ih]
theorem QA1{p q:List UInt8}(h:co p=co q):act p=act q:=funext fun s=>by
 induction p generalizing q with
 |nil=>
  induction q with
  |nil=>rfl
  |cons b q ih=>
   have hb:b=0:=(congrFun h 0).symm;have e:co []=co q:=funext fun i=>congrFun h (i+1);rw[hb,show act (0::q) s=sa (sm 0 s) (sh1 (act q s))from rfl,QM1,Qh6,←ih e];exact Qu2.symm
 |cons a p ih=>
  cases q with
  |nil=>
   have ha:a=0:=congrFun h 0;have f:co p=co []:=funext fun i=>congrFun h (i+1);rw[ha,show act (0::p) s=sa (sm 0 s) (sh1 (act p s))from rfl,QM1,Qh6,ih f];exact Qu2
  |cons b q=>
   have d:a=b:=congrFun h 0;rw[act,act,d,ih (q:=q) (funext fun i=>congrFun h (i+1))]
def Deg(n:Nat)(s:Se):Prop:=∀i,n<=i->s i=0
theorem Deg.mono{n m:Nat}{s:Se}(h:Deg n s)(a:n<=m):Deg m s:=fun i hi=>h i (by omega)
theorem Deg.sa{n:Nat}{s t:Se}(h:Deg n s)(k:Deg n t):Deg n (Gf.sa s t):=fun i hi=>by
 show s i^^^t i=0
 rw[h i hi,k i hi,xx]
theorem Deg.sm{n:Nat}{s:Se}(c:UInt8)(h:Deg n s):Deg n (Gf.sm c s):=fun i hi=>by
 show gm c (s i)=0
 rw[h i hi,Qq]
theorem Qc1(p:List UInt8):Deg p.length (co p):=fun _ hi=>Qn1 hi
theorem QI8{s:Se}(h:Deg 0 s):s=sz:=funext fun i=>h i (Nat.zero_le _)
theorem QV2{p:List UInt8}{s:Se}{n k:Nat}(h:Deg n s)(e:p.length+n<=k+1):Deg k (act p s):=by
 induction p generalizing k with
 |nil=>intro _ _;rfl
 |cons a p ih=>
  intro i hi;have f:p.length+1+n<=k+1:=by simpa using e
  have d:s i=0:=h i (by omega);cases i with
  |zero=>show gm a (s 0)^^^0=0;rw[d,Qq,xx]
  |succ i=>
   show gm a (s (i+1))^^^act p s i=0
   rw[d,Qq,zx];exact ih (k:=k-1) (by omega) i (by omega)
theorem Q1b{p:List UInt8}{s:Se}{n:Nat}(h:Deg (n+1) s):∀{l:Nat},Deg (l+1) (co p)->act p s (l+n)=gm (co p l) (s n):=by
 induction p with
 |nil=>intro l _;exact(QU _).symm
 |cons a p ih=>
  intro l d;cases l with
  |zero=>
   have e:co p=co []:=funext fun i=>d (i+1) (by omega);rw[Nat.zero_add,act,QA1 e];show gm a (s n)^^^sh1 sz n=gm a (s n)
   rw[Qu2];exact x0 _
  |succ l=>
   have f:s (l+1+n)=0:=h _ (by omega);rw[act];show gm a (s (l+1+n))^^^sh1 (act p s) (l+1+n)=gm (co p l) (s n)
   rw[f,Qq,zx,show l+1+n=(l+n)+1 by omega];exact ih fun i hi=>d (i+1) (by omega)
def ev:List UInt8->UInt8->UInt8
 | [],_=>0
 |a::p,x=>a^^^gm x (ev p x)
theorem Qo4(p q:List UInt8)(x:UInt8):ev (QK7 p q) x=ev p x^^^ev q x:=by
 induction p generalizing q with
 |nil=>rw[QK7];exact(zx _).symm
 |cons a p ih=>
  cases q with
  |nil=>rw[QK7];exact(x0 _).symm
  |cons b q=>rw[QK7,ev,ev,ev,ih,Qk8,UInt8.xor_assoc,UInt8.xor_assoc,Q2h b]
theorem QV9(c:UInt8)(p:List UInt8)(x:UInt8):ev (smL c p) x=gm c (ev p x):=by
 induction p with
 |nil=>exact(Qq c).symm
 |cons a p ih=>
  show gm c a^^^gm x (ev (smL c p) x)=_
  rw[ih,ev,Qk8,Qr0]
theorem Qo5(p q:List UInt8)(x:UInt8):ev (Qg6 p q) x=gm (ev p x) (ev q x):=by
 induction p with
 |nil=>exact(QU _).symm
 |cons a p ih=>
  rw[Qg6,Qo4,QV9,ev,ev,ih,zx,QF7,QS]
theorem QS1{p q:List UInt8}(h:co p=co q)(x:UInt8):ev p x=ev q x:=by
 induction p generalizing q with
 |nil=>
  induction q with
  |nil=>rfl
  |cons b q ih=>
   have hb:b=0:=(congrFun h 0).symm;rw[hb,show ev (0::q) x=0^^^gm x (ev q x)from rfl,←ih (funext fun i=>congrFun h (i+1)),zx];exact(Qq x).symm
 |cons a p ih=>
  cases q with
  |nil=>
   have ha:a=0:=congrFun h 0;rw[ha,show ev (0::p) x=0^^^gm x (ev p x)from rfl,ih (q:=[]) (funext fun i=>congrFun h (i+1)),zx];exact Qq x
  |cons b q=>
   have d:a=b:=congrFun h 0;rw[ev,ev,d,ih (q:=q) (funext fun i=>congrFun h (i+1))]
theorem QSi{p q r:List UInt8}(h:co r=act p (co q))(x:UInt8):ev r x=gm (ev p x) (ev q x):=by
 rw[←Qo5];exact QS1 (by rw[h,QW0]) x
def Qo(p:List UInt8):Prop:=p≠ []->co p (p.length-1)≠0
theorem Q3e:Qo []:=fun h=>(h rfl).elim
theorem Qo.le{p:List UInt8}(h:Qo p){n:Nat}(a:Deg n (co p)):p.length<=n:=by
 by_cases e:p=[]
 ·subst e;exact Nat.zero_le _
 ·refine Decidable.byContradiction fun d=> ?_
  exact h e (a _ (by omega))
theorem Qo.eq{p q:List UInt8}(a:Qo p)(d:Qo q)(h:co p=co q):p=q:=by
 have f:p.length<=q.length:=a.le (by rw[h];exact Qc1 q);have j:q.length<=p.length:=d.le (by rw[←h];exact Qc1 p);refine List.ext_getElem (by omega) fun i hi e=> ?_;have:=congrFun h i;simpa[co,List.getD_eq_getElem?_getD,hi,e]using this
theorem Qo.pos{p:List UInt8}{i:Nat}(hi:co p i≠0):i<p.length:=by
 refine Decidable.byContradiction fun a=>hi (Qn1 (by omega))
theorem Qo.mul_len{p q r:List UInt8}(e:Qo p)(f:Qo q)(i:Qo r)(h:co r=act p (co q))(a:p≠ [])(d:q≠ []):r.length+1=p.length+q.length:=by
 have lp:0<p.length:=List.length_pos_iff.2 a;have lq:0<q.length:=List.length_pos_iff.2 d;have l:r.length<=p.length+q.length-1:=i.le (by rw[h];exact QV2 (Qc1 q) (by omega))
 have j:act p (co q) ((p.length-1)+(q.length-1))=gm (co p (p.length-1)) (co q (q.length-1)):=
  Q1b (n:=q.length-1) ((Qc1 q).mono (by omega)) ((Qc1 p).mono (by omega))
 have o:(p.length-1)+(q.length-1)<r.length:=Qo.pos (by rw[h,j];exact Q3a (e a) (f d));omega
def dv(a:UInt8):List UInt8->List UInt8
 | []=>[]
 |_::p=>ev p a::dv a p
theorem QX6(a:UInt8)(p:List UInt8):co p=sa (act [a,1] (co (dv a p))) (sm (ev p a) so):=by
 have d:∀s:Se,act [a,1] s=sa (sm a s) (sh1 s):=fun s=>by
  show sa (sm a s) (sh1 (sa (sm 1 s) (sh1 sz)))=_
  rw[Qw7,Qu2,Qa3]
 induction p with
 |nil=>
  show sz=sa (act [a,1] sz) (sm 0 so)
  rw[QZ7,QM1,Qa3]
 |cons c p ih=>
  rw[d]at ih⊢;rw[QZ2,dv,QZ2,ev,QQg,Q46,QRg];have e:sh1 (co p)=sa (sh1 (sm a (co (dv a p)))) (sa (sh1 (sh1 (co (dv a p)))) (sh1 (sm (ev p a) so))):=by
   rw[←QQ0,←Q46,←Q46,←ih]
  rw[e,QEa,QEa,←QPg]
  funext i
  simp only[sa];generalize sm (gm a (ev p a)) so i=f;generalize sm a (sh1 (co (dv a p))) i=h;generalize sm (ev p a) (sh1 so) i=j;generalize sh1 (sh1 (co (dv a p))) i=l;generalize sm c so i=o;rw[show(f^^^h)^^^(j^^^l)^^^(o^^^f)=f^^^(f^^^(h^^^(j^^^l)^^^o)) by ac_rfl,Qs9]
  ac_rfl
theorem QS9(a:UInt8):∀{p:List UInt8}{n:Nat},Deg (n+1) (co p)->Deg n (co (dv a p))
 | [],_,_=>fun _ _=>rfl
 |c::p,n,h=>by
  have d:Deg n (co p):=fun i hi=>h (i+1) (by omega);cases n with
  |zero=>
   have e:co p=co []:=QI8 d;intro i _;cases i with
   |zero=>show ev p a=0;rw[QS1 e];rfl
   |succ i=>exact QS9 (n:=0) a (fun i hi=>d i (by omega)) i (by omega)
  |succ n=>
   intro i hi;cases i with
   |zero=>omega
   |succ i=>exact QS9 a d i (by omega)
theorem Qvk{a:UInt8}{p:List UInt8}(h:ev p a=0)(x:UInt8):ev p x=gm (a^^^x) (ev (dv a p) x):=by
 have d:=QX6 a p;rw[h,QM1,Qa3]at d;rw[QSi d]
 congr 1
 show a^^^gm x (1^^^gm x 0)=_
 rw[Qq,x0,Qi1]
theorem Qpi{rs:List UInt8}:∀{p:List UInt8},rs.Nodup->(∀x∈rs,ev p x=0)->Deg rs.length (co p)->co p=sz:=by
 induction rs with
 |nil=>intro p _ _ h;exact QI8 h
 |cons a rs ih=>
  intro p e f o;have ha:=f a List.mem_cons_self;have i:=QX6 a p;rw[ha,QM1,Qa3]at i;have q:co (dv a p)=sz:=by
   refine ih (List.nodup_cons.1 e).2 (fun x j=> ?_) (QS9 a o);have l:=f x (List.mem_cons_of_mem _ j);rw[Qvk ha]at l;rcases QY1.1 l with d|d
   ·rw[QU2]at d
    subst d;exact((List.nodup_cons.1 e).1 j).elim
   ·exact d
  rw[i,q,QZ7]
theorem Qqi{rs p:List UInt8}(a:rs.Nodup)(d:∀x∈rs,ev p x=0)(e:co p≠sz):rs.length<p.length:=by
 refine Decidable.byContradiction fun f=>e (Qpi a d ((Qc1 p).mono (by omega)))
def der(s:Se):Se:=fun i=>if i % 2=0 then s (i+1)else 0
theorem Qqh{a:UInt8}{p q d:List UInt8}(h:co p=act [a,1] (co q))(j:co d=der (co p)):ev d a=ev q a:=by
 let e:List UInt8:=(List.range q.length).map fun i=>der (co q) i
 have l:co e=der (co q):=funext fun i=>by
  by_cases hi:i<q.length
  ·simp[co,e,List.getD_eq_getElem?_getD,hi]
  ·have o:der (co q) i=0:=by
    unfold der
    split
    ·exact Qn1 (by omega)
    ·rfl
   rw[o];exact Qn1 (by simp[e];omega)
 have f:∀s:Se,act [a,1] s=sa (sm a s) (sh1 s):=fun s=>by
  show sa (sm a s) (sh1 (sa (sm 1 s) (sh1 sz)))=_
  rw[Qw7,Qu2,Qa3]
 have r:co d=co (QK7 (Qg6 [a,1] e) q):=by
  rw[j,h,Q82,QW0,l,f,f]
  funext i
  unfold der sa sm
  by_cases hi:i % 2=0
  ·rw[if_pos hi]
   cases i with
   |zero=>show gm a (co q 1)^^^co q 0=gm a (co q (0+1))^^^0^^^co q 0;rw[x0]
   |succ i=>
    show gm a (co q (i+1+1))^^^co q (i+1)=gm a (if(i+1) % 2=0 then co q (i+1+1)else 0)^^^(if i % 2=0 then co q (i+1)else 0)^^^co q (i+1)
    rw[if_pos hi,if_neg (by omega),x0]
  ·rw[if_neg hi]
   cases i with
   |zero=>omega
   |succ i=>
    show 0=gm a (if(i+1) % 2=0 then co q (i+1+1)else 0)^^^(if i % 2=0 then co q (i+1)else 0)^^^co q (i+1)
    rw[if_neg hi,if_pos (by omega),Qq,zx,xx]
 rw[QS1 r,Qo4,Qo5];have:ev [a,1] a=0:=by
  show a^^^gm a (1^^^gm a 0)=0
  rw[Qq,x0,Qi1,xx]
 rw[this,QU,zx]
def pt(i:Nat):UInt8:=UInt8.ofNat i
theorem QY5{i j:Nat}(hi:i<256)(a:j<256)(h:pt i=pt j):i=j:=by
 have:=congrArg UInt8.toNat h;simp only[pt,UInt8.toNat_ofNat']at this;omega
theorem QSk(i j:Nat):pt (i^^^j)=pt i^^^pt j:=by
 rw[←UInt8.toNat_inj,UInt8.toNat_xor];simp only[pt,UInt8.toNat_ofNat'];exact Nat.xor_mod_two_pow
def pw(x:UInt8):Nat->UInt8
 |0=>1
 |n+1=>gm (pw x n) x
theorem QSb(x:UInt8)(n:Nat):pw x (n+1)=gm x (pw x n):=Q90 _ _
theorem Qfd(f:Nat->UInt8):∀n:Nat,xs (n+1) f=f 0^^^xs n (fun i=>f (i+1))
 |0=>by rw[xs,xs,xs,x0,zx]
 |n+1=>by rw[xs,Qfd f n,xs,UInt8.xor_assoc]
theorem Qxk{p:List UInt8}(x:UInt8):∀{n:Nat},Deg n (co p)->ev p x=xs n (fun l=>gm (co p l) (pw x l)):=by
 induction p with
 |nil=>intro n _;exact(Qz2 fun _ _=>QU _).symm
 |cons a p ih=>
  intro n h;cases n with
  |zero=>
   have e:co (a::p)=co []:=QI8 h;rw[QS1 e];rfl
  |succ n=>
   rw[Qfd,ev,ih (n:=n) fun i hi=>h (i+1) (by omega),←Qi6];have d:gm (co (a::p) 0) (pw x 0)=a:=Qi1 a;rw[d]
   congr 1
   refine Qv fun i _=> ?_;rw[QSb,Qr0];rfl
def loc:List UInt8->List UInt8
 | []=>[1]
 |a::l=>Qg6 [a,1] (loc l)
def pr(l:List UInt8)(x:UInt8):UInt8:=ev (loc l) x
theorem Qla(x:UInt8):pr [] x=1:=by
 show 1^^^gm x 0=1
 rw[Qq,x0]
theorem Qwk(a x:UInt8):ev [a,1] x=a^^^x:=by
 show a^^^gm x (1^^^gm x 0)=_
 rw[Qq,x0,Qi1]
theorem Qm7(a:UInt8)(l:List UInt8)(x:UInt8):pr (a::l) x=gm (a^^^x) (pr l x):=by
 show ev (Qg6 [a,1] (loc l)) x=_
 rw[Qo5,Qwk];rfl
theorem Qog(l d:List UInt8)(x:UInt8):pr (l++d) x=gm (pr l x) (pr d x):=by
 induction l with
 |nil=>rw[List.nil_append,Qla,QW5]
 |cons a l ih=>rw[List.cons_append,Qm7,Qm7,ih,QS]
theorem Q73{l:List UInt8}{x:UInt8}:pr l x=0↔x∈l:=by
 induction l with
 |nil=>rw[Qla];simp
 |cons a l ih=>rw[Qm7,QY1,QU2,ih,List.mem_cons,eq_comm]
theorem QOe(a:UInt8)(s:Se):act [a,1] s=sa (sm a s) (sh1 s):=by
 show sa (sm a s) (sh1 (sa (sm 1 s) (sh1 sz)))=_
 rw[Qw7,Qu2,Qa3]
theorem Q53(l:List UInt8):Deg (l.length+1) (co (loc l)):=by
 induction l with
 |nil=>exact Qc1 [1]
 |cons a l ih=>rw[loc,QW0];exact QV2 ih (by simp;omega)
theorem Qu5(l:List UInt8):co (loc l) l.length=1:=by
 induction l with
 |nil=>rfl
 |cons a l ih=>
  rw[loc,QW0,QOe];show gm a (co (loc l) (l.length+1))^^^co (loc l) l.length=1
  rw[Q53 l _ (Nat.le_refl _),Qq,zx,ih]
def xl(l:List UInt8)(f:UInt8->UInt8):UInt8:=l.foldr (fun a r=>f a^^^r) 0
theorem Qr9(a:UInt8)(l:List UInt8)(f:UInt8->UInt8):xl (a::l) f=f a^^^xl l f:=rfl
def but(N:List UInt8)(p:UInt8):List UInt8:=N.filter fun q=>decide (q≠p)
theorem QHb{N:List UInt8}{p q:UInt8}:q∈but N p↔q∈N/\q≠p:=by simp[but]
theorem QF8{N:List UInt8}{p:UInt8}(h:p∉N):but N p=N:=by
 refine List.filter_eq_self.2 fun q a=> ?_;simp only[decide_eq_true_eq];rintro rfl;exact h a
theorem Qlj{N:List UInt8}{p:UInt8}(d:N.Nodup)(f:p∈N):(but N p).length+1=N.length:=by
 induction N with
 |nil=>cases f
 |cons a N ih=>
  rw[List.nodup_cons]at d
  by_cases e:a=p
  ·subst e
   have:but (a::N) a=N:=by
    unfold but;rw[List.filter_cons_of_neg (by simp)];exact QF8 d.1
   rw[this];rfl
  ·have:but (a::N) p=a::but N p:=by
    unfold but;rw[List.filter_cons_of_pos (by simpa using e)]
   rw[this];simp only[List.length_cons];rw[ih d.2 ((List.mem_cons.1 f).resolve_left (Ne.symm e))]
def Qbh(N:List UInt8)(f:UInt8->UInt8):List UInt8->List UInt8
 | []=>[]
 |p::l=>QK7 (smL (gm (f p) (gi (pr (but N p) p))) (loc (but N p))) (Qbh N f l)
theorem QXi{N:List UInt8}{f:UInt8->UInt8}{q:UInt8}(o:q∈N):∀{l:List UInt8},l.Nodup->ev (Qbh N f l) q=if q∈l then f q else 0
 | [],_=>rfl
 |p::l,d=>by
  rw[List.nodup_cons]at d;rw[Qbh,Qo4,QV9,QXi o d.2]
  by_cases e:p=q
  ·subst e
   have i:pr (but N p) p≠0:=fun h=>(QHb.1 (Q73.1 h)).2 rfl;have a:gm (gm (f p) (gi (pr (but N p) p))) (ev (loc (but N p)) p)=f p:=by
    show gm (gm (f p) (gi (pr (but N p) p))) (pr (but N p) p)=f p
    rw[QS,QPf i,Qi1]
   rw[a,if_neg d.1,if_pos List.mem_cons_self,x0]
  ·have i:ev (loc (but N p)) q=0:=Q73.2 (QHb.2 ⟨o,Ne.symm e⟩)
   rw[i,Qq,zx];simp only[List.mem_cons]
   by_cases a:q∈l
   ·rw[if_pos a,if_pos (.inr a)]
   ·rw[if_neg a,if_neg (fun j=>j.elim (fun j=>e j.symm) a)]
theorem Q1g{N:List UInt8}{f:UInt8->UInt8}(a:N.Nodup){m:Nat}(h:N.length=m+1):∀{l:List UInt8},(∀p∈l,p∈N)→
  Deg (m+1) (co (Qbh N f l))/\co (Qbh N f l) m=xl l (fun p=>gm (f p) (gi (pr (but N p) p)))
 | [],_=>⟨fun _ _=>rfl,rfl⟩
 |p::l,d=>by
  obtain⟨i,j⟩:=Q1g (f:=f) a h (l:=l) fun q o=>d q (List.mem_cons_of_mem _ o);have hb:(but N p).length=m:=by have:=Qlj a (d p List.mem_cons_self);omega
  have e:=Q53 (but N p);have ht:=Qu5 (but N p);rw[hb]at e ht;rw[Qbh,Q82,Q68];refine⟨(e.sm _).sa i,?_⟩;show gm _ (co (loc (but N p)) m)^^^co (Qbh N f l) m=_
  rw[ht,Qi1,j];rfl
theorem QTh{N f:List UInt8}(a:N.Nodup){m:Nat}(d:N.length=m+1)(e:Deg m (co f)):xl N (fun p=>gm (ev f p) (gi (pr (but N p) p)))=0:=by
 obtain⟨o,q⟩:=Q1g (f:=ev f) a d (l:=N) fun _ h=>h;have r:co (QK7 (Qbh N (ev f) N) f)=sz:=by
  refine Qpi (rs:=N) a (fun x i=> ?_) ?_
  ·rw[Qo4,QXi i a,if_pos i,xx]
  ·rw[Q82,d];exact o.sa (e.mono (by omega))
 have j:co (QK7 (Qbh N (ev f) N) f) m=0:=by rw[r];rfl
 rw[Q82]at j;rw[←q];have s:co f m=0:=e m (Nat.le_refl _);have t:co (Qbh N (ev f) N) m^^^co f m=0:=j
 rwa [s,x0]at t
def wp(k:Nat):Nat->Nat->UInt8
 |0,_=>1
 |n+1,i=>if k+n=i then wp k n i else gm (wp k n i) (pt (k+n)^^^pt i)
def wgt(k m i:Nat):UInt8:=gi (wp k m i)
def Q99(k m:Nat):List UInt8:=(List.range m).map fun j=>pt (k+j)
theorem Qk7(k m:Nat):Q99 k (m+1)=Q99 k m++ [pt (k+m)]:=by simp[Q99,List.range_succ]
theorem Qbi(k m:Nat):(Q99 k m).length=m:=by simp[Q99]
theorem QXc{k m:Nat}{x:UInt8}:x∈Q99 k m↔∃j,j<m/\pt (k+j)=x:=by simp[Q99]
theorem Qs8{k:Nat}:∀{m:Nat},k+m<=256->(Q99 k m).Nodup
 |0,_=>by simp[Q99]
 |m+1,h=>by
  rw[Qk7,List.nodup_append];refine⟨Qs8 (by omega),by simp,fun a ha b hb=> ?_⟩;obtain⟨j,d,rfl⟩:=QXc.1 ha;rw[List.mem_singleton]at hb;subst hb;intro e;have:=QY5 (by omega) (by omega) e;omega
theorem QBi{k i:Nat}(hi:i<256):∀{n:Nat},k+n<=256->wp k n i=pr (but (Q99 k n) (pt i)) (pt i)
 |0,_=>(Qla _).symm
 |n+1,h=>by
  rw[wp,QBi hi (n:=n) (by omega),Qk7];unfold but;rw[List.filter_append,Qog]
  by_cases e:k+n=i
  ·rw[if_pos e,List.filter_cons_of_neg (by simp[e]),List.filter_nil,Qla,Qi1]
  ·have:pt (k+n)≠pt i:=fun h=>e (QY5 (by omega) hi h)
   rw[if_neg e,List.filter_cons_of_pos (by simpa using this),List.filter_nil,Qm7,Qla,Qi1]
theorem QYl{k m i:Nat}(hi:i<256)(h:k+m<=256):wp k m i≠0:=by
 rw[QBi hi h];exact fun e=>(QHb.1 (Q73.1 e)).2 rfl
theorem QYg{k m i:Nat}(hi:i<256)(h:k+m<=256):wgt k m i≠0:=QAj (QYl hi h)
def syn(k m:Nat)(c:List UInt8)(l:Nat):UInt8:=xs (k+m) fun i=>gm (gm (co c i) (wgt k m i)) (pw (pt i) l)
def Code(k m:Nat)(c:List UInt8):Prop:=c.length=k+m/\∀l,l<m->syn k m c l=0
theorem Q3h{n m:Nat}(v:Nat->UInt8)(f:List UInt8)(a:Deg m (co f))(q:Nat->UInt8):
  xs n (fun i=>gm (v i) (ev f (q i)))=xs m (fun l=>gm (co f l) (xs n fun i=>gm (v i) (pw (q i) l))):=by
 have d:xs n (fun i=>gm (v i) (ev f (q i)))=xs n (fun i=>xs m fun l=>gm (co f l) (gm (v i) (pw (q i) l))):=by
  refine Qv fun i _=> ?_;rw[Qxk (q i) a,←Qi6];exact Qv fun l _=>Qr0 _ _ _
 rw[d,QG7];exact Qv fun l _=>Qi6 _ _ _
theorem Code.mom{k m:Nat}{c f:List UInt8}(h:Code k m c)(a:Deg m (co f)):xs (k+m) (fun i=>gm (gm (co c i) (wgt k m i)) (ev f (pt i)))=0:=by
 rw[Q3h (fun i=>gm (co c i) (wgt k m i)) f a pt];refine Qz2 fun l d=> ?_;have e:xs (k+m) (fun i=>gm (gm (co c i) (wgt k m i)) (pw (pt i) l))=0:=h.2 l d;rw[e,Qq]
theorem Code.few{k m:Nat}{c:List UInt8}(h:Code k m c)(o:k+m<=256){D:List Nat}(y:D.length<=m)(r:∀i,i<k+m->co c i≠0->i∈D):∀i,i<k+m->co c i=0:=by
 intro j s;refine Decidable.byContradiction fun l=> ?_;have p:=r j s l
 let R:=(D.filter fun i=>decide (pt i≠pt j)).map pt
 have v:R.length+1<=m:=by
  have:(D.filter fun i=>decide (pt i≠pt j)).length<D.length:=List.length_filter_lt_length_iff_exists.2 ⟨j,p,by simp⟩;simp only[R,List.length_map];omega
 have t:=h.mom (f:=loc R) ((Q53 R).mono v);rw[Q66 s fun i hi a=> ?_]at t
 ·rcases QY1.1 t with d|d
  ·rcases QY1.1 d with q|q
   ·exact l q
   ·exact QYg (by omega) o q
  ·have:pt j∈R:=Q73.1 d
   simp only[R,List.mem_map,List.mem_filter,decide_eq_true_eq]at this;obtain⟨i,⟨_,a⟩,x⟩:=this;exact a x
 ·have:ev (loc R) (pt i)=0\/co c i=0:=by
   by_cases u:co c i=0
   ·exact .inr u
   ·refine .inl (Q73.2 ?_)
    refine List.mem_map.2 ⟨i,List.mem_filter.2 ⟨r i hi u,?_⟩,rfl⟩;simp only[decide_eq_true_eq];exact fun e=>a (QY5 (by omega) (by omega) e)
  rcases this with d|d
  ·rw[d,Qq]
  ·rw[d,QU,QU]
def par(k i:Nat)(d:List UInt8):UInt8:=xs k fun j=>gm (gi (pt (k+i)^^^pt j)) (co d j)
def enc(k m:Nat)(d:List UInt8):List UInt8:=d++(List.range m).map fun i=>par k i d
theorem Qsb{k m:Nat}{d:List UInt8}(a:d.length=k):(enc k m d).length=k+m:=by simp[enc,a]
theorem Q23{k m:Nat}{d:List UInt8}(a:d.length=k){i:Nat}(hi:i<k):co (enc k m d) i=co d i:=by
 simp only[co,enc,List.getD_eq_getElem?_getD];rw[List.getElem?_append_left (by omega)]
theorem QL8{k m:Nat}{d:List UInt8}(a:d.length=k){i:Nat}(hi:i<m):co (enc k m d) (k+i)=par k i d:=by
 simp only[co,enc,List.getD_eq_getElem?_getD];rw[List.getElem?_append_right (by omega),a];simp[hi]
theorem Qkl{k m j l:Nat}(o:k+m<=256)(G:j<k)(C:l<m):
  gm (wgt k m j) (pw (pt j) l)^^^xs m (fun i=>gm (gm (gi (pt (k+i)^^^pt j)) (wgt k m (k+i))) (pw (pt (k+i)) l))=0:=by
 let f:List UInt8:=List.replicate l 0++ [1]
 have q:∀i,co f i=if i=l then 1 else 0:=fun i=>by
  simp only[co,f,List.getD_eq_getElem?_getD]
  by_cases r:i<l
  ·rw[List.getElem?_append_left (by simpa using r),List.getElem?_replicate,if_pos r,if_neg (by omega)];rfl
  ·rw[List.getElem?_append_right (by simp;omega),List.length_replicate]
   by_cases y:i=l
   ·subst y;rw[if_pos rfl,Nat.sub_self];rfl
   ·rw[if_neg y,List.getElem?_eq_none (by simp;omega)];rfl
 have B:Deg m (co f):=fun i hi=>by rw[q,if_neg (by omega)]
 have s:∀x,ev f x=pw x l:=fun x=>by
  rw[Qxk x B,Q66 C fun i _ hi=>by rw[q,if_neg hi,QU]];rw[q,if_pos rfl,QW5]
 have d:pt j∉Q99 k m:=fun h=>by
  obtain⟨i,hi,e⟩:=QXc.1 h;have:=QY5 (by omega) (by omega) e;omega
 have D:(pt j::Q99 k m).Nodup:=List.nodup_cons.2 ⟨d,Qs8 o⟩;have r:=QTh (f:=f) D (m:=m) (by rw[List.length_cons,Qbi]) B;rw[Qr9]at r;have b0:but (pt j::Q99 k m) (pt j)=Q99 k m:=by
  unfold but;rw[List.filter_cons_of_neg (by simp)];exact QF8 d
 have E:gm (ev f (pt j)) (gi (pr (but (pt j::Q99 k m) (pt j)) (pt j)))=gm (wgt k m j) (pw (pt j) l):=by
  rw[s,b0,Q90];unfold wgt;rw[QBi (by omega) o,QF8 d]
 rw[E]at r;rw[←r]
 congr 1
 have gen:∀n,n<=m->xl (Q99 k n) (fun p=>gm (ev f p) (gi (pr (but (pt j::Q99 k m) p) p)))=
   xs n (fun i=>gm (gm (gi (pt (k+i)^^^pt j)) (wgt k m (k+i))) (pw (pt (k+i)) l)):=by
  intro n
  induction n with
  |zero=>intro _;rfl
  |succ n ih=>
   intro H;have app:∀(u v:List UInt8)(g:UInt8->UInt8),xl (u++v) g=xl u g^^^xl v g:=fun u v g=>by
    induction u with
    |nil=>exact(zx _).symm
    |cons a u ihu=>rw[List.cons_append,Qr9,Qr9,ihu,UInt8.xor_assoc]
   rw[Qk7,app,ih (by omega),xs]
   congr 1
   rw[Qr9];show _^^^0=_
   have t:pt j≠pt (k+n):=fun e=>by have:=QY5 (by omega) (by omega) e;omega
   have F:but (pt j::Q99 k m) (pt (k+n))=pt j::but (Q99 k m) (pt (k+n)):=by
    unfold but;rw[List.filter_cons_of_pos (by simpa using t)]
   rw[x0,s,F,Qm7,QCk];unfold wgt;rw[QBi (by omega) o,UInt8.xor_comm (pt j),Q90]
 exact(gen m (Nat.le_refl _)).symm
theorem Qo6{k m:Nat}(a:k+m<=256){d:List UInt8}(e:d.length=k):Code k m (enc k m d):=by
 refine⟨Qsb e,fun l f=> ?_⟩;unfold syn;rw[Qbj]
 have h:xs k (fun i=>gm (gm (co (enc k m d) i) (wgt k m i)) (pw (pt i) l))=xs k (fun j=>gm (co d j) (gm (wgt k m j) (pw (pt j) l))):=
  Qv fun i hi=>by rw[Q23 e hi,QS]
 have o:xs m (fun i=>gm (gm (co (enc k m d) (k+i)) (wgt k m (k+i))) (pw (pt (k+i)) l))=
   xs k (fun j=>gm (co d j) (xs m (fun i=>gm (gm (gi (pt (k+i)^^^pt j)) (wgt k m (k+i))) (pw (pt (k+i)) l)))):=by
  have p:xs m (fun i=>gm (gm (co (enc k m d) (k+i)) (wgt k m (k+i))) (pw (pt (k+i)) l))=
    xs m (fun i=>xs k fun j=>gm (co d j) (gm (gm (gi (pt (k+i)^^^pt j)) (wgt k m (k+i))) (pw (pt (k+i)) l))):=by
   refine Qv fun i hi=> ?_;rw[QL8 e hi,QS,Q90];unfold par;rw[←Qi6];refine Qv fun j _=> ?_;rw[Q90 _ (co d j),Qr0,Q90 _ (gi _),←QS (gi _)]
  rw[p,QG7];exact Qv fun j _=>Qi6 _ _ _
 rw[h,o,←Q76];refine Qz2 fun j q=> ?_;rw[←Qk8,Qkl a q f,Qq]
def Q3k(a b:List UInt8):List UInt8:=List.zipWith (· ^^^ ·) a b
theorem Qih{a b:List UInt8}(h:a.length=b.length):(Q3k a b).length=a.length:=by simp[Q3k,h]
theorem Qfb{a b:List UInt8}(h:a.length=b.length)(i:Nat):co (Q3k a b) i=co a i^^^co b i:=by
 simp only[co,Q3k,List.getD_eq_getElem?_getD,List.getElem?_zipWith]
 by_cases hi:i<a.length
 ·have d:i<b.length:=by omega
  simp[hi,d]
 ·have d:¬i<b.length:=by omega
  simp[hi,d]
theorem Code.add{k m:Nat}{a b:List UInt8}(h:Code k m a)(d:Code k m b):Code k m (Q3k a b):=by
 have e:a.length=b.length:=by rw[h.1,d.1]
 refine⟨by rw[Qih e,h.1],fun l f=> ?_⟩;have:syn k m (Q3k a b) l=syn k m a l^^^syn k m b l:=by
  unfold syn;rw[←Q76];refine Qv fun i _=> ?_;rw[Qfb e,QF7,QF7]
 rw[this,h.2 l f,d.2 l f,xx]
theorem Q92{a b:List UInt8}(d:a.length=b.length)(h:∀i,i<a.length->co a i=co b i):a=b:=by
 refine List.ext_getElem d fun i hi e=> ?_;have:=h i hi;simpa[co,List.getD_eq_getElem?_getD,hi,e]using this
theorem Code.one{k m:Nat}{a b:List UInt8}(h:Code k m a)(j:Code k m b)(d:k+m<=256){D:List Nat}(l:D.length<=m)(o:∀i,i<k+m->co a i≠co b i->i∈D):a=b:=by
 have f:a.length=b.length:=by rw[h.1,j.1]
 have p:=(h.add j).few d l fun i hi q=>o i hi fun e=>q (by rw[Qfb f,e,xx]);refine Q92 f fun i hi=> ?_;have:=p i (by rw[←h.1];exact hi);rw[Qfb f,QU2]at this;exact this
theorem Code.enc{k m:Nat}{c:List UInt8}(h:Code k m c)(a:k+m<=256):c=Gf.enc k m (c.take k):=by
 have d:(c.take k).length=k:=by rw[List.length_take,h.1];omega
 refine h.one (Qo6 a d) a (D:=(List.range m).map (k+ ·)) (by simp) fun i hi f=> ?_
 by_cases e:i<k
 ·refine(f ?_).elim
  rw[Q23 d e];simp[co,List.getD_eq_getElem?_getD,e]
 ·exact List.mem_map.2 ⟨i-k,List.mem_range.2 (by omega),by show k+(i-k)=i;omega⟩
def dif(n:Nat)(ms:List Bool)(a b:List UInt8):List Nat:=(List.range n).filter fun i=> !ms.getD i false&&decide (co a i≠co b i)
def mis(n:Nat)(ms:List Bool):List Nat:=(List.range n).filter fun i=>ms.getD i false
structure QWa(k m:Nat)(bs:List UInt8)(ms:List Bool)(c:List UInt8):Prop where
 code:Code k m c
 few:2*(dif (k+m) ms c bs).length+(mis (k+m) ms).length<=m
theorem Q1i{k m:Nat}(d:k+m<=256){bs:List UInt8}{ms:List Bool}{c f:List UInt8}(h:QWa k m bs ms c)(j:QWa k m bs ms f):c=f:=by
 have q:=h.few;have r:=j.few;refine h.code.one j.code d (D:=dif (k+m) ms c bs++(dif (k+m) ms f bs++mis (k+m) ms)) (by simp only[List.length_append];omega) fun i hi p=> ?_;simp only[List.mem_append,dif,mis,List.mem_filter,List.mem_range,Bool.and_eq_true,decide_eq_true_eq,Bool.not_eq_true']
 by_cases l:ms.getD i false=true
 ·exact .inr (.inr ⟨hi,l⟩)
 ·have a:ms.getD i false=false:=by simpa using l
  by_cases o:co c i=co bs i
  ·exact .inr (.inl ⟨hi,a,fun e=>p (o.trans e.symm)⟩)
  ·exact .inl ⟨hi,a,o⟩
open Classical in
noncomputable def Ql5(k m:Nat)(bs:List UInt8)(ms:List Bool):Option (List UInt8):=if h:∃c,QWa k m bs ms c then some h.choose else none
theorem QU6{k m:Nat}(a:k+m<=256){bs:List UInt8}{ms:List Bool}{c:List UInt8}(h:QWa k m bs ms c):Ql5 k m bs ms=some c:=by
 unfold Ql5;have d:∃c,QWa k m bs ms c:=⟨c,h⟩;rw[dif_pos d,Q1i a d.choose_spec h]
theorem Qpf{k m:Nat}{bs:List UInt8}{ms:List Bool}{c:List UInt8}(h:Ql5 k m bs ms=some c):QWa k m bs ms c:=by
 unfold Ql5 at h
 by_cases a:∃c,QWa k m bs ms c
 ·rw[dif_pos a]at h
  cases h;exact a.choose_spec
 ·rw[dif_neg a]at h;cases h
theorem QT6{k m:Nat}{bs:List UInt8}{ms:List Bool}(h:∀c,¬QWa k m bs ms c):Ql5 k m bs ms=none:=by
 unfold Ql5;rw[dif_neg fun⟨c,a⟩=>h c a]
theorem Qjc{x q h r:List UInt8}(f:Qo x)(i:Qo q)(j:Qo h)(a:q≠ [])(d:h≠ [])(e:co x=sa (act q (co h)) (co r))(o:r.length+1<q.length+h.length):
  x.length+1=q.length+h.length:=by
 have lq:0<q.length:=List.length_pos_iff.2 a;have lh:0<h.length:=List.length_pos_iff.2 d;have s:x.length<=q.length+h.length-1:=f.le (by rw[e];exact(QV2 (Qc1 h) (by omega)).sa ((Qc1 r).mono (by omega)))
 have l:act q (co h) ((q.length-1)+(h.length-1))=gm (co q (q.length-1)) (co h (h.length-1)):=
  Q1b ((Qc1 h).mono (by omega)) ((Qc1 q).mono (by omega))
 have t:(q.length-1)+(h.length-1)<x.length:=Qo.pos (by
  rw[e];show act q (co h) _^^^co r _≠0
  rw[l,Qn1 (p:=r) (by omega),x0]
  exact Q3a (i a) (j d))
 omega
structure Qz0(m:Nat)(H:Se)(low high a b:List UInt8):Prop where
 nlow:Qo low
 nhigh:Qo high
 nb:Qo b
 b0:b≠ []
 lt:high.length<low.length
 ab:a.length<b.length
 deg:b.length+low.length=m+2
 ib:∃A:List UInt8,act b H=sa (co high) (sh m (co A))
 ia:∃A:List UInt8,act a H=sa (co low) (sh m (co A))
theorem Qbf(m:Nat):co (List.replicate m 0++ [1])=sh m so:=funext fun i=>by
 simp only[co,List.getD_eq_getElem?_getD,sh]
 by_cases a:i<m
 ·rw[List.getElem?_append_left (by simpa using a),List.getElem?_replicate,if_pos a,if_pos a];rfl
 ·rw[List.getElem?_append_right (by simp;omega),List.length_replicate,if_neg a]
  cases d:i-m with
  |zero=>rfl
  |succ n=>rfl
theorem QLb(m:Nat):Qo (List.replicate m 0++ [1]):=fun _=>by
 rw[Qbf];simp only[List.length_append,List.length_replicate,List.length_cons,List.length_nil,sh];rw[if_neg (by omega),show m+(0+1)-1-m=0 by omega]
 decide
theorem Qz0.init{m:Nat}{H:Se}{a:List UInt8}(f:Deg m H)(d:Qo a)(e:co a=H):Qz0 m H (List.replicate m 0++ [1]) a [] [1]:=by
 have h:a.length<=m:=d.le (by rw[e];exact f);refine⟨QLb m,d,fun _=>by decide,by simp,by simp;omega,by simp,by simp;omega,⟨[],?_⟩,⟨[1],?_⟩⟩
 ·show sa (sm 1 H) (sh1 sz)=sa (co a) (sh m sz)
  have:sh m sz=sz:=funext fun i=>by unfold sh sz;split<;>rfl
  rw[Qw7,Qu2,this,e]
 ·show sz=_
  have:co [1]=so:=by rw[QZ2,Qzc,Qu2,Qa3,Qw7]
  rw[Qbf,this,Qbc]
theorem Qz0.step{m:Nat}{H:Se}{low d a b q r f:List UInt8}(h:Qz0 m H low d a b)(v:d≠ [])(p:Qo q)(s:Qo r)(e:co low=sa (act q (co d)) (co r))
  (x:r.length<d.length) (hb:Qo f) (eb:co f=sa (co a) (act q (co b))):Qz0 m H d r b f/\f.length+d.length=m+2:=by
 have i:=h.lt;have y:=h.ab;have t:=h.deg;have j:q≠ []:=by
  rintro rfl;have C:co low=co r:=by rw[e];exact Qh6 _
  have:=h.nlow.eq s C;rw[this]at i;omega
 have lq:0<q.length:=List.length_pos_iff.2 j;have G:=Qjc h.nlow p h.nhigh j v e (by omega);have D:=Qjc hb p h.nb j h.b0 (r:=a) (by rw[eb,QKg]) (by omega);have l:f≠ []:=by rintro rfl;simp at D;omega
 obtain⟨A,u⟩:=h.ib;obtain⟨B,E⟩:=h.ia;refine⟨⟨h.nhigh,s,hb,l,x,by omega,by omega,⟨QK7 B (Qg6 q A),?_⟩,⟨A,u⟩⟩,by omega⟩;have F:act f H=sa (act a H) (act q (act b H)):=by
  rw[←QE4,←Qtc];exact congrFun (QA1 (by rw[eb,Q82,QW0])) H
 rw[F,u,E,e,Q82,QW0,QJ5,QY7,Q0l];generalize act q (co d)=o;generalize co r=I;generalize sh m (co B)=J;generalize sh m (act q (co A))=K;rw[QQ0,QQ0,QF5 o,QF5 o,QF5 o,Q36]
structure Good(m e t:Nat)(H:Se)(L pts:List UInt8):Prop where
 nodup:pts.Nodup
 len:pts.length=t
 root:∀x∈pts,ev L x=0
 deg:Deg (t+1) (co L)
 top:co L t≠0
 few:2*t+e<=m
 key:∃R O:List UInt8,Deg (t+e) (co R)/\act L H=sa (co R) (sh m (co O))/\∀x∈pts,ev O x≠0
theorem QXh{m:Nat}{u v s t:Se}(a:Deg m u)(d:Deg m v)(h:sa u (sh m s)=sa v (sh m t)):u=v/\s=t:=by
 constructor
 ·funext i
  by_cases hi:i<m
  ·have:=congrFun h i
   simp only[sa,sh,if_pos hi,x0]at this;exact this
  ·rw[a i (by omega),d i (by omega)]
 ·funext i
  have:=congrFun h (m+i);simp only[sa,sh]at this;rw[if_neg (by omega),if_neg (by omega),a _ (by omega),d _ (by omega),zx,zx,show m+i-m=i by omega]at this;exact this
theorem Q4a{m e t:Nat}{H:Se}{L pts low d a b:List UInt8}(g:Good m e t H L pts)(h:Qz0 m H low d a b)(hb:b.length<=t+1)(M:d.length+t<=m):
  b.length=t+1/\(∀x∈pts,ev b x=0)/\d.length<=t+e:=by
 obtain⟨R,O,o,B,C⟩:=g.key;obtain⟨A,D⟩:=h.ib;have N:=g.few;have q:act L (act b H)=act b (act L H):=Qk6 _ _ _;rw[D,B,QJ5,QJ5,QY7,QY7]at q;have hL:L.length=L.length:=rfl;have dL:∀{s:Se}{n k:Nat},Deg n s->t+1+n<=k+1->Deg k (act L s):=fun{s n k} hs E=>by
  have F:co L=co (L.take (t+1)):=funext fun i=>by
   simp only[co,List.getD_eq_getElem?_getD,List.getElem?_take]
   by_cases hi:i<t+1
   ·rw[if_pos hi]
   ·rw[if_neg hi]
    have:=g.deg i (by omega);simpa[co,List.getD_eq_getElem?_getD]using this
  rw[QA1 F];exact QV2 hs (by rw[List.length_take];omega)
 obtain⟨G,I⟩:=QXh (dL (Qc1 d) (k:=m) (by omega)) (QV2 (p:=b) o (k:=m) (by omega)) q;have r:∀x∈pts,ev b x=0:=fun x u=>by
  have v:ev (Qg6 L A) x=ev (Qg6 b O) x:=QS1 (by rw[QW0,QW0,I]) x;rw[Qo5,Qo5,g.root x u,QU]at v;rcases QY1.1 v.symm with f|f
  ·exact f
  ·exact(C x u f).elim
 have j:co b≠sz:=fun e=>h.nb h.b0 (by rw[e];rfl);have J:=Qqi g.nodup r j;rw[g.len]at J;refine⟨by omega,r,?_⟩
 by_cases l:d=[]
 ·rw[l];exact Nat.zero_le _
 ·have lh:0<d.length:=List.length_pos_iff.2 l
  have K:act L (co d) (t+(d.length-1))=gm (co L t) (co d (d.length-1)):=Q1b ((Qc1 d).mono (by omega)) g.deg;have y:act L (co d) (t+(d.length-1))≠0:=by rw[K];exact Q3a g.top (h.nhigh l)
  rw[G]at y;refine Decidable.byContradiction fun Q=>y ?_;exact QV2 (p:=b) o (k:=2*t+e) (by omega) _ (by omega)
theorem QUf{m e t:Nat}{H:Se}{L pts low d a b:List UInt8}(g:Good m e t H L pts)(h:Qz0 m H low d a b)(hb:b.length<=t+1)(j:d.length<=e+(b.length-1)):
  b.length=t+1/\∀x∈pts,ev b x=0:=by
 have l:=g.few;obtain⟨f,i,_⟩:=Q4a g h hb (by omega);exact⟨f,i⟩
theorem QTf{m e t:Nat}{H:Se}{L pts low d a b:List UInt8}(g:Good m e t H L pts)(h:Qz0 m H low d a b)(hb:b.length<=t+1)(j:¬d.length<=e+(b.length-1))
  {f:List UInt8} (i:f.length+d.length=m+2):f.length<=t+1:=by
 refine Decidable.byContradiction fun l=> ?_;obtain⟨o,_,p⟩:=Q4a g h hb (by omega);omega
structure Found(m e:Nat)(P:Se)(b o:List UInt8):Prop where
 nb:Qo b
 b0:b≠ []
 lead:co b (b.length-1)=1
 few:2*(b.length-1)+e<=m
 out:∀i,co o i=act b P (m+i)
 good:∀t L pts,Good m e t (fun i=>if i<m then P i else 0) L pts->b.length=t+1/\∀x∈pts,ev b x=0
def geo(a:UInt8)(m:Nat):List UInt8:=(List.range m).map fun i=>pw a (m-1-i)
theorem QN9(a:UInt8)(m i:Nat):co (geo a m) i=if i<m then pw a (m-1-i)else 0:=by
 simp only[co,geo,List.getD_eq_getElem?_getD,List.getElem?_map]
 by_cases h:i<m
 ·simp[h]
 ·simp[h]
theorem Qej(a:UInt8)(m:Nat):act [a,1] (co (geo a m))=sa (sm (pw a m) so) (sh m so):=by
 rw[QOe]
 funext i
 cases i with
 |zero=>
  show gm a (co (geo a m) 0)^^^0=gm (pw a m) 1^^^sh m so 0
  rw[QN9,x0,Qi1];cases m with
  |zero=>show gm a 0=1^^^1;rw[Qq,xx]
  |succ m=>
   rw[if_pos (by omega)];show gm a (pw a (m+1-1-0))=pw a (m+1)^^^0
   rw[x0,QSb];rfl
 |succ i=>
  show gm a (co (geo a m) (i+1))^^^co (geo a m) i=gm (pw a m) 0^^^sh m so (i+1)
  rw[Qq,zx,QN9,QN9];unfold sh
  by_cases d:i+1<m
  ·rw[if_pos d,if_pos (by omega),if_pos d,←QSb,show m-1-(i+1)+1=m-1-i by omega,xx]
  ·rw[if_neg d,if_neg d,Qq,zx]
   by_cases e:i<m
   ·rw[if_pos e,show m-1-i=0 by omega,show i+1-m=0 by omega];rfl
   ·rw[if_neg e,show i+1-m=(i-m)+1 by omega];rfl
def QZi:Nat->(Nat->List UInt8)->List UInt8
 |0,_=>[]
 |n+1,f=>QK7 (QZi n f) (f n)
theorem QH8(f:Nat->List UInt8)(i:Nat):∀n,co (QZi n f) i=xs n (fun j=>co (f j) i)
 |0=>rfl
 |n+1=>by
  rw[QZi,Q82];show co (QZi n f) i^^^co (f n) i=_
  rw[QH8 f i n];rfl
theorem Qxf(f:Nat->List UInt8)(x:UInt8):∀n,ev (QZi n f) x=xs n (fun j=>ev (f j) x)
 |0=>rfl
 |n+1=>by rw[QZi,Qo4,Qxf f x n];rfl
section
variable {k m:Nat}{bs z c:List UInt8}{ms:List Bool}
def vv(k m:Nat)(z c:List UInt8)(i:Nat):UInt8:=gm (co z i^^^co c i) (wgt k m i)
def FF(D:List Nat):List UInt8:=loc (D.map pt)
theorem Qd5{D:List Nat}{x:UInt8}:ev (FF D) x=0↔x∈D.map pt:=Q73
def dd(D:List Nat)(i:Nat):UInt8:=ev (dv (pt i) (FF D)) (pt i)
theorem QCc{D:List Nat}{i j:Nat}(hi:i∈D)(e:j∈D)(h:pt i≠pt j):ev (dv (pt j) (FF D)) (pt i)=0:=by
 have d:=Qvk (Qd5.2 (List.mem_map.2 ⟨j,e,rfl⟩)) (pt i);rw[Qd5.2 (List.mem_map.2 ⟨i,hi,rfl⟩)]at d;rcases QY1.1 d.symm with a|a
 ·exact(h (QU2.1 a).symm).elim
 ·exact a
theorem Qnk{D:List Nat}(o:(D.map pt).Nodup){i:Nat}(hi:i∈D):dd D i≠0:=fun h=>by
 have d:(D.map pt).length=D.length:=List.length_map ..;have f:=QX6 (pt i) (FF D);rw[Qd5.2 (List.mem_map.2 ⟨i,hi,rfl⟩),QM1,Qa3]at f;have a:Deg (D.length+1) (co (FF D)):=by have:=Q53 (D.map pt);rwa [d]at this
 have p:co (dv (pt i) (FF D))=sz:=by
  refine Qpi o (fun x q=> ?_) ?_
  ·obtain⟨j,r,rfl⟩:=List.mem_map.1 q
   by_cases e:pt j=pt i
   ·rw[e];exact h
   ·exact QCc r hi e
  ·rw[d];exact QS9 _ a
 have l:=Qu5 (D.map pt);have s:co (loc (D.map pt))=sz:=by
  show co (FF D)=sz
  rw[f,p,QZ7]
 rw[s]at l;exact(show¬(0:UInt8)=1 by decide) l
def RR(k m:Nat)(z c:List UInt8)(D:List Nat):List UInt8:=QZi (k+m) fun j=>smL (gm (vv k m z c j) (pw (pt j) m)) (dv (pt j) (FF D))
def OO(k m:Nat)(z c:List UInt8)(D:List Nat):List UInt8:=QZi (k+m) fun j=>smL (vv k m z c j) (dv (pt j) (FF D))
theorem QWi(l:Code k m c){D:List Nat}(o:∀i,i<k+m->co z i≠co c i->i∈D){T:List UInt8}(q:∀i,co T i=if i<m then syn k m z (m-1-i)else 0):
  act (FF D) (co T)=sa (co (RR k m z c D)) (sh m (co (OO k m z c D))):=by
 have r:co T=fun i=>xs (k+m) fun j=>sm (vv k m z c j) (co (geo (pt j) m)) i:=funext fun i=>by
  rw[q]
  by_cases hi:i<m
  ·rw[if_pos hi]
   have a:syn k m z (m-1-i)=syn k m z (m-1-i)^^^syn k m c (m-1-i):=by rw[l.2 _ (by omega),x0]
   rw[a];unfold syn;rw[←Q76];refine Qv fun j _=> ?_;show _=gm _ (co (geo (pt j) m) i)
   rw[QN9,if_pos hi,←QF7,←QF7];rfl
  ·rw[if_neg hi]
   refine(Qz2 fun j _=> ?_).symm;show gm _ (co (geo (pt j) m) i)=0
   rw[QN9,if_neg hi,Qq]
 have a:∀(p:List UInt8)(n:Nat)(f:Nat->Se),act p (fun i=>xs n fun j=>f j i)=fun i=>xs n fun j=>act p (f j) i:=by
  intro p n f
  induction n with
  |zero=>exact QZ7 p
  |succ n ih=>
   show act p (sa (fun i=>xs n fun j=>f j i) (f n))=_
   rw[QJ5,ih];rfl
 have s:∀j,j<k+m->act (FF D) (sm (vv k m z c j) (co (geo (pt j) m)))=
   sa (sm (gm (vv k m z c j) (pw (pt j) m)) (co (dv (pt j) (FF D)))) (sh m (sm (vv k m z c j) (co (dv (pt j) (FF D))))):=by
  intro j d;rw[Quc,QPg,QRl,←QQg]
  by_cases e:co z j=co c j
  ·have:vv k m z c j=0:=by unfold vv;rw[e,xx,QU]
   rw[this,QM1,QM1]
  ·congr 1
   have h:=QX6 (pt j) (FF D);rw[Qd5.2 (List.mem_map.2 ⟨j,o j d e,rfl⟩),QM1,Qa3]at h;have t:act (FF D) (co (geo (pt j) m))=act (Qg6 [pt j,1] (dv (pt j) (FF D))) (co (geo (pt j) m)):=congrFun (QA1 (by rw[h,QW0])) _;rw[t,QE4,Qk6,Qej,QJ5,Quc,QY7,QA9]
 rw[r,a]
 funext i
 show xs (k+m) _=co (RR k m z c D) i^^^sh m (co (OO k m z c D)) i
 have u:sh m (co (OO k m z c D)) i=xs (k+m) fun j=>sh m (co (smL (vv k m z c j) (dv (pt j) (FF D)))) i:=by
  unfold sh OO
  by_cases hi:i<m
  ·rw[if_pos hi]
   exact(Qz2 fun j _=>if_pos hi).symm
  ·rw[if_neg hi,QH8]
   exact Qv fun j _=>(if_neg hi).symm
 have v:co (RR k m z c D) i=xs (k+m) fun j=>co (smL (gm (vv k m z c j) (pw (pt j) m)) (dv (pt j) (FF D))) i:=QH8 _ _ _;rw[u,v,←Q76];refine Qv fun j d=> ?_;rw[s j d,Q68,Q68];rfl
theorem QKi(D:List Nat):Deg D.length (co (RR k m z c D)):=fun i hi=>by
 unfold RR;rw[QH8];refine Qz2 fun j _=> ?_;rw[Q68];have a:(D.map pt).length=D.length:=List.length_map ..;have:=Q53 (D.map pt);rw[a]at this;have d:co (dv (pt j) (FF D)) i=0:=QS9 (pt j) this i hi;show gm _ (co (dv (pt j) (FF D)) i)=0
 rw[d,Qq]
theorem Qck{D:List Nat}(h:k+m<=256)(a:∀i∈D,i<k+m)(l:∀i,i<k+m->co z i≠co c i->i∈D){i:Nat}(hi:i∈D):ev (OO k m z c D) (pt i)=gm (vv k m z c i) (dd D i):=by
 unfold OO;rw[Qxf,Q66 (a i hi) fun j o d=> ?_,QV9]
 ·rfl
 ·rw[QV9]
  by_cases f:co z j=co c j
  ·have:vv k m z c j=0:=by unfold vv;rw[f,xx,QU]
   rw[this,QU]
  ·rw[QCc hi (l j o f) fun e=>d (QY5 (by have:=a i hi;omega) (by omega) e).symm,Qq]
end
theorem Qg7:∀{D:List Nat},D.Nodup->(∀i∈D,i<256)->(D.map pt).Nodup
 | [],_,_=>by simp
 |a::D,h,d=>by
  rw[List.nodup_cons]at h;rw[List.map_cons,List.nodup_cons];refine⟨fun f=> ?_,Qg7 h.2 fun i hi=>d i (List.mem_cons_of_mem _ hi)⟩;obtain⟨i,hi,e⟩:=List.mem_map.1 f;have:=QY5 (d i (List.mem_cons_of_mem _ hi)) (d a List.mem_cons_self) e;subst this;exact h.1 hi
theorem Qm8(u v:List UInt8):co (loc (u++v))=act (loc u) (co (loc v)):=by
 induction u with
 |nil=>
  show co (loc v)=sa (sm 1 _) (sh1 sz)
  rw[Qw7,Qu2,Qa3]
 |cons a u ih=>
  show co (Qg6 [a,1] (loc (u++v)))=act (Qg6 [a,1] (loc u)) _
  rw[QW0,ih,QE4]
theorem QL1{n i:Nat}{ms:List Bool}:i∈mis n ms↔i<n/\ms.getD i false=true:=by
 simp only[mis,List.mem_filter,List.mem_range]
theorem Qs4{n i:Nat}{ms:List Bool}{a b:List UInt8}:i∈dif n ms a b↔i<n/\ms.getD i false=false/\co a i≠co b i:=by
 simp only[dif,List.mem_filter,List.mem_range,Bool.and_eq_true,Bool.not_eq_true',decide_eq_true_eq]
theorem QR9(n:Nat)(ms:List Bool)(a b:List UInt8):(dif n ms a b++mis n ms).Nodup:=by
 rw[List.nodup_append];refine⟨List.nodup_range.filter _,List.nodup_range.filter _,fun i hi j f e=> ?_⟩;subst e;have d:=(Qs4.1 hi).2.1;rw[(QL1.1 f).2]at d;cases d
structure Qa0(k m:Nat)(bs z:List UInt8)(ms:List Bool)(T g P:List UInt8):Prop where
 km:k+m<=256
 zz:∀i,i<k+m->co z i=if ms.getD i false=true then 0 else co bs i
 tt:∀i,co T i=if i<m then syn k m z (m-1-i)else 0
 gg:co g=co (loc ((mis (k+m) ms).map pt))
 gn:Qo g
 pp:co P=act g (co T)
section
variable {k m:Nat}{bs z c:List UInt8}{ms:List Bool}{T g P:List UInt8}
abbrev Q75(m:Nat)(P:List UInt8):Se:=fun i=>if i<m then co P i else 0
theorem Qkc(m:Nat)(P:List UInt8):co P=sa (Q75 m P) (sh m (co (P.drop m))):=funext fun i=>by
 simp only[sa,sh]
 by_cases hi:i<m
 ·rw[if_pos hi,x0]
  exact(if_pos hi).symm
 ·rw[if_neg hi,show Q75 m P i=0 from if_neg hi,zx]
  simp only[co,List.getD_eq_getElem?_getD,List.getElem?_drop];rw[show m+(i-m)=i by omega]
theorem Qa0.where_(h:Qa0 k m bs z ms T g P){i:Nat}(hi:i<k+m)(a:co z i≠co c i):i∈dif (k+m) ms c bs++mis (k+m) ms:=by
 rw[List.mem_append,Qs4,QL1];rw[h.zz i hi]at a
 by_cases d:ms.getD i false=true
 ·exact .inr ⟨hi,d⟩
 ·rw[if_neg d]at a
  exact .inl ⟨hi,by simpa using d,Ne.symm a⟩
theorem Qa0.ff(h:Qa0 k m bs z ms T g P)(E:List Nat){b:List UInt8}(hb:co b=co (loc (E.map pt))):act b (co g)=co (FF (E++mis (k+m) ms)):=by
 unfold FF;rw[List.map_append,Qm8,h.gg,QA1 hb]
theorem Qa0.lt{i:Nat}(hi:i∈dif (k+m) ms c bs++mis (k+m) ms):i<k+m:=by
 rw[List.mem_append,Qs4,QL1]at hi;exact hi.elim (·.1) (·.1)
theorem Qa0.good(h:Qa0 k m bs z ms T g P)(v:QWa k m bs ms c):Good m (mis (k+m) ms).length (dif (k+m) ms c bs).length (Q75 m P) (loc ((dif (k+m) ms c bs).map pt)) ((dif (k+m) ms c bs).map pt):=by
 have f:=h.km;have l:=Qg7 (QR9 (k+m) ms c bs) fun i hi=>by have:=Qa0.lt hi;omega
 have a:=l;rw[List.map_append,List.nodup_append]at a;have r:((dif (k+m) ms c bs).map pt).length=(dif (k+m) ms c bs).length:=List.length_map ..
 refine⟨a.1,r,fun x p=>Q73.2 p,by have:=Q53 ((dif (k+m) ms c bs).map pt);rwa [r]at this,
  by have:=Qu5 ((dif (k+m) ms c bs).map pt);rw[r]at this;rw[this];decide,v.few,?_⟩
 have o:=QWi (z:=z) v.code (fun i hi s=>h.where_ hi s) h.tt;refine⟨RR k m z c (dif (k+m) ms c bs++mis (k+m) ms),QK7 (OO k m z c (dif (k+m) ms c bs++mis (k+m) ms)) (Qg6 (loc ((dif (k+m) ms c bs).map pt)) (P.drop m)),?_,?_,fun x p=> ?_⟩
 ·have:=QKi (k:=k) (m:=m) (z:=z) (c:=c) (dif (k+m) ms c bs++mis (k+m) ms)
  rwa [List.length_append]at this
 ·have q:act (loc ((dif (k+m) ms c bs).map pt)) (co P)=act (FF (dif (k+m) ms c bs++mis (k+m) ms)) (co T):=by
   rw[h.pp,←QE4];refine congrFun (QA1 ?_) _;rw[QW0,h.ff _ rfl]
  rw[Qkc m P,QJ5,QY7]at q;rw[Q82,QW0,Q0l];have t:act (loc ((dif (k+m) ms c bs).map pt)) (Q75 m P)=
    sa (sa (act (loc ((dif (k+m) ms c bs).map pt)) (Q75 m P)) (sh m (act (loc ((dif (k+m) ms c bs).map pt)) (co (P.drop m))))) (sh m (act (loc ((dif (k+m) ms c bs).map pt)) (co (P.drop m)))):=by
   rw[QQ0,Qbc,Qa3]
  rw[t,q,o,QQ0]
 ·obtain⟨i,hi,rfl⟩:=List.mem_map.1 p
  have d:i∈dif (k+m) ms c bs++mis (k+m) ms:=List.mem_append_left _ hi;rw[Qo4,Qo5,show ev (loc ((dif (k+m) ms c bs).map pt)) (pt i)=0 from Q73.2 p,QU,x0,Qck f (fun j u=>Qa0.lt u) (fun j u s=>h.where_ u s) d];refine Q3a (Q3a ?_ (QYg (by have:=Qa0.lt d;omega) f)) (Qnk l d);obtain⟨q,t,y⟩:=Qs4.1 hi;rw[h.zz i q,t,if_neg (by decide)];intro e;exact y (QU2.1 e).symm
theorem Qa0.right(h:Qa0 k m bs z ms T g P)(s:QWa k m bs ms c){b o full slope:List UInt8}(t:Found m (mis (k+m) ms).length (co P) b o)(ef:co full=act b (co g))(es:co slope=der (co full)):
  b.length=(dif (k+m) ms c bs).length+1/\(∀i,i<k+m->(ev full (pt i)=0↔i∈dif (k+m) ms c bs++mis (k+m) ms))∧
   ∀i,i∈dif (k+m) ms c bs++mis (k+m) ms->co z i^^^gm (ev o (pt i)) (gi (gm (ev slope (pt i)) (wgt k m i)))=co c i:=by
 have a:=h.km;have u:=Qg7 (QR9 (k+m) ms c bs) fun i hi=>by have:=Qa0.lt hi;omega
 have d:=h.good s;obtain⟨B,G⟩:=t.good _ _ _ d;have hb:co b=co (loc ((dif (k+m) ms c bs).map pt)):=by
  have q:co (QK7 b (loc ((dif (k+m) ms c bs).map pt)))=sz:=by
   refine Qpi d.nodup (fun x C=>by rw[Qo4,G x C,d.root x C,xx]) ?_;rw[d.len,Q82];intro i hi;show co b i^^^co (loc _) i=0
   by_cases e:i=(dif (k+m) ms c bs).length
   ·subst e
    have D:=t.lead;rw[B,Nat.add_sub_cancel]at D;have E:=Qu5 ((dif (k+m) ms c bs).map pt);rw[List.length_map]at E;rw[D,E,xx]
   ·rw[Qn1 (p:=b) (by omega),d.deg i (by omega),xx]
  funext i
  have:=congrFun q i;rw[Q82]at this;exact QU2.1 this
 have F:co full=co (FF (dif (k+m) ms c bs++mis (k+m) ms)):=by rw[ef,h.ff _ hb]
 refine⟨B,fun i hi=> ?_,fun i hi=> ?_⟩
 ·rw[QS1 F,Qd5]
  constructor
  ·intro v
   obtain⟨j,f,e⟩:=List.mem_map.1 v;have:=QY5 (by have:=Qa0.lt f;omega) (by omega) e
   rwa [←this]
  ·exact fun v=>List.mem_map.2 ⟨i,v,rfl⟩
 ·have q:=QX6 (pt i) (FF (dif (k+m) ms c bs++mis (k+m) ms))
  rw[Qd5.2 (List.mem_map.2 ⟨i,hi,rfl⟩),QM1,Qa3]at q;have hs:ev slope (pt i)=dd (dif (k+m) ms c bs++mis (k+m) ms) i:=Qqh (by rw[F,q]) es;have l:=QWi (z:=z) s.code (fun i hi y=>h.where_ hi y) h.tt;have H:co o=co (OO k m z c (dif (k+m) ms c bs++mis (k+m) ms)):=funext fun j=>by
   rw[t.out j,h.pp,←QE4,QA1 (show co (Qg6 b g)=co (FF (dif (k+m) ms c bs++mis (k+m) ms)) by rw[QW0,h.ff _ hb]),l];show co (RR k m z c _) (m+j)^^^sh m (co (OO k m z c _)) (m+j)=_
   have r:=QKi (k:=k) (m:=m) (z:=z) (c:=c) (dif (k+m) ms c bs++mis (k+m) ms);rw[List.length_append]at r;have:=s.few;rw[r _ (by omega),zx];unfold sh;rw[if_neg (by omega),show m+j-m=j by omega]
  rw[QS1 H,Qck a (fun j f=>Qa0.lt f) (fun j f y=>h.where_ f y) hi,hs];have I:wgt k m i≠0:=QYg (by have:=Qa0.lt hi;omega) a;have r:=Qnk u hi;unfold vv;have e:gm (gm (gm (co z i^^^co c i) (wgt k m i)) (dd (dif (k+m) ms c bs++mis (k+m) ms) i)) (gi (gm (dd (dif (k+m) ms c bs++mis (k+m) ms) i) (wgt k m i)))=co z i^^^co c i:=by
   rw[QS (co z i^^^co c i),Q90 (wgt k m i),QS,QT8 (Q3a r I),Qi1]
  rw[e,Qs9]
theorem Q33{α:Type}{p q:α->Bool}{l:List α}(h:∀a∈l,p a=true->q a=true):(l.filter p).length<=(l.filter q).length:=by
 rw[←List.countP_eq_length_filter,←List.countP_eq_length_filter];exact List.countP_mono_left h
theorem Qi8{α:Type}(p q:α->Bool)(l:List α):(l.filter p).length=(l.filter fun a=>p a&& !q a).length+(l.filter fun a=>p a&&q a).length:=by
 induction l with
 |nil=>rfl
 |cons a l ih=>
  by_cases d:p a<;>by_cases e:q a<;>simp[d,e,ih]<;>omega
theorem mul_len{b g full:List UInt8}(hb:Qo b)(a:Qo g)(d:Qo full)(b0:b≠ [])(f:g≠ [])(e:co full=act b (co g)):full.length+1=b.length+g.length:=hb.mul_len a d e b0 f
theorem Qa0.glen(h:Qa0 k m bs z ms T g P):g.length=(mis (k+m) ms).length+1:=by
 have a:=Q53 ((mis (k+m) ms).map pt);have ht:=Qu5 ((mis (k+m) ms).map pt);rw[List.length_map,←h.gg]at a ht;have d:=h.gn.le a;have e:(mis (k+m) ms).length<g.length:=Qo.pos (by rw[ht];decide);omega
def zer(n:Nat)(full:List UInt8):List Nat:=(List.range n).filter fun i=>decide (ev full (pt i)=0)
def wrg(n:Nat)(ms:List Bool)(full:List UInt8):List Nat:=(List.range n).filter fun i=>decide (ev full (pt i)=0)&& !ms.getD i false
def QCf(k m:Nat)(z full o slope:List UInt8)(i:Nat):UInt8:=if ev full (pt i)=0 then co z i^^^gm (ev o (pt i)) (gi (gm (ev slope (pt i)) (wgt k m i)))else co z i
theorem Qa0.complete(h:Qa0 k m bs z ms T g P)(q:QWa k m bs ms c){b o full slope out:List UInt8}(l:Found m (mis (k+m) ms).length (co P) b o)(t:Qo full)(ef:co full=act b (co g))(es:co slope=der (co full))
  (r:out.length=k+m) (f:∀i,i<k+m->co out i=QCf k m z full o slope i):out=c/\wrg (k+m) ms full=dif (k+m) ms c bs/\(zer (k+m) full).length+1=full.length:=by
 obtain⟨v,j,u⟩:=h.right q l ef es;refine⟨Q92 (by rw[r,q.code.1]) fun i hi=> ?_,List.filter_congr fun i hi=> ?_,?_⟩
 ·rw[r]at hi
  rw[f i hi];unfold QCf
  by_cases e:ev full (pt i)=0
  ·rw[if_pos e];exact u i ((j i hi).1 e)
  ·rw[if_neg e]
   refine Decidable.byContradiction fun p=>e ((j i hi).2 (h.where_ hi p))
 ·rw[List.mem_range]at hi
  have:=j i hi;rw[List.mem_append,Qs4,QL1]at this;rw[Bool.eq_iff_iff];simp only[Bool.and_eq_true,decide_eq_true_eq,Bool.not_eq_true',this];constructor
  ·rintro⟨d|d,a⟩
   ·exact⟨a,d.2.2⟩
   ·rw[d.2]at a;cases a
  ·rintro⟨d,a⟩
   exact⟨.inl ⟨hi,d,a⟩,d⟩
 ·have s:=h.glen
  have x:=mul_len l.nb h.gn t l.b0 (by rintro e;rw[e]at s;simp at s) ef;have y:(zer (k+m) full).length=(dif (k+m) ms c bs).length+(mis (k+m) ms).length:=by
   unfold zer;rw[Qi8 (fun i=>decide (ev full (pt i)=0)) (fun i=>ms.getD i false)]
   congr 1
   ·refine congrArg _ (List.filter_congr fun i hi=> ?_)
    rw[List.mem_range]at hi;have:=j i hi;rw[List.mem_append,Qs4,QL1]at this;rw[Bool.eq_iff_iff];simp only[Bool.and_eq_true,decide_eq_true_eq,Bool.not_eq_true',this];constructor
    ·rintro⟨d|d,a⟩
     ·exact⟨a,d.2.2⟩
     ·rw[d.2]at a;cases a
    ·rintro⟨d,a⟩
     exact⟨.inl ⟨hi,d,a⟩,d⟩
   ·refine congrArg _ (List.filter_congr fun i hi=> ?_)
    rw[List.mem_range]at hi;have:=j i hi;rw[List.mem_append,QL1]at this;rw[Bool.eq_iff_iff];simp only[Bool.and_eq_true,decide_eq_true_eq,this];constructor
    ·rintro⟨_,a⟩;exact a
    ·intro a;exact⟨.inr ⟨hi,a⟩,a⟩
  omega
theorem Qa0.sound(h:Qa0 k m bs z ms T g P){b o full slope out:List UInt8}(f:Found m (mis (k+m) ms).length (co P) b o)(q:Qo full)(ef:co full=act b (co g))
  (r:out.length=k+m) (d:∀i,i<k+m->co out i=QCf k m z full o slope i) (t:(zer (k+m) full).length+1=full.length) (hs:∀l,l<m->syn k m out l=0):QWa k m bs ms out:=by
 refine⟨⟨r,hs⟩,?_⟩;have j:=h.glen;have u:=mul_len f.nb h.gn q f.b0 (by rintro e;rw[e]at j;simp at j) ef;have v:(dif (k+m) ms out bs).length<=((List.range (k+m)).filter fun i=>decide (ev full (pt i)=0)&& !ms.getD i false).length:=by
  refine Q33 fun i hi a=> ?_;rw[List.mem_range]at hi;simp only[Bool.and_eq_true,Bool.not_eq_true',decide_eq_true_eq]at a⊢;refine⟨?_,a.1⟩;refine Decidable.byContradiction fun s=>a.2 ?_;rw[d i hi,QCf,if_neg s,h.zz i hi,a.1,if_neg (by decide)]
 have x:(mis (k+m) ms).length<=((List.range (k+m)).filter fun i=>decide (ev full (pt i)=0)&&ms.getD i false).length:=by
  refine Q33 fun i hi a=> ?_;rw[List.mem_range]at hi;rw[Bool.and_eq_true,decide_eq_true_eq];refine⟨?_,a⟩;have p:ev g (pt i)=0:=by
   rw[QS1 h.gg];exact Q73.2 (List.mem_map.2 ⟨i,QL1.2 ⟨hi,a⟩,rfl⟩)
  rw[QSi ef,p,Qq]
 have p:=Qi8 (fun i=>decide (ev full (pt i)=0)) (fun i=>ms.getD i false) (List.range (k+m));have y:((List.range (k+m)).filter fun i=>decide (ev full (pt i)=0)).length=(zer (k+m) full).length:=rfl;have B:=f.few;omega
theorem Qa0.ok(h:Qa0 k m bs z ms T g P){b o full slope out:List UInt8}(d:Found m (mis (k+m) ms).length (co P) b o)(e:Qo full)(ef:co full=act b (co g))(es:co slope=der (co full))
  (f:out.length=k+m) (a:∀i,i<k+m->co out i=QCf k m z full o slope i) (p:(zer (k+m) full).length+1=full.length) (hs:∀l,l<m->syn k m out l=0):
  Ql5 k m bs ms=some out/\wrg (k+m) ms full=dif (k+m) ms out bs:=by
 have j:=h.sound d e ef f a p hs;exact⟨QU6 h.km j,(h.complete j d e ef es f a).2.1⟩
theorem Qa0.many(h:Qa0 k m bs z ms T g P){b o full slope out:List UInt8}(e:Found m (mis (k+m) ms).length (co P) b o)(f:Qo full)(ef:co full=act b (co g))(es:co slope=der (co full))
  (j:out.length=k+m) (a:∀i,i<k+m->co out i=QCf k m z full o slope i) (p:¬((zer (k+m) full).length+1=full.length/\∀l,l<m->syn k m out l=0)):Ql5 k m bs ms=none:=by
 refine QT6 fun c d=>p ?_;obtain⟨q,_,r⟩:=h.complete d e f ef es j a;refine⟨r,?_⟩;rw[q];exact d.code.2
theorem Qa0.none(h:Qa0 k m bs z ms T g P)(a:∀t L pts,¬Good m (mis (k+m) ms).length t (Q75 m P) L pts):Ql5 k m bs ms=none:=
 QT6 fun _ d=>a _ _ _ (h.good d)
theorem QT5{k m:Nat}{bs:List UInt8}{ms:List Bool}(h:m<(mis (k+m) ms).length):Ql5 k m bs ms=none:=
 QT6 fun _ a=>by have:=a.few;omega
end
def Qvb(t s:Nat)(f:UInt8)(W:Nat->Nat->UInt8)(r c:Nat):UInt8:=if r=t then W t c^^^gm (W s c) f else W r c
structure Qj6(n:Nat)(A W:Nat->Nat->UInt8):Prop where
 left:∀r,r<n->∀c,c<n->W r c=xs n fun j=>gm (W r (n+j)) (A j c)
 inj:∀y:Nat->UInt8,(∀r,r<n->xs n (fun j=>gm (W r (n+j)) (y j))=0)->∀j,j<n->y j=0
def Qa6(n:Nat)(W:Nat->Nat->UInt8)(c:Nat):Prop:=∀r,r<n->∀c',c'<c->W r c'=if r=c' then 1 else 0
section
variable {n:Nat}{A W:Nat->Nat->UInt8}
theorem Qcj(f g:Nat->UInt8)(y:UInt8)(z:Nat->UInt8)(n:Nat):xs n (fun j=>gm (f j^^^gm (g j) y) (z j))=xs n (fun j=>gm (f j) (z j))^^^gm y (xs n fun j=>gm (g j) (z j)):=by
 rw[←Qi6,←Q76];exact Qv fun j _=>by rw[QF7,Q90 (g j) y,QS]
theorem Qj6.add(h:Qj6 n A W){t s:Nat}(f:UInt8)(i:t≠s)(ht:t<n)(hs:s<n):Qj6 n A (Qvb t s f W):=by
 refine⟨fun r d c j=> ?_,fun y o=>h.inj y fun r d=> ?_⟩
 ·unfold Qvb
  by_cases e:r=t
  ·subst e
   simp only[if_true];rw[Qcj,←h.left r d c j,←h.left s hs c j,Q90 f]
  ·simp only[if_neg e]
   exact h.left r d c j
 ·have a:=o r d
  unfold Qvb at a
  by_cases e:r=t
  ·subst e
   simp only[if_true]at a;have l:=o s hs;unfold Qvb at l;simp only[if_neg (fun e:s=r=>i e.symm)]at l;rw[Qcj,l,Qq,x0]at a;exact a
  ·simp only[if_neg e]at a
   exact a
theorem Qj6.congr(h:Qj6 n A W){d:Nat->Nat->UInt8}(e:∀r,r<n->∀c,c<2*n->d r c=W r c):Qj6 n A d:=by
 have f:∀r,r<n->∀z:Nat->UInt8,xs n (fun j=>gm (d r (n+j)) (z j))=xs n (fun j=>gm (W r (n+j)) (z j)):=fun r a z=>Qv fun j o=>by rw[e r a _ (by omega)]
 refine⟨fun r a c i=> ?_,fun y l=>h.inj y fun r a=> ?_⟩
 ·rw[f r a,e r a c (by omega)];exact h.left r a c i
 ·rw[←f r a];exact l r a
theorem Qa6.congr{c:Nat}(h:Qa6 n W c)(j:c<=n){d:Nat->Nat->UInt8}(e:∀r,r<n->∀c,c<2*n->d r c=W r c):Qa6 n d c:=fun r f i a=>by rw[e r f i (by omega)];exact h r f i a
def QS4(n:Nat)(A:Nat->Nat->UInt8)(r c:Nat):UInt8:=if c<n then A r c else if c=n+r then 1 else 0
theorem Qj6.start(n:Nat)(A:Nat->Nat->UInt8):Qj6 n A (QS4 n A):=by
 have e:∀r,r<n->∀z:Nat->UInt8,xs n (fun j=>gm (QS4 n A r (n+j)) (z j))=z r:=fun r a z=>by
  rw[Q66 a fun j _ d=> ?_]
  ·unfold QS4
   rw[if_neg (by omega),if_pos rfl,QW5]
  ·unfold QS4
   rw[if_neg (by omega),if_neg (by omega),QU]
 refine⟨fun r a c f=> ?_,fun y h j d=> ?_⟩
 ·rw[e r a];unfold QS4;rw[if_pos f]
 ·exact(e j d y).symm.trans (h j d)
theorem Qa6.zero(n:Nat)(W:Nat->Nat->UInt8):Qa6 n W 0:=fun _ _ _ h=>(Nat.not_lt_zero _ h).elim
theorem Qa6.add{c t s:Nat}(h:Qa6 n W c)(f:UInt8)(ht:t<n)(hs:s<n)(j:c<=s):Qa6 n (Qvb t s f W) c:=fun r i d a=>by
 unfold Qvb
 by_cases e:r=t
 ·subst e
  rw[if_pos rfl,h r i d a,h s hs d a,if_neg (show¬s=d by omega),QU,x0]
 ·rw[if_neg e];exact h r i d a
theorem Qa6.next{c:Nat}(h:Qa6 n W c)(i:W c c=1)(j:∀r,r<n->r≠c->W r c=0):Qa6 n W (c+1):=fun r f a l=>by
 by_cases e:a<c
 ·exact h r f a e
 ·have o:a=c:=by omega
  subst o
  by_cases d:r=a
  ·rw[if_pos d,d,i]
  ·rw[if_neg d];exact j r f d
theorem Qj6.done(h:Qj6 n A W)(e:Qa6 n W n):∀r,r<n->∀c,c<n->xs n (fun j=>gm (W r (n+j)) (A j c))=if r=c then 1 else 0:=fun r a c d=>by
 rw[←h.left r a c d];exact e r a c d
theorem QSh{V:Nat->Nat->UInt8}(h:∀r,r<n->∀c,c<n->xs n (fun j=>gm (V r j) (A j c))=if r=c then 1 else 0)(d:Nat->UInt8){r:Nat}(f:r<n):xs n (fun j=>gm (V r j) (xs n fun c=>gm (A j c) (d c)))=d r:=by
 have i:xs n (fun j=>gm (V r j) (xs n fun c=>gm (A j c) (d c)))=xs n (fun j=>xs n fun c=>gm (d c) (gm (V r j) (A j c))):=Qv fun j _=>by
  rw[←Qi6];exact Qv fun c _=>by rw[Q90 (d c),QS]
 rw[i,QG7];have l:xs n (fun c=>xs n fun j=>gm (d c) (gm (V r j) (A j c)))=xs n (fun c=>gm (d c) (if r=c then 1 else 0)):=Qv fun c a=>by rw[Qi6,h r f c a]
 rw[l,Q66 f fun c _ a=>by rw[if_neg fun e=>a e.symm,Qq],if_pos rfl,Qi1]
end
def QP7(k r c:Nat):UInt8:=if r<k then(if r=c then 1 else 0)else gi (pt r^^^pt c)
theorem QOf{k m:Nat}{d:List UInt8}(a:d.length=k){t:Nat}(ht:t<k+m):xs k (fun c=>gm (QP7 k t c) (co d c))=co (enc k m d) t:=by
 by_cases h:t<k
 ·rw[Q23 a h,Q66 h fun c _ f=> ?_]
  ·unfold QP7;rw[if_pos h,if_pos rfl,QW5]
  ·unfold QP7;rw[if_pos h,if_neg (fun e=>f e.symm),QU]
 ·obtain⟨i,rfl⟩:∃i,t=k+i:=⟨t-k,by omega⟩
  rw[QL8 a (by omega)];unfold par;exact Qv fun c _=>by unfold QP7;rw[if_neg h]
theorem Qs3(n:Nat)(p:Nat->Bool):((List.range n).filter p).length+((List.range n).filter fun i=> !p i).length=n:=by
 induction n with
 |zero=>rfl
 |succ n ih=>
  rw[List.range_succ,List.filter_append,List.filter_append,List.length_append,List.length_append];cases h:p n<;>simp[h]<;>omega
theorem Qzj{k m:Nat}(a:k+m<=256){l:List Nat}(B:l.length=k)(q:((List.range (k+m)).filter fun i=>decide (i∈l)).length=k)(f:∀t∈l,t<k+m)(x:Nat->UInt8)
  (s:∀r,r<k->xs k (fun j=>gm (QP7 k (l.getD r 0) j) (x j))=0):∀j,j<k->x j=0:=by
 have o:((List.range k).map x).length=k:=by simp
 have d:∀j,j<k->co ((List.range k).map x) j=x j:=fun j e=>by simp[co,List.getD_eq_getElem?_getD,e]
 have u:∀t∈l,co (enc k m ((List.range k).map x)) t=0:=fun t ht=>by
  obtain⟨r,v,rfl⟩:=List.getElem_of_mem ht;rw[←QOf o (f _ ht),←s r (by omega)];refine Qv fun c y=> ?_;rw[d c y];simp[List.getD_eq_getElem?_getD,v]
 have C:=Qs3 (k+m) fun i=>decide (i∈l);intro j e;rw[←d j e,←Q23 (m:=m) o e];refine(Qo6 a o).few a (D:=(List.range (k+m)).filter fun i=> !decide (i∈l)) (by omega) (fun i hi p=> ?_) j (by omega);rw[List.mem_filter,List.mem_range];refine⟨hi,?_⟩;simp only[Bool.not_eq_true',decide_eq_false_iff_not];exact fun h=>p (u i h)
end Go.Gf
