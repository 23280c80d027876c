import Derived.Test.YtkolafpgbhpdlaaGreatVcC
namespace Go.Vc
open Go
theorem w64{n:Int}(h: -9223372036854775808<=n/\n<=9223372036854775807):IntKind.i64.wrap n=n:=IntWalk.i64_in n h
structure QD2(w w':World):Prop where
 heap:w'.heap=w.heap
 os:w'.os=w.os
 tape:w'.tape=w.tape
 output:w'.output=w.output
theorem QD2.refl(w:World):QD2 w w:=⟨rfl,rfl,rfl,rfl⟩
theorem QD2.trans{a b c:World}(h:QD2 a b)(k:QD2 b c):QD2 a c:=
 ⟨k.heap.trans h.heap,k.os.trans h.os,k.tape.trans h.tape,k.output.trans h.output⟩
theorem QD2.symm{a b:World}(h:QD2 a b):QD2 b a:=⟨h.heap.symm,h.os.symm,h.tape.symm,h.output.symm⟩
theorem QX7.quiet{w w':World}(h:QX7 w w'):QD2 w w':=by cases h;exact⟨rfl,rfl,rfl,rfl⟩
structure Upd(S:Nat->Prop)(w w':World):Prop where
 os:w'.os=w.os
 tape:w'.tape=w.tape
 output:w'.output=w.output
 size:w.heap.size<=w'.heap.size
 block:∀b,b<w.heap.size->¬S b->w'.heap[b]? =w.heap[b]?
abbrev Ext(w w':World):Prop:=Upd (fun _=>False) w w'
theorem Upd.refl(S:Nat->Prop)(w:World):Upd S w w:=⟨rfl,rfl,rfl,Nat.le_refl _,fun _ _ _=>rfl⟩
theorem Upd.trans{S T:Nat->Prop}{a b c:World}(h:Upd S a b)(k:Upd T b c)(e:∀x,x<a.heap.size->T x->S x):Upd S a c:=
 ⟨k.os.trans h.os,k.tape.trans h.tape,k.output.trans h.output,Nat.le_trans h.size k.size,fun x d hS=>
  (k.block x (Nat.lt_of_lt_of_le d h.size) fun ht=>hS (e x d ht)).trans (h.block x d hS)⟩
theorem Upd.mono{S T:Nat->Prop}{a b:World}(h:Upd S a b)(e:∀x,x<a.heap.size->S x->T x):Upd T a b:=
 ⟨h.os,h.tape,h.output,h.size,fun x d hS=>h.block x d fun hs=>hS (e x d hs)⟩
theorem Ext.trans{a b c:World}(h:Ext a b)(k:Ext b c):Ext a c:=Upd.trans h k fun _ _ h=>h
theorem Ext.upd{S:Nat->Prop}{a b:World}(h:Ext a b):Upd S a b:=Upd.mono h fun _ _ h=>h.elim
theorem QD2.ext{w w':World}(h:QD2 w w'):Ext w w':=
 ⟨h.os,h.tape,h.output,by rw[h.heap];exact Nat.le_refl _,fun b _ _=>by rw[h.heap]⟩
theorem QX7.ext{w w':World}(h:QX7 w w'):Ext w w':=h.quiet.ext
theorem Ext.below{w w':World}(h:Ext w w'):RowKit.Below w.heap.size w w':=⟨h.os,h.tape,h.output,h.size,fun k a=>h.block k a id⟩
theorem Ext.of_below{w w':World}(h:RowKit.Below w.heap.size w w'):Ext w w':=⟨h.os,h.tape,h.output,h.size,fun k a _=>h.block k a⟩
theorem Qe{w:World}{b:Nat}{o:Obj}(h:w.heap[b]? =some o):b<w.heap.size:=(Array.getElem?_eq_some_iff.1 h).1
theorem Upd.keep{S:Nat->Prop}{w w':World}(h:Upd S w w'){b:Nat}{o:Obj}(hb:w.heap[b]? =some o)(hS:¬S b):w'.heap[b]? =some o:=
 (h.block b (Qe hb) hS).trans hb
theorem Ext.keep{w w':World}(h:Ext w w'){b:Nat}{o:Obj}(hb:w.heap[b]? =some o):w'.heap[b]? =some o:=Upd.keep h hb id
theorem QG.ext{w:World}{b:Nat}{o:Obj}{w':World}(h:QG w b o w'):Ext w w':=by
 obtain⟨rfl,rfl⟩:=h;exact⟨rfl,rfl,rfl,by simp,fun k a _=>RowKit.Below.heap_alloc _ _ _ a⟩
theorem QG.at{w:World}{b:Nat}{o:Obj}{w':World}(h:QG w b o w'):w'.heap[b]? =some o:=by
 obtain⟨rfl,rfl⟩:=h;show(w.heap.push o)[w.heap.size]? =some o
 simp
theorem QG.size{w:World}{b:Nat}{o:Obj}{w':World}(h:QG w b o w'):b=w.heap.size/\w'.heap.size=w.heap.size+1:=by
 obtain⟨rfl,rfl⟩:=h;exact⟨rfl,by simp⟩
theorem Qt.upd{w:World}{p:Addr}{v:Value}{w':World}(h:Qt w p v w'):Upd (fun b=>b=p.block) w w':=by
 cases h;exact⟨rfl,rfl,rfl,by simp[World.setCell],fun k a hS=>RowKit.Below.heap_setCell _ _ _ _ hS⟩
theorem Qt.size{w:World}{p:Addr}{v:Value}{w':World}(h:Qt w p v w'):w'.heap.size=w.heap.size:=by
 cases h;simp[World.setCell]
theorem Qt.at{w:World}{p:Addr}{v:Value}{w':World}{cs:Array Value}{e:TypeId}{fz:Nat×Nat}(h:Qt w p v w')
  (hb:w.heap[p.block]? =some (.cells cs e fz)) (hs:p.spot=none):w'.heap[p.block]? =some (.cells (cs.setIfInBounds p.off v) e fz):=by
 cases h;simp[World.setCell,Array.getElem?_modify,hb,hs]
theorem Qx(a:Addr)(n:Nat):(a.add n).block=a.block:=by unfold Addr.add;split<;>rfl
theorem QJ(b n:Nat):(at0 b).add n=⟨b,n,none⟩:=by
 unfold Addr.add;split
 ·rename_i h;subst h;rfl
 ·simp
theorem QB(a:Addr)(m n:Nat):(a.add m).add n=a.add (m+n):=by
 unfold Addr.add
 by_cases d:m=0
 ·subst d;simp
 ·by_cases e:n=0
  ·subst e;simp
  ·rw[if_neg d,if_neg e,if_neg (by omega)]
   simp[Nat.add_assoc]
def Row(w:World)(b:Nat)(cs:Array Value):Prop:=∃e fz,w.heap[b]? =some (.cells cs e fz)
def RowW(w:World)(b:Nat)(cs:Array Value):Prop:=∃e,w.heap[b]? =some (.cells cs e (0,0))
theorem RowW.row{w:World}{b:Nat}{cs:Array Value}(h:RowW w b cs):Row w b cs:=let⟨e,h⟩:=h;⟨e,_,h⟩
theorem Row.lt{w:World}{b:Nat}{cs:Array Value}(h:Row w b cs):b<w.heap.size:=let⟨_,_,h⟩:=h;Qe h
theorem RowW.lt{w:World}{b:Nat}{cs:Array Value}(h:RowW w b cs):b<w.heap.size:=h.row.lt
theorem Row.cell{w:World}{b:Nat}{cs:Array Value}(h:Row w b cs){n:Nat}{v:Value}(a:cs[n]? =some v):w.cell? ((at0 b).add n)=some v:=by
 obtain⟨e,fz,h⟩:=h;rw[QJ];simp[World.cell?,h,a]
theorem RowW.live{w:World}{b:Nat}{cs:Array Value}(h:RowW w b cs){n:Nat}(a:n<cs.size):QD w ((at0 b).add n):=by
 refine⟨⟨cs[n],h.row.cell (by simp[a])⟩,?_⟩;obtain⟨e,h⟩:=h;rw[QJ];simp[World.frozen?,h]
theorem QG.row{w:World}{b:Nat}{cs:Array Value}{e:TypeId}{w':World}(h:QG w b (.cells cs e) w'):RowW w' b cs:=⟨e,h.at⟩
theorem Upd.row{S:Nat->Prop}{w w':World}(h:Upd S w w'){b:Nat}{cs:Array Value}(hb:Row w b cs)(hS:¬S b):Row w' b cs:=
 let⟨e,fz,hb⟩:=hb;⟨e,fz,h.keep hb hS⟩
theorem Upd.rowW{S:Nat->Prop}{w w':World}(h:Upd S w w'){b:Nat}{cs:Array Value}(hb:RowW w b cs)(hS:¬S b):RowW w' b cs:=
 let⟨e,hb⟩:=hb;⟨e,h.keep hb hS⟩
theorem Qt.row{w:World}{b n:Nat}{v:Value}{w':World}{cs:Array Value}(h:Qt w ((at0 b).add n) v w')(hb:RowW w b cs):RowW w' b (cs.setIfInBounds n v):=by
 obtain⟨e,hb⟩:=hb;rw[QJ]at h;exact⟨e,h.at hb rfl⟩
theorem QG8{w w':World}{a:Addr}(h:w'.heap[a.block]? =w.heap[a.block]?):w'.cell? a=w.cell? a:=by
 simp only[World.cell?,h]
theorem Upd.cell{S:Nat->Prop}{w w':World}(h:Upd S w w'){a:Addr}{v:Value}(ha:w.cell? a=some v)(hS:¬S a.block):w'.cell? a=some v:=by
 have hb:a.block<w.heap.size:=by
  unfold World.cell? at ha;cases d:w.heap[a.block]? with
  |none=>rw[d]at ha;simp at ha
  |some o=>exact Qe d
 rw[QG8 (h.block _ hb hS)];exact ha
theorem Qcb{w:World}{a:Addr}{v:Value}(ha:w.cell? a=some v):a.block<w.heap.size:=by
 unfold World.cell? at ha;cases d:w.heap[a.block]? with
 |none=>rw[d]at ha;simp at ha
 |some o=>exact Qe d
def Q1(w:World)(p:Option Addr)(n:Nat)(bs:List UInt8):Prop:=
 n=bs.length/\(bs≠ []->∃a,p=some a/\∀i,i<bs.length->w.cell? (a.add i)=some (.int .u8 ((bs.getD i 0).toNat:Int)))
theorem Q1.nil(w:World)(p:Option Addr):Q1 w p 0 []:=⟨rfl,fun h=>(h rfl).elim⟩
theorem Q1.get{w:World}{p:Option Addr}{n:Nat}{bs:List UInt8}(h:Q1 w p n bs){i:Nat}(hi:i<n):
  ∃a,p=some a/\w.cell? (a.add i)=some (.int .u8 ((bs.getD i 0).toNat:Int)):=by
 obtain⟨rfl,h⟩:=h;obtain⟨a,ha,d⟩:=h (by rintro rfl;simp at hi);exact⟨a,ha,d i hi⟩
theorem Q1.upd{S:Nat->Prop}{w w':World}{p:Option Addr}{n:Nat}{bs:List UInt8}(h:Q1 w p n bs)(e:Upd S w w')
  (hS:∀a,p=some a->bs≠ []->¬S a.block):Q1 w' p n bs:=by
 refine⟨h.1,fun d=> ?_⟩;obtain⟨a,ha,f⟩:=h.2 d;exact⟨a,ha,fun i hi=>e.cell (f i hi) (by rw[Qx];exact hS a ha d)⟩
theorem Q1.ext{w w':World}{p:Option Addr}{n:Nat}{bs:List UInt8}(h:Q1 w p n bs)(a:Ext w w'):Q1 w' p n bs:=h.upd a fun _ _ _=>id
theorem Q1.lt{w:World}{p:Option Addr}{n:Nat}{bs:List UInt8}(h:Q1 w p n bs)(d:bs≠ []):∃a,p=some a/\a.block<w.heap.size:=by
 obtain⟨a,ha,e⟩:=h.2 d;refine⟨a,ha,?_⟩;have:=Qcb (e 0 (List.length_pos_iff.2 d));rw[Qx]at this;exact this
end Go.Vc
