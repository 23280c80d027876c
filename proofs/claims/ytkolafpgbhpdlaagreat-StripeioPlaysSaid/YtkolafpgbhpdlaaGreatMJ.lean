import Derived.Test.YtkolafpgbhpdlaaGreatProg
import Derived.Shelf.SortM.Plain
import Derived.Shelf.SortM.SortNone
import Derived.Test.YtkolafpgbhpdlaaGreatMI
import Derived.Sort.OwnSortedInts
import Derived.Lib.SliceRun
import Derived.Test.YtkolafpgbhpdlaaGreatGb
import Derived.Test.YtkolafpgbhpdlaaGreatMA
import Derived.Test.YtkolafpgbhpdlaaGreatMC
set_option maxHeartbeats 8000000
namespace Go.Proofs.YtkolafpgbhpdlaaGreat
open Go Go.Proofs Go.RowKit Go.Sort Go.Shelf
open Go.IntKind (i64)
open Go.Value (int)
open Go.Proofs.Tryz (prog)
def QTd:Go.Shelf.Ren:=⟨fun|5=>103|8=>147|7=>146|19=>186|20=>187|10=>177|11=>178|12=>179|13=>180|14=>181|15=>182|16=>183|17=>184|18=>185|30=>195|31=>196|32=>197|33=>198|34=>199|35=>200|40=>207|n=>n,fun|23=>30|25=>3|3=>3|32=>88|22=>30|0=>0|44=>156|46=>220|4=>4|36=>212|35=>211|41=>216|5=>5|9=>9|53=>228|57=>232|63=>240|64=>241|n=>n,fun|n=>n⟩
theorem QUi:Go.Proofs.SlLaysM.n5 prog QTd:={
 mixed:=by kernel_rfl
 f5:=⟨Tryz.f103.name,by decide,Tryz.func103.trans (congrArg some (by kernel_rfl))⟩
 f7:=⟨Tryz.f146.name,by decide,Tryz.func146.trans (congrArg some (by kernel_rfl))⟩
 f8:=Tryz.func147.trans (congrArg some (by kernel_rfl))
 f10:=⟨Tryz.f177.name,by decide,Tryz.func177.trans (congrArg some (by kernel_rfl))⟩
 f11:=⟨Tryz.f178.name,by decide,Tryz.func178.trans (congrArg some (by kernel_rfl))⟩
 f12:=⟨Tryz.f179.name,by decide,Tryz.func179.trans (congrArg some (by kernel_rfl))⟩
 f13:=⟨Tryz.f180.name,by decide,Tryz.func180.trans (congrArg some (by kernel_rfl))⟩
 f14:=⟨Tryz.f181.name,by decide,Tryz.func181.trans (congrArg some (by kernel_rfl))⟩
 f15:=⟨Tryz.f182.name,by decide,Tryz.func182.trans (congrArg some (by kernel_rfl))⟩
 f16:=⟨Tryz.f183.name,by decide,Tryz.func183.trans (congrArg some (by kernel_rfl))⟩
 f17:=⟨Tryz.f184.name,by decide,Tryz.func184.trans (congrArg some (by kernel_rfl))⟩
 f18:=⟨Tryz.f185.name,by decide,Tryz.func185.trans (congrArg some (by kernel_rfl))⟩
 f19:=Tryz.func186.trans (congrArg some (by kernel_rfl))
 f20:=Tryz.func187.trans (congrArg some (by kernel_rfl))
 f30:=⟨Tryz.f195.name,by decide,Tryz.func195.trans (congrArg some (by kernel_rfl))⟩
 f31:=Tryz.func196.trans (congrArg some (by kernel_rfl))
 f32:=Tryz.func197.trans (congrArg some (by kernel_rfl))
 f33:=⟨Tryz.f198.name,by decide,Tryz.func198.trans (congrArg some (by kernel_rfl))⟩
 f34:=⟨Tryz.f199.name,by decide,Tryz.func199.trans (congrArg some (by kernel_rfl))⟩
 f35:=⟨Tryz.f200.name,by decide,Tryz.func200.trans (congrArg some (by kernel_rfl))⟩
 f40:=⟨Tryz.f207.name,by decide,Tryz.func207.trans (congrArg some (by kernel_rfl))⟩
 t0:=Tryz.underlying0
 a0:=Tryz.isAgg0
 z0:=Tryz.sizeOf0
 v0:=Tryz.zeroValue0
 t3:=Tryz.underlying3
 a3:=Tryz.isAgg3
 z3:=Tryz.sizeOf3
 v3:=Tryz.zeroValue3
 t4:=Tryz.underlying4
 a4:=Tryz.isAgg4
 z4:=Tryz.sizeOf4
 v4:=Tryz.zeroValue4
 t5:=Tryz.underlying5
 a5:=Tryz.isAgg5
 z5:=Tryz.sizeOf5
 v5:=Tryz.zeroValue5
 t9:=Tryz.underlying9
 a9:=Tryz.isAgg9
 z9:=Tryz.sizeOf9
 v9:=Tryz.zeroValue9
 t22:=Tryz.underlying30
 a22:=Tryz.isAgg30
 z22:=Tryz.sizeOf30
 v22:=Tryz.zeroValue30
 t23:=Tryz.underlying30
 a23:=Tryz.isAgg30
 z23:=Tryz.sizeOf30
 v23:=Tryz.zeroValue30
 t25:=Tryz.underlying3
 a25:=Tryz.isAgg3
 z25:=Tryz.sizeOf3
 v25:=Tryz.zeroValue3
 t32:=Tryz.underlying88
 a32:=Tryz.isAgg88
 z32:=Tryz.sizeOf88
 v32:=Tryz.zeroValue88
 t35:=Tryz.underlying211
 a35:=Tryz.isAgg211
 z35:=Tryz.sizeOf211
 v35:=Tryz.zeroValue211
 t36:=Tryz.underlying212
 a36:=Tryz.isAgg212
 z36:=Tryz.sizeOf212
 v36:=Tryz.zeroValue212
 t41:=Tryz.underlying216
 a41:=Tryz.isAgg216
 z41:=Tryz.sizeOf216
 v41:=Tryz.zeroValue216
 t44:=Tryz.underlying156
 a44:=Tryz.isAgg156
 z44:=Tryz.sizeOf156
 v44:=Tryz.zeroValue156
 t46:=Tryz.underlying220
 a46:=Tryz.isAgg220
 z46:=Tryz.sizeOf220
 v46:=Tryz.zeroValue220
 t53:=Tryz.underlying228
 a53:=Tryz.isAgg228
 z53:=Tryz.sizeOf228
 v53:=Tryz.zeroValue228
 t57:=Tryz.underlying232
 a57:=Tryz.isAgg232
 z57:=Tryz.sizeOf232
 v57:=Tryz.zeroValue232
 t63:=Tryz.underlying240
 a63:=Tryz.isAgg240
 z63:=Tryz.sizeOf240
 v63:=Tryz.zeroValue240
 t64:=Tryz.underlying241
 a64:=Tryz.isAgg241
 z64:=Tryz.sizeOf241
 v64:=Tryz.zeroValue241}
open Go Go.Vc Go.Gf
open Go.IntKind (i64)
open Go.Value (int)
open Go.Proofs.Tryz (prog)
theorem QI.le{w:World}{base:Nat}{p:σ}{n c:Nat}{l:List Nat}(h:QI w base p n c l):n<=c:=by
 rcases h.where_ with⟨_,rfl,rfl⟩|⟨g,_,_,_,h,_⟩
 ·exact Nat.le_refl _
 ·exact h
theorem QI.get{w:World}{base:Nat}{p:σ}{n c:Nat}{l:List Nat}(h:QI w base p n c l){i:Nat}(hi:i<n):∃k,p=some (at0 k)/\w.cell? ((at0 k).add i)=some (int i64 ((l.getD i 0:Nat):Int))/\QD w ((at0 k).add i)∧
  ∀(v:Nat) w',Qt w ((at0 k).add i) (int i64 (v:Int)) w'->QI w' base (some (at0 k)) n c (l.set i v)/\Upd (fun x=>x=k) w w':=by
 have j:=QI.len h;rcases h.where_ with⟨_,o,_⟩|⟨k,rfl,hb,_⟩
 ·omega
 ·have d:i<l.length:=by omega
  obtain⟨a,ha,f⟩:=Q5.cells h i (int i64 ((l[i]:Nat):Int)) (by simp[QI1,d]);cases ha;refine⟨k,rfl,by rw[f];simp[Zj,d],Q5.live h (by rw[QG0];exact d),fun v w' hs=> ?_⟩;obtain⟨e,g⟩:=Q5.set h hs;refine⟨?_,g⟩;have:(QI1 l).set i (int i64 (v:Int))=QI1 (l.set i v):=by simp[QI1,List.map_set]
  rw[this]at e;exact e
theorem QI.cut{w:World}{base:Nat}{p:σ}{n c:Nat}{l:List Nat}(h:QI w base p n c l){m:Nat}(f:m<=n):QI w base p m c (l.take m):=by
 have q:=QI.len h;refine⟨by rw[QG0,List.length_take];omega,?_⟩;rcases h.2 with⟨d,r⟩|⟨g,cap,cur,d,hb,i,t,j,o,e⟩
 ·left
  simp only[Value.slice.injEq]at d;obtain⟨rfl,rfl,rfl⟩:=d;have:m=0:=by omega
  subst this;exact⟨rfl,rfl⟩
 ·right
  simp only[Value.slice.injEq]at d;obtain⟨rfl,_,rfl⟩:=d;refine⟨g,c,cur,rfl,hb,i,by omega,j,o,?_⟩;rw[Nat.mul_one]at e⊢;have:QI1 (l.take m)=(QI1 l).take m:=by simp[QI1,List.map_take]
  rw[this,←e,List.take_take,Nat.min_eq_left f]
theorem Q5.behind{e:TypeId}{base k n c:Nat}{xs:List Value}:∀(vs:List Value)(o:Nat)(w:World),n<=o->Q5 w base e 1 (some (at0 k)) n c xs->Q5 (w.setCells k o vs) base e 1 (some (at0 k)) n c xs/\Upd (fun x=>x=k) w (w.setCells k o vs)
 | [],_,w,_,h=>⟨h,Upd.refl _ _⟩
 |v::vs,o,w,y,h=>by
  have hs:Qt w ⟨k,o,none⟩ v (w.setCell ⟨k,o,none⟩ v):=rfl;have r:Upd (fun x=>x=k) w (w.setCell ⟨k,o,none⟩ v):=hs.upd;have i:Q5 (w.setCell ⟨k,o,none⟩ v) base e 1 (some (at0 k)) n c xs:=by
   refine⟨h.1,?_⟩;rcases h.2 with⟨d,_⟩|⟨g,cap,cur,d,hb,t,i,l,q,u⟩
   ·simp at d
   ·right
    simp only[Value.slice.injEq,Zi,at0,Zv,and_true]at d;obtain⟨rfl,_,rfl⟩:=d;refine⟨k,c,cur.setIfInBounds o v,rfl,hb,hs.at t rfl,i,l,by simp[q],?_⟩;rw[Array.toList_setIfInBounds,←u,Nat.mul_one];refine List.ext_getElem? fun j=> ?_;rw[List.getElem?_take,List.getElem?_take]
    by_cases f:j<n
    ·rw[if_pos f,if_pos f,List.getElem?_set_ne (by omega)]
    ·rw[if_neg f,if_neg f]
  obtain⟨l,q⟩:=Q5.behind vs (o+1) _ (by omega) i;exact⟨l,Upd.trans r q fun _ _ h=>h⟩
theorem Qvi{w:World}{base:Nat}{p:σ}{n c:Nat}{l:List Nat}(h:QI w base p n c l)(N:n<=1073741824):
  Calls prog 103 #[.slice p n c] w fun e w'=>e= .returned (.tuple #[])/\∃B,QI w' base p n c B/\Upd (fun x=>p=some (at0 x)) w w'/\B.Perm l/\B.Pairwise (· <= ·):=by
 have J:=QI.len h;rcases h.where_ with⟨rfl,rfl,rfl⟩|⟨g,rfl,hb,K,C,cur,j,D,o⟩
 ·refine(AnyM.slices_Sort_int_none QUi none 0 w).mono ?_
  rintro e w' ⟨rfl,rfl⟩;have:l=[]:=Zk J.symm;subst this;exact⟨rfl,[],h,Upd.refl _ _,List.Perm.refl _,List.Pairwise.nil⟩
 ·have r:(l.map fun i:Nat=>(i:Int)).length=n:=by rw[List.length_map,J]
  have t:(l.map fun i:Nat=>(i:Int)).map (Value.int .i64)=QI1 l:=by simp[QI1]
  have M:=holds_of_blockI (ss:=l.map fun i:Nat=>(i:Int)) j (by rw[r,t,←o,Nat.mul_one]);have hs:=AnyM.slices_Sort_int QUi g 0 c (l.map fun i:Nat=>(i:Int)) w M K (by rw[r];omega);rw[r]at hs;refine hs.mono ?_;rintro e w' ⟨rfl,m,os,rfl⟩
  let ts:=(l.map fun i:Nat=>(i:Int)).mergeSort fun x y=>decide (x<=y)
  have E:ts.Perm (l.map fun i:Nat=>(i:Int)):=List.mergeSort_perm _ _;have f:ts.Pairwise (· <= ·):=by
   have:=List.pairwise_mergeSort (le:=fun x y:Int=>decide (x<=y)) (fun a b c d z=>by simp at*;omega) (fun a b=>by simp;omega) (l.map fun i:Nat=>(i:Int));exact this.imp fun h=>by simpa using h
  have q:∀x∈ts,0<=x:=fun x F=>by
   obtain⟨i,_,rfl⟩:=List.mem_map.1 (E.mem_iff.1 F);omega
  have G:(ts.map Int.toNat).map (fun i:Nat=>(i:Int))=ts:=by
   rw[List.map_map];refine(List.map_congr_left fun x F=> ?_).trans (List.map_id ts);have:=q x F;show((x.toNat:Nat):Int)=x
   omega
  have u:QI1 (ts.map Int.toNat)=ts.map (Value.int .i64):=by
   conv=>rhs;rw[←G]
   simp[QI1]
  have v:ts.length=(l.map fun i:Nat=>(i:Int)).length:=E.length_eq;refine⟨rfl,ts.map Int.toNat,?_,?_,?_,?_⟩
  ·have d:=ownsRow_sortedI (n:=m) (os:=os) v hb j (by rw[r];exact C) (by
    rcases h.2 with⟨A,_⟩|⟨O,cap,cur',A,_,_,_,z,_⟩
    ·simp at A
    ·simp only[Value.slice.injEq]at A
     rw[A.2.2];exact z) D
   rw[r]at d;unfold QI Q5;rw[u];exact d
  ·have d:=grownBy_sortedI (w:=w) (g:=g) (n:=m) (os:=os) ts.toArray
   refine⟨d.os,d.tape,d.output,d.size,fun b I hS=>d.block b I ?_⟩;intro e;simp only[Zi]at e;exact hS (by rw[e])
  ·have d:=E.map Int.toNat
   rw[List.map_map]at d;have z:l.map (Int.toNat∘fun i:Nat=>(i:Int))=l:=(List.map_congr_left fun x _=>by show((x:Int)).toNat=x;omega).trans (List.map_id l)
   rwa [z]at d
  ·rw[List.pairwise_map]
   exact f.imp_of_mem fun{a b} ha hb h=>by
    have:=q a ha;have:=q b hb;omega
theorem QMh{l:List Nat}{i:Nat}(h:i<l.length):l.getD i 0∈l:=by
 rw[Zj,Zc h];exact List.getElem_mem h
theorem Qx8{l:List Nat}(h:l.Pairwise (· <= ·)){i j:Nat}(e:i<=j)(f:j<l.length):l.getD i 0<=l.getD j 0:=by
 rcases Nat.lt_or_ge i j with d|d
 ·simp only[Zj,Zc f,Zc (show i<l.length by omega),Option.getD_some]
  exact List.pairwise_iff_getElem.1 h i j _ _ d
 ·rw[show i=j by omega];exact Nat.le_refl _
theorem Qb3(r:List Nat)(i v j:Nat)(hi:i<r.length):(r.set i v).getD j 0=if j=i then v else r.getD j 0:=by
 simp only[Zj,List.getElem?_set]
 by_cases h:j=i
 ·subst h;simp[hi]
 ·rw[if_neg (fun e=>h e.symm),if_neg h]
structure Qhd(l r:List Nat)(i t:Nat):Prop where
 len:r.length=l.length
 it:0<i/\i<t/\t<=l.length
 tail:∀j,t<=j+1->j<l.length->r.getD j 0=l.getD j 0
 strict:∀a b,a<b->b<i->r.getD a 0<r.getD b 0
 last:r.getD (i-1) 0=l.getD (t-1) 0
 sub:∀a,a<i->∃b,b<t/\r.getD a 0=l.getD b 0
 sup:∀b,b<t->∃a,a<i/\r.getD a 0=l.getD b 0
theorem Qhd.init{l:List Nat}{i:Nat}(h:∀a b,a<b->b<i->l.getD a 0<l.getD b 0)(f:0<i)(hi:i<l.length)(d:l.getD i 0=l.getD (i-1) 0):Qhd l l i (i+1):=
 ⟨rfl,⟨f,by omega,by omega⟩,fun _ _ _=>rfl,h,by rw[Nat.add_sub_cancel,d],fun a ha=>⟨a,by omega,rfl⟩,fun b hb=>by
  by_cases e:b=i
  ·exact⟨i-1,by omega,by rw[e,d]⟩
  ·exact⟨b,by omega,rfl⟩⟩
theorem Qhd.same{l r:List Nat}{i t:Nat}(h:Qhd l r i t)(ht:t<l.length)(d:l.getD t 0=l.getD (t-1) 0):Qhd l r i (t+1):=by
 obtain⟨f,q,u⟩:=h.it;refine⟨h.len,⟨f,by omega,by omega⟩,fun j v g=>h.tail j (by omega) g,h.strict,by rw[h.last,Nat.add_sub_cancel,d],fun a ha=> ?_,fun b hb=> ?_⟩
 ·obtain⟨b,hb,e⟩:=h.sub a ha
  exact⟨b,by omega,e⟩
 ·by_cases e:b=t
  ·obtain⟨a,ha,o⟩:=h.sup (t-1) (by omega)
   exact⟨a,ha,by rw[o,e,d]⟩
  ·exact h.sup b (by omega)
theorem Qhd.more{l r:List Nat}{i t:Nat}(h:Qhd l r i t)(hs:l.Pairwise (· <= ·))(ht:t<l.length)(v:l.getD t 0≠l.getD (t-1) 0):Qhd l (r.set i (l.getD t 0)) (i+1) (t+1):=by
 obtain⟨x,y,z⟩:=h.it;have q:=h.len;have u:l.getD (t-1) 0<l.getD t 0:=by
  have:=Qx8 hs (i:=t-1) (j:=t) (by omega) ht;omega
 have d:∀a,a<i->r.getD a 0<=r.getD (i-1) 0:=fun a ha=>by
  by_cases e:a=i-1
  ·rw[e];exact Nat.le_refl _
  ·exact Nat.le_of_lt (h.strict a (i-1) (by omega) (by omega))
 refine⟨by rw[List.length_set,q],⟨by omega,by omega,by omega⟩,fun j A f=> ?_,fun a b g hb=> ?_,?_,fun a ha=> ?_,fun b hb=> ?_⟩
 ·rw[Qb3 _ _ _ _ (by omega),if_neg (by omega)]
  exact h.tail j (by omega) f
 ·rw[Qb3 _ _ _ _ (by omega),Qb3 _ _ _ _ (by omega),if_neg (by omega)]
  by_cases e:b=i
  ·rw[if_pos e]
   have:=d a (by omega);have:=h.last;omega
  ·rw[if_neg e];exact h.strict a b g (by omega)
 ·rw[Qb3 _ _ _ _ (by omega),if_pos (by omega),Nat.add_sub_cancel]
 ·rw[Qb3 _ _ _ _ (by omega)]
  by_cases e:a=i
  ·rw[if_pos e];exact⟨t,by omega,rfl⟩
  ·rw[if_neg e]
   obtain⟨b,hb,o⟩:=h.sub a (by omega);exact⟨b,by omega,o⟩
 ·by_cases e:b=t
  ·exact⟨i,by omega,by rw[Qb3 _ _ _ _ (by omega),if_pos rfl,e]⟩
  ·obtain⟨a,ha,o⟩:=h.sup b (by omega)
   exact⟨a,by omega,by rw[Qb3 _ _ _ _ (by omega),if_neg (by omega),o]⟩
theorem Qhd.done{l r:List Nat}{i:Nat}(h:Qhd l r i l.length):(r.take i).Pairwise (· < ·)/\∀x,x∈r.take i↔x∈l:=by
 obtain⟨q,t,u⟩:=h.it;have v:=h.len;have f:∀a (ha:a<(r.take i).length),(r.take i)[a]=r.getD a 0:=fun a ha=>by
  have:a<r.length:=by simp at ha;omega
  simp[Zj,this]
 refine⟨List.pairwise_iff_getElem.2 fun a b ha hb g=> ?_,fun x=>⟨fun j=> ?_,fun j=> ?_⟩⟩
 ·rw[f,f]
  exact h.strict a b g (by simp at hb;omega)
 ·obtain⟨a,ha,rfl⟩:=List.getElem_of_mem j
  rw[f];obtain⟨b,hb,e⟩:=h.sub a (by simp at ha;omega);rw[e];exact QMh hb
 ·obtain⟨b,hb,rfl⟩:=List.getElem_of_mem j
  obtain⟨a,ha,e⟩:=h.sup b hb;have o:l[b]=l.getD b 0:=by simp[Zj,hb]
  have d:a<(r.take i).length:=by simp;omega
  rw[o,←e,←f a d];exact List.getElem_mem d
theorem Qhb{w:World}{base:Nat}{p:σ}{n c:Nat}{l:List Nat}(h:QI w base p n c l)(hs:l.Pairwise (· <= ·))(hn:n<=1073741824):
  Calls prog 104 #[.slice p n c] w fun e w'=>∃C q,e= .returned (.slice p C c)/\QI w' base p C c q/\Upd (fun x=>p=some (at0 x)) w w'/\q.Pairwise (· < ·)/\∀x,x∈q↔x∈l:=by
 have Z:=QI.len h
 refine(F104_calls p n c w (fun v w'=>∃C q,v= .slice p C c/\QI w' base p C c q/\Upd (fun x=>p=some (at0 x)) w w'/\q.Pairwise (· < ·)/\∀x,x∈q↔x∈l)
  (fun _ i w1=>1<=i/\i<=n/\Ext w w1/\∀a b:Nat,a<b->(b:Int)<i->l.getD a 0<l.getD b 0) (fun _ i _=>(n-i).toNat)
  (fun _ N _ _ i j w1=>1<=j/\j<=N/\N<=n/\0<=i/\Upd (fun x=>p=some (at0 x)) w w1/\∃r,QI w1 base p n c r/\Qhd l r i.toNat ((n-N)+j.toNat)) (fun _ N _ _ _ j _=>(N-j).toNat) ?_).mono (by
  rintro e w' ⟨v,rfl,C,q,rfl,h⟩;exact⟨C,q,rfl,h⟩)
 refine Q0 (fun h2=> ?_) (fun h2=> ?_)
 ·simp only[Za]at h2
  refine⟨n,l,rfl,h,Upd.refl _ _,?_,fun x=>Iff.rfl⟩
  match l,Z with
  | [],_=>exact List.Pairwise.nil
  | [a],_=>exact List.pairwise_singleton _ _
  |a::b::t,Z=>simp at Z;omega
 simp only[Zb]at h2;refine⟨⟨by omega,by omega,Upd.refl _ _,fun a b h3 h4=>by omega⟩,?_⟩;rintro i w1 ⟨av,aw,D,u⟩
 intros
 refine Q0 (fun y=> ?_) (fun y=> ?_)
 ·simp only[Za]at y
  intro ad hd;have E:=D.trans hd.ext;have F:QI ad base p n c l:=Q5.ext h E;rw[w64 (n:=i-1) (by omega)];obtain⟨k,rfl,c1,ay,_⟩:=QI.get F (i:=i.toNat) (by omega);obtain⟨k',ae,c2,_,_⟩:=QI.get F (i:=i.toNat-1) (by omega);cases ae;have e1:(i-1).toNat=i.toNat-1:=by omega
  rw[e1,Nat.mul_one,Nat.mul_one];refine⟨⟨by omega,y⟩,_,c1,⟨by omega,by omega⟩,_,c2,Q0 (fun he=> ?_) (fun he=> ?_)⟩
  ·simp only[Za]at he
   have ah:l.getD i.toNat 0=l.getD (i.toNat-1) 0:=by omega
   have G:Qhd l l i.toNat (i.toNat+1):=Qhd.init (fun a b h3 h4=>u a b h3 (by omega)) (by omega) (by omega) ah;refine⟨⟨by omega,by omega⟩,⟨by omega,by omega,by omega,by omega,E.upd,l,F,?_⟩,?_⟩
   ·rw[show n-(n-i.toNat)+(1:Int).toNat=i.toNat+1 by have:(1:Int).toNat=1:=rfl;omega]
    exact G
   rintro f j O ⟨a0,a1,_,aq,hu,r,Q,A⟩
   intros
   have a2:=QI.le Q;obtain⟨q0,q1,q2⟩:=A.it;have R:QT0 (some (at0 k)) c i.toNat 1=some ((at0 k).add i.toNat):=by
    unfold QT0;rw[if_neg (by omega)];show some ((at0 k).add (i.toNat*1))=_
    rw[Nat.mul_one]
   rw[R];refine Q0 (fun z=> ?_) (fun z=> ?_)
   ·simp only[Za]at z
    intro S B;have g:QI S base (some (at0 k)) n c r:=Q5.ext Q B.ext;have T:Upd (fun x=>some (at0 k)=some (at0 x)) w S:=Upd.trans hu B.ext.upd fun _ _ h=>h;rw[w64 (n:=j-1) (by omega),w64 (n:=j+1) (by omega),w64 (n:=f+1) (by omega)];have e2:(j-1).toNat=j.toNat-1:=by omega
    obtain⟨Y,d,U,_,_⟩:=QI.get g (i:=i.toNat+j.toNat) (by omega);cases d;obtain⟨Y,d,d2,_,_⟩:=QI.get g (i:=i.toNat+(j.toNat-1)) (by omega);cases d;obtain⟨Y,d,_,lv,V⟩:=QI.get g (i:=f.toNat) (by omega);cases d;simp only[e2,Nat.mul_one];have t1:=A.tail (i.toNat+j.toNat) (by omega) (by omega);have t2:=A.tail (i.toNat+(j.toNat-1)) (by omega) (by omega);have ht:n-(n-i.toNat)+j.toNat=i.toNat+j.toNat:=by omega
    rw[ht]at A;have o:(((n-i.toNat:Nat):Int)-(j+1)).toNat<(((n-i.toNat:Nat):Int)-j).toNat:=by omega
    refine⟨⟨by omega,z⟩,_,by rw[QB];exact U,⟨by omega,by omega⟩,_,by rw[QB];exact d2,Q0 (fun I=> ?_) (fun I=> ?_)⟩
    ·simp only[Zg,Zb]at I
     refine⟨⟨by omega,by omega⟩,_,by rw[QB];exact U,⟨by omega,by omega⟩,lv,fun au W=> ?_⟩;obtain⟨J,X⟩:=V _ _ W;refine⟨⟨by omega,by omega,by omega,by omega,Upd.trans T (X.mono fun x _ D=>by rw[show x=k from D]) fun _ _ h=>h,_,J,?_⟩,o⟩;rw[show n-(n-i.toNat)+(j+1).toNat=i.toNat+j.toNat+1 by omega,show(f+1).toNat=f.toNat+1 by omega,t1];refine A.more hs (by omega) ?_;rw[show i.toNat+j.toNat-1=i.toNat+(j.toNat-1) by omega,←t1,←t2];omega
    ·simp only[Zf,Za]at I
     refine⟨⟨by omega,by omega,by omega,by omega,T,r,g,?_⟩,o⟩;rw[show n-(n-i.toNat)+(j+1).toNat=i.toNat+j.toNat+1 by omega];refine A.same (by omega) ?_;rw[show i.toNat+j.toNat-1=i.toNat+(j.toNat-1) by omega,←t1,←t2];omega
   ·simp only[Zb]at z
    have ht:n-(n-i.toNat)+j.toNat=l.length:=by omega
    rw[ht]at A q1;obtain⟨ak,al⟩:=A.done;have K:QT0 (some (at0 k)) c f.toNat 1=some ((at0 k).add f.toNat):=by
     unfold QT0;rw[if_neg (by omega)];show some ((at0 k).add (f.toNat*1))=_
     rw[Nat.mul_one]
    rw[K,Qff,Nat.sub_zero,Nat.sub_zero,QJ];have am:=Lib.run_clear_slice (P:=prog) O 30 3 0 (int i64 0) (by kernel_rfl) (fun w=>by kernel_rfl) rfl rfl k f.toNat (n-f.toNat) (c-f.toNat) (by omega)
     (fun t ht=>by
      obtain⟨Y,d,U,_,_⟩:=QI.get Q (i:=f.toNat+t) (by omega);cases d;rw[QJ]at U
      rw[U];rfl) (fun t ht=>by
      obtain⟨Y,d,_,lv,_⟩:=QI.get Q (i:=f.toNat+t) (by omega);cases d;have:=lv.2
      rwa [QJ]at this)
    obtain⟨g1,g2⟩:=Q5.behind (List.replicate (n-f.toNat) (int i64 0)) f.toNat O (Nat.le_refl _) (QI.cut Q (m:=f.toNat) (by omega));refine⟨⟨by omega,by omega⟩,_,_,am,⟨by omega,by omega⟩,f.toNat,_,rfl,g1,Upd.trans hu (g2.mono fun x _ D=>by rw[show x=k from D]) fun _ _ h=>h,ak,al⟩
  ·simp only[Zb]at he
   rw[w64 (n:=i+1) (by omega)];refine⟨⟨by omega,by omega,E,fun a b M hb=> ?_⟩,by show((n:Int)-(i+1)).toNat<((n:Int)-i).toNat;omega⟩
   by_cases e:(b:Int)<i
   ·exact u a b M e
   ·have ao:b=i.toNat:=by omega
    have h3:=Qx8 hs (i:=i.toNat-1) (j:=i.toNat) (by omega) (by omega);have h4:l.getD (i.toNat-1) 0<l.getD i.toNat 0:=by omega
    rw[ao]
    by_cases e2:a=i.toNat-1
    ·rw[e2];exact h4
    ·have:=u a (i.toNat-1) (by omega) (by omega)
     omega
 ·simp only[Zb]at y
  refine⟨n,l,rfl,Q5.ext h D,D.upd,List.pairwise_iff_getElem.2 fun a b ha hb M=> ?_,fun x=>Iff.rfl⟩;have:=u a b M (by omega);simpa[Zj,ha,hb]using this
open Go Go.Vc Go.Gf
open Go.IntKind (i64)
open Go.Value (int)
open Go.Proofs.Tryz (prog)
theorem Q63(e:TypeId)(v:Value)(d:Qc prog e=[v])(n:Nat):QK prog e n=(List.replicate n v).toArray:=by
 have f:(List.replicate n [v]).flatten=List.replicate n v:=by
  clear d
  induction n with
  |zero=>rfl
  |succ n ih=>rw[List.replicate_succ,List.flatten_cons,ih,List.replicate_succ];rfl
 show((List.replicate n (Qc prog e)).flatten).toArray=_
 rw[d,f]
def QNg(w:World)(k m:Int)(l3 l4:Nat)(hs:List Bool)(L:List (τ))(v:Value)(w':World):Prop:=Ext w w'∧
 ((¬QZ0 k m/\v= .tuple #[.slice none 0 0, .slice none 0 0,int i64 50])∨
  (QZ0 k m/\(∀s,¬QF2 k m l3 l4 hs L s)/\v= .tuple #[.slice none 0 0, .slice none 0 0,int i64 60])∨
  QZ0 k m/\∃s,QF2 k m l3 l4 hs L s/\(((∃x,x<s/\Ql5 k.toNat m.toNat (QH l3 hs L x) (Ql1 hs)=none)/\v= .tuple #[.slice none 0 0, .slice none 0 0,int i64 100])∨
  ∃cs:List (τ),cs.length=s/\(∀x,x<s->Ql5 k.toNat m.toNat (QH l3 hs L x) (Ql1 hs)=some (cs.getD x []))/\∃ko p2 n2 c2 W,v= .tuple #[.slice (some (at0 ko)) l3 l3, .slice p2 n2 c2,int i64 0]∧
   QK0 w' w.heap.size ko l3 (fun i=>cs.map fun c=>co c i)/\QI w' w.heap.size p2 n2 c2 W/\W.Pairwise (· < ·)/\∀i,i∈W↔∃x,x<s/\i∈dif l3 (Ql1 hs) (cs.getD x []) (QH l3 hs L x)))
theorem Qm5{n:Nat}{ms:List Bool}{a b:τ}:(dif n ms a b).length<=n:=by
 unfold dif;refine Zu (List.length_filter_le _ _) ?_;rw[List.length_range];exact Nat.le_refl _
theorem Q57{cs:List (τ)}{c:τ}{x:Nat}(d:x<cs.length):(cs++ [c]).getD x []=cs.getD x []:=by
 simp only[Zj];rw[Zl d]
theorem Q47(cs:List (τ))(c:τ):(cs++ [c]).getD cs.length []=c:=by simp[Zj]
theorem Qgc{f p3 p4:σ}{w:World}{d c3 l4 c4:Nat}{hs:List Bool}{L:List (τ)}(hf:Qm w f)(h3:QX w p3 d hs)(h4:Qr w p4 l4 L)(k m:Int)(bl:∀x∈L,x.length<=1048576):
  Calls prog 65 #[.pointer f,int i64 k,int i64 m, .slice p3 d c3, .slice p4 l4 c4] w fun e w'=>∃v,e= .returned v/\QNg w k m d l4 hs L v w':=by
 refine F65_calls f k m p3 d c3 p4 l4 c4 w (QNg w k m d l4 hs L)
  (fun b0 b1 q8 b2 b3 b4 b5 q6 _ _ s _ fl x w1=>0<=x/\x<=s/\fl=0/\∃k6 k8 I J K l A q B S cs wr,b0=some (at0 l)/\b1=some (at0 A)/\q8=some (at0 k8)/\b2=some (at0 I)/\b3=some (at0 J)/\b4=some (at0 q)/\b5=some (at0 K)/\q6=some (at0 k6)/\(cs:List (τ)).length=x.toNat∧
   (∀t,t<x.toNat->Ql5 k.toNat m.toNat (QH d hs L t) (Ql1 hs)=some (cs.getD t []))/\Qek w w1 k m d f p3 p4 d c3 l4 c4 k6 k8 I J K l A q B S (fun i=>cs.map fun c=>co c i) wr/\wr.length<=256*x.toNat∧
   ∀i,i∈wr↔∃t,t<x.toNat/\i∈dif d (Ql1 hs) (cs.getD t []) (QH d hs L t))
  (fun _ _ _ _ _ _ _ _ _ _ s _ _ x _=>(s-x).toNat) ?_
 intro k6 w7 h6 k8 w9 M I du aa J dw T K C N;have D:Ext w C:=h6.ext.trans (M.ext.trans (aa.ext.trans (T.ext.trans N.ext)));have r6:Q7 C k6 33 #[.pointer f]:=N.ext.keep (T.ext.keep (aa.ext.keep (M.ext.keep h6.at)));have r8:Q7 C k8 3 #[int i64 k]:=N.ext.keep (T.ext.keep (aa.ext.keep M.at));have r10:Q7 C I 3 #[int i64 m]:=N.ext.keep (T.ext.keep aa.at);have r12:Q7 C J 116 #[.slice p3 d c3]:=N.ext.keep T.at;have r14:Q7 C K 79 #[.slice p4 l4 c4]:=N.at;refine⟨_,r6.cell,?_⟩;rw[hf.there];refine Q0 (fun h=>by cases h) fun _=>⟨_,r8.cell,_,r10.cell,(Qk4 k m C).mono ?_⟩;rintro e dx ⟨rfl,rfl⟩;refine⟨_,rfl,Q0 (fun hc=> ?_) (fun hc=> ?_)⟩
 ·simp only[Zg,Zb]at hc
  have Z:¬QZ0 k m:=fun h=>hc (Q64 h);refine⟨D, .inl ⟨Z,?_⟩⟩;rw[Qq1 Z]
 simp only[Zf,Za]at hc;have Z:QZ0 k m:=Decidable.byContradiction fun h=>by rw[Qq1 h]at hc;omega
 obtain⟨a1,a2,a3,a4⟩:=Z;have Z:QZ0 k m:=⟨a1,a2,a3,a4⟩;refine⟨_,r8.cell,_,r10.cell,_,_,_,r12.cell,_,_,_,r14.cell,?_⟩;refine(QOg (c3:=c3) (c4:=c4) (h3.ext D) (h4.ext D) Z).mono ?_;rintro e O ⟨⟨r,rfl,hr⟩,rfl⟩;refine⟨_,rfl,Q0 (fun U=> ?_) (fun U=> ?_)⟩
 ·simp only[Za]at U
  rcases hr with⟨_,b6⟩|⟨h0,_⟩
  ·exact⟨D, .inr (.inl ⟨Z,b6,rfl⟩)⟩
  ·omega
 simp only[Zb]at U;rcases hr with⟨h0,_⟩|⟨d1,E⟩
 ·omega
 have e3:=h3.1;have e4:=h4.1;have z1:=E.1;have z2:=E.2.1;have hn:(k+m).toNat=d:=by omega
 have b7:k.toNat+m.toNat=d:=by omega
 refine⟨_,r8.cell,_,r10.cell,?_⟩;rw[w64 (n:=k+m) (by omega),hn];refine⟨⟨by omega,by omega,by omega⟩,fun B d2 V l b8 ab=> ?_⟩;have t33:Q7 b8 l 79 #[.slice none 0 0]:=ab.at;have b9:=Q63 25 (.slice none 0 0) (by kernel_rfl) d;have ca:=Q63 4 (.bool false) (by kernel_rfl) d;rw[b9]at V;refine⟨t33.live,fun bc be=> ?_⟩;have bf:=t33.set be;have bg:=QR0 be;have am:O.heap.size<=l:=by rw[ab.size.1];have:=V.size.2;omega
 have bh:Ext O bc:=Q2.new_ext (V.ext.trans ab.ext) bg fun y u=>by rw[show y=l from u];exact am
 intro A P F;have ac:Ext O P:=bh.trans F.ext;refine⟨_,Q7.cell (ac.keep r8),_,Q7.cell (ac.keep r10),?_⟩;rw[w64 (n:=k+m) (by omega),hn];refine⟨⟨by omega,by omega,by omega⟩,fun S d3 X q cb ad=> ?_⟩;rw[ca]at X;have ao:Q7 cb q 116 #[.slice none 0 0]:=ad.at;refine⟨ao.live,fun bi bj=> ?_⟩;have bk:=QR0 bj;have szw:=D.size;have c6:=ac.size;have cc:P.heap.size<=S:=by rw[X.size.1];exact Nat.le_refl _
 have aq:P.heap.size<=q:=by rw[ad.size.1];have:=X.size.2;omega
 have Q:Ext P bi:=Q2.new_ext (X.ext.trans ad.ext) bk fun y u=>by rw[show y=q from u];exact aq
 have j:=ac.trans Q;have bm:=D.trans j;have ar:Q7 bc B 25 (List.replicate d (.slice none 0 0)).toArray:=Q7.keep (ab.ext.keep V.at) bg fun y u=>⟨#[.slice none 0 0],_,(0,0),by rw[show y=l from u];exact t33,Qd4.2.2.2.1.symm⟩;have cf:O.heap.size<=B:=by rw[V.size.1];exact Nat.le_refl _
 have cg:Qek w bi k m d f p3 p4 d c3 l4 c4 k6 k8 I J K l A q B S (fun i=>([]:List (τ)).map fun c=>co c i) []:=by
  have ae:∀{k':Nat}{e:TypeId}{cs:Array Value},Q7 O k' e cs->k'<O.heap.size:=fun h=>Qe h;have c8:B<P.heap.size:=Qe (F.ext.keep ar)
  refine⟨bm,by rw[F.size.1];exact(D.trans bh).size,by omega,j.keep r6,j.keep r8,j.keep r10,j.keep r12,j.keep r14,Q.keep (F.ext.keep bf),ao.set bj,
   ⟨by have:=ae r12;omega,by have:=ae r14;omega⟩,⟨none,0,0,P.heap.size,by omega,Q.size,by have:=ae r8;omega,by have:=ae r10;omega,Q.keep F.at,Q5.nil _ _ _ _⟩,
   ⟨⟨_,Q.keep (F.ext.keep ar),by simp⟩,by omega,fun _=>(none,0,0),fun i hi=>⟨?_,Q5.nil _ _ _ _⟩,fun _ _ _ _ _ g hg=>by cases hg⟩,⟨(List.replicate d (.bool false)).toArray,?_,by simp⟩⟩
  ·rw[Qj (Q.keep (F.ext.keep ar))]
   simp[hi]
  ·exact Q7.keep (ad.ext.keep X.at) bk fun y u=>⟨#[.slice none 0 0],_,(0,0),by rw[show y=q from u];exact ao,Qg0.2.2.2.2.1.symm⟩
 refine⟨⟨by omega,by omega,rfl,k6,k8,I,J,K,l,A,q,B,S,[],[],rfl,rfl,rfl,rfl,rfl,rfl,rfl,rfl,rfl,fun t ht=>(Nat.not_lt_zero _ ht).elim,cg,Nat.zero_le _,fun i=>⟨(fun h=>by cases h),fun⟨_,ht,_⟩=>(Nat.not_lt_zero _ ht).elim⟩⟩,?_⟩;rintro fl x ch ⟨d5,d6,rfl,d7,d8,c9,da,db,dc,de,df,o,bn,cs,wr,g1,g2,g3,g4,g5,g6,g7,g8,Y,bo,st,ci,bp⟩;simp only[Zi,at0,Zv,and_true]at g1 g2 g3 g4 g5 g6 g7 g8;subst g1 g2 g3 g4 g5 g6 g7 g8
 intros
 have au:∀i,i<d->hs.getD i false=true->r.toNat<=1048576:=fun i hi hb=>by
  rw[←E.2.2.2 i hi hb,Zj,Zc (by omega)];exact bl _ (List.getElem_mem _)
 obtain⟨i0,ck,cm⟩:=E.2.2.1;have dq:=au i0 ck cm;refine Q0 (fun av=> ?_) (fun av=> ?_)
 ·simp only[Za]at av
  have bq:=Qfe hf h3 h4 Z (by omega) E (x:=x.toNat) (by omega) (by omega) (fun t _=>by rw[List.length_map];omega) ci st;rw[show((x.toNat:Nat):Int)=x by omega]at bq;refine bq.mono ?_;rintro e ea ⟨br,⟨hd,rfl⟩|⟨c,hd,rfl,st'⟩⟩
  ·refine⟨_,rfl,Q0 (fun _=> ?_) (fun h=>by simp at h)⟩
   unfold F65_A0;refine Q0 (fun _=> ?_) (fun h=>by simp at h);exact⟨br, .inr (.inr ⟨Z,r.toNat,E, .inl ⟨⟨x.toNat,by omega,hd⟩,rfl⟩⟩)⟩
  ·refine⟨_,rfl,Q0 (fun h=>by simp at h) fun _=> ?_⟩
   rw[w64 (n:=x+1) (by omega)];have cp:(x+1).toNat=x.toNat+1:=by omega
   rw[b7]at st';refine⟨⟨by omega,by omega,rfl,_,_,_,_,_,_,_,_,o,bn,cs++ [c],wr++dif d (Ql1 hs) c (QH d hs L x.toNat),rfl,rfl,rfl,rfl,rfl,rfl,rfl,rfl,by simp;omega,fun t ht=> ?_,?_,?_,fun i=> ?_⟩,by show(r-(x+1)).toNat<(r-x).toNat;omega⟩
   ·by_cases e:t<x.toNat
    ·rw[Q57 (by omega)];exact bo t e
    ·have e2:t=cs.length:=by omega
     rw[e2,Q47,Y];exact hd
   ·have e1:(fun i=>(cs++ [c]).map fun c=>co c i)=fun i=>(cs.map fun c=>co c i)++ [co c i]:=by funext i;simp
    rw[e1];exact st'
   ·have:=Qm5 (n:=d) (ms:=Ql1 hs) (a:=c) (b:=QH d hs L x.toNat)
    rw[List.length_append];omega
   ·rw[List.mem_append,bp,cp]
    constructor
    ·rintro(⟨t,ht,hi⟩|hi)
     ·exact⟨t,by omega,by rw[Q57 (by omega)];exact hi⟩
     ·exact⟨x.toNat,by omega,by rw[←Y,Q47,Y];exact hi⟩
    ·rintro⟨t,ht,hi⟩
     by_cases e:t<x.toNat
     ·rw[Q57 (by omega)]at hi;exact .inl ⟨t,e,hi⟩
     ·have e2:t=cs.length:=by omega
      rw[e2,Q47,Y]at hi;exact .inr hi
 ·simp only[Zb]at av
  obtain rfl:x=r:=by omega
  unfold F65_A0;refine Q0 (fun h=>by simp at h) fun _=> ?_;obtain⟨pw_,nw,cw,b,aw,ec,_,_,ak,how⟩:=st.r36;have ed:=QI.len how;refine⟨_,_,_,ak.cell,(Qvi how (by omega)).mono ?_⟩;rintro e af ⟨rfl,l',bs,ah,ax,bt⟩;have tyw:∀{e:TypeId},3≠e->∀y,pw_=some (at0 y)->∃(cs:Array Value)(R:TypeId)(fz:Nat×Nat),ch.heap[y]? =some (Obj.cells cs R fz)/\R≠e:=fun he y u=>by
   obtain⟨cs,R,fz,h7,M⟩:=Q5.typed how u;exact⟨cs,R,fz,h7,by rw[M];exact he⟩
  have az:Q7 af A 30 #[.slice pw_ nw cw]:=Q7.keep ak ah (tyw QO1.2.2.2.2.1);have a0:Q7 af l 79 #[.slice (some (at0 o)) d d]:=Q7.keep st.r33 ah (tyw QO1.2.2.2.1);have a5:QK0 af w.heap.size o d (fun i=>cs.map fun c=>co c i):=QK0.other st.out ah fun y u=>by
   obtain⟨cs,R,fz,h7,M⟩:=Q5.typed how u;exact⟨cs,R,fz,h7,by rw[M];exact QM.2.2.1.symm,by rw[M];exact QO1.2.1⟩
  have ct:Ext w af:=Q2.new_ext st.ext ah fun y u=>Zu aw (Q5.blk how u);refine⟨rfl,fun ai z=> ?_⟩;have bu:Q7 ai A 30 #[.slice pw_ nw cw]:=z.ext.keep az;have al:Q7 ai l 79 #[.slice (some (at0 o)) d d]:=z.ext.keep a0;have G:QI ai b pw_ nw cw l':=Q5.ext bs z.ext;refine⟨_,_,_,al.cell,_,_,_,bu.cell,(Qhb G bt (by omega)).mono ?_⟩;rintro e cu ⟨n',W,rfl,cx,a6,hW1,hW2⟩;have bv:∀{e:TypeId},3≠e->∀y,pw_=some (at0 y)->∃(cs:Array Value)(R:TypeId)(fz:Nat×Nat),ai.heap[y]? =some (Obj.cells cs R fz)/\R≠e:=fun he y u=>by
   obtain⟨cs,R,fz,h7,M⟩:=Q5.typed G u;exact⟨cs,R,fz,h7,by rw[M];exact he⟩
  have bw:Q7 cu l 79 #[.slice (some (at0 o)) d d]:=Q7.keep al a6 (bv QO1.2.2.2.1);refine⟨_,_,_,rfl,⟨_,_,_,bw.cell,rfl⟩,?_, .inr (.inr ⟨Z,x.toNat,E, .inr ⟨cs,Y,bo,o,pw_,n',cw,W,rfl,?_,Q5.base_le cx aw,hW1,fun i=> ?_⟩⟩)⟩
  ·exact Q2.new_ext (ct.trans z.ext) a6 fun y u=>Zu aw (Q5.blk G u)
  ·exact QK0.other (a5.ext z.ext) a6 fun y u=>by
    obtain⟨cs,R,fz,h7,M⟩:=Q5.typed G u;exact⟨cs,R,fz,h7,by rw[M];exact QM.2.2.1.symm,by rw[M];exact QO1.2.1⟩
  ·rw[hW2,ax.mem_iff,bp]
open Go Go.Vc Go.Gf
open Go.IntKind (i64)
open Go.Value (int)
open Go.Proofs.Tryz (prog)
def Qj0(w:World)(p:σ)(n:Nat)(l:List Nat):Prop:=n=l.length/\Qa w p (QI1 l)
theorem Qj0.ext{w w':World}{p:σ}{n:Nat}{l:List Nat}(h:Qj0 w p n l)(d:Ext w w'):Qj0 w' p n l:=⟨h.1,h.2.ext d⟩
theorem Qj0.get{w:World}{p:σ}{n:Nat}{l:List Nat}(h:Qj0 w p n l){i:Nat}(hi:i<n):∃a,p=some a/\w.cell? (a.add i)=some (int i64 ((l.getD i 0:Nat):Int)):=by
 have d:i<l.length:=by rw[←h.1];exact hi
 obtain⟨a,ha,e⟩:=h.2 i (int i64 ((l[i]:Nat):Int)) (by simp[QI1,d]);exact⟨a,ha,by rw[e];simp[Zj,d]⟩
theorem QI.nats{w:World}{base:Nat}{p:σ}{n c:Nat}{l:List Nat}(h:QI w base p n c l):Qj0 w p n l:=⟨QI.len h,Q5.cells h⟩
theorem QP4{xs ys:List Nat}(d:xs.length=ys.length)(h:∀i,i<xs.length->xs.getD i 0=ys.getD i 0):xs=ys:=by
 refine List.ext_getElem d fun i hi e=> ?_;have:=h i hi;simpa[Zj,hi,e]using this
theorem QVf{q r:σ}{f c1 t c2:Nat}{w:World}{xs ys:List Nat}(x:Qj0 w q f xs)(y:Qj0 w r t ys)(E:f<=4611686018427387904):
  Calls prog 52 #[.slice q f c1, .slice r t c2] w fun e w'=>e= .returned (.bool (decide (xs=ys)))/\Ext w w':=by
 refine(F52_calls q f c1 r t c2 w (fun v w'=>v= .bool (decide (xs=ys))/\Ext w w')
  (fun _ i w1=>0<=i/\i<=f/\Ext w w1/\∀j:Nat,(j:Int)<i->xs.getD j 0=ys.getD j 0) (fun _ i _=>(f-i).toNat) ?_).mono (by rintro e w' ⟨v,rfl,rfl,h⟩;exact⟨rfl,h⟩)
 have F:=x.1;have G:=y.1;refine Q0 (fun u=> ?_) (fun u=> ?_)
 ·simp only[Zg,Zb]at u
  have:xs≠ys:=by rintro rfl;omega
  exact⟨by simp[this],Upd.refl _ _⟩
 ·simp only[Zf,Za]at u
  refine⟨⟨by omega,by omega,Upd.refl _ _,fun j z=>by omega⟩,?_⟩;rintro i I ⟨l,B,A,g⟩
  intros
  refine Q0 (fun ht=> ?_) (fun ht=> ?_)
  ·simp only[Za]at ht
   intro C D;have d:=A.trans D.ext;refine⟨⟨l,ht⟩,?_⟩;obtain⟨a,rfl,ha⟩:=(x.ext d).get (i:=i.toNat) (by omega);obtain⟨b,rfl,hb⟩:=(y.ext d).get (i:=i.toNat) (by omega);refine⟨_,by rw[Nat.mul_one];exact ha,⟨l,by omega⟩,_,by rw[Nat.mul_one];exact hb,?_⟩;refine Q0 (fun o=> ?_) (fun o=> ?_)
   ·simp only[Zg,Zb]at o
    have:xs≠ys:=by rintro rfl;exact o rfl
    exact⟨by simp[this],d⟩
   ·simp only[Zf,Za]at o
    rw[w64 (by omega)];refine⟨⟨by omega,by omega,d,fun j z=> ?_⟩,by show((f:Int)-(i+1)).toNat<((f:Int)-i).toNat;omega⟩
    by_cases h:(j:Int)<i
    ·exact g j h
    ·have:j=i.toNat:=by omega
     rw[this];omega
  ·simp only[Zb]at ht
   have:xs=ys:=QP4 (by omega) fun j z=>g j (by omega);exact⟨by simp[this],A⟩
theorem Qdi(a:UInt8):pt a.toNat=a:=by unfold pt;exact UInt8.ofNat_toNat
theorem QF2.one{k m:Int}{d e:Nat}{hs:List Bool}{L:List (τ)}{s t:Nat}(h:QF2 k m d e hs L s)(f:QF2 k m d e hs L t):s=t:=by
 obtain⟨i,hi,hb⟩:=h.2.2.1;rw[←h.2.2.2 i hi hb,f.2.2.2 i hi hb]
open Go Go.Vc Go.Gf Go.ChangeShapes Go.WideShapes Go.ChangeAt Go.RowKit
open Go.IntKind (i64)
open Go.Value (int)
open Go.Proofs.Tryz (prog)
section
variable {H:Type}{enc:TypeId×Value->H}{w:World}{base:Nat}{sp:Nat->Bool}{held:Bool}
end
open Go Go.Vc Go.Gf
open Go.IntKind (i64)
open Go.Value (int)
open Go.Proofs.Tryz (prog)
theorem Qag(n:Nat)(ms:List Bool):(mis n ms).length<=n:=by
 unfold mis;exact Zu (List.length_filter_le _ _) (by simp)
theorem QBc(n:Nat)(ms:List Bool)(a b:τ):dif (n+1) ms a b=dif n ms a b++(if(!ms.getD n false&&decide (co a n≠co b n))=true then [n]else []):=Qi _ _
theorem ity:3≠5/\3≠4:=by decide
open Go Go.Vc Go.Gf
open Go.IntKind (i64)
open Go.Value (int)
open Go.Proofs.Tryz (prog)
theorem Q7.cell3{w:World}{k:Nat}{e:TypeId}{cs:Array Value}(h:Q7 w k e cs){i:Nat}{v:Value}(hi:cs[i]? =some v):w.cell? ((at0 k).add i)=some v:=by rw[Qj h,hi]
theorem Q7.cell0{w:World}{k:Nat}{e:TypeId}{cs:Array Value}(h:Q7 w k e cs){v:Value}(hi:cs[0]? =some v):w.cell? (at0 k)=some v:=by
 rw[show at0 k=(at0 k).add 0 from(QJ k 0).symm];exact h.cell3 hi
theorem Q7.live3{w:World}{k:Nat}{e:TypeId}{cs:Array Value}(h:Q7 w k e cs){i:Nat}(hi:i<cs.size):QD w ((at0 k).add i):=RowW.live ⟨_,h⟩ hi
theorem Q7.live0{w:World}{k:Nat}{e:TypeId}{cs:Array Value}(h:Q7 w k e cs)(hi:0<cs.size):QD w (at0 k):=by
 rw[show at0 k=(at0 k).add 0 from(QJ k 0).symm];exact h.live3 hi
theorem Q7.set3{w w':World}{k:Nat}{e:TypeId}{cs:Array Value}{i:Nat}{u:Value}(h:Q7 w k e cs)(hs:Qt w ((at0 k).add i) u w'):Q7 w' k e (cs.setIfInBounds i u)/\Upd (fun x=>x=k) w w':=by
 have d:=hs.upd;rw[Qx]at d;rw[QJ]at hs;exact⟨hs.at h rfl,d⟩
theorem Q7.set0{w w':World}{k:Nat}{e:TypeId}{cs:Array Value}{u:Value}(h:Q7 w k e cs)(hs:Qt w (at0 k) u w'):Q7 w' k e (cs.setIfInBounds 0 u)/\Upd (fun x=>x=k) w w':=by
 rw[show at0 k=(at0 k).add 0 from(QJ k 0).symm]at hs;exact h.set3 hs
theorem Q8{w0 w w':World}{k:Nat}(d:Ext w0 w)(e:w0.heap.size<=k)(f:Upd (fun x=>x=k) w w'):Ext w0 w':=Q2.new_ext d f fun y g=>by rw[show y=k from g];exact e
theorem Qb0:137≠5/\137≠33/\137≠3/\137≠79/\137≠25:=by decide
abbrev QQ7(r c:Int)(p:σ)(l cp:Nat):Value:= .agg #[int i64 r,int i64 c, .slice p l cp]
abbrev Q21(r c:Int)(p:σ)(l cp:Nat):Array Value:= #[int i64 r,int i64 c, .slice p l cp]
theorem QF9{f:σ}{w:World}(d:Qm w f){a b:Nat}(ha:a<4294967296)(hb:b<4294967296):
  Calls prog 150 #[.pointer f,int i64 (a:Int),int i64 (b:Int)] w fun e w'=>e= .returned (vb (gi (pt a^^^pt b)))/\Ext w w':=by
 refine(F150_calls f a b w (fun v w'=>v=vb (gi (pt a^^^pt b))/\Ext w w') ?_).mono (by rintro e w' ⟨v,rfl,rfl,h⟩;exact⟨rfl,h⟩);rw[px ha hb];refine(QM4 d _).mono ?_;rintro e i ⟨rfl,g⟩;exact⟨_,_,rfl,rfl,g⟩
def Q84(k r c:Nat):UInt8:=gi (pt (k+r)^^^pt c)
theorem Qia{f:σ}{w:World}{kf kk k r c:Nat}(d:Qm w f)(g:Q7 w kf 33 #[.pointer f])(i:Q7 w kk 3 #[int i64 (k:Int)])(o:k<=256)(q:r<=256)(t:c<=256):
  Calls prog 149 #[int i64 (r:Int),int i64 (c:Int), .pointer (some (at0 kf)), .pointer (some (at0 kk))] w fun e w'=>e= .returned (vb (Q84 k r c))/\Ext w w':=by
 refine(F149_calls r c (at0 kf) (at0 kk) w (fun v w'=>v=vb (Q84 k r c)/\Ext w w') ?_).mono (by rintro e w' ⟨v,rfl,rfl,h⟩;exact⟨rfl,h⟩);refine⟨_,g.cell,_,i.cell,?_⟩;have j:i64.wrap ((k:Int)+(r:Int))=((k+r:Nat):Int):=by rw[w64 (by omega)];omega
 rw[j];refine(QF9 d (by omega) (by omega)).mono ?_;rintro e u ⟨rfl,l⟩;exact⟨_,rfl,rfl,l⟩
def QA4(val:Nat->Nat->UInt8)(cols L:Nat):τ:=(List.range L).map fun t=>val (t/cols) (t % cols)
theorem Qm2(val:Nat->Nat->UInt8)(cols L:Nat):(QA4 val cols L).length=L:=by simp[QA4]
theorem Q37(val:Nat->Nat->UInt8){cols L t:Nat}(h:t<L):co (QA4 val cols L) t=val (t/cols) (t % cols):=by simp[Gf.co,QA4,Zj,h]
theorem QO4(val:Nat->Nat->UInt8){cols r c:Nat}(h:c<cols):QA4 val cols (r*cols+c)++ [val r c]=QA4 val cols (r*cols+c+1):=by
 have d:(r*cols+c)/cols=r:=by
  rw[Nat.mul_comm,Nat.mul_add_div (by omega),Nat.div_eq_of_lt h,Nat.add_zero]
 have e:(r*cols+c) % cols=c:=by rw[Nat.mul_comm,Nat.mul_add_mod,Nat.mod_eq_of_lt h]
 simp[QA4,List.range_succ,d,e]
def Qb6(w:World)(val:Nat->Nat->UInt8)(rows cols:Nat)(q6 q23:σ)(L:Nat)(w1:World):Prop:=
 Ext w w1/\∃k6 k23 p l c,q6=some (at0 k6)/\q23=some (at0 k23)/\k6≠k23/\w.heap.size<=k6/\w.heap.size<=k23/\Q7 w1 k6 137 (Q21 0 0 none 0 0)/\Q7 w1 k23 137 (Q21 rows cols p l c)/\Q2 w1 w.heap.size p l c (QA4 val cols L)
theorem Q39{f:σ}{w:World}{qa qb:Addr}{val:Nat->Nat->UInt8}{k m rows cols:Int}(hf:Qm w f)(hr:QZ0 k m->0<=rows/\rows<=256/\0<=cols/\cols<=256)
  (C:∀w',Ext w w'->∀r c:Nat,QZ0 k m->(r:Int)<rows->(c:Int)<cols->Calls prog 149 #[int i64 (r:Int),int i64 (c:Int), .pointer (some qa), .pointer (some qb)] w' fun e w''=>e= .returned (vb (val r c))/\Ext w' w''):
  Calls prog 148 #[.pointer f,int i64 k,int i64 m,int i64 rows,int i64 cols, .func (.func 149) #[] #[.pointer (some qa), .pointer (some qb)]] w fun e w'=>Ext w w'∧
   ((¬QZ0 k m/\e= .returned (.tuple #[QQ7 0 0 none 0 0,int i64 50]))\/QZ0 k m/\∃p l c,e= .returned (.tuple #[QQ7 rows cols p l c,int i64 0])/\Q2 w' w.heap.size p l c (QA4 val cols.toNat (rows.toNat*cols.toNat))):=by
 refine(F148_149_calls f k m rows cols qa qb w (fun v w'=>Ext w w'∧
   ((¬QZ0 k m/\v= .tuple #[QQ7 0 0 none 0 0,int i64 50])\/QZ0 k m/\∃p l c,v= .tuple #[QQ7 rows cols p l c,int i64 0]/\Q2 w' w.heap.size p l c (QA4 val cols.toNat (rows.toNat*cols.toNat))))
  (fun q6 D _ _ r w1=>0<=r/\r<=rows/\Qb6 w val rows.toNat cols.toNat q6 D (r.toNat*cols.toNat) w1) (fun _ _ _ _ r _=>(rows-r).toNat)
  (fun q6 D r _ _ _ _ c w1=>0<=c/\c<=cols/\0<=r/\r<rows/\Qb6 w val rows.toNat cols.toNat q6 D (r.toNat*cols.toNat+c.toNat) w1) (fun _ _ _ _ _ _ _ c _=>(cols-c).toNat) ?_).mono (by
  rintro e w' ⟨v,rfl,J,⟨h,rfl⟩|⟨h,p,l,c,rfl,K⟩⟩
  ·exact⟨J, .inl ⟨h,rfl⟩⟩
  ·exact⟨J, .inr ⟨h,p,l,c,rfl,K⟩⟩)
 intro z w7 h6;have r6:Q7 w7 z 137 (Q21 0 0 none 0 0):=h6.at;have n6:w.heap.size<=z:=by rw[h6.size.1];exact Nat.le_refl _
 have x7:=h6.ext;rw[hf.there];refine Q0 (fun h=>by cases h) fun _=>(Qk4 k m w7).mono ?_;rintro e bq ⟨rfl,rfl⟩;refine⟨_,rfl,Q0 (fun M=> ?_) (fun M=> ?_)⟩
 ·simp only[Zg,Zb]at M
  have I:¬QZ0 k m:=fun h=>M (Q64 h);refine⟨r6.live0 (by simp),fun br ao=> ?_⟩;obtain⟨N,u1⟩:=r6.set0 ao;refine⟨N.live3 (by simp),fun bs aq=> ?_⟩;obtain⟨O,u2⟩:=N.set3 aq;refine⟨O.live3 (by simp),fun bt ar=> ?_⟩;obtain⟨a3,u3⟩:=O.set3 ar;refine⟨_,a3.cell0 rfl,_,a3.cell3 rfl,_,_,_,a3.cell3 rfl,Q8 (Q8 (Q8 x7 n6 u1) n6 u2) n6 u3, .inl ⟨I,?_⟩⟩;rw[Qq1 I]
 simp only[Zf,Za]at M;have I:QZ0 k m:=Decidable.byContradiction fun h=>by rw[Qq1 h]at M;omega
 obtain⟨b1,b2,b3,b4⟩:=hr I;have er:((rows.toNat:Nat):Int)=rows:=by omega
 have ec:((cols.toNat:Nat):Int)=cols:=by omega
 intro d au o;have P:Q7 au d 137 (Q21 0 0 none 0 0):=o.at;have t:w.heap.size<=d:=by rw[o.size.1];exact x7.size
 have ne:z≠d:=by have:=Qe r6;rw[o.size.1];omega
 refine⟨P.live0 (by simp),fun bw av=> ?_⟩;obtain⟨N,u1⟩:=P.set0 av;refine⟨N.live3 (by simp),fun bx aw=> ?_⟩;obtain⟨O,u2⟩:=N.set3 aw;refine⟨O.live3 (by simp),fun ax ay=> ?_⟩;obtain⟨a3,u3⟩:=O.set3 ay;have az:=Q8 (Q8 (Q8 (x7.trans o.ext) t u1) t u2) t u3;have a0:Q7 ax z 137 (Q21 0 0 none 0 0):=u3.keep (u2.keep (u1.keep (o.ext.keep r6) ne) ne) ne;refine⟨⟨by omega,b1,az,z,d,none,0,0,rfl,rfl,ne,n6,t,a0,?_,?_⟩,?_⟩
 ·rw[er,ec];exact a3
 ·rw[show(0:Int).toNat*cols.toNat=0 by simp];exact Q5.nil _ _ _ _
 rintro r bz ⟨Q,b0,J,a4,R,p,l,c,S,T,ne',j,g,r6'',i,K⟩;simp only[Zi,at0,Zv,and_true]at S T;subst S T
 intros
 refine Q0 (fun hs=> ?_) (fun hs=> ?_)
 ·simp only[Za]at hs
  refine⟨⟨by omega,b3,Q,hs,J,z,d,p,l,c,rfl,rfl,ne',j,g,r6'',i,by rw[show(0:Int).toNat=0 from rfl,Nat.add_zero];exact K⟩,?_⟩;rintro u b5 ⟨b6,b7,_,_,A,a4,R,p',l',cp',S,T,_,_,_,s6,U,V⟩;simp only[Zi,at0,Zv,and_true]at S T;subst S T
  intros
  refine Q0 (fun ht=> ?_) (fun ht=> ?_)
  ·simp only[Za]at ht
   intro W hd;have E:=A.trans hd.ext;have B:Q7 W d 137 (Q21 rows.toNat cols.toNat p' l' cp'):=hd.ext.keep U;refine⟨_,_,_,B.cell3 rfl,?_⟩;have X:=C W E r.toNat u.toNat I (by omega) (by omega);rw[show((r.toNat:Nat):Int)=r by omega,show((u.toNat:Nat):Int)=u by omega]at X;refine X.mono ?_;rintro e Y ⟨rfl,q⟩;have s23'':Q7 Y d 137 (Q21 rows.toNat cols.toNat p' l' cp'):=q.keep B;refine⟨_,rfl,⟨_,_,_,s23''.cell3 rfl,rfl⟩,fun b8 a5 Z=> ?_⟩;have x:=Q2.ext (Q2.ext V hd.ext) q;have a6:=Q2.len x;rw[Qm2]at a6;have bk:r.toNat*cols.toNat<=256*256:=Nat.mul_le_mul (by omega) (by omega);obtain⟨p2,c2,aa,ab,a7,ac⟩:=Q2.push x Z (E.trans q).size (by omega);have a8:Q7 a5 d 137 (Q21 rows.toNat cols.toNat p' l' cp'):=Z.ext.keep s23'';refine⟨⟨_,_,_,a8.cell3 rfl,rfl⟩,_,_,_,aa,ab,?_⟩;have keep:∀{k:Nat}{cs:Array Value},Q7 Y k 137 cs->Q7 aa k 137 cs:=fun h=>Q7.keep h ac fun y hy=>by
    obtain⟨cs,e',fz,h7,h8⟩:=Q5.typed x hy;exact⟨cs,e',fz,h7,by rw[h8];exact Qb0.1.symm⟩
   have F:=keep s23'';have ba:=keep (q.keep (hd.ext.keep s6));refine⟨F.live3 (by simp),fun cf bb=> ?_⟩;obtain⟨bc,G⟩:=F.set3 bb;have be:=Q2.new_ext (E.trans q) ac fun y hy=>Q2.blk x hy;rw[w64 (n:=u+1) (by omega)];refine⟨⟨by omega,by omega,Q,hs,Q8 be g G,z,d,p2,_,c2,rfl,rfl,ne',j,g,G.keep ba ne',bc,?_⟩,by show(cols-(u+1)).toNat<(cols-u).toNat;omega⟩;rw[show(u+1).toNat=u.toNat+1 by omega,←Nat.add_assoc,←QO4 val (by omega)];exact Q2.apart a7 G F Qb0.1
  ·simp only[Zb]at ht
   rw[w64 (n:=r+1) (by omega)];refine⟨⟨by omega,by omega,A,z,d,p',l',cp',rfl,rfl,ne',j,g,s6,U,?_⟩,by show(rows-(r+1)).toNat<(rows-r).toNat;omega⟩;rw[show(r+1).toNat=r.toNat+1 by omega,Nat.add_mul,Nat.one_mul,show cols.toNat=u.toNat by omega]at*;exact V
 ·simp only[Zb]at hs
  refine⟨_,i.cell0 rfl,_,i.cell3 rfl,_,_,_,i.cell3 rfl,?_⟩;refine⟨r6''.live0 (by simp),fun cg bf=> ?_⟩;obtain⟨c1,v1⟩:=r6''.set0 bf;refine⟨c1.live3 (by simp),fun ch bg=> ?_⟩;obtain⟨c2,v2⟩:=c1.set3 bg;refine⟨c2.live3 (by simp),fun ci bh=> ?_⟩;obtain⟨c3,v3⟩:=c2.set3 bh;refine⟨_,c3.cell0 rfl,_,c3.cell3 rfl,_,_,_,c3.cell3 rfl,Q8 (Q8 (Q8 J j v1) j v2) j v3, .inr ⟨I,p,l,c,by rw[er,ec],?_⟩⟩;rw[show r.toNat=rows.toNat by omega]at K;exact Q2.apart (Q2.apart (Q2.apart K v1 r6'' Qb0.1) v2 c1 Qb0.1) v3 c2 Qb0.1
theorem QM5{f:σ}{w:World}(Z:Qm w f)(k m:Int):
  Calls prog 109 #[.pointer f,int i64 k,int i64 m] w fun e w'=>Ext w w'∧
   ((¬QZ0 k m/\e= .returned (.tuple #[QQ7 0 0 none 0 0,int i64 50]))\/QZ0 k m/\∃p l c,e= .returned (.tuple #[QQ7 m k p l c,int i64 0])/\Q2 w' w.heap.size p l c (QA4 (Q84 k.toNat) k.toNat (m.toNat*k.toNat))):=by
 refine(F109_calls f k m w (fun v w'=>Ext w w'∧
   ((¬QZ0 k m/\v= .tuple #[QQ7 0 0 none 0 0,int i64 50])\/QZ0 k m/\∃p l c,v= .tuple #[QQ7 m k p l c,int i64 0]/\Q2 w' w.heap.size p l c (QA4 (Q84 k.toNat) k.toNat (m.toNat*k.toNat)))) ?_).mono (by
  rintro e w' ⟨v,rfl,x,⟨h,rfl⟩|⟨h,p,l,c,rfl,I⟩⟩
  ·exact⟨x, .inl ⟨h,rfl⟩⟩
  ·exact⟨x, .inr ⟨h,p,l,c,rfl,I⟩⟩)
 intro k4 w5 J K w7 F j B C;have r4:Q7 B k4 33 #[.pointer f]:=C.ext.keep (F.ext.keep J.at);have r6:Q7 B K 3 #[int i64 k]:=C.ext.keep F.at;have r8:Q7 B j 137 (Q21 0 0 none 0 0):=C.at;have G:Ext w B:=J.ext.trans (F.ext.trans C.ext);have M:w.heap.size<=j:=by rw[C.size.1];exact(J.ext.trans F.ext).size
 refine⟨_,r4.cell,_,r6.cell,_,r6.cell,?_⟩;refine(Q39 (qa:=at0 k4) (qb:=at0 K) (val:=Q84 k.toNat) (k:=k) (m:=m) (rows:=m) (cols:=k) (Z.ext G) (fun⟨b1,b2,b3,b4⟩=>⟨by omega,by omega,by omega,by omega⟩) (fun w' x r c ⟨b1,b2,b3,b4⟩ hr hc=> ?_)).mono ?_
 ·have N:Q7 w' K 3 #[int i64 ((k.toNat:Nat):Int)]:=by rw[show((k.toNat:Nat):Int)=k by omega];exact x.keep r6
  exact Qia (Z.ext (G.trans x)) (x.keep r4) N (by omega) (by omega) (by omega)
 ·rintro e y ⟨D,hv⟩
  have z:Q7 y j 137 (Q21 0 0 none 0 0):=D.keep r8;have fin:∀(a b:Int)(p:σ)(l c:Nat)(er:Int)(Q:ψ),(∀d,Ext w d->(∀{p:σ}{l c:Nat}{bs:τ}{b:Nat},Q2 y b p l c bs->Q2 d b p l c bs)->Q d)→
    (QD y (at0 j)/\(∀g:World,Qt y (at0 j) (int i64 a) g->(QD g ((at0 j).add 1)/\(∀i:World,Qt g ((at0 j).add 1) (int i64 b) i->(QD i ((at0 j).add 2)/\(∀d:World,Qt i ((at0 j).add 2) (Value.slice p l c) d→
     d.cell? (at0 j)=some (int i64 a)/\d.cell? ((at0 j).add 1)=some (int i64 b)/\d.cell? ((at0 j).add 2)=some (.slice p l c)/\Q d)))))):=by
   intro a b p l c er Q hQ;refine⟨z.live0 (by simp),fun g q=> ?_⟩;obtain⟨c1,v1⟩:=z.set0 q;refine⟨c1.live3 (by simp),fun i t=> ?_⟩;obtain⟨c2,v2⟩:=c1.set3 t;refine⟨c2.live3 (by simp),fun d u=> ?_⟩;obtain⟨c3,v3⟩:=c2.set3 u;exact⟨c3.cell0 rfl,c3.cell3 rfl,c3.cell3 rfl,hQ _ (Q8 (Q8 (Q8 (G.trans D) M v1) M v2) M v3) fun o=>Q2.apart (Q2.apart (Q2.apart o v1 z Qb0.1) v2 c1 Qb0.1) v3 c2 Qb0.1⟩
  rcases hv with⟨E,rfl⟩|⟨E,p,l,c,rfl,I⟩
  ·obtain⟨O,P⟩:=fin 0 0 none 0 0 50 (fun d=>Ext w d) fun d x _=>x
   refine⟨_,_,_,_,_,_,rfl,O,fun g q=> ?_⟩;obtain⟨R,S⟩:=P g q;refine⟨R,fun i t=> ?_⟩;obtain⟨T,U⟩:=S i t;refine⟨T,fun d u=> ?_⟩;obtain⟨V,W,X,A⟩:=U d u;exact⟨_,V,_,W,_,_,_,X,A, .inl ⟨E,rfl⟩⟩
  ·obtain⟨O,P⟩:=fin m k p l c 0 (fun d=>Ext w d/\Q2 d B.heap.size p l c (QA4 (Q84 k.toNat) k.toNat (m.toNat*k.toNat))) fun d x E=>⟨x,E I⟩
   refine⟨_,_,_,_,_,_,rfl,O,fun g q=> ?_⟩;obtain⟨R,S⟩:=P g q;refine⟨R,fun i t=> ?_⟩;obtain⟨T,U⟩:=S i t;refine⟨T,fun d u=> ?_⟩;obtain⟨V,W,X,A,Y⟩:=U d u;exact⟨_,V,_,W,_,_,_,X,A, .inr ⟨E,p,l,c,rfl,Q2.base_le Y G.size⟩⟩
open Go Go.Vc Go.Gf
open Go.IntKind (i64)
open Go.Value (int)
open Go.Proofs.Tryz (prog)
theorem Qeh{w:World}{e f:Nat}{a b:Int}{p:σ}{l c:Nat}{cs:Array Value}{ev_:Value}{R:φ}(j:Q7 w f 137 (Q21 a b p l c))(F:Q7 w e 137 cs)(hs:cs.size=3)
  (G:∀w',Upd (fun x=>x=e) w w'->R (.tuple #[QQ7 a b p l c,ev_]) w'):
  (∃(o:Int),w.cell? (at0 f)=some (int i64 o)/\(∃(q:Int),w.cell? ((at0 f).add 1)=some (int i64 q)/\(∃(r:σ)(t u:Nat),w.cell? ((at0 f).add 2)=some (.slice r t u)/\(QD w (at0 e)∧
   (∀g:World,Qt w (at0 e) (int i64 o) g->(QD g ((at0 e).add 1)/\(∀i:World,Qt g ((at0 e).add 1) (int i64 q) i->(QD i ((at0 e).add 2)/\(∀d:World,Qt i ((at0 e).add 2) (Value.slice r t u) d→
    (∃(v:Int),d.cell? (at0 e)=some (int i64 v)/\(∃(y:Int),d.cell? ((at0 e).add 1)=some (int i64 y)/\(∃(z:σ)(A B:Nat),d.cell? ((at0 e).add 2)=some (.slice z A B)/\(R (Value.tuple #[.agg #[int i64 v,int i64 y, .slice z A B],ev_]) d))))))))))))):=by
 refine⟨_,j.cell0 rfl,_,j.cell3 rfl,_,_,_,j.cell3 rfl,F.live0 (by omega),fun g C=> ?_⟩;obtain⟨c1,I⟩:=F.set0 C;refine⟨c1.live3 (by simp;omega),fun i D=> ?_⟩;obtain⟨c2,J⟩:=c1.set3 D;refine⟨c2.live3 (by simp;omega),fun d E=> ?_⟩;obtain⟨c3,v3⟩:=c2.set3 E;have K:Upd (fun x=>x=e) w d:=Upd.trans (Upd.trans I J fun _ _ h=>h) v3 fun _ _ h=>h;refine⟨a,c3.cell0 ?_,b,c3.cell3 ?_,p,l,c,c3.cell3 ?_,G d K⟩
 ·simp[hs]
 ·simp[hs]
 ·simp[hs]
def Qb5(n:Int)(l:Nat)(L:List (τ)):Prop:=(l:Int)=n/\∀i,i<l->(L.getD i []).length=(L.getD 0 []).length
def Q8h(w:World)(k m n:Int)(l5:Nat)(L:List (τ))(v:Value)(w':World):Prop:=Ext w w'∧
   ((¬QZ0 k m/\∃a b p l c,v= .tuple #[QQ7 a b p l c,int i64 50])\/(QZ0 k m/\¬Qb5 n l5 L/\∃a b p l c,v= .tuple #[QQ7 a b p l c,int i64 60])∨
    QZ0 k m/\Qb5 n l5 L/\∃p l c,v= .tuple #[QQ7 m k p l c,int i64 0]/\Q2 w' w.heap.size p l c (QA4 (Q84 k.toNat) k.toNat (m.toNat*k.toNat)))
theorem QK9{f Q:σ}{w:World}{o c5:Nat}{L:List (τ)}(hf:Qm w f)(S:Qr w Q o L)(bl:∀x∈L,x.length<=4611686018427387904)(b5:o<=4611686018427387904)(k m n:Int):
  Calls prog 71 #[.pointer f,int i64 k,int i64 m,int i64 n, .slice Q o c5] w fun e w'=>Ext w w'∧
   ((¬QZ0 k m/\∃a b p l c,e= .returned (.tuple #[QQ7 a b p l c,int i64 50]))\/(QZ0 k m/\¬Qb5 n o L/\∃a b p l c,e= .returned (.tuple #[QQ7 a b p l c,int i64 60]))∨
    QZ0 k m/\Qb5 n o L/\∃p l c,e= .returned (.tuple #[QQ7 m k p l c,int i64 0])/\Q2 w' w.heap.size p l c (QA4 (Q84 k.toNat) k.toNat (m.toNat*k.toNat))):=by
 refine(F71_calls f k m n Q o c5 w (Q8h w k m n o L)
  (fun _ _ _ _ _ _ g b i w1=>b= !decide ((o:Int)=n)/\0<=i/\i<=o/\w1=g/\∀j:Nat,(j:Int)<i->(L.getD j []).length=(L.getD 0 []).length) (fun _ _ _ _ _ _ _ _ i _=>(o-i).toNat) ?_).mono (by
  rintro e w' ⟨v,rfl,G,⟨h,a,b,p,l,c,rfl⟩|⟨h,T,a,b,p,l,c,rfl⟩|⟨h,T,p,l,c,rfl,U⟩⟩
  ·exact⟨G, .inl ⟨h,a,b,p,l,c,rfl⟩⟩
  ·exact⟨G, .inr (.inl ⟨h,T,a,b,p,l,c,rfl⟩)⟩
  ·exact⟨G, .inr (.inr ⟨h,T,p,l,c,rfl,U⟩)⟩)
 have aj:=S.1;have ad:∀i,i<o->(L.getD i []).length<=4611686018427387904:=fun i hi=>by
  rw[Zj,Zc (by omega)];exact bl _ (List.getElem_mem _)
 intro I w7 J;have r6:Q7 w7 I 137 (Q21 0 0 none 0 0):=J.at;have n6:w.heap.size<=I:=by rw[J.size.1];exact Nat.le_refl _
 refine(QM5 (hf.ext J.ext) k m).mono ?_;have main:∀(w8:World)(a b:Int)(p:σ)(l c:Nat)(er:Int),Ext w7 w8->∀(K:Nat->ψ),(∀d g,Q7 g d 137 (Q21 a b p l c)->Q7 g I 137 (Q21 0 0 none 0 0)->I≠d->Ext w8 g->K d g)→
   (∀(d:Nat)(t:World),QG w8 d (.cells #[int i64 (0:Int),int i64 (0:Int), .slice none 0 0] 137) t->(QD t (at0 d)/\(∀y:World,Qt t (at0 d) (int i64 a) y->(QD y ((at0 d).add 1)/\(∀z:World,Qt y ((at0 d).add 1) (int i64 b) z→
    (QD z ((at0 d).add 2)/\(∀g:World,Qt z ((at0 d).add 2) (Value.slice p l c) g->K d g))))))):=by
  intro w8 a b p l c er G K hK d t A;have r14:Q7 t d 137 (Q21 0 0 none 0 0):=A.at;have E:w8.heap.size<=d:=by rw[A.size.1];exact Nat.le_refl _
  have ne:I≠d:=by have:=Qe r6;have:=G.size;omega
  refine⟨r14.live0 (by simp),fun y V=> ?_⟩;obtain⟨c1,v1⟩:=r14.set0 V;refine⟨c1.live3 (by simp),fun z W=> ?_⟩;obtain⟨c2,v2⟩:=c1.set3 W;refine⟨c2.live3 (by simp),fun g X=> ?_⟩;obtain⟨c3,v3⟩:=c2.set3 X;exact hK d g c3 (v3.keep (v2.keep (v1.keep (A.ext.keep (G.keep r6)) ne) ne) ne) ne (Q8 (Q8 (Q8 A.ext E v1) E v2) E v3)
 rintro e w8 ⟨O,⟨P,rfl⟩|⟨P,p,l,c,rfl,U⟩⟩
 ·refine⟨_,_,_,_,_,_,rfl,main w8 _ _ _ _ _ 50 O _ fun d g r14 u ne B=>Q0 (fun _=> ?_) (fun h=>by simp at h)⟩
  exact Qeh (R:=Q8h w k m n o L) r14 u rfl fun w' M=>⟨Q8 (J.ext.trans (O.trans B)) n6 M, .inl ⟨P,_,_,_,_,_,rfl⟩⟩
 ·refine⟨_,_,_,_,_,_,rfl,main w8 _ _ _ _ _ 0 O _ fun d g r14 u ne B=>Q0 (fun h=>by simp at h) fun _=> ?_⟩
  have r:=J.ext.trans (O.trans B);have bad:¬Qb5 n o L->F71_A0 g d I (Q8h w k m n o L)
    (fun _ _ _ _ _ _ g b i w1=>b= !decide ((o:Int)=n)/\0<=i/\i<=o/\w1=g/\∀j:Nat,(j:Int)<i->(L.getD j []).length=(L.getD 0 []).length) (fun _ _ _ _ _ _ _ _ i _=>(o-i).toNat):=fun Y=>by
   unfold F71_A0;exact Qeh (R:=Q8h w k m n o L) r14 u rfl fun w' M=>⟨Q8 r n6 M, .inr (.inl ⟨P,Y,_,_,_,_,_,rfl⟩)⟩
  refine⟨⟨rfl,by omega,by omega,rfl,fun j hj=>by omega⟩,?_⟩;rintro b i am ⟨rfl,Z,ao,rfl,D⟩
  intros
  refine Q0 (fun hs=> ?_) (fun hs=> ?_)
  ·simp only[Za]at hs
   obtain⟨a,q,ln,cn,rfl,hc,hq,_⟩:=(S.ext r).2 i.toNat (by omega);obtain⟨a',q',ln',cn',aa,ab,ac,_⟩:=(S.ext r).2 0 (by omega);cases aa;have e1:=hq.1;have e2:=ac.1;refine⟨⟨Z,hs⟩,_,_,_,by rw[Nat.mul_one];exact hc,⟨by omega,by omega⟩,_,_,_,ab,Q0 (fun C=> ?_) (fun C=> ?_)⟩
   ·simp only[Zg,Zb]at C
    refine bad fun F=>C ?_;have:=F.2 i.toNat (by omega);omega
   ·simp only[Zf,Za]at C
    rw[w64 (n:=i+1) (by omega)];refine⟨⟨rfl,by omega,by omega,rfl,fun j hj=> ?_⟩,by show((o:Int)-(i+1)).toNat<((o:Int)-i).toNat;omega⟩
    by_cases h1:(j:Int)<i
    ·exact D j h1
    ·rw[show j=i.toNat by omega];omega
  ·simp only[Zb]at hs
   refine Q0 (fun N=> ?_) (fun N=> ?_)
   ·simp only[Zg,Zb]at N
    exact bad fun F=>N F.1
   ·simp only[Zf,Za]at N
    refine Qeh (R:=Q8h w k m n o L) r14 u rfl fun w' M=>⟨Q8 r n6 M, .inr (.inr ⟨P,⟨N,fun i hi=>D i (by omega)⟩,p,l,c,rfl,?_⟩)⟩;exact Q2.base_le (Q2.apart (Q2.ext U B) M u Qb0.1) J.ext.size
open Go Go.Vc Go.Gf
open Go.IntKind (i64)
open Go.Value (int)
open Go.Proofs.Tryz (prog)
structure Qg(w:World)(base:Nat)(a:Addr)(n:Nat)(L:Nat->τ):Prop where
 typ:0<n->∃cs,Q7 w a.block 25 cs
 own:∃P:Nat->σ×Nat×Nat,(∀i,i<n->w.cell? (a.add i)=some (.slice (P i).1 (P i).2.1 (P i).2.2)/\Q2 w base (P i).1 (P i).2.1 (P i).2.2 (L i))∧
  ∀i j,i<n->j<n->i≠j->∀g,(P i).1=some (at0 g)->(P j).1≠some (at0 g)
theorem QK0.rows{w:World}{base k n:Nat}{L:Nat->τ}(h:QK0 w base k n L):Qg w base (at0 k) n L:=⟨fun _=>let⟨cs,d,_⟩:=h.row;⟨cs,d⟩,h.own⟩
section
variable {w w':World}{base n:Nat}{a:Addr}{L:Nat->τ}
theorem Qg.ext(h:Qg w base a n L)(d:Ext w w'):Qg w' base a n L:=by
 obtain⟨P,e,f⟩:=h.own;exact⟨fun g=>let⟨cs,j⟩:=h.typ g;⟨cs,d.keep j⟩,P,fun i hi=>⟨d.cell (e i hi).1 id,Q2.ext (e i hi).2 d⟩,f⟩
theorem Qg.base_le{b:Nat}(h:Qg w base a n L)(hb:b<=base):Qg w b a n L:=by
 obtain⟨P,d,e⟩:=h.own;exact⟨h.typ,P,fun i hi=>⟨(d i hi).1,Q2.base_le (d i hi).2 hb⟩,e⟩
theorem Qg.congr{L':Nat->τ}(h:Qg w base a n L)(hL:∀i,i<n->L' i=L i):Qg w base a n L':=by
 obtain⟨P,d,e⟩:=h.own;exact⟨h.typ,P,fun i hi=>⟨(d i hi).1,by rw[hL i hi];exact(d i hi).2⟩,e⟩
theorem Qg.lists(h:Qg w base a n L):Qr w (some a) n ((List.range n).map L):=by
 obtain⟨P,d,e⟩:=h.own;refine⟨by simp,fun i hi=>⟨_,_,_,_,rfl,(d i hi).1,?_,Q2.le (d i hi).2⟩⟩;have:((List.range n).map L).getD i []=L i:=by simp[Zj,hi]
 rw[this];exact Q2.bytes (d i hi).2
theorem Qg.at(h:Qg w base a n L){i j:Nat}(hi:i<n)(K:j<(L i).length):∃p l c g,w.cell? (a.add i)=some (.slice p l c)/\l=(L i).length/\p=some (at0 g)/\base<=g/\QD w ((at0 g).add j)/\w.cell? ((at0 g).add j)=some (vb (co (L i) j))/\(∃cs,Q7 w g 5 cs)∧
  ∀b w',Qt w ((at0 g).add j) (vb b) w'->Qg w' base a n (fun t=>if t=i then(L i).set j b else L t)/\Upd (fun x=>x=g) w w':=by
 obtain⟨P,z,B⟩:=h.own;obtain⟨C,r⟩:=z i hi;have D:=Q2.len r;obtain⟨g,u,hb,f,o,q⟩:=Q2.at r (i:=j) (by omega);have d:∃cs,Q7 w g 5 cs:=by
  rw[u]at r;exact Q2.row r
 refine⟨_,_,_,g,C,D,u,hb,f,o,d,fun b w' hs=> ?_⟩;obtain⟨E,v⟩:=q b w' hs;obtain⟨csg,d⟩:=d;refine⟨⟨fun F=> ?_,P,fun t ht=> ?_,B⟩,v⟩
 ·obtain⟨cs,y⟩:=h.typ F
  exact⟨cs,v.keep y (Q7.ne y d QM.1.symm)⟩
 ·obtain⟨cs,y⟩:=h.typ (by omega)
  refine⟨v.cell (z t ht).1 (by rw[Qx];exact Q7.ne y d QM.1.symm),?_⟩
  by_cases e:t=i
  ·subst e
   rw[if_pos rfl,u];exact E
  ·rw[if_neg e]
   exact Q5.upd (z t ht).2 v fun G A I=>B i t hi ht (fun J=>e J.symm) g u (by rw[A,show G=g from I])
end
theorem QK0.put{w0 w w':World}{base k n i:Nat}{L:Nat->τ}(h:QK0 w0 base k n L)(q:Ext w0 w)(hi:i<n){p:σ}{m c:Nat}{bs:τ}(y:Q2 w w0.heap.size p m c bs)(hb:base<=w0.heap.size)
  (hs:Qt w ((at0 k).add i) (.slice p m c) w'):QK0 w' base k n (fun t=>if t=i then bs else L t)/\Upd (fun x=>x=k) w w':=by
 obtain⟨cs,o,B⟩:=(h.ext q).row;obtain⟨P,r,C⟩:=h.own;obtain⟨z,u⟩:=o.set3 hs;have fresh:∀t,t<n->∀g,(P t).1=some (at0 g)->p≠some (at0 g):=fun t ht g d v=>by
  have f:=(r t ht).2;rw[d]at f;have:=Q5.lt_heap f;have:=Q2.blk y v;omega
 refine⟨⟨⟨_,z,by simp[B]⟩,h.le,fun t=>if t=i then(p,m,c)else P t,fun t ht=> ?_,?_⟩,u⟩
 ·dsimp only
  rw[Qj z,Array.getElem?_setIfInBounds]
  by_cases e:t=i
  ·subst e
   simp only[if_true];rw[if_pos (by omega)];exact⟨rfl,Q2.base_le (Q2.apart y u o QM.1.symm) hb⟩
  ·rw[if_neg (fun D=>e D.symm),if_neg e,if_neg e]
   refine⟨?_,Q2.apart (Q2.ext (r t ht).2 q) u o QM.1.symm⟩;rw[←Qj o];exact q.cell (r t ht).1 id
 ·intro s t j ht l g d
  dsimp only at d⊢
  by_cases f:s=i
  ·rw[if_pos f]at d
   rw[if_neg (fun e=>l (f.trans e.symm))];exact fun v=>fresh t ht g v d
  ·rw[if_neg f]at d
   by_cases A:t=i
   ·rw[if_pos A];exact fresh s j g d
   ·rw[if_neg A];exact C s t j ht l g d
theorem Qai{p:σ}{l c:Nat}{w:World}{L:List (τ)}(h:Qr w p l L)(R:l<=1048576)(hb:∀x∈L,x.length<=1073741824):
  Calls prog 72 #[.slice p l c] w fun e w'=>∃k,e= .returned (.slice (some (at0 k)) l l)/\Ext w w'/\QK0 w' w.heap.size k l (fun i=>L.getD i []):=by
 refine(F72_calls p l c w (fun v w'=>∃k,v= .slice (some (at0 k)) l l/\Ext w w'/\QK0 w' w.heap.size k l (fun i=>L.getD i []))
  (fun q _ _ _ _ _ _ _ i w1=>0<=i/\i<=l/\Ext w w1/\∃k,q=some (at0 k)/\QK0 w1 w.heap.size k l (fun t=>if(t:Int)<i then L.getD t []else [])) (fun _ _ _ _ _ _ _ _ i _=>(l-i).toNat) ?_).mono (by
  rintro e w' ⟨v,rfl,k,rfl,h⟩;exact⟨k,rfl,h⟩)
 have hL:=h.1;refine⟨⟨by omega,by omega,by omega⟩,fun k B f=> ?_⟩;rw[Ze]at f⊢;rw[Q63 25 (.slice none 0 0) (by kernel_rfl) l]at f;have C:Q7 B k 25 (List.replicate l (.slice none 0 0)).toArray:=f.at;have G:QK0 B w.heap.size k l (fun t=>if(t:Int)<0 then L.getD t []else []):=by
  refine⟨⟨_,C,by simp⟩,by rw[f.size.1];exact Nat.le_refl _,fun _=>(none,0,0),fun i hi=>⟨?_,?_⟩,fun _ _ _ _ _ g I=>by cases I⟩
  ·rw[Qj C];simp[hi]
  ·rw[if_neg (by omega)];exact Q5.nil _ _ _ _
 refine⟨⟨by omega,by omega,f.ext,k,rfl,G⟩,?_⟩;rintro i J ⟨j,K,r,S,D,u⟩;simp only[Zi,at0,Zv,and_true]at D;subst D
 intros
 refine Q0 (fun hs=> ?_) (fun hs=> ?_)
 ·simp only[Za]at hs
  obtain⟨a,q,ln,cn,rfl,M,E,_⟩:=(h.ext r).2 i.toNat (by omega);have o:(L.getD i.toNat []).length<=1073741824:=by
   rw[Zj,Zc (by omega)];exact hb _ (List.getElem_mem _)
  refine⟨⟨j,hs⟩,_,_,_,by rw[Nat.mul_one];exact M,(Qf5 E (by rw[E.1];exact o)).mono ?_⟩;rintro e N ⟨T,U,rfl,d,oc⟩;obtain⟨cs,O,P⟩:=(u.ext d).row;rw[Nat.mul_one,w64 (n:=i+1) (by omega)];refine⟨_,_,_,rfl,⟨j,by omega⟩,RowW.live ⟨_,O⟩ (by omega),fun Q y=> ?_⟩;obtain⟨z,A⟩:=u.put d (i:=i.toNat) (by omega) oc r.size y;refine⟨⟨by omega,by omega,Q8 (r.trans d) u.le A,k,rfl,z.congr fun t ht=> ?_⟩,by show((l:Int)-(i+1)).toNat<((l:Int)-i).toNat;omega⟩
  by_cases e:t=i.toNat
  ·rw[if_pos (by omega),if_pos e,e]
  ·rw[if_neg e]
   by_cases F:(t:Int)<i
   ·rw[if_pos F,if_pos (by omega)]
   ·rw[if_neg F,if_neg (by omega)]
 ·simp only[Zb]at hs
  exact⟨k,rfl,r,u.congr fun t ht=>by rw[if_pos (by omega)]⟩
theorem Qkd{f l o:σ}{a b:Int}{q c4 r c5:Nat}{w:World}:
  Calls prog 73 #[.pointer f,QQ7 a b l q c4, .slice o r c5] w fun e w'=>∃g i d,e= .returned (.func (.func 111) #[] #[.pointer (some (at0 d)), .pointer (some (at0 i)), .pointer (some (at0 g))])/\Ext w w'∧
   Q7 w' g 33 #[.pointer f]/\Q7 w' i 137 (Q21 a b l q c4)/\Q7 w' d 79 #[.slice o r c5]:=by
 refine(F73_calls f a b l q c4 o r c5 w (fun v w'=>∃g i d,v= .func (.func 111) #[] #[.pointer (some (at0 d)), .pointer (some (at0 i)), .pointer (some (at0 g))]/\Ext w w'∧
   Q7 w' g 33 #[.pointer f]/\Q7 w' i 137 (Q21 a b l q c4)/\Q7 w' d 79 #[.slice o r c5]) ?_).mono (by rintro e w' ⟨v,rfl,g,i,d,rfl,h⟩;exact⟨g,i,d,rfl,h⟩)
 intro g y u i z t d x j;exact⟨g,i,d,rfl,u.ext.trans (t.ext.trans j.ext),j.ext.keep (t.ext.keep u.at),j.ext.keep t.at,j.at⟩
def QD8(c:UInt8)(s t:τ)(j:Nat):τ:=(List.range t.length).map fun n=>if n<j then co t n^^^gm c (co s n)else co t n
theorem QE0(c:UInt8)(s t:τ)(j:Nat):(QD8 c s t j).length=t.length:=by simp[QD8]
theorem QF4(c:UInt8)(s t:τ)(j n:Nat)(d:n<t.length):co (QD8 c s t j) n=if n<j then co t n^^^gm c (co s n)else co t n:=by simp[Gf.co,QD8,Zj,d]
theorem Qjd(c:UInt8)(s t:τ):QD8 c s t 0=t:=Q92 (QE0 _ _ _ _) fun i hi=>by
 rw[QE0]at hi;rw[QF4 _ _ _ _ _ hi,if_neg (by omega)]
theorem QQe(c:UInt8)(s t:τ){j:Nat}(d:j<t.length):(QD8 c s t j).set j (co t j^^^gm c (co s j))=QD8 c s t (j+1):=by
 refine Q92 (by rw[List.length_set,QE0,QE0]) fun i hi=> ?_;rw[List.length_set,QE0]at hi;rw[Qi2 (by rw[QE0];exact d),QF4 _ _ _ _ _ hi,QF4 _ _ _ _ _ hi]
 by_cases e:i=j
 ·rw[if_pos e,if_pos (by omega),e]
 ·rw[if_neg e]
  by_cases h:i<j
  ·rw[if_pos h,if_pos (by omega)]
  ·rw[if_neg h,if_neg (by omega)]
def Qw2(k i:Nat)(val:Nat->UInt8)(s:τ)(L:Nat->τ)(t:Nat):τ:=if k<=t/\t<k+i then QD8 (val (t-k)) s (L t) s.length else L t
theorem Qjh{w1 w:World}{f p2 pA:σ}{a0:Addr}{k m j N C c2 cp lA cA T k8 G:Nat}{rows:Int}{s A:τ}{L:Nat->τ}{val:Nat->Nat->UInt8}
  (hf:Qm w1 f) (hA:Q1 w1 pA lA A) (U:A=QA4 val k (m*k)) (hs:Q1 w1 p2 C s) (hj:j<k) (hk:k<=256) (hm:m<=256) (hN:k+m<=N) (bf:C<=1073741824)
  (hx:Ext w1 w) (h:Qg w w1.heap.size a0 N L) (V:∀t,k<=t->t<k+m->(L t).length=C)
  (r6:Q7 w T 33 #[.pointer f]) (r8:Q7 w k8 137 (Q21 rows (k:Int) pA lA cA)) {pp:σ} (ak:0<m->pp=some (a0.add k)) (r10:Q7 w G 79 #[.slice pp m cp]):
  Calls prog 111 #[int i64 (j:Int), .slice p2 C c2, .pointer (some (at0 G)), .pointer (some (at0 k8)), .pointer (some (at0 T))] w fun e w'=>e= .returned (.tuple #[])/\Ext w1 w'/\Qg w' w1.heap.size a0 N (Qw2 k m (fun i=>val i j) s L)∧
   ∀d e cs,e≠5->Q7 w d e cs->Q7 w' d e cs:=by
 have sl:=hs.1;have Al:=hA.1;rw[U,Qm2]at Al
 refine(F111_calls j p2 C c2 (at0 G) (at0 k8) (at0 T) w (fun v w'=>v= .tuple #[]/\Ext w1 w'/\Qg w' w1.heap.size a0 N (Qw2 k m (fun i=>val i j) s L)∧
   ∀d e cs,e≠5->Q7 w d e cs->Q7 w' d e cs)
  (fun _ _ _ _ _ _ _ i w'=>0<=i/\i<=m/\Ext w1 w'/\Qg w' w1.heap.size a0 N (Qw2 k i.toNat (fun i=>val i j) s L)/\∀d e cs,e≠5->Q7 w d e cs->Q7 w' d e cs) (fun _ _ _ _ _ _ _ i _=>(m-i).toNat)
  (fun _ _ I J K c _ _ _ _ i _ _ _ _ _ n w'=>0<=n/\n<=C/\0<=i/\i<m/\Ext w1 w'/\w'.cell? (a0.add (k+i.toNat))=some (.slice I J K)/\Qg w' w1.heap.size a0 N (fun t=>if t=k+i.toNat then QD8 (val i.toNat j) s (L t) n.toNat else Qw2 k i.toNat (fun i=>val i j) s L t)∧
   ∀d e cs,e≠5->Q7 w d e cs->Q7 w' d e cs) (fun _ _ _ _ _ _ _ _ _ _ _ _ _ _ _ _ n _=>(C-n).toNat) ?_).mono (by rintro e w' ⟨v,rfl,rfl,h⟩;exact⟨rfl,h⟩)
 refine⟨_,_,_,r10.cell,⟨by omega,by omega,hx,h.congr fun t ht=> ?_,fun _ _ _ _ h=>h⟩,?_⟩
 ·unfold Qw2
  rw[if_neg (by have:(0:Int).toNat=0:=rfl;omega)]
 rintro i al ⟨M,bh,q,hR,r⟩
 intros
 refine Q0 (fun u=> ?_) (fun u=> ?_)
 ·simp only[Za]at u
  have O:k+i.toNat<N:=by omega
  obtain rfl:=ak (by omega);obtain⟨P,h3,_⟩:=hR.own;obtain⟨hc,ho⟩:=h3 (k+i.toNat) O;have W:Qw2 k i.toNat (fun i=>val i j) s L (k+i.toNat)=L (k+i.toNat):=by
   unfold Qw2;rw[if_neg (by omega)]
  rw[W]at ho;have bj:=Q2.len ho;have bk:=V (k+i.toNat) (by omega) (by omega);have X:=r k8 _ _ Qb0.1 r8;have am:i.toNat*k+j<m*k:=by
   have:(i.toNat+1)*k<=m*k:=Nat.mul_le_mul_right _ (by omega);rw[Nat.add_mul]at this;omega
  have a5:m*k<=256*256:=Nat.mul_le_mul hm hk;have ao:i*(k:Int)=((i.toNat*k:Nat):Int):=by
   rw[show i=((i.toNat:Nat):Int) by omega,Ze];exact(Int.natCast_mul _ _).symm
  refine⟨⟨M,by omega⟩,?_⟩;show∃(I:σ)(J K:Nat),al.cell? ((a0.add k).add (i.toNat*1))=some (.slice I J K)/\_
  rw[Nat.mul_one,QB];refine⟨_,_,_,hc,_,_,_,X.cell3 rfl,_,X.cell3 rfl,?_⟩;rw[ao,w64 (n:=((i.toNat*k:Nat):Int)) (by omega),w64 (n:=((i.toNat*k:Nat):Int)+(j:Int)) (by omega)];have e1:(((i.toNat*k:Nat):Int)+(j:Int)).toNat=i.toNat*k+j:=by omega
  rw[e1,Nat.mul_one];obtain⟨aA,rfl,Y⟩:=Q1.co (hA.ext q) (i:=i.toNat*k+j) (by omega);have eA:co A (i.toNat*k+j)=val i.toNat j:=by
   rw[U,Q37 _ am]
   congr 1
   ·rw[Nat.mul_comm,Nat.mul_add_div (by omega),Nat.div_eq_of_lt hj,Nat.add_zero]
   ·rw[Nat.mul_comm,Nat.mul_add_mod,Nat.mod_eq_of_lt hj]
  rw[eA]at Y;refine⟨⟨by omega,by omega⟩,_,Y,⟨by omega,by omega,M,u,q,hc,hR.congr fun t ht=> ?_,r⟩,?_⟩
  ·by_cases e:t=k+i.toNat
   ·rw[if_pos e,show(0:Int).toNat=0 from rfl,Qjd,e,W]
   ·rw[if_neg e]
  rintro n bn ⟨Q,bo,_,_,x,Z,hR75,y⟩
  intros
  refine Q0 (fun ht=> ?_) (fun ht=> ?_)
  ·simp only[Za]at ht
   obtain⟨aS,rfl,aq⟩:=Q1.co (hs.ext x) (i:=n.toNat) (by omega);refine⟨⟨Q,ht⟩,_,by rw[Nat.mul_one];exact aq,fun aa R=> ?_⟩;have ab:=x.trans R.ext;obtain⟨p,l,c,g,e2,e3,e4,e5,lv,cell,⟨csg,a6⟩,a7⟩:=(hR75.ext R.ext).at (i:=k+i.toNat) (j:=n.toNat) O (by rw[if_pos rfl,QE0];omega);have D:=R.ext.cell Z id;rw[D]at e2;simp only[Zi,Value.slice.injEq]at e2;obtain⟨q1,q2,q3⟩:=e2;rw[e4]at q1;rw[q1];rw[if_pos rfl,QF4 _ _ _ _ _ (by omega),if_neg (by omega)]at cell;rw[if_pos rfl,QE0]at e3;have au:=y T _ _ QM.2.1.symm r6;have r6'':Q7 aa T 33 #[.pointer f]:=R.ext.keep au;refine⟨⟨Q,by omega⟩,?_⟩;show∃av:Int,aa.cell? ((at0 g).add (n.toNat*1))=some (.int .u8 av)/\_
   rw[Nat.mul_one];refine⟨_,cell,_,r6''.cell,(QC1 (hf.ext ab) _ _).mono ?_⟩;rintro e aw ⟨rfl,o⟩;obtain⟨p',l',c',g',f2,f3,f4,f5,lv',cell',⟨csg',z⟩,S⟩:=((hR75.ext R.ext).ext o).at (i:=k+i.toNat) (j:=n.toNat) O (by rw[if_pos rfl,QE0];omega);have E:=o.cell D id;rw[E]at f2;simp only[Zi,Value.slice.injEq]at f2;have ax:g'=g:=by
    rw[q1,f4]at f2;have:=f2.1;simp only[Zi,at0,Zv,and_true]at this;exact this.symm
   subst ax;refine⟨_,rfl,⟨_,o.cell cell id,rfl⟩,⟨Q,by omega⟩,lv',fun ac F=> ?_⟩;rw[bx8]at F;obtain⟨hR104,B⟩:=S _ _ F;have ad:Ext w1 ac:=Q8 (ab.trans o) f5 B;rw[w64 (n:=n+1) (by omega)];obtain⟨csa,ay⟩:=(((hR75.ext R.ext).ext o)).typ (by omega);refine⟨⟨by omega,by omega,M,u,ad,(by rw[←q1];exact B.cell E (by rw[Qx];exact Q7.ne ay z QM.1.symm)),hR104.congr fun t az=> ?_,fun d e cs he hr=> ?_⟩,by show((C:Int)-(n+1)).toNat<((C:Int)-n).toNat;omega⟩
   ·by_cases e:t=k+i.toNat
    ·rw[if_pos e,if_pos e,if_pos rfl,e,show(n+1).toNat=n.toNat+1 by omega,QQe _ _ _ (by omega)]
    ·rw[if_neg e,if_neg e,if_neg e]
   ·have h1:Q7 aw d e cs:=(R.ext.trans o).keep (y d e cs he hr)
    exact B.keep h1 (Q7.ne h1 z he)
  ·simp only[Zb]at ht
   rw[w64 (n:=i+1) (by omega)];refine⟨⟨by omega,by omega,x,hR75.congr fun t az=> ?_,y⟩,by show((m:Int)-(i+1)).toNat<((m:Int)-i).toNat;omega⟩;unfold Qw2
   by_cases e:t=k+i.toNat
   ·rw[if_pos e,if_pos (by omega),e,show k+i.toNat-k=i.toNat by omega,show n.toNat=s.length by omega]
   ·rw[if_neg e]
    by_cases h5:k<=t/\t<k+i.toNat
    ·rw[if_pos h5,if_pos (by omega)]
    ·rw[if_neg h5,if_neg (by omega)]
 ·simp only[Zb]at u
  refine⟨rfl,q,?_,r⟩;rw[show i.toNat=m by omega]at hR;exact hR
open Go Go.Vc Go.Gf
open Go.IntKind (i64)
open Go.Value (int)
open Go.Proofs.Tryz (prog)
def QL0(w:World)(base:Nat)(p:σ)(n c:Nat)(L:Nat->τ):Prop:=
 ∃P:Nat->σ×Nat×Nat,Q5 w base 25 1 p n c ((List.range n).map fun t=>Value.slice (P t).1 (P t).2.1 (P t).2.2)/\(∀t,t<n->Q2 w base (P t).1 (P t).2.1 (P t).2.2 (L t))∧
  ∀i j,i<n->j<n->i≠j->∀g,(P i).1=some (at0 g)->(P j).1≠some (at0 g)
theorem QK0.rowsS{w:World}{base k n:Nat}{L:Nat->τ}(h:QK0 w base k n L)(g:n<=maxLen):QL0 w base (some (at0 k)) n n L:=by
 obtain⟨cs,d,i⟩:=h.row;obtain⟨P,e,l⟩:=h.own;refine⟨P,⟨by simp, .inr ⟨k,n,cs,rfl,h.le,d,Nat.le_refl _,g,by omega,?_⟩⟩,fun t ht=>(e t ht).2,l⟩;rw[Nat.mul_one,Zh (by simp[i])];refine List.ext_getElem? fun j=> ?_;rw[Array.getElem?_toList]
 by_cases f:j<n
 ·rw[←Qj d,(e j f).1]
  simp[f]
 ·rw[Array.getElem?_eq_none (by omega),Zr (by simp;omega)]
section
variable {w w':World}{base n c:Nat}{p:σ}{L:Nat->τ}
theorem QL0.rows(h:QL0 w base p n c L){a:Addr}(f:p=some a):Qg w base a n L:=by
 obtain⟨P,e,i,j⟩:=h;subst f;refine⟨fun l=> ?_,P,fun t ht=>⟨?_,i t ht⟩,j⟩
 ·rcases e.where_ with⟨h,_⟩|⟨g,h,_,_,_,cur,d,_⟩
  ·cases h
  ·cases h;exact⟨cur,d⟩
 ·obtain⟨o,ha,d⟩:=Q5.cells e t (Value.slice (P t).1 (P t).2.1 (P t).2.2) (by simp[ht])
  cases ha;exact d
theorem QL0.ext(h:QL0 w base p n c L)(d:Ext w w'):QL0 w' base p n c L:=by
 obtain⟨P,e,f,g⟩:=h;exact⟨P,Q5.ext e d,fun t ht=>Q2.ext (f t ht) d,g⟩
theorem QL0.push{w1:World}{k:Nat}{q:σ}{m d:Nat}{bs:τ}(h:QL0 w base p n c L)(r:Ext w w')(F:Q2 w' w.heap.size q m d bs)(z:QG w' k (.cells #[.slice q m d] 25) w1)(hb:base<=w.heap.size)(U:n<=1073741824):
  ∃A B l,Sem.run prog (Builtin.append_ #[79,79] 79 #[.slice p n c, .slice (some (at0 k)) 1 1]) w1= .ok (.slice A (n+1) B) l/\QL0 l base A (n+1) B (fun t=>if t=n then bs else L t)∧
   Upd (fun x=>p=some (at0 x)) w' l:=by
 obtain⟨P,K,G,M⟩:=h;have C:=r.trans z.ext;have I:=Q5.ext K C;have N:Qa w1 (some (at0 k)) [.slice q m d]:=by
  intro j u O;refine⟨_,rfl,z.row.row.cell ?_⟩;simpa using O
 obtain⟨A,B,l,Q,D,v,_⟩:=I.append Qwh 79 (q:=some (at0 k)) (m:=1) (d:=1) (news:=[.slice q m d]) rfl N (fun h=>by cases h)
  (fun u v=>by rw[List.mem_singleton]at v;subst v;rfl) (by unfold maxLen;omega) (by omega) (Zu hb C.size)
 have keep:∀{b:Nat}{p:σ}{n c:Nat}{bs:τ},Q2 w1 b p n c bs->Q2 l b p n c bs:=fun o=>Q2.other o v fun x r=>by
  obtain⟨cs,R,fz,S,f⟩:=Q5.typed I r;exact⟨cs,R,fz,S,by rw[f];exact QM.1.symm⟩
 refine⟨A,B,l,Q,⟨fun t=>if t=n then(q,m,d)else P t,?_,fun t ht=> ?_,?_⟩,Upd.trans z.ext.upd v fun x _ r=>r⟩
 ·have e:((List.range (n+1)).map fun t=>Value.slice (if t=n then(q,m,d)else P t).1 (if t=n then(q,m,d)else P t).2.1 (if t=n then(q,m,d)else P t).2.2)=((List.range n).map fun t=>Value.slice (P t).1 (P t).2.1 (P t).2.2)++ [.slice q m d]:=by
   have T:((List.range n).map fun t=>Value.slice (if t=n then(q,m,d)else P t).1 (if t=n then(q,m,d)else P t).2.1 (if t=n then(q,m,d)else P t).2.2)=(List.range n).map fun t=>Value.slice (P t).1 (P t).2.1 (P t).2.2:=
    List.map_congr_left fun t ht=>by
     rw[List.mem_range]at ht;rw[if_neg (by omega)]
   rw[List.range_succ,Zp,T,List.map_cons,List.map_nil,if_pos rfl]
  rw[e];exact D
 ·dsimp only
  by_cases e:t=n
  ·rw[if_pos e,if_pos e]
   exact keep (Q2.base_le (Q2.ext F z.ext) hb)
  ·rw[if_neg e,if_neg e]
   exact keep (Q2.ext (G t (by omega)) C)
 ·have fresh:∀t,t<n->∀g,(P t).1=some (at0 g)->q≠some (at0 g):=fun t ht g i E=>by
   have f:=G t ht;rw[i]at f;have:=Q5.lt_heap f;have:=Q2.blk F E;omega
  intro s t hs ht y g i
  dsimp only at i⊢
  by_cases f:s=n
  ·rw[if_pos f]at i
   rw[if_neg (fun e=>y (f.trans e.symm))];exact fun E=>fresh t (by omega) g E i
  ·rw[if_neg f]at i
   by_cases J:t=n
   ·rw[if_pos J];exact fresh s (by omega) g i
   ·rw[if_neg J];exact M s t (by omega) (by omega) y g i
end
def QLd(k:Nat)(L:List (τ))(s j t:Nat):τ:=if t<k then L.getD t []else(List.range s).map fun n=>xs j fun i=>gm (Q84 k (t-k) i) (co (L.getD i []) n)
def Qd0(k m:Nat)(L:List (τ))(t:Nat):τ:=(List.range (L.getD 0 []).length).map fun n=>co (enc k m (L.map fun x=>co x n)) t
theorem Qq2{s n:Nat}(f:Nat->UInt8)(h:n<s):co ((List.range s).map f) n=f n:=by simp[Gf.co,Zj,h]
theorem Qda(L:List (τ))(n i:Nat):co (L.map fun x=>co x n) i=co (L.getD i []) n:=by
 simp only[Gf.co,Zj,Zq];cases L[i]? <;>simp
theorem Qwf{k m j s t:Nat}{L:List (τ)}(hs:(L.getD j []).length=s)(ht:t<k+m):Qw2 k m (fun i=>Q84 k i j) (L.getD j []) (QLd k L s j) t=QLd k L s (j+1) t:=by
 unfold Qw2 QLd
 by_cases h:t<k
 ·rw[if_neg (by omega),if_pos h,if_pos h]
 ·rw[if_pos (by omega),if_neg h,if_neg h]
  refine Q92 (by rw[QE0];simp) fun n e=> ?_;rw[QE0]at e;have d:n<s:=by simpa using e
  rw[QF4 _ _ _ _ _ e,if_pos (by omega),Qq2 _ d,Qq2 _ d]
  rfl
theorem Qvf{k m t:Nat}{L:List (τ)}(f:L.length=k)(d:∀i,i<k->(L.getD i []).length=(L.getD 0 []).length)(ht:t<k+m):QLd k L (L.getD 0 []).length k t=Qd0 k m L t:=by
 unfold QLd Qd0;have e:∀n,(L.map fun x=>co x n).length=k:=fun n=>by rw[List.length_map,f]
 by_cases h:t<k
 ·rw[if_pos h]
  refine Q92 (by rw[List.length_map,List.length_range];exact d t h) fun n g=> ?_;rw[Qq2 _ (by rw[←d t h];exact g),Q23 (e n) h,Qda]
 ·rw[if_neg h]
  refine List.map_congr_left fun n _=> ?_;obtain⟨i,rfl⟩:∃i,t=k+i:=⟨t-k,by omega⟩;rw[QL8 (e n) (by omega),show k+i-k=i by omega];unfold par;exact Qv fun j _=>by rw[Qda];rfl
theorem Qmj{j:Int}{p:σ}{l c d f g:Nat}{w:World}{K:φ}(h:Calls prog 111 #[int i64 j, .slice p l c, .pointer (some (at0 d)), .pointer (some (at0 f)), .pointer (some (at0 g))] w fun e w'=>e= .returned (.tuple #[])/\K (.tuple #[]) w'):
  Q48 prog (.func (.func 111) #[] #[.pointer (some (at0 d)), .pointer (some (at0 f)), .pointer (some (at0 g))]) [int i64 j, .slice p l c] w K:=by
 have e:Q48 prog (.func (.func 111) #[] #[.pointer (some (at0 d)), .pointer (some (at0 f)), .pointer (some (at0 g))]) [int i64 j, .slice p l c] w K=
  Calls prog 111 #[int i64 j, .slice p l c, .pointer (some (at0 d)), .pointer (some (at0 f)), .pointer (some (at0 g))] w (fun e w'=>e= .returned (.tuple #[])/\K (.tuple #[]) w'):=by kernel_rfl
 rw[e];exact h
def Qtk(w:World)(k m:Int)(l:Nat)(L:List (τ))(v:Value)(w':World):Prop:=Ext w w'/\((¬QZ0 k m/\v= .tuple #[.slice none 0 0,int i64 50])\/(QZ0 k m/\¬Qb5 k l L/\v= .tuple #[.slice none 0 0,int i64 60])∨
 QZ0 k m/\Qb5 k l L/\∃a c,v= .tuple #[.slice (some a) (k+m).toNat c,int i64 0]/\Qg w' w.heap.size a (k+m).toNat (Qd0 k.toNat m.toNat L)/\∃g,a=at0 g/\w.heap.size<=g)
def Qam(w:World)(q11:σ)(k m:Int)(L:List (τ))(p:σ)(n c:Nat)(w1:World):Prop:=
 ∃w0,Ext w w0/\Ext w0 w1/\QL0 w1 w0.heap.size p n c (QLd k.toNat L (L.getD 0 []).length 0)/\∃k11 pA lA cA A,q11=some (at0 k11)/\A=QA4 (Q84 k.toNat) k.toNat (m.toNat*k.toNat)/\Q1 w0 pA lA A/\Q7 w0 k11 137 (Q21 m k pA lA cA)
def Q9m(w:World)(f:σ)(k m:Int)(L:List (τ))(p:σ)(n:Nat)(v:Value)(j:Int)(w1:World):Prop:=
 ∃w0 a k6 k8 k10 pA lA cA A pp cp,p=some a/\v= .func (.func 111) #[] #[.pointer (some (at0 k10)), .pointer (some (at0 k8)), .pointer (some (at0 k6))]/\Ext w w0/\Ext w0 w1/\A=QA4 (Q84 k.toNat) k.toNat (m.toNat*k.toNat)/\Q1 w0 pA lA A∧
  Q7 w1 k6 33 #[.pointer f]/\Q7 w1 k8 137 (Q21 m k pA lA cA)/\(0<m.toNat->pp=some (a.add k.toNat))/\Q7 w1 k10 79 #[.slice pp m.toNat cp]/\(n:Int)=k+m/\(∃g,a=at0 g/\w0.heap.size<=g)/\Qg w1 w0.heap.size a n (QLd k.toNat L (L.getD 0 []).length j.toNat)
set_option maxRecDepth 20000 in
theorem Qtb{f p:σ}{w:World}{l c:Nat}{L:List (τ)}(hf:Qm w f)(h:Qr w p l L)(bl:∀x∈L,x.length<=1073741824)(hl:l<=4611686018427387904)(k m:Int):
  Calls prog 39 #[.pointer f,int i64 k,int i64 m, .slice p l c] w fun e w'=>∃v,e= .returned v/\Qtk w k m l L v w':=by
 refine F39_calls f k m p l c w (Qtk w k m l L)
  (fun ba _ bb C u F i G=>0<=i/\i<=m/\(u:Int)=k+i/\Qam w ba k m L C u F G) (fun _ _ _ _ _ _ i _=>(m-i).toNat)
  (fun C u _ bc _ _ _ _ _ j ae=>0<=j/\j<=k/\Q9m w f k m L C u bc j ae) (fun _ _ _ _ _ _ _ _ _ j _=>(k-j).toNat) ?_
 have hL:=h.1;refine(QK9 hf h (fun x hx=>by have:=bl x hx;omega) hl k m k).mono ?_;have main:∀(I:World)(a b:Int)(p:σ)(l c:Nat),Ext w I->∀(K:Nat->ψ),(∀o r,Q7 r o 137 (Q21 a b p l c)->Ext I r->K o r)→
   (∀(o:Nat)(D:World),QG I o (.cells #[int i64 (0:Int),int i64 (0:Int), .slice none 0 0] 137) D->(QD D (at0 o)/\(∀J:World,Qt D (at0 o) (int i64 a) J->(QD J ((at0 o).add 1)/\(∀M:World,Qt J ((at0 o).add 1) (int i64 b) M→
    (QD M ((at0 o).add 2)/\(∀r:World,Qt M ((at0 o).add 2) (Value.slice p l c) r->K o r))))))):=by
  intro I a b p l c hx K hK o D U;have O:Q7 D o 137 (Q21 0 0 none 0 0):=U.at;have V:I.heap.size<=o:=by rw[U.size.1];exact Nat.le_refl _
  refine⟨O.live0 (by simp),fun J be=> ?_⟩;obtain⟨c1,v1⟩:=O.set0 be;refine⟨c1.live3 (by simp),fun M bf=> ?_⟩;obtain⟨c2,v2⟩:=c1.set3 bf;refine⟨c2.live3 (by simp),fun r bg=> ?_⟩;obtain⟨c3,v3⟩:=c2.set3 bg;exact hK o r c3 (Q8 (Q8 (Q8 U.ext V v1) V v2) V v3)
 rintro e I ⟨x5,⟨W,a,b,pA,lA,cA,rfl⟩|⟨W,y,a,b,pA,lA,cA,rfl⟩|⟨W,y,pA,lA,cA,rfl,oA⟩⟩
 ·refine⟨_,_,_,_,_,_,rfl,main I _ _ _ _ _ x5 _ fun o r _ z=>Q0 (fun _=> ?_) (fun h=>by simp at h)⟩
  exact⟨x5.trans z, .inl ⟨W,rfl⟩⟩
 ·refine⟨_,_,_,_,_,_,rfl,main I _ _ _ _ _ x5 _ fun o r _ z=>Q0 (fun _=> ?_) (fun h=>by simp at h)⟩
  exact⟨x5.trans z, .inr (.inl ⟨W,y,rfl⟩)⟩
 obtain⟨a1,a2,a3,a4⟩:=W;have W:QZ0 k m:=⟨a1,a2,a3,a4⟩;have cm:=y.1;have cq:l=k.toNat:=by omega
 refine⟨_,_,_,_,_,_,rfl,main I _ _ _ _ _ x5 _ fun o r O z=>Q0 (fun h=>by simp at h) fun _=> ?_⟩;have S:=x5.trans z;refine(Qai (h.ext S) (by omega) bl).mono ?_;rintro e bb ⟨ko,rfl,bh,out⟩;have bi:(L.getD 0 []).length<=1073741824:=by
  rw[Zj,Zc (by omega)];exact bl _ (List.getElem_mem _)
 refine⟨_,_,_,rfl,⟨by omega,by omega,by omega,r,S,bh,?_,o,pA,lA,cA,_,rfl,rfl,Q2.bytes (Q2.ext oA z),O⟩,?_⟩
 ·obtain⟨P,Q,g2,g3⟩:=out.rowsS (by unfold maxLen;omega)
  refine⟨P,Q,fun t ht=> ?_,g3⟩;have e1:QLd k.toNat L (L.getD 0 []).length 0 t=L.getD t []:=by unfold QLd;rw[if_pos (by omega)]
  rw[e1];exact g2 t ht
 rintro C u F i G ⟨cr,cs,ct,w0,y1,y2,hR,b6,pA',lA',cA',A,q1,hA,bA,rA⟩;simp only[Zi,at0,Zv,and_true]at q1;subst q1
 intros
 have yw:=y1.trans y2;refine Q0 (fun hs=> ?_) (fun hs=> ?_)
 ·
  simp only[Za]at hs;obtain⟨a,q,ln,cn,rfl,hc,hq,_⟩:=(h.ext yw).2 0 (by omega);have ak:=hq.1;refine⟨⟨by omega,by omega⟩,_,_,_,hc,⟨by omega,by omega,by omega⟩,fun bk bm E cu cw al=> ?_⟩;rw[Ze]at E al;have bn:Q2 bm G.heap.size (some (at0 bk)) ln ln (List.replicate ln 0):=Q2.made E (by rw[E.size.1];exact Nat.le_refl _) (by unfold maxLen;omega);obtain⟨p',c',am,hr,bo,hu⟩:=hR.push E.ext bn al y2.size (by omega);have bp:Ext w0 am:=Q2.new_ext (y2.trans E.ext) hu fun x hx=>by
   obtain⟨P,Q,_⟩:=hR;exact Q5.blk Q hx
  rw[w64 (n:=i+1) (by omega)];refine⟨_,_,_,am,hr,⟨by omega,by omega,by omega,w0,y1,bp,?_,o,pA',lA',cA',A,rfl,hA,bA,rA⟩,by show(m-(i+1)).toNat<(m-i).toNat;omega⟩;obtain⟨P,Q,g2,g3⟩:=bo;refine⟨P,Q,fun t ht=> ?_,g3⟩;have g4:=g2 t ht
  dsimp only at g4
  by_cases e:t=u
  ·rw[if_pos e]at g4
   have e1:QLd k.toNat L (L.getD 0 []).length 0 t=List.replicate ln 0:=by
    unfold QLd;rw[if_neg (by omega),ak];exact List.ext_getElem (by simp) fun j h1 h2=>by simp[xs]
   rw[e1];exact g4
  ·rw[if_neg e]at g4
   exact g4
 ·simp only[Zb]at hs
  obtain rfl:i=m:=by omega
  intro bq hd;have rA42:Q7 bq o 137 (Q21 i k pA' lA' cA'):=hd.ext.keep (y2.keep rA);obtain⟨P,Q,g2,g3⟩:=hR;have aq:∃a,C=some a/\∃g,a=at0 g/\w0.heap.size<=g:=by
   rcases Q.where_ with⟨_,h0,_⟩|⟨g,h0,hg,_⟩
   ·omega
   ·exact⟨_,h0,g,rfl,hg⟩
  obtain⟨a,rfl,bs⟩:=aq;have hR:Qg G w0.heap.size a u (QLd k.toNat L (L.getD 0 []).length 0):=QL0.rows ⟨P,Q,g2,g3⟩ rfl;have c0:u<=F:=by
   rcases Q.where_ with⟨_,h0,_⟩|⟨g,_,_,_,h0,_⟩
   ·omega
   ·exact h0
  refine⟨_,rA42.cell0 rfl,_,rA42.cell3 rfl,_,_,_,rA42.cell3 rfl,⟨by omega,by omega⟩,Qkd.mono ?_⟩;rintro e c5 ⟨k6,k8,X,rfl,au,r6,r8,r10⟩;have bv:u-k.toNat=i.toNat:=by omega
  rw[bv]at r10;refine⟨_,rfl,⟨by omega,by omega,w0,a,k6,k8,X,pA',lA',cA',A,_,_,rfl,rfl,y1,(y2.trans hd.ext).trans au,hA,bA,r6,r8,fun c6=> ?_,r10,by omega,bs,(hR.ext hd.ext).ext au⟩,?_⟩
  ·unfold QT0
   rw[if_neg (by omega)];show some (a.add (k.toNat*1))=_
   rw[Nat.mul_one]
  rintro j ae ⟨bw,c7,av,a',bx,bz,aw,pB,lB,cB,B,pp,cp,q1,q2,z1,z2,hB,bB,t6,t8,ax,ay,_,T,az⟩;cases q1;have q3:X=aw/\k8=bz/\k6=bx:=by simpa using q2
  obtain⟨rfl,rfl,rfl⟩:=q3
  intros
  have zw:=z1.trans z2;refine Q0 (fun R=> ?_) (fun R=> ?_)
  ·simp only[Za]at R
   obtain⟨d,q,ln,cn,rfl,hc,hq,_⟩:=(h.ext zw).2 j.toNat (by omega);obtain⟨d',q',ln',cn',b1,b2,a0,_⟩:=(h.ext z1).2 j.toNat (by omega);cases b1;have Y:=z2.cell b2 id;rw[hc]at Y;simp only[Zi,Value.slice.injEq]at Y;obtain⟨rfl,rfl,rfl⟩:=Y;have ak:=a0.1;have Z:=y.2 j.toNat (by omega);refine⟨⟨bw,R⟩,_,_,_,by rw[Nat.mul_one];exact hc,?_⟩;refine Qmj ?_;have e1:Q21 i k pB lB cB=Q21 i ((k.toNat:Nat):Int) pB lB cB:=by rw[show((k.toNat:Nat):Int)=k by omega]
   rw[e1]at t8
   have a5:=Qjh (w1:=av) (m:=i.toNat) (j:=j.toNat) (N:=u) (c2:=cn) (val:=Q84 k.toNat) (hf.ext z1) bB hB a0 (by omega) (by omega) (by omega) (by omega) (by omega) z2 az (fun t ht da=>by
    unfold QLd
    rw[if_neg (by omega),List.length_map,List.length_range];omega) t6 t8 ax ay
   rw[show((j.toNat:Nat):Int)=j by omega]at a5;refine a5.mono ?_;rintro e db ⟨rfl,z3,hR3,aa⟩;rw[w64 (n:=j+1) (by omega)];rw[←e1]at t8;refine⟨rfl,⟨by omega,by omega,av,a,k6,k8,X,pB,lB,cB,B,pp,cp,rfl,rfl,z1,z3,hB,bB,aa _ _ _ QM.2.1.symm t6,aa _ _ _ Qb0.1 t8,ax,aa _ _ _ QM.2.2.2.2.1.symm ay,by omega,T,hR3.congr fun t ht=> ?_⟩,by show(k-(j+1)).toNat<(k-j).toNat;omega⟩;rw[show(j+1).toNat=j.toNat+1 by omega];exact(Qwf Z (by omega)).symm
  ·simp only[Zb]at R
   have hn:(k+i).toNat=u:=by omega
   obtain⟨gg,b3,b4⟩:=T;refine⟨zw, .inr (.inr ⟨W,y,a,F,?_,?_,gg,b3,Zu z1.size b4⟩)⟩
   ·rw[hn]
   ·rw[hn]
    refine(az.congr fun t ht=> ?_).base_le z1.size;rw[show j.toNat=k.toNat by omega];exact(Qvf (by omega) (fun i' de=>y.2 i' (by omega)) (by omega)).symm
open Go Go.Vc Go.Gf
open Go.IntKind (i64)
open Go.Value (int)
open Go.Proofs.Tryz (prog)
theorem Q2.append{w:World}{base:Nat}{p q:σ}{n c m d:Nat}{bs cs:τ}(h:Q2 w base p n c bs)(j:Q1 w q m cs)(hb:base<=w.heap.size)(v:n+m<=1073741824):
  ∃g i f,Sem.run prog (Builtin.append_ #[25,25] 25 #[.slice p n c, .slice q m d]) w= .ok (.slice g (n+m) i) f/\Q2 f base g (n+m) i (bs++cs)/\Upd (fun x=>p=some (at0 x)) w f:=by
 have r:=j.1
 obtain⟨g,i,f,t,l,u,_⟩:=Q5.append QJd 25 h (q:=q) (m:=m) (d:=d) (news:=QE cs) (by rw[Qb];omega) j.cells (fun e=>by
  subst e
  by_cases o:cs=[]
  ·subst o;exact r
  ·obtain⟨a,ha,_⟩:=j.2 o
   cases ha) (Qd1 cs) (by unfold maxLen;omega) (by omega) hb
 refine⟨g,i,f,t,?_,u⟩;have:QE bs++QE cs=QE (bs++cs):=by simp[QE]
 rw[this]at l;exact l
theorem Qgb{p:σ}{l c:Nat}{w:World}{bs:τ}(h:Q1 w p l bs)(M:l<=1048576):
  Calls prog 204 #[.slice p l c] w fun e w'=>∃f j,e= .returned (.slice f l j)/\Ext w w'/\Qr w' f l (bs.map fun b=>[b]):=by
 refine(F204_calls p l c w (fun v w'=>∃f j,v= .slice f l j/\Ext w w'/\Qr w' f l (bs.map fun b=>[b]))
  (fun _ r o c2 i t=>0<=i/\i<=l/\Ext w t/\(o:Int)=i/\Qf4 t w.heap.size r o c2 ((bs.take i.toNat).map fun b=>[b])) (fun _ _ _ _ i _=>(l-i).toNat) ?_).mono (by rintro e w' ⟨v,rfl,f,j,rfl,h⟩;exact⟨f,j,rfl,h⟩)
 have hb:=h.1;refine⟨⟨by omega,by omega,Upd.refl _ _,rfl,Qf4.nil _ _⟩,?_⟩;rintro r o c2 i t ⟨u,C,g,D,q⟩
 intros
 refine Q0 (fun hs=> ?_) (fun hs=> ?_)
 ·simp only[Za]at hs
  obtain⟨a,rfl,ha⟩:=Q1.co (h.ext g) (i:=i.toNat) (by omega);refine⟨⟨u,hs⟩,_,by rw[Nat.mul_one];exact ha,fun E F d G I y=> ?_⟩;have z:=QG1 (bs:=[co bs i.toNat]) d (by unfold maxLen;simp);obtain⟨f,j,A,J,B,K⟩:=Qf4.push (Qf4.ext q d.ext) (Q2.base_le z g.size) y (g.trans d.ext).size (by omega);rw[w64 (n:=i+1) (by omega)];refine⟨_,_,_,A,J,⟨by omega,by omega,Q2.new_ext (g.trans d.ext) K fun x g=>Qf4.blk q g,by omega,?_⟩,by show((l:Int)-(i+1)).toNat<((l:Int)-i).toNat;omega⟩;have e:bs.take (i+1).toNat=bs.take i.toNat++ [co bs i.toNat]:=by
   rw[show(i+1).toNat=i.toNat+1 by omega,Zn,Zc (by omega)];simp[Gf.co,Zj,Zc (show i.toNat<bs.length by omega)]
  rw[e,Zp];exact B
 ·simp only[Zb]at hs
  rw[Zh (by omega)]at q;have:o=l:=by omega
  subst this;exact⟨r,c2,rfl,g,Qf4.lists q⟩
theorem Q3g{p:σ}{l c:Nat}{w:World}{L:List (τ)}(h:Qr w p l L)(M:l<=1048576)(hb:∀i,((L.take i).flatten).length<=536870912):
  Calls prog 205 #[.slice p l c] w fun e w'=>∃f j g,e= .returned (.slice f j g)/\Ext w w'/\Q2 w' w.heap.size f j g L.flatten:=by
 refine(F205_calls p l c w (fun v w'=>∃f j g,v= .slice f j g/\Ext w w'/\Q2 w' w.heap.size f j g L.flatten)
  (fun _ u y c2 i z=>0<=i/\i<=l/\Ext w z/\Q2 z w.heap.size u y c2 (L.take i.toNat).flatten) (fun _ _ _ _ i _=>(l-i).toNat) ?_).mono (by rintro e w' ⟨v,rfl,f,j,g,rfl,h⟩;exact⟨f,j,g,rfl,h⟩)
 have hL:=h.1;refine⟨⟨by omega,by omega,Upd.refl _ _,Q5.nil _ _ _ _⟩,?_⟩;rintro u y c2 i z ⟨A,E,o,r⟩
 intros
 refine Q0 (fun hs=> ?_) (fun hs=> ?_)
 ·simp only[Za]at hs
  obtain⟨a,q,ln,cn,rfl,F,C,_⟩:=(h.ext o).2 i.toNat (by omega);have e:L.take (i+1).toNat=L.take i.toNat++ [L.getD i.toNat []]:=by
   rw[show(i+1).toNat=i.toNat+1 by omega,Zn,Zc (by omega)];simp[Zj,Zc (show i.toNat<L.length by omega)]
  have D:(L.take (i+1).toNat).flatten=(L.take i.toNat).flatten++L.getD i.toNat []:=by rw[e];simp
  have t:=hb (i+1).toNat;rw[D,List.length_append]at t;have G:=Q2.len r;have lne:=C.1;obtain⟨f,g,I,J,B,K⟩:=Q2.append (d:=cn) r C o.size (by omega);rw[w64 (n:=i+1) (by omega)];refine⟨⟨A,hs⟩,_,_,_,by rw[Nat.mul_one];exact F,_,_,_,I,J,⟨by omega,by omega,Q2.new_ext o K fun x o=>Q2.blk r o,by rw[D];exact B⟩,by show((l:Int)-(i+1)).toNat<((l:Int)-i).toNat;omega⟩
 ·simp only[Zb]at hs
  rw[Zh (by omega)]at r;exact⟨u,y,c2,rfl,o,r⟩
theorem QAh{k m:Nat}(q:0<k){d:τ}(e:d.length=k):((List.range (k+m)).map (Qd0 k m (d.map fun b=>[b]))).flatten=enc k m d:=by
 have f:((d.map fun b=>[b]).getD 0 []).length=1:=by
  match d,e with
  | [],e=>simp at e;omega
  |b::d,_=>rfl
 have g:(d.map fun b=>[b]).map (fun x=>co x 0)=d:=by
  rw[List.map_map];exact(List.map_congr_left fun _ _=>rfl).trans (List.map_id d)
 have h:∀t,Qd0 k m (d.map fun b=>[b]) t=[co (enc k m d) t]:=fun t=>by
  unfold Qd0;rw[f];show [co (enc k m ((d.map fun b=>[b]).map fun x=>co x 0)) t]=_
  rw[g]
 have j:(List.range (k+m)).map (Qd0 k m (d.map fun b=>[b]))=(List.range (k+m)).map fun t=>[co (enc k m d) t]:=List.map_congr_left fun t _=>h t;rw[j];have l:∀n,((List.range n).map fun t=>[co (enc k m d) t]).flatten=(List.range n).map fun t=>co (enc k m d) t:=fun n=>by
  induction n with
  |zero=>rfl
  |succ n ih=>rw[List.range_succ,Zp,List.flatten_append,ih,Zp];rfl
 rw[l];have o:=Qsb (m:=m) e;refine Q92 (by simp[o]) fun i hi=> ?_;rw[Qq2 _ (by simpa using hi)]
theorem Q8g(d:τ)(t:Nat)(ht:t<d.length):((d.map fun b=>[b]).getD t []).length=1:=by
 simp[Zj,ht]
theorem QDf{k m:Nat}{d:τ}(i:Nat):(((List.range (k+m)).map (Qd0 k m (d.map fun b=>[b]))).take i).flatten.length<=k+m:=by
 have e:∀t,(Qd0 k m (d.map fun b=>[b]) t).length<=1:=fun t=>by
  unfold Qd0;rw[List.length_map,List.length_range];cases d with
  |nil=>simp
  |cons b d=>simp
 have f:∀L:List (τ),(∀x∈L,x.length<=1)->L.flatten.length<=L.length:=fun L=>by
  induction L with
  |nil=>intro _;simp
  |cons x L ih=>
   intro h;rw[List.flatten_cons,List.length_append,List.length_cons];have:=ih fun y g=>h y (List.mem_cons_of_mem _ g);have:=h x List.mem_cons_self;omega
 refine Zu (f _ fun x j=> ?_) (by simp;omega);obtain⟨t,_,rfl⟩:=List.mem_map.1 (List.mem_of_mem_take j);exact e t
open Go Go.Vc Go.Gf
open Go.IntKind (i64)
open Go.Value (int)
open Go.Proofs.Tryz (prog)
theorem QL0.congr{w:World}{base n c:Nat}{p:σ}{L L':Nat->τ}(h:QL0 w base p n c L)(hL:∀i,i<n->L' i=L i):QL0 w base p n c L':=by
 obtain⟨P,d,e,f⟩:=h;exact⟨P,d,fun t ht=>by rw[hL t ht];exact e t ht,f⟩
theorem QL0.nil(w:World)(base:Nat)(L:Nat->τ):QL0 w base none 0 0 L:=
 ⟨fun _=>(none,0,0),Q5.nil _ _ _ _,fun t ht=>(Nat.not_lt_zero _ ht).elim,fun _ _ h=>(Nat.not_lt_zero _ h).elim⟩
theorem Qkb{p:σ}{l c:Nat}{w:World}{L:List (τ)}(h:Qr w p l L)(hl:l<=1048576)(bl:∀x∈L,x.length<=1048576):
  Calls prog 118 #[.slice p l c] w fun e w'=>∃g j,e= .returned (.slice g l j)/\Ext w w'/\QL0 w' w.heap.size g l j (fun t=>L.getD t []):=by
 refine(F118_calls p l c w (fun v w'=>∃g j,v= .slice g l j/\Ext w w'/\QL0 w' w.heap.size g l j (fun t=>L.getD t []))
  (fun _ D r c2 i u=>0<=i/\i<=l/\Ext w u/\(r:Int)=i/\QL0 u w.heap.size D r c2 (fun t=>L.getD t [])) (fun _ _ _ _ i _=>(l-i).toNat) ?_).mono (by rintro e w' ⟨v,rfl,g,j,rfl,h⟩;exact⟨g,j,rfl,h⟩)
 have hL:=h.1;refine⟨⟨by omega,by omega,Upd.refl _ _,rfl,QL0.nil _ _ _⟩,?_⟩;rintro D r c2 i u ⟨E,S,o,T,F⟩
 intros
 refine Q0 (fun hs=> ?_) (fun hs=> ?_)
 ·simp only[Za]at hs
  intro G I f;have z:Q2 I u.heap.size (some (at0 G)) 0 0 []:=Q5.made f (by rw[f.size.1];exact Nat.le_refl _) (Nat.le_refl _) (by unfold maxLen;omega) rfl;obtain⟨a,q,ln,cn,rfl,U,Q,_⟩:=(h.ext (o.trans f.ext)).2 i.toNat (by omega);have V:=Q.1;have R:(L.getD i.toNat []).length<=1048576:=by
   rw[Zj,Zc (by omega)];exact bl _ (List.getElem_mem _)
  obtain⟨W,X,A,Y,B,J⟩:=Q2.append (d:=cn) z Q f.ext.size (by omega);rw[List.nil_append]at B;have C:Ext u A:=Q2.new_ext f.ext J fun x o=>Q2.blk z o;refine⟨⟨E,hs⟩,_,_,_,by rw[Nat.mul_one];exact U,_,_,_,A,Y,fun Z aa K=> ?_⟩;obtain⟨g,j,M,N,O,hu⟩:=F.push C B K o.size (by omega);rw[w64 (n:=i+1) (by omega)];refine⟨_,_,_,M,N,⟨by omega,by omega,Q2.new_ext (o.trans C) hu fun y hy=> ?_,by omega,O.congr fun t ht=> ?_⟩,by show((l:Int)-(i+1)).toNat<((l:Int)-i).toNat;omega⟩
  ·obtain⟨P,g1,_⟩:=F
   exact Q5.blk g1 hy
  ·by_cases e:t=r
   ·rw[if_pos e,show t=i.toNat by omega]
   ·rw[if_neg e]
 ·simp only[Zb]at hs
  obtain rfl:r=l:=by omega
  exact⟨D,c2,rfl,o,F⟩
theorem QL0.first{w:World}{base n c:Nat}{p:σ}{L:Nat->τ}(h:QL0 w base p n c L)(j:0<n):∃g,p=some (at0 g)/\base<=g/\Qg w base (at0 g) n L:=by
 obtain⟨P,e,f,i⟩:=h;rcases e.where_ with⟨_,d,_⟩|⟨g,d,hb,_⟩
 ·omega
 ·exact⟨g,d,hb,QL0.rows ⟨P,e,f,i⟩ d⟩
theorem Qg.put{w0 w w':World}{base k n i:Nat}{L:Nat->τ}(h:Qg w0 base (at0 k) n L)(q:Ext w0 w)(hi:i<n){p:σ}{m c:Nat}{bs:τ}(z:Q2 w w0.heap.size p m c bs)(hb:base<=w0.heap.size)
  (hs:Qt w ((at0 k).add i) (.slice p m c) w'):Qg w' base (at0 k) n (fun t=>if t=i then bs else L t)/\Upd (fun x=>x=k) w w':=by
 obtain⟨cs,j⟩:=(h.ext q).typ (by omega);have j:Q7 w k 25 cs:=j;obtain⟨P,r,C⟩:=h.own;have u:i<cs.size:=by
  have d:=q.cell (r i hi).1 id;rw[Qj j]at d;exact(Array.getElem?_eq_some_iff.1 d).1
 obtain⟨A,v⟩:=j.set3 hs;have fresh:∀t,t<n->∀g,(P t).1=some (at0 g)->p≠some (at0 g):=fun t ht g f y=>by
  have d:=(r t ht).2;rw[f]at d;have:=Q5.lt_heap d;have:=Q2.blk z y;omega
 refine⟨⟨fun _=>⟨_,A⟩,fun t=>if t=i then(p,m,c)else P t,fun t ht=> ?_,?_⟩,v⟩
 ·dsimp only
  rw[Qj A,Array.getElem?_setIfInBounds]
  by_cases e:t=i
  ·subst e
   simp only[if_true];rw[if_pos u];exact⟨rfl,Q2.base_le (Q2.apart z v j QM.1.symm) hb⟩
  ·rw[if_neg (fun D=>e D.symm),if_neg e,if_neg e]
   refine⟨?_,Q2.apart (Q2.ext (r t ht).2 q) v j QM.1.symm⟩;rw[←Qj j];exact q.cell (r t ht).1 id
 ·intro s t l ht o g f
  dsimp only at f⊢
  by_cases d:s=i
  ·rw[if_pos d]at f
   rw[if_neg (fun e=>o (d.trans e.symm))];exact fun y=>fresh t ht g y f
  ·rw[if_neg d]at f
   by_cases B:t=i
   ·rw[if_pos B];exact fresh s l g f
   ·rw[if_neg B];exact C s t l ht o g f
theorem Qg.otherT{w w':World}{base n:Nat}{a:Addr}{L:Nat->τ}{S:Nat->Prop}(h:Qg w base a n L)(j:Upd S w w')(hS:∀x,S x->∃(cs:Array Value)(e:TypeId)(fz:Nat×Nat),w.heap[x]? =some (Obj.cells cs e fz)/\e≠5/\e≠25):Qg w' base a n L:=by
 obtain⟨P,o,r⟩:=h.own;have q:0<n->¬S a.block:=fun d hs=>by
  obtain⟨cs,f⟩:=h.typ d;obtain⟨cs',e,fz,g,_,l⟩:=hS _ hs;unfold Q7 at f;rw[f]at g;cases g;exact l rfl
 refine⟨fun d=>let⟨cs,f⟩:=h.typ d;⟨cs,j.keep f (q d)⟩,P,fun i hi=>⟨j.cell (o i hi).1 (by rw[Qx];exact q (by omega)),Q2.other (o i hi).2 j fun x t=> ?_⟩,r⟩;obtain⟨cs',e,fz,g,l,_⟩:=hS x t;exact⟨cs',e,fz,g,l⟩
theorem QS3:∀{l f:List Nat},l.Pairwise (· < ·)->f.Pairwise (· < ·)->(∀x,x∈l↔x∈f)->l=f
 | [],[],_,_,_=>rfl
 | [],b::_,_,_,h=>by have:=(h b).2 List.mem_cons_self;cases this
 |a::_,[],_,_,h=>by have:=(h a).1 List.mem_cons_self;cases this
 |a::l,b::f,g,i,h=>by
  rw[List.pairwise_cons]at g i;have e:a=b:=by
   rcases List.mem_cons.1 ((h a).1 List.mem_cons_self)with e|e
   ·exact e
   ·rcases List.mem_cons.1 ((h b).2 List.mem_cons_self)with j|j
    ·exact j.symm
    ·have:=i.1 _ e
     have:=g.1 _ j;omega
  subst e;rw[QS3 g.2 i.2 fun x=>⟨fun d=> ?_,fun d=> ?_⟩]
  ·rcases List.mem_cons.1 ((h x).1 (List.mem_cons_of_mem _ d))with e|e
   ·have:=g.1 _ d;omega
   ·exact e
  ·rcases List.mem_cons.1 ((h x).2 (List.mem_cons_of_mem _ d))with e|e
   ·have:=i.1 _ d;omega
   ·exact e
theorem QZh{n:Nat}{ms:List Bool}(h:(mis n ms).length<n):∃i,i<n/\ms.getD i false=false:=by
 refine Decidable.byContradiction fun d=> ?_;have:mis n ms=List.range n:=by
  unfold mis;refine List.filter_eq_self.2 fun i hi=> ?_;rw[List.mem_range]at hi;cases hb:ms.getD i false with
  |true=>rfl
  |false=>exact(d ⟨i,hi,hb⟩).elim
 rw[this,List.length_range]at h;omega
section
variable {k m n s:Nat}{hs bad:List Bool}{b:UInt8}{L:List (τ)}{Lc:List (τ)}
theorem Q71(k m:Nat)(L:List (τ))(t:Nat):(Qd0 k m L t).length=(L.getD 0 []).length:=by simp[Qd0]
theorem QJ2{k m:Nat}{L:List (τ)}{t x:Nat}(d:x<(L.getD 0 []).length):co (Qd0 k m L t) x=co (enc k m (L.map fun y=>co y x)) t:=Qq2 _ d
theorem Q33{n:Nat}{f g:Nat->Bool}(h:∀t,f t=true->g t=true):((List.range n).filter f).length<=((List.range n).filter g).length:=by
 induction n with
 |zero=>simp
 |succ n ih=>
  rw[Qi,Qi,List.length_append,List.length_append]
  by_cases d:f n=true
  ·rw[if_pos d,if_pos (h n d)];simpa using ih
  ·rw[if_neg d]
   simp only[List.length_nil];omega
end
theorem QJ9{f P:σ}{w:World}{o c5:Nat}{L:List (τ)}(hf:Qm w f)(Q:Qr w P o L)(b5:o<=4611686018427387904)(k m n:Int):
  Calls prog 71 #[.pointer f,int i64 k,int i64 m,int i64 n, .slice P o c5] w fun e w'=>Ext w w'∧
   ((¬QZ0 k m/\∃a b p l c,e= .returned (.tuple #[QQ7 a b p l c,int i64 50]))\/(QZ0 k m/\¬Qb5 n o L/\∃a b p l c,e= .returned (.tuple #[QQ7 a b p l c,int i64 60]))∨
    QZ0 k m/\Qb5 n o L/\∃p l c,e= .returned (.tuple #[QQ7 m k p l c,int i64 0])/\Q2 w' w.heap.size p l c (QA4 (Q84 k.toNat) k.toNat (m.toNat*k.toNat))):=by
 refine(F71_calls f k m n P o c5 w (Q8h w k m n o L)
  (fun _ _ _ _ _ _ g b i w1=>b= !decide ((o:Int)=n)/\0<=i/\i<=o/\w1=g/\∀j:Nat,(j:Int)<i->(L.getD j []).length=(L.getD 0 []).length) (fun _ _ _ _ _ _ _ _ i _=>(o-i).toNat) ?_).mono (by
  rintro e w' ⟨v,rfl,F,⟨h,a,b,p,l,c,rfl⟩|⟨h,S,a,b,p,l,c,rfl⟩|⟨h,S,p,l,c,rfl,T⟩⟩
  ·exact⟨F, .inl ⟨h,a,b,p,l,c,rfl⟩⟩
  ·exact⟨F, .inr (.inl ⟨h,S,a,b,p,l,c,rfl⟩)⟩
  ·exact⟨F, .inr (.inr ⟨h,S,p,l,c,rfl,T⟩)⟩)
 have ah:=Q.1;intro G w7 I;have r6:Q7 w7 G 137 (Q21 0 0 none 0 0):=I.at;have n6:w.heap.size<=G:=by rw[I.size.1];exact Nat.le_refl _
 refine(QM5 (hf.ext I.ext) k m).mono ?_;have main:∀(w8:World)(a b:Int)(p:σ)(l c:Nat)(er:Int),Ext w7 w8->∀(K:Nat->ψ),(∀d g,Q7 g d 137 (Q21 a b p l c)->Q7 g G 137 (Q21 0 0 none 0 0)->G≠d->Ext w8 g->K d g)→
   (∀(d:Nat)(t:World),QG w8 d (.cells #[int i64 (0:Int),int i64 (0:Int), .slice none 0 0] 137) t->(QD t (at0 d)/\(∀x:World,Qt t (at0 d) (int i64 a) x->(QD x ((at0 d).add 1)/\(∀y:World,Qt x ((at0 d).add 1) (int i64 b) y→
    (QD y ((at0 d).add 2)/\(∀g:World,Qt y ((at0 d).add 2) (Value.slice p l c) g->K d g))))))):=by
  intro w8 a b p l c er F K hK d t z;have r14:Q7 t d 137 (Q21 0 0 none 0 0):=z.at;have D:w8.heap.size<=d:=by rw[z.size.1];exact Nat.le_refl _
  have ne:G≠d:=by have:=Qe r6;have:=F.size;omega
  refine⟨r14.live0 (by simp),fun x U=> ?_⟩;obtain⟨c1,v1⟩:=r14.set0 U;refine⟨c1.live3 (by simp),fun y V=> ?_⟩;obtain⟨c2,v2⟩:=c1.set3 V;refine⟨c2.live3 (by simp),fun g W=> ?_⟩;obtain⟨c3,v3⟩:=c2.set3 W;exact hK d g c3 (v3.keep (v2.keep (v1.keep (z.ext.keep (F.keep r6)) ne) ne) ne) ne (Q8 (Q8 (Q8 z.ext D v1) D v2) D v3)
 rintro e w8 ⟨N,⟨O,rfl⟩|⟨O,p,l,c,rfl,T⟩⟩
 ·refine⟨_,_,_,_,_,_,rfl,main w8 _ _ _ _ _ 50 N _ fun d g r14 u ne A=>Q0 (fun _=> ?_) (fun h=>by simp at h)⟩
  exact Qeh (R:=Q8h w k m n o L) r14 u rfl fun w' J=>⟨Q8 (I.ext.trans (N.trans A)) n6 J, .inl ⟨O,_,_,_,_,_,rfl⟩⟩
 ·refine⟨_,_,_,_,_,_,rfl,main w8 _ _ _ _ _ 0 N _ fun d g r14 u ne A=>Q0 (fun h=>by simp at h) fun _=> ?_⟩
  have r:=I.ext.trans (N.trans A);have bad:¬Qb5 n o L->F71_A0 g d G (Q8h w k m n o L)
    (fun _ _ _ _ _ _ g b i w1=>b= !decide ((o:Int)=n)/\0<=i/\i<=o/\w1=g/\∀j:Nat,(j:Int)<i->(L.getD j []).length=(L.getD 0 []).length) (fun _ _ _ _ _ _ _ _ i _=>(o-i).toNat):=fun X=>by
   unfold F71_A0;exact Qeh (R:=Q8h w k m n o L) r14 u rfl fun w' J=>⟨Q8 r n6 J, .inr (.inl ⟨O,X,_,_,_,_,_,rfl⟩)⟩
  refine⟨⟨rfl,by omega,by omega,rfl,fun j hj=>by omega⟩,?_⟩;rintro b i ak ⟨rfl,Y,al,rfl,C⟩
  intros
  refine Q0 (fun hs=> ?_) (fun hs=> ?_)
  ·simp only[Za]at hs
   obtain⟨a,q,ln,cn,rfl,hc,hq,_⟩:=(Q.ext r).2 i.toNat (by omega);obtain⟨a',q',ln',cn',Z,aa,ab,_⟩:=(Q.ext r).2 0 (by omega);cases Z;have e1:=hq.1;have e2:=ab.1;refine⟨⟨Y,hs⟩,_,_,_,by rw[Nat.mul_one];exact hc,⟨by omega,by omega⟩,_,_,_,aa,Q0 (fun B=> ?_) (fun B=> ?_)⟩
   ·simp only[Zg,Zb]at B
    refine bad fun E=>B ?_;have:=E.2 i.toNat (by omega);omega
   ·simp only[Zf,Za]at B
    rw[w64 (n:=i+1) (by omega)];refine⟨⟨rfl,by omega,by omega,rfl,fun j hj=> ?_⟩,by show((o:Int)-(i+1)).toNat<((o:Int)-i).toNat;omega⟩
    by_cases h1:(j:Int)<i
    ·exact C j h1
    ·rw[show j=i.toNat by omega];omega
  ·simp only[Zb]at hs
   refine Q0 (fun M=> ?_) (fun M=> ?_)
   ·simp only[Zg,Zb]at M
    exact bad fun E=>M E.1
   ·simp only[Zf,Za]at M
    refine Qeh (R:=Q8h w k m n o L) r14 u rfl fun w' J=>⟨Q8 r n6 J, .inr (.inr ⟨O,⟨M,fun i hi=>C i (by omega)⟩,p,l,c,rfl,?_⟩)⟩;exact Q2.base_le (Q2.apart (Q2.ext T A) J u Qb0.1) I.ext.size
theorem QNd{f p:σ}{w:World}{l c:Nat}{L:List (τ)}(F:Qm w f)(h:Qr w p l L)(G:l<=4611686018427387904)(k m:Int)(B:¬Qb5 k l L):
  Calls prog 39 #[.pointer f,int i64 k,int i64 m, .slice p l c] w fun e w'=>∃v,e= .returned v/\Qtk w k m l L v w':=by
 refine F39_calls f k m p l c w (Qtk w k m l L) (fun _ _ _ _ _ _ _ _=>False) (fun _ _ _ _ _ _ _ _=>0) (fun _ _ _ _ _ _ _ _ _ _ _=>False) (fun _ _ _ _ _ _ _ _ _ _ _=>0) ?_;refine(QJ9 F h G k m k).mono ?_;have main:∀(q:World)(a b:Int)(p:σ)(l c:Nat),Ext w q->∀(K:Nat->ψ),(∀d g,Ext q g->K d g)→
   (∀(d:Nat)(i:World),QG q d (.cells #[int i64 (0:Int),int i64 (0:Int), .slice none 0 0] 137) i->(QD i (at0 d)/\(∀j:World,Qt i (at0 d) (int i64 a) j->(QD j ((at0 d).add 1)/\(∀o:World,Qt j ((at0 d).add 1) (int i64 b) o→
    (QD o ((at0 d).add 2)/\(∀g:World,Qt o ((at0 d).add 2) (Value.slice p l c) g->K d g))))))):=by
  intro q a b p l c N K I d i r;have y:Q7 i d 137 (Q21 0 0 none 0 0):=r.at;have t:q.heap.size<=d:=by rw[r.size.1];exact Nat.le_refl _
  refine⟨y.live0 (by simp),fun j C=> ?_⟩;obtain⟨c1,J⟩:=y.set0 C;refine⟨c1.live3 (by simp),fun o D=> ?_⟩;obtain⟨c2,M⟩:=c1.set3 D;refine⟨c2.live3 (by simp),fun g E=> ?_⟩;obtain⟨c3,v3⟩:=c2.set3 E;exact I d g (Q8 (Q8 (Q8 r.ext t J) t M) t v3)
 rintro e q ⟨z,⟨A,a,b,pA,lA,cA,rfl⟩|⟨A,u,a,b,pA,lA,cA,rfl⟩|⟨A,u,_⟩⟩
 ·refine⟨_,_,_,_,_,_,rfl,main q _ _ _ _ _ z _ fun d g x=>Q0 (fun _=> ?_) (fun h=>by simp at h)⟩
  exact⟨z.trans x, .inl ⟨A,rfl⟩⟩
 ·refine⟨_,_,_,_,_,_,rfl,main q _ _ _ _ _ z _ fun d g x=>Q0 (fun _=> ?_) (fun h=>by simp at h)⟩
  exact⟨z.trans x, .inr (.inl ⟨A,u,rfl⟩)⟩
 ·exact(B u).elim
theorem QMd{f p:σ}{w:World}{l c:Nat}{L:List (τ)}(g:Qm w f)(h:Qr w p l L)(r:(L.getD 0 []).length<=1048576)(j:l<=4611686018427387904)(k m:Int):
  Calls prog 39 #[.pointer f,int i64 k,int i64 m, .slice p l c] w fun e w'=>∃v,e= .returned v/\Qtk w k m l L v w':=by
 by_cases d:Qb5 k l L
 ·refine Qtb g h (fun x o=> ?_) j k m
  obtain⟨i,hi,rfl⟩:=List.getElem_of_mem o;have q:=d.2 i (by rw[h.1];exact hi);rw[Zj,Zc hi,Option.getD_some]at q;omega
 ·exact QNd g h j k m d
open Go Go.Vc
open Go.IntKind (i64)
open Go.Value (int)
open Go.Proofs.Tryz (prog)
structure Geo where
 k:Int
 m:Int
 size:Int
 stripes:Int
 slots:Int
 objects:Int
abbrev gV(g:Geo):Value:= .agg #[int i64 g.k,int i64 g.m,int i64 g.size,int i64 g.stripes,int i64 g.slots,int i64 g.objects]
def QA(g:Geo):Prop:=(1<=g.k/\0<=g.m/\g.k+g.m<=32)/\(1<=g.size/\g.size<=4096)/\(1<=g.stripes/\g.stripes<=256)/\(1<=g.slots/\g.slots<=64)/\(1<=g.objects/\g.objects<=64)
instance (g:Geo):Decidable (QA g):=inferInstanceAs (Decidable (_/\_))
def Q60(k m:Int):Prop:=1<=k/\0<=m/\k+m<=256
instance (k m:Int):Decidable (Q60 k m):=inferInstanceAs (Decidable (_/\_))
theorem Qbb(k m:Int)(w:World):Calls prog 41 #[int i64 k,int i64 m] w fun e w'=>e= .returned (int i64 (if Q60 k m then 0 else 50))/\w'=w:=by
 refine(F41_calls k m w (fun v w'=>v=int i64 (if Q60 k m then 0 else 50)/\w'=w) ?_).mono (by rintro e w' ⟨v,rfl,rfl,h⟩;exact⟨rfl,h⟩);have bad:¬Q60 k m->(int i64 50=int i64 (if Q60 k m then 0 else 50)/\w=w):=fun h=>⟨by rw[if_neg h],rfl⟩;refine Q0 (fun f=>bad ?_) fun f=>Q0 (fun g=>bad ?_) fun g=>Q0 (fun i=>bad ?_) fun i=>Q0 (fun d=>bad ?_) fun d=>⟨?_,rfl⟩<;>
  simp only[Za,Zb]at*
 ·unfold Q60;omega
 ·unfold Q60;omega
 ·unfold Q60;omega
 ·rw[w64 (by omega)]at d;unfold Q60;omega
 ·rw[w64 (by omega)]at d
  rw[if_pos (by unfold Q60;omega)]
theorem Q77(n m:Int)(w:World):Calls prog 40 #[int i64 n,int i64 m] w fun e w'=>e= .returned (.bool (decide (1<=n/\n<=m)))/\w'=w:=by
 refine(F40_calls n m w (fun v w'=>v= .bool (decide (1<=n/\n<=m))/\w'=w) ?_).mono (by rintro e w' ⟨v,rfl,rfl,h⟩;exact⟨rfl,h⟩);refine Q0 (fun d=>⟨?_,rfl⟩) fun d=>⟨?_,rfl⟩
 ·simp only[Za]at d
  simp[d]
 ·simp only[Zb]at d
  simp[d]
def Q80(g:Geo):Int:=if QA g then 0 else 50
theorem Qh5(g:Geo)(w:World):Calls prog 16 #[gV g] w fun e w'=>e= .returned (int i64 (Q80 g))/\Ext w w':=by
 refine(F16_calls g.k g.m g.size g.stripes g.slots g.objects w (fun v w'=>v=int i64 (Q80 g)/\Ext w w') ?_).mono (by rintro e w' ⟨v,rfl,rfl,h⟩;exact⟨rfl,h⟩);intro o w8 i;have r:RowW w8 o _:=⟨_,i.at⟩;have bad:¬QA g->(int i64 50=int i64 (Q80 g)/\Ext w w8):=fun h=>⟨by rw[Q80,if_neg h],i.ext⟩;refine⟨_,r.row.cell (n:=0) rfl,_,r.c rfl,(Qbb g.k g.m w8).mono ?_⟩;rintro e q ⟨rfl,rfl⟩;refine⟨_,rfl,Q0 (fun h=>bad ?_) fun l=>⟨_,r.row.cell (n:=0) rfl,_,r.c rfl,(Q77 _ _ _).mono ?_⟩⟩
 ·intro d
  rw[if_pos (by unfold QA at d;unfold Q60;omega)]at h;simp at h
 rintro e t ⟨rfl,rfl⟩;have f:Q60 g.k g.m:=by
  by_cases f:Q60 g.k g.m
  ·exact f
  ·rw[if_neg f]at l;simp at l
 have j:=f;unfold Q60 at j;rw[w64 (by omega)];refine⟨_,rfl,Q0 (fun h=>bad ?_) fun u=>⟨_,r.c rfl,(Q77 _ _ _).mono ?_⟩⟩
 ·simp only[Zg,Zb]at h
  intro d;apply h;unfold QA at d;omega
 rintro e x ⟨rfl,rfl⟩;refine⟨_,rfl,Q0 (fun h=>bad ?_) fun y=>⟨_,r.c rfl,(Q77 _ _ _).mono ?_⟩⟩
 ·simp only[Zg,Zb]at h
  intro d;apply h;unfold QA at d;omega
 rintro e z ⟨rfl,rfl⟩;refine⟨_,rfl,Q0 (fun h=>bad ?_) fun A=>⟨_,r.c rfl,(Q77 _ _ _).mono ?_⟩⟩
 ·simp only[Zg,Zb]at h
  intro d;apply h;unfold QA at d;omega
 rintro e B ⟨rfl,rfl⟩;refine⟨_,rfl,Q0 (fun h=>bad ?_) fun C=>⟨_,r.c rfl,(Q77 _ _ _).mono ?_⟩⟩
 ·simp only[Zg,Zb]at h
  intro d;apply h;unfold QA at d;omega
 rintro e D ⟨rfl,rfl⟩;refine⟨_,rfl,Q0 (fun h=>bad ?_) fun E=>⟨?_,i.ext⟩⟩
 ·simp only[Zg,Zb]at h
  intro d;apply h;unfold QA at d;omega
 simp only[Zf,Za]at u y A C E;rw[Q80,if_pos (by unfold QA;omega)]
open Go Go.Vc
open Go.IntKind (i64)
open Go.Value (int)
open Go.Proofs.Tryz (prog)
theorem QP3(s:StA)(d:Int)(f:Mem->Mem):(Q40 s d f).M.length=s.M.length/\(Q40 s d f).left=s.left:=by
 unfold Q40
 split
 ·split
  ·exact⟨List.length_set,rfl⟩
  ·exact⟨rfl,rfl⟩
 ·exact⟨rfl,rfl⟩
theorem OkA.write{s:StA}(h:OkA s)(d n:Int)(b:τ):OkA (Q70 s d n b):=by
 obtain⟨e,f,g⟩:=h;unfold Q70
 split
 ·exact⟨e,f,g⟩
 split
 ·split
  ·have key:∀(q:Prop) [Decidable q],(q->0<s.left)-> -1<=(if q then s.left-1 else s.left)/\(if q then s.left-1 else s.left)<=9223372036854775807:=by
    intro q _ i
    by_cases h:q
    ·have:=i h
     rw[if_pos h];omega
    ·rw[if_neg h];omega
   exact⟨by simpa using e,key _ fun h=>h.2⟩
  ·exact⟨e,f,g⟩
 ·exact⟨e,f,g⟩
theorem OkA.call{s:StA}(h:OkA s){c:QB4}(o: -9223372036854775808<=c.n/\c.n<=9223372036854775807):OkA (QQ1 s c):=by
 have l:=h;obtain⟨e,i,j⟩:=l;have g:∀f,OkA (Q40 s c.d f):=fun f=>by
  obtain⟨a,b⟩:=QP3 s c.d f;exact⟨by rw[a];exact e,by rw[b];exact i,by rw[b];exact j⟩
 unfold QQ1
 split
 ·exact h.write _ _ _
 split
 ·split
  ·exact h
  ·exact⟨by rw[Qp5];exact e,i,j⟩
 split
 ·split
  ·exact h
  ·refine⟨e,?_,?_⟩
   ·show-1<=(if _ then _ else _)
    split<;>omega
   ·show(if _ then _ else _)<=_
    split<;>omega
 split
 ·refine⟨by rw[Qj5];exact e,?_,?_⟩
  ·show(-1:Int)<= -1
   omega
  ·show(-1:Int)<=_
   omega
 split
 ·exact g _
 split
 ·exact g _
 split
 ·exact g _
 ·exact h
end Go.Proofs.YtkolafpgbhpdlaaGreat
