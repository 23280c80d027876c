import Derived.Test.YtkolafpgbhpdlaaGreatRepS
import Derived.ProofKit
import Derived.ChangeArms
namespace Go.Vc
open Go Go.ChangeShapes Go.WideShapes Go.ChangeAt
section
variable {H:Type}{enc:TypeId×Value->H}{P:Program}{w:World}{base:Nat}{spare:Nat->Bool}{held:Bool}{fuel:Nat}{t e:TypeId}{cs:List Value}{x:DataW H×List MemPlace}
theorem Qr2{k:IntKind}(ht:P.underlying t=some (.int k))(h:DataW.trod enc P w base spare held fuel t cs=some x):∃n,cs=[.int k n]/\(Lit.int k n).wf=true:=by
 obtain⟨n,a,_,d⟩:=DataW.trod_int ht h;exact⟨n,a,d⟩
theorem Qyg{k:IntKind}(ht:P.underlying t=some (.slice e))(o:P.underlying e=some (.int k))(q:P.cellsOf e=1)(h:DataW.trod enc P w base spare held fuel t cs=some x):
  ∃p l c,∃zs:List Int,cs=[.slice p l c]/\l=zs.length/\Qa w p (zs.map (.int k))/\l<=c/\c<=maxLen/\(p=none->l=0)/\∀n∈zs,(Lit.int k n).wf=true:=by
 rcases open_ints ht o q h with⟨rfl,_⟩|⟨a,len,cap,zs,rfl,_,r,s,v,_,d,y⟩
 ·exact⟨none,0,0,[],rfl,rfl,Qa.nil _ _,Nat.le_refl _,Nat.zero_le _,fun _=>rfl,fun n i=>by cases i⟩
 ·have m:len<=zs.length:=by rw[v];split<;>omega
  refine⟨some a,len,cap,zs.take len,rfl,by simp[m],?_,r,s,fun h=>(by cases h),fun n i=>y n (List.mem_of_mem_take i)⟩;intro j u g;refine⟨a,rfl,?_⟩;rw[List.getElem?_map,List.getElem?_take]at g
  split at g
  ·rename_i z
   have f:j<zs.length:=by omega
   rw[d j f];rw[List.getElem?_eq_getElem f]at g;simp only[Option.map_some,Option.some.injEq]at g;rw[←g];simp[List.getD,List.getElem?_eq_getElem f]
  ·simp at g
theorem Q8d(ht:P.underlying t=some (.slice e))(f:P.underlying e=some (.int .u8))(g:P.cellsOf e=1)(h:DataW.trod enc P w base spare held fuel t cs=some x):
  ∃p l c bs,cs=[.slice p l c]/\Q1 w p l bs/\l<=c/\c<=maxLen/\(p=none->l=0):=by
 obtain⟨p,l,c,zs,rfl,i,a,j,k,m,n⟩:=Qyg ht f g h;refine⟨p,l,c,zs.map fun z=>UInt8.ofNat z.toNat,rfl,?_,j,k,m⟩;have d:QE (zs.map fun z=>UInt8.ofNat z.toNat)=zs.map (.int .u8):=by
  unfold QE;rw[List.map_map];apply List.map_congr_left;intro z o;have:=n z o;simp only[Lit.wf,Bool.and_eq_true,decide_eq_true_eq]at this;have q:(0:Int)<=z:=Int.le_trans (by decide) this.1;have r:z<=255:=Int.le_trans this.2 (by decide);simp only[Function.comp_apply,Value.int.injEq,true_and];rw[UInt8.toNat_ofNat'];omega
 have:=Q1.of_cells (w:=w) (p:=p) (bs:=zs.map fun z=>UInt8.ofNat z.toNat) (by rw[d];exact a);rw[List.length_map,←i]at this;exact this
theorem Qzg{k:Nat}(ht:P.underlying t=some (.slice e))(m:P.cellsOf e=k)(h:DataW.trod enc P w base spare held fuel t cs=some x):
  ∃p l c,cs=[.slice p l c]/\l<=c/\c<=maxLen/\(p=none->l=0)∧
   ∀i,i<l->∃a ys n y,p=some a/\DataW.trod enc P w base spare held n e ys=some y/\ys.length=k/\∀j,j<k->w.cell? ((a.add (i*k)).add j)=ys[j]? :=by
 rcases DataW.trod_slice ht h with⟨rfl,_⟩|⟨a,len,cap,elems,rest,n,_,rfl,_,_,o,q,f,d,_⟩
 ·exact⟨none,0,0,rfl,Nat.le_refl _,Nat.zero_le _,fun _=>rfl,fun i hi=>by omega⟩
 ·refine⟨some a,len,cap,rfl,o,q,fun h=>(by cases h),fun i hi=> ?_⟩
  have g:=d i hi;rw[m,List.getElem?_eq_getElem (by omega)]at g;obtain⟨ys,r,s⟩:=Option.bind_eq_some_iff.1 g;obtain⟨_,u,v⟩:=World.cells?_some r;exact⟨a,ys,n,_,rfl,s,u,v⟩
end
end Go.Vc
