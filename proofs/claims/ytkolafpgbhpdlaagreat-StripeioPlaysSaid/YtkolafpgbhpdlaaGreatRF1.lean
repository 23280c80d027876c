import Derived.RangeFuncBox
import Derived.RangeFuncLeaves
import Derived.RangeFuncWrites
import Derived.Shelf.Abstract
import Derived.WalkKit
import Derived.OwnWalkIn
import Derived.TacticsInMore
import Derived.LoopNIn
import Derived.LoopIn
import Derived.Test.YtkolafpgbhpdlaaGreatRows
set_option maxHeartbeats 2000000
namespace Go.Proofs.YtkolafpgbhpdlaaGreat
open Go Go.RowKit Go.Shelf
attribute [local go_sem] Oper.semAt_some
def QJe{α:Type}(f:Nat->α)(k:Nat):List α:=(List.range k).map f
theorem QPa{α:Type}(f:Nat->α)(k:Nat):QJe f (k+1)=QJe f k++ [f k]:=by simp[QJe,List.range_succ]
theorem QE7{α:Type}(f:Nat->α)(k:Nat):(QJe f k).length=k:=by simp[QJe]
def QY2(b off s j:Nat):Addr×Nat:=(⟨b,off+j*s,none⟩,s)
def QG2(x:Addr×Nat):Value:= .slice (some x.1) x.2 x.2
def KpC(Bs Bn:Nat)(W W':World):Prop:=W'.cell? ⟨Bs,0,none⟩=W.cell? ⟨Bs,0,none⟩/\W'.cell? ⟨Bn,0,none⟩=W.cell? ⟨Bn,0,none⟩
theorem KpC.refl(Bs Bn:Nat)(W:World):KpC Bs Bn W W:=⟨rfl,rfl⟩
theorem KpC.drew(Bs Bn:Nat)(W:World):KpC Bs Bn W W.drew:=⟨rfl,rfl⟩
theorem KpC.trans{Bs Bn:Nat}{A B C:World}(h:KpC Bs Bn A B)(k:KpC Bs Bn B C):KpC Bs Bn A C:=⟨k.1.trans h.1,k.2.trans h.2⟩
theorem KpC.put{Bs Bn B:Nat}(h1:Bs<B)(h2:Bn<B)(W:World)(l:Nat)(o o':Obj)(hl:B<=l)(_:W.heap[l]? =some o)(_:o.isCells=false)(_:o.isWalk=false):KpC Bs Bn W (W.putObj l o'):=
 ⟨World.cell?_of_block (by show(W.heap.setIfInBounds l o')[Bs]? =_;rw[Array.getElem?_setIfInBounds_ne (by omega)]),World.cell?_of_block (by show(W.heap.setIfInBounds l o')[Bn]? =_;rw[Array.getElem?_setIfInBounds_ne (by omega)])⟩
set_option maxRecDepth 100000 in
theorem Q7f(F:Fence)(n:Nat)(h7:F.fn 70)(hro:F.round=none)(hn:1<=n)(l Bs Bn b off cap s K:Nat)(hs:1<=s)(hcap:K*s<=cap)(hreach:K*s<=1073741824)(J Jx:List (Addr×Nat)->World->Prop)(hdr:∀xs W,J xs W->J xs W.drew)
  (hY:∀pre x W,J pre W->pre.length<K->YieldAt F (n-1) Tryz.prog l #[QG2 x] W fun e W'=>
   (e= .returned (.bool true)/\J (pre++ [x]) W'/\KpC Bs Bn W W')\/(e= .returned (.bool false)/\Jx (pre++ [x]) W'))
  (W:World) (hBs:W.cell? ⟨Bs,0,none⟩=some (.slice (some ⟨b,off,none⟩) (K*s) cap)) (hBn:W.cell? ⟨Bn,0,none⟩=some (.int .i64 (s:Int))) (h0:J [] W):
  CallsIn F n Tryz.prog 70 #[.func (.yield l) #[] #[], .pointer (some ⟨Bs,0,none⟩), .pointer (some ⟨Bn,0,none⟩)] W fun e W'=>(∃v,e= .returned v)∧
   ((∃ys,ys=QJe (QY2 b off s) K/\J ys W')\/(∃pre,(∃k,k<=K/\pre=QJe (QY2 b off s) k)/\Jx pre W')):=by
 refine callsIn_of_wp Tryz.func70 rfl h7 ?_ hro;simp only[Tryz.ntmps70,List.size_toArray,List.length_cons,List.length_nil,Nat.reduceAdd,Nat.reduceSub,Array.replicate_succ,Array.replicate_zero,List.push_toArray,List.append_toArray,List.nil_append,List.cons_append]
 gi_wp2
 gi_loopw [4] (fun i wr=>∃k:Nat,k<=K/\i= .int .i64 ((k*s:Nat):Int)/\J (QJe (QY2 b off s) k) wr/\KpC Bs Bn W wr)
  (fun i _=>K*s-(intOf i).toNat)
 case atStart=>exact⟨0,Nat.zero_le _,by simp,h0,KpC.refl _ _ _⟩
 case round=>
  obtain⟨k,hk,rfl,hJs,hnx⟩:=hrel;have hB:=hnx.1.trans hBs;have hN:=hnx.2.trans hBn
  by_cases hlt:k<K
  ·obtain⟨fn,tmps,assign,body,hy,hR⟩:=hY _ (QY2 b off s k) wr.drew (hdr _ _ hJs) (by rw[QE7];exact hlt)
   have hm1:(k+1)*s<=K*s:=Nat.mul_le_mul_right s hlt;rw[Nat.add_mul,Nat.one_mul]at hm1;have hlt2:k*s<K*s:=by omega
   gi_wp2
   dsimp only[QG2,QY2]at hy
   gi_region
   all_goals gi_wp2
   all_goals (try go_bits)
   all_goals
    refine hR.mono ?_;rintro e W3 (⟨rfl,hJ3,hk3⟩|⟨rfl,hJx3⟩)
    ·have hN3:=hk3.2.trans hN
     gi_wp2
     go_roundw
     case rel=>exact⟨k+1,by omega,by congr 1;rw[Nat.add_mul,Nat.one_mul];omega,by rw[QPa];exact hJ3,hnx.trans (KpC.trans (KpC.drew _ _ _) hk3)⟩
     case measure=>simp[intOf];omega
    ·gi_wp2
     refine bodyPost_ret (results_none rfl _ _ _) rfl ?_;exact⟨⟨_,rfl⟩, .inr ⟨_,⟨k+1,by omega,(QPa _ _).symm⟩,hJx3⟩⟩
  ·obtain rfl:k=K:=by omega
   gi_wp2
   go_end0
   exact⟨⟨_,rfl⟩, .inl ⟨_,rfl,hJs⟩⟩
theorem Qdb(F:Fence)(n:Nat)(h7:F.fn 70)(hro:F.round=none)(hn:1<=n)(Bs Bn b off cap s K:Nat)(hs:1<=s)(hcap:K*s<=cap)(hreach:K*s<=1073741824)(w:World)(hB1:Bs<w.heap.size)(hB2:Bn<w.heap.size)
  (hBs:w.cell? ⟨Bs,0,none⟩=some (.slice (some ⟨b,off,none⟩) (K*s) cap)) (hBn:w.cell? ⟨Bn,0,none⟩=some (.int .i64 (s:Int))):
  SeqStopsK F n Tryz.prog 70 #[.pointer (some ⟨Bs,0,none⟩), .pointer (some ⟨Bn,0,none⟩)] (fun x:Addr×Nat=> #[QG2 x]) (KpC Bs Bn) (fun ys=>ys=QJe (QY2 b off s) K) (fun _=>True) K w:=fun l J Jx W hW hJ _ hY h0=>by
 refine(Q7f F n h7 hro hn l Bs Bn b off cap s K hs hcap hreach J Jx (fun xs W h=>hJ xs W W.drew none h ⟨rfl,rfl,rfl,Nat.le_refl _,fun _ _ _=>rfl⟩ (fun r e=>by cases e)) hY W ((hW.cell (p:=⟨Bs,0,none⟩) hB1).trans hBs) ((hW.cell (p:=⟨Bn,0,none⟩) hB2).trans hBn) h0).mono ?_;rintro e W' ⟨he,⟨ys,rfl,hj⟩|⟨pre,_,hj⟩⟩
 ·exact⟨he, .inl ⟨_,rfl,hj⟩⟩
 ·exact⟨he, .inr ⟨_,trivial,hj⟩⟩
end Go.Proofs.YtkolafpgbhpdlaaGreat
