import Derived.Test.YtkolafpgbhpdlaaGreatRepM
namespace Go.Vc
open Go
theorem QY.empty{κ:Type} [DecidableEq κ] {β:Type}{K:KE κ}{V a:Value->β->Prop}{w:World}{m:Nat}(h:QY K V w m []):QY K a w m []:=by
 obtain⟨es,c,l,d,⟨e,f,a3,a4⟩,g⟩:=h;have:l=[]:=g.eq_nil;subst this;have i:es.toList=[]:=List.eq_nil_of_length_eq_zero a3.length;exact⟨es,c,[],d,⟨e,f,by rw[i];exact .nil,a4⟩, .nil⟩
def Q74(w:World)(it:Option Addr)(m:Nat):Nat:=
 match it with
 |some a=>match w.heap[a.block]? with
  |some (.mapIter _ _ seen _)=>match w.heap[m]? with
   |some (.map es _)=>(es.toList.filter fun e=> !seen.contains e.born).length
   |_=>0
  |_=>0
 |none=>0
theorem QI7.left{κ:Type} [DecidableEq κ] {β:Type}{K:KE κ}{V:Value->β->Prop}{w:World}{it m:Nat}{L rest:List (κ×β)}(h:QI7 K V w it m L rest):
  Q74 w (some (at0 it)) m=rest.length:=by
 obtain⟨es,c,seen,last,ps,a,d,e,g,i,j,k,f⟩:=h;unfold Q74;simp only[a,d];rw[←f.length_eq,e,List.length_map,List.filter_map,List.length_map]
 rfl
def Q5(w:World)(base:Nat)(e:TypeId)(sz:Nat)(p:Option Addr)(n c:Nat)(xs:List Value):Prop:=w.ownsRow base e sz (.slice p n c) n xs
def Qa(w:World)(p:Option Addr)(xs:List Value):Prop:=∀j u,xs[j]? =some u->∃a,p=some a/\w.cell? (a.add j)=some u
theorem Qa.upd{S:Nat->Prop}{w w':World}{p:Option Addr}{xs:List Value}(h:Qa w p xs)(e:Upd S w w')(hS:∀a,p=some a->xs≠ []->¬S a.block):Qa w' p xs:=by
 intro j u d;obtain⟨a,ha,f⟩:=h j u d;exact⟨a,ha,e.cell f (by rw[Qx];exact hS a ha (by rintro rfl;simp at d))⟩
theorem Qa.ext{w w':World}{p:Option Addr}{xs:List Value}(h:Qa w p xs)(a:Ext w w'):Qa w' p xs:=h.upd a fun _ _ _=>id
theorem Qa.drop{w:World}{a:Addr}{xs:List Value}(h:Qa w (some a) xs)(k:Nat):Qa w (some (a.add k)) (xs.drop k):=by
 intro j u d;rw[List.getElem?_drop]at d;obtain⟨b,hb,e⟩:=h _ u d;cases hb;exact⟨_,rfl,by rw[QB];exact e⟩
theorem Qa.take{w:World}{p:Option Addr}{xs:List Value}(h:Qa w p xs)(k:Nat):Qa w p (xs.take k):=by
 intro j u a;rw[List.getElem?_take]at a
 split at a
 ·exact h j u a
 ·cases a
theorem Qa.nil(w:World)(p:Option Addr):Qa w p []:=by intro j u a;simp at a
theorem Q5.nil(w:World)(base:Nat)(e:TypeId)(sz:Nat):Q5 w base e sz none 0 0 []:=World.ownsRow_nil w base e sz
theorem Q5.length{w:World}{base:Nat}{e:TypeId}{sz:Nat}{p:Option Addr}{n c:Nat}{xs:List Value}(h:Q5 w base e sz p n c xs):xs.length=n*sz:=h.1
theorem Q5.cells{w:World}{base:Nat}{e:TypeId}{sz:Nat}{p:Option Addr}{n c:Nat}{xs:List Value}(h:Q5 w base e sz p n c xs):Qa w p xs:=by
 intro j u a;rcases h.2 with⟨d,f⟩|⟨g,cap,cur,d,hb,i,k,l,m,o⟩
 ·have:=h.1
  rw[f,Nat.zero_mul]at this;rw[List.eq_nil_of_length_eq_zero this]at a;simp at a
 ·simp only[Value.slice.injEq]at d
  obtain⟨rfl,_,rfl⟩:=d;refine⟨_,rfl,?_⟩;have:=World.ownsRow.cells h (g:=g) rfl j u a;exact this
theorem Q5.where_{w:World}{base:Nat}{e:TypeId}{sz:Nat}{p:Option Addr}{n c:Nat}{xs:List Value}(h:Q5 w base e sz p n c xs):
  (p=none/\n=0/\c=0)\/∃g,p=some (at0 g)/\base<=g/\g<w.heap.size/\n<=c/\∃cur,w.heap[g]? =some (.cells cur e (0,0))/\cur.size=c*sz/\cur.toList.take (n*sz)=xs:=by
 rcases h.2 with⟨a,f⟩|⟨g,cap,cur,a,hb,d,i,l,j,k⟩
 ·simp only[Value.slice.injEq]at a
  exact .inl ⟨a.1,f,a.2.2⟩
 ·simp only[Value.slice.injEq]at a
  obtain⟨rfl,_,rfl⟩:=a;exact .inr ⟨g,rfl,hb,Qe d,i,cur,d,j,k⟩
theorem Q5.made{w w':World}{g base:Nat}{e:TypeId}{sz:Nat}{cs:Array Value}{n c:Nat}(h:QG w g (.cells cs e) w')(hb:base<=g)(a:n<=c)(d:c<=maxLen)(hs:cs.size=c*sz):
  Q5 w' base e sz (some (at0 g)) n c (cs.toList.take (n*sz)):=by
 refine⟨?_, .inr ⟨g,c,cs,rfl,hb,h.at,a,d,hs,rfl⟩⟩;simp[hs];rw[Nat.min_eq_left a]
theorem Q5.upd{S:Nat->Prop}{w w':World}{base:Nat}{e:TypeId}{sz:Nat}{p:Option Addr}{n c:Nat}{xs:List Value}(h:Q5 w base e sz p n c xs)(d:Upd S w w')
  (hS:∀g,p=some (at0 g)->¬S g):Q5 w' base e sz p n c xs:=by
 refine⟨h.1,?_⟩;rcases h.2 with a|⟨g,cap,cur,a,hb,f,i⟩
 ·exact .inl a
 ·simp only[Value.slice.injEq]at a
  obtain⟨rfl,_,rfl⟩:=a;exact .inr ⟨g,_,cur,rfl,hb,d.keep f (hS g rfl),i⟩
theorem Q5.ext{w w':World}{base:Nat}{e:TypeId}{sz:Nat}{p:Option Addr}{n c:Nat}{xs:List Value}(h:Q5 w base e sz p n c xs)(a:Ext w w'):Q5 w' base e sz p n c xs:=h.upd a fun _ _=>id
theorem Q5.base_le{w:World}{base base':Nat}{e:TypeId}{sz:Nat}{p:Option Addr}{n c:Nat}{xs:List Value}(h:Q5 w base e sz p n c xs)(hb:base'<=base):Q5 w base' e sz p n c xs:=by
 refine⟨h.1,?_⟩;rcases h.2 with a|⟨g,cap,cur,a,d,f⟩
 ·exact .inl a
 ·exact .inr ⟨g,cap,cur,a,Nat.le_trans hb d,f⟩
theorem Q5.live{w:World}{base:Nat}{e:TypeId}{sz:Nat}{a:Addr}{n c:Nat}{xs:List Value}(h:Q5 w base e sz (some a) n c xs){i:Nat}(hi:i<xs.length):QD w (a.add i):=by
 rcases h.where_ with⟨f,_⟩|⟨g,j,_,_,k,cur,hb,hs,ht⟩
 ·cases f
 ·cases j
  have d:i<cur.size:=by
   rw[←ht,List.length_take]at hi;simp at hi;omega
  exact RowW.live ⟨e,hb⟩ d
theorem Q5.set{w w':World}{base:Nat}{e:TypeId}{sz:Nat}{a:Addr}{n c:Nat}{xs:List Value}(h:Q5 w base e sz (some a) n c xs){i:Nat}{v:Value}(hs:Qt w (a.add i) v w'):
  Q5 w' base e sz (some a) n c (xs.set i v)/\Upd (fun b=>b=a.block) w w':=by
 have l:Upd (fun b=>b=a.block) w w':=by
  have:=hs.upd;rw[Qx]at this;exact this
 refine⟨⟨by rw[List.length_set];exact h.1,?_⟩,l⟩;rcases h.2 with⟨f,_⟩|⟨g,cap,cur,f,hb,m,o,p,q,r⟩
 ·simp at f
 ·simp only[Value.slice.injEq]at f
  obtain⟨d,_,rfl⟩:=f;simp only[Option.some.injEq]at d;subst d;have j:w'.heap[g]? =some (.cells (cur.setIfInBounds i v) e (0,0)):=by
   have k:((⟨g,0,none⟩:Addr).add i)=⟨g,i,none⟩:=QJ g i;rw[k]at hs;exact hs.at m rfl
  refine .inr ⟨g,c,cur.setIfInBounds i v,rfl,hb,j,o,p,by simp[q],?_⟩;rw[Array.toList_setIfInBounds,←r,List.take_set]
structure Qz1(P:Program)(t e:TypeId)(sz bytes:Nat):Prop where
 ht:P.underlying t=some (.slice e)
 hi:∃i z,P.info? e=some i/\i.zero=some z/\i.size=sz/\i.bytes=bytes/\z.cells.size=sz
 pos:0<sz
theorem QE5{P:Program}{t e:TypeId}{sz bytes:Nat}(E:Qz1 P t e sz bytes)(ty:TypeId)(p:Option Addr)(n c:Nat)(f:n<=c)(d:Nat)(w:World):
  (Builtin.append_ #[t,t] ty #[.slice p n c, .slice none 0 d]).run P w= .ok (.slice p n c) w:=by
 obtain⟨i,z,hi,h,hs,hb,g⟩:=E.hi;have a:(sizeOf e).run P w= .ok sz w:=by simp[sizeOf,typeInfo,hi,hs]
 simp only[Builtin.append_,List.getElem?_toArray,List.getElem?_cons_zero,List.getElem?_cons_succ,Sem.run_bind,Q3 E.ht,Result.andThen,a,Sem.run_pure];cases p<;>simp[Builtin.lenOf,f,Builtin.firstCells,storeCells]
theorem Q5.append{P:Program}{t e:TypeId}{sz bytes:Nat}(E:Qz1 P t e sz bytes)(ty:TypeId){w:World}{base:Nat}{p:Option Addr}{n c:Nat}{xs:List Value}(h:Q5 w base e sz p n c xs)
  {q:Option Addr} {m d:Nat} {news:List Value} (A:news.length=m*sz) (J:Qa w q news) (B:q=none->m=0) (K:∀u∈news,u.oneCell'=true) (C:n+m<=maxLen)
  (k:(n+m)*bytes<=140737488355328) (r:base<=w.heap.size):
  ∃s v w',(Builtin.append_ #[t,t] ty #[.slice p n c, .slice q m d]).run P w= .ok (.slice s (n+m) v) w'/\Q5 w' base e sz s (n+m) v (xs++news)∧
   Upd (fun b=>p=some (at0 b)) w w'/\(s=none↔p=none/\q=none\/p=none/\m=0):=by
 have D:n<=c:=by
  rcases h.where_ with⟨_,rfl,rfl⟩|⟨g,_,_,_,h,_⟩
  ·exact Nat.le_refl _
  ·exact h
 cases q with
 |none=>
  obtain rfl:=B rfl;rw[Nat.zero_mul]at A;obtain rfl:=List.eq_nil_of_length_eq_zero A;refine⟨p,c,w,by rw[Nat.add_zero];exact QE5 E ty p n c D d w,by rw[List.append_nil];exact h,Upd.refl _ _,by simp⟩
 |some a=>
  obtain⟨i,z,hi,L,hs,hb,F⟩:=E.hi;have G:∀j u,news[j]? =some u->w.cell? (a.add j)=some u:=by
   intro j u M;obtain⟨S,ha,N⟩:=J j u M;cases ha;exact N
  obtain⟨O,w',Q,f,y,o⟩:=run_append_own w base t ty e i z sz bytes E.ht hi L hs hb F E.pos _ n xs h a m d news A G K C k r;have l:∃s v,O= .slice s (n+m) v:=by
   rcases f.2 with⟨l,x⟩|⟨g,cap,cur,l,_⟩
   ·exact⟨none,0,by rw[l,x]⟩
   ·exact⟨_,_,l⟩
  obtain⟨s,v,rfl⟩:=l;refine⟨s,v,w',Q,f,⟨y.os,y.tape,y.output,y.size,fun b hb hS=>y.block b hb ?_⟩,?_⟩
  ·intro H
   apply hS;rcases h.where_ with⟨rfl,_⟩|⟨g,rfl,_⟩
   ·cases H
   ·simp only[Value.ownBlock,Option.some.injEq]at H
    rw[H]
  ·constructor
   ·rintro rfl
    right
    have I:Value.slice none (n+m) v= .slice none 0 0:=by
     rcases f.2 with⟨l,_⟩|⟨g,cap,cur,l,_⟩
     ·exact l
     ·simp at l
    have:=o.1 I;simp only[Value.slice.injEq]at this;exact⟨this.1.1,this.2⟩
   ·rintro(⟨_,h⟩|⟨rfl,rfl⟩)
    ·cases h
    ·have x:n=0/\c=0:=by
      rcases h.where_ with⟨_,rfl,rfl⟩|⟨g,R,_⟩
      ·exact⟨rfl,rfl⟩
      ·cases R
     obtain⟨rfl,rfl⟩:=x;have:=o.2 ⟨rfl,rfl⟩;simp only[Value.slice.injEq]at this;exact this.1
def QE(bs:List UInt8):List Value:=bs.map fun b=> .int .u8 (b.toNat:Int)
theorem Qb(bs:List UInt8):(QE bs).length=bs.length:=by simp[QE]
theorem Qd1(bs:List UInt8):∀u∈QE bs,u.oneCell'=true:=by
 intro u a;obtain⟨b,_,rfl⟩:=List.mem_map.1 a
 rfl
theorem Q1.cells{w:World}{p:Option Addr}{n:Nat}{bs:List UInt8}(h:Q1 w p n bs):Qa w p (QE bs):=by
 intro j u e;simp only[QE,List.getElem?_map,Option.map_eq_some_iff]at e;obtain⟨b,hb,rfl⟩:=e;have d:j<bs.length:=(List.getElem?_eq_some_iff.1 hb).1;obtain⟨a,ha,f⟩:=h.get (i:=j) (by rw[h.1];exact d);refine⟨a,ha,?_⟩;rw[f];simp[List.getD_eq_getElem?_getD,hb]
theorem Q1.of_cells{w:World}{p:Option Addr}{bs:List UInt8}(h:Qa w p (QE bs)):Q1 w p bs.length bs:=by
 refine⟨rfl,fun e=> ?_⟩;have f:0<bs.length:=List.length_pos_iff.2 e;obtain⟨a,ha,_⟩:=h 0 _ (by simp[QE,f]:(QE bs)[0]? =some (.int .u8 ((bs[0]).toNat:Int)));refine⟨a,ha,fun i hi=> ?_⟩;obtain⟨j,d,g⟩:=h i _ (by simp[QE,hi]:(QE bs)[i]? =some (.int .u8 ((bs[i]).toNat:Int)));rw[ha]at d;cases d;rw[g];simp[List.getD_eq_getElem?_getD,hi]
abbrev SM:=List (Int×List UInt8)
def ins(k:Int)(x:List UInt8)(L:SM):SM:=L.filter (fun y=>decide (y.1<k))++(k,x)::L.filter (fun y=>decide (k<y.1))
def mrg(L W:SM):SM:=W.foldl (fun acc y=>ins y.1 y.2 acc) L
def Asc(L:SM):Prop:=L.Pairwise fun a b=>a.1<b.1
theorem Qs6(k:Int)(x:List UInt8)(L:SM):(ins k x L).Perm ((k,x)::del k L):=by
 refine List.perm_middle.trans (List.Perm.cons _ ?_);unfold del
 induction L with
 |nil=>simp
 |cons y L ih=>
  by_cases a:y.1<k
  ·rw[List.filter_cons_of_pos (by simpa using a),List.filter_cons_of_neg (by simp;omega),List.filter_cons_of_pos (by simp;omega)]
   exact ih.cons _
  ·by_cases d:k<y.1
   ·rw[List.filter_cons_of_neg (by simpa using a),List.filter_cons_of_pos (by simpa using d),List.filter_cons_of_pos (by simp;omega)]
    exact List.perm_middle.trans (ih.cons _)
   ·rw[List.filter_cons_of_neg (by simpa using a),List.filter_cons_of_neg (by simpa using d),List.filter_cons_of_neg (by simp;omega)]
    exact ih
theorem Qt5{k:Int}{x:List UInt8}{L:SM}(h:Asc L):Asc (ins k x L):=by
 unfold Asc ins;rw[List.pairwise_append];refine⟨h.filter _,?_,?_⟩
 ·rw[List.pairwise_cons]
  exact⟨fun y d=>by simpa using(List.mem_filter.1 d).2,h.filter _⟩
 ·intro a ha b hb
  have e:a.1<k:=by simpa using(List.mem_filter.1 ha).2
  rcases List.mem_cons.1 hb with rfl|hb
  ·exact e
  ·have f:k<b.1:=by simpa using(List.mem_filter.1 hb).2
   omega
theorem Q49{L W:SM}(h:Asc L):Asc (mrg L W):=by
 unfold mrg
 induction W generalizing L with
 |nil=>exact h
 |cons y W ih=>exact ih (Qt5 h)
theorem Asc.nodup{L:SM}(h:Asc L):(L.map (·.1)).Nodup:=by
 rw[List.Nodup,List.pairwise_map];exact h.imp fun h=>by omega
theorem Asc.filter{L:SM}(h:Asc L)(p:Int×List UInt8->Bool):Asc (L.filter p):=List.Pairwise.filter p h
def Q1d(L W:SM):SM:=W++L.filter fun y=>decide (y.1∉W.map (·.1))
theorem Q2d(L:SM):Q1d L []=L:=by simp[Q1d]
theorem Qj7{L W d:SM}(h:W.Perm d):(Q1d L W).Perm (Q1d L d):=by
 unfold Q1d;refine h.append ?_;have:(fun y:Int×List UInt8=>decide (y.1∉W.map (·.1)))=fun y=>decide (y.1∉d.map (·.1)):=by
  funext y
  have:=(h.map (·.1)).mem_iff (a:=y.1);simp only[this]
 rw[this]
theorem Qha{L W:SM}{k:Int}{x:List UInt8}(d:k∉W.map (·.1)):((k,x)::del k (Q1d L W)).Perm (Q1d L ((k,x)::W)):=by
 unfold Q1d del;rw[List.filter_append];have e:W.filter (fun y=>decide (y.1≠k))=W:=by
  rw[List.filter_eq_self];intro y f;simp only[decide_eq_true_eq];rintro rfl;exact d (List.mem_map.2 ⟨y,f,rfl⟩)
 rw[e,List.filter_filter];have g:(L.filter fun y=>decide (y.1≠k)&&decide (y.1∉W.map (·.1)))=L.filter fun y=>decide (y.1∉((k,x)::W).map (·.1)):=by
  apply List.filter_congr;intro y _;simp only[List.map_cons,List.mem_cons,not_or]
  by_cases a:y.1=k<;>by_cases b:y.1∈W.map (·.1)<;>simp[a,b]
 rw[g];exact .refl _
theorem QYc{L W:SM}(e:(W.map (·.1)).Nodup):(mrg L W).Perm (Q1d L W):=by
 have key:∀(W D:SM),((D++W).map (·.1)).Nodup->∀M:SM,M.Perm (Q1d L D)->(W.foldl (fun acc y=>ins y.1 y.2 acc) M).Perm (Q1d L (D++W)):=by
  intro W
  induction W with
  |nil=>intro D _ M hM;simpa using hM
  |cons y W ih=>
   intro D a M hM;have d:((D++ [y]++W).map (·.1)).Nodup:=by simpa using a
   have f:y.1∉D.map (·.1):=by
    simp only[List.map_append,List.map_cons,List.nodup_append]at a;exact fun h=>a.2.2 _ h _ List.mem_cons_self rfl
   have:=ih (D++ [y]) d (ins y.1 y.2 M) (by
    refine(Qs6 _ _ _).trans ?_;refine(((Qn6 hM).cons _).trans (Qha f)).trans (Qj7 ?_)
    exact(List.perm_append_singleton _ _).symm)
   simpa using this
 have:=key W [] (by simpa using e) L (by rw[Q2d]);simpa[mrg]using this
end Go.Vc
