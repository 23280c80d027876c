import Derived.Test.YtkolafpgbhpdlaaGreatRep
namespace Go.Vc
open Go
structure KE(κ:Type) [DecidableEq κ] where
 enc:κ->Value
 kd:TypeDesc
 plain:(∃k,kd= .int k)\/kd= .string
 now:∀a b,Instr.sameNow kd (enc a) (enc b)=some (decide (a=b))
 same:∀n a,Instr.sameBits n (enc a) (enc a)=true
def Qu9:KE Int where
 enc n:= .int .i64 n
 kd:= .int .i64
 plain:= .inl ⟨_,rfl⟩
 now a b:=by simp[Instr.sameNow,Int.beq_eq_decide']
 same n a:=by cases n<;>simp[Instr.sameBits]
theorem Qp8{α:Type}(f:α->α)(e:α)(post:List α):∀pre:List α,(pre++e::post).modify pre.length f=pre++f e::post
 | []=>by simp
 |x::pre=>by simp[Qp8 f e post pre]
inductive QA2{α β:Type}(R:α->β->Prop):List α->List β->Prop
 |nil:QA2 R [] []
 |cons {a:α} {b:β} {as:List α} {bs:List β}:R a b->QA2 R as bs->QA2 R (a::as) (b::bs)
theorem QA2.mono{α β:Type}{R S:α->β->Prop}(hs:∀a b,R a b->S a b){as:List α}{bs:List β}(h:QA2 R as bs):QA2 S as bs:=by
 induction h with
 |nil=>exact .nil
 |cons h _ ih=>exact .cons (hs _ _ h) ih
theorem QA2.length{α β:Type}{R:α->β->Prop}{as:List α}{bs:List β}(h:QA2 R as bs):as.length=bs.length:=by
 induction h with
 |nil=>rfl
 |cons _ _ ih=>simp[ih]
theorem QA2.append{α β:Type}{R:α->β->Prop}{as as':List α}{bs bs':List β}(h:QA2 R as bs)(a:QA2 R as' bs'):QA2 R (as++as') (bs++bs'):=by
 induction h with
 |nil=>exact a
 |cons h _ ih=>exact .cons h ih
section
variable {κ:Type} [DecidableEq κ] {β:Type}(K:KE κ)(V:Value->β->Prop)
def QE6(e:MapEntry)(x:κ×β):Prop:=e.key=K.enc x.1/\V e.val x.2
structure QHi(es:Array MapEntry)(clock:Nat)(l:List (κ×β)):Prop where
 born:∀e∈es.toList,e.born<clock
 nodup:(es.toList.map (·.born)).Nodup
 ents:QA2 (QE6 K V) es.toList l
 keys:(l.map (·.1)).Nodup
def QY(w:World)(m:Nat)(L:List (κ×β)):Prop:=
 ∃es clock l,w.heap[m]? =some (.map es clock)/\QHi K V es clock l/\l.Perm L
end
section
variable {κ:Type} [DecidableEq κ] {β:Type}{K:KE κ}{V:Value->β->Prop}{w w':World}{m:Nat}{L:List (κ×β)}
def del(k:κ)(L:List (κ×β)):List (κ×β):=L.filter fun x=>decide (x.1≠k)
def get(k:κ):List (κ×β)->Option β
 | []=>none
 |(k',x)::L=>if k'=k then some x else get k L
theorem QQ4{k:κ}{x:β}:∀{L:List (κ×β)},(L.map (·.1)).Nodup->((k,x)∈L↔get k L=some x)
 | [],_=>by simp[get]
 |(e,f)::L,a=>by
  simp only[List.map_cons,List.nodup_cons]at a;unfold get
  by_cases h:e=k
  ·subst h
   simp only[List.mem_cons,Prod.mk.injEq,true_and,if_true,Option.some.injEq];constructor
   ·rintro(h|h)
    ·exact h.symm
    ·exact(a.1 (List.mem_map.2 ⟨_,h,rfl⟩)).elim
   ·intro h;exact .inl h.symm
  ·rw[if_neg h,←QQ4 a.2]
   simp only[List.mem_cons,Prod.mk.injEq];constructor
   ·rintro(⟨d,_⟩|d)
    ·exact(h d.symm).elim
    ·exact d
   ·exact .inr
theorem QK3{k:κ}:∀{L:List (κ×β)},get k L=none↔k∉L.map (·.1)
 | []=>by simp[get]
 |(d,f)::L=>by
  unfold get
  by_cases h:d=k
  ·subst h;simp
  ·rw[if_neg h,QK3]
   simp only[List.map_cons,List.mem_cons,not_or];exact⟨fun a=>⟨fun e=>h e.symm,a⟩,fun a=>a.2⟩
theorem QS8{k:κ}{L M:List (κ×β)}(a:L.Perm M)(d:(L.map (·.1)).Nodup):get k L=get k M:=by
 have e:(M.map (·.1)).Nodup:=(a.map _).nodup_iff.1 d;cases h:get k L with
 |none=>
  rw[QK3]at h
  symm
  rw[QK3];exact fun f=>h ((a.map _).mem_iff.2 f)
 |some x=>
  rw[←QQ4 d]at h
  symm
  rw[←QQ4 e];exact a.mem_iff.1 h
theorem QY.mono{a:Value->β->Prop}(h:QY K V w m L)(d:∀v x,V v x->a v x):QY K a w m L:=by
 obtain⟨es,c,l,f,⟨g,i,j,k⟩,n⟩:=h;exact⟨es,c,l,f,⟨g,i,j.mono fun e x h=>⟨h.1,d _ _ h.2⟩,k⟩,n⟩
theorem QY.perm{M:List (κ×β)}(h:QY K V w m L)(e:L.Perm M):QY K V w m M:=by
 obtain⟨es,c,l,f,a,d⟩:=h;exact⟨es,c,l,f,a,d.trans e⟩
theorem QY.lt(h:QY K V w m L):m<w.heap.size:=by
 obtain⟨es,c,l,a,_⟩:=h;exact Qe a
theorem QY.upd{S:Nat->Prop}(h:QY K V w m L)(d:Upd S w w')(hS:¬S m):QY K V w' m L:=by
 obtain⟨es,c,l,e,a,f⟩:=h;exact⟨es,c,l,d.keep e hS,a,f⟩
theorem QY.nodup(h:QY K V w m L):(L.map (·.1)).Nodup:=by
 obtain⟨es,c,l,e,a,d⟩:=h;exact(d.map _).nodup_iff.1 a.keys
theorem QY.made{t:World}{b:Nat}(h:QG t b (.map #[] 0) w):QY K V w b []:=
 ⟨#[],0,[],h.at,⟨by simp,by simp, .nil,by simp⟩, .nil⟩
theorem QY.len(h:QY K V w m L):QWc w (.map (some m)) L.length:=by
 obtain⟨es,c,l,d,a,e⟩:=h;exact⟨es,c,d,by rw[←e.length_eq,←a.ents.length];simp⟩
theorem Ql2(k:κ):∀{es:List MapEntry}{l:List (κ×β)}(i:Nat),QA2 (QE6 K V) es l→
  (get k l=none/\Instr.findNow K.kd (K.enc k) es i=some none)∨
  (∃x j e pre post lpre lpost,get k l=some x/\es=pre++e::post/\l=lpre++(k,x)::lpost/\pre.length=j/\QA2 (QE6 K V) pre lpre/\QA2 (QE6 K V) post lpost/\QE6 K V e (k,x)∧
   (∀y∈lpre,y.1≠k)/\Instr.findNow K.kd (K.enc k) es i=some (some (i+j,e.val))):=by
 intro es
 induction es with
 |nil=>
  intro l i h;cases h;exact .inl ⟨rfl,rfl⟩
 |cons e es ih=>
  intro l i h;cases h with
  | @cons _ x _ ls f o=>
   obtain⟨a,x⟩:=x;have p:=K.now k a;simp only[Instr.findNow,f.1,p]
   by_cases d:k=a
   ·subst d
    right
    exact⟨x,0,e,[],es,[],ls,by simp[get],rfl,rfl,rfl, .nil,o,f,by simp,by simp⟩
   ·have q:decide (k=a)=false:=by simpa using d
    have r:get k ((a,x)::ls)=get k ls:=by simp[get,Ne.symm d]
    rw[q,r];rcases ih (i+1) o with⟨g,s⟩|⟨t,j,u,pre,post,lpre,lpost,g,rfl,rfl,rfl,v,z,A,B,C⟩
    ·exact .inl ⟨g,s⟩
    ·right
     refine⟨t,pre.length+1,u,e::pre,post,(a,x)::lpre,lpost,g,rfl,rfl,rfl, .cons f v,z,A,?_,?_⟩
     ·intro y n
      rcases List.mem_cons.1 n with rfl|n
      ·exact Ne.symm d
      ·exact B y n
     ·rw[show i+(pre.length+1)=i+1+pre.length by omega];exact C
theorem Qu0{P:Program}{kt:TypeId}{kd:TypeDesc}(a:P.underlying kt=some kd){key:Value}{es:List MapEntry}{r:Option (Nat×Value)}
  (h:Instr.findNow kd key es 0=some r) (w:World):(Instr.findKey kt key es).run P w= .ok r w:=by
 simp only[Instr.findKey,Sem.run_bind,Q3 a,Result.andThen,h]
 rfl
theorem Qh2{P:Program}{kt:TypeId}(a:P.underlying kt=some K.kd)(b:Bool)(k:κ)(n:Nat)(w:World):
  (Instr.checkKey b (n+1) kt (K.enc k)).run P w= .ok () w:=by
 have d:=K.plain;generalize K.kd=kd at a d;simp only[Instr.checkKey,Sem.run_bind,Q3 a,Result.andThen];rcases d with⟨_,rfl⟩|rfl<;>rfl
theorem QY.lookup{P:Program}{t kt e:TypeId}{z:Value}(h:QY K V w m L)(ht:P.underlying t=some (.map kt e))(a:P.underlying kt=some K.kd)
  (n:Qo1 P e=some z) (k:κ):
  (∃x v,get k L=some x/\V v x/\QYh P t (.map (some m)) (K.enc k) w v true)\/(get k L=none/\QYh P t (.map (some m)) (K.enc k) w z false):=by
 obtain⟨es,c,l,f,d,r⟩:=h;have o:=QS8 (k:=k) r d.keys;have g:∀b,(Instr.checkKey b 10000 kt (K.enc k)).run P w= .ok () w:=fun b=>Qh2 a b k 9999 w;rcases Ql2 k 0 d.ents with⟨i,p⟩|⟨x,j,s,pre,post,lpre,lpost,i,_,_,rfl,_,_,u,_,q⟩
 ·right
  refine⟨o▸i,?_,?_⟩
  ·simp only[Instr.lookup,Sem.run_bind,Q3 ht,Result.andThen,Qu f,Sem.run_pure,g,Qu0 a p,QC6 n]
   rfl
  ·simp only[Instr.lookup,Sem.run_bind,Q3 ht,Result.andThen,Qu f,Sem.run_pure,g,Qu0 a p,QC6 n]
   rfl
 ·left
  refine⟨x,s.val,o▸i,u.2,?_,?_⟩
  ·simp only[Instr.lookup,Sem.run_bind,Q3 ht,Result.andThen,Qu f,Sem.run_pure,g,Qu0 a q]
   rfl
  ·simp only[Instr.lookup,Sem.run_bind,Q3 ht,Result.andThen,Qu f,Sem.run_pure,g,Qu0 a q]
   rfl
theorem Q12{o:Obj}:Upd (fun b=>b=m) w {w with heap:=w.heap.setIfInBounds m o}:=
 ⟨rfl,rfl,rfl,by simp,fun b _ hS=>by
  show(w.heap.setIfInBounds m o)[b]? =_
  rw[Array.getElem?_setIfInBounds_ne (fun e=>hS e.symm)]⟩
theorem QS2{o:Obj}(h:m<w.heap.size):({w with heap:=w.heap.setIfInBounds m o}:World).heap[m]? =some o:=by
 show(w.heap.setIfInBounds m o)[m]? =_
 simp[h]
theorem Qt4{k:κ}{x:β}{lpre lpost:List (κ×β)}(h:((lpre++(k,x)::lpost).map (·.1)).Nodup):
  del k (lpre++(k,x)::lpost)=lpre++lpost:=by
 simp only[List.map_append,List.map_cons]at h;have d:∀y∈lpre,y.1≠k:=by
  intro y a e;rw[List.nodup_append]at h;exact h.2.2 y.1 (List.mem_map.2 ⟨y,a,rfl⟩) k List.mem_cons_self e
 have f:∀y∈lpost,y.1≠k:=by
  intro y a e;rw[List.nodup_append]at h;have:=h.2.1;simp only[List.nodup_cons]at this;exact this.1 (List.mem_map.2 ⟨y,a,e⟩)
 unfold del;rw[List.filter_append,List.filter_cons_of_neg (by simp)];rw[List.filter_eq_self.2 (by intro y a;simpa using d y a),List.filter_eq_self.2 (by intro y a;simpa using f y a)]
theorem QAc{k:κ}(h:get k L=none):del k L=L:=by
 rw[QK3]at h;unfold del;rw[List.filter_eq_self];intro y a;simp only[decide_eq_true_eq];exact fun e=>h (List.mem_map.2 ⟨y,a,e⟩)
theorem Qn6{k:κ}{M:List (κ×β)}(h:L.Perm M):(del k L).Perm (del k M):=h.filter _
theorem QY.update{P:Program}{t kt e:TypeId}(h:QY K V w m L)(ht:P.underlying t=some (.map kt e))(r:P.underlying kt=some K.kd)(k:κ){v:Value}{x:β}(z:V v x):
  ∃w',(Instr.mapUpdate t (.map (some m)) (K.enc k) v).run P w= .ok () w'/\Upd (fun b=>b=m) w w'/\w'.heap.size=w.heap.size/\QY K V w' m ((k,x)::del k L):=by
 obtain⟨es,c,l,n,d,s⟩:=h;have o:=Qe n;have A:∀b,(Instr.checkKey b 10000 kt (K.enc k)).run P w= .ok () w:=fun b=>Qh2 r b k 9999 w;have D:=QS8 (k:=k) s d.keys;rcases Ql2 k 0 d.ents with⟨u,E⟩|⟨x0,j,p,pre,post,lpre,lpost,u,g,rfl,rfl,F,G,H,J,B⟩
 ·refine⟨{w with heap:=w.heap.setIfInBounds m (.map (es.push {key:=K.enc k,val:=v,born:=c}) (c+1))},?_,Q12,by simp,_,_,l++ [(k,x)],QS2 o,?_,?_⟩
  ·simp only[Instr.mapUpdate,Sem.run_bind,Q3 ht,Result.andThen,Qu n,A,Qu0 r E]
   exact Qv1 n (by intros;simp)
  ·refine⟨?_,?_,?_,?_⟩
   ·intro y f
    simp only[Array.toList_push,List.mem_append,List.mem_singleton]at f;rcases f with f|rfl
    ·exact Nat.lt_succ_of_lt (d.born y f)
    ·exact Nat.lt_succ_self c
   ·simp only[Array.toList_push,List.map_append,List.map_cons,List.map_nil]
    rw[List.nodup_append];refine⟨d.nodup,by simp,?_⟩;intro a ha b hb;simp only[List.mem_singleton]at hb;subst hb;obtain⟨y,f,rfl⟩:=List.mem_map.1 ha;exact Nat.ne_of_lt (d.born y f)
   ·rw[Array.toList_push]
    exact d.ents.append (.cons ⟨rfl,z⟩ .nil)
   ·simp only[List.map_append,List.map_cons,List.map_nil]
    rw[List.nodup_append];refine⟨d.keys,by simp,?_⟩;intro a ha b hb;simp only[List.mem_singleton]at hb;subst hb;rintro rfl;exact(QK3.1 u) ha
  ·have:del k L=L:=QAc (D▸u)
   rw[this];exact(List.perm_append_singleton _ _).trans (s.cons _)
 ·have C:pre.length<es.size:=by
   have:es.toList.length=(pre++p::post).length:=by rw[g]
   simp at this;omega
  have q:es[pre.length]? =some p:=by
   have:es.toList[pre.length]? =some p:=by rw[g];simp
   simpa using this
  refine⟨{w with heap:=w.heap.setIfInBounds m (.map (es.modify pre.length fun y=>{y with key:=K.enc k,val:=v}) c)},?_,Q12,by simp,_,_,lpre++(k,x)::lpost,QS2 o,?_,?_⟩
  ·rw[Nat.zero_add]at B
   simp only[Instr.mapUpdate,Sem.run_bind,Q3 ht,Result.andThen,Qu n,A,Qu0 r B,Instr.keyThatStays,q,Option.map_some,Option.getD_some,H.1,K.same,if_true,Sem.run_pure];exact Qv1 n (by intros;simp)
  ·have i:(es.modify pre.length fun y=>{y with key:=K.enc k,val:=v}).toList=pre++{p with key:=K.enc k,val:=v}::post:=by
    rw[Array.toList_modify,g,Qp8]
   refine⟨?_,?_,?_,?_⟩
   ·intro y f
    rw[i]at f;have hb:=d.born;rw[g]at hb;simp only[List.mem_append,List.mem_cons]at f hb;rcases f with f|rfl|f
    ·exact hb y (.inl f)
    ·exact hb p (.inr (.inl rfl))
    ·exact hb y (.inr (.inr f))
   ·rw[i]
    have:=d.nodup;rw[g]at this;simpa using this
   ·rw[i]
    exact F.append (.cons ⟨rfl,z⟩ G)
   ·have:=d.keys
    simpa using this
  ·have I:del k (lpre++(k,x0)::lpost)=lpre++lpost:=Qt4 d.keys
   have:=Qn6 (k:=k) s;rw[I]at this;exact List.perm_middle.trans (this.cons _)
end
section
variable {κ:Type} [DecidableEq κ] {β:Type}{K:KE κ}{V:Value->β->Prop}{w w':World}{m:Nat}{L:List (κ×β)}
theorem Qr3{α:Type}(e:α)(post:List α):∀pre:List α,(pre++e::post).eraseIdx pre.length=pre++post
 | []=>by simp
 |x::pre=>by simp[Qr3 e post pre]
theorem QHi.erase{es:Array MapEntry}{c:Nat}{pre post:List MapEntry}{h:MapEntry}{lpre lpost:List (κ×β)}{x:κ×β}(d:QHi K V es c (lpre++x::lpost))
  (f:es.toList=pre++h::post) (i:QA2 (QE6 K V) pre lpre) (j:QA2 (QE6 K V) post lpost):QHi K V (es.eraseIdxIfInBounds pre.length) c (lpre++lpost):=by
 have a:(es.eraseIdxIfInBounds pre.length).toList=pre++post:=by
  rw[Array.toList_eraseIdxIfInBounds,f,Qr3]
 have hb:=d.born;have g:=d.nodup;have k:=d.keys;rw[f]at hb g;refine⟨?_,?_,by rw[a];exact i.append j,?_⟩
 ·intro y e
  rw[a]at e;refine hb y ?_;simp only[List.mem_append,List.mem_cons]at e⊢;rcases e with e|e
  ·exact .inl e
  ·exact .inr (.inr e)
 ·rw[a]
  refine g.sublist ?_;simp only[List.map_append,List.map_cons];exact List.Sublist.append (List.Sublist.refl _) (List.sublist_cons_self _ _)
 ·refine k.sublist ?_
  simp only[List.map_append,List.map_cons];exact List.Sublist.append (List.Sublist.refl _) (List.sublist_cons_self _ _)
theorem QY.delete{P:Program}{t kt e:TypeId}{ty:TypeId}{t2:TypeId}(h:QY K V w m L)(ht:P.underlying t=some (.map kt e))(i:P.underlying kt=some K.kd)(k:κ):
  ∃w',(Builtin.delete_ #[t,t2] ty #[.map (some m),K.enc k]).run P w= .ok (.tuple #[]) w'/\Upd (fun b=>b=m) w w'/\w'.heap.size=w.heap.size/\QY K V w' m (del k L):=by
 obtain⟨es,c,l,f,d,n⟩:=h;have g:=Qe f;have q:∀b,(Instr.checkKey b 10000 kt (K.enc k)).run P w= .ok () w:=fun b=>Qh2 i b k 9999 w;have u:=QS8 (k:=k) n d.keys;rcases Ql2 k 0 d.ents with⟨r,v⟩|⟨x0,j,z,pre,post,lpre,lpost,r,o,rfl,rfl,x,y,A,B,s⟩
 ·refine⟨{w with heap:=w.heap.setIfInBounds m (.map es c)},?_,Q12,by simp,es,c,l,QS2 g,d,?_⟩
  ·simp only[Builtin.delete_,List.getElem?_toArray,List.getElem?_cons_zero,List.getElem?_cons_succ,Sem.run_bind,Q3 ht,Result.andThen,Qu f,q,Qu0 i v,
    Qv1 f (show∀a b p,Obj.map es c≠ .cells a b p by intros;simp)]
   rfl
  ·rw[QAc (u▸r)];exact n
 ·refine⟨{w with heap:=w.heap.setIfInBounds m (.map (es.eraseIdxIfInBounds pre.length) c)},?_,Q12,by simp,_,c,lpre++lpost,QS2 g,d.erase o x y,?_⟩
  ·rw[Nat.zero_add]at s
   simp only[Builtin.delete_,List.getElem?_toArray,List.getElem?_cons_zero,List.getElem?_cons_succ,Sem.run_bind,Q3 ht,Result.andThen,Qu f,q,Qu0 i s,
    Qv1 f (show∀a b p,Obj.map es c≠ .cells a b p by intros;simp)]
   rfl
  ·have:=Qn6 (k:=k) n
   rwa [Qt4 d.keys]at this
theorem QY.clear{P:Program}{t kt e:TypeId}{ty:TypeId}(h:QY K V w m L)(ht:P.underlying t=some (.map kt e)):
  ∃w',(Builtin.clear_ #[t] ty #[.map (some m)]).run P w= .ok (.tuple #[]) w'/\Upd (fun b=>b=m) w w'/\w'.heap.size=w.heap.size/\QY K V w' m []:=by
 obtain⟨es,c,l,d,f,i⟩:=h;refine⟨{w with heap:=w.heap.setIfInBounds m (.map #[] c)},?_,Q12,by simp,#[],c,[],QS2 (Qe d),⟨by simp,by simp, .nil,by simp⟩, .nil⟩
 simp only[Builtin.clear_,List.getElem?_toArray,List.getElem?_cons_zero,Sem.run_bind,Q3 ht,Result.andThen,Qu d,
    Qv1 d (show∀a b g,Obj.map es c≠ .cells a b g by intros;simp)]
 rfl
theorem QA2.zip{α γ:Type}{R:α->γ->Prop}{as:List α}{bs:List γ}(h:QA2 R as bs):∃ps:List (α×γ),as=ps.map (·.1)/\bs=ps.map (·.2)/\∀p∈ps,R p.1 p.2:=by
 induction h with
 |nil=>exact⟨[],rfl,rfl,by simp⟩
 | @cons a b as bs e _ ih=>
  obtain⟨ps,rfl,rfl,f⟩:=ih
  exact⟨(a,b)::ps,rfl,rfl,by
   intro p d;rcases List.mem_cons.1 d with rfl|d
   ·exact e
   ·exact f p d⟩
theorem QA2.of_zip{α γ:Type}{R:α->γ->Prop}:∀{ps:List (α×γ)},(∀p∈ps,R p.1 p.2)->QA2 R (ps.map (·.1)) (ps.map (·.2))
 | [],_=> .nil
 |p::_,h=> .cons (h p List.mem_cons_self) (QA2.of_zip fun q a=>h q (List.mem_cons_of_mem _ a))
def QI7(K:KE κ)(V:Value->β->Prop)(w:World)(it m:Nat)(L rest:List (κ×β)):Prop:=
 ∃es clock seen last,∃ps:List (MapEntry×(κ×β)),w.heap[it]? =some (.mapIter (some m) clock seen last)/\w.heap[m]? =some (.map es clock)/\es.toList=ps.map (·.1)∧
  QHi K V es clock (ps.map (·.2))/\(ps.map (·.2)).Perm L/\(∀p∈ps,QE6 K V p.1 p.2)/\(seen= #[]\/last=clock)/\((ps.filter fun p=> !seen.contains p.1.born).map (·.2)).Perm rest
def QBe(K:KE κ)(V:Value->β->Prop)(w:World)(it m:Nat)(L rest:List (κ×β))(k:κ)(x:β)(v:Value):Prop:=
 ∃es clock seen,∃ps:List (MapEntry×(κ×β)),∃cur,w.heap[it]? =some (.mapIter (some m) clock seen clock)/\w.heap[m]? =some (.map es clock)/\es.toList=ps.map (·.1)∧
  QHi K V es clock (ps.map (·.2))/\(ps.map (·.2)).Perm L/\(∀p∈ps,QE6 K V p.1 p.2)/\((ps.filter fun p=> !seen.contains p.1.born).map (·.2)).Perm rest∧
  (cur,(k,x))∈ps/\seen.back? =some cur.born/\cur.val=v
theorem QBe.toIt{it:Nat}{rest:List (κ×β)}{k:κ}{x:β}{v:Value}(h:QBe K V w it m L rest k x v):QI7 K V w it m L rest:=by
 obtain⟨es,c,seen,ps,cur,a,d,e,f,g,i,j,_⟩:=h;exact⟨es,c,seen,c,ps,a,d,e,f,g,i, .inr rfl,j⟩
theorem QBe.entry{it:Nat}{rest:List (κ×β)}{k:κ}{x:β}{v:Value}(h:QBe K V w it m L rest k x v):V v x/\(k,x)∈L:=by
 obtain⟨es,c,seen,ps,cur,f,g,i,j,d,e,l,a,n,rfl⟩:=h;exact⟨(e _ a).2,d.mem_iff.1 (List.mem_map.2 ⟨_,a,rfl⟩)⟩
theorem QI7.map{it:Nat}{rest:List (κ×β)}(h:QI7 K V w it m L rest):QY K V w m L:=by
 obtain⟨es,c,seen,last,ps,f,a,g,d,e,_⟩:=h;exact⟨es,c,_,a,d,e⟩
theorem QI7.upd{it:Nat}{rest:List (κ×β)}{S:Nat->Prop}(h:QI7 K V w it m L rest)(a:Upd S w w')(d:¬S it)(e:¬S m):QI7 K V w' it m L rest:=by
 obtain⟨es,c,seen,last,ps,f,g,i⟩:=h;exact⟨es,c,seen,last,ps,a.keep f d,a.keep g e,i⟩
theorem QBe.upd{it:Nat}{rest:List (κ×β)}{k:κ}{x:β}{v:Value}{S:Nat->Prop}(h:QBe K V w it m L rest k x v)(a:Upd S w w')(d:¬S it)(e:¬S m):QBe K V w' it m L rest k x v:=by
 obtain⟨es,c,seen,ps,cur,f,g,i⟩:=h;exact⟨es,c,seen,ps,cur,a.keep f d,a.keep g e,i⟩
theorem QI7.mono{a:Value->β->Prop}{it:Nat}{rest:List (κ×β)}(h:QI7 K V w it m L rest)(d:∀v x,V v x->a v x):QI7 K a w it m L rest:=by
 obtain⟨es,c,seen,last,ps,i,j,k,⟨l,n,a3,a4⟩,o,f,q⟩:=h;exact⟨es,c,seen,last,ps,i,j,k,⟨l,n,a3.mono fun e x h=>⟨h.1,d _ _ h.2⟩,a4⟩,o,fun p g=>⟨(f p g).1,d _ _ (f p g).2⟩,q⟩
theorem QI7.ne{it:Nat}{rest:List (κ×β)}(h:QI7 K V w it m L rest):it≠m/\it<w.heap.size:=by
 obtain⟨es,c,seen,last,ps,a,d,_⟩:=h;refine⟨?_,Qe a⟩;rintro rfl;rw[a]at d;simp at d
theorem QI7.made{es:Array MapEntry}{c:Nat}{it:Nat}(h:QY K V w m L)(hi:QFj w (some m) es c)(d:QG w it (.mapIter (some m) c #[] c) w'):
  QI7 K V w' it m L L:=by
 obtain⟨es',i,l,f,a,g⟩:=h;have:some (Obj.map es c)=some (.map es' i):=by rw[←f];exact hi.symm
 simp only[Option.some.injEq,Obj.map.injEq]at this;obtain⟨rfl,rfl⟩:=this;obtain⟨ps,j,rfl,k⟩:=a.ents.zip;refine⟨es,c,#[],c,ps,d.at,d.ext.keep f,j,a,g,k, .inl rfl,?_⟩;have:(ps.filter fun p=> !(#[]:Array Nat).contains p.1.born)=ps:=by
  rw[List.filter_eq_self];intro e _;simp
 rw[this];exact g
theorem QBe.entryAt{P:Program}{it:Nat}{rest:List (κ×β)}{k:κ}{x:β}{v:Value}(h:QBe K V w it m L rest k x v):entryAt P (.pointer (some (at0 it))) w (K.enc k) v:=by
 obtain⟨es,c,seen,ps,cur,j,n,o,p,s,q,t,g,r,rfl⟩:=h;have a:cur∈es.toList:=by rw[o];exact List.mem_map.2 ⟨_,g,rfl⟩
 have d:es.find? (·.born==cur.born)=some cur:=by
  rw[←Array.find?_toList];have f:=p.nodup;generalize es.toList=l at a f
  induction l with
  |nil=>cases a
  |cons y l ih=>
   simp only[List.map_cons,List.nodup_cons]at f;rcases List.mem_cons.1 a with rfl|i
   ·simp
   ·have:y.born≠cur.born:=fun e=>f.1 (List.mem_map.2 ⟨cur,i,e.symm⟩)
    rw[List.find?_cons_of_neg (by simpa using this)];exact ih i f.2
 unfold Go.Vc.entryAt;simp only[Instr.entry,Sem.run_bind,Qf2 j,Result.andThen,Qu n,r];rw[if_neg (by simp)];rw[d,←(q _ g).1]
 rfl
theorem Qs3{α:Type}(p:α->Bool):∀{l:List α}{x:α},x∈l->p x=true->∃pre post,l.filter p=pre++x::post/\∀(q:α->Bool),(∀y,q y=true->p y=true)->q x=false→
  (∀y∈pre,q y=true)->(∀y∈post,q y=true)->l.filter q=pre++post:=by
 intro l;intro x d f;have g:x∈l.filter p:=List.mem_filter.2 ⟨d,f⟩;obtain⟨pre,post,h⟩:=List.append_of_mem g;refine⟨pre,post,h,fun q i a j k=> ?_⟩;have e:l.filter q=(l.filter p).filter q:=by
  rw[List.filter_filter];apply List.filter_congr;intro y _;cases n:q y
  ·simp
  ·simp[i y n]
 rw[e,h,List.filter_append,List.filter_cons_of_neg (by simp[a]),List.filter_eq_self.2 j,List.filter_eq_self.2 k]
theorem QI7.next{it:Nat}{rest:List (κ×β)}(h:QI7 K V w it m L rest){T:Value->Value->World->Prop}{E:World->Prop}
  (O:∀k x v rest' w',rest.Perm ((k,x)::rest')->Upd (fun b=>b=it) w w'->w'.heap.size=w.heap.size->QBe K V w' it m L rest' k x v->T (K.enc k) v w')
  (P:rest=[]->∀w',QD2 w w'->E w'):Q2e w (at0 it) T E:=by
 obtain⟨es,c,seen,last,ps,G,B,a,f,Q,i,R,g⟩:=h;refine⟨rfl,some m,c,seen,last,G,(by intro e;cases e),fun W u=> ?_⟩;simp only[Option.some.injEq]at u;subst u;refine⟨es,c,B,?_,?_,?_⟩
 ·rcases R with rfl|rfl
  ·exact .inl rfl
  ·by_cases C:es= #[]
   ·exact .inr (.inl C)
   ·have:0<es.size:=Array.size_pos_iff.2 C
    exact .inr (.inr ⟨es[0],Array.getElem_mem this,f.born _ (by simp)⟩)
 ·intro e C l d
  have z:e∈es.toList:=by simpa using C
  rw[a]at z;obtain⟨⟨n,k,x⟩,o,rfl⟩:=List.mem_map.1 z;obtain⟨pre,post,D,S⟩:=Qs3 (fun p:MapEntry×(κ×β)=> !seen.contains p.1.born) o (by simpa using l);have q:((ps.filter fun p=> !seen.contains p.1.born).map (·.1.born)).Nodup:=by
   have:=f.nodup;rw[a,List.map_map]at this;exact this.sublist (List.filter_sublist.map _)
  rw[D,List.map_append,List.map_cons,List.nodup_append]at q;have H:ps.filter (fun p=> !(seen.push n.born).contains p.1.born)=pre++post:=by
   refine S _ ?_ ?_ ?_ ?_
   ·intro y j
    simp only[Bool.not_eq_true',Array.contains_eq_mem,Array.mem_push,decide_eq_false_iff_not,not_or]at j⊢;exact j.1
   ·simp
   ·intro y j
    have r:y∈ps.filter fun p=> !seen.contains p.1.born:=by rw[D];exact List.mem_append_left _ j
    have t:=(List.mem_filter.1 r).2;have F:y.1.born≠n.born:=q.2.2 y.1.born (List.mem_map.2 ⟨y,j,rfl⟩) n.born List.mem_cons_self;simp only[Bool.not_eq_true',Array.contains_eq_mem,Array.mem_push,decide_eq_false_iff_not,not_or]at t⊢;exact⟨t,F⟩
   ·intro y j
    have r:y∈ps.filter fun p=> !seen.contains p.1.born:=by rw[D];exact List.mem_append_right _ (List.mem_cons_of_mem _ j)
    have t:=(List.mem_filter.1 r).2;have F:y.1.born≠n.born:=by
     intro U;have:=q.2.1;simp only[List.nodup_cons]at this;exact this.1 (List.mem_map.2 ⟨y,j,U⟩)
    simp only[Bool.not_eq_true',Array.contains_eq_mem,Array.mem_push,decide_eq_false_iff_not,not_or]at t⊢;exact⟨t,F⟩
  have I:it≠m:=by
   rintro rfl;rw[G]at B;simp at B
  have M:=(i _ o).1;simp only at M;rw[M];have s:rest.Perm ((k,x)::(pre++post).map (·.2)):=by
   rw[D,List.map_append,List.map_cons]at g;rw[List.map_append];exact g.symm.trans List.perm_middle
  refine O k x n.val ((pre++post).map (·.2)) _ s ⟨rfl,rfl,rfl,by simp,fun b _ hb=> ?_⟩ (by simp)
   ⟨es,c,seen.push n.born,ps,n,?_,?_,a,f,Q,i,by rw[H],o,by simp,rfl⟩
  ·show(w.heap.setIfInBounds it _)[b]? =_
   rw[Array.getElem?_setIfInBounds_ne (fun e=>hb e.symm)]
  ·show(w.heap.setIfInBounds it _)[it]? =_
   simp[Qe G]
  ·show(w.heap.setIfInBounds it _)[m]? =_
   rw[Array.getElem?_setIfInBounds_ne I];exact B
 ·intro A d
  refine P ?_ _ ⟨rfl,rfl,rfl,rfl⟩;have:(ps.filter fun p=> !seen.contains p.1.born)=[]:=by
   rw[List.filter_eq_nil_iff];intro p J l;have N:p.1∈es.toList:=by rw[a];exact List.mem_map.2 ⟨p,J,rfl⟩
   have t:=A p.1 (by simpa using N) (by simpa using l);have F:=f.born p.1 N;omega
  rw[this]at g;exact g.symm.eq_nil
theorem QBe.delete{P:Program}{t kt e:TypeId}{ty t2:TypeId}{it:Nat}{rest:List (κ×β)}{k:κ}{x:β}{v:Value}(h:QBe K V w it m L rest k x v)
  (ht:P.underlying t=some (.map kt e)) (S:P.underlying kt=some K.kd):
  ∃w',(Builtin.delete_ #[t,t2] ty #[.map (some m),K.enc k]).run P w= .ok (.tuple #[]) w'/\Upd (fun b=>b=m) w w'/\w'.heap.size=w.heap.size/\QI7 K V w' it m (del k L) rest:=by
 have I:=h.toIt.ne;obtain⟨es,c,seen,ps,cur,W,J,M,r,s,g,N,E,u,rfl⟩:=h;have X:∀b,(Instr.checkKey b 10000 kt (K.enc k)).run P w= .ok () w:=fun b=>Qh2 S b k 9999 w;obtain⟨pre,post,rfl⟩:=List.append_of_mem E;have A:QA2 (QE6 K V) es.toList ((pre++(cur,(k,x))::post).map (·.2)):=r.ents;rcases Ql2 k 0 A with⟨O,_⟩|⟨x0,j,e',pe,po,lpre,lpost,O,he,T,rfl,Y,h6,h7,h8,U⟩
 ·exfalso
  rw[QK3]at O;exact O (by simp)
 ·
  have f:=r.keys;have F:pe.length=pre.length:=by
   have Q:pe.length=lpre.length:=Y.length;simp only[List.map_append,List.map_cons]at T f;rw[Q];have key:∀(a b c d:List (κ×β))(y R:β),a++(k,y)::b=c++(k,R)::d->((a++(k,y)::b).map (·.1)).Nodup->c.length=a.length:=by
    intro a
    induction a with
    |nil=>
     intro b c d y R h B;cases c with
     |nil=>rfl
     |cons z c=>
      simp only[List.nil_append,List.cons_append,List.cons.injEq]at h;simp only[List.nil_append,List.map_cons,List.nodup_cons]at B;exact(B.1 (by rw[h.2];simp)).elim
    |cons q a ih=>
     intro b c d y R h B;cases c with
     |nil=>
      simp only[List.nil_append,List.cons_append,List.cons.injEq]at h;simp only[List.cons_append,List.map_cons,List.nodup_cons]at B;exact(B.1 (by rw[h.1];simp)).elim
     |cons z c=>
      simp only[List.cons_append,List.cons.injEq]at h;simp only[List.cons_append,List.map_cons,List.nodup_cons]at B;simp[ih _ _ _ _ _ h.2 B.2]
   have:=key _ _ _ _ _ _ T (by simpa using f);simpa using this
  have n:es.toList=pre.map (·.1)++cur::post.map (·.1):=by rw[M];simp
  have i:pe.length=(pre.map (·.1)).length:=by simpa using F
  have l:(es.eraseIdxIfInBounds pe.length).toList=(pre++post).map (·.1):=by
   rw[Array.toList_eraseIdxIfInBounds,n,i,Qr3,List.map_append]
  have G:QHi K V (es.eraseIdxIfInBounds pe.length) c ((pre++post).map (·.2)):=by
   have H:QHi K V es c (pre.map (·.2)++(k,x)::post.map (·.2)):=by simpa using r
   rw[i,List.map_append];exact H.erase n (QA2.of_zip fun p s=>g p (List.mem_append_left _ s)) (QA2.of_zip fun p s=>g p (List.mem_append_right _ (List.mem_cons_of_mem _ s)))
  refine⟨{w with heap:=w.heap.setIfInBounds m (.map (es.eraseIdxIfInBounds pe.length) c)},?_,Q12,by simp,_,c,seen,c,pre++post,?_,QS2 (Qe J),l,G,?_,
   fun p s=>g p ?_, .inr rfl,?_⟩
  ·rw[Nat.zero_add]at U
   simp only[Builtin.delete_,List.getElem?_toArray,List.getElem?_cons_zero,List.getElem?_cons_succ,Sem.run_bind,Q3 ht,Result.andThen,Qu J,X,Qu0 S U,
    Qv1 J (show∀a b Z,Obj.map es c≠ .cells a b Z by intros;simp)]
   rfl
  ·show(w.heap.setIfInBounds m _)[it]? =_
   rw[Array.getElem?_setIfInBounds_ne (fun e=>I.1 e.symm)];exact W
  ·have hd:del k (pre.map (·.2)++(k,x)::post.map (·.2))=pre.map (·.2)++post.map (·.2):=Qt4 (by simpa using f)
   have C:=Qn6 (k:=k) s;simp only[List.map_append,List.map_cons]at C;rw[hd]at C;rw[List.map_append];exact C
  ·rcases List.mem_append.1 s with h|h
   ·exact List.mem_append_left _ h
   ·exact List.mem_append_right _ (List.mem_cons_of_mem _ h)
  ·have D:(!seen.contains cur.born)=false:=by
    have:cur.born∈seen:=Array.mem_of_back? u;simpa using this
   have o:=N;rw[List.filter_append,List.filter_cons_of_neg (by simpa using D)]at o;rw[List.filter_append];exact o
end
end Go.Vc
