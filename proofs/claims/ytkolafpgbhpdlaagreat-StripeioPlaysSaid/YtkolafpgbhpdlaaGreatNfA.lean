import Derived.Test.YtkolafpgbhpdlaaGreatVcC
import Derived.Test.YtkolafpgbhpdlaaGreatRows
import Derived.KernelRfl
namespace Go.Nf
open Go Go.Vc Go.Proofs
inductive TI
 |non|oth|fn|ifc|int (k:IntKind)|bool|str|ptr (e:Nat)|slc (e:Nat)|map (k e:Nat)|arr (n e:Nat) (fl:List Nat)|st (fs:List (Nat×Nat)) (fl:List Nat)
 |bst (fs:List (Nat×Nat)) (n:Nat)|bar (n e s:Nat)
inductive AG|no|oth|sc|ag (l:List Nat)
abbrev KV:=Value->World->Prop
abbrev KE:=List Value->World->Prop
def tys:List TI:=[.oth, .fn, .int .i64, .int .i64, .bool, .int .u8, .int .u8, .st [(0,2),(1,3),(2,4),(3,6)] [2,3,4,6], .st [(0,2),(1,3),(2,4),(3,6)] [2,3,4,6], .str, .str, .str, .int .u64, .st [(0,9),(1,12)] [9,12], .st [(0,9),(1,12)] [9,12], .ptr 251, .ptr 254, .ptr 262, .st [(0,17)] [17], .st [(0,17)] [17], .ifc, .int .i32, .fn, .st [(0,3),(1,3),(2,3),(3,3),(4,3),(5,3)] [3,3,3,3,3,3], .st [(0,3),(1,3),(2,3),(3,3),(4,3),(5,3)] [3,3,3,3,3,3], .slc 5, .ptr 70, .int .i64, .oth, .fn, .slc 3, .oth, .fn, .ptr 86, .fn, .oth, .fn, .fn, .fn, .fn, .fn, .fn, .fn, .fn, .fn, .fn, .fn, .fn, .fn, .slc 52, .fn, .st [(0,3),(1,25)] [3,25], .st [(0,3),(1,25)] [3,25], .fn, .fn, .slc 63, .ptr 104, .oth, .fn, .slc 30, .st [(0,3),(1,3),(2,3),(3,3),(4,5),(5,25),(6,59)] [3,3,3,3,5,25,59], .st [(0,3),(1,3),(2,3),(3,3),(4,5),(5,25),(6,59)] [3,3,3,3,5,25,59], .st [(0,3),(1,3),(2,3),(3,25),(4,61)] [3,3,3,25,3,3,3,3,5,25,59], .st [(0,3),(1,3),(2,3),(3,25),(4,61)] [3,3,3,25,3,3,3,3,5,25,59], .fn, .fn, .fn, .fn, .slc 75, .st [(0,68),(1,3),(2,4)] [68,3,4], .st [(0,68),(1,3),(2,4)] [68,3,4], .ptr 121, .oth, .fn, .st [(0,71),(1,3)] [71,3], .st [(0,71),(1,3)] [71,3], .st [(0,26),(1,33),(2,24),(8,3),(9,3)] [26,33,3,3,3,3,3,3,3,3], .st [(0,26),(1,33),(2,24),(8,3),(9,3)] [26,33,3,3,3,3,3,3,3,3], .fn, .slc 25, .oth, .fn, .fn, .bar 510 5 510, .bar 256 3 256, .bst [(0,83),(510,84)] 766, .bst [(0,83),(510,84)] 766, .fn, .int .u64, .fn, .fn, .fn, .fn, .fn, .oth, .fn, .fn, .fn, .fn, .fn, .fn, .fn, .slc 105, .st [(0,102),(1,30),(2,3),(3,4)] [102,30,3,4], .st [(0,102),(1,30),(2,3),(3,4)] [102,30,3,4], .ptr 114, .oth, .fn, .fn, .fn, .fn, .fn, .fn, .st [(0,3),(1,49),(2,49),(3,4)] [3,49,49,4], .st [(0,3),(1,49),(2,49),(3,4)] [3,49,49,4], .fn, .slc 4, .fn, .fn, .map 3 25, .st [(0,3),(1,119),(2,119),(3,4)] [3,119,119,4], .st [(0,3),(1,119),(2,119),(3,4)] [3,119,119,4], .fn, .oth, .fn, .fn, .fn, .oth, .fn, .fn, .fn, .fn, .fn, .fn, .slc 27, .fn, .st [(0,3),(1,3),(2,25)] [3,3,25], .st [(0,3),(1,3),(2,25)] [3,3,25], .oth, .fn, .fn, .fn, .fn, .fn, .oth, .fn, .fn, .fn, .fn, .fn, .fn, .fn, .fn, .fn, .fn, .fn, .int .u32, .fn, .fn, .fn, .fn, .fn, .fn, .arr 4 5 [5,5,5,5], .fn, .fn, .fn, .fn, .oth, .fn, .fn, .fn, .fn, .fn, .fn, .fn, .fn, .fn, .fn, .fn, .fn, .oth, .fn, .fn, .fn, .oth, .fn, .fn, .fn, .fn, .fn, .fn, .fn, .fn, .fn, .fn, .fn, .fn, .fn, .fn, .fn, .fn, .fn, .fn, .fn, .fn, .fn, .fn, .fn, .fn, .fn, .int .i64, .oth, .fn, .fn, .fn, .oth, .fn, .fn, .fn, .int .u64, .fn, .fn, .oth, .fn, .oth, .fn, .fn, .int .u64, .fn, .fn, .fn, .ptr 3, .fn, .fn, .fn, .fn, .fn, .fn, .fn, .ptr 228, .oth, .fn, .fn, .fn, .fn, .fn, .fn, .fn, .fn, .st [(0,17),(1,17),(2,17),(3,9)] [17,17,17,9], .st [(0,17),(1,17),(2,17),(3,9)] [17,17,17,9], .arr 0 16 [], .non, .non, .int .u8, .int .u8, .fn, .ptr 5, .int .i32, .int .i32, .st [(0,12),(1,12),(2,156),(3,255),(4,5),(5,5),(6,256),(7,257),(8,258),(9,259),(10,260)] [12,12,156,255,5,5,256,257,258,259,260], .st [(0,12),(1,12),(2,156),(3,255),(4,5),(5,5),(6,256),(7,257),(8,258),(9,259),(10,260)] [12,12,156,255,5,5,256,257,258,259,260], .oth]
def bys:List Nat:=[0,8,8,8,1,1,1,24,24,16,16,16,8,24,24,8,8,8,8,8,16,4,8,48,48,24,8,8,0,8,24,0,8,8,8,0,8,8,8,8,8,8,8,8,8,8,8,8,8,24,8,32,32,8,8,24,8,0,8,24,88,88,136,136,8,8,8,8,24,40,40,8,0,8,16,16,80,80,8,24,0,8,8,510,2048,2560,2560,8,8,8,8,8,8,8,0,8,8,8,8,8,8,8,24,64,64,8,0,8,8,8,8,8,8,64,64,8,24,8,8,8,32,32,8,0,8,8,8,0,8,8,8,8,8,8,24,8,40,40,0,8,8,8,8,8,0,8,8,8,8,8,8,8,8,8,8,8,4,8,8,8,8,8,8,4,8,8,8,8,0,8,8,8,8,8,8,8,8,8,8,8,8,0,8,8,8,0,8,8,8,8,8,8,8,8,8,8,8,8,8,8,8,8,8,8,8,8,8,8,8,8,8,8,0,8,8,8,0,8,8,8,8,8,8,0,8,0,8,8,8,8,8,8,8,8,8,8,8,8,8,8,8,0,8,8,8,8,8,8,8,8,40,40,0,0,0,1,1,8,8,4,4,48,48,8]
def rts:List (List Nat):=[[0,0,0,0,0],[0,0,0,0,0],[],[4],[4],[4],[4],[4],[4],[4],[26,27],[25,30,27],[33],[3,27],[27],[4],[27],[3],[4],[30],[27],[27],[27],[3],[49],[4],[49],[56,27],[4],[4],[24],[71,27],[27],[79,30,27],[25],[],[27],[27],[92],[79,27],[4],[27],[3],[4],[],[],[27],[49],[49],[105,27],[27],[25,30,27],[4],[3,27],[4],[4],[116],[116],[30],[4],[27],[25,27],[3],[3],[3,25,27],[79,30,27],[4],[0,0,0,0,0],[25,27],[27],[],[137,27],[79],[141],[],[27],[25,119],[25],[49],[27],[79,27],[79],[27],[79,30,27],[27],[25,27],[27],[27],[],[],[],[],[27],[27],[27],[4],[25,27],[4],[156],[156],[3],[27],[25,30,27],[],[30],[3],[],[163],[27],[137,27],[25],[],[5],[30],[171],[27],[137,27],[4],[79],[5],[3],[25,27],[3],[3,25,27],[79,30,27],[4],[27],[25,27],[27],[27],[],[],[],[],[27],[156],[25,27],[25,27],[25],[25,25,27],[25],[25],[5],[5,27],[4],[4],[],[3],[137,27],[5],[5],[30],[],[27],[5],[5],[4],[25],[156],[156],[3],[25,30,27],[27],[49],[3],[],[25],[5],[5,27],[25],[],[],[25,25,27],[25],[25],[25],[3],[],[],[],[3,211],[],[4],[4],[3],[3,4],[3],[3],[30],[5,27],[156],[3],[25,30,4],[30,4],[5,27],[],[88],[220],[3],[3],[4],[156],[79,27],[116],[79],[25],[30],[3,3],[137,27],[30,4],[137,27],[137,27],[5],[27],[79],[25],[5,27],[0,0,0,0,0],[0,0,0,0,0],[0,0,0,0,0],[0,0,0,0,0],[0,0,0,0,0],[0,0,0,0,0],[0,0,0,0,0],[0,0,0,0,0],[0,0,0,0,0],[0,0,0,0,0],[0,0,0,0,0],[0,0,0,0,0],[0,0,0,0,0],[0,0,0,0,0],[0,0,0,0,0],[0,0,0,0,0],[0,0,0,0,0]]
def gT:List TI->Nat->TI
 | [],_=> .non
 |t::_,0=>t
 |_::l,n+1=>gT l n
def gN:List Nat->Nat->Nat
 | [],_=>0
 |t::_,0=>t
 |_::l,n+1=>gN l n
def gL:List (List Nat)->Nat->List Nat
 | [],_=>[0,0,0,0,0]
 |t::_,0=>t
 |_::l,n+1=>gL l n
def gP:List (Nat×Nat)->Nat->Option (Nat×Nat)
 | [],_=>none
 |t::_,0=>some t
 |_::l,n+1=>gP l n
def gO:List Oper->Nat->Oper
 | [],_=>default
 |t::_,0=>t
 |_::l,n+1=>gO l n
def gD:List Oper->Nat->Option Nat
 | [],_=>none
 |⟨d,_,_,_,_,_⟩::_,0=>d
 |_::l,n+1=>gD l n
def gV:List Value->Nat->Option Value
 | [],_=>none
 |t::_,0=>some t
 |_::l,n+1=>gV l n
def ty(t:Nat):TI:=gT tys t
def ag:TI->AG
 | .non=> .no| .oth=> .oth| .fn=> .sc| .ifc=> .sc| .int _=> .sc| .bool=> .sc| .str=> .sc| .ptr _=> .sc| .slc _=> .sc| .map _ _=> .sc
 | .arr _ _ fl=> .ag fl| .st _ fl=> .ag fl| .bst _ _=> .no| .bar _ _ _=> .no
def lnN:List Nat->Nat
 | []=>0
 |_::l=>lnN l+1
def lnV:List Value->Nat
 | []=>0
 |_::l=>lnV l+1
def ceT:TI->Nat
 | .non=>0| .oth=>1| .fn=>1| .ifc=>1| .int _=>1| .bool=>1| .str=>1| .ptr _=>1| .slc _=>1| .map _ _=>1
 | .arr _ _ fl=>lnN fl| .st _ fl=>lnN fl| .bst _ n=>n| .bar _ _ n=>n
def ce(t:Nat):Nat:=ceT (ty t)
def rv:List Value->List Value->List Value
 | [],b=>b
 |x::a,b=>rv a (x::b)
def ap:List Value->List Value->List Value
 | [],b=>b
 |x::a,b=>x::ap a b
def evs(env:List Value):List Operand->List Value
 | []=>[]
 |o::l=>evL env o::evs env l
def cls:Value->List Value
 | .agg a=>a.toList
 | .bool b=>[.bool b]| .int k n=>[.int k n]| .string s=>[.string s]| .pointer p=>[.pointer p]| .slice p n c=>[.slice p n c]| .map r=>[.map r]
 | .func f a b=>[.func f a b]| .nilFunc=>[.nilFunc]| .nilIface=>[.nilIface]|v=>v.cells.toList
def zV:TI->Value
 | .fn=> .nilFunc| .ifc=> .nilIface| .int k=> .int k 0| .bool=> .bool false| .str=> .string ⟨#[]⟩| .ptr _=> .pointer none| .slc _=> .slice none 0 0| .map _ _=> .map none
 |_=>undef
def zL:List Nat->List Value
 | []=>[]
 |t::l=>zV (ty t)::zL l
noncomputable def zO(t:Nat):TI->List Value
 | .arr _ _ fl=>zL fl| .st _ fl=>zL fl| .bst _ _=>Qc Tryz.prog t| .bar _ _ _=>Qc Tryz.prog t| .oth=>Qc Tryz.prog t| .non=>Qc Tryz.prog t
 | .fn=>[.nilFunc]| .ifc=>[.nilIface]| .int k=>[.int k 0]| .bool=>[.bool false]| .str=>[.string ⟨#[]⟩]| .ptr _=>[.pointer none]| .slc _=>[.slice none 0 0]| .map _ _=>[.map none]
noncomputable def ze(t:Nat):List Value:=zO t (ty t)
def aB:Bool->Bool->Bool
 |true,b=>b
 |false,_=>false
def oB:Bool->Bool->Bool
 |true,_=>true
 |false,b=>b
def Qa5:IntKind->IntKind->Bool
 | .i8, .i8=>true| .i16, .i16=>true| .i32, .i32=>true| .i64, .i64=>true| .u8, .u8=>true| .u16, .u16=>true| .u32, .u32=>true| .u64, .u64=>true
 |_,_=>false
def eS:TI->(Value->Prop)->Prop
 | .int k,F=>∃n:Int,F (.int k n)
 | .bool,F=>∃b:Bool,F (.bool b)
 | .str,F=>∃s:ByteArray,F (.string s)
 | .ptr _,F=>∃p:Option Addr,F (.pointer p)
 | .slc _,F=>∃(p:Option Addr)(n c:Nat),F (.slice p n c)
 | .map _ _,F=>∃r:Option Nat,F (.map r)
 | .fn,F=>∃v:Value,F v
 | .ifc,F=>∃v:Value,F v
 |_,_=>False
def eRf(r:List Value->Prop)(acc:List Value)(v:Value):Prop:=r (v::acc)
def eR(F:Value->Prop):List Nat->List Value->Prop
 | [],acc=>F (.agg (rv acc []).toArray)
 |t::ts,acc=>eS (ty t) (eRf (eR F ts) acc)
def eO(t:Nat):AG->(Value->Prop)->Prop
 | .sc,F=>eS (ty t) F
 | .oth,F=>∃v:Value,F v
 | .ag l,F=>eR F l []
 | .no,_=>False
def eT(t:Nat)(F:Value->Prop):Prop:=eO t (ag (ty t)) F
def adO(a:Addr):Nat->Addr
 |0=>a
 |n+1=>a.add (n+1)
def lA(w:World)(p:Addr)(k:KV)(v:Value):Prop:=w.cell? p=some v/\k v w
def lB(r:List Value->Prop)(w:World)(p:Addr)(acc:List Value)(v:Value):Prop:=w.cell? p=some v/\r (v::acc)
def ldR(w:World)(p:Addr)(k:KV):List Nat->Nat->List Value->Prop
 | [],_,acc=>k (.agg (rv acc []).toArray) w
 |t::ts,i,acc=>eS (ty t) (lB (ldR w p k ts (i+1)) w (adO p i) acc)
def ldO(t:Nat):AG->Value->World->KV->Prop
 | .sc, .pointer (some p),w,k=>eS (ty t) (lA w p k)
 | .ag fl, .pointer (some p),w,k=>ldR w p k fl 0 []
 |_,_,_,_=>False
def ld(t:Nat)(x:Value)(w:World)(k:KV):Prop:=ldO t (ag (ty t)) x w k
def pk:Value->Value->Value->World->KV->Prop
 | .bool c,a,b,w,k=>Q9 c (k a w) (k b w)
 |_,_,_,_,_=>False
def nlC:Value->World->KV->Prop
 | .pointer p,w,k=>Qv0 p fun a=>k (.pointer (some a)) w
 | .func (.func f) a b,w,k=>k (.func (.func f) a b) w
 |_,_,_=>False
def fA:Option (Nat×Nat)->Value->World->KV->Prop
 |some (off,_), .pointer p,w,k=>Qv0 p fun a=>k (.pointer (some (a.add off))) w
 |_,_,_,_=>False
def flO:TI->Nat->Option (Nat×Nat)
 | .st fs _,i=>gP fs i
 | .bst fs _,i=>gP fs i
 |_,_=>none
def kO:Option Value->World->KV->Prop
 |some v,w,k=>k v w
 |none,_,_=>False
def dr:List Value->Nat->List Value
 |l,0=>l
 | [],_+1=>[]
 |_::l,n+1=>dr l n
def tk:List Value->Nat->List Value
 |_,0=>[]
 | [],_+1=>[]
 |x::l,n+1=>x::tk l n
def fEb:AG->Nat->Value->World->KV->Prop
 | .sc,off, .agg cs,w,k=>kO (gV cs.toList off) w k
 | .ag l,off, .agg cs,w,k=>k (.agg (tk (dr cs.toList off) (lnN l)).toArray) w
 |_,_,_,_,_=>False
def fE:Option (Nat×Nat)->Value->World->KV->Prop
 |some (off,t),x,w,k=>fEb (ag (ty t)) off x w k
 |none,_,_,_=>False
def iA:TI->Value->Value->World->KV->Prop
 | .slc e, .slice p n _, .int _ i,w,k=>(0<=i/\i<(n:Int))/\Qv0 p fun a=>k (.pointer (some (a.add (i.toNat*ce e)))) w
 | .bar n e _, .pointer p, .int _ i,w,k=>(0<=i/\i<(n:Int))/\Qv0 p fun a=>k (.pointer (some (a.add (i.toNat*ce e)))) w
 | .arr n e _, .pointer p, .int _ i,w,k=>(0<=i/\i<(n:Int))/\Qv0 p fun a=>k (.pointer (some (a.add (i.toNat*ce e)))) w
 |_,_,_,_,_=>False
def ix:TI->Value->Value->World->KV->Prop
 | .str, .string s, .int _ i,w,k=>(0<=i/\i<(s.size:Int))/\k (.int .u8 (QQi s i)) w
 |_,_,_,_,_=>False
def evO(env:List Value):Option Operand->Option Value
 |none=>none
 |some o=>some (evL env o)
def bd:Option Value->Nat->Nat->(Nat->Prop)->Prop
 |some (.int _ i),_,y,K=>(0<=i/\i<=(y:Int))/\K i.toNat
 |none,d,_,K=>K d
 |_,_,_,_=>False
def sSb(s:ByteArray)(h:Nat)(w:World)(k:KV)(l:Nat):Prop:=k (.string (s.extract l h)) w
def sSa(s:ByteArray)(lo:Option Value)(w:World)(k:KV)(h:Nat):Prop:=bd lo 0 h (sSb s h w k)
def sCb(p:Option Addr)(c h sz:Nat)(w:World)(k:KV)(l:Nat):Prop:=k (.slice (QT0 p c l sz) (h-l) (c-l)) w
def sCa(p:Option Addr)(c sz:Nat)(lo:Option Value)(w:World)(k:KV)(h:Nat):Prop:=bd lo 0 h (sCb p c h sz w k)
def slI:TI->Value->Option Value->Option Value->World->KV->Prop
 | .str, .string s,lo,hi,w,k=>bd hi s.size s.size (sSa s lo w k)
 | .slc e, .slice p n c,lo,hi,w,k=>bd hi n c (sCa p c (ce e) lo w k)
 | .bar n e _, .pointer p,lo,hi,w,k=>Qv0 p fun a=>bd hi n n (sCa (some a) n (ce e) lo w k)
 | .arr n e _, .pointer p,lo,hi,w,k=>Qv0 p fun a=>bd hi n n (sCa (some a) n (ce e) lo w k)
 |_,_,_,_,_,_=>False
def xt:Value->Nat->World->KV->Prop
 | .tuple vs,i,w,k=>kO (gV vs.toList i) w k
 |_,_,_,_=>False
def iB:BinOp->IntKind->Int->Int->World->KV->Prop
 | .add,t,a,b,w,k=>k (.int t (t.wrap (a+b))) w
 | .sub,t,a,b,w,k=>k (.int t (t.wrap (a-b))) w
 | .mul,t,a,b,w,k=>k (.int t (t.wrap (a*b))) w
 | .quo,t,a,b,w,k=>b≠0/\k (.int t (t.wrap (a.tdiv b))) w
 | .rem,t,a,b,w,k=>b≠0/\k (.int t (a.tmod b)) w
 | .and,t,a,b,w,k=>k (.int t (QO .and t a b)) w
 | .or,t,a,b,w,k=>k (.int t (QO .or t a b)) w
 | .xor,t,a,b,w,k=>k (.int t (QO .xor t a b)) w
 | .andNot,t,a,b,w,k=>k (.int t (QO .andNot t a b)) w
 | .eql,_,a,b,w,k=>k (.bool (decide (a=b))) w
 | .neq,_,a,b,w,k=>k (.bool (!decide (a=b))) w
 | .lss,_,a,b,w,k=>k (.bool (decide (a<b))) w
 | .leq,_,a,b,w,k=>k (.bool (decide (a<=b))) w
 | .gtr,_,a,b,w,k=>k (.bool (decide (b<a))) w
 | .geq,_,a,b,w,k=>k (.bool (decide (b<=a))) w
 | .shl,_,_,_,_,_=>False
 | .shr,_,_,_,_,_=>False
def iC:Bool->BinOp->IntKind->Int->Int->World->KV->Prop
 |true,o,t,a,b,w,k=>iB o t a b w k
 |false,_,_,_,_,_,_=>False
def iD:BinOp->IntKind->IntKind->Int->Int->World->KV->Prop
 | .shl,t,_,a,b,w,k=>0<=b/\k (.int t (t.wrap (a*2^(min b.toNat t.bits)))) w
 | .shr,t,_,a,b,w,k=>0<=b/\k (.int t (a.fdiv (2^(min b.toNat t.bits)))) w
 | .add,t,u,a,b,w,k=>iC (Qa5 t u) .add t a b w k
 | .sub,t,u,a,b,w,k=>iC (Qa5 t u) .sub t a b w k
 | .mul,t,u,a,b,w,k=>iC (Qa5 t u) .mul t a b w k
 | .quo,t,u,a,b,w,k=>iC (Qa5 t u) .quo t a b w k
 | .rem,t,u,a,b,w,k=>iC (Qa5 t u) .rem t a b w k
 | .and,t,u,a,b,w,k=>iC (Qa5 t u) .and t a b w k
 | .or,t,u,a,b,w,k=>iC (Qa5 t u) .or t a b w k
 | .xor,t,u,a,b,w,k=>iC (Qa5 t u) .xor t a b w k
 | .andNot,t,u,a,b,w,k=>iC (Qa5 t u) .andNot t a b w k
 | .eql,t,u,a,b,w,k=>iC (Qa5 t u) .eql t a b w k
 | .neq,t,u,a,b,w,k=>iC (Qa5 t u) .neq t a b w k
 | .lss,t,u,a,b,w,k=>iC (Qa5 t u) .lss t a b w k
 | .leq,t,u,a,b,w,k=>iC (Qa5 t u) .leq t a b w k
 | .gtr,t,u,a,b,w,k=>iC (Qa5 t u) .gtr t a b w k
 | .geq,t,u,a,b,w,k=>iC (Qa5 t u) .geq t a b w k
def sB:BinOp->ByteArray->ByteArray->World->KV->Prop
 | .add,a,b,w,k=>((a.size+b.size:Nat):Int)<=IntKind.i64.max/\k (.string (a++b)) w
 | .eql,a,b,w,k=>k (.bool (decide (a=b))) w
 | .neq,a,b,w,k=>k (.bool (!decide (a=b))) w
 | .lss,a,b,w,k=>k (.bool (Op.bytesLess a.toList b.toList)) w
 | .leq,a,b,w,k=>k (.bool (Op.bytesLess a.toList b.toList||decide (a=b))) w
 | .gtr,a,b,w,k=>k (.bool (!(Op.bytesLess a.toList b.toList||decide (a=b)))) w
 | .geq,a,b,w,k=>k (.bool (!(Op.bytesLess a.toList b.toList))) w
 |_,_,_,_,_=>False
def qB:BinOp->Bool->World->KV->Prop
 | .eql,b,w,k=>k (.bool b) w
 | .neq,b,w,k=>k (.bool (!b)) w
 |_,_,_,_=>False
def isC:Operand->Bool
 | .const _=>true
 | .tmp _=>false| .global _=>false| .func _=>false
def qM(t:Nat)(x y:Value)(w:World)(κ:KV):BinOp->Prop
 | .eql=>∃b:Bool,QBh Tryz.prog t x y w b/\κ (.bool b) w
 | .neq=>∃b:Bool,QBh Tryz.prog t x y w b/\κ (.bool (!b)) w
 |_=>False
def bO(t:Nat):TI->Bool->BinOp->Value->Value->World->KV->Prop
 | .int _,_,o, .int k a, .int l b,w,κ=>iD o k l a b w κ
 | .str,_,o, .string a, .string b,w,κ=>sB o a b w κ
 | .bool,_,o, .bool a, .bool b,w,κ=>qB o (a==b) w κ
 | .ptr _,true,o, .pointer p, .pointer none,w,κ=>qB o p.isNone w κ
 | .slc _,true,o, .slice p _ _, .slice none _ _,w,κ=>qB o p.isNone w κ
 | .map _ _,true,o, .map p, .map none,w,κ=>qB o p.isNone w κ
 | .st _ _,false,o,x,y,w,κ=>qM t x y w κ o
 | .arr _ _ _,false,o,x,y,w,κ=>qM t x y w κ o
 | .ptr _,false,o,x,y,w,κ=>qM t x y w κ o
 |_,_,_,_,_,_,_=>False
def uO:UnOp->Value->World->KV->Prop
 | .neg, .int t n,w,k=>k (.int t (t.wrap (0-n))) w
 | .xor, .int t n,w,k=>k (.int t (QO .xor t (if t.signed then-1 else t.max) n)) w
 | .not, .bool b,w,k=>k (.bool (!b)) w
 |_,_,_,_=>False
def rTf(s:Sem Value)(w:World)(k:KV)(v:Value):Prop:=∃w',s.run Tryz.prog w= .ok v w'/\k v w'
def rT(t:Nat)(s:Sem Value)(w:World)(k:KV):Prop:=eT t (rTf s w k)
def cO(s d:Nat):TI->TI->Value->World->KV->Prop
 | .int _, .int t, .int _ n,w,k=>k (.int t (t.wrap n)) w
 | .str, .str, .string s,w,k=>k (.string s) w
 | .slc e, .str, .slice p n c,w,k=>cOb (ty e) (.slice p n c) w k
 | .str, .slc _, .string x,w,k=>rT d (convert s d (.string x)) w k
 |_,_,_,_,_=>False
where cOb:TI->Value->World->KV->Prop
 | .int .u8,x,w,k=>∃s:ByteArray,Qyc Tryz.prog x w s/\k (.string s) w
 |_,_,_,_=>False
def leP:TI->World->KV->Prop
 | .arr n _ _,w,k=>k (.int .i64 n) w
 | .bar n _ _,w,k=>k (.int .i64 n) w
 |_,_,_=>False
def le:TI->Value->World->KV->Prop
 | .str, .string s,w,k=>k (.int .i64 s.size) w
 | .slc _, .slice _ n _,w,k=>k (.int .i64 n) w
 | .map _ _,m,w,k=>∃n:Nat,QWc w m n/\k (.int .i64 n) w
 | .arr n _ _,_,w,k=>k (.int .i64 n) w
 | .bar n _ _,_,w,k=>k (.int .i64 n) w
 | .ptr e,_,w,k=>leP (ty e) w k
 |_,_,_,_=>False
def mM:Bool->List Value->World->KV->Prop
 |true,[.int t x, .int _ y],w,k=>k (.int t (if y<x then y else x)) w
 |false,[.int t x, .int _ y],w,k=>k (.int t (if x<y then y else x)) w
 |_,_,_,_=>False
def cnO(v:Value):Option (List Value)->Option (List Value)
 |some l=>some (v::l)
 |none=>none
def spl:List Value->Nat->List Value->Option (List Value)
 |l,0,[]=>some l
 |x::l,0,v::vs=>cnO v (spl l 0 vs)
 |x::l,n+1,vs=>cnO x (spl l n vs)
 | [],_+1,_=>none
 | [],0,_::_=>none
def pO:TI->Nat->Option (Nat×Nat)
 | .st fs _,i=>pOb (gP fs i)
 | .bst fs _,i=>pOb (gP fs i)
 | .arr _ e _,i=>some (i*ce e,ce e)
 | .bar _ e _,i=>some (i*ce e,ce e)
 |_,_=>none
where pOb:Option (Nat×Nat)->Option (Nat×Nat)
 |some (a,t)=>some (a,ce t)
 |none=>none
def fiB:Bool->Option (List Value)->Option (List Value)
 |true,l=>l
 |false,_=>none
def fiC(l vs:List Value):Option (Nat×Nat)->Option (List Value)
 |some (off,sz)=>fiB (lnV vs==sz) (spl l off vs)
 |none=>none
def fi(t:TI)(env:List Value):List (Nat×Operand)->Option (List Value)->Option (List Value)
 | [],l=>l
 |(i,o)::r,some l=>fi t env r (fiC l (cls (evL env o)) (pO t i))
 |_::_,none=>none
def fS(c:Nat)(env:List Value):List (Nat×Operand)->Option (List Value)->Option (List Value)
 | [],l=>l
 |(i,o)::r,some l=>fS c env r (fiC l (cls (evL env o)) (some (i*c,c)))
 |_::_,none=>none
def kL(w:World)(k:KV):Option (List Value)->Prop
 |some l=>k (.agg l.toArray) w
 |none=>False
def isA:TI->Bool
 | .st _ _=>true| .arr _ _ _=>true| .bst _ _=>true| .bar _ _ _=>true
 |_=>false
def bl1(t:Nat)(env:List Value)(ps:List (Nat×Operand))(w:World)(k:KV):Bool->Prop
 |true=>kL w k (fi (ty t) env ps (some (ze t)))
 |false=>False
def bl(t:Nat)(env:List Value)(ps:List (Nat×Operand))(w:World)(k:KV):Prop:=bl1 t env ps w k (isA (ty t))
def rp(z:List Value):Nat->List Value
 |0=>[]
 |n+1=>ap z (rp z n)
def nw(w:World)(o:Obj)(k:Nat->World->Prop):Prop:=∀(b:Nat)(w':World),QG w b o w'->k b w'
def kP(k:KV)(b:Nat)(w:World):Prop:=k (.pointer (some (at0 b))) w
def kS(k:KV)(n c:Nat)(b:Nat)(w:World):Prop:=k (.slice (some (at0 b)) n c) w
def kM(k:KV)(b:Nat)(w:World):Prop:=k (.map (some b)) w
def bSb(e n:Nat)(w:World)(k:KV):Option (List Value)->Prop
 |some l=>nw w (.cells l.toArray e) (kS k n n)
 |none=>False
def bSa(e n:Nat)(env:List Value)(ps:List (Nat×Operand))(w:World)(k:KV):Bool->Prop
 |true=>bSb e n w k (fS (ce e) env ps (some (rp (ze e) n)))
 |false=>False
def bS:TI->Nat->List Value->List (Nat×Operand)->World->KV->Prop
 | .slc e,n,env,ps,w,k=>bSa e n env ps w k (n*ce e-65536==0)
 |_,_,_,_,_,_=>False
def mS:TI->Value->Value->World->KV->Prop
 | .slc e, .int _ l, .int _ c,w,k=>(0<=l/\l<=c/\c*((gN bys e:Nat):Int)<=2^48)/\nw w (.cells (QK Tryz.prog e c.toNat) e) (kS k l.toNat c.toNat)
 |_,_,_,_,_=>False
def okT:TI->Bool
 | .non=>false| .oth=>false
 | .fn=>true| .ifc=>true| .int _=>true| .bool=>true| .str=>true| .ptr _=>true| .slc _=>true| .map _ _=>true
 | .arr _ _ _=>true| .st _ _=>true| .bst _ _=>true| .bar _ _ _=>true
def QFk(a:Prop):Bool->Prop
 |true=>a
 |false=>False
def stR(p:Addr)(k:KV):List Value->Nat->World->Prop
 | [],_,w=>k undef w
 |v::vs,i,w=>QD w (adO p i)/\Q9 (Qf3 v) (∀w',Qt w (adO p i) v w'->stR p k vs (i+1) w') False
def soP(l:List Value)(w:World)(k:KV)(p:Addr):Prop:=stR p k l 0 w
def soB(l:List Value)(w:World)(k:KV):Value->Prop
 | .pointer p=>Qv0 p fun p=>stR p k l 0 w
 |_=>False
def so(l:List Value)(x:Value)(w:World)(k:KV)(b:Bool):Prop:=QFk (soB l w k x) b
def rA(e:Ending)(w:World)(k:KV)(v:Value):Prop:=e= .returned v/\k v w
def rBb(e:Ending)(w:World)(k:KV)(v x:Value):Prop:=e= .returned (.tuple #[v,x])/\k (.tuple #[v,x]) w
def rB(e:Ending)(w:World)(k:KV)(u:Nat)(v:Value):Prop:=eT u (rBb e w k v)
def rCc(e:Ending)(w:World)(k:KV)(v x y:Value):Prop:=e= .returned (.tuple #[v,x,y])/\k (.tuple #[v,x,y]) w
def rCb(e:Ending)(w:World)(k:KV)(s:Nat)(v x:Value):Prop:=eT s (rCc e w k v x)
def rC(e:Ending)(w:World)(k:KV)(u s:Nat)(v:Value):Prop:=eT u (rCb e w k s v)
def cl:List Nat->Nat->List Value->World->KV->Prop
 | [],f,args,w,k=>Calls Tryz.prog f args.toArray w fun e w'=>e= .returned (.tuple #[])/\k (.tuple #[]) w'
 | [t],f,args,w,k=>Calls Tryz.prog f args.toArray w fun e w'=>eT t (rA e w' k)
 | [t,u],f,args,w,k=>Calls Tryz.prog f args.toArray w fun e w'=>eT t (rB e w' k u)
 | [t,u,s],f,args,w,k=>Calls Tryz.prog f args.toArray w fun e w'=>eT t (rC e w' k u s)
 |_,_,_,_,_=>False
def cv:Value->List Value->World->KV->Prop
 | .func (.func f) first captured,args,w,k=>cl (gL rts f) f (ap first.toList (ap args captured.toList)) w k
 |_,_,_,_=>False
def rU(s:Sem Unit)(w:World)(k:KV):Prop:=∃w',s.run Tryz.prog w= .ok () w'/\k undef w'
def lkf(t:Nat)(m key:Value)(ok:Bool)(w:World)(k:KV)(v:Value):Prop:=∃b:Bool,QYh Tryz.prog t m key w v b/\k (QWh ok v b) w
def lk(t:Nat):TI->Value->Value->Bool->World->KV->Prop
 | .map _ e,m,key,ok,w,k=>eT e (lkf t m key ok w k)
 |_,_,_,_,_,_=>False
def eNb(it:Value)(w:World)(k:KV)(a v:Value):Prop:=entryAt Tryz.prog it w a v/\k (.tuple #[a,v]) w
def xO:Option Nat->(Value->Prop)->Prop
 |some t,F=>eT t F
 |none,F=>∃v:Value,F v
def eNa(t:Option Nat)(it:Value)(w:World)(k:KV)(a:Value):Prop:=xO t (eNb it w k a)
def mef(t:Nat)(m key:Value)(w:World)(k:KV)(v:Value):Prop:=∃(n:Int)(w':World),(Instr.mapEntry t m key).run Tryz.prog w= .ok (.tuple #[v, .int .i64 n]) w'/\k (.tuple #[v, .int .i64 n]) w'
def me(t:Nat):TI->Value->Value->World->KV->Prop
 | .map _ e,m,key,w,k=>eT e (mef t m key w k)
 |_,_,_,_,_=>False
def xTb(ty:Nat)(r:Option Nat):Bool->Bool->Option Nat
 |true,true=>some ty
 |true,false=>r|false,_=>r
def xT(d i:Nat):List Oper->Option Nat
 | []=>none
 |⟨_, .extract (.tmp t) j,ty,_,_,_⟩::l=>xTb ty (xT d i l) (t==d) (i==j)
 |⟨_, .move _,_,_,_,_⟩::l=>xT d i l|⟨_, .assign _,_,_,_,_⟩::l=>xT d i l|⟨_, .entry _,_,_,_,_⟩::l=>xT d i l
 |_::l=>xT d i l
def rg:TI->Value->World->KV->Prop
 | .map _ _, .map r,w,k=>∃es c,QFj w r es c/\nw w (.mapIter r c #[] c) (kP k)
 |_,_,_,_=>False
def nx:Value->World->KV->Prop
 | .pointer p,w,k=>Qv0 p fun p=>Q2e w p (fun a v w'=>k (.tuple #[.bool true,a,v]) w') (fun w'=>k (.tuple #[.bool false]) w')
 |_,_,_=>False
def eN(ops:List Oper)(it:Value)(w:World)(k:KV):Option Nat->Prop
 |some d=>xO (xT d 0 ops) (eNa (xT d 1 ops) it w k)
 |none=>False
def op(ops:List Oper)(dst:Option Nat)(tr:Nat)(env:List Value)(w:World)(k:KV):Op->Prop
 | .move x=>k (evL env x) w
 | .assign x=>k (evL env x) w
 | .pick c a b=>pk (evL env c) (evL env a) (evL env b) w k
 | .nilCheck x=>nlC (evL env x) w k
 | .fieldAddr s x i=>fA (flO (ty s) i) (evL env x) w k
 | .field s x i=>fE (flO (ty s) i) (evL env x) w k
 | .indexAddr t x i=>iA (ty t) (evL env x) (evL env i) w k
 | .index t x i=>ix (ty t) (evL env x) (evL env i) w k
 | .slice t x lo hi none=>slI (ty t) (evL env x) (evO env lo) (evO env hi) w k
 | .extract x i=>xt (evL env x) i w k
 | .binOp o t x y _=>bO t (ty t) (isC y) o (evL env x) (evL env y) w k
 | .unOp o _ x=>uO o (evL env x) w k
 | .convert s d x=>cO s d (ty s) (ty d) (evL env x) w k
 | .makeFunc fn first captured=>k (.func fn (evs env first.toList).toArray (evs env captured.toList).toArray) w
 | .build t parts=>bl t env parts.toList w k
 | .load t a=>ld t (evL env a) w k
 | .lookup t m key ok=>lk t (ty t) (evL env m) (evL env key) ok w k
 | .entry it=>eN ops (evL env it) w k dst
 | .store t a v=>so (cls (evL env v)) (evL env a) w k (aB (okT (ty t)) (lnV (cls (evL env v))==ce t))
 | .alloc t=>QFk (nw w (.cells (ze t).toArray t) (kP k)) (okT (ty t))
 | .box t v=>nw w (.cells (cls (evL env v)).toArray t) (kP k)
 | .buildSlice t n parts=>bS (ty t) n env parts.toList w k
 | .makeMap _ none=>nw w (.map #[] 0) (kM k)
 | .makeSlice t l c=>mS (ty t) (evL env l) (evL env c) w k
 | .call ⟨.value f,args,_⟩=>cv (evL env f) (evs env args.toList) w k
 | .call ⟨.builtin .len,⟨[x]⟩,⟨[t]⟩⟩=>le (ty t) (evL env x) w k
 | .call ⟨.builtin .min,args,_⟩=>mM true (evs env args.toList) w k
 | .call ⟨.builtin .max,args,_⟩=>mM false (evs env args.toList) w k
 | .call ⟨.builtin .append,args,ts⟩=>rT tr (Builtin.append_ ts tr (evs env args.toList).toArray) w k
 | .call ⟨.builtin .copy,args,ts⟩=>rT tr (Builtin.copy_ ts tr (evs env args.toList).toArray) w k
 | .call ⟨.builtin .delete,args,ts⟩=>rT tr (Builtin.delete_ ts tr (evs env args.toList).toArray) w k
 | .call ⟨.builtin .clear,args,ts⟩=>rT tr (Builtin.clear_ ts tr (evs env args.toList).toArray) w k
 | .mapUpdate t m key v=>rU (Instr.mapUpdate t (evL env m) (evL env key) (evL env v)) w k
 | .mapEntry t m key=>me t (ty t) (evL env m) (evL env key) w k
 | .entryStore t m s v=>rU (Instr.entryStore t (evL env m) (evL env s) (evL env v)) w k
 | .insert t m key v=>rU (Instr.mapUpdate t (evL env m) (evL env key) (evL env v)) w k
 | .range t x=>rg (ty t) (evL env x) w k
 | .next it false=>nx (evL env it) w k
 | .makeInterface _ _=>False
 | .panic _=>False
 |_=>False
def gdB(r:Bool)(i:Nat):Option (Nat×Bool)->Bool
 |none=>r
 |some (j,_)=>oB (j==i) r
def gdL(i:Nat):List Oper->Bool
 | []=>false
 |⟨_,_,_,_,_,g⟩::l=>gdB (gdL i l) i g
def kp(dst:Option Nat)(env:List Value)(κ:KE):Bool->KV
 |false,v,w=>κ (QR2 env dst v) w
 |true, .bool c,w=>Q9 c (κ (QR2 env dst (.bool true)) w) (κ (QR2 env dst (.bool false)) w)
 |true,v,w=>κ (QR2 env dst v) w
def wd:Value->Bool->Bool
 | .bool true,true=>true
 | .bool false,false=>true
 | .bool true,false=>false
 | .bool false,true=>false
 |_,_=>false
theorem wdu(b:Bool):wd undef b=false:=(rfl)
def wG(env:List Value)(b:Bool):Option Nat->Bool
 |some d=>wd (Qy env d) b
 |none=>false
def oD(g:Bool)(ops:List Oper)(dst:Option Nat)(o:Op)(t:Nat)(env:List Value)(w:World)(κ:KE):Bool->Prop
 |true=>op ops dst t env w (kp dst env κ g) o
 |false=>κ (QR2 env dst undef) w
def oC(g:Bool)(ops:List Oper)(dst:Option Nat)(o:Op)(t:Nat)(env:List Value)(w:World)(κ:KE):Option (Nat×Bool)->Prop
 |none=>op ops dst t env w (kp dst env κ g) o
 |some (j,b)=>oD g ops dst o t env w κ (wG env b (gD ops j))
def oA(g:Bool)(ops:List Oper)(env:List Value)(w:World)(κ:KE):Oper->Prop
 |⟨dst,o,t,_,_,gu⟩=>oC g ops dst o t env w κ gu
def sq(K:KE)(ops:List Oper):List Oper->Nat->List Value->World->Prop
 | [],_,env,w=>K env w
 |o::r,i,env,w=>oA (gdL i ops) ops env w (sq K ops r (i+1)) o
inductive Pl|d|x|r (l:List Nat) (n:Pl)|e (i:Nat) (st:List Nat) (n m:Pl)
def eqK(u:Value)(v:Value)(_:World):Prop:=v=u
def sbB(ops:List Oper)(env:List Value)(w:World)(N:Prop)(d:Nat)(o:Op)(t:Nat):Bool->Prop
 |true=>op ops (some d) t env w (eqK (Qy env d)) o/\N
 |false=>N
def sbA(ops:List Oper)(env:List Value)(w:World)(N:Prop):Oper->Prop
 |⟨some d,o,t,_,_,none⟩=>op ops (some d) t env w (eqK (Qy env d)) o/\N
 |⟨some d,o,t,_,_,some (j,b)⟩=>sbB ops env w N d o t (wG env b (gD ops j))
 |⟨none,_,_,_,_,_⟩=>False
def sb(κ:KE)(ops:List Oper):List Nat->List Value->World->Prop
 | [],env,w=>κ env w
 |j::l,env,w=>sbA ops env w (sb κ ops l env w) (gO ops j)
def dR(κ:KE)(ops:List Oper):List Nat->List Value->World->Prop
 | [],env,w=>κ env w
 |i::l,env,w=>oA (gdL i ops) ops env w (dR κ ops l) (gO ops i)
def cj(a b:Prop):Pl->Prop
 | .x=>a
 | .d=>a/\b| .r _ _=>a/\b| .e _ _ _ _=>a/\b
def dp(K:KE)(ops:List Oper):Pl->List Value->World->Prop
 | .d,env,w=>K env w
 | .x,_,_=>True
 | .r l n,env,w=>dR (dp K ops n) ops l env w
 | .e i s n m,env,w=>cj (oA (gdL i ops) ops env w (sb (dp K ops n) ops s) (gO ops i)) (dp K ops m env w) m
def gPb:Bool->Pl->Pl->Pl
 |true,p,_=>p
 |false,_,q=>q
def gPl:List (Nat×Pl)->Nat->Pl
 | [],_=> .d
 |(j,p)::l,i=>gPb (j==i) p (gPl l i)
def thN(next:KE)(Q:Exit->KE):Exit->KE
 | .normal,env,w=>next env w
 | .ret,env,w=>Q .ret env w
 | .exit i,env,w=>Q (.exit i) env w
 | .goto i,env,w=>Q (.goto i) env w
 |_,_,_=>False
def bkB(Q:Exit->KE)(i:Nat)(env:List Value)(w:World):Bool->Prop
 |true=>Q .normal env w
 |false=>Q (.exit i) env w
def bkN(id:Nat)(Q:Exit->KE):Exit->KE
 | .exit i,env,w=>bkB Q i env w (i==id)
 | .normal,env,w=>Q .normal env w
 | .ret,env,w=>Q .ret env w
 | .goto i,env,w=>Q (.goto i) env w
 |_,_,_=>False
def scN(Q:Exit->KE):Exit->KE
 | .exit i,env,w=>Q (.exit i) env w
 | .normal,env,w=>Q .normal env w
 | .ret,env,w=>Q .ret env w
 |_,_,_=>False
def hS:TI->Value->Bool
 | .int k, .int k' _=>Qa5 k k'
 | .bool, .bool _=>true
 | .str, .string _=>true
 | .ptr _, .pointer _=>true
 | .slc _, .slice _ _ _=>true
 | .map _ _, .map _=>true
 | .fn,_=>true
 | .ifc,_=>true
 | .oth,_=>true
 | .bst _ _,_=>true
 | .bar _ _ _,_=>true
 | .st _ _,_=>true
 | .arr _ _ _,_=>true
 |_,_=>false
def hL:List Nat->List Value->Bool
 | [],[]=>true
 |t::ts,v::vs=>aB (hS (ty t) v) (hL ts vs)
 |_,_=>false
def fSa:TI->(Value->Prop)->Prop
 | .non,_=>False
 | .int k,F=>∀n:Int,F (.int k n)
 | .bool,F=>∀b:Bool,F (.bool b)
 | .str,F=>∀s:ByteArray,F (.string s)
 | .ptr _,F=>∀p:Option Addr,F (.pointer p)
 | .slc _,F=>∀(p:Option Addr)(n c:Nat),F (.slice p n c)
 | .map _ _,F=>∀r:Option Nat,F (.map r)
 | .oth,F=>∀v:Value,F v
 | .fn,F=>∀v:Value,F v
 | .ifc,F=>∀v:Value,F v
 | .st _ _,F=>∀v:Value,F v
 | .arr _ _ _,F=>∀v:Value,F v
 | .bst _ _,F=>∀v:Value,F v
 | .bar _ _ _,F=>∀v:Value,F v
def fL(F:List Value->Prop):List Nat->List Value->Prop
 | [],acc=>F (rv acc [])
 |t::ts,acc=>fSa (ty t) (eRf (fL F ts) acc)
def fJ(F:List Value->Prop):List Nat->List Value->Prop
 | [],acc=>F (rv acc [])
 |_::ts,acc=>∀v:Value,fJ F ts (v::acc)
def lsS:List Nat->List Value->List Value->List Value
 | [],_,env=>env
 |i::is,v::vs,env=>lsS is vs (Qv9 env i v)
 |_::_,[],env=>env
abbrev TIn:=List Value->World->List Value->World->Prop
abbrev TMu:=List Value->World->List Value->World->Nat
def lpD(env env':List Value)(w w' w'':World)(lv:List Nat)(vs:List Value)(inv:TIn)(mu:TMu):Bool->Prop
 |true=>inv env w (Q4 env' lv) w''/\mu env w (Q4 env' lv) w''<mu env w vs w'
 |false=>False
def lpE(Q:Exit->KE)(env:List Value)(w w':World)(lv ts:List Nat)(vs:List Value)(inv:TIn)(mu:TMu):Exit->KE
 | .normal,env',w''=>lpD env env' w w' w'' lv vs inv mu (hL ts (Q4 env' lv))
 | .ret,env',w''=>Q .ret env' w''
 | .exit i,env',w''=>Q (.exit i) env' w''
 | .goto i,env',w''=>Q (.goto i) env' w''
 |_,_,_=>False
def lpJ(C:(Exit->KE)->KE)(Q:Exit->KE)(env:List Value)(w w':World)(lv ts jk:List Nat)(vs:List Value)(inv:TIn)(mu:TMu)(js:List Value):Prop:=
 C (thN (lpE Q env w w' lv ts vs inv mu .normal) Q) (lsS jk js (lsS lv vs env)) w'
def lpB(C:(Exit->KE)->KE)(Q:Exit->KE)(env:List Value)(w:World)(lv ts jk:List Nat)(inv:TIn)(mu:TMu)(vs:List Value):Prop:=
 ∀w',inv env w vs w'->fJ (lpJ C Q env w w' lv ts jk vs inv mu) jk []
def anB:Bool->Qa1->Qa1->Qa1
 |true,a,_=>a
 |false,_,b=>b
def an(q:Nat)(a:Qa1)(r:Nat->Qa1)(p:Nat):Qa1:=anB (p==q) a (r p)
def na(_:Nat):Qa1:=Qea
def lpC(C:(Exit->KE)->KE)(Q:Exit->KE)(env:List Value)(w:World)(lv ts jk:List Nat)(inv:TIn)(mu:TMu):Bool->Prop
 |true=>inv env w (Q4 env lv) w/\fL (lpB C Q env w lv ts jk inv mu) ts []
 |false=>False
def lp(C:(Exit->KE)->KE)(Q:Exit->KE)(env:List Value)(w:World):Qa1->Prop
 |⟨lv,ts,jk,inv,mu⟩=>lpC C Q env w lv ts jk inv mu (hL ts (Q4 env lv))
def cd2(T E:(Exit->KE)->KE)(Q:Exit->KE)(env:List Value)(w:World):Value->Prop
 | .bool b=>Q9 b (T Q env w) (E Q env w)
 |_=>False
def cd(A:Nat->Qa1)(D:List (Nat×Pl)):Code->Nat->(Exit->KE)->KE
 | .skip,_,Q,env,w=>Q .normal env w
 | .region _ ops false,_,Q,env,w=>sq (Q .normal) ops.toList ops.toList 0 env w
 | .region i ops true,_,Q,env,w=>∀w',QX7 w w'->dp (Q .normal) ops.toList (gPl D i) env w'
 | .seq a b,p,Q,env,w=>cd A D a (4*p) (thN (cd A D b (4*p+1) Q) Q) env w
 | .cond c a b,p,Q,env,w=>cd2 (cd A D a (4*p+2)) (cd A D b (4*p+3)) Q env w (evL env c)
 | .block id b,p,Q,env,w=>cd A D b (4*p) (bkN id Q) env w
 | .loop b,p,Q,env,w=>lp (cd A D b (4*p)) Q env w (A p)
 | .exit id,_,Q,env,w=>Q (.exit id) env w
 | .scope b,p,Q,env,w=>cd A D b (4*p) (scN Q) env w
 | .label _,_,Q,env,w=>Q .normal env w
 | .ret,_,Q,env,w=>Q .ret env w
 |_,_,_,_,_=>False
def rsf(r:List Value->Prop)(acc:List Value)(v:Value)(_:World):Prop:=r (v::acc)
def onA:List Value->Value
 | [v]=>v
 | []=> .tuple #[]
 | [a,b]=> .tuple #[a,b]
 | [a,b,c]=> .tuple #[a,b,c]
 |vs=> .tuple vs.toArray
def rs(R:KV)(w:World)(env:List Value):List ResultVar->List Value->Prop
 | [],acc=>R (onA (rv acc [])) w
 | .tmp t::l,acc=>rs R w env l (Qy env t::acc)
 | .cell a t::l,acc=>ld t (Qy env a) w (rsf (rs R w env l) acc)
def rtN(l:List ResultVar)(R:KV):Exit->KE
 | .normal,env,w=>rs R w env l []
 | .ret,env,w=>rs R w env l []
 |_,_,_=>False
def ud:Nat->List Value
 |0=>[]
 |n+1=>undef::ud n
theorem Qdg(a:Addr)(F:Addr->Prop):Qv0 (some a) F=F a:=(rfl)
theorem Qcg(F:Addr->Prop):Qv0 none F=False:=(rfl)
theorem QBd(T E:Prop):Q9 true T E=T:=(rfl)
theorem Qib(T E:Prop):Q9 false T E=E:=(rfl)
theorem tl{α:Type}(l:List α):l.toArray.toList=l:=(rfl)
theorem sc1(k:IntKind)(n:Int):Qf3 (.int k n)=true:=(rfl)
theorem sc2(b:Bool):Qf3 (.bool b)=true:=(rfl)
theorem sc3(b:ByteArray):Qf3 (.string b)=true:=(rfl)
theorem sc4(p:Option Addr):Qf3 (.pointer p)=true:=(rfl)
theorem sc5(p:Option Addr)(n c:Nat):Qf3 (.slice p n c)=true:=(rfl)
theorem sc6(p:Option Nat):Qf3 (.map p)=true:=(rfl)
theorem sc7(f:Fn)(a b:Array Value):Qf3 (.func f a b)=true:=(rfl)
theorem sc8:Qf3 .nilFunc=true:=(rfl)
theorem sc9:Qf3 .nilIface=true:=(rfl)
def Q8i:TypeDesc->Bool
 | .int _=>false| .bool=>false| .string=>false| .pointer _=>false| .slice _=>false| .map _ _=>false| .struct _=>false| .array _ _=>false
 |_=>true
def uC:TI->Option TypeDesc->Bool
 | .non,_=>true
 | .oth,none=>true
 | .oth,some d=>Q8i d
 | .fn,some d=>Q8i d
 | .ifc,some d=>Q8i d
 | .int k,some (.int k')=>Qa5 k k'
 | .bool,some .bool=>true
 | .str,some .string=>true
 | .ptr e,some (.pointer e')=>e==e'
 | .slc e,some (.slice e')=>e==e'
 | .map _ e,some (.map _ e')=>e==e'
 | .arr n e _,some (.array n' e')=>n==n'&&e==e'
 | .bar n e _,some (.array n' e')=>n==n'&&e==e'
 | .st fs _,some (.struct fs')=>fs'.toList.map (fun f=>(f.offset,f.type))==fs
 | .bst fs _,some (.struct fs')=>fs'.toList.map (fun f=>(f.offset,f.type))==fs
 |_,_=>false
noncomputable def okE(e:Nat):Bool:=(Tryz.prog.underlying e).isSome&&(Tryz.prog.info? e).isSome&&Tryz.prog.cellsOf e==ce e
noncomputable def okZ(e:Nat):Bool:=(Qo1 Tryz.prog e).isSome&&(Qc Tryz.prog e).length==Tryz.prog.cellsOf e
noncomputable def tyC(t:Nat):TI->Bool
 | .oth=>true
 | .non=>true
 | .slc e=>okE t&&okZ t&&okE e&&okZ e&& !(Tryz.prog.bytesOf e==0)&&Tryz.prog.bytesOf e==gN bys e
 | .arr _ e fl=>okE t&&okZ t&&okE e&&fl==Qah Tryz.prog 8 t
 | .bar _ e _=>okE t&&okZ t&&okE e
 | .st fs fl=>okE t&&okZ t&&fl==Qah Tryz.prog 8 t&&fs.all fun f=>okE f.2&& !(Tryz.prog.cellsOf f.2==0)
 | .bst fs _=>okE t&&okZ t&&fs.all fun f=>okE f.2&& !(Tryz.prog.cellsOf f.2==0)
 |_=>okE t&&okZ t
theorem QOm:((List.range tys.length).all fun t=>uC (ty t) (Tryz.prog.underlying t)&&tyC t (ty t))=true:=by kernel_rfl
theorem QPm:(List.range tys.length).map (Qc Tryz.prog)=(List.range tys.length).map ze:=by kernel_rfl
theorem QIm:((List.range rts.length).all fun f=>match Tryz.prog.funcs[f]? with
  |some fn=>match fn.body.isSome with
   |true=>fn.resultTypes.toList==gL rts f
   |false=>gL rts f==[0,0,0,0,0]
  |none=>false)=true:=by kernel_rfl
theorem QLf:∀(l:List TI)(t:Nat),l.length<=t->gT l t= .non
 | [],_,_=>by simp[gT]
 |_::_,0,h=>by simp at h
 |_::l,t+1,h=>by simp only[gT];exact QLf l t (by simpa using h)
theorem tyF(t:Nat):uC (ty t) (Tryz.prog.underlying t)=true/\tyC t (ty t)=true:=by
 by_cases h:t<tys.length
 ·have:=(List.all_eq_true.1 QOm) t (List.mem_range.2 h)
  simpa using this
 ·have a:ty t= .non:=QLf _ _ (by omega)
  rw[a];exact⟨rfl,rfl⟩
theorem zeF(t:Nat):ze t=Qc Tryz.prog t:=by
 by_cases h:t<tys.length
 ·have:=congrArg (fun l=>l[t]?) QPm
  simp[h]at this;exact this.symm
 ·have a:ty t= .non:=QLf _ _ (by omega)
  simp[ze,a,zO]
theorem Qcc{a b:IntKind}(h:Qa5 a b=true):a=b:=by
 cases a<;>cases b<;>first|rfl|cases h
end Go.Nf
