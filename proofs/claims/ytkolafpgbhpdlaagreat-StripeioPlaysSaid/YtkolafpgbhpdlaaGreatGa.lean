import Derived.Test.YtkolafpgbhpdlaaGreatNfD
import Derived.Test.YtkolafpgbhpdlaaGreatRep
import Derived.Test.YtkolafpgbhpdlaaGreatGe
set_option linter.unusedSimpArgs false
set_option linter.defProp false
set_option maxRecDepth 100000
set_option maxHeartbeats 4000000
namespace Go.Proofs.YtkolafpgbhpdlaaGreat
open Go Go.Vc Go.Nf
open Go.IntKind (i64)
open Go.Value (int)
open Go.Proofs.Tryz (prog)
section
variable (r1:Option Nat)(r2:Option Nat)(w:World)(R:φ)(I0:σ->World->ψ)(M0:σ->World->World->Nat)
def F165_calls:=nfm Tryz.func165 [.map r1, .map r2] (an 20 ⟨[],[],[4,5,8,9,10,11,12,13,14,15],fun e0 w0 vs w1=>match Q4 e0 [7],vs with| [.pointer f7],[]=>I0 f7 w0 w1|_,_=>False,fun e0 w0 vs w1=>match Q4 e0 [7],vs with| [.pointer f7],[]=>M0 f7 w0 w1|_,_=>0⟩<|na) [] 16 w R
end
section
variable (p1:σ)(l1 c1:Nat)(n2:Int)(w:World)(R:φ)
def F66_calls:=nfm Tryz.func66 [.slice p1 l1 c1,int i64 n2] (na) [] 9 w R
end
section
variable (p1:σ)(l1 c1:Nat)(n2:Int)(w:World)(R:φ)(I0:Int->World->Int->ψ)(M0:Int->World->Int->World->Nat)
def F105_calls:=nfm Tryz.func105 [.slice p1 l1 c1,int i64 n2] (an 324 ⟨[8],[3],[4,5,9,10,11,12,13,14,15,16,17,18],fun e0 w0 vs w1=>match Q4 e0 [7],vs with| [int i64 f3],[int i64 n20]=>I0 f3 w0 n20 w1|_,_=>False,fun e0 w0 vs w1=>match Q4 e0 [7],vs with| [int i64 f3],[int i64 n20]=>M0 f3 w0 n20 w1|_,_=>0⟩<|na) [] 19 w R
end
section
variable (n1:Int)(n2:Int)(w:World)(R:φ)(I0:σ->Int->World->Int->ψ)(M0:σ->Int->World->Int->World->Nat)
def F10_calls:=nfm Tryz.func10 [int i64 n1,int i64 n2] (an 5444 ⟨[18],[3],[4,5,7,8,19,20,21,22,23,24,25,26,27,28,29,30,31,32,33,34,35,36,37,38,39],fun e0 w0 vs w1=>match Q4 e0 [6,17],vs with| [.pointer f5,int i64 f6],[int i64 n44]=>I0 f5 f6 w0 n44 w1|_,_=>False,fun e0 w0 vs w1=>match Q4 e0 [6,17],vs with| [.pointer f5,int i64 f6],[int i64 n44]=>M0 f5 f6 w0 n44 w1|_,_=>0⟩<|na) [] 41 w R
end
section
variable (p1:σ)(n2:Int)(w:World)(R:φ)
def F20_calls:=nfm Tryz.func20 [.pointer p1,int i64 n2] (na) [] 29 w R
end
section
variable (p1:σ)(n2:Int)(w:World)(R:φ)
def F21_calls:=nfm Tryz.func21 [.pointer p1,int i64 n2] (na) [] 29 w R
end
section
variable (p1:σ)(n2:Int)(n3:Int)(n4:Int)(n5:Int)(w:World)(R:φ)
def F22_calls:=nfm Tryz.func22 [.pointer p1,int i64 n2,int i64 n3,int i64 n4, .int .u8 n5] (na) [] 27 w R
end
section
variable (p1:σ)(n2:Int)(w:World)(R:φ)
def F24_calls:=nfm Tryz.func24 [.pointer p1,int i64 n2] (na) [] 18 w R
end
section
variable (p1:σ)(n2:Int)(w:World)(R:φ)
def F26_calls:=nfm Tryz.func26 [.pointer p1,int i64 n2] (na) [] 18 w R
end
section
variable (p1:σ)(n2:Int)(w:World)(R:φ)
def F43_calls:=nfm Tryz.func43 [.pointer p1,int i64 n2] (na) [] 20 w R
end
section
variable (p1:σ)(w:World)(R:φ)(I0:σ->Nat->Nat->Int->World->σ->Nat->Nat->Int->ψ)(M0:σ->Nat->Nat->Int->World->σ->Nat->Nat->Int->World->Nat)
def F56_calls:=nfm Tryz.func56 [.pointer p1] (an 1348 ⟨[2,12],[116,3],[4,13,14,15,16,17,18,19,20,21,22,23],fun e0 w0 vs w1=>match Q4 e0 [10,11],vs with| [.slice f4 f5 f6,int i64 f7],[.slice p38 l38 c38,int i64 n39]=>I0 f4 f5 f6 f7 w0 p38 l38 c38 n39 w1|_,_=>False,fun e0 w0 vs w1=>match Q4 e0 [10,11],vs with| [.slice f4 f5 f6,int i64 f7],[.slice p38 l38 c38,int i64 n39]=>M0 f4 f5 f6 f7 w0 p38 l38 c38 n39 w1|_,_=>0⟩<|na) [] 25 w R
end
section
variable (p1:σ)(w:World)(R:φ)(I0:σ->Nat->Nat->Int->World->σ->Nat->Nat->Int->ψ)(M0:σ->Nat->Nat->Int->World->σ->Nat->Nat->Int->World->Nat)
def F58_calls:=nfm Tryz.func58 [.pointer p1] (an 1348 ⟨[2,12],[30,3],[4,13,14,15,16,17,18,19,20,21],fun e0 w0 vs w1=>match Q4 e0 [10,11],vs with| [.slice f4 f5 f6,int i64 f7],[.slice p33 l33 c33,int i64 n34]=>I0 f4 f5 f6 f7 w0 p33 l33 c33 n34 w1|_,_=>False,fun e0 w0 vs w1=>match Q4 e0 [10,11],vs with| [.slice f4 f5 f6,int i64 f7],[.slice p33 l33 c33,int i64 n34]=>M0 f4 f5 f6 f7 w0 p33 l33 c33 n34 w1|_,_=>0⟩<|na) [] 23 w R
end
section
variable (p1:σ)(w:World)(R:φ)
def F59_calls:=nfm Tryz.func59 [.pointer p1] (na) [] 11 w R
end
section
variable (p1:σ)(n2:Int)(n3:Int)(w:World)(R:φ)
def F61_calls:=nfm Tryz.func61 [.pointer p1,int i64 n2,int i64 n3] (na) [] 28 w R
end
section
variable (p1:σ)(n2:Int)(n3:Int)(p4:σ)(l4 c4:Nat)(w:World)(R:φ)
def F69_calls:=nfm Tryz.func69 [.pointer p1,int i64 n2,int i64 n3, .slice p4 l4 c4] (na) [] 54 w R
end
section
variable (p1:σ)(w:World)(R:φ)(I0:σ->Nat->Nat->Int->World->Int->ψ)(M0:σ->Nat->Nat->Int->World->Int->World->Nat)
def F86_calls:=nfm Tryz.func86 [.pointer p1] (an 1348 ⟨[18],[3],[4,19,20,21,22,23,24,25],fun e0 w0 vs w1=>match Q4 e0 [16,17],vs with| [.slice f6 f7 f8,int i64 f9],[int i64 n31]=>I0 f6 f7 f8 f9 w0 n31 w1|_,_=>False,fun e0 w0 vs w1=>match Q4 e0 [16,17],vs with| [.slice f6 f7 f8,int i64 f9],[int i64 n31]=>M0 f6 f7 f8 f9 w0 n31 w1|_,_=>0⟩<|na) [] 26 w R
end
section
variable (p1:σ)(n2:Int)(w:World)(R:φ)
def F88_calls:=nfm Tryz.func88 [.pointer p1,int i64 n2] (na) [] 23 w R
end
section
variable (p1:σ)(p2:σ)(l2 c2:Nat)(w:World)(R:φ)(I0:σ->Nat->Nat->Int->World->Int->ψ)(M0:σ->Nat->Nat->Int->World->Int->World->Nat)
def F90_calls:=nfm Tryz.func90 [.pointer p1, .slice p2 l2 c2] (an 324 ⟨[14],[3],[4,5,6,15,16,17,18,19,20,21,22,23,24,25,26,27,28,29,30,31],fun e0 w0 vs w1=>match Q4 e0 [12,13],vs with| [.slice f5 f6 f7,int i64 f8],[int i64 n50]=>I0 f5 f6 f7 f8 w0 n50 w1|_,_=>False,fun e0 w0 vs w1=>match Q4 e0 [12,13],vs with| [.slice f5 f6 f7,int i64 f8],[int i64 n50]=>M0 f5 f6 f7 f8 w0 n50 w1|_,_=>0⟩<|na) [] 38 w R
end
section
variable (n1:Int)(w:World)(R:φ)
def F31_calls:=nfm Tryz.func31 [int i64 n1] (na) [] 15 w R
end
section
variable (p1:σ)(w:World)(R:φ)
def F44_calls:=nfm Tryz.func44 [.pointer p1] (na) [] 4 w R
end
section
variable (p1:σ)(w:World)(R:φ)
def F45_calls:=nfm Tryz.func45 [.pointer p1] (na) [] 4 w R
end
section
variable (p1:σ)(n2:Int)(n3:Int)(n4:Int)(w:World)(R:φ)
def F46_calls:=nfm Tryz.func46 [.pointer p1,int i64 n2,int i64 n3, .int .u8 n4] (na) [] 47 w R
end
section
variable (p1:σ)(w:World)(R:φ)
def F47_calls:=nfm Tryz.func47 [.pointer p1] (na) [] 10 w R
end
section
variable (p1:σ)(w:World)(R:φ)
def F48_calls:=nfm Tryz.func48 [.pointer p1] (na) [] 10 w R
end
section
variable (p1:σ)(b2:Bool)(w:World)(R:φ)
def F74_calls:=nfm Tryz.func74 [.pointer p1, .bool b2] (na) [] 18 w R
end
section
variable (p1:σ)(n2:Int)(w:World)(R:φ)
def F75_calls:=nfm Tryz.func75 [.pointer p1,int i64 n2] (na) [] 24 w R
end
section
variable (p1:σ)(n2:Int)(w:World)(R:φ)
def F76_calls:=nfm Tryz.func76 [.pointer p1,int i64 n2] (na) [(3, .r [0,1,2,3,4,5,6] .d),(4, .r [0,1,2,3,4,5,6,7,8,9,10,11] .d)] 33 w R
end
section
variable (r1:Option Nat)(w:World)(R:φ)(I0:σ->Nat->Nat->Int->World->σ->Nat->Nat->Int->ψ)(M0:σ->Nat->Nat->Int->World->σ->Nat->Nat->Int->World->Nat)
def F78_calls:=nfm Tryz.func78 [.map r1] (an 324 ⟨[2,9],[49,3],[4,10,11,12,13,14,15,16,17,18,19,20,21,22],fun e0 w0 vs w1=>match Q4 e0 [7,8],vs with| [.slice f8 f9 f10,int i64 f11],[.slice p40 l40 c40,int i64 n41]=>I0 f8 f9 f10 f11 w0 p40 l40 c40 n41 w1|_,_=>False,fun e0 w0 vs w1=>match Q4 e0 [7,8],vs with| [.slice f8 f9 f10,int i64 f11],[.slice p40 l40 c40,int i64 n41]=>M0 f8 f9 f10 f11 w0 p40 l40 c40 n41 w1|_,_=>0⟩<|na) [] 24 w R
end
section
variable (p1:σ)(w:World)(R:φ)
def F95_calls:=nfm Tryz.func95 [.pointer p1] (na) [] 11 w R
end
section
variable (p1:σ)(n2:Int)(w:World)(R:φ)
def F96_calls:=nfm Tryz.func96 [.pointer p1,int i64 n2] (na) [] 23 w R
end
section
variable (p1:σ)(n2:Int)(p3:σ)(l3 c3:Nat)(w:World)(R:φ)
def F108_calls:=nfm Tryz.func108 [.pointer p1,int i64 n2, .slice p3 l3 c3] (na) [(6, .r [0,1,2,3,4,5] (.e 6 [3] (.e 7 [] .d .x) .x))] 29 w R
end
section
variable (p1:σ)(w:World)(R:φ)
def F128_calls:=nfm Tryz.func128 [.pointer p1] (na) [(4, .r [0,1,2,3,4,5,6,7] (.e 8 [] .d .x))] 22 w R
end
section
variable (p1:σ)(p2:σ)(l2 c2:Nat)(w:World)(R:φ)(I0:σ->World->ψ)(M0:σ->World->World->Nat)
def F130_calls:=nfm Tryz.func130 [.pointer p1, .slice p2 l2 c2] (an 324 ⟨[],[],[4,12,13,14,15,16,17,18,19,20,21,22,23,24],fun e0 w0 vs w1=>match Q4 e0 [11],vs with| [.pointer f9],[]=>I0 f9 w0 w1|_,_=>False,fun e0 w0 vs w1=>match Q4 e0 [11],vs with| [.pointer f9],[]=>M0 f9 w0 w1|_,_=>0⟩<|na) [(6, .r [0,1,2,3,4,5,6,7] (.e 8 [] .d .x))] 38 w R
end
section
variable (p1:σ)(l1 c1:Nat)(w:World)(R:φ)
def F77_calls:=nfm Tryz.func77 [.slice p1 l1 c1] (na) [] 8 w R
end
section
variable (n1:Int)(p2:σ)(l2 c2:Nat)(w:World)(R:φ)
def F64_calls:=nfm Tryz.func64 [int i64 n1, .slice p2 l2 c2] (na) [(5, .r [0,1,2,4,5,6] (.e 3 [] (.e 7 [] (.r [8,9,10,11,13,14] (.e 12 [] (.r [15,16,17,18,19,20] .d) .x)) .x) .x))] 53 w R
end
section
variable (n1:Int)(n2:Int)(p3:σ)(l3 c3:Nat)(w:World)(R:φ)
def F68_calls:=nfm Tryz.func68 [int i64 n1,int i64 n2, .slice p3 l3 c3] (na) [] 52 w R
end
section
variable (n1:Int)(w:World)(R:φ)
def F97_calls:=nfm Tryz.func97 [int i64 n1] (na) [] 9 w R
end
section
variable (p1:σ)(l1 c1:Nat)(w:World)(R:φ)(I0:σ->Nat->Nat->Int->World->Int->Int->ψ)(M0:σ->Nat->Nat->Int->World->Int->Int->World->Nat)
def F98_calls:=nfm Tryz.func98 [.slice p1 l1 c1] (an 1348 ⟨[3,8],[156,3],[5,9,10,11,12,13,14,15,16,17],fun e0 w0 vs w1=>match Q4 e0 [6,7],vs with| [.slice f2 f3 f4,int i64 f5],[.int .u32 n21,int i64 n22]=>I0 f2 f3 f4 f5 w0 n21 n22 w1|_,_=>False,fun e0 w0 vs w1=>match Q4 e0 [6,7],vs with| [.slice f2 f3 f4,int i64 f5],[.int .u32 n21,int i64 n22]=>M0 f2 f3 f4 f5 w0 n21 n22 w1|_,_=>0⟩<|na) [] 19 w R
end
section
variable (n1:Int)(n2:Int)(q3:Addr)(w:World)(R:φ)
def F106_calls:=nfm Tryz.func106 [int i64 n1, .int .u32 n2, .pointer (some q3)] (na) [(1, .r [0,1,2,3] (.e 4 [] .d .x))] 13 w R
end
section
variable (n1:Int)(w:World)(R:φ)
def F107_calls:=nfm Tryz.func107 [.int .u32 n1] (na) [] 15 w R
end
section
variable (p1:σ)(l1 c1:Nat)(w:World)(R:φ)
def F99_calls:=nfm Tryz.func99 [.slice p1 l1 c1] (na) [] 5 w R
end
section
variable (n1:Int)(p2:σ)(l2 c2:Nat)(w:World)(R:φ)(I0:σ->Nat->Nat->Int->World->Int->Int->ψ)(M0:σ->Nat->Nat->Int->World->Int->Int->World->Nat)(I1:σ->Nat->Nat->Int->Int->World->Int->Int->ψ)(M1:σ->Nat->Nat->Int->Int->World->Int->Int->World->Nat)
def F135_calls:=nfm Tryz.func135 [.int .u32 n1, .slice p2 l2 c2] (an 20804 ⟨[5,12],[156,3],[7,13,14,15,16,17,18,19,20,21,22,23,24,25,26,27,28,29,30,31,32,33,34,35],fun e0 w0 vs w1=>match Q4 e0 [10,11],vs with| [.slice f3 f4 f5,int i64 f6],[.int .u32 n55,int i64 n56]=>I0 f3 f4 f5 f6 w0 n55 n56 w1|_,_=>False,fun e0 w0 vs w1=>match Q4 e0 [10,11],vs with| [.slice f3 f4 f5,int i64 f6],[.int .u32 n55,int i64 n56]=>M0 f3 f4 f5 f6 w0 n55 n56 w1|_,_=>0⟩<|an 21814657364 ⟨[5,25],[156,3],[26,27,28,29,30,31,32,33,34],fun e0 w0 vs w1=>match Q4 e0 [10,11,12],vs with| [.slice f36 f37 f38,int i64 f39,int i64 f40],[.int .u32 n53,int i64 n54]=>I1 f36 f37 f38 f39 f40 w0 n53 n54 w1|_,_=>False,fun e0 w0 vs w1=>match Q4 e0 [10,11,12],vs with| [.slice f36 f37 f38,int i64 f39,int i64 f40],[.int .u32 n53,int i64 n54]=>M1 f36 f37 f38 f39 f40 w0 n53 n54 w1|_,_=>0⟩<|na) [] 38 w R
end
section
variable (p1:σ)(l1 c1:Nat)(p2:σ)(l2 c2:Nat)(w:World)(R:φ)(I0:World->Int->ψ)(M0:World->Int->World->Nat)
def F18_calls:=nfm Tryz.func18 [.slice p1 l1 c1, .slice p2 l2 c2] (an 1348 ⟨[5],[3],[4,11,12,13,14,15,16,17,18,19,20,21,22,23,24,25],fun e0 w0 vs w1=>match Q4 e0 [],vs with| [],[int i64 n26]=>I0 w0 n26 w1|_,_=>False,fun e0 w0 vs w1=>match Q4 e0 [],vs with| [],[int i64 n26]=>M0 w0 n26 w1|_,_=>0⟩<|na) [(6, .r [0,1,2,3,4,5,6,7,8] .d)] 26 w R
end
section
variable (p1:σ)(l1 c1:Nat)(p2:σ)(l2 c2:Nat)(w:World)(R:φ)(I0:World->Int->ψ)(M0:World->Int->World->Nat)
def F25_calls:=nfm Tryz.func25 [.slice p1 l1 c1, .slice p2 l2 c2] (an 1348 ⟨[5],[3],[4,6,12,13,14,15,16,17,18,19,20,21,22,23,24,25,26,27,28,29,30,31,32,33,34,35,36,37,38,39,40,41,42,43],fun e0 w0 vs w1=>match Q4 e0 [],vs with| [],[int i64 n52]=>I0 w0 n52 w1|_,_=>False,fun e0 w0 vs w1=>match Q4 e0 [],vs with| [],[int i64 n52]=>M0 w0 n52 w1|_,_=>0⟩<|na) [(6, .r [0,1,2,3,4,5,6,7,8,9] (.e 10 [] (.r [11] .d) .x)),(7, .r [0,1,2,3,4,5,6,7,8,9,10,11,12,13,14] .d)] 44 w R
end
section
variable (p1:σ)(l1 c1:Nat)(w:World)(R:φ)
def F110_calls:=nfm Tryz.func110 [.slice p1 l1 c1] (na) [] 8 w R
end
end Go.Proofs.YtkolafpgbhpdlaaGreat
