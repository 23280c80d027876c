/- The functions of the program, written out: the library's and the lower layers'. -/
import Derived.Test.YtphkmbkmjhbenaaRows
import Derived.Test.YtphkmbkmjhbenaaRep
import Derived.KernelRfl
namespace Go.Proofs.Ytphkmbkmjhbenaa
open Go.Vc
theorem hP : CallsOk Try.prog := callsOk_of (by kernel_rfl)
theorem hM : Try.prog.follows .mixedOrders = true := by kernel_rfl
/-- aumbry/aumbryref02.Same · I0: fixed -, each round ['i'] -/
def F17 (p1 : Option Addr) (l1 _c1 : Nat) (p2 : Option Addr) (l2 _c2 : Nat) (w : World) (R : Value → World → Prop) (I0 : World → Int → World → Prop) (M0 : World → Int → World → Nat) : Prop :=
  (condB (!decide (((l1 : Nat) : Int) = ((l2 : Nat) : Int))) (R (Value.bool false) w) (I0  w (0 : Int) w ∧ ∀ (n3 : Int), ∀ w4 : World, I0  w n3 w4 → ∀ _j5 _j6 _j7 _j8 _j9 _j10 _j11 _j12 _j13 _j14 _j15 _j16 _j17 _j18 _j19 _j20 : Value, (condB (decide (n3 < ((l1 : Nat) : Int))) (∀ w21 : World, Drew w4 w21 → ((0 ≤ n3 ∧ n3 < ((l1 : Nat) : Int)) ∧ (nilM p1 fun a22 => (∃ (n23 : Int), w21.cell? (a22.add (n3.toNat * 1)) = some (.int .u8 n23) ∧ ((0 ≤ n3 ∧ n3 < ((l2 : Nat) : Int)) ∧ (nilM p2 fun a24 => (∃ (n25 : Int), w21.cell? (a24.add (n3.toNat * 1)) = some (.int .u8 n25) ∧ (condB (!decide (n23 = n25)) (R (Value.bool false) w21) (I0  w (IntKind.i64.wrap (n3 + (1 : Int))) w21 ∧ M0  w (IntKind.i64.wrap (n3 + (1 : Int))) w21 < M0  w n3 w4))))))))) (R (Value.bool true) w4))))
theorem F17_eq (p1 : Option Addr) (l1 c1 : Nat) (p2 : Option Addr) (l2 c2 : Nat) (w : World) (R : Value → World → Prop) (I0 : World → Int → World → Prop) (M0 : World → Int → World → Nat) :
    vc Try.prog (fun q => bif Nat.beq q 1348 then { lv := [5], ty := [3], jk := [4, 11, 12, 13, 14, 15, 16, 17, 18, 19, 20, 21, 22, 23, 24, 25], inv := fun e0 w0 vs w1 => match lgets e0 [], vs with | [], [.int .i64 n26] => I0  w0 n26 w1 | _, _ => False, mu := fun e0 w0 vs w1 => match lgets e0 [], vs with | [], [.int .i64 n26] => M0  w0 n26 w1 | _, _ => 0 } else noAn) (Try.f17.body.getD .skip) 1 (retE Try.prog Try.f17.results.toList R) ((#[.slice p1 l1 c1, .slice p2 l2 c2] : Array Value).toList ++ List.replicate (Try.f17.ntmps - (#[.slice p1 l1 c1, .slice p2 l2 c2] : Array Value).toList.length) undef) w
      = F17 p1 l1 c1 p2 l2 c2 w R I0 M0 := by kernel_rfl
theorem F17_calls (p1 : Option Addr) (l1 c1 : Nat) (p2 : Option Addr) (l2 c2 : Nat) (w : World) (R : Value → World → Prop) (I0 : World → Int → World → Prop) (M0 : World → Int → World → Nat) (h : F17 p1 l1 c1 p2 l2 c2 w R I0 M0) :
    Calls Try.prog 17 #[.slice p1 l1 c1, .slice p2 l2 c2] w fun e w' => ∃ v, e = .returned v ∧ R v w' :=
  calls_of_vc' hP hM _ Try.func17 rfl (F17_eq p1 l1 c1 p2 l2 c2 w R I0 M0) h

/-- aumbry/disk.New -/
def F27 (n1 : Int) (w : World) (R : Value → World → Prop) : Prop :=
  (condB (decide (n1 < (1 : Int))) (R (Value.tuple #[.pointer none, .int .i64 (1 : Int)]) w) (condB (decide ((4096 : Int) < n1)) (R (Value.tuple #[.pointer none, .int .i64 (1 : Int)]) w) (∀ (k2 : Nat) (w3 : World), NewB w k2 (.map #[] 0) w3 → (∀ (k4 : Nat) (w5 : World), NewB w3 k4 (.map #[] 0) w5 → (∀ (k6 : Nat) (w7 : World), NewB w5 k6 (.cells #[.int .i64 n1, .map (some k2), .map (some k4), .bool false] 92) w7 → (R (Value.tuple #[.pointer (some (at0 k6)), .int .i64 (0 : Int)]) w7))))))
theorem F27_eq (n1 : Int) (w : World) (R : Value → World → Prop) :
    vc Try.prog (fun _ => noAn) (Try.f27.body.getD .skip) 1 (retE Try.prog Try.f27.results.toList R) ((#[.int .i64 n1] : Array Value).toList ++ List.replicate (Try.f27.ntmps - (#[.int .i64 n1] : Array Value).toList.length) undef) w
      = F27 n1 w R  := by kernel_rfl
theorem F27_calls (n1 : Int) (w : World) (R : Value → World → Prop) (h : F27 n1 w R ) :
    Calls Try.prog 27 #[.int .i64 n1] w fun e w' => ∃ v, e = .returned v ∧ R v w' :=
  calls_of_vc' hP hM _ Try.func27 rfl (F27_eq n1 w R ) h

/-- (*aumbry/disk.Disk).Read -/
def F35 (p1 : Option Addr) (n2 : Int) (w : World) (R : Value → World → Prop) : Prop :=
  (Calls Try.prog 48 #[.pointer p1, .int .i64 n2] w fun e4 w3 => (∃ (n5 : Int), e4 = .returned (.int .i64 n5) ∧ (condB (!decide (n5 = (0 : Int))) (R (Value.tuple #[.slice none 0 0, .int .i64 n5]) w3) (Calls Try.prog 49 #[.pointer p1, .int .i64 n2] w3 fun e7 w6 => (∃ (p8 : Option Addr) (l8 c8 : Nat), (∃ (r9 : Option Nat), e7 = .returned (.tuple #[.slice p8 l8 c8, .map r9]) ∧ (Calls Try.prog 39 #[.slice p8 l8 c8] w6 fun e11 w10 => (∃ (p12 : Option Addr) (l12 c12 : Nat), e11 = .returned (.slice p12 l12 c12) ∧ (R (Value.tuple #[.slice p12 l12 c12, .int .i64 (0 : Int)]) w10)))))))))
theorem F35_eq (p1 : Option Addr) (n2 : Int) (w : World) (R : Value → World → Prop) :
    vc Try.prog (fun _ => noAn) (Try.f35.body.getD .skip) 1 (retE Try.prog Try.f35.results.toList R) ((#[.pointer p1, .int .i64 n2] : Array Value).toList ++ List.replicate (Try.f35.ntmps - (#[.pointer p1, .int .i64 n2] : Array Value).toList.length) undef) w
      = F35 p1 n2 w R  := by kernel_rfl
theorem F35_calls (p1 : Option Addr) (n2 : Int) (w : World) (R : Value → World → Prop) (h : F35 p1 n2 w R ) :
    Calls Try.prog 35 #[.pointer p1, .int .i64 n2] w fun e w' => ∃ v, e = .returned v ∧ R v w' :=
  calls_of_vc' hP hM _ Try.func35 rfl (F35_eq p1 n2 w R ) h

/-- aumbry/sector.fits -/
def F36 (n1 : Int) (w : World) (R : Value → World → Prop) : Prop :=
  (condB (decide ((0 : Int) ≤ n1)) (R (Value.bool (decide (n1 ≤ (2147483647 : Int)))) w) (R (Value.bool false) w))
theorem F36_eq (n1 : Int) (w : World) (R : Value → World → Prop) :
    vc Try.prog (fun _ => noAn) (Try.f36.body.getD .skip) 1 (retE Try.prog Try.f36.results.toList R) ((#[.int .i64 n1] : Array Value).toList ++ List.replicate (Try.f36.ntmps - (#[.int .i64 n1] : Array Value).toList.length) undef) w
      = F36 n1 w R  := by kernel_rfl
theorem F36_calls (n1 : Int) (w : World) (R : Value → World → Prop) (h : F36 n1 w R ) :
    Calls Try.prog 36 #[.int .i64 n1] w fun e w' => ∃ v, e = .returned v ∧ R v w' :=
  calls_of_vc' hP hM _ Try.func36 rfl (F36_eq n1 w R ) h

/-- aumbry/sector.number · I0: fixed ['', ''], each round ['n', ''] -/
def F37 (p1 : Option Addr) (l1 c1 : Nat) (w : World) (R : Value → World → Prop) (I0 : Option Addr → Nat → Nat → Int → World → Int → Int → World → Prop) (M0 : Option Addr → Nat → Nat → Int → World → Int → Int → World → Nat) : Prop :=
  (I0 p1 l1 c1 ((l1 : Nat) : Int) w (0 : Int) (0 : Int) w ∧ ∀ (n6 : Int) (n7 : Int), ∀ w8 : World, I0 p1 l1 c1 ((l1 : Nat) : Int) w n6 n7 w8 → ∀ _j9 _j10 _j11 _j12 _j13 _j14 _j15 _j16 _j17 _j18 : Value, (condB (decide (n7 < ((l1 : Nat) : Int))) ((0 ≤ n7 ∧ n7 < ((l1 : Nat) : Int)) ∧ (nilM p1 fun a19 => (∃ (n20 : Int), w8.cell? (a19.add (n7.toNat * 1)) = some (.int .u8 n20) ∧ (0 ≤ (8 : Int) ∧ (I0 p1 l1 c1 ((l1 : Nat) : Int) w (bitsV .or .u32 (IntKind.u32.wrap (n6 * 2 ^ (min (8 : Int).toNat IntKind.u32.bits))) (IntKind.u32.wrap n20)) (IntKind.i64.wrap (n7 + (1 : Int))) w8 ∧ M0 p1 l1 c1 ((l1 : Nat) : Int) w (bitsV .or .u32 (IntKind.u32.wrap (n6 * 2 ^ (min (8 : Int).toNat IntKind.u32.bits))) (IntKind.u32.wrap n20)) (IntKind.i64.wrap (n7 + (1 : Int))) w8 < M0 p1 l1 c1 ((l1 : Nat) : Int) w n6 n7 w8))))) (R (Value.int .u32 n6) w8)))
theorem F37_eq (p1 : Option Addr) (l1 c1 : Nat) (w : World) (R : Value → World → Prop) (I0 : Option Addr → Nat → Nat → Int → World → Int → Int → World → Prop) (M0 : Option Addr → Nat → Nat → Int → World → Int → Int → World → Nat) :
    vc Try.prog (fun q => bif Nat.beq q 1348 then { lv := [3, 8], ty := [83, 3], jk := [5, 9, 10, 11, 12, 13, 14, 15, 16, 17], inv := fun e0 w0 vs w1 => match lgets e0 [6, 7], vs with | [.slice f2 f3 f4, .int .i64 f5], [.int .u32 n21, .int .i64 n22] => I0 f2 f3 f4 f5 w0 n21 n22 w1 | _, _ => False, mu := fun e0 w0 vs w1 => match lgets e0 [6, 7], vs with | [.slice f2 f3 f4, .int .i64 f5], [.int .u32 n21, .int .i64 n22] => M0 f2 f3 f4 f5 w0 n21 n22 w1 | _, _ => 0 } else noAn) (Try.f37.body.getD .skip) 1 (retE Try.prog Try.f37.results.toList R) ((#[.slice p1 l1 c1] : Array Value).toList ++ List.replicate (Try.f37.ntmps - (#[.slice p1 l1 c1] : Array Value).toList.length) undef) w
      = F37 p1 l1 c1 w R I0 M0 := by kernel_rfl
theorem F37_calls (p1 : Option Addr) (l1 c1 : Nat) (w : World) (R : Value → World → Prop) (I0 : Option Addr → Nat → Nat → Int → World → Int → Int → World → Prop) (M0 : Option Addr → Nat → Nat → Int → World → Int → Int → World → Nat) (h : F37 p1 l1 c1 w R I0 M0) :
    Calls Try.prog 37 #[.slice p1 l1 c1] w fun e w' => ∃ v, e = .returned v ∧ R v w' :=
  calls_of_vc' hP hM _ Try.func37 rfl (F37_eq p1 l1 c1 w R I0 M0) h

/-- aumbry/crc.Sum -/
def F38 (p1 : Option Addr) (l1 c1 : Nat) (w : World) (R : Value → World → Prop) : Prop :=
  (Calls Try.prog 50 #[.int .u32 (0 : Int), .slice p1 l1 c1] w fun e3 w2 => (∃ (n4 : Int), e3 = .returned (.int .u32 n4) ∧ (R (Value.int .u32 n4) w2)))
theorem F38_eq (p1 : Option Addr) (l1 c1 : Nat) (w : World) (R : Value → World → Prop) :
    vc Try.prog (fun _ => noAn) (Try.f38.body.getD .skip) 1 (retE Try.prog Try.f38.results.toList R) ((#[.slice p1 l1 c1] : Array Value).toList ++ List.replicate (Try.f38.ntmps - (#[.slice p1 l1 c1] : Array Value).toList.length) undef) w
      = F38 p1 l1 c1 w R  := by kernel_rfl
theorem F38_calls (p1 : Option Addr) (l1 c1 : Nat) (w : World) (R : Value → World → Prop) (h : F38 p1 l1 c1 w R ) :
    Calls Try.prog 38 #[.slice p1 l1 c1] w fun e w' => ∃ v, e = .returned v ∧ R v w' :=
  calls_of_vc' hP hM _ Try.func38 rfl (F38_eq p1 l1 c1 w R ) h

/-- bytes.Clone -/
def F39 (p1 : Option Addr) (l1 c1 : Nat) (w : World) (R : Value → World → Prop) : Prop :=
  (condB p1.isNone (R (Value.slice none 0 0) w) (∀ (k2 : Nat) (w3 : World), NewB w k2 (.cells #[] 5) w3 → (∃ (p5 : Option Addr) (l5 c5 : Nat), ∃ w4 : World, Sem.run Try.prog (Builtin.append_ #[22, 22] 22 #[.slice (some (at0 k2)) 0 0, .slice p1 l1 c1]) w3 = .ok (.slice p5 l5 c5) w4 ∧ (R (Value.slice p5 l5 c5) w4))))
theorem F39_eq (p1 : Option Addr) (l1 c1 : Nat) (w : World) (R : Value → World → Prop) :
    vc Try.prog (fun _ => noAn) (Try.f39.body.getD .skip) 1 (retE Try.prog Try.f39.results.toList R) ((#[.slice p1 l1 c1] : Array Value).toList ++ List.replicate (Try.f39.ntmps - (#[.slice p1 l1 c1] : Array Value).toList.length) undef) w
      = F39 p1 l1 c1 w R  := by kernel_rfl
theorem F39_calls (p1 : Option Addr) (l1 c1 : Nat) (w : World) (R : Value → World → Prop) (h : F39 p1 l1 c1 w R ) :
    Calls Try.prog 39 #[.slice p1 l1 c1] w fun e w' => ∃ v, e = .returned v ∧ R v w' :=
  calls_of_vc' hP hM _ Try.func39 rfl (F39_eq p1 l1 c1 w R ) h

/-- (*aumbry/disk.Disk).Crash · I0: fixed [''], each round [] -/
def F40 (p1 : Option Addr) (p2 : Option Addr) (l2 c2 : Nat) (w : World) (R : Value → World → Prop) (I0 : Option Addr → World → World → Prop) (M0 : Option Addr → World → World → Nat) : Prop :=
  (condB p1.isNone (R (Value.tuple #[]) w) (nilM p1 fun a3 => (∃ (r4 : Option Nat), w.cell? (a3.add 2) = some (.map r4) ∧ (∃ (es5 : Array MapEntry) (c6 : Nat), mapIs w r4 es5 c6 ∧ (∀ (k7 : Nat) (w8 : World), NewB w k7 (.mapIter r4 c6 #[] c6) w8 → (I0 (some (at0 k7)) w8  w8 ∧ ∀ w10 : World, I0 (some (at0 k7)) w8  w10 → ∀ _j11 _j12 _j13 _j14 _j15 _j16 _j17 _j18 _j19 _j20 _j21 _j22 _j23 _j24 : Value, (nextB w10 (at0 k7) (fun _v25 _v26 w27 => (∃ (n29 : Int), (∃ v30 : Value, entryAt Try.prog (.pointer (some (at0 k7))) w27 (Value.int .i64 n29) v30 ∧ (Calls Try.prog 51 #[.slice p2 l2 c2, .int .i64 n29] w27 fun e32 w31 => (∃ (b33 : Bool), e32 = .returned (.bool b33) ∧ (condB (!b33) (nilM p1 fun a34 => (∃ (r35 : Option Nat), w31.cell? (a34.add 2) = some (.map r35) ∧ (∃ (v37 : Value), ∃ w36 : World, Sem.run Try.prog (Builtin.delete_ #[90, 3] 0 #[.map r35, .int .i64 n29]) w31 = .ok (v37) w36 ∧ (I0 (some (at0 k7)) w8  w36 ∧ M0 (some (at0 k7)) w8  w36 < M0 (some (at0 k7)) w8  w10)))) (I0 (some (at0 k7)) w8  w31 ∧ M0 (some (at0 k7)) w8  w31 < M0 (some (at0 k7)) w8  w10))))))) (fun w28 => (∀ w38 : World, Drew w28 w38 → (nilM p1 fun a39 => (∃ (r40 : Option Nat), w38.cell? (a39.add 1) = some (.map r40) ∧ (nilM p1 fun a41 => (∃ (r42 : Option Nat), w38.cell? (a41.add 2) = some (.map r42) ∧ (Calls Try.prog 52 #[.map r40, .map r42] w38 fun e44 w43 => e44 = .returned (.tuple #[]) ∧ (nilM p1 fun a45 => (∃ (r46 : Option Nat), w43.cell? (a45.add 2) = some (.map r46) ∧ (∃ (v48 : Value), ∃ w47 : World, Sem.run Try.prog (Builtin.clear_ #[90] 0 #[.map r46]) w43 = .ok (v48) w47 ∧ (R (Value.tuple #[]) w47))))))))))))))))))
theorem F40_eq (p1 : Option Addr) (p2 : Option Addr) (l2 c2 : Nat) (w : World) (R : Value → World → Prop) (I0 : Option Addr → World → World → Prop) (M0 : Option Addr → World → World → Nat) :
    vc Try.prog (fun q => bif Nat.beq q 324 then { lv := [], ty := [], jk := [4, 12, 13, 14, 15, 16, 17, 18, 19, 20, 21, 22, 23, 24], inv := fun e0 w0 vs w1 => match lgets e0 [11], vs with | [.pointer f9], [] => I0 f9 w0  w1 | _, _ => False, mu := fun e0 w0 vs w1 => match lgets e0 [11], vs with | [.pointer f9], [] => M0 f9 w0  w1 | _, _ => 0 } else noAn) (Try.f40.body.getD .skip) 1 (retE Try.prog Try.f40.results.toList R) ((#[.pointer p1, .slice p2 l2 c2] : Array Value).toList ++ List.replicate (Try.f40.ntmps - (#[.pointer p1, .slice p2 l2 c2] : Array Value).toList.length) undef) w
      = F40 p1 p2 l2 c2 w R I0 M0 := by kernel_rfl
theorem F40_calls (p1 : Option Addr) (p2 : Option Addr) (l2 c2 : Nat) (w : World) (R : Value → World → Prop) (I0 : Option Addr → World → World → Prop) (M0 : Option Addr → World → World → Nat) (h : F40 p1 p2 l2 c2 w R I0 M0) :
    Calls Try.prog 40 #[.pointer p1, .slice p2 l2 c2] w fun e w' => ∃ v, e = .returned v ∧ R v w' :=
  calls_of_vc' hP hM _ Try.func40 rfl (F40_eq p1 p2 l2 c2 w R I0 M0) h

/-- (*aumbry/disk.Disk).Dead -/
def F41 (p1 : Option Addr) (w : World) (R : Value → World → Prop) : Prop :=
  (condB (!p1.isNone) (nilM p1 fun a2 => (∃ (b3 : Bool), w.cell? (a2.add 3) = some (.bool b3) ∧ (R (Value.bool b3) w))) (R (Value.bool false) w))
theorem F41_eq (p1 : Option Addr) (w : World) (R : Value → World → Prop) :
    vc Try.prog (fun _ => noAn) (Try.f41.body.getD .skip) 1 (retE Try.prog Try.f41.results.toList R) ((#[.pointer p1] : Array Value).toList ++ List.replicate (Try.f41.ntmps - (#[.pointer p1] : Array Value).toList.length) undef) w
      = F41 p1 w R  := by kernel_rfl
theorem F41_calls (p1 : Option Addr) (w : World) (R : Value → World → Prop) (h : F41 p1 w R ) :
    Calls Try.prog 41 #[.pointer p1] w fun e w' => ∃ v, e = .returned v ∧ R v w' :=
  calls_of_vc' hP hM _ Try.func41 rfl (F41_eq p1 w R ) h

/-- (*aumbry/disk.Disk).Replace -/
def F42 (p1 : Option Addr) (w : World) (R : Value → World → Prop) : Prop :=
  (Calls Try.prog 53 #[.pointer p1, .bool false] w fun e3 w2 => e3 = .returned (.tuple #[]) ∧ (R (Value.tuple #[]) w2))
theorem F42_eq (p1 : Option Addr) (w : World) (R : Value → World → Prop) :
    vc Try.prog (fun _ => noAn) (Try.f42.body.getD .skip) 1 (retE Try.prog Try.f42.results.toList R) ((#[.pointer p1] : Array Value).toList ++ List.replicate (Try.f42.ntmps - (#[.pointer p1] : Array Value).toList.length) undef) w
      = F42 p1 w R  := by kernel_rfl
theorem F42_calls (p1 : Option Addr) (w : World) (R : Value → World → Prop) (h : F42 p1 w R ) :
    Calls Try.prog 42 #[.pointer p1] w fun e w' => ∃ v, e = .returned v ∧ R v w' :=
  calls_of_vc' hP hM _ Try.func42 rfl (F42_eq p1 w R ) h

/-- (*aumbry/disk.Disk).Write -/
def F44 (p1 : Option Addr) (n2 : Int) (p3 : Option Addr) (l3 c3 : Nat) (w : World) (R : Value → World → Prop) : Prop :=
  (Calls Try.prog 48 #[.pointer p1, .int .i64 n2] w fun e5 w4 => (∃ (n6 : Int), e5 = .returned (.int .i64 n6) ∧ (condB (!decide (n6 = (0 : Int))) (R (Value.int .i64 n6) w4) (condB (decide (((l3 : Nat) : Int) < (1 : Int))) (R (Value.int .i64 (1 : Int)) w4) (condB (decide ((4108 : Int) < ((l3 : Nat) : Int))) (R (Value.int .i64 (1 : Int)) w4) (∀ w7 : World, Drew w4 w7 → (nilM p1 fun a8 => (∃ (r9 : Option Nat), w7.cell? (a8.add 2) = some (.map r9) ∧ (Calls Try.prog 39 #[.slice p3 l3 c3] w7 fun e11 w10 => (∃ (p12 : Option Addr) (l12 c12 : Nat), e11 = .returned (.slice p12 l12 c12) ∧ ((∃ (r13 : Option Nat), w10.cell? (a8.add 2) = some (.map r13) ∧ (Value.map r13) = (Value.map r9)) ∧ (∃ w14 : World, Sem.run Try.prog (Instr.mapUpdate 90 (.map r9) (.int .i64 n2) (.slice p12 l12 c12)) w10 = .ok () w14 ∧ (R (Value.int .i64 (0 : Int)) w14)))))))))))))
theorem F44_eq (p1 : Option Addr) (n2 : Int) (p3 : Option Addr) (l3 c3 : Nat) (w : World) (R : Value → World → Prop) :
    vc Try.prog (fun _ => noAn) (Try.f44.body.getD .skip) 1 (retE Try.prog Try.f44.results.toList R) ((#[.pointer p1, .int .i64 n2, .slice p3 l3 c3] : Array Value).toList ++ List.replicate (Try.f44.ntmps - (#[.pointer p1, .int .i64 n2, .slice p3 l3 c3] : Array Value).toList.length) undef) w
      = F44 p1 n2 p3 l3 c3 w R  := by kernel_rfl
theorem F44_calls (p1 : Option Addr) (n2 : Int) (p3 : Option Addr) (l3 c3 : Nat) (w : World) (R : Value → World → Prop) (h : F44 p1 n2 p3 l3 c3 w R ) :
    Calls Try.prog 44 #[.pointer p1, .int .i64 n2, .slice p3 l3 c3] w fun e w' => ∃ v, e = .returned v ∧ R v w' :=
  calls_of_vc' hP hM _ Try.func44 rfl (F44_eq p1 n2 p3 l3 c3 w R ) h

/-- (*aumbry/disk.Disk).Flush -/
def F45 (p1 : Option Addr) (w : World) (R : Value → World → Prop) : Prop :=
  (Calls Try.prog 48 #[.pointer p1, .int .i64 (0 : Int)] w fun e3 w2 => (∃ (n4 : Int), e3 = .returned (.int .i64 n4) ∧ (condB (!decide (n4 = (0 : Int))) (R (Value.int .i64 n4) w2) (∀ w5 : World, Drew w2 w5 → (nilM p1 fun a6 => (∃ (r7 : Option Nat), w5.cell? (a6.add 1) = some (.map r7) ∧ (nilM p1 fun a8 => (∃ (r9 : Option Nat), w5.cell? (a8.add 2) = some (.map r9) ∧ (Calls Try.prog 52 #[.map r7, .map r9] w5 fun e11 w10 => e11 = .returned (.tuple #[]) ∧ (nilM p1 fun a12 => (∃ (r13 : Option Nat), w10.cell? (a12.add 2) = some (.map r13) ∧ (∃ (v15 : Value), ∃ w14 : World, Sem.run Try.prog (Builtin.clear_ #[90] 0 #[.map r13]) w10 = .ok (v15) w14 ∧ (R (Value.int .i64 (0 : Int)) w14)))))))))))))
theorem F45_eq (p1 : Option Addr) (w : World) (R : Value → World → Prop) :
    vc Try.prog (fun _ => noAn) (Try.f45.body.getD .skip) 1 (retE Try.prog Try.f45.results.toList R) ((#[.pointer p1] : Array Value).toList ++ List.replicate (Try.f45.ntmps - (#[.pointer p1] : Array Value).toList.length) undef) w
      = F45 p1 w R  := by kernel_rfl
theorem F45_calls (p1 : Option Addr) (w : World) (R : Value → World → Prop) (h : F45 p1 w R ) :
    Calls Try.prog 45 #[.pointer p1] w fun e w' => ∃ v, e = .returned v ∧ R v w' :=
  calls_of_vc' hP hM _ Try.func45 rfl (F45_eq p1 w R ) h

/-- (*aumbry/disk.Disk).Fail -/
def F46 (p1 : Option Addr) (w : World) (R : Value → World → Prop) : Prop :=
  (Calls Try.prog 53 #[.pointer p1, .bool true] w fun e3 w2 => e3 = .returned (.tuple #[]) ∧ (R (Value.tuple #[]) w2))
theorem F46_eq (p1 : Option Addr) (w : World) (R : Value → World → Prop) :
    vc Try.prog (fun _ => noAn) (Try.f46.body.getD .skip) 1 (retE Try.prog Try.f46.results.toList R) ((#[.pointer p1] : Array Value).toList ++ List.replicate (Try.f46.ntmps - (#[.pointer p1] : Array Value).toList.length) undef) w
      = F46 p1 w R  := by kernel_rfl
theorem F46_calls (p1 : Option Addr) (w : World) (R : Value → World → Prop) (h : F46 p1 w R ) :
    Calls Try.prog 46 #[.pointer p1] w fun e w' => ∃ v, e = .returned v ∧ R v w' :=
  calls_of_vc' hP hM _ Try.func46 rfl (F46_eq p1 w R ) h

/-- (*aumbry/disk.Disk).Corrupt -/
def F47 (p1 : Option Addr) (n2 : Int) (n3 : Int) (n4 : Int) (w : World) (R : Value → World → Prop) : Prop :=
  (Calls Try.prog 48 #[.pointer p1, .int .i64 n2] w fun e6 w5 => (∃ (n7 : Int), e6 = .returned (.int .i64 n7) ∧ (condB (!decide (n7 = (0 : Int))) (R (Value.int .i64 n7) w5) (Calls Try.prog 49 #[.pointer p1, .int .i64 n2] w5 fun e9 w8 => (∃ (p10 : Option Addr) (l10 c10 : Nat), (∃ (r11 : Option Nat), e9 = .returned (.tuple #[.slice p10 l10 c10, .map r11]) ∧ (condB (decide (((l10 : Nat) : Int) = (0 : Int))) (R (Value.int .i64 (1 : Int)) w8) (condB (decide (n3 < (0 : Int))) (Calls Try.prog 39 #[.slice p10 l10 c10] w8 fun e13 w12 => (∃ (p14 : Option Addr) (l14 c14 : Nat), e13 = .returned (.slice p14 l14 c14) ∧ (((l14 : Nat) : Int) ≠ 0 ∧ ((0 ≤ ((IntKind.i64.wrap (0 - (IntKind.i64.wrap (n3 + (1 : Int))))).tmod ((l14 : Nat) : Int)) ∧ ((IntKind.i64.wrap (0 - (IntKind.i64.wrap (n3 + (1 : Int))))).tmod ((l14 : Nat) : Int)) < ((l14 : Nat) : Int)) ∧ (nilM p14 fun a15 => (∃ (n16 : Int), w12.cell? (a15.add (((IntKind.i64.wrap (0 - (IntKind.i64.wrap (n3 + (1 : Int))))).tmod ((l14 : Nat) : Int)).toNat * 1)) = some (.int .u8 n16) ∧ ((0 ≤ ((IntKind.i64.wrap (0 - (IntKind.i64.wrap (n3 + (1 : Int))))).tmod ((l14 : Nat) : Int)) ∧ ((IntKind.i64.wrap (0 - (IntKind.i64.wrap (n3 + (1 : Int))))).tmod ((l14 : Nat) : Int)) < ((l14 : Nat) : Int)) ∧ (nilM p14 fun a17 => (Live w12 (a17.add (((IntKind.i64.wrap (0 - (IntKind.i64.wrap (n3 + (1 : Int))))).tmod ((l14 : Nat) : Int)).toNat * 1)) ∧ (∀ w18 : World, SetC w12 (a17.add (((IntKind.i64.wrap (0 - (IntKind.i64.wrap (n3 + (1 : Int))))).tmod ((l14 : Nat) : Int)).toNat * 1)) (Value.int .u8 (bitsV .xor .u8 n16 n4)) w18 → (∃ w19 : World, Sem.run Try.prog (Instr.mapUpdate 90 (.map r11) (.int .i64 n2) (.slice p14 l14 c14)) w18 = .ok () w19 ∧ (R (Value.int .i64 (0 : Int)) w19)))))))))))) (Calls Try.prog 39 #[.slice p10 l10 c10] w8 fun e21 w20 => (∃ (p22 : Option Addr) (l22 c22 : Nat), e21 = .returned (.slice p22 l22 c22) ∧ (((l22 : Nat) : Int) ≠ 0 ∧ ((0 ≤ (n3.tmod ((l22 : Nat) : Int)) ∧ (n3.tmod ((l22 : Nat) : Int)) < ((l22 : Nat) : Int)) ∧ (nilM p22 fun a23 => (∃ (n24 : Int), w20.cell? (a23.add ((n3.tmod ((l22 : Nat) : Int)).toNat * 1)) = some (.int .u8 n24) ∧ ((0 ≤ (n3.tmod ((l22 : Nat) : Int)) ∧ (n3.tmod ((l22 : Nat) : Int)) < ((l22 : Nat) : Int)) ∧ (nilM p22 fun a25 => (Live w20 (a25.add ((n3.tmod ((l22 : Nat) : Int)).toNat * 1)) ∧ (∀ w26 : World, SetC w20 (a25.add ((n3.tmod ((l22 : Nat) : Int)).toNat * 1)) (Value.int .u8 (bitsV .xor .u8 n24 n4)) w26 → (∃ w27 : World, Sem.run Try.prog (Instr.mapUpdate 90 (.map r11) (.int .i64 n2) (.slice p22 l22 c22)) w26 = .ok () w27 ∧ (R (Value.int .i64 (0 : Int)) w27))))))))))))))))))))
theorem F47_eq (p1 : Option Addr) (n2 : Int) (n3 : Int) (n4 : Int) (w : World) (R : Value → World → Prop) :
    vc Try.prog (fun _ => noAn) (Try.f47.body.getD .skip) 1 (retE Try.prog Try.f47.results.toList R) ((#[.pointer p1, .int .i64 n2, .int .i64 n3, .int .u8 n4] : Array Value).toList ++ List.replicate (Try.f47.ntmps - (#[.pointer p1, .int .i64 n2, .int .i64 n3, .int .u8 n4] : Array Value).toList.length) undef) w
      = F47 p1 n2 n3 n4 w R  := by kernel_rfl
theorem F47_calls (p1 : Option Addr) (n2 : Int) (n3 : Int) (n4 : Int) (w : World) (R : Value → World → Prop) (h : F47 p1 n2 n3 n4 w R ) :
    Calls Try.prog 47 #[.pointer p1, .int .i64 n2, .int .i64 n3, .int .u8 n4] w fun e w' => ∃ v, e = .returned v ∧ R v w' :=
  calls_of_vc' hP hM _ Try.func47 rfl (F47_eq p1 n2 n3 n4 w R ) h

/-- (*aumbry/disk.Disk).fault -/
def F48 (p1 : Option Addr) (n2 : Int) (w : World) (R : Value → World → Prop) : Prop :=
  (condB p1.isNone (R (Value.int .i64 (1 : Int)) w) (nilM p1 fun a3 => (∃ (b4 : Bool), w.cell? (a3.add 3) = some (.bool b4) ∧ (condB b4 (R (Value.int .i64 (120 : Int)) w) (condB (decide (n2 < (0 : Int))) (R (Value.int .i64 (121 : Int)) w) (nilM p1 fun a5 => (∃ (n6 : Int), w.cell? (a5.add 0) = some (.int .i64 n6) ∧ (condB (decide (n6 ≤ n2)) (R (Value.int .i64 (121 : Int)) w) (R (Value.int .i64 (0 : Int)) w)))))))))
theorem F48_eq (p1 : Option Addr) (n2 : Int) (w : World) (R : Value → World → Prop) :
    vc Try.prog (fun _ => noAn) (Try.f48.body.getD .skip) 1 (retE Try.prog Try.f48.results.toList R) ((#[.pointer p1, .int .i64 n2] : Array Value).toList ++ List.replicate (Try.f48.ntmps - (#[.pointer p1, .int .i64 n2] : Array Value).toList.length) undef) w
      = F48 p1 n2 w R  := by kernel_rfl
theorem F48_calls (p1 : Option Addr) (n2 : Int) (w : World) (R : Value → World → Prop) (h : F48 p1 n2 w R ) :
    Calls Try.prog 48 #[.pointer p1, .int .i64 n2] w fun e w' => ∃ v, e = .returned v ∧ R v w' :=
  calls_of_vc' hP hM _ Try.func48 rfl (F48_eq p1 n2 w R ) h

/-- (*aumbry/disk.Disk).at -/
def F49 (p1 : Option Addr) (n2 : Int) (w : World) (R : Value → World → Prop) : Prop :=
  (nilM p1 fun a3 => (∃ (r4 : Option Nat), w.cell? (a3.add 2) = some (.map r4) ∧ (∃ (p6 : Option Addr) (l6 c6 : Nat), ∃ b5 : Bool, mapAt Try.prog 90 (.map r4) (.int .i64 n2) w (Value.slice p6 l6 c6) b5 ∧ (condB b5 (∀ w7 : World, Drew w w7 → (nilM p1 fun a8 => (∃ (r9 : Option Nat), w7.cell? (a8.add 2) = some (.map r9) ∧ (R (Value.tuple #[.slice p6 l6 c6, .map r9]) w7)))) (∀ w10 : World, Drew w w10 → (nilM p1 fun a11 => (∃ (r12 : Option Nat), w10.cell? (a11.add 1) = some (.map r12) ∧ (∃ (p14 : Option Addr) (l14 c14 : Nat), ∃ b13 : Bool, mapAt Try.prog 90 (.map r12) (.int .i64 n2) w10 (Value.slice p14 l14 c14) b13 ∧ (nilM p1 fun a15 => (∃ (r16 : Option Nat), w10.cell? (a15.add 1) = some (.map r16) ∧ (R (Value.tuple #[.slice p14 l14 c14, .map r16]) w10)))))))))))
theorem F49_eq (p1 : Option Addr) (n2 : Int) (w : World) (R : Value → World → Prop) :
    vc Try.prog (fun _ => noAn) (Try.f49.body.getD .skip) 1 (retE Try.prog Try.f49.results.toList R) ((#[.pointer p1, .int .i64 n2] : Array Value).toList ++ List.replicate (Try.f49.ntmps - (#[.pointer p1, .int .i64 n2] : Array Value).toList.length) undef) w
      = F49 p1 n2 w R  := by kernel_rfl
theorem F49_calls (p1 : Option Addr) (n2 : Int) (w : World) (R : Value → World → Prop) (h : F49 p1 n2 w R ) :
    Calls Try.prog 49 #[.pointer p1, .int .i64 n2] w fun e w' => ∃ v, e = .returned v ∧ R v w' :=
  calls_of_vc' hP hM _ Try.func49 rfl (F49_eq p1 n2 w R ) h

/-- aumbry/crc.More · I0: fixed ['', ''], each round ['x', ''] · I1: fixed ['', '', ''], each round ['x', ''] -/
def F50 (n1 : Int) (p2 : Option Addr) (l2 c2 : Nat) (w : World) (R : Value → World → Prop) (I0 : Option Addr → Nat → Nat → Int → World → Int → Int → World → Prop) (M0 : Option Addr → Nat → Nat → Int → World → Int → Int → World → Nat) (I1 : Option Addr → Nat → Nat → Int → Int → World → Int → Int → World → Prop) (M1 : Option Addr → Nat → Nat → Int → Int → World → Int → Int → World → Nat) : Prop :=
  (I0 p2 l2 c2 ((l2 : Nat) : Int) w (bitsV .xor .u32 (if IntKind.u32.signed then -1 else IntKind.u32.max) n1) (0 : Int) w ∧ ∀ (n7 : Int) (n8 : Int), ∀ w9 : World, I0 p2 l2 c2 ((l2 : Nat) : Int) w n7 n8 w9 → ∀ _j10 _j11 _j12 _j13 _j14 _j15 _j16 _j17 _j18 _j19 _j20 _j21 _j22 _j23 _j24 _j25 _j26 _j27 _j28 _j29 _j30 _j31 _j32 _j33 : Value, (condB (decide (n8 < ((l2 : Nat) : Int))) ((0 ≤ n8 ∧ n8 < ((l2 : Nat) : Int)) ∧ (nilM p2 fun a34 => (∃ (n35 : Int), w9.cell? (a34.add (n8.toNat * 1)) = some (.int .u8 n35) ∧ (condB (decide ((bitsV .and .u32 (bitsV .xor .u32 n7 (IntKind.u32.wrap n35)) (255 : Int)) = (0 : Int))) (0 ≤ (8 : Int) ∧ (I0 p2 l2 c2 ((l2 : Nat) : Int) w ((bitsV .xor .u32 n7 (IntKind.u32.wrap n35)).fdiv (2 ^ (min (8 : Int).toNat IntKind.u32.bits))) (IntKind.i64.wrap (n8 + (1 : Int))) w9 ∧ M0 p2 l2 c2 ((l2 : Nat) : Int) w ((bitsV .xor .u32 n7 (IntKind.u32.wrap n35)).fdiv (2 ^ (min (8 : Int).toNat IntKind.u32.bits))) (IntKind.i64.wrap (n8 + (1 : Int))) w9 < M0 p2 l2 c2 ((l2 : Nat) : Int) w n7 n8 w9)) (I1 p2 l2 c2 ((l2 : Nat) : Int) n8 w9 (bitsV .xor .u32 n7 (IntKind.u32.wrap n35)) (0 : Int) w9 ∧ ∀ (n41 : Int) (n42 : Int), ∀ w43 : World, I1 p2 l2 c2 ((l2 : Nat) : Int) n8 w9 n41 n42 w43 → ∀ _j44 _j45 _j46 _j47 _j48 _j49 _j50 _j51 _j52 : Value, (condB (decide (n42 < (8 : Int))) (0 ≤ (1 : Int) ∧ (I1 p2 l2 c2 ((l2 : Nat) : Int) n8 w9 (bitsV .xor .u32 (n41.fdiv (2 ^ (min (1 : Int).toNat IntKind.u32.bits))) (bitsV .and .u32 (2197175160 : Int) (IntKind.u32.wrap (0 - (bitsV .and .u32 n41 (1 : Int)))))) (IntKind.i64.wrap (n42 + (1 : Int))) w43 ∧ M1 p2 l2 c2 ((l2 : Nat) : Int) n8 w9 (bitsV .xor .u32 (n41.fdiv (2 ^ (min (1 : Int).toNat IntKind.u32.bits))) (bitsV .and .u32 (2197175160 : Int) (IntKind.u32.wrap (0 - (bitsV .and .u32 n41 (1 : Int)))))) (IntKind.i64.wrap (n42 + (1 : Int))) w43 < M1 p2 l2 c2 ((l2 : Nat) : Int) n8 w9 n41 n42 w43)) (I0 p2 l2 c2 ((l2 : Nat) : Int) w n41 (IntKind.i64.wrap (n8 + (1 : Int))) w43 ∧ M0 p2 l2 c2 ((l2 : Nat) : Int) w n41 (IntKind.i64.wrap (n8 + (1 : Int))) w43 < M0 p2 l2 c2 ((l2 : Nat) : Int) w n7 n8 w9))))))) (R (Value.int .u32 (bitsV .xor .u32 (if IntKind.u32.signed then -1 else IntKind.u32.max) n7)) w9)))
theorem F50_eq (n1 : Int) (p2 : Option Addr) (l2 c2 : Nat) (w : World) (R : Value → World → Prop) (I0 : Option Addr → Nat → Nat → Int → World → Int → Int → World → Prop) (M0 : Option Addr → Nat → Nat → Int → World → Int → Int → World → Nat) (I1 : Option Addr → Nat → Nat → Int → Int → World → Int → Int → World → Prop) (M1 : Option Addr → Nat → Nat → Int → Int → World → Int → Int → World → Nat) :
    vc Try.prog (fun q => bif Nat.beq q 20804 then { lv := [5, 12], ty := [83, 3], jk := [7, 13, 14, 15, 16, 17, 18, 19, 20, 21, 22, 23, 24, 25, 26, 27, 28, 29, 30, 31, 32, 33, 34, 35], inv := fun e0 w0 vs w1 => match lgets e0 [10, 11], vs with | [.slice f3 f4 f5, .int .i64 f6], [.int .u32 n55, .int .i64 n56] => I0 f3 f4 f5 f6 w0 n55 n56 w1 | _, _ => False, mu := fun e0 w0 vs w1 => match lgets e0 [10, 11], vs with | [.slice f3 f4 f5, .int .i64 f6], [.int .u32 n55, .int .i64 n56] => M0 f3 f4 f5 f6 w0 n55 n56 w1 | _, _ => 0 } else bif Nat.beq q 21814657364 then { lv := [5, 25], ty := [83, 3], jk := [26, 27, 28, 29, 30, 31, 32, 33, 34], inv := fun e0 w0 vs w1 => match lgets e0 [10, 11, 12], vs with | [.slice f36 f37 f38, .int .i64 f39, .int .i64 f40], [.int .u32 n53, .int .i64 n54] => I1 f36 f37 f38 f39 f40 w0 n53 n54 w1 | _, _ => False, mu := fun e0 w0 vs w1 => match lgets e0 [10, 11, 12], vs with | [.slice f36 f37 f38, .int .i64 f39, .int .i64 f40], [.int .u32 n53, .int .i64 n54] => M1 f36 f37 f38 f39 f40 w0 n53 n54 w1 | _, _ => 0 } else noAn) (Try.f50.body.getD .skip) 1 (retE Try.prog Try.f50.results.toList R) ((#[.int .u32 n1, .slice p2 l2 c2] : Array Value).toList ++ List.replicate (Try.f50.ntmps - (#[.int .u32 n1, .slice p2 l2 c2] : Array Value).toList.length) undef) w
      = F50 n1 p2 l2 c2 w R I0 M0 I1 M1 := by kernel_rfl
theorem F50_calls (n1 : Int) (p2 : Option Addr) (l2 c2 : Nat) (w : World) (R : Value → World → Prop) (I0 : Option Addr → Nat → Nat → Int → World → Int → Int → World → Prop) (M0 : Option Addr → Nat → Nat → Int → World → Int → Int → World → Nat) (I1 : Option Addr → Nat → Nat → Int → Int → World → Int → Int → World → Prop) (M1 : Option Addr → Nat → Nat → Int → Int → World → Int → Int → World → Nat) (h : F50 n1 p2 l2 c2 w R I0 M0 I1 M1) :
    Calls Try.prog 50 #[.int .u32 n1, .slice p2 l2 c2] w fun e w' => ∃ v, e = .returned v ∧ R v w' :=
  calls_of_vc' hP hM _ Try.func50 rfl (F50_eq n1 p2 l2 c2 w R I0 M0 I1 M1) h

/-- slices.Contains[[]int,int] -/
def F51 (p1 : Option Addr) (l1 c1 : Nat) (n2 : Int) (w : World) (R : Value → World → Prop) : Prop :=
  (Calls Try.prog 56 #[.slice p1 l1 c1, .int .i64 n2] w fun e4 w3 => (∃ (n5 : Int), e4 = .returned (.int .i64 n5) ∧ (R (Value.bool (decide ((0 : Int) ≤ n5))) w3)))
theorem F51_eq (p1 : Option Addr) (l1 c1 : Nat) (n2 : Int) (w : World) (R : Value → World → Prop) :
    vc Try.prog (fun _ => noAn) (Try.f51.body.getD .skip) 1 (retE Try.prog Try.f51.results.toList R) ((#[.slice p1 l1 c1, .int .i64 n2] : Array Value).toList ++ List.replicate (Try.f51.ntmps - (#[.slice p1 l1 c1, .int .i64 n2] : Array Value).toList.length) undef) w
      = F51 p1 l1 c1 n2 w R  := by kernel_rfl
theorem F51_calls (p1 : Option Addr) (l1 c1 : Nat) (n2 : Int) (w : World) (R : Value → World → Prop) (h : F51 p1 l1 c1 n2 w R ) :
    Calls Try.prog 51 #[.slice p1 l1 c1, .int .i64 n2] w fun e w' => ∃ v, e = .returned v ∧ R v w' :=
  calls_of_vc' hP hM _ Try.func51 rfl (F51_eq p1 l1 c1 n2 w R ) h

/-- maps.Copy[map[int][]byte,map[int][]byte,int,[]byte] · I0: fixed [''], each round [] -/
def F52 (r1 : Option Nat) (r2 : Option Nat) (w : World) (R : Value → World → Prop) (I0 : Option Addr → World → World → Prop) (M0 : Option Addr → World → World → Nat) : Prop :=
  (∃ (es3 : Array MapEntry) (c4 : Nat), mapIs w r2 es3 c4 ∧ (∀ (k5 : Nat) (w6 : World), NewB w k5 (.mapIter r2 c4 #[] c4) w6 → (I0 (some (at0 k5)) w6  w6 ∧ ∀ w8 : World, I0 (some (at0 k5)) w6  w8 → ∀ _j9 _j10 _j11 _j12 _j13 _j14 _j15 _j16 _j17 _j18 : Value, (nextB w8 (at0 k5) (fun _v19 _v20 w21 => (∃ (n23 : Int), (∃ (p24 : Option Addr) (l24 c24 : Nat), entryAt Try.prog (.pointer (some (at0 k5))) w21 (Value.int .i64 n23) (Value.slice p24 l24 c24) ∧ (∃ w25 : World, Sem.run Try.prog (Instr.mapUpdate 90 (.map r1) (.int .i64 n23) (.slice p24 l24 c24)) w21 = .ok () w25 ∧ (I0 (some (at0 k5)) w6  w25 ∧ M0 (some (at0 k5)) w6  w25 < M0 (some (at0 k5)) w6  w8))))) (fun w22 => (R (Value.tuple #[]) w22))))))
theorem F52_eq (r1 : Option Nat) (r2 : Option Nat) (w : World) (R : Value → World → Prop) (I0 : Option Addr → World → World → Prop) (M0 : Option Addr → World → World → Nat) :
    vc Try.prog (fun q => bif Nat.beq q 20 then { lv := [], ty := [], jk := [4, 5, 8, 9, 10, 11, 12, 13, 14, 15], inv := fun e0 w0 vs w1 => match lgets e0 [7], vs with | [.pointer f7], [] => I0 f7 w0  w1 | _, _ => False, mu := fun e0 w0 vs w1 => match lgets e0 [7], vs with | [.pointer f7], [] => M0 f7 w0  w1 | _, _ => 0 } else noAn) (Try.f52.body.getD .skip) 1 (retE Try.prog Try.f52.results.toList R) ((#[.map r1, .map r2] : Array Value).toList ++ List.replicate (Try.f52.ntmps - (#[.map r1, .map r2] : Array Value).toList.length) undef) w
      = F52 r1 r2 w R I0 M0 := by kernel_rfl
theorem F52_calls (r1 : Option Nat) (r2 : Option Nat) (w : World) (R : Value → World → Prop) (I0 : Option Addr → World → World → Prop) (M0 : Option Addr → World → World → Nat) (h : F52 r1 r2 w R I0 M0) :
    Calls Try.prog 52 #[.map r1, .map r2] w fun e w' => ∃ v, e = .returned v ∧ R v w' :=
  calls_of_vc' hP hM _ Try.func52 rfl (F52_eq r1 r2 w R I0 M0) h

/-- (*aumbry/disk.Disk).empty -/
def F53 (p1 : Option Addr) (b2 : Bool) (w : World) (R : Value → World → Prop) : Prop :=
  (condB (!p1.isNone) (nilM p1 fun a3 => (Live w (a3.add 3) ∧ (∀ w4 : World, SetC w (a3.add 3) (Value.bool b2) w4 → (nilM p1 fun a5 => (∃ (r6 : Option Nat), w4.cell? (a5.add 1) = some (.map r6) ∧ (∃ (v8 : Value), ∃ w7 : World, Sem.run Try.prog (Builtin.clear_ #[90] 0 #[.map r6]) w4 = .ok (v8) w7 ∧ (nilM p1 fun a9 => (∃ (r10 : Option Nat), w7.cell? (a9.add 2) = some (.map r10) ∧ (∃ (v12 : Value), ∃ w11 : World, Sem.run Try.prog (Builtin.clear_ #[90] 0 #[.map r10]) w7 = .ok (v12) w11 ∧ (R (Value.tuple #[]) w11)))))))))) (R (Value.tuple #[]) w))
theorem F53_eq (p1 : Option Addr) (b2 : Bool) (w : World) (R : Value → World → Prop) :
    vc Try.prog (fun _ => noAn) (Try.f53.body.getD .skip) 1 (retE Try.prog Try.f53.results.toList R) ((#[.pointer p1, .bool b2] : Array Value).toList ++ List.replicate (Try.f53.ntmps - (#[.pointer p1, .bool b2] : Array Value).toList.length) undef) w
      = F53 p1 b2 w R  := by kernel_rfl
theorem F53_calls (p1 : Option Addr) (b2 : Bool) (w : World) (R : Value → World → Prop) (h : F53 p1 b2 w R ) :
    Calls Try.prog 53 #[.pointer p1, .bool b2] w fun e w' => ∃ v, e = .returned v ∧ R v w' :=
  calls_of_vc' hP hM _ Try.func53 rfl (F53_eq p1 b2 w R ) h

/-- aumbry/sector.four -/
def F55 (n1 : Int) (w : World) (R : Value → World → Prop) : Prop :=
  (∀ (k2 : Nat) (w3 : World), NewB w k2 (.cells #[.int .u8 (0 : Int), .int .u8 (0 : Int), .int .u8 (0 : Int), .int .u8 (0 : Int)] 102) w3 → (0 ≤ (24 : Int) ∧ (0 ≤ (16 : Int) ∧ (0 ≤ (8 : Int) ∧ (Live w3 (at0 k2) ∧ (∀ w4 : World, SetC w3 (at0 k2) (Value.int .u8 (IntKind.u8.wrap (n1.fdiv (2 ^ (min (24 : Int).toNat IntKind.u32.bits))))) w4 → (Live w4 ((at0 k2).add 1) ∧ (∀ w5 : World, SetC w4 ((at0 k2).add 1) (Value.int .u8 (IntKind.u8.wrap (n1.fdiv (2 ^ (min (16 : Int).toNat IntKind.u32.bits))))) w5 → (Live w5 ((at0 k2).add 2) ∧ (∀ w6 : World, SetC w5 ((at0 k2).add 2) (Value.int .u8 (IntKind.u8.wrap (n1.fdiv (2 ^ (min (8 : Int).toNat IntKind.u32.bits))))) w6 → (Live w6 ((at0 k2).add 3) ∧ (∀ w7 : World, SetC w6 ((at0 k2).add 3) (Value.int .u8 (IntKind.u8.wrap n1)) w7 → (∃ (n8 : Int), w7.cell? (at0 k2) = some (.int .u8 n8) ∧ (∃ (n9 : Int), w7.cell? ((at0 k2).add 1) = some (.int .u8 n9) ∧ (∃ (n10 : Int), w7.cell? ((at0 k2).add 2) = some (.int .u8 n10) ∧ (∃ (n11 : Int), w7.cell? ((at0 k2).add 3) = some (.int .u8 n11) ∧ (R (Value.agg #[.int .u8 n8, .int .u8 n9, .int .u8 n10, .int .u8 n11]) w7)))))))))))))))))
theorem F55_eq (n1 : Int) (w : World) (R : Value → World → Prop) :
    vc Try.prog (fun _ => noAn) (Try.f55.body.getD .skip) 1 (retE Try.prog Try.f55.results.toList R) ((#[.int .u32 n1] : Array Value).toList ++ List.replicate (Try.f55.ntmps - (#[.int .u32 n1] : Array Value).toList.length) undef) w
      = F55 n1 w R  := by kernel_rfl
theorem F55_calls (n1 : Int) (w : World) (R : Value → World → Prop) (h : F55 n1 w R ) :
    Calls Try.prog 55 #[.int .u32 n1] w fun e w' => ∃ v, e = .returned v ∧ R v w' :=
  calls_of_vc' hP hM _ Try.func55 rfl (F55_eq n1 w R ) h

/-- slices.Index[[]int,int] · I0: fixed [''], each round [''] -/
def F56 (p1 : Option Addr) (l1 _c1 : Nat) (n2 : Int) (w : World) (R : Value → World → Prop) (I0 : Int → World → Int → World → Prop) (M0 : Int → World → Int → World → Nat) : Prop :=
  (I0 ((l1 : Nat) : Int) w (0 : Int) w ∧ ∀ (n4 : Int), ∀ w5 : World, I0 ((l1 : Nat) : Int) w n4 w5 → ∀ _j6 _j7 _j8 _j9 _j10 _j11 _j12 _j13 _j14 _j15 _j16 _j17 : Value, (condB (decide (n4 < ((l1 : Nat) : Int))) ((0 ≤ n4 ∧ n4 < ((l1 : Nat) : Int)) ∧ (nilM p1 fun a18 => (∃ (n19 : Int), w5.cell? (a18.add (n4.toNat * 1)) = some (.int .i64 n19) ∧ (condB (decide (n2 = n19)) (R (Value.int .i64 n4) w5) (I0 ((l1 : Nat) : Int) w (IntKind.i64.wrap (n4 + (1 : Int))) w5 ∧ M0 ((l1 : Nat) : Int) w (IntKind.i64.wrap (n4 + (1 : Int))) w5 < M0 ((l1 : Nat) : Int) w n4 w5))))) (R (Value.int .i64 (-1 : Int)) w5)))
theorem F56_eq (p1 : Option Addr) (l1 c1 : Nat) (n2 : Int) (w : World) (R : Value → World → Prop) (I0 : Int → World → Int → World → Prop) (M0 : Int → World → Int → World → Nat) :
    vc Try.prog (fun q => bif Nat.beq q 324 then { lv := [8], ty := [3], jk := [4, 5, 9, 10, 11, 12, 13, 14, 15, 16, 17, 18], inv := fun e0 w0 vs w1 => match lgets e0 [7], vs with | [.int .i64 f3], [.int .i64 n20] => I0 f3 w0 n20 w1 | _, _ => False, mu := fun e0 w0 vs w1 => match lgets e0 [7], vs with | [.int .i64 f3], [.int .i64 n20] => M0 f3 w0 n20 w1 | _, _ => 0 } else noAn) (Try.f56.body.getD .skip) 1 (retE Try.prog Try.f56.results.toList R) ((#[.slice p1 l1 c1, .int .i64 n2] : Array Value).toList ++ List.replicate (Try.f56.ntmps - (#[.slice p1 l1 c1, .int .i64 n2] : Array Value).toList.length) undef) w
      = F56 p1 l1 c1 n2 w R I0 M0 := by kernel_rfl
theorem F56_calls (p1 : Option Addr) (l1 c1 : Nat) (n2 : Int) (w : World) (R : Value → World → Prop) (I0 : Int → World → Int → World → Prop) (M0 : Int → World → Int → World → Nat) (h : F56 p1 l1 c1 n2 w R I0 M0) :
    Calls Try.prog 56 #[.slice p1 l1 c1, .int .i64 n2] w fun e w' => ∃ v, e = .returned v ∧ R v w' :=
  calls_of_vc' hP hM _ Try.func56 rfl (F56_eq p1 l1 c1 n2 w R I0 M0) h

end Go.Proofs.Ytphkmbkmjhbenaa
