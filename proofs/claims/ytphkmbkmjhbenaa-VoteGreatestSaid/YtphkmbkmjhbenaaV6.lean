/- What is said, counted: the keys of the map, and the order of what is better. -/
import Derived.Test.YtphkmbkmjhbenaaV4
import Derived.Test.YtphkmbkmjhbenaaV5
namespace Go.Proofs.Ytphkmbkmjhbenaa
open Go Go.Vc

abbrev Say := Int × List UInt8
def sayK : SK.KS Say := ⟨fun k => .agg #[.int .i64 k.1, .string (bstr k.2)]⟩

def pairU (P : Program) (t ti ts : TypeId) : Bool := match P.underlying t with
  | some (.struct fs) => match fs.toList with
    | [f0, f1] => (f0.name != "_") && (f1.name != "_") && Nat.beq f0.type ti && Nat.beq f1.type ts && Nat.beq f0.offset 0 && Nat.beq f1.offset 1
    | _ => false
  | _ => false
theorem pairU_spec {P : Program} {t ti ts : TypeId} (h : pairU P t ti ts = true) : ∃ f0 f1 : Field, P.underlying t = some (.struct #[f0, f1]) ∧ f0.name ≠ "_" ∧ f1.name ≠ "_" ∧ f0.type = ti ∧ f1.type = ts ∧ f0.offset = 0 ∧ f1.offset = 1 := by
  unfold pairU at h
  split at h
  · rename_i fs hu
    split at h
    · rename_i f0 f1 hf
      simp only [Bool.and_eq_true, bne_iff_ne, ne_eq] at h
      obtain ⟨⟨⟨⟨⟨h0, h1⟩, h2⟩, h3⟩, h4⟩, h5⟩ := h
      have : fs = #[f0, f1] := by apply Array.toList_inj.1; rw [hf]
      exact ⟨f0, f1, by rw [hu, this], h0, h1, Nat.eq_of_beq_eq_true h2, Nat.eq_of_beq_eq_true h3, Nat.eq_of_beq_eq_true h4, Nat.eq_of_beq_eq_true h5⟩
    · cases h
  · cases h

section
variable {P : Program} {t ti ts : TypeId}
theorem part_cell {w : World} {d : TypeDesc} {cs : Array Value} {off : Nat} {v : Value} (hd : P.underlying ti = some d) (hn : isAggT P ti = false) (h : cs[off]? = some v) : (part ti cs off).run P w = .ok v w := by
  have : (isAgg ti).run P w = .ok false w := isAgg_run false hn (by rw [hd]; simp)
  simp [part, this, h]
theorem pair_eq (hp : pairU P t ti ts = true) (hh : P.stoodInHeld t = false) (hi : P.underlying ti = some (.int .i64)) (hs : P.underlying ts = some .string) (d : Nat) (n m : Int) (s u : List UInt8) (w : World) :
    (Op.equalIn (d + 2) t (.agg #[.int .i64 n, .string (bstr s)]) (.agg #[.int .i64 m, .string (bstr u)])).run P w = .ok (decide ((n, s) = (m, u))) w := by
  have e1 : ∀ n m : Int, (Op.equalIn (d + 1) ti (.int .i64 n) (.int .i64 m)).run P w = .ok (decide (n = m)) w := by
    intro n m
    simp [Op.equalIn, run_underlying' hi, Int.beq_eq_decide']
  have e2 : ∀ s u : List UInt8, (Op.equalIn (d + 1) ts (.string (bstr s)) (.string (bstr u))).run P w = .ok (decide (s = u)) w := by
    intro s u
    simp only [Op.equalIn, Sem.run_bind, run_underlying' hs, Result.andThen, Sem.run_pure, bytes_beq]
    congr 1
    rw [decide_eq_decide]
    exact ⟨bstr_inj, fun h => by rw [h]⟩
  obtain ⟨f0, f1, hu, n0, n1, t0, t1, o0, o1⟩ := pairU_spec hp
  have ai : isAggT P ti = false := by unfold isAggT; rw [hi]
  have as' : isAggT P ts = false := by unfold isAggT; rw [hs]
  have p1 : ∀ (n : Int) (s : List UInt8), (part f0.type #[.int .i64 n, .string (bstr s)] f0.offset).run P w = .ok (.int .i64 n) w := fun n s => by rw [t0, o0]; exact part_cell hi ai rfl
  have p2 : ∀ (n : Int) (s : List UInt8), (part f1.type #[.int .i64 n, .string (bstr s)] f1.offset).run P w = .ok (.string (bstr s)) w := fun n s => by rw [t1, o1]; exact part_cell hs as' rfl
  rw [← t0] at e1
  rw [← t1] at e2
  rw [show d + 2 = (d + 1) + 1 from rfl, Op.equalIn]
  simp only [Sem.run_bind, run_underlying' hu, Result.andThen, Sem.run_pure, run_program, hh, Bool.false_eq_true, if_false]
  rw [← Array.forIn_toList]
  by_cases h1 : n = m <;> by_cases h2 : s = u <;> simp [h1, h2, n0, n1, p1, p2, e1, e2, List.forIn_cons]
theorem pair_check (hp : pairU P t ti ts = true) (hi : P.underlying ti = some (.int .i64)) (hs : P.underlying ts = some .string) (b : Bool) (d : Nat) (n : Int) (s : List UInt8) (w : World) :
    (Instr.checkKey b (d + 2) t (.agg #[.int .i64 n, .string (bstr s)])).run P w = .ok () w := by
  have e1 : (Instr.checkKey b (d + 1) ti (.int .i64 n)).run P w = .ok () w := by simp [Instr.checkKey, run_underlying' hi]
  have e2 : (Instr.checkKey b (d + 1) ts (.string (bstr s))).run P w = .ok () w := by simp [Instr.checkKey, run_underlying' hs]
  obtain ⟨f0, f1, hu, n0, n1, t0, t1, o0, o1⟩ := pairU_spec hp
  have ai : isAggT P ti = false := by unfold isAggT; rw [hi]
  have as' : isAggT P ts = false := by unfold isAggT; rw [hs]
  have p1 : ∀ (n : Int) (s : List UInt8), (part f0.type #[.int .i64 n, .string (bstr s)] f0.offset).run P w = .ok (.int .i64 n) w := fun n s => by rw [t0, o0]; exact part_cell hi ai rfl
  have p2 : ∀ (n : Int) (s : List UInt8), (part f1.type #[.int .i64 n, .string (bstr s)] f1.offset).run P w = .ok (.string (bstr s)) w := fun n s => by rw [t1, o1]; exact part_cell hs as' rfl
  rw [← t0] at e1
  rw [← t1] at e2
  rw [show d + 2 = (d + 1) + 1 from rfl, Instr.checkKey]
  simp only [Sem.run_bind, run_underlying' hu, Result.andThen]
  rw [← Array.forIn_toList]
  simp [List.forIn_cons, n0, n1, p1, p2, e1, e2]
theorem pair_same (d : Nat) (n : Int) (s : List UInt8) : Instr.sameBits (d + 1) (.agg #[.int .i64 n, .string (bstr s)]) (.agg #[.int .i64 n, .string (bstr s)]) = true := by
  simp [Instr.sameBits, bytes_beq]
end

theorem sayP : pairU Try.prog 62 3 9 = true := by kernel_rfl
theorem sayI : Try.prog.underlying 3 = some (.int .i64) := by kernel_rfl
theorem sayS : Try.prog.underlying 9 = some .string := by kernel_rfl
theorem sayHeld : Try.prog.stoodInHeld 62 = false := by kernel_rfl

theorem sayOk : SK.KeysOk Try.prog 62 sayK where
  check b k w := pair_check sayP sayI sayS b 9998 k.1 k.2 w
  eq a b w := by
    have := pair_eq sayP sayHeld sayI sayS 9998 a.1 b.1 a.2 b.2 w
    exact this
  kd := by
    obtain ⟨f0, f1, hu, _⟩ := pairU_spec sayP
    exact ⟨_, hu, fun a b => rfl⟩
  same a := pair_same 9999 a.1 a.2

theorem bless_eq : ∀ (x y : List UInt8), Op.bytesLess x y = decide (x < y)
  | [], [] => by simp [Op.bytesLess]
  | _ :: _, [] => by simp [Op.bytesLess]
  | [], _ :: _ => by simp [Op.bytesLess]
  | a :: x, b :: y => by
    rw [Op.bytesLess, bless_eq x y]
    simp only [List.cons_lt_cons_iff]
    by_cases h1 : a < b <;> by_cases h2 : a = b <;> by_cases h3 : x < y <;> simp [h1, h2, h3]
def kLt (a b : ByteArray) : Prop := a.data.toList < b.data.toList
instance (a b : ByteArray) : Decidable (kLt a b) := inferInstanceAs (Decidable (_ < _))
theorem bless_kLt (a b : ByteArray) : Op.bytesLess a.toList b.toList = decide (kLt a b) := by
  rw [bless_eq, ByteArray.toList_eq, ByteArray.toList_eq]
  rfl
theorem kLt_irrefl (a : ByteArray) : ¬ kLt a a := List.lt_irrefl _
theorem kLt_trans {a b c : ByteArray} (h1 : kLt a b) (h2 : kLt b c) : kLt a c := List.lt_trans h1 h2
theorem bytes_inj' {a b : ByteArray} (h : a.data.toList = b.data.toList) : a = b := by
  obtain ⟨⟨a⟩⟩ := a
  obtain ⟨⟨b⟩⟩ := b
  simp only at h
  subst h
  rfl
theorem kLt_total (a b : ByteArray) : kLt a b ∨ a = b ∨ kLt b a := by
  by_cases h1 : kLt a b
  · exact .inl h1
  by_cases h2 : kLt b a
  · exact .inr (.inr h2)
  exact .inr (.inl (bytes_inj' (List.le_antisymm (List.not_lt.1 h2) (List.not_lt.1 h1))))
end Go.Proofs.Ytphkmbkmjhbenaa
