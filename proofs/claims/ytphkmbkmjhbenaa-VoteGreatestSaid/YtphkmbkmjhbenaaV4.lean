/- What the disks say. -/
import Derived.Test.YtphkmbkmjhbenaaV3
import Derived.Test.YtphkmbkmjhbenaaA8
import Derived.Laws.IdiomStrings
namespace Go.Proofs.Ytphkmbkmjhbenaa
open Go Go.Vc

def bstr (d : List UInt8) : ByteArray := ⟨d.toArray⟩
theorem bstr_inj {a b : List UInt8} (h : bstr a = bstr b) : a = b := by
  have : (bstr a).data.toList = (bstr b).data.toList := by rw [h]
  simpa [bstr] using this
theorem bstr_size (d : List UInt8) : (bstr d).size = d.length := by simp [bstr, ByteArray.size]

/-- string(b) -/
theorem toStr {w : World} {p : Option Addr} {l c : Nat} {d : List UInt8} (h : BytesAt w p l d) : bytesStr Try.prog (.slice p l c) w (bstr d) := by
  have hl := h.1
  cases p with
  | none =>
    have hd : d = [] := by
      refine Decidable.byContradiction fun hn => ?_
      obtain ⟨a, ha, _⟩ := h.2 hn
      cases ha
    subst hd
    rfl
  | some a =>
    unfold bytesStr
    have hc := h.cells
    have hll := run_loadCells_list (P := Try.prog) w a (encB d) (fun j v hj => by
      obtain ⟨a', ha, hv⟩ := hc j v hj
      cases ha; exact hv)
    have e : encB d = (d.map fun b => (b.toNat : Int)).map (Value.int .u8) := by simp [encB]
    rw [encB_length, ← hl] at hll
    rw [run_bytesToString w a l c (d.map fun b => (b.toNat : Int)) (by rw [hll, e]), foldl_push_byteCells]
    have he0 : ByteArray.empty.data = #[] := rfl
    rw [he0]
    simp [bstr]

/-- []byte(s) -/
theorem ofStr (w : World) (d : List UInt8) : ∃ c w', Sem.run Try.prog (convert 9 22 (.string (bstr d))) w = .ok (.slice (some (at0 w.heap.size)) d.length c) w' ∧ Ext w w' ∧ BytesAt w' (some (at0 w.heap.size)) d.length d ∧ w.heap.size < w'.heap.size := by
  have hr := run_bytes_of_string (P := Try.prog) w 9 22 5 (bstr d) (by kernel_rfl) (by kernel_rfl) (by kernel_rfl)
  rw [bstr_size] at hr
  have hx : Ext w w.drew := Quiet.ext ⟨rfl, rfl, rfl, rfl⟩
  refine ⟨_, _, hr, ?_, ?_, by show w.heap.size < (w.heap.push _).size; simp⟩
  · refine ⟨rfl, rfl, rfl, by show w.heap.size ≤ (w.heap.push _).size; simp, fun k hk _ => ?_⟩
    show (w.heap.push _)[k]? = _
    rw [Array.getElem?_push, if_neg (by omega)]
  · refine BytesAt.of_cells fun j u hj => ⟨_, rfl, Row.cell ⟨_, _, by show (w.heap.push _)[w.heap.size]? = _; rw [Array.getElem?_push, if_pos rfl]⟩ ?_⟩
    have hj' : j < d.length := by
      have := (List.getElem?_eq_some_iff.1 hj).1
      simpa [encB] using this
    unfold bytesRow
    rw [Array.getElem?_append_left (by simp [bstr, hj'])]
    simpa [bstr, encB] using hj

structure Said where
  epoch : Int
  data : List UInt8
  is : Bool
  none : Bool

def readA (addr : Int) (m : Mem) : List UInt8 := if faultZ m.d.dead m.d.sectors addr = 0 then readD m.d addr else []
def saidOf (addr : Int) (m : Mem) : Said :=
  match unpackM addr (readA addr m) with
  | some (n, d) => ⟨n, d, true, false⟩
  | Option.none => ⟨0, [], false, decide (faultZ m.d.dead m.d.sectors addr = 0 ∧ readA addr m = [])⟩
def saidV (s : Said) : List Value := [.int .i64 s.epoch, .string (bstr s.data), .bool s.is, .bool s.none]
def saidsV (L : List Said) : List Value := L.flatMap saidV

theorem saidsV_len (L : List Said) : (saidsV L).length = L.length * 4 := by
  induction L with
  | nil => rfl
  | cons s L ih => simp only [saidsV, List.flatMap_cons, List.length_append, List.length_cons] at *; rw [ih]; simp [saidV]; omega
theorem saidsV_at : ∀ {L : List Said} {i : Nat} {s : Said} {j : Nat} {v : Value}, L[i]? = some s → (saidV s)[j]? = some v → (saidsV L)[i * 4 + j]? = some v
  | [], _, _, _, _, h, _ => by simp at h
  | s0 :: L, 0, s, j, v, h, hj => by
    simp only [List.getElem?_cons_zero, Option.some.injEq] at h
    subst h
    rw [Nat.zero_mul, Nat.zero_add]
    show (saidV s0 ++ saidsV L)[j]? = _
    rw [List.getElem?_append_left (List.getElem?_eq_some_iff.1 hj).1]
    exact hj
  | s0 :: L, i + 1, s, j, v, h, hj => by
    have := saidsV_at (L := L) (i := i) (by simpa using h) hj
    show (saidV s0 ++ saidsV L)[(i + 1) * 4 + j]? = _
    rw [List.getElem?_append_right (by simp [saidV]; omega)]
    have e : (i + 1) * 4 + j - (saidV s0).length = i * 4 + j := by simp [saidV]; omega
    rw [e]; exact this

theorem elemSaid : ElemOf Try.prog 58 66 4 32 := ⟨by kernel_rfl, ⟨Try.t66, .agg #[.int .i64 0, .string ⟨#[]⟩, .bool false, .bool false], by kernel_rfl, by kernel_rfl, by kernel_rfl, by kernel_rfl, by kernel_rfl⟩, by decide⟩

theorem app_many {P : Program} {t e : TypeId} {sz bytes : Nat} (E : ElemOf P t e sz bytes) (hby : bytes ≤ 64) {w0 w : World} (hx : Ext w0 w) {p : Option Addr} {n c : Nat} {xs : List Value} (h : OwnS w w0.heap.size e sz p n c xs) {k : Nat} {vs : List Value} {w1 : World}
    (hk : NewB w k (.cells vs.toArray e) w1) (hl : vs.length = sz) (hv : ∀ v ∈ vs, v.oneCell' = true) (hn : n ≤ 100000) :
    ∃ p' c' w', Sem.run P (Builtin.append_ #[t, t] t #[.slice p n c, .slice (some (at0 k)) 1 1]) w1 = .ok (.slice p' (n + 1) c') w' ∧ OwnS w' w0.heap.size e sz p' (n + 1) c' (xs ++ vs) ∧ Ext w0 w' := by
  have hbox : CellsAt w1 (some (at0 k)) vs := fun j u hj => ⟨_, rfl, Row.cell ⟨_, _, hk.at⟩ (by simpa using hj)⟩
  have hx1 := hx.trans hk.ext
  have h' := h.ext hk.ext
  have hmul : (n + 1) * bytes ≤ (100000 + 1) * 64 := Nat.mul_le_mul (by omega) hby
  obtain ⟨p', c', w', hr, ho, hu, _⟩ := h'.append E t (q := some (at0 k)) (m := 1) (d := 1) (news := vs) (by rw [hl, Nat.one_mul]) hbox (fun h => by cases h) hv (by unfold maxLen; omega) (by omega) hx1.size
  refine ⟨p', c', w', hr, ho, ?_⟩
  refine Upd.trans hx1 hu fun x hx' hs => ?_
  rcases h'.where_ with ⟨h0, _⟩ | ⟨g, h0, hge, _⟩
  · rw [h0] at hs; cases hs
  · rw [h0] at hs
    simp only [Option.some.injEq, at0, Addr.mk.injEq, and_true] at hs
    omega
theorem saidV_one (s : Said) : ∀ v ∈ saidV s, v.oneCell' = true := by
  intro v hv
  simp only [saidV, List.mem_cons, List.mem_nil_iff, or_false] at hv
  rcases hv with rfl | rfl | rfl | rfl <;> rfl

def saysM (addr : Int) (M : List Mem) : List Said := M.map (saidOf addr)

theorem ask_nil (n : Int) (w : World) : Calls Try.prog 22 #[.pointer none, .int .i64 n] w fun e w' => e = .returned (.tuple #[.slice none 0 0, .int .i64 1]) ∧ w' = w := by
  refine (F22_calls none n w (fun v w' => v = .tuple #[.slice none 0 0, .int .i64 1] ∧ w' = w) (fun _ _ _ _ _ _ _ => False) (fun _ _ _ _ _ _ _ => 0) ?_).mono (by rintro e w' ⟨v, rfl, rfl, h⟩; exact ⟨rfl, h⟩)
  exact ⟨rfl, rfl⟩

section
variable {w : World} {a : Nat} {M : List Mem} {left : Int} {down : Bool} {F : Nat → Prop}

set_option maxHeartbeats 2000000 in
theorem ask_spec (h : IsArr w a M left down F) (hM : M.length ≤ 100) (h1 : 1 ≤ M.length) (n : Int) : Calls Try.prog 22 #[.pointer (some (at0 a)), .int .i64 n] w fun e w' => Ext w w' ∧
    if down then e = .returned (.tuple #[.slice none 0 0, .int .i64 130])
    else ∃ p c, e = .returned (.tuple #[.slice p M.length c, .int .i64 0]) ∧ OwnS w' w.heap.size 66 4 p M.length c (saidsV (saysM n M)) := by
  refine (F22_calls (some (at0 a)) n w (fun v w' => Ext w w' ∧ if down then v = .tuple #[.slice none 0 0, .int .i64 130]
    else ∃ p c, v = .tuple #[.slice p M.length c, .int .i64 0] ∧ OwnS w' w.heap.size 66 4 p M.length c (saidsV (saysM n M)))
    (fun _ _ p7 l7 c7 n8 w9 => ∃ i : Nat, n8 = i ∧ i ≤ M.length ∧ Ext w w9 ∧ l7 = i ∧ OwnS w9 w.heap.size 66 4 p7 l7 c7 (saidsV ((saysM n M).take i)) ∧ (down = true → i = 0)) (fun _ _ _ _ _ n8 _ => 100 - n8.toNat) ?_).mono (by
      rintro e w' ⟨v, rfl, hx, h⟩
      refine ⟨hx, ?_⟩
      split at h
      · rw [if_pos (by assumption), h]
      · rw [if_neg (by assumption)]; obtain ⟨p, c, rfl, h⟩ := h; exact ⟨p, c, rfl, h⟩)
  unfold F22
  refine condB_of (fun h => by cases h) fun _ => (live_spec h hM).mono ?_
  rintro e w3 ⟨pL, lL, cL, rfl, hx3, rfl, hL⟩
  refine ⟨_, _, _, rfl, ⟨0, rfl, Nat.zero_le _, hx3, rfl, OwnS.nil _ _ _ _, fun _ => rfl⟩, ?_⟩
  rintro p7 l7 c7 n8 w9 ⟨i, rfl, hi, x9, rfl, own, hdn⟩
  intros
  refine condB_of (fun hlt => ?_) (fun hge => ?_)
  · simp only [decide_eq_true_eq] at hlt
    have h9 := h.ext x9
    cases down with
    | true =>
      refine (aread_down h9 _ n).mono ?_
      rintro e w10 ⟨rfl, rfl⟩
      refine ⟨_, _, _, _, rfl, condB_of (fun _ => ⟨x9, ?_⟩) fun h => by simp at h⟩
      rw [if_pos rfl]
    | false =>
      obtain ⟨m, hm⟩ : ∃ m, M[l7]? = some m := ⟨M[l7]'(by omega), List.getElem?_eq_getElem _⟩
      refine (aread_spec h9 hm n).mono ?_
      rintro e w10 ⟨x10, p, l, c, bs, rfl, hbs, rfl, ob, hle⟩
      refine ⟨_, _, _, _, rfl, condB_of (fun h130 => ?_) fun _ => ?_⟩
      · exfalso
        simp only [decide_eq_true_eq] at h130
        unfold faultZ at h130
        split at h130
        · omega
        · split at h130 <;> omega
      have hbs' : bs = readA n m := hbs
      have hba : BytesAt w10 p bs.length bs := BytesAt.of_cells ob.cells
      have hcap : bs.length ≤ c := by
        rcases ob.where_ with ⟨_, h0, h1⟩ | ⟨_, _, _, _, h0, _⟩
        · omega
        · exact h0
      refine (unpack_spec n hba (by omega) hcap).mono ?_
      rintro e w11 ⟨v, rfl, x11, hv⟩
      have fin : ∀ (s : Said), saidOf n m = s → ∀ (k : Nat) (w70 : World), NewB w11 k (.cells (saidV s).toArray 66) w70 →
          ∃ (p72 : Option Addr) (l72 c72 : Nat), ∃ w71 : World, Sem.run Try.prog (Builtin.append_ #[58, 58] 58 #[.slice p7 l7 c7, .slice (some (at0 k)) 1 1]) w70 = .ok (.slice p72 l72 c72) w71 ∧
            ((∃ i : Nat, IntKind.i64.wrap ((l7 : Int) + 1) = i ∧ i ≤ M.length ∧ Ext w w71 ∧ l72 = i ∧ OwnS w71 w.heap.size 66 4 p72 l72 c72 (saidsV ((saysM n M).take i)) ∧ (false = true → i = 0)) ∧ 100 - (IntKind.i64.wrap ((l7 : Int) + 1)).toNat < 100 - (l7 : Int).toNat) := by
        intro s hs k w70 hk
        have x := (x9.trans x10).trans x11
        obtain ⟨p', c', w', hr, ho, hx'⟩ := app_many elemSaid (by omega) x ((own.ext x10).ext x11) hk rfl (saidV_one s) (by omega)
        refine ⟨p', l7 + 1, c', w', hr, ?_⟩
        rw [w64 (by omega)]
        refine ⟨⟨l7 + 1, by omega, by omega, hx', rfl, ?_, fun h => by cases h⟩, by omega⟩
        have e : (saysM n M).take (l7 + 1) = (saysM n M).take l7 ++ [s] := by
          rw [List.take_add_one]
          simp [saysM, hm, hs]
        rw [e]
        simpa [saidsV] using ho
      cases hu : unpackM n bs with
      | none =>
        rw [hu] at hv
        subst hv
        refine ⟨_, _, _, _, _, rfl, bstr [], toStr (BytesAt.nil _ _), ?_⟩
        have hs : saidOf n m = ⟨0, [], false, decide (faultZ m.d.dead m.d.sectors n = 0 ∧ bs = [])⟩ := by
          unfold saidOf; rw [← hbs', hu]
        refine condB_of (fun hz => ?_) (fun hz => ?_)
        · rw [hz]
          refine condB_of (fun _ => ?_) (fun h => by cases h)
          intro k w70 hk
          refine fin ⟨0, [], false, decide (((bs.length : Nat) : Int) = 0)⟩ ?_ k w70 hk
          rw [hs]
          congr 1
          simp only [decide_eq_true_eq] at hz
          rw [decide_eq_decide]
          constructor
          · rintro ⟨_, rfl⟩; rfl
          · intro h; exact ⟨hz, List.eq_nil_of_length_eq_zero (by omega)⟩
        · rw [hz]
          refine condB_of (fun h => by cases h) (fun _ => ?_)
          intro k w70 hk
          refine fin ⟨0, [], false, false⟩ ?_ k w70 hk
          rw [hs]
          congr 1
          simp only [decide_eq_false_iff_not] at hz
          simp [hz]
      | some nd =>
        obtain ⟨n', d⟩ := nd
        rw [hu] at hv
        obtain ⟨p', c', rfl, hd⟩ := hv
        have hz : faultZ m.d.dead m.d.sectors n = 0 := by
          refine Decidable.byContradiction fun hz => ?_
          rw [if_neg hz] at hbs
          subst hbs
          unfold unpackM at hu
          split at hu
          · rename_i hk
            have := hk.1
            simp at this
          · cases hu
        have hne : bs.length ≠ 0 := by
          intro h0
          unfold unpackM at hu
          split at hu
          · rename_i hk
            have := hk.1
            omega
          · cases hu
        have hs : saidOf n m = ⟨n', d, true, false⟩ := by
          unfold saidOf; rw [← hbs', hu]
        refine ⟨_, _, _, _, _, rfl, bstr d, toStr (BytesAt.of_cells hd.cells), ?_⟩
        have hz' : decide (faultZ m.d.dead m.d.sectors n = 0) = true := decide_eq_true hz
        refine condB_of (fun _ => ?_) (fun h => by rw [hz'] at h; cases h)
        refine condB_of (fun _ => ?_) (fun h => by rw [hz'] at h; cases h)
        intro k w70 hk
        refine fin ⟨n', d, true, false⟩ hs k w70 ?_
        rw [decide_eq_false (show ¬ ((bs.length : Nat) : Int) = 0 by omega)] at hk
        exact hk
  · simp only [decide_eq_false_iff_not] at hge
    have hle : l7 = M.length := by omega
    subst hle
    refine ⟨x9, ?_⟩
    rw [if_neg (by intro hd; have := hdn hd; omega)]
    refine ⟨p7, c7, rfl, ?_⟩
    rw [List.take_of_length_le (by simp [saysM])] at own
    exact own
end
end Go.Proofs.Ytphkmbkmjhbenaa
