/- Votes compared; flags as an argument; what one disk says. -/
import Derived.Test.YtphkmbkmjhbenaaV10
import Derived.Test.YtphkmbkmjhbenaaA13
namespace Go.Proofs.Ytphkmbkmjhbenaa
open Go Go.Vc Go.ChangeShapes Go.WideShapes Go.ChangeAt

section
variable {H : Type} {enc : TypeId × Value → H} {w : World} {base : Nat} {sp : Nat → Bool} {held : Bool}
theorem open_bools {v : Value} {d : DataW H} {ps : List MemPlace} (hs : ∃ a l c, v = .slice a l c) (h : DataW.Trod enc Try.prog w base sp held 37 v d ps) :
    ∃ p l c ks, v = .slice p l c ∧ BoolsAt w p l ks := by
  obtain ⟨a, l, c, rfl⟩ := hs
  obtain ⟨fuel, h⟩ := h
  obtain ⟨p, l', c', he, _, _, _, hrow⟩ := rd_rows (t := 37) (e := 4) (k := 1) (by kernel_rfl) (by kernel_rfl) h
  cases he
  have hone : ∀ i, i < l → ∃ b : Bool, ∃ a', a = some a' ∧ w.cell? (a'.add i) = some (.bool b) := by
    intro i hi
    obtain ⟨a', ys, n, y, ha, ht, hlen, hc⟩ := hrow i hi
    obtain ⟨b, rfl, _⟩ := DataW.trod_bool (by kernel_rfl) ht
    have := hc 0 (by omega)
    rw [add_add, Nat.mul_one, Nat.add_zero] at this
    exact ⟨b, a', ha, this⟩
  have hlist : ∀ k, k ≤ l → ∃ ks : List Bool, ks.length = k ∧ ∀ i b, ks[i]? = some b → ∃ a', a = some a' ∧ w.cell? (a'.add i) = some (.bool b) := by
    intro k
    induction k with
    | zero => intro _; exact ⟨[], rfl, fun i b h => by simp at h⟩
    | succ k ih =>
      intro hk
      obtain ⟨ks, hl, hall⟩ := ih (by omega)
      obtain ⟨b, hb⟩ := hone k (by omega)
      refine ⟨ks ++ [b], by simp [hl], fun i b' h => ?_⟩
      rw [List.getElem?_append] at h
      split at h
      · exact hall i b' h
      · have hi : i = k := by
          have := (List.getElem?_eq_some_iff.1 h).1
          simp at this; omega
        subst hi
        rw [hl, Nat.sub_self] at h
        simp at h
        subst h
        exact hb
  obtain ⟨ks, hl, hall⟩ := hlist l (Nat.le_refl _)
  refine ⟨a, l, c, ks, rfl, hl.symm, fun j u hj => ?_⟩
  rw [List.getElem?_map, Option.map_eq_some_iff] at hj
  obtain ⟨b, hb, rfl⟩ := hj
  exact hall j b hb
end

theorem vsame_spec {w : World} {h : Bool} {e : Int} {p1 : Option Addr} {l1 c1 : Nat} {n : Int} {b : Bool} {p2 : Option Addr} {l2 c2 : Nat} {d : List UInt8} (h1 : BytesAt w p1 l1 d) (h2 : BytesAt w p2 l2 d) (hm : l1 ≤ 4611686018427387904) :
    Calls Try.prog 18 #[voteV h e p1 l1 c1 n b, voteV h e p2 l2 c2 n b] w fun e w' => e = .returned (.bool true) ∧ Ext w w' := by
  refine (F18_calls h e p1 l1 c1 n b h e p2 l2 c2 n b w (fun v w' => v = .bool true ∧ Ext w w') ?_).mono (by rintro e w' ⟨v, rfl, rfl, h⟩; exact ⟨rfl, h⟩)
  intro k11 w12 hk k13 w14 hk'
  have x14 := hk.ext.trans hk'.ext
  have r11 : RowW w14 k11 _ := hk'.ext.rowW ⟨_, hk.at⟩ id
  have r13 : RowW w14 k13 _ := ⟨_, hk'.at⟩
  refine ⟨_, _, _, r11.row.cell rfl, _, _, _, r13.row.cell rfl, ?_⟩
  refine (same_spec (h1.ext x14) (h2.ext x14) hm).mono ?_
  rintro e w17 ⟨rfl, hq⟩
  have r11' : RowW w17 k11 _ := hq.ext.rowW r11 id
  have r13' : RowW w17 k13 _ := hq.ext.rowW r13 id
  refine ⟨_, rfl, condB_t (decide_eq_true rfl) ⟨_, r11'.row.cell rfl, _, r13'.row.cell rfl, condB_t (by simp) ⟨_, r11'.row.cell rfl, _, r13'.row.cell rfl, condB_t (by simp) ⟨_, r11'.row.cell rfl, _, r13'.row.cell rfl, condB_t (by simp) ⟨_, r11'.row.cell rfl, _, r13'.row.cell rfl, by simp, x14.trans hq.ext⟩⟩⟩⟩⟩

theorem said_none {n : Int} {m : Mem} (h : unpackM n (readA n m) = none) : saidOf n m = ⟨0, [], false, decide (faultZ m.d.dead m.d.sectors n = 0 ∧ readA n m = [])⟩ := by
  unfold saidOf; rw [h]
theorem said_some {n e : Int} {m : Mem} {d : List UInt8} (h : unpackM n (readA n m) = some (e, d)) : saidOf n m = ⟨e, d, true, false⟩ ∧ faultZ m.d.dead m.d.sectors n = 0 ∧ (readA n m).length ≠ 0 := by
  refine ⟨by unfold saidOf; rw [h], ?_, ?_⟩
  · refine Decidable.byContradiction fun hz => ?_
    unfold readA at h
    rw [if_neg hz] at h
    unfold unpackM at h
    split at h
    · rename_i hk
      have := hk.1
      simp at this
    · cases h
  · intro h0
    unfold unpackM at h
    split at h
    · rename_i hk
      have := hk.1
      omega
    · cases h

theorem wit_full : ∀ {ks : List Bool} {L : List Said} {i : Nat}, ks.length ≤ i → wit ks (L.take i) = wit ks L
  | [], L, i, _ => by simp [wit]
  | k :: ks, [], i, _ => by simp
  | k :: ks, s :: L, 0, h => by simp at h
  | k :: ks, s :: L, i + 1, h => by
    have := wit_full (ks := ks) (L := L) (i := i) (by simpa using h)
    simp only [wit, List.take_succ_cons, List.zip_cons_cons, List.any_cons] at *
    rw [this]

/-- a disk is read, and what it says unpacked -/
theorem read_unpack {w : World} {a : Nat} {M : List Mem} {left : Int} {F : Nat → Prop} (h : IsArr w a M left false F) {i : Nat} {m : Mem} (hi : M[i]? = some m) (n : Int) {T : Ending → World → Prop}
    (hT : ∀ (e : Ending) (w1 : World), Ext w w1 → (∃ p l c, e = .returned (.tuple #[.slice p l c, .int .i64 (faultZ m.d.dead m.d.sectors n)]) ∧ l = (readA n m).length ∧
      Calls Try.prog 16 #[.int .i64 n, .slice p l c] w1 fun e2 w2 => ∃ v, e2 = .returned v ∧ UnP n (readA n m) w1 v w2) → T e w1) :
    Calls Try.prog 15 #[.pointer (some (at0 a)), .int .i64 (i : Int), .int .i64 n] w T := by
  refine (aread_spec h hi n).mono ?_
  rintro e w10 ⟨x10, p, l, c, bs, rfl, hbs, rfl, ob, hle⟩
  have hbs' : bs = readA n m := hbs
  subst hbs'
  have hba : BytesAt w10 p (readA n m).length (readA n m) := BytesAt.of_cells ob.cells
  have hcap : (readA n m).length ≤ c := by
    rcases ob.where_ with ⟨_, h0, h1⟩ | ⟨_, _, _, _, h0, _⟩
    · omega
    · exact h0
  exact hT _ _ x10 ⟨p, _, c, rfl, rfl, unpack_spec n hba (by omega) hcap⟩
end Go.Proofs.Ytphkmbkmjhbenaa
