/- The head of the statements on votes. -/
import Derived.Test.YtphkmbkmjhbenaaV9
import Derived.Test.YtphkmbkmjhbenaaAL5
import Derived.Test.YtphkmbkmjhbenaaA11
namespace Go.Proofs.Ytphkmbkmjhbenaa
open Go Go.Vc

theorem condB_t {b : Bool} {T E : Prop} (h : b = true) (t : T) : condB b T E := by subst h; exact t
theorem condB_f {b : Bool} {T E : Prop} (h : b = false) (t : E) : condB b T E := by subst h; exact t

theorem vote_cells {w : World} {has b : Bool} {e n : Int} {p : Option Addr} {l c : Nat} {T : Nat → World → Prop}
    (hT : ∀ k w', w.heap.size ≤ k → RowW w' k #[.bool has, .int .i64 e, .slice p l c, .int .i64 n, .bool b] → Ext w w' → T k w') :
    ∀ (k : Nat) (w22 : World), NewB w k (.cells #[.bool false, .int .i64 (0 : Int), .slice none 0 0, .int .i64 (0 : Int), .bool false] 25) w22 → (Live w22 (at0 k) ∧ (∀ w23 : World, SetC w22 (at0 k) (Value.bool has) w23 →
      (Live w23 ((at0 k).add 1) ∧ (∀ w24 : World, SetC w23 ((at0 k).add 1) (Value.int .i64 e) w24 → (Live w24 ((at0 k).add 2) ∧ (∀ w25 : World, SetC w24 ((at0 k).add 2) (Value.slice p l c) w25 →
      (Live w25 ((at0 k).add 3) ∧ (∀ w26 : World, SetC w25 ((at0 k).add 3) (Value.int .i64 n) w26 → (Live w26 ((at0 k).add 4) ∧ (∀ w27 : World, SetC w26 ((at0 k).add 4) (Value.bool b) w27 → T k w27)))))))))) := by
  intro k w5 hk
  have r5 : RowW w5 k _ := ⟨_, hk.at⟩
  have e0 : (at0 k) = (at0 k).add 0 := (add_at0 k 0).symm
  have hk0 : w.heap.size ≤ k := by rw [hk.size.1]; exact Nat.le_refl _
  refine ⟨by rw [e0]; exact r5.live (by simp), fun w10 s10 => ?_⟩
  rw [e0] at s10
  have r10 := s10.row r5
  refine ⟨r10.live (by simp), fun w11 s11 => ?_⟩
  have r11 := s11.row r10
  refine ⟨r11.live (by simp), fun w12 s12 => ?_⟩
  have r12 := s12.row r11
  refine ⟨r12.live (by simp), fun w13 s13 => ?_⟩
  have r13 := s13.row r12
  refine ⟨r13.live (by simp), fun w14 s14 => ?_⟩
  have r14 := s14.row r13
  exact hT k w14 hk0 r14 (setc_new (setc_new (setc_new (setc_new (setc_new hk.ext hk0 s10) hk0 s11) hk0 s12) hk0 s13) hk0 s14)

def awB : List UInt8 := packM 1 5 [7]
def awD : Mem := ⟨⟨4, [], [], false⟩, 0⟩
def awW : Mem := ⟨⟨4, [], [(1, awB)], false⟩, 0⟩
def awN : Mem := ⟨⟨4, [], [], false⟩, 1⟩
def awR : Mem := ⟨⟨4, [], [(1, awB)], false⟩, 1⟩
theorem aw1 : putM (fun _ => true) 1 5 [7] ⟨[awD, awD, awD], -1, false⟩ = (⟨[awW, awW, awW], -1, false⟩, 3, 0) := by kernel_rfl
theorem aw2 : sayL (saysM 1 [awW, awW, awW]) = [(5, [7]), (5, [7]), (5, [7])] := by kernel_rfl
theorem aw3 : wit [true] (saysM 1 [awW, awW, awW]) = true := by kernel_rfl
theorem aw4 : sayL (saysM 1 [awN, awW, awW]) = [(5, [7]), (5, [7])] := by kernel_rfl
theorem aw5 : mendM 1 (5, [7]) 2 ⟨[awN, awW, awW], -1, false⟩ = (⟨[awR, awW, awW], -1, false⟩, 1, 0) := by kernel_rfl
theorem aw6 : sayL (saysM 2 [awR, awW, awW]) = [] := by kernel_rfl
theorem best3 : Best [((5 : Int), [(7 : UInt8)]), (5, [7]), (5, [7])] (5, [7]) 3 := .inr ⟨by decide, by decide, by decide⟩
theorem best2 : Best [((5 : Int), [(7 : UInt8)]), (5, [7])] (5, [7]) 2 := .inr ⟨by decide, by decide, by decide⟩
theorem best0 : Best ([] : List Say) (0, []) 0 := .inl ⟨rfl, rfl, rfl⟩

set_option maxHeartbeats 4000000 in
theorem awake_spec (w : World) : Calls Try.prog 7 #[] w fun e w' => e = .returned (.bool true) ∧ Ext w w' := by
  refine (F7_calls w (fun v w' => v = .bool true ∧ Ext w w') ?_).mono (by rintro e w' ⟨v, rfl, rfl, h⟩; exact ⟨rfl, h⟩)
  unfold F7
  refine (anew_good (n := 3) (s := 4) ⟨by omega, by omega⟩ ⟨by omega, by omega⟩ w).mono ?_
  rintro e w1 ⟨a, F, rfl, x1, h1, hF⟩
  refine ⟨_, _, rfl, condB_of (fun h => by cases h) fun _ k5 w6 hk5 => ?_⟩
  have h6 : IsA w6 a ⟨[awD, awD, awD], -1, false⟩ F := IsArr.ext h1 hk5.ext
  have x6 : Ext w w6 := x1.trans hk5.ext
  have ok6 : OkA ⟨[awD, awD, awD], -1, false⟩ := ⟨by simp, by simp, by simp⟩
  refine (vwrite_spec h6 ok6 1 5 (BytesAt.one (b := 7) hk5.at) (by omega)).mono ?_
  rw [aw1]
  rintro e w7 ⟨F7, rfl, st7, h7⟩
  obtain ⟨x7, hF7⟩ := ext_stepA x6 st7 hF
  refine ⟨_, _, rfl, fun k11 w12 hk11 => ?_⟩
  have h12 : IsArr w12 a [awW, awW, awW] (-1) false F7 := IsArr.ext (show IsArr w7 a [awW, awW, awW] (-1) false F7 from h7) hk11.ext
  have hb12 : BoolsAt w12 (some (at0 k11)) 1 [true] := ⟨rfl, fun j u hj => ⟨_, rfl, Row.cell ⟨_, _, hk11.at⟩ (by simpa using hj)⟩⟩
  refine (vread_spec h12 (by simp) (by simp) hb12 1).mono ?_
  rintro e w13 ⟨x13, v, b, c, kd, cc, rfl, td⟩
  obtain ⟨hb, rfl, hkd, hdat⟩ := td
  rw [aw2] at hb
  obtain ⟨rfl, rfl⟩ := hb.unique best3
  rw [aw3]
  refine ⟨_, _, _, _, _, _, _, _, rfl, ?_⟩
  refine vote_cells fun k21 w27 hk21 r21 x27 => ?_
  have h27 : IsA w27 a ⟨[awW, awW, awW], -1, false⟩ F7 := IsArr.ext (IsArr.ext h12 x13) x27
  have xx27 : Ext w w27 := ((x7.trans hk11.ext).trans x13).trans x27
  have lt7 := IsArr.lt (show IsArr w7 a [awW, awW, awW] (-1) false F7 from h7)
  have sz12 := hk11.ext.size
  have sz13 := x13.size
  have nk21 : ¬ F7 k21 := fun h => by have := lt7 _ h; omega
  have nkd : ¬ F7 kd := fun h => by have := lt7 _ h; omega
  refine (replace_any h27 0).mono ?_
  rintro e w28 ⟨F28, z, rfl, st28, h28⟩
  have h28' : IsArr w28 a [awN, awW, awW] (-1) false F28 := h28
  obtain ⟨x28, hF28⟩ := ext_stepA xx27 st28 hF7
  have r21b : RowW w28 k21 _ := st28.upd.rowW r21 nk21
  have d28 : BytesAt w28 (some (at0 kd)) 1 [7] := (hdat.ext x27).upd st28.upd fun a ha _ => by cases ha; exact nkd
  have nk21b : ¬ F28 k21 := st28.apart r21.lt nk21
  have nkdb : ¬ F28 kd := st28.apart (by
    obtain ⟨a', ha, hlt⟩ := (hdat.ext x27).lt (by simp)
    cases ha; exact hlt) nkd
  refine ⟨_, rfl, ?_⟩
  refine (vread_spec h28' (by simp) (by simp) (BoolsAt.none w28 none) 1).mono ?_
  rintro e w31 ⟨x31, v, b, c, kd2, cc2, rfl, td⟩
  obtain ⟨hb, rfl, hkd2, _⟩ := td
  rw [aw4] at hb
  obtain ⟨rfl, rfl⟩ := hb.unique best2
  refine ⟨_, _, _, _, _, _, _, _, rfl, ?_⟩
  refine vote_cells fun k39 w45 hk39 r39 x45 => ?_
  have lt28 := IsArr.lt h28'
  have sz31 := x31.size
  have nk39 : ¬ F28 k39 := fun h => by have := lt28 _ h; omega
  have h45 : IsA w45 a ⟨[awN, awW, awW], -1, false⟩ F28 := IsArr.ext (IsArr.ext h28' x31) x45
  refine (vmend_spec h45 ⟨by simp, by simp, by simp⟩ (by simp) none 0 0 1).mono ?_
  rintro e w46 ⟨F46, b, c, hb, rfl, st46, h46⟩
  have hb := hb rfl
  rw [show sayL (saysM 1 ([awN, awW, awW] : List Mem)) = _ from aw4] at hb
  obtain ⟨rfl, rfl⟩ := hb.unique best2
  rw [aw5] at h46 ⊢
  have h46' : IsArr w46 a [awR, awW, awW] (-1) false F46 := h46
  obtain ⟨x46, hF46⟩ := ext_stepA ((x28.trans x31).trans x45) st46 hF28
  refine ⟨_, _, rfl, ?_⟩
  refine (vread_spec h46' (by simp) (by simp) (BoolsAt.none w46 none) 2).mono ?_
  rintro e w50 ⟨x50, v, b, c, kd3, cc3, rfl, td⟩
  obtain ⟨hb, rfl, _, _⟩ := td
  rw [aw6] at hb
  obtain ⟨rfl, rfl⟩ := hb.unique best0
  refine ⟨_, _, _, _, _, _, _, _, rfl, ?_⟩
  refine vote_cells fun k58 w64 hk58 r58 x64 => ?_
  have xx := x50.trans x64
  have q21 : RowW w64 k21 _ := xx.rowW (st46.upd.rowW ((x31.trans x45).rowW r21b id) nk21b) id
  have q39 : RowW w64 k39 _ := xx.rowW (st46.upd.rowW r39 nk39) id
  have qd : BytesAt w64 (some (at0 kd)) 1 [7] := ((d28.ext (x31.trans x45)).upd st46.upd fun a ha _ => by cases ha; exact nkdb).ext xx
  refine ⟨_, _, _, q21.row.cell rfl, condB_f rfl (condB_t rfl (condB_t rfl ⟨_, q21.row.cell rfl, condB_t rfl ⟨_, q21.row.cell rfl, condB_t rfl ⟨_, _, _, q21.row.cell rfl, ⟨by omega, by simp⟩, ?_⟩⟩⟩))⟩
  obtain ⟨_, ha, hc⟩ := qd.get (i := 0) (by omega)
  cases ha
  refine ⟨7, hc, condB_t rfl ⟨_, q21.row.cell rfl, condB_t rfl ⟨_, q21.row.cell rfl, condB_t rfl (condB_t rfl ⟨_, q39.row.cell rfl, condB_t rfl ⟨_, q39.row.cell rfl, condB_t rfl (condB_t rfl (condB_t rfl (condB_t rfl ⟨_, r58.row.cell rfl, condB_t rfl ⟨rfl, x46.trans xx⟩⟩)))⟩⟩)⟩⟩⟩
end Go.Proofs.Ytphkmbkmjhbenaa
