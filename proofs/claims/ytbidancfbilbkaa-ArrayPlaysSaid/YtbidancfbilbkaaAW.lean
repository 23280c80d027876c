/- law13's awake is true. -/
import Derived.Test.YtbidancfbilbkaaA4
namespace Go.Proofs.Ytbidancfbilbkaa
open Go Go.Vc

theorem cell_own0 {w : World} {base : Nat} {e : TypeId} {p : Option Addr} {l c : Nat} {v : Value} {vs : List Value} (h : OwnS w base e 1 p l c (v :: vs)) : ∃ a, p = some a ∧ w.cell? (a.add 0) = some v := h.cells 0 _ rfl
theorem cell_own1 {w : World} {base : Nat} {e : TypeId} {a : Addr} {l c : Nat} {v v' : Value} {vs : List Value} (h : OwnS w base e 1 (some a) l c (v' :: v :: vs)) : w.cell? (a.add 1) = some v := by
  obtain ⟨a', ha, hc⟩ := h.cells 1 _ rfl
  cases ha; exact hc

set_option maxHeartbeats 4000000 in
theorem awake_spec (w : World) : Calls Try.prog 9 #[] w fun e w' => e = .returned (.bool true) ∧ Ext w w' := by
  refine (F9_calls w (fun v w' => v = .bool true ∧ Ext w w') ?_).mono (by rintro e w' ⟨v, rfl, rfl, h⟩; exact ⟨rfl, h⟩)
  refine (anew_good (n := 2) (s := 4) ⟨by omega, by omega⟩ ⟨by omega, by omega⟩ w).mono ?_
  rintro e w1 ⟨a, F, rfl, x1, h1, hF⟩
  refine ⟨_, _, rfl, ?_⟩
  refine (anew_bad (n := 33) (s := 4) (.inr (by omega)) w1).mono ?_
  rintro e w5 ⟨rfl, rfl⟩
  refine ⟨_, _, rfl, condB_of (fun h => by simp at h) fun _ => condB_of (fun h => by simp at h) fun _ => condB_of (fun h => by simp at h) fun _ => ?_⟩
  refine (after_spec h1 1).mono ?_
  rintro e w9 ⟨rfl, s9, h9⟩
  obtain ⟨y9, hF9⟩ : Ext w w9 ∧ ∀ x, F x → w.heap.size ≤ x := ⟨Upd.trans x1 s9.upd fun x hx hf => (by have := hF x hf; omega), hF⟩
  refine ⟨rfl, fun k11 w12 hk11 => ?_⟩
  have h12 : IsArr w12 a [⟨⟨4, [], [], false⟩, 0⟩, ⟨⟨4, [], [], false⟩, 0⟩] 1 false F := h9.ext hk11.ext
  refine (awrite_spec h12 ⟨by omega, by omega⟩ (i := 0) rfl 1 (BytesAt.one (b := 7) hk11.at)).mono ?_
  rintro e w13 ⟨F13, rfl, s13, h13⟩
  have h13' : IsArr w13 a [⟨⟨4, [], [(1, [7])], false⟩, 0⟩, ⟨⟨4, [], [], false⟩, 0⟩] 0 true F13 := h13
  refine ⟨_, rfl, ?_⟩
  refine (aread_down h13' 0 1).mono ?_
  rintro e w16 ⟨rfl, rfl⟩
  refine ⟨_, _, _, _, rfl, ?_⟩
  refine (adown_spec h13').mono ?_
  rintro e w20 ⟨rfl, rfl⟩
  refine ⟨_, rfl, fun k23 w24 hk23 k25 w26 hk25 => ?_⟩
  have x26 := hk23.ext.trans hk25.ext
  have h26 := h13'.ext x26
  have hs1 := hk23.size
  have hs2 := hk25.size
  have hK : KeepAt w26 (fun x => x = k23 ∨ x = k25) (some (at0 k25)) 1 [[1]] := by
    refine ⟨rfl, fun i ks hi => ?_⟩
    match i, hi with
    | 0, hi =>
      cases hi
      refine ⟨_, some (at0 k23), 1, 1, rfl, .inr rfl, ?_, ⟨rfl, ?_⟩, ?_, by omega⟩
      · simp [World.cell?, Addr.add, hk25.at]
      · intro j u hj
        have hb := hk25.ext.keep hk23.at
        match j, hj with
        | 0, hj => cases hj; exact ⟨_, rfl, by simp [World.cell?, Addr.add, hb]⟩
      · rintro _ a' ⟨⟩
        exact .inl rfl
  have hlt13 := h13'.lt
  refine (restart_spec h26 (by decide) (by rintro x (rfl | rfl) hf <;> (have := hlt13 _ hf; omega)) (by rintro x (rfl | rfl) <;> omega) hK).mono ?_
  rintro e w27 ⟨F27, rfl, s27, h27⟩
  have h27' : IsArr w27 a [⟨⟨4, [(1, [7])], [], false⟩, 0⟩, ⟨⟨4, [], [], false⟩, 0⟩] (-1) false F27 := h27
  refine ⟨rfl, ?_⟩
  refine (aread_spec h27' (i := 0) rfl 1).mono ?_
  rintro e w29 ⟨x29, p31, l31, c31, bs, rfl, ebs, el, own31, _⟩
  have vbs : bs = [7] := by rw [ebs]; decide
  subst vbs
  subst el
  have h29 := h27'.ext x29
  refine ⟨_, _, _, _, rfl, ?_⟩
  refine (afail_spec h29 (i := 1) rfl).mono ?_
  rintro e w33 ⟨F33, rfl, s33, h33⟩
  have h33' : IsArr w33 a [⟨⟨4, [(1, [7])], [], false⟩, 0⟩, ⟨⟨4, [], [], true⟩, 1⟩] (-1) false F33 := h33
  refine ⟨_, rfl, ?_⟩
  refine (live_spec h33' (by decide)).mono ?_
  rintro e w36 ⟨p38, l38, c38, rfl, x36, rfl, own38⟩
  have h36 := h33'.ext x36
  refine ⟨_, _, _, rfl, ?_⟩
  refine (births_spec h36 (by decide)).mono ?_
  rintro e w39 ⟨p41, l41, c41, rfl, x39, rfl, own41⟩
  have h39 := h36.ext x39
  refine ⟨_, _, _, rfl, ?_⟩
  have hlt27 := h27'.lt
  have t39 := (s33.trans (Step.ext x36)).trans (Step.ext x39)
  have own31' := ownS_step own31 t39 hlt27
  obtain ⟨a31, rfl, c0⟩ := cell_own own31'
  have own38' := own38.ext x39
  obtain ⟨a38, rfl, d0⟩ := cell_own0 own38'
  have d1 := cell_own1 own38'
  obtain ⟨a41, rfl, e0⟩ := cell_own0 own41
  have e1 := cell_own1 own41
  have b31 : BytesAt w39 (some a31) 1 [7] := BytesAt.of_cells own31'.cells
  -- what stays
  have st : Step F F33 w9 w39 := (((Step.ext hk11.ext).trans s13).trans (Step.ext x26)).trans ((s27.trans (Step.ext x29)).trans t39)
  obtain ⟨y39, hF33⟩ : Ext w w39 ∧ ∀ x, F33 x → w.heap.size ≤ x := by
    refine ⟨Upd.trans y9 st.upd fun x hx hf => (by have := hF9 x hf; omega), fun x hx => ?_⟩
    rcases st.grow x hx with h | h
    · exact hF9 x h
    · exact Nat.le_trans y9.size h
  refine condB_of (fun h => absurd h (by decide)) fun _ => condB_of (fun h => absurd h (by decide)) fun _ => condB_of (fun h => absurd h (by decide)) fun _ => ?_
  refine condB_of (fun _ => ?_) fun h => absurd h (by decide)
  refine condB_of (fun _ => ?_) fun h => absurd h (by decide)
  refine condB_of (fun _ => ?_) fun h => absurd h (by decide)
  refine ⟨⟨by decide, by decide⟩, _, c0, ?_⟩
  refine condB_of (fun _ => ?_) fun h => absurd h (by decide)
  refine condB_of (fun _ => ?_) fun h => absurd h (by decide)
  refine condB_of (fun _ => ?_) fun h => absurd h (by decide)
  refine ⟨⟨by decide, by decide⟩, _, d0, ?_⟩
  refine condB_of (fun _ => ?_) fun h => absurd h (by decide)
  refine ⟨⟨by decide, by decide⟩, _, d1, ?_⟩
  refine condB_of (fun _ => ?_) fun h => absurd h (by decide)
  refine ⟨⟨by decide, by decide⟩, _, e0, ?_⟩
  refine condB_of (fun _ => ?_) fun h => absurd h (by decide)
  refine ⟨⟨by decide, by decide⟩, _, e1, ?_⟩
  refine condB_of (fun _ => ?_) fun h => absurd h (by decide)
  refine (awrite_spec h39 ⟨by omega, by omega⟩ (i := 1) rfl 1 b31).mono ?_
  rintro e w52 ⟨F52, rfl, s52, h52⟩
  have h52' : IsArr w52 a [⟨⟨4, [(1, [7])], [], false⟩, 0⟩, ⟨⟨4, [], [], true⟩, 1⟩] (-1) false F52 := h52
  refine ⟨_, rfl, ?_⟩
  refine condB_of (fun _ => ?_) fun h => absurd h (by decide)
  refine (awrite_out h52' (i := 2) (by decide) 1 _ _ _).mono ?_
  rintro e w55 ⟨rfl, rfl⟩
  refine ⟨_, rfl, rfl, ?_⟩
  exact Upd.trans y39 s52.upd fun x hx hf => (by have := hF33 x hf; omega)
end Go.Proofs.Ytbidancfbilbkaa
