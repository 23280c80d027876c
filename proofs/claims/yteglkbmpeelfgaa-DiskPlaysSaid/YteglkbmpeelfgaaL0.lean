/- awake is true. -/
import Derived.Test.YteglkbmpeelfgaaC10
import Derived.Test.YteglkbmpeelfgaaGb
namespace Go.Proofs.Yteglkbmpeelfgaa
open Go Go.Vc

theorem BytesAt.one {w : World} {k : Nat} {b : UInt8} {fz : Nat × Nat} (h : w.heap[k]? = some (.cells #[.int .u8 (b.toNat : Int)] 5 fz)) : BytesAt w (some (at0 k)) 1 [b] := by
  have : CellsAt w (some (at0 k)) (encB [b]) := by
    intro j u hj
    refine ⟨_, rfl, ?_⟩
    match j, hj with
    | 0, hj => cases hj; simp [World.cell?, Addr.add, h]
  exact BytesAt.of_cells this
theorem cell_own {w : World} {base : Nat} {e : TypeId} {p : Option Addr} {l c : Nat} {b : UInt8} {bs : List UInt8} (h : OwnS w base e 1 p l c (encB (b :: bs))) : ∃ a, p = some a ∧ w.cell? (a.add 0) = some (.int .u8 (b.toNat : Int)) :=
  h.cells 0 _ rfl

theorem ownS_step {F F' : Nat → Prop} {w w' : World} {base : Nat} {e : TypeId} {sz : Nat} {p : Option Addr} {n c : Nat} {xs : List Value} (h : OwnS w base e sz p n c xs) (hs : Step F F' w w') (hF : ∀ x, F x → x < base) :
    OwnS w' base e sz p n c xs := by
  refine h.upd hs.upd fun g hg hg' => ?_
  rcases h.where_ with ⟨h0, _⟩ | ⟨g', h0, hb, _⟩
  · rw [h0] at hg; cases hg
  · rw [h0] at hg
    simp only [Option.some.injEq, at0, Addr.mk.injEq, and_true] at hg
    have := hF g hg'
    omega
theorem HeldS.step {F F' : Nat → Prop} {w w' : World} {base : Nat} {p : Option Addr} {l c : Nat} {L : SM} (h : HeldS w base p l c L) (hs : Step F F' w w') (hF : ∀ x, F x → x < base) : HeldS w' base p l c L :=
  h.upd hs.upd fun y hy _ h' => by have := hF y h'; omega

set_option maxHeartbeats 2000000 in
theorem awake_spec (w : World) : Calls Try.prog 11 #[] w fun e w' => e = .returned (.bool true) ∧ Ext w w' := by
  refine (F11_calls w (fun v w' => v = .bool true ∧ Ext w w') ?_).mono (by rintro e w' ⟨v, rfl, rfl, h⟩; exact ⟨rfl, h⟩)
  refine (d_new (n := 4) ⟨by omega, by omega⟩ w).mono ?_
  rintro e w1 ⟨b, F, rfl, hx1, h1, hF⟩
  refine ⟨_, _, rfl, ?_⟩
  refine (new_bad (n := 0) (.inl (by omega)) w1).mono ?_
  rintro e w5 ⟨rfl, rfl⟩
  refine ⟨_, _, rfl, condB_of (fun h => by simp at h) (fun _ => condB_of (fun h => by simp at h) (fun _ => condB_of (fun h => by simp at h) (fun _ => ?_)))⟩
  intro k9 w10 hk9
  have h10 := h1.ext hk9.ext
  refine (d_write h10 1 (BytesAt.one (b := 7) hk9.at)).mono ?_
  rintro e w11 ⟨F11, rfl, s11, h11⟩
  refine ⟨_, rfl, ?_⟩
  refine (d_read h11 1).mono ?_
  rintro e w14 ⟨x14, h14, p16, l16, c16, bs16, rfl, e16, l16e, own16, _⟩
  refine ⟨_, _, _, _, rfl, ?_⟩
  refine (d_lasts h14).mono ?_
  rintro e w18 ⟨p20, l20, c20, rfl, x18, h18, held20⟩
  refine ⟨_, _, _, rfl, ?_⟩
  refine (d_flush h18).mono ?_
  rintro e w21 ⟨rfl, s21, h21⟩
  refine ⟨_, rfl, ?_⟩
  intro k24 w25 hk24
  refine (d_write (h21.ext hk24.ext) 1 (BytesAt.one (b := 8) hk24.at)).mono ?_
  rintro e w26 ⟨F26, rfl, s26, h26⟩
  refine ⟨_, rfl, ?_⟩
  intro k29 w30 hk29
  refine (d_write (h26.ext hk29.ext) 2 (BytesAt.one (b := 9) hk29.at)).mono ?_
  rintro e w31 ⟨F31, rfl, s31, h31⟩
  refine ⟨_, rfl, ?_⟩
  intro k34 w35 hk34
  have hi : IntsAt w35 (some (at0 k34)) 1 [2] := ⟨rfl, fun j u hj => ⟨_, rfl, by
    match j, hj with
    | 0, hj => cases hj; simp [World.cell?, Addr.add, hk34.at]⟩⟩
  refine (d_crash (h31.ext hk34.ext) hi (by omega) (by
    rintro a ⟨⟩ _ hF'
    have := h31.lt _ hF'
    have h2 := hk34.size.1
    have h3 : (at0 k34).block = k34 := rfl
    omega)).mono ?_
  rintro e w36 ⟨rfl, s36, h36⟩
  refine ⟨rfl, ?_⟩
  refine (d_read h36 1).mono ?_
  rintro e w38 ⟨x38, h38, p40, l40, c40, bs40, rfl, e40, l40e, own40, _⟩
  refine ⟨_, _, _, _, rfl, ?_⟩
  refine (d_read h38 2).mono ?_
  rintro e w42 ⟨x42, h42, p44, l44, c44, bs44, rfl, e44, l44e, own44, _⟩
  refine ⟨_, _, _, _, rfl, ?_⟩
  refine (d_read h42 4).mono ?_
  rintro e w46 ⟨x46, h46, p48, l48, c48, bs48, rfl, e48, l48e, own48, _⟩
  refine ⟨_, _, _, _, rfl, ?_⟩
  refine (d_fail h46).mono ?_
  rintro e w50 ⟨rfl, s50, h50⟩
  refine ⟨rfl, ?_⟩
  refine (d_read h50 1).mono ?_
  rintro e w52 ⟨x52, h52, p54, l54, c54, bs54, rfl, e54, l54e, own54, _⟩
  refine ⟨_, _, _, _, rfl, ?_⟩
  -- what was read
  have v16 : bs16 = [7] := by rw [e16]; decide
  have v40 : bs40 = [7] := by rw [e40]; decide
  have v44 : bs44 = [9] := by rw [e44]; decide
  have v20 := held20.length
  subst v16 v40 v44
  subst l16e l40e l44e v20
  have t38 := ((Step.ext x42).trans (Step.ext x46)).trans (s50.trans (Step.ext x52))
  have t42 := (Step.ext (F := F31) x46).trans (s50.trans (Step.ext x52))
  have t31 := ((Step.ext hk34.ext).trans s36).trans ((Step.ext x38).trans t38)
  have t21 := ((Step.ext hk24.ext).trans s26).trans (((Step.ext hk29.ext).trans s31).trans t31)
  have t14 := ((Step.ext x18).trans s21).trans t21
  obtain ⟨a16, rfl, c16⟩ := cell_own (ownS_step own16 t14 h11.lt)
  obtain ⟨a40, rfl, c40⟩ := cell_own (ownS_step own40 t38 h36.lt)
  obtain ⟨a44, rfl, c44⟩ := cell_own (ownS_step own44 t42 h38.lt)
  refine condB_of (fun h => absurd h (by decide)) fun _ => condB_of (fun h => absurd h (by decide)) fun _ => condB_of (fun h => absurd h (by decide)) fun _ => ?_
  refine condB_of (fun _ => ?_) fun h => absurd h (by decide)
  refine ⟨⟨by decide, by decide⟩, _, c16, ?_⟩
  refine condB_of (fun _ => ?_) fun h => absurd h (by decide)
  refine condB_of (fun _ => ?_) fun h => absurd h (by decide)
  refine condB_of (fun _ => ?_) fun h => absurd h (by decide)
  refine ⟨⟨by decide, by decide⟩, _, c40, ?_⟩
  refine condB_of (fun _ => ?_) fun h => absurd h (by decide)
  refine ⟨⟨by decide, by decide⟩, _, c44, ?_⟩
  refine condB_of (fun _ => ?_) fun h => absurd h (by decide)
  refine condB_of (fun _ => ?_) fun h => absurd h (by decide)
  refine condB_of (fun _ => ?_) fun h => absurd h (by decide)
  refine (d_dead h52).mono ?_
  rintro e w62 ⟨rfl, rfl⟩
  refine ⟨_, rfl, rfl, ?_⟩
  -- all that was there stays
  have hall := ((Step.ext (F := F) hk9.ext).trans s11).trans ((Step.ext x14).trans t14)
  refine Upd.trans hx1 hall.upd fun x hx hF' => ?_
  have := hF x hF'
  omega
end Go.Proofs.Yteglkbmpeelfgaa
