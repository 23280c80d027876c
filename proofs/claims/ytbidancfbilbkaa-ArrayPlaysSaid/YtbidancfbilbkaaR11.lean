/- Both arrays are not made where sectors are not as they may be. -/
import Derived.Test.YtbidancfbilbkaaR10
namespace Go.Proofs.Ytbidancfbilbkaa
open Go Go.Vc

theorem anew_secs {n s : Int} (h : 1 ≤ n ∧ n ≤ 32) (hs : s < 1 ∨ 4096 < s) (w : World) : Calls Try.prog 10 #[.int .i64 n, .int .i64 s] w fun e w' => e = .returned (.tuple #[.pointer none, .int .i64 1]) ∧ Ext w w' := by
  refine (F10_calls n s w (fun v w' => v = .tuple #[.pointer none, .int .i64 1] ∧ Ext w w')
    (fun _ _ _ n7 w8 => n7 = 0 ∧ Ext w w8) (fun _ _ _ n7 _ => 32 - n7.toNat) ?_).mono (by rintro e w' ⟨v, rfl, rfl, h⟩; exact ⟨rfl, h⟩)
  refine condB_of (fun h1 => by simp only [decide_eq_true_eq] at h1; omega) (fun _ => condB_of (fun h1 => by simp only [decide_eq_true_eq] at h1; omega) (fun _ => ?_))
  intro k3 w4 hk
  refine ⟨⟨rfl, hk.ext⟩, ?_⟩
  rintro n7 w8 ⟨rfl, x8⟩
  intros
  refine condB_of (fun hlt => ?_) (fun hge => by simp only [decide_eq_false_iff_not] at hge; omega)
  refine (new_bad hs w8).mono ?_
  rintro e w34 ⟨rfl, rfl⟩
  exact ⟨_, _, rfl, condB_of (fun _ => ⟨rfl, x8⟩) fun h => by simp at h⟩
theorem ra_new_secs {n s : Int} (h : 1 ≤ n ∧ n ≤ 32) (hs : s < 1 ∨ 4096 < s) (w : World) : Calls Try.prog 19 #[.int .i64 n, .int .i64 s] w fun e w' => e = .returned (.tuple #[.pointer none, .int .i64 1]) ∧ Ext w w' := by
  refine (F19_calls n s w (fun v w' => v = .tuple #[.pointer none, .int .i64 1] ∧ Ext w w')
    (fun _ _ n6 w7 => n6 = 0 ∧ Ext w w7) (fun _ _ n6 _ => 32 - n6.toNat) ?_).mono (by rintro e w' ⟨v, rfl, rfl, h⟩; exact ⟨rfl, h⟩)
  refine condB_of (fun h1 => by simp only [decide_eq_true_eq] at h1; omega) (fun _ => condB_of (fun h1 => by simp only [decide_eq_true_eq] at h1; omega) (fun _ => ?_))
  intro k3 w4 hk
  refine ⟨⟨rfl, hk.ext⟩, ?_⟩
  rintro n6 w7 ⟨rfl, x7⟩
  intros
  refine condB_of (fun hlt => ?_) (fun hge => by simp only [decide_eq_false_iff_not] at hge; omega)
  refine (rnew_bad hs w7).mono ?_
  rintro e w34 ⟨rfl, rfl⟩
  exact ⟨_, _, rfl, condB_of (fun _ => ⟨rfl, x7⟩) fun h => by simp at h⟩

/-- both are made, or neither is -/
def Made (w w' : World) (p : Option Addr) (e : Int) (q : Option Addr) (f : Int) : Prop :=
  (p = none ∧ q = none ∧ e = 1 ∧ f = 1 ∧ Ext w w') ∨ (e = 0 ∧ f = 0 ∧ ∃ a r s F G, p = some (at0 a) ∧ q = some (at0 r) ∧ Ext w w' ∧ Pair w' a r s F G ∧ OkA s ∧ 1 ≤ s.M.length ∧ (∀ x, F x ∨ G x → w.heap.size ≤ x))

theorem both_new (n s : Int) (w : World) {T : World → Option Addr → Int → World → Ending → Prop}
    (hT : ∀ w1 w2 p e q f, Made w w2 p e q f → T w1 p e w2 (.returned (.tuple #[.pointer q, .int .i64 f]))) :
    Calls Try.prog 10 #[.int .i64 n, .int .i64 s] w fun e8 w7 => ∃ p9 n10, e8 = .returned (.tuple #[.pointer p9, .int .i64 n10]) ∧ Calls Try.prog 19 #[.int .i64 n, .int .i64 s] w7 fun e12 w11 => T w7 p9 n10 w11 e12 := by
  by_cases hn : n < 1 ∨ 32 < n
  · refine (anew_bad hn w).mono ?_
    rintro e w1 ⟨rfl, rfl⟩
    refine ⟨_, _, rfl, (ra_new_bad hn w1).mono ?_⟩
    rintro e w2 ⟨rfl, rfl⟩
    exact hT _ _ _ _ _ _ (.inl ⟨rfl, rfl, rfl, rfl, Upd.refl _ _⟩)
  by_cases hs : s < 1 ∨ 4096 < s
  · refine (anew_secs ⟨by omega, by omega⟩ hs w).mono ?_
    rintro e w1 ⟨rfl, x1⟩
    refine ⟨_, _, rfl, (ra_new_secs ⟨by omega, by omega⟩ hs w1).mono ?_⟩
    rintro e w2 ⟨rfl, x2⟩
    exact hT _ _ _ _ _ _ (.inl ⟨rfl, rfl, rfl, rfl, x1.trans x2⟩)
  · refine (anew_good (n := n) (s := s) ⟨by omega, by omega⟩ ⟨by omega, by omega⟩ w).mono ?_
    rintro e w1 ⟨a, F, rfl, x1, h1, hF⟩
    refine ⟨_, _, rfl, (ra_new_good (n := n) (s := s) ⟨by omega, by omega⟩ ⟨by omega, by omega⟩ w1).mono ?_⟩
    rintro e w2 ⟨r, G, rfl, x2, h2, hG⟩
    have hA : IsA w2 a (begA n.toNat s) F := IsArr.ext h1 x2
    have hR : IsR w2 r (begA n.toNat s) G := by
      have e1 : dsOf (begA n.toNat s) = List.replicate n.toNat ⟨s, [], [], false⟩ := by simp [dsOf, begA]
      have e2 : bsOf (begA n.toNat s) = List.replicate n.toNat 0 := by simp [bsOf, begA]
      unfold IsR
      rw [e1, e2]; exact h2
    refine hT _ _ _ _ _ _ (.inr ⟨rfl, rfl, a, r, begA n.toNat s, F, G, rfl, rfl, x1.trans x2, ⟨hA, hR, fun x hf hg => ?_⟩, begA_ok (by omega), by simp [begA]; omega, ?_⟩)
    · have := IsArr.lt h1 x hf
      have := hG x hg
      omega
    · rintro x (hx | hx)
      · exact hF x hx
      · exact Nat.le_trans x1.size (hG x hx)
end Go.Proofs.Ytbidancfbilbkaa
