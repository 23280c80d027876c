/- The document's checks: geometries, needs, records. -/
import Derived.Test.YtclkoojcibgcdaaK7
import Derived.Test.YtclkoojcibgcdaaKA2
namespace Go.Proofs.Ytclkoojcibgcdaa
open Go Go.Vc

theorem r5_check (k m : Int) (w : World) : Calls Try.prog 51 #[.int .i64 k, .int .i64 m] w fun e w' => e = .returned (.int .i64 (if CodeOk k m then 0 else 50)) ∧ w' = w := by
  refine (F51_calls k m w (fun v w' => v = .int .i64 (if CodeOk k m then 0 else 50) ∧ w' = w) ?_).mono (by rintro e w' ⟨v, rfl, rfl, h⟩; exact ⟨rfl, h⟩)
  have bad : ¬ CodeOk k m → (Value.int .i64 50 = .int .i64 (if CodeOk k m then 0 else 50) ∧ w = w) := fun h => ⟨by rw [if_neg h], rfl⟩
  refine condB_of (fun h => bad fun hg => ?_) fun h1 => condB_of (fun h => bad fun hg => ?_) fun h2 => condB_of (fun h => bad fun hg => ?_) fun h3 => condB_of (fun h => bad fun hg => ?_) fun h4 => condB_of (fun h => bad fun hg => ?_) fun h5 => ⟨?_, rfl⟩
  · simp only [decide_eq_true_eq] at h; unfold CodeOk at hg; omega
  · simp only [decide_eq_true_eq] at h; unfold CodeOk at hg; omega
  · simp only [decide_eq_true_eq] at h; unfold CodeOk at hg; omega
  · simp only [decide_eq_true_eq] at h; unfold CodeOk at hg; omega
  · simp only [decide_eq_true_eq] at h; unfold CodeOk at hg; rw [w64 (by omega)] at h; omega
  · simp only [decide_eq_false_iff_not] at h1 h2 h3 h4 h5
    rw [w64 (by omega)] at h5
    rw [if_pos (by unfold CodeOk; omega)]

theorem rcheck_spec (g : Geo) (w : World) : Calls Try.prog 33 #[gV g] w fun e w' => e = .returned (.int .i64 (checkG g)) ∧ Ext w w' := by
  refine (F33_calls g.k g.m g.size g.stripes g.slots g.objects w (fun v w' => v = .int .i64 (checkG g) ∧ Ext w w') ?_).mono (by rintro e w' ⟨v, rfl, rfl, h⟩; exact ⟨rfl, h⟩)
  intro k7 w8 hk
  have r : RowW w8 k7 _ := ⟨_, hk.at⟩
  have bad : ¬ GeoOk g → (Value.int .i64 50 = .int .i64 (checkG g) ∧ Ext w w8) := fun h => ⟨by rw [checkG, if_neg h], hk.ext⟩
  refine ⟨_, r.row.cell (n := 0) rfl, _, r.row.cell rfl, (r5_check g.k g.m w8).mono ?_⟩
  rintro e w11 ⟨rfl, rfl⟩
  refine ⟨_, rfl, condB_of (fun h => bad fun hg => ?_) fun h1 => ⟨_, r.row.cell (n := 0) rfl, _, r.row.cell rfl, condB_of (fun h => bad fun hg => ?_) fun h2 => ⟨_, r.row.cell rfl, condB_of (fun h => bad fun hg => ?_) fun h3 => ⟨_, r.row.cell rfl, condB_of (fun h => bad fun hg => ?_) fun h4 =>
    ⟨_, r.row.cell rfl, condB_of (fun h => bad fun hg => ?_) fun h5 => ⟨_, r.row.cell rfl, condB_of (fun h => bad fun hg => ?_) fun h6 => ⟨_, r.row.cell rfl, condB_of (fun h => bad fun hg => ?_) fun h7 => ⟨_, r.row.cell rfl, condB_of (fun h => bad fun hg => ?_) fun h8 =>
    ⟨_, r.row.cell rfl, condB_of (fun h => bad fun hg => ?_) fun h9 => ⟨_, r.row.cell rfl, condB_of (fun h => bad fun hg => ?_) fun h10 => ⟨?_, hk.ext⟩⟩⟩⟩⟩⟩⟩⟩⟩⟩⟩
  · have : CodeOk g.k g.m := by unfold CodeOk; unfold GeoOk at hg; omega
    rw [if_pos this] at h
    simp at h
  · have : CodeOk g.k g.m := by unfold CodeOk; unfold GeoOk at hg; omega
    unfold CodeOk at this
    simp only [decide_eq_true_eq] at h
    rw [w64 (by omega)] at h
    unfold GeoOk at hg; omega
  · simp only [decide_eq_true_eq] at h; unfold GeoOk at hg; omega
  · simp only [decide_eq_true_eq] at h; unfold GeoOk at hg; omega
  · simp only [decide_eq_true_eq] at h; unfold GeoOk at hg; omega
  · simp only [decide_eq_true_eq] at h; unfold GeoOk at hg; omega
  · simp only [decide_eq_true_eq] at h; unfold GeoOk at hg; omega
  · simp only [decide_eq_true_eq] at h; unfold GeoOk at hg; omega
  · simp only [decide_eq_true_eq] at h; unfold GeoOk at hg; omega
  · simp only [decide_eq_true_eq] at h; unfold GeoOk at hg; omega
  · have hc : CodeOk g.k g.m := by
      by_cases hc : CodeOk g.k g.m
      · exact hc
      · rw [if_neg hc] at h1; simp at h1
    unfold CodeOk at hc
    simp only [decide_eq_false_iff_not] at h2 h3 h4 h5 h6 h7 h8 h9 h10
    rw [w64 (by omega)] at h2
    rw [checkG, if_pos (by unfold GeoOk; omega)]

theorem ceil_div {n p : Int} (hn : 1 ≤ n) (hp : 1 ≤ p) : (if 0 < n.tmod p then n.tdiv p + 1 else n.tdiv p) = (n - 1) / p + 1 := by
  rw [Int.tdiv_eq_ediv_of_nonneg (by omega), Int.tmod_eq_emod_of_nonneg (by omega)]
  have h1 := Int.mul_ediv_add_emod n p
  have h2 := Int.emod_nonneg n (show p ≠ 0 by omega)
  have h3 := Int.emod_lt_of_pos n (show 0 < p by omega)
  split
  · rename_i h
    have e : (n - 1) / p = n / p := by
      have e1 : n - 1 = (n % p - 1) + p * (n / p) := by omega
      have e2 := Int.add_mul_ediv_left (n % p - 1) (n / p) (show p ≠ 0 by omega)
      rw [← e1, Int.ediv_eq_zero_of_lt (a := n % p - 1) (b := p) (by omega) (by omega), Int.zero_add] at e2
      exact e2
    rw [e]
  · rename_i h
    have e : (n - 1) / p = n / p - 1 := by
      have e1 : n - 1 = (p - 1) + p * (n / p - 1) := by rw [Int.mul_sub, Int.mul_one]; omega
      have e2 := Int.add_mul_ediv_left (p - 1) (n / p - 1) (show p ≠ 0 by omega)
      rw [← e1, Int.ediv_eq_zero_of_lt (a := p - 1) (b := p) (by omega) (by omega), Int.zero_add] at e2
      exact e2
    rw [e]
    omega

theorem rneeds_spec (g : Geo) (n : Int) (hn : n ≤ 9223372036854775807) (w : World) : Calls Try.prog 53 #[gV g, .int .i64 n] w fun e w' => e = .returned (.int .i64 (needsG g n)) ∧ Ext w w' := by
  refine (F53_calls g.k g.m g.size g.stripes g.slots g.objects n w (fun v w' => v = .int .i64 (needsG g n) ∧ Ext w w') ?_).mono (by rintro e w' ⟨v, rfl, rfl, h⟩; exact ⟨rfl, h⟩)
  intro k7 w8 hk
  have r : RowW w8 k7 _ := ⟨_, hk.at⟩
  have e0 : (at0 k7) = (at0 k7).add 0 := (add_at0 k7 0).symm
  refine ⟨_, by rw [e0]; exact r.row.cell (n := 0) rfl, _, r.row.cell rfl, _, r.row.cell rfl, _, r.row.cell rfl, _, r.row.cell rfl, _, r.row.cell rfl, (rcheck_spec g w8).mono ?_⟩
  rintro e w16 ⟨rfl, x16⟩
  have y16 := hk.ext.trans x16
  have r16 := x16.rowW r id
  refine ⟨_, rfl, condB_of (fun h => ⟨?_, y16⟩) fun h1 => condB_of (fun h => ⟨?_, y16⟩) fun h2 => ?_⟩
  · have : ¬ GeoOk g := fun hg => by simp [checkG, hg] at h
    rw [needsG, if_neg (fun h => this h.1)]
  · simp only [decide_eq_true_eq] at h
    rw [needsG, if_neg (fun h => by omega)]
  have hg : GeoOk g := by
    by_cases hg : GeoOk g
    · exact hg
    · simp [checkG, hg] at h1
  simp only [decide_eq_false_iff_not] at h2
  have hg' := hg
  unfold GeoOk at hg'
  have hp := prod_bound (a := g.k) (b := g.size) (by omega) (by omega)
  have hw : IntKind.i64.wrap (g.k * g.size) = g.k * g.size := w64 (by omega)
  have hnd : needsG g n = (n - 1) / (g.k * g.size) + 1 := by rw [needsG, if_pos ⟨hg, by omega⟩]
  have hcd := ceil_div (n := n) (p := g.k * g.size) (by omega) hp.1
  have hb := needsG_bound (g := g) hn
  have ht : n.tdiv (g.k * g.size) = n / (g.k * g.size) := Int.tdiv_eq_ediv_of_nonneg (by omega)
  have ht0 : 0 ≤ n / (g.k * g.size) := Int.ediv_nonneg (by omega) (by omega)
  have ht1 : n / (g.k * g.size) ≤ n := Int.ediv_le_self _ (by omega)
  refine ⟨_, r16.row.cell (n := 0) rfl, _, r16.row.cell (n := 2) rfl, by show IntKind.i64.wrap (g.k * g.size) ≠ 0; rw [hw]; omega, _, r16.row.cell (n := 0) rfl, _, r16.row.cell (n := 2) rfl, by show IntKind.i64.wrap (g.k * g.size) ≠ 0; rw [hw]; omega, ?_⟩
  show condB (decide ((0 : Int) < n.tmod (IntKind.i64.wrap (g.k * g.size)))) _ _
  rw [hw]
  refine condB_of (fun h => ⟨?_, y16⟩) (fun h => ⟨?_, y16⟩)
  · simp only [decide_eq_true_eq] at h
    rw [if_pos h] at hcd
    rw [w64 (n := n.tdiv (g.k * g.size)) (by omega), hcd, ← hnd, w64 (by have := hb.2 (by omega); omega)]
  · simp only [decide_eq_false_iff_not] at h
    rw [if_neg h] at hcd
    rw [w64 (n := n.tdiv (g.k * g.size)) (by omega), hcd, ← hnd]
end Go.Proofs.Ytclkoojcibgcdaa
