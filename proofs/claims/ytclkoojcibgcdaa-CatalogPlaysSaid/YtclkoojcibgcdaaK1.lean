/- Geometries and records: which may be; copies of ints. -/
import Derived.Test.YtclkoojcibgcdaaI1
import Derived.Test.YtclkoojcibgcdaaGb
namespace Go.Proofs.Ytclkoojcibgcdaa
open Go Go.Vc

theorem elemI : ElemOf Try.prog 37 3 1 8 := ⟨by kernel_rfl, ⟨Try.t3, .int .i64 0, by kernel_rfl, by kernel_rfl, by kernel_rfl, by kernel_rfl, by kernel_rfl⟩, by decide⟩
def encI (ks : List Int) : List Value := ks.map fun x => .int .i64 x
theorem encI_one (ks : List Int) : ∀ u ∈ encI ks, u.oneCell' = true := by
  intro u hu
  obtain ⟨b, _, rfl⟩ := List.mem_map.1 hu
  rfl
theorem encI_length (ks : List Int) : (encI ks).length = ks.length := by simp [encI]
theorem ints_nil {w : World} {n : Nat} {ks : List Int} (h : IntsAt w none n ks) : ks = [] := by
  cases ks with
  | nil => rfl
  | cons k ks =>
    obtain ⟨a, ha, _⟩ := h.2 0 _ rfl
    cases ha

/-- a copy of ints -/
theorem clonei_spec {p : Option Addr} {l c : Nat} {w : World} {ks : List Int} (h : IntsAt w p l ks) (hb : l ≤ 1073741824) (hp : p = none → l = 0) :
    Calls Try.prog 45 #[.slice p l c] w fun e w' => ∃ p' c', e = .returned (.slice p' l c') ∧ Ext w w' ∧ OwnS w' w.heap.size 3 1 p' l c' (encI ks) := by
  refine (F45_calls p l c w (fun v w' => ∃ p' c', v = .slice p' l c' ∧ Ext w w' ∧ OwnS w' w.heap.size 3 1 p' l c' (encI ks)) ?_).mono (by
    rintro e w' ⟨v, rfl, p', c', rfl, h⟩; exact ⟨p', c', rfl, h⟩)
  refine condB_of (fun hn => ?_) (fun hn => ?_)
  · have : p = none := by simpa using hn
    subst this
    obtain rfl := hp rfl
    have hks : ks = [] := List.eq_nil_of_length_eq_zero h.1.symm
    subst hks
    exact ⟨none, 0, rfl, Upd.refl _ _, OwnS.nil _ _ _ _⟩
  · intro k w3 hk
    have hown : OwnS w3 w.heap.size 3 1 (some (at0 k)) 0 0 [] := OwnS.made hk (by rw [hk.size.1]; exact Nat.le_refl _) (Nat.le_refl _) (by unfold maxLen; omega) rfl
    have hl := h.1
    obtain ⟨p', c', w', hr, hown', hu, hnil⟩ := hown.append elemI 37 (q := p) (m := l) (d := c) (news := encI ks) (by rw [encI_length]; omega) (h.ext hk.ext).2 hp
      (encI_one ks) (by unfold maxLen; omega) (by omega) (by rw [hk.size.2]; omega)
    rw [Nat.zero_add] at hr hown'
    refine ⟨p', l, c', w', hr, p', c', rfl, ?_, hown'⟩
    refine Upd.trans hk.ext hu fun x hx hs => ?_
    simp only [Option.some.injEq, at0, Addr.mk.injEq, and_true] at hs
    rw [hk.size.1] at hs
    omega
theorem own_ints {w : World} {base : Nat} {p : Option Addr} {l c : Nat} {ks : List Int} (h : OwnS w base 3 1 p l c (encI ks)) : IntsAt w p l ks := by
  refine ⟨?_, h.cells⟩
  have := h.length
  rw [encI_length] at this
  omega

/-- a geometry -/
structure Geo where
  k : Int
  m : Int
  size : Int
  stripes : Int
  slots : Int
  objects : Int
abbrev gV (g : Geo) : Value := .agg #[.int .i64 g.k, .int .i64 g.m, .int .i64 g.size, .int .i64 g.stripes, .int .i64 g.slots, .int .i64 g.objects]
def GeoOk (g : Geo) : Prop := (1 ≤ g.k ∧ 0 ≤ g.m ∧ g.k + g.m ≤ 32) ∧ (1 ≤ g.size ∧ g.size ≤ 4096) ∧ (1 ≤ g.stripes ∧ g.stripes ≤ 256) ∧ (1 ≤ g.slots ∧ g.slots ≤ 64) ∧ (1 ≤ g.objects ∧ g.objects ≤ 64)
instance (g : Geo) : Decidable (GeoOk g) := inferInstanceAs (Decidable (_ ∧ _))
def CodeOk (k m : Int) : Prop := 1 ≤ k ∧ 0 ≤ m ∧ k + m ≤ 256
instance (k m : Int) : Decidable (CodeOk k m) := inferInstanceAs (Decidable (_ ∧ _))

theorem cauchy_spec (k m : Int) (w : World) : Calls Try.prog 30 #[.int .i64 k, .int .i64 m] w fun e w' => e = .returned (.int .i64 (if CodeOk k m then 0 else 50)) ∧ w' = w := by
  refine (F30_calls k m w (fun v w' => v = .int .i64 (if CodeOk k m then 0 else 50) ∧ w' = w) ?_).mono (by rintro e w' ⟨v, rfl, rfl, h⟩; exact ⟨rfl, h⟩)
  have bad : ¬ CodeOk k m → (Value.int .i64 50 = .int .i64 (if CodeOk k m then 0 else 50) ∧ w = w) := fun h => ⟨by rw [if_neg h], rfl⟩
  refine condB_of (fun h1 => bad ?_) fun h1 => condB_of (fun h2 => bad ?_) fun h2 => condB_of (fun h3 => bad ?_) fun h3 => condB_of (fun h4 => bad ?_) fun h4 => ⟨?_, rfl⟩ <;>
    simp only [decide_eq_true_eq, decide_eq_false_iff_not] at *
  · unfold CodeOk; omega
  · unfold CodeOk; omega
  · unfold CodeOk; omega
  · rw [w64 (by omega)] at h4; unfold CodeOk; omega
  · rw [w64 (by omega)] at h4
    rw [if_pos (by unfold CodeOk; omega)]
theorem in_spec (n m : Int) (w : World) : Calls Try.prog 29 #[.int .i64 n, .int .i64 m] w fun e w' => e = .returned (.bool (decide (1 ≤ n ∧ n ≤ m))) ∧ w' = w := by
  refine (F29_calls n m w (fun v w' => v = .bool (decide (1 ≤ n ∧ n ≤ m)) ∧ w' = w) ?_).mono (by rintro e w' ⟨v, rfl, rfl, h⟩; exact ⟨rfl, h⟩)
  refine condB_of (fun h1 => ⟨?_, rfl⟩) fun h1 => ⟨?_, rfl⟩
  · simp only [decide_eq_true_eq] at h1
    simp [h1]
  · simp only [decide_eq_false_iff_not] at h1
    simp [h1]

def checkG (g : Geo) : Int := if GeoOk g then 0 else 50
theorem check_spec (g : Geo) (w : World) : Calls Try.prog 12 #[gV g] w fun e w' => e = .returned (.int .i64 (checkG g)) ∧ Ext w w' := by
  refine (F12_calls g.k g.m g.size g.stripes g.slots g.objects w (fun v w' => v = .int .i64 (checkG g) ∧ Ext w w') ?_).mono (by rintro e w' ⟨v, rfl, rfl, h⟩; exact ⟨rfl, h⟩)
  intro k7 w8 hk
  have r : RowW w8 k7 _ := ⟨_, hk.at⟩
  have bad : ¬ GeoOk g → (Value.int .i64 50 = .int .i64 (checkG g) ∧ Ext w w8) := fun h => ⟨by rw [checkG, if_neg h], hk.ext⟩
  refine ⟨_, r.row.cell (n := 0) rfl, _, r.row.cell rfl, (cauchy_spec g.k g.m w8).mono ?_⟩
  rintro e w11 ⟨rfl, rfl⟩
  refine ⟨_, rfl, condB_of (fun h => bad ?_) fun h1 => ⟨_, r.row.cell (n := 0) rfl, _, r.row.cell rfl, (in_spec _ _ _).mono ?_⟩⟩
  · intro hg
    rw [if_pos (by unfold GeoOk at hg; unfold CodeOk; omega)] at h
    simp at h
  rintro e w16 ⟨rfl, rfl⟩
  have hc : CodeOk g.k g.m := by
    by_cases hc : CodeOk g.k g.m
    · exact hc
    · rw [if_neg hc] at h1; simp at h1
  have hc' := hc
  unfold CodeOk at hc'
  rw [w64 (by omega)]
  refine ⟨_, rfl, condB_of (fun h => bad ?_) fun h2 => ⟨_, r.row.cell rfl, (in_spec _ _ _).mono ?_⟩⟩
  · simp only [Bool.not_eq_true', decide_eq_false_iff_not] at h
    intro hg; apply h; unfold GeoOk at hg; omega
  rintro e w20 ⟨rfl, rfl⟩
  refine ⟨_, rfl, condB_of (fun h => bad ?_) fun h3 => ⟨_, r.row.cell rfl, (in_spec _ _ _).mono ?_⟩⟩
  · simp only [Bool.not_eq_true', decide_eq_false_iff_not] at h
    intro hg; apply h; unfold GeoOk at hg; omega
  rintro e w24 ⟨rfl, rfl⟩
  refine ⟨_, rfl, condB_of (fun h => bad ?_) fun h4 => ⟨_, r.row.cell rfl, (in_spec _ _ _).mono ?_⟩⟩
  · simp only [Bool.not_eq_true', decide_eq_false_iff_not] at h
    intro hg; apply h; unfold GeoOk at hg; omega
  rintro e w28 ⟨rfl, rfl⟩
  refine ⟨_, rfl, condB_of (fun h => bad ?_) fun h5 => ⟨_, r.row.cell rfl, (in_spec _ _ _).mono ?_⟩⟩
  · simp only [Bool.not_eq_true', decide_eq_false_iff_not] at h
    intro hg; apply h; unfold GeoOk at hg; omega
  rintro e w32 ⟨rfl, rfl⟩
  refine ⟨_, rfl, condB_of (fun h => bad ?_) fun h6 => ⟨?_, hk.ext⟩⟩
  · simp only [Bool.not_eq_true', decide_eq_false_iff_not] at h
    intro hg; apply h; unfold GeoOk at hg; omega
  simp only [Bool.not_eq_false', decide_eq_true_eq] at h2 h3 h4 h5 h6
  rw [checkG, if_pos (by unfold GeoOk; omega)]

/-- how many stripes so many bytes need -/
def needsG (g : Geo) (n : Int) : Int := if GeoOk g ∧ 1 ≤ n then (n - 1) / (g.k * g.size) + 1 else 0
theorem prod_bound {a b : Int} (ha : 1 ≤ a ∧ a ≤ 256) (hb : 1 ≤ b ∧ b ≤ 4096) : 1 ≤ a * b ∧ a * b ≤ 1048576 := by
  have h1 : 1 * 1 ≤ a * b := Int.mul_le_mul ha.1 hb.1 (by omega) (by omega)
  have h2 : a * b ≤ 256 * 4096 := Int.mul_le_mul ha.2 hb.2 (by omega) (by omega)
  omega
theorem needsG_bound {g : Geo} {n : Int} (h : n ≤ 9223372036854775807) : 0 ≤ needsG g n ∧ (0 ≤ n → needsG g n ≤ n) := by
  unfold needsG
  split
  · rename_i hg
    obtain ⟨hg, hn⟩ := hg
    unfold GeoOk at hg
    have hp := prod_bound (a := g.k) (b := g.size) (by omega) (by omega)
    have h1 : 0 ≤ (n - 1) / (g.k * g.size) := Int.ediv_nonneg (by omega) (by omega)
    have h2 : (n - 1) / (g.k * g.size) ≤ n - 1 := Int.ediv_le_self _ (by omega)
    omega
  · omega
theorem needs_spec (g : Geo) (n : Int) (hn : n ≤ 9223372036854775807) (w : World) : Calls Try.prog 22 #[gV g, .int .i64 n] w fun e w' => e = .returned (.int .i64 (needsG g n)) ∧ Ext w w' := by
  refine (F22_calls g.k g.m g.size g.stripes g.slots g.objects n w (fun v w' => v = .int .i64 (needsG g n) ∧ Ext w w') ?_).mono (by rintro e w' ⟨v, rfl, rfl, h⟩; exact ⟨rfl, h⟩)
  intro k7 w8 hk
  have r : RowW w8 k7 _ := ⟨_, hk.at⟩
  refine ⟨_, r.row.cell (n := 0) rfl, _, r.row.cell rfl, _, r.row.cell rfl, _, r.row.cell rfl, _, r.row.cell rfl, _, r.row.cell rfl, (check_spec g w8).mono ?_⟩
  rintro e w16 ⟨rfl, x16⟩
  have y16 := hk.ext.trans x16
  have r16 := x16.rowW r id
  refine ⟨_, rfl, condB_of (fun h => ⟨?_, y16⟩) fun h1 => condB_of (fun h => ⟨?_, y16⟩) fun h2 => ⟨_, r16.row.cell (n := 0) rfl, _, r16.row.cell (n := 2) rfl, ?_⟩⟩
  · have : ¬ GeoOk g := fun hg => by simp [checkG, hg] at h
    rw [needsG, if_neg (fun h => this h.1)]
  · simp only [decide_eq_true_eq] at h
    rw [needsG, if_neg (fun h => by omega)]
  have hg : GeoOk g := by
    by_cases hg : GeoOk g
    · exact hg
    · simp [checkG, hg] at h1
  simp only [decide_eq_false_iff_not] at h2
  have hg' := hg
  unfold GeoOk at hg'
  have hp := prod_bound (a := g.k) (b := g.size) (by omega) (by omega)
  rw [w64 (n := g.k * g.size) (by omega), w64 (n := n - 1) (by omega)]
  have e1 : (n - 1).tdiv (g.k * g.size) = (n - 1) / (g.k * g.size) := Int.tdiv_eq_ediv_of_nonneg (by omega)
  rw [e1]
  have b1 : 0 ≤ (n - 1) / (g.k * g.size) := Int.ediv_nonneg (by omega) (by omega)
  have b2 : (n - 1) / (g.k * g.size) ≤ n - 1 := Int.ediv_le_self _ (by omega)
  rw [w64 (n := (n - 1) / (g.k * g.size)) (by omega), w64 (by omega)]
  refine ⟨by omega, ?_, y16⟩
  rw [needsG, if_pos ⟨hg, by omega⟩]
end Go.Proofs.Ytclkoojcibgcdaa
