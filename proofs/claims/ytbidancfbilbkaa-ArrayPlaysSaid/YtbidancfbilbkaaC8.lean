/- slices.Sorted(maps.Keys(m)). -/
import Derived.Test.YtbidancfbilbkaaC6
import Derived.Test.YtbidancfbilbkaaC7
namespace Go.Proofs.Ytbidancfbilbkaa
open Go Go.Vc Go.RowKit Go.Maps Go.Sort Go.Shelf Go.Proofs

theorem sort_asc {L : SM} (ha : Asc L) {ss : List Int} (hp : ss.Perm (L.map (·.1))) : ss.mergeSort (fun x y => decide (x ≤ y)) = L.map (·.1) := by
  have tr : ∀ a b c : Int, leI a b = true → leI b c = true → leI a c = true := fun a b c h1 h2 => by simp only [leI, decide_eq_true_eq] at *; exact Int.le_trans h1 h2
  have to : ∀ a b : Int, (leI a b || leI b a) = true := fun a b => by simp only [leI, Bool.or_eq_true, decide_eq_true_eq]; exact Int.le_total a b
  refine List.Perm.eq_of_pairwise (le := fun a b => leI a b = true) (fun a b _ _ h1 h2 => ?_) (List.pairwise_mergeSort tr to ss) ?_ ((List.mergeSort_perm ss _).trans hp)
  · simp only [leI, decide_eq_true_eq] at h1 h2
    exact Int.le_antisymm h1 h2
  · exact (List.pairwise_map.2 (ha.imp fun h => by simp only [leI, decide_eq_true_eq]; exact Int.le_of_lt h))

set_option maxHeartbeats 1000000 in
theorem keySort : KeySort := by
  intro w m L V hm ha hr hlen
  obtain ⟨D, hown, hperm, hsize⟩ := owns_of (P := Try.prog) (t := 3) (by kernel_rfl) hm (fun x hx => by
    have := hr x hx
    simp only [Lit.wf, Bool.and_eq_true, decide_eq_true_eq]
    constructor
    · exact Int.le_trans (by decide) this.1
    · exact Int.le_trans (Int.le_of_lt this.2) (by decide)) (by unfold maxLen; omega)
  have hbl := hm.lt
  have hseq : SeqGives Fence.wide 2 Try.prog 79 #[.pointer (some ⟨w.heap.size, 0, none⟩)] encZ (fun ss => ss.Perm (intKeys D)) (Maps.size D) (w.alloc (.cells #[.map (some m)] 87)) :=
    AnyZI.keys_gives (ρ := keysA_ren) { keysA with } Fence.wide _ trivial rfl (by omega) w.heap.size m L.length D _ (by simp) (by simp) (by
      obtain ⟨es, clock, hb, Ft, hs, hD⟩ := hown
      exact ⟨es, clock, (Below.heap_alloc _ _ m hbl).trans hb, Ft, hs, hD⟩)
  have cK : CallsIn Fence.wide 5 Try.prog 71 #[.map (some m)] w fun e w' => e = .returned (.func (.func 79) #[] #[.pointer (some ⟨w.heap.size, 0, none⟩)]) ∧ w' = w.alloc (.cells #[.map (some m)] 87) := AnyZI.keys_in keysA Fence.wide 5 trivial rfl (some m) w
  have cS := AnyZI.sorted_in sortedA Fence.wide 5 trivial trivial trivial trivial rfl (by omega) (sortsA _) (enters_of Try.func78 (by kernel_rfl) rfl) 79 #[.pointer (some ⟨w.heap.size, 0, none⟩)] trivial (enters_of Try.func79 (by kernel_rfl) rfl) _ _ (by rw [hsize]; unfold maxLen; omega) (by rw [hsize]; omega) _ hseq
  change CallsIn _ _ Try.prog 70 _ _ _ at cS
  refine ((callsIn_wide (n := 5)).1 cK).mono ?_
  rintro e w1 ⟨rfl, rfl⟩
  refine ⟨_, rfl, ((callsIn_wide (n := 5)).1 cS).mono ?_⟩
  rintro e w2 ⟨v, ss, rfl, hS, hrow, _, hb⟩
  have hs := sort_asc ha (hS.trans hperm)
  have hlen' : ss.length = L.length := by
    have := (hS.trans hperm).length_eq
    simpa using this
  have hrow' := ownsRow_base_a hrow (show w.heap.size ≤ _ by simp)
  rw [hs, hlen'] at hrow'
  have hv : ∃ p c, v = .slice p L.length c := by
    rcases hrow'.2 with ⟨hv, hn⟩ | ⟨g, cap, cur, hv, _⟩
    · exact ⟨none, 0, by rw [hv, hn]⟩
    · exact ⟨_, _, hv⟩
  obtain ⟨p, c, rfl⟩ := hv
  refine ⟨p, L.length, c, rfl, Ext.of_below (((Below.refl _ w).alloc (Nat.le_refl _) _).trans (hb.mono (by simp))), ?_, rfl⟩
  rw [List.map_map] at hrow'
  exact hrow'

theorem lasts_nil (w : World) : Calls Try.prog 38 #[.pointer none] w fun e w' => e = .returned (.slice none 0 0) ∧ w' = w :=
  (F38_calls none w (fun v w' => v = .slice none 0 0 ∧ w' = w) ⟨rfl, rfl⟩).mono (by rintro e w' ⟨v, rfl, rfl, h⟩; exact ⟨rfl, h⟩)
theorem waits_nil (w : World) : Calls Try.prog 37 #[.pointer none] w fun e w' => e = .returned (.slice none 0 0) ∧ w' = w :=
  (F37_calls none w (fun v w' => v = .slice none 0 0 ∧ w' = w) ⟨rfl, rfl⟩).mono (by rintro e w' ⟨v, rfl, rfl, h⟩; exact ⟨rfl, h⟩)

/-- THE BOUNDS OF A DISK THAT WAS MADE -/
structure DkOk (D : Dk) : Prop where
  sec : 1 ≤ D.sectors ∧ D.sectors ≤ 4096
  lasts : ∀ x ∈ D.lasts, 0 ≤ x.1 ∧ x.1 < D.sectors
  waits : ∀ x ∈ D.waits, 0 ≤ x.1 ∧ x.1 < D.sectors

theorem lasts_spec {w : World} {b m1 m2 : Nat} {D : Dk} {G : Nat → Prop} (h : IsDisk w b m1 m2 D G) (hk : DkOk D) :
    Calls Try.prog 38 #[.pointer (some (at0 b))] w fun e w' => ∃ p l c, e = .returned (.slice p l c) ∧ Ext w w' ∧ HeldS w' w.heap.size p l c D.lasts := by
  refine (F38_calls (some (at0 b)) w (fun v w' => ∃ p l c, v = .slice p l c ∧ Ext w w' ∧ HeldS w' w.heap.size p l c D.lasts) ?_).mono (by rintro e w' ⟨v, rfl, p, l, c, rfl, h⟩; exact ⟨p, l, c, rfl, h⟩)
  refine ⟨_, h.row.row.cell rfl, ?_⟩
  refine (told_spec keySort h.lasts h.asc1 fun x hx => by have := hk.lasts x hx; have := hk.sec; omega).mono ?_
  rintro e w' ⟨p, l, c, rfl, hh⟩
  exact ⟨p, l, c, rfl, p, l, c, rfl, hh⟩
theorem waits_spec {w : World} {b m1 m2 : Nat} {D : Dk} {G : Nat → Prop} (h : IsDisk w b m1 m2 D G) (hk : DkOk D) :
    Calls Try.prog 37 #[.pointer (some (at0 b))] w fun e w' => ∃ p l c, e = .returned (.slice p l c) ∧ Ext w w' ∧ HeldS w' w.heap.size p l c D.waits := by
  refine (F37_calls (some (at0 b)) w (fun v w' => ∃ p l c, v = .slice p l c ∧ Ext w w' ∧ HeldS w' w.heap.size p l c D.waits) ?_).mono (by rintro e w' ⟨v, rfl, p, l, c, rfl, h⟩; exact ⟨p, l, c, rfl, h⟩)
  refine ⟨_, h.row.row.cell rfl, ?_⟩
  refine (told_spec keySort h.waits h.asc2 fun x hx => by have := hk.waits x hx; have := hk.sec; omega).mono ?_
  rintro e w' ⟨p, l, c, rfl, hh⟩
  exact ⟨p, l, c, rfl, p, l, c, rfl, hh⟩
end Go.Proofs.Ytbidancfbilbkaa
