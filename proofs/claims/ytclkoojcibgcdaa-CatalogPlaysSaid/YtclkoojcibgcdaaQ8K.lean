/- The document's catalog: `with`. -/
import Derived.Test.YtclkoojcibgcdaaQ8J
namespace Go.Proofs.Ytclkoojcibgcdaa
open Go Go.Vc

theorem condB_joinQ {c : Bool} {A X Q : Prop} (hA : c = true → (Q → X) → A) (hQ : c = false → Q) (hX : Q → X) : condB c A X :=
  condB_of (fun h => hA h hX) fun h => hX (hQ h)
theorem nilM_at {p : Option Addr} {a : Addr} {K : Addr → Prop} (h : p = some a) (hk : K a) : nilM p K := by
  subst h; exact hk

set_option maxHeartbeats 1000000 in
theorem with_A0 {w ws w27 : World} (hxs : Ext w ws) (hx27 : Ext ws w27) {p : Option Addr} {l c i k6 : Nat} {O : List Ob} {vs : List Value} {o : Ob} {q : Option Addr} {n d : Nat} {R : Value → World → Prop} {I0 : Option Addr → World → Int → World → Prop} {M0 : Option Addr → World → Int → World → Nat}
    (hl : l = O.length) (hlc : l ≤ c) (hlen : O.length ≤ 64) (hvl : vs.length = O.length) (hcells : CellsAt w p (objCells vs O)) (hone : ∀ u ∈ objCells vs O, u.oneCell' = true) (hpn : p = none → l = 0) (hi : i ≤ l)
    (hr : ∀ w', Ext ws w' → CellsAt w' (some (at0 k6)) (objRow (.slice q n d) o))
    (cellK : ∀ j x, O[j]? = some x → ∀ w', Ext ws w' → ∃ a, p = some a ∧ w'.cell? (a.add (j * 4)) = some (.string x.key))
    (hRa : ∀ x, O[i]? = some x → x.key = o.key → ∀ p' n' c' w', Ext ws w' → OwnS w' ws.heap.size 52 4 p' n' c' ([] ++ (objCells vs O).take (i * 4) ++ objRow (.slice q n d) o ++ (objCells vs O).drop ((i + 1) * 4)) → R (.slice p' n' c') w')
    (hRb : (∀ x, O[i]? = some x → x.key ≠ o.key) → ∀ p' n' c' w', Ext ws w' → OwnS w' ws.heap.size 52 4 p' n' c' ([] ++ (objCells vs O).take (i * 4) ++ objRow (.slice q n d) o ++ (objCells vs O).drop (i * 4)) → R (.slice p' n' c') w') :
    F36_A0 (i : Int) l w27 p c k6 R I0 M0 := by
  have hol := objCells_length hvl
  have st : ∀ w', Ext ws w' → ∀ r u, (objRow (.slice q n d) o)[r]? = some u → w'.cell? ((at0 k6).add r) = some u := fun w' x r u hu => by
    obtain ⟨a, ha, hc⟩ := hr w' x r u hu
    cases ha
    exact hc
  have own0 : ∀ {wa wb : World} {k : Nat}, Ext ws wa → NewB wa k (.cells #[] 52) wb → OwnS wb ws.heap.size 52 4 (some (at0 k)) 0 0 [] := fun x hk =>
    OwnS.made hk (by rw [hk.size.1]; exact x.size) (Nat.le_refl _) (by unfold maxLen; omega) rfl
  refine ⟨⟨by omega, by omega⟩, fun w31 d31 => ?_⟩
  have x31 := hx27.trans d31.ext
  rw [Int.toNat_natCast]
  refine condB_of (fun hlt => ?_) (fun hge => with_A1 hxs x31 hl hlc hlen hvl hcells hone hpn hi hr (hRb fun x hx => ?_))
  · simp only [decide_eq_true_eq] at hlt
    have hil : i < l := by omega
    obtain ⟨x, hxi⟩ : ∃ x, O[i]? = some x := ⟨O[i]'(by omega), List.getElem?_eq_getElem _⟩
    obtain ⟨a, rfl, hc⟩ := cellK i x hxi w31 x31
    have hcut : cutP (some a) c i 4 = some (a.add (i * 4)) := by unfold cutP; rw [if_neg (by omega)]; rfl
    refine ⟨⟨by omega, hlt⟩, nilM_at hcut ⟨_, by rw [add_add, add_add]; exact hc, _, st _ x31 0 _ rfl, condB_of (fun he => ?_) (fun hne => with_A1 hxs x31 hl hlc hlen hvl hcells hone hpn hi hr (hRb fun x' hx' => ?_))⟩⟩
    · simp only [decide_eq_true_eq] at he
      have hR := hRa x hxi he
      refine ⟨⟨by omega, by omega⟩, fun w35 d35 => ⟨⟨by omega, by omega⟩, ?_⟩⟩
      have hx := x31.trans d35.ext
      refine ⟨_, st _ hx 0 _ rfl, _, st _ hx 1 _ rfl, _, st _ hx 2 _ rfl, _, _, _, st _ hx 3 _ rfl, fun k58 w59 hk58 => ?_, fun k40 w41 hk40 k42 w43 hk42 => ?_⟩
      · have x59 := hx.trans hk58.ext
        refine ⟨⟨_, st _ x59 0 _ rfl, _, st _ x59 1 _ rfl, _, st _ x59 2 _ rfl, _, _, _, st _ x59 3 _ rfl, rfl⟩, ?_, fun k64 w65 hk64 => ?_⟩
        · have hpre : CellsAt w59 (cutP (some a) c 0 4) ((objCells vs O).take (i * 4)) := by
            have := cells_cut4 (hcells.ext (hxs.trans x59)) (c := c) (j := 0) (fun e => by omega)
            rw [Nat.zero_mul, List.drop_zero] at this
            exact this.take _
          obtain ⟨p1, l1, c1, w1, r1, own1, x1, u1⟩ := with_pre hxs x59 hl hlc hlen hvl hcells hone hpn hi (own0 hx hk58)
          refine ⟨_, _, _, _, r1, ⟨_, st _ x1 0 _ rfl, _, st _ x1 1 _ rfl, _, st _ x1 2 _ rfl, _, _, _, st _ x1 3 _ rfl, rfl⟩, fun k82 w83 hk82 => ?_⟩
          exact with_A4 hxs (x1.trans hk82.ext) hl hlc hlen hvl hcells hone hpn hil (by simpa using own1.ext hk82.ext) (box4 hk82.at) hR
        · have hs := hk58.size
          have hs2 := hk64.size
          exact with_A2 hxs (x59.trans hk64.ext) hl hlc hlen hvl hcells hone hpn hil hr ((own0 hx hk58).ext hk64.ext) (box4 hk64.at) (by omega) hR
      · have x41 := hx.trans hk40.ext
        have x43 := x41.trans hk42.ext
        have hs := hk40.size
        have hs2 := hk42.size
        exact ⟨⟨_, st _ x43 0 _ rfl, _, st _ x43 1 _ rfl, _, st _ x43 2 _ rfl, _, _, _, st _ x43 3 _ rfl, rfl⟩,
          with_A2 hxs x43 hl hlc hlen hvl hcells hone hpn hil hr (own0 x41 hk42) ((box4 hk40.at).ext hk42.ext) (by omega) hR⟩
    · simp only [decide_eq_false_iff_not] at hne
      rw [hxi] at hx'
      cases hx'
      exact hne
  · simp only [decide_eq_false_iff_not] at hge
    have := (List.getElem?_eq_some_iff.1 hx).1
    omega

set_option maxHeartbeats 2000000 in
theorem rwith_spec {w : World} {G : Nat → Prop} {p : Option Addr} {l c : Nat} {O : List Ob} (h : RefO w G p l O) (hlc : l ≤ c) (hpn : p = none → l = 0) (ha : KAsc O) (hlen : O.length ≤ 64) (o : Ob) {q : Option Addr} {n d : Nat} (hv : StV w G (.slice q n d) o) :
    Calls Try.prog 36 #[.slice p l c, .agg #[.string o.key, .int .i64 o.len, .int .i64 o.epoch, .slice q n d]] w fun e w' => ∃ p' l' c', e = .returned (.slice p' l' c') ∧ Ext w w' ∧ l' ≤ c' ∧
      RefO w' (fun x => G x ∨ (w.heap.size ≤ x ∧ x < w'.heap.size)) p' l' (insO o O) := by
  refine (F36_calls p l c o.key o.len o.epoch q n d w (fun v w' => ∃ p' l' c', v = .slice p' l' c' ∧ Ext w w' ∧ l' ≤ c' ∧ RefO w' (fun x => G x ∨ (w.heap.size ≤ x ∧ x < w'.heap.size)) p' l' (insO o O))
    (fun _ w5 n w8 => ∃ i : Nat, n = i ∧ i ≤ l ∧ Ext w5 w8 ∧ ∀ x ∈ O.take i, kLt x.key o.key) (fun _ _ n _ => 100 - n.toNat) ?_).mono (by rintro e w' ⟨v, rfl, p', l', c', rfl, h⟩; exact ⟨p', l', c', rfl, h⟩)
  obtain ⟨vs, hvl, hvs, hcells⟩ := h.cells
  have hl := h.1
  have hone := objCells_one hvl fun i v o hv ho => by obtain ⟨q, n, c, rfl, _⟩ := hvs i v o hv ho; exact ⟨q, n, c, rfl⟩
  intro k4 w5 hk4
  have x5 := hk4.ext
  have hr : ∀ w', Ext w5 w' → CellsAt w' (some (at0 k4)) (objRow (.slice q n d) o) := fun w' hx => (box4 hk4.at).ext hx
  have keyK : ∀ w', Ext w5 w' → w'.cell? ((at0 k4).add 0) = some (.string o.key) := fun w' hx => by
    obtain ⟨a, e, hc⟩ := hr w' hx 0 _ rfl
    cases e
    exact hc
  have cellK : ∀ j x, O[j]? = some x → ∀ w', Ext w5 w' → ∃ a, p = some a ∧ w'.cell? (a.add (j * 4)) = some (.string x.key) := fun j x hx w' hx' => by
    obtain ⟨a, _, _, _, e, _, hc, _⟩ := (h.ext (x5.trans hx')).2 j x hx
    exact ⟨a, e, hc⟩
  refine ⟨⟨0, rfl, Nat.zero_le _, Upd.refl _ _, by simp⟩, ?_⟩
  rintro n7 w8 ⟨i, rfl, hi, x8, hlo⟩
  intros
  rename_i w27 d27
  have x27 := x8.trans d27.ext
  refine condB_joinQ (Q := i = l ∨ ∃ x, O[i]? = some x ∧ ¬ kLt x.key o.key) (fun hlt hX => ?_) (fun hge => ?_) (fun hexit => ?_)
  · simp only [decide_eq_true_eq] at hlt
    obtain ⟨x, hxi⟩ : ∃ x, O[i]? = some x := ⟨O[i]'(by omega), List.getElem?_eq_getElem _⟩
    obtain ⟨a, rfl, hc⟩ := cellK i x hxi w27 x27
    rw [Int.toNat_natCast] at *
    refine ⟨⟨by omega, hlt⟩, _, hc, _, keyK w27 x27, condB_of (fun hk => ?_) (fun hk => ?_)⟩
    · rw [bless_kLt] at hk
      simp only [decide_eq_true_eq] at hk
      rw [w64 (by omega)]
      refine ⟨⟨i + 1, by omega, by omega, x27, fun y hy => ?_⟩, by show 100 - ((i : Int) + 1).toNat < 100 - i; omega⟩
      rw [List.take_add_one, hxi] at hy
      rcases List.mem_append.1 hy with hy | hy
      · exact hlo y hy
      · simp at hy; subst hy; exact hk
    · rw [bless_kLt] at hk
      simp only [decide_eq_false_iff_not] at hk
      exact hX (.inr ⟨x, hxi, hk⟩)
  · simp only [decide_eq_false_iff_not] at hge
    exact .inl (by omega)
  refine with_A0 x5 x27 hl hlc hlen hvl hcells hone hpn hi hr cellK (fun x hx hk p' n' c' w' hxw ho => ?_) (fun hno p' n' c' w' hxw ho => ?_)
  · have hf := with_fin hvl hvs hv (x5.trans hxw) x5.size (by omega) ho
    rw [← insO_eq ha hlo hx hk] at hf
    exact ⟨_, _, _, rfl, x5.trans hxw, hf⟩
  · have hf := with_fin hvl hvs hv (x5.trans hxw) x5.size (by omega) ho
    rw [← insO_new ha hlo fun x hx => ⟨?_, hno x hx⟩] at hf
    · exact ⟨_, _, _, rfl, x5.trans hxw, hf⟩
    · rcases hexit with h0 | ⟨x', hx', hk⟩
      · have := (List.getElem?_eq_some_iff.1 hx).1; omega
      · rw [hx] at hx'; cases hx'; exact hk
end Go.Proofs.Ytclkoojcibgcdaa
