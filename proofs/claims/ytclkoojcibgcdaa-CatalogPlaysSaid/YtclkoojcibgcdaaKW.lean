/- A catalog's calls on none; the calls whose answers are fixed. -/
import Derived.Test.YtclkoojcibgcdaaK8
import Derived.Test.YtclkoojcibgcdaaI2
namespace Go.Proofs.Ytclkoojcibgcdaa
open Go Go.Vc

theorem cfree_nil (w : World) : Calls Try.prog 19 #[.pointer none] w fun e w' => e = .returned (.int .i64 0) ∧ w' = w :=
  (F19_calls none w (fun v w' => v = .int .i64 0 ∧ w' = w) ⟨rfl, rfl⟩).mono (by rintro e w' ⟨v, rfl, rfl, h⟩; exact ⟨rfl, h⟩)
theorem cowner_nil (s : Int) (w : World) : Calls Try.prog 23 #[.pointer none, .int .i64 s] w fun e w' => e = .returned (.tuple #[.int .i64 0, .bool false]) ∧ w' = w :=
  (F23_calls none s w (fun v w' => v = .tuple #[.int .i64 0, .bool false] ∧ w' = w) ⟨rfl, rfl⟩).mono (by rintro e w' ⟨v, rfl, rfl, h⟩; exact ⟨rfl, h⟩)
theorem capply_nil (kind : Int) (k : ByteArray) (n : Int) (p : Option Addr) (l c : Nat) (e : Int) (w : World) : Calls Try.prog 26 #[.pointer none, .agg #[.int .i64 kind, .string k, .int .i64 n, .slice p l c], .int .i64 e] w fun e w' => e = .returned (.int .i64 1) ∧ Ext w w' :=
  (F26_calls none kind k n p l c e w (fun v w' => v = .int .i64 1 ∧ Ext w w') (fun _ _ hk => ⟨rfl, hk.ext⟩)).mono (by rintro e w' ⟨v, rfl, rfl, h⟩; exact ⟨rfl, h⟩)
theorem cplan_nil (k : ByteArray) (n : Int) (w : World) : Calls Try.prog 25 #[.pointer none, .string k, .int .i64 n] w fun e w' => e = .returned (.tuple #[.slice none 0 0, .int .i64 1]) ∧ Ext w w' := by
  refine (F25_calls none k n w (fun v w' => v = .tuple #[.slice none 0 0, .int .i64 1] ∧ Ext w w') (fun _ _ _ _ _ => False) (fun _ _ _ _ _ => 0) ?_).mono (by rintro e w' ⟨v, rfl, rfl, h⟩; exact ⟨rfl, h⟩)
  intro k4 w5 hk
  have r : RowW w5 k4 _ := ⟨_, hk.at⟩
  exact ⟨_, r.row.cell (n := 0) rfl, condB_of (fun _ => ⟨rfl, hk.ext⟩) fun h => by cases h⟩
theorem cget_nil (k : ByteArray) (w : World) : Calls Try.prog 24 #[.pointer none, .string k] w fun e w' => e = .returned (.tuple #[.agg #[.string ⟨#[]⟩, .int .i64 0, .int .i64 0, .slice none 0 0], .int .i64 1]) ∧ Ext w w' := by
  refine (F24_calls none k w (fun v w' => v = .tuple #[.agg #[.string ⟨#[]⟩, .int .i64 0, .int .i64 0, .slice none 0 0], .int .i64 1] ∧ Ext w w') ?_).mono (by rintro e w' ⟨v, rfl, rfl, h⟩; exact ⟨rfl, h⟩)
  intro k3 w4 hk
  have r : RowW w4 k3 _ := ⟨_, hk.at⟩
  refine condB_of (fun _ => ?_) fun h => by cases h
  refine fill4 hk.ext (by rw [hk.size.1]; exact Nat.le_refl _) r fun w8 x8 _ r8 => ?_
  exact ⟨_, r8.row.cell (n := 0) rfl, _, r8.row.cell rfl, _, r8.row.cell rfl, _, _, _, r8.row.cell rfl, rfl, x8⟩

def tinyG : Geo := ⟨1, 0, 2, 3, 1, 2⟩
theorem tiny_spec (w : World) : Calls Try.prog 28 #[] w fun e w' => e = .returned (gV tinyG) ∧ Ext w w' := by
  refine (F28_calls w (fun v w' => v = gV tinyG ∧ Ext w w') ?_).mono (by rintro e w' ⟨v, rfl, rfl, h⟩; exact ⟨rfl, h⟩)
  intro k1 w2 hk
  have hk0 : w.heap.size ≤ k1 := by rw [hk.size.1]; exact Nat.le_refl _
  have r2 : RowW w2 k1 _ := ⟨_, hk.at⟩
  refine ⟨r2.live (n := 0) (by simp), fun w3 s3 => ?_⟩
  have s3' : SetC w2 ((at0 k1).add 0) (.int .i64 1) w3 := s3
  have r3 := s3'.row r2
  have x3 := setc_newk hk.ext hk0 s3'
  refine ⟨r3.live (by simp), fun w4 s4 => ?_⟩
  have r4 := s4.row r3
  have x4 := setc_newk x3 hk0 s4
  refine ⟨r4.live (by simp), fun w5 s5 => ?_⟩
  have r5 := s5.row r4
  have x5 := setc_newk x4 hk0 s5
  refine ⟨r5.live (by simp), fun w6 s6 => ?_⟩
  have r6 := s6.row r5
  have x6 := setc_newk x5 hk0 s6
  refine ⟨r6.live (by simp), fun w7 s7 => ?_⟩
  have r7 := s7.row r6
  have x7 := setc_newk x6 hk0 s7
  refine ⟨r7.live (by simp), fun w8 s8 => ?_⟩
  have r8 := s8.row r7
  have x8 := setc_newk x7 hk0 s8
  have r8' : RowW w8 k1 #[.int .i64 1, .int .i64 0, .int .i64 2, .int .i64 3, .int .i64 1, .int .i64 2] := r8
  exact ⟨_, r8'.row.cell (n := 0) rfl, _, r8'.row.cell rfl, _, r8'.row.cell rfl, _, r8'.row.cell rfl, _, r8'.row.cell rfl, _, r8'.row.cell rfl, rfl, x8⟩

theorem two_ints {w : World} {k : Nat} {e : TypeId} (h : w.heap[k]? = some (.cells #[.int .i64 0, .int .i64 1] e (0, 0))) : IntsAt w (some (at0 k)) 2 [0, 1] := by
  refine ⟨rfl, fun j u hj => ⟨_, rfl, ?_⟩⟩
  match j, hj with
  | 0, hj => cases hj; simp [World.cell?, Addr.add, h]
  | 1, hj => cases hj; simp [World.cell?, Addr.add, h]

def tinyO : List Ob := [⟨⟨#[97]⟩, 3, 7, [0, 1]⟩]
theorem tiny1 : newO tinyG [] = some [] := rfl
theorem tiny2 : planO tinyG [] ⟨#[97]⟩ 3 = ([0, 1], 0) := by kernel_rfl
theorem tiny3 : applyO tinyG [] 1 ⟨#[97]⟩ 3 [0, 1] 7 = (tinyO, 0) := by kernel_rfl
theorem tiny4 : planO tinyG tinyO ⟨#[97]⟩ 3 = ([], 192) := by kernel_rfl
theorem tiny5 : planO tinyG tinyO ⟨#[]⟩ 0 = ([], 190) := by kernel_rfl
theorem tiny6 : applyO tinyG tinyO 2 ⟨#[99]⟩ 0 [] 8 = (tinyO, 193) := by kernel_rfl
theorem tiny7 : ownO 1 tinyO = some ⟨⟨#[97]⟩, 3, 7, [0, 1]⟩ := by kernel_rfl

set_option maxHeartbeats 2000000 in
theorem awake_spec (w : World) : Calls Try.prog 10 #[] w fun e w' => e = .returned (.bool true) ∧ Ext w w' := by
  refine (F10_calls w (fun v w' => v = .bool true ∧ Ext w w') ?_).mono (by rintro e w' ⟨v, rfl, rfl, h⟩; exact ⟨rfl, h⟩)
  refine (tiny_spec w).mono ?_
  rintro e w1 ⟨rfl, x1⟩
  refine ⟨_, _, _, _, _, _, rfl, (cnew_spec tinyG (w := w1) (p := none) (l := 0) (c := 0) (L := []) ⟨rfl, fun i o hi => by simp at hi⟩ (fun o ho => by cases ho) (by omega)).mono ?_⟩
  have hgeo : GeoOk tinyG := by decide
  rintro e w9 ⟨x9, ⟨hb, _⟩ | ⟨_, hb, _⟩ | ⟨_, _, b, O, F, hnew, rfl, h9, hF⟩⟩
  · exact absurd hgeo hb
  · rcases hb with hb | hb
    · exact absurd hb (by decide)
    · rw [tiny1] at hb; cases hb
  rw [tiny1] at hnew
  cases hnew
  have y9 := x1.trans x9
  have hF' : ∀ x, F x → w.heap.size ≤ x := fun x hx => Nat.le_trans x1.size (hF x hx)
  refine ⟨_, _, rfl, condB_of (fun h => by cases h) fun _ => condB_of (fun h => by simp at h) fun _ => (plan_spec h9 ⟨#[97]⟩ 3).mono ?_⟩
  rintro e w13 ⟨p15, l15, c15, rfl, x13, own15⟩
  rw [tiny2] at own15 ⊢
  refine ⟨_, _, _, _, rfl, fun k17 w18 hk17 => ?_⟩
  have h18 := (h9.ext x13).ext hk17.ext
  have y18 := (y9.trans x13).trans hk17.ext
  refine (apply_spec h18 1 ⟨#[97]⟩ 3 (by omega) 7 (c := 2) (two_ints hk17.at) (by omega) (by omega) (fun h => by cases h)).mono ?_
  rintro e w19 ⟨F2, rfl, s19, h19⟩
  rw [tiny3] at h19 ⊢
  have hno : ∀ g, p15 = some (at0 g) → ¬ F g := fun g hg hf => by
    have h1 := (own_inK own15 hg).1
    have h2 := h9.lt g hf
    omega
  have own18 := own15.ext hk17.ext
  have own19 := own18.upd s19.upd hno
  have hno2 : ∀ g, p15 = some (at0 g) → ¬ F2 g := fun g hg => s19.apart (own_inK own18 hg).2.1 (hno g hg)
  have up : ∀ {w0 w1 : World} {F0 F1 : Nat → Prop}, Ext w w0 → (∀ x, F0 x → w.heap.size ≤ x) → Step F0 F1 w0 w1 → Ext w w1 ∧ ∀ x, F1 x → w.heap.size ≤ x := fun {w0 w1 F0 F1} hx h0 hs => by
    refine ⟨Upd.trans hx hs.upd fun x hx' hf => ?_, fun x hx' => ?_⟩
    · have := h0 x hf; omega
    · rcases hs.grow x hx' with h | h
      · exact h0 x h
      · exact Nat.le_trans hx.size h
  obtain ⟨y19, hF2⟩ := up y18 hF' s19
  refine ⟨_, rfl, (plan_spec h19 ⟨#[97]⟩ 3).mono ?_⟩
  rintro e w22 ⟨p24, l24, c24, rfl, x22, _⟩
  rw [tiny4]
  refine ⟨_, _, _, _, rfl, (plan_spec (h19.ext x22) ⟨#[]⟩ 0).mono ?_⟩
  rintro e w26 ⟨p28, l28, c28, rfl, x26, _⟩
  rw [tiny5]
  have h26 := (h19.ext x22).ext x26
  refine ⟨_, _, _, _, rfl, (apply_spec h26 2 ⟨#[99]⟩ 0 (by omega) 8 (p := none) (l := 0) (c := 0) (st := []) ⟨rfl, CellsAt.nil _ _⟩ (by omega) (by omega) (fun _ => rfl)).mono ?_⟩
  rintro e w30 ⟨F3, rfl, s30, h30⟩
  rw [tiny6] at h30 ⊢
  obtain ⟨y30, hF3⟩ := up ((y19.trans x22).trans x26) hF2 s30
  have i30 : IntsAt w30 p15 l15 [0, 1] := own_ints (((own19.ext x22).ext x26).upd s30.upd hno2)
  refine ⟨_, rfl, (owner_spec h30 1).mono ?_⟩
  rintro e w33 ⟨rfl, rfl⟩
  rw [tiny7]
  refine ⟨_, _, rfl, fun k37 w38 hk37 => ?_⟩
  refine (eqi_spec (A := [0, 1]) (B := [0, 1]) (i30.ext hk37.ext) (two_ints hk37.at) (by have := i30.1; simp at this; omega)).mono ?_
  rintro e w39 ⟨rfl, x39⟩
  have h39 := (h30.ext hk37.ext).ext x39
  have y39 := (y30.trans hk37.ext).trans x39
  refine ⟨_, rfl, condB_of (fun _ => condB_of (fun _ => condB_of (fun _ => condB_of (fun _ => condB_of (fun _ => condB_of (fun _ => condB_of (fun _ => condB_of (fun _ => ?_) fun h => ?_) fun h => ?_) fun h => ?_) fun h => ?_) fun h => ?_) fun h => ?_) fun h => ?_) fun h => ?_⟩
  rotate_left
  all_goals first | (simp at h; done) | skip
  refine (free_spec h39).mono ?_
  rintro e w42 ⟨rfl, x42⟩
  refine ⟨_, rfl, condB_of (fun _ => (all_spec (h39.ext x42)).mono ?_) fun h => ?_⟩
  · rintro e w45 ⟨p47, l47, c47, rfl, x45, hobs⟩
    have := hobs.length
    refine ⟨_, _, _, rfl, ?_, (y39.trans x42).trans x45⟩
    rw [this]
    rfl
  · exfalso
    revert h
    decide
end Go.Proofs.Ytclkoojcibgcdaa
