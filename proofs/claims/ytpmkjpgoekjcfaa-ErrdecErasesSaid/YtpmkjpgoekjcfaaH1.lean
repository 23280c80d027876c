/- The field in memory: products, inverses, quotients; it is made. -/
import Derived.Test.YtpmkjpgoekjcfaaC1
import Derived.Test.YtpmkjpgoekjcfaaE5
import Derived.Test.YtpmkjpgoekjcfaaRepS
import Derived.Laws.BitsAllLaws
namespace Go.Proofs.Ytpmkjpgoekjcfaa
open Go Go.Vc Go.Gf

/-- a byte's value -/
abbrev vb (a : UInt8) : Value := .int .u8 (a.toNat : Int)

/-- the field's tables -/
def FieldAt (w : World) (p : Option Addr) : Prop :=
  ∃ a, p = some a ∧ (∀ i, i < 510 → w.cell? (a.add i) = some (.int .u8 (ge i : Int))) ∧ ∀ i, i < 256 → w.cell? (a.add (510 + i)) = some (.int .i64 (gl i : Int))
theorem FieldAt.upd {S : Nat → Prop} {w w' : World} {p : Option Addr} (h : FieldAt w p) (hu : Upd S w w') (hS : ∀ a, p = some a → ¬ S a.block) : FieldAt w' p := by
  obtain ⟨a, rfl, h1, h2⟩ := h
  exact ⟨a, rfl, fun i hi => hu.cell (h1 i hi) (by rw [add_block]; exact hS a rfl), fun i hi => hu.cell (h2 i hi) (by rw [add_block]; exact hS a rfl)⟩
theorem FieldAt.ext {w w' : World} {p : Option Addr} (h : FieldAt w p) (hu : Ext w w') : FieldAt w' p := h.upd hu fun _ _ => id
theorem FieldAt.there {w : World} {p : Option Addr} (h : FieldAt w p) : p.isNone = false := by obtain ⟨a, rfl, _⟩ := h; rfl
theorem FieldAt.lt {w : World} {p : Option Addr} (h : FieldAt w p) : ∃ a, p = some a ∧ a.block < w.heap.size := by
  obtain ⟨a, rfl, h1, _⟩ := h
  have := cell_lt (h1 0 (by omega))
  rw [add_block] at this
  exact ⟨a, rfl, this⟩

theorem fmul_spec {f : Option Addr} {w : World} (hf : FieldAt w f) (a b : UInt8) :
    Calls Try.prog 36 #[.pointer f, vb a, vb b] w fun e w' => e = .returned (vb (gm a b)) ∧ Ext w w' := by
  refine (F36_calls f a.toNat b.toNat w (fun v w' => v = vb (gm a b) ∧ Ext w w') ?_).mono (by rintro e w' ⟨v, rfl, rfl, h⟩; exact ⟨rfl, h⟩)
  unfold F36
  rw [hf.there]
  have ha := u8lt a
  have hb := u8lt b
  refine condB_of (fun h => by cases h) fun _ => condB_of (fun h => ?_) fun h => condB_of (fun h2 => ?_) fun h2 => ?_
  · simp only [decide_eq_true_eq] at h
    have : a = 0 := u8_zero_iff.2 (by omega)
    subst this
    exact ⟨by rw [zero_gm]; rfl, Upd.refl _ _⟩
  · simp only [decide_eq_true_eq] at h2
    have : b = 0 := u8_zero_iff.2 (by omega)
    subst this
    exact ⟨by rw [gm_zero]; rfl, Upd.refl _ _⟩
  · simp only [decide_eq_false_iff_not] at h h2
    intro w4 hd
    obtain ⟨q, rfl, h3, h4⟩ := hf.ext hd.ext
    have fa := gl_facts ha (by omega)
    have fb := gl_facts hb (by omega)
    refine ⟨⟨by omega, by omega⟩, (gl a.toNat : Int), by rw [add_add, Nat.mul_one, Int.toNat_natCast]; exact h4 _ ha, ⟨by omega, by omega⟩, (gl b.toNat : Int), by rw [add_add, Nat.mul_one, Int.toNat_natCast]; exact h4 _ hb, ?_⟩
    rw [w64 (n := (gl a.toNat : Int) + (gl b.toNat : Int)) (by omega)]
    refine ⟨⟨by omega, by omega⟩, (ge (gl a.toNat + gl b.toNat) : Int), ?_, ?_, hd.ext⟩
    · rw [add_add, Nat.mul_one, Nat.zero_add, show ((gl a.toNat : Int) + (gl b.toNat : Int)).toNat = gl a.toNat + gl b.toNat by omega]
      exact h3 _ (by omega)
    · show Value.int .u8 _ = Value.int .u8 _
      rw [toNat_gm, gmN_pos (by omega) (by omega)]

theorem fpow_spec {f : Option Addr} {w : World} (hf : FieldAt w f) (a : UInt8) :
    Calls Try.prog 81 #[.pointer f, vb a, .int .i64 (-1)] w fun e w' => e = .returned (.tuple #[vb (gi a), .int .i64 (if a = 0 then 10 else 0)]) ∧ Ext w w' := by
  refine (F81_calls f a.toNat (-1) w (fun v w' => v = .tuple #[vb (gi a), .int .i64 (if a = 0 then 10 else 0)] ∧ Ext w w') ?_).mono (by rintro e w' ⟨v, rfl, rfl, h⟩; exact ⟨rfl, h⟩)
  have ha := u8lt a
  have go : a.toNat ≠ 0 → F81_A1 f a.toNat (-1) w (fun v w' => v = .tuple #[vb (gi a), .int .i64 (if a = 0 then 10 else 0)] ∧ Ext w w') := by
    intro h0
    refine ⟨by decide, by decide, fun w4 hd => ?_⟩
    obtain ⟨q, rfl, h3, h4⟩ := hf.ext hd.ext
    have fa := gl_facts ha h0
    refine ⟨⟨by omega, by omega⟩, (gl a.toNat : Int), by rw [add_add, Nat.mul_one, Int.toNat_natCast]; exact h4 _ ha, by decide, ?_⟩
    have e1 : (IntKind.i64.wrap (((-1 : Int).tmod (255 : Int)) + (255 : Int))).tmod (255 : Int) = 254 := by rw [w64 (by decide)]; decide
    rw [e1, w64 (by omega), Int.tmod_eq_emod_of_nonneg (by omega)]
    have e2 : ((gl a.toNat : Int) * 254 % 255).toNat = gl a.toNat * 254 % 255 := by omega
    refine ⟨⟨by omega, by omega⟩, (ge (gl a.toNat * 254 % 255) : Int), by rw [add_add, Nat.mul_one, Nat.zero_add, e2]; exact h3 _ (by omega), ?_, hd.ext⟩
    have hz : a ≠ 0 := fun e => h0 (u8_zero_iff.1 e)
    rw [if_neg hz]
    have e3 : (gi a).toNat = ge (gl a.toNat * 254 % 255) := by
      rw [toNat_gi]
      unfold giN
      rw [beq_f.2 h0]; rfl
    show Value.tuple #[.int .u8 _, .int .i64 0] = Value.tuple #[.int .u8 _, .int .i64 0]
    rw [e3]
  unfold F81
  rw [hf.there]
  refine condB_of (fun h => by cases h) fun _ => condB_of (fun h => ?_) fun h => ?_
  · simp only [decide_eq_true_eq] at h
    have h0 : a = 0 := u8_zero_iff.2 (by omega)
    refine condB_of (fun _ => ⟨?_, Upd.refl _ _⟩) fun h => by simp at h
    subst h0; rfl
  · simp only [decide_eq_false_iff_not] at h
    refine condB_of (fun h' => by simp only [decide_eq_true_eq] at h'; omega) fun _ => go (by omega)

theorem finv_spec {f : Option Addr} {w : World} (hf : FieldAt w f) (a : UInt8) :
    Calls Try.prog 57 #[.pointer f, vb a] w fun e w' => e = .returned (.tuple #[vb (gi a), .int .i64 (if a = 0 then 10 else 0)]) ∧ Ext w w' := by
  refine (F57_calls f a.toNat w (fun v w' => v = .tuple #[vb (gi a), .int .i64 (if a = 0 then 10 else 0)] ∧ Ext w w') ?_).mono (by rintro e w' ⟨v, rfl, rfl, h⟩; exact ⟨rfl, h⟩)
  refine (fpow_spec hf a).mono ?_
  rintro e w3 ⟨rfl, hx⟩
  exact ⟨_, _, rfl, rfl, hx⟩

theorem fdiv_spec {f : Option Addr} {w : World} (hf : FieldAt w f) (a b : UInt8) :
    Calls Try.prog 35 #[.pointer f, vb a, vb b] w fun e w' => e = .returned (.tuple #[vb (gm a (gi b)), .int .i64 (if b = 0 then 10 else 0)]) ∧ Ext w w' := by
  refine (F35_calls f a.toNat b.toNat w (fun v w' => v = .tuple #[vb (gm a (gi b)), .int .i64 (if b = 0 then 10 else 0)] ∧ Ext w w') ?_).mono (by rintro e w' ⟨v, rfl, rfl, h⟩; exact ⟨rfl, h⟩)
  refine (finv_spec hf b).mono ?_
  rintro e w3 ⟨rfl, hx⟩
  refine ⟨_, _, rfl, (fmul_spec (hf.ext hx) a (gi b)).mono ?_⟩
  rintro e w4 ⟨rfl, hx4⟩
  exact ⟨_, rfl, rfl, hx.trans hx4⟩
end Go.Proofs.Ytpmkjpgoekjcfaa
