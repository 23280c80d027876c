/- The document's catalog: Get. -/
import Derived.Test.YtclkoojcibgcdaaQ4
namespace Go.Proofs.Ytclkoojcibgcdaa
open Go Go.Vc

theorem rec_cells {w w5 : World} {k3 : Nat} {s : ByteArray} {n m : Int} {p : Option Addr} {l c : Nat} {a0 a1 a2 a3 : Value} (hr : RowW w5 k3 #[a0, a1, a2, a3]) (hk0 : w.heap.size ≤ k3) (hx : Ext w w5) {T : World → Prop}
    (hT : ∀ w', RowW w' k3 #[.string s, .int .i64 n, .int .i64 m, .slice p l c] → Ext w w' → Upd (fun x => x = k3) w5 w' → T w') :
    Live w5 (at0 k3) ∧ (∀ w8 : World, SetC w5 (at0 k3) (Value.string s) w8 → (Live w8 ((at0 k3).add 1) ∧ (∀ w9 : World, SetC w8 ((at0 k3).add 1) (Value.int .i64 n) w9 → (Live w9 ((at0 k3).add 2) ∧ (∀ w10 : World, SetC w9 ((at0 k3).add 2) (Value.int .i64 m) w10 →
      (Live w10 ((at0 k3).add 3) ∧ (∀ w11 : World, SetC w10 ((at0 k3).add 3) (Value.slice p l c) w11 → T w11))))))) := by
  have e0 : (at0 k3) = (at0 k3).add 0 := (add_at0 k3 0).symm
  refine ⟨by rw [e0]; exact hr.live (by simp), fun w8 s8 => ?_⟩
  rw [e0] at s8
  have r8 := s8.row hr
  refine ⟨r8.live (by simp), fun w9 s9 => ?_⟩
  have r9 := s9.row r8
  refine ⟨r9.live (by simp), fun w10 s10 => ?_⟩
  have r10 := s10.row r9
  refine ⟨r10.live (by simp), fun w11 s11 => ?_⟩
  have r11 := s11.row r10
  have u : ∀ {j : Nat} {v : Value} {wa wb : World}, SetC wa ((at0 k3).add j) v wb → Upd (fun x => x = k3) wa wb := by
    intro j v wa wb hs
    have := hs.upd
    rw [add_block] at this
    exact this
  have hu : Upd (fun x => x = k3) w5 w11 := (((u s8).trans (u s9) fun _ _ h => h).trans (u s10) fun _ _ h => h).trans (u s11) fun _ _ h => h
  exact hT w11 r11 (Upd.trans hx hu fun x hx' h => by omega) hu

section
variable {w : World} {b : Nat} {g : Geo} {O : List Ob} {F : Nat → Prop}

theorem rget_spec (h : RCat w b g O F) (k : ByteArray) : Calls Try.prog 39 #[.pointer (some (at0 b)), .string k] w fun e w' => Ext w w' ∧ ∃ s n m p l c z, e = .returned (.tuple #[.agg #[.string s, .int .i64 n, .int .i64 m, .slice p l c], .int .i64 z]) ∧
    match getO k O with
    | some o => s = o.key ∧ n = o.len ∧ m = o.epoch ∧ z = 0 ∧ IntsAt w' p l o.st
    | none => s = ⟨#[]⟩ ∧ n = 0 ∧ m = 0 ∧ z = 193 ∧ p = none ∧ l = 0 ∧ c = 0 := by
  refine (F39_calls (some (at0 b)) k w (fun v w' => Ext w w' ∧ ∃ s n m p l c z, v = .tuple #[.agg #[.string s, .int .i64 n, .int .i64 m, .slice p l c], .int .i64 z] ∧ (match getO k O with
    | some o => s = o.key ∧ n = o.len ∧ m = o.epoch ∧ z = 0 ∧ IntsAt w' p l o.st
    | none => s = ⟨#[]⟩ ∧ n = 0 ∧ m = 0 ∧ z = 193 ∧ p = none ∧ l = 0 ∧ c = 0)) ?_).mono (by rintro e w' ⟨v, rfl, hx, s, n, m, p, l, c, z, rfl, h⟩; exact ⟨hx, s, n, m, p, l, c, z, rfl, h⟩)
  intro k3 w4 hk
  have h4 := h.ext hk.ext
  have hk0 : w.heap.size ≤ k3 := by rw [hk.size.1]; exact Nat.le_refl _
  have r4 : RowW w4 k3 _ := ⟨_, hk.at⟩
  have e0 : (at0 k3) = (at0 k3).add 0 := (add_at0 k3 0).symm
  refine (rfind_spec h4 k).mono ?_
  rintro e w5 ⟨rfl, hf⟩
  rcases hf with ⟨rfl, hno⟩ | ⟨i, o, rfl, ho, hkey⟩
  · refine ⟨_, rfl, condB_of (fun _ => ?_) fun h => by simp at h⟩
    refine rec_cells r4 hk0 hk.ext fun w11 r11 x11 _ => ?_
    refine ⟨_, by rw [e0]; exact r11.row.cell rfl, _, r11.row.cell rfl, _, r11.row.cell rfl, _, _, _, r11.row.cell rfl, x11, _, _, _, _, _, _, _, rfl, ?_⟩
    have : getO k O = none := by
      unfold getO
      rw [get_none, keys_pairs]
      intro hm
      obtain ⟨o, ho, hk⟩ := List.mem_map.1 hm
      exact hno o ho hk
    rw [this]
    exact ⟨rfl, rfl, rfl, rfl, rfl, rfl, rfl⟩
  · obtain ⟨p, l, c, G, hr, hO, hG, _⟩ := h4.is
    have hl := hO.1
    have hil := (List.getElem?_eq_some_iff.1 ho).1
    obtain ⟨a, q, n, c', rfl, _, e1, e2, e3, e4, hst, hGq, _⟩ := hO.2 i o ho
    refine ⟨_, rfl, condB_of (fun h => by simp only [decide_eq_true_eq] at h; omega) fun _ => ?_⟩
    refine ⟨_, _, _, hr.row.cell rfl, ⟨by omega, by omega⟩, o.key, by rw [Int.toNat_natCast]; exact e1, o.len, by rw [Int.toNat_natCast]; exact e2, o.epoch, by rw [Int.toNat_natCast]; exact e3, q, n, c', by rw [Int.toNat_natCast]; exact e4, ?_⟩
    refine rec_cells r4 hk0 hk.ext fun w26 r26 x26 u26 => ?_
    refine ⟨_, by rw [e0]; exact r26.row.cell rfl, _, r26.row.cell rfl, _, r26.row.cell rfl, _, _, _, r26.row.cell rfl, x26, _, _, _, _, _, _, _, rfl, ?_⟩
    have hg : getO k O = some o := (getO_some h.ok.asc.keys).2 ⟨List.mem_of_getElem? ho, hkey⟩
    rw [hg]
    refine ⟨rfl, rfl, rfl, rfl, hst.1, hst.2.upd u26 fun a' ha hne hh => ?_⟩
    have h1 := hGq a' ha (by rintro h0; rw [h0] at hne; exact hne rfl)
    have h2 := h.lt _ (hG _ h1).1
    omega
end
end Go.Proofs.Ytclkoojcibgcdaa
