/- An array's calls on one disk. -/
import Derived.Test.YtbidancfbilbkaaA2
namespace Go.Proofs.Ytbidancfbilbkaa
open Go Go.Vc

theorem adown_nil (w : World) : Calls Try.prog 15 #[.pointer none] w fun e w' => e = .returned (.bool false) ∧ w' = w :=
  (F15_calls none w (fun v w' => v = .bool false ∧ w' = w) (condB_of (fun h => by cases h) fun _ => ⟨rfl, rfl⟩)).mono (by rintro e w' ⟨v, rfl, rfl, h⟩; exact ⟨rfl, h⟩)
theorem there_nil (k : Int) (w : World) : Calls Try.prog 33 #[.pointer none, .int .i64 k] w fun e w' => e = .returned (.bool false) ∧ w' = w :=
  (F33_calls none k w (fun v w' => v = .bool false ∧ w' = w) (condB_of (fun h => by cases h) fun _ => ⟨rfl, rfl⟩)).mono (by rintro e w' ⟨v, rfl, rfl, h⟩; exact ⟨rfl, h⟩)
theorem after_nil (k : Int) (w : World) : Calls Try.prog 11 #[.pointer none, .int .i64 k] w fun e w' => e = .returned (.tuple #[]) ∧ w' = w :=
  (F11_calls none k w (fun v w' => v = .tuple #[] ∧ w' = w) (condB_of (fun h => by cases h) fun _ => ⟨rfl, rfl⟩)).mono (by rintro e w' ⟨v, rfl, rfl, h⟩; exact ⟨rfl, h⟩)
theorem aflush_nil (w : World) : Calls Try.prog 14 #[.pointer none] w fun e w' => e = .returned (.int .i64 1) ∧ w' = w :=
  (F14_calls none w (fun v w' => v = .int .i64 1 ∧ w' = w) (fun _ _ _ _ _ _ _ => False) (fun _ _ _ _ _ _ _ => 0) (condB_of (fun _ => ⟨rfl, rfl⟩) fun h => by cases h)).mono (by rintro e w' ⟨v, rfl, rfl, h⟩; exact ⟨rfl, h⟩)
theorem restart_nil (p : Option Addr) (l c : Nat) (w : World) : Calls Try.prog 18 #[.pointer none, .slice p l c] w fun e w' => e = .returned (.tuple #[]) ∧ w' = w :=
  (F18_calls none p l c w (fun v w' => v = .tuple #[] ∧ w' = w) (fun _ _ _ _ _ _ _ => False) (fun _ _ _ _ _ _ _ => 0) (condB_of (fun _ => ⟨rfl, rfl⟩) fun h => by cases h)).mono (by rintro e w' ⟨v, rfl, rfl, h⟩; exact ⟨rfl, h⟩)
theorem live_nil (w : World) : Calls Try.prog 28 #[.pointer none] w fun e w' => e = .returned (.slice none 0 0) ∧ w' = w :=
  (F28_calls none w (fun v w' => v = .slice none 0 0 ∧ w' = w) (fun _ _ _ _ _ _ _ _ _ _ => False) (fun _ _ _ _ _ _ _ _ _ _ => 0) (condB_of (fun _ => ⟨rfl, rfl⟩) fun h => by cases h)).mono (by rintro e w' ⟨v, rfl, rfl, h⟩; exact ⟨rfl, h⟩)
theorem births_nil (w : World) : Calls Try.prog 29 #[.pointer none] w fun e w' => e = .returned (.slice none 0 0) ∧ w' = w :=
  (F29_calls none w (fun v w' => v = .slice none 0 0 ∧ w' = w) (fun _ _ _ _ _ _ _ _ _ _ => False) (fun _ _ _ _ _ _ _ _ _ _ => 0) (condB_of (fun _ => ⟨rfl, rfl⟩) fun h => by cases h)).mono (by rintro e w' ⟨v, rfl, rfl, h⟩; exact ⟨rfl, h⟩)
theorem aread_nil (i k : Int) (w : World) : Calls Try.prog 13 #[.pointer none, .int .i64 i, .int .i64 k] w fun e w' => e = .returned (.tuple #[.slice none 0 0, .int .i64 1]) ∧ w' = w := by
  refine (F13_calls none i k w (fun v w' => v = .tuple #[.slice none 0 0, .int .i64 1] ∧ w' = w) ?_).mono (by rintro e w' ⟨v, rfl, rfl, h⟩; exact ⟨rfl, h⟩)
  refine (adown_nil w).mono ?_
  rintro e w4 ⟨rfl, rfl⟩
  refine ⟨_, rfl, condB_of (fun h => by cases h) fun _ => (there_nil i w4).mono ?_⟩
  rintro e w7 ⟨rfl, rfl⟩
  exact ⟨_, rfl, condB_of (fun _ => ⟨rfl, rfl⟩) fun h => by cases h⟩
theorem awrite_nil (i k : Int) (p : Option Addr) (l c : Nat) (w : World) : Calls Try.prog 12 #[.pointer none, .int .i64 i, .int .i64 k, .slice p l c] w fun e w' => e = .returned (.int .i64 1) ∧ w' = w := by
  refine (F12_calls none i k p l c w (fun v w' => v = .int .i64 1 ∧ w' = w) ?_).mono (by rintro e w' ⟨v, rfl, rfl, h⟩; exact ⟨rfl, h⟩)
  refine (adown_nil w).mono ?_
  rintro e w4 ⟨rfl, rfl⟩
  refine ⟨_, rfl, condB_of (fun h => by cases h) fun _ => (there_nil i w4).mono ?_⟩
  rintro e w7 ⟨rfl, rfl⟩
  exact ⟨_, rfl, condB_of (fun _ => ⟨rfl, rfl⟩) fun h => by cases h⟩
theorem afail_nil (i : Int) (w : World) : Calls Try.prog 25 #[.pointer none, .int .i64 i] w fun e w' => e = .returned (.int .i64 1) ∧ w' = w := by
  refine (F25_calls none i w (fun v w' => v = .int .i64 1 ∧ w' = w) ?_).mono (by rintro e w' ⟨v, rfl, rfl, h⟩; exact ⟨rfl, h⟩)
  refine (there_nil i w).mono ?_
  rintro e w7 ⟨rfl, rfl⟩
  exact ⟨_, rfl, condB_of (fun _ => ⟨rfl, rfl⟩) fun h => by cases h⟩
theorem areplace_nil (i : Int) (w : World) : Calls Try.prog 26 #[.pointer none, .int .i64 i] w fun e w' => e = .returned (.int .i64 1) ∧ w' = w := by
  refine (F26_calls none i w (fun v w' => v = .int .i64 1 ∧ w' = w) ?_).mono (by rintro e w' ⟨v, rfl, rfl, h⟩; exact ⟨rfl, h⟩)
  refine (there_nil i w).mono ?_
  rintro e w7 ⟨rfl, rfl⟩
  exact ⟨_, rfl, condB_of (fun _ => ⟨rfl, rfl⟩) fun h => by cases h⟩
theorem acorrupt_nil (i k a y : Int) (w : World) : Calls Try.prog 27 #[.pointer none, .int .i64 i, .int .i64 k, .int .i64 a, .int .u8 y] w fun e w' => e = .returned (.int .i64 1) ∧ w' = w := by
  refine (F27_calls none i k a y w (fun v w' => v = .int .i64 1 ∧ w' = w) ?_).mono (by rintro e w' ⟨v, rfl, rfl, h⟩; exact ⟨rfl, h⟩)
  refine (there_nil i w).mono ?_
  rintro e w7 ⟨rfl, rfl⟩
  exact ⟨_, rfl, condB_of (fun _ => ⟨rfl, rfl⟩) fun h => by cases h⟩
theorem alasts_nil (i : Int) (w : World) : Calls Try.prog 17 #[.pointer none, .int .i64 i] w fun e w' => e = .returned (.slice none 0 0) ∧ w' = w := by
  refine (F17_calls none i w (fun v w' => v = .slice none 0 0 ∧ w' = w) ?_).mono (by rintro e w' ⟨v, rfl, rfl, h⟩; exact ⟨rfl, h⟩)
  refine (there_nil i w).mono ?_
  rintro e w7 ⟨rfl, rfl⟩
  exact ⟨_, rfl, condB_of (fun _ => ⟨rfl, rfl⟩) fun h => by cases h⟩
theorem awaits_nil (i : Int) (w : World) : Calls Try.prog 16 #[.pointer none, .int .i64 i] w fun e w' => e = .returned (.slice none 0 0) ∧ w' = w := by
  refine (F16_calls none i w (fun v w' => v = .slice none 0 0 ∧ w' = w) ?_).mono (by rintro e w' ⟨v, rfl, rfl, h⟩; exact ⟨rfl, h⟩)
  refine (there_nil i w).mono ?_
  rintro e w7 ⟨rfl, rfl⟩
  exact ⟨_, rfl, condB_of (fun _ => ⟨rfl, rfl⟩) fun h => by cases h⟩

theorem anew_bad {n s : Int} (h : n < 1 ∨ 32 < n) (w : World) : Calls Try.prog 10 #[.int .i64 n, .int .i64 s] w fun e w' => e = .returned (.tuple #[.pointer none, .int .i64 1]) ∧ w' = w := by
  refine (F10_calls n s w (fun v w' => v = .tuple #[.pointer none, .int .i64 1] ∧ w' = w) (fun _ _ _ _ _ => False) (fun _ _ _ _ _ => 0) ?_).mono (by rintro e w' ⟨v, rfl, rfl, h⟩; exact ⟨rfl, h⟩)
  refine condB_of (fun _ => ⟨rfl, rfl⟩) (fun h1 => condB_of (fun _ => ⟨rfl, rfl⟩) (fun h2 => ?_))
  simp only [decide_eq_false_iff_not] at h1 h2
  omega
theorem anew_good {n s : Int} (h : 1 ≤ n ∧ n ≤ 32) (hs : 1 ≤ s ∧ s ≤ 4096) (w : World) : Calls Try.prog 10 #[.int .i64 n, .int .i64 s] w fun e w' => ∃ a F, e = .returned (.tuple #[.pointer (some (at0 a)), .int .i64 0]) ∧ Ext w w' ∧
    IsArr w' a (List.replicate n.toNat ⟨⟨s, [], [], false⟩, 0⟩) (-1) false F ∧ ∀ x, F x → w.heap.size ≤ x := by
  refine (F10_calls n s w (fun v w' => ∃ a F, v = .tuple #[.pointer (some (at0 a)), .int .i64 0] ∧ Ext w w' ∧ IsArr w' a (List.replicate n.toNat ⟨⟨s, [], [], false⟩, 0⟩) (-1) false F ∧ ∀ x, F x → w.heap.size ≤ x)
    (fun p _ _ n7 w8 => ∃ (a i : Nat) (F : Nat → Prop), p = some (at0 a) ∧ n7 = i ∧ i ≤ n.toNat ∧ Ext w w8 ∧ IsArr w8 a (List.replicate i ⟨⟨s, [], [], false⟩, 0⟩) (-1) false F ∧ ∀ x, F x → w.heap.size ≤ x) (fun _ _ _ n7 _ => 32 - n7.toNat) ?_).mono (by
      rintro e w' ⟨v, rfl, a, F, rfl, h⟩; exact ⟨a, F, rfl, h⟩)
  refine condB_of (fun h1 => by simp only [decide_eq_true_eq] at h1; omega) (fun _ => condB_of (fun h1 => by simp only [decide_eq_true_eq] at h1; omega) (fun _ => ?_))
  intro k3 w4 hk
  refine ⟨⟨k3, 0, fun x => x = k3, rfl, rfl, Nat.zero_le _, hk.ext, ⟨none, 0, [], fun _ _ => False, ⟨_, hk.at⟩, OwnS.nil _ _ _ _, rfl, fun i m hi => by simp at hi, fun i j x hi _ _ _ => by simp at hi, fun i x hi _ => by simp at hi, by simp, fun x => by simp⟩, ?_⟩, ?_⟩
  · rintro x rfl
    rw [hk.size.1]; exact Nat.le_refl _
  rintro n7 w8 ⟨a, i, F, hp, rfl, hi, hx8, h8, hF⟩
  cases hp
  intros
  refine condB_of (fun hlt => ?_) (fun hge => ?_)
  · simp only [decide_eq_true_eq] at hlt
    refine (d_new hs w8).mono ?_
    rintro e w34 ⟨b, Fd, rfl, x34, hd, hFd⟩
    obtain ⟨p, cm, e1, hall⟩ := h8.push x34 hd hFd (by rw [List.length_replicate]; omega)
    rw [List.length_replicate] at e1 hall
    refine ⟨_, _, rfl, condB_of (fun h => by simp at h) fun _ => ⟨p, i, cm, e1, fun k39 w40 hk39 => ?_⟩⟩
    obtain ⟨p', c', w3, hr, hl, hset⟩ := hall k39 w40 hk39
    refine ⟨p', i + 1, c', w3, hr, hl, fun w43 hs43 => ?_⟩
    obtain ⟨F', hA, hu, hg⟩ := hset w43 hs43
    rw [w64 (by omega)]
    refine ⟨⟨k3, i + 1, F', rfl, by omega, by omega, ?_, ?_, fun x hx => ?_⟩, by show 32 - ((i : Int) + 1).toNat < 32 - (i : Int).toNat; omega⟩
    · refine Upd.trans hx8 hu fun x hx hf => ?_
      have := hF x hf; omega
    · rw [List.replicate_succ']; exact hA
    · rcases hg x hx with h | h
      · exact hF x h
      · exact Nat.le_trans hx8.size h
  · simp only [decide_eq_false_iff_not] at hge
    have : i = n.toNat := by omega
    subst this
    exact ⟨k3, F, rfl, hx8, h8, hF⟩

section
variable {w : World} {a : Nat} {M : List Mem} {left : Int} {down : Bool} {F : Nat → Prop}

theorem adown_spec (h : IsArr w a M left down F) : Calls Try.prog 15 #[.pointer (some (at0 a))] w fun e w' => e = .returned (.bool down) ∧ w' = w := by
  obtain ⟨p, cm, hr⟩ := h.row
  exact (F15_calls (some (at0 a)) w (fun v w' => v = .bool down ∧ w' = w) (condB_of (fun _ => ⟨_, hr.row.cell rfl, rfl, rfl⟩) fun h => by cases h)).mono (by rintro e w' ⟨v, rfl, rfl, h⟩; exact ⟨rfl, h⟩)
theorem there_spec (h : IsArr w a M left down F) (k : Int) : Calls Try.prog 33 #[.pointer (some (at0 a)), .int .i64 k] w fun e w' => e = .returned (.bool (decide (0 ≤ k ∧ k < M.length))) ∧ w' = w := by
  obtain ⟨p, cm, hr⟩ := h.row
  refine (F33_calls (some (at0 a)) k w (fun v w' => v = .bool (decide (0 ≤ k ∧ k < M.length)) ∧ w' = w) ?_).mono (by rintro e w' ⟨v, rfl, rfl, h⟩; exact ⟨rfl, h⟩)
  refine condB_of (fun _ => condB_of (fun h1 => ⟨_, _, _, hr.row.cell rfl, ?_, rfl⟩) fun h1 => ⟨?_, rfl⟩) fun h => by cases h
  · simp only [decide_eq_true_eq] at h1
    simp [h1]
  · simp only [decide_eq_false_iff_not] at h1
    simp [h1]
theorem after_spec (h : IsArr w a M left down F) (k : Int) : Calls Try.prog 11 #[.pointer (some (at0 a)), .int .i64 k] w fun e w' => e = .returned (.tuple #[]) ∧ Step F F w w' ∧
    IsArr w' a M (if down then left else if k < -1 then -1 else k) (if down then true else decide (k = 0)) F := by
  obtain ⟨p, cm, hr⟩ := h.row
  refine (F11_calls (some (at0 a)) k w (fun v w' => v = .tuple #[] ∧ Step F F w w' ∧ IsArr w' a M (if down then left else if k < -1 then -1 else k) (if down then true else decide (k = 0)) F) ?_).mono (by rintro e w' ⟨v, rfl, rfl, h⟩; exact ⟨rfl, h⟩)
  refine condB_of (fun _ => ⟨_, hr.row.cell rfl, condB_of (fun hd => ?_) fun hd => ?_⟩) fun h => by cases h
  · have hd' : down = false := by simpa using hd
    subst hd'
    refine ⟨hr.live (by simp), fun w6 s6 => ?_⟩
    obtain ⟨h6, st6⟩ := h.setLeft s6
    obtain ⟨p2, cm2, hr6⟩ := h6.row
    refine ⟨hr6.live (by simp), fun w8 s8 => ?_⟩
    obtain ⟨h8, st8⟩ := h6.setDown s8
    exact ⟨rfl, st6.trans st8, by simpa using h8⟩
  · have hd' : down = true := by simpa using hd
    subst hd'
    exact ⟨rfl, Step.refl _ _, by simpa using h⟩
theorem aread_down (h : IsArr w a M left true F) (i k : Int) : Calls Try.prog 13 #[.pointer (some (at0 a)), .int .i64 i, .int .i64 k] w fun e w' => e = .returned (.tuple #[.slice none 0 0, .int .i64 130]) ∧ w' = w := by
  refine (F13_calls (some (at0 a)) i k w (fun v w' => v = .tuple #[.slice none 0 0, .int .i64 130] ∧ w' = w) ?_).mono (by rintro e w' ⟨v, rfl, rfl, h⟩; exact ⟨rfl, h⟩)
  refine (adown_spec h).mono ?_
  rintro e w4 ⟨rfl, rfl⟩
  exact ⟨_, rfl, condB_of (fun _ => ⟨rfl, rfl⟩) fun h => by cases h⟩
theorem aread_spec (h : IsArr w a M left false F) {i : Nat} {m : Mem} (hi : M[i]? = some m) (k : Int) : Calls Try.prog 13 #[.pointer (some (at0 a)), .int .i64 (i : Int), .int .i64 k] w fun e w' => Ext w w' ∧
    ∃ p l c bs, e = .returned (.tuple #[.slice p l c, .int .i64 (faultZ m.d.dead m.d.sectors k)]) ∧ bs = (if faultZ m.d.dead m.d.sectors k = 0 then readD m.d k else []) ∧ l = bs.length ∧ OwnS w' w.heap.size 5 1 p l c (encB bs) ∧ l ≤ 4108 := by
  refine (F13_calls (some (at0 a)) (i : Int) k w (fun v w' => Ext w w' ∧ ∃ p l c bs, v = .tuple #[.slice p l c, .int .i64 (faultZ m.d.dead m.d.sectors k)] ∧ bs = (if faultZ m.d.dead m.d.sectors k = 0 then readD m.d k else []) ∧ l = bs.length ∧ OwnS w' w.heap.size 5 1 p l c (encB bs) ∧ l ≤ 4108) ?_).mono (by rintro e w' ⟨v, rfl, hx, p, l, c, bs, rfl, h⟩; exact ⟨hx, p, l, c, bs, rfl, h⟩)
  have hil : i < M.length := (List.getElem?_eq_some_iff.1 hi).1
  refine (adown_spec h).mono ?_
  rintro e w4 ⟨rfl, rfl⟩
  refine ⟨_, rfl, condB_of (fun h => by cases h) fun _ => (there_spec h (i : Int)).mono ?_⟩
  rintro e w7 ⟨rfl, rfl⟩
  obtain ⟨ap, cm, b, Fi, e0, _, e1, e2, hd, _, _⟩ := h.at hi
  refine ⟨_, rfl, condB_of (fun h0 => by simp at h0; omega) fun _ => ⟨_, _, _, e0, ⟨by omega, by omega⟩, _, by rw [Int.toNat_natCast]; exact e1, ?_⟩⟩
  refine (d_read hd k).mono ?_
  rintro e w14 ⟨hx, _, p, l, c, bs, rfl, h⟩
  exact ⟨_, _, _, _, rfl, hx, p, l, c, bs, rfl, h⟩
theorem awrite_spec (h : IsArr w a M left false F) (hleft : -1 ≤ left ∧ left ≤ 9223372036854775807) {i : Nat} {m : Mem} (hi : M[i]? = some m) (k : Int) {p : Option Addr} {l c : Nat} {bs : List UInt8} (hb : BytesAt w p l bs) :
    Calls Try.prog 12 #[.pointer (some (at0 a)), .int .i64 (i : Int), .int .i64 k, .slice p l c] w fun e w' => ∃ F', e = .returned (.int .i64 (writeZ m.d k bs.length)) ∧ Step F F' w w' ∧
      IsArr w' a (M.set i { m with d := writeD m.d k bs }) (if writeZ m.d k bs.length = 0 ∧ 0 < left then left - 1 else left) (decide (writeZ m.d k bs.length = 0 ∧ left = 1)) F' := by
  refine (F12_calls (some (at0 a)) (i : Int) k p l c w (fun v w' => ∃ F', v = .int .i64 (writeZ m.d k bs.length) ∧ Step F F' w w' ∧
      IsArr w' a (M.set i { m with d := writeD m.d k bs }) (if writeZ m.d k bs.length = 0 ∧ 0 < left then left - 1 else left) (decide (writeZ m.d k bs.length = 0 ∧ left = 1)) F') ?_).mono (by rintro e w' ⟨v, rfl, F', rfl, h⟩; exact ⟨F', rfl, h⟩)
  have hil : i < M.length := (List.getElem?_eq_some_iff.1 hi).1
  refine (adown_spec h).mono ?_
  rintro e w4 ⟨rfl, rfl⟩
  refine ⟨_, rfl, condB_of (fun h => by cases h) fun _ => (there_spec h (i : Int)).mono ?_⟩
  rintro e w7 ⟨rfl, rfl⟩
  obtain ⟨ap, cm, b, Fi, e0, _, e1, e2, hd, _, hstep⟩ := h.at hi
  refine ⟨_, rfl, condB_of (fun h0 => by simp at h0; omega) fun _ => ⟨_, _, _, e0, ⟨by omega, by omega⟩, _, by rw [Int.toNat_natCast]; exact e1, ?_⟩⟩
  refine (d_write hd k hb).mono ?_
  rintro e w15 ⟨F', rfl, hs, hd'⟩
  obtain ⟨F2, h2, s2⟩ := hstep _ _ _ hs hd'
  obtain ⟨p2, cm2, hr2⟩ := h2.row
  refine ⟨_, rfl, condB_of (fun hz => ?_) (fun hz => ?_)⟩
  · simp only [decide_eq_true_eq] at hz
    refine ⟨_, hr2.row.cell rfl, condB_of (fun hl => ?_) (fun hl => ?_)⟩
    · simp only [decide_eq_true_eq] at hl
      refine ⟨_, hr2.row.cell rfl, hr2.live (by simp), fun w23 s23 => ?_⟩
      obtain ⟨h3, s3⟩ := h2.setLeft s23
      obtain ⟨p3, cm3, hr3⟩ := h3.row
      refine ⟨_, hr3.row.cell rfl, hr3.live (by simp), fun w27 s27 => ?_⟩
      obtain ⟨h4, s4⟩ := h3.setDown s27
      refine ⟨F2, rfl, (s2.trans s3).trans s4, ?_⟩
      rw [w64 (by omega)] at h4
      rw [if_pos ⟨hz, hl⟩]
      have : decide (writeZ m.d k bs.length = 0 ∧ left = 1) = decide (left - 1 = 0) := by
        apply decide_eq_decide.2
        constructor
        · rintro ⟨_, h⟩; omega
        · intro h; exact ⟨hz, by omega⟩
      rw [this]; exact h4
    · simp only [decide_eq_false_iff_not] at hl
      refine ⟨F2, rfl, s2, ?_⟩
      rw [if_neg (fun h => hl h.2)]
      have : decide (writeZ m.d k bs.length = 0 ∧ left = 1) = false := decide_eq_false fun h => by omega
      rw [this]; exact h2
  · simp only [decide_eq_false_iff_not] at hz
    refine ⟨F2, rfl, s2, ?_⟩
    rw [if_neg (fun h => hz h.1)]
    have : decide (writeZ m.d k bs.length = 0 ∧ left = 1) = false := decide_eq_false fun h => hz h.1
    rw [this]; exact h2
theorem awrite_out (h : IsArr w a M left false F) {i : Int} (hi : ¬ (0 ≤ i ∧ i < M.length)) (k : Int) (p : Option Addr) (l c : Nat) :
    Calls Try.prog 12 #[.pointer (some (at0 a)), .int .i64 i, .int .i64 k, .slice p l c] w fun e w' => e = .returned (.int .i64 1) ∧ w' = w := by
  refine (F12_calls (some (at0 a)) i k p l c w (fun v w' => v = .int .i64 1 ∧ w' = w) ?_).mono (by rintro e w' ⟨v, rfl, rfl, h⟩; exact ⟨rfl, h⟩)
  refine (adown_spec h).mono ?_
  rintro e w4 ⟨rfl, rfl⟩
  refine ⟨_, rfl, condB_of (fun h => by cases h) fun _ => (there_spec h i).mono ?_⟩
  rintro e w7 ⟨rfl, rfl⟩
  exact ⟨_, rfl, condB_of (fun _ => ⟨rfl, rfl⟩) fun h0 => by simp only [Bool.not_eq_false', decide_eq_true_eq] at h0; exact absurd h0 hi⟩
theorem afail_spec (h : IsArr w a M left down F) {i : Nat} {m : Mem} (hi : M[i]? = some m) :
    Calls Try.prog 25 #[.pointer (some (at0 a)), .int .i64 (i : Int)] w fun e w' => ∃ F', e = .returned (.int .i64 0) ∧ Step F F' w w' ∧
      IsArr w' a (M.set i ⟨{ m.d with dead := true, lasts := [], waits := [] }, IntKind.i64.wrap (m.births + 1)⟩) left down F' := by
  refine (F25_calls (some (at0 a)) (i : Int) w (fun v w' => ∃ F', v = .int .i64 0 ∧ Step F F' w w' ∧
      IsArr w' a (M.set i ⟨{ m.d with dead := true, lasts := [], waits := [] }, IntKind.i64.wrap (m.births + 1)⟩) left down F') ?_).mono (by rintro e w' ⟨v, rfl, F', rfl, h⟩; exact ⟨F', rfl, h⟩)
  have hil : i < M.length := (List.getElem?_eq_some_iff.1 hi).1
  refine (there_spec h (i : Int)).mono ?_
  rintro e w7 ⟨rfl, rfl⟩
  obtain ⟨ap, cm, b, Fi, e0, _, e1, e2, hd, _, hstep⟩ := h.at hi
  refine ⟨_, rfl, condB_of (fun h0 => by simp at h0; omega) fun _ => ⟨_, _, _, e0, ⟨by omega, by omega⟩, _, by rw [Int.toNat_natCast]; exact e1, ?_⟩⟩
  refine (d_fail hd).mono ?_
  rintro e w10 ⟨rfl, hs, hd'⟩
  obtain ⟨F2, h2, s2⟩ := hstep _ _ _ hs hd'
  obtain ⟨ap2, cm2, q0, q1, q2, q3⟩ := h2.born (i := i) (m := { m with d := { m.d with dead := true, lasts := [], waits := [] } }) (List.getElem?_set_self hil)
  rw [List.length_set] at q0
  rw [Int.toNat_natCast]
  refine ⟨rfl, _, _, _, q0, ⟨by omega, by omega⟩, _, q1, ⟨by omega, by omega⟩, q2, fun w17 s17 => ?_⟩
  obtain ⟨h3, s3⟩ := q3 _ _ s17
  rw [List.set_set] at h3
  exact ⟨F2, rfl, s2.trans s3, h3⟩
end
end Go.Proofs.Ytbidancfbilbkaa
