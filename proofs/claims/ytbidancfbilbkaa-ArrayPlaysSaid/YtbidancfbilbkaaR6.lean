/- The document's array is made. -/
import Derived.Test.YtbidancfbilbkaaR5
namespace Go.Proofs.Ytbidancfbilbkaa
open Go Go.Vc

theorem elemP : ElemOf Try.prog 75 78 1 8 := ⟨by kernel_rfl, ⟨Try.t78, .pointer none, by kernel_rfl, by kernel_rfl, by kernel_rfl, by kernel_rfl, by kernel_rfl⟩, by decide⟩

theorem one_box {w1 w2 : World} {k : Nat} {v : Value} {e : TypeId} (hk : NewB w1 k (.cells #[v] e) w2) : CellsAt w2 (some (at0 k)) [v] := fun j u hj => ⟨_, rfl, Row.cell ⟨_, _, hk.at⟩ (by simpa using hj)⟩

/-- a row of a call's own grows by one: it stays where it is, or is new -/
theorem app_one_where {P : Program} {t e : TypeId} {bytes : Nat} (E : ElemOf P t e 1 bytes) (hby : bytes ≤ 64) {w1 w2 : World} {p : Option Addr} {n c : Nat} {xs : List Value} (h : OwnS w1 0 e 1 p n c xs) {k : Nat} {v : Value}
    (hk : NewB w1 k (.cells #[v] e) w2) (hv : v.oneCell' = true) (hn : n ≤ 100000) :
    ∃ p' c' w3, Sem.run P (Builtin.append_ #[t, t] t #[.slice p n c, .slice (some (at0 k)) 1 1]) w2 = .ok (.slice p' (n + 1) c') w3 ∧ OwnS w3 0 e 1 p' (n + 1) c' (xs ++ [v]) ∧ Upd (fun b => p = some (at0 b)) w2 w3 ∧
      (∀ x, p' = some (at0 x) → p = some (at0 x) ∨ x = w2.heap.size) := by
  have h2 := h.ext hk.ext
  have hone : ∀ u ∈ [v], u.oneCell' = true := by
    intro u hu
    simp only [List.mem_singleton] at hu
    subst hu; exact hv
  have hmul : (n + 1) * bytes ≤ (100000 + 1) * 64 := Nat.mul_le_mul (by omega) hby
  obtain ⟨p', c', w3, hr, own3, hu3, _⟩ := h2.append E t (q := some (at0 k)) (m := 1) (d := 1) (news := [v]) rfl (one_box hk) (fun h => by cases h) hone (by unfold maxLen; omega) (by omega) (Nat.zero_le _)
  have hw := app_where E t h2 rfl (one_box hk) hone (by omega) (by unfold maxLen; omega) (by omega) hr
  refine ⟨p', c', w3, hr, own3, hu3, fun x hp => ?_⟩
  rcases hw with h | h
  · exact .inl (by rw [← h]; exact hp)
  · rw [h] at hp
    simp only [Option.some.injEq, at0, Addr.mk.injEq, and_true] at hp
    exact .inr hp.symm

section
variable {w0 w1 : World} {r : Nat} {Ds : List Dk} {B : List Int} {left : Int} {off : Bool} {F : Nat → Prop}

set_option maxHeartbeats 1000000 in
/-- one disk more -/
theorem IsRA.pushD (h : IsRA w0 r Ds B left off F) (hx : Ext w0 w1) {b : Nat} {D : Dk} {Fd : Nat → Prop} (hd : RDsk w1 b D Fd) (hnew : ∀ x, Fd x → w0.heap.size ≤ x) (hM : Ds.length ≤ 100) :
    ∃ p cD, w1.cell? ((at0 r).add 0) = some (.slice p Ds.length cD) ∧ ∀ (k : Nat) (w2 : World), NewB w1 k (.cells #[.pointer (some (at0 b))] 78) w2 →
      ∃ p' c' w3, Sem.run Try.prog (Builtin.append_ #[75, 75] 75 #[.slice p Ds.length cD, .slice (some (at0 k)) 1 1]) w2 = .ok (.slice p' (Ds.length + 1) c') w3 ∧ Live w3 ((at0 r).add 0) ∧
        ∀ w4, SetC w3 ((at0 r).add 0) (.slice p' (Ds.length + 1) c') w4 → ∃ F', IsRA w4 r (Ds ++ [D]) B left off F' ∧ Upd F w0 w4 ∧ ∀ x, F' x → F x ∨ w0.heap.size ≤ x := by
  have hlt0 := h.lt
  have h' := h.ext hx
  obtain ⟨pD, cD, pB, cB, bs, Fs, h1, h2, h3, h4, h5, h6, h7, h8, h9⟩ := h'
  refine ⟨pD, cD, h1.row.cell rfl, fun k w2 hk => ?_⟩
  have x2 := hx.trans hk.ext
  have hs0 := x2.size
  have hksz := hk.size
  have hx1 := hx.size
  obtain ⟨p', c', w3, hr, own3, hu3, hka⟩ := app_one_where elemP (by omega) h2 hk rfl (by omega)
  have p_lt : ∀ x, pD = some (at0 x) → x < w0.heap.size := fun x hp => hlt0 x ((h9 x).2 (.inr (.inl hp)))
  have q_lt : ∀ x, pB = some (at0 x) → x < w0.heap.size := fun x hp => hlt0 x ((h9 x).2 (.inr (.inr (.inl hp))))
  have F_lt : ∀ i x, i < Ds.length → Fs i x → x < w0.heap.size := fun i x hi hf => hlt0 x ((h9 x).2 (.inr (.inr (.inr ⟨i, hi, hf⟩))))
  have r_lt : r < w0.heap.size := hlt0 r ((h9 r).2 (.inl rfl))
  have hd_lt := hd.lt
  have r3 := hu3.rowW (hk.ext.rowW h1 id) (fun e => h8.1 e)
  refine ⟨p', c', w3, hr, r3.live (by simp), fun w4 hs => ?_⟩
  have hu4 : Upd (fun x => x = r) w3 w4 := by
    have := hs.upd
    rw [add_block] at this
    exact this
  have hp'r : p' ≠ some (at0 r) := fun e => by
    rcases hka r e with h | h
    · exact h8.1 h
    · omega
  have hlen : (Ds ++ [D]).length = Ds.length + 1 := by simp
  have dsk2 : ∀ {b' : Nat} {D' : Dk} {F' : Nat → Prop}, RDsk w1 b' D' F' → (∀ x, F' x → x ≠ r ∧ pD ≠ some (at0 x)) → RDsk w4 b' D' F' := fun hd' hF =>
    ((hd'.ext hk.ext).upd hu3 (fun x hx hf => (hF x hf).2 hx)).upd hu4 fun x hx hf => (hF x hf).1 hx
  refine ⟨fun x => x = r ∨ p' = some (at0 x) ∨ pB = some (at0 x) ∨ ∃ i, i < Ds.length + 1 ∧ (if i = Ds.length then Fd else Fs i) x, ⟨p', c', pB, cB, bs ++ [b], fun i => if i = Ds.length then Fd else Fs i, ?_, ?_, ?_, by simp [h4], ?_, ?_, ?_, ⟨hp'r, h8.2.1, ?_⟩, ?_⟩, ?_, ?_⟩
  · rw [hlen]; exact hs.row r3
  · rw [hlen]
    have : ptrsR (bs ++ [b]) = ptrsR bs ++ [.pointer (some (at0 b))] := by simp [ptrsR]
    rw [this]
    exact own3.upd hu4 fun g hg e => hp'r (by rw [hg, e])
  · exact ((h3.ext hk.ext).upd hu3 fun g hg e => h8.2.2 g e hg).upd hu4 fun g hg e => h8.2.1 (by rw [hg, e])
  · intro i m hi
    rcases Nat.lt_or_ge i Ds.length with hil | hil
    · rw [List.getElem?_append_left hil] at hi
      obtain ⟨b', hb', hd'⟩ := h5 i m hi
      refine ⟨b', by rw [List.getElem?_append_left (by omega)]; exact hb', ?_⟩
      have hne : ¬ i = Ds.length := by omega
      simp only [if_neg hne]
      exact dsk2 hd' fun x hf => ⟨(h7 i x hil hf).1, (h7 i x hil hf).2.1⟩
    · have hi0 : i = Ds.length := by
        have := (List.getElem?_eq_some_iff.1 hi).1
        rw [hlen] at this; omega
      subst hi0
      rw [List.getElem?_append_right (Nat.le_refl _), Nat.sub_self] at hi
      cases hi
      refine ⟨b, by rw [List.getElem?_append_right (by omega), h4, Nat.sub_self]; rfl, ?_⟩
      simp only [if_true]
      exact dsk2 hd fun x hf => ⟨fun e => by have := hnew x hf; omega, fun e => by have := hnew x hf; have := p_lt x e; omega⟩
  · intro i j x hi hj hfi hfj
    rw [hlen] at hi hj
    by_cases hii : i = Ds.length <;> by_cases hjj : j = Ds.length
    · omega
    · simp only [if_pos hii] at hfi; simp only [if_neg hjj] at hfj
      have := hnew x hfi; have := F_lt j x (by omega) hfj; omega
    · simp only [if_neg hii] at hfi; simp only [if_pos hjj] at hfj
      have := hnew x hfj; have := F_lt i x (by omega) hfi; omega
    · simp only [if_neg hii] at hfi; simp only [if_neg hjj] at hfj
      exact h6 i j x (by omega) (by omega) hfi hfj
  · intro i x hi hf
    rw [hlen] at hi
    by_cases hii : i = Ds.length
    · simp only [if_pos hii] at hf
      have := hnew x hf
      refine ⟨by omega, fun e => ?_, fun e => ?_⟩
      · rcases hka x e with h | h
        · have := p_lt x h; omega
        · have := hd_lt x hf; omega
      · have := q_lt x e; omega
    · simp only [if_neg hii] at hf
      obtain ⟨g1, g2, g3⟩ := h7 i x (by omega) hf
      refine ⟨g1, fun e => ?_, g3⟩
      rcases hka x e with h | h
      · exact g2 h
      · have := F_lt i x (by omega) hf; omega
  · intro x hp hb
    rcases hka x hp with h | h
    · exact h8.2.2 x h hb
    · have := q_lt x hb; omega
  · intro x
    rw [hlen]
  · refine Upd.trans (Upd.trans (Ext.upd (S := F) x2) (hu3.mono fun x hx hp => (h9 x).2 (.inr (.inl hp))) fun _ _ h => h) (hu4.mono fun x _ hx => (h9 x).2 (.inl hx)) fun _ _ h => h
  · rintro x (rfl | hx | hx | ⟨i, hi, hx⟩)
    · exact .inl ((h9 _).2 (.inl rfl))
    · rcases hka x hx with h | h
      · exact .inl ((h9 _).2 (.inr (.inl h)))
      · exact .inr (by omega)
    · exact .inl ((h9 _).2 (.inr (.inr (.inl hx))))
    · by_cases hii : i = Ds.length
      · simp only [if_pos hii] at hx
        exact .inr (hnew x hx)
      · simp only [if_neg hii] at hx
        exact .inl ((h9 _).2 (.inr (.inr (.inr ⟨i, by omega, hx⟩))))

set_option maxHeartbeats 1000000 in
/-- one number more -/
theorem IsRA.pushB (h : IsRA w1 r Ds B left off F) (n : Int) (hM : B.length ≤ 100) :
    ∃ p cB, w1.cell? ((at0 r).add 1) = some (.slice p B.length cB) ∧ ∀ (k : Nat) (w2 : World), NewB w1 k (.cells #[.int .i64 n] 3) w2 →
      ∃ p' c' w3, Sem.run Try.prog (Builtin.append_ #[56, 56] 56 #[.slice p B.length cB, .slice (some (at0 k)) 1 1]) w2 = .ok (.slice p' (B.length + 1) c') w3 ∧ Live w3 ((at0 r).add 1) ∧
        ∀ w4, SetC w3 ((at0 r).add 1) (.slice p' (B.length + 1) c') w4 → ∃ F', IsRA w4 r Ds (B ++ [n]) left off F' ∧ Upd F w1 w4 ∧ ∀ x, F' x → F x ∨ w1.heap.size ≤ x := by
  have hlt0 := h.lt
  obtain ⟨pD, cD, pB, cB, bs, Fs, h1, h2, h3, h4, h5, h6, h7, h8, h9⟩ := h
  refine ⟨pB, cB, h1.row.cell rfl, fun k w2 hk => ?_⟩
  have hs0 := hk.ext.size
  have hksz := hk.size
  obtain ⟨p', c', w3, hr, own3, hu3, hka⟩ := app_one_where elemInt (by omega) h3 hk rfl (by omega)
  have p_lt : ∀ x, pD = some (at0 x) → x < w1.heap.size := fun x hp => hlt0 x ((h9 x).2 (.inr (.inl hp)))
  have F_lt : ∀ i x, i < Ds.length → Fs i x → x < w1.heap.size := fun i x hi hf => hlt0 x ((h9 x).2 (.inr (.inr (.inr ⟨i, hi, hf⟩))))
  have r_lt : r < w1.heap.size := hlt0 r ((h9 r).2 (.inl rfl))
  have r3 := hu3.rowW (hk.ext.rowW h1 id) (fun e => h8.2.1 e)
  refine ⟨p', c', w3, hr, r3.live (by simp), fun w4 hs => ?_⟩
  have hu4 : Upd (fun x => x = r) w3 w4 := by
    have := hs.upd
    rw [add_block] at this
    exact this
  have hp'r : p' ≠ some (at0 r) := fun e => by
    rcases hka r e with h | h
    · exact h8.2.1 h
    · omega
  have hlen : (B ++ [n]).length = B.length + 1 := by simp
  refine ⟨fun x => x = r ∨ pD = some (at0 x) ∨ p' = some (at0 x) ∨ ∃ i, i < Ds.length ∧ Fs i x, ⟨pD, cD, p', c', bs, Fs, ?_, ?_, ?_, h4, ?_, h6, ?_, ⟨h8.1, hp'r, ?_⟩, ?_⟩, ?_, ?_⟩
  · rw [hlen]; exact hs.row r3
  · exact ((h2.ext hk.ext).upd hu3 fun g hg e => h8.2.2 g hg e).upd hu4 fun g hg e => h8.1 (by rw [hg, e])
  · rw [hlen]
    have : intsR (B ++ [n]) = intsR B ++ [.int .i64 n] := by simp [intsR]
    rw [this]
    exact own3.upd hu4 fun g hg e => hp'r (by rw [hg, e])
  · intro i m hi
    obtain ⟨b', hb', hd'⟩ := h5 i m hi
    have hil := (List.getElem?_eq_some_iff.1 hi).1
    exact ⟨b', hb', ((hd'.ext hk.ext).upd hu3 fun x hx hf => (h7 i x hil hf).2.2 hx).upd hu4 fun x hx hf => (h7 i x hil hf).1 hx⟩
  · intro i x hi hf
    obtain ⟨g1, g2, g3⟩ := h7 i x hi hf
    refine ⟨g1, g2, fun e => ?_⟩
    rcases hka x e with h | h
    · exact g3 h
    · have := F_lt i x hi hf; omega
  · intro x hp hb
    rcases hka x hb with h | h
    · exact h8.2.2 x hp h
    · have := p_lt x hp; omega
  · intro x; rfl
  · refine Upd.trans (Upd.trans (Ext.upd (S := F) hk.ext) (hu3.mono fun x hx hp => (h9 x).2 (.inr (.inr (.inl hp)))) fun _ _ h => h) (hu4.mono fun x _ hx => (h9 x).2 (.inl hx)) fun _ _ h => h
  · rintro x (rfl | hx | hx | ⟨i, hi, hx⟩)
    · exact .inl ((h9 _).2 (.inl rfl))
    · exact .inl ((h9 _).2 (.inr (.inl hx)))
    · rcases hka x hx with h | h
      · exact .inl ((h9 _).2 (.inr (.inr (.inl h))))
      · exact .inr (by omega)
    · exact .inl ((h9 _).2 (.inr (.inr (.inr ⟨i, hi, hx⟩))))
end

theorem ra_new_bad {n s : Int} (h : n < 1 ∨ 32 < n) (w : World) : Calls Try.prog 19 #[.int .i64 n, .int .i64 s] w fun e w' => e = .returned (.tuple #[.pointer none, .int .i64 1]) ∧ w' = w := by
  refine (F19_calls n s w (fun v w' => v = .tuple #[.pointer none, .int .i64 1] ∧ w' = w) (fun _ _ _ _ => False) (fun _ _ _ _ => 0) ?_).mono (by rintro e w' ⟨v, rfl, rfl, h⟩; exact ⟨rfl, h⟩)
  refine condB_of (fun _ => ⟨rfl, rfl⟩) (fun h1 => condB_of (fun _ => ⟨rfl, rfl⟩) (fun h2 => ?_))
  simp only [decide_eq_false_iff_not] at h1 h2
  omega
set_option maxHeartbeats 1000000 in
theorem ra_new_good {n s : Int} (h : 1 ≤ n ∧ n ≤ 32) (hs : 1 ≤ s ∧ s ≤ 4096) (w : World) : Calls Try.prog 19 #[.int .i64 n, .int .i64 s] w fun e w' => ∃ r F, e = .returned (.tuple #[.pointer (some (at0 r)), .int .i64 0]) ∧ Ext w w' ∧
    IsRA w' r (List.replicate n.toNat ⟨s, [], [], false⟩) (List.replicate n.toNat 0) (-1) false F ∧ ∀ x, F x → w.heap.size ≤ x := by
  refine (F19_calls n s w (fun v w' => ∃ r F, v = .tuple #[.pointer (some (at0 r)), .int .i64 0] ∧ Ext w w' ∧ IsRA w' r (List.replicate n.toNat ⟨s, [], [], false⟩) (List.replicate n.toNat 0) (-1) false F ∧ ∀ x, F x → w.heap.size ≤ x)
    (fun p _ n6 w7 => ∃ (r i : Nat) (F : Nat → Prop), p = some (at0 r) ∧ n6 = i ∧ i ≤ n.toNat ∧ Ext w w7 ∧ IsRA w7 r (List.replicate i ⟨s, [], [], false⟩) (List.replicate i 0) (-1) false F ∧ ∀ x, F x → w.heap.size ≤ x) (fun _ _ n6 _ => 32 - n6.toNat) ?_).mono (by
      rintro e w' ⟨v, rfl, r, F, rfl, h⟩; exact ⟨r, F, rfl, h⟩)
  refine condB_of (fun h1 => by simp only [decide_eq_true_eq] at h1; omega) (fun _ => condB_of (fun h1 => by simp only [decide_eq_true_eq] at h1; omega) (fun _ => ?_))
  intro k3 w4 hk
  refine ⟨⟨k3, 0, fun x => x = k3, rfl, rfl, Nat.zero_le _, hk.ext, ⟨none, 0, none, 0, [], fun _ _ => False, ⟨_, hk.at⟩, OwnS.nil _ _ _ _, OwnS.nil _ _ _ _, rfl, fun i m hi => by simp at hi, fun i j x hi _ _ _ => by simp at hi, fun i x hi _ => by simp at hi, ⟨by simp, by simp, fun x h => by cases h⟩, fun x => by simp⟩, ?_⟩, ?_⟩
  · rintro x rfl
    rw [hk.size.1]; exact Nat.le_refl _
  rintro n6 w7 ⟨r, i, F, hp, rfl, hi, hx7, h7, hF⟩
  simp only [Option.some.injEq, at0, Addr.mk.injEq, and_true] at hp
  subst hp
  intros
  refine condB_of (fun hlt => ?_) (fun hge => ?_)
  · simp only [decide_eq_true_eq] at hlt
    refine (rd_new hs w7).mono ?_
    rintro e w44 ⟨b, Fd, rfl, x44, hd, hFd⟩
    obtain ⟨p, cD, e1, hall⟩ := h7.pushD x44 hd hFd (by rw [List.length_replicate]; omega)
    rw [List.length_replicate] at e1 hall
    refine ⟨_, _, rfl, condB_of (fun h => by simp at h) fun _ => ⟨p, i, cD, e1, fun k49 w50 hk49 => ?_⟩⟩
    obtain ⟨p', c', w51, hr, hl, hset⟩ := hall k49 w50 hk49
    refine ⟨p', i + 1, c', w51, hr, hl, fun w53 hs53 => ?_⟩
    obtain ⟨F1, hA1, hu1, hg1⟩ := hset w53 hs53
    obtain ⟨p2, cB, e2, hall2⟩ := hA1.pushB 0 (by rw [List.length_replicate]; omega)
    rw [List.length_replicate] at e2 hall2
    refine ⟨p2, i, cB, e2, fun k55 w56 hk55 => ?_⟩
    obtain ⟨p3, c3, w57, hr3, hl3, hset3⟩ := hall2 k55 w56 hk55
    refine ⟨p3, i + 1, c3, w57, hr3, hl3, fun w59 hs59 => ?_⟩
    obtain ⟨F2, hA2, hu2, hg2⟩ := hset3 w59 hs59
    rw [w64 (by omega)]
    have y53 : Ext w w53 := Upd.trans hx7 hu1 fun x hx hf => by have := hF x hf; omega
    have hF1 : ∀ x, F1 x → w.heap.size ≤ x := fun x hx => by
      rcases hg1 x hx with h | h
      · exact hF x h
      · exact Nat.le_trans hx7.size h
    refine ⟨⟨k3, i + 1, F2, rfl, by omega, by omega, Upd.trans y53 hu2 fun x hx hf => (by have := hF1 x hf; omega), ?_, fun x hx => ?_⟩, by show 32 - ((i : Int) + 1).toNat < 32 - (i : Int).toNat; omega⟩
    · rw [List.replicate_succ', List.replicate_succ']; exact hA2
    · rcases hg2 x hx with h | h
      · exact hF1 x h
      · exact Nat.le_trans y53.size h
  · simp only [decide_eq_false_iff_not] at hge
    have : i = n.toNat := by omega
    subst this
    exact ⟨k3, F, rfl, hx7, h7, hF⟩
end Go.Proofs.Ytbidancfbilbkaa
