/- An array of disks: where an append lands; making one. -/
import Derived.Test.YtbidancfbilbkaaA1
namespace Go.Proofs.Ytbidancfbilbkaa
open Go Go.Vc

/-- an append keeps the row, or makes a new one -/
theorem app_where {P : Program} {t e : TypeId} {sz bytes : Nat} (E : ElemOf P t e sz bytes) (ty : TypeId) {w : World} {base : Nat} {p : Option Addr} {n c : Nat} {xs : List Value} (h : OwnS w base e sz p n c xs)
    {a : Addr} {m d : Nat} {news : List Value} (hl : news.length = m * sz) (hq : CellsAt w (some a) news) (h1 : ∀ u ∈ news, u.oneCell' = true) (hm : 0 < m) (h63 : n + m ≤ maxLen)
    (hbytes : (n + m) * bytes ≤ 140737488355328) {p' : Option Addr} {l' c' : Nat} {w' : World} (hr : (Builtin.append_ #[t, t] ty #[.slice p n c, .slice (some a) m d]).run P w = .ok (.slice p' l' c') w') :
    p' = p ∨ p' = some (at0 w.heap.size) := by
  obtain ⟨i, z, hi, hz, hs, hb, hzs⟩ := E.hi
  subst hs
  subst hb
  have hsmall : n + m ≤ 9223372036854775807 := by simp only [maxLen] at h63; omega
  have hnews : ∀ j u, news[j]? = some u → w.cell? (a.add j) = some u := by
    intro j u hj
    obtain ⟨a', ha, hc⟩ := hq j u hj
    cases ha; exact hc
  rcases h.where_ with ⟨rfl, rfl, rfl⟩ | ⟨g, rfl, hge, hlt, hnc, cur, hg, hcs, htake⟩
  · have hr2 := run_append_nil (P := P) w t ty e i z E.ht hi hz a m d news hl hnews (by omega) (by omega) (by have hb := hbytes; simp only [Nat.zero_add] at hb; omega)
    rw [hr] at hr2
    simp only [Result.ok.injEq, Value.slice.injEq] at hr2
    exact .inr hr2.1.1
  · by_cases hroom : n + m ≤ c
    · have hfit : n * i.size + news.length ≤ cur.size := by rw [hl, hcs, ← Nat.add_mul]; exact Nat.mul_le_mul_right _ hroom
      have hr2 := run_append_room (P := P) w t ty e i E.ht hi g n c cur hg a m d news hl hnews h1 hroom hfit
      rw [show (some (at0 g) : Option Addr) = some ⟨g, 0, none⟩ from rfl] at hr
      rw [hr] at hr2
      simp only [Result.ok.injEq, Value.slice.injEq] at hr2
      exact .inl hr2.1.1
    · have holds : ∀ j u, xs[j]? = some u → w.cell? ((⟨g, 0, none⟩ : Addr).add j) = some u := by
        intro j u hj
        obtain ⟨a', ha, hc⟩ := h.cells j u hj
        cases ha; exact hc
      have hr2 := run_append_grow (P := P) w t ty e i z E.ht hi hz ⟨g, 0, none⟩ n c xs h.length holds a m d news hl hnews (by omega) (by omega) (growslice_fits (by omega) hbytes)
      rw [show (some (at0 g) : Option Addr) = some ⟨g, 0, none⟩ from rfl] at hr
      rw [hr] at hr2
      simp only [Result.ok.injEq, Value.slice.injEq] at hr2
      exact .inr hr2.1.1

theorem elemM : ElemOf Try.prog 62 69 2 16 := ⟨by kernel_rfl, ⟨Try.t69, .agg #[.pointer none, .int .i64 0], by kernel_rfl, by kernel_rfl, by kernel_rfl, by kernel_rfl, by kernel_rfl⟩, by decide⟩

set_option maxHeartbeats 1000000 in
/-- one disk more -/
theorem IsArr.push {w0 w1 : World} {a : Nat} {M : List Mem} {left : Int} {down : Bool} {F : Nat → Prop} (h : IsArr w0 a M left down F) (hx : Ext w0 w1) {b : Nat} {D : Dk} {Fd : Nat → Prop} (hd : Dsk w1 b D Fd) (hnew : ∀ x, Fd x → w0.heap.size ≤ x) (hM : M.length ≤ 100) :
    ∃ p cm, w1.cell? ((at0 a).add 0) = some (.slice p M.length cm) ∧ ∀ (k : Nat) (w2 : World), NewB w1 k (.cells #[.pointer (some (at0 b)), .int .i64 0] 69) w2 →
      ∃ p' c' w3, Sem.run Try.prog (Builtin.append_ #[62, 62] 62 #[.slice p M.length cm, .slice (some (at0 k)) 1 1]) w2 = .ok (.slice p' (M.length + 1) c') w3 ∧ Live w3 ((at0 a).add 0) ∧
        ∀ w4, SetC w3 ((at0 a).add 0) (.slice p' (M.length + 1) c') w4 → ∃ F', IsArr w4 a (M ++ [⟨D, 0⟩]) left down F' ∧ Upd F w0 w4 ∧ ∀ x, F' x → F x ∨ w0.heap.size ≤ x := by
  have hlt0 := h.lt
  have h' := h.ext hx
  obtain ⟨p, cm, bs, Fs, h1, h2, h3, h4, h5, h6, h7, h8⟩ := h'
  refine ⟨p, cm, h1.row.cell rfl, fun k w2 hk => ?_⟩
  have x2 := hx.trans hk.ext
  have hksz := hk.size
  have hs0 := hx.size
  have hbox : CellsAt w2 (some (at0 k)) [.pointer (some (at0 b)), .int .i64 0] := by
    intro j u hj
    refine ⟨_, rfl, ?_⟩
    have hb := hk.at
    match j, hj with
    | 0, hj => cases hj; simp [World.cell?, Addr.add, hb]
    | 1, hj => cases hj; simp [World.cell?, Addr.add, hb]
  have hone : ∀ u ∈ [Value.pointer (some (at0 b)), .int .i64 0], u.oneCell' = true := by
    intro u hu
    simp only [List.mem_cons, List.not_mem_nil, or_false] at hu
    rcases hu with rfl | rfl <;> rfl
  have h22 := h2.ext hk.ext
  obtain ⟨p', c', w3, hr, own3, hu3, _⟩ := h22.append elemM 62 (q := some (at0 k)) (m := 1) (d := 1) (news := [.pointer (some (at0 b)), .int .i64 0]) rfl hbox (fun h => by cases h) hone (by unfold maxLen; omega) (by omega) (Nat.zero_le _)
  have hw := app_where elemM 62 h22 rfl hbox hone (by omega) (by unfold maxLen; omega) (by omega) hr
  have p_lt : ∀ x, p = some (at0 x) → x < w0.heap.size := fun x hp => hlt0 x ((h8 x).2 (.inr (.inl hp)))
  have F_lt : ∀ i x, i < M.length → Fs i x → x < w0.heap.size := fun i x hi hf => hlt0 x ((h8 x).2 (.inr (.inr ⟨i, hi, hf⟩)))
  have a_lt : a < w0.heap.size := hlt0 a ((h8 a).2 (.inl rfl))
  have hd_lt := hd.lt
  have hka : ∀ x, p' = some (at0 x) → (p = some (at0 x)) ∨ x = w2.heap.size := by
    intro x hp
    rcases hw with h | h
    · exact .inl (by rw [← h]; exact hp)
    · rw [h] at hp
      simp only [Option.some.injEq, at0, Addr.mk.injEq, and_true] at hp
      exact .inr hp.symm
  have hna : p ≠ some (at0 a) := h7
  have r3 := hu3.rowW (hk.ext.rowW h1 id) (fun e => hna e)
  refine ⟨p', c', w3, hr, r3.live (by simp), fun w4 hs => ?_⟩
  have hu4 : Upd (fun x => x = a) w3 w4 := by
    have := hs.upd
    rw [add_at0] at this
    exact this
  have hp'a : p' ≠ some (at0 a) := fun e => by
    rcases hka a e with h | h
    · exact hna h
    · omega
  have hlen : (M ++ [(⟨D, 0⟩ : Mem)]).length = M.length + 1 := by simp
  have dsk2 : ∀ {b' : Nat} {D' : Dk} {F' : Nat → Prop}, Dsk w1 b' D' F' → (∀ x, F' x → x ≠ a ∧ p ≠ some (at0 x)) → Dsk w4 b' D' F' := fun hd' hF =>
    ((hd'.ext hk.ext).upd hu3 (fun x hx hf => (hF x hf).2 hx)).upd hu4 fun x hx hf => (hF x hf).1 hx
  refine ⟨fun x => x = a ∨ p' = some (at0 x) ∨ ∃ i, i < M.length + 1 ∧ (if i = M.length then Fd else Fs i) x, ⟨p', c', bs ++ [b], fun i => if i = M.length then Fd else Fs i, ?_, ?_, by simp [h3], ?_, ?_, ?_, hp'a, ?_⟩, ?_, ?_⟩
  · rw [hlen]; exact hs.row r3
  · rw [hlen, memCells_app _ _ h3]
    exact own3.upd hu4 fun g hg e => hp'a (by rw [hg, e])
  · intro i m hi
    rcases Nat.lt_or_ge i M.length with hil | hil
    · rw [List.getElem?_append_left hil] at hi
      obtain ⟨b', hb', hd'⟩ := h4 i m hi
      refine ⟨b', by rw [List.getElem?_append_left (by omega)]; exact hb', ?_⟩
      have hne : ¬ i = M.length := by omega
      simp only [if_neg hne]
      exact dsk2 hd' fun x hf => h6 i x hil hf
    · have hi0 : i = M.length := by
        have := (List.getElem?_eq_some_iff.1 hi).1
        rw [hlen] at this; omega
      subst hi0
      rw [List.getElem?_append_right (Nat.le_refl _), Nat.sub_self] at hi
      cases hi
      refine ⟨b, by rw [List.getElem?_append_right (by omega), h3, Nat.sub_self]; rfl, ?_⟩
      simp only [if_true]
      exact dsk2 hd fun x hf => ⟨fun e => by have := hnew x hf; omega, fun e => by have := hnew x hf; have := p_lt x e; omega⟩
  · intro i j x hi hj hfi hfj
    rw [hlen] at hi hj
    by_cases hii : i = M.length <;> by_cases hjj : j = M.length
    · omega
    · simp only [if_pos hii] at hfi; simp only [if_neg hjj] at hfj
      have := hnew x hfi; have := F_lt j x (by omega) hfj; omega
    · simp only [if_neg hii] at hfi; simp only [if_pos hjj] at hfj
      have := hnew x hfj; have := F_lt i x (by omega) hfi; omega
    · simp only [if_neg hii] at hfi; simp only [if_neg hjj] at hfj
      exact h5 i j x (by omega) (by omega) hfi hfj
  · intro i x hi hf
    rw [hlen] at hi
    by_cases hii : i = M.length
    · simp only [if_pos hii] at hf
      have := hnew x hf
      refine ⟨by omega, fun e => ?_⟩
      rcases hka x e with h | h
      · have := p_lt x h; omega
      · have := hd_lt x hf; omega
    · simp only [if_neg hii] at hf
      obtain ⟨q1, q2⟩ := h6 i x (by omega) hf
      refine ⟨q1, fun e => ?_⟩
      rcases hka x e with h | h
      · exact q2 h
      · have := F_lt i x (by omega) hf; omega
  · intro x
    rw [hlen]
  · refine Upd.trans (Upd.trans (x2.upd (S := F)) hu3 fun x _ hx => (h8 x).2 (.inr (.inl hx))) hu4 fun x _ hx => (h8 x).2 (.inl hx)
  · rintro x (rfl | hx' | ⟨i, hi, hf⟩)
    · exact .inl ((h8 _).2 (.inl rfl))
    · rcases hka x hx' with h | h
      · exact .inl ((h8 _).2 (.inr (.inl h)))
      · exact .inr (by omega)
    · by_cases hii : i = M.length
      · simp only [if_pos hii] at hf
        exact .inr (hnew x hf)
      · simp only [if_neg hii] at hf
        exact .inl ((h8 _).2 (.inr (.inr ⟨i, by omega, hf⟩)))
end Go.Proofs.Ytbidancfbilbkaa
