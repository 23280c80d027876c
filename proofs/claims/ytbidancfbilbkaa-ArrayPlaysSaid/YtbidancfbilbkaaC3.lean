/- The disk: a map copied into another one; flushing, crashing, writing, reading, corrupting. -/
import Derived.Test.YtbidancfbilbkaaC2
namespace Go.Proofs.Ytbidancfbilbkaa
open Go.Vc

theorem copy_spec {V : Value → List UInt8 → Prop} (hV : ∀ v x, V v x → ∃ p n c, v = .slice p n c) {w : World} {m1 m2 : Nat} {L W : SM} (h1 : MapOf intK V w m1 L) (h2 : MapOf intK V w m2 W) (hne : m1 ≠ m2) :
    Calls Try.prog 58 #[.map (some m1), .map (some m2)] w fun e w' => e = .returned (.tuple #[]) ∧ Upd (fun x => x = m1) w w' ∧ MapOf intK V w' m1 (over L W) := by
  refine (F58_calls (some m1) (some m2) w (fun v w' => v = .tuple #[] ∧ Upd (fun x => x = m1) w w' ∧ MapOf intK V w' m1 (over L W))
    (fun it _ w8 => ∃ k dn rest, it = some (at0 k) ∧ (dn ++ rest).Perm W ∧ ItOf intK V w8 k m2 W rest ∧ MapOf intK V w8 m1 (over L dn) ∧ Upd (fun x => x = m1) w w8 ∧ w.heap.size ≤ k)
    (fun it _ w8 => leftIt w8 it m2) ?_).mono (by rintro e w' ⟨v, rfl, rfl, h⟩; exact ⟨rfl, h⟩)
  obtain ⟨es, c, l, hm, hok, hp⟩ := id h2
  refine ⟨es, c, hm, fun k w6 hk => ⟨⟨k, [], W, rfl, by simp, ItOf.made h2 hm hk, ?_, hk.ext.upd, ?_⟩, ?_⟩⟩
  · rw [over_nil]; exact h1.upd hk.ext id
  · rw [hk.size.1]; exact Nat.le_refl _
  · rintro w8 ⟨k', dn, rest, hkk, hperm, hit, hdst, hu, hks⟩
    simp only [Option.some.injEq, at0, Addr.mk.injEq, _root_.and_true] at hkk
    subst hkk
    intros
    have hkm : k ≠ m1 := by have := h1.lt; omega
    refine hit.next ?_ ?_
    · intro kk x v rest' w21 hperm' hu21 hs21 hat
      obtain ⟨hv, hin⟩ := hat.entry
      obtain ⟨p, n, c', rfl⟩ := hV v x hv
      refine ⟨kk, p, n, c', hat.entryAt, ?_⟩
      have hdst21 := hdst.upd hu21 (Ne.symm hkm)
      obtain ⟨w25, hr25, hu25, hs25, hm25⟩ := hdst21.update mapT intT kk hv
      refine ⟨w25, hr25, ⟨k, dn ++ [(kk, x)], rest', rfl, ?_, (hat.toIt.upd hu25 hkm (Ne.symm hne)), ?_, ?_, hks⟩, ?_⟩
      · refine List.Perm.trans ?_ hperm
        rw [List.append_assoc]
        exact (hperm'.symm).append_left dn
      · have hnd : kk ∉ dn.map (·.1) := by
          have hW := h2.nodup
          have := ((hperm.map (·.1)).nodup_iff).2 hW
          rw [List.map_append, List.nodup_append] at this
          intro hmem
          exact this.2.2 kk hmem kk ((hperm'.map (·.1)).mem_iff.2 (by simp)) rfl
        exact hm25.perm ((over_step hnd).trans (over_perm (List.perm_append_singleton _ _).symm))
      · have hu21' : Upd (fun x => x = m1) w w21 := Upd.trans hu hu21 fun y hy hyk => by omega
        exact Upd.trans hu21' hu25 fun _ _ h => h
      · show leftIt w25 (some (at0 k)) m2 < leftIt w8 (some (at0 k)) m2
        rw [(hat.toIt.upd hu25 hkm (Ne.symm hne)).left, hit.left, hperm'.length_eq]
        simp
    · rintro rfl w22 hq
      rw [List.append_nil] at hperm
      refine ⟨rfl, Upd.trans hu hq.ext (fun _ _ h => h.elim), (hdst.upd hq.ext id).perm (over_perm hperm)⟩

theorem SliceVal.slice {G : Nat → Prop} {w : World} {v : Value} {x : List UInt8} (h : SliceVal G w v x) : ∃ p n c, v = .slice p n c := by
  obtain ⟨p, n, c, rfl, _⟩ := h
  exact ⟨p, n, c, rfl⟩

/-- what waited lasts, and nothing waits: the two steps with which a flush and a crash end -/
theorem settle {w : World} {b m1 m2 : Nat} {D : Dk} {G : Nat → Prop} (h : IsDisk w b m1 m2 D G) {R : World → Prop}
    (hR : ∀ w', Upd (Core b m1 m2) w w' → IsDisk w' b m1 m2 { D with lasts := mrg D.lasts D.waits, waits := [] } G → R w') :
    Calls Try.prog 58 #[.map (some m1), .map (some m2)] w fun e w' => e = .returned (.tuple #[]) ∧
      ∃ r, w'.cell? ((at0 b).add 2) = some (.map r) ∧ ∃ v w'', Sem.run Try.prog (Builtin.clear_ #[87] 0 #[.map r]) w' = .ok v w'' ∧ R w'' := by
  obtain ⟨n1, n2, n3⟩ := h.ne
  refine (copy_spec (fun _ _ hv => hv.slice) h.lasts h.waits n3).mono ?_
  rintro e w1 ⟨rfl, hu1, hm1⟩
  have hr1 := hu1.rowW h.row n1
  refine ⟨rfl, _, hr1.row.cell rfl, ?_⟩
  have hG : ∀ x, G x → ¬ (x = m1) := fun x hx => (h.apart x hx).2.1
  obtain ⟨w2, hr2, hu2, _, hm2⟩ := MapOf.clear (P := Try.prog) (ty := 0) (h.waits.upd hu1 (Ne.symm n3)) mapT
  refine ⟨_, w2, hr2, hR w2 ?_ ?_⟩
  · exact Upd.trans (hu1.mono fun x _ hx => .inr (.inl hx)) hu2 fun x _ hx => .inr (.inr hx)
  · have hG2 : ∀ x, G x → ¬ (x = m2) := fun x hx => (h.apart x hx).2.2
    refine ⟨hu2.rowW hr1 n2, ?_, hm2.empty, mrg_asc h.asc1, .nil, h.ne, h.apart, fun x hx => Nat.lt_of_lt_of_le (h.bound x hx) (Nat.le_trans hu1.size hu2.size)⟩
    have := (hm1.perm (mrg_perm h.asc2.nodup).symm).upd hu2 n3
    exact this.mono fun v x hv => (hv.upd hu1 hG).upd hu2 hG2

theorem flush_nil (w : World) : Calls Try.prog 36 #[.pointer none] w fun e w' => e = .returned (.int .i64 1) ∧ w' = w := by
  refine (F36_calls none w (fun v w' => v = .int .i64 1 ∧ w' = w) ?_).mono (by rintro e w' ⟨v, rfl, rfl, h⟩; exact ⟨rfl, h⟩)
  refine (fault_nil 0 w).mono ?_
  rintro e w2 ⟨rfl, rfl⟩
  exact ⟨1, rfl, condB_of (fun _ => ⟨rfl, rfl⟩) (fun h => by simp at h)⟩

def flushD (D : Dk) : Dk := if D.dead then D else { D with lasts := mrg D.lasts D.waits, waits := [] }

theorem flush_spec {w : World} {b m1 m2 : Nat} {D : Dk} {G : Nat → Prop} (h : IsDisk w b m1 m2 D G) (hs : 1 ≤ D.sectors) :
    Calls Try.prog 36 #[.pointer (some (at0 b))] w fun e w' => e = .returned (.int .i64 (if D.dead then 120 else 0)) ∧ Upd (Core b m1 m2) w w' ∧ IsDisk w' b m1 m2 (flushD D) G := by
  refine (F36_calls (some (at0 b)) w (fun v w' => v = .int .i64 (if D.dead then 120 else 0) ∧ Upd (Core b m1 m2) w w' ∧ IsDisk w' b m1 m2 (flushD D) G) ?_).mono (by
    rintro e w' ⟨v, rfl, rfl, h⟩; exact ⟨rfl, h⟩)
  refine (fault_spec h.row).mono ?_
  rintro e w2 ⟨rfl, rfl⟩
  refine ⟨_, rfl, ?_⟩
  cases hd : D.dead with
  | true =>
    refine condB_of (fun _ => ?_) (fun hf => by simp [faultZ] at hf)
    exact ⟨by simp [faultZ], Upd.refl _ _, by simp [flushD, hd, h]⟩
  | false =>
    refine condB_of (fun hf => by simp [faultZ] at hf; omega) (fun _ => ?_)
    intro w5 hw5
    have h5 := h.ext hw5.ext
    refine ⟨_, h5.row.row.cell rfl, _, h5.row.row.cell rfl, ?_⟩
    refine (settle h5 (R := fun w'' => Value.int .i64 0 = .int .i64 (if false = true then 120 else 0) ∧ Upd (Core b m1 m2) w2 w'' ∧ IsDisk w'' b m1 m2 (flushD D) G) ?_).mono (fun _ _ h => h)
    intro w' hu hD
    exact ⟨rfl, Upd.trans hw5.ext.upd hu fun _ _ h => h, by simpa [flushD, hd] using hD⟩
end Go.Proofs.Ytbidancfbilbkaa
