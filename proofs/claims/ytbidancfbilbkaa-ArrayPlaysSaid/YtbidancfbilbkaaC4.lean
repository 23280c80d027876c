/- The disk: crashing, reading, writing, making. -/
import Derived.Test.YtbidancfbilbkaaC3
namespace Go.Proofs.Ytbidancfbilbkaa
open Go.Vc

theorem crash_nil (p : Option Addr) (l c : Nat) (w : World) : Calls Try.prog 39 #[.pointer none, .slice p l c] w fun e w' => e = .returned (.tuple #[]) ∧ w' = w := by
  refine (F39_calls none p l c w (fun v w' => v = .tuple #[] ∧ w' = w) (fun _ _ _ => False) (fun _ _ _ => 0) ?_).mono (by rintro e w' ⟨v, rfl, rfl, h⟩; exact ⟨rfl, h⟩)
  exact ⟨rfl, rfl⟩

/-- what a crash leaves -/
def crashD (D : Dk) (ks : List Int) : Dk := { D with lasts := mrg D.lasts (D.waits.filter fun y => decide (y.1 ∈ ks)), waits := [] }

theorem crash_spec {w : World} {b m1 m2 : Nat} {D : Dk} {G : Nat → Prop} (h : IsDisk w b m1 m2 D G) {p : Option Addr} {l c : Nat} {ks : List Int} (hk : IntsAt w p l ks) (hl : l ≤ 4611686018427387904)
    (hp : ∀ a, p = some a → ks ≠ [] → a.block ≠ m2) :
    Calls Try.prog 39 #[.pointer (some (at0 b)), .slice p l c] w fun e w' => e = .returned (.tuple #[]) ∧ Upd (Core b m1 m2) w w' ∧ IsDisk w' b m1 m2 (crashD D ks) G := by
  obtain ⟨n1, n2, n3⟩ := h.ne
  have hGm : ∀ x, G x → x ≠ m2 := fun x hx => (h.apart x hx).2.2
  refine (F39_calls (some (at0 b)) p l c w (fun v w' => v = .tuple #[] ∧ Upd (Core b m1 m2) w w' ∧ IsDisk w' b m1 m2 (crashD D ks) G)
    (fun it _ w8 => ∃ k dn rest, it = some (at0 k) ∧ (dn ++ rest).Perm D.waits ∧ ItOf intK (SliceVal G w) w8 k m2 (D.waits.filter fun y => decide (y.1 ∈ ks ∨ y.1 ∉ dn.map (·.1))) rest ∧ Upd (fun x => x = m2) w w8 ∧ w.heap.size ≤ k)
    (fun it _ w8 => leftIt w8 it m2) ?_).mono (by rintro e w' ⟨v, rfl, rfl, h⟩; exact ⟨rfl, h⟩)
  have hW := h.waits
  obtain ⟨es, c0, l0, hm, hok, hperm0⟩ := id hW
  refine ⟨_, h.row.row.cell rfl, es, c0, hm, fun k w8 hn => ⟨⟨k, [], D.waits, rfl, by simp, ?_, hn.ext.upd, by rw [hn.size.1]; exact Nat.le_refl _⟩, ?_⟩⟩
  · have : (D.waits.filter fun y => decide (y.1 ∈ ks ∨ y.1 ∉ ([] : SM).map (·.1))) = D.waits := by
      rw [List.filter_eq_self]; intro y _; simp
    rw [this]
    exact ItOf.made hW hm hn
  · rintro w10 ⟨k', dn, rest, hkk, hperm, hit, hu, hks⟩
    simp only [Option.some.injEq, at0, Addr.mk.injEq, _root_.and_true] at hkk
    subst hkk
    intros
    have hnodup : ((dn ++ rest).map (·.1)).Nodup := ((hperm.map (·.1)).nodup_iff).2 hW.nodup
    refine hit.next ?_ ?_
    · intro kk x v rest' w27 hperm' hu27 hs27 hat
      refine ⟨kk, v, hat.entryAt, ?_⟩
      have hu27' : Upd (fun x => x = m2) w w27 := Upd.trans hu hu27 fun y hy hyk => by omega
      have hk27 : IntsAt w27 p l ks := by
        refine ⟨hk.1, hk.2.upd hu27' fun a ha hne hb => ?_⟩
        exact hp a ha (by rintro rfl; exact hne rfl) hb
      refine (contains_spec hk27 hl).mono ?_
      rintro e w31 ⟨rfl, rfl⟩
      have hnd : kk ∉ dn.map (·.1) := by
        rw [List.map_append, List.nodup_append] at hnodup
        intro hmem
        exact hnodup.2.2 kk hmem kk ((hperm'.map (·.1)).mem_iff.2 (by simp)) rfl
      have hperm2 : ((dn ++ [(kk, x)]) ++ rest').Perm D.waits := by
        refine List.Perm.trans ?_ hperm
        rw [List.append_assoc]
        exact (hperm'.symm).append_left dn
      refine ⟨_, rfl, condB_of (fun hc => ?_) (fun hc => ?_)⟩
      · simp only [Bool.not_eq_true', decide_eq_false_iff_not] at hc
        obtain ⟨w36, hr36, hu36, hs36, hit36⟩ := hat.delete (P := Try.prog) (ty := 0) (t2 := 3) mapT intT
        refine ⟨_, (hu27'.rowW h.row n2).row.cell rfl, _, w36, hr36, ⟨k, dn ++ [(kk, x)], rest', rfl, hperm2, ?_, Upd.trans hu27' hu36 fun _ _ h => h, hks⟩, ?_⟩
        · have : del kk (D.waits.filter fun y => decide (y.1 ∈ ks ∨ y.1 ∉ dn.map (·.1))) = D.waits.filter fun y => decide (y.1 ∈ ks ∨ y.1 ∉ (dn ++ [(kk, x)]).map (·.1)) := by
            unfold del
            rw [List.filter_filter]
            apply List.filter_congr
            intro y _
            by_cases hy : y.1 = kk
            · simp [hy, hc]
            · by_cases h1 : y.1 ∈ ks <;> by_cases h2 : y.1 ∈ dn.map (·.1) <;> simp [hy, h1, h2]
          rw [← this]
          exact hit36
        · show leftIt w36 (some (at0 k)) m2 < leftIt w10 (some (at0 k)) m2
          rw [hit36.left, hit.left, hperm'.length_eq]
          simp
      · simp only [Bool.not_eq_false', decide_eq_true_eq] at hc
        refine ⟨⟨k, dn ++ [(kk, x)], rest', rfl, hperm2, ?_, hu27', hks⟩, ?_⟩
        · have : (D.waits.filter fun y => decide (y.1 ∈ ks ∨ y.1 ∉ dn.map (·.1))) = D.waits.filter fun y => decide (y.1 ∈ ks ∨ y.1 ∉ (dn ++ [(kk, x)]).map (·.1)) := by
            apply List.filter_congr
            intro y _
            by_cases hy : y.1 = kk
            · simp [hy, hc]
            · by_cases h1 : y.1 ∈ ks <;> by_cases h2 : y.1 ∈ dn.map (·.1) <;> simp [hy, h1, h2]
          rw [← this]
          exact hat.toIt
        · show leftIt w31 (some (at0 k)) m2 < leftIt w10 (some (at0 k)) m2
          rw [hat.toIt.left, hit.left, hperm'.length_eq]
          simp
    · rintro rfl w28 hq w38 hd
      rw [List.append_nil] at hperm
      have hfin : (D.waits.filter fun y => decide (y.1 ∈ ks ∨ y.1 ∉ dn.map (·.1))) = D.waits.filter fun y => decide (y.1 ∈ ks) := by
        apply List.filter_congr
        intro y hy
        have : y.1 ∈ dn.map (·.1) := (hperm.map (·.1)).mem_iff.2 (List.mem_map.2 ⟨y, hy, rfl⟩)
        simp [this]
      have hx : Ext w10 w38 := (hq.trans hd.quiet).ext
      have hu38 : Upd (fun x => x = m2) w w38 := Upd.trans hu hx fun _ _ h => h.elim
      have hD : IsDisk w38 b m1 m2 { D with waits := D.waits.filter fun y => decide (y.1 ∈ ks) } G := by
        refine ⟨hu38.rowW h.row n2, (h.lasts.upd hu38 n3).mono fun v x hv => hv.upd hu38 hGm, ?_, h.asc1, h.asc2.filter _, h.ne, h.apart, fun x hx => Nat.lt_of_lt_of_le (h.bound x hx) hu38.size⟩
        have := (hit.upd hx id id).map
        rw [hfin] at this
        exact this.mono fun v x hv => hv.upd hu38 hGm
      refine ⟨_, hD.row.row.cell rfl, _, hD.row.row.cell rfl, ?_⟩
      refine (settle hD (R := fun w'' => Value.tuple #[] = .tuple #[] ∧ Upd (Core b m1 m2) w w'' ∧ IsDisk w'' b m1 m2 (crashD D ks) G) ?_).mono (fun _ _ h => h)
      intro w' hu' hD'
      exact ⟨rfl, Upd.trans (hu38.mono fun x _ hx => .inr (.inr hx)) hu' fun _ _ h => h, hD'⟩

/-- what a sector holds, and where -/
theorem at_spec {w : World} {b m1 m2 : Nat} {D : Dk} {G : Nat → Prop} (h : IsDisk w b m1 m2 D G) (k : Int) :
    Calls Try.prog 57 #[.pointer (some (at0 b)), .int .i64 k] w fun e w' => Quiet w w' ∧ ∃ p l c r, e = .returned (.tuple #[.slice p l c, .map (some r)]) ∧
      ((∃ bs, get k D.waits = some bs ∧ SliceVal G w (.slice p l c) bs ∧ r = m2) ∨ (∃ bs, get k D.waits = none ∧ get k D.lasts = some bs ∧ SliceVal G w (.slice p l c) bs ∧ r = m1) ∨
        (get k D.waits = none ∧ get k D.lasts = none ∧ p = none ∧ l = 0 ∧ r = m1)) := by
  refine (F57_calls (some (at0 b)) k w (fun v w' => Quiet w w' ∧ ∃ p l c r, v = .tuple #[.slice p l c, .map (some r)] ∧
      ((∃ bs, get k D.waits = some bs ∧ SliceVal G w (.slice p l c) bs ∧ r = m2) ∨ (∃ bs, get k D.waits = none ∧ get k D.lasts = some bs ∧ SliceVal G w (.slice p l c) bs ∧ r = m1) ∨
        (get k D.waits = none ∧ get k D.lasts = none ∧ p = none ∧ l = 0 ∧ r = m1))) ?_).mono (by
    rintro e w' ⟨v, rfl, hq, p, l, c, r, rfl, h⟩; exact ⟨hq, p, l, c, r, rfl, h⟩)
  refine ⟨_, h.row.row.cell rfl, ?_⟩
  rcases h.waits.lookup mapT intT zeroT k with ⟨bs, v, hg, hv, hm⟩ | ⟨hg, hm⟩
  · obtain ⟨p, l, c, rfl⟩ := hv.slice
    refine ⟨p, l, c, true, hm, fun w7 hd => ?_⟩
    have h7 := h.ext hd.ext
    exact ⟨_, h7.row.row.cell rfl, hd.quiet, p, l, c, m2, rfl, .inl ⟨bs, hg, hv, rfl⟩⟩
  · refine ⟨none, 0, 0, false, hm, fun w10 hd => ?_⟩
    have h10 := h.ext hd.ext
    refine ⟨_, h10.row.row.cell rfl, ?_⟩
    rcases h10.lasts.lookup mapT intT zeroT k with ⟨bs, v, hg', hv, hm'⟩ | ⟨hg', hm'⟩
    · obtain ⟨p, l, c, rfl⟩ := hv.slice
      refine ⟨p, l, c, true, hm', _, h10.row.row.cell rfl, hd.quiet, p, l, c, m1, rfl, .inr (.inl ⟨bs, hg, hg', ?_, rfl⟩)⟩
      exact hv.upd hd.quiet.symm.ext fun _ _ => id
    · exact ⟨none, 0, 0, false, hm', _, h10.row.row.cell rfl, hd.quiet, none, 0, 0, m1, rfl, .inr (.inr ⟨hg, hg', rfl, rfl, rfl⟩)⟩

/-- what is read: of what waits, or of what lasts -/
def readD (D : Dk) (k : Int) : List UInt8 := match get k D.waits with
  | some bs => bs
  | none => match get k D.lasts with
    | some bs => bs
    | none => []

theorem read_nil (k : Int) (w : World) : Calls Try.prog 35 #[.pointer none, .int .i64 k] w fun e w' => e = .returned (.tuple #[.slice none 0 0, .int .i64 1]) ∧ w' = w := by
  refine (F35_calls none k w (fun v w' => v = .tuple #[.slice none 0 0, .int .i64 1] ∧ w' = w) ?_).mono (by rintro e w' ⟨v, rfl, rfl, h⟩; exact ⟨rfl, h⟩)
  refine (fault_nil k w).mono ?_
  rintro e w2 ⟨rfl, rfl⟩
  exact ⟨1, rfl, condB_of (fun _ => ⟨rfl, rfl⟩) (fun h => by simp at h)⟩

theorem read_spec {w : World} {b m1 m2 : Nat} {D : Dk} {G : Nat → Prop} (h : IsDisk w b m1 m2 D G) (k : Int) :
    Calls Try.prog 35 #[.pointer (some (at0 b)), .int .i64 k] w fun e w' => Ext w w' ∧ ∃ p l c bs, e = .returned (.tuple #[.slice p l c, .int .i64 (faultZ D.dead D.sectors k)]) ∧
      bs = (if faultZ D.dead D.sectors k = 0 then readD D k else []) ∧ l = bs.length ∧ OwnS w' w.heap.size 5 1 p l c (encB bs) ∧ l ≤ 4108 := by
  refine (F35_calls (some (at0 b)) k w (fun v w' => Ext w w' ∧ ∃ p l c bs, v = .tuple #[.slice p l c, .int .i64 (faultZ D.dead D.sectors k)] ∧
      bs = (if faultZ D.dead D.sectors k = 0 then readD D k else []) ∧ l = bs.length ∧ OwnS w' w.heap.size 5 1 p l c (encB bs) ∧ l ≤ 4108) ?_).mono (by
    rintro e w' ⟨v, rfl, hx, p, l, c, bs, rfl, h⟩; exact ⟨hx, p, l, c, bs, rfl, h⟩)
  refine (fault_spec h.row).mono ?_
  rintro e w2 ⟨rfl, rfl⟩
  refine ⟨_, rfl, condB_of (fun hf => ?_) (fun hf => ?_)⟩
  · simp only [Bool.not_eq_true', decide_eq_false_iff_not] at hf
    exact ⟨Upd.refl _ _, none, 0, 0, [], rfl, by rw [if_neg hf], rfl, OwnS.nil _ _ _ _, by omega⟩
  · simp only [Bool.not_eq_false', decide_eq_true_eq] at hf
    refine (at_spec h k).mono ?_
    rintro e w6 ⟨hq, p, l, c, r, rfl, hcase⟩
    refine ⟨p, l, c, some r, rfl, ?_⟩
    have hb : ∃ bs, readD D k = bs ∧ BytesAt w2 p l bs ∧ l ≤ 4108 ∧ (p = none → l = 0) := by
      unfold readD
      rcases hcase with ⟨bs, hg, hv, _⟩ | ⟨bs, hg, hg', hv, _⟩ | ⟨hg, hg', rfl, rfl, _⟩
      · obtain ⟨p', n', c', he, hb, hne, hn, _⟩ := hv
        simp only [Value.slice.injEq] at he
        obtain ⟨rfl, rfl, rfl⟩ := he
        refine ⟨bs, by rw [hg], hb, hn, fun e => ?_⟩
        obtain ⟨a, ha, _⟩ := hb.lt hne
        rw [e] at ha; cases ha
      · obtain ⟨p', n', c', he, hb, hne, hn, _⟩ := hv
        simp only [Value.slice.injEq] at he
        obtain ⟨rfl, rfl, rfl⟩ := he
        refine ⟨bs, by rw [hg, hg'], hb, hn, fun e => ?_⟩
        obtain ⟨a, ha, _⟩ := hb.lt hne
        rw [e] at ha; cases ha
      · exact ⟨[], by rw [hg, hg'], BytesAt.nil _ _, by omega, fun _ => rfl⟩
    obtain ⟨bs, hrd, hb, hn, hp⟩ := hb
    refine (clone_spec (hb.ext hq.ext) (by omega) hp).mono ?_
    rintro e w10 ⟨p', c', rfl, hx, hown, _⟩
    refine ⟨p', l, c', rfl, hq.ext.trans hx, p', l, c', bs, by rw [hf], by rw [if_pos hf, hrd], hb.1, ?_, hn⟩
    rw [← hq.heap]; exact hown
end Go.Proofs.Ytbidancfbilbkaa
