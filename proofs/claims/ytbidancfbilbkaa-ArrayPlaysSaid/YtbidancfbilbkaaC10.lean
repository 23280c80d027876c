/- A disk as one thing: what it holds, and the blocks that are its own. -/
import Derived.Test.YtbidancfbilbkaaC9
namespace Go.Proofs.Ytbidancfbilbkaa
open Go Go.Vc

theorem ins_mem {k : Int} {x : List UInt8} {L : SM} {y : Int × List UInt8} (h : y ∈ ins k x L) : y = (k, x) ∨ y ∈ L := by
  have := (ins_perm k x L).mem_iff.1 h
  rcases List.mem_cons.1 this with h | h
  · exact .inl h
  · exact .inr (List.mem_filter.1 h).1
theorem mrg_mem {L W : SM} (hw : Asc W) {y : Int × List UInt8} (h : y ∈ mrg L W) : y ∈ W ∨ y ∈ L := by
  have := (mrg_perm hw.nodup).mem_iff.1 h
  rcases List.mem_append.1 this with h | h
  · exact .inl h
  · exact .inr (List.mem_filter.1 h).1

theorem faultZ_ok {dead : Bool} {s k : Int} (h : faultZ dead s k = 0) : dead = false ∧ 0 ≤ k ∧ k < s := by
  unfold faultZ at h
  cases dead
  · simp only [Bool.false_eq_true, if_false] at h
    split at h
    · omega
    · rename_i h1
      exact ⟨rfl, by omega, by omega⟩
  · simp at h

theorem DkOk.new {n : Int} (h : 1 ≤ n ∧ n ≤ 4096) : DkOk ⟨n, [], [], false⟩ := ⟨h, fun x hx => (by cases hx), fun x hx => (by cases hx)⟩
theorem DkOk.write {D : Dk} (h : DkOk D) (k : Int) (bs : List UInt8) : DkOk (writeD D k bs) := by
  unfold writeD
  split
  · rename_i hz
    refine ⟨h.sec, h.lasts, fun x hx => ?_⟩
    rcases ins_mem hx with rfl | hx
    · have : faultZ D.dead D.sectors k = 0 := by
        unfold writeZ at hz
        split at hz
        · exact hz
        · rename_i h; simpa using h
      exact (faultZ_ok this).2
    · exact h.waits x hx
  · exact h
theorem DkOk.flush {D : Dk} (h : DkOk D) (ha : Asc D.waits) : DkOk (flushD D) := by
  unfold flushD
  split
  · exact h
  · refine ⟨h.sec, fun x hx => ?_, fun x hx => by cases hx⟩
    rcases mrg_mem ha hx with hx | hx
    · exact h.waits x hx
    · exact h.lasts x hx
theorem DkOk.crash {D : Dk} (h : DkOk D) (ha : Asc D.waits) (ks : List Int) : DkOk (crashD D ks) := by
  refine ⟨h.sec, fun x hx => ?_, fun x hx => by cases hx⟩
  rcases mrg_mem (ha.filter _) hx with hx | hx
  · exact h.waits x (List.mem_filter.1 hx).1
  · exact h.lasts x hx
theorem DkOk.empty {D : Dk} (h : DkOk D) (dd : Bool) : DkOk { D with dead := dd, lasts := [], waits := [] } := ⟨h.sec, fun x hx => (by cases hx), fun x hx => (by cases hx)⟩
theorem get_mem {k : Int} {bs : List UInt8} : ∀ {L : SM}, get k L = some bs → (k, bs) ∈ L
  | [], h => by cases h
  | (k', x) :: L, h => by
    unfold Vc.get at h
    split at h
    · rename_i he; subst he; cases h; exact List.mem_cons_self
    · exact List.mem_cons_of_mem _ (get_mem h)
theorem DkOk.corrupt {D : Dk} (h : DkOk D) (k a : Int) (y : UInt8) : DkOk (corruptD D k a y) := by
  unfold corruptD
  split
  · exact h
  · split
    · rename_i bs hg
      refine ⟨h.sec, h.lasts, fun x hx => ?_⟩
      rcases ins_mem hx with rfl | hx
      · exact h.waits (k, bs) (get_mem hg)
      · exact h.waits x hx
    · split
      · rename_i bs hg
        refine ⟨h.sec, fun x hx => ?_, h.waits⟩
        rcases ins_mem hx with rfl | hx
        · exact h.lasts (k, bs) (get_mem hg)
        · exact h.lasts x hx
      · exact h

/-- A DISK AT A BLOCK: what it holds, and which blocks are its own -/
structure Dsk (w : World) (b : Nat) (D : Dk) (F : Nat → Prop) : Prop where
  is : ∃ m1 m2 G, IsDisk w b m1 m2 D G ∧ F = Foot b m1 m2 G
  ok : DkOk D
/-- A STEP: nothing but these blocks is changed, and what is the disk's behind it was so ahead of it, or is new -/
structure Step (F F' : Nat → Prop) (w w' : World) : Prop where
  upd : Upd F w w'
  grow : ∀ x, F' x → F x ∨ w.heap.size ≤ x

theorem Dsk.lt {w : World} {b : Nat} {D : Dk} {F : Nat → Prop} (h : Dsk w b D F) : ∀ x, F x → x < w.heap.size := by
  obtain ⟨⟨m1, m2, G, hd, rfl⟩, _⟩ := h
  exact hd.foot
theorem Dsk.asc {w : World} {b : Nat} {D : Dk} {F : Nat → Prop} (h : Dsk w b D F) : Asc D.lasts ∧ Asc D.waits := by
  obtain ⟨⟨m1, m2, G, hd, rfl⟩, _⟩ := h
  exact ⟨hd.asc1, hd.asc2⟩
theorem Dsk.upd {S : Nat → Prop} {w w' : World} {b : Nat} {D : Dk} {F : Nat → Prop} (h : Dsk w b D F) (hu : Upd S w w') (hS : ∀ x, S x → ¬ F x) : Dsk w' b D F := by
  obtain ⟨⟨m1, m2, G, hd, rfl⟩, hk⟩ := h
  exact ⟨⟨m1, m2, G, hd.upd hu hS, rfl⟩, hk⟩
theorem Dsk.ext {w w' : World} {b : Nat} {D : Dk} {F : Nat → Prop} (h : Dsk w b D F) (hu : Ext w w') : Dsk w' b D F := h.upd hu fun _ h => h.elim
theorem Step.refl (F : Nat → Prop) (w : World) : Step F F w w := ⟨Upd.refl _ _, fun _ h => .inl h⟩
theorem Step.ext {F : Nat → Prop} {w w' : World} (h : Ext w w') : Step F F w w' := ⟨h.upd, fun _ h => .inl h⟩
theorem Step.trans {F F' F'' : Nat → Prop} {w w' w'' : World} (h : Step F F' w w') (h' : Step F' F'' w' w'') : Step F F'' w w'' := by
  refine ⟨Upd.trans h.upd h'.upd fun x hx hF => ?_, fun x hx => ?_⟩
  · rcases h.grow x hF with h | h
    · exact h
    · omega
  · rcases h'.grow x hx with h1 | h1
    · exact h.grow x h1
    · exact .inr (Nat.le_trans h.upd.size h1)
/-- what is nobody's stays nobody's -/
theorem Step.apart {F F' : Nat → Prop} {w w' : World} (h : Step F F' w w') {x : Nat} (hx : x < w.heap.size) (hF : ¬ F x) : ¬ F' x := fun h' => by
  rcases h.grow x h' with h1 | h1
  · exact hF h1
  · omega

theorem core_foot {b m1 m2 : Nat} {G : Nat → Prop} (x : Nat) (h : Core b m1 m2 x) : Foot b m1 m2 G x := by
  rcases h with h | h | h
  · exact .inl h
  · exact .inr (.inl h)
  · exact .inr (.inr (.inl h))
theorem grows_step {b m1 m2 : Nat} {G G' : Nat → Prop} {w w' : World} (hu : Upd (Core b m1 m2) w w') (h : Grows G G' w w') : Step (Foot b m1 m2 G) (Foot b m1 m2 G') w w' := by
  refine ⟨hu.mono fun x _ hx => core_foot x hx, ?_⟩
  rintro x (hx | hx | hx | hx)
  · exact .inl (.inl hx)
  · exact .inl (.inr (.inl hx))
  · exact .inl (.inr (.inr (.inl hx)))
  · rcases h x hx with h | h
    · exact .inl (.inr (.inr (.inr h)))
    · exact .inr h.1

section
variable {w : World} {b : Nat} {D : Dk} {F : Nat → Prop}

theorem d_new {n : Int} (h : 1 ≤ n ∧ n ≤ 4096) (w : World) : Calls Try.prog 32 #[.int .i64 n] w fun e w' => ∃ b F, e = .returned (.tuple #[.pointer (some (at0 b)), .int .i64 0]) ∧ Ext w w' ∧
    Dsk w' b ⟨n, [], [], false⟩ F ∧ ∀ x, F x → w.heap.size ≤ x := by
  refine (new_good h w).mono ?_
  rintro e w' ⟨b, m1, m2, rfl, hx, hd, h1, h2, h3⟩
  refine ⟨b, _, rfl, hx, ⟨⟨m1, m2, _, hd, rfl⟩, DkOk.new h⟩, ?_⟩
  rintro x (rfl | rfl | rfl | hx)
  · exact h1
  · exact h2
  · exact h3
  · exact hx.elim
theorem d_dead (h : Dsk w b D F) : Calls Try.prog 54 #[.pointer (some (at0 b))] w fun e w' => e = .returned (.bool D.dead) ∧ w' = w := by
  obtain ⟨⟨m1, m2, G, hd, rfl⟩, _⟩ := h
  exact dead_spec hd
theorem d_lasts (h : Dsk w b D F) : Calls Try.prog 38 #[.pointer (some (at0 b))] w fun e w' => ∃ p l c, e = .returned (.slice p l c) ∧ Ext w w' ∧ Dsk w' b D F ∧ HeldS w' w.heap.size p l c D.lasts := by
  have h0 := h
  obtain ⟨⟨m1, m2, G, hd, rfl⟩, hk⟩ := h
  refine (lasts_spec hd hk).mono ?_
  rintro e w' ⟨p, l, c, rfl, hx, hh⟩
  exact ⟨p, l, c, rfl, hx, h0.ext hx, hh⟩
theorem d_waits (h : Dsk w b D F) : Calls Try.prog 37 #[.pointer (some (at0 b))] w fun e w' => ∃ p l c, e = .returned (.slice p l c) ∧ Ext w w' ∧ Dsk w' b D F ∧ HeldS w' w.heap.size p l c D.waits := by
  have h0 := h
  obtain ⟨⟨m1, m2, G, hd, rfl⟩, hk⟩ := h
  refine (waits_spec hd hk).mono ?_
  rintro e w' ⟨p, l, c, rfl, hx, hh⟩
  exact ⟨p, l, c, rfl, hx, h0.ext hx, hh⟩
theorem d_read (h : Dsk w b D F) (k : Int) : Calls Try.prog 35 #[.pointer (some (at0 b)), .int .i64 k] w fun e w' => Ext w w' ∧ Dsk w' b D F ∧
    ∃ p l c bs, e = .returned (.tuple #[.slice p l c, .int .i64 (faultZ D.dead D.sectors k)]) ∧ bs = (if faultZ D.dead D.sectors k = 0 then readD D k else []) ∧ l = bs.length ∧
      OwnS w' w.heap.size 5 1 p l c (encB bs) ∧ l ≤ 4108 := by
  have h0 := h
  obtain ⟨⟨m1, m2, G, hd, rfl⟩, hk⟩ := h
  refine (read_spec hd k).mono ?_
  rintro e w' ⟨hx, hh⟩
  exact ⟨hx, h0.ext hx, hh⟩
theorem d_write (h : Dsk w b D F) (k : Int) {p : Option Addr} {l c : Nat} {bs : List UInt8} (hb : BytesAt w p l bs) :
    Calls Try.prog 34 #[.pointer (some (at0 b)), .int .i64 k, .slice p l c] w fun e w' => ∃ F', e = .returned (.int .i64 (writeZ D k bs.length)) ∧ Step F F' w w' ∧ Dsk w' b (writeD D k bs) F' := by
  obtain ⟨⟨m1, m2, G, hd, rfl⟩, hk⟩ := h
  refine (write_spec hd k hb).mono ?_
  rintro e w' ⟨G', rfl, hu, hd', hg⟩
  exact ⟨_, rfl, grows_step (hu.mono fun x _ hx => .inr (.inr hx)) hg, ⟨m1, m2, G', hd', rfl⟩, hk.write k bs⟩
theorem d_flush (h : Dsk w b D F) : Calls Try.prog 36 #[.pointer (some (at0 b))] w fun e w' => e = .returned (.int .i64 (if D.dead then 120 else 0)) ∧ Step F F w w' ∧ Dsk w' b (flushD D) F := by
  obtain ⟨⟨m1, m2, G, hd, rfl⟩, hk⟩ := h
  refine (flush_spec hd hk.sec.1).mono ?_
  rintro e w' ⟨rfl, hu, hd'⟩
  exact ⟨rfl, grows_step hu fun _ h => .inl h, ⟨m1, m2, G, hd', rfl⟩, hk.flush hd.asc2⟩
theorem d_crash (h : Dsk w b D F) {p : Option Addr} {l c : Nat} {ks : List Int} (hk : IntsAt w p l ks) (hl : l ≤ 4611686018427387904) (hp : ∀ a, p = some a → ks ≠ [] → ¬ F a.block) :
    Calls Try.prog 39 #[.pointer (some (at0 b)), .slice p l c] w fun e w' => e = .returned (.tuple #[]) ∧ Step F F w w' ∧ Dsk w' b (crashD D ks) F := by
  obtain ⟨⟨m1, m2, G, hd, rfl⟩, hok⟩ := h
  refine (crash_spec hd hk hl fun a ha hne e => hp a ha hne (.inr (.inr (.inl e)))).mono ?_
  rintro e w' ⟨rfl, hu, hd'⟩
  exact ⟨rfl, grows_step hu fun _ h => .inl h, ⟨m1, m2, G, hd', rfl⟩, hok.crash hd.asc2 ks⟩
theorem d_fail (h : Dsk w b D F) : Calls Try.prog 51 #[.pointer (some (at0 b))] w fun e w' => e = .returned (.tuple #[]) ∧ Step F F w w' ∧ Dsk w' b { D with dead := true, lasts := [], waits := [] } F := by
  obtain ⟨⟨m1, m2, G, hd, rfl⟩, hk⟩ := h
  refine (fail_spec hd).mono ?_
  rintro e w' ⟨rfl, hu, hd'⟩
  exact ⟨rfl, grows_step hu fun _ h => .inl h, ⟨m1, m2, G, hd', rfl⟩, hk.empty true⟩
theorem d_replace (h : Dsk w b D F) : Calls Try.prog 52 #[.pointer (some (at0 b))] w fun e w' => e = .returned (.tuple #[]) ∧ Step F F w w' ∧ Dsk w' b { D with dead := false, lasts := [], waits := [] } F := by
  obtain ⟨⟨m1, m2, G, hd, rfl⟩, hk⟩ := h
  refine (replace_spec hd).mono ?_
  rintro e w' ⟨rfl, hu, hd'⟩
  exact ⟨rfl, grows_step hu fun _ h => .inl h, ⟨m1, m2, G, hd', rfl⟩, hk.empty false⟩
theorem d_corrupt (h : Dsk w b D F) (k a : Int) (y : UInt8) (ha : -9223372036854775808 ≤ a ∧ a ≤ 9223372036854775807) :
    Calls Try.prog 53 #[.pointer (some (at0 b)), .int .i64 k, .int .i64 a, .int .u8 (y.toNat : Int)] w fun e w' => ∃ F', e = .returned (.int .i64 (corruptZ D k)) ∧ Step F F' w w' ∧ Dsk w' b (corruptD D k a y) F' := by
  obtain ⟨⟨m1, m2, G, hd, rfl⟩, hk⟩ := h
  refine (corrupt_spec hd k a y ha).mono ?_
  rintro e w' ⟨G', rfl, hu, hd', hg⟩
  exact ⟨_, rfl, grows_step hu hg, ⟨m1, m2, G', hd', rfl⟩, hk.corrupt k a y⟩
end
end Go.Proofs.Ytbidancfbilbkaa
