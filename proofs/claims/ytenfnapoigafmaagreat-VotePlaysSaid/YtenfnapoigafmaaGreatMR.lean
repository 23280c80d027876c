import Derived.Test.YtenfnapoigafmaaGreatMN
import Derived.Test.YtenfnapoigafmaaGreatMA
import Derived.Test.YtenfnapoigafmaaGreatMV
/- The document's disk as one thing, with the blocks that are its own. -/
namespace Go.Proofs.YtenfnapoigafmaaGreat
open Go Go.Vc

structure RDsk (w : World) (b : Nat) (D : Dk) (F : Nat → Prop) : Prop where
  is : ∃ G, IsRef w b D G ∧ F = fun x => x = b ∨ G x
  ok : DkOk D
theorem RDsk.lt {w : World} {b : Nat} {D : Dk} {F : Nat → Prop} (h : RDsk w b D F) : ∀ x, F x → x < w.heap.size := by
  obtain ⟨⟨G, hd, rfl⟩, _⟩ := h
  rintro x (rfl | hx)
  · exact hd.lt
  · obtain ⟨_, _, _, _, _, _, _, _, _, _, _, _, h7⟩ := hd
    exact h7 x hx
theorem RDsk.self {w : World} {b : Nat} {D : Dk} {F : Nat → Prop} (h : RDsk w b D F) : F b := by
  obtain ⟨⟨G, hd, rfl⟩, _⟩ := h
  exact .inl rfl
theorem RDsk.row {w : World} {b : Nat} {D : Dk} {F : Nat → Prop} (h : RDsk w b D F) : ∃ pL lL cL pW lW cW G, RowW w b #[.int .i64 D.sectors, .slice pL lL cL, .slice pW lW cW, .bool D.dead] ∧ RefL w G pL lL cL D.lasts ∧ RefL w G pW lW cW D.waits := by
  obtain ⟨⟨G, hd, rfl⟩, _⟩ := h
  obtain ⟨pL, lL, cL, pW, lW, cW, h1, h2, h3, _⟩ := hd
  exact ⟨pL, lL, cL, pW, lW, cW, G, h1, h2, h3⟩
theorem RDsk.asc {w : World} {b : Nat} {D : Dk} {F : Nat → Prop} (h : RDsk w b D F) : Asc D.lasts ∧ Asc D.waits := by
  obtain ⟨⟨G, hd, rfl⟩, _⟩ := h
  obtain ⟨_, _, _, _, _, _, _, _, _, h4, h5, _⟩ := hd
  exact ⟨h4, h5⟩
theorem RDsk.upd {S : Nat → Prop} {w w' : World} {b : Nat} {D : Dk} {F : Nat → Prop} (h : RDsk w b D F) (hu : Upd S w w') (hS : ∀ x, S x → ¬ F x) : RDsk w' b D F := by
  obtain ⟨⟨G, hd, rfl⟩, hk⟩ := h
  exact ⟨⟨G, hd.upd hu hS, rfl⟩, hk⟩
theorem RDsk.ext {w w' : World} {b : Nat} {D : Dk} {F : Nat → Prop} (h : RDsk w b D F) (hu : Ext w w') : RDsk w' b D F := h.upd hu fun _ h => h.elim
theorem rgrow_step {b : Nat} {G G' : Nat → Prop} {w w' : World} (hu : Upd (fun x => x = b) w w') (h : Grows G G' w w') : Step (fun x => x = b ∨ G x) (fun x => x = b ∨ G' x) w w' := by
  refine ⟨hu.mono fun x _ hx => .inl hx, ?_⟩
  rintro x (hx | hx)
  · exact .inl (.inl hx)
  · rcases h x hx with h | h
    · exact .inl (.inr h)
    · exact .inr h.1

section
variable {w : World} {b : Nat} {D : Dk} {F : Nat → Prop}

theorem rd_new {n : Int} (h : 1 ≤ n ∧ n ≤ 4096) (w : World) : Calls Tryz.prog 15 #[.int .i64 n] w fun e w' => ∃ b F, e = .returned (.tuple #[.pointer (some (at0 b)), .int .i64 0]) ∧ Ext w w' ∧ RDsk w' b ⟨n, [], [], false⟩ F ∧ ∀ x, F x → w.heap.size ≤ x := by
  refine (rnew_good h w).mono ?_
  rintro e w' ⟨b, rfl, hx, hr, hb⟩
  refine ⟨b, _, rfl, hx, ⟨⟨_, hr, rfl⟩, DkOk.new h⟩, ?_⟩
  rintro x (rfl | hx)
  · exact hb
  · exact hx.elim
theorem rd_write (h : RDsk w b D F) (k : Int) {p : Option Addr} {l c : Nat} {bs : List UInt8} (hb : BytesAt w p l bs) :
    Calls Tryz.prog 67 #[.pointer (some (at0 b)), .int .i64 k, .slice p l c] w fun e w' => ∃ F', e = .returned (.int .i64 (writeZ D k bs.length)) ∧ Step F F' w w' ∧ RDsk w' b (writeD D k bs) F' := by
  obtain ⟨⟨G, hd, rfl⟩, hk⟩ := h
  refine (rwrite_spec hd hk k hb).mono ?_
  rintro e w' ⟨G', rfl, hu, hd', hg⟩
  exact ⟨_, rfl, rgrow_step hu hg, ⟨G', hd', rfl⟩, hk.write k bs⟩
theorem rd_read (h : RDsk w b D F) (k : Int) :
    Calls Tryz.prog 69 #[.pointer (some (at0 b)), .int .i64 k] w fun e w' => Ext w w' ∧ ∃ p l c bs, e = .returned (.tuple #[.slice p l c, .int .i64 (faultZ D.dead D.sectors k)]) ∧
      bs = (if faultZ D.dead D.sectors k = 0 then readD D k else []) ∧ BytesAt w' p l bs ∧ l ≤ 4108 := by
  obtain ⟨⟨G, hd, rfl⟩, hk⟩ := h
  exact rread_spec hd hk k
theorem rd_flush (h : RDsk w b D F) : Calls Tryz.prog 71 #[.pointer (some (at0 b))] w fun e w' => ∃ F', e = .returned (.int .i64 (if D.dead then 120 else 0)) ∧ Step F F' w w' ∧ RDsk w' b (flushD D) F' := by
  have ha := h.asc
  obtain ⟨⟨G, hd, rfl⟩, hk⟩ := h
  refine (rflush_spec hd hk).mono ?_
  rintro e w' ⟨G', rfl, hs, hd'⟩
  exact ⟨_, rfl, rgrow_step hs.upd hs.grow, ⟨G', hd', rfl⟩, hk.flush ha.2⟩
theorem rd_crash (h : RDsk w b D F) {p : Option Addr} {l c : Nat} {ks : List Int} (hk : IntsAt w p l ks) (hl : l ≤ 9223372036854775807) (hp : ∀ a, p = some a → ks ≠ [] → ¬ F a.block) :
    Calls Tryz.prog 73 #[.pointer (some (at0 b)), .slice p l c] w fun e w' => ∃ F', e = .returned (.tuple #[]) ∧ Step F F' w w' ∧ RDsk w' b (crashD D ks) F' := by
  have ha := h.asc
  obtain ⟨⟨G, hd, rfl⟩, hok⟩ := h
  refine (rcrash_spec hd hok hk hl fun a h1 h2 h3 => hp a h1 h2 (.inl h3)).mono ?_
  rintro e w' ⟨G', rfl, hs, hd'⟩
  exact ⟨_, rfl, rgrow_step hs.upd hs.grow, ⟨G', hd', rfl⟩, hok.crash ha.2 ks⟩
theorem rd_fail (h : RDsk w b D F) : Calls Tryz.prog 75 #[.pointer (some (at0 b))] w fun e w' => e = .returned (.tuple #[]) ∧ Step F F w w' ∧ RDsk w' b { D with dead := true, lasts := [], waits := [] } F := by
  obtain ⟨⟨G, hd, rfl⟩, hok⟩ := h
  refine (rfail_spec hd).mono ?_
  rintro e w' ⟨rfl, hu, hd'⟩
  exact ⟨rfl, rgrow_step hu fun x hx => .inl hx, ⟨G, hd', rfl⟩, hok.empty true⟩
theorem rd_replace (h : RDsk w b D F) : Calls Tryz.prog 76 #[.pointer (some (at0 b))] w fun e w' => e = .returned (.tuple #[]) ∧ Step F F w w' ∧ RDsk w' b { D with dead := false, lasts := [], waits := [] } F := by
  obtain ⟨⟨G, hd, rfl⟩, hok⟩ := h
  refine (rreplace_spec hd).mono ?_
  rintro e w' ⟨rfl, hu, hd'⟩
  exact ⟨rfl, rgrow_step hu fun x hx => .inl hx, ⟨G, hd', rfl⟩, hok.empty false⟩
theorem rd_corrupt (h : RDsk w b D F) (k a : Int) (y : UInt8) (ha : -9223372036854775808 ≤ a ∧ a ≤ 9223372036854775807) :
    Calls Tryz.prog 78 #[.pointer (some (at0 b)), .int .i64 k, .int .i64 a, .int .u8 (y.toNat : Int)] w fun e w' => ∃ F', e = .returned (.int .i64 (corruptZ D k)) ∧ Step F F' w w' ∧ RDsk w' b (corruptD D k a y) F' := by
  obtain ⟨⟨G, hd, rfl⟩, hok⟩ := h
  refine (rcorrupt_spec hd hok k a y ha).mono ?_
  rintro e w' ⟨G', rfl, hs, hd'⟩
  exact ⟨_, rfl, rgrow_step hs.upd hs.grow, ⟨G', hd', rfl⟩, hok.corrupt k a y⟩
end
end Go.Proofs.YtenfnapoigafmaaGreat

/- The document's array as one thing. -/
namespace Go.Proofs.YtenfnapoigafmaaGreat
open Go Go.Vc

def ptrsR (bs : List Nat) : List Value := bs.map fun b => .pointer (some (at0 b))
def intsR (B : List Int) : List Value := B.map fun n => .int .i64 n

/-- THE DOCUMENT'S ARRAY AT A BLOCK: disks, births, how many writes are left, off -/
def IsRA (w : World) (r : Nat) (Ds : List Dk) (B : List Int) (left : Int) (off : Bool) (F : Nat → Prop) : Prop :=
  ∃ (pD : Option Addr) (cD : Nat) (pB : Option Addr) (cB : Nat) (bs : List Nat) (Fs : Nat → Nat → Prop), RowW w r #[.slice pD Ds.length cD, .slice pB B.length cB, .int .i64 left, .bool off] ∧
    OwnS w 0 62 1 pD Ds.length cD (ptrsR bs) ∧ OwnS w 0 3 1 pB B.length cB (intsR B) ∧ bs.length = Ds.length ∧
    (∀ (i : Nat) (D : Dk), Ds[i]? = some D → ∃ b, bs[i]? = some b ∧ RDsk w b D (Fs i)) ∧ (∀ (i j x : Nat), i < Ds.length → j < Ds.length → Fs i x → Fs j x → i = j) ∧
    (∀ (i x : Nat), i < Ds.length → Fs i x → x ≠ r ∧ pD ≠ some (at0 x) ∧ pB ≠ some (at0 x)) ∧ (pD ≠ some (at0 r) ∧ pB ≠ some (at0 r) ∧ ∀ x : Nat, pD = some (at0 x) → pB ≠ some (at0 x)) ∧
    (∀ x : Nat, F x ↔ x = r ∨ pD = some (at0 x) ∨ pB = some (at0 x) ∨ ∃ i, i < Ds.length ∧ Fs i x)

section
variable {w w' : World} {r : Nat} {Ds : List Dk} {B : List Int} {left : Int} {off : Bool} {F : Nat → Prop}

theorem IsRA.lt (h : IsRA w r Ds B left off F) : ∀ x, F x → x < w.heap.size := by
  obtain ⟨pD, cD, pB, cB, bs, Fs, h1, h2, h3, h4, h5, h6, h7, h8, h9⟩ := h
  intro x hx
  rcases (h9 x).1 hx with rfl | hx | hx | ⟨i, hi, hx⟩
  · exact h1.lt
  · exact own_lt h2 hx
  · exact own_lt h3 hx
  · obtain ⟨b, _, hd⟩ := h5 i Ds[i] (List.getElem?_eq_getElem hi)
    exact hd.lt x hx
theorem IsRA.upd {S : Nat → Prop} (h : IsRA w r Ds B left off F) (hu : Upd S w w') (hS : ∀ x, S x → ¬ F x) : IsRA w' r Ds B left off F := by
  obtain ⟨pD, cD, pB, cB, bs, Fs, h1, h2, h3, h4, h5, h6, h7, h8, h9⟩ := h
  refine ⟨pD, cD, pB, cB, bs, Fs, hu.rowW h1 fun hs => hS _ hs ((h9 _).2 (.inl rfl)), h2.upd hu fun g hg hs => hS _ hs ((h9 _).2 (.inr (.inl hg))), h3.upd hu fun g hg hs => hS _ hs ((h9 _).2 (.inr (.inr (.inl hg)))), h4, fun i m hi => ?_, h6, h7, h8, h9⟩
  obtain ⟨b, hb, hd⟩ := h5 i m hi
  exact ⟨b, hb, hd.upd hu fun x hs hf => hS _ hs ((h9 _).2 (.inr (.inr (.inr ⟨i, (List.getElem?_eq_some_iff.1 hi).1, hf⟩))))⟩
theorem IsRA.ext (h : IsRA w r Ds B left off F) (hu : Ext w w') : IsRA w' r Ds B left off F := h.upd hu fun _ h => h.elim
theorem IsRA.row (h : IsRA w r Ds B left off F) : ∃ pD cD pB cB, RowW w r #[.slice pD Ds.length cD, .slice pB B.length cB, .int .i64 left, .bool off] := by
  obtain ⟨pD, cD, pB, cB, bs, Fs, h1, _⟩ := h
  exact ⟨pD, cD, pB, cB, h1⟩

/-- a field of numbers is set -/
theorem IsRA.setField (h : IsRA w r Ds B left off F) {j : Nat} {v : Value} (hs : SetC w ((at0 r).add j) v w') {l2 : Int} {o2 : Bool}
    (hrow : ∀ a b, (#[a, b, .int .i64 left, .bool off] : Array Value).setIfInBounds j v = #[a, b, .int .i64 l2, .bool o2]) : IsRA w' r Ds B l2 o2 F ∧ Step F F w w' := by
  obtain ⟨pD, cD, pB, cB, bs, Fs, h1, h2, h3, h4, h5, h6, h7, h8, h9⟩ := h
  have hu : Upd (fun x => x = r) w w' := by
    have := hs.upd
    rw [add_block] at this
    exact this
  have hr := hs.row h1
  rw [hrow] at hr
  refine ⟨⟨pD, cD, pB, cB, bs, Fs, hr, h2.upd hu (by rintro g hg rfl; exact h8.1 hg), h3.upd hu (by rintro g hg rfl; exact h8.2.1 hg), h4, fun i m hi => ?_, h6, h7, h8, h9⟩, hu.mono fun x _ hx => (h9 x).2 (.inl hx), fun x hx => .inl hx⟩
  obtain ⟨b, hb, hd⟩ := h5 i m hi
  exact ⟨b, hb, hd.upd hu fun x hx hf => (h7 i x (List.getElem?_eq_some_iff.1 hi).1 hf).1 hx⟩
theorem IsRA.setLeft (h : IsRA w r Ds B left off F) {v : Int} (hs : SetC w ((at0 r).add 2) (.int .i64 v) w') : IsRA w' r Ds B v off F ∧ Step F F w w' := h.setField hs fun _ _ => rfl
theorem IsRA.setOff (h : IsRA w r Ds B left off F) {v : Bool} (hs : SetC w ((at0 r).add 3) (.bool v) w') : IsRA w' r Ds B left v F ∧ Step F F w w' := h.setField hs fun _ _ => rfl

/-- a disk of it -/
theorem IsRA.at (h : IsRA w r Ds B left off F) {i : Nat} {D : Dk} (hi : Ds[i]? = some D) :
    ∃ ap cD b Fi, w.cell? ((at0 r).add 0) = some (.slice (some ap) Ds.length cD) ∧ w.cell? (ap.add (i * 1)) = some (.pointer (some (at0 b))) ∧ RDsk w b D Fi ∧ (∀ x, Fi x → F x ∧ x ≠ r) ∧
      (∀ w' D' F', Step Fi F' w w' → RDsk w' b D' F' → ∃ F2, IsRA w' r (Ds.set i D') B left off F2 ∧ Step F F2 w w') := by
  have hlt := h.lt
  obtain ⟨pD, cD, pB, cB, bs, Fs, h1, h2, h3, h4, h5, h6, h7, h8, h9⟩ := h
  obtain ⟨b, hb, hd⟩ := h5 i D hi
  have hil : i < Ds.length := (List.getElem?_eq_some_iff.1 hi).1
  obtain ⟨ap, hp, e1⟩ := h2.cells i _ (by unfold ptrsR; rw [List.getElem?_map, hb]; rfl)
  subst hp
  refine ⟨ap, cD, b, Fs i, h1.row.cell rfl, by rw [Nat.mul_one]; exact e1, hd, fun x hx => ⟨(h9 x).2 (.inr (.inr (.inr ⟨i, hil, hx⟩))), (h7 i x hil hx).1⟩, ?_⟩
  intro w' D' F' hs hd'
  have hlen : (Ds.set i D').length = Ds.length := List.length_set
  refine ⟨fun x => x = r ∨ some ap = some (at0 x) ∨ pB = some (at0 x) ∨ ∃ j, j < Ds.length ∧ (if j = i then F' else Fs j) x, ⟨some ap, cD, pB, cB, bs, fun j => if j = i then F' else Fs j, ?_, ?_, ?_, by rw [hlen]; exact h4, ?_, ?_, ?_, h8, ?_⟩, ?_, ?_⟩
  · rw [hlen]; exact hs.upd.rowW h1 fun hf => (h7 i r hil hf).1 rfl
  · rw [hlen]; exact h2.upd hs.upd fun g hg hf => (h7 i g hil hf).2.1 hg
  · exact h3.upd hs.upd fun g hg hf => (h7 i g hil hf).2.2 hg
  · intro j mj hj
    by_cases hji : j = i
    · subst hji
      rw [List.getElem?_set_self hil] at hj
      cases hj
      exact ⟨b, hb, by simpa using hd'⟩
    · rw [List.getElem?_set_ne (fun e => hji e.symm)] at hj
      obtain ⟨bj, hbj, hdj⟩ := h5 j mj hj
      refine ⟨bj, hbj, ?_⟩
      simp only [if_neg hji]
      exact hdj.upd hs.upd fun x hx hf => hji (h6 j i x (List.getElem?_eq_some_iff.1 hj).1 hil hf hx)
  · intro j k x hj hk hfj hfk
    rw [hlen] at hj hk
    have old : ∀ q, q < Ds.length → Fs q x → x < w.heap.size := fun q hq hf => hlt x ((h9 x).2 (.inr (.inr (.inr ⟨q, hq, hf⟩))))
    by_cases hji : j = i <;> by_cases hki : k = i
    · omega
    · simp only [if_pos hji] at hfj; simp only [if_neg hki] at hfk
      rcases hs.grow x hfj with h | h
      · have := h6 i k x hil hk h hfk; omega
      · have := old k hk hfk; omega
    · simp only [if_neg hji] at hfj; simp only [if_pos hki] at hfk
      rcases hs.grow x hfk with h | h
      · have := h6 j i x hj hil hfj h; omega
      · have := old j hj hfj; omega
    · simp only [if_neg hji] at hfj; simp only [if_neg hki] at hfk
      exact h6 j k x hj hk hfj hfk
  · intro j x hj hf
    rw [hlen] at hj
    by_cases hji : j = i
    · simp only [if_pos hji] at hf
      rcases hs.grow x hf with h | h
      · exact h7 i x hil h
      · refine ⟨?_, fun e => ?_, fun e => ?_⟩
        · have := h1.lt; omega
        · have := own_lt h2 e; omega
        · have := own_lt h3 e; omega
    · simp only [if_neg hji] at hf
      exact h7 j x hj hf
  · intro x
    rw [hlen]
  · exact hs.upd.mono fun x _ hx => (h9 x).2 (.inr (.inr (.inr ⟨i, hil, hx⟩)))
  · rintro x (rfl | hx | hx | ⟨j, hj, hx⟩)
    · exact .inl ((h9 _).2 (.inl rfl))
    · exact .inl ((h9 _).2 (.inr (.inl hx)))
    · exact .inl ((h9 _).2 (.inr (.inr (.inl hx))))
    · by_cases hji : j = i
      · simp only [if_pos hji] at hx
        rcases hs.grow x hx with h | h
        · exact .inl ((h9 _).2 (.inr (.inr (.inr ⟨i, hil, h⟩))))
        · exact .inr h
      · simp only [if_neg hji] at hx
        exact .inl ((h9 _).2 (.inr (.inr (.inr ⟨j, hj, hx⟩))))

/-- a disk is born anew -/
theorem IsRA.born (h : IsRA w r Ds B left off F) {i : Nat} {n : Int} (hi : B[i]? = some n) :
    ∃ ap cB, w.cell? ((at0 r).add 1) = some (.slice (some ap) B.length cB) ∧ w.cell? (ap.add (i * 1)) = some (.int .i64 n) ∧ Live w (ap.add (i * 1)) ∧
      ∀ v w', SetC w (ap.add (i * 1)) (.int .i64 v) w' → IsRA w' r Ds (B.set i v) left off F ∧ Step F F w w' := by
  obtain ⟨pD, cD, pB, cB, bs, Fs, h1, h2, h3, h4, h5, h6, h7, h8, h9⟩ := h
  have hil : i < B.length := (List.getElem?_eq_some_iff.1 hi).1
  obtain ⟨ap, hp, e2⟩ := h3.cells i _ (by unfold intsR; rw [List.getElem?_map, hi]; rfl)
  subst hp
  refine ⟨ap, cB, h1.row.cell rfl, by rw [Nat.mul_one]; exact e2, by rw [Nat.mul_one]; exact h3.live (by simpa [intsR] using hil), fun v w' hs => ?_⟩
  rw [Nat.mul_one] at hs
  obtain ⟨h3', hu⟩ := h3.set hs
  obtain ⟨g, hg⟩ : ∃ g, ap = at0 g := by
    rcases h3.where_ with ⟨h0, _⟩ | ⟨g, h0, _⟩
    · cases h0
    · cases h0; exact ⟨g, rfl⟩
  subst hg
  have hlen : (B.set i v).length = B.length := List.length_set
  have hne : ¬ r = g := fun e => h8.2.1 (by rw [e])
  refine ⟨⟨pD, cD, some (at0 g), cB, bs, Fs, ?_, ?_, ?_, h4, ?_, h6, h7, h8, h9⟩, ?_, fun x hx => .inl hx⟩
  · rw [hlen]; exact hu.rowW h1 hne
  · exact h2.upd hu fun q hq e => h8.2.2 q hq (by rw [show q = g from e])
  · rw [hlen]
    have : intsR (B.set i v) = (intsR B).set i (.int .i64 v) := by unfold intsR; rw [List.map_set]
    rw [this]; exact h3'
  · intro j m hj
    obtain ⟨b, hb, hd⟩ := h5 j m hj
    exact ⟨b, hb, hd.upd hu fun x hx hf => (h7 j x (List.getElem?_eq_some_iff.1 hj).1 hf).2.2 (by rw [show x = g from hx])⟩
  · exact hu.mono fun x _ hx => (h9 x).2 (.inr (.inr (.inl (by rw [show x = g from hx]))))
end
end Go.Proofs.YtenfnapoigafmaaGreat

/- The document's array: its calls on one disk. -/
namespace Go.Proofs.YtenfnapoigafmaaGreat
open Go Go.Vc

section
variable {w : World} {r : Nat} {Ds : List Dk} {B : List Int} {left : Int} {off : Bool} {F : Nat → Prop}

theorem ra_there (h : IsRA w r Ds B left off F) (k : Int) : Calls Tryz.prog 66 #[.pointer (some (at0 r)), .int .i64 k] w fun e w' => e = .returned (.bool (decide (0 ≤ k ∧ k < Ds.length))) ∧ w' = w := by
  refine (F66_calls (some (at0 r)) k w (fun v w' => v = .bool (decide (0 ≤ k ∧ k < Ds.length)) ∧ w' = w) ?_).mono (by rintro e w' ⟨v, rfl, rfl, h⟩; exact ⟨rfl, h⟩)
  obtain ⟨pD, cD, pB, cB, hr⟩ := h.row
  refine condB_of (fun h1 => ⟨_, _, _, hr.row.cell rfl, ?_, rfl⟩) (fun h1 => ⟨?_, rfl⟩)
  · simp only [decide_eq_true_eq] at h1
    congr 1
    rw [decide_eq_decide]
    omega
  · simp only [decide_eq_false_iff_not] at h1
    rw [decide_eq_false (by omega)]

theorem ra_write_off (h : IsRA w r Ds B left true F) (i k : Int) (p : Option Addr) (l c : Nat) : Calls Tryz.prog 42 #[.pointer (some (at0 r)), .int .i64 i, .int .i64 k, .slice p l c] w fun e w' => e = .returned (.int .i64 130) ∧ w' = w := by
  refine (F42_calls (some (at0 r)) i k p l c w (fun v w' => v = .int .i64 130 ∧ w' = w) ?_).mono (by rintro e w' ⟨v, rfl, rfl, h⟩; exact ⟨rfl, h⟩)
  obtain ⟨pD, cD, pB, cB, hr⟩ := h.row
  exact ⟨_, hr.row.cell rfl, condB_of (fun _ => ⟨rfl, rfl⟩) fun h => by cases h⟩
theorem ra_write_out (h : IsRA w r Ds B left false F) {i : Int} (hi : ¬ (0 ≤ i ∧ i < Ds.length)) (k : Int) (p : Option Addr) (l c : Nat) : Calls Tryz.prog 42 #[.pointer (some (at0 r)), .int .i64 i, .int .i64 k, .slice p l c] w fun e w' => e = .returned (.int .i64 1) ∧ w' = w := by
  refine (F42_calls (some (at0 r)) i k p l c w (fun v w' => v = .int .i64 1 ∧ w' = w) ?_).mono (by rintro e w' ⟨v, rfl, rfl, h⟩; exact ⟨rfl, h⟩)
  obtain ⟨pD, cD, pB, cB, hr⟩ := h.row
  refine ⟨_, hr.row.cell rfl, condB_of (fun h => by cases h) fun _ => (ra_there h i).mono ?_⟩
  rintro e w7 ⟨rfl, rfl⟩
  exact ⟨_, rfl, condB_of (fun _ => ⟨rfl, rfl⟩) fun h1 => by simp at h1; omega⟩
theorem ra_write (h : IsRA w r Ds B left false F) (hleft : -1 ≤ left ∧ left ≤ 9223372036854775807) {i : Nat} {D : Dk} (hi : Ds[i]? = some D) (k : Int) {p : Option Addr} {l c : Nat} {bs : List UInt8} (hb : BytesAt w p l bs) :
    Calls Tryz.prog 42 #[.pointer (some (at0 r)), .int .i64 (i : Int), .int .i64 k, .slice p l c] w fun e w' => ∃ F', e = .returned (.int .i64 (writeZ D k bs.length)) ∧ Step F F' w w' ∧
      IsRA w' r (Ds.set i (writeD D k bs)) B (if writeZ D k bs.length = 0 ∧ 0 < left then left - 1 else left) (decide (writeZ D k bs.length = 0 ∧ left = 1)) F' := by
  refine (F42_calls (some (at0 r)) (i : Int) k p l c w (fun v w' => ∃ F', v = .int .i64 (writeZ D k bs.length) ∧ Step F F' w w' ∧
      IsRA w' r (Ds.set i (writeD D k bs)) B (if writeZ D k bs.length = 0 ∧ 0 < left then left - 1 else left) (decide (writeZ D k bs.length = 0 ∧ left = 1)) F') ?_).mono (by rintro e w' ⟨v, rfl, F', rfl, h⟩; exact ⟨F', rfl, h⟩)
  have hil : i < Ds.length := (List.getElem?_eq_some_iff.1 hi).1
  obtain ⟨pD, cD, pB, cB, hr⟩ := h.row
  refine ⟨_, hr.row.cell rfl, condB_of (fun h => by cases h) fun _ => (ra_there h (i : Int)).mono ?_⟩
  rintro e w7 ⟨rfl, rfl⟩
  obtain ⟨ap, cD', b, Fi, e0, e1, hd, _, hstep⟩ := h.at hi
  refine ⟨_, rfl, condB_of (fun h0 => by simp at h0; omega) fun _ => ⟨_, _, _, e0, ⟨by omega, by omega⟩, _, by rw [Int.toNat_natCast]; exact e1, ?_⟩⟩
  refine (rd_write hd k hb).mono ?_
  rintro e w14 ⟨F1, rfl, hs, hd'⟩
  obtain ⟨F2, hA, hS⟩ := hstep w14 _ F1 hs hd'
  obtain ⟨pD2, cD2, pB2, cB2, hr2⟩ := hA.row
  refine ⟨_, rfl, condB_of (fun hz => ?_) (fun hz => ?_)⟩
  · simp only [decide_eq_true_eq] at hz
    refine ⟨_, hr2.row.cell rfl, condB_of (fun hl => ?_) (fun hl => ?_)⟩
    · simp only [decide_eq_true_eq] at hl
      refine ⟨_, hr2.row.cell rfl, hr2.live (by simp), fun w22 s22 => ?_⟩
      obtain ⟨hA22, hS22⟩ := hA.setLeft s22
      obtain ⟨pD3, cD3, pB3, cB3, hr3⟩ := hA22.row
      refine ⟨_, hr3.row.cell rfl, hr3.live (by simp), fun w26 s26 => ?_⟩
      obtain ⟨hA26, hS26⟩ := hA22.setOff s26
      refine ⟨F2, rfl, (hS.trans hS22).trans hS26, ?_⟩
      rw [w64 (by omega)] at hA26
      rw [if_pos ⟨hz, hl⟩]
      have e1 : decide (writeZ D k bs.length = 0 ∧ left = 1) = decide (left - 1 = 0) := by rw [decide_eq_decide]; omega
      rw [e1]
      exact hA26
    · simp only [decide_eq_false_iff_not] at hl
      refine ⟨F2, rfl, hS, ?_⟩
      rw [if_neg (by omega), decide_eq_false (by omega)]
      exact hA
  · simp only [decide_eq_false_iff_not] at hz
    refine ⟨F2, rfl, hS, ?_⟩
    rw [if_neg (by omega), decide_eq_false (by omega)]
    exact hA

theorem ra_read_off (h : IsRA w r Ds B left true F) (i k : Int) : Calls Tryz.prog 44 #[.pointer (some (at0 r)), .int .i64 i, .int .i64 k] w fun e w' => e = .returned (.tuple #[.slice none 0 0, .int .i64 130]) ∧ w' = w := by
  refine (F44_calls (some (at0 r)) i k w (fun v w' => v = .tuple #[.slice none 0 0, .int .i64 130] ∧ w' = w) ?_).mono (by rintro e w' ⟨v, rfl, rfl, h⟩; exact ⟨rfl, h⟩)
  obtain ⟨pD, cD, pB, cB, hr⟩ := h.row
  exact ⟨_, hr.row.cell rfl, condB_of (fun _ => ⟨rfl, rfl⟩) fun h => by cases h⟩
theorem ra_read_out (h : IsRA w r Ds B left false F) {i : Int} (hi : ¬ (0 ≤ i ∧ i < Ds.length)) (k : Int) : Calls Tryz.prog 44 #[.pointer (some (at0 r)), .int .i64 i, .int .i64 k] w fun e w' => e = .returned (.tuple #[.slice none 0 0, .int .i64 1]) ∧ w' = w := by
  refine (F44_calls (some (at0 r)) i k w (fun v w' => v = .tuple #[.slice none 0 0, .int .i64 1] ∧ w' = w) ?_).mono (by rintro e w' ⟨v, rfl, rfl, h⟩; exact ⟨rfl, h⟩)
  obtain ⟨pD, cD, pB, cB, hr⟩ := h.row
  refine ⟨_, hr.row.cell rfl, condB_of (fun h => by cases h) fun _ => (ra_there h i).mono ?_⟩
  rintro e w7 ⟨rfl, rfl⟩
  exact ⟨_, rfl, condB_of (fun _ => ⟨rfl, rfl⟩) fun h1 => by simp at h1; omega⟩
theorem ra_read (h : IsRA w r Ds B left false F) {i : Nat} {D : Dk} (hi : Ds[i]? = some D) (k : Int) : Calls Tryz.prog 44 #[.pointer (some (at0 r)), .int .i64 (i : Int), .int .i64 k] w fun e w' => Ext w w' ∧
    ∃ p l c bs, e = .returned (.tuple #[.slice p l c, .int .i64 (faultZ D.dead D.sectors k)]) ∧ bs = (if faultZ D.dead D.sectors k = 0 then readD D k else []) ∧ BytesAt w' p l bs ∧ l ≤ 4108 := by
  refine (F44_calls (some (at0 r)) (i : Int) k w (fun v w' => Ext w w' ∧ ∃ p l c bs, v = .tuple #[.slice p l c, .int .i64 (faultZ D.dead D.sectors k)] ∧ bs = (if faultZ D.dead D.sectors k = 0 then readD D k else []) ∧ BytesAt w' p l bs ∧ l ≤ 4108) ?_).mono (by
    rintro e w' ⟨v, rfl, hx, p, l, c, bs, rfl, h⟩; exact ⟨hx, p, l, c, bs, rfl, h⟩)
  have hil : i < Ds.length := (List.getElem?_eq_some_iff.1 hi).1
  obtain ⟨pD, cD, pB, cB, hr⟩ := h.row
  refine ⟨_, hr.row.cell rfl, condB_of (fun h => by cases h) fun _ => (ra_there h (i : Int)).mono ?_⟩
  rintro e w7 ⟨rfl, rfl⟩
  obtain ⟨ap, cD', b, Fi, e0, e1, hd, _, _⟩ := h.at hi
  refine ⟨_, rfl, condB_of (fun h0 => by simp at h0; omega) fun _ => ⟨_, _, _, e0, ⟨by omega, by omega⟩, _, by rw [Int.toNat_natCast]; exact e1, ?_⟩⟩
  refine (rd_read hd k).mono ?_
  rintro e w14 ⟨hx, p, l, c, bs, rfl, h⟩
  exact ⟨_, _, _, _, rfl, hx, p, l, c, bs, rfl, h⟩

theorem ra_corrupt_out (h : IsRA w r Ds B left off F) {i : Int} (hi : ¬ (0 ≤ i ∧ i < Ds.length)) (k t y : Int) : Calls Tryz.prog 55 #[.pointer (some (at0 r)), .int .i64 i, .int .i64 k, .int .i64 t, .int .u8 y] w fun e w' => e = .returned (.int .i64 1) ∧ w' = w := by
  refine (F55_calls (some (at0 r)) i k t y w (fun v w' => v = .int .i64 1 ∧ w' = w) ?_).mono (by rintro e w' ⟨v, rfl, rfl, h⟩; exact ⟨rfl, h⟩)
  refine (ra_there h i).mono ?_
  rintro e w7 ⟨rfl, rfl⟩
  exact ⟨_, rfl, condB_of (fun _ => ⟨rfl, rfl⟩) fun h1 => by simp at h1; omega⟩
theorem ra_corrupt (h : IsRA w r Ds B left off F) {i : Nat} {D : Dk} (hi : Ds[i]? = some D) (k t : Int) (y : UInt8) (ht : -9223372036854775808 ≤ t ∧ t ≤ 9223372036854775807) :
    Calls Tryz.prog 55 #[.pointer (some (at0 r)), .int .i64 (i : Int), .int .i64 k, .int .i64 t, .int .u8 (y.toNat : Int)] w fun e w' => ∃ F', e = .returned (.int .i64 (corruptZ D k)) ∧ Step F F' w w' ∧ IsRA w' r (Ds.set i (corruptD D k t y)) B left off F' := by
  refine (F55_calls (some (at0 r)) (i : Int) k t (y.toNat : Int) w (fun v w' => ∃ F', v = .int .i64 (corruptZ D k) ∧ Step F F' w w' ∧ IsRA w' r (Ds.set i (corruptD D k t y)) B left off F') ?_).mono (by rintro e w' ⟨v, rfl, F', rfl, h⟩; exact ⟨F', rfl, h⟩)
  have hil : i < Ds.length := (List.getElem?_eq_some_iff.1 hi).1
  refine (ra_there h (i : Int)).mono ?_
  rintro e w7 ⟨rfl, rfl⟩
  obtain ⟨ap, cD', b, Fi, e0, e1, hd, _, hstep⟩ := h.at hi
  refine ⟨_, rfl, condB_of (fun h0 => by simp at h0; omega) fun _ => ⟨_, _, _, e0, ⟨by omega, by omega⟩, _, by rw [Int.toNat_natCast]; exact e1, ?_⟩⟩
  refine (rd_corrupt hd k t y ht).mono ?_
  rintro e w14 ⟨F1, rfl, hs, hd'⟩
  obtain ⟨F2, hA, hS⟩ := hstep w14 _ F1 hs hd'
  exact ⟨_, rfl, F2, rfl, hS, hA⟩

theorem ra_after (h : IsRA w r Ds B left off F) (k : Int) : Calls Tryz.prog 48 #[.pointer (some (at0 r)), .int .i64 k] w fun e w' => e = .returned (.tuple #[]) ∧ Step F F w w' ∧
    IsRA w' r Ds B (if off then left else if k < -1 then -1 else k) (if off then true else decide (k = 0)) F := by
  refine (F48_calls (some (at0 r)) k w (fun v w' => v = .tuple #[] ∧ Step F F w w' ∧ IsRA w' r Ds B (if off then left else if k < -1 then -1 else k) (if off then true else decide (k = 0)) F) ?_).mono (by rintro e w' ⟨v, rfl, rfl, h⟩; exact ⟨rfl, h⟩)
  obtain ⟨pD, cD, pB, cB, hr⟩ := h.row
  refine ⟨_, hr.row.cell rfl, condB_of (fun ho => ⟨rfl, Step.refl _ _, ?_⟩) fun ho => ?_⟩
  · subst ho
    simpa using h
  · subst ho
    refine ⟨hr.live (by simp), fun w6 s6 => ?_⟩
    obtain ⟨h6, st6⟩ := h.setLeft s6
    obtain ⟨_, _, _, _, hr6⟩ := h6.row
    simp only [Bool.false_eq_true, if_false]
    refine condB_of (fun hk => ?_) (fun hk => ?_)
    · simp only [decide_eq_true_eq] at hk
      refine ⟨hr6.live (by simp), fun w8 s8 => ?_⟩
      obtain ⟨h8, st8⟩ := h6.setLeft s8
      obtain ⟨_, _, _, _, hr8⟩ := h8.row
      refine ⟨hr8.live (by simp), fun w10 s10 => ?_⟩
      obtain ⟨h10, st10⟩ := h8.setOff s10
      refine ⟨trivial, (st6.trans st8).trans st10, ?_⟩
      rw [if_neg (by omega)]
      exact h10
    · simp only [decide_eq_false_iff_not] at hk
      refine ⟨hr6.live (by simp), fun w12 s12 => ?_⟩
      obtain ⟨h12, st12⟩ := h6.setOff s12
      refine ⟨trivial, st6.trans st12, ?_⟩
      have : (if k < -1 then -1 else k) = -1 := by split <;> omega
      rw [this]
      exact h12
end
end Go.Proofs.YtenfnapoigafmaaGreat

/- The document's array: Fail, Replace, Flush, Live. -/
namespace Go.Proofs.YtenfnapoigafmaaGreat
open Go Go.Vc

section
variable {w : World} {r : Nat} {Ds : List Dk} {B : List Int} {left : Int} {off : Bool} {F : Nat → Prop}

theorem ra_fail_out (h : IsRA w r Ds B left off F) {i : Int} (hi : ¬ (0 ≤ i ∧ i < Ds.length)) : Calls Tryz.prog 52 #[.pointer (some (at0 r)), .int .i64 i] w fun e w' => e = .returned (.int .i64 1) ∧ w' = w := by
  refine (F52_calls (some (at0 r)) i w (fun v w' => v = .int .i64 1 ∧ w' = w) ?_).mono (by rintro e w' ⟨v, rfl, rfl, h⟩; exact ⟨rfl, h⟩)
  refine (ra_there h i).mono ?_
  rintro e w7 ⟨rfl, rfl⟩
  exact ⟨_, rfl, condB_of (fun _ => ⟨rfl, rfl⟩) fun h1 => by simp at h1; omega⟩
theorem ra_replace_out (h : IsRA w r Ds B left off F) {i : Int} (hi : ¬ (0 ≤ i ∧ i < Ds.length)) : Calls Tryz.prog 53 #[.pointer (some (at0 r)), .int .i64 i] w fun e w' => e = .returned (.int .i64 1) ∧ w' = w := by
  refine (F53_calls (some (at0 r)) i w (fun v w' => v = .int .i64 1 ∧ w' = w) ?_).mono (by rintro e w' ⟨v, rfl, rfl, h⟩; exact ⟨rfl, h⟩)
  refine (ra_there h i).mono ?_
  rintro e w7 ⟨rfl, rfl⟩
  exact ⟨_, rfl, condB_of (fun _ => ⟨rfl, rfl⟩) fun h1 => by simp at h1; omega⟩
theorem ra_fail (h : IsRA w r Ds B left off F) {i : Nat} {D : Dk} (hi : Ds[i]? = some D) {n : Int} (hn : B[i]? = some n) :
    Calls Tryz.prog 52 #[.pointer (some (at0 r)), .int .i64 (i : Int)] w fun e w' => ∃ F', e = .returned (.int .i64 0) ∧ Step F F' w w' ∧ IsRA w' r (Ds.set i { D with dead := true, lasts := [], waits := [] }) (B.set i (IntKind.i64.wrap (n + 1))) left off F' := by
  refine (F52_calls (some (at0 r)) (i : Int) w (fun v w' => ∃ F', v = .int .i64 0 ∧ Step F F' w w' ∧ IsRA w' r (Ds.set i { D with dead := true, lasts := [], waits := [] }) (B.set i (IntKind.i64.wrap (n + 1))) left off F') ?_).mono (by rintro e w' ⟨v, rfl, F', rfl, h⟩; exact ⟨F', rfl, h⟩)
  have hil : i < Ds.length := (List.getElem?_eq_some_iff.1 hi).1
  have hib : i < B.length := (List.getElem?_eq_some_iff.1 hn).1
  refine (ra_there h (i : Int)).mono ?_
  rintro e w7 ⟨rfl, rfl⟩
  obtain ⟨ap, cD', b, Fi, e0, e1, hd, _, hstep⟩ := h.at hi
  refine ⟨_, rfl, condB_of (fun h0 => by simp at h0; omega) fun _ => ⟨_, _, _, e0, ⟨by omega, by omega⟩, _, by rw [Int.toNat_natCast]; exact e1, ?_⟩⟩
  refine (rd_fail hd).mono ?_
  rintro e w10 ⟨rfl, hs, hd'⟩
  obtain ⟨F2, hA, hS⟩ := hstep w10 _ _ hs hd'
  obtain ⟨aB, cB, e2, e3, hl, hset⟩ := hA.born hn
  refine ⟨rfl, _, _, _, e2, ⟨by omega, by omega⟩, _, by rw [Int.toNat_natCast]; exact e3, ⟨by omega, by omega⟩, by rw [Int.toNat_natCast]; exact hl, fun w17 s17 => ?_⟩
  rw [Int.toNat_natCast] at s17
  obtain ⟨hA2, hS2⟩ := hset _ _ s17
  exact ⟨F2, rfl, hS.trans hS2, hA2⟩
theorem ra_replace (h : IsRA w r Ds B left off F) {i : Nat} {D : Dk} (hi : Ds[i]? = some D) {n : Int} (hn : B[i]? = some n) :
    Calls Tryz.prog 53 #[.pointer (some (at0 r)), .int .i64 (i : Int)] w fun e w' => ∃ F', e = .returned (.int .i64 0) ∧ Step F F' w w' ∧ IsRA w' r (Ds.set i { D with dead := false, lasts := [], waits := [] }) (B.set i (IntKind.i64.wrap (n + 1))) left off F' := by
  refine (F53_calls (some (at0 r)) (i : Int) w (fun v w' => ∃ F', v = .int .i64 0 ∧ Step F F' w w' ∧ IsRA w' r (Ds.set i { D with dead := false, lasts := [], waits := [] }) (B.set i (IntKind.i64.wrap (n + 1))) left off F') ?_).mono (by rintro e w' ⟨v, rfl, F', rfl, h⟩; exact ⟨F', rfl, h⟩)
  have hil : i < Ds.length := (List.getElem?_eq_some_iff.1 hi).1
  have hib : i < B.length := (List.getElem?_eq_some_iff.1 hn).1
  refine (ra_there h (i : Int)).mono ?_
  rintro e w7 ⟨rfl, rfl⟩
  obtain ⟨ap, cD', b, Fi, e0, e1, hd, _, hstep⟩ := h.at hi
  refine ⟨_, rfl, condB_of (fun h0 => by simp at h0; omega) fun _ => ⟨_, _, _, e0, ⟨by omega, by omega⟩, _, by rw [Int.toNat_natCast]; exact e1, ?_⟩⟩
  refine (rd_replace hd).mono ?_
  rintro e w10 ⟨rfl, hs, hd'⟩
  obtain ⟨F2, hA, hS⟩ := hstep w10 _ _ hs hd'
  obtain ⟨aB, cB, e2, e3, hl, hset⟩ := hA.born hn
  refine ⟨rfl, _, _, _, e2, ⟨by omega, by omega⟩, _, by rw [Int.toNat_natCast]; exact e3, ⟨by omega, by omega⟩, by rw [Int.toNat_natCast]; exact hl, fun w17 s17 => ?_⟩
  rw [Int.toNat_natCast] at s17
  obtain ⟨hA2, hS2⟩ := hset _ _ s17
  exact ⟨F2, rfl, hS.trans hS2, hA2⟩

def flushDs (i : Nat) (Ds : List Dk) : List Dk := Ds.mapIdx fun j D => if j < i then flushD D else D
theorem flushDs_len (i : Nat) (Ds : List Dk) : (flushDs i Ds).length = Ds.length := by simp [flushDs]
theorem flushDs_at {i : Nat} {Ds : List Dk} {D : Dk} (h : Ds[i]? = some D) : (flushDs i Ds)[i]? = some D := by simp [flushDs, h]
theorem flushDs_set {i : Nat} {Ds : List Dk} {D : Dk} (h : Ds[i]? = some D) : (flushDs i Ds).set i (flushD D) = flushDs (i + 1) Ds := by
  apply List.ext_getElem?
  intro j
  rw [List.getElem?_set]
  by_cases hji : i = j
  · subst hji
    have hl := (List.getElem?_eq_some_iff.1 h).1
    rw [if_pos rfl, if_pos (by rw [flushDs_len]; exact hl)]
    simp [flushDs, h]
  · rw [if_neg hji]
    simp only [flushDs, List.getElem?_mapIdx]
    cases Ds[j]? with
    | none => rfl
    | some m =>
      simp only [Option.map_some]
      by_cases h1 : j < i
      · rw [if_pos h1, if_pos (by omega)]
      · rw [if_neg h1, if_neg (by omega)]

theorem ra_flush_off (h : IsRA w r Ds B left true F) : Calls Tryz.prog 46 #[.pointer (some (at0 r))] w fun e w' => e = .returned (.int .i64 130) ∧ w' = w := by
  refine (F46_calls (some (at0 r)) w (fun v w' => v = .int .i64 130 ∧ w' = w) (fun _ _ _ => False) (fun _ _ _ => 0) ?_).mono (by rintro e w' ⟨v, rfl, rfl, h⟩; exact ⟨rfl, h⟩)
  obtain ⟨pD, cD, pB, cB, hr⟩ := h.row
  exact ⟨_, hr.row.cell rfl, condB_of (fun _ => ⟨rfl, rfl⟩) fun h => by cases h⟩
theorem ra_flush (h : IsRA w r Ds B left false F) (hM : Ds.length ≤ 100) : Calls Tryz.prog 46 #[.pointer (some (at0 r))] w fun e w' => ∃ F', e = .returned (.int .i64 0) ∧ Step F F' w w' ∧ IsRA w' r (flushDs Ds.length Ds) B left false F' := by
  refine (F46_calls (some (at0 r)) w (fun v w' => ∃ F', v = .int .i64 0 ∧ Step F F' w w' ∧ IsRA w' r (flushDs Ds.length Ds) B left false F')
    (fun _ n4 w5 => ∃ (i : Nat) (F' : Nat → Prop), n4 = i ∧ i ≤ Ds.length ∧ Step F F' w w5 ∧ IsRA w5 r (flushDs i Ds) B left false F') (fun _ n4 _ => 100 - n4.toNat) ?_).mono (by rintro e w' ⟨v, rfl, F', rfl, h⟩; exact ⟨F', rfl, h⟩)
  obtain ⟨pD, cD, pB, cB, hr⟩ := h.row
  have h0 : flushDs 0 Ds = Ds := by
    apply List.ext_getElem?
    intro j
    simp only [flushDs, List.getElem?_mapIdx]
    cases Ds[j]? <;> simp
  refine ⟨_, hr.row.cell rfl, condB_of (fun h => by cases h) fun _ => ⟨⟨0, F, rfl, Nat.zero_le _, Step.refl _ _, by rw [h0]; exact h⟩, ?_⟩⟩
  rintro n4 w5 ⟨i, F5, rfl, hi, s5, h5⟩
  intros
  obtain ⟨pD5, cD5, pB5, cB5, hr5⟩ := h5.row
  rw [flushDs_len] at hr5
  refine ⟨_, _, _, hr5.row.cell rfl, condB_of (fun hlt => ?_) (fun hge => ?_)⟩
  · simp only [decide_eq_true_eq] at hlt
    obtain ⟨D, hD⟩ : ∃ D, Ds[i]? = some D := ⟨Ds[i]'(by omega), List.getElem?_eq_getElem _⟩
    obtain ⟨ap, cD', b, Fi, e0, e1, hd, _, hstep⟩ := h5.at (flushDs_at hD)
    rw [flushDs_len] at e0
    refine ⟨_, _, _, e0, ⟨by omega, hlt⟩, _, by rw [Int.toNat_natCast]; exact e1, ?_⟩
    refine (rd_flush hd).mono ?_
    rintro e w29 ⟨F1, rfl, hs, hd'⟩
    obtain ⟨F2, hA, hS⟩ := hstep w29 _ F1 hs hd'
    rw [flushDs_set hD] at hA
    rw [w64 (by omega)]
    exact ⟨_, rfl, ⟨i + 1, F2, by omega, by omega, s5.trans hS, hA⟩, by show 100 - ((i : Int) + 1).toNat < 100 - (i : Int).toNat; omega⟩
  · simp only [decide_eq_false_iff_not] at hge
    have : i = Ds.length := by omega
    subst this
    exact ⟨F5, rfl, s5, h5⟩

theorem ra_live (h : IsRA w r Ds B left off F) (hM : Ds.length ≤ 100) : Calls Tryz.prog 26 #[.pointer (some (at0 r))] w fun e w' => ∃ p l c, e = .returned (.slice p l c) ∧ Ext w w' ∧ l = Ds.length ∧
    OwnS w' w.heap.size 4 1 p l c (Ds.map fun D => .bool (!D.dead)) := by
  refine (F26_calls (some (at0 r)) w (fun v w' => ∃ p l c, v = .slice p l c ∧ Ext w w' ∧ l = Ds.length ∧ OwnS w' w.heap.size 4 1 p l c (Ds.map fun D => .bool (!D.dead)))
    (fun _ p8 l8 c8 n9 w10 => ∃ i : Nat, n9 = i ∧ i ≤ Ds.length ∧ Ext w w10 ∧ l8 = i ∧ OwnS w10 w.heap.size 4 1 p8 l8 c8 ((Ds.take i).map fun D => .bool (!D.dead))) (fun _ _ _ _ n9 _ => 100 - n9.toNat) ?_).mono (by
      rintro e w' ⟨v, rfl, p, l, c, rfl, h⟩; exact ⟨p, l, c, rfl, h⟩)
  refine ⟨⟨0, rfl, Nat.zero_le _, Upd.refl _ _, rfl, OwnS.nil _ _ _ _⟩, ?_⟩
  rintro p8 l8 c8 n9 w10 ⟨i, rfl, hi, x10, rfl, own⟩
  intros
  have h10 := h.ext x10
  obtain ⟨pD, cD, pB, cB, hr⟩ := h10.row
  refine ⟨_, _, _, hr.row.cell rfl, condB_of (fun hlt => ?_) (fun hge => ?_)⟩
  · simp only [decide_eq_true_eq] at hlt
    obtain ⟨D, hD⟩ : ∃ D, Ds[l8]? = some D := ⟨Ds[l8]'(by omega), List.getElem?_eq_getElem _⟩
    obtain ⟨ap, cD', b, Fi, e0, e1, hd, _, _⟩ := h10.at hD
    obtain ⟨pL, lL, cL, pW, lW, cW, G, hrow, _⟩ := hd.row
    refine ⟨_, _, _, e0, ⟨by omega, hlt⟩, some (at0 b), by rw [Int.toNat_natCast]; exact e1, _, hrow.row.cell rfl, fun k36 w37 hk => ?_⟩
    obtain ⟨p', c', w38, hrun, own38, x38⟩ := app_one elemBool (by omega) x10 own hk rfl (by omega)
    refine ⟨p', l8 + 1, c', w38, hrun, ?_⟩
    rw [w64 (by omega)]
    refine ⟨⟨l8 + 1, by omega, by omega, x38, rfl, ?_⟩, by show 100 - ((l8 : Int) + 1).toNat < 100 - (l8 : Int).toNat; omega⟩
    rw [List.take_add_one, hD]
    simpa using own38
  · simp only [decide_eq_false_iff_not] at hge
    have : Ds.take l8 = Ds := List.take_of_length_le (by omega)
    rw [this] at own
    exact ⟨p8, l8, c8, rfl, x10, by omega, own⟩
end
end Go.Proofs.YtenfnapoigafmaaGreat

/- The document's array: Restart, New. -/
namespace Go.Proofs.YtenfnapoigafmaaGreat
open Go Go.Vc

def crashDs (KS : List (List Int)) (i : Nat) (Ds : List Dk) : List Dk := Ds.mapIdx fun j D => if j < i then crashD D (KS.getD j []) else D
theorem crashDs_len (KS : List (List Int)) (i : Nat) (Ds : List Dk) : (crashDs KS i Ds).length = Ds.length := by simp [crashDs]
theorem crashDs_at {KS : List (List Int)} {i : Nat} {Ds : List Dk} {D : Dk} (h : Ds[i]? = some D) : (crashDs KS i Ds)[i]? = some D := by simp [crashDs, h]
theorem crashDs_set {KS : List (List Int)} {i : Nat} {Ds : List Dk} {D : Dk} (h : Ds[i]? = some D) : (crashDs KS i Ds).set i (crashD D (KS.getD i [])) = crashDs KS (i + 1) Ds := by
  apply List.ext_getElem?
  intro j
  rw [List.getElem?_set]
  by_cases hji : i = j
  · subst hji
    have hl := (List.getElem?_eq_some_iff.1 h).1
    rw [if_pos rfl, if_pos (by rw [crashDs_len]; exact hl)]
    simp [crashDs, h]
  · rw [if_neg hji]
    simp only [crashDs, List.getElem?_mapIdx]
    cases Ds[j]? with
    | none => rfl
    | some m =>
      simp only [Option.map_some]
      by_cases h1 : j < i
      · rw [if_pos h1, if_pos (by omega)]
      · rw [if_neg h1, if_neg (by omega)]

section
variable {w : World} {r : Nat} {Ds : List Dk} {B : List Int} {left : Int} {off : Bool} {F : Nat → Prop}

set_option maxHeartbeats 1000000 in
theorem ra_restart (h : IsRA w r Ds B left off F) (hM : Ds.length ≤ 100) {KB : Nat → Prop} (hKF : ∀ x, KB x → ¬ F x) (hKnew : ∀ x, KB x → ¬ w.heap.size ≤ x) {p : Option Addr} {l c : Nat} {KS : List (List Int)} (hK : KeepAt w KB p l KS) (hks : ∀ ks ∈ KS, ks.length ≤ 9223372036854775807) :
    Calls Tryz.prog 50 #[.pointer (some (at0 r)), .slice p l c] w fun e w' => ∃ F', e = .returned (.tuple #[]) ∧ Step F F' w w' ∧ IsRA w' r (crashDs KS Ds.length Ds) B (-1) false F' := by
  refine (F50_calls (some (at0 r)) p l c w (fun v w' => ∃ F', v = .tuple #[] ∧ Step F F' w w' ∧ IsRA w' r (crashDs KS Ds.length Ds) B (-1) false F')
    (fun _ n3 w4 => ∃ (i : Nat) (F' : Nat → Prop), n3 = i ∧ i ≤ Ds.length ∧ Step F F' w w4 ∧ IsRA w4 r (crashDs KS i Ds) B left off F') (fun _ n3 _ => 100 - n3.toNat) ?_).mono (by rintro e w' ⟨v, rfl, F', rfl, h⟩; exact ⟨F', rfl, h⟩)
  have hl := hK.1
  have hzero : crashDs KS 0 Ds = Ds := by
    apply List.ext_getElem?
    intro j
    simp [crashDs]
  refine ⟨⟨0, F, rfl, Nat.zero_le _, Step.refl _ _, by rw [hzero]; exact h⟩, ?_⟩
  rintro n3 w4 ⟨i, F', rfl, hi, s4, h4⟩
  intros
  obtain ⟨pD, cD, pB, cB, hr4⟩ := h4.row
  rw [crashDs_len] at hr4
  refine ⟨_, _, _, hr4.row.cell rfl, condB_of (fun hlt => ?_) (fun hge => ?_)⟩
  · simp only [decide_eq_true_eq] at hlt
    obtain ⟨D, hD⟩ : ∃ D, Ds[i]? = some D := ⟨Ds[i]'(by omega), List.getElem?_eq_getElem _⟩
    have go : ∀ w47 (Fi F1 : Nat → Prop) (F2 : Nat → Prop), Step F' F2 w4 w47 → IsRA w47 r ((crashDs KS i Ds).set i (crashD D (KS.getD i []))) B left off F2 →
        (∃ (i_1 : Nat) (F' : Nat → Prop), IntKind.i64.wrap ((i : Int) + 1) = i_1 ∧ i_1 ≤ Ds.length ∧ Step F F' w w47 ∧ IsRA w47 r (crashDs KS i_1 Ds) B left off F') ∧ 100 - (IntKind.i64.wrap ((i : Int) + 1)).toNat < 100 - (i : Int).toNat := by
      intro w47 _ _ F2 hs hA
      rw [crashDs_set hD] at hA
      rw [w64 (by omega)]
      exact ⟨⟨i + 1, F2, by omega, by omega, s4.trans hs, hA⟩, by omega⟩
    refine condB_of (fun hil => ?_) (fun hil => ?_)
    · simp only [decide_eq_true_eq] at hil
      intro w40 hd40
      have h40 := h4.ext hd40.ext
      obtain ⟨ap, cD', b, Fi, e0, e1, hd, hFi, hstep⟩ := h40.at (crashDs_at hD)
      rw [crashDs_len] at e0
      obtain ⟨ks, hksi⟩ : ∃ ks, KS[i]? = some ks := ⟨KS[i]'(by omega), List.getElem?_eq_getElem _⟩
      obtain ⟨aa, q, nn, cc, rfl, hka, ec, hints, hkb, hnn⟩ := ((hK.upd s4.upd hKF).upd hd40.ext fun _ _ h => h).2 i ks hksi
      refine ⟨_, _, _, e0, ⟨by omega, hlt⟩, some (at0 b), by rw [Int.toNat_natCast]; exact e1, ⟨by omega, hil⟩, _, _, _, by rw [Int.toNat_natCast]; exact ec, ?_⟩
      have hnl := hints.1
      have hkl := hks ks (List.mem_of_getElem? hksi)
      refine (rd_crash hd hints (by omega) fun a' ha hne hf => ?_).mono ?_
      · have hw := hkb hne a' ha
        rcases s4.grow _ (hFi _ hf).1 with h1 | h1
        · exact hKF _ hw h1
        · exact hKnew _ hw h1
      rintro e w47 ⟨F1, rfl, hs, hd'⟩
      have : KS.getD i [] = ks := by simp [List.getD, hksi]
      obtain ⟨F2, hA, hS⟩ := hstep w47 _ F1 hs hd'
      refine ⟨rfl, go w47 Fi F1 F2 ((Step.ext hd40.ext).trans hS) (by rw [this]; exact hA)⟩
    · simp only [decide_eq_false_iff_not] at hil
      obtain ⟨ap, cD', b, Fi, e0, e1, hd, hFi, hstep⟩ := h4.at (crashDs_at hD)
      rw [crashDs_len] at e0
      refine ⟨_, _, _, e0, ⟨by omega, hlt⟩, some (at0 b), by rw [Int.toNat_natCast]; exact e1, ?_⟩
      have hnil : IntsAt w4 none 0 [] := ⟨rfl, CellsAt.nil _ _⟩
      refine (rd_crash hd hnil (by omega) fun a' ha => by cases ha).mono ?_
      rintro e w53 ⟨F1, rfl, hs, hd'⟩
      have : KS.getD i [] = [] := by
        have : KS[i]? = none := List.getElem?_eq_none (by omega)
        simp [List.getD, this]
      obtain ⟨F2, hA, hS⟩ := hstep w53 _ F1 hs hd'
      exact ⟨rfl, go w53 Fi F1 F2 hS (by rw [this]; exact hA)⟩
  · simp only [decide_eq_false_iff_not] at hge
    have hil : i = Ds.length := by omega
    subst hil
    refine ⟨hr4.live (by simp), fun w56 s56 => ?_⟩
    obtain ⟨h56, st56⟩ := h4.setOff s56
    obtain ⟨_, _, _, _, hr56⟩ := h56.row
    refine ⟨hr56.live (by simp), fun w58 s58 => ?_⟩
    obtain ⟨h58, st58⟩ := h56.setLeft s58
    exact ⟨F', rfl, (s4.trans st56).trans st58, h58⟩
end
end Go.Proofs.YtenfnapoigafmaaGreat

/- The document's array is made. -/
namespace Go.Proofs.YtenfnapoigafmaaGreat
open Go Go.Vc

theorem elemP : ElemOf Tryz.prog 58 62 1 8 := ⟨by kernel_rfl, ⟨Tryz.t62, .pointer none, by kernel_rfl, by kernel_rfl, by kernel_rfl, by kernel_rfl, by kernel_rfl⟩, by decide⟩

theorem one_box {w1 w2 : World} {k : Nat} {v : Value} {e : TypeId} (hk : NewB w1 k (.cells #[v] e) w2) : CellsAt w2 (some (at0 k)) [v] := fun j u hj => ⟨_, rfl, Row.cell ⟨_, _, hk.at⟩ (by simpa using hj)⟩

/-- a row of a call's own grows by one: it stays where it is, or is new -/
theorem app_one_where {P : Program} {t e : TypeId} {bytes : Nat} (E : ElemOf P t e 1 bytes) (hby : bytes ≤ 64) {w1 w2 : World} {p : Option Addr} {n c : Nat} {xs : List Value} (h : OwnS w1 0 e 1 p n c xs) {k : Nat} {v : Value}
    (hk : NewB w1 k (.cells #[v] e) w2) (hv : v.oneCell' = true) (hn : n ≤ 100000) :
    ∃ p' c' w3, Sem.run P (Builtin.append_ #[t, t] t #[.slice p n c, .slice (some (at0 k)) 1 1]) w2 = .ok (.slice p' (n + 1) c') w3 ∧ OwnS w3 0 e 1 p' (n + 1) c' (xs ++ [v]) ∧ Upd (fun b => p = some (at0 b)) w2 w3 ∧
      (∀ x, p' = some (at0 x) → p = some (at0 x) ∨ x = w2.heap.size) := by
  have h2 := h.ext hk.ext
  have hone : ∀ u ∈ [v], u.oneCell' = true := by
    intro u hu
    simp only [List.mem_singleton] at hu
    subst hu; exact hv
  have hmul : (n + 1) * bytes ≤ (100000 + 1) * 64 := Nat.mul_le_mul (by omega) hby
  obtain ⟨p', c', w3, hr, own3, hu3, _⟩ := h2.append E t (q := some (at0 k)) (m := 1) (d := 1) (news := [v]) rfl (one_box hk) (fun h => by cases h) hone (by unfold maxLen; omega) (by omega) (Nat.zero_le _)
  have hw := app_where E t h2 rfl (one_box hk) hone (by omega) (by unfold maxLen; omega) (by omega) hr
  refine ⟨p', c', w3, hr, own3, hu3, fun x hp => ?_⟩
  rcases hw with h | h
  · exact .inl (by rw [← h]; exact hp)
  · rw [h] at hp
    simp only [Option.some.injEq, at0, Addr.mk.injEq, and_true] at hp
    exact .inr hp.symm

section
variable {w0 w1 : World} {r : Nat} {Ds : List Dk} {B : List Int} {left : Int} {off : Bool} {F : Nat → Prop}

set_option maxHeartbeats 1000000 in
/-- one disk more -/
theorem IsRA.pushD (h : IsRA w0 r Ds B left off F) (hx : Ext w0 w1) {b : Nat} {D : Dk} {Fd : Nat → Prop} (hd : RDsk w1 b D Fd) (hnew : ∀ x, Fd x → w0.heap.size ≤ x) (hM : Ds.length ≤ 100) :
    ∃ p cD, w1.cell? ((at0 r).add 0) = some (.slice p Ds.length cD) ∧ ∀ (k : Nat) (w2 : World), NewB w1 k (.cells #[.pointer (some (at0 b))] 62) w2 →
      ∃ p' c' w3, Sem.run Tryz.prog (Builtin.append_ #[58, 58] 58 #[.slice p Ds.length cD, .slice (some (at0 k)) 1 1]) w2 = .ok (.slice p' (Ds.length + 1) c') w3 ∧ Live w3 ((at0 r).add 0) ∧
        ∀ w4, SetC w3 ((at0 r).add 0) (.slice p' (Ds.length + 1) c') w4 → ∃ F', IsRA w4 r (Ds ++ [D]) B left off F' ∧ Upd F w0 w4 ∧ ∀ x, F' x → F x ∨ w0.heap.size ≤ x := by
  have hlt0 := h.lt
  have h' := h.ext hx
  obtain ⟨pD, cD, pB, cB, bs, Fs, h1, h2, h3, h4, h5, h6, h7, h8, h9⟩ := h'
  refine ⟨pD, cD, h1.row.cell rfl, fun k w2 hk => ?_⟩
  have x2 := hx.trans hk.ext
  have hs0 := x2.size
  have hksz := hk.size
  have hx1 := hx.size
  obtain ⟨p', c', w3, hr, own3, hu3, hka⟩ := app_one_where elemP (by omega) h2 hk rfl (by omega)
  have p_lt : ∀ x, pD = some (at0 x) → x < w0.heap.size := fun x hp => hlt0 x ((h9 x).2 (.inr (.inl hp)))
  have q_lt : ∀ x, pB = some (at0 x) → x < w0.heap.size := fun x hp => hlt0 x ((h9 x).2 (.inr (.inr (.inl hp))))
  have F_lt : ∀ i x, i < Ds.length → Fs i x → x < w0.heap.size := fun i x hi hf => hlt0 x ((h9 x).2 (.inr (.inr (.inr ⟨i, hi, hf⟩))))
  have r_lt : r < w0.heap.size := hlt0 r ((h9 r).2 (.inl rfl))
  have hd_lt := hd.lt
  have r3 := hu3.rowW (hk.ext.rowW h1 id) (fun e => h8.1 e)
  refine ⟨p', c', w3, hr, r3.live (by simp), fun w4 hs => ?_⟩
  have hu4 : Upd (fun x => x = r) w3 w4 := by
    have := hs.upd
    rw [add_block] at this
    exact this
  have hp'r : p' ≠ some (at0 r) := fun e => by
    rcases hka r e with h | h
    · exact h8.1 h
    · omega
  have hlen : (Ds ++ [D]).length = Ds.length + 1 := by simp
  have dsk2 : ∀ {b' : Nat} {D' : Dk} {F' : Nat → Prop}, RDsk w1 b' D' F' → (∀ x, F' x → x ≠ r ∧ pD ≠ some (at0 x)) → RDsk w4 b' D' F' := fun hd' hF =>
    ((hd'.ext hk.ext).upd hu3 (fun x hx hf => (hF x hf).2 hx)).upd hu4 fun x hx hf => (hF x hf).1 hx
  refine ⟨fun x => x = r ∨ p' = some (at0 x) ∨ pB = some (at0 x) ∨ ∃ i, i < Ds.length + 1 ∧ (if i = Ds.length then Fd else Fs i) x, ⟨p', c', pB, cB, bs ++ [b], fun i => if i = Ds.length then Fd else Fs i, ?_, ?_, ?_, by simp [h4], ?_, ?_, ?_, ⟨hp'r, h8.2.1, ?_⟩, ?_⟩, ?_, ?_⟩
  · rw [hlen]; exact hs.row r3
  · rw [hlen]
    have : ptrsR (bs ++ [b]) = ptrsR bs ++ [.pointer (some (at0 b))] := by simp [ptrsR]
    rw [this]
    exact own3.upd hu4 fun g hg e => hp'r (by rw [hg, e])
  · exact ((h3.ext hk.ext).upd hu3 fun g hg e => h8.2.2 g e hg).upd hu4 fun g hg e => h8.2.1 (by rw [hg, e])
  · intro i m hi
    rcases Nat.lt_or_ge i Ds.length with hil | hil
    · rw [List.getElem?_append_left hil] at hi
      obtain ⟨b', hb', hd'⟩ := h5 i m hi
      refine ⟨b', by rw [List.getElem?_append_left (by omega)]; exact hb', ?_⟩
      have hne : ¬ i = Ds.length := by omega
      simp only [if_neg hne]
      exact dsk2 hd' fun x hf => ⟨(h7 i x hil hf).1, (h7 i x hil hf).2.1⟩
    · have hi0 : i = Ds.length := by
        have := (List.getElem?_eq_some_iff.1 hi).1
        rw [hlen] at this; omega
      subst hi0
      rw [List.getElem?_append_right (Nat.le_refl _), Nat.sub_self] at hi
      cases hi
      refine ⟨b, by rw [List.getElem?_append_right (by omega), h4, Nat.sub_self]; rfl, ?_⟩
      simp only [if_true]
      exact dsk2 hd fun x hf => ⟨fun e => by have := hnew x hf; omega, fun e => by have := hnew x hf; have := p_lt x e; omega⟩
  · intro i j x hi hj hfi hfj
    rw [hlen] at hi hj
    by_cases hii : i = Ds.length <;> by_cases hjj : j = Ds.length
    · omega
    · simp only [if_pos hii] at hfi; simp only [if_neg hjj] at hfj
      have := hnew x hfi; have := F_lt j x (by omega) hfj; omega
    · simp only [if_neg hii] at hfi; simp only [if_pos hjj] at hfj
      have := hnew x hfj; have := F_lt i x (by omega) hfi; omega
    · simp only [if_neg hii] at hfi; simp only [if_neg hjj] at hfj
      exact h6 i j x (by omega) (by omega) hfi hfj
  · intro i x hi hf
    rw [hlen] at hi
    by_cases hii : i = Ds.length
    · simp only [if_pos hii] at hf
      have := hnew x hf
      refine ⟨by omega, fun e => ?_, fun e => ?_⟩
      · rcases hka x e with h | h
        · have := p_lt x h; omega
        · have := hd_lt x hf; omega
      · have := q_lt x e; omega
    · simp only [if_neg hii] at hf
      obtain ⟨g1, g2, g3⟩ := h7 i x (by omega) hf
      refine ⟨g1, fun e => ?_, g3⟩
      rcases hka x e with h | h
      · exact g2 h
      · have := F_lt i x (by omega) hf; omega
  · intro x hp hb
    rcases hka x hp with h | h
    · exact h8.2.2 x h hb
    · have := q_lt x hb; omega
  · intro x
    rw [hlen]
  · refine Upd.trans (Upd.trans (Ext.upd (S := F) x2) (hu3.mono fun x hx hp => (h9 x).2 (.inr (.inl hp))) fun _ _ h => h) (hu4.mono fun x _ hx => (h9 x).2 (.inl hx)) fun _ _ h => h
  · rintro x (rfl | hx | hx | ⟨i, hi, hx⟩)
    · exact .inl ((h9 _).2 (.inl rfl))
    · rcases hka x hx with h | h
      · exact .inl ((h9 _).2 (.inr (.inl h)))
      · exact .inr (by omega)
    · exact .inl ((h9 _).2 (.inr (.inr (.inl hx))))
    · by_cases hii : i = Ds.length
      · simp only [if_pos hii] at hx
        exact .inr (hnew x hx)
      · simp only [if_neg hii] at hx
        exact .inl ((h9 _).2 (.inr (.inr (.inr ⟨i, by omega, hx⟩))))

set_option maxHeartbeats 1000000 in
/-- one number more -/
theorem IsRA.pushB (h : IsRA w1 r Ds B left off F) (n : Int) (hM : B.length ≤ 100) :
    ∃ p cB, w1.cell? ((at0 r).add 1) = some (.slice p B.length cB) ∧ ∀ (k : Nat) (w2 : World), NewB w1 k (.cells #[.int .i64 n] 3) w2 →
      ∃ p' c' w3, Sem.run Tryz.prog (Builtin.append_ #[59, 59] 59 #[.slice p B.length cB, .slice (some (at0 k)) 1 1]) w2 = .ok (.slice p' (B.length + 1) c') w3 ∧ Live w3 ((at0 r).add 1) ∧
        ∀ w4, SetC w3 ((at0 r).add 1) (.slice p' (B.length + 1) c') w4 → ∃ F', IsRA w4 r Ds (B ++ [n]) left off F' ∧ Upd F w1 w4 ∧ ∀ x, F' x → F x ∨ w1.heap.size ≤ x := by
  have hlt0 := h.lt
  obtain ⟨pD, cD, pB, cB, bs, Fs, h1, h2, h3, h4, h5, h6, h7, h8, h9⟩ := h
  refine ⟨pB, cB, h1.row.cell rfl, fun k w2 hk => ?_⟩
  have hs0 := hk.ext.size
  have hksz := hk.size
  obtain ⟨p', c', w3, hr, own3, hu3, hka⟩ := app_one_where elemInt (by omega) h3 hk rfl (by omega)
  have p_lt : ∀ x, pD = some (at0 x) → x < w1.heap.size := fun x hp => hlt0 x ((h9 x).2 (.inr (.inl hp)))
  have F_lt : ∀ i x, i < Ds.length → Fs i x → x < w1.heap.size := fun i x hi hf => hlt0 x ((h9 x).2 (.inr (.inr (.inr ⟨i, hi, hf⟩))))
  have r_lt : r < w1.heap.size := hlt0 r ((h9 r).2 (.inl rfl))
  have r3 := hu3.rowW (hk.ext.rowW h1 id) (fun e => h8.2.1 e)
  refine ⟨p', c', w3, hr, r3.live (by simp), fun w4 hs => ?_⟩
  have hu4 : Upd (fun x => x = r) w3 w4 := by
    have := hs.upd
    rw [add_block] at this
    exact this
  have hp'r : p' ≠ some (at0 r) := fun e => by
    rcases hka r e with h | h
    · exact h8.2.1 h
    · omega
  have hlen : (B ++ [n]).length = B.length + 1 := by simp
  refine ⟨fun x => x = r ∨ pD = some (at0 x) ∨ p' = some (at0 x) ∨ ∃ i, i < Ds.length ∧ Fs i x, ⟨pD, cD, p', c', bs, Fs, ?_, ?_, ?_, h4, ?_, h6, ?_, ⟨h8.1, hp'r, ?_⟩, ?_⟩, ?_, ?_⟩
  · rw [hlen]; exact hs.row r3
  · exact ((h2.ext hk.ext).upd hu3 fun g hg e => h8.2.2 g hg e).upd hu4 fun g hg e => h8.1 (by rw [hg, e])
  · rw [hlen]
    have : intsR (B ++ [n]) = intsR B ++ [.int .i64 n] := by simp [intsR]
    rw [this]
    exact own3.upd hu4 fun g hg e => hp'r (by rw [hg, e])
  · intro i m hi
    obtain ⟨b', hb', hd'⟩ := h5 i m hi
    have hil := (List.getElem?_eq_some_iff.1 hi).1
    exact ⟨b', hb', ((hd'.ext hk.ext).upd hu3 fun x hx hf => (h7 i x hil hf).2.2 hx).upd hu4 fun x hx hf => (h7 i x hil hf).1 hx⟩
  · intro i x hi hf
    obtain ⟨g1, g2, g3⟩ := h7 i x hi hf
    refine ⟨g1, g2, fun e => ?_⟩
    rcases hka x e with h | h
    · exact g3 h
    · have := F_lt i x hi hf; omega
  · intro x hp hb
    rcases hka x hb with h | h
    · exact h8.2.2 x hp h
    · have := p_lt x hp; omega
  · intro x; rfl
  · refine Upd.trans (Upd.trans (Ext.upd (S := F) hk.ext) (hu3.mono fun x hx hp => (h9 x).2 (.inr (.inr (.inl hp)))) fun _ _ h => h) (hu4.mono fun x _ hx => (h9 x).2 (.inl hx)) fun _ _ h => h
  · rintro x (rfl | hx | hx | ⟨i, hi, hx⟩)
    · exact .inl ((h9 _).2 (.inl rfl))
    · exact .inl ((h9 _).2 (.inr (.inl hx)))
    · rcases hka x hx with h | h
      · exact .inl ((h9 _).2 (.inr (.inr (.inl h))))
      · exact .inr (by omega)
    · exact .inl ((h9 _).2 (.inr (.inr (.inr ⟨i, hi, hx⟩))))
end

theorem ra_new_bad {n s : Int} (h : n < 1 ∨ 32 < n) (w : World) : Calls Tryz.prog 6 #[.int .i64 n, .int .i64 s] w fun e w' => e = .returned (.tuple #[.pointer none, .int .i64 1]) ∧ w' = w := by
  refine (F6_calls n s w (fun v w' => v = .tuple #[.pointer none, .int .i64 1] ∧ w' = w) (fun _ _ _ _ => False) (fun _ _ _ _ => 0) ?_).mono (by rintro e w' ⟨v, rfl, rfl, h⟩; exact ⟨rfl, h⟩)
  refine condB_of (fun _ => ⟨rfl, rfl⟩) (fun h1 => condB_of (fun _ => ⟨rfl, rfl⟩) (fun h2 => ?_))
  simp only [decide_eq_false_iff_not] at h1 h2
  omega
set_option maxHeartbeats 1000000 in
theorem ra_new_good {n s : Int} (h : 1 ≤ n ∧ n ≤ 32) (hs : 1 ≤ s ∧ s ≤ 4096) (w : World) : Calls Tryz.prog 6 #[.int .i64 n, .int .i64 s] w fun e w' => ∃ r F, e = .returned (.tuple #[.pointer (some (at0 r)), .int .i64 0]) ∧ Ext w w' ∧
    IsRA w' r (List.replicate n.toNat ⟨s, [], [], false⟩) (List.replicate n.toNat 0) (-1) false F ∧ ∀ x, F x → w.heap.size ≤ x := by
  refine (F6_calls n s w (fun v w' => ∃ r F, v = .tuple #[.pointer (some (at0 r)), .int .i64 0] ∧ Ext w w' ∧ IsRA w' r (List.replicate n.toNat ⟨s, [], [], false⟩) (List.replicate n.toNat 0) (-1) false F ∧ ∀ x, F x → w.heap.size ≤ x)
    (fun p _ n6 w7 => ∃ (r i : Nat) (F : Nat → Prop), p = some (at0 r) ∧ n6 = i ∧ i ≤ n.toNat ∧ Ext w w7 ∧ IsRA w7 r (List.replicate i ⟨s, [], [], false⟩) (List.replicate i 0) (-1) false F ∧ ∀ x, F x → w.heap.size ≤ x) (fun _ _ n6 _ => 32 - n6.toNat) ?_).mono (by
      rintro e w' ⟨v, rfl, r, F, rfl, h⟩; exact ⟨r, F, rfl, h⟩)
  refine condB_of (fun h1 => by simp only [decide_eq_true_eq] at h1; omega) (fun _ => condB_of (fun h1 => by simp only [decide_eq_true_eq] at h1; omega) (fun _ => ?_))
  intro k3 w4 hk
  refine ⟨⟨k3, 0, fun x => x = k3, rfl, rfl, Nat.zero_le _, hk.ext, ⟨none, 0, none, 0, [], fun _ _ => False, ⟨_, hk.at⟩, OwnS.nil _ _ _ _, OwnS.nil _ _ _ _, rfl, fun i m hi => by simp at hi, fun i j x hi _ _ _ => by simp at hi, fun i x hi _ => by simp at hi, ⟨by simp, by simp, fun x h => by cases h⟩, fun x => by simp⟩, ?_⟩, ?_⟩
  · rintro x rfl
    rw [hk.size.1]; exact Nat.le_refl _
  rintro n6 w7 ⟨r, i, F, hp, rfl, hi, hx7, h7, hF⟩
  simp only [Option.some.injEq, at0, Addr.mk.injEq, and_true] at hp
  subst hp
  intros
  refine condB_of (fun hlt => ?_) (fun hge => ?_)
  · simp only [decide_eq_true_eq] at hlt
    refine (rd_new hs w7).mono ?_
    rintro e w44 ⟨b, Fd, rfl, x44, hd, hFd⟩
    obtain ⟨p, cD, e1, hall⟩ := h7.pushD x44 hd hFd (by rw [List.length_replicate]; omega)
    rw [List.length_replicate] at e1 hall
    refine ⟨_, _, rfl, condB_of (fun h => by simp at h) fun _ => ⟨p, i, cD, e1, fun k49 w50 hk49 => ?_⟩⟩
    obtain ⟨p', c', w51, hr, hl, hset⟩ := hall k49 w50 hk49
    refine ⟨p', i + 1, c', w51, hr, hl, fun w53 hs53 => ?_⟩
    obtain ⟨F1, hA1, hu1, hg1⟩ := hset w53 hs53
    obtain ⟨p2, cB, e2, hall2⟩ := hA1.pushB 0 (by rw [List.length_replicate]; omega)
    rw [List.length_replicate] at e2 hall2
    refine ⟨p2, i, cB, e2, fun k55 w56 hk55 => ?_⟩
    obtain ⟨p3, c3, w57, hr3, hl3, hset3⟩ := hall2 k55 w56 hk55
    refine ⟨p3, i + 1, c3, w57, hr3, hl3, fun w59 hs59 => ?_⟩
    obtain ⟨F2, hA2, hu2, hg2⟩ := hset3 w59 hs59
    rw [w64 (by omega)]
    have y53 : Ext w w53 := Upd.trans hx7 hu1 fun x hx hf => by have := hF x hf; omega
    have hF1 : ∀ x, F1 x → w.heap.size ≤ x := fun x hx => by
      rcases hg1 x hx with h | h
      · exact hF x h
      · exact Nat.le_trans hx7.size h
    refine ⟨⟨k3, i + 1, F2, rfl, by omega, by omega, Upd.trans y53 hu2 fun x hx hf => (by have := hF1 x hf; omega), ?_, fun x hx => ?_⟩, by show 32 - ((i : Int) + 1).toNat < 32 - (i : Int).toNat; omega⟩
    · rw [List.replicate_succ', List.replicate_succ']; exact hA2
    · rcases hg2 x hx with h | h
      · exact hF1 x h
      · exact Nat.le_trans y53.size h
  · simp only [decide_eq_false_iff_not] at hge
    have : i = n.toNat := by omega
    subst this
    exact ⟨k3, F, rfl, hx7, h7, hF⟩
end Go.Proofs.YtenfnapoigafmaaGreat

/- Both arrays beside each other: each call answers the same, and leaves the same. -/
namespace Go.Proofs.YtenfnapoigafmaaGreat
open Go Go.Vc

def dsOf (s : StA) : List Dk := s.M.map (·.d)
def bsOf (s : StA) : List Int := s.M.map (·.births)
def IsR (w : World) (r : Nat) (s : StA) (G : Nat → Prop) : Prop := IsRA w r (dsOf s) (bsOf s) s.left s.down G
theorem dsOf_len (s : StA) : (dsOf s).length = s.M.length := by simp [dsOf]
theorem dsOf_at {s : StA} {i : Nat} {m : Mem} (h : s.M[i]? = some m) : (dsOf s)[i]? = some m.d := by simp [dsOf, h]
theorem bsOf_at {s : StA} {i : Nat} {m : Mem} (h : s.M[i]? = some m) : (bsOf s)[i]? = some m.births := by simp [bsOf, h]

structure Pair (w : World) (a r : Nat) (s : StA) (F G : Nat → Prop) : Prop where
  arr : IsA w a s F
  ref : IsR w r s G
  dis : ∀ x, F x → ¬ G x
theorem Pair.ext {w w' : World} {a r : Nat} {s : StA} {F G : Nat → Prop} (h : Pair w a r s F G) (hx : Ext w w') : Pair w' a r s F G := ⟨IsArr.ext h.arr hx, IsRA.ext h.ref hx, h.dis⟩

/-- what two calls do, one to each -/
theorem Pair.both {w w1 w2 : World} {a r : Nat} {s s' : StA} {F F' G G' : Nat → Prop} (h : Pair w a r s F G) (hs : Step F F' w w1) (hA : IsA w1 a s' F') (hs2 : Step G G' w1 w2) (hR : IsR w2 r s' G') : Pair w2 a r s' F' G' ∧ Step (fun x => F x ∨ G x) (fun x => F' x ∨ G' x) w w2 := by
  have gl := IsRA.lt h.ref
  have fl := IsArr.lt hA
  have d1 : ∀ x, F' x → ¬ G x := fun x hf hg => by
    rcases hs.grow x hf with h1 | h1
    · exact h.dis x h1 hg
    · have := gl x hg; omega
  have z := hs.upd.size
  refine ⟨⟨IsArr.upd hA hs2.upd fun x hg hf => d1 x hf hg, hR, fun x hf hg => ?_⟩, ?_, ?_⟩
  · rcases hs2.grow x hg with h1 | h1
    · exact d1 x hf h1
    · have := fl x hf; omega
  · exact Upd.trans (hs.upd.mono fun x _ hx => .inl hx) (hs2.upd.mono (T := fun x => F x ∨ G x) fun x _ hx => .inr hx) fun _ _ h => h
  · rintro x (hx | hx)
    · rcases hs.grow x hx with h1 | h1
      · exact .inl (.inl h1)
      · exact .inr h1
    · rcases hs2.grow x hx with h1 | h1
      · exact .inl (.inr h1)
      · exact .inr (by omega)
/-- the document's one, behind a call to the other -/
theorem Pair.mid {w w1 : World} {a r : Nat} {s : StA} {F F' G : Nat → Prop} (h : Pair w a r s F G) (hs : Step F F' w w1) : IsR w1 r s G := IsRA.upd h.ref hs.upd fun x hf => h.dis x hf

section
variable {w : World} {a r : Nat} {s : StA} {F G : Nat → Prop}

/-- what both answer to a write -/
def ansW (s : StA) (d n : Int) (l : Nat) : Int := if s.down then 130 else if 0 ≤ d then match s.M[d.toNat]? with
  | some m => writeZ m.d n l
  | none => 1 else 1

theorem out_none {d : Int} (h : ¬ (0 ≤ d ∧ d < s.M.length)) (h0 : 0 ≤ d) : s.M[d.toNat]? = none := List.getElem?_eq_none (by omega)

theorem b_writeA (h : IsA w a s F) (ho : OkA s) (d n : Int) {p : Option Addr} {l c : Nat} {b : List UInt8} (hb : BytesAt w p l b) :
    Calls Tryz.prog 41 #[.pointer (some (at0 a)), .int .i64 d, .int .i64 n, .slice p l c] w fun e w' => ∃ F', e = .returned (.int .i64 (ansW s d n b.length)) ∧ Step F F' w w' ∧ IsA w' a (writeA s d n b) F' := by
  obtain ⟨M, left, down⟩ := s
  cases down with
  | true =>
    refine (awrite_down h d n p l c).mono ?_
    rintro e w' ⟨rfl, rfl⟩
    exact ⟨F, rfl, Step.refl _ _, by simpa [writeA] using h⟩
  | false =>
    by_cases hr : 0 ≤ d ∧ d < M.length
    · obtain ⟨i, m, rfl, hm⟩ := in_range hr
      refine (awrite_spec h ho.2 hm n hb).mono ?_
      rintro e w' ⟨F', rfl, hs, h'⟩
      refine ⟨F', by simp [ansW, hm], hs, ?_⟩
      have : writeA ⟨M, left, false⟩ (i : Int) n b = ⟨M.set i { m with d := writeD m.d n b }, if writeZ m.d n b.length = 0 ∧ 0 < left then left - 1 else left, decide (writeZ m.d n b.length = 0 ∧ left = 1)⟩ := by
        unfold writeA
        simp [hm]
      rw [this]; exact h'
    · refine (awrite_out h hr n p l c).mono ?_
      rintro e w' ⟨rfl, rfl⟩
      have hn : 0 ≤ d → M[d.toNat]? = none := fun h0 => List.getElem?_eq_none (by omega)
      refine ⟨F, ?_, Step.refl _ _, ?_⟩
      · unfold ansW
        by_cases h0 : 0 ≤ d
        · simp [h0, hn h0]
        · simp [h0]
      · have : writeA ⟨M, left, false⟩ d n b = ⟨M, left, false⟩ := by
          unfold writeA
          by_cases h0 : 0 ≤ d
          · simp [h0, hn h0]
          · simp [h0]
        rw [this]; exact h
theorem b_writeR (h : IsR w r s G) (ho : OkA s) (d n : Int) {p : Option Addr} {l c : Nat} {b : List UInt8} (hb : BytesAt w p l b) :
    Calls Tryz.prog 42 #[.pointer (some (at0 r)), .int .i64 d, .int .i64 n, .slice p l c] w fun e w' => ∃ G', e = .returned (.int .i64 (ansW s d n b.length)) ∧ Step G G' w w' ∧ IsR w' r (writeA s d n b) G' := by
  obtain ⟨M, left, down⟩ := s
  cases down with
  | true =>
    refine (ra_write_off h d n p l c).mono ?_
    rintro e w' ⟨rfl, rfl⟩
    exact ⟨G, rfl, Step.refl _ _, by simpa [writeA] using h⟩
  | false =>
    by_cases hr : 0 ≤ d ∧ d < M.length
    · obtain ⟨i, m, rfl, hm⟩ := in_range hr
      refine (ra_write h ho.2 (dsOf_at (s := ⟨M, left, false⟩) hm) n hb).mono ?_
      rintro e w' ⟨F', rfl, hs, h'⟩
      refine ⟨F', by simp [ansW, hm], hs, ?_⟩
      have : writeA ⟨M, left, false⟩ (i : Int) n b = ⟨M.set i { m with d := writeD m.d n b }, if writeZ m.d n b.length = 0 ∧ 0 < left then left - 1 else left, decide (writeZ m.d n b.length = 0 ∧ left = 1)⟩ := by
        unfold writeA
        simp [hm]
      rw [this]
      have e1 : dsOf ⟨M.set i { m with d := writeD m.d n b }, if writeZ m.d n b.length = 0 ∧ 0 < left then left - 1 else left, decide (writeZ m.d n b.length = 0 ∧ left = 1)⟩ = (dsOf ⟨M, left, false⟩).set i (writeD m.d n b) := by
        simp [dsOf, List.map_set]
      have e2 : bsOf ⟨M.set i { m with d := writeD m.d n b }, if writeZ m.d n b.length = 0 ∧ 0 < left then left - 1 else left, decide (writeZ m.d n b.length = 0 ∧ left = 1)⟩ = bsOf ⟨M, left, false⟩ := by
        apply List.ext_getElem?
        intro j
        simp only [bsOf, List.getElem?_map, List.getElem?_set]
        by_cases hij : i = j
        · subst hij
          have hl := (List.getElem?_eq_some_iff.1 hm).1
          have hmi : M[i] = m := (List.getElem?_eq_some_iff.1 hm).2
          simp [hl, hmi]
        · simp [hij]
      unfold IsR
      rw [e1, e2]; exact h'
    · refine (ra_write_out h (by rw [dsOf_len]; exact hr) n p l c).mono ?_
      rintro e w' ⟨rfl, rfl⟩
      have hn : 0 ≤ d → M[d.toNat]? = none := fun h0 => List.getElem?_eq_none (by omega)
      refine ⟨G, ?_, Step.refl _ _, ?_⟩
      · unfold ansW
        by_cases h0 : 0 ≤ d
        · simp [h0, hn h0]
        · simp [h0]
      · have : writeA ⟨M, left, false⟩ d n b = ⟨M, left, false⟩ := by
          unfold writeA
          by_cases h0 : 0 ≤ d
          · simp [h0, hn h0]
          · simp [h0]
        rw [this]; exact h

/-- calls to one disk, in range or not -/
def inA (s : StA) (d : Int) : Prop := 0 ≤ d ∧ d < s.M.length
instance (s : StA) (d : Int) : Decidable (inA s d) := inferInstanceAs (Decidable (_ ∧ _))
theorem onDisk_at {i : Nat} {m : Mem} (f : Mem → Mem) (hm : s.M[i]? = some m) : dsOf (onDisk s (i : Int) f) = (dsOf s).set i (f m).d ∧ bsOf (onDisk s (i : Int) f) = (bsOf s).set i (f m).births ∧ (onDisk s (i : Int) f).left = s.left ∧ (onDisk s (i : Int) f).down = s.down := by
  rw [onDisk_in f rfl hm]
  refine ⟨by simp [dsOf, List.map_set], by simp [bsOf, List.map_set], rfl, rfl⟩

theorem b_failR (h : IsR w r s G) (d : Int) : Calls Tryz.prog 52 #[.pointer (some (at0 r)), .int .i64 d] w fun e w' => ∃ G', e = .returned (.int .i64 (if inA s d then 0 else 1)) ∧ Step G G' w w' ∧
    IsR w' r (onDisk s d fun m => ⟨{ m.d with dead := true, lasts := [], waits := [] }, IntKind.i64.wrap (m.births + 1)⟩) G' := by
  by_cases hr : inA s d
  · obtain ⟨i, m, rfl, hm⟩ := in_range hr
    refine (ra_fail h (dsOf_at hm) (bsOf_at hm)).mono ?_
    rintro e w' ⟨G', rfl, hs, h'⟩
    obtain ⟨e1, e2, e3, e4⟩ := onDisk_at (fun m : Mem => ⟨{ m.d with dead := true, lasts := [], waits := [] }, IntKind.i64.wrap (m.births + 1)⟩) hm
    refine ⟨G', by rw [if_pos hr], hs, ?_⟩
    unfold IsR
    rw [e1, e2, e3, e4]; exact h'
  · refine (ra_fail_out h (by rw [dsOf_len]; exact hr)).mono ?_
    rintro e w' ⟨rfl, rfl⟩
    exact ⟨G, by rw [if_neg hr], Step.refl _ _, by rw [onDisk_out _ hr]; exact h⟩
theorem b_replaceR (h : IsR w r s G) (d : Int) : Calls Tryz.prog 53 #[.pointer (some (at0 r)), .int .i64 d] w fun e w' => ∃ G', e = .returned (.int .i64 (if inA s d then 0 else 1)) ∧ Step G G' w w' ∧
    IsR w' r (onDisk s d fun m => ⟨{ m.d with dead := false, lasts := [], waits := [] }, IntKind.i64.wrap (m.births + 1)⟩) G' := by
  by_cases hr : inA s d
  · obtain ⟨i, m, rfl, hm⟩ := in_range hr
    refine (ra_replace h (dsOf_at hm) (bsOf_at hm)).mono ?_
    rintro e w' ⟨G', rfl, hs, h'⟩
    obtain ⟨e1, e2, e3, e4⟩ := onDisk_at (fun m : Mem => ⟨{ m.d with dead := false, lasts := [], waits := [] }, IntKind.i64.wrap (m.births + 1)⟩) hm
    refine ⟨G', by rw [if_pos hr], hs, ?_⟩
    unfold IsR
    rw [e1, e2, e3, e4]; exact h'
  · refine (ra_replace_out h (by rw [dsOf_len]; exact hr)).mono ?_
    rintro e w' ⟨rfl, rfl⟩
    exact ⟨G, by rw [if_neg hr], Step.refl _ _, by rw [onDisk_out _ hr]; exact h⟩
def ansC (s : StA) (d k : Int) : Int := if 0 ≤ d then match s.M[d.toNat]? with
  | some m => corruptZ m.d k
  | none => 1 else 1
theorem b_corruptR (h : IsR w r s G) (d k t : Int) (y : UInt8) (ht : -9223372036854775808 ≤ t ∧ t ≤ 9223372036854775807) :
    Calls Tryz.prog 55 #[.pointer (some (at0 r)), .int .i64 d, .int .i64 k, .int .i64 t, .int .u8 (y.toNat : Int)] w fun e w' => ∃ G', e = .returned (.int .i64 (ansC s d k)) ∧ Step G G' w w' ∧ IsR w' r (onDisk s d fun m => { m with d := corruptD m.d k t y }) G' := by
  by_cases hr : inA s d
  · obtain ⟨i, m, rfl, hm⟩ := in_range hr
    refine (ra_corrupt h (dsOf_at hm) k t y ht).mono ?_
    rintro e w' ⟨G', rfl, hs, h'⟩
    obtain ⟨e1, e2, e3, e4⟩ := onDisk_at (fun m : Mem => { m with d := corruptD m.d k t y }) hm
    have e5 : (bsOf s).set i m.births = bsOf s := by
      apply List.ext_getElem?
      intro j
      rw [List.getElem?_set]
      by_cases hij : i = j
      · subst hij
        have := bsOf_at hm
        rw [if_pos rfl, if_pos (List.getElem?_eq_some_iff.1 this).1, this]
      · rw [if_neg hij]
    refine ⟨G', by simp [ansC, hm], hs, ?_⟩
    unfold IsR
    rw [e1, e2, e3, e4, e5]; exact h'
  · refine (ra_corrupt_out h (by rw [dsOf_len]; exact hr) k t _).mono ?_
    rintro e w' ⟨rfl, rfl⟩
    refine ⟨G, ?_, Step.refl _ _, by rw [onDisk_out _ hr]; exact h⟩
    unfold ansC
    by_cases h0 : 0 ≤ d
    · simp [h0, out_none hr h0]
    · simp [h0]
end
end Go.Proofs.YtenfnapoigafmaaGreat

/- Both arrays: a call of a script. -/
namespace Go.Proofs.YtenfnapoigafmaaGreat
open Go Go.Vc

section
variable {w : World} {a r : Nat} {s : StA} {F G : Nat → Prop}

theorem b_failA (h : IsA w a s F) (d : Int) : Calls Tryz.prog 51 #[.pointer (some (at0 a)), .int .i64 d] w fun e w' => ∃ F', e = .returned (.int .i64 (if inA s d then 0 else 1)) ∧ Step F F' w w' ∧
    IsA w' a (onDisk s d fun m => ⟨{ m.d with dead := true, lasts := [], waits := [] }, IntKind.i64.wrap (m.births + 1)⟩) F' := by
  by_cases hr : inA s d
  · obtain ⟨i, m, rfl, hm⟩ := in_range hr
    refine (afail_spec h hm).mono ?_
    rintro e w' ⟨F', rfl, hs, h'⟩
    exact ⟨F', by rw [if_pos hr], hs, by rw [onDisk_in _ rfl hm]; exact h'⟩
  · refine (afail_out h hr).mono ?_
    rintro e w' ⟨rfl, rfl⟩
    exact ⟨F, by rw [if_neg hr], Step.refl _ _, by rw [onDisk_out _ hr]; exact h⟩
theorem b_replaceA (h : IsA w a s F) (d : Int) : Calls Tryz.prog 12 #[.pointer (some (at0 a)), .int .i64 d] w fun e w' => ∃ F', e = .returned (.int .i64 (if inA s d then 0 else 1)) ∧ Step F F' w w' ∧
    IsA w' a (onDisk s d fun m => ⟨{ m.d with dead := false, lasts := [], waits := [] }, IntKind.i64.wrap (m.births + 1)⟩) F' := by
  by_cases hr : inA s d
  · obtain ⟨i, m, rfl, hm⟩ := in_range hr
    refine (areplace_spec h hm).mono ?_
    rintro e w' ⟨F', rfl, hs, h'⟩
    exact ⟨F', by rw [if_pos hr], hs, by rw [onDisk_in _ rfl hm]; exact h'⟩
  · refine (areplace_out h hr).mono ?_
    rintro e w' ⟨rfl, rfl⟩
    exact ⟨F, by rw [if_neg hr], Step.refl _ _, by rw [onDisk_out _ hr]; exact h⟩
theorem b_corruptA (h : IsA w a s F) (d k t : Int) (y : UInt8) (ht : -9223372036854775808 ≤ t ∧ t ≤ 9223372036854775807) :
    Calls Tryz.prog 54 #[.pointer (some (at0 a)), .int .i64 d, .int .i64 k, .int .i64 t, .int .u8 (y.toNat : Int)] w fun e w' => ∃ F', e = .returned (.int .i64 (ansC s d k)) ∧ Step F F' w w' ∧ IsA w' a (onDisk s d fun m => { m with d := corruptD m.d k t y }) F' := by
  by_cases hr : inA s d
  · obtain ⟨i, m, rfl, hm⟩ := in_range hr
    refine (acorrupt_spec h hm k t y ht).mono ?_
    rintro e w' ⟨F', rfl, hs, h'⟩
    exact ⟨F', by simp [ansC, hm], hs, by rw [onDisk_in _ rfl hm]; exact h'⟩
  · refine (acorrupt_out h hr k t _).mono ?_
    rintro e w' ⟨rfl, rfl⟩
    refine ⟨F, ?_, Step.refl _ _, by rw [onDisk_out _ hr]; exact h⟩
    unfold ansC
    by_cases h0 : 0 ≤ d
    · simp [h0, out_none hr h0]
    · simp [h0]

/-- what both tell of a sector -/
def ansR (s : StA) (d n : Int) : Int × List UInt8 := if s.down then (130, []) else if 0 ≤ d then match s.M[d.toNat]? with
  | some m => (faultZ m.d.dead m.d.sectors n, if faultZ m.d.dead m.d.sectors n = 0 then readD m.d n else [])
  | none => (1, []) else (1, [])
theorem b_readA (h : IsA w a s F) (d n : Int) : Calls Tryz.prog 43 #[.pointer (some (at0 a)), .int .i64 d, .int .i64 n] w fun e w' => Ext w w' ∧ ∃ p l c, e = .returned (.tuple #[.slice p l c, .int .i64 (ansR s d n).1]) ∧ BytesAt w' p l (ansR s d n).2 ∧ l ≤ 4108 := by
  obtain ⟨M, left, down⟩ := s
  cases down with
  | true =>
    refine (aread_down h d n).mono ?_
    rintro e w' ⟨rfl, rfl⟩
    exact ⟨Upd.refl _ _, none, 0, 0, rfl, BytesAt.nil _ _, by omega⟩
  | false =>
    by_cases hr : 0 ≤ d ∧ d < M.length
    · obtain ⟨i, m, rfl, hm⟩ := in_range hr
      refine (aread_spec h hm n).mono ?_
      rintro e w' ⟨hx, p, l, c, bs, rfl, hbs, rfl, ho, hl⟩
      have e1 : ansR ⟨M, left, false⟩ (i : Int) n = (faultZ m.d.dead m.d.sectors n, bs) := by simp [ansR, hm, hbs]
      rw [e1]
      exact ⟨hx, p, _, c, rfl, BytesAt.of_cells ho.cells, hl⟩
    · refine (aread_out h hr n).mono ?_
      rintro e w' ⟨rfl, rfl⟩
      have e1 : ansR ⟨M, left, false⟩ d n = (1, []) := by
        unfold ansR
        by_cases h0 : 0 ≤ d
        · have hn : M[d.toNat]? = none := List.getElem?_eq_none (by omega)
          simp [h0, hn]
        · simp [h0]
      rw [e1]
      exact ⟨Upd.refl _ _, none, 0, 0, rfl, BytesAt.nil _ _, by omega⟩
theorem b_readR (h : IsR w r s G) (d n : Int) : Calls Tryz.prog 44 #[.pointer (some (at0 r)), .int .i64 d, .int .i64 n] w fun e w' => Ext w w' ∧ ∃ p l c, e = .returned (.tuple #[.slice p l c, .int .i64 (ansR s d n).1]) ∧ BytesAt w' p l (ansR s d n).2 ∧ l ≤ 4108 := by
  obtain ⟨M, left, down⟩ := s
  cases down with
  | true =>
    refine (ra_read_off h d n).mono ?_
    rintro e w' ⟨rfl, rfl⟩
    exact ⟨Upd.refl _ _, none, 0, 0, rfl, BytesAt.nil _ _, by omega⟩
  | false =>
    by_cases hr : 0 ≤ d ∧ d < M.length
    · obtain ⟨i, m, rfl, hm⟩ := in_range hr
      refine (ra_read h (dsOf_at (s := ⟨M, left, false⟩) hm) n).mono ?_
      rintro e w' ⟨hx, p, l, c, bs, rfl, hbs, hb, hl⟩
      have e1 : ansR ⟨M, left, false⟩ (i : Int) n = (faultZ m.d.dead m.d.sectors n, bs) := by simp [ansR, hm, hbs]
      rw [e1]
      exact ⟨hx, p, _, c, rfl, hb, hl⟩
    · refine (ra_read_out h (by rw [dsOf_len]; exact hr) n).mono ?_
      rintro e w' ⟨rfl, rfl⟩
      have e1 : ansR ⟨M, left, false⟩ d n = (1, []) := by
        unfold ansR
        by_cases h0 : 0 ≤ d
        · have hn : M[d.toNat]? = none := List.getElem?_eq_none (by omega)
          simp [h0, hn]
        · simp [h0]
      rw [e1]
      exact ⟨Upd.refl _ _, none, 0, 0, rfl, BytesAt.nil _ _, by omega⟩

theorem flushDs_of (s : StA) : dsOf { s with M := flushM s.M.length s.M } = flushDs (dsOf s).length (dsOf s) ∧ bsOf { s with M := flushM s.M.length s.M } = bsOf s := by
  constructor
  · apply List.ext_getElem?
    intro j
    simp only [dsOf, flushDs, flushM, List.getElem?_map, List.getElem?_mapIdx, List.length_map]
    cases s.M[j]? with
    | none => rfl
    | some m =>
      simp only [Option.map_some]
      split <;> rfl
  · apply List.ext_getElem?
    intro j
    simp only [bsOf, flushM, List.getElem?_map, List.getElem?_mapIdx]
    cases s.M[j]? with
    | none => rfl
    | some m =>
      simp only [Option.map_some]
      split <;> rfl
theorem crashDs_of (s : StA) (KS : List (List Int)) (l : Int) (dn : Bool) : dsOf ⟨crashM KS s.M.length s.M, l, dn⟩ = crashDs KS (dsOf s).length (dsOf s) ∧ bsOf ⟨crashM KS s.M.length s.M, l, dn⟩ = bsOf s := by
  constructor
  · apply List.ext_getElem?
    intro j
    simp only [dsOf, crashDs, crashM, List.getElem?_map, List.getElem?_mapIdx, List.length_map]
    cases s.M[j]? with
    | none => rfl
    | some m =>
      simp only [Option.map_some]
      split <;> rfl
  · apply List.ext_getElem?
    intro j
    simp only [bsOf, crashM, List.getElem?_map, List.getElem?_mapIdx]
    cases s.M[j]? with
    | none => rfl
    | some m =>
      simp only [Option.map_some]
      split <;> rfl

theorem b_flushA (h : IsA w a s F) (ho : OkA s) : Calls Tryz.prog 45 #[.pointer (some (at0 a))] w fun e w' => ∃ F', e = .returned (.int .i64 (if s.down then 130 else 0)) ∧ Step F F' w w' ∧ IsA w' a (if s.down then s else { s with M := flushM s.M.length s.M }) F' := by
  obtain ⟨M, left, down⟩ := s
  cases down with
  | true =>
    refine (aflush_down h).mono ?_
    rintro e w' ⟨rfl, rfl⟩
    exact ⟨F, rfl, Step.refl _ _, h⟩
  | false =>
    refine (aflush_spec h (by have h2 : M.length ≤ 32 := ho.1; show M.length ≤ 100; omega)).mono ?_
    rintro e w' ⟨F', rfl, hs, h'⟩
    exact ⟨F', rfl, hs, h'⟩
theorem b_flushR (h : IsR w r s G) (ho : OkA s) : Calls Tryz.prog 46 #[.pointer (some (at0 r))] w fun e w' => ∃ G', e = .returned (.int .i64 (if s.down then 130 else 0)) ∧ Step G G' w w' ∧ IsR w' r (if s.down then s else { s with M := flushM s.M.length s.M }) G' := by
  have hf := flushDs_of s
  cases hd : s.down with
  | true =>
    have h1 : IsRA w r (dsOf s) (bsOf s) s.left s.down G := h
    rw [hd] at h1
    refine (ra_flush_off h1).mono ?_
    rintro e w' ⟨rfl, rfl⟩
    exact ⟨G, rfl, Step.refl _ _, h⟩
  | false =>
    have h1 : IsRA w r (dsOf s) (bsOf s) s.left s.down G := h
    rw [hd] at h1
    refine (ra_flush h1 (by rw [dsOf_len]; have := ho.1; omega)).mono ?_
    rintro e w' ⟨G', rfl, hs, h'⟩
    refine ⟨G', rfl, hs, ?_⟩
    have e1 : dsOf ⟨flushM s.M.length s.M, s.left, false⟩ = flushDs (dsOf s).length (dsOf s) := hf.1
    have e2 : bsOf ⟨flushM s.M.length s.M, s.left, false⟩ = bsOf s := hf.2
    show IsRA w' r (dsOf ⟨flushM s.M.length s.M, s.left, false⟩) (bsOf ⟨flushM s.M.length s.M, s.left, false⟩) s.left false G'
    rw [e1, e2]
    exact h'
end
end Go.Proofs.YtenfnapoigafmaaGreat

/- Both arrays: Did. -/
namespace Go.Proofs.YtenfnapoigafmaaGreat
open Go Go.Vc

/-- what both do at a call -/
theorem did_spec {w0 w : World} {a r : Nat} {s : StA} {F G : Nat → Prop} (h : Pair w a r s F G) (ho : OkA s) (hx : Ext w0 w) (hF : ∀ x, F x → w0.heap.size ≤ x) (hG : ∀ x, G x → w0.heap.size ≤ x) {c : CallA} {p5 : Option Addr} {l5 c5 : Nat} {p6 : Option Addr} {l6 c6 : Nat}
    (hb : BytesAt w0 p5 l5 c.b) (hk : l6 = c.keep.length ∧ ∀ i ks, c.keep[i]? = some ks → ∃ a q n c, p6 = some a ∧ w0.cell? (a.add (i * 1)) = some (.slice q n c) ∧ IntsAt w0 q n ks)
    (hm : -9223372036854775808 ≤ c.m ∧ c.m ≤ 9223372036854775807) (hs : ∀ ks ∈ c.keep, ks.length ≤ 9223372036854775807) :
    Calls Tryz.prog 20 #[.pointer (some (at0 a)), .pointer (some (at0 r)), .agg #[.int .i64 c.kind, .int .i64 c.d, .int .i64 c.n, .int .i64 c.m, .int .u8 (c.y.toNat : Int), .slice p5 l5 c5, .slice p6 l6 c6]] w fun e w' => e = .returned (.bool true) ∧
      ∃ F' G', Pair w' a r (callA s c) F' G' ∧ Step (fun x => F x ∨ G x) (fun x => F' x ∨ G' x) w w' := by
  refine (F20_calls (some (at0 a)) (some (at0 r)) c.kind c.d c.n c.m (c.y.toNat : Int) p5 l5 c5 p6 l6 c6 w (fun v w' => v = .bool true ∧ ∃ F' G', Pair w' a r (callA s c) F' G' ∧ Step (fun x => F x ∨ G x) (fun x => F' x ∨ G' x) w w') ?_).mono (by
    rintro e w' ⟨v, rfl, rfl, h⟩; exact ⟨rfl, h⟩)
  intro k10 w11 hk10
  have r11 : RowW w11 k10 #[.int .i64 c.kind, .int .i64 c.d, .int .i64 c.n, .int .i64 c.m, .int .u8 (c.y.toNat : Int), .slice p5 l5 c5, .slice p6 l6 c6] := ⟨_, hk10.at⟩
  have x11 := hk10.ext
  have h11 := h.ext x11
  have kF : ¬ F k10 := fun hf => by have := IsArr.lt h.arr _ hf; have := hk10.size.1; omega
  have kG : ¬ G k10 := fun hf => by have := IsRA.lt h.ref _ hf; have := hk10.size.1; omega
  have fin : ∀ {w1 w2 : World} {s' : StA} {F' G' : Nat → Prop}, Ext w w1 → Pair w1 a r s F G → ∀ {w3 : World}, Step F F' w1 w3 → IsA w3 a s' F' → Step G G' w3 w2 → IsR w2 r s' G' → ∃ F' G', Pair w2 a r s' F' G' ∧ Step (fun x => F x ∨ G x) (fun x => F' x ∨ G' x) w w2 := by
    intro w1 w2 s' F' G' hx1 hp w3 hs1 hA hs2 hR
    obtain ⟨p, st⟩ := hp.both hs1 hA hs2 hR
    exact ⟨F', G', p, (Step.ext hx1).trans st⟩
  refine ⟨_, r11.row.cell rfl, condB_of (fun k1 => ?_) (fun k1 => condB_of (fun k2 => ?_) (fun k2 => condB_of (fun k3 => ?_) (fun k3 => condB_of (fun k4 => ?_) (fun k4 => condB_of (fun k5 => ?_) (fun k5 => condB_of (fun k6 => ?_) (fun k6 => condB_of (fun k7 => ?_) (fun k7 => condB_of (fun k8 => ?_) (fun k8 => ?_))))))))⟩ <;> simp only [decide_eq_true_eq, decide_eq_false_iff_not] at *
  · -- write
    intro w13 hd
    have h13 := h11.ext hd.ext
    have x13 := x11.trans hd.ext
    have r13 : RowW w13 k10 _ := hd.ext.rowW r11 id
    refine ⟨_, r13.row.cell rfl, _, r13.row.cell rfl, _, _, _, r13.row.cell rfl, _, r13.row.cell rfl, _, r13.row.cell rfl, _, _, _, r13.row.cell rfl, ?_⟩
    refine (b_writeA h13.arr ho c.d c.n (hb.ext (hx.trans x13))).mono ?_
    rintro e w20 ⟨F', rfl, hs1, hA⟩
    have r20 : RowW w20 k10 _ := hs1.upd.rowW r13 kF
    have hb20 : BytesAt w20 p5 l5 c.b := (hb.ext (hx.trans x13)).upd hs1.upd fun ap ha hne hf => by
      obtain ⟨a', ha', hlt⟩ := hb.lt hne
      rw [ha] at ha'; cases ha'
      have := hF _ hf; omega
    refine ⟨_, rfl, ⟨_, r20.row.cell rfl, rfl⟩, ⟨_, r20.row.cell rfl, rfl⟩, ⟨_, _, _, r20.row.cell rfl, rfl⟩, ?_⟩
    refine (b_writeR (h13.mid hs1) ho c.d c.n hb20).mono ?_
    rintro e w26 ⟨G', rfl, hs2, hR⟩
    refine ⟨_, rfl, by simp, ?_⟩
    have e1 : callA s c = writeA s c.d c.n c.b := by unfold callA; rw [if_pos k1]
    rw [e1]
    exact fin x13 h13 hs1 hA hs2 hR
  · -- read
    refine ⟨_, r11.row.cell rfl, _, r11.row.cell rfl, ?_⟩
    refine (b_readA h11.arr c.d c.n).mono ?_
    rintro e w31 ⟨x31, p, l, c', rfl, hb1, hl1⟩
    have r31 : RowW w31 k10 _ := x31.rowW r11 id
    refine ⟨_, _, _, _, rfl, _, r31.row.cell rfl, _, r31.row.cell rfl, ?_⟩
    refine (b_readR (h11.ext x31).ref c.d c.n).mono ?_
    rintro e w37 ⟨x37, q, l', c'', rfl, hb2, hl2⟩
    refine ⟨_, _, _, _, rfl, ?_⟩
    refine (same_spec (hb1.ext x37) hb2 (by omega)).mono ?_
    rintro e w41 ⟨rfl, hq⟩
    refine ⟨_, rfl, condB_of (fun _ => ⟨by simp, ?_⟩) (fun h => by simp at h)⟩
    have xx := ((x11.trans x31).trans x37).trans hq.ext
    have e1 : callA s c = s := by unfold callA; simp [k2]
    rw [e1]
    exact ⟨F, G, h.ext xx, Step.ext xx⟩
  · -- flush
    refine (b_flushA h11.arr ho).mono ?_
    rintro e w44 ⟨F', rfl, hs1, hA⟩
    refine ⟨_, rfl, (b_flushR (h11.mid hs1) ho).mono ?_⟩
    rintro e w47 ⟨G', rfl, hs2, hR⟩
    refine ⟨_, rfl, by simp, ?_⟩
    have e1 : callA s c = (if s.down then s else { s with M := flushM s.M.length s.M }) := by unfold callA; simp [k3]
    rw [e1]
    exact fin x11 h11 hs1 hA hs2 hR
  · -- a crash to come
    refine ⟨_, r11.row.cell rfl, (after_spec h11.arr c.n).mono ?_⟩
    rintro e w51 ⟨rfl, hs1, hA⟩
    have r51 : RowW w51 k10 _ := hs1.upd.rowW r11 kF
    refine ⟨rfl, _, r51.row.cell rfl, (ra_after (h11.mid hs1) c.n).mono ?_⟩
    rintro e w54 ⟨rfl, hs2, hR⟩
    refine ⟨rfl, trivial, ?_⟩
    have e1 : callA s c = ⟨s.M, if s.down then s.left else if c.n < -1 then -1 else c.n, if s.down then true else decide (c.n = 0)⟩ := by
      unfold callA
      rw [if_neg k1, if_neg k3, if_pos k4]
      obtain ⟨M, left, down⟩ := s
      cases down <;> rfl
    rw [e1]
    exact fin x11 h11 hs1 hA hs2 hR
  · -- a restart
    have e1 : callA s c = ⟨crashM c.keep s.M.length s.M, -1, false⟩ := by unfold callA; rw [if_neg k1, if_neg k3, if_neg k4, if_pos k5]
    refine ⟨_, _, _, r11.row.cell rfl, (restart_any (w0 := w0) h11.arr ho (hx.trans x11) hF hk hs).mono ?_⟩
    rintro e w57 ⟨F', rfl, hs1, hA⟩
    have r57 : RowW w57 k10 _ := hs1.upd.rowW r11 kF
    have hR57 := h11.mid hs1
    have hKA : KeepAt w57 (fun x => x < w0.heap.size) p6 l6 c.keep := by
      have x011 := hx.trans x11
      have h0 : KeepAt w11 (fun x => x < w0.heap.size) p6 l6 c.keep := by
        refine ⟨hk.1, fun i ks hi => ?_⟩
        obtain ⟨ap, q, n, cc, g1, g2, g3⟩ := hk.2 i ks hi
        have hn := g3.1
        have := hs ks (List.mem_of_getElem? hi)
        refine ⟨ap, q, n, cc, g1, ?_, cellx g2 x011, ⟨g3.1, g3.2.ext x011⟩, fun hne a' ha => ints_block g3 hne ha, by omega⟩
        have hb : (ap.add (i * 1)).block = ap.block := add_block _ _
        rw [← hb]
        exact cell_lt g2
      exact h0.upd hs1.upd fun x hx' hf => by have := hF x hf; omega
    have hd := crashDs_of s c.keep (-1) false
    refine ⟨rfl, _, _, _, r57.row.cell rfl, (ra_restart hR57 (by rw [dsOf_len]; have := ho.1; omega) (fun x hx' hf => by have := hG x hf; omega) (fun x hx' hge => by have := (hx.trans x11).size; have := hs1.upd.size; omega) hKA (fun ks hks => by have := hs ks hks; omega)).mono ?_⟩
    rintro e w60 ⟨G', rfl, hs2, hR⟩
    refine ⟨rfl, trivial, ?_⟩
    rw [e1]
    refine fin x11 h11 hs1 hA hs2 ?_
    show IsRA w60 r (dsOf ⟨crashM c.keep s.M.length s.M, -1, false⟩) (bsOf ⟨crashM c.keep s.M.length s.M, -1, false⟩) (-1) false G'
    rw [hd.1, hd.2]
    exact hR
  · -- a disk fails
    intro w62 hd
    have h62 := h11.ext hd.ext
    have x62 := x11.trans hd.ext
    have r62 : RowW w62 k10 _ := hd.ext.rowW r11 id
    refine ⟨_, r62.row.cell rfl, _, r62.row.cell rfl, (b_failA h62.arr c.d).mono ?_⟩
    rintro e w65 ⟨F', rfl, hs1, hA⟩
    have r65 : RowW w65 k10 _ := hs1.upd.rowW r62 kF
    refine ⟨_, rfl, ⟨_, r65.row.cell rfl, rfl⟩, (b_failR (h62.mid hs1) c.d).mono ?_⟩
    rintro e w69 ⟨G', rfl, hs2, hR⟩
    refine ⟨_, rfl, by simp, ?_⟩
    have e1 : callA s c = onDisk s c.d fun m => ⟨{ m.d with dead := true, lasts := [], waits := [] }, IntKind.i64.wrap (m.births + 1)⟩ := by unfold callA; rw [if_neg k1, if_neg k3, if_neg k4, if_neg k5, if_pos k6]
    rw [e1]
    exact fin x62 h62 hs1 hA hs2 hR
  · -- a disk is replaced
    intro w62 hd
    have h62 := h11.ext hd.ext
    have x62 := x11.trans hd.ext
    have r62 : RowW w62 k10 _ := hd.ext.rowW r11 id
    refine ⟨_, r62.row.cell rfl, _, r62.row.cell rfl, (b_replaceA h62.arr c.d).mono ?_⟩
    rintro e w65 ⟨F', rfl, hs1, hA⟩
    have r65 : RowW w65 k10 _ := hs1.upd.rowW r62 kF
    refine ⟨_, rfl, ⟨_, r65.row.cell rfl, rfl⟩, (b_replaceR (h62.mid hs1) c.d).mono ?_⟩
    rintro e w69 ⟨G', rfl, hs2, hR⟩
    refine ⟨_, rfl, by simp, ?_⟩
    have e1 : callA s c = onDisk s c.d fun m => ⟨{ m.d with dead := false, lasts := [], waits := [] }, IntKind.i64.wrap (m.births + 1)⟩ := by unfold callA; rw [if_neg k1, if_neg k3, if_neg k4, if_neg k5, if_neg k6, if_pos k7]
    rw [e1]
    exact fin x62 h62 hs1 hA hs2 hR
  · -- a byte is hurt
    intro w62 hd
    have h62 := h11.ext hd.ext
    have x62 := x11.trans hd.ext
    have r62 : RowW w62 k10 _ := hd.ext.rowW r11 id
    refine ⟨_, r62.row.cell rfl, _, r62.row.cell rfl, _, r62.row.cell rfl, _, r62.row.cell rfl, _, r62.row.cell rfl, _, r62.row.cell rfl, _, r62.row.cell rfl, _, r62.row.cell rfl, (b_corruptA h62.arr c.d c.n c.m c.y hm).mono ?_⟩
    rintro e w65 ⟨F', rfl, hs1, hA⟩
    have r65 : RowW w65 k10 _ := hs1.upd.rowW r62 kF
    refine ⟨_, rfl, ⟨_, r65.row.cell rfl, rfl⟩, ⟨_, r65.row.cell rfl, rfl⟩, ⟨_, r65.row.cell rfl, rfl⟩, ⟨_, r65.row.cell rfl, rfl⟩, (b_corruptR (h62.mid hs1) c.d c.n c.m c.y hm).mono ?_⟩
    rintro e w69 ⟨G', rfl, hs2, hR⟩
    refine ⟨_, rfl, by simp, ?_⟩
    have e1 : callA s c = onDisk s c.d fun m => { m with d := corruptD m.d c.n c.m c.y } := by unfold callA; rw [if_neg k1, if_neg k3, if_neg k4, if_neg k5, if_neg k6, if_neg k7, if_pos k8]
    rw [e1]
    exact fin x62 h62 hs1 hA hs2 hR
  · have e1 : callA s c = s := by unfold callA; rw [if_neg k1, if_neg k3, if_neg k4, if_neg k5, if_neg k6, if_neg k7, if_neg k8]
    rw [e1]
    exact ⟨trivial, F, G, h11, Step.ext x11⟩
end Go.Proofs.YtenfnapoigafmaaGreat

/- Both arrays: Shows. -/
namespace Go.Proofs.YtenfnapoigafmaaGreat
open Go Go.Vc

theorem drew_same {w w' : World} (h : Drew w w') {a : Addr} {v : Value} (hc : w.cell? a = some v) : w'.cell? a = some v := cellx hc h.ext

set_option maxHeartbeats 2000000 in
theorem shows_spec {w : World} {a r : Nat} {s : StA} {F G : Nat → Prop} (h : Pair w a r s F G) (ho : OkA s) (h1 : 1 ≤ s.M.length) :
    Calls Tryz.prog 9 #[.pointer (some (at0 a)), .pointer (some (at0 r))] w fun e w' => e = .returned (.bool true) ∧ Ext w w' := by
  refine (F9_calls (some (at0 a)) (some (at0 r)) w (fun v w' => v = .bool true ∧ Ext w w') (fun w n3 w4 => ∃ i : Nat, n3 = i ∧ i ≤ s.M.length ∧ Ext w w4) (fun _ n3 _ => 100 - n3.toNat) ?_).mono (by rintro e w' ⟨v, rfl, rfl, h⟩; exact ⟨rfl, h⟩)
  have hM : s.M.length ≤ 32 := ho.1
  refine ⟨⟨0, rfl, Nat.zero_le _, Upd.refl _ _⟩, ?_⟩
  rintro n3 w4 ⟨i, rfl, hi, x4⟩
  intros
  have h4 := h.ext x4
  obtain ⟨pD, cD, pB, cB, hr4⟩ := IsRA.row h4.ref
  rw [dsOf_len] at hr4
  refine ⟨_, _, _, hr4.row.cell rfl, condB_of (fun hlt => ?_) (fun hge => ?_)⟩
  · simp only [decide_eq_true_eq] at hlt
    intro w53 hd53
    obtain ⟨m, hm⟩ : ∃ m, s.M[i]? = some m := ⟨s.M[i]'(by omega), List.getElem?_eq_getElem _⟩
    have h53 := h4.ext hd53.ext
    obtain ⟨ap, cD', b, Fi, e0, e1, hd, _, _⟩ := IsRA.at h53.ref (dsOf_at hm)
    rw [dsOf_len] at e0
    obtain ⟨pL, lL, cL, pW, lW, cW, G', hrow, hL, hW⟩ := hd.row
    have hlen := ref_len hd.ok hd.asc.1 hd.asc.2
    refine ⟨_, _, _, e0, ⟨by omega, hlt⟩, some (at0 b), by rw [Int.toNat_natCast]; exact e1, _, _, _, hrow.row.cell rfl, ?_⟩
    refine (alasts_spec h53.arr hm).mono ?_
    rintro e w60 ⟨p62, l62, c62, rfl, x60, hs60⟩
    have r60 : RowW w60 b _ := x60.rowW hrow id
    refine ⟨_, _, _, rfl, ⟨_, _, _, cellx e0 x60, rfl⟩, ⟨_, by rw [Int.toNat_natCast]; exact cellx e1 x60, rfl⟩, ⟨_, _, _, r60.row.cell rfl, rfl⟩, ?_⟩
    refine (rsame_spec (hs60.read hlen.1) ((hL.ext x60).read hlen.1)).mono ?_
    rintro e w66 ⟨rfl, x66⟩
    refine ⟨_, rfl, fun w69 hd69 => ?_⟩
    have xx := (x60.trans x66).trans hd69.ext
    have h69 := h53.ext xx
    have r69 : RowW w69 b _ := xx.rowW hrow id
    refine ⟨_, _, _, cellx e0 xx, ⟨by omega, hlt⟩, some (at0 b), by rw [Int.toNat_natCast]; exact cellx e1 xx, _, _, _, r69.row.cell rfl, ?_⟩
    refine (awaits_spec h69.arr hm).mono ?_
    rintro e w76 ⟨p78, l78, c78, rfl, x76, hs76⟩
    have r76 : RowW w76 b _ := x76.rowW r69 id
    refine ⟨_, _, _, rfl, ⟨_, _, _, cellx e0 (xx.trans x76), rfl⟩, ⟨_, by rw [Int.toNat_natCast]; exact cellx e1 (xx.trans x76), rfl⟩, ⟨_, _, _, r76.row.cell rfl, rfl⟩, ?_⟩
    refine (rsame_spec (hs76.read hlen.2) ((hW.ext (xx.trans x76)).read hlen.2)).mono ?_
    rintro e w82 ⟨rfl, x82⟩
    refine ⟨_, rfl, condB_of (fun h => by simp at h) fun _ => condB_of (fun h => by simp at h) fun _ => ?_⟩
    rw [w64 (by omega)]
    exact ⟨⟨i + 1, by omega, by omega, (((x4.trans hd53.ext).trans xx).trans x76).trans x82⟩, by show 100 - ((i : Int) + 1).toNat < 100 - (i : Int).toNat; omega⟩
  · refine (live_spec h4.arr (by omega)).mono ?_
    rintro e w85 ⟨pl, ll, cl, rfl, x85, rfl, hol⟩
    refine ⟨_, _, _, rfl, ?_⟩
    have h85 := h4.ext x85
    refine (ra_live h85.ref (by rw [dsOf_len]; omega)).mono ?_
    rintro e w88 ⟨pl2, ll2, cl2, rfl, x88, rfl, hol2⟩
    refine ⟨_, _, _, rfl, ?_⟩
    have hb1 : s.M.length = (s.M.map fun m => !m.d.dead).length ∧ CellsAt w88 pl ((s.M.map fun m => !m.d.dead).map Value.bool) := ⟨by simp, by
      have := hol.cells.ext x88
      simpa [List.map_map, Function.comp_def] using this⟩
    have hb2 : (dsOf s).length = (s.M.map fun m => !m.d.dead).length ∧ CellsAt w88 pl2 ((s.M.map fun m => !m.d.dead).map Value.bool) := ⟨by simp [dsOf], by
      have := hol2.cells
      simpa [dsOf, List.map_map, Function.comp_def] using this⟩
    refine (bools_spec hb1 hb2 (by omega)).mono ?_
    rintro e w91 ⟨rfl, x91⟩
    refine ⟨_, rfl, fun w94 hd94 => ?_⟩
    have h94 := ((h85.ext x88).ext x91).ext hd94.ext
    obtain ⟨pD9, cD9, pB9, cB9, hr9⟩ := IsRA.row h94.ref
    refine ⟨_, _, _, hr9.row.cell rfl, ?_⟩
    refine (births_spec h94.arr (by omega)).mono ?_
    rintro e w97 ⟨pb, lb, cb, rfl, x97, rfl, hob⟩
    have r97 : RowW w97 r _ := x97.rowW hr9 id
    refine ⟨_, _, _, rfl, ⟨_, _, _, r97.row.cell rfl, rfl⟩, ?_⟩
    have hbl : (bsOf s).length = s.M.length := by simp [bsOf]
    have hi1 : s.M.length = (bsOf s).length ∧ CellsAt w97 pb ((bsOf s).map (Value.int .i64)) := ⟨hbl.symm, by
      have := hob.cells
      simpa [bsOf, List.map_map, Function.comp_def] using this⟩
    have hi2 : (bsOf s).length = (bsOf s).length ∧ CellsAt w97 pB9 ((bsOf s).map (Value.int .i64)) := by
      refine ⟨rfl, ?_⟩
      obtain ⟨pD, cD, pB, cB, bs, Fs, g1, _, g3, _⟩ := h94.ref
      have he : RowW w94 r #[.slice pD9 (dsOf s).length cD9, .slice pB9 (bsOf s).length cB9, .int .i64 s.left, .bool s.down] := hr9
      have c1 : w94.cell? ((at0 r).add 1) = some (.slice pB9 (bsOf s).length cB9) := he.row.cell rfl
      have c2 : w94.cell? ((at0 r).add 1) = some (.slice pB (bsOf s).length cB) := g1.row.cell rfl
      rw [c1] at c2
      simp only [Option.some.injEq, Value.slice.injEq] at c2
      rw [c2.1]
      exact (g3.ext x97).cells
    refine (intsq_spec hi1 hi2 (by omega)).mono ?_
    rintro e w101 ⟨rfl, x101⟩
    refine ⟨_, rfl, fun w104 hd104 => condB_of (fun _ => ?_) fun h => by simp at h⟩
    refine condB_of (fun _ => ?_) fun h => by simp at h
    have h104 := ((h94.ext x97).ext x101).ext hd104.ext
    obtain ⟨pDx, cDx, pBx, cBx, hrx⟩ := IsRA.row h104.ref
    refine ⟨_, hrx.row.cell rfl, (adown_spec h104.arr).mono ?_⟩
    rintro e w107 ⟨rfl, rfl⟩
    refine ⟨_, rfl, ⟨_, hrx.row.cell rfl, rfl⟩, condB_of (fun _ => ?_) fun h => by simp at h⟩
    refine (alasts_out h104.arr (i := -1) (by omega)).mono ?_
    rintro e w111 ⟨rfl, rfl⟩
    refine ⟨_, _, _, rfl, condB_of (fun _ => ?_) fun h => by simp at h⟩
    refine ⟨_, _, _, hrx.row.cell rfl, (awaits_out h104.arr (i := (((dsOf s).length : Nat) : Int)) (by rw [dsOf_len]; omega)).mono ?_⟩
    rintro e w116 ⟨rfl, rfl⟩
    exact ⟨_, _, _, rfl, by simp, ((((((x4.trans x85).trans x88).trans x91).trans hd94.ext).trans x97).trans x101).trans hd104.ext⟩
end Go.Proofs.YtenfnapoigafmaaGreat

/- Both arrays are not made where sectors are not as they may be. -/
namespace Go.Proofs.YtenfnapoigafmaaGreat
open Go Go.Vc

theorem anew_secs {n s : Int} (h : 1 ≤ n ∧ n ≤ 32) (hs : s < 1 ∨ 4096 < s) (w : World) : Calls Tryz.prog 5 #[.int .i64 n, .int .i64 s] w fun e w' => e = .returned (.tuple #[.pointer none, .int .i64 1]) ∧ Ext w w' := by
  refine (F5_calls n s w (fun v w' => v = .tuple #[.pointer none, .int .i64 1] ∧ Ext w w')
    (fun _ _ _ n7 w8 => n7 = 0 ∧ Ext w w8) (fun _ _ _ n7 _ => 32 - n7.toNat) ?_).mono (by rintro e w' ⟨v, rfl, rfl, h⟩; exact ⟨rfl, h⟩)
  refine condB_of (fun h1 => by simp only [decide_eq_true_eq] at h1; omega) (fun _ => condB_of (fun h1 => by simp only [decide_eq_true_eq] at h1; omega) (fun _ => ?_))
  intro k3 w4 hk
  refine ⟨⟨rfl, hk.ext⟩, ?_⟩
  rintro n7 w8 ⟨rfl, x8⟩
  intros
  refine condB_of (fun hlt => ?_) (fun hge => by simp only [decide_eq_false_iff_not] at hge; omega)
  refine (new_bad hs w8).mono ?_
  rintro e w34 ⟨rfl, rfl⟩
  exact ⟨_, _, rfl, condB_of (fun _ => ⟨rfl, x8⟩) fun h => by simp at h⟩
theorem ra_new_secs {n s : Int} (h : 1 ≤ n ∧ n ≤ 32) (hs : s < 1 ∨ 4096 < s) (w : World) : Calls Tryz.prog 6 #[.int .i64 n, .int .i64 s] w fun e w' => e = .returned (.tuple #[.pointer none, .int .i64 1]) ∧ Ext w w' := by
  refine (F6_calls n s w (fun v w' => v = .tuple #[.pointer none, .int .i64 1] ∧ Ext w w')
    (fun _ _ n6 w7 => n6 = 0 ∧ Ext w w7) (fun _ _ n6 _ => 32 - n6.toNat) ?_).mono (by rintro e w' ⟨v, rfl, rfl, h⟩; exact ⟨rfl, h⟩)
  refine condB_of (fun h1 => by simp only [decide_eq_true_eq] at h1; omega) (fun _ => condB_of (fun h1 => by simp only [decide_eq_true_eq] at h1; omega) (fun _ => ?_))
  intro k3 w4 hk
  refine ⟨⟨rfl, hk.ext⟩, ?_⟩
  rintro n6 w7 ⟨rfl, x7⟩
  intros
  refine condB_of (fun hlt => ?_) (fun hge => by simp only [decide_eq_false_iff_not] at hge; omega)
  refine (rnew_bad hs w7).mono ?_
  rintro e w34 ⟨rfl, rfl⟩
  exact ⟨_, _, rfl, condB_of (fun _ => ⟨rfl, x7⟩) fun h => by simp at h⟩

/-- both are made, or neither is -/
def Made (w w' : World) (p : Option Addr) (e : Int) (q : Option Addr) (f : Int) : Prop :=
  (p = none ∧ q = none ∧ e = 1 ∧ f = 1 ∧ Ext w w') ∨ (e = 0 ∧ f = 0 ∧ ∃ a r s F G, p = some (at0 a) ∧ q = some (at0 r) ∧ Ext w w' ∧ Pair w' a r s F G ∧ OkA s ∧ 1 ≤ s.M.length ∧ (∀ x, F x ∨ G x → w.heap.size ≤ x))

theorem both_new (n s : Int) (w : World) {T : World → Option Addr → Int → World → Ending → Prop}
    (hT : ∀ w1 w2 p e q f, Made w w2 p e q f → T w1 p e w2 (.returned (.tuple #[.pointer q, .int .i64 f]))) :
    Calls Tryz.prog 5 #[.int .i64 n, .int .i64 s] w fun e8 w7 => ∃ p9 n10, e8 = .returned (.tuple #[.pointer p9, .int .i64 n10]) ∧ Calls Tryz.prog 6 #[.int .i64 n, .int .i64 s] w7 fun e12 w11 => T w7 p9 n10 w11 e12 := by
  by_cases hn : n < 1 ∨ 32 < n
  · refine (anew_bad hn w).mono ?_
    rintro e w1 ⟨rfl, rfl⟩
    refine ⟨_, _, rfl, (ra_new_bad hn w1).mono ?_⟩
    rintro e w2 ⟨rfl, rfl⟩
    exact hT _ _ _ _ _ _ (.inl ⟨rfl, rfl, rfl, rfl, Upd.refl _ _⟩)
  by_cases hs : s < 1 ∨ 4096 < s
  · refine (anew_secs ⟨by omega, by omega⟩ hs w).mono ?_
    rintro e w1 ⟨rfl, x1⟩
    refine ⟨_, _, rfl, (ra_new_secs ⟨by omega, by omega⟩ hs w1).mono ?_⟩
    rintro e w2 ⟨rfl, x2⟩
    exact hT _ _ _ _ _ _ (.inl ⟨rfl, rfl, rfl, rfl, x1.trans x2⟩)
  · refine (anew_good (n := n) (s := s) ⟨by omega, by omega⟩ ⟨by omega, by omega⟩ w).mono ?_
    rintro e w1 ⟨a, F, rfl, x1, h1, hF⟩
    refine ⟨_, _, rfl, (ra_new_good (n := n) (s := s) ⟨by omega, by omega⟩ ⟨by omega, by omega⟩ w1).mono ?_⟩
    rintro e w2 ⟨r, G, rfl, x2, h2, hG⟩
    have hA : IsA w2 a (begA n.toNat s) F := IsArr.ext h1 x2
    have hR : IsR w2 r (begA n.toNat s) G := by
      have e1 : dsOf (begA n.toNat s) = List.replicate n.toNat ⟨s, [], [], false⟩ := by simp [dsOf, begA]
      have e2 : bsOf (begA n.toNat s) = List.replicate n.toNat 0 := by simp [bsOf, begA]
      unfold IsR
      rw [e1, e2]; exact h2
    refine hT _ _ _ _ _ _ (.inr ⟨rfl, rfl, a, r, begA n.toNat s, F, G, rfl, rfl, x1.trans x2, ⟨hA, hR, fun x hf hg => ?_⟩, begA_ok (by omega), by simp [begA]; omega, ?_⟩)
    · have := IsArr.lt h1 x hf
      have := hG x hg
      omega
    · rintro x (hx | hx)
      · exact hF x hx
      · exact Nat.le_trans x1.size (hG x hx)
end Go.Proofs.YtenfnapoigafmaaGreat
