/- The document's disk as one thing, with the blocks that are its own. -/
import Derived.Test.YtbidancfbilbkaaN5
namespace Go.Proofs.Ytbidancfbilbkaa
open Go Go.Vc

structure RDsk (w : World) (b : Nat) (D : Dk) (F : Nat → Prop) : Prop where
  is : ∃ G, IsRef w b D G ∧ F = fun x => x = b ∨ G x
  ok : DkOk D
theorem RDsk.lt {w : World} {b : Nat} {D : Dk} {F : Nat → Prop} (h : RDsk w b D F) : ∀ x, F x → x < w.heap.size := by
  obtain ⟨⟨G, hd, rfl⟩, _⟩ := h
  rintro x (rfl | hx)
  · exact hd.lt
  · obtain ⟨_, _, _, _, _, _, _, _, _, _, _, _, h7⟩ := hd
    exact h7 x hx
theorem RDsk.self {w : World} {b : Nat} {D : Dk} {F : Nat → Prop} (h : RDsk w b D F) : F b := by
  obtain ⟨⟨G, hd, rfl⟩, _⟩ := h
  exact .inl rfl
theorem RDsk.row {w : World} {b : Nat} {D : Dk} {F : Nat → Prop} (h : RDsk w b D F) : ∃ pL lL cL pW lW cW G, RowW w b #[.int .i64 D.sectors, .slice pL lL cL, .slice pW lW cW, .bool D.dead] ∧ RefL w G pL lL cL D.lasts ∧ RefL w G pW lW cW D.waits := by
  obtain ⟨⟨G, hd, rfl⟩, _⟩ := h
  obtain ⟨pL, lL, cL, pW, lW, cW, h1, h2, h3, _⟩ := hd
  exact ⟨pL, lL, cL, pW, lW, cW, G, h1, h2, h3⟩
theorem RDsk.asc {w : World} {b : Nat} {D : Dk} {F : Nat → Prop} (h : RDsk w b D F) : Asc D.lasts ∧ Asc D.waits := by
  obtain ⟨⟨G, hd, rfl⟩, _⟩ := h
  obtain ⟨_, _, _, _, _, _, _, _, _, h4, h5, _⟩ := hd
  exact ⟨h4, h5⟩
theorem RDsk.upd {S : Nat → Prop} {w w' : World} {b : Nat} {D : Dk} {F : Nat → Prop} (h : RDsk w b D F) (hu : Upd S w w') (hS : ∀ x, S x → ¬ F x) : RDsk w' b D F := by
  obtain ⟨⟨G, hd, rfl⟩, hk⟩ := h
  exact ⟨⟨G, hd.upd hu hS, rfl⟩, hk⟩
theorem RDsk.ext {w w' : World} {b : Nat} {D : Dk} {F : Nat → Prop} (h : RDsk w b D F) (hu : Ext w w') : RDsk w' b D F := h.upd hu fun _ h => h.elim
theorem rgrow_step {b : Nat} {G G' : Nat → Prop} {w w' : World} (hu : Upd (fun x => x = b) w w') (h : Grows G G' w w') : Step (fun x => x = b ∨ G x) (fun x => x = b ∨ G' x) w w' := by
  refine ⟨hu.mono fun x _ hx => .inl hx, ?_⟩
  rintro x (hx | hx)
  · exact .inl (.inl hx)
  · rcases h x hx with h | h
    · exact .inl (.inr h)
    · exact .inr h.1

section
variable {w : World} {b : Nat} {D : Dk} {F : Nat → Prop}

theorem rd_new {n : Int} (h : 1 ≤ n ∧ n ≤ 4096) (w : World) : Calls Try.prog 40 #[.int .i64 n] w fun e w' => ∃ b F, e = .returned (.tuple #[.pointer (some (at0 b)), .int .i64 0]) ∧ Ext w w' ∧ RDsk w' b ⟨n, [], [], false⟩ F ∧ ∀ x, F x → w.heap.size ≤ x := by
  refine (rnew_good h w).mono ?_
  rintro e w' ⟨b, rfl, hx, hr, hb⟩
  refine ⟨b, _, rfl, hx, ⟨⟨_, hr, rfl⟩, DkOk.new h⟩, ?_⟩
  rintro x (rfl | hx)
  · exact hb
  · exact hx.elim
theorem rd_write (h : RDsk w b D F) (k : Int) {p : Option Addr} {l c : Nat} {bs : List UInt8} (hb : BytesAt w p l bs) :
    Calls Try.prog 62 #[.pointer (some (at0 b)), .int .i64 k, .slice p l c] w fun e w' => ∃ F', e = .returned (.int .i64 (writeZ D k bs.length)) ∧ Step F F' w w' ∧ RDsk w' b (writeD D k bs) F' := by
  obtain ⟨⟨G, hd, rfl⟩, hk⟩ := h
  refine (rwrite_spec hd hk k hb).mono ?_
  rintro e w' ⟨G', rfl, hu, hd', hg⟩
  exact ⟨_, rfl, rgrow_step hu hg, ⟨G', hd', rfl⟩, hk.write k bs⟩
theorem rd_read (h : RDsk w b D F) (k : Int) :
    Calls Try.prog 63 #[.pointer (some (at0 b)), .int .i64 k] w fun e w' => Ext w w' ∧ ∃ p l c bs, e = .returned (.tuple #[.slice p l c, .int .i64 (faultZ D.dead D.sectors k)]) ∧
      bs = (if faultZ D.dead D.sectors k = 0 then readD D k else []) ∧ BytesAt w' p l bs ∧ l ≤ 4108 := by
  obtain ⟨⟨G, hd, rfl⟩, hk⟩ := h
  exact rread_spec hd hk k
theorem rd_flush (h : RDsk w b D F) : Calls Try.prog 64 #[.pointer (some (at0 b))] w fun e w' => ∃ F', e = .returned (.int .i64 (if D.dead then 120 else 0)) ∧ Step F F' w w' ∧ RDsk w' b (flushD D) F' := by
  have ha := h.asc
  obtain ⟨⟨G, hd, rfl⟩, hk⟩ := h
  refine (rflush_spec hd hk).mono ?_
  rintro e w' ⟨G', rfl, hs, hd'⟩
  exact ⟨_, rfl, rgrow_step hs.upd hs.grow, ⟨G', hd', rfl⟩, hk.flush ha.2⟩
theorem rd_crash (h : RDsk w b D F) {p : Option Addr} {l c : Nat} {ks : List Int} (hk : IntsAt w p l ks) (hl : l ≤ 4096) (hp : ∀ a, p = some a → ks ≠ [] → ¬ F a.block) :
    Calls Try.prog 65 #[.pointer (some (at0 b)), .slice p l c] w fun e w' => ∃ F', e = .returned (.tuple #[]) ∧ Step F F' w w' ∧ RDsk w' b (crashD D ks) F' := by
  have ha := h.asc
  obtain ⟨⟨G, hd, rfl⟩, hok⟩ := h
  refine (rcrash_spec hd hok hk hl fun a h1 h2 h3 => hp a h1 h2 (.inl h3)).mono ?_
  rintro e w' ⟨G', rfl, hs, hd'⟩
  exact ⟨_, rfl, rgrow_step hs.upd hs.grow, ⟨G', hd', rfl⟩, hok.crash ha.2 ks⟩
theorem rd_fail (h : RDsk w b D F) : Calls Try.prog 66 #[.pointer (some (at0 b))] w fun e w' => e = .returned (.tuple #[]) ∧ Step F F w w' ∧ RDsk w' b { D with dead := true, lasts := [], waits := [] } F := by
  obtain ⟨⟨G, hd, rfl⟩, hok⟩ := h
  refine (rfail_spec hd).mono ?_
  rintro e w' ⟨rfl, hu, hd'⟩
  exact ⟨rfl, rgrow_step hu fun x hx => .inl hx, ⟨G, hd', rfl⟩, hok.empty true⟩
theorem rd_replace (h : RDsk w b D F) : Calls Try.prog 67 #[.pointer (some (at0 b))] w fun e w' => e = .returned (.tuple #[]) ∧ Step F F w w' ∧ RDsk w' b { D with dead := false, lasts := [], waits := [] } F := by
  obtain ⟨⟨G, hd, rfl⟩, hok⟩ := h
  refine (rreplace_spec hd).mono ?_
  rintro e w' ⟨rfl, hu, hd'⟩
  exact ⟨rfl, rgrow_step hu fun x hx => .inl hx, ⟨G, hd', rfl⟩, hok.empty false⟩
theorem rd_corrupt (h : RDsk w b D F) (k a : Int) (y : UInt8) (ha : -9223372036854775808 ≤ a ∧ a ≤ 9223372036854775807) :
    Calls Try.prog 68 #[.pointer (some (at0 b)), .int .i64 k, .int .i64 a, .int .u8 (y.toNat : Int)] w fun e w' => ∃ F', e = .returned (.int .i64 (corruptZ D k)) ∧ Step F F' w w' ∧ RDsk w' b (corruptD D k a y) F' := by
  obtain ⟨⟨G, hd, rfl⟩, hok⟩ := h
  refine (rcorrupt_spec hd hok k a y ha).mono ?_
  rintro e w' ⟨G', rfl, hs, hd'⟩
  exact ⟨_, rfl, rgrow_step hs.upd hs.grow, ⟨G', hd', rfl⟩, hok.corrupt k a y⟩
end
end Go.Proofs.Ytbidancfbilbkaa
