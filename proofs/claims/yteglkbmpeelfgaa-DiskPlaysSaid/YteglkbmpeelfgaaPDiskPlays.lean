/- DiskPlays returns true, whatever the script. No conditions. -/
import Derived.Test.YteglkbmpeelfgaaN5
import Derived.Test.YteglkbmpeelfgaaRows
namespace Go.Proofs.Yteglkbmpeelfgaa
open Go Go.Vc Go.ChangeShapes Go.WideShapes Go.ChangeAt Go.RowKit

/-- both disks, apart, and new since w0 -/
structure Two (w0 w : World) (b r : Nat) (D E : Dk) (F G : Nat → Prop) : Prop where
  dsk : Dsk w b D F
  ref : IsRef w r E G
  apart : ∀ x, F x → ¬ (x = r ∨ G x)
  new : ∀ x, F x → w0.heap.size ≤ x
  rnew : w0.heap.size ≤ r
  ext : Ext w0 w

theorem Two.step1 {w0 w w' : World} {b r : Nat} {D D' E : Dk} {F F' G : Nat → Prop} (h : Two w0 w b r D E F G) (hs : Step F F' w w') (hd : Dsk w' b D' F') : Two w0 w' b r D' E F' G := by
  have hr := h.ref.lt
  have hG : ∀ x, G x → x < w.heap.size := by
    obtain ⟨_, _, _, _, _, _, _, _, _, _, _, _, h7⟩ := h.ref
    exact h7
  obtain ⟨x1, x2⟩ := ext_step h.ext hs h.new
  refine ⟨hd, h.ref.upd hs.upd h.apart, fun x hx => ?_, x2, h.rnew, x1⟩
  rcases hs.grow x hx with h1 | h1
  · exact h.apart x h1
  · rintro (rfl | h2)
    · omega
    · have := hG x h2; omega
theorem Two.step2 {w0 w w' : World} {b r : Nat} {D E E' : Dk} {F G G' : Nat → Prop} (h : Two w0 w b r D E F G) (hs : RStep r G G' w w') (hd : IsRef w' r E' G') : Two w0 w' b r D E' F G' := by
  refine ⟨h.dsk.upd hs.upd (by rintro x rfl hF; exact h.apart _ hF (.inl rfl)), hd, fun x hx => ?_, h.new, h.rnew, ?_⟩
  · rintro (h1 | h1)
    · exact h.apart x hx (.inl h1)
    · rcases hs.grow x h1 with h2 | h2
      · exact h.apart x hx (.inr h2)
      · have := h.dsk.lt x hx; omega
  · refine Upd.trans h.ext hs.upd fun x hx e => ?_
    have := h.rnew; omega
theorem Two.extend {w0 w w' : World} {b r : Nat} {D E : Dk} {F G : Nat → Prop} (h : Two w0 w b r D E F G) (hx : Ext w w') : Two w0 w' b r D E F G := h.step1 (Step.ext hx) (h.dsk.ext hx)

set_option maxHeartbeats 4000000 in
theorem did_spec {w0 w : World} {b r : Nat} {D : Dk} {F G : Nat → Prop} (h : Two w0 w b r D D F G) {cl : CallR} {p4 : Option Addr} {l4 c4 : Nat} {p5 : Option Addr} {l5 c5 : Nat} (hb : BytesAt w0 p4 l4 cl.b) (hk : IntsAt w0 p5 l5 cl.keep)
    (hm : -9223372036854775808 ≤ cl.m ∧ cl.m ≤ 9223372036854775807) (hs5 : l5 ≤ 200) :
    Calls Try.prog 25 #[.pointer (some (at0 b)), .pointer (some (at0 r)), .agg #[.int .i64 cl.kind, .int .i64 cl.n, .int .i64 cl.m, .int .u8 (cl.y.toNat : Int), .slice p4 l4 c4, .slice p5 l5 c5]] w fun e w' =>
      e = .returned (.bool true) ∧ ∃ D' F' G', Two w0 w' b r D' D' F' G' := by
  refine (F25_calls (some (at0 b)) (some (at0 r)) cl.kind cl.n cl.m (cl.y.toNat : Int) p4 l4 c4 p5 l5 c5 w (fun v w' => v = .bool true ∧ ∃ D' F' G', Two w0 w' b r D' D' F' G') ?_).mono (by rintro e w' ⟨v, rfl, rfl, h⟩; exact ⟨rfl, h⟩)
  intro k9 w10 hk9
  have hk0 := hk9.size
  have r10 : RowW w10 k9 _ := ⟨_, hk9.at⟩
  have t10 := h.extend hk9.ext
  have hkF : ∀ {F' G' : Nat → Prop} {w' : World} {D' E' : Dk}, Two w0 w' b r D' E' F' G' → Step F F' w10 w' → RowW w' k9 _ := fun t s => s.upd.rowW r10 fun hf => by have := h.dsk.lt _ hf; omega
  have keepApart : ∀ a, p5 = some a → cl.keep ≠ [] → a.block < w0.heap.size := fun a ha hne => ints_lt hk hne ha
  refine ⟨_, r10.row.cell rfl, condB_of (fun e1 => ?_) (fun e1 => condB_of (fun e2 => ?_) (fun e2 => condB_of (fun e3 => ?_) (fun e3 => condB_of (fun e4 => ?_) (fun e4 => condB_of (fun e5 => ?_) (fun e5 => condB_of (fun e6 => ?_) (fun e6 => condB_of (fun e7 => ?_) (fun e7 => ?_)))))))⟩
  · intro w12 d12
    have r12 := d12.ext.rowW r10 id
    have t12 := t10.extend d12.ext
    refine ⟨_, r12.row.cell rfl, _, _, _, r12.row.cell rfl, _, r12.row.cell rfl, _, _, _, r12.row.cell rfl, ?_⟩
    refine (d_write t12.dsk cl.n (hb.ext t12.ext)).mono ?_
    rintro e w17 ⟨F', rfl, s17, h17⟩
    have t17 := t12.step1 s17 h17
    have r17 := hkF t17 ((Step.ext d12.ext).trans s17)
    refine ⟨_, rfl, ⟨_, r17.row.cell rfl, rfl⟩, ⟨_, _, _, r17.row.cell rfl, rfl⟩, ?_⟩
    refine (rwrite_spec t17.ref h.dsk.ok cl.n (hb.ext t17.ext)).mono ?_
    rintro e w22 ⟨G', rfl, hu, h22, hg⟩
    exact ⟨_, rfl, by simp, _, _, _, t17.step2 ⟨hu, hg⟩ h22⟩
  · refine ⟨_, r10.row.cell rfl, ?_⟩
    refine (d_read t10.dsk cl.n).mono ?_
    rintro e w26 ⟨x26, h26, p28, l28, c28, bs28, rfl, e28, l28e, own28, m28⟩
    have t26 := t10.extend x26
    have r26 := x26.rowW r10 id
    refine ⟨_, _, _, _, rfl, _, r26.row.cell rfl, ?_⟩
    refine (rread_spec t26.ref h.dsk.ok cl.n).mono ?_
    rintro e w31 ⟨x31, p33, l33, c33, bs33, rfl, e33, b33, m33⟩
    refine ⟨_, _, _, _, rfl, ?_⟩
    have b28 : BytesAt w31 p28 l28 bs28 := by
      have := BytesAt.of_cells (own28.ext x31).cells
      rw [← l28e] at this
      exact this
    refine (same_spec b28 b33 (by omega)).mono ?_
    rintro e w35 ⟨rfl, q35⟩
    refine ⟨_, rfl, condB_of (fun _ => ⟨by simp, _, _, _, (t26.extend x31).extend q35.ext⟩) (fun h0 => ?_)⟩
    exfalso
    simp only [decide_eq_false_iff_not] at h0
    exact h0 (by rw [e28, e33])
  · refine (d_flush t10.dsk).mono ?_
    rintro e w38 ⟨rfl, s38, h38⟩
    have t38 := t10.step1 s38 h38
    refine ⟨_, rfl, ?_⟩
    refine (rflush_spec t38.ref h.dsk.ok).mono ?_
    rintro e w41 ⟨G', rfl, hs, h41⟩
    exact ⟨_, rfl, by simp, _, _, _, t38.step2 hs h41⟩
  · refine ⟨_, _, _, r10.row.cell rfl, ?_⟩
    refine (d_crash t10.dsk (hk.ext t10.ext) (by omega) fun a ha hne hf => by
      have := keepApart a ha hne
      have := t10.new _ hf
      omega).mono ?_
    rintro e w45 ⟨rfl, s45, h45⟩
    have t45 := t10.step1 s45 h45
    have r45 := hkF t45 s45
    refine ⟨rfl, _, _, _, r45.row.cell rfl, ?_⟩
    refine (rcrash_spec t45.ref h.dsk.ok (hk.ext t45.ext) (by omega) fun a ha hne e => by
      have := keepApart a ha hne
      have := t45.rnew
      omega).mono ?_
    rintro e w48 ⟨G', rfl, hs, h48⟩
    exact ⟨rfl, rfl, _, _, _, t45.step2 hs h48⟩
  · refine (d_fail t10.dsk).mono ?_
    rintro e w50 ⟨rfl, s50, h50⟩
    have t50 := t10.step1 s50 h50
    refine ⟨rfl, (rfail_spec t50.ref).mono ?_⟩
    rintro e w52 ⟨rfl, hu, h52⟩
    exact ⟨rfl, rfl, _, _, _, t50.step2 ⟨hu, fun _ h => .inl h⟩ h52⟩
  · refine (d_replace t10.dsk).mono ?_
    rintro e w50 ⟨rfl, s50, h50⟩
    have t50 := t10.step1 s50 h50
    refine ⟨rfl, (rreplace_spec t50.ref).mono ?_⟩
    rintro e w52 ⟨rfl, hu, h52⟩
    exact ⟨rfl, rfl, _, _, _, t50.step2 ⟨hu, fun _ h => .inl h⟩ h52⟩
  · intro w58 d58
    have r58 := d58.ext.rowW r10 id
    have t58 := t10.extend d58.ext
    refine ⟨_, r58.row.cell rfl, _, r58.row.cell rfl, _, r58.row.cell rfl, _, r58.row.cell rfl, _, r58.row.cell rfl, _, r58.row.cell rfl, ?_⟩
    refine (d_corrupt t58.dsk cl.n cl.m cl.y hm).mono ?_
    rintro e w65 ⟨F', rfl, s65, h65⟩
    have t65 := t58.step1 s65 h65
    have r65 := hkF t65 ((Step.ext d58.ext).trans s65)
    refine ⟨_, rfl, ⟨_, r65.row.cell rfl, rfl⟩, ⟨_, r65.row.cell rfl, rfl⟩, ⟨_, r65.row.cell rfl, rfl⟩, ?_⟩
    refine (rcorrupt_spec t65.ref h.dsk.ok cl.n cl.m cl.y hm).mono ?_
    rintro e w71 ⟨G', rfl, hs, h71⟩
    exact ⟨_, rfl, by simp, _, _, _, t65.step2 hs h71⟩
  · exact ⟨rfl, _, _, _, t10⟩

set_option maxHeartbeats 4000000 in
theorem diskPlays_walk {w : World} (n : Int) {p : Option Addr} {l c : Nat} {L : List CallR} (hL : CallsAt w p l L) :
    Calls Try.prog 6 #[.int .i64 n, .slice p l c] w fun e w' => e = .returned (.bool true) ∧ Ext w w' := by
  refine (F6_calls n p l c w (fun v w' => v = .bool true ∧ Ext w w')
    (fun p8 p12 _ n16 w17 => ∃ (i b r : Nat) (D : Dk) (F G : Nat → Prop), n16 = i ∧ i ≤ 60 ∧ i ≤ l ∧ p8 = some (at0 b) ∧ p12 = some (at0 r) ∧ Two w w17 b r D D F G) (fun _ _ _ n16 _ => 60 - n16.toNat) ?_).mono (by rintro e w' ⟨v, rfl, rfl, h⟩; exact ⟨rfl, h⟩)
  have hl := hL.1
  refine (awake_spec w).mono ?_
  rintro e w3 ⟨rfl, x3⟩
  refine ⟨true, rfl, ?_⟩
  by_cases hn : 1 ≤ n ∧ n ≤ 4096
  rotate_left
  · refine (new_bad (by omega) w3).mono ?_
    rintro e w6 ⟨rfl, rfl⟩
    refine ⟨_, _, rfl, ?_⟩
    refine (rnew_bad (by omega) w6).mono ?_
    rintro e w10 ⟨rfl, rfl⟩
    exact ⟨_, _, rfl, condB_of (fun h => by cases h) fun _ => condB_of (fun h => by simp at h) fun _ => condB_of (fun h => by simp at h) fun _ => condB_of (fun _ => ⟨rfl, x3⟩) fun h => by simp at h⟩
  refine (d_new hn w3).mono ?_
  rintro e w6 ⟨b, F, rfl, x6, h6, hF⟩
  refine ⟨_, _, rfl, ?_⟩
  refine (rnew_good hn w6).mono ?_
  rintro e w10 ⟨r, rfl, x10, h10, hr⟩
  have t10 : Two w w10 b r ⟨n, [], [], false⟩ ⟨n, [], [], false⟩ F (fun _ => False) := by
    refine ⟨h6.ext x10, h10, fun x hx => ?_, fun x hx => Nat.le_trans x3.size (hF x hx), ?_, (x3.trans x6).trans x10⟩
    · rintro (rfl | h)
      · have := h6.lt _ hx; omega
      · exact h
    · have := x3.size; have := x6.size; omega
  refine ⟨_, _, rfl, condB_of (fun h => by cases h) fun _ => condB_of (fun h => by simp at h) fun _ => condB_of (fun h => by simp at h) fun _ => condB_of (fun h => by simp at h) fun _ => ?_⟩
  refine ⟨⟨0, b, r, _, F, _, rfl, by omega, by omega, rfl, rfl, t10⟩, ?_⟩
  clear t10 h10 h6 hF
  rintro n16 w17 ⟨i, b2, r2, D, F2, G2, rfl, hi60, hi, hb2, hr2, t⟩
  cases hb2
  cases hr2
  intros
  refine condB_of (fun h1 => condB_of (fun h2 => ?_) (fun _ => ⟨rfl, t.ext⟩)) (fun _ => ⟨rfl, t.ext⟩)
  simp only [decide_eq_true_eq] at h1 h2
  obtain ⟨cl, hcl⟩ : ∃ x, L[i]? = some x := ⟨L[i]'(by omega), List.getElem?_eq_getElem _⟩
  obtain ⟨a, p4, l4, c4, p5, l5, c5, rfl, hc0⟩ := hL.2 i cl hcl
  have hc := hc0.ext t.ext
  rw [Int.toNat_natCast]
  refine ⟨⟨by omega, h1⟩, _, hc.kind, _, hc.n, _, hc.m, _, hc.y, p4, l4, c4, hc.b, p5, l5, c5, hc.keep, ?_⟩
  refine (small_spec cl.kind cl.n cl.m (cl.y.toNat : Int) p4 l4 c4 p5 l5 c5 w17).mono ?_
  rintro e w85 ⟨rfl, x85⟩
  have t85 := t.extend x85
  have hwrap : IntKind.i64.wrap ((i : Int) + 1) = ((i + 1 : Nat) : Int) := by rw [w64 (by omega)]; omega
  rw [hwrap]
  have hmu : 60 - ((i + 1 : Nat) : Int).toNat < 60 - ((i : Nat) : Int).toNat := by simp only [Int.toNat_natCast]; omega
  refine ⟨_, rfl, condB_of (fun _ => ⟨⟨i + 1, b, r, D, F2, G2, rfl, by omega, by omega, rfl, rfl, t85⟩, hmu⟩) (fun hsm => ?_)⟩
  simp only [Bool.not_eq_false', decide_eq_true_eq] at hsm
  have hc85 := hc.ext x85
  refine ⟨⟨by omega, h1⟩, _, hc85.kind, _, hc85.n, _, hc85.m, _, hc85.y, _, _, _, hc85.b, _, _, _, hc85.keep, ?_⟩
  refine (did_spec t85 hc0.bytes hc0.ints hc0.mr hsm.2).mono ?_
  rintro e w95 ⟨rfl, D', F', G', t95⟩
  refine ⟨_, rfl, ?_⟩
  intro w98 d98
  have t98 := t95.extend d98.ext
  obtain ⟨pL, lL, cL, pW, lW, cW, i1, i2, i3, i4, i5, i6, i7⟩ := t98.ref
  have hlen := ref_len t98.dsk.ok i4 i5
  refine ⟨_, _, _, i1.row.cell rfl, ?_⟩
  refine (d_lasts t98.dsk).mono ?_
  rintro e w101 ⟨p103, l103, c103, rfl, x101, h101, held101⟩
  refine ⟨_, _, _, rfl, ⟨_, _, _, (x101.rowW i1 id).row.cell rfl, rfl⟩, ?_⟩
  refine (rsame_spec (held101.read hlen.1) ((i2.ext x101).read hlen.1)).mono ?_
  rintro e w105 ⟨rfl, x105⟩
  refine ⟨_, rfl, ?_⟩
  intro w108 d108
  have x108 := (x101.trans x105).trans d108.ext
  refine ⟨_, _, _, (x108.rowW i1 id).row.cell rfl, ?_⟩
  refine (d_waits (t98.dsk.ext x108)).mono ?_
  rintro e w111 ⟨p113, l113, c113, rfl, x111', h111, held111⟩
  have x111 := x108.trans x111'
  refine ⟨_, _, _, rfl, ⟨_, _, _, (x111.rowW i1 id).row.cell rfl, rfl⟩, ?_⟩
  refine (rsame_spec (held111.read hlen.2) ((i3.ext x111).read hlen.2)).mono ?_
  rintro e w115 ⟨rfl, x115'⟩
  refine ⟨_, rfl, ?_⟩
  intro w118 d118
  have x118 := (x111.trans x115').trans d118.ext
  refine condB_of (fun h => by cases h) fun _ => condB_of (fun h => by simp at h) fun _ => condB_of (fun h => by simp at h) fun _ => ?_
  refine ⟨_, (x118.rowW i1 id).row.cell rfl, ?_⟩
  refine (d_dead (t98.dsk.ext x118)).mono ?_
  rintro e w121 ⟨rfl, rfl⟩
  refine ⟨_, rfl, ⟨_, (x118.rowW i1 id).row.cell rfl, rfl⟩, condB_of (fun h => by simp at h) fun _ => ?_⟩
  exact ⟨⟨i + 1, b, r, D', F', G', rfl, by omega, by omega, rfl, rfl, t98.extend x118⟩, hmu⟩

set_option maxRecDepth 100000 in
theorem diskPlays_lifted (os : Os) (started : os.Started) (H : Type) (enc : TypeId × Value → H) :
    ReturnsInHanded {} Try.checked os 6 .any (Rows.diskPlaysSpec.pre6 enc Try.prog Try.f6 Rows.diskPlaysRow.domain false) (Rows.diskPlaysSpec.post enc Try.prog Try.f6 false true false false) := by
  refine returnsInHanded_of_change (C := Try.checked) lawOwn started (by kernel_rfl) Try.func6
    (ChangeSpec.witness6 (enc := enc) (C := Try.checked) false ⟨#[], #[.int .i64 0, .slice none 0 0], []⟩ 8 (by kernel_rfl) (by kernel_rfl) (by kernel_rfl) (by kernel_rfl)) ?_
  intro W base args ds gs before hval0 hW hcnd _
  have hval : ∀ (j : Nat) t v, Try.f6.params[j]? = some t → args[j]? = some v → Value.okWide Try.prog W .any base t v := hval0
  have hW' := hW
  obtain ⟨p, q, hA0, hV, rfl, hfz, hnd⟩ := hW
  have hA : DataW.TrodAll enc Try.prog W 0 (fun _ => true) true Try.f6.params.toList args.toList ds p := hA0
  rw [Try.params6] at hA hval
  obtain ⟨v0, vs0, d0, ds0, p0, q0, hargs, rfl, rfl, h0, r0⟩ := trodAll_cons hA
  obtain ⟨v1, vs1, d1, ds1, p1, q1, rfl, rfl, rfl, h1, r1⟩ := trodAll_cons r0
  obtain ⟨rfl, rfl, rfl⟩ := trodAll_nil r1
  obtain rfl : args = #[v0, v1] := by cases args; simp_all
  obtain ⟨rfl, rfl⟩ := trodVars_none hV
  obtain ⟨n0, rfl, rfl, rfl, wn0⟩ := open_int Try.underlying3 (hval 0 3 v0 rfl rfl) h0
  obtain ⟨a1, l1, c1, L1, rfl, hL1⟩ := open_script (okWide_slice Try.underlying23 (hval 1 23 v1 rfl rfl)) h1
  refine (diskPlays_walk n0 hL1).mono fun e W' ⟨he, hg⟩ => ?_
  subst he
  exact ⟨_, rfl, post_true lawLaid rfl (by kernel_rfl) rfl Try.underlying4 hW' rfl hg.below⟩

/-- ████ THE STATEMENT ████ -/
theorem diskPlays_holds : Rows.DiskPlaysSaid :=
  OpenClaim.holds_of_wide 6 Try.f6 rfl rfl rfl rfl rfl rfl rfl ⟨rfl, rfl, rfl, rfl, rfl⟩ rfl rfl rfl rfl rfl (by kernel_rfl) Try.func6 (by kernel_rfl)
    (of_decide_eq_true (by kernel_rfl)) (by unfold Func.isWrapper; first | (rw [if_pos (by decide +kernel)]; kernel_rfl) | (rw [if_neg (by decide +kernel)]; exact ⟨rfl, rfl⟩))
    (fun os started H enc _ => diskPlays_lifted os started H enc)
end Go.Proofs.Yteglkbmpeelfgaa
