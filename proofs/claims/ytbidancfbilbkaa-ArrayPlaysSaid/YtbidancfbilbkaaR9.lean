/- Both arrays: Did. -/
import Derived.Test.YtbidancfbilbkaaR8
namespace Go.Proofs.Ytbidancfbilbkaa
open Go Go.Vc

/-- what both do at a call -/
theorem did_spec {w0 w : World} {a r : Nat} {s : StA} {F G : Nat → Prop} (h : Pair w a r s F G) (ho : OkA s) (hx : Ext w0 w) (hF : ∀ x, F x → w0.heap.size ≤ x) (hG : ∀ x, G x → w0.heap.size ≤ x) {c : CallA} {p5 : Option Addr} {l5 c5 : Nat} {p6 : Option Addr} {l6 c6 : Nat}
    (hb : BytesAt w0 p5 l5 c.b) (hk : l6 = c.keep.length ∧ ∀ i ks, c.keep[i]? = some ks → ∃ a q n c, p6 = some a ∧ w0.cell? (a.add (i * 1)) = some (.slice q n c) ∧ IntsAt w0 q n ks)
    (hm : -9223372036854775808 ≤ c.m ∧ c.m ≤ 9223372036854775807) (hs : ∀ ks ∈ c.keep, ks.length ≤ 100) :
    Calls Try.prog 21 #[.pointer (some (at0 a)), .pointer (some (at0 r)), .agg #[.int .i64 c.kind, .int .i64 c.d, .int .i64 c.n, .int .i64 c.m, .int .u8 (c.y.toNat : Int), .slice p5 l5 c5, .slice p6 l6 c6]] w fun e w' => e = .returned (.bool true) ∧
      ∃ F' G', Pair w' a r (callA s c) F' G' ∧ Step (fun x => F x ∨ G x) (fun x => F' x ∨ G' x) w w' := by
  refine (F21_calls (some (at0 a)) (some (at0 r)) c.kind c.d c.n c.m (c.y.toNat : Int) p5 l5 c5 p6 l6 c6 w (fun v w' => v = .bool true ∧ ∃ F' G', Pair w' a r (callA s c) F' G' ∧ Step (fun x => F x ∨ G x) (fun x => F' x ∨ G' x) w w') ?_).mono (by
    rintro e w' ⟨v, rfl, rfl, h⟩; exact ⟨rfl, h⟩)
  intro k10 w11 hk10
  have r11 : RowW w11 k10 #[.int .i64 c.kind, .int .i64 c.d, .int .i64 c.n, .int .i64 c.m, .int .u8 (c.y.toNat : Int), .slice p5 l5 c5, .slice p6 l6 c6] := ⟨_, hk10.at⟩
  have x11 := hk10.ext
  have h11 := h.ext x11
  have kF : ¬ F k10 := fun hf => by have := IsArr.lt h.arr _ hf; have := hk10.size.1; omega
  have kG : ¬ G k10 := fun hf => by have := IsRA.lt h.ref _ hf; have := hk10.size.1; omega
  have fin : ∀ {w1 w2 : World} {s' : StA} {F' G' : Nat → Prop}, Ext w w1 → Pair w1 a r s F G → ∀ {w3 : World}, Step F F' w1 w3 → IsA w3 a s' F' → Step G G' w3 w2 → IsR w2 r s' G' → ∃ F' G', Pair w2 a r s' F' G' ∧ Step (fun x => F x ∨ G x) (fun x => F' x ∨ G' x) w w2 := by
    intro w1 w2 s' F' G' hx1 hp w3 hs1 hA hs2 hR
    obtain ⟨p, st⟩ := hp.both hs1 hA hs2 hR
    exact ⟨F', G', p, (Step.ext hx1).trans st⟩
  refine ⟨_, r11.row.cell rfl, condB_of (fun k1 => ?_) (fun k1 => condB_of (fun k2 => ?_) (fun k2 => condB_of (fun k3 => ?_) (fun k3 => condB_of (fun k4 => ?_) (fun k4 => condB_of (fun k5 => ?_) (fun k5 => condB_of (fun k6 => ?_) (fun k6 => condB_of (fun k7 => ?_) (fun k7 => condB_of (fun k8 => ?_) (fun k8 => ?_))))))))⟩ <;> simp only [decide_eq_true_eq, decide_eq_false_iff_not] at *
  · -- write
    intro w13 hd
    have h13 := h11.ext hd.ext
    have x13 := x11.trans hd.ext
    have r13 : RowW w13 k10 _ := hd.ext.rowW r11 id
    refine ⟨_, r13.row.cell rfl, _, r13.row.cell rfl, _, _, _, r13.row.cell rfl, _, r13.row.cell rfl, _, r13.row.cell rfl, _, _, _, r13.row.cell rfl, ?_⟩
    refine (b_writeA h13.arr ho c.d c.n (hb.ext (hx.trans x13))).mono ?_
    rintro e w20 ⟨F', rfl, hs1, hA⟩
    have r20 : RowW w20 k10 _ := hs1.upd.rowW r13 kF
    have hb20 : BytesAt w20 p5 l5 c.b := (hb.ext (hx.trans x13)).upd hs1.upd fun ap ha hne hf => by
      obtain ⟨a', ha', hlt⟩ := hb.lt hne
      rw [ha] at ha'; cases ha'
      have := hF _ hf; omega
    refine ⟨_, rfl, ⟨_, r20.row.cell rfl, rfl⟩, ⟨_, r20.row.cell rfl, rfl⟩, ⟨_, _, _, r20.row.cell rfl, rfl⟩, ?_⟩
    refine (b_writeR (h13.mid hs1) ho c.d c.n hb20).mono ?_
    rintro e w26 ⟨G', rfl, hs2, hR⟩
    refine ⟨_, rfl, by simp, ?_⟩
    have e1 : callA s c = writeA s c.d c.n c.b := by unfold callA; rw [if_pos k1]
    rw [e1]
    exact fin x13 h13 hs1 hA hs2 hR
  · -- read
    refine ⟨_, r11.row.cell rfl, _, r11.row.cell rfl, ?_⟩
    refine (b_readA h11.arr c.d c.n).mono ?_
    rintro e w31 ⟨x31, p, l, c', rfl, hb1, hl1⟩
    have r31 : RowW w31 k10 _ := x31.rowW r11 id
    refine ⟨_, _, _, _, rfl, _, r31.row.cell rfl, _, r31.row.cell rfl, ?_⟩
    refine (b_readR (h11.ext x31).ref c.d c.n).mono ?_
    rintro e w37 ⟨x37, q, l', c'', rfl, hb2, hl2⟩
    refine ⟨_, _, _, _, rfl, ?_⟩
    refine (same_spec (hb1.ext x37) hb2 (by omega)).mono ?_
    rintro e w41 ⟨rfl, hq⟩
    refine ⟨_, rfl, condB_of (fun _ => ⟨by simp, ?_⟩) (fun h => by simp at h)⟩
    have xx := ((x11.trans x31).trans x37).trans hq.ext
    have e1 : callA s c = s := by unfold callA; simp [k2]
    rw [e1]
    exact ⟨F, G, h.ext xx, Step.ext xx⟩
  · -- flush
    refine (b_flushA h11.arr ho).mono ?_
    rintro e w44 ⟨F', rfl, hs1, hA⟩
    refine ⟨_, rfl, (b_flushR (h11.mid hs1) ho).mono ?_⟩
    rintro e w47 ⟨G', rfl, hs2, hR⟩
    refine ⟨_, rfl, by simp, ?_⟩
    have e1 : callA s c = (if s.down then s else { s with M := flushM s.M.length s.M }) := by unfold callA; simp [k3]
    rw [e1]
    exact fin x11 h11 hs1 hA hs2 hR
  · -- a crash to come
    refine ⟨_, r11.row.cell rfl, (after_spec h11.arr c.n).mono ?_⟩
    rintro e w51 ⟨rfl, hs1, hA⟩
    have r51 : RowW w51 k10 _ := hs1.upd.rowW r11 kF
    refine ⟨rfl, _, r51.row.cell rfl, (ra_after (h11.mid hs1) c.n).mono ?_⟩
    rintro e w54 ⟨rfl, hs2, hR⟩
    refine ⟨rfl, trivial, ?_⟩
    have e1 : callA s c = ⟨s.M, if s.down then s.left else if c.n < -1 then -1 else c.n, if s.down then true else decide (c.n = 0)⟩ := by
      unfold callA
      rw [if_neg k1, if_neg k3, if_pos k4]
      obtain ⟨M, left, down⟩ := s
      cases down <;> rfl
    rw [e1]
    exact fin x11 h11 hs1 hA hs2 hR
  · -- a restart
    have e1 : callA s c = ⟨crashM c.keep s.M.length s.M, -1, false⟩ := by unfold callA; rw [if_neg k1, if_neg k3, if_neg k4, if_pos k5]
    refine ⟨_, _, _, r11.row.cell rfl, (restart_any (w0 := w0) h11.arr ho (hx.trans x11) hF hk hs).mono ?_⟩
    rintro e w57 ⟨F', rfl, hs1, hA⟩
    have r57 : RowW w57 k10 _ := hs1.upd.rowW r11 kF
    have hR57 := h11.mid hs1
    have hKA : KeepAt w57 (fun x => x < w0.heap.size) p6 l6 c.keep := by
      have x011 := hx.trans x11
      have h0 : KeepAt w11 (fun x => x < w0.heap.size) p6 l6 c.keep := by
        refine ⟨hk.1, fun i ks hi => ?_⟩
        obtain ⟨ap, q, n, cc, g1, g2, g3⟩ := hk.2 i ks hi
        have hn := g3.1
        have := hs ks (List.mem_of_getElem? hi)
        refine ⟨ap, q, n, cc, g1, ?_, cellx g2 x011, ⟨g3.1, g3.2.ext x011⟩, fun hne a' ha => ints_block g3 hne ha, by omega⟩
        have hb : (ap.add (i * 1)).block = ap.block := add_block _ _
        rw [← hb]
        exact cell_lt g2
      exact h0.upd hs1.upd fun x hx' hf => by have := hF x hf; omega
    have hd := crashDs_of s c.keep (-1) false
    refine ⟨rfl, _, _, _, r57.row.cell rfl, (ra_restart hR57 (by rw [dsOf_len]; have := ho.1; omega) (fun x hx' hf => by have := hG x hf; omega) (fun x hx' hge => by have := (hx.trans x11).size; have := hs1.upd.size; omega) hKA (fun ks hks => by have := hs ks hks; omega)).mono ?_⟩
    rintro e w60 ⟨G', rfl, hs2, hR⟩
    refine ⟨rfl, trivial, ?_⟩
    rw [e1]
    refine fin x11 h11 hs1 hA hs2 ?_
    show IsRA w60 r (dsOf ⟨crashM c.keep s.M.length s.M, -1, false⟩) (bsOf ⟨crashM c.keep s.M.length s.M, -1, false⟩) (-1) false G'
    rw [hd.1, hd.2]
    exact hR
  · -- a disk fails
    intro w62 hd
    have h62 := h11.ext hd.ext
    have x62 := x11.trans hd.ext
    have r62 : RowW w62 k10 _ := hd.ext.rowW r11 id
    refine ⟨_, r62.row.cell rfl, _, r62.row.cell rfl, (b_failA h62.arr c.d).mono ?_⟩
    rintro e w65 ⟨F', rfl, hs1, hA⟩
    have r65 : RowW w65 k10 _ := hs1.upd.rowW r62 kF
    refine ⟨_, rfl, ⟨_, r65.row.cell rfl, rfl⟩, (b_failR (h62.mid hs1) c.d).mono ?_⟩
    rintro e w69 ⟨G', rfl, hs2, hR⟩
    refine ⟨_, rfl, by simp, ?_⟩
    have e1 : callA s c = onDisk s c.d fun m => ⟨{ m.d with dead := true, lasts := [], waits := [] }, IntKind.i64.wrap (m.births + 1)⟩ := by unfold callA; rw [if_neg k1, if_neg k3, if_neg k4, if_neg k5, if_pos k6]
    rw [e1]
    exact fin x62 h62 hs1 hA hs2 hR
  · -- a disk is replaced
    intro w62 hd
    have h62 := h11.ext hd.ext
    have x62 := x11.trans hd.ext
    have r62 : RowW w62 k10 _ := hd.ext.rowW r11 id
    refine ⟨_, r62.row.cell rfl, _, r62.row.cell rfl, (b_replaceA h62.arr c.d).mono ?_⟩
    rintro e w65 ⟨F', rfl, hs1, hA⟩
    have r65 : RowW w65 k10 _ := hs1.upd.rowW r62 kF
    refine ⟨_, rfl, ⟨_, r65.row.cell rfl, rfl⟩, (b_replaceR (h62.mid hs1) c.d).mono ?_⟩
    rintro e w69 ⟨G', rfl, hs2, hR⟩
    refine ⟨_, rfl, by simp, ?_⟩
    have e1 : callA s c = onDisk s c.d fun m => ⟨{ m.d with dead := false, lasts := [], waits := [] }, IntKind.i64.wrap (m.births + 1)⟩ := by unfold callA; rw [if_neg k1, if_neg k3, if_neg k4, if_neg k5, if_neg k6, if_pos k7]
    rw [e1]
    exact fin x62 h62 hs1 hA hs2 hR
  · -- a byte is hurt
    intro w62 hd
    have h62 := h11.ext hd.ext
    have x62 := x11.trans hd.ext
    have r62 : RowW w62 k10 _ := hd.ext.rowW r11 id
    refine ⟨_, r62.row.cell rfl, _, r62.row.cell rfl, _, r62.row.cell rfl, _, r62.row.cell rfl, _, r62.row.cell rfl, _, r62.row.cell rfl, _, r62.row.cell rfl, _, r62.row.cell rfl, (b_corruptA h62.arr c.d c.n c.m c.y hm).mono ?_⟩
    rintro e w65 ⟨F', rfl, hs1, hA⟩
    have r65 : RowW w65 k10 _ := hs1.upd.rowW r62 kF
    refine ⟨_, rfl, ⟨_, r65.row.cell rfl, rfl⟩, ⟨_, r65.row.cell rfl, rfl⟩, ⟨_, r65.row.cell rfl, rfl⟩, ⟨_, r65.row.cell rfl, rfl⟩, (b_corruptR (h62.mid hs1) c.d c.n c.m c.y hm).mono ?_⟩
    rintro e w69 ⟨G', rfl, hs2, hR⟩
    refine ⟨_, rfl, by simp, ?_⟩
    have e1 : callA s c = onDisk s c.d fun m => { m with d := corruptD m.d c.n c.m c.y } := by unfold callA; rw [if_neg k1, if_neg k3, if_neg k4, if_neg k5, if_neg k6, if_neg k7, if_pos k8]
    rw [e1]
    exact fin x62 h62 hs1 hA hs2 hR
  · have e1 : callA s c = s := by unfold callA; rw [if_neg k1, if_neg k3, if_neg k4, if_neg k5, if_neg k6, if_neg k7, if_neg k8]
    rw [e1]
    exact ⟨trivial, F, G, h11, Step.ext x11⟩
end Go.Proofs.Ytbidancfbilbkaa
