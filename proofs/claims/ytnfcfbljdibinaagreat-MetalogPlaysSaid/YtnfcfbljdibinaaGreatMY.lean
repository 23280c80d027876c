import Derived.Test.YtnfcfbljdibinaaGreatMJ
import Derived.Test.YtnfcfbljdibinaaGreatMX
import Derived.Test.YtnfcfbljdibinaaGreatMV
set_option maxHeartbeats 8000000
namespace Go.Proofs.YtnfcfbljdibinaaGreat
open Go Go.Vc
open Go.IntKind (i64)
open Go.Value (int)
open Go.Proofs.Tryz (prog)
theorem Qdd (k m : Int) (w : World) : Calls prog 111 #[int i64 k, int i64 m] w fun e w' => e = .returned (int i64 (if QV k m then 0 else 50)) /\ w' = w := by
 refine (F111_calls k m w (fun v w' => v = int i64 (if QV k m then 0 else 50) /\ w' = w) ?_).mono (by rintro e w' ⟨v, rfl, rfl, h⟩; exact ⟨rfl, h⟩)
 have bad : ¬ QV k m -> (int i64 50 = int i64 (if QV k m then 0 else 50) /\ w = w) := fun h => ⟨by rw [if_neg h], rfl⟩
 refine Q0 (fun h => bad fun hg => ?_) fun h1 => Q0 (fun h => bad fun hg => ?_) fun h2 => Q0 (fun h => bad fun hg => ?_) fun h3 => Q0 (fun h => bad fun hg => ?_) fun h4 => Q0 (fun h => bad fun hg => ?_) fun h5 => ⟨?_, rfl⟩
 ·simp only [Za] at h; unfold QV at hg; omega
 ·simp only [Za] at h; unfold QV at hg; omega
 ·simp only [Za] at h; unfold QV at hg; omega
 ·simp only [Za] at h; unfold QV at hg; omega
 ·simp only [Za] at h; unfold QV at hg; rw [w64 (by omega)] at h; omega
 ·simp only [Zb] at h1 h2 h3 h4 h5
  rw [w64 (by omega)] at h5
  rw [if_pos (by unfold QV; omega)]
theorem QD1 (g : Geo) (w : World) : Calls prog 62 #[gV g] w fun e w' => e = .returned (int i64 (Qo g)) /\ Ext w w' := by
 refine (F62_calls g.k g.m g.size g.stripes g.slots g.objects w (fun v w' => v = int i64 (Qo g) /\ Ext w w') ?_).mono (by rintro e w' ⟨v, rfl, rfl, h⟩; exact ⟨rfl, h⟩)
 intro k7 w8 hk
 have r : RowW w8 k7 _ := ⟨_, hk.at⟩
 have bad : ¬ QS g -> (int i64 50 = int i64 (Qo g) /\ Ext w w8) := fun h => ⟨by rw [Qo, if_neg h], hk.ext⟩
 refine ⟨_, r.row.cell (n := 0) rfl, _, r.c rfl, (Qdd g.k g.m w8).mono ?_⟩
 rintro e w11 ⟨rfl, rfl⟩
 refine ⟨_, rfl, Q0 (fun h => bad fun hg => ?_) fun h1 => ⟨_, r.row.cell (n := 0) rfl, _, r.c rfl, Q0 (fun h => bad fun hg => ?_) fun h2 => ⟨_, r.c rfl, Q0 (fun h => bad fun hg => ?_) fun h3 => ⟨_, r.c rfl, Q0 (fun h => bad fun hg => ?_) fun h4 =>
  ⟨_, r.c rfl, Q0 (fun h => bad fun hg => ?_) fun h5 => ⟨_, r.c rfl, Q0 (fun h => bad fun hg => ?_) fun h6 => ⟨_, r.c rfl, Q0 (fun h => bad fun hg => ?_) fun h7 => ⟨_, r.c rfl, Q0 (fun h => bad fun hg => ?_) fun h8 =>
  ⟨_, r.c rfl, Q0 (fun h => bad fun hg => ?_) fun h9 => ⟨_, r.c rfl, Q0 (fun h => bad fun hg => ?_) fun h10 => ⟨?_, hk.ext⟩⟩⟩⟩⟩⟩⟩⟩⟩⟩⟩
 ·have : QV g.k g.m := by unfold QV; unfold QS at hg; omega
  rw [if_pos this] at h
  simp at h
 ·have : QV g.k g.m := by unfold QV; unfold QS at hg; omega
  unfold QV at this
  simp only [Za] at h
  rw [w64 (by omega)] at h
  unfold QS at hg; omega
 ·simp only [Za] at h; unfold QS at hg; omega
 ·simp only [Za] at h; unfold QS at hg; omega
 ·simp only [Za] at h; unfold QS at hg; omega
 ·simp only [Za] at h; unfold QS at hg; omega
 ·simp only [Za] at h; unfold QS at hg; omega
 ·simp only [Za] at h; unfold QS at hg; omega
 ·simp only [Za] at h; unfold QS at hg; omega
 ·simp only [Za] at h; unfold QS at hg; omega
 ·have hc : QV g.k g.m := by
   by_cases hc : QV g.k g.m
   ·exact hc
   ·rw [if_neg hc] at h1; simp at h1
  unfold QV at hc
  simp only [Zb] at h2 h3 h4 h5 h6 h7 h8 h9 h10
  rw [w64 (by omega)] at h2
  rw [Qo, if_pos (by unfold QS; omega)]
theorem Qz3 (kind : Int) (key : ByteArray) (len : Int) {p : σ} {l c : Nat} {st : List Int} {w : World} (h : Ql w p l st) (hl : l <= 4611686018427387904) :
  Calls prog 63 #[.agg #[int i64 kind, .string key, int i64 len, .slice p l c]] w fun e w' => e = .returned (int i64 (QR0 kind key len st)) /\ Ext w w' := by
 refine (F63_calls kind key len p l c w (fun v w' => v = int i64 (QR0 kind key len st) /\ Ext w w') (fun _ w6 n15 w16 => ∃ i : Nat, n15 = i /\ i <= st.length /\ w16 = w6 /\ Q03 (st.take i)) (fun _ _ n15 _ => st.length - n15.toNat) ?_).mono (by rintro e w' ⟨v, rfl, rfl, h⟩; exact ⟨rfl, h⟩)
 have hlen := h.1
 intro k5 w6 hk
 have r : RowW w6 k5 #[int i64 kind, .string key, int i64 len, .slice p l c] := ⟨_, hk.at⟩
 have h6 := h.ext hk.ext
 have bad : ¬ Qc0 kind key len st -> (int i64 1 = int i64 (QR0 kind key len st) /\ Ext w w6) := fun hb => ⟨by rw [QR0, if_neg hb], hk.ext⟩
 have good : Qc0 kind key len st -> (int i64 0 = int i64 (QR0 kind key len st) /\ Ext w w6) := fun hb => ⟨by rw [QR0, if_pos hb], hk.ext⟩
 have a0 : (kind = 1 \/ kind = 2) -> F63_A0 w6 k5 (fun v w' => v = int i64 (QR0 kind key len st) /\ Ext w w') (fun _ w6 n15 w16 => ∃ i : Nat, n15 = i /\ i <= st.length /\ w16 = w6 /\ Q03 (st.take i)) (fun _ _ n15 _ => st.length - n15.toNat) := by
  intro hkind
  refine ⟨_, r.c rfl, Q0 (fun h1 => bad fun hg => ?_) fun h1 => ⟨_, r.c rfl, Q0 (fun h2 => bad fun hg => ?_) fun h2 => ⟨_, r.c rfl, Q0 (fun h3 => bad fun hg => ?_) fun h3 => ⟨_, r.c rfl, Q0 (fun h4 => bad fun hg => ?_) fun h4 => ⟨_, _, _, r.c rfl, Q0 (fun h5 => bad fun hg => ?_) fun h5 => ⟨⟨0, rfl, Nat.zero_le _, rfl, fun x hx => by simp at hx⟩, ?_⟩⟩⟩⟩⟩⟩
  ·simp only [Za] at h1; have := hg.1.2.1; omega
  ·simp only [Za] at h2; have := hg.1.2.1; omega
  ·simp only [Za] at h3; have := hg.1.2.2.1; omega
  ·simp only [Za] at h4; have := hg.1.2.2.1; omega
  ·simp only [Za] at h5; have := hg.1.2.2.2; omega
  simp only [Zb] at h1 h2 h3 h4 h5
  have hhead : Qa0 kind key len st := ⟨hkind, ⟨by omega, by omega⟩, ⟨by omega, by omega⟩, by omega⟩
  rintro n15 w16 ⟨i, rfl, hi, rfl, hst⟩
  intros
  refine ⟨_, _, _, r.c rfl, Q0 (fun hlt => ?_) (fun hge => ?_)⟩
  ·simp only [Za] at hlt
   obtain ⟨x, hxs⟩ : ∃ x, st[i]? = some x := ⟨st[i]'(by omega), Zc _⟩
   have hsn := Q86 hxs
   obtain ⟨a, rfl, hc⟩ := h6.get (i := i) (by omega)
   have hgx : st.getD i 0 = x := by simp [Zj, hxs]
   rw [hgx] at hc
   have hno : ¬ (0 <= x /\ x < 256) -> ¬ Qc0 kind key len st := fun hn hg => hn (hg.2.1 x (Zs hxs))
   rw [Ze]
   refine ⟨_, _, _, r.c rfl, ⟨by omega, hlt⟩, _, by rw [Nat.mul_one]; exact hc, Q0 (fun hn => bad (hno fun hh => ?_)) fun hn => ⟨_, _, _, r.c rfl, ⟨by omega, hlt⟩, _, by rw [Nat.mul_one]; exact hc, Q0 (fun hn2 => bad (hno fun hh => ?_)) fun hn2 => ?_⟩⟩
   ·simp only [Za] at hn; omega
   ·simp only [Za] at hn2; omega
   ·simp only [Zb] at hn hn2
    rw [w64 (by omega)]
    exact ⟨⟨i + 1, by omega, by omega, rfl, hsn.2 ⟨hst, by omega, by omega⟩⟩, by show st.length - ((i : Int) + 1).toNat < st.length - (i : Int).toNat; omega⟩
  ·simp only [Zb] at hge
   have hall : Q03 st := by rw [Zh (by omega)] at hst; exact hst
   refine ⟨_, r.c rfl, Q0 (fun hk2 => ⟨_, r.c rfl, Q0 (fun hz => bad fun hg => ?_) fun hz => ⟨_, _, _, r.c rfl, Q0 (fun hz2 => bad fun hg => ?_) fun hz2 => good ?_⟩⟩) fun hk2 => good ?_⟩
   ·simp only [Za] at hk2
    simp only [Zg, Zb] at hz
    exact hz (hg.2.2 hk2).1
   ·simp only [Za] at hk2 hz2
    have := (hg.2.2 hk2).2; omega
   ·simp only [Zf, Za] at hz
    simp only [Zb] at hz2
    exact ⟨hhead, hall, fun _ => ⟨hz, by omega⟩⟩
   ·simp only [Zb] at hk2
    exact ⟨hhead, hall, fun h => absurd h hk2⟩
 refine ⟨_, r.c rfl, Q0 (fun h1 => ⟨_, r.c rfl, Q0 (fun h2 => bad fun hg => ?_) fun h2 => a0 ?_⟩) fun h1 => a0 ?_⟩
 ·simp only [Zg, Zb] at h1 h2
  rcases hg.1.1 with h | h
  ·exact h1 h
  ·exact h2 h
 ·simp only [Zf, Za] at h2
  exact .inr h2
 ·simp only [Zf, Za] at h1
  exact .inl h1
theorem Qj5 (g : Geo) (i n : Int) (w : World) : Calls prog 115 #[gV g, int i64 i, int i64 n] w fun e w' => ∃ b, e = .returned (.bool b) /\ (b = true ↔ QS g /\ 0 <= i /\ i < n) /\ Ext w w' := by
 refine (F115_calls g.k g.m g.size g.stripes g.slots g.objects i n w (fun v w' => ∃ b, v = .bool b /\ (b = true ↔ QS g /\ 0 <= i /\ i < n) /\ Ext w w') ?_).mono (by rintro e w' ⟨v, rfl, b, rfl, h⟩; exact ⟨b, rfl, h⟩)
 intro k9 w10 hk
 have r : RowW w10 k9 (Qe1 g) := ⟨_, hk.at⟩
 refine ⟨_, r.row.cell (n := 0) rfl, _, r.c rfl, _, r.c rfl, _, r.c rfl, _, r.c rfl, _, r.c rfl, (QD1 g w10).mono ?_⟩
 rintro e w17 ⟨rfl, x17⟩
 have y := hk.ext.trans x17
 refine ⟨_, rfl, Q0 (fun h => Q0 (fun h0 => ⟨_, rfl, ?_, y⟩) fun h0 => ⟨false, rfl, ?_, y⟩) fun h => ⟨false, rfl, ?_, y⟩⟩
 ·simp only [Za] at h h0 ⊢
  have hg : QS g := by
   by_cases hg : QS g
   ·exact hg
   ·unfold Qo at h; rw [if_neg hg] at h; cases h
  exact ⟨fun hh => ⟨hg, h0, hh⟩, fun hh => hh.2.2⟩
 ·simp only [Zb] at h0
  exact ⟨fun h => (by cases h), fun hh => absurd hh.2.1 h0⟩
 ·simp only [Zb] at h
  exact ⟨fun h => (by cases h), fun hh => absurd (show Qo g = 0 by unfold Qo; rw [if_pos hh.1]) h⟩
theorem Qe6 (g : Geo) (i : Int) (w : World) : Calls prog 66 #[gV g, int i64 i] w fun e w' => e = .returned (int i64 (Q70 g i)) /\ Ext w w' := by
 refine (F66_calls g.k g.m g.size g.stripes g.slots g.objects i w (fun v w' => v = int i64 (Q70 g i) /\ Ext w w') ?_).mono (by rintro e w' ⟨v, rfl, rfl, h⟩; exact ⟨rfl, h⟩)
 intro k8 w9 hk
 have r : RowW w9 k8 (Qe1 g) := ⟨_, hk.at⟩
 refine ⟨_, r.row.cell (n := 0) rfl, _, r.c rfl, _, r.c rfl, _, r.c rfl, _, r.c rfl, _, r.c rfl, _, r.c rfl, (Qj5 g i g.slots w9).mono ?_⟩
 rintro e w17 ⟨b, rfl, hb, x17⟩
 have y := hk.ext.trans x17
 refine ⟨_, rfl, Q0 (fun h => ⟨?_, y⟩) fun h => ⟨?_, y⟩⟩
 ·simp only [Zg] at h
  unfold Q70
  rw [if_neg (fun hh => by rw [hb.2 hh] at h; cases h)]
 ·simp only [Zf] at h
  have hh := hb.1 h
  unfold Q70
  rw [if_pos hh]
  have := hh.1.2.2.2.1
  rw [w64 (by omega)]
theorem Q66 (g : Geo) (a i : Int) (w : World) : Calls prog 71 #[gV g, int i64 a, int i64 i] w fun e w' => e = .returned (int i64 (Ql0 g a i)) /\ Ext w w' := by
 refine (F71_calls g.k g.m g.size g.stripes g.slots g.objects a i w (fun v w' => v = int i64 (Ql0 g a i) /\ Ext w w') ?_).mono (by rintro e w' ⟨v, rfl, rfl, h⟩; exact ⟨rfl, h⟩)
 intro k9 w10 hk
 have r : RowW w10 k9 (Qe1 g) := ⟨_, hk.at⟩
 refine ⟨_, r.row.cell (n := 0) rfl, _, r.c rfl, _, r.c rfl, _, r.c rfl, _, r.c rfl, _, r.c rfl, (Qj5 g a 2 w10).mono ?_⟩
 rintro e w17 ⟨b, rfl, hb, x17⟩
 have q : RowW w17 k9 (Qe1 g) := x17.rowW r id
 refine ⟨_, rfl, _, q.row.cell (n := 0) rfl, _, q.c rfl, _, q.c rfl, _, q.c rfl, _, q.c rfl, _, q.c rfl, (Qj5 g i 2 w17).mono ?_⟩
 rintro e w26 ⟨b', rfl, hb', x26⟩
 have y := (hk.ext.trans x17).trans x26
 refine ⟨_, rfl, Q0 (fun h => ⟨?_, y⟩) fun h => Q0 (fun h' => ⟨?_, y⟩) fun h' => ⟨?_, y⟩⟩
 ·simp only [Zg] at h
  unfold Ql0
  rw [if_neg (fun hh => by rw [hb.2 ⟨hh.1, hh.2.1⟩] at h; cases h)]
 ·simp only [Zg] at h'
  unfold Ql0
  rw [if_neg (fun hh => by rw [hb'.2 ⟨hh.1, hh.2.2⟩] at h'; cases h')]
 ·simp only [Zf] at h h'
  have h1 := hb.1 h
  have h2 := hb'.1 h'
  unfold Ql0
  rw [if_pos ⟨h1.1, h1.2, h2.2⟩]
  rw [w64 (n := a * 2) (by omega), w64 (n := 1 + a * 2) (by omega), w64 (by omega)]
  congr 1
  omega
open Go Go.Vc
open Go.IntKind (i64)
open Go.Value (int)
open Go.Proofs.Tryz (prog)
theorem Qvf {n : Int} (h : 0 <= n /\ n < 4294967296) : IntKind.u32.wrap n = n := by rw [IntKind.wrap_u32']; omega
theorem Qwb (x : Int) : Qg0 x = nb x 4 := by
 simp [Qg0, nb]
theorem QBc (key : ByteArray) : QF key.data.toList = key := by
 obtain ⟨a⟩ := key
 simp [QF]
theorem Qk5 {n : Int} (h : 0 <= n /\ n <= 4611686018427387904) (w : World) : Calls prog 113 #[int i64 n] w fun e w' => ∃ k, e = .returned (.slice (some (at0 k)) 2 2) /\ Ext w w' /\ Qc w' w.heap.size 5 1 (some (at0 k)) 2 2 (QB (nb n 2)) := by
 refine (F113_calls n w (fun v w' => ∃ k, v = .slice (some (at0 k)) 2 2 /\ Ext w w' /\ Qc w' w.heap.size 5 1 (some (at0 k)) 2 2 (QB (nb n 2))) ?_).mono (by rintro e w' ⟨v, rfl, k, rfl, h⟩; exact ⟨k, rfl, h⟩)
 refine ⟨by omega, by omega, fun k w3 hk => ⟨k, rfl, hk.ext, QK6 ?_ rfl (by omega)⟩⟩
 have e1 : n.tdiv 256 = n / 256 := Int.tdiv_eq_ediv_of_nonneg h.1
 have e2 : n.tmod 256 = n % 256 := Int.tmod_eq_emod_of_nonneg h.1
 rw [e1, e2, w64 (by omega), QNa (by omega), QNa (by omega)] at hk
 have a1 : (n / 256).toNat = n.toNat / 256 ^ 1 := by omega
 have a2 : UInt8.ofNat (n % 256).toNat = UInt8.ofNat (n.toNat / 256 ^ 0) := by
  apply UInt8.toNat_inj.1
  simp
  omega
 rw [a1, a2] at hk
 exact hk
theorem Qxf (w : World) (key : ByteArray) : ∃ c w', Sem.run prog (convert 9 42 (.string key)) w = .ok (.slice (some (at0 w.heap.size)) key.size c) w' /\ Ext w w' /\ Q3 w' (some (at0 w.heap.size)) key.size key.data.toList := by
 obtain ⟨c, w', hr, hx, hb, _⟩ := Qhe w key.data.toList
 rw [QBc, QS3] at hr
 rw [QS3] at hb
 exact ⟨c, w', hr, hx, hb⟩
theorem Qp4 {kind : Int} {key : ByteArray} {len : Int} {p : σ} {l c : Nat} {st : List Int} {w : World} (h : Ql w p l st) (hl : l <= 4611686018427387904) :
  Calls prog 64 #[.agg #[int i64 kind, .string key, int i64 len, .slice p l c]] w fun e w' => Ext w w' /\ (¬ Qc0 kind key len st -> e = .returned (.tuple #[.slice none 0 0, int i64 1])) ∧
   (Qc0 kind key len st -> ∃ p' l' c', e = .returned (.tuple #[.slice p' l' c', int i64 0]) /\ Qc w' w.heap.size 5 1 p' l' c' (QB (Qg2 kind key len st))) := by
 refine (F64_calls kind key len p l c w (fun v w' => Ext w w' /\ (¬ Qc0 kind key len st -> v = .tuple #[.slice none 0 0, int i64 1]) ∧
   (Qc0 kind key len st -> ∃ p' l' c', v = .tuple #[.slice p' l' c', int i64 0] /\ Qc w' w.heap.size 5 1 p' l' c' (QB (Qg2 kind key len st))))
  (fun q5 _ p36 l36 c36 n37 w38 => ∃ (i k5 : Nat) (w6 : World), q5 = some (at0 k5) /\ n37 = i /\ i <= l /\ RowW w6 k5 #[int i64 kind, .string key, int i64 len, .slice p l c] /\ Ext w w6 /\ Ext w6 w38 /\ Qc w38 w6.heap.size 5 1 p36 l36 c36 (QB (Qbc kind key len st ++ (st.take i).flatMap (nb · 2))) /\ l36 = 8 + key.size + 2 * i /\ Qc0 kind key len st)
  (fun _ _ _ _ _ n37 _ => 1000 - n37.toNat) ?_).mono (by
   rintro e w' ⟨v, rfl, hx, h1, h2⟩
   refine ⟨hx, fun hn => by rw [h1 hn], fun hk => ?_⟩
   obtain ⟨p', l', c', rfl, h⟩ := h2 hk
   exact ⟨p', l', c', rfl, h⟩)
 have hlen := h.1
 intro k5 w6 hk5
 have r5 : RowW w6 k5 #[int i64 kind, .string key, int i64 len, .slice p l c] := ⟨_, hk5.at⟩
 refine ⟨_, r5.row.cell (n := 0) rfl, _, r5.c rfl, _, r5.c rfl, _, _, _, r5.c rfl, (Qz3 kind key len (h.ext hk5.ext) hl).mono ?_⟩
 rintro e w11 ⟨rfl, x11⟩
 have q5 : RowW w11 k5 _ := x11.rowW r5 id
 refine ⟨_, rfl, Q0 (fun hz => ?_) fun hz => ?_⟩
 ·simp only [Zg, Zb] at hz
  have hn : ¬ Qc0 kind key len st := fun hk => hz (by unfold QR0; rw [if_pos hk])
  refine ⟨hk5.ext.trans x11, fun _ => ?_, fun hk => absurd hk hn⟩
  unfold QR0; rw [if_neg hn]
 simp only [Zf, Za] at hz
 have hk : Qc0 kind key len st := by
  by_cases hk : Qc0 kind key len st
  ·exact hk
  ·unfold QR0 at hz; rw [if_neg hk] at hz; cases hz
 obtain ⟨⟨hkd, ⟨hk1, hk2⟩, ⟨hl1, hl2⟩, hst⟩, hs, _⟩ := hk
 have hk : Qc0 kind key len st := ⟨⟨hkd, ⟨hk1, hk2⟩, ⟨hl1, hl2⟩, hst⟩, hs, by assumption⟩
 refine ⟨_, q5.c rfl, _, q5.c rfl, fun k16 w17 hk16 => ?_⟩
 rw [QNa (x := kind) (by omega), QNa (x := ((key.size : Nat) : Int)) (by omega), Ze] at hk16
 have x17 := x11.trans hk16.ext
 have own16 : Qc w17 w6.heap.size 5 1 (some (at0 k16)) 2 2 (QB [UInt8.ofNat kind.toNat, UInt8.ofNat key.size]) := (QK6 (bs := [UInt8.ofNat kind.toNat, UInt8.ofNat key.size]) (n := 2) hk16 rfl (by omega)).base_le x11.size
 have r17 : RowW w17 k5 _ := x17.rowW r5 id
 obtain ⟨c20, w19, hr20, x19, hb20⟩ := Qxf w17 key
 refine ⟨_, r17.c rfl, _, _, c20, w19, hr20, ?_⟩
 obtain ⟨p22, l22, c22, w21, hr22, own22, hl22, x21, _⟩ := QY0 (x17.trans x19) (own16.ext x19) hb20 (by omega)
 have r21 : RowW w21 k5 _ := x21.rowW r5 id
 refine ⟨p22, l22, c22, w21, hr22, _, r21.c rfl, ?_⟩
 dsimp only
 rw [Qvf ⟨hl1, by omega⟩]
 refine (Q62 len hl1 w21).mono ?_
 rintro e w24 ⟨k26, rfl, x24, own26⟩
 refine ⟨_, _, _, rfl, ?_⟩
 obtain ⟨p28, l28, c28, w27, hr28, own28, hl28, x27, _⟩ := QY0 (x21.trans x24) (own22.ext x24) (QJ own26) (by omega)
 have r27 : RowW w27 k5 _ := x27.rowW r5 id
 refine ⟨p28, l28, c28, w27, hr28, _, _, _, r27.c rfl, ?_⟩
 refine (Qk5 (n := (l : Int)) ⟨by omega, by omega⟩ w27).mono ?_
 rintro e w30 ⟨k32, rfl, x30, own32⟩
 refine ⟨_, _, _, rfl, ?_⟩
 obtain ⟨p34, l34, c34, w33, hr34, own34, hl34, x33, _⟩ := QY0 (x27.trans x30) (own28.ext x30) (QJ own32) (by omega)
 have e34 : ([UInt8.ofNat kind.toNat, UInt8.ofNat key.size] ++ key.data.toList) ++ Qg0 len ++ nb (l : Int) 2 = Qbc kind key len st ++ (st.take 0).flatMap (nb · 2) := by
  rw [Qwb, hlen]
  simp [Qbc]
 rw [e34] at own34
 refine ⟨p34, l34, c34, w33, hr34, ⟨0, k5, w6, rfl, rfl, Nat.zero_le _, r5, hk5.ext, x33, own34, by omega, hk⟩, ?_⟩
 rintro p36 l36 c36 n37 w38 ⟨i, k5', w6', hq, rfl, hi, r6, xw6, x38, own36, hl36, _⟩
 cases hq
 intros
 have r38 : RowW w38 k5 _ := x38.rowW r6 id
 have yw := xw6.trans x38
 refine ⟨_, _, _, r38.c rfl, Q0 (fun hlt => ?_) fun hge => ?_⟩
 ·simp only [Za] at hlt
  obtain ⟨x, hx⟩ : ∃ x, st[i]? = some x := ⟨st[i]'(by omega), Zc _⟩
  obtain ⟨a, rfl, ca⟩ := (h.ext yw).2 i (int i64 x) (by rw [Zq, hx]; rfl)
  have hsx := hs x (Zs hx)
  refine ⟨_, _, _, r38.c rfl, ⟨by omega, hlt⟩, x, by rw [Ze, Nat.mul_one]; exact ca, (Qk5 (n := x) ⟨by omega, by omega⟩ w38).mono ?_⟩
  rintro e w58 ⟨k60, rfl, x58, own60⟩
  refine ⟨_, _, _, rfl, ?_⟩
  obtain ⟨p62, l62, c62, w61, hr62, own62, hl62, x61, _⟩ := QY0 (x38.trans x58) (own36.ext x58) (QJ own60) (by omega)
  rw [w64 (by omega)]
  refine ⟨p62, l62, c62, w61, hr62, ⟨i + 1, k5, w6', rfl, by omega, by omega, r6, xw6, x61, ?_, by omega, hk⟩, by show 1000 - ((i : Int) + 1).toNat < 1000 - (i : Int).toNat; omega⟩
  have : Qbc kind key len st ++ (st.take (i + 1)).flatMap (nb · 2) = (Qbc kind key len st ++ (st.take i).flatMap (nb · 2)) ++ nb x 2 := by
   rw [Zn, hx]
   simp
  rw [this]
  exact own62
 ·simp only [Zb] at hge
  rw [Zh (by omega)] at own36
  exact ⟨yw, fun hn => absurd hk hn, fun _ => ⟨_, _, _, rfl, own36.base_le xw6.size⟩⟩
open Go Go.Vc
open Go.IntKind (i64)
open Go.Value (int)
open Go.Proofs.Tryz (prog)
theorem QO3 {α : Type} (bs : List α) {k m : Nat} (h : k <= m) (hm : m <= bs.length) : (bs.take m).drop k ++ bs.drop m = bs.drop k := by
 conv => rhs; rw [← List.take_append_drop m bs]
 rw [List.drop_append_of_le_length (by rw [List.length_take]; omega)]
theorem Q76 {bs : τ} (h : bs.length < 2 \/ bs.length < 8 + (bs.getD 1 0).toNat) : QJ4 bs = none := by
 match bs, h with
 | [], _ => rfl
 | [a], _ => rfl
 | a :: b :: t, h =>
  have h' : t.length < 6 + b.toNat := by
   rcases h with h | h
   ·simp only [List.length_cons] at h; omega
   ·simp only [List.length_cons, List.getD_cons_succ, List.getD_cons_zero] at h
    omega
  have d1 : (a :: b :: t).drop 1 = b :: t := rfl
  have d2 : (b :: t).drop 1 = t := rfl
  have t2 : (b :: t).take 1 = [b] := rfl
  unfold QJ4
  rw [d1, d2, t2, QJ6]
  rw [if_neg (by simp), if_neg (by simp)]
  by_cases h1 : t.length < b.toNat
  ·rw [if_pos h1]
  ·rw [if_neg h1]
   by_cases h2 : (t.drop b.toNat).length < 4
   ·rw [if_pos h2]
   ·rw [if_neg h2, if_pos (by simp only [List.length_drop] at h2 ⊢; omega)]
theorem Q3d {bs : τ} {n : Nat} (hn : n = (bs.getD 1 0).toNat) (hl : 8 + n <= bs.length) :
  QJ4 bs = Q9c ((bs.getD 0 0).toNat : Nat) ((bs.take (2 + n)).drop 2) (nvL ((bs.take (6 + n)).drop (2 + n))) (stD (nvL ((bs.take (8 + n)).drop (6 + n))) (bs.drop (8 + n))) := by
 match bs, hl with
 | [], h => simp at h
 | [_], h => simp at h; omega
 | a :: b :: t, h =>
  have e1 := QO3 (a :: b :: t) (k := 6 + n) (m := 8 + n) (by omega) h
  have e2 := QO3 (a :: b :: t) (k := 2 + n) (m := 6 + n) (by omega) (by omega)
  have e3 := QO3 (a :: b :: t) (k := 2) (m := 2 + n) (by omega) (by omega)
  rw [← e2, ← e1] at e3
  have e4 : (a :: b :: t).drop 2 = t := rfl
  have hb : b.toNat = n := by rw [hn]; rfl
  rw [e4] at e3
  have key := Qqd (a := a) (b := b) (K := ((a :: b :: t).take (2 + n)).drop 2) (L4 := ((a :: b :: t).take (6 + n)).drop (2 + n)) (C2 := ((a :: b :: t).take (8 + n)).drop (6 + n)) (R := (a :: b :: t).drop (8 + n))
   (by rw [List.length_drop, List.length_take]; omega) (by rw [List.length_drop, List.length_take]; omega) (by rw [List.length_drop, List.length_take]; omega)
  rw [e3] at key
  rw [key, QJ6]
  rfl
theorem Qrc {bs : τ} {k : Nat} (h : k + 2 <= bs.length) : nvL ((bs.take (k + 2)).drop k) = 256 * (bs.getD k 0).toNat + (bs.getD (k + 1) 0).toNat := by
 have e : (bs.take (k + 2)).drop k = [bs.getD k 0, bs.getD (k + 1) 0] := by
  apply List.ext_getElem?
  intro i
  rw [List.getElem?_drop]
  match i with
  | 0 => rw [List.getElem?_take_of_lt (by omega)]; simp [Zj, Zc (show k < bs.length by omega)]
  | 1 => rw [List.getElem?_take_of_lt (by omega)]; simp [Zj, Zc (show k + 1 < bs.length by omega)]
  | i + 2 => rw [Zr (by rw [List.length_take]; omega), Zr (by simp)]
 rw [e, QC9, QJ6]
 simp only [List.length_singleton, Nat.pow_one]
 omega
theorem QLd {L : τ} (h : L.length = 4) : Qt7 L = ((nvL L : Nat) : Int) := by
 match L, h with
 | [x0, x1, x2, x3], _ =>
  have b0 := u8b x0; have b1 := u8b x1; have b2 := u8b x2; have b3 := u8b x3
  rw [QZf]
  have hn : nvL [] = 0 := rfl
  simp only [QC9, List.length_cons, List.length_nil, hn]
  omega
def QV7 (R : τ) (cnt : Nat) : List Int := (List.range cnt).map fun i => ((256 * (R.getD (2 * i) 0).toNat + (R.getD (2 * i + 1) 0).toNat : Nat) : Int)
theorem Qud (R : τ) (cnt : Nat) : (QV7 R cnt).length = cnt := by simp [QV7]
theorem Qpc (R : τ) (i : Nat) : QV7 R (i + 1) = QV7 R i ++ [((256 * (R.getD (2 * i) 0).toNat + (R.getD (2 * i + 1) 0).toNat : Nat) : Int)] := by simp [QV7, List.range_succ]
theorem QUd : ∀ (cnt : Nat) (R : τ), 2 * cnt <= R.length -> stD cnt R = some (QV7 R cnt, R.drop (2 * cnt))
 | 0, R, _ => by simp [stD, QV7]
 | k + 1, R, h => by
  have ih := QUd k (R.drop 2) (by rw [List.length_drop]; omega)
  rw [stD, if_neg (by omega), ih]
  simp only [Option.map_some, Zi, Prod.mk.injEq]
  refine ⟨?_, by rw [List.drop_drop]; congr 1; omega⟩
  have h2 := Qrc (bs := R) (k := 0) (by omega)
  rw [List.drop_zero, Nat.zero_add] at h2
  rw [h2]
  unfold QV7
  rw [List.range_succ_eq_map, List.map_cons, List.map_map]
  congr 1
  apply List.map_congr_left
  intro i _
  simp only [Function.comp, Zj, List.getElem?_drop]
  have a1 : 2 + 2 * i = 2 * i.succ := by omega
  have a2 : 2 + (2 * i + 1) = 2 * i.succ + 1 := by omega
  rw [a1, a2]
theorem QO9 : ∀ (cnt : Nat) (R : τ), R.length < 2 * cnt -> stD cnt R = none
 | 0, R, h => by omega
 | k + 1, R, h => by
  rw [stD]
  split
  ·rfl
  ·rw [QO9 k (R.drop 2) (by rw [List.length_drop]; omega)]; rfl
theorem Qac {kind : Int} {K : τ} {len : Int} (h : 2147483647 < len) (x : Option (List Int × τ)) : Q9c kind K len x = none := by
 cases x with
 | none => rfl
 | some x =>
  unfold Q9c
  dsimp only
  rw [if_neg]
  intro hk
  have : Qc0 kind (QF K) len x.1 := hk
  have := this.1.2.2.1.2
  omega
open Go Go.Vc
open Go.IntKind (i64)
open Go.Value (int)
open Go.Proofs.Tryz (prog)
def rnR (w : World) (bs : τ) (p1 : σ) : φ := fun v w' => Ext w w' ∧
 (QJ4 bs = none -> ∃ (kind : Int) (key : ByteArray) (len : Int) (p : σ) (l c : Nat) (p' : σ) (l' c' : Nat), v = .tuple #[.agg #[int i64 kind, .string key, int i64 len, .slice p l c], .slice p' l' c', .bool false]) ∧
 (∀ x rest, QJ4 bs = some (x, rest) -> ∃ (p9 : σ) (c9 : Nat) (p10 : σ) (c10 : Nat), v = .tuple #[.agg #[int i64 x.kind, .string (QF x.key), int i64 x.len, .slice p9 x.st.length c9], .slice p10 rest.length c10, .bool true] ∧
  Qc w' w.heap.size 3 1 p9 x.st.length c9 (Qu2 x.st) /\ Q3 w' p10 rest.length rest /\ rest.length <= c10 /\ (∀ w'', Q3 w'' p1 bs.length bs -> Q3 w'' p10 rest.length rest) /\ rest.length <= bs.length)
theorem Qib {p : σ} {c a : Nat} {g : Addr} (h : Qu p c a 1 = some g) : ∃ g0, p = some g0 /\ g.block = g0.block := by
 unfold Qu at h
 split at h
 ·exact ⟨g, h, rfl⟩
 ·cases p with
  | none => cases h
  | some a0 =>
   have : a0.add (a * 1) = g := Option.some.inj h
   exact ⟨a0, rfl, by rw [← this, Qr]⟩
theorem Qb6 {w : World} {p1 : σ} {l1 c1 : Nat} {bs : τ} (hb : Q3 w p1 l1 bs) (hc : l1 <= c1) (hm : l1 <= 1000000) :
  Calls prog 118 #[.slice p1 l1 c1] w fun e w' => ∃ v, e = .returned v /\ rnR w bs p1 v w' := by
 have hl := hb.1
 generalize hn : (bs.getD 1 0).toNat = n
 have hn255 : n < 256 := by rw [← hn]; exact u8b _
 generalize hR : bs.drop (8 + n) = R
 generalize hx : (bs.getD (6 + n) 0).toNat = x
 generalize hy : (bs.getD (7 + n) 0).toNat = y
 have hx255 : x < 256 := by rw [← hx]; exact u8b _
 have hy255 : y < 256 := by rw [← hy]; exact u8b _
 refine F118_calls p1 l1 c1 w (rnR w bs p1)
  (fun q2 q28 _ _ _ _ w60 n67 w68 => ∃ (i k2 k28 : Nat) (p95 : σ) (c95 : Nat), q2 = some (at0 k2) /\ q28 = some (at0 k28) /\ n67 = i /\ i <= 256 * x + y /\ k2 < k28 /\ k28 < w60.heap.size /\ w.heap.size <= k2 /\ Upd (fun z => z = k28) w60 w68 ∧
   QD 38 w68 k2 #[int i64 0, .string ⟨#[]⟩, int i64 0, .slice none 0 0] /\ QD 38 w68 k28 #[int i64 ((bs.getD 0 0).toNat : Nat), .string (QF ((bs.take (2 + n)).drop 2)), int i64 (nvL ((bs.take (6 + n)).drop (2 + n)) : Nat), .slice p95 i c95] ∧
   Qc w68 w60.heap.size 3 1 p95 i c95 (Qu2 (QV7 R i))) (fun _ _ _ _ _ _ _ n67 _ => 70000 - n67.toNat) ?_
 intro k2 w3 hk2
 have s2 := hk2.size
 have r2 : QD 38 w3 k2 #[int i64 0, .string ⟨#[]⟩, int i64 0, .slice none 0 0] := hk2.at
 have a0 : ∀ {w' : World} {I0 : σ -> σ -> Int -> σ -> Nat -> Nat -> World -> Int -> ψ} {M0 : σ -> σ -> Int -> σ -> Nat -> Nat -> World -> Int -> World -> Nat}, Ext w w' -> QD 38 w' k2 #[int i64 0, .string ⟨#[]⟩, int i64 0, .slice none 0 0] -> QJ4 bs = none -> F118_A0 w' k2 (rnR w bs p1) I0 M0 := by
  intro w' I0 M0 hx hr hnone
  refine QO1 (e := 38) (v0 := int i64 0) (v1 := .string ⟨#[]⟩) (v2 := int i64 0) (v3 := .slice none 0 0) hr fun w4 u4 r4 => ?_
  exact ⟨_, r4.row.row.cell (n := 0) rfl, _, r4.row.c rfl, _, r4.row.c rfl, _, _, _, r4.row.c rfl, Q7 hx u4 (by omega), fun _ => ⟨_, _, _, _, _, _, _, _, _, rfl⟩, fun x rest h => by rw [hnone] at h; cases h⟩
 refine Q0 (fun h2 => a0 hk2.ext r2 (Q76 (.inl (by simp only [Za] at h2; omega)))) fun h2 => ?_
 simp only [Zb] at h2
 have hb3 := hb.ext hk2.ext
 obtain ⟨a, rfl, c1'⟩ := hb3.get (i := 1) (by omega)
 obtain ⟨_, e0, c0'⟩ := hb3.get (i := 0) (by omega)
 cases e0
 rw [hn] at c1'
 refine ⟨⟨by omega, by omega⟩, (n : Int), c1', ?_⟩
 try dsimp only
 rw [w64 (n := (n : Int)) (by omega), w64 (n := 2 + (n : Int)) (by omega), w64 (n := 2 + (n : Int) + 6) (by omega)]
 refine Q0 (fun h8 => a0 hk2.ext r2 (Q76 (.inr (by simp only [Za] at h8; omega)))) fun h8 => ?_
 simp only [Zb] at h8
 have hcut := Q3d (bs := bs) hn.symm (by omega)
 rw [hR] at hcut
 refine ⟨⟨by omega, by omega⟩, (n : Int), c1', fun w24 d24 => ?_⟩
 have x24 := hk2.ext.trans d24.ext
 have hb24 := hb.ext x24
 try dsimp only
 rw [w64 (n := (n : Int)) (by omega), w64 (n := 2 + (n : Int)) (by omega), w64 (n := 6 + (n : Int)) (by omega), w64 (n := 7 + (n : Int)) (by omega), w64 (n := 8 + (n : Int)) (by omega)]
 have t2 : (2 + (n : Int)).toNat = 2 + n := by omega
 have t6 : (6 + (n : Int)).toNat = 6 + n := by omega
 have t7 : (7 + (n : Int)).toNat = 7 + n := by omega
 have t8 : (8 + (n : Int)).toNat = 8 + n := by omega
 rw [t2, t6, t7, t8]
 have hK := Q94 hb24 (c := c1) (a := 2) (b := 2 + n) (by omega) (by omega) hc
 refine ⟨⟨by omega, by omega⟩, _, d24.ext.cell c0' id, ⟨by omega, by omega⟩, ⟨by omega, by omega⟩, _, QG5 hK, fun k28 w29 hk28 => ⟨⟨_, hk28.ext.cell (d24.ext.cell c0' id) id, rfl⟩, ⟨_, QG5 (hK.ext hk28.ext), rfl⟩, ?_⟩⟩
 have s28 := hk28.size
 have s24 := d24.ext.size
 try dsimp only
 rw [w64 (n := ((bs.getD 0 0).toNat : Int)) (by have := u8b (bs.getD 0 0); omega)]
 refine QO1 (e := 38) (v0 := int i64 ((bs.getD 0 0).toNat : Nat)) (v1 := .string (QF ((bs.take (2 + n)).drop 2))) (v2 := int i64 0) (v3 := .slice none 0 0) hk28.at fun w35 u35 r35 => ?_
 have x35 : Ext w w35 := Q7 (x24.trans hk28.ext) u35 (by omega)
 have q2 : QD 38 w35 k2 _ := ((r2.upd d24.ext id).upd hk28.ext id).upd u35 (by show ¬ k2 = k28; omega)
 have hL4 := Q94 (hb.ext x35) (c := c1) (a := 2 + n) (b := 6 + n) (by omega) (by omega) hc
 refine ⟨⟨by omega, by omega⟩, ⟨by omega, by omega⟩, (QD2 hL4 (by omega)).mono ?_⟩
 rintro e w36 ⟨rfl, x36⟩
 have l4 : ((bs.take (6 + n)).drop (2 + n)).length = 4 := by rw [List.length_drop, List.length_take]; omega
 have t4 : ((bs.take (6 + n)).drop (2 + n)).take 4 = (bs.take (6 + n)).drop (2 + n) := Zh (by omega)
 try dsimp only
 rw [t4, QLd l4]
 have hnv := Qu7 ((bs.take (6 + n)).drop (2 + n))
 rw [l4] at hnv
 have hnv2 : nvL ((bs.take (6 + n)).drop (2 + n)) < 4294967296 := hnv
 generalize hLen : nvL ((bs.take (6 + n)).drop (2 + n)) = len at *
 refine ⟨_, rfl, fun w39 d39 => ?_⟩
 have x3539 := x36.trans d39.ext
 have x39 := x35.trans x3539
 have hb39 := hb.ext x39
 obtain ⟨_, e6, c6⟩ := hb39.get (i := 6 + n) (by omega)
 cases e6
 obtain ⟨_, e7, c7⟩ := hb39.get (i := 7 + n) (by omega)
 cases e7
 rw [hx] at c6
 rw [hy] at c7
 refine ⟨⟨by omega, by omega⟩, (x : Int), by rw [Nat.mul_one]; exact c6, ⟨by omega, by omega⟩, (y : Int), by rw [Nat.mul_one]; exact c7, ⟨by omega, by omega⟩, ?_⟩
 try dsimp only
 rw [w64 (n := (x : Int)) (by omega), w64 (n := (y : Int)) (by omega), w64 (n := 256 * (x : Int)) (by omega), w64 (n := 256 * (x : Int) + (y : Int)) (by omega), w64 (n := 2 * (256 * (x : Int) + (y : Int))) (by omega), w64 (n := (len : Int)) (by omega)]
 have hC2 := Qrc (bs := bs) (k := 6 + n) (by omega)
 rw [show 6 + n + 2 = 8 + n by omega, show 6 + n + 1 = 7 + n by omega, hx, hy] at hC2
 rw [hC2] at hcut
 have hRl : R.length = l1 - (8 + n) := by rw [← hR, List.length_drop]; omega
 have q2' : QD 38 w39 k2 _ := q2.upd x3539 id
 refine Q0 (fun hbig => a0 x39 q2' (by rw [hcut]; exact Qac (by simpa using hbig) _)) fun hbig => Q0 (fun hfew => a0 x39 q2' ?_) fun hfew => ?_
 ·simp only [Za] at hfew
  rw [hcut, QO9 _ _ (by omega)]
  rfl
 simp only [Zb] at hbig hfew
 have r39 : QD 38 w39 k28 _ := r35.upd x3539 id
 refine ⟨r39.row.live (by simp), fun w60 s60 => ?_⟩
 have r60 := r39.set s60
 have u60 := Qw0 s60
 have x60 : Ext w w60 := Q7 x39 u60 (by omega)
 have q60 : QD 38 w60 k2 _ := q2'.upd u60 (by show ¬ k2 = k28; omega)
 refine ⟨⟨0, k2, k28, none, 0, rfl, rfl, rfl, by omega, by omega, r60.row.lt, by omega, Upd.refl _ _, q60, r60, Qc.nil _ _ _ _⟩, ?_⟩
 rintro n67 w68 ⟨i, k2', k28', p95, c95, hq2, hq28, rfl, hi, _, hk28lt, _, u68, q68, r68, own68⟩
 cases hq2; cases hq28
 intros
 have x68 : Ext w w68 := Q7 x60 u68 (by omega)
 refine Q0 (fun hlt => ?_) fun hge => ?_
 ·simp only [Za] at hlt
  intro w94 d94
  have x94 := x68.trans d94.ext
  have r94 : QD 38 w94 k28 _ := r68.upd d94.ext id
  have hRb := Q94 (hb.ext x94) (c := c1) (a := 8 + n) (b := l1) (Nat.le_refl _) (by omega) hc
  rw [show bs.take l1 = bs by rw [hl]; exact List.take_length, hR] at hRb
  obtain ⟨g, hg, cA⟩ := hRb.get (i := 2 * i) (by omega)
  obtain ⟨_, hg', cB⟩ := hRb.get (i := 2 * i + 1) (by omega)
  rw [hg] at hg'
  cases hg'
  try dsimp only
  rw [w64 (n := 2 * (i : Int)) (by omega), w64 (n := 2 * (i : Int) + 1) (by omega), hg]
  have t1 : (2 * (i : Int)).toNat = 2 * i := by omega
  have t1' : (2 * (i : Int) + 1).toNat = 2 * i + 1 := by omega
  rw [t1, t1']
  have hA := u8b (R.getD (2 * i) 0)
  have hB := u8b (R.getD (2 * i + 1) 0)
  refine ⟨_, _, _, r94.row.c rfl, ⟨by omega, by omega⟩, _, by rw [Nat.mul_one]; exact cA, ⟨by omega, by omega⟩, _, by rw [Nat.mul_one]; exact cB, fun k100 w101 hk100 => ?_⟩
  have r101 : QD 38 w101 k28 _ := r94.upd hk100.ext id
  have z94 := d94.ext.size
  have s100 := hk100.size
  have x6001 : Upd (fun z => z = k28) w60 w101 := u68.trans (d94.ext.trans hk100.ext).upd fun _ _ h => h
  have cc : Q8 w101 (some (at0 k100)) (Qu2 [((256 * (R.getD (2 * i) 0).toNat + (R.getD (2 * i + 1) 0).toNat : Nat) : Int)]) := fun j u hj => ⟨_, rfl, Row.cell ⟨_, _, hk100.at⟩ (by
   rw [w64 (n := ((R.getD (2 * i) 0).toNat : Int)) (by omega), w64 (n := ((R.getD (2 * i + 1) 0).toNat : Int)) (by omega), w64 (n := 256 * ((R.getD (2 * i) 0).toNat : Int)) (by omega), w64 (by omega)]
   simpa [Qu2] using hj)⟩
  have own101 := (own68.ext d94.ext).ext hk100.ext
  obtain ⟨p104, c104, w103, hr, own103, hu103, _⟩ := own101.append Q6f 35 (q := some (at0 k100)) (m := 1) (d := 1) rfl cc (fun h => by cases h) (Qm9 _) (by unfold maxLen; omega) (by omega) x6001.size
  have own_ge60 : ∀ z, p95 = some (at0 z) -> w60.heap.size <= z := fun z hz => (QC own101 hz).1
  have r103 : QD 38 w103 k28 _ := r101.upd hu103 fun hz => by have := own_ge60 _ hz; omega
  refine ⟨⟨_, _, _, r101.row.c rfl, rfl⟩, p104, _, c104, w103, hr, r103.row.live (by simp), fun w105 s105 => ?_⟩
  have u105 := Qw0 s105
  have u60103 : Upd (fun z => z = k28) w60 w103 := Upd.trans x6001 hu103 fun z hz hp => by have := own_ge60 _ hp; omega
  try dsimp only
  rw [w64 (n := (i : Int) + 1) (by omega)]
  refine ⟨⟨i + 1, k2, k28, p104, c104, rfl, rfl, by omega, by omega, by omega, by omega, by omega, u60103.trans u105 fun _ _ h => h, ?_, r103.set s105, ?_⟩, by show 70000 - ((i : Int) + 1).toNat < 70000 - (i : Int).toNat; omega⟩
  ·exact (((q68.upd d94.ext id).upd hk100.ext id).upd hu103 fun hz => by have := own_ge60 _ hz; omega).upd u105 (by show ¬ k2 = k28; omega)
  ·rw [Qpc]
   have e : Qu2 (QV7 R i ++ [((256 * (R.getD (2 * i) 0).toNat + (R.getD (2 * i + 1) 0).toNat : Nat) : Int)]) = Qu2 (QV7 R i) ++ Qu2 [((256 * (R.getD (2 * i) 0).toNat + (R.getD (2 * i + 1) 0).toNat : Nat) : Int)] := by simp [Qu2]
   rw [e]
   exact own103.upd u105 fun g hg hs => by
    have := (QC own103 hg).1
    have hs' : g = k28 := hs
    omega
 ·simp only [Zb] at hge
  have hic : i = 256 * x + y := by omega
  have hints := QH4 own68
  refine ⟨_, r68.row.row.cell (n := 0) rfl, _, r68.row.c rfl, _, r68.row.c rfl, _, _, _, r68.row.c rfl, (Qz3 _ _ _ hints (by omega)).mono ?_⟩
  rintro e w110 ⟨rfl, x110⟩
  refine ⟨_, rfl, fun w113 d113 => ?_⟩
  have x68113 := x110.trans d113.ext
  have r113 : QD 38 w113 k28 _ := r68.upd x68113 id
  have q113 : QD 38 w113 k2 _ := q68.upd x68113 id
  refine ⟨_, r113.row.row.cell (n := 0) rfl, _, r113.row.c rfl, _, r113.row.c rfl, _, _, _, r113.row.c rfl, ⟨by omega, by omega⟩, ?_⟩
  refine QO1 (e := 38) (v0 := int i64 ((bs.getD 0 0).toNat : Nat)) (v1 := .string (QF ((bs.take (2 + n)).drop 2))) (v2 := int i64 (len : Int)) (v3 := .slice p95 i c95) q113 fun w121 u121 r121 => ?_
  have x121 : Ext w w121 := Q7 (x68.trans x68113) u121 (by omega)
  have own121 : Qc w121 w60.heap.size 3 1 p95 i c95 (Qu2 (QV7 R i)) := (own68.ext x68113).upd u121 fun g hg hs => by
   have := (QC own68 hg).1
   have hs' : g = k2 := hs
   omega
  have hst := QUd (256 * x + y) R (by omega)
  rw [hst] at hcut
  have t2c : (2 * (256 * (x : Int) + (y : Int))).toNat = 2 * (256 * x + y) := by omega
  try dsimp only
  rw [t2c]
  refine ⟨_, r121.row.row.cell (n := 0) rfl, _, r121.row.c rfl, _, r121.row.c rfl, _, _, _, r121.row.c rfl, x121, fun hnone => ?_, fun X rest hsome => ?_⟩
  ·rw [hcut] at hnone
   have hno : ¬ Qc0 ((bs.getD 0 0).toNat : Nat) (QF ((bs.take (2 + n)).drop 2)) (len : Int) (QV7 R i) := fun hk => by
    unfold Q9c at hnone
    dsimp only at hnone
    rw [hic] at hk
    split at hnone
    ·cases hnone
    ·rename_i hn'
     exact hn' hk
   have hz : decide (QR0 ((bs.getD 0 0).toNat : Nat) (QF ((bs.take (2 + n)).drop 2)) (len : Int) (QV7 R i) = 0) = false := by unfold QR0; rw [if_neg hno]; rfl
   rw [hz]
   exact ⟨_, _, _, _, _, _, _, _, _, rfl⟩
  ·rw [hcut] at hsome
   unfold Q9c at hsome
   simp only at hsome
   split at hsome
   ·rename_i hk
    simp only [Zi, Prod.mk.injEq] at hsome
    obtain ⟨rfl, rfl⟩ := hsome
    have hk' : Qc0 ((bs.getD 0 0).toNat : Nat) (QF ((bs.take (2 + n)).drop 2)) (len : Int) (QV7 R i) := by rw [hic]; exact hk
    have hz : decide (QR0 ((bs.getD 0 0).toNat : Nat) (QF ((bs.take (2 + n)).drop 2)) (len : Int) (QV7 R i) = 0) = true := by unfold QR0; rw [if_pos hk']; rfl
    rw [hz]
    have rb : ∀ w'', Q3 w'' (some a) l1 bs -> Q3 w'' (Qu (Qu (some a) c1 (8 + n) 1) (c1 - (8 + n)) (2 * (256 * x + y)) 1) (l1 - (8 + n) - 2 * (256 * x + y)) (R.drop (2 * (256 * x + y))) := fun w'' hb'' => by
     have hRb := Q94 hb'' (c := c1) (a := 8 + n) (b := l1) (Nat.le_refl _) (by omega) hc
     rw [show bs.take l1 = bs by rw [hl]; exact List.take_length, hR] at hRb
     have hR2 := Q94 hRb (c := c1 - (8 + n)) (a := 2 * (256 * x + y)) (b := l1 - (8 + n)) (Nat.le_refl _) (by omega) (by omega)
     rw [show R.take (l1 - (8 + n)) = R from Zh (by omega)] at hR2
     exact hR2
    have e1 : (QV7 R (256 * x + y)).length = i := by rw [Qud, hic]
    have e2 : (R.drop (2 * (256 * x + y))).length = l1 - (8 + n) - 2 * (256 * x + y) := by rw [List.length_drop, hRl]
    refine ⟨p95, c95, Qu (Qu (some a) c1 (8 + n) 1) (c1 - (8 + n)) (2 * (256 * x + y)) 1, c1 - (8 + n) - 2 * (256 * x + y), ?_, ?_, ?_, ?_, ?_⟩
    ·rw [e1, e2]
    ·rw [e1, ← hic]; exact own121.base_le x60.size
    ·rw [e2]; exact rb _ (hb.ext x121)
    ·rw [e2]; omega
    ·exact ⟨fun w'' h'' => by rw [e2]; exact rb w'' (by rw [hl]; exact h''), by rw [e2]; omega⟩
   ·cases hsome
open Go Go.Vc
open Go.IntKind (i64)
open Go.Value (int)
open Go.Proofs.Tryz (prog)
theorem QI7 {w : World} {p1 : σ} {l1 c1 : Nat} {bs : τ} (hb : Q3 w p1 l1 bs) (hc : l1 <= c1) (hm : l1 <= 1000000) :
  Calls prog 68 #[.slice p1 l1 c1] w fun e w' => ∃ v, e = .returned v /\ Q2f w bs v w' := by
 refine F68_calls p1 l1 c1 w (Q2f w bs) ?_
 intro k2 w3 hk2
 have s2 := hk2.size
 have r2 : QD 38 w3 k2 #[int i64 0, .string ⟨#[]⟩, int i64 0, .slice none 0 0] := hk2.at
 have a0 : ∀ {w' : World}, Ext w w' -> QD 38 w' k2 #[int i64 0, .string ⟨#[]⟩, int i64 0, .slice none 0 0] -> Qa4 bs = none -> F68_A0 w' k2 (Q2f w bs) := by
  intro w' hx hr hnone
  refine QO1 (e := 38) (v0 := int i64 0) (v1 := .string ⟨#[]⟩) (v2 := int i64 0) (v3 := .slice none 0 0) hr fun w4 u4 r4 => ?_
  exact ⟨_, r4.row.row.cell (n := 0) rfl, _, r4.row.c rfl, _, r4.row.c rfl, _, _, _, r4.row.c rfl, Q7 hx u4 (by omega), .inr ⟨hnone, rfl⟩⟩
 refine (Qb6 (hb.ext hk2.ext) hc hm).mono ?_
 rintro e w4 ⟨v, rfl, x4, hnone, hsome⟩
 have y4 := hk2.ext.trans x4
 have s4 := x4.size
 have main : ∀ (n6 : Int) (s7 : ByteArray) (n8 : Int) (p9 : σ) (l9 c9 : Nat) (k12 : Nat) (w13 : World), QU1 w4 k12 (.cells #[int i64 0, .string ⟨#[]⟩, int i64 0, .slice none 0 0] 38) w13 -> ∀ {T : ψ},
   (∀ w17, Ext w w17 -> Upd (fun x => x = k12) w13 w17 -> QD 38 w17 k12 #[int i64 n6, .string s7, int i64 n8, .slice p9 l9 c9] -> QD 38 w17 k2 #[int i64 0, .string ⟨#[]⟩, int i64 0, .slice none 0 0] -> k2 < k12 -> T w17) →
   QL1 w13 (at0 k12) /\ ∀ w14 : World, QT w13 (at0 k12) (int i64 n6) w14 -> (QL1 w14 ((at0 k12).add 1) /\ ∀ w15 : World, QT w14 ((at0 k12).add 1) (.string s7) w15 -> (QL1 w15 ((at0 k12).add 2) /\ ∀ w16 : World, QT w15 ((at0 k12).add 2) (int i64 n8) w16 -> (QL1 w16 ((at0 k12).add 3) /\ ∀ w17 : World, QT w16 ((at0 k12).add 3) (.slice p9 l9 c9) w17 -> T w17))) := by
  intro n6 s7 n8 p9 l9 c9 k12 w13 hk12 T hT
  have s12 := hk12.size
  refine QO1 (e := 38) hk12.at fun w17 u17 r17 => ?_
  exact hT w17 (Q7 (y4.trans hk12.ext) u17 (by omega)) u17 r17 (((r2.upd x4 id).upd hk12.ext id).upd u17 (by show ¬ k2 = k12; omega)) (by omega)
 cases hd : QJ4 bs with
 | none =>
  obtain ⟨n6, s7, n8, p9, l9, c9, p10, l10, c10, rfl⟩ := hnone hd
  have hdec : Qa4 bs = none := by unfold Qa4; rw [hd]
  refine ⟨_, _, _, _, _, _, _, _, _, _, rfl, fun k12 w13 hk12 => main _ _ _ _ _ _ _ _ hk12 fun w17 x17 _ _ r2' _ => ?_⟩
  exact Q40 rfl (a0 x17 r2' hdec)
 | some xr =>
  obtain ⟨x, rest⟩ := xr
  obtain ⟨p9, c9, p10, c10, rfl, own9, hb10, _, _⟩ := hsome x rest hd
  refine ⟨_, _, _, _, _, _, _, _, _, _, rfl, fun k12 w13 hk12 => main _ _ _ _ _ _ _ _ hk12 fun w17 x17 u17 r17 r2' hlt => ?_⟩
  have s12 := hk12.size
  refine QA0 rfl (Q0 (fun h => a0 x17 r2' ?_) fun h => ?_)
  ·simp only [Za] at h
   unfold Qa4
   rw [hd]
   cases rest with
   | nil => simp at h
   | cons => rfl
  ·simp only [Zb] at h
   have hr0 : rest = [] := Zk (by omega)
   subst hr0
   refine ⟨_, r17.row.row.cell (n := 0) rfl, _, r17.row.c rfl, _, r17.row.c rfl, _, _, _, r17.row.c rfl, ?_⟩
   refine QO1 (e := 38) (v0 := int i64 x.kind) (v1 := .string (QF x.key)) (v2 := int i64 x.len) (v3 := .slice p9 x.st.length c9) r2' fun w41 u41 r41 => ?_
   refine ⟨_, r41.row.row.cell (n := 0) rfl, _, r41.row.c rfl, _, r41.row.c rfl, _, _, _, r41.row.c rfl, Q7 x17 u41 (by omega), .inl ⟨x, p9, _, c9, by unfold Qa4; rw [hd], rfl, ?_⟩⟩
   refine (((own9.ext hk12.ext).upd u17 fun g hg hs => ?_).upd u41 fun g hg hs => ?_).base_le hk2.ext.size
   ·have h1 := (QC own9 hg).2.1
    have hs' : g = k12 := hs
    omega
   ·have h1 := (QC own9 hg).1
    have hs' : g = k2 := hs
    omega
theorem Qi5 {w : World} {p : σ} {l c : Nat} {L : List ObV} (h : Q57 w p l L) : Calls prog 119 #[.slice p l c] w fun e w' => ∃ b, e = .returned (.bool b) /\ (b = true ↔ Qu0 L) /\ Ext w w' := by
 refine (F119_calls p l c w (fun v w' => ∃ b, v = .bool b /\ (b = true ↔ Qu0 L) /\ Ext w w')
  (fun _ n2 n3 w4 => ∃ i : Nat, n3 = i /\ i <= l /\ (∀ j, j < i -> Q6d L j) /\ n2 = ((Qb1 (L.take i) : Nat) : Int) /\ Qb1 (L.take i) <= 256 * i /\ Ext w w4) (fun _ _ n3 _ => 1000 - n3.toNat) ?_).mono (by
  rintro e w' ⟨v, rfl, b, rfl, h⟩; exact ⟨b, rfl, h⟩)
 have hlen := h.1
 refine Q0 (fun h64 => ⟨false, rfl, ⟨fun h => (by cases h), fun hm => ?_⟩, Upd.refl _ _⟩) fun h64 => ?_
 ·simp only [Za] at h64
  have := hm.2.2
  omega
 simp only [Zb] at h64
 refine ⟨⟨0, rfl, Nat.zero_le _, fun j hj => by omega, by simp [Qb1], by simp [Qb1], Upd.refl _ _⟩, ?_⟩
 rintro n2 n3 w4 ⟨i, rfl, hi, hall, rfl, hsum, x4⟩
 intros
 refine Q0 (fun hlt => ?_) (fun hge => ?_)
 ·simp only [Za] at hlt
  obtain ⟨o, ho⟩ : ∃ o, L[i]? = some o := ⟨L[i]'(by omega), Zc _⟩
  obtain ⟨a, q, n, cc, rfl, e0, e1, e2, e3, hst, hn⟩ := (h.ext x4).2 i o ho
  have no : ∀ {wx : World}, Ext w wx -> ¬ Q6d L i -> ∃ b, (Value.bool false) = .bool b /\ (b = true ↔ Qu0 L) /\ Ext w wx := fun hx hno => ⟨false, rfl, ⟨fun h => (by cases h), fun hm => (hno (hm.1 i (by omega))).elim⟩, hx⟩
  rw [Ze]
  refine ⟨⟨by omega, hlt⟩, _, e0, _, e1, _, e2, _, _, _, e3, (Qh2 o.key o.len o.epoch q n cc w4).mono ?_⟩
  rintro e w68 ⟨rfl, x68⟩
  refine ⟨_, _, _, _, _, _, rfl, (Qz3 1 o.key o.len (hst.ext x68) hn).mono ?_⟩
  rintro e w74 ⟨rfl, x74⟩
  refine ⟨_, rfl, fun w77 d77 => ?_⟩
  have x477 := (x68.trans x74).trans d77.ext
  have x77 := x4.trans x477
  refine Q0 (fun hz => no x77 fun hok => ?_) fun hz => ?_
  ·have := (hok o ho).1
   unfold QR0 at hz
   rw [if_pos this] at hz
   cases hz
  have hrec : Qc0 1 o.key o.len o.st := by
   by_cases hk : Qc0 1 o.key o.len o.st
   ·exact hk
   ·unfold QR0 at hz
    rw [if_neg hk] at hz
    cases hz
  have k2 := Qm0 e2 x477
  refine ⟨⟨by omega, hlt⟩, _, k2, Q0 (fun h1 => no x77 fun hok => ?_) fun h1 => ⟨⟨by omega, hlt⟩, _, k2, Q0 (fun h2 => no x77 fun hok => ?_) fun h2 => ?_⟩⟩
  ·simp only [Za] at h1; have := (hok o ho).2.1; omega
  ·simp only [Za] at h2; have := (hok o ho).2.1; omega
  simp only [Zb] at h1 h2
  have hss := QN2 ho
  have hsl := hrec.1.2.2.2
  have hn' := hst.1
  have w1 : i64.wrap ((i : Int) + 1) = ((i + 1 : Nat) : Int) := by rw [w64 (by omega)]; omega
  have w2 : i64.wrap (((Qb1 (L.take i) : Nat) : Int) + ((n : Nat) : Int)) = ((Qb1 (L.take (i + 1)) : Nat) : Int) := by rw [w64 (by omega)]; omega
  have next : Q6d L i -> (∃ i_1 : Nat, i64.wrap ((i : Int) + 1) = i_1 /\ i_1 <= l /\ (∀ j, j < i_1 -> Q6d L j) /\ i64.wrap (((Qb1 (L.take i) : Nat) : Int) + ((n : Nat) : Int)) = ((Qb1 (L.take i_1) : Nat) : Int) /\ Qb1 (L.take i_1) <= 256 * i_1 /\ Ext w w77) /\ 1000 - (i64.wrap ((i : Int) + 1)).toNat < 1000 - (i : Int).toNat := fun hok => by
   refine ⟨⟨i + 1, w1, by omega, fun j hj => ?_, w2, by omega, x77⟩, by rw [w1]; omega⟩
   by_cases hji : j = i
   ·subst hji; exact hok
   ·exact hall j (by omega)
  refine Q0 (fun h0 => ?_) fun h0 => ?_
  ·simp only [Za] at h0
   obtain ⟨k, rfl⟩ : ∃ k, i = k + 1 := ⟨i - 1, by omega⟩
   obtain ⟨o', ho'⟩ : ∃ o', L[k]? = some o' := ⟨L[k]'(by omega), Zc _⟩
   obtain ⟨a', q', n', cc', ha', e0', _⟩ := (h.ext x4).2 k o' ho'
   cases ha'
   have wk : i64.wrap (((k + 1 : Nat) : Int) - 1) = (k : Int) := by rw [w64 (by omega)]; omega
   rw [wk, Ze]
   refine ⟨⟨by omega, hlt⟩, _, by rw [Qt, Nat.add_zero]; exact Qm0 e0 x477, ⟨by omega, by omega⟩, _, by rw [Qt, Nat.add_zero]; exact Qm0 e0' x477, Q0 (fun hle => no x77 fun hok => ?_) fun hle => ⟨⟨by omega, hlt⟩, _, _, _, Qm0 e3 x477, ?_⟩⟩
   ·have := (hok o ho).2.2 k o' rfl ho'
    unfold leK at this
    rw [this] at hle
    cases hle
   ·refine next fun o2 ho2 => ?_
    rw [ho] at ho2
    cases ho2
    refine ⟨hrec, ⟨by omega, by omega⟩, fun k2 o2 hk2 ho2 => ?_⟩
    have : k2 = k := by omega
    subst this
    rw [ho'] at ho2
    cases ho2
    exact hle
  ·simp only [Zb] at h0
   refine ⟨⟨by omega, hlt⟩, _, _, _, Qm0 e3 x477, next fun o2 ho2 => ?_⟩
   rw [ho] at ho2
   cases ho2
   exact ⟨hrec, ⟨by omega, by omega⟩, fun k o' hk => by omega⟩
 ·simp only [Zb] at hge
  rw [Zh (by omega)]
  refine ⟨_, rfl, ?_, x4⟩
  simp only [Za]
  exact ⟨fun hh => ⟨fun j hj => hall j (by omega), by omega, by omega⟩, fun hm => by have := hm.2.1; omega⟩
open Go Go.Vc
open Go.IntKind (i64)
open Go.Value (int)
open Go.Proofs.Tryz (prog)
theorem QHa {w : World} {p : σ} {l c : Nat} {L : List ObV} (h : Q57 w p l L) (hl : l <= 1000000) : Calls prog 70 #[.slice p l c] w fun e w' => Ext w w' ∧
  ((¬ Qu0 L /\ e = .returned (.tuple #[.slice none 0 0, int i64 1])) \/ (Qu0 L /\ ∃ po co, e = .returned (.tuple #[.slice po 2 co, int i64 0]) /\ QS0 w' w.heap.size po 2 [QR (Qd L) 0, QR (Qd L) 1])) := by
 refine (F70_calls p l c w (fun v w' => Ext w w' /\ ((¬ Qu0 L /\ v = .tuple #[.slice none 0 0, int i64 1]) \/ (Qu0 L /\ ∃ po co, v = .tuple #[.slice po 2 co, int i64 0] /\ QS0 w' w.heap.size po 2 [QR (Qd L) 0, QR (Qd L) 1])))
  (fun _ p8 l8 c8 n9 w10 => ∃ i : Nat, n9 = i /\ i <= l /\ Qc w10 w.heap.size 5 1 p8 l8 c8 (QB (nb (L.length : Int) 2 ++ (L.take i).flatMap obB)) /\ Ext w w10) (fun _ _ _ _ n9 _ => 2000000 - n9.toNat)
  (fun w14 p60 l60 c60 p61 l61 c61 n62 w63 => ∃ (i : Nat) (rows : List Value), n62 = i /\ i <= 2 /\ Q3 w14 p60 l60 ((Qd L).drop (4096 * i)) /\ (∀ a', p60 = some a' -> w.heap.size <= a'.block) /\ Ext w w14 /\ l60 <= c60 /\ l61 = i /\ Qc w63 w14.heap.size 42 1 p61 l61 c61 rows /\ Ext w14 w63 ∧
   ∀ j, j < i -> ∃ q m d, rows[j]? = some (.slice q m d) /\ Q3 w14 q m (QR (Qd L) j) /\ (∀ a', q = some a' -> w.heap.size <= a'.block) /\ m <= d) (fun _ _ _ _ _ _ _ n62 _ => 5 - n62.toNat) ?_).mono (by
  rintro e w' ⟨v, rfl, hx, ⟨h1, rfl⟩ | ⟨h1, po, co, rfl, h2⟩⟩
  ·exact ⟨hx, .inl ⟨h1, rfl⟩⟩
  ·exact ⟨hx, .inr ⟨h1, po, co, rfl, h2⟩⟩)
 have hlen := h.1
 refine (Qi5 h).mono ?_
 rintro e w2 ⟨b, rfl, hb, x2⟩
 refine ⟨_, rfl, Q0 (fun hn => ⟨x2, .inl ⟨fun hm => ?_, rfl⟩⟩) fun hy => ?_⟩
 ·rw [hb.2 hm] at hn; cases hn
 simp only [Zf] at hy
 have hmay := hb.1 hy
 have h64 := hmay.2.2
 refine (Qk5 (n := (l : Int)) ⟨by omega, by omega⟩ w2).mono ?_
 rintro e w5 ⟨k7, rfl, x5, own5⟩
 have y5 := x2.trans x5
 have own5' : Qc w5 w.heap.size 5 1 (some (at0 k7)) 2 2 (QB (nb (L.length : Int) 2 ++ (L.take 0).flatMap obB)) := by
  have := own5.base_le x2.size
  rw [hlen] at this
  simpa using this
 refine ⟨_, _, _, rfl, ⟨0, rfl, Nat.zero_le _, own5', y5⟩, ?_⟩
 rintro p8 l8 c8 n9 w10 ⟨i, rfl, hi, own10, x10⟩
 intros
 have hl8 := own10.length
 have hfb := Qc2 hmay (i := i) (by omega)
 rw [Qq, List.length_append, Q41, Nat.mul_one] at hl8
 refine Q0 (fun hlt => ?_) fun hge => ?_
 ·simp only [Za] at hlt
  obtain ⟨o, ho⟩ : ∃ o, L[i]? = some o := ⟨L[i]'(by omega), Zc _⟩
  obtain ⟨a, q, n, cc, rfl, e0, e1, e2, e3, hst, hn⟩ := (h.ext x10).2 i o ho
  obtain ⟨hrec, hep, _⟩ := hmay.1 i (by omega) o ho
  rw [Ze]
  refine ⟨⟨by omega, hlt⟩, _, e0, _, e1, _, e2, _, _, _, e3, (Qh2 o.key o.len o.epoch q n cc w10).mono ?_⟩
  rintro e w44 ⟨rfl, x44⟩
  refine ⟨_, _, _, _, _, _, rfl, (Qp4 (kind := 1) (key := o.key) (len := o.len) (hst.ext x44) hn).mono ?_⟩
  rintro e w50 ⟨x50, _, henc⟩
  obtain ⟨p52, l52, c52, rfl, own52⟩ := henc hrec
  have x1050 := x44.trans x50
  refine ⟨_, _, _, _, rfl, ⟨by omega, hlt⟩, _, Qm0 e2 x1050, ?_⟩
  try dsimp only
  rw [Qvf (n := o.epoch) ⟨hep.1, by omega⟩]
  refine (Q62 o.epoch hep.1 w50).mono ?_
  rintro e w56 ⟨k58, rfl, x56, own58⟩
  have x1056 := x1050.trans x56
  obtain ⟨p60, l60, c60, w59, hr59, own59, hl60, x59, u59⟩ := QY0 (x10.trans x1056) (own10.ext x1056) (d := 4) (QJ own58) (by omega)
  have hp8 : ∀ g, p8 = some (at0 g) -> g < w10.heap.size := fun g hg => (QC own10 hg).2.1
  have z44 := x44.size
  have own52' : Qc w59 w44.heap.size 5 1 p52 l52 c52 (QB (Qg2 1 o.key o.len o.st)) := (own52.ext x56).upd u59 fun g hg hs => by
   have h1 := (QC own52 hg).1
   have h2 := hp8 g hs
   omega
  have hl52 := own52.length
  rw [Qq, Qe3, Nat.mul_one] at hl52
  have hk2 := hrec.1.2.1.2
  have hst2 := hrec.1.2.2.2
  obtain ⟨p62, l62, c62, w61, hr61, own61, hl62, x61, _⟩ := QY0 x59 own59 (d := c52) (QJ own52') (by omega)
  refine ⟨_, _, _, rfl, p60, l60, c60, w59, hr59, p62, l62, c62, w61, hr61, ?_⟩
  rw [w64 (by omega)]
  refine ⟨⟨i + 1, by omega, by omega, ?_, x61⟩, by show 2000000 - ((i : Int) + 1).toNat < 2000000 - (i : Int).toNat; omega⟩
  have e : nb (L.length : Int) 2 ++ (L.take (i + 1)).flatMap obB = ((nb (L.length : Int) 2 ++ (L.take i).flatMap obB) ++ Qg0 o.epoch) ++ Qg2 1 o.key o.len o.st := by
   rw [Zn, ho, Qwb]
   simp [obB]
  rw [e]
  exact own61
 simp only [Zb] at hge
 have hil : i = L.length := by omega
 subst hil
 rw [List.take_length] at own10
 have hb10 : Q3 w10 p8 l8 (Qd L) := QJ own10
 have hcc := QM8 own10
 have hsl := Qjc hmay
 have hnew : ∀ a', p8 = some a' -> w.heap.size <= a'.block := fun a' ha => by
  rcases own10.where_ with ⟨h0, _⟩ | ⟨g, h0, hge, _⟩
  ·rw [h0] at ha; cases ha
  ·rw [h0] at ha; cases ha; exact hge
 refine ⟨⟨0, [], rfl, by omega, by simpa using hb10, hnew, x10, hcc.1, rfl, Qc.nil _ _ _ _, Upd.refl _ _, fun j hj => by omega⟩, ?_⟩
 rintro p60 l60 c60 p61 l61 c61 n62 w63 ⟨j, rows, rfl, hj, hb60, hn60, _, hc60, rfl, own63, x63, hrow⟩
 intros
 have hl60 := hb60.1
 have cutn : ∀ {cc mm : Nat} a', Qu p60 cc mm 1 = some a' -> w.heap.size <= a'.block := fun {cc mm} a' ha => by
  obtain ⟨g0, h1, h2⟩ := Qib ha
  rw [h2]; exact hn60 g0 h1
 have body : ∀ m : Nat, m = min l60 4096 -> l61 < 2 -> ∀ (k80 : Nat) (w81 : World), QU1 w63 k80 (.cells #[.slice (Qu p60 c60 0 1) (m - 0) (c60 - 0)] 42) w81 -> ∃ (p83 : σ) (c83 : Nat), ∃ w82 : World, Sem.run prog (Builtin.append_ #[103, 103] 103 #[.slice p61 l61 c61, .slice (some (at0 k80)) 1 1]) w81 = .ok (.slice p83 (l61 + 1) c83) w82 ∧
   ∃ (i : Nat) (rows : List Value), ((l61 : Int) + 1) = i /\ i <= 2 /\ Q3 w10 (Qu p60 c60 m 1) (l60 - m) ((Qd L).drop (4096 * i)) /\ (∀ a', Qu p60 c60 m 1 = some a' -> w.heap.size <= a'.block) /\ Ext w w10 /\ l60 - m <= c60 - m /\ l61 + 1 = i /\ Qc w82 w10.heap.size 42 1 p83 (l61 + 1) c83 rows /\ Ext w10 w82 ∧
    ∀ j, j < i -> ∃ q m d, rows[j]? = some (.slice q m d) /\ Q3 w10 q m (QR (Qd L) j) /\ (∀ a', q = some a' -> w.heap.size <= a'.block) /\ m <= d := by
  intro m hm hlt k80 w81 hk80
  have q80 : RowW w81 k80 #[.slice (Qu p60 c60 0 1) (m - 0) (c60 - 0)] := ⟨_, hk80.at⟩
  have c80 : Q8 w81 (some (at0 k80)) [.slice (Qu p60 c60 0 1) (m - 0) (c60 - 0)] := fun j u hj => ⟨_, rfl, q80.row.cell (by simpa using hj)⟩
  have hz := (x63.trans hk80.ext).size
  obtain ⟨p83, c83, w82, hr, own82, hu82, _⟩ := (own63.ext hk80.ext).append Qpb 103 (q := some (at0 k80)) (m := 1) (d := 1) (news := [.slice (Qu p60 c60 0 1) (m - 0) (c60 - 0)]) rfl c80 (fun h => by cases h) (by simp [Value.oneCell']) (by unfold maxLen; omega) (by omega) hz
  have x82 : Ext w10 w82 := Qb2 (x63.trans hk80.ext) (own63.ext hk80.ext) hu82
  have cA := Q94 hb60 (c := c60) (a := 0) (b := m) (by omega) (by omega) hc60
  have cB := Q94 hb60 (c := c60) (a := m) (b := l60) (Nat.le_refl _) (by omega) hc60
  rw [List.drop_zero] at cA
  have eA : ((Qd L).drop (4096 * l61)).take m = QR (Qd L) l61 := by
   unfold QR
   rw [hm, hl60]
   apply List.ext_getElem?
   intro k
   simp only [List.getElem?_take]
   by_cases hk : k < 4096
   ·by_cases hk2 : k < ((Qd L).drop (4096 * l61)).length
    ·rw [if_pos (by omega), if_pos hk]
    ·rw [if_neg (by omega), if_pos hk, Zr (by omega)]
   ·rw [if_neg (by omega), if_neg hk]
  have eB : (((Qd L).drop (4096 * l61)).take l60).drop m = (Qd L).drop (4096 * (l61 + 1)) := by
   rw [Zh (by omega), List.drop_drop]
   by_cases h2 : 4096 <= l60
   ·rw [show 4096 * l61 + m = 4096 * (l61 + 1) by omega]
   ·rw [List.drop_of_length_le (by rw [List.length_drop] at hl60; omega), List.drop_of_length_le (by rw [List.length_drop] at hl60; omega)]
  rw [eA] at cA
  rw [eB] at cB
  refine ⟨p83, c83, w82, hr, l61 + 1, _, by omega, by omega, cB, fun a' ha => cutn a' ha, x10, by omega, rfl, own82, x82, fun j' hj' => ?_⟩
  have hrl := own63.length
  rw [Nat.mul_one] at hrl
  by_cases hjj : j' = l61
  ·subst hjj
   exact ⟨_, m - 0, c60 - 0, by rw [Zm (by omega), hrl, Nat.sub_self]; rfl, cA, fun a' ha => cutn a' ha, by omega⟩
  ·obtain ⟨q, m', d, g1, g2⟩ := hrow j' (by omega)
   exact ⟨q, m', d, by rw [Zl (by omega)]; exact g1, g2⟩
 refine Q0 (fun hlt => Q0 (fun hbig => ?_) fun hsmall => ?_) (fun hge2 => ?_)
 ·simp only [Za] at hlt hbig
  refine ⟨⟨by omega, by omega⟩, fun k85 w86 hk85 => ?_⟩
  obtain ⟨p83, c83, w82, hr, hinv⟩ := body 4096 (by omega) (by omega) k85 w86 hk85
  rw [w64 (by omega)]
  exact ⟨p83, _, c83, w82, hr, ⟨by omega, by omega⟩, hinv, by show 5 - ((l61 : Int) + 1).toNat < 5 - (l61 : Int).toNat; omega⟩
 ·simp only [Za, Zb] at hlt hsmall
  refine ⟨⟨by omega, by omega⟩, fun k85 w86 hk85 => ?_⟩
  rw [Ze] at hk85 ⊢
  obtain ⟨p83, c83, w82, hr, hinv⟩ := body l60 (by omega) (by omega) k85 w86 hk85
  rw [w64 (by omega)]
  exact ⟨p83, _, c83, w82, hr, ⟨by omega, by omega⟩, hinv, by show 5 - ((l61 : Int) + 1).toNat < 5 - (l61 : Int).toNat; omega⟩
 ·simp only [Zb] at hge2
  have hj2 : l61 = 2 := by omega
  subst hj2
  refine ⟨x10.trans x63, .inr ⟨hmay, p61, c61, rfl, rfl, fun j' bs hj' => ?_⟩⟩
  have hj2 : j' < 2 := by
   rcases Nat.lt_or_ge j' 2 with h | h
   ·exact h
   ·rw [Zr (by simpa using h)] at hj'; cases hj'
  have hbs : bs = QR (Qd L) j' := by
   match j', hj2 with
   | 0, _ => simpa using hj'.symm
   | 1, _ => simpa using hj'.symm
  subst hbs
  obtain ⟨q, m', d, g1, g2, gn, g3⟩ := hrow j' hj2
  obtain ⟨a, ha, hcell⟩ := own63.cells _ _ g1
  have hab : w.heap.size <= a.block := by
   rcases own63.where_ with ⟨h0, _⟩ | ⟨g, h0, hge, _⟩
   ·rw [h0] at ha; cases ha
   ·rw [h0] at ha; cases ha
    exact Zu x10.size hge
  exact ⟨a, q, m', d, ha, hab, by rw [Nat.mul_one]; exact hcell, g2.ext x63, gn, g3⟩
open Go Go.Vc
open Go.IntKind (i64)
open Go.Value (int)
open Go.Proofs.Tryz (prog)
theorem QBe {os more : List ObV} {o : ObV} {x : Option (List ObV × τ)} (h : x = none \/ ∃ r, x = some ((os ++ [o]) ++ more, r)) (he : 2147483647 < o.epoch) : unE x = none := by
 rcases h with h | ⟨r, h⟩
 ·rw [h]; rfl
 ·rw [h]
  cases r with
  | nil =>
   refine Qvc fun hm => ?_
   have := (hm.all o (by simp)).2.2
   omega
  | cons => rfl
theorem Q5d {cnt : Nat} {B bi : τ} {os : List ObV} {i : Nat} (h : QQ0 cnt B = (QQ0 (cnt - i) bi).map fun y => (os ++ y.1, y.2)) (hi : cnt <= i) : QQ0 cnt B = some (os, bi) := by
 rw [h, show cnt - i = 0 by omega]
 simp [QQ0]
set_option maxRecDepth 20000 in
theorem QP7 {w : World} {p1 : σ} {c1 : Nat} {P : List (τ)} (h : Ql6 w p1 2 P) (hP : ∀ x ∈ P, x.length <= 4096) :
  Calls prog 120 #[.slice p1 2 c1] w fun e w' => ∃ v, e = .returned v /\ unR w P v w' := by
 have hPl := h.1
 refine F120_calls p1 2 c1 w (unR w P)
  (fun _ p2 l2 c2 n3 w4 => ∃ i : Nat, n3 = i /\ i <= 2 /\ Ext w w4 /\ l2 <= 4096 * i /\ Qc w4 w.heap.size 5 1 p2 l2 c2 (QB (P.take i).flatten) /\ Q27 P i = false) (fun _ _ _ _ n3 _ => 5 - n3.toNat)
  (fun n64 w62 p68 l68 c68 p69 l69 c69 n70 w71 => ∃ (cnt i : Nat) (bi : τ) (os : List ObV) (rows : List Value), n64 = (cnt : Int) /\ n70 = i /\ i <= cnt /\ cnt < 65536 /\ l69 = i /\ os.length = i /\ Ext w w62 /\ Q3 w62 p68 l68 bi /\ l68 <= c68 /\ l68 <= 8192 /\ Ext w62 w71 /\ Qc w71 w62.heap.size 78 4 p69 l69 c69 rows ∧
   QH w71 w62.heap.size rows os /\ QQ0 cnt (P.flatten.drop 2) = (QQ0 (cnt - i) bi).map (fun y => (os ++ y.1, y.2)) /\ unD P = unE (QQ0 cnt (P.flatten.drop 2))) (fun _ _ _ _ _ _ _ _ n70 _ => 70000 - n70.toNat) ?_
 have nil : ∀ {w' : World}, Ext w w' -> unD P = none -> unR w P (.tuple #[.slice none 0 0, int i64 160]) w' := fun hx hn => ⟨hx, .inr ⟨hn, rfl⟩⟩
 refine QA0 (by simp) ⟨⟨0, rfl, by omega, Upd.refl _ _, by omega, by simpa [QB] using Qc.nil w w.heap.size 5 1, by simp [Q27]⟩, ?_⟩
 rintro p2 l2 c2 n3 w4 ⟨i, rfl, hi, x4, hl2, own4, hbad⟩
 intros
 refine Q0 (fun hlt => ?_) fun hge => ?_
 ·simp only [Za] at hlt
  obtain ⟨x, hx⟩ : ∃ x, P[i]? = some x := ⟨P[i]'(by omega), Zc _⟩
  obtain ⟨a, q, m, d, rfl, hcell, hbx⟩ := h.2 i x hx
  have hcell4 := Qm0 hcell x4
  have hb4 := hbx.ext x4
  have hm := hb4.1
  have hx4 := hP x (Zs hx)
  have gx : P.getD i [] = x := by rw [Zj, hx]; rfl
  have step : Q27 P (i + 1) = false -> ∃ (p53 : σ) (l53 c53 : Nat), ∃ w52 : World, Sem.run prog (Builtin.append_ #[42, 42] 42 #[.slice p2 l2 c2, .slice q m d]) w4 = .ok (.slice p53 l53 c53) w52 ∧
    ((∃ i' : Nat, i64.wrap ((i : Int) + 1) = i' /\ i' <= 2 /\ Ext w w52 /\ l53 <= 4096 * i' /\ Qc w52 w.heap.size 5 1 p53 l53 c53 (QB (P.take i').flatten) /\ Q27 P i' = false) /\ 5 - (i64.wrap ((i : Int) + 1)).toNat < 5 - (i : Int).toNat) := fun hb => by
   obtain ⟨p53, l53, c53, w52, hr, own52, hl53, x52, _⟩ := QY0 x4 own4 (d := d) hb4 (by omega)
   rw [w64 (by omega)]
   exact ⟨p53, l53, c53, w52, hr, ⟨i + 1, by omega, by omega, x52, by omega, by rw [Q55 hx]; exact own52, hb⟩, by omega⟩
  rw [Ze]
  refine ⟨⟨by omega, by omega⟩, _, _, _, hcell4, QA0 (decide_eq_false (by omega)) (Q0 (fun h0 => ?_) fun h0 => ⟨⟨by omega, by omega⟩, _, _, _, hcell4, step ?_⟩)⟩
  ·simp only [Za] at h0
   have hi1 : i = 1 := by omega
   subst hi1
   obtain ⟨y, hy⟩ : ∃ y, P[0]? = some y := ⟨P[0]'(by omega), Zc _⟩
   obtain ⟨a', q', m', d', ha', hcell', hby⟩ := h.2 0 y hy
   cases ha'
   have hm' := hby.1
   have gy : P.getD 0 [] = y := by rw [Zj, hy]; rfl
   refine ⟨⟨by omega, by omega⟩, _, _, _, hcell4, Q0 (fun h1 => ?_) fun h1 => ⟨⟨by omega, by omega⟩, _, _, _, hcell4, step ?_⟩⟩
   ·simp only [Za] at h1
    have wz : i64.wrap (((1 : Nat) : Int) - 1) = 0 := by rw [w64 (by omega)]; omega
    rw [wz]
    have hc' : w4.cell? (a.add ((0 : Int).toNat * 1)) = some (.slice q' m' d') := Qm0 hcell' x4
    refine ⟨⟨by omega, by omega⟩, q', m', d', hc', ?_⟩
    try dsimp only
    refine Q0 (fun h2 => nil x4 ?_) fun h2 => ⟨⟨by omega, by omega⟩, _, _, _, hcell4, step ?_⟩
    ·simp only [Za] at h2
     unfold unD Q27
     rw [if_pos (decide_eq_true ⟨rfl, by rw [gx]; omega, by rw [gy]; omega⟩)]
    ·simp only [Zb] at h2
     unfold Q27
     exact decide_eq_false fun hh => by have := hh.2.2; rw [gy] at this; omega
   ·simp only [Zb] at h1
    unfold Q27
    exact decide_eq_false fun hh => by have := hh.2.1; rw [gx] at this; omega
  ·simp only [Zb] at h0
   unfold Q27
   exact decide_eq_false fun hh => by have := hh.1; omega
 simp only [Zb] at hge
 have hi2 : i = 2 := by omega
 subst hi2
 rw [Zh (by omega)] at own4
 have hb4 : Q3 w4 p2 l2 P.flatten := QJ own4
 have hl2' := hb4.1
 have hcap := QM8 own4
 have hun : unD P = if P.flatten.length < 2 then none else unE (QQ0 (nvL (P.flatten.take 2)) (P.flatten.drop 2)) := by
  unfold unD
  rw [hbad, if_neg (by simp)]
 refine Q0 (fun h2 => nil x4 ?_) fun h2 => ?_
 ·simp only [Za] at h2
  rw [hun, if_pos (by omega)]
 simp only [Zb] at h2
 rw [if_neg (by omega)] at hun
 intro w62 d62
 have x62 := x4.trans d62.ext
 have hb62 := hb4.ext d62.ext
 obtain ⟨g0, hg0, c0⟩ := hb62.get (i := 0) (by omega)
 obtain ⟨_, hg1, c1'⟩ := hb62.get (i := 1) (by omega)
 rw [hg0] at hg1
 cases hg1
 have hcut := Q94 hb62 (c := c2) (a := 2) (b := l2) (Nat.le_refl _) (by omega) hcap.1
 rw [show P.flatten.take l2 = P.flatten from Zh (by omega)] at hcut
 generalize hcp : Qu p2 c2 2 1 = pc at hcut
 subst hg0
 have u0 := u8b (P.flatten.getD 0 0)
 have u1 := u8b (P.flatten.getD 1 0)
 have hcnt := Qrc (bs := P.flatten) (k := 0) (by omega)
 rw [List.drop_zero, Nat.zero_add, Nat.zero_add] at hcnt
 refine ⟨⟨by omega, by omega⟩, _, c0, ⟨by omega, by omega⟩, _, c1', ⟨by omega, by omega⟩, ?_⟩
 try dsimp only
 rw [w64 (n := ((P.flatten.getD 0 0).toNat : Int)) (by omega), w64 (n := ((P.flatten.getD 1 0).toNat : Int)) (by omega), w64 (n := 256 * ((P.flatten.getD 0 0).toNat : Int)) (by omega), w64 (n := 256 * ((P.flatten.getD 0 0).toNat : Int) + ((P.flatten.getD 1 0).toNat : Int)) (by omega)]
 have t2 : ((2 : Int).toNat) = 2 := rfl
 rw [t2, hcp]
 refine ⟨⟨nvL (P.flatten.take 2), 0, P.flatten.drop 2, [], [], by rw [hcnt]; omega, rfl, Nat.zero_le _, by rw [hcnt]; omega, rfl, rfl, x62, hcut, by omega, by omega, Upd.refl _ _, Qc.nil _ _ _ _, QH.nil _ _, by simp, hun⟩, ?_⟩
 rintro p68 l68 c68 p69 l69 c69 n70 w71 ⟨cnt, i, bi, os, rows, hcn, rfl, hi, hc65, rfl, hos, _, hbi, hcb, hl68, x71, own, hrows, hobj, hunE⟩
 intros
 have y71 := x62.trans x71
 have hbl := hbi.1
 have hb71 := hbi.ext x71
 try dsimp only
 rw [hcn]
 refine Q0 (fun hlt => ?_) fun hge2 => ?_
 ·simp only [Za] at hlt
  obtain ⟨st1, st2, st3, st4⟩ := Q16 hobj (by omega : l69 < cnt)
  refine Q0 (fun h4 => nil y71 ?_) fun h4 => ?_
  ·simp only [Za] at h4
   rw [hunE, st1 (by omega)]; rfl
  simp only [Zb] at h4
  refine (QD2 hb71 (by omega)).mono ?_
  rintro e w119 ⟨rfl, x119⟩
  have l4 : (bi.take 4).length = 4 := by rw [List.length_take]; omega
  rw [QLd l4]
  have hnv := Qu7 (bi.take 4)
  rw [l4] at hnv
  have hnv2 : nvL (bi.take 4) < 4294967296 := hnv
  have hcut4 := Q94 (hbi.ext (x71.trans x119)) (c := c68) (a := 4) (b := l68) (Nat.le_refl _) (by omega) hcb
  rw [show bi.take l68 = bi from Zh (by omega)] at hcut4
  refine ⟨_, rfl, ⟨by omega, by omega⟩, (Qb6 hcut4 (by omega) (by omega)).mono ?_⟩
  rintro e w122 ⟨v, rfl, x122, hnone, hsome⟩
  have x71122 := x119.trans x122
  have x62122 := x71.trans x71122
  have fill : ∀ (n124 : Int) (s125 : ByteArray) (n126 : Int) (p127 : σ) (l127 c127 : Nat) (k130 : Nat) (w131 : World), QU1 w122 k130 (.cells #[int i64 0, .string ⟨#[]⟩, int i64 0, .slice none 0 0] 38) w131 -> ∀ {T : ψ},
    (∀ w135, Ext w122 w135 -> QD 38 w135 k130 #[int i64 n124, .string s125, int i64 n126, .slice p127 l127 c127] -> T w135) →
    QL1 w131 (at0 k130) /\ ∀ w132 : World, QT w131 (at0 k130) (int i64 n124) w132 -> (QL1 w132 ((at0 k130).add 1) /\ ∀ w133 : World, QT w132 ((at0 k130).add 1) (.string s125) w133 -> (QL1 w133 ((at0 k130).add 2) /\ ∀ w134 : World, QT w133 ((at0 k130).add 2) (int i64 n126) w134 -> (QL1 w134 ((at0 k130).add 3) /\ ∀ w135 : World, QT w134 ((at0 k130).add 3) (.slice p127 l127 c127) w135 -> T w135))) := by
   intro n124 s125 n126 p127 l127 c127 k130 w131 hk T hT
   have s130 := hk.size
   refine QO1 (e := 38) hk.at fun w135 u135 r135 => ?_
   exact hT w135 (Q7 hk.ext u135 (by omega)) r135
  cases hd : QJ4 (bi.drop 4) with
  | none =>
   obtain ⟨n124, s125, n126, p127, l127, c127, p128, l128, c128, rfl⟩ := hnone hd
   refine ⟨_, _, _, _, _, _, _, _, _, _, rfl, fun k130 w131 hk130 => fill _ _ _ _ _ _ _ _ hk130 fun w135 x135 _ => ?_⟩
   refine Q40 rfl (nil (y71.trans (x71122.trans x135)) ?_)
   rw [hunE, st2 (by omega) hd]; rfl
  | some xr =>
   obtain ⟨x, rest⟩ := xr
   obtain ⟨p127, c127, p128, c128, rfl, own127, hb128, hcr, hblk, hrle⟩ := hsome x rest hd
   refine ⟨_, _, _, _, _, _, _, _, _, _, rfl, fun k130 w131 hk130 => fill _ _ _ _ _ _ _ _ hk130 fun w135 x135 r135 => ?_⟩
   have y135 := y71.trans (x71122.trans x135)
   refine QA0 rfl (Q0 (fun hbig => nil y135 ?_) fun hbig => ⟨_, r135.row.c rfl, Q0 (fun hk1 => nil y135 ?_) fun hk1 => ⟨_, r135.row.c rfl, _, r135.row.c rfl, _, _, _, r135.row.c rfl, fun k140 w141 hk140 => ?_⟩⟩)
   ·simp only [Za] at hbig
    rw [hunE]
    by_cases hk : x.kind = 1
    ·have h4' := st4 x rest (by omega) hd hk
     rw [h4']
     cases QQ0 (cnt - (l69 + 1)) rest with
     | none => rfl
     | some y => exact QBe (os := os) (o := ⟨QF x.key, x.len, (nvL (bi.take 4) : Nat), x.st⟩) (more := y.1) (.inr ⟨y.2, rfl⟩) (by simpa using hbig)
    ·rw [st3 x rest (by omega) hd hk]; rfl
   ·simp only [Zg, Zb] at hk1
    rw [hunE, st3 x rest (by omega) hd hk1]; rfl
   simp only [Zf, Za, Zb] at hk1 hbig
   have hobj' := st4 x rest (by omega) hd hk1
   rw [w64 (n := ((nvL (bi.take 4) : Nat) : Int)) (by omega)] at hk140
   have x62141 := (x62122.trans x135).trans hk140.ext
   have own141 := own.ext ((x71122.trans x135).trans hk140.ext)
   have q140 : RowW w141 k140 #[.string (QF x.key), int i64 x.len, int i64 ((nvL (bi.take 4) : Nat) : Int), .slice p127 x.st.length c127] := ⟨_, hk140.at⟩
   have c140 : Q8 w141 (some (at0 k140)) [.string (QF x.key), int i64 x.len, int i64 ((nvL (bi.take 4) : Nat) : Int), .slice p127 x.st.length c127] := fun j u hj => ⟨_, rfl, q140.row.cell (by simpa using hj)⟩
   obtain ⟨p143, c143, w142, hr, own142, hu142, _⟩ := own141.append QDd 39 (q := some (at0 k140)) (m := 1) (d := 1) (news := [.string (QF x.key), int i64 x.len, int i64 ((nvL (bi.take 4) : Nat) : Int), .slice p127 x.st.length c127]) rfl c140 (fun h => by cases h) (by
    intro u hu
    simp only [List.mem_cons, List.not_mem_nil, or_false] at hu
    rcases hu with rfl | rfl | rfl | rfl <;> rfl) (by unfold maxLen; omega) (by omega) x62141.size
   have hxok : Qc0 x.kind (QF x.key) x.len x.st := by
    have := hd
    exact Q8c this
   have hst256 := hxok.1.2.2.2
   have rows142 := ((hrows.ext ((x71122.trans x135).trans hk140.ext)).snoc (o := ⟨QF x.key, x.len, (nvL (bi.take 4) : Nat), x.st⟩) (q := p127) (n := x.st.length) (c := c127) (((own127.ext x135).ext hk140.ext).base_le (x71.trans x119).size) (by omega)).keep own141 hu142
   have x62142 : Ext w62 w142 := Qb2 x62141 own141 hu142
   have hcutw := Q94 hbi (c := c68) (a := 4) (b := l68) (Nat.le_refl _) (by omega) hcb
   rw [show bi.take l68 = bi from Zh (by omega)] at hcutw
   have hb4l : (bi.drop 4).length = l68 - 4 := by rw [List.length_drop]; omega
   have hb128w : Q3 w62 p128 rest.length rest := hblk w62 (by rw [hb4l]; exact hcutw)
   have hrl : rest.length <= l68 := by omega
   rw [w64 (by omega)]
   exact ⟨p143, _, c143, w142, hr, ⟨cnt, l69 + 1, rest, os ++ [⟨QF x.key, x.len, (nvL (bi.take 4) : Nat), x.st⟩], _, rfl, by omega, by omega, hc65, rfl, by simp [hos], x62, hb128w, hcr, by omega, x62142, own142, rows142, hobj', hunE⟩, by show 70000 - ((l69 : Int) + 1).toNat < 70000 - (l69 : Int).toNat; omega⟩
 ·simp only [Zb] at hge2
  have hend := Q5d hobj (by omega)
  refine (Qi5 (hrows.obs own)).mono ?_
  rintro e w144 ⟨b, rfl, hbm, x144⟩
  have y144 := y71.trans x144
  refine ⟨_, rfl, Q0 (fun hn => nil y144 ?_) fun hy => Q0 (fun h0 => nil y144 ?_) fun h0 => ?_⟩
  ·rw [hunE, hend]
   cases bi with
   | nil => exact Qvc fun hm => by rw [hbm.2 hm] at hn; cases hn
   | cons => rfl
  ·simp only [Za] at h0
   rw [hunE, hend]
   cases bi with
   | nil => simp at hbl; omega
   | cons => rfl
  ·simp only [Zb, Zf] at h0 hy
   have hb0 : bi = [] := Zk (by omega)
   subst hb0
   refine ⟨y144, .inl ⟨os, p69, c69, rows, by rw [hunE, hend]; exact Qwc (hbm.1 hy), by rw [hos], ?_, ?_⟩⟩
   ·rw [hos]; exact (own.ext x144).base_le x62.size
   ·exact (hrows.ext x144).base_le x62.size
open Go Go.Vc
open Go.IntKind (i64)
open Go.Value (int)
open Go.Proofs.Tryz (prog)
theorem Qlg (s : StA) (d n : Int) (l : Nat) : QMc s d n l = QB8 s d n l := rfl
theorem Qu5 (w : World) : Calls prog 58 #[] w fun e w' => ∃ p c', e = .returned (.slice p 13 c') /\ Ext w w' /\ Q3 w' p 13 QVa := by
 refine (F58_calls w (fun v w' => ∃ p c', v = .slice p 13 c' /\ Ext w w' /\ Q3 w' p 13 QVa) ?_).mono (by rintro e w' ⟨v, rfl, p, c', rfl, h⟩; exact ⟨p, c', rfl, h⟩)
 intro k1 w2 hk1
 refine (Qc6 0 0 (Q3.one (b := 76) hk1.at)).mono ?_
 rintro e w3 ⟨x3, hp⟩
 rw [if_pos ⟨⟨by omega, by omega⟩, ⟨by omega, by omega⟩, by simp⟩] at hp
 obtain ⟨p, l, c', rfl, own⟩ := hp
 have hb := QJ own
 have hl : (Qx 0 0 [76]).length = 13 := QC1 _ _ _
 have hl' := hb.1
 rw [hl] at hl'
 subst hl'
 exact ⟨_, _, _, _, rfl, p, c', rfl, hk1.ext.trans x3, hb⟩
theorem Q08 {w : World} {r : Nat} {s : StA} {G : Nat -> Prop} (h : IsR w r s G) (ho : OkA s) {p : σ} {l c : Nat} {L : List Int} (hL : ∀ G' w', Qf G G' w w' -> Ql w' p l L) (hl : l <= 1000000) :
  Calls prog 21 #[.pointer (some (at0 r)), .slice p l c] w fun e w' => ∃ G', e = .returned (int i64 (Qy0 L s).2) /\ Qf G G' w w' /\ IsR w' r (Qy0 L s).1 G' := by
 refine (F21_calls (some (at0 r)) p l c w (fun v w' => ∃ G', v = int i64 (Qy0 L s).2 /\ Qf G G' w w' /\ IsR w' r (Qy0 L s).1 G')
  (fun _ n3 w4 => ∃ (i : Nat) (G' : Nat -> Prop), n3 = i /\ i <= l /\ (Qz2 L s i).2 = false /\ Qf G G' w w4 /\ IsR w4 r (Qz2 L s i).1 G') (fun _ n3 _ => 2000000 - n3.toNat) ?_).mono (by rintro e w' ⟨v, rfl, G', rfl, h⟩; exact ⟨G', rfl, h⟩)
 have hlen := (hL G w (Qf.refl _ _)).1
 refine ⟨⟨0, G, rfl, Nat.zero_le _, rfl, Qf.refl _ _, h⟩, ?_⟩
 rintro n3 w4 ⟨i, G', rfl, hi, hgo, hst, hA⟩
 intros
 have hok := QB6 (L := L) ho i
 refine Q0 (fun hlt => ?_) (fun hge => ?_)
 ·simp only [Za] at hlt
  intro w23 d23
  obtain ⟨x, hxx⟩ : ∃ x, L[i]? = some x := ⟨L[i]'(by omega), Zc _⟩
  obtain ⟨ap, rfl, ca⟩ := ((hL _ _ hst).ext d23.ext).2 i (int i64 x) (by rw [Zq, hxx]; rfl)
  have hgd : L.getD i 0 = x := by rw [Zj, hxx]; rfl
  rw [Ze, Nat.mul_one]
  refine ⟨⟨by omega, hlt⟩, x, ca, (Qu5 w23).mono ?_⟩
  rintro e w26 ⟨pb, c', rfl, x26, hb⟩
  refine ⟨_, _, _, rfl, ⟨x, Qm0 ca x26, rfl⟩, (Qq6 (QM.ext (QM.ext hA d23.ext) x26) hok.1 x 0 hb).mono ?_⟩
  rintro e w30 ⟨G'', rfl, hst30, hA30⟩
  have hl13 : QVa.length = 13 := QC1 _ _ _
  rw [hl13, Qlg]
  have e1 : Qz2 L s (i + 1) = (QL (Qz2 L s i).1 x 0 QVa, decide (QB8 (Qz2 L s i).1 x 0 13 = 130)) := by
   simp only [Qz2, hgo, hgd]; rfl
  have hT : Qf G G'' w w30 := (hst.trans (Qf.ext (d23.ext.trans x26))).trans hst30
  refine ⟨_, rfl, Q0 (fun h130 => ?_) (fun h130 => ?_)⟩
  ·have hc : (Qz2 L s (i + 1)).2 = true := by rw [e1]; exact h130
   have hall := QT3 hc (L.length - (i + 1))
   rw [show i + 1 + (L.length - (i + 1)) = L.length by omega] at hall
   have e2 : Qy0 L s = ((Qz2 L s (i + 1)).1, 130) := by unfold Qy0; rw [hall, if_pos hc]
   rw [e2]
   simp only [Za] at h130
   refine ⟨G'', by rw [h130], hT, ?_⟩
   rw [e1]; exact hA30
  ·rw [w64 (by omega)]
   refine ⟨⟨i + 1, G'', by omega, by omega, by rw [e1]; exact h130, hT, by rw [e1]; exact hA30⟩, by show 2000000 - ((i : Int) + 1).toNat < 2000000 - (i : Int).toNat; omega⟩
 ·simp only [Zb] at hge
  have hil : i = L.length := by omega
  subst hil
  refine (Qz4 hA hok.1).mono ?_
  rintro e w33 ⟨G'', rfl, hst33, hA33⟩
  have e2 : Qy0 L s = (Q12 (Qz2 L s L.length).1, if (Qz2 L s L.length).1.down then 130 else 0) := by unfold Qy0; rw [if_neg (by rw [hgo]; simp)]
  rw [e2]
  exact ⟨_, rfl, G'', rfl, hst.trans hst33, hA33⟩
theorem Qt5 {w : World} {r : Nat} {s : StA} {G : Nat -> Prop} (h : IsR w r s G) (ho : OkA s) (h1 : 1 <= s.M.length) : Calls prog 22 #[.pointer (some (at0 r))] w fun e w' => Ext w w' /\ (s.down = true -> e = .returned (.tuple #[.slice none 0 0, int i64 130])) ∧
  (s.down = false -> ∃ p c, e = .returned (.tuple #[.slice p s.M.length c, int i64 0]) /\ Qc w' w.heap.size 4 1 p s.M.length c ((s.M.map QX1).map Value.bool)) := by
 refine (F22_calls (some (at0 r)) w (fun v w' => Ext w w' /\ (s.down = true -> v = .tuple #[.slice none 0 0, int i64 130]) ∧
  (s.down = false -> ∃ p c, v = .tuple #[.slice p s.M.length c, int i64 0] /\ Qc w' w.heap.size 4 1 p s.M.length c ((s.M.map QX1).map Value.bool)))
  (fun _ p6 l6 c6 n7 w8 => ∃ i : Nat, n7 = i /\ i <= s.M.length /\ l6 = i /\ Ext w w8 /\ (i = 0 \/ s.down = false) /\ Qc w8 w.heap.size 4 1 p6 l6 c6 (((s.M.take i).map QX1).map Value.bool)) (fun _ _ _ _ n7 _ => 100 - n7.toNat) ?_).mono (by
  rintro e w' ⟨v, rfl, hx, h2, h3⟩
  exact ⟨hx, fun hd => by rw [h2 hd], fun hd => by obtain ⟨p, c, rfl, h⟩ := h3 hd; exact ⟨p, c, rfl, h⟩⟩)
 have hM : s.M.length <= 32 := ho.1
 refine ⟨⟨0, rfl, Nat.zero_le _, rfl, Upd.refl _ _, .inl rfl, Qc.nil _ _ _ _⟩, ?_⟩
 rintro p6 l6 c6 n7 w8 ⟨i, rfl, hi, rfl, x8, hd0, own8⟩
 intros
 have h8 := QM.ext h x8
 obtain ⟨pD, cD, pB, cB, hr8⟩ := QM.row h8
 refine ⟨_, _, _, hr8.c rfl, Q0 (fun hlt => ?_) (fun hge => ?_)⟩
 ·simp only [Za] at hlt
  rw [QY] at hlt
  obtain ⟨m, hm⟩ : ∃ m, s.M[l6]? = some m := ⟨s.M[l6]'(by omega), Zc _⟩
  have tk : s.M.take (l6 + 1) = s.M.take l6 ++ [m] := by rw [Zn, hm]; rfl
  have mu : 100 - (((l6 : Int)) + 1).toNat < 100 - ((l6 : Int)).toNat := by omega
  cases hdn : s.down with
  | true =>
   refine (Qd8 h8 (l6 : Int) 0).mono ?_
   rintro e w41 ⟨x41, p, l, c, rfl, _⟩
   have ea : Q48 s (l6 : Int) 0 = (130, []) := by unfold Q48; rw [if_pos hdn]
   rw [ea]
   exact ⟨_, _, _, _, rfl, Q0 (fun _ => ⟨x8.trans x41, fun _ => rfl, fun h => by cases h⟩) fun h => by simp at h⟩
  | false =>
   refine (QT4 h8 hdn hm 0).mono ?_
   rintro e w41 ⟨x41, p43, l43, c43, rfl, hl43, own43⟩
   refine ⟨_, _, _, _, rfl, Q0 (fun h0 => ?_) fun _ => ?_⟩
   ·simp only [Za] at h0
    exact absurd h0 Qn7
   refine (Qu5 w41).mono ?_
   rintro e w45 ⟨p47, c47, rfl, x45, hb47⟩
   refine ⟨_, _, _, rfl, (QB3 (QJ (own43.ext x45)) hb47 (by omega)).mono ?_⟩
   rintro e w48 ⟨rfl, q48⟩
   have y48 := ((x8.trans x41).trans x45).trans q48.ext
   have own48 := ((own8.ext x41).ext x45).ext q48.ext
   refine ⟨_, rfl, Q0 (fun hz => ?_) fun hz => ?_⟩
   ·simp only [Za] at hz
    intro k51 w52 hk51
    obtain ⟨p54, l54, c54, w53, hr, own53, hl54, x53⟩ := QB4 y48 own48 hk51 (by omega)
    rw [w64 (by omega)]
    refine ⟨_, _, _, _, hr, ⟨l6 + 1, by omega, by omega, by omega, x53, .inr rfl, ?_⟩, mu⟩
    have : ((s.M.take (l6 + 1)).map QX1) = ((s.M.take l6).map QX1) ++ [decide (Qx4 0 m = QVa)] := by
     rw [tk, Zp]
     simp [QX1, Qx4, hz]
    rw [this]; exact own53
   ·simp only [Zb] at hz
    intro k51 w52 hk51
    obtain ⟨p54, l54, c54, w53, hr, own53, hl54, x53⟩ := QB4 y48 own48 hk51 (by omega)
    rw [w64 (by omega)]
    refine ⟨_, _, _, _, hr, ⟨l6 + 1, by omega, by omega, by omega, x53, .inr rfl, ?_⟩, mu⟩
    have : ((s.M.take (l6 + 1)).map QX1) = ((s.M.take l6).map QX1) ++ [false] := by
     rw [tk, Zp]
     simp [QX1, hz]
    rw [this]; exact own53
 ·simp only [Zb] at hge
  rw [QY] at hge
  have hil : l6 = s.M.length := by omega
  subst hil
  rw [List.take_length] at own8
  refine ⟨x8, fun hd => ?_, fun _ => ⟨p6, c6, rfl, own8⟩⟩
  rcases hd0 with h0 | h0
  ·omega
  ·rw [h0] at hd; cases hd
theorem Qv5 {w : World} {r : Nat} {s : StA} {G : Nat -> Prop} (h : IsR w r s G) (ho : OkA s) (n m : Int) {p : σ} {l c : Nat} {d : τ} (hd : Q3 w p l d) :
  Calls prog 65 #[.pointer (some (at0 r)), int i64 n, int i64 m, .slice p l c] w fun e w' =>
   ∃ G', e = .returned (.tuple #[.bool (decide (0 < (Qf0 (fun _ => true) n m d s).2.1)), int i64 (Qf0 (fun _ => true) n m d s).2.2]) /\ Qf G G' w w' /\ IsR w' r (Qf0 (fun _ => true) n m d s).1 G' := by
 refine (F65_calls (some (at0 r)) n m p l c w (fun v w' => ∃ G', v = .tuple #[.bool (decide (0 < (Qf0 (fun _ => true) n m d s).2.1)), int i64 (Qf0 (fun _ => true) n m d s).2.2] /\ Qf G G' w w' /\ IsR w' r (Qf0 (fun _ => true) n m d s).1 G') ?_).mono (by rintro e w' ⟨v, rfl, G', rfl, h⟩; exact ⟨G', rfl, h⟩)
 refine (QV6 h ho n m hd).mono ?_
 rintro e w5 ⟨G', rfl, st, h'⟩
 exact ⟨_, _, rfl, G', rfl, st, h'⟩
open Go Go.Vc
open Go.IntKind (i64)
open Go.Value (int)
open Go.Proofs.Tryz (prog)
theorem Qad {g : Geo} {base count z : Int} (h : Qo g ≠ 0) : Qc3 (some (at0 0)) g base count z = Qo g := by
 unfold Qc3 QGc QN
 simp [Qz, h]
theorem QM6 {g : Geo} {base count z : Int} (h : Qo g = 0) (ho : ¬ (0 <= base /\ 0 <= count /\ base <= 2147483547)) : Qc3 (some (at0 0)) g base count z = 1 := by
 unfold Qc3 QGc QN okZ
 rw [if_neg ho]
 simp [Qz, h]
theorem Qbd {g : Geo} {base count z : Int} (h : Qo g = 0) (ho : 0 <= base /\ 0 <= count /\ base <= 2147483547) (hz : z ≠ 0) : Qc3 (some (at0 0)) g base count z = z := by
 unfold Qc3 QGc QN okZ
 rw [if_pos ho]
 simp [Qz, h, hz]
theorem QVb {g : Geo} {base count z : Int} (h : Qo g = 0) (ho : 0 <= base /\ 0 <= count /\ base <= 2147483547) (hz : z = 0) : Qc3 (some (at0 0)) g base count z = if count < g.slots then 0 else 180 := by
 unfold Qc3 QGc QN okZ
 rw [if_pos ho]
 simp [Qz, h, hz]
theorem QNc {g : Geo} {base count kind : Int} {key : ByteArray} {len : Int} {st : List Int} {s : StA} {z : Int} (h : Qc3 (some (at0 0)) g base count (QR0 kind key len st) = z) (hz : z ≠ 0) : QF3 g base count kind key len st s = (s, z) := by
 unfold QF3
 rw [if_neg (by rw [h]; exact hz), h]
theorem QZ7 {w : World} {r : Nat} {s : StA} {G : Nat -> Prop} (h : IsR w r s G) (ho : OkA s) (g : Geo) (base count kind : Int) (key : ByteArray) (len : Int) {p13 : σ} {l13 c13 : Nat} {st : List Int} (hst : Ql w p13 l13 st) (hl : l13 <= 4611686018427387904) :
  Calls prog 24 #[.pointer (some (at0 r)), gV g, int i64 base, int i64 count, .agg #[int i64 kind, .string key, int i64 len, .slice p13 l13 c13]] w fun e w' => ∃ G', e = .returned (int i64 (QF3 g base count kind key len st s).2) /\ Qf G G' w w' /\ IsR w' r (QF3 g base count kind key len st s).1 G' := by
 refine (F24_calls (some (at0 r)) g.k g.m g.size g.stripes g.slots g.objects base count kind key len p13 l13 c13 w (fun v w' => ∃ G', v = int i64 (QF3 g base count kind key len st s).2 /\ Qf G G' w w' /\ IsR w' r (QF3 g base count kind key len st s).1 G') ?_).mono (by rintro e w' ⟨v, rfl, G', rfl, h⟩; exact ⟨G', rfl, h⟩)
 intro k14 w15 hk14 k16 w17 hk16
 have x17 := hk14.ext.trans hk16.ext
 have r14 : RowW w17 k14 (Qe1 g) := hk16.ext.rowW ⟨_, hk14.at⟩ id
 have r16 : RowW w17 k16 #[int i64 kind, .string key, int i64 len, .slice p13 l13 c13] := ⟨_, hk16.at⟩
 have pre : ∀ {w' : World} {z : Int}, Ext w w' -> Qc3 (some (at0 0)) g base count (QR0 kind key len st) = z -> z ≠ 0 -> ∃ G', int i64 z = int i64 (QF3 g base count kind key len st s).2 /\ Qf G G' w w' /\ IsR w' r (QF3 g base count kind key len st s).1 G' := fun {w' z} hx he hz => by
  rw [QNc he hz]
  exact ⟨G, rfl, Qf.ext hx, QM.ext h hx⟩
 refine ⟨_, r14.row.cell (n := 0) rfl, _, r14.c rfl, _, r14.c rfl, _, r14.c rfl, _, r14.c rfl, _, r14.c rfl, (QD1 g w17).mono ?_⟩
 rintro e w24 ⟨rfl, x24⟩
 have y24 := x17.trans x24
 have a16 : RowW w24 k16 _ := x24.rowW r16 id
 refine ⟨_, rfl, Q0 (fun h0 => pre y24 (Qad (by simpa using h0)) (by simpa using h0)) fun h0 => ?_⟩
 simp only [Zf, Za] at h0
 refine Q0 (fun h1 => pre y24 (QM6 h0 fun hh => by simp only [Za] at h1; omega) (by decide)) fun h1 => Q0 (fun h2 => pre y24 (QM6 h0 fun hh => by simp only [Za] at h2; omega) (by decide)) fun h2 =>
  Q0 (fun h3 => pre y24 (QM6 h0 fun hh => by simp only [Za] at h3; omega) (by decide)) fun h3 => ⟨_, a16.row.cell (n := 0) rfl, _, a16.c rfl, _, a16.c rfl, _, _, _, a16.c rfl, (Qz3 kind key len (hst.ext y24) hl).mono ?_⟩
 simp only [Zb] at h1 h2 h3
 have hok : 0 <= base /\ 0 <= count /\ base <= 2147483547 := by omega
 rintro e w31 ⟨rfl, x31⟩
 have y31 := y24.trans x31
 have hz1 : QR0 kind key len st ≠ 0 -> QR0 kind key len st = 1 := fun hh => by unfold QR0 at hh ⊢; split at hh <;> simp_all
 have b14 : RowW w31 k14 (Qe1 g) := (x24.trans x31).rowW r14 id
 have b16 : RowW w31 k16 _ := x31.rowW a16 id
 refine ⟨_, rfl, Q0 (fun h4 => ?_) fun h4 => ⟨_, b14.c rfl, Q0 (fun h5 => ?_) fun h5 => ⟨_, b16.row.cell (n := 0) rfl, _, b16.c rfl, _, b16.c rfl, _, _, _, b16.c rfl, (Qp4 (kind := kind) (key := key) (len := len) (hst.ext y31) hl).mono ?_⟩⟩⟩
 ·simp only [Zg, Zb] at h4
  exact pre y31 ((Qbd h0 hok h4).trans (hz1 h4)) (by decide)
 ·simp only [Zf, Za] at h4 h5
  exact pre y31 ((QVb h0 hok h4).trans (if_neg (by omega))) (by decide)
 simp only [Zf, Za, Zb] at h4 h5
 have hrec : Qc0 kind key len st := by
  by_cases hk : Qc0 kind key len st
  ·exact hk
  ·unfold QR0 at h4; rw [if_neg hk] at h4; cases h4
 rintro e w39 ⟨x39, _, henc⟩
 obtain ⟨p41, l41, c41, rfl, own41⟩ := henc hrec
 have c14 : RowW w39 k14 (Qe1 g) := x39.rowW b14 id
 refine ⟨_, _, _, _, rfl, _, c14.row.cell (n := 0) rfl, _, c14.c rfl, _, c14.c rfl, _, c14.c rfl, _, c14.c rfl, _, c14.c rfl, (Qe6 g count w39).mono ?_⟩
 rintro e w49 ⟨rfl, x49⟩
 have y49 := (y31.trans x39).trans x49
 refine ⟨_, rfl, ?_⟩
 have hg : QS g := by
  by_cases hg : QS g
  ·exact hg
  ·unfold Qo at h0; rw [if_neg hg] at h0; cases h0
 have hslots := hg.2.2.2.1.2
 try dsimp only
 rw [w64 (n := base + count) (by omega), w64 (n := base + count + 1) (by omega)]
 refine (Qv5 (QM.ext h y49) ho (Q70 g count) (base + count + 1) (QJ (own41.ext x49))).mono ?_
 rintro e w52 ⟨G52, rfl, st52, h52⟩
 have hpre : Qc3 (some (at0 0)) g base count (QR0 kind key len st) = 0 := (QVb h0 hok h4).trans (if_pos (by omega))
 have hokP := (QG4 (to := fun _ => true) (addr := Q70 g count) (epoch := base + count + 1) (d := Qg2 kind key len st) ho).1
 have T52 : Qf G G52 w w52 := (Qf.ext y49).trans st52
 refine ⟨_, _, rfl, Q0 (fun h6 => ?_) fun h6 => ?_⟩
 ·simp only [Zg, Zb] at h6
  have e1 : QF3 g base count kind key len st s = ((Qf0 (fun _ => true) (Q70 g count) (base + count + 1) (Qg2 kind key len st) s).1, (Qf0 (fun _ => true) (Q70 g count) (base + count + 1) (Qg2 kind key len st) s).2.2) := by
   unfold QF3; rw [if_pos hpre, if_neg h6]
  rw [e1]
  exact ⟨G52, rfl, T52, h52⟩
 ·simp only [Zf, Za] at h6
  refine (Qz4 h52 hokP).mono ?_
  rintro e w56 ⟨G56, rfl, st56, h56⟩
  have e1 : QF3 g base count kind key len st s = (Q12 (Qf0 (fun _ => true) (Q70 g count) (base + count + 1) (Qg2 kind key len st) s).1, Qz [if (Qf0 (fun _ => true) (Q70 g count) (base + count + 1) (Qg2 kind key len st) s).1.down then 130 else 0, if 0 < (Qf0 (fun _ => true) (Q70 g count) (base + count + 1) (Qg2 kind key len st) s).2.1 then 0 else 150]) := by
   unfold QF3; rw [if_pos hpre, if_pos h6]
  rw [e1]
  have T56 := T52.trans st56
  generalize (Qf0 (fun _ => true) (Q70 g count) (base + count + 1) (Qg2 kind key len st) s).2.1 = n1
  cases hd : (Qf0 (fun _ => true) (Q70 g count) (base + count + 1) (Qg2 kind key len st) s).1.down with
  | true =>
   refine ⟨_, rfl, Q40 rfl ⟨G56, rfl, T56, ?_⟩⟩
   exact h56
  | false =>
   refine ⟨_, rfl, QA0 rfl (Q0 (fun h7 => ⟨G56, ?_, T56, h56⟩) fun h7 => ⟨G56, ?_, T56, h56⟩)⟩
   ·simp only [Zg, Zb] at h7
    simp [Qz, h7]
   ·simp only [Zf, Za] at h7
    simp [Qz, h7]
theorem Q9d {g : Geo} {a e z : Int} (h : Qo g ≠ 0) : Qx5 (some (at0 0)) g a e z = Qo g := by
 unfold Qx5 QN
 simp [Qz, h]
theorem QI4 {g : Geo} {a e z : Int} (h : Qo g = 0) (ho : ¬ (0 <= a /\ a <= 1 /\ 0 <= e /\ e <= 2147483547)) : Qx5 (some (at0 0)) g a e z = 1 := by
 unfold Qx5 QN svZ
 rw [if_neg ho]
 simp [Qz, h]
theorem QMd {g : Geo} {a e z : Int} (h : Qo g = 0) (ho : 0 <= a /\ a <= 1 /\ 0 <= e /\ e <= 2147483547) : Qx5 (some (at0 0)) g a e z = z := by
 unfold Qx5 QN svZ
 rw [if_pos ho]
 by_cases hz : z = 0 <;> simp [Qz, h, hz]
theorem QAe {g : Geo} {a e : Int} {L : List ObV} {s : StA} {z : Int} (h : Qx5 (some (at0 0)) g a e (Qz9 L) = z) (hz : z ≠ 0) : svM g a e L s = (s, z) := by
 unfold svM
 rw [if_neg (by rw [h]; exact hz), h]
open Go Go.Vc
open Go.IntKind (i64)
open Go.Value (int)
open Go.Proofs.Tryz (prog)
theorem QTa {w : World} {r : Nat} {s : StA} {G : Nat -> Prop} (h : IsR w r s G) (ho : OkA s) (g : Geo) (area epoch : Int) {p10 : σ} {l10 c10 : Nat} {L : List ObV} (hL : Q57 w p10 l10 L) (hl : l10 <= 1000000) :
  Calls prog 27 #[.pointer (some (at0 r)), gV g, .agg #[int i64 area, int i64 epoch, .slice p10 l10 c10]] w fun e w' => ∃ G', e = .returned (int i64 (svM g area epoch L s).2) /\ Qf G G' w w' /\ IsR w' r (svM g area epoch L s).1 G' := by
 have hGlt := QM.lt h
 refine (F27_calls (some (at0 r)) g.k g.m g.size g.stripes g.slots g.objects area epoch p10 l10 c10 w (fun v w' => ∃ G', v = int i64 (svM g area epoch L s).2 /\ Qf G G' w w' /\ IsR w' r (svM g area epoch L s).1 G')
  (fun q11 q13 p27 l27 _ w25 b38 n39 w40 => ∃ (i k11 k13 : Nat) (G' : Nat -> Prop), q11 = some (at0 k11) /\ q13 = some (at0 k13) /\ n39 = i /\ i <= 2 /\ l27 = 2 /\ w.heap.size <= k11 /\ w.heap.size <= k13 /\ Ext w w25 /\ RowW w25 k11 (Qe1 g) /\ RowW w25 k13 (Q54 area epoch p10 l10 c10) /\ QS0 w25 w.heap.size p27 2 [QR (Qd L) 0, QR (Qd L) 1] ∧
   Qf G G' w25 w40 /\ IsR w40 r (QU0 g area epoch [QR (Qd L) 0, QR (Qd L) 1] s i).1 G' /\ (QU0 g area epoch [QR (Qd L) 0, QR (Qd L) 1] s i).2.2 = 0 /\ b38 = (QU0 g area epoch [QR (Qd L) 0, QR (Qd L) 1] s i).2.1 /\ Qx5 (some (at0 0)) g area epoch (Qz9 L) = 0)
  (fun _ _ _ _ _ _ _ n39 _ => 5 - n39.toNat) ?_).mono (by rintro e w' ⟨v, rfl, G', rfl, h⟩; exact ⟨G', rfl, h⟩)
 intro k11 w12 hk11 k13 w14 hk13
 have s11 := hk11.size
 have s13 := hk13.size
 have x14 := hk11.ext.trans hk13.ext
 have r11 : RowW w14 k11 (Qe1 g) := hk13.ext.rowW ⟨_, hk11.at⟩ id
 have r13 : RowW w14 k13 (Q54 area epoch p10 l10 c10) := ⟨_, hk13.at⟩
 have pre : ∀ {w' : World} {z : Int}, Ext w w' -> Qx5 (some (at0 0)) g area epoch (Qz9 L) = z -> z ≠ 0 -> ∃ G', int i64 z = int i64 (svM g area epoch L s).2 /\ Qf G G' w w' /\ IsR w' r (svM g area epoch L s).1 G' := fun {w' z} hx he hz => by
  rw [QAe he hz]
  exact ⟨G, rfl, Qf.ext hx, QM.ext h hx⟩
 refine ⟨_, r11.row.cell (n := 0) rfl, _, r11.c rfl, _, r11.c rfl, _, r11.c rfl, _, r11.c rfl, _, r11.c rfl, (QD1 g w14).mono ?_⟩
 rintro e w21 ⟨rfl, x21⟩
 have y21 := x14.trans x21
 have a13 : RowW w21 k13 (Q54 area epoch p10 l10 c10) := x21.rowW r13 id
 refine ⟨_, rfl, Q0 (fun h0 => pre y21 (Q9d (by simpa using h0)) (by simpa using h0)) fun h0 => ⟨_, _, _, a13.c rfl, (QHa (hL.ext y21) hl).mono ?_⟩⟩
 simp only [Zf, Za] at h0
 rintro e w25 ⟨x25, hsn⟩
 have y25 := y21.trans x25
 have b13 : RowW w25 k13 (Q54 area epoch p10 l10 c10) := x25.rowW a13 id
 have b11 : RowW w25 k11 (Qe1 g) := (x21.trans x25).rowW r11 id
 have main : ∀ {p27 : σ} {l27 c27 : Nat} {n28 : Int}, ((¬ Qu0 L /\ n28 = 1) \/ (Qu0 L /\ n28 = 0 /\ l27 = 2 /\ QS0 w25 w.heap.size p27 2 [QR (Qd L) 0, QR (Qd L) 1])) -> e = .returned (.tuple #[.slice p27 l27 c27, int i64 n28]) -> True := fun _ _ => trivial
 clear main
 obtain ⟨p27, l27, c27, n28, rfl, hm⟩ : ∃ p27 l27 c27 n28, e = .returned (.tuple #[.slice p27 l27 c27, int i64 n28]) /\ ((¬ Qu0 L /\ n28 = 1) \/ (Qu0 L /\ n28 = 0 /\ l27 = 2 /\ QS0 w25 w.heap.size p27 2 [QR (Qd L) 0, QR (Qd L) 1])) := by
  rcases hsn with ⟨h1, rfl⟩ | ⟨h1, po, co, rfl, hp⟩
  ·exact ⟨_, _, _, _, rfl, .inl ⟨h1, rfl⟩⟩
  ·refine ⟨_, _, _, _, rfl, .inr ⟨h1, rfl, rfl, ?_⟩⟩
   refine ⟨hp.1, fun i bs hi => ?_⟩
   obtain ⟨a, q, m, d, g1, g2, g3, g4, g5, g6⟩ := hp.2 i bs hi
   exact ⟨a, q, m, d, g1, Zu y21.size g2, g3, g4, fun a' ha => Zu y21.size (g5 a' ha), g6⟩
 refine ⟨_, _, _, _, rfl, _, b13.c rfl, Q0 (fun h1 => pre y25 (QI4 h0 fun hh => by simp only [Za] at h1; omega) (by decide)) fun h1 => ⟨_, b13.c rfl, Q0 (fun h2 => pre y25 (QI4 h0 fun hh => by simp only [Za] at h2; omega) (by decide)) fun h2 =>
  ⟨_, b13.c rfl, Q0 (fun h3 => pre y25 (QI4 h0 fun hh => by simp only [Za] at h3; omega) (by decide)) fun h3 => ⟨_, b13.c rfl, Q0 (fun h4 => pre y25 (QI4 h0 fun hh => by simp only [Za] at h4; omega) (by decide)) fun h4 => ?_⟩⟩⟩⟩
 simp only [Zb] at h1 h2 h3 h4
 have hok : 0 <= area /\ area <= 1 /\ 0 <= epoch /\ epoch <= 2147483547 := by omega
 rcases hm with ⟨h1', rfl⟩ | ⟨hmay, rfl, rfl, hparts⟩
 ·exact Q40 rfl (pre y25 ((QMd h0 hok).trans (QD8 h1')) (by decide))
 have hpre : Qx5 (some (at0 0)) g area epoch (Qz9 L) = 0 := (QMd h0 hok).trans (QE8 hmay)
 refine QA0 rfl ⟨⟨0, k11, k13, G, rfl, rfl, rfl, by omega, rfl, by omega, by omega, y25, b11, b13, hparts, Qf.refl _ _, QM.ext h y25, rfl, rfl, hpre⟩, ?_⟩
 clear hparts b11 b13
 rintro b38 n39 w40 ⟨i, k11', k13', G', hq1, hq2, rfl, hi, _, hk1, hk2, _, b11, b13, hparts, st, hR, hz, rfl, _⟩
 cases hq1; cases hq2
 intros
 have hoki := QW6 (g := g) (area := area) (epoch := epoch) (P := [QR (Qd L) 0, QR (Qd L) 1]) ho i
 refine Q0 (fun hlt => ?_) fun hge => ?_
 ·simp only [Za] at hlt
  intro w73 d73
  have nG : ∀ x, w.heap.size <= x -> ¬ G x := fun x hx hg => by have := hGlt x hg; omega
  have c11 : RowW w73 k11 (Qe1 g) := d73.ext.rowW (st.upd.rowW b11 (nG _ hk1)) id
  have c13 : RowW w73 k13 (Q54 area epoch p10 l10 c10) := d73.ext.rowW (st.upd.rowW b13 (nG _ hk2)) id
  have hp73 : QS0 w73 w.heap.size p27 2 [QR (Qd L) 0, QR (Qd L) 1] := (hparts.upd st.upd nG).upd (d73.ext) fun _ _ h => h
  have hi2 : i < 2 := by omega
  obtain ⟨bs, hbs⟩ : ∃ bs, [QR (Qd L) 0, QR (Qd L) 1][i]? = some bs := ⟨[QR (Qd L) 0, QR (Qd L) 1][i]'(by simpa using hi2), Zc _⟩
  have hgd : [QR (Qd L) 0, QR (Qd L) 1].getD i [] = bs := by rw [Zj, hbs]; rfl
  obtain ⟨a, q, m, d, rfl, _, hcell, hb, _, hmd⟩ := hp73.2 i bs hbs
  rw [Ze]
  refine ⟨_, c11.row.cell (n := 0) rfl, _, c11.c rfl, _, c11.c rfl, _, c11.c rfl, _, c11.c rfl, _, c11.c rfl, _, c13.c rfl, _, c13.c rfl, ⟨by omega, hlt⟩, _, _, _, hcell, (Q66 g area (i : Int) w73).mono ?_⟩
  rintro e w84 ⟨rfl, x84⟩
  have d13 : RowW w84 k13 (Q54 area epoch p10 l10 c10) := x84.rowW c13 id
  have T84 : Qf G G' w25 w84 := st.trans (Qf.ext (d73.ext.trans x84))
  refine ⟨_, rfl, ⟨_, d13.c rfl, rfl⟩, ⟨_, _, _, Qm0 hcell x84, rfl⟩, (Qv5 (QM.ext hR (d73.ext.trans x84)) hoki.1 (Ql0 g area i) epoch (hb.ext x84)).mono ?_⟩
  rintro e w89 ⟨G89, rfl, st89, h89⟩
  have hs1 : QU0 g area epoch [QR (Qd L) 0, QR (Qd L) 1] s (i + 1) = ((Qf0 (fun _ => true) (Ql0 g area i) epoch bs (QU0 g area epoch [QR (Qd L) 0, QR (Qd L) 1] s i).1).1, (QU0 g area epoch [QR (Qd L) 0, QR (Qd L) 1] s i).2.1 && decide (0 < (Qf0 (fun _ => true) (Ql0 g area i) epoch bs (QU0 g area epoch [QR (Qd L) 0, QR (Qd L) 1] s i).1).2.1),
    (Qf0 (fun _ => true) (Ql0 g area i) epoch bs (QU0 g area epoch [QR (Qd L) 0, QR (Qd L) 1] s i).1).2.2) := by
   conv => lhs; unfold QU0
   rw [if_pos hz, hgd]
  have T89 := T84.trans st89
  have wr : i64.wrap ((i : Int) + 1) = ((i + 1 : Nat) : Int) := by rw [w64 (by omega)]; omega
  refine ⟨_, _, rfl, Q0 (fun h6 => ?_) fun h6 => ?_⟩
  ·simp only [Zg, Zb] at h6
   have hstuck := Q44 (g := g) (area := area) (epoch := epoch) (P := [QR (Qd L) 0, QR (Qd L) 1]) (s := s) (i := i + 1) (by rw [hs1]; exact h6) (2 - (i + 1))
   rw [show i + 1 + (2 - (i + 1)) = 2 by omega, hs1] at hstuck
   have e1 : svM g area epoch L s = ((Qf0 (fun _ => true) (Ql0 g area i) epoch bs (QU0 g area epoch [QR (Qd L) 0, QR (Qd L) 1] s i).1).1, (Qf0 (fun _ => true) (Ql0 g area i) epoch bs (QU0 g area epoch [QR (Qd L) 0, QR (Qd L) 1] s i).1).2.2) := by
    unfold svM
    rw [if_pos hpre]
    unfold Qy4
    rw [hstuck, if_neg h6]
   rw [e1]
   exact ⟨G89, rfl, (Qf.ext y25).trans T89, h89⟩
  ·simp only [Zf, Za] at h6
   rw [wr]
   have inv : ∀ b, b = (QU0 g area epoch [QR (Qd L) 0, QR (Qd L) 1] s (i + 1)).2.1 -> ∃ (i' k11' k13' : Nat) (G' : Nat -> Prop), some (at0 k11) = some (at0 k11') /\ some (at0 k13) = some (at0 k13') /\ ((i + 1 : Nat) : Int) = i' /\ i' <= 2 /\ 2 = 2 /\ w.heap.size <= k11' /\ w.heap.size <= k13' /\ Ext w w25 /\ RowW w25 k11' (Qe1 g) /\ RowW w25 k13' (Q54 area epoch p10 l10 c10) /\ QS0 w25 w.heap.size (some a) 2 [QR (Qd L) 0, QR (Qd L) 1] ∧
     Qf G G' w25 w89 /\ IsR w89 r (QU0 g area epoch [QR (Qd L) 0, QR (Qd L) 1] s i').1 G' /\ (QU0 g area epoch [QR (Qd L) 0, QR (Qd L) 1] s i').2.2 = 0 /\ b = (QU0 g area epoch [QR (Qd L) 0, QR (Qd L) 1] s i').2.1 /\ Qx5 (some (at0 0)) g area epoch (Qz9 L) = 0 :=
    fun b hb => ⟨i + 1, k11, k13, G89, rfl, rfl, rfl, by omega, rfl, hk1, hk2, y25, b11, b13, hparts, T89, by rw [hs1]; exact h89, by rw [hs1]; exact h6, hb, hpre⟩
   have mu : 5 - ((i + 1 : Nat) : Int).toNat < 5 - (i : Int).toNat := by omega
   refine Q0 (fun hb => ⟨inv _ ?_, mu⟩) fun hb => ⟨inv _ ?_, mu⟩
   ·rw [hs1]
    simp only [hb, Bool.true_and]
   ·rw [hs1]
    simp only [hb, Bool.false_and]
 ·simp only [Zb] at hge
  have hi2 : i = 2 := by omega
  subst hi2
  refine (Qz4 hR hoki.1).mono ?_
  rintro e w93 ⟨G93, rfl, st93, h93⟩
  have T93 := (Qf.ext y25).trans (st.trans st93)
  have e1 : svM g area epoch L s = (Q12 (QU0 g area epoch [QR (Qd L) 0, QR (Qd L) 1] s 2).1, Qz [if (QU0 g area epoch [QR (Qd L) 0, QR (Qd L) 1] s 2).1.down then 130 else 0, if (QU0 g area epoch [QR (Qd L) 0, QR (Qd L) 1] s 2).2.1 then 0 else 150]) := by
   unfold svM
   rw [if_pos hpre]
   unfold Qy4
   rw [if_pos hz]
  rw [e1]
  generalize (QU0 g area epoch [QR (Qd L) 0, QR (Qd L) 1] s 2).2.1 = b2
  cases hd : (QU0 g area epoch [QR (Qd L) 0, QR (Qd L) 1] s 2).1.down with
  | true => exact ⟨_, rfl, Q40 rfl ⟨G93, rfl, T93, h93⟩⟩
  | false =>
   refine ⟨_, rfl, QA0 rfl (Q0 (fun h7 => ⟨G93, ?_, T93, h93⟩) fun h7 => ⟨G93, ?_, T93, h93⟩)⟩
   ·simp only [Zg] at h7
    simp [Qz, h7]
   ·simp only [Zf] at h7
    simp [Qz, h7]
open Go Go.Vc
open Go.IntKind (i64)
open Go.Value (int)
open Go.Proofs.Tryz (prog)
theorem QG9 {g : Geo} {base : Int} (h : Qo g ≠ 0) : QO8 (some (at0 0)) g base = Qo g := by
 unfold QO8 QN
 simp [Qz, h]
theorem QP8 {g : Geo} {base : Int} (h : Qo g = 0) : QO8 (some (at0 0)) g base = okB base := by
 unfold QO8 QN
 simp only [Qz, h, Option.isNone_some]
 simp
 exact fun h => h.symm
def Q7g (g : Geo) (s : StA) (base : Int) (w : World) : σ -> World -> σ -> Nat -> Nat -> Int -> ψ := fun q10 _ p32 l32 c32 n34 w35 =>
 ∃ (k10 i : Nat) (L : List Qp2) (rows : List Value), q10 = some (at0 k10) /\ n34 = i /\ (i : Int) <= g.slots /\ L.length = i /\ l32 = i /\ w.heap.size <= k10 /\ (i = 0 \/ s.down = false) /\ Ext w w35 /\ QD 23 w35 k10 (Qe1 g) /\ (∀ j x, L[j]? = some x -> QT2 g s base j x) ∧
  Qc w35 w.heap.size 38 4 p32 l32 c32 rows /\ Qo0 w35 w.heap.size rows L
theorem Q28 {w : World} {r : Nat} {s : StA} {F : Nat -> Prop} (h : IsR w r s F) (ho : OkA s) (h1 : 1 <= s.M.length) (g : Geo) {p8 : σ} {l8 c8 : Nat} {ks : List Bool} (hks : QA w p8 l8 ks) (base : Int) :
  Calls prog 25 #[.pointer (some (at0 r)), gV g, .slice p8 l8 c8, int i64 base] w fun e w' => ∃ v, e = .returned v /\ QDa g s ks base w v w' := by
 refine F25_calls (some (at0 r)) g.k g.m g.size g.stripes g.slots g.objects p8 l8 c8 base w (QDa g s ks base w) (Q7g g s base w) (fun _ _ _ _ _ n34 _ => 100 - n34.toNat) ?_
 have hM : s.M.length <= 32 := ho.1
 intro k10 w11 hk10
 have s10 := hk10.size
 have r10 : QD 23 w11 k10 (Qe1 g) := hk10.at
 refine ⟨_, r10.row.row.cell (n := 0) rfl, _, r10.row.c rfl, _, r10.row.c rfl, _, r10.row.c rfl, _, r10.row.c rfl, _, r10.row.c rfl, (QD1 g w11).mono ?_⟩
 rintro e w26 ⟨rfl, x18⟩
 have x26 := hk10.ext.trans x18
 have bad : ∀ z, QO8 (some (at0 0)) g base = z -> z ≠ 0 -> QDa g s ks base w (.tuple #[.slice none 0 0, int i64 z]) w26 := fun z hz hn => by
  subst hz
  exact ⟨x26, fun _ => rfl, fun h => (hn h).elim⟩
 refine ⟨_, rfl, Q0 (fun h0 => bad _ (QG9 (by simpa using h0)) (by simpa using h0)) fun h0 => ?_⟩
 simp only [Zf, Za] at h0
 refine Q0 (fun h2 => bad _ ((QP8 h0).trans (if_neg fun hh => by simp only [Za] at h2; omega)) (by decide)) fun h2 => Q0 (fun h3 => bad _ ((QP8 h0).trans (if_neg fun hh => by simp only [Za] at h3; omega)) (by decide)) fun h3 => ?_
 simp only [Zb] at h2 h3
 have hz' : QO8 (some (at0 0)) g base = 0 := (QP8 h0).trans (if_pos (by omega))
 have hgb : QS g /\ 0 <= base /\ base <= 2147483547 := by
  refine ⟨?_, by omega, by omega⟩
  unfold Qo at h0
  by_cases hg : QS g
  ·exact hg
  ·simp [hg] at h0
 have hsl := hgb.1.2.2.2.1
 have hk : w.heap.size <= k10 := by omega
 refine ⟨⟨k10, 0, [], [], rfl, rfl, by omega, rfl, rfl, hk, .inl rfl, x26, r10.upd x18 id, fun j x hj => by simp at hj, Qc.nil _ _ _ _, Qo0.nil _ _⟩, ?_⟩
 clear r10
 rintro p32 l32 c32 n34 w35 ⟨k10', i, L, rows, e10, rfl, hi, hLl, rfl, _, hdn, x35, r10, hL, own, hrows⟩
 simp only [Zi, at0, Zv, and_true] at e10
 subst e10
 intros
 have z35 := x35.size
 refine ⟨_, r10.row.c rfl, Q0 (fun hlt => ?_) (fun hge => ?_)⟩
 ·simp only [Za] at hlt
  refine ⟨_, r10.row.row.cell (n := 0) rfl, _, r10.row.c rfl, _, r10.row.c rfl, _, r10.row.c rfl, _, r10.row.c rfl, _, r10.row.c rfl, (Qe6 g (l32 : Int) w35).mono ?_⟩
  rintro e w91 ⟨rfl, x91⟩
  have y91 := x35.trans x91
  have z91 := x91.size
  refine ⟨_, rfl, (Ql5 (QM.ext h y91) (by omega) h1 (hks.ext y91) _).mono ?_⟩
  rintro e w94 ⟨x94, hdown, hup⟩
  have z94 := x94.size
  cases hdn' : s.down with
  | true =>
   obtain rfl := hdown hdn'
   refine ⟨_, _, _, _, _, _, _, _, rfl, fun k102 w103 hk102 => ?_⟩
   have s102 := hk102.size
   refine Qd4 (e := 117) (v0 := .bool false) (v1 := int i64 0) (v2 := .slice none 0 0) (v3 := int i64 0) (v4 := .bool false) hk102.at fun w108 u108 r108 => ?_
   have x108 : Ext w35 w108 := Q7 ((x91.trans x94).trans hk102.ext) u108 (by omega)
   exact Q0 (fun _ => ⟨x35.trans x108, fun h => (h hz').elim, fun _ => ⟨fun _ => rfl, fun h => by rw [hdn'] at h; cases h⟩⟩) fun h => by simp at h
  | false =>
   obtain ⟨_, b, c, qd, nd, cc, rfl, hbest, rfl, hdat, hnd, hcc1, _⟩ := hup hdn'
   refine ⟨_, _, _, _, _, _, _, _, rfl, fun k102 w103 hk102 => ?_⟩
   have s102 := hk102.size
   refine Qd4 (e := 117) (v0 := .bool (decide (0 < c))) (v1 := int i64 b.1) (v2 := .slice qd nd cc) (v3 := int i64 ((c : Nat) : Int)) (v4 := .bool (wit ks (Qn (Q70 g (l32 : Int)) s.M))) hk102.at fun w108 u108 r108 => ?_
   have x94_108 : Ext w94 w108 := Q7 hk102.ext u108 (by omega)
   have x108 : Ext w35 w108 := (x91.trans x94).trans x94_108
   have hd108 := hdat.ext x94_108
   refine Q0 (fun h => by simp at h) fun _ => ⟨_, _, _, r108.row.c rfl, (QI7 hd108 hcc1 (by omega)).mono ?_⟩
   rintro e w110 ⟨v, rfl, x110, hdec⟩
   obtain ⟨kd1, sd1, ld1, pd1, nd1, cd1, z1, rfl, hres⟩ : ∃ (kd1 : Int) (sd1 : ByteArray) (ld1 : Int) (pd1 : σ) (nd1 cd1 : Nat) (z1 : Int), v = .tuple #[.agg #[int i64 kd1, .string sd1, int i64 ld1, .slice pd1 nd1 cd1], int i64 z1] ∧
     ((∃ x : Qp2, Qa4 b.2 = some x /\ kd1 = x.kind /\ sd1 = QF x.key /\ ld1 = x.len /\ z1 = 0 /\ Qc w110 w108.heap.size 3 1 pd1 nd1 cd1 (Qu2 x.st)) \/ (Qa4 b.2 = none /\ z1 = 160)) := by
    rcases hdec with ⟨x, p, l, c2, hd, rfl, hown⟩ | ⟨hd, rfl⟩
    ·exact ⟨_, _, _, _, _, _, _, rfl, .inl ⟨x, hd, rfl, rfl, rfl, rfl, hown⟩⟩
    ·exact ⟨_, _, _, _, _, _, _, rfl, .inr ⟨hd, rfl⟩⟩
   refine ⟨_, _, _, _, _, _, _, rfl, fun k117 w118 hk117 => ?_⟩
   have s117 := hk117.size
   have z110 := x110.size
   refine QO1 (e := 38) (v0 := int i64 kd1) (v1 := .string sd1) (v2 := int i64 ld1) (v3 := .slice pd1 nd1 cd1) hk117.at fun w122 u122 r122 => ?_
   have x110_122 : Ext w110 w122 := Q7 hk117.ext u122 (by omega)
   have x122 : Ext w35 w122 := x108.trans (x110.trans x110_122)
   have q102 : QD 117 w122 k102 _ := r108.upd (x110.trans x110_122) id
   have y122 := x35.trans x122
   have own122 := own.ext x122
   have rows122 := hrows.ext x122
   have hwe : i64.wrap ((i64.wrap (base + (l32 : Int))) + (1 : Int)) = base + (l32 : Int) + 1 := by rw [w64 (n := base + (l32 : Int)) (by omega), w64 (by omega)]
   have stop : ¬ (0 < c /\ b.1 = base + l32 + 1 /\ ∃ x, Qa4 b.2 = some x) -> ∃ b124, w122.cell? ((at0 k102).add 4) = some (.bool b124) /\ Q2 (!b124) (QDa g s ks base w (.tuple #[.slice none 0 0, int i64 150]) w122) (QDa g s ks base w (.tuple #[.slice p32 l32 c32, int i64 0]) w122) := fun hno => by
    have hsn : Qj2 g s base l32 := ⟨b, c, hbest, hno⟩
    refine ⟨_, q102.row.c rfl, Q0 (fun hw => ?_) fun hw => ?_⟩
    ·refine ⟨y122, fun h => (h hz').elim, fun _ => ⟨fun h => (by rw [hdn'] at h; cases h), fun _ => ⟨L, hL, .inr ⟨by omega, by rw [hLl]; exact hsn, by rw [hLl]; simpa using hw, rfl⟩⟩⟩⟩
    ·refine ⟨y122, fun h => (h hz').elim, fun _ => ⟨fun h => (by rw [hdn'] at h; cases h), fun _ => ⟨L, hL, .inl ⟨.inr ⟨by omega, by rw [hLl]; exact hsn, by rw [hLl]; simpa using hw⟩, p32, c32, rows, by rw [hLl], by rw [hLl]; exact own122, rows122⟩⟩⟩⟩
   refine ⟨_, q102.row.c rfl, Q0 (fun hh => stop fun hg => ?_) fun hh => ⟨_, q102.row.c rfl, Q0 (fun he => stop fun hg => ?_) fun he => Q0 (fun hd => stop fun hg => ?_) fun hd => ?_⟩⟩
   ·have : ¬ 0 < c := by simpa using hh
    exact this hg.1
   ·rw [hwe] at he
    have : ¬ b.1 = base + (l32 : Int) + 1 := by simpa using he
    exact this hg.2.1
   ·obtain ⟨x, hx2⟩ := hg.2.2
    rcases hres with ⟨x', hx', _, _, _, hz1, _⟩ | ⟨hno, _⟩
    ·rw [hz1] at hd; simp at hd
    ·rw [hno] at hx2; cases hx2
   ·rw [hwe] at he
    have hc : 0 < c := by simpa using hh
    have hep : b.1 = base + (l32 : Int) + 1 := by simpa using he
    obtain ⟨x, hx2, rfl, rfl, rfl, _, ownx⟩ : ∃ x : Qp2, Qa4 b.2 = some x /\ kd1 = x.kind /\ sd1 = QF x.key /\ ld1 = x.len /\ z1 = 0 /\ Qc w110 w108.heap.size 3 1 pd1 nd1 cd1 (Qu2 x.st) := by
     rcases hres with hh | ⟨_, hz1⟩
     ·exact hh
     ·rw [hz1] at hd; simp at hd
    refine ⟨_, r122.row.row.cell (n := 0) rfl, _, r122.row.c rfl, _, r122.row.c rfl, _, _, _, r122.row.c rfl, fun k132 w133 hk132 => ?_⟩
    have q132 : RowW w133 k132 #[int i64 x.kind, .string (QF x.key), int i64 x.len, .slice pd1 nd1 cd1] := ⟨_, hk132.at⟩
    have c132 : Q8 w133 (some (at0 k132)) [int i64 x.kind, .string (QF x.key), int i64 x.len, .slice pd1 nd1 cd1] := fun j u hj => ⟨_, rfl, q132.row.cell (by simpa using hj)⟩
    have x133 : Ext w35 w133 := x122.trans hk132.ext
    have own133 := own.ext x133
    have hz133 := (x35.trans x133).size
    obtain ⟨p135, c135, w134, hr, own134, hu134, _⟩ := own133.append QEd 59 (q := some (at0 k132)) (m := 1) (d := 1) (news := [int i64 x.kind, .string (QF x.key), int i64 x.len, .slice pd1 nd1 cd1]) rfl c132 (fun h => by cases h) (by
     intro u hu
     simp only [List.mem_cons, List.not_mem_nil, or_false] at hu
     rcases hu with rfl | rfl | rfl | rfl <;> rfl) (by unfold maxLen; omega) (by omega) hz133
    have hst := Qn8 hx2
    have hnl := ownx.length
    rw [Qa2] at hnl
    have z108 := x108.size
    have rows134 : Qo0 w134 w.heap.size (rows ++ [int i64 x.kind, .string (QF x.key), int i64 x.len, .slice pd1 nd1 cd1]) (L ++ [x]) :=
     ((hrows.ext x133).snoc (o := x) (q := pd1) (n := nd1) (c := cd1) (((ownx.ext x110_122).ext hk132.ext).base_le (by omega)) (by omega)).keep own133 hu134
    have r10' : QD 23 w134 k10 (Qe1 g) := (r10.upd x133 id).upd hu134 fun hp => by
     obtain ⟨cur, hc⟩ := (QC own133 hp).2.2
     exact Qr0 (r10.upd x133 id) hc (by decide)
    have hwr : i64.wrap ((l32 : Int) + 1) = (l32 : Int) + 1 := w64 (by omega)
    refine ⟨_, _, _, _, hr, ⟨k10, l32 + 1, L ++ [x], _, rfl, by rw [hwr]; omega, by omega, by simp [hLl], rfl, hk, .inr hdn', Qb2 (x35.trans x133) own133 hu134, r10', fun j y hj => ?_, own134, rows134⟩, by rw [hwr]; show 100 - ((l32 : Int) + 1).toNat < 100 - (l32 : Int).toNat; omega⟩
    rw [List.getElem?_append] at hj
    split at hj
    ·exact hL j y hj
    ·have hj0 : j - L.length = 0 := by
      rcases hq : j - L.length with _ | q
      ·rfl
      ·rw [hq] at hj; simp at hj
     rw [hj0] at hj
     cases hj
     have : j = l32 := by omega
     subst this
     exact ⟨b, c, hbest, hc, hep, hx2⟩
 ·simp only [Zb] at hge
  have hdown : s.down = false := hdn.resolve_left (by omega)
  exact ⟨x35, fun h => (h hz').elim, fun _ => ⟨fun h => (by rw [hdown] at h; cases h), fun _ => ⟨L, hL, .inl ⟨.inl (by omega), p32, c32, rows, by rw [hLl], by rw [hLl]; exact own, hrows⟩⟩⟩⟩
open Go Go.Vc
open Go.IntKind (i64)
open Go.Value (int)
open Go.Proofs.Tryz (prog)
def QFf : σ -> σ -> σ -> World -> Bool -> Bool -> σ -> Nat -> Nat -> Int -> World -> Nat := fun _ _ _ _ _ _ _ _ _ n20 _ => 5 - n20.toNat
theorem Qwf {w w104 w14 w21 : World} {k10 k0 k12 k87 : Nat} {b17 b18 has wt : Bool} {ep E which n4 n20 : Int} {q : σ} {m d : Nat} {p19 : σ} {l19 c19 : Nat} {rows : List Value} {R : φ} {I0 : σ -> σ -> σ -> World -> Bool -> Bool -> σ -> Nat -> Nat -> Int -> ψ}
  (r87 : RowW w104 k87 #[.bool has, int i64 ep, .slice q m d, int i64 n4, .bool wt]) (r12 : RowW w104 k12 #[int i64 which, int i64 E, .slice none 0 0]) (own : Qc w104 w.heap.size 42 1 p19 l19 c19 rows) (hx : Ext w w104) (hl : l19 <= 10)
  (hmu : 5 - (i64.wrap (n20 + 1)).toNat < 5 - n20.toNat)
  (hI : ∀ b17' b18' p' l' c' w1 w', b17' = (b17 && (has && decide (ep = E))) -> b18' = (b18 && wt) -> l' = l19 + 1 -> Qc w' w.heap.size 42 1 p' l' c' (rows ++ [.slice q m d]) -> Ext w w' -> Ext w104 w1 -> Upd (fun b => p19 = some (at0 b)) w1 w' →
   I0 (some (at0 k10)) (some (at0 k0)) (some (at0 k12)) w14 b17' b18' p' l' c' (i64.wrap (n20 + 1)) w') :
  F72_A0 b17 w104 k87 k12 b18 p19 l19 c19 k10 k0 w14 n20 w21 R I0 QFf := by
 have a1 : (b17 && (has && decide (ep = E))) = false -> F72_A1 b18 w104 k87 p19 l19 c19 k10 k0 k12 w14 n20 b17 w21 R I0 QFf := fun hf => by
  refine Q0 (fun h18 => ⟨_, r87.c rfl, _, _, _, r87.c rfl, fun k121 w122 hk => ?_⟩) fun h18 => ⟨_, _, _, r87.c rfl, fun k126 w127 hk => ?_⟩
  ·obtain ⟨p', l', c', w', hr, hl', ho, hx', hu⟩ := Q51 hx own hk (by omega)
   exact ⟨_, _, _, _, hr, hI _ _ _ _ _ _ _ hf.symm (by rw [h18, Bool.true_and]) hl' ho hx' hk.ext hu, hmu⟩
  ·obtain ⟨p', l', c', w', hr, hl', ho, hx', hu⟩ := Q51 hx own hk (by omega)
   exact ⟨_, _, _, _, hr, hI _ _ _ _ _ _ _ hf.symm (by rw [h18, Bool.false_and]) hl' ho hx' hk.ext hu, hmu⟩
 refine Q0 (fun h17 => ⟨_, r87.c rfl, Q0 (fun hh => ⟨_, r87.c rfl, _, r12.c rfl, Q0 (fun h18 => ⟨_, r87.c rfl, _, _, _, r87.c rfl, fun k110 w111 hk => ?_⟩) fun h18 => ⟨_, _, _, r87.c rfl, fun k115 w116 hk => ?_⟩⟩) fun hh => a1 (by rw [hh]; simp)⟩) fun h17 => a1 (by rw [h17]; rfl)
 ·obtain ⟨p', l', c', w', hr, hl', ho, hx', hu⟩ := Q51 hx own hk (by omega)
  exact ⟨_, _, _, _, hr, hI _ _ _ _ _ _ _ (by rw [h17, hh, Bool.true_and, Bool.true_and]) (by rw [h18, Bool.true_and]) hl' ho hx' hk.ext hu, hmu⟩
 ·obtain ⟨p', l', c', w', hr, hl', ho, hx', hu⟩ := Q51 hx own hk (by omega)
  exact ⟨_, _, _, _, hr, hI _ _ _ _ _ _ _ (by rw [h17, hh, Bool.true_and, Bool.true_and]) (by rw [h18, Bool.false_and]) hl' ho hx' hk.ext hu, hmu⟩
theorem Qtc {w w' : World} {q : σ} {n : Nat} {bs : τ} (hb : Q3 w q n bs) (ht : TyQ w q bs) {e : TypeId} {k : Nat} {row : Array Value} (hr : QD e w k row) (he : e ≠ 5) (hu : Upd (fun x => x = k) w w') : Q3 w' q n bs /\ TyQ w' q bs := by
 have hn : ∀ g, q = some g -> bs ≠ [] -> ¬ g.block = k := fun g hq hne hk => by
  subst hk
  exact he (ht g _ _ _ hq hne hr)
 exact ⟨hb.upd hu hn, ht.upd hb hu hn⟩
theorem Qsc {w w' : World} {q : σ} {n : Nat} {bs : τ} (hb : Q3 w q n bs) (ht : TyQ w q bs) {base : Nat} {e : TypeId} {sz : Nat} {p : σ} {m c : Nat} {xs : List Value} (own : Qc w base e sz p m c xs) (he : e ≠ 5) (hu : Upd (fun b => p = some (at0 b)) w w') : Q3 w' q n bs /\ TyQ w' q bs := by
 have hn : ∀ g, q = some g -> bs ≠ [] -> ¬ p = some (at0 g.block) := fun g hq hne hp => by
  rcases own.where_ with ⟨h0, _⟩ | ⟨b, h0, _, _, _, cur, hc, _⟩
  ·rw [h0] at hp; cases hp
  ·rw [h0] at hp
   simp only [Zi, at0, Zv, and_true] at hp
   subst hp
   exact he (ht g _ _ _ hq hne hc)
 exact ⟨hb.upd hu hn, ht.upd hb hu hn⟩
def Qfg (g : Geo) (which : Int) (s : StA) (ks : List Bool) (w : World) : σ -> σ -> σ -> World -> Bool -> Bool -> σ -> Nat -> Nat -> Int -> ψ := fun q10 q0 q12 _ b17 b18 p19 l19 c19 n20 w21 =>
 ∃ (k10 k0 k12 i : Nat) (V : List (Say × Nat)) (E : Int) (rows : List Value), q10 = some (at0 k10) /\ q0 = some (at0 k0) /\ q12 = some (at0 k12) /\ n20 = i /\ i <= 2 /\ V.length = i /\ l19 = i /\ (i = 0 \/ s.down = false) /\ Ext w w21 /\ w.heap.size <= k10 /\ w.heap.size <= k0 /\ w.heap.size <= k12 /\ k0 ≠ k12 /\ QD 23 w21 k10 (Qe1 g) ∧
  QD 41 w21 k0 #[int i64 0, int i64 0, .slice none 0 0] /\ QD 41 w21 k12 #[int i64 which, int i64 E, .slice none 0 0] /\ (i = 0 -> E = 0) /\ (0 < i -> ∃ v, V[0]? = some v /\ v.1.1 = E) /\ QT9 g which s V /\ b17 = QJ1 V E /\ b18 = Qh3 g which s ks i /\ Qc w21 w.heap.size 42 1 p19 l19 c19 rows ∧
  ∀ (j : Nat) (v : Say × Nat), V[j]? = some v -> ∃ (q : σ) (m d : Nat), rows[j]? = some (Value.slice q m d) /\ Q3 w21 q m v.1.2 /\ TyQ w21 q v.1.2
theorem Qj6 {w : World} {r : Nat} {s : StA} {F : Nat -> Prop} (h : IsR w r s F) (ho : OkA s) (h1 : 1 <= s.M.length) (g : Geo) {p8 : σ} {l8 c8 : Nat} {ks : List Bool} (hks : QA w p8 l8 ks) (which : Int) :
  Calls prog 72 #[.pointer (some (at0 r)), gV g, .slice p8 l8 c8, int i64 which] w fun e w' => ∃ v, e = .returned v /\ arR g which s ks w v w' := by
 refine F72_calls (some (at0 r)) g.k g.m g.size g.stripes g.slots g.objects p8 l8 c8 which w (arR g which s ks w) (Qfg g which s ks w) QFf ?_
 have hM : s.M.length <= 32 := ho.1
 intro k10 w11 hk10 k0 w12 hk0 k12 w13 hk12
 have s10 := hk10.size
 have s0 := hk0.size
 have s12 := hk12.size
 have x13 := (hk10.ext.trans hk0.ext).trans hk12.ext
 have r12 : QD 41 w13 k12 #[int i64 0, int i64 0, .slice none 0 0] := hk12.at
 have r0 : QD 41 w13 k0 #[int i64 0, int i64 0, .slice none 0 0] := QD.upd (show QD _ w12 k0 _ from hk0.at) hk12.ext id
 have r10 : QD 23 w13 k10 (Qe1 g) := QD.upd (show QD _ w11 k10 (Qe1 g) from hk10.at) (hk0.ext.trans hk12.ext) id
 refine Qa1 (v0 := int i64 which) (v1 := int i64 0) (v2 := .slice none 0 0) r12 fun w14 u14 r12' => ?_
 have x14 : Ext w w14 := Q7 x13 u14 (by omega)
 refine ⟨⟨k10, k0, k12, 0, [], 0, [], rfl, rfl, rfl, rfl, by omega, rfl, rfl, .inl rfl, x14, by omega, by omega, by omega, by omega, r10.upd u14 (by omega), r0.upd u14 (by omega), r12', fun _ => rfl, fun h => by omega, fun j v hj => by simp at hj, rfl, rfl, Qc.nil _ _ _ _, fun j v hj => by simp at hj⟩, ?_⟩
 clear r12 r10 r0 r12' x13 x14
 rintro b17 b18 p19 l19 c19 n20 w21 ⟨k10', k0', k12', i, V, E, rows, e10, e0, e12, rfl, hi, hVl, rfl, hdn, x21, g10, g0, g12, gne, r10, r0, r12, hE0, hE1, hV, rfl, rfl, own, hrows⟩
 simp only [Zi, at0, Zv, and_true] at e10 e0 e12
 subst e10
 subst e0
 subst e12
 intros
 have z21 := x21.size
 have g1012 : k10 ≠ k12 := fun hh => by
  subst hh
  exact Qr0 r10 r12 (by decide)
 refine Q0 (fun hlt => ?_) (fun hge => ?_)
 ·simp only [Za] at hlt
  refine ⟨_, r10.row.row.cell (n := 0) rfl, _, r10.row.c rfl, _, r10.row.c rfl, _, r10.row.c rfl, _, r10.row.c rfl, _, r10.row.c rfl, (Q66 g which (l19 : Int) w21).mono ?_⟩
  rintro e w76 ⟨rfl, x76⟩
  have y76 := x21.trans x76
  have z76 := x76.size
  refine ⟨_, rfl, (Ql5 (QM.ext h y76) (by omega) h1 (hks.ext y76) _).mono ?_⟩
  rintro e w79 ⟨x79, hdown, hup⟩
  have z79 := x79.size
  cases hdn' : s.down with
  | true =>
   obtain rfl := hdown hdn'
   refine ⟨_, _, _, _, _, _, _, _, rfl, fun k87 w88 hk87 => ?_⟩
   have s87 := hk87.size
   refine Qd4 (e := 117) (v0 := .bool false) (v1 := int i64 0) (v2 := .slice none 0 0) (v3 := int i64 0) (v4 := .bool false) hk87.at fun w93 u93 r93 => ?_
   have x93 : Ext w21 w93 := Q7 ((x76.trans x79).trans hk87.ext) u93 (by omega)
   have q12 := r12.upd x93 id
   have q0 := r0.upd x93 id
   refine Q0 (fun _ => ⟨_, q12.row.row.cell (n := 0) rfl, _, q12.row.c rfl, _, _, _, q12.row.c rfl, ?_⟩) fun h => by simp at h
   refine Qa1 (v0 := int i64 which) (v1 := int i64 E) (v2 := .slice none 0 0) q0 fun w99 u99 r99 => ?_
   exact ⟨_, r99.row.row.cell (n := 0) rfl, _, r99.row.c rfl, _, _, _, r99.row.c rfl, Q7 (x21.trans x93) u99 (by omega), fun _ => ⟨E, rfl⟩, fun h => by rw [hdn'] at h; cases h⟩
  | false =>
   obtain ⟨_, b, c, qd, nd, cc, rfl, hbest, rfl, hdat, hnd, hcc1, hty⟩ := hup hdn'
   refine ⟨_, _, _, _, _, _, _, _, rfl, fun k87 w88 hk87 => ?_⟩
   have s87 := hk87.size
   refine Qd4 (e := 117) (v0 := .bool (decide (0 < c))) (v1 := int i64 b.1) (v2 := .slice qd nd cc) (v3 := int i64 ((c : Nat) : Int)) (v4 := .bool (wit ks (Qn (Ql0 g which (l19 : Int)) s.M))) hk87.at fun w93 u93 r93 => ?_
   have x79_93 : Ext w79 w93 := Q7 hk87.ext u93 (by omega)
   have x93 : Ext w21 w93 := (x76.trans x79).trans x79_93
   have q12 := r12.upd x93 id
   have q0 := r0.upd x93 id
   have q10 := r10.upd x93 id
   have own93 := own.ext x93
   have hd93 := hdat.ext x79_93
   have ht93 := hty.ext hdat x79_93
   have hl10 : l19 <= 10 := by omega
   have hmu : 5 - (i64.wrap ((l19 : Int) + 1)).toNat < 5 - ((l19 : Int)).toNat := by rw [w64 (by omega)]; omega
   have step : ∀ (E' : Int) (w104 : World), (∃ S, Upd S w93 w104 /\ (∀ x, S x -> x = k12)) -> QD 41 w104 k12 #[int i64 which, int i64 E', .slice none 0 0] -> (0 < l19 -> E' = E) -> (l19 = 0 -> E' = b.1) →
     F72_A0 (QJ1 V E) w104 k87 k12 (Qh3 g which s ks l19) p19 l19 c19 k10 k0 w14 (l19 : Int) w21 (arR g which s ks w) (Qfg g which s ks w) QFf := by
    rintro E' w104 ⟨S, uS, hS⟩ r12' hEp hEz
    have u104 : Upd (fun x => x = k12) w93 w104 := uS.mono fun x _ hx => hS x hx
    have x104 : Ext w w104 := Q7 (x21.trans x93) u104 (by omega)
    have h12lt := r12.row.lt
    have r87 : RowW w104 k87 _ := u104.rowW r93.row (by omega)
    have own104 := own93.upd u104 fun g' hg' hgk => by
     have := (QC own93 hg').2.2
     obtain ⟨cur, hc⟩ := this
     exact Qr0 (hgk ▸ q12) hc (by decide)
    have hd104 := Qtc hd93 ht93 q12 (by decide) u104
    refine Qwf r87 r12'.row own104 x104 hl10 hmu fun b17' b18' p' l' c' w1 w' hb17 hb18 hl' own' hx' hx1 hu1 => ?_
    rw [w64 (by omega)]
    have own1 := own104.ext hx1
    refine ⟨k10, k0, k12, l19 + 1, V ++ [(b, c)], E', _, rfl, rfl, rfl, by omega, by omega, by simp [hVl], by omega, .inr hdn', hx', g10, g0, g12, gne, ?_, ?_, ?_, fun h => by omega, fun _ => ?_, fun j v hj => ?_, ?_, ?_, own', fun j v hj => ?_⟩
    ·exact ((q10.upd u104 g1012).upd hx1 id).upd hu1 fun hp => by
      obtain ⟨cur, hc⟩ := (QC own1 hp).2.2
      exact Qr0 ((q10.upd u104 g1012).upd hx1 id) hc (by decide)
    ·exact ((q0.upd u104 gne).upd hx1 id).upd hu1 fun hp => by
      obtain ⟨cur, hc⟩ := (QC own1 hp).2.2
      exact Qr0 ((q0.upd u104 gne).upd hx1 id) hc (by decide)
    ·exact (r12'.upd hx1 id).upd hu1 fun hp => by
      obtain ⟨cur, hc⟩ := (QC own1 hp).2.2
      exact Qr0 (r12'.upd hx1 id) hc (by decide)
    ·rcases Nat.eq_zero_or_pos l19 with h0 | h0
     ·have : V = [] := Zk (by omega)
      subst this
      exact ⟨(b, c), rfl, (hEz h0).symm⟩
     ·obtain ⟨v, hv, he⟩ := hE1 h0
      refine ⟨v, by rw [Zl (by omega)]; exact hv, by rw [he, hEp h0]⟩
    ·rw [List.getElem?_append] at hj
     split at hj
     ·exact hV j v hj
     ·have hj0 : j - V.length = 0 := by
       rcases hq : j - V.length with _ | q
       ·rfl
       ·rw [hq] at hj; simp at hj
      rw [hj0] at hj
      cases hj
      have : j = l19 := by omega
      subst this
      exact hbest
    ·rw [hb17, Qs5]
     rcases Nat.eq_zero_or_pos l19 with h0 | h0
     ·have : V = [] := Zk (by omega)
      subst this
      rfl
     ·rw [hEp h0]
    ·rw [hb18, Qf6]
    ·have hrl := own104.length
     rw [Nat.mul_one] at hrl
     rw [List.getElem?_append] at hj
     split at hj
     ·obtain ⟨qq, m, d, g1, g2, g3⟩ := hrows j v hj
      have hjl : j < l19 := by omega
      have t := Qtc (g2.ext x93) (g3.ext g2 x93) q12 (by decide) u104
      have t2 := Qsc (t.1.ext hx1) (t.2.ext t.1 hx1) own1 (by decide) hu1
      exact ⟨qq, m, d, by rw [Zl (by omega)]; exact g1, t2.1, t2.2⟩
     ·have hj0 : j - V.length = 0 := by
       rcases hq : j - V.length with _ | q
       ·rfl
       ·rw [hq] at hj; simp at hj
      rw [hj0] at hj
      cases hj
      have t2 := Qsc (hd104.1.ext hx1) (hd104.2.ext hd104.1 hx1) own1 (by decide) hu1
      exact ⟨qd, nd, cc, by rw [Zm (by omega), show j - rows.length = 0 by omega]; rfl, t2.1, t2.2⟩
   refine Q0 (fun h => by simp at h) fun _ => Q0 (fun h0 => ?_) fun h0 => ?_
   ·have hl0 : l19 = 0 := by simp only [Za] at h0; omega
    refine ⟨_, r93.row.c rfl, q12.row.live (by simp), fun w104 s104 => ?_⟩
    exact step b.1 w104 ⟨_, Qw0 s104, fun x hx => hx⟩ (q12.set s104) (fun h => by omega) fun _ => rfl
   ·have hl0 : 0 < l19 := by simp only [Zb] at h0; omega
    exact step E w93 ⟨fun _ => False, Upd.refl _ _, fun x hx => hx.elim⟩ q12 (fun _ => rfl) fun h => by omega
 ·simp only [Zb] at hge
  have hi2 : l19 = 2 := by omega
  subst hi2
  have hdown : s.down = false := hdn.resolve_left (by omega)
  obtain ⟨v0, v1, rfl⟩ : ∃ v0 v1, V = [v0, v1] := by
   match V, hVl with
   | [v0, v1], _ => exact ⟨v0, v1, rfl⟩
  obtain ⟨v, hv0, hEv⟩ := hE1 (by omega)
  have hE : E = v0.1.1 := by simp only [List.getElem?_cons_zero, Zi] at hv0; rw [← hEv, hv0]
  subst hE
  have hlen0 := Qu3 (hV 0 v0 rfl)
  have hlen1 := Qu3 (hV 1 v1 rfl)
  have hparts : Ql6 w21 p19 2 [v0.1.2, v1.1.2] := by
   refine ⟨rfl, fun j bs hj => ?_⟩
   have hcase : (j = 0 /\ bs = v0.1.2) \/ (j = 1 /\ bs = v1.1.2) := by
    match j, hj with
    | 0, hj => left; exact ⟨rfl, by simpa using hj.symm⟩
    | 1, hj => right; exact ⟨rfl, by simpa using hj.symm⟩
    | j + 2, hj => simp at hj
   rcases hcase with ⟨rfl, rfl⟩ | ⟨rfl, rfl⟩
   ·obtain ⟨qq, m, d, g1, g2, _⟩ := hrows 0 v0 rfl
    obtain ⟨ap, ha, hc⟩ := own.cells _ _ g1
    exact ⟨ap, _, m, d, ha, hc, g2⟩
   ·obtain ⟨qq, m, d, g1, g2, _⟩ := hrows 1 v1 rfl
    obtain ⟨ap, ha, hc⟩ := own.cells _ _ g1
    exact ⟨ap, _, m, d, ha, hc, g2⟩
  have g12lt := r12.row.lt
  refine (QP7 (c1 := c19) hparts (fun x hx => by
   simp only [List.mem_cons, List.not_mem_nil, or_false] at hx
   rcases hx with rfl | rfl
   ·exact hlen0
   ·exact hlen1)).mono ?_
  rintro e w177 ⟨v2, rfl, x177, hh⟩
  have y177 := x21.trans x177
  have q12 := r12.upd x177 id
  obtain ⟨os, p, c, rows2, z, rfl, hos, hz, own2, hr2⟩ : ∃ (os : List ObV) (p : σ) (c : Nat) (rows2 : List Value) (z : Int), v2 = .tuple #[.slice p os.length c, int i64 z] /\ os = (unD [v0.1.2, v1.1.2]).getD [] /\ decide (z = 0) = (unD [v0.1.2, v1.1.2]).isSome /\ Qc w177 w21.heap.size 78 4 p os.length c rows2 /\ QH w177 w21.heap.size rows2 os := by
   rcases hh with ⟨os, p, c, rows2, hU, rfl, own2, hr2⟩ | ⟨hU, rfl⟩
   ·exact ⟨os, p, c, rows2, 0, rfl, by rw [hU]; rfl, by rw [hU]; rfl, own2, hr2⟩
   ·exact ⟨[], none, 0, [], 160, rfl, by rw [hU]; rfl, by rw [hU]; rfl, Qc.nil _ _ _ _, QH.nil _ _⟩
  have q0 := r0.upd x177 id
  refine ⟨_, _, _, _, rfl, q12.row.live (by simp), fun w181 s181 => ?_⟩
  have t12 := q12.set s181
  have u181 := Qw0 s181
  have t0 := q0.upd u181 gne
  refine ⟨_, t12.row.row.cell (n := 0) rfl, _, t12.row.c rfl, _, _, _, t12.row.c rfl, ?_⟩
  have fin2 : ∀ (w187 : World), Upd (fun x => x = k0) w181 w187 -> ∀ wh, wh = (QJ1 [v0, v1] v0.1.1 && (unD [v0.1.2, v1.1.2]).isSome) -> arR g which s ks w (.tuple #[QG1 which v0.1.1 p os.length c, .bool wh, .bool (Qh3 g which s ks 2), int i64 0]) w187 := fun w187 u187 wh hwh => by
   have uu : Upd (fun x => x = k12 \/ x = k0) w177 w187 := (u181.mono fun _ _ h => .inl h).trans u187 fun _ _ h => .inr h
   have g0lt := r0.row.lt
   refine ⟨Q7 (Q7 y177 u181 g12) u187 g0, fun h => (by rw [hdown] at h; cases h), fun _ => ⟨v0, v1, os, p, c, rows2, hV, hos, by rw [hwh], (own2.upd uu fun g' hg' hgk => by have := (QC own2 hg').1; rcases hgk with h | h <;> omega).base_le z21, (hr2.upd uu fun x hx => by rcases hx with rfl | rfl <;> omega).base_le z21⟩⟩
  refine Q0 (fun hw => ?_) fun hw => ?_
  ·refine Qa1 (v0 := int i64 which) (v1 := int i64 v0.1.1) (v2 := .slice p os.length c) t0 fun w187 u187 t187 => ?_
   exact ⟨_, t187.row.row.cell (n := 0) rfl, _, t187.row.c rfl, _, _, _, t187.row.c rfl, fin2 w187 u187 _ (by rw [hw, Bool.true_and, hz])⟩
  ·refine Qa1 (v0 := int i64 which) (v1 := int i64 v0.1.1) (v2 := .slice p os.length c) t0 fun w187 u187 t187 => ?_
   exact ⟨_, t187.row.row.cell (n := 0) rfl, _, t187.row.c rfl, _, _, _, t187.row.c rfl, fin2 w187 u187 _ (by rw [hw, Bool.false_and])⟩
open Go Go.Vc
open Go.IntKind (i64)
open Go.Value (int)
open Go.Proofs.Tryz (prog)
def QMa (i : Nat) (L : QGf) (r : ARd) : QGf := if r.whole && (!L.found || decide (L.epoch < r.epoch)) then ⟨true, L.sure && (r.whole || r.seen), i, r.epoch, r.os⟩ else { L with sure := L.sure && (r.whole || r.seen) }
theorem Qz8 (A : Nat -> ARd) : Q80 A 2 = QMa 1 (QMa 0 ⟨false, true, 0, 0, []⟩ (A 0)) (A 1) := rfl
theorem Qce (A : Nat -> ARd) : ((Q80 A 2).found && (Q80 A 2).sure) = (((A 0).whole || (A 1).whole) && (((A 0).whole || (A 0).seen) && ((A 1).whole || (A 1).seen))) := by
 rw [Qz8]
 generalize A 0 = a0
 generalize A 1 = a1
 obtain ⟨e0, o0, w0, s0⟩ := a0
 obtain ⟨e1, o1, w1, s1⟩ := a1
 cases w0 <;> cases w1 <;> cases s0 <;> cases s1 <;> simp [QMa] <;> split <;> simp
theorem QYc (A : Nat -> ARd) (h : ((A 1).whole && (!(A 0).whole || decide ((A 0).epoch < (A 1).epoch))) = true) : (Q80 A 2).area = 1 /\ (Q80 A 2).epoch = (A 1).epoch /\ (Q80 A 2).os = (A 1).os := by
 rw [Qz8]
 generalize A 0 = a0 at h ⊢
 generalize A 1 = a1 at h ⊢
 obtain ⟨e0, o0, w0, s0⟩ := a0
 obtain ⟨e1, o1, w1, s1⟩ := a1
 cases w0 <;> cases w1 <;> simp at h <;> simp [QMa, h]
theorem QEb (A : Nat -> ARd) (h : ((A 1).whole && (!(A 0).whole || decide ((A 0).epoch < (A 1).epoch))) = false) (hw : (A 0).whole = true) : (Q80 A 2).area = 0 /\ (Q80 A 2).epoch = (A 0).epoch /\ (Q80 A 2).os = (A 0).os := by
 rw [Qz8]
 generalize A 0 = a0 at h hw ⊢
 generalize A 1 = a1 at h ⊢
 obtain ⟨e0, o0, w0, s0⟩ := a0
 obtain ⟨e1, o1, w1, s1⟩ := a1
 simp only at hw
 subst hw
 cases w1 <;> simp at h
 ·simp [QMa]
 ·have : ¬ e0 < e1 := by omega
  simp [QMa, this]
theorem QCc {w71 : World} {k k11 : Nat} {a e : Int} {p : σ} {n c : Nat} (rk : QD 41 w71 k #[int i64 a, int i64 e, .slice p n c]) (r11 : QD 41 w71 k11 #[int i64 0, int i64 0, .slice none 0 0]) {R : φ}
  (hR : ∀ w', Upd (fun x => x = k11) w71 w' -> R (.tuple #[QG1 a e p n c, int i64 0]) w') : F28_A3 w71 k k11 R := by
 refine ⟨_, rk.row.row.cell (n := 0) rfl, _, rk.row.c rfl, _, _, _, rk.row.c rfl, ?_⟩
 refine Qa1 (v0 := int i64 a) (v1 := int i64 e) (v2 := .slice p n c) r11 fun w' u' r' => ?_
 exact ⟨_, r'.row.row.cell (n := 0) rfl, _, r'.row.c rfl, _, _, _, r'.row.c rfl, hR w' u'⟩
theorem QDc {w19 : World} {k11 : Nat} {z : Int} {R : φ} (r11 : QD 41 w19 k11 #[int i64 0, int i64 0, .slice none 0 0]) (hR : ∀ w', Upd (fun x => x = k11) w19 w' -> R (.tuple #[QG1 0 0 none 0 0, int i64 z]) w') : F28_A5 w19 k11 z R := by
 refine Qa1 (v0 := int i64 0) (v1 := int i64 0) (v2 := .slice none 0 0) r11 fun w' u' r' => ?_
 exact ⟨_, r'.row.row.cell (n := 0) rfl, _, r'.row.c rfl, _, _, _, r'.row.c rfl, hR w' u'⟩
theorem QHe {w19 : World} {k11 : Nat} {R : φ} (r11 : QD 41 w19 k11 #[int i64 0, int i64 0, .slice none 0 0]) (hR : ∀ w', Upd (fun x => x = k11) w19 w' -> R (.tuple #[QG1 0 0 none 0 0, int i64 150]) w') : F28_A4 w19 k11 R := by
 refine Qa1 (v0 := int i64 0) (v1 := int i64 0) (v2 := .slice none 0 0) r11 fun w' u' r' => ?_
 exact ⟨_, r'.row.row.cell (n := 0) rfl, _, r'.row.c rfl, _, _, _, r'.row.c rfl, hR w' u'⟩
theorem Q18 {w : World} {r : Nat} {s : StA} {F : Nat -> Prop} (h : IsR w r s F) (ho : OkA s) (h1 : 1 <= s.M.length) (g : Geo) {p8 : σ} {l8 c8 : Nat} {ks : List Bool} (hks : QA w p8 l8 ks) :
  Calls prog 28 #[.pointer (some (at0 r)), gV g, .slice p8 l8 c8] w fun e w' => ∃ v, e = .returned v /\ Qx9 g s ks w v w' := by
 refine F28_calls (some (at0 r)) g.k g.m g.size g.stripes g.slots g.objects p8 l8 c8 w (Qx9 g s ks w) ?_
 intro k9 w10 hk9 k11 w12 hk11
 have s9 := hk9.size
 have s11 := hk11.size
 have x12 := hk9.ext.trans hk11.ext
 have r9 : QD 23 w12 k9 (Qe1 g) := QD.upd (show QD _ w10 k9 (Qe1 g) from hk9.at) hk11.ext id
 have r11 : QD 41 w12 k11 #[int i64 0, int i64 0, .slice none 0 0] := hk11.at
 refine ⟨_, r9.row.row.cell (n := 0) rfl, _, r9.row.c rfl, _, r9.row.c rfl, _, r9.row.c rfl, _, r9.row.c rfl, _, r9.row.c rfl, (QD1 g w12).mono ?_⟩
 rintro e w19 ⟨rfl, x19⟩
 have y19 := x12.trans x19
 have z19 := x19.size
 have g11 : w.heap.size <= k11 := by omega
 have a9 := r9.upd x19 id
 have a11 := r11.upd x19 id
 refine ⟨_, rfl, Q0 (fun hn => ?_) fun hz => ?_⟩
 ·have hn' : Qo g ≠ 0 := by simpa using hn
  exact QDc a11 fun w' hu => ⟨Q7 y19 hu g11, fun _ => rfl, fun h => (hn' h).elim⟩
 have hz' : Qo g = 0 := by simpa using hz
 have off : ∀ {wx wy : World}, Ext w wx -> Upd (fun x => x = k11) wx wy -> s.down = true -> Qx9 g s ks w (.tuple #[QG1 0 0 none 0 0, int i64 130]) wy := fun hx hu hd =>
  ⟨Q7 hx hu g11, fun h => (h hz').elim, fun _ => ⟨fun _ => rfl, fun h => by rw [hd] at h; cases h⟩⟩
 refine ⟨_, a9.row.row.cell (n := 0) rfl, _, a9.row.c rfl, _, a9.row.c rfl, _, a9.row.c rfl, _, a9.row.c rfl, _, a9.row.c rfl, (Qj6 (QM.ext h y19) ho h1 g (hks.ext y19) 0).mono ?_⟩
 rintro e w34 ⟨v, rfl, x34, hd, hu⟩
 cases hdn : s.down with
 | true =>
  obtain ⟨E, rfl⟩ := hd hdn
  refine ⟨_, _, _, _, _, _, _, _, rfl, fun k42 w43 hk42 => ?_⟩
  have s42 := hk42.size
  refine Qa1 (e := 41) (v0 := int i64 0) (v1 := int i64 E) (v2 := .slice none 0 0) hk42.at fun w46 u46 r46 => ?_
  have x46 : Ext w19 w46 := Q7 (x34.trans hk42.ext) u46 (by have := x34.size; omega)
  exact Q0 (fun _ => QDc (a11.upd x46 id) fun w' hu' => off (y19.trans x46) hu' hdn) fun h => by simp at h
 | false =>
  obtain ⟨v0, v1, os0, p0, c0, rows0, hr0, hos0, rfl, own0, hrows0⟩ := hu hdn
  refine ⟨_, _, _, _, _, _, _, _, rfl, fun k42 w43 hk42 => ?_⟩
  have s42 := hk42.size
  have z34 := x34.size
  refine Qa1 (e := 41) (v0 := int i64 0) (v1 := int i64 v0.1.1) (v2 := .slice p0 os0.length c0) hk42.at fun w46 u46 r46 => ?_
  have x34_46 : Ext w34 w46 := Q7 hk42.ext u46 (by omega)
  have x46 := x34.trans x34_46
  have y46 := y19.trans x46
  have b9 := a9.upd x46 id
  refine Q0 (fun h => by simp at h) fun _ => ?_
  refine ⟨_, b9.row.row.cell (n := 0) rfl, _, b9.row.c rfl, _, b9.row.c rfl, _, b9.row.c rfl, _, b9.row.c rfl, _, b9.row.c rfl, (Qj6 (QM.ext h y46) ho h1 g (hks.ext y46) 1).mono ?_⟩
  rintro e w59 ⟨v', rfl, x59, _, hu'⟩
  obtain ⟨v2, v3, os1, p1, c1, rows1, hr1, hos1, rfl, own1, hrows1⟩ := hu' hdn
  refine ⟨_, _, _, _, _, _, _, _, rfl, fun k67 w68 hk67 => ?_⟩
  have s67 := hk67.size
  have z46 := x46.size
  have z59 := x59.size
  refine Qa1 (e := 41) (v0 := int i64 1) (v1 := int i64 v2.1.1) (v2 := .slice p1 os1.length c1) hk67.at fun w71 u71 r71 => ?_
  have x59_71 : Ext w59 w71 := Q7 hk67.ext u71 (by omega)
  have x46_71 := x59.trans x59_71
  have y71 := y46.trans x46_71
  have t11 := a11.upd (x46.trans x46_71) id
  have t42 := r46.upd x46_71 id
  refine Q0 (fun h => by simp at h) fun _ => ?_
  generalize hw0 : (QJ1 [v0, v1] v0.1.1 && (unD [v0.1.2, v1.1.2]).isSome) = w0
  generalize hw1 : (QJ1 [v2, v3] v2.1.1 && (unD [v2.1.2, v3.1.2]).isSome) = w1
  generalize hs0 : Qh3 g 0 s ks 2 = sn0
  generalize hs1 : Qh3 g 1 s ks 2 = sn1
  obtain ⟨A, hA0, hA1⟩ : ∃ A : Nat -> ARd, A 0 = ⟨v0.1.1, os0, w0, sn0⟩ /\ A 1 = ⟨v2.1.1, os1, w1, sn1⟩ := ⟨fun j => if j = 0 then ⟨v0.1.1, os0, w0, sn0⟩ else ⟨v2.1.1, os1, w1, sn1⟩, rfl, rfl⟩
  have hA : ∀ j : Nat, j < 2 -> Qr2 g s ks (j : Int) (A j) := fun j hj => by
   match j, hj with
   | 0, _ => exact ⟨v0, v1, hr0, by rw [hA0, hos0, ← hw0, ← hs0]; rfl⟩
   | 1, _ => exact ⟨v2, v3, hr1, by rw [hA1, hos1, ← hw1, ← hs1]; rfl⟩
  have hfs := Qce A
  rw [hA0, hA1] at hfs
  simp only at hfs
  have no : ((w0 || w1) && ((w0 || sn0) && (w1 || sn1))) = false -> F28_A4 w71 k11 (Qx9 g s ks w) := fun hf => QHe t11 fun w' hu => ⟨Q7 y71 hu g11, fun h => (h hz').elim, fun _ => ⟨fun h => (by rw [hdn] at h; cases h), fun _ => ⟨A, hA, fun _ => rfl, fun h => by rw [hfs, hf] at h; cases h⟩⟩⟩
  have yes0 : ((w0 || w1) && ((w0 || sn0) && (w1 || sn1))) = true -> (w1 && (!w0 || decide (v0.1.1 < v2.1.1))) = false -> w0 = true -> F28_A3 w71 k42 k11 (Qx9 g s ks w) := fun ht hp hw => by
   obtain ⟨e1, e2, e3⟩ := QEb A (by rw [hA0, hA1]; exact hp) (by rw [hA0]; exact hw)
   rw [hA0] at e2 e3
   have o71 := own0.ext (x34_46.trans x46_71)
   refine QCc t42 t11 fun w' hu => ⟨Q7 y71 hu g11, fun h => (h hz').elim, fun _ => ⟨fun h => (by rw [hdn] at h; cases h), fun _ => ⟨A, hA, fun h => (by rw [hfs, ht] at h; cases h), fun _ => ⟨p0, c0, rows0, by rw [e1, e2, e3], ?_, ?_⟩⟩⟩⟩
   ·rw [e3]
    refine Qc.base_le (o71.upd hu fun g' hg' hgk => ?_) (show w.heap.size <= w19.heap.size from y19.size)
    obtain ⟨cur, hc⟩ := (QC o71 hg').2.2
    exact Qr0 t11 (hgk ▸ hc) (by decide)
   ·rw [e3]
    exact ((hrows0.ext (x34_46.trans x46_71)).upd1 t11 (by decide) hu).base_le y19.size
  have yes1 : ((w0 || w1) && ((w0 || sn0) && (w1 || sn1))) = true -> (w1 && (!w0 || decide (v0.1.1 < v2.1.1))) = true -> F28_A3 w71 k67 k11 (Qx9 g s ks w) := fun ht hp => by
   obtain ⟨e1, e2, e3⟩ := QYc A (by rw [hA0, hA1]; exact hp)
   rw [hA1] at e2 e3
   have o71 := own1.ext x59_71
   refine QCc r71 t11 fun w' hu => ⟨Q7 y71 hu g11, fun h => (h hz').elim, fun _ => ⟨fun h => (by rw [hdn] at h; cases h), fun _ => ⟨A, hA, fun h => (by rw [hfs, ht] at h; cases h), fun _ => ⟨p1, c1, rows1, by rw [e1, e2, e3], ?_, ?_⟩⟩⟩⟩
   ·rw [e3]
    refine Qc.base_le (o71.upd hu fun g' hg' hgk => ?_) (show w.heap.size <= w46.heap.size from y46.size)
    obtain ⟨cur, hc⟩ := (QC o71 hg').2.2
    exact Qr0 t11 (hgk ▸ hc) (by decide)
   ·rw [e3]
    exact ((hrows1.ext x59_71).upd1 t11 (by decide) hu).base_le y46.size
  clear hfs hA hA0 hA1 hw0 hw1 hs0 hs1
  have a2 : ((w0 || w1) && ((w0 || sn0) && (w1 || sn1))) = true -> F28_A2 w0 w71 k67 k11 w1 k42 (Qx9 g s ks w) := fun ht => by
   cases w0 with
   | false =>
    have hw1 : w1 = true := by cases w1 <;> simp_all
    exact Q0 (fun _ => yes1 ht (by rw [hw1]; rfl)) fun h => by cases h
   | true =>
    refine Q0 (fun h => by cases h) fun _ => Q0 (fun hw => ⟨_, r71.row.c rfl, _, t42.row.c rfl, Q0 (fun hl => yes1 ht (by rw [hw, hl]; rfl)) fun hl => yes0 ht (by rw [hw, hl]; rfl) rfl⟩) fun hw => yes0 ht (by rw [hw]; rfl) rfl
  have a1 : (w0 || w1) = true -> (w0 || sn0) = true -> F28_A1 w1 sn1 w71 k11 w0 k67 k42 (Qx9 g s ks w) := fun hf h0 =>
   Q0 (fun hw => Q0 (fun hsn => no (by rw [hf, h0]; simp at hw hsn; rw [hw, hsn]; rfl)) fun hsn => a2 (by rw [hf, h0]; simp at hsn; rw [hsn]; simp)) fun hw => a2 (by rw [hf, h0]; simp at hw; rw [hw]; rfl)
  have a0 : (w0 || w1) = true -> F28_A0 w0 sn0 w71 k11 w1 sn1 k67 k42 (Qx9 g s ks w) := fun hf =>
   Q0 (fun hw => Q0 (fun hsn => no (by simp at hw hsn; rw [hw, hsn]; simp)) fun hsn => a1 hf (by simp at hsn; rw [hsn]; simp)) fun hw => a1 hf (by simp at hw; rw [hw]; rfl)
  exact Q0 (fun h0 => Q0 (fun h1 => no (by simp at h0 h1; rw [h0, h1]; rfl)) fun h1 => a0 (by simp at h1; rw [h1]; simp)) fun h0 => a0 (by simp at h0; rw [h0]; rfl)
open Go Go.Vc
open Go.IntKind (i64)
open Go.Value (int)
open Go.Proofs.Tryz (prog)
theorem Q72 {s : StA} (h : OkA s) : OkA (Q12 s) /\ (Q12 s).M.length = s.M.length := by
 unfold Q12
 split
 ·exact ⟨h, rfl⟩
 ·exact ⟨⟨by simp only [Q22]; exact h.1, h.2.1, h.2.2⟩, by simp only [Q22]⟩
theorem Qyf {g : Geo} {a E : Int} {L : List ObV} {s : StA} (h : OkA s) : OkA (svM g a E L s).1 /\ (svM g a E L s).1.M.length = s.M.length := by
 have h2 := QW6 (g := g) (area := a) (epoch := E) (P := [QR (Qd L) 0, QR (Qd L) 1]) h 2
 unfold svM
 split
 ·unfold Qy4
  split
  ·exact ⟨(Q72 h2.1).1, (Q72 h2.1).2.trans h2.2⟩
  ·exact h2
 ·exact ⟨h, rfl⟩
theorem QFe {g : Geo} {base count kind : Int} {key : ByteArray} {len : Int} {st : List Int} {s : StA} (h : OkA s) : OkA (QF3 g base count kind key len st s).1 /\ (QF3 g base count kind key len st s).1.M.length = s.M.length := by
 have h2 := QG4 (to := fun _ => true) (addr := Q70 g count) (epoch := base + count + 1) (d := Qg2 kind key len st) h
 unfold QF3
 split
 ·split
  ·exact ⟨(Q72 h2.1).1, (Q72 h2.1).2.trans h2.2⟩
  ·exact h2
 ·exact ⟨h, rfl⟩
theorem QGe {L : List Int} {s : StA} (h : OkA s) : OkA (Qy0 L s).1 /\ (Qy0 L s).1.M.length = s.M.length := by
 have h2 := QB6 (L := L) h L.length
 unfold Qy0
 split
 ·exact h2
 ·exact ⟨(Q72 h2.1).1, (Q72 h2.1).2.trans h2.2⟩
theorem Quc (P : List (τ)) : ((unD P).getD []).length <= 64 /\ ∀ o ∈ (unD P).getD [], o.st.length <= 256 := by
 have hm : ∀ os, unD P = some os -> Qu0 os := fun os h => by
  unfold unD at h
  split at h
  ·cases h
  ·split at h
   ·cases h
   ·unfold unE at h
    split at h
    ·split at h
     ·rename_i hm; cases h; exact hm
     ·cases h
    ·cases h
 cases hu : unD P with
 | none => simp
 | some os =>
  have h := hm os hu
  refine ⟨h.2.2, fun o ho => ?_⟩
  have ho' : o ∈ os := ho
  obtain ⟨j, hj, he⟩ := List.getElem_of_mem ho'
  have h1 := (h.1 j hj) o (by rw [Zc hj, he])
  exact h1.1.1.2.2.2
theorem QCa {g : Geo} {which : Int} {s : StA} {v0 v1 u0 u1 : Say × Nat} (h : QT9 g which s [v0, v1]) (h' : QT9 g which s [u0, u1]) : v0 = u0 /\ v1 = u1 := by
 obtain ⟨a1, a2⟩ := (h 0 v0 rfl).unique (h' 0 u0 rfl)
 obtain ⟨b1, b2⟩ := (h 1 v1 rfl).unique (h' 1 u1 rfl)
 exact ⟨Prod.ext a1 a2, Prod.ext b1 b2⟩
theorem Q4b {g : Geo} {s : StA} {ks : List Bool} {i : Int} {r r' : ARd} (h : Qr2 g s ks i r) (h' : Qr2 g s ks i r') : r = r' := by
 obtain ⟨v0, v1, hr, rfl⟩ := h
 obtain ⟨u0, u1, hr', rfl⟩ := h'
 obtain ⟨rfl, rfl⟩ := QCa hr hr'
 rfl
theorem Qr7 {g : Geo} {s : StA} {ks : List Bool} {A : Nat -> ARd} (h : ∀ j : Nat, j < 2 -> Qr2 g s ks (j : Int) (A j)) : ∀ i, i <= 2 -> (Q80 A i).os.length <= 64 /\ ∀ o ∈ (Q80 A i).os, o.st.length <= 256
 | 0, _ => by simp [Q80]
 | i + 1, hi => by
  have ih := Qr7 h i (by omega)
  obtain ⟨v0, v1, _, he⟩ := h i (by omega)
  rw [Q80]
  split
  ·rw [he]; exact Quc _
  ·exact ih
theorem Qy9 {g : Geo} {s : StA} {ks : List Bool} {w1 w2 w1' w2' : World} {v v' : Value} (h : Qx9 g s ks w1 v w1') (h' : Qx9 g s ks w2 v' w2') : ∃ a e p l c p' l' c' z L, v = .tuple #[QG1 a e p l c, int i64 z] /\ v' = .tuple #[QG1 a e p' l' c', int i64 z] ∧
  Q38 w1' p l L /\ Q38 w2' p' l' L /\ l <= 1000 /\ ∀ o ∈ L, o.st.length <= 1000 := by
 have nilo : ∀ w : World, Q38 w none 0 [] := fun w => ⟨rfl, fun i o h => by simp at h⟩
 obtain ⟨_, h1, h2⟩ := h
 obtain ⟨_, h1', h2'⟩ := h'
 by_cases hc : Qo g = 0
 ·obtain ⟨h3, h4⟩ := h2 hc
  obtain ⟨h3', h4'⟩ := h2' hc
  cases hd : s.down with
  | true => exact ⟨0, 0, none, 0, 0, none, 0, 0, 130, [], h3 hd, h3' hd, nilo _, nilo _, by omega, by simp⟩
  | false =>
   obtain ⟨A, hA, h5, h6⟩ := h4 hd
   obtain ⟨A', hA', h5', h6'⟩ := h4' hd
   have he : Q80 A' 2 = Q80 A 2 := QU3 2 fun j hj => (Q4b (hA' j hj) (hA j hj))
   rw [he] at h5' h6'
   cases hf : (Q80 A 2).found && (Q80 A 2).sure with
   | false => exact ⟨0, 0, none, 0, 0, none, 0, 0, 150, [], h5 hf, h5' hf, nilo _, nilo _, by omega, by simp⟩
   | true =>
    obtain ⟨p, c, rows, rfl, own, hr⟩ := h6 hf
    obtain ⟨p', c', rows', rfl, own', hr'⟩ := h6' hf
    obtain ⟨b1, b2⟩ := Qr7 hA 2 (Nat.le_refl _)
    exact ⟨_, _, p, _, c, p', _, c', 0, (Q80 A 2).os, rfl, rfl, (hr.obs own).w, (hr'.obs own').w, by omega, fun o ho => Zu (b2 o ho) (by omega)⟩
 ·exact ⟨0, 0, none, 0, 0, none, 0, 0, Qo g, [], h1 hc, h1' hc, nilo _, nilo _, by omega, by simp⟩
def Qp2.k (x : Qp2) : QKc := ⟨x.kind, QF x.key, x.len, x.st⟩
theorem Qo0.toK {w : World} {base base2 : Nat} {rows : List Value} {R : List Qp2} (h : Qo0 w base rows R) {p : σ} {l c : Nat} (own : Qc w base2 38 4 p l c rows) : Qj3 w p l (R.map Qp2.k) := by
 have hl := own.length
 refine ⟨by have := h.len; simp; omega, fun i o hi => ?_⟩
 rw [Zq] at hi
 cases hx : R[i]? with
 | none => rw [hx] at hi; cases hi
 | some x =>
  rw [hx] at hi
  simp only [Option.map_some, Zi] at hi
  subst hi
  obtain ⟨q, n, c', h1, h2, h3, h4, h5, h6⟩ := h.row i x hx
  obtain ⟨a, ha, c1⟩ := own.cells _ _ h1
  obtain ⟨a2, ha2, c2⟩ := own.cells _ _ h2
  obtain ⟨a3, ha3, c3⟩ := own.cells _ _ h3
  obtain ⟨a4, ha4, c4⟩ := own.cells _ _ h4
  rw [ha] at ha2 ha3 ha4
  cases ha2; cases ha3; cases ha4
  exact ⟨a, q, n, c', ha, c1, by rw [Qt]; exact c2, by rw [Qt]; exact c3, by rw [Qt]; exact c4, QH4 h5, by omega⟩
theorem Qic {g : Geo} {s : StA} {base : Int} {j : Nat} {x y : Qp2} (h : QT2 g s base j x) (h' : QT2 g s base j y) : x = y := by
 obtain ⟨b, c, h1, _, _, h4⟩ := h
 obtain ⟨b', c', h1', _, _, h4'⟩ := h'
 obtain ⟨rfl, rfl⟩ := h1.unique h1'
 rw [h4] at h4'
 exact Option.some.inj h4'
theorem Qye {g : Geo} {s : StA} {base : Int} {j : Nat} {x : Qp2} (h : QT2 g s base j x) (h' : Qj2 g s base j) : False := by
 obtain ⟨b, c, h1, h2, h3, h4⟩ := h
 obtain ⟨b', c', h1', hn⟩ := h'
 obtain ⟨rfl, rfl⟩ := h1.unique h1'
 exact hn ⟨h2, h3, x, h4⟩
theorem Qrd {g : Geo} {s : StA} {base : Int} {L L' : List Qp2} (h : ∀ j x, L[j]? = some x -> QT2 g s base j x) (h' : ∀ j x, L'[j]? = some x -> QT2 g s base j x)
  (e : (L.length : Int) = g.slots \/ ((L.length : Int) < g.slots /\ Qj2 g s base L.length)) (e' : (L'.length : Int) = g.slots \/ ((L'.length : Int) < g.slots /\ Qj2 g s base L'.length)) : L = L' := by
 have no : ∀ {A B : List Qp2}, (∀ j x, B[j]? = some x -> QT2 g s base j x) -> ((A.length : Int) = g.slots \/ ((A.length : Int) < g.slots /\ Qj2 g s base A.length)) -> ((B.length : Int) = g.slots \/ ((B.length : Int) < g.slots /\ Qj2 g s base B.length)) -> ¬ A.length < B.length := fun {A B} hB eA eB hlt => by
  rcases eA with eA | ⟨_, eA⟩
  ·rcases eB with eB | ⟨eB, _⟩ <;> omega
  ·exact Qye (hB A.length _ (Zc hlt)) eA
 have h1 := no h' e e'
 have h2 := no h e' e
 apply List.ext_getElem (by omega)
 intro i g1 g2
 exact Qic (h i _ (Zc g1)) (h' i _ (Zc g2))
theorem QM9 {g : Geo} {s : StA} {ks : List Bool} {base : Int} {w1 w2 w1' w2' : World} {v v' : Value} (h : QDa g s ks base w1 v w1') (h' : QDa g s ks base w2 v' w2') : ∃ p l c p' l' c' z A, v = .tuple #[.slice p l c, int i64 z] /\ v' = .tuple #[.slice p' l' c', int i64 z] ∧
  Qj3 w1' p l A /\ Qj3 w2' p' l' A /\ l <= 1000 /\ ∀ o ∈ A, o.st.length <= 1000 := by
 have nilr : ∀ w : World, Qj3 w none 0 [] := fun w => ⟨rfl, fun i o h => by simp at h⟩
 obtain ⟨_, h1, h2⟩ := h
 obtain ⟨_, h1', h2'⟩ := h'
 by_cases hc : QO8 (some (at0 0)) g base = 0
 ·have hg : Qo g = 0 := by
   by_cases hk : Qo g = 0
   ·exact hk
   ·rw [QG9 hk] at hc; exact absurd hc hk
  have hgo : QS g := by
   unfold Qo at hg
   by_cases hk : QS g
   ·exact hk
   ·simp [hk] at hg
  have hsl := hgo.2.2.2.1
  obtain ⟨h3, h4⟩ := h2 hc
  obtain ⟨h3', h4'⟩ := h2' hc
  cases hd : s.down with
  | true => exact ⟨none, 0, 0, none, 0, 0, 130, [], h3 hd, h3' hd, nilr _, nilr _, by omega, by simp⟩
  | false =>
   obtain ⟨L, hL, h5⟩ := h4 hd
   obtain ⟨L', hL', h5'⟩ := h4' hd
   have hst : ∀ o ∈ L.map Qp2.k, o.st.length <= 1000 := fun o ho => by
    obtain ⟨x, hx, rfl⟩ := List.mem_map.1 ho
    obtain ⟨j, hj, he⟩ := List.getElem_of_mem hx
    obtain ⟨b, c, _, _, _, hdx⟩ := hL j x (by rw [Zc hj, he])
    have := Qn8 hdx
    show x.st.length <= 1000
    omega
   have e : (L.length : Int) = g.slots \/ ((L.length : Int) < g.slots /\ Qj2 g s base L.length) := by
    rcases h5 with ⟨h | h, _⟩ | h
    ·exact .inl h
    ·exact .inr ⟨h.1, h.2.1⟩
    ·exact .inr ⟨h.1, h.2.1⟩
   have e' : (L'.length : Int) = g.slots \/ ((L'.length : Int) < g.slots /\ Qj2 g s base L'.length) := by
    rcases h5' with ⟨h | h, _⟩ | h
    ·exact .inl h
    ·exact .inr ⟨h.1, h.2.1⟩
    ·exact .inr ⟨h.1, h.2.1⟩
   obtain rfl := Qrd hL hL' e e'
   have hlen : L.length <= 1000 := by rcases e with e | ⟨e, _⟩ <;> omega
   rcases h5 with ⟨hg1, p, c, rows, rfl, own, hr⟩ | ⟨hl, hn, hw, rfl⟩
   ·rcases h5' with ⟨_, p', c', rows', rfl, own', hr'⟩ | ⟨hl', hn', hw', rfl⟩
    ·exact ⟨p, _, c, p', _, c', 0, L.map Qp2.k, rfl, rfl, hr.toK own, hr'.toK own', hlen, hst⟩
    ·rcases hg1 with hg1 | ⟨_, _, hg1⟩
     ·omega
     ·rw [hg1] at hw'; cases hw'
   ·rcases h5' with ⟨hg1, _⟩ | ⟨hl', hn', hw', rfl⟩
    ·rcases hg1 with hg1 | ⟨_, _, hg1⟩
     ·omega
     ·rw [hg1] at hw; cases hw
    ·exact ⟨none, 0, 0, none, 0, 0, 150, [], rfl, rfl, nilr _, nilr _, by omega, by simp⟩
 ·exact ⟨none, 0, 0, none, 0, 0, _, [], h1 hc, h1' hc, nilr _, nilr _, by omega, by simp⟩
open Go Go.Vc
open Go.IntKind (i64)
open Go.Value (int)
open Go.Proofs.Tryz (prog)
structure Q58 where
 kind : Int
 n : Int
 m : Int
 disks : List Int
 knows : List Bool
 r : QKc
 sa : Int
 se : Int
 obs : List ObV
 arr : QS9
def Qdb (c : Q58) (p12 : σ) (l12 c12 : Nat) (p13 : σ) (l13 c13 : Nat) (p17 : σ) (l17 c17 : Nat) (p20 : σ) (l20 c20 : Nat) (p26 : σ) (l26 c26 : Nat) (p27 : σ) (l27 c27 : Nat) : Array Value :=
 #[int i64 c.kind, int i64 c.n, int i64 c.m, .slice p12 l12 c12, .slice p13 l13 c13, int i64 c.r.kind, .string c.r.key, int i64 c.r.len, .slice p17 l17 c17, int i64 c.sa, int i64 c.se, .slice p20 l20 c20, int i64 c.arr.kind, int i64 c.arr.d, int i64 c.arr.n, int i64 c.arr.m, .int .u8 (c.arr.y.toNat : Int), .slice p26 l26 c26, .slice p27 l27 c27]
theorem Qnb {w0 w : World} {a r : Nat} {s : StA} {F G : Nat -> Prop} (h : QH5 w a r s F G) (ho : OkA s) (h1 : 1 <= s.M.length) (hx : Ext w0 w) (hF : ∀ x, F x -> w0.heap.size <= x) (hG : ∀ x, G x -> w0.heap.size <= x) (g : Geo) {c : Q58}
  {p12 : σ} {l12 c12 : Nat} {p13 : σ} {l13 c13 : Nat} {p17 : σ} {l17 c17 : Nat} {p20 : σ} {l20 c20 : Nat} {p26 : σ} {l26 c26 : Nat} {p27 : σ} {l27 c27 : Nat}
  (hdk : Ql w0 p12 l12 c.disks) (hl12 : l12 <= 1000) (hks : QA w0 p13 l13 c.knows) (hst : Ql w0 p17 l17 c.r.st) (hl17 : l17 <= 1000) (hob : Q57 w0 p20 l20 c.obs) (hl20 : l20 <= 1000)
  (hb : Q3 w0 p26 l26 c.arr.b) (hk : l27 = c.arr.keep.length /\ ∀ i ks, c.arr.keep[i]? = some ks -> ∃ a q n c, p27 = some a /\ w0.cell? (a.add (i * 1)) = some (.slice q n c) /\ Ql w0 q n ks)
  (hn : -9223372036854775808 <= c.arr.n /\ c.arr.n <= 9223372036854775807) (hm : -9223372036854775808 <= c.arr.m /\ c.arr.m <= 9223372036854775807) (hs : ∀ ks ∈ c.arr.keep, ks.length <= 9223372036854775807) :
  Calls prog 9 #[.pointer (some (at0 a)), .pointer (some (at0 r)), gV g, .agg (Qdb c p12 l12 c12 p13 l13 c13 p17 l17 c17 p20 l20 c20 p26 l26 c26 p27 l27 c27)] w fun e w' => e = .returned (.bool true) ∧
   ∃ s' F' G', QH5 w' a r s' F' G' /\ Qf (fun x => F x \/ G x) (fun x => F' x \/ G' x) w w' /\ OkA s' /\ s'.M.length = s.M.length := by
 have hM : s.M.length <= 32 := ho.1
 refine (F9_calls (some (at0 a)) (some (at0 r)) g.k g.m g.size g.stripes g.slots g.objects c.kind c.n c.m p12 l12 c12 p13 l13 c13 c.r.kind c.r.key c.r.len p17 l17 c17 c.sa c.se p20 l20 c20 c.arr.kind c.arr.d c.arr.n c.arr.m (c.arr.y.toNat : Int) p26 l26 c26 p27 l27 c27 w
  (fun v w' => v = .bool true /\ ∃ s' F' G', QH5 w' a r s' F' G' /\ Qf (fun x => F x \/ G x) (fun x => F' x \/ G' x) w w' /\ OkA s' /\ s'.M.length = s.M.length) ?_).mono (by
  rintro e w' ⟨v, rfl, rfl, h⟩; exact ⟨rfl, h⟩)
 intro k28 w29 hk28 k30 w31 hk30
 have s28 := hk28.size
 have s30 := hk30.size
 have x31 := hk28.ext.trans hk30.ext
 have r28 : RowW w31 k28 (Qe1 g) := hk30.ext.rowW ⟨_, hk28.at⟩ id
 have r30 : RowW w31 k30 (Qdb c p12 l12 c12 p13 l13 c13 p17 l17 c17 p20 l20 c20 p26 l26 c26 p27 l27 c27) := ⟨_, hk30.at⟩
 have h31 := h.ext x31
 have y31 := hx.trans x31
 have fl := Qb.lt h.arr
 have kF28 : ¬ F k28 := fun hf => by have := fl _ hf; omega
 have kF30 : ¬ F k30 := fun hf => by have := fl _ hf; omega
 have same : ∀ {w' : World}, Ext w31 w' -> ∃ s' F' G', QH5 w' a r s' F' G' /\ Qf (fun x => F x \/ G x) (fun x => F' x \/ G' x) w w' /\ OkA s' /\ s'.M.length = s.M.length := fun hx' => ⟨s, F, G, h31.ext hx', Qf.ext (x31.trans hx'), ho, rfl⟩
 have c5 : ∀ {w' : World} {b j : Nat} {v : Value}, w'.cell? ((at0 k30).add (b + j)) = some v -> w'.cell? (((at0 k30).add b).add j) = some v := fun h => by rw [Qt]; exact h
 refine ⟨_, r30.c rfl, Q0 (fun k1 => ?_) fun k1 => Q0 (fun k2 => ?_) fun k2 => Q0 (fun k3 => ?_) fun k3 => Q0 (fun k4 => ?_) fun k4 => Q0 (fun k5 => ?_) fun k5 => Q0 (fun k6 => ?_) fun k6 => ?_⟩
 ·
  intro w33 d33
  have x33 := d33.ext
  have h33 := h31.ext x33
  have y33 := y31.trans x33
  have q30 := x33.rowW r30 id
  refine ⟨_, _, _, q30.c rfl, _, _, _, q30.c rfl, (Qb5 h33.arr ho (fun F' w' st => hdk.ext (Qx0 y33 st hF).1) (by omega)).mono ?_⟩
  rintro e w36 ⟨F', rfl, hs1, hA⟩
  have t30 : RowW w36 k30 _ := hs1.upd.rowW q30 kF30
  have y36 := (Qx0 y33 hs1 hF).1
  refine ⟨_, rfl, ⟨_, _, _, t30.c rfl, rfl⟩, (Q08 (h33.mid hs1) ho (fun G' w' st => hdk.ext (Qx0 y36 st hG).1) (by omega)).mono ?_⟩
  rintro e w40 ⟨G', rfl, hs2, hR⟩
  obtain ⟨hP, hstp⟩ := h33.both hs1 hA hs2 hR
  exact ⟨_, rfl, by simp, _, F', G', hP, (Qf.ext (x31.trans x33)).trans hstp, QGe ho⟩
 ·
  refine (Qa5 h31.arr ho h1).mono ?_
  rintro e w43 ⟨x43, hd, hu⟩
  cases hdn : s.down with
  | true =>
   obtain rfl := hd hdn
   refine ⟨_, _, _, _, rfl, (Qt5 (h31.ext x43).ref ho h1).mono ?_⟩
   rintro e w47 ⟨x47, hd', _⟩
   obtain rfl := hd' hdn
   refine ⟨_, _, _, _, rfl, (QK3 (l1 := 0) (l2 := 0) (A := []) (B := []) ⟨rfl, fun j v hj => by simp at hj⟩ ⟨rfl, fun j v hj => by simp at hj⟩ (by omega)).mono ?_⟩
   rintro e w51 ⟨rfl, x51⟩
   exact ⟨_, rfl, Q40 (by simp) ⟨by simp, same ((x43.trans x47).trans x51)⟩⟩
  | false =>
   obtain ⟨p, cc, rfl, own⟩ := hu hdn
   refine ⟨_, _, _, _, rfl, (Qt5 (h31.ext x43).ref ho h1).mono ?_⟩
   rintro e w47 ⟨x47, _, hu'⟩
   obtain ⟨p', cc', rfl, own'⟩ := hu' hdn
   refine ⟨_, _, _, _, rfl, (QK3 (A := s.M.map QX1) (B := s.M.map QX1) ⟨by simp, (own.ext x47).cells⟩ ⟨by simp, own'.cells⟩ (by omega)).mono ?_⟩
   rintro e w51 ⟨rfl, x51⟩
   exact ⟨_, rfl, Q40 (by simp) ⟨by simp, same ((x43.trans x47).trans x51)⟩⟩
 ·
  intro w54 d54
  have x54 := d54.ext
  have h54 := h31.ext x54
  have y54 := y31.trans x54
  have q28 := x54.rowW r28 id
  have q30 := x54.rowW r30 id
  refine ⟨_, q28.row.cell (n := 0) rfl, _, q28.c rfl, _, q28.c rfl, _, q28.c rfl, _, q28.c rfl, _, q28.c rfl, _, q30.c rfl, _, q30.c rfl, _, q30.c rfl, _, c5 (q30.c rfl), _, c5 (q30.c rfl), _, _, _, c5 (q30.c rfl), ?_⟩
  refine ⟨_, q28.row.cell (n := 0) rfl, _, q28.c rfl, _, q28.c rfl, _, q28.c rfl, _, q28.c rfl, _, q28.c rfl, _, q30.c rfl, _, q30.c rfl, _, q30.c rfl, _, c5 (q30.c rfl), _, c5 (q30.c rfl), _, _, _, c5 (q30.c rfl), ?_⟩
  refine (QB2 h54.arr ho g c.n c.m c.r.kind c.r.key c.r.len (hst.ext y54) (by omega)).mono ?_
  rintro e w79 ⟨F', rfl, hs1, hA⟩
  have t28 : RowW w79 k28 _ := hs1.upd.rowW q28 kF28
  have t30 : RowW w79 k30 _ := hs1.upd.rowW q30 kF30
  have y79 := (Qx0 y54 hs1 hF).1
  refine ⟨_, rfl, ⟨_, t28.row.cell (n := 0) rfl, _, t28.c rfl, _, t28.c rfl, _, t28.c rfl, _, t28.c rfl, _, t28.c rfl, rfl⟩, ⟨_, t30.c rfl, rfl⟩, ⟨_, t30.c rfl, rfl⟩, ⟨_, t30.c rfl, _, c5 (t30.c rfl), _, c5 (t30.c rfl), _, _, _, c5 (t30.c rfl), rfl⟩, ?_⟩
  refine (QZ7 (h54.mid hs1) ho g c.n c.m c.r.kind c.r.key c.r.len (hst.ext y79) (by omega)).mono ?_
  rintro e w94 ⟨G', rfl, hs2, hR⟩
  obtain ⟨hP, hstp⟩ := h54.both hs1 hA hs2 hR
  exact ⟨_, rfl, by simp, _, F', G', hP, (Qf.ext (x31.trans x54)).trans hstp, QFe ho⟩
 ·
  refine ⟨_, r28.row.cell (n := 0) rfl, _, r28.c rfl, _, r28.c rfl, _, r28.c rfl, _, r28.c rfl, _, r28.c rfl, _, _, _, r30.c rfl, _, r30.c rfl, (Qn4 h31.arr ho h1 g (hks.ext y31) c.n).mono ?_⟩
  rintro e w105 ⟨v1, rfl, hr1⟩
  have x105 := hr1.1
  have q28 := x105.rowW r28 id
  have q30 := x105.rowW r30 id
  obtain ⟨p, l, cc, p', l', cc', z, A1, e1, _⟩ := QM9 hr1 hr1
  subst e1
  refine ⟨_, _, _, _, rfl, _, q28.row.cell (n := 0) rfl, _, q28.c rfl, _, q28.c rfl, _, q28.c rfl, _, q28.c rfl, _, q28.c rfl, _, _, _, q30.c rfl, _, q30.c rfl, (Q28 (h31.ext x105).ref ho h1 g (hks.ext (y31.trans x105)) c.n).mono ?_⟩
  rintro e w117 ⟨v2, rfl, hr2⟩
  have x117 := hr2.1
  obtain ⟨p1, l1, c1, p2, l2, c2, z1, A, e1, rfl, ra, rb, hlen, hsA⟩ := QM9 hr1 hr2
  cases e1
  refine ⟨_, _, _, _, rfl, (QJ7 (ra.ext x117) rb hlen hsA).mono ?_⟩
  rintro e w121 ⟨b, rfl, hbb, x121⟩
  exact ⟨_, rfl, Q40 (hbb.2 rfl) ⟨by simp, same ((x105.trans x117).trans x121)⟩⟩
 ·
  intro w124 d124
  have x54 := d124.ext
  have h54 := h31.ext x54
  have y54 := y31.trans x54
  have q28 := x54.rowW r28 id
  have q30 := x54.rowW r30 id
  refine ⟨_, q28.row.cell (n := 0) rfl, _, q28.c rfl, _, q28.c rfl, _, q28.c rfl, _, q28.c rfl, _, q28.c rfl, _, q30.c rfl, _, c5 (q30.c rfl), _, _, _, c5 (q30.c rfl), ?_⟩
  refine ⟨_, q28.row.cell (n := 0) rfl, _, q28.c rfl, _, q28.c rfl, _, q28.c rfl, _, q28.c rfl, _, q28.c rfl, _, q30.c rfl, _, c5 (q30.c rfl), _, _, _, c5 (q30.c rfl), ?_⟩
  refine (Q06 h54.arr ho g c.sa c.se (hob.ext y54) (by omega)).mono ?_
  rintro e w143 ⟨F', rfl, hs1, hA⟩
  have t28 : RowW w143 k28 _ := hs1.upd.rowW q28 kF28
  have t30 : RowW w143 k30 _ := hs1.upd.rowW q30 kF30
  have y143 := (Qx0 y54 hs1 hF).1
  refine ⟨_, rfl, ⟨_, t28.row.cell (n := 0) rfl, _, t28.c rfl, _, t28.c rfl, _, t28.c rfl, _, t28.c rfl, _, t28.c rfl, rfl⟩, ⟨_, t30.c rfl, _, c5 (t30.c rfl), _, _, _, c5 (t30.c rfl), rfl⟩, ?_⟩
  refine (QTa (h54.mid hs1) ho g c.sa c.se (hob.ext y143) (by omega)).mono ?_
  rintro e w155 ⟨G', rfl, hs2, hR⟩
  obtain ⟨hP, hstp⟩ := h54.both hs1 hA hs2 hR
  exact ⟨_, rfl, by simp, _, F', G', hP, (Qf.ext (x31.trans x54)).trans hstp, Qyf ho⟩
 ·
  refine ⟨_, r28.row.cell (n := 0) rfl, _, r28.c rfl, _, r28.c rfl, _, r28.c rfl, _, r28.c rfl, _, r28.c rfl, _, _, _, r30.c rfl, (Qm4 h31.arr ho h1 g (hks.ext y31)).mono ?_⟩
  rintro e w165 ⟨v1, rfl, hr1⟩
  have x165 := hr1.1
  obtain ⟨ar, ep, p, l, cc, p', l', cc', z, A1, e1, _⟩ := Qy9 hr1 hr1
  subst e1
  refine ⟨_, _, _, _, _, _, rfl, fun k171 w172 hk171 => ?_⟩
  have s171 := hk171.size
  refine Qa1 (e := 41) (v0 := int i64 ar) (v1 := int i64 ep) (v2 := .slice p l cc) hk171.at fun w175 u175 r175 => ?_
  have x175' : Ext w165 w175 := Q7 hk171.ext u175 (by omega)
  have x175 := x165.trans x175'
  have q28 := x175.rowW r28 id
  have q30 := x175.rowW r30 id
  refine ⟨_, q28.row.cell (n := 0) rfl, _, q28.c rfl, _, q28.c rfl, _, q28.c rfl, _, q28.c rfl, _, q28.c rfl, _, _, _, q30.c rfl, (Q18 (h31.ext x175).ref ho h1 g (hks.ext (y31.trans x175))).mono ?_⟩
  rintro e w183 ⟨v2, rfl, hr2⟩
  have x183 := hr2.1
  obtain ⟨ar1, ep1, p1, l1, c1, p2, l2, c2, z1, A, e1, rfl, ra, rb, hlen, hsA⟩ := Qy9 hr1 hr2
  cases e1
  refine ⟨_, _, _, _, _, _, rfl, fun k189 w190 hk189 => ?_⟩
  have s189 := hk189.size
  refine Qa1 (e := 41) (v0 := int i64 ar) (v1 := int i64 ep) (v2 := .slice p2 l2 c2) hk189.at fun w193 u193 r193 => ?_
  have x193' : Ext w183 w193 := Q7 hk189.ext u193 (by omega)
  have x193 := x183.trans x193'
  have q171 := r175.upd x193 id
  refine ⟨_, _, _, q171.row.c rfl, _, _, _, r193.row.c rfl, (Qv7 (ra.ext (x175'.trans x193)) (rb.ext x193') hlen hsA).mono ?_⟩
  rintro e w196 ⟨b, rfl, hbb, x196⟩
  have z171 := q171.upd x196 id
  have z189 := r193.upd x196 id
  exact ⟨_, rfl, Q40 (hbb.2 rfl) ⟨_, z171.row.c rfl, _, z189.row.c rfl, Q40 (by simp) ⟨_, z171.row.c rfl, _, z189.row.c rfl, Q40 (by simp) ⟨by simp, same ((x175.trans x193).trans x196)⟩⟩⟩⟩
 ·
  refine ⟨_, r30.c rfl, _, c5 (r30.c rfl), _, c5 (r30.c rfl), _, c5 (r30.c rfl), _, c5 (r30.c rfl), _, _, _, c5 (r30.c rfl), _, _, _, c5 (r30.c rfl), ?_⟩
  refine (QSc (w0 := w0) h31 ho y31 hF hG hb hk hm hs).mono ?_
  rintro e w98 ⟨rfl, F', G', hP, hstp⟩
  exact ⟨_, rfl, rfl, _, F', G', hP, (Qf.ext x31).trans hstp, ho.call hn, Qbb _ _⟩
open Go Go.Vc Go.ChangeShapes Go.WideShapes Go.ChangeAt
open Go.IntKind (i64)
open Go.Value (int)
open Go.Proofs.Tryz (prog)
structure QWa (w : World) (a : Addr) (c : Q58) (p12 : σ) (l12 c12 : Nat) (p13 : σ) (l13 c13 : Nat) (p17 : σ) (l17 c17 : Nat) (p20 : σ) (l20 c20 : Nat) (p26 : σ) (l26 c26 : Nat) (p27 : σ) (l27 c27 : Nat) : Prop where
 cells : ∀ j, j < 19 -> w.cell? (a.add j) = (Qdb c p12 l12 c12 p13 l13 c13 p17 l17 c17 p20 l20 c20 p26 l26 c26 p27 l27 c27).toList[j]?
 disks : Ql w p12 l12 c.disks
 bools : QA w p13 l13 c.knows
 st : Ql w p17 l17 c.r.st
 obs : Q38 w p20 l20 c.obs
 bytes : Q3 w p26 l26 c.arr.b
 ints : l27 = c.arr.keep.length /\ ∀ i ks, c.arr.keep[i]? = some ks -> ∃ a q n c, p27 = some a /\ w.cell? (a.add (i * 1)) = some (.slice q n c) /\ Ql w q n ks
 nr : -9223372036854775808 <= c.arr.n /\ c.arr.n <= 9223372036854775807
 mr : -9223372036854775808 <= c.arr.m /\ c.arr.m <= 9223372036854775807
 kl : ∀ ks ∈ c.arr.keep, ks.length <= 9223372036854775807
def Qc9 (w : World) (p : σ) (l : Nat) (L : List Q58) : Prop :=
 l = L.length /\ ∀ i c, L[i]? = some c -> ∃ a p12 l12 c12 p13 l13 c13 p17 l17 c17 p20 l20 c20 p26 l26 c26 p27 l27 c27, p = some a /\ QWa w (a.add (i * 19)) c p12 l12 c12 p13 l13 c13 p17 l17 c17 p20 l20 c20 p26 l26 c26 p27 l27 c27
theorem Qef {α : Type} : ∀ (l : List α), l.length = 19 -> ∃ y0 y1 y2 y3 y4 y5 y6 y7 y8 y9 y10 y11 y12 y13 y14 y15 y16 y17 y18, l = [y0, y1, y2, y3, y4, y5, y6, y7, y8, y9, y10, y11, y12, y13, y14, y15, y16, y17, y18]
 | [y0, y1, y2, y3, y4, y5, y6, y7, y8, y9, y10, y11, y12, y13, y14, y15, y16, y17, y18], _ => ⟨y0, y1, y2, y3, y4, y5, y6, y7, y8, y9, y10, y11, y12, y13, y14, y15, y16, y17, y18, rfl⟩
section
variable {H : Type} {enc : TypeId × Value -> H} {w : World} {base : Nat} {sp : Nat -> Bool} {held : Bool}
theorem QG8 : Tryz.prog.cellsOf 36 = 1 := by kernel_rfl
theorem Qoa : Tryz.prog.cellsOf 45 = 7 := by kernel_rfl
theorem Q3c {n : Nat} {cs : List Value} {x : DataW H × List MemPlace} (h : DataW.trod enc prog w base sp held n 35 cs = some x) : ∃ p l c ks, cs = [.slice p l c] /\ Ql w p l ks := by
 obtain ⟨p, l, c, st, q, hl, hcells, _⟩ := Qf5 (e := 3) (k := .i64) (by kernel_rfl) (by kernel_rfl) (by kernel_rfl) h
 exact ⟨p, l, c, st, q, hl, hcells⟩
theorem Qjd {n : Nat} {ys : List Value} {y : DataW H × List MemPlace} (hlen : ys.length = 19) (hy : DataW.trod enc prog w base sp held n 47 ys = some y) :
  ∃ (c : Q58) (p12 : σ) (l12 c12 : Nat) (p13 : σ) (l13 c13 : Nat) (p17 : σ) (l17 c17 : Nat) (p20 : σ) (l20 c20 : Nat) (p26 : σ) (l26 c26 : Nat) (p27 : σ) (l27 c27 : Nat),
   ys = (Qdb c p12 l12 c12 p13 l13 c13 p17 l17 c17 p20 l20 c20 p26 l26 c26 p27 l27 c27).toList /\ Ql w p12 l12 c.disks /\ QA w p13 l13 c.knows /\ Ql w p17 l17 c.r.st /\ Q38 w p20 l20 c.obs /\ Q3 w p26 l26 c.arr.b ∧
   (l27 = c.arr.keep.length /\ ∀ i ks, c.arr.keep[i]? = some ks -> ∃ a q n c, p27 = some a /\ w.cell? (a.add (i * 1)) = some (.slice q n c) /\ Ql w q n ks) ∧
   (-9223372036854775808 <= c.arr.n /\ c.arr.n <= 9223372036854775807) /\ (-9223372036854775808 <= c.arr.m /\ c.arr.m <= 9223372036854775807) /\ ∀ ks ∈ c.arr.keep, ks.length <= 9223372036854775807 := by
 obtain ⟨xs, n', _, _, _, hxl, hf⟩ := DataW.trod_struct Tryz.underlying47 hy
 obtain ⟨y0, y1, y2, y3, y4, y5, y6, y7, y8, y9, y10, y11, y12, y13, y14, y15, y16, y17, y18, rfl⟩ := Qef ys hlen
 have hxl' : xs.length = 8 := hxl
 obtain ⟨x0, f0⟩ := Qw4 hxl' (by omega) (hf 0 _ rfl) QW
 obtain ⟨x1, f1⟩ := Qw4 hxl' (by omega) (hf 1 _ rfl) QW
 obtain ⟨x2, f2⟩ := Qw4 hxl' (by omega) (hf 2 _ rfl) QW
 obtain ⟨x3, f3⟩ := Qw4 hxl' (by omega) (hf 3 _ rfl) QX3
 obtain ⟨x4, f4⟩ := Qw4 hxl' (by omega) (hf 4 _ rfl) QG8
 obtain ⟨x5, f5⟩ := Qw4 hxl' (by omega) (hf 5 _ rfl) QLb
 obtain ⟨x6, f6⟩ := Qw4 hxl' (by omega) (hf 6 _ rfl) QH8
 obtain ⟨x7, f7⟩ := Qw4 hxl' (by omega) (hf 7 _ rfl) Qoa
 obtain ⟨n0, q0, g0⟩ := QG0 Tryz.underlying3 f0
 obtain ⟨n1, q1, g1⟩ := QG0 Tryz.underlying3 f1
 obtain ⟨n2, q2, g2⟩ := QG0 Tryz.underlying3 f2
 obtain ⟨p12, l12, c12, ds, q3, g3⟩ := Q3c f3
 obtain ⟨p13, l13, c13, ks, q4, g4⟩ := Qhd f4
 obtain ⟨o, p17, l17, c17, q5, g5, _⟩ := Qnd rfl f5
 obtain ⟨sa, se, p20, l20, c20, L, q6, g6⟩ := Qod rfl f6
 obtain ⟨cl, p26, l26, c26, p27, l27, c27, q7, g7, g8, gn, gm, gk⟩ := Q2c rfl f7
 cases q0; cases q1; cases q2; cases q3; cases q4; cases q5; cases q6; cases q7
 exact ⟨⟨n0, n1, n2, ds, ks, o, sa, se, L, cl⟩, p12, l12, c12, p13, l13, c13, p17, l17, c17, p20, l20, c20, p26, l26, c26, p27, l27, c27, rfl, g3, g4, g5, g6, g7, g8, gn, gm, gk⟩
theorem Qw7 {v : Value} {d : DataW H} {ps : List MemPlace} (hs : ∃ a l c, v = .slice a l c) (h : DataW.Trod enc prog w base sp held 24 v d ps) : ∃ p l c L, v = .slice p l c /\ Qc9 w p l L := by
 obtain ⟨p, l, c, rfl⟩ := hs
 obtain ⟨fuel, h⟩ := h
 obtain ⟨p', l', c', he, _, _, _, hrow⟩ := QQ6 (t := 24) (e := 47) (k := 19) (by kernel_rfl) (by kernel_rfl) h
 cases he
 obtain ⟨L, hL, hall⟩ := Qi4 (l := l) (Q := fun i (c : Q58) => ∃ a p12 l12 c12 p13 l13 c13 p17 l17 c17 p20 l20 c20 p26 l26 c26 p27 l27 c27, p = some a /\ QWa w (a.add (i * 19)) c p12 l12 c12 p13 l13 c13 p17 l17 c17 p20 l20 c20 p26 l26 c26 p27 l27 c27) fun i hi => by
  obtain ⟨a, ys, n, y, ha, hy, hlen, hcell⟩ := hrow i hi
  obtain ⟨c, p12, l12, c12, p13, l13, c13, p17, l17, c17, p20, l20, c20, p26, l26, c26, p27, l27, c27, rfl, g3, g4, g5, g6, g7, g8, gn, gm, gk⟩ := Qjd hlen hy
  exact ⟨c, a, p12, l12, c12, p13, l13, c13, p17, l17, c17, p20, l20, c20, p26, l26, c26, p27, l27, c27, ha, hcell, g3, g4, g5, g6, g7, g8, gn, gm, gk⟩
 exact ⟨p, l, c, L, rfl, hL, hall⟩
end
theorem Qf8 {n s : Int} (hn : 1 <= n /\ n <= 32) (hs : 1 <= s /\ s <= 4096) (w : World) : Calls prog 6 #[int i64 n, int i64 s] w fun e1 w1 => ∃ a, e1 = .returned (.tuple #[.pointer (some (at0 a)), int i64 0]) ∧
  Calls prog 7 #[int i64 n, int i64 s] w1 fun e2 w2 => ∃ r F G, e2 = .returned (.tuple #[.pointer (some (at0 r)), int i64 0]) /\ Ext w w2 /\ QH5 w2 a r (Q2a n.toNat s) F G /\ OkA (Q2a n.toNat s) /\ 1 <= (Q2a n.toNat s).M.length /\ (∀ x, F x \/ G x -> w.heap.size <= x) := by
 refine (Q77 (n := n) (s := s) hn hs w).mono ?_
 rintro e w1 ⟨a, F, rfl, x1, h1, hF⟩
 refine ⟨_, rfl, (QT8 (n := n) (s := s) hn hs w1).mono ?_⟩
 rintro e w2 ⟨r, G, rfl, x2, h2, hG⟩
 have hA : IsA w2 a (Q2a n.toNat s) F := Qb.ext h1 x2
 have hR : IsR w2 r (Q2a n.toNat s) G := by
  have e1 : QR2 (Q2a n.toNat s) = List.replicate n.toNat ⟨s, [], [], false⟩ := by simp [QR2, Q2a]
  have e2 : Qq2 (Q2a n.toNat s) = List.replicate n.toNat 0 := by simp [Qq2, Q2a]
  unfold IsR
  rw [e1, e2]; exact h2
 refine ⟨r, F, G, rfl, x1.trans x2, ⟨hA, hR, fun x hf hg => ?_⟩, Q7b (by omega), by simp [Q2a]; omega, ?_⟩
 ·have := Qb.lt h1 x hf
  have := hG x hg
  omega
 ·rintro x (hx | hx)
  ·exact hF x hx
  ·exact Zu x1.size (hG x hx)
end Go.Proofs.YtnfcfbljdibinaaGreat
