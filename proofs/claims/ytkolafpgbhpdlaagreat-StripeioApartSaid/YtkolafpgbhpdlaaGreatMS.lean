import Derived.Test.YtkolafpgbhpdlaaGreatMA
import Derived.Test.YtkolafpgbhpdlaaGreatMC
import Derived.Test.YtkolafpgbhpdlaaGreatRF2
import Derived.Test.YtkolafpgbhpdlaaGreatMJ
namespace Go.Proofs.YtkolafpgbhpdlaaGreat
open Go Go.Vc
def firstZ : List Int → Int
 | [] => 0
 | x :: l => if x = 0 then firstZ l else x
theorem sfirst_spec {p : Option Addr} {l c : Nat} {L : List Int} {w : World} (h : IntsAt w p l L) (hl : l ≤ 1000) : Calls Tryz.prog 37 #[.slice p l c] w fun e w' => e = .returned (.int .i64 (firstZ L)) ∧ w' = w := by
 refine (F37_calls p l c w (fun v w' => v = .int .i64 (firstZ L) ∧ w' = w) (fun _ _ _ _ _ n6 w7 => ∃ j : Nat, n6 = j ∧ j ≤ l ∧ w7 = w ∧ firstZ (L.drop j) = firstZ L) (fun _ _ _ _ _ n6 _ => 1001 - n6.toNat) ?_).mono (by rintro e w' ⟨v, rfl, rfl, h⟩; exact ⟨rfl, h⟩)
 have hlen := h.1
 refine ⟨⟨0, rfl, Nat.zero_le _, rfl, rfl⟩, ?_⟩
 rintro n6 w7 ⟨j, rfl, hj, rfl, hd⟩
 intros
 refine condB_of (fun hlt => ?_) (fun hge => ?_)
 ·simp only [decide_eq_true_eq] at hlt
  obtain ⟨x, hx⟩ : ∃ x, L[j]? = some x := ⟨L[j]'(by omega), List.getElem?_eq_getElem _⟩
  obtain ⟨a, rfl, ca⟩ := h.2 j (.int .i64 x) (by rw [List.getElem?_map, hx]; rfl)
  have hdx : L.drop j = x :: L.drop (j + 1) := by
   have hjl : j < L.length := by omega
   rw [List.drop_eq_getElem_cons hjl]
   congr 1
   exact (List.getElem?_eq_some_iff.1 hx).2
  rw [hdx, firstZ] at hd
  refine ⟨⟨by omega, hlt⟩, x, by rw [Int.toNat_natCast, Nat.mul_one]; exact ca, condB_of (fun hn => ?_) fun hz => ?_⟩
  ·simp only [Bool.not_eq_true', decide_eq_false_iff_not] at hn
   rw [if_neg hn] at hd
   exact ⟨by rw [hd], rfl⟩
  ·simp only [Bool.not_eq_false', decide_eq_true_eq] at hz
   rw [if_pos hz] at hd
   rw [w64 (by omega)]
   exact ⟨⟨j + 1, by omega, by omega, rfl, hd⟩, by show 1001 - ((j : Int) + 1).toNat < 1001 - (j : Int).toNat; omega⟩
 ·simp only [decide_eq_false_iff_not] at hge
  rw [List.drop_of_length_le (by omega)] at hd
  exact ⟨by rw [← hd]; rfl, rfl⟩
abbrev lnV (pa pf : Option Addr) (g : Geo) (i e : Int) : Value := .agg #[.pointer pa, .pointer pf, .int .i64 g.k, .int .i64 g.m, .int .i64 g.size, .int .i64 g.stripes, .int .i64 g.slots, .int .i64 g.objects, .int .i64 i, .int .i64 e]
abbrev lnC (pa pf : Option Addr) (g : Geo) (i e : Int) : Array Value := #[.pointer pa, .pointer pf, .int .i64 g.k, .int .i64 g.m, .int .i64 g.size, .int .i64 g.stripes, .int .i64 g.slots, .int .i64 g.objects, .int .i64 i, .int .i64 e]
theorem cell2 {w : World} {k : Nat} {cs : Array Value} (r : RowW w k cs) {i j : Nat} {v : Value} (h : cs[i + j]? = some v) : w.cell? (((at0 k).add i).add j) = some v := by rw [add_add]; exact r.row.cell h
theorem argued_spec (b : Bool) (w : World) : Calls Tryz.prog 60 #[.bool b] w fun e w' => e = .returned (.int .i64 (if b then 0 else 1)) ∧ w' = w :=
 (F60_calls b w (fun v w' => v = .int .i64 (if b then 0 else 1) ∧ w' = w) (condB_of (fun h => by subst h; exact ⟨rfl, rfl⟩) fun h => by subst h; exact ⟨rfl, rfl⟩)).mono (by rintro e w' ⟨v, rfl, rfl, h⟩; exact ⟨rfl, h⟩)
def lineB (g : Geo) (i e : Int) : Bool := decide (0 ≤ i ∧ i < g.stripes ∧ 0 ≤ e ∧ e ≤ 2147483647)
def lineZ (pa pf : Option Addr) (g : Geo) (i e : Int) : Int := firstZ [if pa.isSome && pf.isSome then 0 else 1, checkG g, if lineB g i e then 0 else 1]
set_option maxHeartbeats 1000000 in
theorem scheck_spec (pa pf : Option Addr) (g : Geo) (i e : Int) (w : World) : Calls Tryz.prog 32 #[lnV pa pf g i e] w fun e' w' => e' = .returned (.int .i64 (lineZ pa pf g i e)) ∧ Ext w w' := by
 refine (F32_calls pa pf g.k g.m g.size g.stripes g.slots g.objects i e w (fun v w' => v = .int .i64 (lineZ pa pf g i e) ∧ Ext w w') ?_).mono (by rintro e w' ⟨v, rfl, rfl, h⟩; exact ⟨rfl, h⟩)
 intro k11 w12 hk w13 hd
 have r : RowW w13 k11 (lnC pa pf g i e) := hd.ext.rowW ⟨_, hk.at⟩ id
 have x13 := hk.ext.trans hd.ext
 have leaf : ∀ (w33 : World) (b : Bool), Ext w w33 → b = lineB g i e → Calls Tryz.prog 60 #[.bool b] w33 fun e50 w49 => (∃ (n51 : Int), e50 = .returned (.int .i64 n51) ∧ (∀ (k52 : Nat) (w53 : World), NewB w49 k52 (.cells #[.int .i64 (if pa.isSome && pf.isSome then 0 else 1), .int .i64 (checkG g), .int .i64 n51] 27) w53 → (Calls Tryz.prog 37 #[.slice (some (at0 k52)) 3 3] w53 fun e55 w54 => (∃ (n56 : Int), e55 = .returned (.int .i64 n56) ∧ (Value.int .i64 n56 = .int .i64 (lineZ pa pf g i e) ∧ Ext w w54))))) := by
  rintro w33 b x33 rfl
  refine (argued_spec _ w33).mono ?_
  rintro e w49 ⟨rfl, rfl⟩
  refine ⟨_, rfl, fun k52 w53 h52 => (sfirst_spec (L := [if pa.isSome && pf.isSome then 0 else 1, checkG g, if lineB g i e then 0 else 1]) (ints_new (w' := w53) ⟨_, h52.at⟩ rfl) (by simp)).mono ?_⟩
  rintro e w54 ⟨rfl, rfl⟩
  exact ⟨_, rfl, rfl, x33.trans h52.ext⟩
 have tail : ∀ (w23 : World), Ext w w23 → RowW w23 k11 (lnC pa pf g i e) → F32_A0 (.returned (.int .i64 (if pa.isSome && pf.isSome then 0 else 1))) w23 k11 g.k g.m g.size g.stripes g.slots g.objects i (fun v w' => v = .int .i64 (lineZ pa pf g i e) ∧ Ext w w') := by
  intro w23 x23 r23
  unfold F32_A0
  refine ⟨_, rfl, ⟨_, r23.row.cell rfl, _, cell2 r23 rfl, _, cell2 r23 rfl, _, cell2 r23 rfl, _, cell2 r23 rfl, _, cell2 r23 rfl, rfl⟩, ⟨_, r23.row.cell rfl, rfl⟩, (check_spec g w23).mono ?_⟩
  rintro e' w33 ⟨rfl, x33⟩
  have r33 : RowW w33 k11 (lnC pa pf g i e) := x33.rowW r23 id
  have y33 := x23.trans x33
  refine ⟨_, rfl, ⟨_, r33.row.cell rfl, rfl⟩, condB_of (fun h1 => ⟨_, r33.row.cell rfl, _, cell2 r33 rfl, condB_of (fun h2 => ⟨_, r33.row.cell rfl, condB_of (fun h3 => ⟨_, r33.row.cell rfl, leaf _ _ y33 ?_⟩) fun h3 => leaf _ _ y33 ?_⟩) fun h2 => leaf _ _ y33 ?_⟩) fun h1 => leaf _ _ y33 ?_⟩
  all_goals simp only [decide_eq_true_eq, decide_eq_false_iff_not] at h1
  ·simp only [decide_eq_true_eq] at h2 h3
   unfold lineB
   exact decide_eq_decide.2 ⟨fun h => ⟨h1, h2, h3, h⟩, fun h => h.2.2.2⟩
  ·simp only [decide_eq_true_eq, decide_eq_false_iff_not] at h2 h3
   exact (decide_eq_false (fun h => h3 h.2.2.1)).symm
  ·simp only [decide_eq_false_iff_not] at h2
   exact (decide_eq_false (fun h => h2 h.2.1)).symm
  ·exact (decide_eq_false (fun h => h1 h.1)).symm
 refine ⟨_, r.row.cell (n := 0) rfl, condB_of (fun ha => ⟨_, r.row.cell rfl, _, r.row.cell rfl, _, cell2 r rfl, _, cell2 r rfl, _, cell2 r rfl, _, cell2 r rfl, _, cell2 r rfl, _, r.row.cell rfl, (argued_spec _ w13).mono ?_⟩) fun ha => ⟨_, r.row.cell rfl, _, cell2 r rfl, _, cell2 r rfl, _, cell2 r rfl, _, cell2 r rfl, _, cell2 r rfl, _, r.row.cell rfl, (argued_spec _ w13).mono ?_⟩⟩
 ·rintro e' w23 ⟨rfl, rfl⟩
  have e1 : (if (!pf.isNone) = true then (0 : Int) else 1) = if pa.isSome && pf.isSome then 0 else 1 := by
   cases pa with
   | none => cases ha
   | some a => cases pf <;> rfl
  rw [e1]
  exact tail _ x13 r
 ·rintro e' w23 ⟨rfl, rfl⟩
  have e1 : (if (false : Bool) = true then (0 : Int) else 1) = if pa.isSome && pf.isSome then 0 else 1 := by
   cases pa with
   | none => rfl
   | some a => cases ha
  rw [e1]
  exact tail _ x13 r
theorem sat_spec (pa pf : Option Addr) (g : Geo) (i e : Int) (w : World) : Calls Tryz.prog 63 #[lnV pa pf g i e] w fun e' w' => e' = .returned (.int .i64 (atZ g i)) ∧ Ext w w' := by
 refine (F63_calls pa pf g.k g.m g.size g.stripes g.slots g.objects i e w (fun v w' => v = .int .i64 (atZ g i) ∧ Ext w w') ?_).mono (by rintro e w' ⟨v, rfl, rfl, h⟩; exact ⟨rfl, h⟩)
 intro k11 w12 hk
 have r : RowW w12 k11 (lnC pa pf g i e) := ⟨_, hk.at⟩
 refine ⟨_, r.row.cell rfl, _, cell2 r rfl, _, cell2 r rfl, _, cell2 r rfl, _, cell2 r rfl, _, cell2 r rfl, _, r.row.cell rfl, (stripe_spec g i w12).mono ?_⟩
 rintro e' w20 ⟨rfl, x20⟩
 exact ⟨_, rfl, rfl, hk.ext.trans x20⟩
end Go.Proofs.YtkolafpgbhpdlaaGreat
namespace Go.Proofs.YtkolafpgbhpdlaaGreat
open Go Go.Vc
def wrZ (s : StA) (i : Nat) (n : Int) (len : Nat) : Int := if s.down then 130 else match s.M[i]? with
 | some m => writeZ m.d n len
 | none => 1
theorem write_at {w : World} {a : Nat} {s : StA} {F : Nat → Prop} (h : IsA w a s F) (ho : OkA s) {i : Nat} (hi : i < s.M.length) (n : Int) {p : Option Addr} {l c : Nat} {b : List UInt8} (hb : BytesAt w p l b) :
  Calls Tryz.prog 69 #[.pointer (some (at0 a)), .int .i64 (i : Int), .int .i64 n, .slice p l c] w fun e w' => ∃ F', e = .returned (.int .i64 (wrZ s i n b.length)) ∧ Step F F' w w' ∧ IsA w' a (writeA s i n b) F' := by
 obtain ⟨M, left, down⟩ := s
 cases down with
 | true =>
  refine (awrite_down h (i : Int) n p l c).mono ?_
  rintro e w' ⟨rfl, rfl⟩
  exact ⟨F, rfl, Step.refl _ _, by simpa [writeA] using h⟩
 | false =>
  obtain ⟨m, hm⟩ : ∃ m, M[i]? = some m := ⟨M[i]'hi, List.getElem?_eq_getElem _⟩
  refine (awrite_spec h ho.2 hm n hb).mono ?_
  rintro e w' ⟨F', rfl, hs, h'⟩
  refine ⟨F', by simp [wrZ, hm], hs, ?_⟩
  have : writeA ⟨M, left, false⟩ (i : Int) n b = ⟨M.set i { m with d := writeD m.d n b }, if writeZ m.d n b.length = 0 ∧ 0 < left then left - 1 else left, decide (writeZ m.d n b.length = 0 ∧ left = 1)⟩ := by
   unfold writeA
   simp [hm]
  rw [this]; exact h'
theorem write_any2 {w : World} {a : Nat} {s : StA} {F : Nat → Prop} (h : IsA w a s F) (ho : OkA s) {d : Int} (hd : 0 ≤ d) (n : Int) {p : Option Addr} {l c : Nat} {b : List UInt8} (hb : BytesAt w p l b) :
  Calls Tryz.prog 69 #[.pointer (some (at0 a)), .int .i64 d, .int .i64 n, .slice p l c] w fun e w' => ∃ F', e = .returned (.int .i64 (wrZ s d.toNat n b.length)) ∧ Step F F' w w' ∧ IsA w' a (writeA s d n b) F' := by
 obtain ⟨i, rfl⟩ := Int.eq_ofNat_of_zero_le hd
 by_cases hi : i < s.M.length
 ·exact write_at h ho hi n hb
 ·have hn : s.M[i]? = none := List.getElem?_eq_none (by omega)
  obtain ⟨M, left, down⟩ := s
  cases down with
  | true =>
   refine (awrite_down h (i : Int) n p l c).mono ?_
   rintro e w' ⟨rfl, rfl⟩
   exact ⟨F, rfl, Step.refl _ _, by simpa [writeA] using h⟩
  | false =>
   refine (awrite_out h (i := (i : Int)) (fun hh => hi (by have h3 : (i : Int) < (M.length : Int) := hh.2; show i < M.length; omega)) n p l c).mono ?_
   rintro e w' ⟨rfl, rfl⟩
   refine ⟨F, by dsimp only at hn; simp [wrZ, hn], Step.refl _ _, ?_⟩
   have : writeA ⟨M, left, false⟩ (i : Int) n b = ⟨M, left, false⟩ := by
    dsimp only at hn
    unfold writeA
    simp [hn]
   rw [this]; exact h
def putOk (g : Geo) (i e : Int) (b : List UInt8) : Prop := fitsP (atZ g i) ∧ fitsP e ∧ b.length ≤ 4096
instance (g : Geo) (i e : Int) (b : List UInt8) : Decidable (putOk g i e b) := inferInstanceAs (Decidable (_ ∧ _ ∧ _))
def putZ (s : StA) (g : Geo) (i e j : Int) (b : List UInt8) : Int := if putOk g i e b then wrZ s (diskZ g i j).toNat (atZ g i) (packM (atZ g i) e b).length else 1
def putA (s : StA) (g : Geo) (i e j : Int) (b : List UInt8) : StA := if putOk g i e b then writeA s (diskZ g i j) (atZ g i) (packM (atZ g i) e b) else s
theorem diskZ_pos (g : Geo) (i j : Int) : 0 ≤ diskZ g i j := by
 unfold diskZ
 split
 ·rename_i h
  have := h.1.1
  exact Int.emod_nonneg _ (by omega)
 ·exact Int.le_refl _
set_option maxHeartbeats 1000000 in
theorem sput_spec {w : World} {a : Nat} {s : StA} {F : Nat → Prop} (h : IsA w a s F) (ho : OkA s) (pf : Option Addr) (g : Geo) (i e j : Int) {p : Option Addr} {l c : Nat} {b : List UInt8} (hb : BytesAt w p l b) (hl : l ≤ 4611686018427387904) :
  Calls Tryz.prog 36 #[lnV (some (at0 a)) pf g i e, .int .i64 j, .slice p l c] w fun e' w' => ∃ F', e' = .returned (.int .i64 (putZ s g i e j b)) ∧ Step F F' w w' ∧ IsA w' a (putA s g i e j b) F' := by
 refine (F36_calls (some (at0 a)) pf g.k g.m g.size g.stripes g.slots g.objects i e j p l c w (fun v w' => ∃ F', v = .int .i64 (putZ s g i e j b) ∧ Step F F' w w' ∧ IsA w' a (putA s g i e j b) F') ?_).mono (by rintro e w' ⟨v, rfl, F', rfl, h⟩; exact ⟨F', rfl, h⟩)
 intro k13 w14 hk w15 hd
 have x15 := hk.ext.trans hd.ext
 have r : RowW w15 k13 (lnC (some (at0 a)) pf g i e) := hd.ext.rowW ⟨_, hk.at⟩ id
 refine ⟨_, r.row.cell (n := 0) rfl, _, r.row.cell rfl, _, r.row.cell rfl, _, r.row.cell rfl, _, r.row.cell rfl, _, r.row.cell rfl, _, r.row.cell rfl, _, r.row.cell rfl, _, r.row.cell rfl, _, r.row.cell rfl, _, r.row.cell rfl, (sat_spec (some (at0 a)) pf g i e w15).mono ?_⟩
 rintro e' w27 ⟨rfl, x27⟩
 have r27 : RowW w27 k13 (lnC (some (at0 a)) pf g i e) := x27.rowW r id
 have y27 := x15.trans x27
 refine ⟨_, rfl, ⟨_, r27.row.cell rfl, rfl⟩, (pack_spec (atZ g i) e (c := c) (hb.ext y27) hl).mono ?_⟩
 rintro e' w31 ⟨x31, hp⟩
 have r31 : RowW w31 k13 (lnC (some (at0 a)) pf g i e) := x31.rowW r27 id
 have y31 := y27.trans x31
 by_cases hok : putOk g i e b
 ·have hok' : fitsP (atZ g i) ∧ fitsP e ∧ b.length ≤ 4096 := hok
  rw [if_pos hok'] at hp
  obtain ⟨kp, cp, _, rfl, hpb⟩ := hp
  refine ⟨_, _, _, _, rfl, condB_of (fun h => by simp at h) fun _ => ?_⟩
  intro w35 hd2
  have r35 : RowW w35 k13 (lnC (some (at0 a)) pf g i e) := hd2.ext.rowW r31 id
  refine ⟨_, r35.row.cell (n := 0) rfl, _, r35.row.cell rfl, _, cell2 r35 rfl, _, cell2 r35 rfl, _, cell2 r35 rfl, _, cell2 r35 rfl, _, cell2 r35 rfl, _, r35.row.cell rfl, _, r35.row.cell (n := 0) rfl, _, r35.row.cell rfl, _, r35.row.cell rfl, _, r35.row.cell rfl, _, r35.row.cell rfl, _, r35.row.cell rfl, _, r35.row.cell rfl, _, r35.row.cell rfl, _, r35.row.cell rfl, _, r35.row.cell rfl, (diskZ_spec g i j w35).mono ?_⟩
  rintro e' w54 ⟨rfl, x54⟩
  have r54 : RowW w54 k13 (lnC (some (at0 a)) pf g i e) := x54.rowW r35 id
  refine ⟨_, rfl, ⟨_, r54.row.cell (n := 0) rfl, rfl⟩, ⟨_, r54.row.cell (n := 0) rfl, _, r54.row.cell rfl, _, r54.row.cell rfl, _, r54.row.cell rfl, _, r54.row.cell rfl, _, r54.row.cell rfl, _, r54.row.cell rfl, _, r54.row.cell rfl, _, r54.row.cell rfl, _, r54.row.cell rfl, rfl⟩, (sat_spec (some (at0 a)) pf g i e w54).mono ?_⟩
  rintro e' w68 ⟨rfl, x68⟩
  have r68 : RowW w68 k13 (lnC (some (at0 a)) pf g i e) := x68.rowW r54 id
  have z68 := (hd2.ext.trans x54).trans x68
  have y68 := y31.trans z68
  refine ⟨_, rfl, ⟨_, r68.row.cell (n := 0) rfl, rfl⟩, (write_any2 (c := cp) (IsArr.ext h y68) ho (diskZ_pos g i j) (atZ g i) (hpb.ext z68)).mono ?_⟩
  rintro e' w72 ⟨F', rfl, hs, h'⟩
  refine ⟨_, rfl, F', ?_, (Step.ext y68).trans hs, ?_⟩
  ·unfold putZ; rw [if_pos hok]
  ·unfold putA; rw [if_pos hok]; exact h'
 ·have hok' : ¬ (fitsP (atZ g i) ∧ fitsP e ∧ b.length ≤ 4096) := hok
  rw [if_neg hok'] at hp
  subst hp
  refine ⟨_, _, _, _, rfl, condB_of (fun _ => ⟨F, ?_, Step.ext y31, ?_⟩) fun h => by simp at h⟩
  ·unfold putZ; rw [if_neg hok]
  ·unfold putA; rw [if_neg hok]; exact IsArr.ext h y31
end Go.Proofs.YtkolafpgbhpdlaaGreat
namespace Go.Proofs.YtkolafpgbhpdlaaGreat
open Go Go.Vc Go.Gf
theorem chunk_spec {p : Option Addr} {l c : Nat} {s : Int} (w : World) (hs : 1 ≤ s) : Calls Tryz.prog 38 #[.slice p l c, .int .i64 s] w fun e w' => ∃ ks kn, e = .returned (.func (.func 70) #[] #[.pointer (some (at0 ks)), .pointer (some (at0 kn))]) ∧ Ext w w' ∧ w.heap.size ≤ ks ∧ w.heap.size ≤ kn ∧
  RowK w' ks 25 #[.slice p l c] ∧ RowK w' kn 3 #[.int .i64 s] := by
 refine (F38_calls p l c s w (fun v w' => ∃ ks kn, v = .func (.func 70) #[] #[.pointer (some (at0 ks)), .pointer (some (at0 kn))] ∧ Ext w w' ∧ w.heap.size ≤ ks ∧ w.heap.size ≤ kn ∧
  RowK w' ks 25 #[.slice p l c] ∧ RowK w' kn 3 #[.int .i64 s]) ?_).mono (by rintro e w' ⟨v, rfl, ks, kn, rfl, h⟩; exact ⟨ks, kn, rfl, h⟩)
 intro k3 w4 h3 k5 w6 h5
 refine ⟨_, RowK.cell h5.at, condB_of (fun h => ?_) fun _ => ⟨k3, k5, rfl, h3.ext.trans h5.ext, by rw [h3.size.1]; exact Nat.le_refl _, by rw [h5.size.1]; exact h3.ext.size, h5.ext.keep h3.at, h5.at⟩⟩
 simp only [decide_eq_true_eq] at h
 omega
def partsL (bs : List UInt8) (k s : Nat) : List (List UInt8) := (List.range k).map fun j => (bs.drop (j * s)).take s
theorem partsL_len (bs : List UInt8) (k s : Nat) : (partsL bs k s).length = k := by simp [partsL]
theorem partsL_at {bs : List UInt8} {k s j : Nat} (hj : j < k) : (partsL bs k s).getD j [] = (bs.drop (j * s)).take s := by simp [partsL, List.getD_eq_getElem?_getD, hj]
theorem partsL_row {bs : List UInt8} {k s j : Nat} (hl : bs.length = k * s) (hj : j < k) : ((partsL bs k s).getD j []).length = s := by
 have := Nat.mul_le_mul_right s (show j + 1 ≤ k from hj)
 rw [Nat.add_mul, Nat.one_mul] at this
 rw [partsL_at hj, List.length_take, List.length_drop]
 omega
theorem add_plain (b o i : Nat) : (⟨b, o, none⟩ : Addr).add i = ⟨b, o + i, none⟩ := by unfold Addr.add; split <;> simp_all
theorem part_bytes {w : World} {b off cap k s j : Nat} {bs : List UInt8} (h : BytesAt w (some ⟨b, off, none⟩) (k * s) bs) (hj : j < k) : BytesAt w (some ⟨b, off + j * s, none⟩) s ((bs.drop (j * s)).take s) := by
 have hl := h.1
 have hm := Nat.mul_le_mul_right s (show j + 1 ≤ k from hj)
 rw [Nat.add_mul, Nat.one_mul] at hm
 refine ⟨by rw [List.length_take, List.length_drop]; omega, fun hne => ⟨_, rfl, fun i hi => ?_⟩⟩
 have hi' : i < s := by rw [List.length_take] at hi; omega
 obtain ⟨a, ha, hc⟩ := h.2 (by intro e; rw [e] at hl; simp at hl; omega)
 cases ha
 have := hc (j * s + i) (by omega)
 rw [show (⟨b, off + j * s, none⟩ : Addr).add i = (⟨b, off, none⟩ : Addr).add (j * s + i) by rw [add_plain, add_plain, Nat.add_assoc]]
 rw [this]
 simp [List.getD_eq_getElem?_getD, List.getElem?_take, List.getElem?_drop, hi']
theorem parts_lists {w : World} {base b off cap k s c : Nat} {p : Option Addr} {bs : List UInt8} (h : BytesAt w (some ⟨b, off, none⟩) (k * s) bs) (ho : OwnS w base 25 1 p k c ((upto (chunkAt b off s) k).map chunkV)) : ListsAt w p k (partsL bs k s) := by
 refine ⟨(partsL_len _ _ _).symm, fun i hi => ?_⟩
 obtain ⟨a, ha, hc⟩ := OwnS.cells ho i (chunkV (chunkAt b off s i)) (by simp [upto, hi])
 rw [partsL_at hi]
 exact ⟨a, _, _, _, ha, hc, part_bytes (cap := cap) h hi, Nat.le_refl _⟩
def putN (s : StA) (g : Geo) (i e : Int) (R : Nat → List UInt8) : Nat → StA × Bool
 | 0 => (s, false)
 | n + 1 => let r := putN s g i e R n; if r.2 then r else (putA r.1 g i e n (R n), decide (putZ r.1 g i e n (R n) = 130))
theorem OkA.put {s : StA} (h : OkA s) (g : Geo) (i e j : Int) (b : List UInt8) : OkA (putA s g i e j b) := by
 unfold putA
 split
 ·exact h.write _ _ _
 ·exact h
theorem OkA.putN {s : StA} (h : OkA s) (g : Geo) (i e : Int) (R : Nat → List UInt8) : ∀ n, OkA (putN s g i e R n).1
 | 0 => h
 | n + 1 => by
  have ih := OkA.putN h g i e R n
  show OkA (if (Go.Proofs.YtkolafpgbhpdlaaGreat.putN s g i e R n).2 then Go.Proofs.YtkolafpgbhpdlaaGreat.putN s g i e R n else (putA (Go.Proofs.YtkolafpgbhpdlaaGreat.putN s g i e R n).1 g i e n (R n), decide (putZ (Go.Proofs.YtkolafpgbhpdlaaGreat.putN s g i e R n).1 g i e n (R n) = 130))).1
  split
  ·exact ih
  ·exact ih.put _ _ _ _ _
theorem putN_stuck {s : StA} {g : Geo} {i e : Int} {R : Nat → List UInt8} {n : Nat} (h : (putN s g i e R n).2 = true) : ∀ d, putN s g i e R (n + d) = putN s g i e R n
 | 0 => rfl
 | d + 1 => by
  have ih := putN_stuck h d
  show (if (putN s g i e R (n + d)).2 then putN s g i e R (n + d) else _) = _
  rw [ih, if_pos h]
theorem putN_step {s : StA} {g : Geo} {i e : Int} {R : Nat → List UInt8} {n : Nat} (h : (putN s g i e R n).2 = false) : putN s g i e R (n + 1) = (putA (putN s g i e R n).1 g i e n (R n), decide (putZ (putN s g i e R n).1 g i e n (R n) = 130)) := by
 show (if (putN s g i e R n).2 then _ else _) = _
 rw [h, if_neg (by simp)]
def swOk (pa pf : Option Addr) (g : Geo) (i e : Int) (bs : List UInt8) : Prop := lineZ pa pf g i e = 0 ∧ (bs.length : Int) = g.k * g.size
instance (pa pf : Option Addr) (g : Geo) (i e : Int) (bs : List UInt8) : Decidable (swOk pa pf g i e bs) := inferInstanceAs (Decidable (_ ∧ _))
def rowsG (g : Geo) (bs : List UInt8) : Nat → List UInt8 := encRow g.k.toNat g.m.toNat (partsL bs g.k.toNat g.size.toNat)
def swN (s : StA) (g : Geo) (i e : Int) (bs : List UInt8) : StA × Bool := putN s g i e (rowsG g bs) (g.k.toNat + g.m.toNat)
def swZ (s : StA) (pa pf : Option Addr) (g : Geo) (i e : Int) (bs : List UInt8) : Int := if swOk pa pf g i e bs then (if (swN s g i e bs).2 then 130 else 0) else firstZ [lineZ pa pf g i e, 1]
def swS (s : StA) (pa pf : Option Addr) (g : Geo) (i e : Int) (bs : List UInt8) : StA := if swOk pa pf g i e bs then (swN s g i e bs).1 else s
theorem lineZ_ok {pa pf : Option Addr} {g : Geo} {i e : Int} (h : lineZ pa pf g i e = 0) : (pa.isSome = true ∧ pf.isSome = true) ∧ GeoOk g ∧ lineB g i e = true := by
 cases h1 : (pa.isSome && pf.isSome)
 ·simp [lineZ, firstZ, h1] at h
 by_cases hg : GeoOk g
 ·cases h3 : lineB g i e
  ·simp [lineZ, firstZ, h1, h3, checkG, hg] at h
  ·exact ⟨by simpa using h1, hg, rfl⟩
 ·simp [lineZ, firstZ, h1, checkG, hg] at h
theorem ListsAt.updS {S : Nat → Prop} {w w' : World} {base n g : Nat} {L : Nat → List UInt8} (h : RowsAt w base (at0 g) n L) (hu : Upd S w w') (hS : ∀ x, S x → x < base) (hg : base ≤ g) : RowsAt w' base (at0 g) n L := by
 obtain ⟨P, h3, h4⟩ := h.own
 refine ⟨fun hn => let ⟨cs, h1⟩ := h.typ hn; ⟨cs, hu.keep h1 fun hs => by have : g < base := hS g hs; omega⟩, P, fun i hi => ⟨hu.cell (h3 i hi).1 (by rw [add_block]; exact fun hs => by have : g < base := hS g hs; omega), OwnS.upd (h3 i hi).2 hu fun x hx hs => ?_⟩, h4⟩
 have h5 := (h3 i hi).2
 rw [hx] at h5
 have := OwnB.blk h5 rfl
 have := hS x hs
 omega
theorem zwit {env : List Value} {pf : Option Addr} {kg kl kp ks kn : Nat} (h : env = [(lget env 0), .pointer pf, (lget env 2), (lget env 3), (lget env 4), (lget env 5), (lget env 6), (lget env 7), .pointer (some (at0 kg)), (lget env 9), (lget env 10), (lget env 11), (lget env 12), .pointer (some (at0 kl)), (lget env 14), .pointer (some (at0 kp)), (lget env 16), (lget env 17), (lget env 18), (lget env 19), (lget env 20), (lget env 21), (lget env 22), (lget env 23), (lget env 24), (lget env 25), (lget env 26), (lget env 27), (lget env 28), (lget env 29), (lget env 30), (lget env 31), (lget env 32), (lget env 33), (lget env 34), (lget env 35), (lget env 36), (lget env 37), (lget env 38), (lget env 39), (lget env 40), (lget env 41), (lget env 42), (lget env 43), (lget env 44), (lget env 45), (lget env 46), .func (.func 70) #[] #[.pointer (some (at0 ks)), .pointer (some (at0 kn))], (lget env 48), (lget env 49), (lget env 50), (lget env 51), (lget env 52), (lget env 53), (lget env 54), (lget env 55), (lget env 56), (lget env 57), (lget env 58), (lget env 59), (lget env 60), (lget env 61), (lget env 62), (lget env 63), (lget env 64), (lget env 65), (lget env 66), (lget env 67), (lget env 68), (lget env 69), (lget env 70), (lget env 71), (lget env 72), (lget env 73), (lget env 74), (lget env 75), (lget env 76)]) : ∃ zs : Nat → Value, env = [(zs 0), .pointer pf, (zs 2), (zs 3), (zs 4), (zs 5), (zs 6), (zs 7), .pointer (some (at0 kg)), (zs 9), (zs 10), (zs 11), (zs 12), .pointer (some (at0 kl)), (zs 14), .pointer (some (at0 kp)), (zs 16), (zs 17), (zs 18), (zs 19), (zs 20), (zs 21), (zs 22), (zs 23), (zs 24), (zs 25), (zs 26), (zs 27), (zs 28), (zs 29), (zs 30), (zs 31), (zs 32), (zs 33), (zs 34), (zs 35), (zs 36), (zs 37), (zs 38), (zs 39), (zs 40), (zs 41), (zs 42), (zs 43), (zs 44), (zs 45), (zs 46), .func (.func 70) #[] #[.pointer (some (at0 ks)), .pointer (some (at0 kn))], (zs 48), (zs 49), (zs 50), (zs 51), (zs 52), (zs 53), (zs 54), (zs 55), (zs 56), (zs 57), (zs 58), (zs 59), (zs 60), (zs 61), (zs 62), (zs 63), (zs 64), (zs 65), (zs 66), (zs 67), (zs 68), (zs 69), (zs 70), (zs 71), (zs 72), (zs 73), (zs 74), (zs 75), (zs 76)] := ⟨fun n => lget env n, h⟩
set_option maxRecDepth 20000 in
theorem new_line {w13 w21 : World} {k20 : Nat} {pa pf : Option Addr} {g : Geo} {i e : Int} {C : World → Prop} (h20 : NewB w13 k20 (.cells #[.pointer none, .pointer none, .int .i64 0, .int .i64 0, .int .i64 0, .int .i64 0, .int .i64 0, .int .i64 0, .int .i64 0, .int .i64 0] 77) w21)
  (hC : ∀ w31, RowW w31 k20 (lnC pa pf g i e) → Ext w13 w31 → C w31) :
  (Live w21 (at0 k20) ∧ (∀ w22 : World, SetC w21 (at0 k20) (Value.pointer pa) w22 → (Live w22 ((at0 k20).add 1) ∧ (∀ w23 : World, SetC w22 ((at0 k20).add 1) (Value.pointer pf) w23 → (Live w23 ((at0 k20).add 2) ∧ (∀ w24 : World, SetC w23 ((at0 k20).add 2) (Value.int .i64 g.k) w24 → (Live w24 ((at0 k20).add 3) ∧ (∀ w25 : World, SetC w24 ((at0 k20).add 3) (Value.int .i64 g.m) w25 →
   (Live w25 ((at0 k20).add 4) ∧ (∀ w26 : World, SetC w25 ((at0 k20).add 4) (Value.int .i64 g.size) w26 → (Live w26 ((at0 k20).add 5) ∧ (∀ w27 : World, SetC w26 ((at0 k20).add 5) (Value.int .i64 g.stripes) w27 → (Live w27 ((at0 k20).add 6) ∧ (∀ w28 : World, SetC w27 ((at0 k20).add 6) (Value.int .i64 g.slots) w28 → (Live w28 ((at0 k20).add 7) ∧ (∀ w29 : World, SetC w28 ((at0 k20).add 7) (Value.int .i64 g.objects) w29 →
   (Live w29 ((at0 k20).add 8) ∧ (∀ w30 : World, SetC w29 ((at0 k20).add 8) (Value.int .i64 i) w30 → (Live w30 ((at0 k20).add 9) ∧ (∀ w31 : World, SetC w30 ((at0 k20).add 9) (Value.int .i64 e) w31 → C w31)))))))))))))))))))) := by
 have n20 : w13.heap.size ≤ k20 := by rw [h20.size.1]; exact Nat.le_refl _
 have t0 : RowK w21 k20 77 #[.pointer none, .pointer none, .int .i64 0, .int .i64 0, .int .i64 0, .int .i64 0, .int .i64 0, .int .i64 0, .int .i64 0, .int .i64 0] := h20.at
 refine ⟨t0.live0 (by simp), fun w22 s22 => ?_⟩
 obtain ⟨t1, v1⟩ := t0.set0 s22
 refine ⟨t1.live3 (by simp), fun w23 s23 => ?_⟩
 obtain ⟨t2, v2⟩ := t1.set3 s23
 refine ⟨t2.live3 (by simp), fun w24 s24 => ?_⟩
 obtain ⟨t3, v3⟩ := t2.set3 s24
 refine ⟨t3.live3 (by simp), fun w25 s25 => ?_⟩
 obtain ⟨t4, v4⟩ := t3.set3 s25
 refine ⟨t4.live3 (by simp), fun w26 s26 => ?_⟩
 obtain ⟨t5, v5⟩ := t4.set3 s26
 refine ⟨t5.live3 (by simp), fun w27 s27 => ?_⟩
 obtain ⟨t6, v6⟩ := t5.set3 s27
 refine ⟨t6.live3 (by simp), fun w28 s28 => ?_⟩
 obtain ⟨t7, v7⟩ := t6.set3 s28
 refine ⟨t7.live3 (by simp), fun w29 s29 => ?_⟩
 obtain ⟨t8, v8⟩ := t7.set3 s29
 refine ⟨t8.live3 (by simp), fun w30 s30 => ?_⟩
 obtain ⟨t9, v9⟩ := t8.set3 s30
 refine ⟨t9.live3 (by simp), fun w31 s31 => ?_⟩
 obtain ⟨t10, v10⟩ := t9.set3 s31
 exact hC w31 ⟨_, by simpa using t10⟩ (ext_upd (ext_upd (ext_upd (ext_upd (ext_upd (ext_upd (ext_upd (ext_upd (ext_upd (ext_upd h20.ext n20 v1) n20 v2) n20 v3) n20 v4) n20 v5) n20 v6) n20 v7) n20 v8) n20 v9) n20 v10)
set_option maxRecDepth 20000 in
set_option maxHeartbeats 4000000 in
theorem swrite_spec {w : World} {a : Nat} {s : StA} {F : Nat → Prop} (h : IsA w a s F) (ho : OkA s) {pf : Option Addr} (hf : FieldAt w pf) (g : Geo) (i e : Int) {p : Option Addr} {l c : Nat} {bs : List UInt8} (hb : BytesAt w p l bs) (hlc : l ≤ c) :
  Calls Tryz.prog 14 #[.pointer (some (at0 a)), .pointer pf, gV g, .int .i64 i, .int .i64 e, .slice p l c] w fun e' w' => ∃ F', e' = .returned (.int .i64 (swZ s (some (at0 a)) pf g i e bs)) ∧ Step F F' w w' ∧ IsA w' a (swS s (some (at0 a)) pf g i e bs) F' := by
 have hbl := hb.1
 refine (F14_calls (some (at0 a)) pf g.k g.m g.size g.stripes g.slots g.objects i e p l c w (fun v w' => ∃ F', v = .int .i64 (swZ s (some (at0 a)) pf g i e bs) ∧ Step F F' w w' ∧ IsA w' a (swS s (some (at0 a)) pf g i e bs) F')
  (fun env w1 => ∃ (kg kl kp ks kn : Nat), (∃ zs : Nat → Value, env = [(zs 0), .pointer pf, (zs 2), (zs 3), (zs 4), (zs 5), (zs 6), (zs 7), .pointer (some (at0 kg)), (zs 9), (zs 10), (zs 11), (zs 12), .pointer (some (at0 kl)), (zs 14), .pointer (some (at0 kp)), (zs 16), (zs 17), (zs 18), (zs 19), (zs 20), (zs 21), (zs 22), (zs 23), (zs 24), (zs 25), (zs 26), (zs 27), (zs 28), (zs 29), (zs 30), (zs 31), (zs 32), (zs 33), (zs 34), (zs 35), (zs 36), (zs 37), (zs 38), (zs 39), (zs 40), (zs 41), (zs 42), (zs 43), (zs 44), (zs 45), (zs 46), .func (.func 70) #[] #[.pointer (some (at0 ks)), .pointer (some (at0 kn))], (zs 48), (zs 49), (zs 50), (zs 51), (zs 52), (zs 53), (zs 54), (zs 55), (zs 56), (zs 57), (zs 58), (zs 59), (zs 60), (zs 61), (zs 62), (zs 63), (zs 64), (zs 65), (zs 66), (zs 67), (zs 68), (zs 69), (zs 70), (zs 71), (zs 72), (zs 73), (zs 74), (zs 75), (zs 76)]) ∧ swOk (some (at0 a)) pf g i e bs ∧ Ext w w1 ∧ w.heap.size ≤ kg ∧ w.heap.size ≤ kl ∧ w.heap.size ≤ kp ∧ RowW w1 kg #[.int .i64 g.k, .int .i64 g.m, .int .i64 g.size, .int .i64 g.stripes, .int .i64 g.slots, .int .i64 g.objects] ∧ RowW w1 kl (lnC (some (at0 a)) pf g i e) ∧
   RowK w1 kp 79 #[.slice none 0 0] ∧ RowK w1 ks 25 #[.slice p l c] ∧ RowK w1 kn 3 #[.int .i64 g.size] ∧ kl ≠ kp ∧ kg ≠ kp)
  (fun q er _ l7 _ z w5 j w16 => ∃ (n : Nat) (F' : Nat → Prop), j = n ∧ n ≤ g.k.toNat + g.m.toNat ∧ er = 0 ∧ l7 = g.k.toNat + g.m.toNat ∧ Step F F' w5 w16 ∧ (putN s g i e (rowsG g bs) n).2 = false ∧ IsA w16 a (putN s g i e (rowsG g bs) n).1 F') (fun _ _ _ l7 _ _ _ j _ => (l7 - j).toNat)
  ?partA ?partB).mono (by rintro e' w' ⟨v, rfl, F', rfl, h⟩; exact ⟨F', rfl, h⟩)
 case partA =>
  have leaf : ∀ (w42 : World), Ext w w42 → ¬ swOk (some (at0 a)) pf g i e bs → ∀ (k52 : Nat) (w53 : World), NewB w42 k52 (.cells #[.int .i64 (lineZ (some (at0 a)) pf g i e), .int .i64 1] 27) w53 → (Calls Tryz.prog 37 #[.slice (some (at0 k52)) 2 2] w53 fun e55 w54 => (∃ (n56 : Int), e55 = .returned (.int .i64 n56) ∧
    (∃ F', Value.int .i64 n56 = .int .i64 (swZ s (some (at0 a)) pf g i e bs) ∧ Step F F' w w54 ∧ IsA w54 a (swS s (some (at0 a)) pf g i e bs) F'))) := by
   intro w42 x42 hno k52 w53 h52
   refine (sfirst_spec (L := [lineZ (some (at0 a)) pf g i e, 1]) (ints_new (w' := w53) ⟨_, h52.at⟩ rfl) (by simp)).mono ?_
   rintro e' w54 ⟨rfl, rfl⟩
   have xx := x42.trans h52.ext
   refine ⟨_, rfl, F, ?_, Step.ext xx, ?_⟩
   ·unfold swZ; rw [if_neg hno]
   ·unfold swS; rw [if_neg hno]; exact IsArr.ext h xx
  intro k12 w13 h12
  have r12 : RowW w13 k12 #[.int .i64 g.k, .int .i64 g.m, .int .i64 g.size, .int .i64 g.stripes, .int .i64 g.slots, .int .i64 g.objects] := ⟨_, h12.at⟩
  have n12 : w.heap.size ≤ k12 := by rw [h12.size.1]; exact Nat.le_refl _
  refine ⟨_, r12.row.cell (n := 0) rfl, _, r12.row.cell rfl, _, r12.row.cell rfl, _, r12.row.cell rfl, _, r12.row.cell rfl, _, r12.row.cell rfl, fun k20 w21 h20 => ?_⟩
  have n20 : w13.heap.size ≤ k20 := by rw [h20.size.1]; exact Nat.le_refl _
  refine new_line h20 fun w31 r31 x31 => ?_
  have q31 : RowW w31 k12 #[.int .i64 g.k, .int .i64 g.m, .int .i64 g.size, .int .i64 g.stripes, .int .i64 g.slots, .int .i64 g.objects] := x31.rowW r12 id
  have y31 := h12.ext.trans x31
  refine ⟨_, r31.row.cell (n := 0) rfl, _, r31.row.cell rfl, _, r31.row.cell rfl, _, r31.row.cell rfl, _, r31.row.cell rfl, _, r31.row.cell rfl, _, r31.row.cell rfl, _, r31.row.cell rfl, _, r31.row.cell rfl, _, r31.row.cell rfl, (scheck_spec (some (at0 a)) pf g i e w31).mono ?_⟩
  rintro e' w42 ⟨rfl, x42⟩
  have y42 := y31.trans x42
  refine ⟨_, rfl, condB_of (fun hne => ?_) fun he => ?_⟩
  ·simp only [Bool.not_eq_true', decide_eq_false_iff_not] at hne
   exact leaf w42 y42 fun hok => hne hok.1
  simp only [Bool.not_eq_false', decide_eq_true_eq] at he
  obtain ⟨_, hg, hlb⟩ := lineZ_ok he
  obtain ⟨g1, g2, g3, g4, g5⟩ := hg
  have q42 : RowW w42 k12 #[.int .i64 g.k, .int .i64 g.m, .int .i64 g.size, .int .i64 g.stripes, .int .i64 g.slots, .int .i64 g.objects] := x42.rowW q31 id
  have ekz : g.k * g.size = ((g.k.toNat * g.size.toNat : Nat) : Int) := by rw [Int.natCast_mul, Int.toNat_of_nonneg (by omega), Int.toNat_of_nonneg (by omega)]
  have bkz : g.k.toNat * g.size.toNat ≤ 32 * 4096 := Nat.mul_le_mul (by omega) (by omega)
  refine ⟨_, q42.row.cell (n := 0) rfl, _, q42.row.cell rfl, ?_⟩
  rw [w64 (n := g.k * g.size) (by omega)]
  refine condB_of (fun hne => ?_) fun hlen => ?_
  ·simp only [Bool.not_eq_true', decide_eq_false_iff_not] at hne
   exact leaf w42 y42 fun hok => hne (by have := hok.2; omega)
  simp only [Bool.not_eq_false', decide_eq_true_eq] at hlen
  have hok : swOk (some (at0 a)) pf g i e bs := ⟨he, by omega⟩
  intro k57 w58 h57
  have y58 := y42.trans h57.ext
  have q58 : RowW w58 k12 #[.int .i64 g.k, .int .i64 g.m, .int .i64 g.size, .int .i64 g.stripes, .int .i64 g.slots, .int .i64 g.objects] := h57.ext.rowW q42 id
  have r58 : RowW w58 k20 (lnC (some (at0 a)) pf g i e) := h57.ext.rowW (x42.rowW r31 id) id
  have r57 : RowK w58 k57 79 #[.slice none 0 0] := h57.at
  refine ⟨_, q58.row.cell rfl, (chunk_spec w58 (by omega)).mono ?_⟩
  rintro e' w60 ⟨ks, kn, rfl, x60, nks, nkn, rs, rn⟩
  have l12 : k12 < w42.heap.size := by have := r12.lt; have := (x31.trans x42).size; omega
  have l20 : k20 < w42.heap.size := by have := r31.lt; have := x42.size; omega
  have e57 := h57.size.1
  have s42 := y42.size
  have s13 := h12.ext.size
  exact ⟨_, rfl, k12, k20, k57, ks, kn, zwit rfl, hok, y58.trans x60, n12, by omega, by omega, x60.rowW q58 id, x60.rowW r58 id, x60.keep r57, rs, rn, by omega, by omega⟩
 case partB =>
  rintro env w1 ⟨kg, kl, kp, ks, kn, ⟨zs, rfl⟩, hok, x1, ng, nl, np, rg, rl, rp, rs, rn, nlp, ngp⟩
  obtain ⟨_, hg, hlb⟩ := lineZ_ok hok.1
  have hlen := hok.2
  obtain ⟨g1, g2, g3, g4, g5⟩ := hg
  have hg : GeoOk g := ⟨g1, g2, g3, g4, g5⟩
  obtain ⟨K, hK⟩ : ∃ K, K = g.k.toNat := ⟨_, rfl⟩
  obtain ⟨M, hM⟩ : ∃ M, M = g.m.toNat := ⟨_, rfl⟩
  obtain ⟨S, hS⟩ : ∃ S, S = g.size.toNat := ⟨_, rfl⟩
  have ekz : g.k * g.size = ((K * S : Nat) : Int) := by rw [Int.natCast_mul, hK, hS, Int.toNat_of_nonneg (by omega), Int.toNat_of_nonneg (by omega)]
  have bkz : K * S ≤ 32 * 4096 := Nat.mul_le_mul (by omega) (by omega)
  obtain rfl : l = K * S := by omega
  have pos : 1 * 1 ≤ K * S := Nat.mul_le_mul (by omega) (by omega)
  obtain ⟨ad, hpad, hca⟩ := BytesAt.co hb (i := 0) (by omega)
  subst hpad
  obtain ⟨b, off, sp⟩ := ad
  have hsp : sp = none := by
   cases sp with
   | none => rfl
   | some x =>
    rw [show (⟨b, off, some x⟩ : Addr).add 0 = ⟨b, off, some x⟩ from rfl] at hca
    unfold World.cell? at hca
    revert hca
    split <;> simp
  subst hsp
  have rn' : RowK w1 kn 3 #[.int .i64 (S : Int)] := by rw [show (S : Int) = g.size by omega]; exact rn
  refine Go.wp_mono (chunks_loop (zs 0) (.pointer pf) (zs 2) (zs 3) (zs 4) (zs 5) (zs 6) (zs 7) (.pointer (some (at0 kg))) (zs 9) (zs 10) (zs 11) (zs 12) (.pointer (some (at0 kl))) (zs 14) (zs 16) (zs 17) (zs 18) (zs 19) (zs 20) (zs 21) (zs 22) (zs 23) (zs 24) (zs 25) (zs 26) (zs 27) (zs 28) (zs 29) (zs 30) (zs 31) (zs 32) (zs 33) (zs 34) (zs 35) (zs 36) (zs 37) (zs 38) (zs 39) (zs 40) (zs 41) (zs 42) (zs 43) (zs 44) (zs 45) (zs 46) (zs 48) (zs 49) (zs 50) (zs 51) (zs 52) (zs 53) (zs 54) (zs 55) (zs 56) (zs 57) (zs 58) (zs 59) (zs 60) (zs 61) (zs 62) (zs 63) (zs 64) (zs 65) (zs 66) (zs 67) (zs 68) (zs 69) (zs 70) (zs 71) (zs 72) (zs 73) (zs 74) (zs 75) (zs 76) rp rs rn' (by omega) hlc (by omega)) ?_
  rintro e' a' w2 ⟨rfl, D, hD, rfl, hKD, hU, p2, c2, rp2, ho2⟩
  refine ⟨rfl, D, rfl, ?_⟩
  refine Eq.mpr (F14b_eq (zs 0) pf (zs 2) (zs 3) (zs 4) (zs 5) (zs 6) (zs 7) kg (zs 9) (zs 10) (zs 11) (zs 12) kl (zs 14) kp (zs 16) (zs 17) (zs 18) (zs 19) (zs 20) (zs 21) (zs 22) (zs 23) (zs 24) (zs 25) (zs 26) (zs 27) (zs 28) (zs 29) (zs 30) (zs 31) (zs 32) (zs 33) (zs 34) (zs 35) (zs 36) (zs 37) (zs 38) (zs 39) (zs 40) (zs 41) (zs 42) (zs 43) (zs 44) (zs 45) (zs 46) (.func (.func 70) #[] #[.pointer (some (at0 ks)), .pointer (some (at0 kn))]) (zs 48) (zs 49) (zs 50) (zs 51) (zs 52) (zs 53) (zs 54) (zs 55) (zs 56) (zs 57) (zs 58) (zs 59) (zs 60) (zs 61) (zs 62) (zs 63) (zs 64) (zs 65) (zs 66) (zs 67) (zs 68) (zs 69) (zs 70) (zs 71) (zs 72) (zs 73) (zs 74) (zs 75) (zs 76) D w2 _ _ _) ?_
  have x12 : Ext w w2 := ext_upd x1 np hU
  have rg2 : RowW w2 kg #[.int .i64 g.k, .int .i64 g.m, .int .i64 g.size, .int .i64 g.stripes, .int .i64 g.slots, .int .i64 g.objects] := hU.rowW rg (fun e => ngp e)
  have rl2 : RowW w2 kl (lnC (some (at0 a)) pf g i e) := hU.rowW rl (fun e => nlp e)
  have hL : ListsAt w2 p2 K (partsL bs K S) := parts_lists (cap := c) (hb.ext x12) ho2
  have hrow0 : ((partsL bs K S).getD 0 []).length = S := partsL_row (by omega) (by omega)
  refine ⟨_, rg2.row.cell (n := 0) rfl, _, rg2.row.cell rfl, _, _, _, rp2.cell, (encode_any (hf.ext x12) hL (by omega) (by omega) g.k g.m).mono ?_⟩
  rintro e' w5 ⟨v, rfl, x5, ⟨hno, _⟩ | ⟨_, hno, _⟩ | ⟨_, _, ar, cr, rfl, hrows, gr, rfl, hgr⟩⟩
  ·exact (hno ⟨by omega, by omega, by omega, by omega⟩).elim
  ·exact (hno ⟨by omega, fun j hj => by rw [hrow0, partsL_row (by omega) hj]⟩).elim
  have hN : (g.k + g.m).toNat = K + M := by omega
  have x15 := x12.trans x5
  rw [hN, ← hK, ← hM] at hrows
  have hrows : RowsAt w5 w2.heap.size (at0 gr) (K + M) (rowsG g bs) := by unfold rowsG; rw [← hK, ← hM, ← hS]; exact hrows
  rw [hN]
  have rl5 : RowW w5 kl (lnC (some (at0 a)) pf g i e) := x5.rowW rl2 id
  have hF : ∀ x, F x → x < w.heap.size := IsArr.lt h
  have hD5 : w5.heap[D]? = some (.deferred (some [])) := (x5.block D (Array.getElem?_eq_some_iff.1 hKD).1 id).trans hKD
  have hDw : w.heap.size ≤ D := Nat.le_trans x1.size hD
  refine ⟨_, _, _, _, rfl, ⟨0, F, rfl, Nat.zero_le _, rfl, by omega, Step.refl _ _, rfl, IsArr.ext h x15⟩, ?_⟩
  rintro jI w16 ⟨n, F', rfl, hn, _, _, hst, hns, hA⟩
  intros
  have st := (Step.ext (F := F) x15).trans hst
  have hD16 : w16.heap[D]? = some (.deferred (some [])) := (hst.upd.block D (Array.getElem?_eq_some_iff.1 hD5).1 (fun hFD => by have := hF D hFD; omega)).trans hD5
  have rl16 : RowW w16 kl (lnC (some (at0 a)) pf g i e) := hst.upd.rowW rl5 (fun hFk => by have := hF kl hFk; omega)
  have hrows16 := ListsAt.updS hrows hst.upd (fun x hx => by have := hF x hx; have := x12.size; omega) hgr
  have put : ∀ (z : Int) (F'' : Nat → Prop) (sX : StA) (w' : World), Step F F'' w w' → ¬ F'' D → IsA w' a sX F'' → w'.heap[D]? = some (.deferred (some [])) → z = swZ s (some (at0 a)) pf g i e bs → sX = swS s (some (at0 a)) pf g i e bs → (w'.heap[D]? = some (.deferred (some [])) ∧ ∃ F', Value.int .i64 z = .int .i64 (swZ s (some (at0 a)) pf g i e bs) ∧ Step F F' w (w'.putObj D (.deferred none)) ∧ IsA (w'.putObj D (.deferred none)) a (swS s (some (at0 a)) pf g i e bs) F') := by
   rintro z F'' sX w' hs' hFD hA' hd' rfl rfl
   have hup : Upd (fun x => x = D) w' (w'.putObj D (.deferred none)) := ⟨rfl, rfl, rfl, by simp [World.putObj], fun x _ hx => by simp only [World.putObj]; rw [Array.getElem?_setIfInBounds_ne (fun e => hx e.symm)]⟩
   refine ⟨hd', F'', rfl, ⟨Upd.trans hs'.upd hup fun x hx e => ?_, hs'.grow⟩, IsArr.upd hA' hup fun x e hx => hFD (by rw [← show x = D from e]; exact hx)⟩
   have : x = D := e
   omega
  have hF5 : ¬ F D := fun hh => by have := hF D hh; omega
  have lD5 := (Array.getElem?_eq_some_iff.1 hD5).1
  have hF16 := hst.apart lD5 hF5
  have hswN : swN s g i e bs = putN s g i e (rowsG g bs) (K + M) := by unfold swN; rw [← hK, ← hM]
  refine condB_of (fun hs1 => ?_) (fun hs1 => ?_)
  ·simp only [decide_eq_true_eq] at hs1
   have hnN : n < K + M := by omega
   obtain ⟨P, hP, _⟩ := hrows16.own
   obtain ⟨hcell, hob⟩ := hP n hnN
   have lob := OwnB.len hob
   have lrow : (rowsG g bs n).length = S := by unfold rowsG; rw [encRow_len, ← hK, ← hS]; exact hrow0
   refine ⟨⟨by omega, hs1⟩, _, _, _, by rw [Int.toNat_natCast, Nat.mul_one]; exact hcell, _, rl16.row.cell (n := 0) rfl, _, rl16.row.cell rfl, _, rl16.row.cell rfl, _, rl16.row.cell rfl, _, rl16.row.cell rfl, _, rl16.row.cell rfl, _, rl16.row.cell rfl, _, rl16.row.cell rfl, _, rl16.row.cell rfl, _, rl16.row.cell rfl,
    (sput_spec hA (ho.putN g i e _ n) pf g i e n (OwnB.bytes hob) (by omega)).mono ?_⟩
   rintro e' w42 ⟨F2, rfl, hs2, hA2⟩
   have st2 := st.trans hs2
   have lD16 := (Array.getElem?_eq_some_iff.1 hD16).1
   have hF42 := hs2.apart lD16 hF16
   have hD42 : w42.heap[D]? = some (.deferred (some [])) := (hs2.upd.block D lD16 hF16).trans hD16
   have hstep := putN_step hns
   refine ⟨_, rfl, condB_of (fun hz => ?_) fun hz => ?_⟩
   ·simp only [decide_eq_true_eq] at hz
    have hst1 : (putN s g i e (rowsG g bs) (n + 1)).2 = true := by rw [hstep]; exact decide_eq_true hz
    have hfin : swN s g i e bs = putN s g i e (rowsG g bs) (n + 1) := by
     rw [hswN, show K + M = n + 1 + (K + M - (n + 1)) by omega, putN_stuck hst1]
    refine put 130 F2 _ w42 st2 hF42 hA2 hD42 ?_ ?_
    ·unfold swZ; rw [if_pos hok, hfin, hst1, if_pos rfl]
    ·unfold swS; rw [if_pos hok, hfin, hstep]
   ·simp only [decide_eq_false_iff_not] at hz
    rw [w64 (n := (n : Int) + 1) (by omega)]
    refine ⟨⟨n + 1, F2, by omega, by omega, rfl, by omega, hst.trans hs2, by rw [hstep]; exact decide_eq_false hz, by rw [hstep]; exact hA2⟩, by show (((K + M : Nat) : Int) - ((n : Int) + 1)).toNat < (((K + M : Nat) : Int) - n).toNat; omega⟩
  ·simp only [decide_eq_false_iff_not] at hs1
   obtain rfl : n = K + M := by omega
   refine put 0 F' _ w16 st hF16 hA hD16 ?_ ?_
   ·unfold swZ; rw [if_pos hok, hswN, hns, if_neg (by simp)]
   ·unfold swS; rw [if_pos hok, hswN]
end Go.Proofs.YtkolafpgbhpdlaaGreat
namespace Go.Proofs.YtkolafpgbhpdlaaGreat
open Go Go.Vc Go.Gf
def rdZ (s : StA) (i : Nat) (n : Int) : Int := if s.down then 130 else match s.M[i]? with
 | some m => faultZ m.d.dead m.d.sectors n
 | none => 1
def rdB (s : StA) (i : Nat) (n : Int) : List UInt8 := if s.down then [] else match s.M[i]? with
 | some m => if faultZ m.d.dead m.d.sectors n = 0 then readD m.d n else []
 | none => []
theorem faultZ_ne {d : Bool} {a b : Int} : faultZ d a b ≠ 130 := by unfold faultZ; split <;> (try split) <;> omega
theorem rdZ_down (s : StA) (i : Nat) (n : Int) : rdZ s i n = 130 ↔ s.down = true := by
 unfold rdZ
 split
 ·simp [*]
 ·split
  ·simp [*, faultZ_ne]
  ·simp [*]
theorem read_any {w : World} {a : Nat} {s : StA} {F : Nat → Prop} (h : IsA w a s F) {d : Int} (hd : 0 ≤ d) (n : Int) :
  Calls Tryz.prog 61 #[.pointer (some (at0 a)), .int .i64 d, .int .i64 n] w fun e w' => Ext w w' ∧ ∃ p l c, e = .returned (.tuple #[.slice p l c, .int .i64 (rdZ s d.toNat n)]) ∧ OwnB w' w.heap.size p l c (rdB s d.toNat n) ∧ l ≤ 4108 := by
 obtain ⟨i, rfl⟩ := Int.eq_ofNat_of_zero_le hd
 obtain ⟨M, left, down⟩ := s
 rw [Int.toNat_natCast]
 cases down with
 | true =>
  refine (aread_down h (i : Int) n).mono ?_
  rintro e w' ⟨rfl, rfl⟩
  exact ⟨Upd.refl _ _, none, 0, 0, rfl, OwnS.nil _ _ _ _, by omega⟩
 | false =>
  cases hm : M[i]? with
  | none =>
   have hi : M.length ≤ i := List.getElem?_eq_none_iff.1 hm
   refine (aread_out h (i := (i : Int)) (fun hh => by have h3 : (i : Int) < (M.length : Int) := hh.2; omega) n).mono ?_
   rintro e w' ⟨rfl, rfl⟩
   refine ⟨Upd.refl _ _, none, 0, 0, by simp [rdZ, hm], ?_, by omega⟩
   have : rdB ⟨M, left, false⟩ i n = [] := by simp [rdB, hm]
   rw [this]; exact OwnS.nil _ _ _ _
  | some m =>
   refine (aread_spec h hm n).mono ?_
   rintro e w' ⟨x, p, l, c, bs, rfl, rfl, rfl, ob, hle⟩
   refine ⟨x, p, _, c, by simp [rdZ, hm], ?_, hle⟩
   have : rdB ⟨M, left, false⟩ i n = if faultZ m.d.dead m.d.sectors n = 0 then readD m.d n else [] := by simp [rdB, hm]
   rw [this]; exact ob
section
variable (s : StA) (g : Geo) (i e : Int)
def unS (j : Nat) : Option (Int × List UInt8) := if rdZ s (diskZ g i j).toNat (atZ g i) = 0 then unpackM (atZ g i) (rdB s (diskZ g i j).toNat (atZ g i)) else none
def hasS (j : Nat) : Bool := match unS s g i j with
 | some (n, d) => decide (n = e ∧ (d.length : Int) = g.size)
 | none => false
def shS (j : Nat) : List UInt8 := match unS s g i j with
 | some (_, d) => d
 | none => []
def nG : Nat := g.k.toNat + g.m.toNat
def hsL : List Bool := (List.range (nG g)).map (hasS s g i e)
def shL : List (List UInt8) := (List.range (nG g)).map (shS s g i)
def liveS (j : Nat) : Bool := match s.M[(diskZ g i j).toNat]? with
 | some m => !m.d.dead
 | none => false
noncomputable def badS (j : Nat) : Bool := liveS s g i j && (!hasS s g i e j || flgD g.k.toNat g.m.toNat (nG g) (hsL s g i e) (shL s g i) g.size.toNat j)
def readOk : Prop := (∃ j, j < nG g ∧ hasS s g i e j = true) ∧ ∀ x, x < g.size.toNat → decM g.k.toNat g.m.toNat (wordAt (nG g) (hsL s g i e) (shL s g i) x) (nots (hsL s g i e)) ≠ none
def readP (w : World) (v : Value) (w' : World) : Prop := Ext w w' ∧
 ((s.down = true ∧ v = .tuple #[.slice none 0 0, .slice none 0 0, .int .i64 130]) ∨
  (s.down = false ∧ ¬ readOk s g i e ∧ v = .tuple #[.slice none 0 0, .slice none 0 0, .int .i64 150]) ∨
  (s.down = false ∧ readOk s g i e ∧ ∃ ko p2 n2 c2, v = .tuple #[.slice (some (at0 ko)) (nG g) (nG g), .slice p2 n2 c2, .int .i64 0] ∧
   OutAt w' w.heap.size ko (nG g) (rowD g.k.toNat g.m.toNat (nG g) (hsL s g i e) (shL s g i) g.size.toNat) ∧ OwnN w' w.heap.size p2 n2 c2 ((List.range (nG g)).filter (badS s g i e))))
end
theorem hsL_at {s : StA} {g : Geo} {i e : Int} {j : Nat} (hj : j < nG g) : (hsL s g i e).getD j false = hasS s g i e j := by simp [hsL, List.getD_eq_getElem?_getD, hj]
theorem shL_at {s : StA} {g : Geo} {i : Int} {j : Nat} (hj : j < nG g) : (shL s g i).getD j [] = shS s g i j := by simp [shL, List.getD_eq_getElem?_getD, hj]
theorem unpackM_len {a : Int} {b d : List UInt8} {n : Int} (h : unpackM a b = some (n, d)) : d.length ≤ 4108 := by
 unfold unpackM at h
 split at h
 ·rename_i hok
  cases h
  have := hok.2.1
  simp; omega
 ·cases h
theorem shS_len (s : StA) (g : Geo) (i : Int) (j : Nat) : (shS s g i j).length ≤ 4108 := by
 unfold shS
 cases hu : unS s g i j with
 | none => simp
 | some v =>
  obtain ⟨n, d⟩ := v
  unfold unS at hu
  split at hu
  ·exact unpackM_len hu
  ·cases hu
theorem sized_iff {s : StA} {g : Geo} {i e : Int} (hg : GeoOk g) (x : Nat) : Sized g.k g.m (nG g) (nG g) (hsL s g i e) (shL s g i) x ↔ (∃ j, j < nG g ∧ hasS s g i e j = true) ∧ x = g.size.toNat := by
 obtain ⟨g1, g2, g3, g4, g5⟩ := hg
 have hl : ∀ j, j < nG g → hasS s g i e j = true → (shS s g i j).length = g.size.toNat := fun j _ hb => by
  unfold hasS at hb
  unfold shS
  cases hu : unS s g i j with
  | none => rw [hu] at hb; cases hb
  | some v =>
   obtain ⟨n, d⟩ := v
   rw [hu] at hb
   simp only [decide_eq_true_eq] at hb
   show d.length = _
   omega
 have hn : (nG g : Int) = g.k + g.m := by unfold nG; omega
 constructor
 ·rintro ⟨_, _, ⟨j, hj, hb⟩, h4⟩
  have hb' := hb
  rw [hsL_at hj] at hb'
  refine ⟨⟨j, hj, hb'⟩, ?_⟩
  rw [← h4 j hj hb, shL_at hj, hl j hj hb']
 ·rintro ⟨⟨j, hj, hb⟩, rfl⟩
  refine ⟨hn, hn, ⟨j, hj, by rw [hsL_at hj]; exact hb⟩, fun j hj hb => ?_⟩
  rw [hsL_at hj] at hb
  rw [shL_at hj, hl j hj hb]
def blkQ (q : Option Addr) : Nat := (q.map (·.block)).getD 0
structure RdSt (w w1 : World) (s : StA) (g : Geo) (i e : Int) (lnc : Array Value) (k11 k250 k252 t : Nat) : Prop where
 ext : Ext w w1
 row : RowW w1 k11 lnc
 has : RowK w1 k250 4 (fRow (nG g) fun x => decide (x < t) && hasS s g i e x)
 rows : RowsAt w1 w.heap.size (at0 k252) (nG g) fun x => if x < t then shS s g i x else []
 b250 : w.heap.size ≤ k250
 b252 : w.heap.size ≤ k252
 n250 : k11 ≠ k250
 n252 : k11 ≠ k252
theorem RdSt.mono {w w1 w2 : World} {s : StA} {g : Geo} {i e : Int} {lnc : Array Value} {k11 k250 k252 t : Nat} (h : RdSt w w1 s g i e lnc k11 k250 k252 t) (hx : Ext w1 w2) : RdSt w w2 s g i e lnc k11 k250 k252 t :=
 ⟨h.ext.trans hx, hx.rowW h.row id, hx.keep h.has, h.rows.ext hx, h.b250, h.b252, h.n250, h.n252⟩
theorem fRow_congr {n : Nat} {f f' : Nat → Bool} (h : ∀ i, i < n → f i = f' i) : fRow n f = fRow n f' := by
 unfold fRow
 congr 1
 exact List.map_congr_left fun i hi => by rw [h i (List.mem_range.1 hi)]
theorem RdSt.put {w w1 w2 : World} {s : StA} {g : Geo} {i e : Int} {lnc : Array Value} {k11 k250 k252 t : Nat} (h : RdSt w w1 s g i e lnc k11 k250 k252 t) (_ht : t < nG g) {b : Bool} (hb : b = hasS s g i e t) (hs : SetC w1 ((at0 k250).add t) (.bool b) w2) :
  Ext w w2 ∧ RowW w2 k11 lnc ∧ RowK w2 k250 4 (fRow (nG g) fun x => decide (x < t + 1) && hasS s g i e x) ∧ RowsAt w2 w.heap.size (at0 k252) (nG g) (fun x => if x < t then shS s g i x else []) ∧ Upd (fun x => x = k250) w1 w2 := by
 obtain ⟨r2, u2⟩ := h.has.set3 hs
 refine ⟨OwnB.new_ext h.ext u2 fun x hx => by rw [show x = k250 from hx]; exact h.b250, u2.rowW h.row (fun e => h.n250 e), ?_, h.rows.otherT u2 (fun x hx => by obtain rfl : x = k250 := hx; exact ⟨_, _, _, h.has, ty_all.1, ty_all.2.1⟩), u2⟩
 rw [fRow_put, fRow_congr (f' := fun x => decide (x < t + 1) && hasS s g i e x)] at r2
 ·exact r2
 ·intro x _
  skip
  by_cases e : x = t
  ·subst e; rw [if_pos rfl, hb, decide_eq_true (by omega), Bool.true_and]
  ·rw [if_neg e]
   congr 1
   exact decide_eq_decide.2 (by omega)
theorem RdSt.same {w w1 : World} {s : StA} {g : Geo} {i e : Int} {lnc : Array Value} {k11 k250 k252 t : Nat} (h : RdSt w w1 s g i e lnc k11 k250 k252 t) (hb : hasS s g i e t = false) (hz : shS s g i t = []) : RdSt w w1 s g i e lnc k11 k250 k252 (t + 1) := by
 refine { h with has := ?_, rows := ?_ }
 ·rw [fRow_congr (f' := fun x => decide (x < t) && hasS s g i e x)]
  ·exact h.has
  ·intro x _
   by_cases e2 : x = t
   ·subst e2; rw [hb, Bool.and_false, Bool.and_false]
   ·congr 1
    exact decide_eq_decide.2 (by omega)
 ·refine h.rows.congr fun x _ => ?_
  by_cases e2 : x = t
  ·subst e2; rw [if_pos (by omega), if_neg (by omega), hz]
  ·by_cases h3 : x < t
   ·rw [if_pos h3, if_pos (by omega)]
   ·rw [if_neg h3, if_neg (by omega)]
theorem made_bool (n : Nat) : madeRow Tryz.prog 4 n = fRow n fun x => decide (x < 0) && false := by
 rw [made_one 4 (.bool false) (by kernel_rfl)]
 unfold fRow
 congr 1
 apply List.ext_getElem?
 intro i
 by_cases h : i < n <;> simp [h]
theorem rows_new {w w1 : World} {k n : Nat} (base : Nat) (h : NewB w k (.cells (madeRow Tryz.prog 25 n) 25) w1) : RowsAt w1 base (at0 k) n fun _ => [] := by
 rw [made_one 25 (.slice none 0 0) (by kernel_rfl)] at h
 have r : RowK w1 k 25 (List.replicate n (.slice none 0 0)).toArray := h.at
 refine ⟨fun _ => ⟨_, r⟩, fun _ => (none, 0, 0), fun i hi => ⟨?_, OwnS.nil _ _ _ _⟩, fun _ _ _ _ _ g hg => by cases hg⟩
 rw [rowk_cell r]
 simp [hi]
def rI0 (w : World) (s : StA) (g : Geo) (i e : Int) (lnc : Array Value) (q11 : Option Addr) (_ : Int) (q250 : Option Addr) (_ _ : Nat) (q252 : Option Addr) (_ _ : Nat) (_ : Int) (_ : World) (j : Int) (w1 : World) : Prop := ∃ t : Nat, j = t ∧ t ≤ nG g ∧ (s.down = true → t = 0) ∧ RdSt w w1 s g i e lnc (blkQ q11) (blkQ q250) (blkQ q252) t
def rM0 (g : Geo) (_ : Option Addr) (_ : Int) (_ : Option Addr) (_ _ : Nat) (_ : Option Addr) (_ _ : Nat) (_ : Int) (_ : World) (j : Int) (_ : World) : Nat := ((nG g : Nat) - j).toNat
def rI1 (s : StA) (g : Geo) (i e : Int) (_ _ : Option Addr) (_ _ : Nat) (_ : Option Addr) (_ _ : Nat) (_ : Option Addr) (_ _ : Nat) (_ : Option Addr) (_ _ : Nat) (_ : Int) (w403 : World) (p : Option Addr) (l c : Nat) (j : Int) (w1 : World) : Prop := ∃ t : Nat, j = t ∧ t ≤ nG g ∧ Ext w403 w1 ∧ l ≤ t ∧ OwnN w1 w403.heap.size p l c ((List.range t).filter (badS s g i e))
def rM1 (g : Geo) (_ _ : Option Addr) (_ _ : Nat) (_ : Option Addr) (_ _ : Nat) (_ : Option Addr) (_ _ : Nat) (_ : Option Addr) (_ _ : Nat) (_ : Int) (_ : World) (_ : Option Addr) (_ _ : Nat) (j : Int) (_ : World) : Nat := ((nG g : Nat) - j).toNat
theorem put_row {w0 w w' : World} {S : Nat → Prop} {base k n i : Nat} {L : Nat → List UInt8} (h : RowsAt w0 base (at0 k) n L) (hx : Upd S w0 w) (hk : ¬ S k) (hS : ∀ x, S x → ∃ (cs : Array Value) (e : TypeId) (fz : Nat × Nat), w0.heap[x]? = some (Obj.cells cs e fz) ∧ e ≠ 5) (hi : i < n) {p : Option Addr} {m c : Nat} {bs : List UInt8} (ho : OwnB w w0.heap.size p m c bs) (hb : base ≤ w0.heap.size)
  (hs : SetC w ((at0 k).add i) (.slice p m c) w') : RowsAt w' base (at0 k) n (fun t => if t = i then bs else L t) ∧ Upd (fun x => x = k) w w' := by
 obtain ⟨cs, h0⟩ := h.typ (by omega)
 have h1 : RowK w k 25 cs := hx.keep h0 hk
 obtain ⟨P, h3, h4⟩ := h.own
 have hc : ∀ t, t < n → w.cell? ((at0 k).add t) = some (.slice (P t).1 (P t).2.1 (P t).2.2) := fun t ht => hx.cell (h3 t ht).1 (by rw [add_block]; exact hk)
 have hcs : i < cs.size := by
  have h5 := hc i hi
  rw [rowk_cell h1] at h5
  exact (Array.getElem?_eq_some_iff.1 h5).1
 obtain ⟨r', hu⟩ := h1.set3 hs
 have fresh : ∀ t, t < n → ∀ g, (P t).1 = some (at0 g) → p ≠ some (at0 g) := fun t ht g hg he => by
  have h5 := (h3 t ht).2
  rw [hg] at h5
  have := OwnS.lt_heap h5
  have := OwnB.blk ho he
  omega
 refine ⟨⟨fun _ => ⟨_, r'⟩, fun t => if t = i then (p, m, c) else P t, fun t ht => ?_, ?_⟩, hu⟩
 ·dsimp only
  rw [rowk_cell r', Array.getElem?_setIfInBounds]
  by_cases e : t = i
  ·subst e
   simp only [if_true]
   rw [if_pos hcs]
   exact ⟨rfl, OwnB.base_le (OwnB.apart ho hu h1 ty_out.1.symm) hb⟩
  ·rw [if_neg (fun e2 => e e2.symm), if_neg e, if_neg e]
   refine ⟨?_, OwnB.apart (OwnB.other (h3 t ht).2 hx fun x hx => ?_) hu h1 ty_out.1.symm⟩
   ·rw [← rowk_cell h1]
    exact hc t ht
   ·obtain ⟨cs', e', fz, h5, h6⟩ := hS x hx
    exact ⟨cs', e', fz, h5, h6⟩
 ·intro s t hs' ht hst g hg
  dsimp only at hg ⊢
  by_cases h5 : s = i
  ·rw [if_pos h5] at hg
   rw [if_neg (fun e => hst (h5.trans e.symm))]
   exact fun he => fresh t ht g he hg
  ·rw [if_neg h5] at hg
   by_cases h6 : t = i
   ·rw [if_pos h6]; exact fresh s hs' g hg
   ·rw [if_neg h6]; exact h4 s t hs' ht hst g hg
theorem rd_a4 {w w253 w264 w364 : World} {s : StA} {g : Geo} {i e : Int} {lnc : Array Value} {k11 k250 k252 t : Nat} {R : Value → World → Prop} (hg : GeoOk g) (ht : t < nG g) (hd : s.down = false) (h : RdSt w w364 s g i e lnc k11 k250 k252 (t + 1)) :
  F33_A4 k11 g.k g.m k250 k252 w253 t w364 w264 R (rI0 w s g i e lnc) (rM0 g) (rI1 s g i e) (rM1 g) := by
 obtain ⟨g1, g2, g3, g4, g5⟩ := hg
 unfold F33_A4
 have hn : (nG g : Int) = g.k + g.m := by unfold nG; omega
 rw [w64 (n := (t : Int) + 1) (by omega)]
 exact ⟨⟨t + 1, by omega, by omega, fun h => (by rw [hd] at h; cases h), h⟩, by show ((nG g : Int) - ((t : Int) + 1)).toNat < ((nG g : Int) - t).toNat; omega⟩
theorem rd_a2 {w w253 w264 w1 w388 : World} {s : StA} {g : Geo} {i e : Int} {lnc : Array Value} {k11 k250 k252 t : Nat} {R : Value → World → Prop} (hg : GeoOk g) (ht : t < nG g) (hd : s.down = false) {b : Bool} (hb : b = hasS s g i e t) {p : Option Addr} {l c : Nat} {wu : World}
  (h0 : RdSt w wu s g i e lnc k11 k250 k252 t) (hx : Ext wu w1) (ho : OwnB w1 wu.heap.size p l c (shS s g i t)) (hs : SetC w1 ((at0 k250).add t) (.bool b) w388) :
  F33_A2 t g.k g.m w388 k252 p l c k11 k250 w253 w264 R (rI0 w s g i e lnc) (rM0 g) (rI1 s g i e) (rM1 g) := by
 have h := h0.mono hx
 have hgg := hg
 obtain ⟨g1, g2, g3, g4, g5⟩ := hg
 have hn : (nG g : Int) = g.k + g.m := by unfold nG; omega
 unfold F33_A2
 rw [w64 (n := g.k + g.m) (by omega)]
 obtain ⟨x2, r2, f2, _, u2⟩ := h.put ht hb hs
 have hrow0 := h0.rows
 have hr2 := (h0.rows.ext hx).otherT u2 fun x hx => by obtain rfl : x = k250 := hx; exact ⟨_, _, _, h.has, ty_all.1, ty_all.2.1⟩
 have ho2 : OwnB w388 wu.heap.size p l c (shS s g i t) := OwnB.apart ho u2 h.has ty_all.1
 obtain ⟨cs, hcs⟩ := hr2.typ (by omega)
 have hcs : RowK w388 k252 25 cs := hcs
 have hsz : t < cs.size := by
  obtain ⟨P, h3, _⟩ := hr2.own
  have h5 := (h3 t ht).1
  rw [rowk_cell hcs] at h5
  exact (Array.getElem?_eq_some_iff.1 h5).1
 have hne : k250 ≠ k252 := fun e => by
  have h8 := f2
  rw [e] at h8
  unfold RowK at h8 hcs
  rw [h8] at hcs
  have := (Option.some.inj hcs)
  injection this with _ h9 _
  exact ty_all.2.1 h9
 refine ⟨⟨by omega, by omega⟩, by rw [Int.toNat_natCast, Nat.mul_one]; exact hcs.live3 hsz, fun w389 s389 => ?_⟩
 rw [Int.toNat_natCast, Nat.mul_one] at s389
 have xm : Upd (fun x => x = k250) wu w388 := Upd.trans hx.upd u2 fun x _ hx => hx
 obtain ⟨hput, u3⟩ := put_row hrow0 xm (show ¬ (k252 = k250) from fun e => hne e.symm) (fun x hx => by obtain rfl : x = k250 := hx; exact ⟨_, _, _, h0.has, ty_all.1⟩) ht ho2 h0.ext.size s389
 refine rd_a4 hgg ht hd ⟨?_, u3.rowW r2 (fun e => h.n252 e), u3.keep f2 (fun e => hne e), ?_, h.b250, h.b252, h.n250, h.n252⟩
 ·exact OwnB.new_ext x2 u3 fun x hx => by rw [show x = k252 from hx]; exact h.b252
 ·refine hput.congr fun x _ => ?_
  skip
  by_cases e2 : x = t
  ·subst e2; rw [if_pos (by omega), if_pos rfl]
  ·rw [if_neg e2]
   by_cases h3 : x < t
   ·rw [if_pos h3, if_pos (by omega)]
   ·rw [if_neg h3, if_neg (by omega)]
end Go.Proofs.YtkolafpgbhpdlaaGreat
namespace Go.Proofs.YtkolafpgbhpdlaaGreat
open Go Go.Vc Go.Gf
theorem flags_mark {w : World} {k n : Nat} {ff : Nat → Bool} (r : RowK w k 4 (fRow n ff)) : FlagsAt w (some (at0 k)) n ((List.range n).map ff) := by
 refine ⟨by simp, fun j u hj => ⟨_, rfl, ?_⟩⟩
 rw [rowk_cell r]
 unfold fRow
 simpa using hj
theorem ints_own {w : World} {base : Nat} {p : Option Addr} {n c : Nat} {W : List Nat} (h : OwnN w base p n c W) : IntsAt w p n (W.map fun (i : Nat) => (i : Int)) := by
 refine ⟨by have := OwnN.len h; simp [this], ?_⟩
 have := OwnS.cells h
 have e : encN W = (W.map fun (i : Nat) => (i : Int)).map (Value.int .i64) := by simp [encN, List.map_map, Function.comp_def]
 rw [e] at this
 exact this
theorem rows_cut {w : World} {base k n : Nat} {L L' : Nat → List UInt8} (h : RowsAt w base (at0 k) n L) (hL : ∀ i, i < n → L i = L' i) : ListsAt w (some (at0 k)) n ((List.range n).map L') := by
 have := (h.congr (L' := L') fun i hi => (hL i hi).symm).lists
 exact this
theorem not_down {s : StA} {i : Nat} {n : Int} (h : ¬ rdZ s i n = 130) : s.down = false := by
 cases hd : s.down
 ·rfl
 ·exact (h ((rdZ_down _ _ _).2 hd)).elim
set_option maxRecDepth 20000 in
set_option maxHeartbeats 4000000 in
theorem rd_core {w w253 : World} {a : Nat} {s : StA} {F : Nat → Prop} (h : IsA w a s F) (ho : OkA s) {pf : Option Addr} (hf : FieldAt w pf) {g : Geo} {i e : Int} (hg : GeoOk g) (hi : 0 ≤ i ∧ i < g.stripes) {k11 k250 k252 : Nat} (h0 : RdSt w w253 s g i e (lnC (some (at0 a)) pf g i e) k11 k250 k252 0) :
  F33_A0 k11 g.k g.m k250 k252 w253 (readP s g i e w) (rI0 w s g i e (lnC (some (at0 a)) pf g i e)) (rM0 g) (rI1 s g i e) (rM1 g) := by
 have hgg := hg
 obtain ⟨g1, g2, g3, g4, g5⟩ := hg
 have hn : (nG g : Int) = g.k + g.m := by unfold nG; omega
 unfold F33_A0
 rw [w64 (n := g.k + g.m) (by omega)]
 have hN : (g.k + g.m).toNat = nG g := by omega
 rw [hN]
 refine ⟨⟨0, rfl, Nat.zero_le _, fun _ => rfl, h0⟩, ?_⟩
 rintro j w264 ⟨t, rfl, ht, hdt, st⟩
 have st : RdSt w w264 s g i e (lnC (some (at0 a)) pf g i e) k11 k250 k252 t := st
 intros
 refine condB_of (fun hlt => ?_) (fun hge => ?_)
 ·simp only [decide_eq_true_eq] at hlt
  have htn : t < nG g := by omega
  intro w327 hd327
  have r27 : RowW w327 k11 (lnC (some (at0 a)) pf g i e) := hd327.ext.rowW st.row id
  refine ⟨_, r27.row.cell (n := 0) rfl, _, r27.row.cell rfl, _, cell2 r27 rfl, _, cell2 r27 rfl, _, cell2 r27 rfl, _, cell2 r27 rfl, _, cell2 r27 rfl, _, r27.row.cell rfl, _, r27.row.cell (n := 0) rfl, _, r27.row.cell rfl, _, r27.row.cell rfl, _, r27.row.cell rfl, _, r27.row.cell rfl, _, r27.row.cell rfl, _, r27.row.cell rfl, _, r27.row.cell rfl, _, r27.row.cell rfl, _, r27.row.cell rfl, (diskZ_spec g i t w327).mono ?_⟩
  rintro e' w346 ⟨rfl, x346⟩
  have r46 : RowW w346 k11 (lnC (some (at0 a)) pf g i e) := x346.rowW r27 id
  refine ⟨_, rfl, ⟨_, r46.row.cell (n := 0) rfl, rfl⟩, ⟨_, r46.row.cell (n := 0) rfl, _, r46.row.cell rfl, _, r46.row.cell rfl, _, r46.row.cell rfl, _, r46.row.cell rfl, _, r46.row.cell rfl, _, r46.row.cell rfl, _, r46.row.cell rfl, _, r46.row.cell rfl, _, r46.row.cell rfl, rfl⟩, (sat_spec (some (at0 a)) pf g i e w346).mono ?_⟩
  rintro e' w360 ⟨rfl, x360⟩
  have r60 : RowW w360 k11 (lnC (some (at0 a)) pf g i e) := x360.rowW r46 id
  have y60 := (hd327.ext.trans x346).trans x360
  refine ⟨_, rfl, ⟨_, r60.row.cell (n := 0) rfl, rfl⟩, (read_any (IsArr.ext h (st.ext.trans y60)) (diskZ_pos g i t) (atZ g i)).mono ?_⟩
  rintro e' w364 ⟨x364, p, l, c, rfl, ob, hle⟩
  have y64 := y60.trans x364
  have s64 := st.mono y64
  have r64 : RowW w364 k11 (lnC (some (at0 a)) pf g i e) := s64.row
  refine ⟨_, _, _, _, rfl, condB_of (fun h130 => ?_) (fun h130 => condB_of (fun h0' => ?_) fun hne => ?_)⟩
  ·simp only [decide_eq_true_eq] at h130
   rw [h130]
   exact ⟨s64.ext, .inl ⟨(rdZ_down _ _ _).1 h130, rfl⟩⟩
  all_goals simp only [decide_eq_false_iff_not] at h130
  all_goals have hdn : s.down = false := (not_down h130)
  ·simp only [decide_eq_true_eq] at h0'
   refine ⟨_, r64.row.cell (n := 0) rfl, _, r64.row.cell rfl, _, r64.row.cell rfl, _, r64.row.cell rfl, _, r64.row.cell rfl, _, r64.row.cell rfl, _, r64.row.cell rfl, _, r64.row.cell rfl, _, r64.row.cell rfl, _, r64.row.cell rfl, (sat_spec (some (at0 a)) pf g i e w364).mono ?_⟩
   rintro e' w378 ⟨rfl, x378⟩
   have s78 := s64.mono x378
   have ob78 : OwnB w378 _ p l c _ := OwnB.ext ob x378
   refine ⟨_, rfl, (unpack_spec (atZ g i) (OwnB.bytes ob78) (by omega) (OwnB.le ob78)).mono ?_⟩
   rintro e' w381 ⟨v, rfl, x381, hv⟩
   have s81 := s78.mono x381
   have r81 : RowW w381 k11 (lnC (some (at0 a)) pf g i e) := s81.row
   have hun : unS s g i t = unpackM (atZ g i) (rdB s (diskZ g i t).toNat (atZ g i)) := by unfold unS; rw [if_pos h0']
   have cell250 : Live w381 ((at0 k250).add t) := s81.has.live3 (by rw [fRow_len]; exact htn)
   have a1 : ∀ (n : Int) {p' : Option Addr} {l' c' : Nat}, hasS s g i e t = false → OwnB w381 w378.heap.size p' l' c' (shS s g i t) → F33_A1 t g.k g.m w381 k250 k252 p' l' c' k11 w253 w264 (readP s g i e w) (rI0 w s g i e (lnC (some (at0 a)) pf g i e)) (rM0 g) (rI1 s g i e) (rM1 g) := by
    intro n p' l' c' hh hob
    unfold F33_A1
    rw [w64 (n := g.k + g.m) (by omega)]
    refine ⟨⟨by omega, by omega⟩, by rw [Int.toNat_natCast, Nat.mul_one]; exact cell250, fun w390 s390 => ?_⟩
    rw [Int.toNat_natCast, Nat.mul_one] at s390
    exact rd_a2 hgg htn hdn (b := false) hh.symm s78 x381 hob s390
   cases hu : unpackM (atZ g i) (rdB s (diskZ g i t).toNat (atZ g i)) with
   | none =>
    rw [hu] at hv hun
    subst hv
    refine ⟨_, _, _, _, _, rfl, condB_of (fun h => by simp at h) fun _ => a1 0 ?_ ?_⟩
    ·unfold hasS; rw [hun]
    ·have : shS s g i t = [] := by unfold shS; rw [hun]
     rw [this]; exact OwnS.nil _ _ _ _
   | some nd =>
    obtain ⟨n, d⟩ := nd
    rw [hu] at hv hun
    obtain ⟨p', c', rfl, ob'⟩ := hv
    have hsh : shS s g i t = d := by unfold shS; rw [hun]
    have hhs : hasS s g i e t = decide (n = e ∧ (d.length : Int) = g.size) := by unfold hasS; rw [hun]
    have ob' : OwnB w381 w378.heap.size p' d.length c' (shS s g i t) := by rw [hsh]; exact ob'
    refine ⟨_, _, _, _, _, rfl, condB_of (fun _ => ⟨_, r81.row.cell rfl, condB_of (fun hne => ?_) fun hne => ?_⟩) fun h => by simp at h⟩
    ·simp only [decide_eq_true_eq] at hne
     refine ⟨_, cell2 r81 rfl, ⟨by omega, by omega⟩, by rw [Int.toNat_natCast, Nat.mul_one]; exact cell250, fun w388 s388 => ?_⟩
     rw [Int.toNat_natCast, Nat.mul_one] at s388
     exact rd_a2 hgg htn hdn (by rw [hhs]; exact decide_eq_decide.2 ⟨fun h => ⟨hne, h⟩, fun h => h.2⟩) s78 x381 ob' s388
    ·simp only [decide_eq_false_iff_not] at hne
     exact a1 0 (by rw [hhs]; exact decide_eq_false fun h => hne h.1) ob'
  ·simp only [decide_eq_false_iff_not] at hne
   have hun : unS s g i t = none := by unfold unS; rw [if_neg hne]
   refine rd_a4 hgg htn hdn (s64.same ?_ ?_)
   ·unfold hasS; rw [hun]
   ·unfold shS; rw [hun]
 ·simp only [decide_eq_false_iff_not] at hge
  obtain rfl : t = nG g := by omega
  have hdn : s.down = false := by
   cases hd : s.down
   ·rfl
   ·have := hdt hd; omega
  have r64 : RowW w264 k11 (lnC (some (at0 a)) pf g i e) := st.row
  have hfl : FlagsAt w264 (some (at0 k250)) (nG g) (hsL s g i e) := by
   have h1 := st.has
   rw [fRow_congr (f' := hasS s g i e) fun x hx => by simp [hx]] at h1
   exact flags_mark h1
  have hsl : ListsAt w264 (some (at0 k252)) (nG g) (shL s g i) := rows_cut st.rows fun x hx => by rw [if_pos hx]
  refine ⟨_, r64.row.cell rfl, _, cell2 r64 rfl, _, cell2 r64 rfl, (shards_spec (hf.ext st.ext) hfl hsl g.k g.m ?_).mono ?_⟩
  ·intro x hx
   obtain ⟨j, _, rfl⟩ := List.mem_map.1 hx
   have := shS_len s g i j
   omega
  rintro e' w397 ⟨v, rfl, x397, hv⟩
  have y97 := st.ext.trans x397
  have hsz := sized_iff (s := s) (i := i) (e := e) hgg
  have hbad : ¬ readOk s g i e → readP s g i e w (.tuple #[.slice none 0 0, .slice none 0 0, .int .i64 150]) w397 := fun hno => ⟨y97, .inr (.inl ⟨hdn, hno, rfl⟩)⟩
  rcases hv with ⟨hno, _⟩ | ⟨_, hno, rfl⟩ | ⟨_, S, hS, ⟨⟨x, hx, hxn⟩, rfl⟩ | ⟨cs, hcl, hcs, ko, p2, n2, c2, W, rfl, hout, hW, hWs, hWm⟩⟩
  ·exact (hno ⟨by omega, by omega, by omega, by omega⟩).elim
  ·refine ⟨_, _, _, _, _, _, _, rfl, condB_of (fun _ => hbad fun hok => hno _ ((hsz _).2 ⟨hok.1, rfl⟩)) fun h => by simp at h⟩
  ·refine ⟨_, _, _, _, _, _, _, rfl, condB_of (fun _ => hbad fun hok => hok.2 x (by have := ((hsz _).1 hS).2; omega) hxn) fun h => by simp at h⟩
  obtain ⟨hany, hSe⟩ := (hsz _).1 hS
  subst hSe
  have hok : readOk s g i e := ⟨hany, fun x hx => by rw [hcs x hx]; simp⟩
  have hcol : ∀ x, x < g.size.toNat → colD g.k.toNat g.m.toNat (nG g) (hsL s g i e) (shL s g i) x = cs.getD x [] := fun x hx => by unfold colD; rw [hcs x hx]; rfl
  have hrowE : (fun y => cs.map fun c => co c y) = rowD g.k.toNat g.m.toNat (nG g) (hsL s g i e) (shL s g i) g.size.toNat := by
   funext y
   apply List.ext_getElem?
   intro x
   unfold rowD
   by_cases hx : x < g.size.toNat
   ·have hxc : x < cs.length := by omega
    simp only [List.getElem?_map, List.getElem?_range hx, Option.map_some, List.getElem?_eq_getElem hxc]
    rw [hcol x hx, List.getD_eq_getElem?_getD, List.getElem?_eq_getElem hxc]; rfl
   ·rw [List.getElem?_eq_none (by simp; omega), List.getElem?_eq_none (by simp; omega)]
  have hflg : ∀ y, y ∈ W ↔ flgD g.k.toNat g.m.toNat (nG g) (hsL s g i e) (shL s g i) g.size.toNat y = true := fun y => by
   rw [hWm, flgD_iff]
   constructor
   ·rintro ⟨x, hx, hy⟩
    exact ⟨x, hx, by unfold difD; rw [hcol x hx]; exact hy⟩
   ·rintro ⟨x, hx, hy⟩
    refine ⟨x, hx, ?_⟩
    unfold difD at hy
    rw [hcol x hx] at hy; exact hy
  rw [hrowE] at hout
  have s97 := st.mono x397
  have r97 : RowW w397 k11 (lnC (some (at0 a)) pf g i e) := s97.row
  refine ⟨_, _, _, _, _, _, _, rfl, condB_of (fun h => by simp at h) fun _ => ⟨_, r97.row.cell (n := 0) rfl, (live_spec (IsArr.ext h y97) (by have := ho.1; omega)).mono ?_⟩⟩
  rintro e' w403 ⟨p405, l405, c405, rfl, x403, rfl, hlive⟩
  have y403 := y97.trans x403
  have s403 := s97.mono x403
  refine ⟨_, _, _, rfl, ⟨0, rfl, Nat.zero_le _, Upd.refl _ _, Nat.le_refl _, OwnS.nil _ _ _ _⟩, ?_⟩
  rintro p420 l420 c420 j2 w422 ⟨t, rfl, ht2, x422, hlt2, hob⟩
  intros
  have s422 := s403.mono x422
  have r422 : RowW w422 k11 (lnC (some (at0 a)) pf g i e) := s422.row
  refine condB_of (fun hlt => ?_) (fun hge => ?_)
  ·simp only [decide_eq_true_eq] at hlt
   have htn : t < nG g := by omega
   have hsucc : (List.range (t + 1)).filter (badS s g i e) = (List.range t).filter (badS s g i e) ++ if badS s g i e t = true then [t] else [] := range_filter_succ _ _
   refine ⟨_, r422.row.cell rfl, _, cell2 r422 rfl, _, cell2 r422 rfl, _, cell2 r422 rfl, _, cell2 r422 rfl, _, cell2 r422 rfl, _, r422.row.cell rfl, (diskZ_spec g i t w422).mono ?_⟩
   rintro e' w467 ⟨rfl, x467⟩
   have a5 : ∀ w477, Ext w467 w477 → badS s g i e t = false → F33_A5 k11 k250 g.k g.m (some (at0 ko)) (nG g) (nG g) p2 n2 c2 p405 s.M.length c405 w403 p420 l420 c420 t w477 w422 (readP s g i e w) (rI0 w s g i e (lnC (some (at0 a)) pf g i e)) (rM0 g) (rI1 s g i e) (rM1 g) := by
    intro w477 x477 hb
    unfold F33_A5
    rw [w64 (n := g.k + g.m) (by omega), hN, w64 (n := (t : Int) + 1) (by omega)]
    refine ⟨⟨t + 1, by omega, by omega, x422.trans (x467.trans x477), by omega, ?_⟩, by show ((nG g : Int) - ((t : Int) + 1)).toNat < ((nG g : Int) - t).toNat; omega⟩
    rw [hsucc, hb, if_neg (by simp), List.append_nil]
    exact OwnS.ext hob (x467.trans x477)
   have a3 : ∀ w477, Ext w467 w477 → badS s g i e t = true → F33_A3 w477 t p420 l420 c420 k11 k250 g.k g.m (some (at0 ko)) (nG g) (nG g) p2 n2 c2 p405 s.M.length c405 w403 w422 (readP s g i e w) (rI0 w s g i e (lnC (some (at0 a)) pf g i e)) (rM0 g) (rI1 s g i e) (rM1 g) := by
    intro w477 x477 hb
    unfold F33_A3
    rw [w64 (n := g.k + g.m) (by omega), hN, w64 (n := (t : Int) + 1) (by omega)]
    intro k473 w474 h473
    have hob7 : OwnS w477 w403.heap.size 3 1 p420 l420 c420 (encN ((List.range t).filter (badS s g i e))) := OwnS.ext hob (x467.trans x477)
    obtain ⟨p', c', w2, hr, ho2, x2⟩ := app_one elemInt (by omega) (x422.trans (x467.trans x477)) hob7 h473 rfl (by omega)
    refine ⟨_, _, _, _, hr, ⟨t + 1, by omega, by omega, x2, by omega, ?_⟩, by show ((nG g : Int) - ((t : Int) + 1)).toNat < ((nG g : Int) - t).toNat; omega⟩
    rw [hsucc, hb, if_pos rfl]
    have : encN ((List.range t).filter (badS s g i e)) ++ [Value.int .i64 (t : Int)] = encN ((List.range t).filter (badS s g i e) ++ [t]) := by simp [encN]
    rw [this] at ho2
    exact ho2
   have s467 := s422.mono x467
   have dpos := diskZ_pos g i t
   refine ⟨_, rfl, condB_of (fun hl => ?_) fun hl => a5 _ (Upd.refl _ _) ?_⟩
   ·simp only [decide_eq_true_eq] at hl
    obtain ⟨m, hm⟩ : ∃ m, s.M[(diskZ g i t).toNat]? = some m := ⟨s.M[(diskZ g i t).toNat]'(by omega), List.getElem?_eq_getElem _⟩
    have hlv : liveS s g i t = !m.d.dead := by unfold liveS; rw [hm]
    obtain ⟨al, hal, hcl2⟩ := OwnS.cells hlive (diskZ g i t).toNat (.bool (!m.d.dead)) (by rw [List.getElem?_map, hm]; rfl)
    subst hal
    refine ⟨⟨by omega, hl⟩, _, by rw [Nat.mul_one]; exact cellx hcl2 (x422.trans x467), ?_⟩
    have cHas : w467.cell? ((at0 k250).add t) = some (.bool (hasS s g i e t)) := by rw [rowk_cell s467.has, fRow_get htn]; simp [htn]
    refine condB_of (fun hlv1 => ⟨⟨by omega, by omega⟩, _, by rw [Int.toNat_natCast, Nat.mul_one]; exact cHas, condB_of (fun hh => a3 _ (Upd.refl _ _) ?_) fun hh => ?_⟩) fun hlv1 => a5 _ (Upd.refl _ _) ?_
    ·unfold badS; rw [hlv, hlv1, hh]; rfl
    ·have hWi : IntsAt w467 p2 n2 (W.map fun (i : Nat) => (i : Int)) := (ints_own hW).ext (x403.trans (x422.trans x467))
     have hWl := OwnN.len hW
     have hWb : W.length ≤ nG g := by
      have : W = (List.range (nG g)).filter fun y => decide (y ∈ W) := sorted_ext hWs (List.pairwise_lt_range.filter _) fun y => by
       rw [List.mem_filter, List.mem_range, decide_eq_true_eq]
       exact ⟨fun hy => ⟨((hWm y).1 hy).elim fun x hx => (mem_dif.1 hx.2).1, hy⟩, fun hy => hy.2⟩
      rw [this]
      exact Nat.le_trans (List.length_filter_le _ _) (by rw [List.length_range]; exact Nat.le_refl _)
     refine (contains_spec (c := c2) (x := (t : Int)) hWi (by omega)).mono ?_
     rintro e' w477 ⟨rfl, rfl⟩
     have hdec : decide ((t : Int) ∈ W.map fun (i : Nat) => (i : Int)) = flgD g.k.toNat g.m.toNat (nG g) (hsL s g i e) (shL s g i) g.size.toNat t := by
      rw [Bool.eq_iff_iff, decide_eq_true_eq, ← hflg]
      constructor
      ·intro h; obtain ⟨y, hy, he⟩ := List.mem_map.1 h; rw [← show y = t by omega]; exact hy
      ·intro h; exact List.mem_map.2 ⟨t, h, rfl⟩
     rw [hdec]
     refine ⟨_, rfl, condB_of (fun hf1 => a3 _ (Upd.refl _ _) ?_) fun hf1 => a5 _ (Upd.refl _ _) ?_⟩
     ·unfold badS; rw [hlv, hlv1, hf1, Bool.or_true]; rfl
     ·unfold badS; rw [hf1, hh, Bool.or_false, Bool.and_false]
    ·unfold badS; rw [hlv, hlv1, Bool.false_and]
   ·simp only [decide_eq_false_iff_not] at hl
    have : s.M[(diskZ g i t).toNat]? = none := List.getElem?_eq_none (by omega)
    unfold badS liveS
    rw [this, Bool.false_and]
  ·simp only [decide_eq_false_iff_not] at hge
   obtain rfl : t = nG g := by omega
   refine ⟨y403.trans x422, .inr (.inr ⟨hdn, hok, ko, p420, l420, c420, rfl, ?_, ?_⟩)⟩
   ·exact (hout.base_le st.ext.size).ext (x403.trans x422)
   ·exact OwnS.base_le hob y403.size
end Go.Proofs.YtkolafpgbhpdlaaGreat
