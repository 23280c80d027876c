/- What is written to the disks that want it. -/
import Derived.Test.YtphkmbkmjhbenaaV8
import Derived.Test.YtphkmbkmjhbenaaA9
namespace Go.Proofs.Ytphkmbkmjhbenaa
open Go Go.Vc

/-- what a write to a disk answers -/
def wrZ (s : StA) (i : Nat) (n : Int) (len : Nat) : Int := if s.down then 130 else match s.M[i]? with
  | some m => writeZ m.d n len
  | none => 1

theorem write_at {w : World} {a : Nat} {s : StA} {F : Nat → Prop} (h : IsA w a s F) (ho : OkA s) {i : Nat} (hi : i < s.M.length) (n : Int) {p : Option Addr} {l c : Nat} {b : List UInt8} (hb : BytesAt w p l b) :
    Calls Try.prog 29 #[.pointer (some (at0 a)), .int .i64 (i : Int), .int .i64 n, .slice p l c] w fun e w' => ∃ F', e = .returned (.int .i64 (wrZ s i n b.length)) ∧ Step F F' w w' ∧ IsA w' a (writeA s i n b) F' := by
  obtain ⟨M, left, down⟩ := s
  cases down with
  | true =>
    refine (awrite_down h (i : Int) n p l c).mono ?_
    rintro e w' ⟨rfl, rfl⟩
    exact ⟨F, rfl, Step.refl _ _, by simpa [writeA] using h⟩
  | false =>
    obtain ⟨m, hm⟩ : ∃ m, M[i]? = some m := ⟨M[i]'hi, List.getElem?_eq_getElem _⟩
    refine (awrite_spec h ho.2 hm n hb).mono ?_
    rintro e w' ⟨F', rfl, hs, h'⟩
    refine ⟨F', by simp [wrZ, hm], hs, ?_⟩
    have : writeA ⟨M, left, false⟩ (i : Int) n b = ⟨M.set i { m with d := writeD m.d n b }, if writeZ m.d n b.length = 0 ∧ 0 < left then left - 1 else left, decide (writeZ m.d n b.length = 0 ∧ left = 1)⟩ := by
      unfold writeA
      simp [hm]
    rw [this]; exact h'

theorem putA_len (s : StA) (d n : Int) (b : List UInt8) : (writeA s d n b).M.length = s.M.length := by
  unfold writeA
  split
  · rfl
  · split
    · split
      · simp
      · rfl
    · rfl

/-- the writes of the first i disks: the state, how many took it, whether the power went -/
def putS (to : Nat → Bool) (n : Int) (b : List UInt8) (s : StA) : Nat → StA × Int × Bool
  | 0 => (s, 0, false)
  | i + 1 =>
    let r := putS to n b s i
    if r.2.2 then r
    else if to i then
      (writeA r.1 i n b, if wrZ r.1 i n b.length = 0 then r.2.1 + 1 else r.2.1, decide (wrZ r.1 i n b.length = 130))
    else r

theorem putS_ok {to : Nat → Bool} {n : Int} {b : List UInt8} {s : StA} (h : OkA s) : ∀ i, OkA (putS to n b s i).1 ∧ (putS to n b s i).1.M.length = s.M.length ∧ 0 ≤ (putS to n b s i).2.1 ∧ (putS to n b s i).2.1 ≤ i
  | 0 => ⟨h, rfl, Int.le_refl _, Int.le_refl _⟩
  | i + 1 => by
    have ih := putS_ok (to := to) (n := n) (b := b) h i
    simp only [putS]
    split
    · exact ⟨ih.1, ih.2.1, ih.2.2.1, by have := ih.2.2.2; omega⟩
    · split
      · refine ⟨ih.1.write _ _ _, by rw [putA_len]; exact ih.2.1, ?_⟩
        have h1 := ih.2.2.1
        have h2 := ih.2.2.2
        dsimp only
        split <;> omega
      · exact ⟨ih.1, ih.2.1, ih.2.2.1, by have := ih.2.2.2; omega⟩
theorem putS_stuck {to : Nat → Bool} {n : Int} {b : List UInt8} {s : StA} {i : Nat} (h : (putS to n b s i).2.2 = true) : ∀ j, putS to n b s (i + j) = putS to n b s i
  | 0 => rfl
  | j + 1 => by
    have ih := putS_stuck h j
    rw [← Nat.add_assoc]
    simp only [putS]
    rw [ih, if_pos h]

/-- a sector put: the state, the count, the error -/
def putM (to : Nat → Bool) (addr epoch : Int) (d : List UInt8) (s : StA) : StA × Int × Int :=
  if fitsP addr ∧ fitsP epoch ∧ d.length ≤ 4096 then
    (if (putS to addr (packM addr epoch d) s s.M.length).2.2 then ((putS to addr (packM addr epoch d) s s.M.length).1, 0, 130)
      else ((putS to addr (packM addr epoch d) s s.M.length).1, (putS to addr (packM addr epoch d) s s.M.length).2.1, 0))
  else (s, 0, 1)

/-- the disks that want a mend -/
def toM (lv : List Bool) (L : List Said) (b : Say) (i : Nat) : Bool := lv.getD i false && !(match L[i]? with
  | some s => s.is && decide ((s.epoch, s.data) = b)
  | none => false)

theorem eqlAt_agg {P : Program} {t : TypeId} {xs ys : Array Value} {w : World} {b : Bool} (hg : P.eqGuardType P.depth t = false) (h : (Op.equal t (.agg xs) (.agg ys)).run P w = .ok b w) :
    eqlAt P t (.agg xs) (.agg ys) w b :=
  ⟨fun op ox oy => by cases op <;> simp [eqGuard, hg], (run_eql_of h).1, (run_eql_of h).2⟩
theorem sayGuard : Try.prog.eqGuardType Try.prog.depth 62 = false := by kernel_rfl

theorem wants_all (i : Int) (w : World) : Calls Try.prog 25 #[.int .i64 i] w fun e w' => e = .returned (.bool true) ∧ Ext w w' :=
  (F25_calls i w (fun v w' => v = .bool true ∧ Ext w w') ⟨rfl, Upd.refl _ _⟩).mono (by rintro e w' ⟨v, rfl, rfl, h⟩; exact ⟨rfl, h⟩)

theorem wants_mend {w : World} {kl k8 kb : Nat} {pl : Option Addr} {ll cl : Nat} {lv : List Bool} {p6 : Option Addr} {l6 c6 : Nat} {L : List Said} {b : Say} (hl : RowW w kl #[.slice pl ll cl]) (hlv : BoolsAt w pl ll lv)
    (h8 : RowW w k8 #[.slice p6 l6 c6]) (hL : CellsAt w p6 (saidsV L)) (h6 : l6 = L.length) (hb : RowW w kb #[.int .i64 b.1, .string (bstr b.2)]) {i : Nat} (hi : i < ll) (hi6 : i < l6) :
    Calls Try.prog 26 #[.int .i64 (i : Int), .pointer (some (at0 kl)), .pointer (some (at0 k8)), .pointer (some (at0 kb))] w fun e w' => e = .returned (.bool (toM lv L b i)) ∧ Ext w w' := by
  refine (F26_calls (i : Int) (at0 kl) (at0 k8) (at0 kb) w (fun v w' => v = .bool (toM lv L b i) ∧ Ext w w') ?_).mono (by rintro e w' ⟨v, rfl, rfl, h⟩; exact ⟨rfl, h⟩)
  intro w5 hd
  have x := hd.ext
  have e0 : ∀ k, (at0 k) = (at0 k).add 0 := fun k => (add_at0 k 0).symm
  have rl : RowW w5 kl _ := x.rowW hl id
  have r8 : RowW w5 k8 _ := x.rowW h8 id
  have rb : RowW w5 kb _ := x.rowW hb id
  obtain ⟨a, rfl, hc⟩ := (hlv.ext x).get hi
  obtain ⟨s, hs⟩ : ∃ s, L[i]? = some s := ⟨L[i]'(by omega), List.getElem?_eq_getElem _⟩
  have hcL := hL.ext x
  obtain ⟨pa, rfl, c0⟩ := hcL (i * 4 + 0) _ (saidsV_at hs (j := 0) rfl)
  have ccs : ∀ j v, (saidV s)[j]? = some v → w5.cell? ((pa.add (i * 4)).add j) = some v := by
    intro j v hj
    obtain ⟨a', ha', h'⟩ := hcL (i * 4 + j) v (saidsV_at hs hj)
    cases ha'
    rw [add_add]; exact h'
  have hto : toM lv L b i = (lv.getD i false && !(s.is && decide ((s.epoch, s.data) = b))) := by unfold toM; rw [hs]
  rw [Int.toNat_natCast, hto]
  refine ⟨some a, ll, cl, by rw [e0 kl]; exact rl.row.cell rfl, ⟨by omega, by omega⟩, lv.getD i false, hc, condB_of (fun h1 => ?_) (fun h1 => ⟨by rw [h1]; rfl, x⟩)⟩
  rw [h1]
  refine ⟨some pa, l6, c6, by rw [e0 k8]; exact r8.row.cell rfl, ⟨by omega, by omega⟩, s.is, ccs 2 _ rfl, condB_of (fun h2 => ?_) (fun h2 => ⟨by rw [h2]; rfl, x⟩)⟩
  rw [h2]
  refine ⟨some pa, l6, c6, by rw [e0 k8]; exact r8.row.cell rfl, ⟨by omega, by omega⟩, s.epoch, ?_, bstr s.data, ?_, _, by rw [e0 kb]; exact rb.row.cell rfl, _, rb.row.cell rfl, decide ((s.epoch, s.data) = b), ?_, rfl, x⟩
  · exact ccs 0 _ rfl
  · rw [add_add]; exact ccs 1 _ rfl
  · exact eqlAt_agg sayGuard (sayOk.eq (s.epoch, s.data) b w5)


set_option maxHeartbeats 4000000 in
theorem put_all_spec {w : World} {a : Nat} {s : StA} {F : Nat → Prop} (h : IsA w a s F) (ho : OkA s) (addr epoch : Int) (d : List UInt8) (hdl : d.length ≤ 4611686018427387904) (to : Nat → Bool)
    (hw : ∀ w', Upd F w w' → ∀ i : Nat, i < s.M.length → Calls Try.prog 25 #[.int .i64 (i : Int)] w' fun e w'' => e = .returned (.bool (to i)) ∧ Ext w' w'') :
    Calls Try.prog 24 #[.pointer (some (at0 a)), .int .i64 addr, .agg #[.int .i64 epoch, .string (bstr d)], .func (.func 25) #[] #[]] w fun e w' =>
      ∃ F', e = .returned (.tuple #[.int .i64 (putM to addr epoch d s).2.1, .int .i64 (putM to addr epoch d s).2.2]) ∧ Step F F' w w' ∧ IsA w' a (putM to addr epoch d s).1 F' := by
  refine (F24_25_calls (some (at0 a)) addr epoch (bstr d) w (fun v w' => ∃ F', v = .tuple #[.int .i64 (putM to addr epoch d s).2.1, .int .i64 (putM to addr epoch d s).2.2] ∧ Step F F' w w' ∧ IsA w' a (putM to addr epoch d s).1 F')
    (fun ps ls _ len w15 n22 n23 w24 => ∃ (i k : Nat) (F' : Nat → Prop), ps = some (at0 k) ∧ ¬ F' k ∧ len = (s.M.length : Int) ∧ n23 = i ∧ i ≤ s.M.length ∧ (putS to addr (packM addr epoch d) s i).2.2 = false ∧ n22 = (putS to addr (packM addr epoch d) s i).2.1 ∧
      fitsP addr ∧ fitsP epoch ∧ d.length ≤ 4096 ∧ Ext w w15 ∧ Step F F' w15 w24 ∧ IsA w24 a (putS to addr (packM addr epoch d) s i).1 F' ∧ BytesAt w24 ps ls (packM addr epoch d) ∧ k < w15.heap.size ∧ ¬ F k)
    (fun _ _ _ _ _ _ n23 _ => 100 - n23.toNat) ?_).mono (by rintro e w' ⟨v, rfl, F', rfl, h⟩; exact ⟨F', rfl, h⟩)
  unfold F24_25
  intro k5 w6 hk5
  have hM : s.M.length ≤ 32 := ho.1
  have r6 : RowW w6 k5 #[.int .i64 epoch, .string (bstr d)] := ⟨_, hk5.at⟩
  refine condB_of (fun h => by cases h) fun _ => ⟨_, r6.row.cell rfl, _, r6.row.cell rfl, ?_⟩
  obtain ⟨cc, w9, hr, x9, hd, sz9⟩ := ofStr w6 d
  refine ⟨_, _, _, w9, hr, (pack_spec addr epoch hd hdl).mono ?_⟩
  rintro e w11 ⟨x11, hp⟩
  have xa : Ext w w11 := (hk5.ext.trans x9).trans x11
  by_cases hfit : fitsP addr ∧ fitsP epoch ∧ d.length ≤ 4096
  · rw [if_pos hfit] at hp
    obtain ⟨k, c', hk, rfl, hbk⟩ := hp
    refine ⟨_, _, _, _, rfl, condB_of (fun h => by cases h) fun _ => ?_⟩
    refine (live_spec ((h : IsArr w a s.M s.left s.down F).ext xa) (by omega)).mono ?_
    rintro e w15 ⟨pL, lL, cL, rfl, x15, rfl, _⟩
    have xb : Ext w w15 := xa.trans x15
    have hkF : ¬ F k := fun hF => by
      have h1 := (h : IsArr w a s.M s.left s.down F).lt k hF
      have := (hk5.ext.trans x9).size
      omega
    obtain ⟨_, hb0, hklt⟩ := hbk.lt (by intro h0; have := packM_len addr epoch d; rw [h0] at this; simp at this; omega)
    cases hb0
    refine ⟨_, _, _, rfl, ⟨0, k, F, rfl, hkF, rfl, rfl, Nat.zero_le _, rfl, rfl, hfit.1, hfit.2.1, hfit.2.2, xb, Step.refl _ _, (h : IsArr w a s.M s.left s.down F).ext xb, hbk.ext x15, Nat.lt_of_lt_of_le hklt x15.size, hkF⟩, ?_⟩
    rintro n22 n23 w24 ⟨i, k', F', e1, hkF', _, rfl, hi, hgo, rfl, _, _, _, _, hst, hA, hby, hklt', _⟩
    simp only [Option.some.injEq, at0, Addr.mk.injEq, and_true] at e1
    subst e1
    intros
    have hok := putS_ok (to := to) (n := addr) (b := packM addr epoch d) ho i
    refine condB_of (fun hlt => ?_) (fun hge => ?_)
    · simp only [decide_eq_true_eq] at hlt
      have hu : Upd F w w24 := Upd.trans (Ext.upd xb) hst.upd fun x _ h => h
      refine (hw w24 hu i (by omega)).mono ?_
      rintro e w46 ⟨rfl, x46⟩
      have hst46 : Step F F' w15 w46 := hst.trans (Step.ext x46)
      have hA46 : IsA w46 a (putS to addr (packM addr epoch d) s i).1 F' := (hA : IsArr w24 a _ _ _ F').ext x46
      have hwr : IntKind.i64.wrap ((i : Int) + 1) = ((i + 1 : Nat) : Int) := by rw [w64 (by omega)]; omega
      rw [hwr]
      have mu : 100 - (((i + 1 : Nat) : Int)).toNat < 100 - ((i : Int)).toNat := by omega
      refine ⟨_, rfl, condB_of (fun hto => ?_) (fun hto => ?_)⟩
      · simp only [Bool.not_eq_true'] at hto
        have e1 : putS to addr (packM addr epoch d) s (i + 1) = putS to addr (packM addr epoch d) s i := by
          simp only [putS, hgo, hto]; rfl
        refine ⟨⟨i + 1, k, F', rfl, hkF', rfl, rfl, by omega, by rw [e1]; exact hgo, by rw [e1], hfit.1, hfit.2.1, hfit.2.2, xb, hst46, by rw [e1]; exact hA46, hby.ext x46, hklt', hkF⟩, mu⟩
      · simp only [Bool.not_eq_false'] at hto
        refine (write_at hA46 hok.1 (i := i) (by rw [hok.2.1]; omega) addr (hby.ext x46)).mono ?_
        rintro e w49 ⟨F'', rfl, hst49, hA49⟩
        have e1 : putS to addr (packM addr epoch d) s (i + 1) = (writeA (putS to addr (packM addr epoch d) s i).1 i addr (packM addr epoch d),
            if wrZ (putS to addr (packM addr epoch d) s i).1 i addr (packM addr epoch d).length = 0 then (putS to addr (packM addr epoch d) s i).2.1 + 1 else (putS to addr (packM addr epoch d) s i).2.1,
            decide (wrZ (putS to addr (packM addr epoch d) s i).1 i addr (packM addr epoch d).length = 130)) := by
          simp only [putS, hgo, hto]; rfl
        have hsT : Step F F'' w15 w49 := hst46.trans hst49
        have hk2 : ¬ F'' k := hsT.apart hklt' hkF
        have hby49 : BytesAt w49 (some (at0 k)) (packM addr epoch d).length (packM addr epoch d) := (hby.ext x46).upd hst49.upd fun a ha _ => by cases ha; exact hkF'
        refine ⟨_, rfl, condB_of (fun h130 => ?_) (fun h130 => ?_)⟩
        · simp only [decide_eq_true_eq] at h130
          refine ⟨F'', ?_, (Step.ext xb).trans hsT, ?_⟩
          · have hc : (putS to addr (packM addr epoch d) s (i + 1)).2.2 = true := by rw [e1]; exact decide_eq_true h130
            have hall := putS_stuck hc (s.M.length - (i + 1))
            rw [show i + 1 + (s.M.length - (i + 1)) = s.M.length by omega] at hall
            unfold putM
            rw [if_pos hfit, hall, if_pos hc]
          · have hc : (putS to addr (packM addr epoch d) s (i + 1)).2.2 = true := by rw [e1]; exact decide_eq_true h130
            have hall := putS_stuck hc (s.M.length - (i + 1))
            rw [show i + 1 + (s.M.length - (i + 1)) = s.M.length by omega] at hall
            unfold putM
            rw [if_pos hfit, hall, if_pos hc, e1]
            exact hA49
        · simp only [decide_eq_false_iff_not] at h130
          have hgo1 : (putS to addr (packM addr epoch d) s (i + 1)).2.2 = false := by rw [e1]; exact decide_eq_false h130
          refine condB_of (fun h0 => ?_) (fun h0 => ?_)
          · simp only [decide_eq_true_eq] at h0
            rw [w64 (n := (putS to addr (packM addr epoch d) s i).2.1 + 1) (by have := hok.2.2; omega)]
            refine ⟨⟨i + 1, k, F'', rfl, hk2, rfl, rfl, by omega, hgo1, by rw [e1]; show _ = (if _ then _ else _); rw [if_pos h0], hfit.1, hfit.2.1, hfit.2.2, xb, hsT, by rw [e1]; exact hA49, hby49, hklt', hkF⟩, mu⟩
          · simp only [decide_eq_false_iff_not] at h0
            refine ⟨⟨i + 1, k, F'', rfl, hk2, rfl, rfl, by omega, hgo1, by rw [e1]; show _ = (if _ then _ else _); rw [if_neg h0], hfit.1, hfit.2.1, hfit.2.2, xb, hsT, by rw [e1]; exact hA49, hby49, hklt', hkF⟩, mu⟩
    · simp only [decide_eq_false_iff_not] at hge
      have hil : i = s.M.length := by omega
      subst hil
      have e2 : putM to addr epoch d s = ((putS to addr (packM addr epoch d) s s.M.length).1, (putS to addr (packM addr epoch d) s s.M.length).2.1, 0) := by
        unfold putM
        rw [if_pos hfit, if_neg (by rw [hgo]; simp)]
      refine ⟨F', by rw [e2], (Step.ext xb).trans hst, by rw [e2]; exact hA⟩
  · rw [if_neg hfit] at hp
    subst hp
    have e2 : putM to addr epoch d s = (s, 0, 1) := by unfold putM; rw [if_neg hfit]
    refine ⟨_, _, _, _, rfl, condB_of (fun _ => ?_) fun h => by cases h⟩
    exact ⟨F, by rw [e2], Step.ext xa, by rw [e2]; exact (h : IsArr w a s.M s.left s.down F).ext xa⟩

theorem put_all_nil (addr epoch : Int) (s : ByteArray) (w : World) : Calls Try.prog 24 #[.pointer none, .int .i64 addr, .agg #[.int .i64 epoch, .string s], .func (.func 25) #[] #[]] w fun e w' =>
    e = .returned (.tuple #[.int .i64 0, .int .i64 1]) ∧ Ext w w' := by
  refine (F24_25_calls none addr epoch s w (fun v w' => v = .tuple #[.int .i64 0, .int .i64 1] ∧ Ext w w') (fun _ _ _ _ _ _ _ _ => False) (fun _ _ _ _ _ _ _ _ => 0) ?_).mono (by rintro e w' ⟨v, rfl, rfl, h⟩; exact ⟨rfl, h⟩)
  intro k5 w6 hk5
  exact ⟨rfl, hk5.ext⟩

set_option maxHeartbeats 4000000 in
theorem put_mend_spec {w : World} {a : Nat} {s : StA} {F : Nat → Prop} (h : IsA w a s F) (ho : OkA s) (addr epoch : Int) (d : List UInt8) (hdl : d.length ≤ 4611686018427387904) (q1 q2 q3 : Addr) (to : Nat → Bool)
    (hw : ∀ w', Upd F w w' → ∀ i : Nat, i < s.M.length → Calls Try.prog 26 #[.int .i64 (i : Int), .pointer (some q1), .pointer (some q2), .pointer (some q3)] w' fun e w'' => e = .returned (.bool (to i)) ∧ Ext w' w'') :
    Calls Try.prog 24 #[.pointer (some (at0 a)), .int .i64 addr, .agg #[.int .i64 epoch, .string (bstr d)], .func (.func 26) #[] #[.pointer (some q1), .pointer (some q2), .pointer (some q3)]] w fun e w' =>
      ∃ F', e = .returned (.tuple #[.int .i64 (putM to addr epoch d s).2.1, .int .i64 (putM to addr epoch d s).2.2]) ∧ Step F F' w w' ∧ IsA w' a (putM to addr epoch d s).1 F' := by
  refine (F24_26_calls (some (at0 a)) addr epoch (bstr d) q1 q2 q3 w (fun v w' => ∃ F', v = .tuple #[.int .i64 (putM to addr epoch d s).2.1, .int .i64 (putM to addr epoch d s).2.2] ∧ Step F F' w w' ∧ IsA w' a (putM to addr epoch d s).1 F')
    (fun ps ls _ len w15 n22 n23 w24 => ∃ (i k : Nat) (F' : Nat → Prop), ps = some (at0 k) ∧ ¬ F' k ∧ len = (s.M.length : Int) ∧ n23 = i ∧ i ≤ s.M.length ∧ (putS to addr (packM addr epoch d) s i).2.2 = false ∧ n22 = (putS to addr (packM addr epoch d) s i).2.1 ∧
      fitsP addr ∧ fitsP epoch ∧ d.length ≤ 4096 ∧ Ext w w15 ∧ Step F F' w15 w24 ∧ IsA w24 a (putS to addr (packM addr epoch d) s i).1 F' ∧ BytesAt w24 ps ls (packM addr epoch d) ∧ k < w15.heap.size ∧ ¬ F k)
    (fun _ _ _ _ _ _ n23 _ => 100 - n23.toNat) ?_).mono (by rintro e w' ⟨v, rfl, F', rfl, h⟩; exact ⟨F', rfl, h⟩)
  unfold F24_26
  intro k5 w6 hk5
  have hM : s.M.length ≤ 32 := ho.1
  have r6 : RowW w6 k5 #[.int .i64 epoch, .string (bstr d)] := ⟨_, hk5.at⟩
  refine condB_of (fun h => by cases h) fun _ => ⟨_, r6.row.cell rfl, _, r6.row.cell rfl, ?_⟩
  obtain ⟨cc, w9, hr, x9, hd, sz9⟩ := ofStr w6 d
  refine ⟨_, _, _, w9, hr, (pack_spec addr epoch hd hdl).mono ?_⟩
  rintro e w11 ⟨x11, hp⟩
  have xa : Ext w w11 := (hk5.ext.trans x9).trans x11
  by_cases hfit : fitsP addr ∧ fitsP epoch ∧ d.length ≤ 4096
  · rw [if_pos hfit] at hp
    obtain ⟨k, c', hk, rfl, hbk⟩ := hp
    refine ⟨_, _, _, _, rfl, condB_of (fun h => by cases h) fun _ => ?_⟩
    refine (live_spec ((h : IsArr w a s.M s.left s.down F).ext xa) (by omega)).mono ?_
    rintro e w15 ⟨pL, lL, cL, rfl, x15, rfl, _⟩
    have xb : Ext w w15 := xa.trans x15
    have hkF : ¬ F k := fun hF => by
      have h1 := (h : IsArr w a s.M s.left s.down F).lt k hF
      have := (hk5.ext.trans x9).size
      omega
    obtain ⟨_, hb0, hklt⟩ := hbk.lt (by intro h0; have := packM_len addr epoch d; rw [h0] at this; simp at this; omega)
    cases hb0
    refine ⟨_, _, _, rfl, ⟨0, k, F, rfl, hkF, rfl, rfl, Nat.zero_le _, rfl, rfl, hfit.1, hfit.2.1, hfit.2.2, xb, Step.refl _ _, (h : IsArr w a s.M s.left s.down F).ext xb, hbk.ext x15, Nat.lt_of_lt_of_le hklt x15.size, hkF⟩, ?_⟩
    rintro n22 n23 w24 ⟨i, k', F', e1, hkF', _, rfl, hi, hgo, rfl, _, _, _, _, hst, hA, hby, hklt', _⟩
    simp only [Option.some.injEq, at0, Addr.mk.injEq, and_true] at e1
    subst e1
    intros
    have hok := putS_ok (to := to) (n := addr) (b := packM addr epoch d) ho i
    refine condB_of (fun hlt => ?_) (fun hge => ?_)
    · simp only [decide_eq_true_eq] at hlt
      have hu : Upd F w w24 := Upd.trans (Ext.upd xb) hst.upd fun x _ h => h
      refine (hw w24 hu i (by omega)).mono ?_
      rintro e w46 ⟨rfl, x46⟩
      have hst46 : Step F F' w15 w46 := hst.trans (Step.ext x46)
      have hA46 : IsA w46 a (putS to addr (packM addr epoch d) s i).1 F' := (hA : IsArr w24 a _ _ _ F').ext x46
      have hwr : IntKind.i64.wrap ((i : Int) + 1) = ((i + 1 : Nat) : Int) := by rw [w64 (by omega)]; omega
      rw [hwr]
      have mu : 100 - (((i + 1 : Nat) : Int)).toNat < 100 - ((i : Int)).toNat := by omega
      refine ⟨_, rfl, condB_of (fun hto => ?_) (fun hto => ?_)⟩
      · simp only [Bool.not_eq_true'] at hto
        have e1 : putS to addr (packM addr epoch d) s (i + 1) = putS to addr (packM addr epoch d) s i := by
          simp only [putS, hgo, hto]; rfl
        refine ⟨⟨i + 1, k, F', rfl, hkF', rfl, rfl, by omega, by rw [e1]; exact hgo, by rw [e1], hfit.1, hfit.2.1, hfit.2.2, xb, hst46, by rw [e1]; exact hA46, hby.ext x46, hklt', hkF⟩, mu⟩
      · simp only [Bool.not_eq_false'] at hto
        refine (write_at hA46 hok.1 (i := i) (by rw [hok.2.1]; omega) addr (hby.ext x46)).mono ?_
        rintro e w49 ⟨F'', rfl, hst49, hA49⟩
        have e1 : putS to addr (packM addr epoch d) s (i + 1) = (writeA (putS to addr (packM addr epoch d) s i).1 i addr (packM addr epoch d),
            if wrZ (putS to addr (packM addr epoch d) s i).1 i addr (packM addr epoch d).length = 0 then (putS to addr (packM addr epoch d) s i).2.1 + 1 else (putS to addr (packM addr epoch d) s i).2.1,
            decide (wrZ (putS to addr (packM addr epoch d) s i).1 i addr (packM addr epoch d).length = 130)) := by
          simp only [putS, hgo, hto]; rfl
        have hsT : Step F F'' w15 w49 := hst46.trans hst49
        have hk2 : ¬ F'' k := hsT.apart hklt' hkF
        have hby49 : BytesAt w49 (some (at0 k)) (packM addr epoch d).length (packM addr epoch d) := (hby.ext x46).upd hst49.upd fun a ha _ => by cases ha; exact hkF'
        refine ⟨_, rfl, condB_of (fun h130 => ?_) (fun h130 => ?_)⟩
        · simp only [decide_eq_true_eq] at h130
          refine ⟨F'', ?_, (Step.ext xb).trans hsT, ?_⟩
          · have hc : (putS to addr (packM addr epoch d) s (i + 1)).2.2 = true := by rw [e1]; exact decide_eq_true h130
            have hall := putS_stuck hc (s.M.length - (i + 1))
            rw [show i + 1 + (s.M.length - (i + 1)) = s.M.length by omega] at hall
            unfold putM
            rw [if_pos hfit, hall, if_pos hc]
          · have hc : (putS to addr (packM addr epoch d) s (i + 1)).2.2 = true := by rw [e1]; exact decide_eq_true h130
            have hall := putS_stuck hc (s.M.length - (i + 1))
            rw [show i + 1 + (s.M.length - (i + 1)) = s.M.length by omega] at hall
            unfold putM
            rw [if_pos hfit, hall, if_pos hc, e1]
            exact hA49
        · simp only [decide_eq_false_iff_not] at h130
          have hgo1 : (putS to addr (packM addr epoch d) s (i + 1)).2.2 = false := by rw [e1]; exact decide_eq_false h130
          refine condB_of (fun h0 => ?_) (fun h0 => ?_)
          · simp only [decide_eq_true_eq] at h0
            rw [w64 (n := (putS to addr (packM addr epoch d) s i).2.1 + 1) (by have := hok.2.2; omega)]
            refine ⟨⟨i + 1, k, F'', rfl, hk2, rfl, rfl, by omega, hgo1, by rw [e1]; show _ = (if _ then _ else _); rw [if_pos h0], hfit.1, hfit.2.1, hfit.2.2, xb, hsT, by rw [e1]; exact hA49, hby49, hklt', hkF⟩, mu⟩
          · simp only [decide_eq_false_iff_not] at h0
            refine ⟨⟨i + 1, k, F'', rfl, hk2, rfl, rfl, by omega, hgo1, by rw [e1]; show _ = (if _ then _ else _); rw [if_neg h0], hfit.1, hfit.2.1, hfit.2.2, xb, hsT, by rw [e1]; exact hA49, hby49, hklt', hkF⟩, mu⟩
    · simp only [decide_eq_false_iff_not] at hge
      have hil : i = s.M.length := by omega
      subst hil
      have e2 : putM to addr epoch d s = ((putS to addr (packM addr epoch d) s s.M.length).1, (putS to addr (packM addr epoch d) s s.M.length).2.1, 0) := by
        unfold putM
        rw [if_pos hfit, if_neg (by rw [hgo]; simp)]
      refine ⟨F', by rw [e2], (Step.ext xb).trans hst, by rw [e2]; exact hA⟩
  · rw [if_neg hfit] at hp
    subst hp
    have e2 : putM to addr epoch d s = (s, 0, 1) := by unfold putM; rw [if_neg hfit]
    refine ⟨_, _, _, _, rfl, condB_of (fun _ => ?_) fun h => by cases h⟩
    exact ⟨F, by rw [e2], Step.ext xa, by rw [e2]; exact (h : IsArr w a s.M s.left s.down F).ext xa⟩

theorem put_mend_nil (addr epoch : Int) (s : ByteArray) (q1 q2 q3 : Addr) (w : World) : Calls Try.prog 24 #[.pointer none, .int .i64 addr, .agg #[.int .i64 epoch, .string s], .func (.func 26) #[] #[.pointer (some q1), .pointer (some q2), .pointer (some q3)]] w fun e w' =>
    e = .returned (.tuple #[.int .i64 0, .int .i64 1]) ∧ Ext w w' := by
  refine (F24_26_calls none addr epoch s q1 q2 q3 w (fun v w' => v = .tuple #[.int .i64 0, .int .i64 1] ∧ Ext w w') (fun _ _ _ _ _ _ _ _ => False) (fun _ _ _ _ _ _ _ _ => 0) ?_).mono (by rintro e w' ⟨v, rfl, rfl, h⟩; exact ⟨rfl, h⟩)
  intro k5 w6 hk5
  exact ⟨rfl, hk5.ext⟩

theorem vwrite_nil (n m : Int) {p : Option Addr} {l c : Nat} {d : List UInt8} (w : World) (hd : BytesAt w p l d) : Calls Try.prog 9 #[.pointer none, .int .i64 n, .int .i64 m, .slice p l c] w fun e w' => e = .returned (.tuple #[.int .i64 0, .int .i64 1]) ∧ Ext w w' := by
  refine (F9_calls none n m p l c w (fun v w' => v = .tuple #[.int .i64 0, .int .i64 1] ∧ Ext w w') ?_).mono (by rintro e w' ⟨v, rfl, rfl, h⟩; exact ⟨rfl, h⟩)
  refine ⟨_, toStr hd, (put_all_nil n m (bstr d) w).mono ?_⟩
  rintro e w' ⟨rfl, hx⟩
  exact ⟨_, _, rfl, rfl, hx⟩

theorem vwrite_spec {w : World} {a : Nat} {s : StA} {F : Nat → Prop} (h : IsA w a s F) (ho : OkA s) (n m : Int) {p : Option Addr} {l c : Nat} {d : List UInt8} (hd : BytesAt w p l d) (hl : l ≤ 4611686018427387904) :
    Calls Try.prog 9 #[.pointer (some (at0 a)), .int .i64 n, .int .i64 m, .slice p l c] w fun e w' =>
      ∃ F', e = .returned (.tuple #[.int .i64 (putM (fun _ => true) n m d s).2.1, .int .i64 (putM (fun _ => true) n m d s).2.2]) ∧ Step F F' w w' ∧ IsA w' a (putM (fun _ => true) n m d s).1 F' := by
  refine (F9_calls (some (at0 a)) n m p l c w (fun v w' => ∃ F', v = .tuple #[.int .i64 (putM (fun _ => true) n m d s).2.1, .int .i64 (putM (fun _ => true) n m d s).2.2] ∧ Step F F' w w' ∧ IsA w' a (putM (fun _ => true) n m d s).1 F') ?_).mono (by
    rintro e w' ⟨v, rfl, F', rfl, h⟩; exact ⟨F', rfl, h⟩)
  refine ⟨_, toStr hd, (put_all_spec h ho n m d (by rw [← hd.1]; exact hl) (fun _ => true) fun w' _ i _ => wants_all _ _).mono ?_⟩
  rintro e w' ⟨F', rfl, h⟩
  exact ⟨_, _, rfl, F', rfl, h⟩

theorem vmend_nil (p : Option Addr) (l c : Nat) (n : Int) (w : World) : Calls Try.prog 10 #[.pointer none, .slice p l c, .int .i64 n] w fun e w' => e = .returned (.tuple #[.int .i64 0, .int .i64 1]) ∧ Ext w w' := by
  refine (F10_calls none p l c n w (fun v w' => v = .tuple #[.int .i64 0, .int .i64 1] ∧ Ext w w') ?_).mono (by rintro e w' ⟨v, rfl, rfl, h⟩; exact ⟨rfl, h⟩)
  refine (ask_nil n w).mono ?_
  rintro e w4 ⟨rfl, rfl⟩
  refine ⟨_, _, _, _, rfl, fun k8 w9 hk8 => ?_⟩
  have e8 : (at0 k8) = (at0 k8).add 0 := (add_at0 k8 0).symm
  have r9 : RowW w9 k8 _ := ⟨_, hk8.at⟩
  refine ⟨by rw [e8]; exact r9.live (by simp), fun w10 s10 => ?_⟩
  rw [e8] at s10
  exact condB_of (fun _ => ⟨rfl, setc_new hk8.ext (by rw [hk8.size.1]; exact Nat.le_refl _) s10⟩) fun h => by cases h

theorem say_bound {n : Int} {M : List Mem} {b : Say} (h : b ∈ sayL (saysM n M)) : fitsP n ∧ fitsP b.1 ∧ b.2.length ≤ 4096 := by
  unfold sayL saysM at h
  obtain ⟨s, hs, rfl⟩ := List.mem_map.1 h
  obtain ⟨hs, his⟩ := List.mem_filter.1 hs
  obtain ⟨m, _, rfl⟩ := List.mem_map.1 hs
  unfold saidOf at his ⊢
  split at his
  · rename_i n' d hu
    exact unpack_bound hu
  · cases his

/-- a mend: the state, the count, the error -/
def mendM (n : Int) (b : Say) (c : Nat) (s : StA) : StA × Int × Int :=
  if s.down then (s, 0, 130) else if c = 0 then (s, 0, 0) else putM (toM (s.M.map fun m => !m.d.dead) (saysM n s.M) b) n b.1 b.2 s

set_option maxHeartbeats 2000000 in
theorem vmend_spec {w : World} {a : Nat} {s : StA} {F : Nat → Prop} (h : IsA w a s F) (ho : OkA s) (h1 : 1 ≤ s.M.length) (p2 : Option Addr) (l2 c2 : Nat) (n : Int) :
    Calls Try.prog 10 #[.pointer (some (at0 a)), .slice p2 l2 c2, .int .i64 n] w fun e w' =>
      ∃ F' b c, (s.down = false → Best (sayL (saysM n s.M)) b c) ∧ e = .returned (.tuple #[.int .i64 (mendM n b c s).2.1, .int .i64 (mendM n b c s).2.2]) ∧ Step F F' w w' ∧ IsA w' a (mendM n b c s).1 F' := by
  refine (F10_calls (some (at0 a)) p2 l2 c2 n w (fun v w' => ∃ F' b c, (s.down = false → Best (sayL (saysM n s.M)) b c) ∧ v = .tuple #[.int .i64 (mendM n b c s).2.1, .int .i64 (mendM n b c s).2.2] ∧ Step F F' w w' ∧ IsA w' a (mendM n b c s).1 F') ?_).mono (by
    rintro e w' ⟨v, rfl, F', b, c, hb, rfl, h⟩; exact ⟨F', b, c, hb, rfl, h⟩)
  have hM : s.M.length ≤ 32 := ho.1
  have hlt := (h : IsArr w a s.M s.left s.down F).lt
  refine (ask_spec h (by omega) h1 n).mono ?_
  rintro e w4 ⟨x4, h4⟩
  have hls : (saysM n s.M).length = s.M.length := by simp [saysM]
  by_cases hdn : s.down = true
  · rw [if_pos hdn] at h4
    subst h4
    refine ⟨_, _, _, _, rfl, fun k8 w9 hk8 => ?_⟩
    have e8 : (at0 k8) = (at0 k8).add 0 := (add_at0 k8 0).symm
    have r9 : RowW w9 k8 _ := ⟨_, hk8.at⟩
    refine ⟨by rw [e8]; exact r9.live (by simp), fun w10 s10 => ?_⟩
    rw [e8] at s10
    have x10 : Ext w w10 := setc_new (x4.trans hk8.ext) (by rw [hk8.size.1]; exact x4.size) s10
    refine condB_of (fun _ => ?_) fun h => by cases h
    have e2 : mendM n (0, []) 0 s = (s, 0, 130) := by unfold mendM; rw [if_pos hdn]
    exact ⟨F, (0, []), 0, fun hd => (by rw [hdn] at hd; cases hd), by rw [e2], Step.ext x10, by rw [e2]; exact (h : IsArr w a s.M s.left s.down F).ext x10⟩
  · rw [if_neg hdn] at h4
    obtain ⟨p6, c6, rfl, ho6⟩ := h4
    refine ⟨_, _, _, _, rfl, fun k8 w9 hk8 => ?_⟩
    have e8 : (at0 k8) = (at0 k8).add 0 := (add_at0 k8 0).symm
    have r9 : RowW w9 k8 _ := ⟨_, hk8.at⟩
    have s8 : w4.heap.size ≤ k8 := by rw [hk8.size.1]; exact Nat.le_refl _
    refine ⟨by rw [e8]; exact r9.live (by simp), fun w10 s10 => ?_⟩
    rw [e8] at s10
    have r10 := s10.row r9
    have x10 : Ext w4 w10 := setc_new hk8.ext s8 s10
    refine condB_of (fun h => by cases h) fun _ => ⟨_, _, _, by rw [e8]; exact r10.row.cell rfl, ?_⟩
    refine (count_spec (L := saysM n s.M) (by rw [hls]) (ho6.cells.ext x10) (by omega)).mono ?_
    rintro e w12 ⟨x12, b, c, hb, rfl⟩
    refine ⟨_, _, _, rfl, fun k17 w18 hk17 => ?_⟩
    have s17 : w12.heap.size ≤ k17 := by rw [hk17.size.1]; exact Nat.le_refl _
    have e17 : (at0 k17) = (at0 k17).add 0 := (add_at0 k17 0).symm
    have r18 : RowW w18 k17 _ := ⟨_, hk17.at⟩
    refine ⟨by rw [e17]; exact r18.live (by simp), fun w19 s19 => ?_⟩
    rw [e17] at s19
    have r19 := s19.row r18
    refine ⟨r19.live (by simp), fun w20 s20 => ?_⟩
    have r20 : RowW w20 k17 #[.int .i64 b.1, .string (bstr b.2)] := s20.row r19
    have x20 : Ext w12 w20 := setc_new (setc_new hk17.ext s17 s19) s17 s20
    have xa : Ext w w20 := ((x4.trans x10).trans x12).trans x20
    refine condB_of (fun hz => ?_) (fun hz => ?_)
    · simp only [decide_eq_true_eq] at hz
      have e2 : mendM n b c s = (s, 0, 0) := by unfold mendM; rw [if_neg hdn, if_pos (by omega)]
      exact ⟨F, b, c, fun _ => hb, by rw [e2], Step.ext xa, by rw [e2]; exact (h : IsArr w a s.M s.left s.down F).ext xa⟩
    · simp only [decide_eq_false_iff_not] at hz
      refine (live_spec ((h : IsArr w a s.M s.left s.down F).ext xa) (by omega)).mono ?_
      rintro e w21 ⟨pl, ll, cl, rfl, x21, rfl, hol⟩
      refine ⟨_, _, _, rfl, fun k24 w25 hk24 => ?_⟩
      have s24 : w21.heap.size ≤ k24 := by rw [hk24.size.1]; exact Nat.le_refl _
      have e24 : (at0 k24) = (at0 k24).add 0 := (add_at0 k24 0).symm
      have r25 : RowW w25 k24 _ := ⟨_, hk24.at⟩
      refine ⟨by rw [e24]; exact r25.live (by simp), fun w26 s26 => ?_⟩
      rw [e24] at s26
      have r26 := s26.row r25
      have x26 : Ext w21 w26 := setc_new hk24.ext s24 s26
      have xb : Ext w w26 := (xa.trans x21).trans x26
      have r26b : RowW w26 k17 #[.int .i64 b.1, .string (bstr b.2)] := (x21.trans x26).rowW r20 id
      refine ⟨_, by rw [e17]; exact r26b.row.cell rfl, _, r26b.row.cell rfl, ?_⟩
      have hlv : BoolsAt w26 pl s.M.length (s.M.map fun m => !m.d.dead) := by
        refine ⟨by simp, ?_⟩
        have := hol.cells.ext x26
        simpa [List.map_map, Function.comp_def] using this
      have hnF : ∀ x, w.heap.size ≤ x → ¬ F x := fun x hx hF => by have := hlt x hF; omega
      have hpl : ∀ a, pl = some a → ¬ F a.block := by
        intro a ha
        rcases hol.where_ with ⟨h0, _⟩ | ⟨g, h0, hge, _⟩
        · rw [h0] at ha; cases ha
        · rw [h0] at ha; cases ha
          exact hnF g (Nat.le_trans xa.size hge)
      have hp6 : ∀ a, p6 = some a → ¬ F a.block := by
        intro a ha
        rcases ho6.where_ with ⟨h0, _⟩ | ⟨g, h0, hge, _⟩
        · rw [h0] at ha; cases ha
        · rw [h0] at ha; cases ha
          exact hnF g hge
      have x4s := x4.size
      have xas := xa.size
      have x12s := ((x4.trans x10).trans x12).size
      have x21s := x21.size
      have r8 : RowW w26 k8 #[.slice p6 s.M.length c6] := (((x12.trans x20).trans x21).trans x26).rowW r10 id
      have hA26 : IsA w26 a s F := (h : IsArr w a s.M s.left s.down F).ext xb
      have hnot : ¬ c = 0 := by omega
      have e2 : mendM n b c s = putM (toM (s.M.map fun m => !m.d.dead) (saysM n s.M) b) n b.1 b.2 s := by
        unfold mendM
        rw [if_neg hdn, if_neg hnot]
      have hbl : b.2.length ≤ 4096 := by
        rcases hb with ⟨_, _, h0⟩ | ⟨hm, _⟩
        · exact (hnot h0).elim
        · exact (say_bound hm).2.2
      refine (put_mend_spec hA26 ho n b.1 b.2 (by omega) (at0 k24) (at0 k8) (at0 k17) (toM (s.M.map fun m => !m.d.dead) (saysM n s.M) b) fun w' hu i hi => ?_).mono ?_
      · exact wants_mend (hu.rowW r26 (hnF _ (by omega))) ⟨hlv.1, hlv.2.upd hu fun a ha _ => hpl a ha⟩ (hu.rowW r8 (hnF _ (by omega)))
          (((ho6.cells.ext ((((x10.trans x12).trans x20).trans x21).trans x26))).upd hu fun a ha _ => hp6 a ha) (by rw [hls]) (hu.rowW r26b (hnF _ (by omega))) hi hi
      · rintro e w29 ⟨F', rfl, hs, hA⟩
        refine ⟨_, _, rfl, F', b, c, fun _ => hb, by rw [e2], (Step.ext xb).trans hs, by rw [e2]; exact hA⟩
end Go.Proofs.Ytphkmbkmjhbenaa
