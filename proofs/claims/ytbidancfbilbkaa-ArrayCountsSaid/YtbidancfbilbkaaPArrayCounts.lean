/- ArrayCounts returns true, whatever the numbers. No conditions. -/
import Derived.Test.YtbidancfbilbkaaA5
import Derived.Test.YtbidancfbilbkaaAL1
import Derived.Test.YtbidancfbilbkaaRows
namespace Go.Proofs.Ytbidancfbilbkaa
open Go Go.Vc Go.ChangeShapes Go.WideShapes Go.ChangeAt Go.RowKit

def wl (k : Nat) : SM := (List.range k).map fun (j : Nat) => ((j : Int), [(1 : UInt8)])
theorem wl_ins (k : Nat) : ins (k : Int) [1] (wl k) = wl (k + 1) := by
  unfold ins
  have h : ∀ y ∈ wl k, y.1 < (k : Int) := by
    intro y hy
    obtain ⟨j, hj, rfl⟩ := List.mem_map.1 hy
    have := List.mem_range.1 hj
    show (j : Int) < k
    omega
  have a1 : (wl k).filter (fun y => decide (y.1 < (k : Int))) = wl k := List.filter_eq_self.2 fun x hx => by simpa using h x hx
  have a2 : (wl k).filter (fun y => decide ((k : Int) < y.1)) = [] := List.filter_eq_nil_iff.2 fun x hx => by have := h x hx; simp; omega
  rw [a1, a2]
  simp [wl, List.range_succ]
theorem wl_len (k : Nat) : (wl k).length = k := by simp [wl]
theorem wl_mrg (k : Nat) : mrg [] (wl k) = wl k := by
  induction k with
  | zero => rfl
  | succ k ih =>
    have : wl (k + 1) = wl k ++ [((k : Int), [1])] := by simp [wl, List.range_succ]
    conv => lhs; rw [this]
    unfold mrg at ih ⊢
    rw [List.foldl_append, ih]
    exact wl_ins k

def cntM (d k : Nat) : List Mem := (List.replicate 3 (⟨⟨100, [], [], false⟩, 0⟩ : Mem)).set d ⟨⟨100, [], wl k, false⟩, 0⟩
theorem cntM_at {d k : Nat} (hd : d < 3) : (cntM d k)[d]? = some ⟨⟨100, [], wl k, false⟩, 0⟩ := by
  unfold cntM
  rw [List.getElem?_set_self (by simpa using hd)]
theorem cntM_len (d k : Nat) : (cntM d k).length = 3 := by simp [cntM]
theorem cntM_zero {d : Nat} (hd : d < 3) : cntM d 0 = List.replicate 3 (⟨⟨100, [], [], false⟩, 0⟩ : Mem) := by
  match d, hd with
  | 0, _ => rfl
  | 1, _ => rfl
  | 2, _ => rfl
theorem cntM_set (d k : Nat) (m : Mem) : (cntM d k).set d m = (List.replicate 3 (⟨⟨100, [], [], false⟩, 0⟩ : Mem)).set d m := by
  unfold cntM; rw [List.set_set]

set_option maxHeartbeats 4000000 in
theorem arrayCounts_walk (w : World) (n1 n2 n3 : Int) : Calls Try.prog 4 #[.int .i64 n1, .int .i64 n2, .int .i64 n3] w fun e w' => e = .returned (.bool true) ∧ Ext w w' := by
  refine (F4_calls n1 n2 n3 w (fun v w' => v = .bool true ∧ Ext w w')
    (fun _ p9 _ n15 n16 w17 => ∃ (a i : Nat) (F : Nat → Prop), p9 = some (at0 a) ∧ n16 = i ∧ (i : Int) ≤ n2 ∧ n15 = (min i n1.toNat : Nat) ∧ Ext w w17 ∧ (∀ x, F x → w.heap.size ≤ x) ∧
      IsArr w17 a (cntM n3.toNat (min i n1.toNat)) (n1 - (min i n1.toNat : Nat)) (decide (n1 ≤ i)) F) (fun _ _ _ _ n16 _ => 60 - n16.toNat) ?_).mono (by rintro e w' ⟨v, rfl, rfl, h⟩; exact ⟨rfl, h⟩)
  refine (awake_spec w).mono ?_
  rintro e w4 ⟨rfl, x4⟩
  refine ⟨true, rfl, ?_⟩
  refine (anew_good (n := 3) (s := 100) ⟨by omega, by omega⟩ ⟨by omega, by omega⟩ w4).mono ?_
  rintro e w7 ⟨a, F, rfl, x7, h7, hF⟩
  have y7 := x4.trans x7
  replace hF : ∀ x, F x → w.heap.size ≤ x := fun x hx => Nat.le_trans x4.size (hF x hx)
  refine ⟨_, _, rfl, condB_of (fun h => by simp at h) fun _ => condB_of (fun h => by simp at h) fun _ => ?_⟩
  refine condB_of (fun _ => ⟨rfl, y7⟩) fun g1 => condB_of (fun _ => ⟨rfl, y7⟩) fun g2 => condB_of (fun _ => ⟨rfl, y7⟩) fun g3 => condB_of (fun _ => ⟨rfl, y7⟩) fun g4 => condB_of (fun _ => ⟨rfl, y7⟩) fun g5 => condB_of (fun _ => ⟨rfl, y7⟩) fun g6 => ?_
  simp only [decide_eq_false_iff_not] at g1 g2 g3 g4 g5 g6
  have hd3 : n3.toNat < 3 := by omega
  have hn3 : ((n3.toNat : Nat) : Int) = n3 := by omega
  refine (after_spec h7 n1).mono ?_
  rintro e w11 ⟨rfl, s11, h11⟩
  refine ⟨rfl, ⟨a, 0, F, rfl, rfl, by omega, by simp, Upd.trans y7 s11.upd fun x hx hf => (by have := hF x hf; omega), hF, ?_⟩, ?_⟩
  · have e1 : min 0 n1.toNat = 0 := by omega
    rw [e1, cntM_zero hd3]
    simp only [Bool.false_eq_true, if_false] at h11
    rw [if_neg (by omega)] at h11
    have e2 : decide (n1 = 0) = decide (n1 ≤ ((0 : Nat) : Int)) := decide_eq_decide.2 (by omega)
    have e3 : n1 - ((0 : Nat) : Int) = n1 := by omega
    rw [e3, ← e2]
    exact h11
  clear h11 h7 hF s11
  rintro n15 n16 w17 ⟨a', i, F2, hp, rfl, hi, rfl, x17, hF, h17⟩
  cases hp
  intros
  refine condB_of (fun hlt => ?_) (fun hge => ?_)
  · simp only [decide_eq_true_eq] at hlt
    intro k48 w49 hk
    have h49 := h17.ext hk.ext
    have x49 := x17.trans hk.ext
    have hmu : 60 - ((i : Int) + 1).toNat < 60 - (i : Int).toNat := by omega
    by_cases hdown : n1 ≤ i
    · have hdec : decide (n1 ≤ (i : Int)) = true := decide_eq_true hdown
      rw [hdec] at h49
      refine (awrite_down h49 n3 i _ _ _).mono ?_
      rintro e w50 ⟨rfl, rfl⟩
      have hnl : ¬ (i : Int) < n1 := by omega
      refine ⟨_, rfl, condB_of (fun h => by simp [hnl] at h) fun _ => condB_of (fun _ => condB_of (fun h => by simp at h) fun _ => condB_of (fun h => by simp at h) fun _ => ?_) fun h => by simp at h⟩
      rw [w64 (by omega)]
      refine ⟨⟨a, i + 1, F2, rfl, by omega, by omega, by congr 1; omega, x49, hF, ?_⟩, hmu⟩
      have e1 : min (i + 1) n1.toNat = min i n1.toNat := by omega
      rw [e1, decide_eq_true (show n1 ≤ ((i + 1 : Nat) : Int) by omega)]
      exact h49
    · have hdec : decide (n1 ≤ (i : Int)) = false := decide_eq_false hdown
      rw [hdec] at h49
      have e0 : min i n1.toNat = i := by omega
      rw [e0] at h49 ⊢
      have hz : writeZ ⟨100, [], wl i, false⟩ (i : Int) [(1 : UInt8)].length = 0 := by
        unfold writeZ faultZ
        simp only [Bool.false_eq_true, if_false]
        rw [if_neg (by omega : ¬ ((i : Int) < 0 ∨ (100 : Int) ≤ i))]
        rfl
      have := awrite_spec (c := 1) h49 ⟨by omega, by omega⟩ (cntM_at hd3) (i : Int) (BytesAt.one (b := 1) hk.at)
      rw [hn3] at this
      refine this.mono ?_
      rintro e w50 ⟨F3, rfl, s50, h50⟩
      rw [hz]
      have hl : (i : Int) < n1 := by omega
      have next : (∃ (a' i' : Nat) (F : Nat → Prop), some (at0 a) = some (at0 a') ∧ IntKind.i64.wrap ((i : Int) + 1) = i' ∧ (i' : Int) ≤ n2 ∧ IntKind.i64.wrap (((i : Nat) : Int) + 1) = (min i' n1.toNat : Nat) ∧ Ext w w50 ∧ (∀ x, F x → w.heap.size ≤ x) ∧
          IsArr w50 a' (cntM n3.toNat (min i' n1.toNat)) (n1 - (min i' n1.toNat : Nat)) (decide (n1 ≤ i')) F) ∧ 60 - (IntKind.i64.wrap ((i : Int) + 1)).toNat < 60 - (i : Int).toNat := by
        rw [w64 (by omega)]
        refine ⟨⟨a, i + 1, F3, rfl, by omega, by omega, by omega, Upd.trans x49 s50.upd fun x hx hf => (by have := hF x hf; omega), fun x hx => ?_, ?_⟩, hmu⟩
        · rcases s50.grow x hx with h | h
          · exact hF x h
          · exact Nat.le_trans x49.size h
        · have e1 : min (i + 1) n1.toNat = i + 1 := by omega
          rw [e1]
          rw [hz, if_pos ⟨rfl, by omega⟩, cntM_set] at h50
          have e2 : writeD ⟨100, [], wl i, false⟩ (i : Int) [1] = ⟨100, [], wl (i + 1), false⟩ := by
            unfold writeD; rw [if_pos hz, wl_ins]
          rw [e2] at h50
          have e3 : n1 - ((i : Nat) : Int) - 1 = n1 - ((i + 1 : Nat) : Int) := by omega
          rw [e3] at h50
          have e4 : decide ((0 : Int) = 0 ∧ n1 - ((i : Nat) : Int) = 1) = decide (n1 ≤ ((i + 1 : Nat) : Int)) := decide_eq_decide.2 (by omega)
          rw [e4] at h50
          exact h50
      exact ⟨_, rfl, condB_of (fun h => by simp [hl] at h) fun _ => condB_of (fun h => by simp at h) fun _ => condB_of (fun _ => next) fun h => by simp at h⟩
  · simp only [decide_eq_false_iff_not] at hge
    have hi2 : (i : Int) = n2 := by omega
    have hdl : decide (n1 ≤ (i : Int)) = decide (n1 ≤ n2) := by rw [hi2]
    rw [hdl] at h17
    -- what is told at the end, whatever it is that lasts and waits
    have fin : ∀ (w60 : World) (F5 : Nat → Prop) (m : Mem) (M : List Mem) (down : Bool) (lf : Int), M[n3.toNat]? = some m → M.length = 3 → m.d.lasts.length + m.d.waits.length = min i n1.toNat → m.d.sectors = 100 → m.d.dead = false → Ext w w60 → (∀ x, F5 x → w.heap.size ≤ x) →
        IsArr w60 a M lf down F5 → Calls Try.prog 16 #[.pointer (some (at0 a)), .int .i64 n3] w60 fun e64 w63 => (∃ (p65 : Option Addr) (l65 c65 : Nat), e64 = .returned (.slice p65 l65 c65) ∧ (Calls Try.prog 17 #[.pointer (some (at0 a)), .int .i64 n3] w63 fun e67 w66 =>
          (∃ (p68 : Option Addr) (l68 c68 : Nat), e67 = .returned (.slice p68 l68 c68) ∧ (Calls Try.prog 18 #[.pointer (some (at0 a)), .slice none 0 0] w66 fun e70 w69 => e70 = .returned (.tuple #[]) ∧ (Calls Try.prog 13 #[.pointer (some (at0 a)), .int .i64 n3, .int .i64 (0 : Int)] w69 fun e72 w71 =>
            (∃ (p73 : Option Addr) (l73 c73 : Nat), (∃ (n74 : Int), e72 = .returned (.tuple #[.slice p73 l73 c73, .int .i64 n74]) ∧ (condB true (condB (decide ((IntKind.i64.wrap (((l65 : Nat) : Int) + ((l68 : Nat) : Int))) = ((min i n1.toNat : Nat) : Int))) (condB (decide (n74 = (0 : Int)))
              (Calls Try.prog 15 #[.pointer (some (at0 a))] w71 fun e76 w75 => (∃ (b77 : Bool), e76 = .returned (.bool b77) ∧ (Value.bool (!b77) = .bool true ∧ Ext w w75))) (Value.bool false = .bool true ∧ Ext w w71)) (Value.bool false = .bool true ∧ Ext w w71)) (Value.bool false = .bool true ∧ Ext w w71))))))))) := by
      intro w60 F5 m M down lf hm hM hsum hsec hdead x60 hF5 h60
      have a1 := awaits_spec h60 hm
      rw [hn3] at a1
      refine a1.mono ?_
      rintro e w63 ⟨p65, l65, c65, rfl, x63, held1⟩
      have h63 := h60.ext x63
      have a2 := alasts_spec h63 hm
      rw [hn3] at a2
      refine ⟨_, _, _, rfl, a2.mono ?_⟩
      rintro e w66 ⟨p68, l68, c68, rfl, x66, held2⟩
      have h66 := h63.ext x66
      have x066 := (x60.trans x63).trans x66
      have hK : KeepAt w66 (fun _ => False) none 0 [] := ⟨rfl, fun j ks hj => by simp at hj⟩
      refine ⟨_, _, _, rfl, (restart_spec h66 (by omega) (fun x h => h.elim) (fun x h => h.elim) hK).mono ?_⟩
      rintro e w69 ⟨F6, rfl, s69, h69⟩
      have x069 : Ext w w69 := Upd.trans x066 s69.upd fun x hx hf => by have := hF5 x hf; omega
      have hil : n3.toNat < M.length := by omega
      have hm69 : (crashM [] M.length M)[n3.toNat]? = some { m with d := crashD m.d [] } := by
        have hMi : M[n3.toNat] = m := (List.getElem?_eq_some_iff.1 hm).2
        simp [crashM, hil, hMi]
      have a3 := aread_spec h69 hm69 0
      rw [hn3] at a3
      refine ⟨rfl, a3.mono ?_⟩
      rintro e w71 ⟨x71, p, l, c, bs, rfl, _, _, _, _⟩
      have hl1 := held1.length
      have hl2 := held2.length
      have hf0 : faultZ (crashD m.d []).dead (crashD m.d []).sectors 0 = 0 := by
        show faultZ m.d.dead m.d.sectors 0 = 0
        rw [hsec, hdead]; rfl
      refine ⟨_, _, _, _, rfl, condB_of (fun _ => condB_of (fun _ => condB_of (fun _ => ?_) fun h => ?_) fun h => ?_) fun h => by cases h⟩
      · refine (adown_spec (h69.ext x71)).mono ?_
        rintro e w75 ⟨rfl, rfl⟩
        exact ⟨_, rfl, rfl, x069.trans x71⟩
      · simp only [decide_eq_false_iff_not] at h
        exact absurd hf0 h
      · simp only [decide_eq_false_iff_not] at h
        exfalso; apply h
        rw [w64 (by omega)]; omega
    have hm0 := cntM_at (k := min i n1.toNat) hd3
    by_cases hdown : n1 ≤ n2
    · rw [decide_eq_true hdown] at h17 ⊢
      refine (aread_down h17 n3 0).mono ?_
      rintro e w53 ⟨rfl, rfl⟩
      refine ⟨_, _, _, _, rfl, (aflush_down h17).mono ?_⟩
      rintro e w57 ⟨rfl, rfl⟩
      refine ⟨_, rfl, (adown_spec h17).mono ?_⟩
      rintro e w60 ⟨rfl, rfl⟩
      refine ⟨_, rfl, condB_of (fun h => by simp at h) fun _ => condB_of (fun h => by simp at h) fun _ => condB_of (fun h => by simp at h) fun _ => ?_⟩
      exact fin _ F2 _ _ true _ hm0 (cntM_len _ _) (by simp [wl_len]) rfl rfl x17 hF h17
    · rw [decide_eq_false hdown] at h17 ⊢
      have a3 := aread_spec h17 hm0 0
      rw [hn3] at a3
      refine a3.mono ?_
      rintro e w53 ⟨x53, p, l, c, bs, rfl, _, _, _, _⟩
      have h53 := h17.ext x53
      refine ⟨_, _, _, _, rfl, (aflush_spec h53 (by rw [cntM_len]; omega)).mono ?_⟩
      rintro e w57 ⟨F4, rfl, s57, h57⟩
      have x57 : Ext w w57 := Upd.trans (x17.trans x53) s57.upd fun x hx hf => by have := hF x hf; omega
      refine ⟨_, rfl, (adown_spec h57).mono ?_⟩
      rintro e w60 ⟨rfl, rfl⟩
      refine ⟨_, rfl, condB_of (fun h => by simp at h) fun _ => condB_of (fun h => by simp [faultZ] at h) fun _ => condB_of (fun h => by simp at h) fun _ => ?_⟩
      have hm1 : (flushM (cntM n3.toNat (min i n1.toNat)).length (cntM n3.toNat (min i n1.toNat)))[n3.toNat]? = some ⟨⟨100, wl (min i n1.toNat), [], false⟩, 0⟩ := by
        have hlt3 : n3.toNat < (cntM n3.toNat (min i n1.toNat)).length := by rw [cntM_len]; exact hd3
        simp only [flushM, List.getElem?_mapIdx, hm0, Option.map_some, if_pos hlt3]
        simp [flushD, wl_mrg]
      refine fin _ F4 _ _ false _ hm1 (by rw [flushM_len, cntM_len]) (by simp [wl_len]) rfl rfl x57 (fun x hx => ?_) h57
      rcases s57.grow x hx with h | h
      · exact hF x h
      · exact Nat.le_trans (x17.trans x53).size h

set_option maxRecDepth 100000 in
theorem arrayCounts_lifted (os : Os) (started : os.Started) (H : Type) (enc : TypeId × Value → H) :
    ReturnsInHanded {} Try.checked os 4 .any (Rows.arrayCountsSpec.pre6 enc Try.prog Try.f4 Rows.arrayCountsRow.domain false) (Rows.arrayCountsSpec.post enc Try.prog Try.f4 false true false false) := by
  refine returnsInHanded_of_change (C := Try.checked) lawOwn started (by kernel_rfl) Try.func4
    (ChangeSpec.witness6 (enc := enc) (C := Try.checked) false ⟨#[], #[.int .i64 0, .int .i64 0, .int .i64 0], []⟩ 8 (by kernel_rfl) (by kernel_rfl) (by kernel_rfl) (by kernel_rfl)) ?_
  intro W base args ds gs before hval0 hW hcnd _
  have hval : ∀ (j : Nat) t v, Try.f4.params[j]? = some t → args[j]? = some v → Value.okWide Try.prog W .any base t v := hval0
  have hW' := hW
  obtain ⟨p, q, hA0, hV, rfl, hfz, hnd⟩ := hW
  have hA : DataW.TrodAll enc Try.prog W 0 (fun _ => true) true Try.f4.params.toList args.toList ds p := hA0
  rw [Try.params4] at hA hval
  obtain ⟨v0, vs0, d0, ds0, p0, q0, hargs, rfl, rfl, h0, r0⟩ := trodAll_cons hA
  obtain ⟨v1, vs1, d1, ds1, p1, q1, rfl, rfl, rfl, h1, r1⟩ := trodAll_cons r0
  obtain ⟨v2, vs2, d2, ds2, p2, q2, rfl, rfl, rfl, h2, r2⟩ := trodAll_cons r1
  obtain ⟨rfl, rfl, rfl⟩ := trodAll_nil r2
  obtain rfl : args = #[v0, v1, v2] := by cases args; simp_all
  obtain ⟨rfl, rfl⟩ := trodVars_none hV
  obtain ⟨n0, rfl, rfl, rfl, wn0⟩ := open_int Try.underlying3 (hval 0 3 v0 rfl rfl) h0
  obtain ⟨n1, rfl, rfl, rfl, wn1⟩ := open_int Try.underlying3 (hval 1 3 v1 rfl rfl) h1
  obtain ⟨n2, rfl, rfl, rfl, wn2⟩ := open_int Try.underlying3 (hval 2 3 v2 rfl rfl) h2
  refine (arrayCounts_walk W n0 n1 n2).mono fun e W' ⟨he, hg⟩ => ?_
  subst he
  exact ⟨_, rfl, post_true lawLaid rfl (by kernel_rfl) rfl Try.underlying4 hW' rfl hg.below⟩

/-- ████ THE STATEMENT ████ -/
theorem arrayCounts_holds : Rows.ArrayCountsSaid :=
  OpenClaim.holds_of_wide 4 Try.f4 rfl rfl rfl rfl rfl rfl rfl ⟨rfl, rfl, rfl, rfl, rfl⟩ rfl rfl rfl rfl rfl (by kernel_rfl) Try.func4 (by kernel_rfl)
    (of_decide_eq_true (by kernel_rfl)) (by unfold Func.isWrapper; first | (rw [if_pos (by decide +kernel)]; kernel_rfl) | (rw [if_neg (by decide +kernel)]; exact ⟨rfl, rfl⟩))
    (fun os started H enc _ => arrayCounts_lifted os started H enc)
end Go.Proofs.Ytbidancfbilbkaa
