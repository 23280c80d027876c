/- An array behind a script: the walk. -/
import Derived.Test.YtbidancfbilbkaaA9
namespace Go.Proofs.Ytbidancfbilbkaa
open Go Go.Vc

set_option maxHeartbeats 4000000 in
theorem doneA_spec {w0 w : World} {a : Nat} {s : StA} {F : Nat → Prop} (h : IsA w a s F) (ho : OkA s) (hx : Ext w0 w) (hF : ∀ x, F x → w0.heap.size ≤ x) {p : Option Addr} {l c : Nat} {L : List CallA} (hL : CallsA2 w w0 p l L) (hpF : ∀ ap, p = some ap → L ≠ [] → ¬ F ap.block) :
    Calls Try.prog 23 #[.pointer (some (at0 a)), .slice p l c] w fun e w' => e = .returned (.tuple #[]) ∧ ∃ F', Step F F' w w' ∧ IsA w' a (doneA s (L.take 50)) F' ∧ OkA (doneA s (L.take 50)) := by
  have hl := hL.1
  refine (F23_calls (some (at0 a)) p l c w (fun v w' => v = .tuple #[] ∧ ∃ F', Step F F' w w' ∧ IsA w' a (doneA s (L.take 50)) F' ∧ OkA (doneA s (L.take 50)))
    (fun _ n8 w9 => ∃ (i : Nat) (F' : Nat → Prop), n8 = i ∧ i ≤ 50 ∧ i ≤ l ∧ Step F F' w w9 ∧ IsA w9 a (doneA s (L.take i)) F' ∧ OkA (doneA s (L.take i))) (fun _ n8 _ => 50 - n8.toNat) ?_).mono (by rintro e w' ⟨v, rfl, rfl, h⟩; exact ⟨rfl, h⟩)
  refine ⟨⟨0, F, rfl, by omega, by omega, Step.refl _ _, h, ho⟩, ?_⟩
  rintro n8 w9 ⟨i, F9, rfl, hi50, hil, s9, h9, ho9⟩
  intros
  obtain ⟨x9, hF9⟩ := ext_stepA hx s9 hF
  have fin50 : i = 50 ∨ i = l → (Value.tuple #[] : Value) = .tuple #[] ∧ ∃ F', Step F F' w w9 ∧ IsA w9 a (doneA s (L.take 50)) F' ∧ OkA (doneA s (L.take 50)) := by
    intro hi
    have : L.take i = L.take 50 := by
      rcases hi with rfl | hi
      · rfl
      · rw [List.take_of_length_le (by omega), List.take_of_length_le (by omega)]
    rw [this] at h9 ho9
    exact ⟨rfl, F9, s9, h9, ho9⟩
  refine condB_of (fun h1 => condB_of (fun h2 => ?_) (fun h2 => ?_)) (fun h1 => ?_)
  rotate_left
  · simp only [decide_eq_true_eq, decide_eq_false_iff_not] at h1 h2
    exact fin50 (.inl (by omega))
  · simp only [decide_eq_false_iff_not] at h1
    exact fin50 (.inr (by omega))
  simp only [decide_eq_true_eq] at h1 h2
  refine ⟨⟨by omega, h1⟩, ?_⟩
  obtain ⟨cl, hcl⟩ : ∃ x, L[i]? = some x := ⟨L[i]'(by omega), List.getElem?_eq_getElem _⟩
  obtain ⟨ap, p5, l5, c5, p6, l6, c6, rfl, hc0⟩ := hL.2 i cl hcl
  have hc := hc0.now s9.upd (by rw [add_block]; exact hpF ap rfl (by rintro rfl; simp at hcl)) x9
  rw [Int.toNat_natCast]
  refine ⟨_, hc.kind, _, hc.d, _, hc.n, _, hc.m, _, hc.y, p5, l5, c5, hc.b, p6, l6, c6, hc.keep, ?_⟩
  intro k w78 hk
  have hk0 : w9.heap.size ≤ k := by rw [hk.size.1]; exact Nat.le_refl _
  have r78 : RowW w78 k _ := ⟨_, hk.at⟩
  refine ⟨r78.live (n := 0) (by simp), fun w79 s79 => ?_⟩
  have s79' : SetC w78 ((at0 k).add 0) (.int .i64 cl.kind) w79 := s79
  have r79 := s79'.row r78
  have x79 := setc_new hk.ext hk0 s79'
  refine ⟨r79.live (by simp), fun w80 s80 => ?_⟩
  have r80 := s80.row r79
  have x80 := setc_new x79 hk0 s80
  refine ⟨r80.live (by simp), fun w81 s81 => ?_⟩
  have r81 := s81.row r80
  have x81 := setc_new x80 hk0 s81
  refine ⟨r81.live (by simp), fun w82 s82 => ?_⟩
  have r82 := s82.row r81
  have x82 := setc_new x81 hk0 s82
  refine ⟨r82.live (by simp), fun w83 s83 => ?_⟩
  have r83 := s83.row r82
  have x83 := setc_new x82 hk0 s83
  refine ⟨r83.live (by simp), fun w84 s84 => ?_⟩
  have r84 := s84.row r83
  have x84 := setc_new x83 hk0 s84
  refine ⟨r84.live (by simp), fun w85 s85 => ?_⟩
  have r85 := s85.row r84
  have x85 := setc_new x84 hk0 s85
  have r85' : RowW w85 k #[.int .i64 cl.kind, .int .i64 cl.d, .int .i64 cl.n, .int .i64 cl.m, .int .u8 (cl.y.toNat : Int), .slice p5 l5 c5, .slice p6 l6 c6] := r85
  refine ⟨_, r85'.row.cell (n := 0) rfl, _, r85'.row.cell rfl, _, r85'.row.cell rfl, _, r85'.row.cell rfl, _, r85'.row.cell rfl, _, _, _, r85'.row.cell rfl, _, _, _, r85'.row.cell rfl, ?_⟩
  have hc85 := hc.ext x85
  refine (smallA_spec (w := w85) cl.kind cl.d cl.n cl.m (cl.y.toNat : Int) hc85.ints).mono ?_
  rintro e w99 ⟨rfl, x99'⟩
  have x99 := x85.trans x99'
  have r99 := x99'.rowW r85' id
  have h99 : IsA w99 a (doneA s (L.take i)) F9 := IsArr.ext h9 x99
  have y99 := x9.trans x99
  have hc99 := hc.ext x99
  have hsm : (l5 ≤ 4200 ∧ l6 ≤ 40 ∧ ∀ ks ∈ cl.keep, ks.length ≤ 100) ↔ smallA cl := by
    have e1 := hc.bytes.1
    have e2 := hc.ints.1
    unfold smallA
    rw [e1, e2]
  have hwrap : IntKind.i64.wrap ((i : Int) + 1) = ((i + 1 : Nat) : Int) := by rw [w64 (by omega)]; omega
  have htake : L.take (i + 1) = L.take i ++ [cl] := by rw [List.take_add_one, hcl]; rfl
  rw [hwrap]
  have hmu : 50 - ((i + 1 : Nat) : Int).toNat < 50 - ((i : Nat) : Int).toNat := by simp only [Int.toNat_natCast]; omega
  have fin : ∀ (w' : World) (F' : Nat → Prop) (s' : StA), Step F9 F' w99 w' → IsA w' a s' F' → OkA s' → s' = doneA s (L.take (i + 1)) →
      (∃ (i' : Nat) (F' : Nat → Prop), ((i + 1 : Nat) : Int) = i' ∧ i' ≤ 50 ∧ i' ≤ l ∧ Step F F' w w' ∧ IsA w' a (doneA s (L.take i')) F' ∧ OkA (doneA s (L.take i'))) ∧ 50 - ((i + 1 : Nat) : Int).toNat < 50 - ((i : Nat) : Int).toNat := by
    rintro w' F' s' hs h' ho' rfl
    exact ⟨⟨i + 1, F', rfl, by omega, by omega, (s9.trans (Step.ext x99)).trans hs, h', ho'⟩, hmu⟩
  refine ⟨_, rfl, condB_of (fun hb => ?_) (fun hb => ?_)⟩
  · simp only [Bool.not_eq_true', decide_eq_false_iff_not] at hb
    exact fin w99 F9 _ (Step.refl _ _) h99 ho9 (by rw [htake, doneA_snoc, if_neg (fun h => hb (hsm.2 h))])
  simp only [Bool.not_eq_false', decide_eq_true_eq] at hb
  have hS : doneA s (L.take (i + 1)) = callA (doneA s (L.take i)) cl := by rw [htake, doneA_snoc, if_pos (hsm.1 hb)]
  have hoc : OkA (callA (doneA s (L.take i)) cl) := ho9.call hc0.nr
  refine ⟨_, r99.row.cell rfl, ?_⟩
  refine condB_of (fun e1 => ?_) (fun e1 => condB_of (fun e3 => ?_) (fun e3 => condB_of (fun e4 => ?_) (fun e4 => condB_of (fun e5 => ?_) (fun e5 => condB_of (fun e6 => ?_) (fun e6 => condB_of (fun e7 => ?_) (fun e7 => condB_of (fun e8 => ?_) (fun e8 => ?_))))))) <;> simp only [decide_eq_true_eq, decide_eq_false_iff_not] at *
  · have e : callA (doneA s (L.take i)) cl = writeA (doneA s (L.take i)) cl.d cl.n cl.b := by simp [callA, e1]
    rw [e] at hS hoc
    refine ⟨_, r99.row.cell rfl, _, r99.row.cell rfl, _, _, _, r99.row.cell rfl, ?_⟩
    refine (write_any h99 ho9 cl.d cl.n hc99.bytes).mono ?_
    rintro e w' ⟨F', z, rfl, hs, h'⟩
    exact ⟨_, rfl, fin w' F' _ hs h' hoc hS.symm⟩
  · have e : callA (doneA s (L.take i)) cl = (if (doneA s (L.take i)).down then doneA s (L.take i) else { doneA s (L.take i) with M := flushM (doneA s (L.take i)).M.length (doneA s (L.take i)).M }) := by simp [callA, e3]
    rw [e] at hS hoc
    refine (flush_any h99 ho9).mono ?_
    rintro e w' ⟨F', z, rfl, hs, h'⟩
    exact ⟨_, rfl, fin w' F' _ hs h' hoc hS.symm⟩
  · have e : callA (doneA s (L.take i)) cl = (if (doneA s (L.take i)).down then doneA s (L.take i) else ⟨(doneA s (L.take i)).M, if cl.n < -1 then -1 else cl.n, decide (cl.n = 0)⟩) := by simp [callA, e4]
    rw [e] at hS hoc
    refine ⟨_, r99.row.cell rfl, ?_⟩
    refine (after_spec h99 cl.n).mono ?_
    rintro e w' ⟨rfl, hs, h'⟩
    refine ⟨rfl, fin w' F9 _ hs ?_ hoc hS.symm⟩
    generalize doneA s (L.take i) = t at h' ⊢
    obtain ⟨M, left, down⟩ := t
    cases down <;> exact h'
  · have e : callA (doneA s (L.take i)) cl = ⟨crashM cl.keep (doneA s (L.take i)).M.length (doneA s (L.take i)).M, -1, false⟩ := by simp [callA, e5]
    rw [e] at hS hoc
    refine ⟨_, _, _, r99.row.cell rfl, ?_⟩
    refine (restart_any h99 ho9 y99 hF9 hc0.ints hb.2.2).mono ?_
    rintro e w' ⟨F', rfl, hs, h'⟩
    exact ⟨rfl, fin w' F' _ hs h' hoc hS.symm⟩
  · have e : callA (doneA s (L.take i)) cl = onDisk (doneA s (L.take i)) cl.d fun m => ⟨{ m.d with dead := true, lasts := [], waits := [] }, IntKind.i64.wrap (m.births + 1)⟩ := by simp [callA, e6]
    rw [e] at hS hoc
    refine ⟨_, r99.row.cell rfl, ?_⟩
    refine (fail_any h99 cl.d).mono ?_
    rintro e w' ⟨F', z, rfl, hs, h'⟩
    exact ⟨_, rfl, fin w' F' _ hs h' hoc hS.symm⟩
  · have e : callA (doneA s (L.take i)) cl = onDisk (doneA s (L.take i)) cl.d fun m => ⟨{ m.d with dead := false, lasts := [], waits := [] }, IntKind.i64.wrap (m.births + 1)⟩ := by simp [callA, e7]
    rw [e] at hS hoc
    refine ⟨_, r99.row.cell rfl, ?_⟩
    refine (replace_any h99 cl.d).mono ?_
    rintro e w' ⟨F', z, rfl, hs, h'⟩
    exact ⟨_, rfl, fin w' F' _ hs h' hoc hS.symm⟩
  · have e : callA (doneA s (L.take i)) cl = onDisk (doneA s (L.take i)) cl.d fun m => { m with d := corruptD m.d cl.n cl.m cl.y } := by simp [callA, e8]
    rw [e] at hS hoc
    refine ⟨_, r99.row.cell rfl, _, r99.row.cell rfl, _, r99.row.cell rfl, _, r99.row.cell rfl, ?_⟩
    refine (corrupt_any h99 cl.d cl.n cl.m cl.y hc0.mr).mono ?_
    rintro e w' ⟨F', z, rfl, hs, h'⟩
    exact ⟨_, rfl, fin w' F' _ hs h' hoc hS.symm⟩
  · have e : callA (doneA s (L.take i)) cl = doneA s (L.take i) := by simp [callA, e1, e3, e4, e5, e6, e7, e8]
    rw [e] at hS hoc
    exact fin w99 F9 _ (Step.refl _ _) h99 hoc hS.symm
end Go.Proofs.Ytbidancfbilbkaa
