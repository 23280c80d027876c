/- VoteTwice returns true, whatever the script. No conditions. -/
import Derived.Test.YtphkmbkmjhbenaaV12
import Derived.Test.YtphkmbkmjhbenaaRows
namespace Go.Proofs.Ytphkmbkmjhbenaa
open Go Go.Vc Go.ChangeShapes Go.WideShapes Go.ChangeAt Go.RowKit

theorem best_rep {k : Nat} {b : Say} (hk : 0 < k) : Best (List.replicate k b) b k :=
  .inr ⟨by simp; omega, by simp, fun y hy => by
    rw [List.eq_of_mem_replicate hy, List.count_replicate_self]
    exact bt_irrefl _ _⟩

/-- a mend, and what a second one finds -/
theorem mend_twice {n : Int} {b : Say} {c : Nat} {s : StA} {k : Int} (hl : s.left = -1) (hd : s.down = false) (hk : SecA k s) (ho : OkA s) (hb : Best (sayL (saysM n s.M)) b c) :
    ∃ s1 cnt c1, mendM n b c s = (s1, cnt, 0) ∧ s1.left = -1 ∧ s1.down = false ∧ OkA s1 ∧ s1.M.length = s.M.length ∧ (s1.M.map fun m => !m.d.dead) = (s.M.map fun m => !m.d.dead) ∧ Best (sayL (saysM n s1.M)) b c1 ∧ mendM n b c1 s1 = (s1, 0, 0) ∧
      ((c = 0 ∧ c1 = 0 ∧ cnt = 0) ∨ (0 < c ∧ 0 < c1 ∧ c1 = liveN s.M ∧ 0 ≤ cnt ∧ cnt + (c : Int) ≤ (c1 : Int))) := by
  by_cases hc : c = 0
  · subst hc
    have e : mendM n b 0 s = (s, 0, 0) := by unfold mendM; rw [if_neg (by rw [hd]; simp), if_pos rfl]
    exact ⟨s, 0, 0, e, hl, hd, ho, rfl, rfl, hb, e, .inl ⟨rfl, rfl, rfl⟩⟩
  · have hc' : 0 < c := by omega
    obtain ⟨h1, h2, h3, h4, h5, h6, h7, h8, h9, h10⟩ := mend_law hl hd hk hb hc'
    have hlive : 0 < liveN s.M := by omega
    refine ⟨(mendM n b c s).1, (mendM n b c s).2.1, liveN s.M, ?_, h4, h5, ⟨by rw [h6]; exact ho.1, by omega, by omega⟩, h6, h9, by rw [h8]; exact best_rep hlive, h10 _ hlive, .inr ⟨hc', hlive, rfl, h2, h3⟩⟩
    generalize mendM n b c s = r at h1
    obtain ⟨r1, r2, r3⟩ := r
    simp only at h1
    rw [h1]

set_option maxHeartbeats 4000000 in
theorem voteTwice_walk (n1 : Int) {w : World} {p2 : Option Addr} {l2 c2 : Nat} {L : List CallA} (hL : CallsAAt w p2 l2 L) (n3 : Int) :
    Calls Try.prog 6 #[.int .i64 n1, .slice p2 l2 c2, .int .i64 n3] w fun e w' => e = .returned (.bool true) ∧ Ext w w' := by
  generalize hs : doneA (begA n1.toNat 12) (L.take 50) = s0
  generalize hss : (⟨crashM [] s0.M.length s0.M, -1, false⟩ : StA) = s
  refine (F6_calls n1 p2 l2 c2 n3 w (fun v w' => v = .bool true ∧ Ext w w')
    (fun _ _ _ _ _ _ _ _ _ _ _ w53 n67 n68 w69 => ∃ i : Nat, n68 = i ∧ i ≤ s.M.length ∧ Ext w53 w69 ∧ n67 = ((((s.M.map fun m => !m.d.dead).take i).count true : Nat) : Int)) (fun _ _ _ _ _ _ _ _ _ _ _ _ _ n68 _ => 100 - n68.toNat) ?_).mono (by rintro e w' ⟨v, rfl, rfl, h⟩; exact ⟨rfl, h⟩)
  unfold F6
  refine (awake_spec w).mono ?_
  rintro e w5 ⟨rfl, x5⟩
  refine ⟨true, rfl, condB_f rfl (condB_of (fun _ => ⟨rfl, x5⟩) fun h1 => condB_of (fun _ => ⟨rfl, x5⟩) fun h2 => ?_)⟩
  simp only [decide_eq_false_iff_not] at h1 h2
  refine (anew_good (n := n1) (s := 12) ⟨by omega, by omega⟩ ⟨by omega, by omega⟩ w5).mono ?_
  rintro e w8 ⟨a, F, rfl, x8, h8, hF⟩
  have y8 := x5.trans x8
  replace hF : ∀ x, F x → w.heap.size ≤ x := fun x hx => Nat.le_trans x5.size (hF x hx)
  refine ⟨_, _, rfl, condB_f rfl ?_⟩
  have hA8 : IsA w8 a (begA n1.toNat 12) F := h8
  refine (doneA_spec (w0 := w) hA8 (begA_ok (by omega)) y8 hF (hL.two y8) (fun ap hap hne hf => by have := calls_block hL hap hne; have := hF _ hf; omega)).mono ?_
  rintro e w12 ⟨rfl, F12, s12, h12, ho12⟩
  rw [hs] at h12 ho12
  have hlen0 : s0.M.length = n1.toNat := by rw [← hs, doneA_len]; simp [begA]
  obtain ⟨y12, hF12⟩ := ext_stepA y8 s12 hF
  refine ⟨rfl, ?_⟩
  refine (restart_any (w0 := w) h12 ho12 y12 hF12 (p := none) (l := 0) (c := 0) (KS := []) ⟨rfl, fun i ks hi => by simp at hi⟩ (fun ks hks => by cases hks)).mono ?_
  rintro e w13 ⟨F13, rfl, s13, h13⟩
  rw [hss] at h13
  obtain ⟨y13, hF13⟩ := ext_stepA y12 s13 hF12
  have hleft : s.left = -1 := by rw [← hss]
  have hdown : s.down = false := by rw [← hss]
  have hlen : s.M.length = n1.toNat := by rw [← hss]; show (crashM [] s0.M.length s0.M).length = _; rw [crashM_len]; exact hlen0
  have hsec : SecA 12 s := by rw [← hss]; exact crashA_sec (by rw [← hs]; exact doneA_sec _ (begA_sec _ _)) _ _ _ _
  have hok : OkA s := ⟨by omega, by omega, by omega⟩
  have hM : s.M.length ≤ 100 := by omega
  have hM1 : 1 ≤ s.M.length := by omega
  have h13a : IsArr w13 a s.M s.left s.down F13 := h13
  rw [hdown] at h13a
  refine ⟨rfl, ?_⟩
  refine (vread_spec h13a hM hM1 (BoolsAt.none w13 none) n3).mono ?_
  rintro e w15 ⟨x15, v, b, c, kd, cc, rfl, td⟩
  obtain ⟨hb, rfl, hkd, hdat⟩ := td
  refine ⟨_, _, _, _, _, _, _, _, rfl, vote_cells fun k23 w29 hk23 r23 x29 => ?_⟩
  have h29 : IsA w29 a s F13 := IsArr.ext (IsArr.ext h13 x15) x29
  refine (vmend_spec h29 hok hM1 none 0 0 n3).mono ?_
  rintro e w30 ⟨F30, b2, c2', hb2, rfl, s30, h30⟩
  obtain ⟨rfl, rfl⟩ := hb.unique (hb2 hdown)
  obtain ⟨s1, cnt, c1, hm1, hl1, hd1, ho1, hlen1, hmap1, hb1, hm2, hcases⟩ := mend_twice hleft hdown hsec hok hb
  rw [hm1] at h30 ⊢
  refine ⟨_, _, rfl, ?_⟩
  have h30a : IsArr w30 a s1.M s1.left s1.down F30 := h30
  rw [hd1] at h30a
  refine (vread_spec h30a (by omega) (by omega) (BoolsAt.none w30 none) n3).mono ?_
  rintro e w34 ⟨x34, v, b', c', kd', cc', rfl, td⟩
  obtain ⟨hb', rfl, hkd', hdat'⟩ := td
  obtain ⟨rfl, rfl⟩ := hb1.unique hb'
  refine ⟨_, _, _, _, _, _, _, _, rfl, vote_cells fun k42 w48 hk42 r42 x48 => ?_⟩
  have h48 : IsA w48 a s1 F30 := IsArr.ext (IsArr.ext h30 x34) x48
  refine (vmend_spec h48 ho1 (by omega) none 0 0 n3).mono ?_
  rintro e w49 ⟨F49, b3, c3, hb3, rfl, s49, h49⟩
  obtain ⟨rfl, rfl⟩ := hb1.unique (hb3 hd1)
  rw [hm2] at h49 ⊢
  refine ⟨_, _, rfl, ?_⟩
  have h49a : IsArr w49 a s1.M s1.left s1.down F49 := h49
  refine (live_spec h49a (by omega)).mono ?_
  rintro e w53 ⟨pl, ll, cl, rfl, x53, rfl, hol⟩
  refine ⟨_, _, _, rfl, ⟨0, rfl, Nat.zero_le _, Upd.refl _ _, rfl⟩, ?_⟩
  rintro n67 n68 w69 ⟨i, rfl, hi, x69, rfl⟩
  intros
  -- what stays
  have lt13 := IsArr.lt h13a
  have lt30 := IsArr.lt h30a
  have z15 := x15.size
  have z29 := x29.size
  have z34 := x34.size
  have z48 := x48.size
  have nk23 : ¬ F13 k23 := fun h => by have := lt13 _ h; omega
  have nk23' : ¬ F30 k23 := s30.apart r23.lt nk23
  have nk42 : ¬ F30 k42 := fun h => by have := lt30 _ h; omega
  have q23 : RowW w69 k23 _ := (x53.trans x69).rowW (s49.upd.rowW ((x34.trans x48).rowW (s30.upd.rowW r23 nk23) id) nk23') id
  have q42 : RowW w69 k42 _ := (x53.trans x69).rowW (s49.upd.rowW r42 nk42) id
  have qd : BytesAt w69 (some (at0 kd)) b.2.length b.2 := by
    refine ((((hdat.ext x29).upd s30.upd fun a ha hne => ?_).ext (x34.trans x48)).upd s49.upd fun a ha hne => ?_).ext (x53.trans x69)
    · cases ha
      exact fun h => by have h := lt13 kd h; omega
    · cases ha
      obtain ⟨a', ha', hlt⟩ := (hdat.ext x29).lt hne
      cases ha'
      exact s30.apart hlt (fun h => by have h := lt13 kd h; omega)
  have qd' : BytesAt w69 (some (at0 kd')) b.2.length b.2 := by
    refine (((hdat'.ext x48).upd s49.upd fun a ha hne => ?_)).ext (x53.trans x69)
    cases ha
    exact fun h => by have h := lt30 kd' h; omega
  have hlist : (s1.M.map fun m => Value.bool (!m.d.dead)) = (s.M.map fun m => !m.d.dead).map Value.bool := by
    rw [← hmap1, List.map_map]
    rfl
  refine condB_of (fun hlt => ?_) (fun hge => ?_)
  · simp only [decide_eq_true_eq] at hlt
    have hcl := (hol.cells.ext x69)
    rw [hlist] at hcl
    have hii : i < (s.M.map fun m => !m.d.dead).length := by simp; omega
    obtain ⟨ap, hap, hc⟩ := hcl i (.bool ((s.M.map fun m => !m.d.dead)[i])) (by rw [List.getElem?_map, List.getElem?_eq_getElem hii]; rfl)
    subst hap
    have hwr : IntKind.i64.wrap ((i : Int) + 1) = ((i + 1 : Nat) : Int) := by rw [w64 (by omega)]; omega
    have mu : 100 - (((i + 1 : Nat) : Int)).toNat < 100 - ((i : Int)).toNat := by omega
    have hcle : ((s.M.map fun m => !m.d.dead).take i).count true ≤ i := by
      refine Nat.le_trans List.count_le_length ?_
      simp; omega
    have hstep : ((s.M.map fun m => !m.d.dead).take (i + 1)).count true = ((s.M.map fun m => !m.d.dead).take i).count true + (if (s.M.map fun m => !m.d.dead)[i] = true then 1 else 0) := by
      rw [List.take_add_one, List.getElem?_eq_getElem hii, List.count_append]
      simp [List.count_cons]
    rw [hwr, Int.toNat_natCast]
    refine ⟨⟨by omega, hlt⟩, _, by rw [Nat.mul_one]; exact hc, condB_of (fun ht => ?_) (fun hf => ?_)⟩
    · refine ⟨⟨i + 1, rfl, by omega, x69, ?_⟩, mu⟩
      rw [hstep, if_pos ht, w64 (by omega)]
      omega
    · refine ⟨⟨i + 1, rfl, by omega, x69, ?_⟩, mu⟩
      rw [hstep, if_neg (by rw [hf]; simp)]
      rfl
  · simp only [decide_eq_false_iff_not] at hge
    have hfull : ((s.M.map fun m => !m.d.dead).take i).count true = liveN s.M := by
      rw [List.take_of_length_le (by simp; omega)]
      rfl
    have hll : liveN s.M ≤ 32 := by
      unfold liveN
      refine Nat.le_trans List.count_le_length ?_
      simp; omega
    rw [hfull]
    refine ⟨_, _, _, q23.row.cell rfl, _, _, _, q42.row.cell rfl, ?_⟩
    have hbl : b.2.length ≤ 4611686018427387904 := by
      rcases hb with ⟨_, rfl, _⟩ | ⟨hm, _⟩
      · simp
      · have := (say_bound hm).2.2; omega
    refine (same_spec qd qd' hbl).mono ?_
    rintro e w86 ⟨rfl, hq⟩
    have p23 : RowW w86 k23 _ := hq.ext.rowW q23 id
    have p42 : RowW w86 k42 _ := hq.ext.rowW q42 id
    obtain ⟨y30, hF30⟩ := ext_stepA ((y13.trans x15).trans x29) s30 hF13
    obtain ⟨y49, _⟩ := ext_stepA ((y30.trans x34).trans x48) s49 hF30
    have yend : Ext w w86 := ((y49.trans x53).trans x69).trans hq.ext
    refine ⟨_, rfl, condB_f rfl (condB_f rfl (condB_f rfl (condB_f rfl (condB_f rfl ⟨_, p23.row.cell rfl, _, p42.row.cell rfl, condB_f ?_ ⟨_, p23.row.cell rfl, _, p42.row.cell rfl, condB_f (by simp) (condB_f (by simp) ⟨_, p23.row.cell rfl, ?_⟩)⟩⟩))))⟩
    · rcases hcases with ⟨rfl, rfl, _⟩ | ⟨hc, hc1, _⟩
      · rfl
      · rw [decide_eq_true hc, decide_eq_true hc1]; rfl
    · rcases hcases with ⟨rfl, rfl, rfl⟩ | ⟨hc, hc1, hc2, hcn, hcs⟩
      · exact condB_t rfl (condB_t rfl ⟨_, p42.row.cell rfl, condB_t rfl ⟨rfl, yend⟩⟩)
      · refine condB_f (by rw [decide_eq_true hc]; rfl) ⟨_, p23.row.cell rfl, condB_t (decide_eq_true hc) ⟨_, p42.row.cell rfl, condB_t (decide_eq_true (by rw [hc2])) ⟨_, p23.row.cell rfl, ?_, yend⟩⟩⟩
        rw [w64 (by omega)]
        exact congrArg Value.bool (decide_eq_true (show cnt ≤ (liveN s.M : Int) - (c : Int) by omega))
set_option maxRecDepth 100000 in
theorem voteTwice_lifted (os : Os) (started : os.Started) (H : Type) (enc : TypeId × Value → H) :
    ReturnsInHanded {} Try.checked os 6 .any (Rows.voteTwiceSpec.pre6 enc Try.prog Try.f6 Rows.voteTwiceRow.domain false) (Rows.voteTwiceSpec.post enc Try.prog Try.f6 false true false false) := by
  refine returnsInHanded_of_change (C := Try.checked) lawOwn started (by kernel_rfl) Try.func6
    (ChangeSpec.witness6 (enc := enc) (C := Try.checked) false ⟨#[], #[.int .i64 0, .slice none 0 0, .int .i64 0], []⟩ 8 (by kernel_rfl) (by kernel_rfl) (by kernel_rfl) (by kernel_rfl)) ?_
  intro W base args ds gs before hval0 hW hcnd _
  have hval : ∀ (j : Nat) t v, Try.f6.params[j]? = some t → args[j]? = some v → Value.okWide Try.prog W .any base t v := hval0
  have hW' := hW
  obtain ⟨p, q, hA0, hV, rfl, hfz, hnd⟩ := hW
  have hA : DataW.TrodAll enc Try.prog W 0 (fun _ => true) true Try.f6.params.toList args.toList ds p := hA0
  rw [Try.params6] at hA hval
  obtain ⟨v0, vs0, d0, ds0, p0, q0, hargs, rfl, rfl, h0, r0⟩ := trodAll_cons hA
  obtain ⟨v1, vs1, d1, ds1, p1, q1, rfl, rfl, rfl, h1, r1⟩ := trodAll_cons r0
  obtain ⟨v2, vs2, d2, ds2, p2, q2, rfl, rfl, rfl, h2, r2⟩ := trodAll_cons r1
  obtain ⟨rfl, rfl, rfl⟩ := trodAll_nil r2
  obtain rfl : args = #[v0, v1, v2] := by cases args; simp_all
  obtain ⟨rfl, rfl⟩ := trodVars_none hV
  obtain ⟨n0, rfl, rfl, rfl, wn0⟩ := open_int Try.underlying3 (hval 0 3 v0 rfl rfl) h0
  obtain ⟨a1, l1, c1, L1, rfl, hL1⟩ := open_script (okWide_slice Try.underlying45 (hval 1 45 v1 rfl rfl)) h1
  obtain ⟨n2, rfl, rfl, rfl, wn2⟩ := open_int Try.underlying3 (hval 2 3 v2 rfl rfl) h2
  refine (voteTwice_walk n0 hL1 n2).mono fun e W' ⟨he, hg⟩ => ?_
  subst he
  exact ⟨_, rfl, post_true lawLaid rfl (by kernel_rfl) rfl Try.underlying4 hW' rfl hg.below⟩

/-- ████ THE STATEMENT ████ -/
theorem voteTwice_holds : Rows.VoteTwiceSaid :=
  OpenClaim.holds_of_wide 6 Try.f6 rfl rfl rfl rfl rfl rfl rfl ⟨rfl, rfl, rfl, rfl, rfl⟩ rfl rfl rfl rfl rfl (by kernel_rfl) Try.func6 (by kernel_rfl)
    (of_decide_eq_true (by kernel_rfl)) (by unfold Func.isWrapper; first | (rw [if_pos (by decide +kernel)]; kernel_rfl) | (rw [if_neg (by decide +kernel)]; exact ⟨rfl, rfl⟩))
    (fun os started H enc _ => voteTwice_lifted os started H enc)
end Go.Proofs.Ytphkmbkmjhbenaa
