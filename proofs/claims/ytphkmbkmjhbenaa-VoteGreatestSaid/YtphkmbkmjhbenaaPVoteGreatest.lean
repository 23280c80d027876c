/- VoteGreatest returns true, whatever the script. No conditions. -/
import Derived.Test.YtphkmbkmjhbenaaV13
import Derived.Test.YtphkmbkmjhbenaaRows
namespace Go.Proofs.Ytphkmbkmjhbenaa
open Go Go.Vc Go.ChangeShapes Go.WideShapes Go.ChangeAt Go.RowKit

theorem putM_ok {to : Nat → Bool} {n e : Int} {d : List UInt8} {s : StA} (h : OkA s) : OkA (putM to n e d s).1 ∧ (putM to n e d s).1.M.length = s.M.length := by
  have := putS_ok (to := to) (n := n) (b := packM n e d) h s.M.length
  unfold putM
  split
  · split
    · exact ⟨this.1, this.2.1⟩
    · exact ⟨this.1, this.2.1⟩
  · exact ⟨h, rfl⟩

theorem sayL_mem {L : List Said} {i : Nat} {s : Said} (hs : L[i]? = some s) (hi : s.is = true) : (s.epoch, s.data) ∈ sayL L := by
  unfold sayL
  exact List.mem_map.2 ⟨s, List.mem_filter.2 ⟨List.mem_of_getElem? hs, hi⟩, rfl⟩

set_option maxHeartbeats 8000000 in
theorem voteGreatest_walk (n1 : Int) {w : World} {p2 : Option Addr} {l2 c2 : Nat} {L : List CallV} (hL : CallsVAt w p2 l2 L) (n3 : Int) :
    Calls Try.prog 4 #[.int .i64 n1, .slice p2 l2 c2, .int .i64 n3] w fun e w' => e = .returned (.bool true) ∧ Ext w w' := by
  refine (F4_calls n1 p2 l2 c2 n3 w (fun v w' => v = .bool true ∧ Ext w w')
    (fun p9 _ n12 w13 => ∃ (i a : Nat) (s : StA) (F : Nat → Prop), p9 = some (at0 a) ∧ n12 = i ∧ i ≤ 30 ∧ Ext w w13 ∧ (∀ x, F x → w.heap.size ≤ x) ∧ IsA w13 a s F ∧ OkA s ∧ s.M.length = n1.toNat) (fun _ _ n12 _ => 30 - n12.toNat)
    (fun p9 pv _ n129 n130 w131 => ∃ (i a kv kd cc : Nat) (s : StA) (F : Nat → Prop) (b : Say) (c : Nat), p9 = some (at0 a) ∧ pv = some (at0 kv) ∧ n130 = i ∧ i ≤ s.M.length ∧ s.M.length = n1.toNat ∧ Ext w w131 ∧ IsA w131 a s F ∧ s.down = false ∧
      Best (sayL (saysM n3 s.M)) b c ∧ RowW w131 kv #[.bool (decide (0 < c)), .int .i64 b.1, .slice (some (at0 kd)) b.2.length cc, .int .i64 (c : Int), .bool false] ∧ BytesAt w131 (some (at0 kd)) b.2.length b.2 ∧
      n129 = (((sayL ((saysM n3 s.M).take i)).count b : Nat) : Int)) (fun _ _ _ _ n130 _ => 100 - n130.toNat) ?_).mono (by rintro e w' ⟨v, rfl, rfl, h⟩; exact ⟨rfl, h⟩)
  unfold F4
  refine (awake_spec w).mono ?_
  rintro e w5 ⟨rfl, x5⟩
  refine ⟨true, rfl, condB_f rfl (condB_of (fun _ => ⟨rfl, x5⟩) fun h1 => condB_of (fun _ => ⟨rfl, x5⟩) fun h2 => ?_)⟩
  simp only [decide_eq_false_iff_not] at h1 h2
  refine (anew_good (n := n1) (s := 12) ⟨by omega, by omega⟩ ⟨by omega, by omega⟩ w5).mono ?_
  rintro e w8 ⟨a, F, rfl, x8, h8, hF⟩
  have y8 := x5.trans x8
  replace hF : ∀ x, F x → w.heap.size ≤ x := fun x hx => Nat.le_trans x5.size (hF x hx)
  have hA8 : IsA w8 a (begA n1.toNat 12) F := h8
  refine ⟨_, _, rfl, condB_f rfl ⟨⟨0, a, begA n1.toNat 12, F, rfl, rfl, by omega, y8, hF, hA8, begA_ok (by omega), by simp [begA]⟩, ?_⟩⟩
  rintro n12 w13 ⟨i, a', s, F', e1, rfl, hi, x13, hF', h13, ho13, hlen⟩
  simp only [Option.some.injEq, at0, Addr.mk.injEq, and_true] at e1
  subst e1
  intros
  have fin : F4_A0 (some (at0 a)) n3 w13 n1 (fun v w' => v = .bool true ∧ Ext w w')
    (fun p9 _ n12 w13 => ∃ (i a : Nat) (s : StA) (F : Nat → Prop), p9 = some (at0 a) ∧ n12 = i ∧ i ≤ 30 ∧ Ext w w13 ∧ (∀ x, F x → w.heap.size ≤ x) ∧ IsA w13 a s F ∧ OkA s ∧ s.M.length = n1.toNat) (fun _ _ n12 _ => 30 - n12.toNat)
    (fun p9 pv _ n129 n130 w131 => ∃ (i a kv kd cc : Nat) (s : StA) (F : Nat → Prop) (b : Say) (c : Nat), p9 = some (at0 a) ∧ pv = some (at0 kv) ∧ n130 = i ∧ i ≤ s.M.length ∧ s.M.length = n1.toNat ∧ Ext w w131 ∧ IsA w131 a s F ∧ s.down = false ∧
      Best (sayL (saysM n3 s.M)) b c ∧ RowW w131 kv #[.bool (decide (0 < c)), .int .i64 b.1, .slice (some (at0 kd)) b.2.length cc, .int .i64 (c : Int), .bool false] ∧ BytesAt w131 (some (at0 kd)) b.2.length b.2 ∧
      n129 = (((sayL ((saysM n3 s.M).take i)).count b : Nat) : Int)) (fun _ _ _ _ n130 _ => 100 - n130.toNat) := by
    unfold F4_A0
    have hM : s.M.length ≤ 100 := by omega
    have hM1 : 1 ≤ s.M.length := by omega
    have h13a : IsArr w13 a s.M s.left s.down F' := h13
    cases hdn : s.down with
    | true =>
      rw [hdn] at h13a
      refine (vread_down h13a hM hM1 none 0 0 n3).mono ?_
      rintro e w109 ⟨rfl, x109⟩
      refine ⟨_, _, _, _, _, _, _, _, rfl, vote_cells fun kv w123 _ rv x123 => condB_t rfl (condB_t rfl ?_)⟩
      refine (adown_spec (IsArr.ext (IsArr.ext h13a x109) x123)).mono ?_
      rintro e w124 ⟨rfl, rfl⟩
      exact ⟨_, rfl, rfl, (x13.trans x109).trans x123⟩
    | false =>
      rw [hdn] at h13a
      refine (vread_spec h13a hM hM1 (BoolsAt.none w13 none) n3).mono ?_
      rintro e w109 ⟨x109, v, b, c, kd, cc, rfl, td⟩
      obtain ⟨hb, rfl, hkd, hdat⟩ := td
      have hw0 : wit [] (saysM n3 s.M) = false := by simp [wit]
      rw [hw0]
      refine ⟨_, _, _, _, _, _, _, _, rfl, vote_cells fun kv w123 _ rv x123 => condB_f rfl ⟨⟨0, a, kv, kd, cc, s, F', b, c, rfl, rfl, rfl, Nat.zero_le _, hlen, (x13.trans x109).trans x123, IsArr.ext (IsArr.ext h13 x109) x123, hdn, hb, rv, hdat.ext x123, by simp [sayL]⟩, ?_⟩⟩
      clear hb hdat rv hdn h13a h13 ho13 hlen hM hM1 hkd
      rintro n129 n130 w131 ⟨i, a2, kv', kd, cc, s, F, b, c, e1, e2, rfl, hi, hlen, x131, h131, hdn, hb, rv, hdat, rfl⟩
      simp only [Option.some.injEq, at0, Addr.mk.injEq, and_true] at e1 e2
      subst e1
      subst e2
      intros
      have hM : s.M.length ≤ 100 := by omega
      have h131a : IsArr w131 a s.M s.left s.down F := h131
      rw [hdn] at h131a
      have hls : (saysM n3 s.M).length = s.M.length := by simp [saysM]
      have hbl : b.2.length ≤ 4611686018427387904 := by
        rcases hb with ⟨_, rfl, _⟩ | ⟨hm, _⟩
        · simp
        · have := (say_bound hm).2.2; omega
      have hcl : ∀ j, (sayL ((saysM n3 s.M).take j)).count b ≤ 100 := by
        intro j
        refine Nat.le_trans List.count_le_length ?_
        unfold sayL
        rw [List.length_map]
        refine Nat.le_trans (List.length_filter_le _ _) ?_
        simp; omega
      refine condB_of (fun hlt => ?_) (fun hge => ?_)
      · simp only [decide_eq_true_eq] at hlt
        obtain ⟨m, hm⟩ : ∃ m, s.M[i]? = some m := ⟨s.M[i]'(by omega), List.getElem?_eq_getElem _⟩
        have hsI : (saysM n3 s.M)[i]? = some (saidOf n3 m) := by simp [saysM, hm]
        have hstep := sayL_take hsI
        have hwr : IntKind.i64.wrap ((i : Int) + 1) = ((i + 1 : Nat) : Int) := by rw [w64 (by omega)]; omega
        have mu : 100 - (((i + 1 : Nat) : Int)).toNat < 100 - ((i : Int)).toNat := by omega
        have go : ∀ (nn : Int) (wx : World), Ext w131 wx → nn = (((sayL ((saysM n3 s.M).take (i + 1))).count b : Nat) : Int) →
            (∃ (i_1 a_1 kv_1 kd cc : Nat) (s : StA) (F : Nat → Prop) (b : Say) (c : Nat), some (at0 a) = some (at0 a_1) ∧ some (at0 kv) = some (at0 kv_1) ∧ ((i + 1 : Nat) : Int) = i_1 ∧ i_1 ≤ s.M.length ∧ s.M.length = n1.toNat ∧ Ext w wx ∧ IsA wx a_1 s F ∧ s.down = false ∧
      Best (sayL (saysM n3 s.M)) b c ∧ RowW wx kv_1 #[.bool (decide (0 < c)), .int .i64 b.1, .slice (some (at0 kd)) b.2.length cc, .int .i64 (c : Int), .bool false] ∧ BytesAt wx (some (at0 kd)) b.2.length b.2 ∧
      nn = (((sayL ((saysM n3 s.M).take i_1)).count b : Nat) : Int)) ∧ 100 - (((i + 1 : Nat) : Int)).toNat < 100 - ((i : Int)).toNat :=
          fun nn wx hx hnn => ⟨⟨i + 1, a, kv, kd, cc, s, F, b, c, rfl, rfl, rfl, by omega, hlen, x131.trans hx, IsArr.ext h131 hx, hdn, hb, hx.rowW rv id, hdat.ext hx, hnn⟩, mu⟩
        refine read_unpack h131a hm n3 ?_
        rintro e w186 x186 ⟨p, l, c5, rfl, rfl, hun⟩
        refine ⟨_, _, _, _, rfl, hun.mono ?_⟩
        rintro e w190 ⟨v, rfl, x190, hv⟩
        have xx := x186.trans x190
        rw [hwr]
        cases hu : unpackM n3 (readA n3 m) with
        | none =>
          rw [hu] at hv
          subst hv
          have hsd := said_none hu
          have hsame : (((sayL ((saysM n3 s.M).take i)).count b : Nat) : Int) = (((sayL ((saysM n3 s.M).take (i + 1))).count b : Nat) : Int) := by
            rw [hstep, hsd]; rfl
          refine ⟨_, _, _, _, _, rfl, condB_of (fun _ => go _ _ xx hsame) fun _ => condB_t rfl (go _ _ xx hsame)⟩
        | some ed =>
          obtain ⟨ee, dd⟩ := ed
          rw [hu] at hv
          obtain ⟨p', c', rfl, hod⟩ := hv
          obtain ⟨hsd, hz0, hne⟩ := said_some hu
          have hmem : (ee, dd) ∈ sayL (saysM n3 s.M) := by
            have := sayL_mem hsI (by rw [hsd])
            rw [hsd] at this
            exact this
          have hbst : 0 < c ∧ ¬ bt (ee, dd) b ((sayL (saysM n3 s.M)).count (ee, dd)) c := by
            rcases hb with ⟨h0, _⟩ | ⟨hbm, hbc, hall⟩
            · rw [h0] at hmem; cases hmem
            · exact ⟨by rw [hbc]; exact List.count_pos_iff.2 hbm, hall _ hmem⟩
          have hle : ee ≤ b.1 := by
            have := hbst.2
            unfold bt at this
            by_cases he : ee = b.1
            · omega
            · rw [if_neg he] at this; omega
          have rv' : RowW w190 kv _ := xx.rowW rv id
          have hst2 : (sayL ((saysM n3 s.M).take (i + 1))).count b = (sayL ((saysM n3 s.M).take i)).count b + (if (ee, dd) = b then 1 else 0) := by
            rw [hstep, hsd]
            simp only [if_true]
            rw [List.count_append]
            simp [List.count_cons]
          have := hcl i
          refine ⟨_, _, _, _, _, rfl, condB_f (by rw [hz0]; rfl) (condB_f rfl ⟨_, rv'.row.cell rfl, condB_f (by rw [decide_eq_true hbst.1]; rfl) ⟨_, rv'.row.cell rfl, condB_f (decide_eq_false (by omega)) ⟨_, _, _, rv'.row.cell rfl, ?_⟩⟩⟩)⟩
          have hdd := (unpack_bound hu).2.2
          refine (same_spec (BytesAt.of_cells hod.cells) (hdat.ext xx) (by omega)).mono ?_
          rintro e w198 ⟨rfl, hq⟩
          have rv2 : RowW w198 kv _ := hq.ext.rowW rv' id
          refine ⟨_, rfl, _, rv2.row.cell rfl, condB_of (fun he => condB_of (fun hs => go _ _ (xx.trans hq.ext) ?_) (fun hs => go _ _ (xx.trans hq.ext) ?_)) (fun he => go _ _ (xx.trans hq.ext) ?_)⟩
          · simp only [decide_eq_true_eq] at he hs
            rw [hst2, if_pos (Prod.ext he hs), w64 (by omega)]
            omega
          · simp only [decide_eq_true_eq] at he
            simp only [decide_eq_false_iff_not] at hs
            rw [hst2, if_neg (fun h => hs (congrArg Prod.snd h))]
            rfl
          · simp only [decide_eq_false_iff_not] at he
            rw [hst2, if_neg (fun h => he (congrArg Prod.fst h))]
            rfl
      · simp only [decide_eq_false_iff_not] at hge
        have htk : (saysM n3 s.M).take i = saysM n3 s.M := List.take_of_length_le (by omega)
        rw [htk]
        have hcc : (sayL (saysM n3 s.M)).count b = c := by
          rcases hb with ⟨h0, _, h2⟩ | ⟨_, hbc, _⟩
          · rw [h0, h2]; rfl
          · exact hbc.symm
        rw [hcc]
        refine ⟨_, by rw [show (at0 kv).add 0 = (at0 kv).add 0 from rfl]; exact rv.row.cell rfl, condB_t ?_ ⟨_, rv.row.cell rfl, condB_t (decide_eq_true rfl) ⟨_, rv.row.cell rfl, rfl, x131⟩⟩⟩
        rw [beq_iff_eq, decide_eq_decide]
        omega
  refine condB_of (fun hlt => ?_) (fun _ => fin)
  refine condB_of (fun hlt30 => ?_) (fun _ => fin)
  clear fin
  simp only [decide_eq_true_eq] at hlt hlt30
  obtain ⟨cl, hcl⟩ : ∃ cl, L[i]? = some cl := ⟨L[i]'(by have := hL.1; omega), List.getElem?_eq_getElem _⟩
  obtain ⟨ap, p3, l3, c3, p4, l4, c4, p5, l5, c5, p6, l6, c6, rfl, hv⟩ := hL.2 i cl hcl
  have ca : ∀ (j : Nat) (v : Value), w.cell? (((ap.add (i * 12)).add 5).add j) = some v → w13.cell? ((ap.add (i * 12)).add (5 + j)) = some v := fun j v h => by
    have := cellx h x13
    rw [add_add (ap.add (i * 12)) 5 j] at this
    exact this
  rw [Int.toNat_natCast]
  refine ⟨⟨by omega, hlt⟩, _, cellx hv.kind x13, _, cellx hv.n x13, _, cellx hv.m x13, _, _, _, cellx hv.dat x13, _, _, _, cellx hv.kn x13, _, cellx hv.arr.kind x13, _, ca 1 _ hv.arr.d, _, ca 2 _ hv.arr.n, _, ca 3 _ hv.arr.m, _, ca 4 _ hv.arr.y, _, _, _, ca 5 _ hv.arr.b, _, _, _, ca 6 _ hv.arr.keep, fun k61 w62 hk => ?_⟩
  have hk0 : w13.heap.size ≤ k61 := by rw [hk.size.1]; exact Nat.le_refl _
  have e0 : (at0 k61) = (at0 k61).add 0 := (add_at0 k61 0).symm
  have r62 : RowW w62 k61 #[.int .i64 0, .int .i64 0, .int .i64 0, .slice none 0 0, .slice none 0 0, .int .i64 0, .int .i64 0, .int .i64 0, .int .i64 0, .int .u8 0, .slice none 0 0, .slice none 0 0] := ⟨_, hk.at⟩
  refine ⟨by rw [e0]; exact r62.live (show 0 < 12 by omega), fun w63 s63 => ?_⟩
  rw [e0] at s63
  have r63 : RowW w63 k61 #[.int .i64 cl.kind, .int .i64 0, .int .i64 0, .slice none 0 0, .slice none 0 0, .int .i64 0, .int .i64 0, .int .i64 0, .int .i64 0, .int .u8 0, .slice none 0 0, .slice none 0 0] := s63.row r62
  refine ⟨r63.live (show 1 < 12 by omega), fun w64 s64 => ?_⟩
  have r64 : RowW w64 k61 #[.int .i64 cl.kind, .int .i64 cl.n, .int .i64 0, .slice none 0 0, .slice none 0 0, .int .i64 0, .int .i64 0, .int .i64 0, .int .i64 0, .int .u8 0, .slice none 0 0, .slice none 0 0] := s64.row r63
  refine ⟨r64.live (show 2 < 12 by omega), fun w65 s65 => ?_⟩
  have r65 : RowW w65 k61 #[.int .i64 cl.kind, .int .i64 cl.n, .int .i64 cl.m, .slice none 0 0, .slice none 0 0, .int .i64 0, .int .i64 0, .int .i64 0, .int .i64 0, .int .u8 0, .slice none 0 0, .slice none 0 0] := s65.row r64
  refine ⟨r65.live (show 3 < 12 by omega), fun w66 s66 => ?_⟩
  have r66 : RowW w66 k61 #[.int .i64 cl.kind, .int .i64 cl.n, .int .i64 cl.m, .slice p3 l3 c3, .slice none 0 0, .int .i64 0, .int .i64 0, .int .i64 0, .int .i64 0, .int .u8 0, .slice none 0 0, .slice none 0 0] := s66.row r65
  refine ⟨r66.live (show 4 < 12 by omega), fun w67 s67 => ?_⟩
  have r67 : RowW w67 k61 #[.int .i64 cl.kind, .int .i64 cl.n, .int .i64 cl.m, .slice p3 l3 c3, .slice p4 l4 c4, .int .i64 0, .int .i64 0, .int .i64 0, .int .i64 0, .int .u8 0, .slice none 0 0, .slice none 0 0] := s67.row r66
  refine ⟨r67.live (show 5 < 12 by omega), fun w68 s68 => ?_⟩
  have r68 : RowW w68 k61 #[.int .i64 cl.kind, .int .i64 cl.n, .int .i64 cl.m, .slice p3 l3 c3, .slice p4 l4 c4, .int .i64 cl.arr.kind, .int .i64 0, .int .i64 0, .int .i64 0, .int .u8 0, .slice none 0 0, .slice none 0 0] := s68.row r67
  refine ⟨r68.live (show 6 < 12 by omega), fun w69 s69 => ?_⟩
  have r69 : RowW w69 k61 #[.int .i64 cl.kind, .int .i64 cl.n, .int .i64 cl.m, .slice p3 l3 c3, .slice p4 l4 c4, .int .i64 cl.arr.kind, .int .i64 cl.arr.d, .int .i64 0, .int .i64 0, .int .u8 0, .slice none 0 0, .slice none 0 0] := s69.row r68
  refine ⟨r69.live (show 7 < 12 by omega), fun w70 s70 => ?_⟩
  have r70 : RowW w70 k61 #[.int .i64 cl.kind, .int .i64 cl.n, .int .i64 cl.m, .slice p3 l3 c3, .slice p4 l4 c4, .int .i64 cl.arr.kind, .int .i64 cl.arr.d, .int .i64 cl.arr.n, .int .i64 0, .int .u8 0, .slice none 0 0, .slice none 0 0] := s70.row r69
  refine ⟨r70.live (show 8 < 12 by omega), fun w71 s71 => ?_⟩
  have r71 : RowW w71 k61 #[.int .i64 cl.kind, .int .i64 cl.n, .int .i64 cl.m, .slice p3 l3 c3, .slice p4 l4 c4, .int .i64 cl.arr.kind, .int .i64 cl.arr.d, .int .i64 cl.arr.n, .int .i64 cl.arr.m, .int .u8 0, .slice none 0 0, .slice none 0 0] := s71.row r70
  refine ⟨r71.live (show 9 < 12 by omega), fun w72 s72 => ?_⟩
  have r72 : RowW w72 k61 #[.int .i64 cl.kind, .int .i64 cl.n, .int .i64 cl.m, .slice p3 l3 c3, .slice p4 l4 c4, .int .i64 cl.arr.kind, .int .i64 cl.arr.d, .int .i64 cl.arr.n, .int .i64 cl.arr.m, .int .u8 (cl.arr.y.toNat : Int), .slice none 0 0, .slice none 0 0] := s72.row r71
  refine ⟨r72.live (show 10 < 12 by omega), fun w73 s73 => ?_⟩
  have r73 : RowW w73 k61 #[.int .i64 cl.kind, .int .i64 cl.n, .int .i64 cl.m, .slice p3 l3 c3, .slice p4 l4 c4, .int .i64 cl.arr.kind, .int .i64 cl.arr.d, .int .i64 cl.arr.n, .int .i64 cl.arr.m, .int .u8 (cl.arr.y.toNat : Int), .slice p5 l5 c5, .slice none 0 0] := s73.row r72
  refine ⟨r73.live (show 11 < 12 by omega), fun w74 s74 => ?_⟩
  have r74 : RowW w74 k61 #[.int .i64 cl.kind, .int .i64 cl.n, .int .i64 cl.m, .slice p3 l3 c3, .slice p4 l4 c4, .int .i64 cl.arr.kind, .int .i64 cl.arr.d, .int .i64 cl.arr.n, .int .i64 cl.arr.m, .int .u8 (cl.arr.y.toNat : Int), .slice p5 l5 c5, .slice p6 l6 c6] := s74.row r73
  have x74 : Ext w13 w74 := setc_new (setc_new (setc_new (setc_new (setc_new (setc_new (setc_new (setc_new (setc_new (setc_new (setc_new (setc_new hk.ext hk0 s63) hk0 s64) hk0 s65) hk0 s66) hk0 s67) hk0 s68) hk0 s69) hk0 s70) hk0 s71) hk0 s72) hk0 s73) hk0 s74
  have q74 : RowW w74 k61 #[.int .i64 cl.kind, .int .i64 cl.n, .int .i64 cl.m, .slice p3 l3 c3, .slice p4 l4 c4, .int .i64 cl.arr.kind, .int .i64 cl.arr.d, .int .i64 cl.arr.n, .int .i64 cl.arr.m, .int .u8 (cl.arr.y.toNat : Int), .slice p5 l5 c5, .slice p6 l6 c6] := r74
  clear r62 r63 r64 r65 r66 r67 r68 r69 r70 r71 r72 r73 r74
  refine ⟨_, by rw [e0]; exact q74.row.cell rfl, _, q74.row.cell rfl, _, q74.row.cell rfl, _, _, _, q74.row.cell rfl, _, _, _, q74.row.cell rfl, _, q74.row.cell rfl, _, q74.row.cell rfl, _, q74.row.cell rfl, _, q74.row.cell rfl, _, q74.row.cell rfl, _, _, _, q74.row.cell rfl, _, _, _, q74.row.cell rfl, ?_⟩
  refine (smallV_spec _ _ _ p3 l3 c3 p4 l4 c4 _ _ _ _ _ p5 l5 c5 p6 l6 c6 w74).mono ?_
  rintro e w87 ⟨rfl, x87⟩
  have y87 := (x13.trans x74).trans x87
  have q87 : RowW w87 k61 _ := x87.rowW q74 id
  have h87 : IsA w87 a s F' := IsArr.ext (IsArr.ext h13 x74) x87
  have hwr : IntKind.i64.wrap ((i : Int) + 1) = ((i + 1 : Nat) : Int) := by rw [Go.Vc.w64 (by omega)]; omega
  have mu : 30 - (((i + 1 : Nat) : Int)).toNat < 30 - ((i : Int)).toNat := by omega
  rw [hwr]
  refine ⟨_, rfl, condB_of (fun _ => ⟨⟨i + 1, a, s, F', rfl, rfl, by omega, y87, hF', h87, ho13, hlen⟩, mu⟩) fun hsm => ⟨_, q87.row.cell rfl, condB_of (fun _ => ?_) (fun _ => ?_)⟩⟩
  · simp only [Bool.not_eq_false', decide_eq_true_eq] at hsm
    refine ⟨_, q87.row.cell rfl, _, q87.row.cell rfl, _, _, _, q87.row.cell rfl, ?_⟩
    refine (vwrite_spec h87 ho13 cl.n cl.m (hv.bytes.ext y87) (by omega)).mono ?_
    rintro e w94 ⟨F94, rfl, st94, h94⟩
    obtain ⟨y94, hF94⟩ := ext_stepA y87 st94 hF'
    have hp := putM_ok (to := fun _ => true) (n := cl.n) (e := cl.m) (d := cl.data) ho13
    exact ⟨_, _, rfl, ⟨i + 1, a, _, F94, rfl, rfl, by omega, y94, hF94, h94, hp.1, by rw [hp.2]; exact hlen⟩, mu⟩
  · refine ⟨_, q87.row.cell rfl, _, by rw [add_add]; exact q87.row.cell rfl, _, by rw [add_add]; exact q87.row.cell rfl, _, by rw [add_add]; exact q87.row.cell rfl, _, by rw [add_add]; exact q87.row.cell rfl, _, _, _, by rw [add_add]; exact q87.row.cell rfl, _, _, _, by rw [add_add]; exact q87.row.cell rfl, fun k105 w106 hk105 => ?_⟩
    have r106 : RowW w106 k105 _ := ⟨_, hk105.at⟩
    have y106 := y87.trans hk105.ext
    have h106 : IsA w106 a s F' := IsArr.ext h87 hk105.ext
    have lt87 := IsArr.lt (show IsArr w87 a s.M s.left s.down F' from h87)
    have hL1 : CallsA2 w106 w (some (at0 k105)) 1 [cl.arr] := by
      refine ⟨rfl, fun j c hj => ?_⟩
      have hj0 : j = 0 := by
        have := (List.getElem?_eq_some_iff.1 hj).1
        simp at this; exact this
      subst hj0
      simp only [List.getElem?_cons_zero, Option.some.injEq] at hj
      subst hj
      have c0 : ∀ (j : Nat) (v : Value), w106.cell? ((at0 k105).add j) = some v → w106.cell? (((at0 k105).add (0 * 7)).add j) = some v := fun j v h => by
        rw [add_add, Nat.zero_mul, Nat.zero_add]; exact h
      exact ⟨at0 k105, p5, l5, c5, p6, l6, c6, rfl, r106.row.cell rfl, c0 1 _ (r106.row.cell rfl), c0 2 _ (r106.row.cell rfl), c0 3 _ (r106.row.cell rfl), c0 4 _ (r106.row.cell rfl), c0 5 _ (r106.row.cell rfl), hv.arr.bytes, c0 6 _ (r106.row.cell rfl), hv.arr.ints, hv.arr.nr, hv.arr.mr⟩
    refine (doneA_spec (w0 := w) h106 ho13 y106 hF' hL1 (fun ap hap _ hf => by
      cases hap
      have h := lt87 k105 hf
      have := hk105.size.1
      omega)).mono ?_
    rintro e w107 ⟨rfl, F107, st107, h107, ho107⟩
    obtain ⟨y107, hF107⟩ := ext_stepA y106 st107 hF'
    exact ⟨rfl, ⟨i + 1, a, _, F107, rfl, rfl, by omega, y107, hF107, h107, ho107, by rw [doneA_len]; exact hlen⟩, mu⟩
set_option maxRecDepth 100000 in
theorem voteGreatest_lifted (os : Os) (started : os.Started) (H : Type) (enc : TypeId × Value → H) :
    ReturnsInHanded {} Try.checked os 4 .any (Rows.voteGreatestSpec.pre6 enc Try.prog Try.f4 Rows.voteGreatestRow.domain false) (Rows.voteGreatestSpec.post enc Try.prog Try.f4 false true false false) := by
  refine returnsInHanded_of_change (C := Try.checked) lawOwn started (by kernel_rfl) Try.func4
    (ChangeSpec.witness6 (enc := enc) (C := Try.checked) false ⟨#[], #[.int .i64 0, .slice none 0 0, .int .i64 0], []⟩ 8 (by kernel_rfl) (by kernel_rfl) (by kernel_rfl) (by kernel_rfl)) ?_
  intro W base args ds gs before hval0 hW hcnd _
  have hval : ∀ (j : Nat) t v, Try.f4.params[j]? = some t → args[j]? = some v → Value.okWide Try.prog W .any base t v := hval0
  have hW' := hW
  obtain ⟨p, q, hA0, hV, rfl, hfz, hnd⟩ := hW
  have hA : DataW.TrodAll enc Try.prog W 0 (fun _ => true) true Try.f4.params.toList args.toList ds p := hA0
  rw [Try.params4] at hA hval
  obtain ⟨v0, vs0, d0, ds0, p0, q0, hargs, rfl, rfl, h0, r0⟩ := trodAll_cons hA
  obtain ⟨v1, vs1, d1, ds1, p1, q1, rfl, rfl, rfl, h1, r1⟩ := trodAll_cons r0
  obtain ⟨v2, vs2, d2, ds2, p2, q2, rfl, rfl, rfl, h2, r2⟩ := trodAll_cons r1
  obtain ⟨rfl, rfl, rfl⟩ := trodAll_nil r2
  obtain rfl : args = #[v0, v1, v2] := by cases args; simp_all
  obtain ⟨rfl, rfl⟩ := trodVars_none hV
  obtain ⟨n0, rfl, rfl, rfl, wn0⟩ := open_int Try.underlying3 (hval 0 3 v0 rfl rfl) h0
  obtain ⟨a1, l1, c1, L1, rfl, hL1⟩ := open_scriptV (okWide_slice Try.underlying33 (hval 1 33 v1 rfl rfl)) h1
  obtain ⟨n2, rfl, rfl, rfl, wn2⟩ := open_int Try.underlying3 (hval 2 3 v2 rfl rfl) h2
  refine (voteGreatest_walk n0 hL1 n2).mono fun e W' ⟨he, hg⟩ => ?_
  subst he
  exact ⟨_, rfl, post_true lawLaid rfl (by kernel_rfl) rfl Try.underlying4 hW' rfl hg.below⟩

/-- ████ THE STATEMENT ████ -/
theorem voteGreatest_holds : Rows.VoteGreatestSaid :=
  OpenClaim.holds_of_wide 4 Try.f4 rfl rfl rfl rfl rfl rfl rfl ⟨rfl, rfl, rfl, rfl, rfl⟩ rfl rfl rfl rfl rfl (by kernel_rfl) Try.func4 (by kernel_rfl)
    (of_decide_eq_true (by kernel_rfl)) (by unfold Func.isWrapper; first | (rw [if_pos (by decide +kernel)]; kernel_rfl) | (rw [if_neg (by decide +kernel)]; exact ⟨rfl, rfl⟩))
    (fun os started H enc _ => voteGreatest_lifted os started H enc)
end Go.Proofs.Ytphkmbkmjhbenaa
