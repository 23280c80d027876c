/- The key equation is solved: the loop. -/
import Derived.Test.YtpmkjpgoekjcfaaH8
namespace Go.Proofs.Ytpmkjpgoekjcfaa
open Go Go.Vc Go.Gf

theorem rep_set (m : Nat) : (List.replicate (m + 1) (0 : UInt8)).set m 1 = List.replicate m 0 ++ [1] := by
  induction m with
  | zero => rfl
  | succ m ih => rw [List.replicate_succ, List.set_cons_succ, ih, List.replicate_succ, List.cons_append]
set_option maxHeartbeats 4000000 in
theorem solve_main {w0 W : World} {kl kr m kh k4 lg e : Nat} {f ph p : Option Addr} {nh ch l c : Nat} {P P' hi : List UInt8} (hf : FieldAt w0 f) (hpre : SolPre w0 W k4 f p l c P') (hP : co P' = co P) (hm : m ≤ 256) (hl : l ≤ 1024) (hlg : lg = e + 1) (he : e ≤ m)
    (hcl : HasCell w0 W kl) (hch : HasCell w0 W kh) (hne : kl ≠ kh) (hr : HasRow w0 W m p kr) (hh : HasHigh w0 W m P' ph nh ch hi) (hah : Away ph kr) :
    F31_A10 W kl kr m kh ph nh ch k4 lg p l c (solR w0 m e P) (solI w0 f m e P) solM := by
  have eT : trunc m P' = trunc m P := by unfold trunc; rw [hP]
  have e1 : IntKind.i64.wrap (((m : Nat) : Int) + (1 : Int)) = (m : Int) + 1 := w64 (by omega)
  have e2 : ((m : Int) + 1).toNat = m + 1 := by omega
  have e3 : IntKind.i64.wrap (((lg : Nat) : Int) - (1 : Int)) = (e : Int) := by rw [w64 (by omega)]; omega
  unfold F31_A10
  rw [e1, e2, e3]
  obtain ⟨oh, nhi, ehi⟩ := hh
  have sub1 : ∀ {w w' : World} {k : Nat}, Ext w0 w → w0.heap.size ≤ k → Upd (fun x => x = k) w w' → Ext w0 w' := fun hx hk hu => OwnB.new_ext hx hu fun x hx => by rw [show x = _ from hx]; exact hk
  refine ⟨hcl.2.live, fun w1 s1 => ?_⟩
  have u1 := setK_upd s1
  have rl1 := hcl.2.set s1
  have x1 := sub1 hpre.ext hcl.1 u1
  have rh1 : RowK w1 kh 22 #[.slice none 0 0] := u1.keep hch.2 hne.symm
  refine ⟨rh1.live, fun w2 s2 => ?_⟩
  have u2 := setK_upd s2
  have rh2 := rh1.set s2
  have x2 := sub1 x1 hch.1 u2
  have rl2 : RowK w2 kl 22 #[.slice (some (at0 kr)) (m + 1) (m + 1)] := u2.keep rl1 hne
  have two : ∀ {base : Nat} {p : Option Addr} {n c : Nat} {bs : List UInt8}, OwnB W base p n c bs → OwnB w2 base p n c bs := fun o => OwnB.apart (OwnB.apart o u1 hcl.2 ty_ne.2.1) u2 rh1 ty_ne.2.1
  have rf2 : RowK w2 k4 25 #[.pointer f] := u2.keep (u1.keep hpre.rf (RowK.ne hpre.rf hcl.2 ty_ne.1)) (RowK.ne hpre.rf hch.2 ty_ne.1)
  obtain ⟨kr', hkr, hbr, lvr, _, setr⟩ := OwnB.at (two hr.1) (i := m) (by omega)
  simp only [Option.some.injEq, at0, Addr.mk.injEq, and_true] at hkr
  subst hkr
  refine ⟨_, _, _, rl2.cell, ⟨by omega, by omega⟩, ?_⟩
  show Live w2 ((at0 kr).add ((m : Int).toNat * 1)) ∧ _
  rw [Int.toNat_natCast, Nat.mul_one]
  refine ⟨lvr, fun w3 s3 => ?_⟩
  obtain ⟨or3, u3⟩ := setr 1 w3 s3
  rw [rep_set] at or3
  have x3 := sub1 x2 hbr u3
  have tyr : ∃ cs, RowK w2 kr 5 cs := by
    rcases (two hr.1).where_ with ⟨h0, _⟩ | ⟨g, h0, _, _, _, cur, hc, _⟩
    · cases h0
    · simp only [Option.some.injEq, at0, Addr.mk.injEq, and_true] at h0
      subst h0
      exact ⟨cur, hc⟩
  obtain ⟨csr, tyr⟩ := tyr
  have rl3 : RowK w3 kl 22 #[.slice (some (at0 kr)) (m + 1) (m + 1)] := u3.keep rl2 (RowK.ne rl2 tyr ty_ne.2.1)
  have rh3 : RowK w3 kh 22 #[.slice ph nh ch] := u3.keep rh2 (RowK.ne rh2 tyr ty_ne.2.1)
  have rf3 : RowK w3 k4 25 #[.pointer f] := u3.keep rf2 (RowK.ne rf2 tyr ty_ne.2.2)
  have keepB : ∀ {p : Option Addr} {n c : Nat} {bs : List UInt8}, OwnB w2 w0.heap.size p n c bs → Away p kr → OwnB w3 w0.heap.size p n c bs := fun o ha => OwnB.setk o u3 ha
  have oh3 := keepB (two oh) hah
  have op3 := keepB (two hpre.own) hr.2
  intro ka0 w4 hk4' 
  have ob4 := row_bytes (bs := [1]) hk4' (by unfold maxLen; simp)
  intro ka w5 hka kb w6 hkb
  have x46 : Ext w4 w6 := hka.ext.trans hkb.ext
  have x36 : Ext w3 w6 := hk4'.ext.trans x46
  have ra6 : RowK w6 ka 22 #[.slice none 0 0] := hkb.ext.keep hka.at
  refine ⟨RowK.live ra6, fun w7 s7 => ?_⟩
  have u7 := setK_upd s7
  have ra7 := ra6.set s7
  have nab : kb ≠ ka := by rw [hkb.size.1]; have := hka.size; omega
  have rb7 : RowK w7 kb 22 #[.slice none 0 0] := u7.keep hkb.at nab
  refine ⟨rb7.live, fun w8 s8 => ?_⟩
  have u8 := setK_upd s8
  have rb8 := rb7.set s8
  have ra8 : RowK w8 ka 22 #[.slice none 0 0] := u8.keep ra7 nab.symm
  have sz3 : w0.heap.size ≤ w3.heap.size := x3.size
  have na : w0.heap.size ≤ ka := by rw [hka.size.1]; have := hk4'.size; omega
  have nb : w0.heap.size ≤ kb := by rw [hkb.size.1]; have := hka.size; omega
  have x8 : Ext w0 w8 := sub1 (sub1 (x3.trans x36) na u7) nb u8
  have lt3 : ∀ {k : Nat} {e : TypeId} {cs : Array Value}, RowK w3 k e cs → k < w3.heap.size := fun h => lt_of_heap h
  have gka : w3.heap.size ≤ ka := by rw [hka.size.1]; have := hk4'.size; omega
  have gkb : w3.heap.size ≤ kb := by rw [hkb.size.1]; have := hka.size; omega
  have rk8 : ∀ {k : Nat} {e : TypeId} {cs : Array Value}, RowK w3 k e cs → RowK w8 k e cs := fun h => u8.keep (u7.keep (x36.keep h) (by have := lt3 h; omega)) (by have := lt3 h; omega)
  have ok8 : ∀ {base : Nat} {p : Option Addr} {n c : Nat} {bs : List UInt8}, OwnB w6 base p n c bs → OwnB w8 base p n c bs := fun o => OwnB.apart (OwnB.apart o u7 ra6 ty_ne.2.1) u8 rb7 ty_ne.2.1
  have hst : SolSt w0 w8 k4 kl kh kb ka f (List.replicate m 0 ++ [1]) hi [] [1] := ⟨x8, hpre.n4, hcl.1, hch.1, nb, na, hne, by have := lt3 rl3; omega, by have := lt3 rl3; omega, by have := lt3 rh3; omega, by have := lt3 rh3; omega, nab,
    rk8 rf3, ⟨_, _, _, rk8 rl3, ok8 (OwnB.ext or3 x36)⟩, ⟨_, _, _, rk8 rh3, ok8 (OwnB.ext oh3 x36)⟩, ⟨_, _, _, rb8, ok8 (OwnB.base_le (OwnB.ext ob4 x46) sz3)⟩, ⟨_, _, _, ra8, OwnS.nil _ _ _ _⟩⟩
  have hI0 : SolveInv m (trunc m P) (List.replicate m 0 ++ [1]) hi [] [1] := SolveInv.init (fun i hi => if_neg (by omega)) nhi (by rw [ehi, eT])
  refine ⟨⟨k4, kl, kh, kb, ka, _, _, _, _, P', rfl, rfl, rfl, rfl, rfl, rfl, rfl, rfl, hst, hI0, fun t L pts _ => by simp, ok8 (OwnB.ext op3 x36), hP⟩, ?_⟩
  rintro w9 ⟨k4', kl', kh', kb', ka', low, high, a, b, P2, q1, q2, q3, q4, q5, q6, q7, q8, st, hI, hG, op, eP2⟩
  simp only [Option.some.injEq, at0, Addr.mk.injEq, and_true] at q1 q2 q3 q5 q8
  subst q1 q2 q3 q5 q8
  intros
  have hdeg := hI.deg
  have hlt := hI.lt
  obtain ⟨pb, nb', cb', rb9, ob9⟩ := st.cb
  obtain ⟨ph9, nh9, ch9, rh9, oh9⟩ := st.ch
  have lb := OwnB.len ob9
  have lh := OwnB.len oh9
  have bpos : 0 < b.length := List.length_pos_iff.2 hI.b0
  have f1 : IntKind.i64.wrap (((nb' : Nat) : Int) - (1 : Int)) = (b.length : Int) - 1 := by rw [w64 (by omega)]; omega
  have f2 : IntKind.i64.wrap ((2 : Int) * ((b.length : Int) - 1)) = 2 * ((b.length : Int) - 1) := w64 (by omega)
  have f3 : IntKind.i64.wrap (2 * ((b.length : Int) - 1) + (e : Int)) = 2 * ((b.length : Int) - 1) + (e : Int) := w64 (by omega)
  have f4 : IntKind.i64.wrap ((e : Int) + ((b.length : Int) - 1)) = (e : Int) + ((b.length : Int) - 1) := w64 (by omega)
  refine ⟨_, _, _, rb9.cell, ?_⟩
  rw [f1, f2, f3, f4]
  refine condB_of (fun hs => ?_) (fun hs => ?_)
  · simp only [decide_eq_true_eq] at hs
    refine ⟨st.ext, .inl ⟨rfl, fun t L pts hg => ?_⟩⟩
    have h1 := hG t L pts hg
    have h2 := hg.few
    omega
  simp only [decide_eq_false_iff_not] at hs
  refine ⟨_, _, _, rh9.cell, condB_of (fun hs2 => ?_) (fun hs2 => ?_)⟩
  · simp only [decide_eq_true_eq] at hs2
    have hstop : high.length ≤ e + (b.length - 1) := by omega
    intro w20 hd
    have st20 := st.mono hd.ext
    have rb20 : RowK w20 kb 22 #[.slice pb nb' cb'] := hd.ext.keep rb9
    have ob20 := OwnB.ext ob9 hd.ext
    have op20 := OwnB.ext op hd.ext
    obtain ⟨ab, hab, hlead⟩ := BytesAt.co (OwnB.bytes ob20) (i := b.length - 1) (by omega)
    subst hab
    have f5 : ((b.length : Int) - 1).toNat = b.length - 1 := by omega
    refine ⟨_, st20.rf.cell, _, _, _, rb20.cell, _, _, _, rb20.cell, ?_⟩
    rw [f1, f5, Nat.mul_one]
    refine ⟨⟨by omega, by omega⟩, _, hlead, ?_⟩
    refine (finv_spec (hf.ext st20.ext) _).mono ?_
    rintro e21 w21 ⟨rfl, hx21⟩
    have st21 := st20.mono hx21
    have rb21 : RowK w21 kb 22 #[.slice (some ab) nb' cb'] := hx21.keep rb20
    refine ⟨_, _, rfl, _, st21.rf.cell, _, _, _, rb21.cell, fun kx w22 hkx => ?_⟩
    have st22 := st21.mono hkx.ext
    have ox := row_bytes (bs := [gi (co b (b.length - 1))]) hkx (by unfold maxLen; simp)
    refine (pmul_spec (hf.ext st22.ext) (OwnB.bytes (OwnB.ext (OwnB.ext ob20 hx21) hkx.ext)) (by omega) (OwnB.bytes ox) (by simp)).mono ?_
    rintro e23 w23 ⟨p23, n23, c23, b2, rfl, hx23, ob2, nb2, eb2⟩
    have st23 := st22.mono hx23
    have rb23 : RowK w23 kb 22 #[.slice (some ab) nb' cb'] := hx23.keep (hkx.ext.keep rb21)
    refine ⟨_, _, _, rfl, RowK.live rb23, fun w24 s24 => ?_⟩
    have u24 := setK_upd s24
    have rb24 := rb23.set s24
    have x24 : Ext w0 w24 := sub1 st23.ext st.nb u24
    have rf24 : RowK w24 k4 25 #[.pointer f] := u24.keep st23.rf (RowK.ne st23.rf rb23 ty_ne.1)
    have k24 : ∀ {base : Nat} {p : Option Addr} {n c : Nat} {bs : List UInt8}, OwnB w23 base p n c bs → OwnB w24 base p n c bs := fun o => OwnB.apart o u24 rb23 ty_ne.2.1
    have ob24 := k24 ob2
    have op24 := k24 (OwnB.ext (OwnB.ext (OwnB.ext op20 hx21) hkx.ext) hx23)
    have hb2 : co b2 = sm (gi (co b (b.length - 1))) (co b) := by
      rw [eb2]
      show sa (sm _ (co b)) (sh1 sz) = _
      rw [sh1_sz, sa_sz]
    have hlead0 : co b (b.length - 1) ≠ 0 := hI.nb hI.b0
    have ginz := gi_ne hlead0
    have hb2l : b2.length = b.length := by
      have h1 : b2.length ≤ b.length := nb2.le (by rw [hb2]; exact (deg_co b).sm _)
      have h2 : b.length - 1 < b2.length := Normal.pos (by rw [hb2]; exact gm_ne ginz hlead0)
      omega
    have l2 := OwnB.len ob24
    have lp := OwnB.len op24
    refine ⟨_, rf24.cell, _, _, _, rb24.cell, ?_⟩
    refine (pmul_spec (hf.ext x24) (OwnB.bytes ob24) (by omega) (OwnB.bytes op24) (by omega)).mono ?_
    rintro e25 w25 ⟨p25, n25, c25, all, rfl, hx25, oall, nall, eall⟩
    refine ⟨_, _, _, rfl, fun w26 hd26 => ?_⟩
    have rb26 : RowK w26 kb 22 #[.slice p23 n23 c23] := hd26.ext.keep (hx25.keep rb24)
    have oall26 := OwnB.ext oall hd26.ext
    have la := OwnB.len oall26
    have lac := OwnB.le oall26
    have hall : all.length ≤ 4096 := nall.le (by rw [eall]; exact act_deg (deg_co b2) (by omega))
    have e1' : (if ((m : Nat) : Int) < ((n25 : Nat) : Int) then ((m : Nat) : Int) else ((n25 : Nat) : Int)) = ((min m n25 : Nat) : Int) := by split <;> omega
    refine ⟨_, _, _, rb26.cell, ?_⟩
    rw [e1', Int.toNat_natCast]
    refine ⟨⟨by omega, by omega⟩, ?_⟩
    refine (pnorm_spec (dropB (OwnB.bytes oall26) (a := min m n25) (by omega) lac) (by omega) (by omega)).mono ?_
    rintro e27 w27 ⟨p27, n27, c27, o, rfl, hx27, oo, no, eo⟩
    have rb27 : RowK w27 kb 22 #[.slice p23 n23 c23] := hx27.keep rb26
    have x26 := (x24.trans hx25).trans hd26.ext
    refine ⟨_, _, _, rfl, ⟨_, _, _, rb27.cell, rfl⟩, x26.trans hx27, .inr ⟨p23, n23, c23, b2, p27, n27, c27, o, rfl, ?_, OwnB.base_le oo x26.size, no.le fun i hi => by rw [eo, co_drop]; exact co_out (by omega), ?_⟩⟩
    · exact OwnB.base_le (OwnB.ext (OwnB.ext (OwnB.ext ob24 hx25) hd26.ext) hx27) st22.ext.size
    · refine ⟨nb2, by rintro rfl; simp at hb2l; omega, ?_, by omega, fun i => ?_, fun t L pts hg => ?_⟩
      · rw [hb2l, hb2]
        exact gi_gm hlead0
      · rw [eo, co_drop, ← eP2, act_co b2, ← eall]
        by_cases h1 : m ≤ n25
        · rw [Nat.min_eq_left h1]
        · rw [co_out (p := all) (i := min m n25 + i) (by omega), co_out (p := all) (i := m + i) (by omega)]
      · obtain ⟨h1, h2⟩ := good_stop hg hI (hG t L pts hg) hstop
        refine ⟨by omega, fun x hx => ?_⟩
        have : co b2 = co (smL (gi (co b (b.length - 1))) b) := by rw [hb2, co_smL]
        rw [ev_congr this, ev_smL, h2 x hx, gm_zero]
  · simp only [decide_eq_false_iff_not] at hs2
    have h0 : high ≠ [] := by rintro rfl; simp at lh; omega
    refine (sstep_spec hf st hI h0 hm).mono ?_
    rintro e10 w10 ⟨rfl, up, r, b', st', hI', hl'⟩
    refine ⟨rfl, ⟨k4, kl, kh, kb, ka, _, _, _, _, P2, rfl, rfl, rfl, rfl, rfl, rfl, rfl, rfl, st', hI', fun t L pts hg => ?_, ?_, eP2⟩, ?_⟩
    · exact good_step hg hI (hG t L pts hg) (by omega) hl'
    · refine OwnB.other op up fun x hx => ?_
      obtain ⟨_, _, _, r1, _⟩ := st.cl
      obtain ⟨_, _, _, r2, _⟩ := st.ca
      rcases hx with rfl | rfl | rfl | rfl
      · exact ⟨_, _, _, r1, ty_ne.2.1⟩
      · exact ⟨_, _, _, rh9, ty_ne.2.1⟩
      · exact ⟨_, _, _, rb9, ty_ne.2.1⟩
      · exact ⟨_, _, _, r2, ty_ne.2.1⟩
    · show lenAt w10 (some (at0 kh)) < lenAt w9 (some (at0 kh))
      rw [st'.ch.lenAt, st.ch.lenAt]
      exact hI'.lt
end Go.Proofs.Ytpmkjpgoekjcfaa
