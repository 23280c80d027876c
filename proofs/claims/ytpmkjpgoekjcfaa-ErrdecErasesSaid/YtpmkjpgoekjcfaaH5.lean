/- Quotients of polynomials; locators. -/
import Derived.Test.YtpmkjpgoekjcfaaH4
namespace Go.Proofs.Ytpmkjpgoekjcfaa
open Go Go.Vc Go.Gf

/-- a slice that lies apart from a block -/
def Away (p : Option Addr) (k : Nat) : Prop := ∀ a, p = some a → a.block ≠ k
theorem OwnB.away {w w0 : World} {p : Option Addr} {n c k : Nat} {bs : List UInt8} (h : OwnB w w0.heap.size p n c bs) (hk : k < w0.heap.size) : Away p k := by
  intro a ha he
  rcases h.where_ with ⟨h0, _⟩ | ⟨g, h0, hb, _⟩
  · rw [h0] at ha; cases ha
  · rw [h0] at ha
    cases ha
    have : g = k := he
    omega
theorem OwnB.away2 {w : World} {base : Nat} {p : Option Addr} {n c k : Nat} {bs : List UInt8} (h : OwnB w base p n c bs) (hk : w.heap.size ≤ k) : Away p k := by
  intro a ha he
  rcases h.where_ with ⟨h0, _⟩ | ⟨g, h0, _, hl, _⟩
  · rw [h0] at ha; cases ha
  · rw [h0] at ha
    cases ha
    have : g = k := he
    omega
theorem OwnB.setk {w w' : World} {base : Nat} {p : Option Addr} {n c k : Nat} {bs : List UInt8} (h : OwnB w base p n c bs) (hu : Upd (fun x => x = k) w w') (ha : Away p k) : OwnB w' base p n c bs :=
  OwnS.upd h hu fun _ hg he => ha _ hg he

theorem OwnS.lt_heap {w : World} {base : Nat} {e : TypeId} {sz : Nat} {k n c : Nat} {xs : List Value} (h : OwnS w base e sz (some (at0 k)) n c xs) : k < w.heap.size := by
  rcases h.where_ with ⟨h0, _⟩ | ⟨g, h0, _, hl, _⟩
  · cases h0
  · simp only [Option.some.injEq, at0, Addr.mk.injEq, and_true] at h0
    omega
/-- one step of a division -/
theorem div_step {p q l z by_ : List UInt8} {c : UInt8} {t : Nat} (h : co p = sa (act by_ (co q)) (co l)) (hz : co z = sa (co l) (sh t (sm c (co by_)))) {q' : List UInt8} (hq : ∀ j, co q' j = if j = t then co q t ^^^ c else co q j) :
    co p = sa (act by_ (co q')) (co z) := by
  have e : co q' = sa (co q) (sh t (sm c so)) := funext fun j => by
    rw [hq]
    simp only [sa, sh, sm]
    by_cases h1 : j = t
    · subst h1
      rw [if_pos rfl, if_neg (by omega), Nat.sub_self]
      show _ = _ ^^^ gm c 1
      rw [gm_one]
    · rw [if_neg h1]
      by_cases h2 : j < t
      · rw [if_pos h2, x0]
      · rw [if_neg h2]
        obtain ⟨m, hm⟩ : ∃ m, j - t = m + 1 := ⟨j - t - 1, by omega⟩
        rw [hm]
        show _ = _ ^^^ gm c 0
        rw [gm_zero, x0]
  rw [h, e, hz, act_sa, act_sh, act_sm, act_so, sa_assoc]
  congr 1
  rw [sa_comm (co l), sa_self_left]
theorem div_less {l z by_ : List UInt8} {t : Nat} (hb : Normal by_) (hz : Normal z) (b0 : by_ ≠ []) (hle : by_.length ≤ l.length) (ht : t = l.length - by_.length)
    (e : co z = sa (co l) (sh t (sm (gm (co l (l.length - 1)) (gi (co by_ (by_.length - 1)))) (co by_)))) : z.length < l.length := by
  have lb : 0 < by_.length := List.length_pos_iff.2 b0
  have h1 : z.length ≤ l.length - 1 := hz.le fun i hi => by
    rw [e]
    simp only [sa, sh, sm]
    by_cases h2 : i = l.length - 1
    · subst h2
      rw [if_neg (by omega), show l.length - 1 - t = by_.length - 1 by omega, gm_assoc, gi_gm (hb b0), gm_one, xx]
    · rw [co_out (p := l) (by omega)]
      by_cases h3 : i < t
      · rw [if_pos h3, xx]
      · rw [if_neg h3, co_out (p := by_) (i := i - t) (by omega), gm_zero, xx]
  omega

set_option maxHeartbeats 2000000 in
theorem pdivide_spec {f p q : Option Addr} {n c m d : Nat} {w : World} {bs cs : List UInt8} (hf : FieldAt w f) (h : BytesAt w p n bs) (hc : n ≤ c) (hn : n ≤ 536870912) (h' : BytesAt w q m cs) (hd : m ≤ d) (hm : m ≤ 536870912) (h0 : co cs ≠ sz) :
    Calls Try.prog 61 #[.pointer f, .slice p n c, .slice q m d] w fun e w' => ∃ p1 n1 c1 r1 p2 n2 c2 r2, e = .returned (.tuple #[.slice p1 n1 c1, .slice p2 n2 c2, .int .i64 0]) ∧ Ext w w' ∧
      OwnB w' w.heap.size p1 n1 c1 r1 ∧ OwnB w' w.heap.size p2 n2 c2 r2 ∧ Normal r1 ∧ Normal r2 ∧ co bs = sa (act cs (co r1)) (co r2) ∧ (∀ by_, Normal by_ → co by_ = co cs → r2.length < by_.length) := by
  refine (F61_calls f p n c q m d w (fun v w' => ∃ p1 n1 c1 r1 p2 n2 c2 r2, v = .tuple #[.slice p1 n1 c1, .slice p2 n2 c2, .int .i64 0] ∧ Ext w w' ∧
      OwnB w' w.heap.size p1 n1 c1 r1 ∧ OwnB w' w.heap.size p2 n2 c2 r2 ∧ Normal r1 ∧ Normal r2 ∧ co bs = sa (act cs (co r1)) (co r2) ∧ (∀ by_, Normal by_ → co by_ = co cs → r2.length < by_.length))
    (fun p9 l9 _ k10 l10 _ _ p18 l18 c18 w19 => ∃ k by_ ql l, k10 = some (at0 k) ∧ Ext w w19 ∧ BytesAt w19 p9 l9 by_ ∧ Away p9 k ∧ Normal by_ ∧ co by_ = co cs ∧ OwnB w19 w.heap.size (some (at0 k)) l10 l10 ql ∧
      OwnB w19 w.heap.size p18 l18 c18 l ∧ Away p18 k ∧ Normal l ∧ l.length ≤ l10 ∧ co bs = sa (act by_ (co ql)) (co l) ∧ (∀ j, j + by_.length ≤ l.length → co ql j = 0))
    (fun _ _ _ _ _ _ _ _ l18 _ _ => l18) ?_).mono (by
    rintro e w' ⟨v, rfl, p1, n1, c1, r1, p2, n2, c2, r2, rfl, h⟩; exact ⟨p1, n1, c1, r1, p2, n2, c2, r2, rfl, h⟩)
  refine (pnorm_spec h hc (by omega)).mono ?_
  rintro e w4 ⟨p6, l6, c6, l, rfl, hx4, ol, nl, col⟩
  refine ⟨_, _, _, rfl, (pnorm_spec (h'.ext hx4) hd (by omega)).mono ?_⟩
  rintro e w7 ⟨p9, l9, c9, by_, rfl, hx7, ob, nb, cob⟩
  have hx : Ext w w7 := hx4.trans hx7
  have ol7 := OwnB.ext ol hx7
  have h0' := h'.1
  have h00 := h.1
  have lb := OwnB.len ob
  have ll := OwnB.len ol7
  have b0 : by_ ≠ [] := by rintro rfl; exact h0 cob.symm
  have bl : 0 < by_.length := List.length_pos_iff.2 b0
  have bm : by_.length ≤ 536870912 := by have := nb.le (n := m) (by rw [cob, h0']; exact deg_co cs); omega
  have lm : l.length ≤ 536870912 := by have := nl.le (n := n) (by rw [col, h00]; exact deg_co bs); omega
  rw [hf.there]
  refine ⟨_, _, _, rfl, condB_of (fun h => by cases h) fun _ => condB_of (fun hz => by simp only [decide_eq_true_eq] at hz; omega) fun _ => ?_⟩
  refine ⟨⟨by omega, by omega, by omega⟩, fun k w11 hk => ?_⟩
  rw [Int.toNat_natCast] at hk ⊢
  have hsz := hx.size
  have o11 : OwnB w11 w.heap.size (some (at0 k)) l6 l6 (List.replicate l6 0) := OwnB.made hk (by rw [hk.size.1]; exact hsz) (by unfold maxLen; omega)
  have qz : ∀ j, co (List.replicate l6 (0 : UInt8)) j = 0 := fun j => by
    simp only [Gf.co, List.getD_eq_getElem?_getD, List.getElem?_replicate]
    split <;> rfl
  refine ⟨⟨k, by_, _, l, rfl, hx.trans hk.ext, (OwnB.bytes ob).ext hk.ext, OwnB.away2 ob (by rw [hk.size.1]; exact Nat.le_refl _), nb, cob, o11, OwnB.ext ol7 hk.ext,
    OwnB.away2 ol7 (by rw [hk.size.1]; exact Nat.le_refl _), nl, by omega, ?_, fun j _ => qz j⟩, ?_⟩
  · have : co (List.replicate l6 (0 : UInt8)) = sz := funext qz
    rw [this, act_sz, sz_sa, col]
  rintro p18 l18 c18 w19 ⟨k', by', ql, l', hk', hx19, bb, ab, nb', cob', oq, ol', al, nl', hl', heq, hqz⟩
  simp only [Option.some.injEq, at0, Addr.mk.injEq, and_true] at hk'
  subst hk'
  obtain rfl : by' = by_ := nb'.eq nb (cob'.trans cob.symm)
  intros
  have ll' := OwnB.len ol'
  have lq := OwnB.len oq
  refine condB_of (fun hs => ?_) (fun hs => ?_)
  · simp only [decide_eq_true_eq] at hs
    intro w62 hdr
    have hx62 : Ext w w62 := hx19.trans hdr.ext
    rw [w64 (n := (l18 : Int) - 1) (by omega), w64 (n := (l9 : Int) - 1) (by omega), w64 (n := (l18 : Int) - (l9 : Int)) (by omega)]
    have e1 : ((l18 : Int) - 1).toNat = l'.length - 1 := by omega
    have e2 : ((l9 : Int) - 1).toNat = by'.length - 1 := by omega
    have e3 : ((l18 : Int) - (l9 : Int)).toNat = l'.length - by'.length := by omega
    obtain ⟨a, rfl, ha⟩ := BytesAt.co (OwnB.bytes (OwnB.ext ol' hdr.ext)) (i := l'.length - 1) (by omega)
    obtain ⟨b, rfl, hb⟩ := BytesAt.co (bb.ext hdr.ext) (i := by'.length - 1) (by omega)
    simp only [e1, e2, e3, Nat.mul_one]
    refine ⟨⟨by omega, by omega⟩, _, ha, ⟨by omega, by omega⟩, _, hb, ?_⟩
    refine (fdiv_spec (hf.ext hx62) _ _).mono ?_
    rintro e w67 ⟨rfl, hx67⟩
    have hx67' := hx62.trans hx67
    obtain ⟨k2, hk2, hbk, hlive, _, hset⟩ := OwnB.at (OwnB.ext (OwnB.ext oq hdr.ext) hx67) (i := l'.length - by'.length) (by omega)
    simp only [Option.some.injEq, at0, Addr.mk.injEq, and_true] at hk2
    subst hk2
    refine ⟨_, _, rfl, ⟨by omega, by omega⟩, hlive, fun w71 hs71 => ?_⟩
    obtain ⟨oq71, hu71⟩ := hset _ _ hs71
    have hx71 : Ext w w71 := OwnB.new_ext hx67' hu71 fun y hy => by omega
    have b71 : BytesAt w71 (some b) l9 by' := ((bb.ext hdr.ext).ext hx67).upd hu71 fun y hy _ => ab y hy
    have l71 : OwnB w71 w.heap.size (some a) l18 c18 l' := OwnB.setk (OwnB.ext (OwnB.ext ol' hdr.ext) hx67) hu71 al
    have hsp := pscaled_spec (c := c9) (t := l'.length - by'.length) (hf.ext hx71) b71 (by omega) (by omega) (gm (co l' (l'.length - 1)) (gi (co by' (by'.length - 1))))
    rw [show (((l'.length - by'.length : Nat)) : Int) = (l18 : Int) - (l9 : Int) by omega] at hsp
    refine hsp.mono ?_
    rintro e w72 ⟨p74, c74, r, rfl, hx72, or72, cor⟩
    refine ⟨_, _, _, rfl, fun k75 w76 hk75 => ?_⟩
    have l72 := OwnB.ext l71 hx72
    have lr := OwnB.len or72
    refine (psum_spec (lists_two hk75 (OwnB.bytes l72) (OwnB.le l72) (OwnB.bytes or72) (OwnB.le or72)) (fun x hx => by
      rcases List.mem_cons.1 hx with rfl | hx
      · omega
      · rw [List.mem_singleton] at hx; subst hx; omega) (by omega)).mono ?_
    rintro e w77 ⟨p79, l79, c79, z, rfl, hx77, oz, nz, coz⟩
    have hx76 : Ext w71 w76 := hx72.trans hk75.ext
    have hx77' : Ext w71 w77 := hx76.trans hx77
    have coz' : co z = sa (co l') (sh (l'.length - by'.length) (sm (gm (co l' (l'.length - 1)) (gi (co by' (by'.length - 1)))) (co by'))) := by
      rw [coz, ← cor]
      show sa (sa sz (co l')) (co r) = _
      rw [sz_sa]
    have hless := div_less nb nz b0 (by omega) rfl coz'
    have hzl := OwnB.len oz
    refine ⟨_, _, _, rfl, ⟨k, by', _, z, rfl, hx71.trans hx77', b71.ext hx77', ab, nb, cob, OwnB.ext oq71 hx77', OwnB.base_le oz (hx71.trans hx76).size, OwnB.away oz ?_, nz, by omega, ?_, fun j hj => ?_⟩, ?_⟩
    · exact Nat.lt_of_lt_of_le (OwnS.lt_heap oq71) hx76.size
    · refine div_step (t := l'.length - by'.length) heq coz' fun j => ?_
      rw [co_set (by omega)]
      by_cases hj : j = l'.length - by'.length
      · rw [if_pos hj, if_pos hj, hqz _ (by omega), zx]
      · rw [if_neg hj, if_neg hj]
    · rw [co_set (by omega), if_neg (by omega)]
      exact hqz j (by omega)
    · show l79 < l18
      omega
  · simp only [decide_eq_false_iff_not] at hs
    refine (pnorm_spec (OwnB.bytes oq) (Nat.le_refl _) (by omega)).mono ?_
    rintro e w80 ⟨p82, l82, c82, r, rfl, hx80, or80, nr, cor⟩
    refine ⟨_, _, _, rfl, _, _, _, r, _, _, _, l', rfl, hx19.trans hx80, OwnB.base_le or80 hx19.size, OwnB.ext ol' hx80, nr, nl', ?_, fun b2 nb2 cb2 => ?_⟩
    · rw [heq, ← cor, act_congr cob']
    · obtain rfl := nb2.eq nb (cb2.trans cob.symm)
      omega
end Go.Proofs.Ytpmkjpgoekjcfaa
