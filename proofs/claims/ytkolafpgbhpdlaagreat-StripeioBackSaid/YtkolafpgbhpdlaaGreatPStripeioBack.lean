import Derived.Test.YtkolafpgbhpdlaaGreatMT
import Derived.Test.YtkolafpgbhpdlaaGreatRows
/- StripeioBack returns true, whatever the geometry, the stripe, the data, the disks that are hurt and how. No conditions. -/
namespace Go.Proofs.YtkolafpgbhpdlaaGreat
open Go Go.Vc Go.Gf Go.ChangeShapes Go.WideShapes Go.ChangeAt Go.RowKit

theorem badC_none {s : StA} {g : Geo} {i : Int} {lost : Nat → Bool} (h : ∀ j, j < nG g → (!deadA s (diskN g i j) && lost j) = false) : badC s g i lost = [] :=
  List.filter_eq_nil_iff.2 fun j hj => by rw [h j (List.mem_range.1 hj)]; simp
theorem badC_all {s : StA} {g : Geo} {i : Int} {lost : Nat → Bool} (h : ∀ j, j < nG g → deadA s (diskN g i j) = false) : (badC s g i lost).length = lostC g lost := by
  unfold badC lostC
  congr 1
  refine List.filter_congr fun j hj => ?_
  rw [h j (List.mem_range.1 hj)]; rfl
theorem lostC_le {g : Geo} {l l' : Nat → Bool} (h : ∀ j, l j = true → l' j = true) : lostC g l ≤ lostC g l' := filter_len_le h
structure BkCtx (g : Geo) (n7 n8 : Int) (w : World) (xs : List UInt8) (k13 kf : Nat) (L : List Nat) (s1 : StA) (w48 w62 : World) (b64 : Nat) (p64 : Option Addr) (l64 c64 : Nat) : Prop where
  geo : GeoOk g
  put : PutAt g n7 n8 (sectorsZ g)
  len : (xs.length : Int) = g.k * g.size
  fit : Fit s1 (nG g) (sectorsZ g)
  liv : ∀ d, d < nG g → deadA s1 d = false
  sec : ∀ j, j < nG g → secA s1 (diskN g n7 j) (atZ g n7) = packM (atZ g n7) n8 (rowsG g xs j)
  fld : FieldAt w48 (some (at0 kf))
  row : RowW w48 k13 (gC g)
  ext : Ext w w48
  nod : L.Nodup
  lt : ∀ d ∈ L, d < nG g
  own : OwnN w62 b64 p64 l64 c64 L
def bkI (g : Geo) (n7 n8 how : Int) (w : World) (xs : List UInt8) (q12 p19 p51 p64 : Option Addr) (l64 c64 : Nat) (w62 : World) (n71 : Int) (w72 : World) : Prop := ∃ (a k13 kf : Nat) (L : List Nat) (s1 : StA) (w48 : World) (b64 : Nat), q12 = some (at0 k13) ∧ p19 = some (at0 kf) ∧ p51 = some (at0 a) ∧ BkCtx g n7 n8 w xs k13 kf L s1 w48 w62 b64 p64 l64 c64 ∧
  ∃ (t : Nat) (s : StA) (F : Nat → Prop), n71 = t ∧ t ≤ L.length ∧ Run w48 w72 a s F ∧ Hurt s1 s g n7 (sectorsZ g) how (L.take t) ∧ OwnN w72 b64 p64 l64 c64 L ∧ (∀ x, F x → x < b64 ∨ w62.heap.size ≤ x) ∧ w62.heap.size ≤ w72.heap.size
def bkM (_ _ _ _ : Option Addr) (l64 _ : Nat) (_ : World) (n71 : Int) (_ : World) : Nat := (l64 - n71).toNat
theorem bk_next {g : Geo} {n7 n8 how : Int} {w : World} {xs : List UInt8} {a k13 kf : Nat} {L : List Nat} {s1 : StA} {w48 w62 w72 w' : World} {b64 : Nat} {p64 : Option Addr} {l64 c64 t : Nat} {s s' : StA} {F F' : Nat → Prop} (h : BkCtx g n7 n8 w xs k13 kf L s1 w48 w62 b64 p64 l64 c64) (ht : t < L.length) (hr : Run w48 w72 a s F)
    (hh : Hurt s1 s g n7 (sectorsZ g) how (L.take t)) (ho : OwnN w72 b64 p64 l64 c64 L) (hF : ∀ x, F x → x < b64 ∨ w62.heap.size ≤ x) (hz : w62.heap.size ≤ w72.heap.size) (hs : Step F F' w72 w') (hi : IsA w' a s' F') (he : s' = hurtA s (atZ g n7) how (L.getD t 0)) :
    bkI g n7 n8 how w xs (some (at0 k13)) (some (at0 kf)) (some (at0 a)) p64 l64 c64 w62 (IntKind.i64.wrap ((t : Int) + 1)) w' ∧ bkM (some (at0 k13)) (some (at0 kf)) (some (at0 a)) p64 l64 c64 w62 (IntKind.i64.wrap ((t : Int) + 1)) w' < bkM (some (at0 k13)) (some (at0 kf)) (some (at0 a)) p64 l64 c64 w62 t w72 := by
  have hl := OwnN.len h.own
  have hb : L.length ≤ nG g := by
    have hc := lost_count (i := n7) h.geo h.put.str h.nod h.lt
    rw [← hc]
    unfold lostC
    exact Nat.le_trans (List.length_filter_le _ _) (by rw [List.length_range]; exact Nat.le_refl _)
  have h32 := nG_le h.geo
  rw [w64 (n := (t : Int) + 1) (by omega)]
  have hd : L.getD t 0 ∈ L := by rw [List.getD_eq_getElem?_getD, List.getElem?_eq_getElem ht]; exact List.getElem_mem _
  have hdn := h.lt _ hd
  obtain ⟨j, hj, hjd⟩ := disk_some h.geo h.put.str hdn
  have hnot : L.getD t 0 ∉ L.take t := fun hm => by
    have hsp : L = L.take t ++ L.getD t 0 :: L.drop (t + 1) := by
      rw [List.getD_eq_getElem?_getD, List.getElem?_eq_getElem ht]
      show L = L.take t ++ L[t] :: L.drop (t + 1)
      rw [List.getElem_cons_drop, List.take_append_drop]
    have hn := h.nod
    rw [hsp, List.nodup_append] at hn
    exact hn.2.2 _ hm _ List.mem_cons_self rfl
  have hsec := h.sec j hj
  rw [hjd] at hsec
  have hst := hh.step h.put hdn hnot (h.liv _ hdn) hsec
  rw [← he] at hst
  have hsz := hs.upd.size
  refine ⟨⟨a, k13, kf, L, s1, w48, b64, rfl, rfl, rfl, h, t + 1, s', F', by omega, by omega, hr.step hs hi, ?_, ?_, ?_, by omega⟩, by show ((l64 : Int) - ((t : Int) + 1)).toNat < ((l64 : Int) - t).toNat; omega⟩
  · rw [take_snoc ht]; exact hst
  · refine OwnS.upd ho hs.upd fun x hx hFx => ?_
    have h1 := OwnS.blk ho hx
    have h2 := h.own
    rw [hx] at h2
    have h3 := OwnS.lt_heap h2
    have := hF x hFx
    omega
  · intro x hx
    rcases hs.grow x hx with h1 | h1
    · exact hF x h1
    · omega
set_option maxRecDepth 20000 in
set_option maxHeartbeats 8000000 in
theorem stripeioBack_walk (g : Geo) (n7 n8 : Int) {w : World} {p9 : Option Addr} {l9 c9 : Nat} {xs : List UInt8} (hx : BytesAt w p9 l9 xs) (hxc : l9 ≤ c9) {p10 : Option Addr} {l10 c10 : Nat} {ks : List Int} (hk : IntsAt w p10 l10 ks) (how : Int) (hw : -9223372036854775808 ≤ how ∧ how ≤ 9223372036854775807) :
    Calls Tryz.prog 6 #[gV g, .int .i64 n7, .int .i64 n8, .slice p9 l9 c9, .slice p10 l10 c10, .int .i64 how] w fun e w' => e = .returned (.bool true) ∧ Ext w w' := by
  refine (F6_calls g.k g.m g.size g.stripes g.slots g.objects n7 n8 p9 l9 c9 p10 l10 c10 how w (fun v w' => v = .bool true ∧ Ext w w')
    (bkI g n7 n8 how w xs) bkM ?_).mono (by rintro e w' ⟨v, rfl, rfl, h⟩; exact ⟨rfl, h⟩)
  intro k13 w14 h13
  refine (sawake_spec w14).mono ?_
  rintro e w15 ⟨rfl, x15⟩
  refine ⟨_, rfl, (fnew_spec w15).mono ?_⟩
  rintro e w18 ⟨kf, rfl, x18, _, hf⟩
  have y18 := (h13.ext.trans x15).trans x18
  have r18 : RowW w18 k13 (gC g) := (x15.trans x18).rowW ⟨_, h13.at⟩ id
  refine ⟨_, rfl, condB_of (fun h => by cases h) fun _ => condB_of (fun h => by cases h) fun _ => ⟨_, r18.row.cell (n := 0) rfl, _, r18.row.cell rfl, _, r18.row.cell rfl, _, r18.row.cell rfl, _, r18.row.cell rfl, _, r18.row.cell rfl, (small_spec g w18).mono ?_⟩⟩
  rintro e w27 ⟨rfl, x27⟩
  have y27 := y18.trans x27
  have r27 : RowW w27 k13 (gC g) := x27.rowW r18 id
  refine ⟨_, rfl, condB_of (fun _ => ⟨rfl, y27⟩) fun _ => ⟨_, r27.row.cell (n := 0) rfl, _, r27.row.cell rfl, _, r27.row.cell rfl, _, r27.row.cell rfl, _, r27.row.cell rfl, _, r27.row.cell rfl, (check_spec g w27).mono ?_⟩⟩
  rintro e w36 ⟨rfl, x36⟩
  have y36 := y27.trans x36
  refine ⟨_, rfl, condB_of (fun _ => ⟨rfl, y36⟩) fun hc => condB_of (fun _ => ⟨rfl, y36⟩) fun h10 => ?_⟩
  simp only [Bool.not_eq_false', decide_eq_true_eq] at hc
  simp only [decide_eq_false_iff_not] at h10
  have hg := checkG_ok hc
  have hgg := hg
  obtain ⟨g1, g2, g3, g4, g5⟩ := hg
  have r36 : RowW w36 k13 (gC g) := x36.rowW r27 id
  refine ⟨_, r36.row.cell (n := 0) rfl, _, r36.row.cell rfl, _, r36.row.cell (n := 0) rfl, _, r36.row.cell rfl, _, r36.row.cell rfl, _, r36.row.cell rfl, _, r36.row.cell rfl, _, r36.row.cell rfl, (sectors_spec g w36).mono ?_⟩
  rintro e w48 ⟨rfl, x48⟩
  have y48 := y36.trans x48
  have r48 : RowW w48 k13 (gC g) := x48.rowW r36 id
  rw [w64 (n := g.k + g.m) (by omega)]
  refine ⟨_, rfl, (anew_geo hgg w48).mono ?_⟩
  rintro e w49 ⟨a, F, rfl, R0⟩
  have hf48 := hf.ext (x27.trans (x36.trans x48))
  have rr : ∀ {w' : World} {s : StA} {F : Nat → Prop}, Run w48 w' a s F → RowW w' k13 (gC g) ∧ Ext w w' := fun h => ⟨h.ext.rowW r48 id, y48.trans h.ext⟩
  have r49 := (rr R0).1
  have f0 := newA_fit (nG g) (sectorsZ g)
  have hd0 : ∀ d, d < nG g → deadA (newA (nG g) (sectorsZ g)) d = false := fun d hd => newA_dead _ hd
  refine ⟨_, _, rfl, condB_of (fun h => by cases h) fun _ => condB_of (fun h => by simp at h) fun _ => ⟨_, r49.row.cell (n := 0) rfl, _, r49.row.cell rfl, _, r49.row.cell rfl, _, r49.row.cell rfl, _, r49.row.cell rfl, _, r49.row.cell rfl, ?_⟩⟩
  refine (swrite_law R0 hgg f0 hd0 hf48 n7 n8 (hx.ext (rr R0).2) hxc).mono ?_
  rintro e w59 (⟨_, rfl, F1, R1⟩ | ⟨ok1, rfl, F1, s1, R1, _, p1, hb1, f1, d1, st1, ke1, es1⟩)
  · exact ⟨_, rfl, condB_of (fun _ => ⟨rfl, (rr R1).2⟩) fun h => by simp at h⟩
  refine ⟨_, rfl, condB_of (fun h => by simp at h) fun _ => ?_⟩
  refine (chosen_spec (c1 := c10) (hk.ext (rr R1).2) (by omega) (g.k + g.m)).mono ?_
  rintro e w62 ⟨p64, l64, c64, L, rfl, x62, hL, hnd, hlt, hll⟩
  have hn := nG_eq hgg
  have R62 := R1.more x62
  have ctx : BkCtx g n7 n8 w xs k13 kf L s1 w48 w62 w59.heap.size p64 l64 c64 := ⟨hgg, p1, hb1, f1, fun d hd => by rw [d1]; exact newA_dead _ hd, fun j hj => by rw [es1]; exact swS_sec f0 hd0 p1 ok1 hj, hf48, r48, y48, hnd, fun d hd => by have := hlt d hd; omega, hL⟩
  have hur0 : Hurt s1 s1 g n7 (sectorsZ g) how (L.take 0) := ⟨f1, fun d hd => (by cases hd), fun d _ => ⟨rfl, rfl⟩⟩
  refine ⟨_, _, _, rfl, ⟨a, k13, kf, L, s1, w48, w59.heap.size, rfl, rfl, rfl, ctx, 0, s1, F1, rfl, Nat.zero_le _, R62, hur0, hL, fun x hx => .inl (R1.lt x hx), Nat.le_refl _⟩, ?_⟩
  clear ctx hur0 R62 hL hnd hlt hll x62 st1 es1 d1 f1 R1 hf48 rr r48
  rintro n71 w72 ⟨a', k13', kf', L', s1', w48', b64, hq1, hq2, hq3, ctx, t, s, F, rfl, ht, R, hh, ho, hF, hz⟩
  cases hq1
  cases hq2
  cases hq3
  intros
  have rr : ∀ {w' : World} {s : StA} {F : Nat → Prop}, Run w48' w' a s F → RowW w' k13 (gC g) ∧ Ext w w' := fun h => ⟨h.ext.rowW ctx.row id, ctx.ext.trans h.ext⟩
  have hl64 := OwnN.len ctx.own
  refine condB_of (fun hlt => ?_) (fun hge => ?_)
  · simp only [decide_eq_true_eq] at hlt
    have htL : t < L'.length := by omega
    have hLt : L'[t]? = some (L'.getD t 0) := by rw [List.getD_eq_getElem?_getD, List.getElem?_eq_getElem htL]; rfl
    obtain ⟨ad, rfl, hcell⟩ := OwnS.cells ho t (.int .i64 (L'.getD t 0 : Int)) (by unfold encN; rw [List.getElem?_map, hLt]; rfl)
    refine ⟨by decide, condB_of (fun h0 => ?_) fun h0 => condB_of (fun h1 => ?_) fun h1 => ?_⟩
    · simp only [decide_eq_true_eq] at h0
      refine ⟨⟨by omega, hlt⟩, _, by rw [Int.toNat_natCast, Nat.mul_one]; exact hcell, (fail_any R.isa (L'.getD t 0 : Int)).mono ?_⟩
      rintro e w' ⟨F', z, rfl, hs, hi⟩
      exact ⟨_, rfl, bk_next ctx htL R hh ho hF hz hs hi (by unfold hurtA; rw [if_pos h0]; rfl)⟩
    · simp only [decide_eq_true_eq] at h1
      refine ⟨⟨by omega, hlt⟩, _, by rw [Int.toNat_natCast, Nat.mul_one]; exact hcell, (replace_any R.isa (L'.getD t 0 : Int)).mono ?_⟩
      rintro e w' ⟨F', z, rfl, hs, hi⟩
      simp only [decide_eq_false_iff_not] at h0
      exact ⟨_, rfl, bk_next ctx htL R hh ho hF hz hs hi (by unfold hurtA; rw [if_neg h0, if_pos h1]; rfl)⟩
    · simp only [decide_eq_false_iff_not] at h0 h1
      intro w117 hd117
      have R117 := R.more hd117.ext
      have r117 := (rr R117).1
      have hc117 := cellx hcell hd117.ext
      refine ⟨⟨by omega, hlt⟩, _, by rw [Int.toNat_natCast, Nat.mul_one]; exact hc117, _, r117.row.cell (n := 0) rfl, _, r117.row.cell rfl, _, r117.row.cell rfl, _, r117.row.cell rfl, _, r117.row.cell rfl, _, r117.row.cell rfl, (stripe_spec g n7 w117).mono ?_⟩
      rintro e w126 ⟨rfl, x126⟩
      have R126 := R117.more x126
      refine ⟨_, rfl, ⟨_, by rw [Int.toNat_natCast, Nat.mul_one]; exact cellx hc117 x126, rfl⟩, (corrupt_any R126.isa (L'.getD t 0 : Int) (atZ g n7) how 1 hw).mono ?_⟩
      rintro e w' ⟨F', z, rfl, hs, hi⟩
      have hs2 := (Step.ext (F := F) (hd117.ext.trans x126)).trans hs
      exact ⟨_, rfl, bk_next ctx htL R hh ho hF hz hs2 hi (by unfold hurtA; rw [if_neg h0, if_neg h1])⟩
  · simp only [decide_eq_false_iff_not] at hge
    obtain rfl : t = L'.length := by omega
    rw [List.take_length] at hh
    have p := ctx.put
    have hb := ctx.len
    have hcnt := lost_count (i := n7) hgg p.str ctx.nod ctx.lt
    have st := hh.ok p hb ctx.liv ctx.sec
    have okA := hh.fit.ok (nG_le hgg)
    have r72 := (rr R).1
    refine ⟨_, r72.row.cell (n := 0) rfl, _, r72.row.cell rfl, _, r72.row.cell rfl, _, r72.row.cell rfl, _, r72.row.cell rfl, _, r72.row.cell rfl, (sread_spec R.isa okA (ctx.fld.ext R.ext) g n7 n8).mono ?_⟩
    rintro e w139 ⟨v, rfl, hv⟩
    by_cases hM : L'.length ≤ g.m.toNat
    · obtain ⟨x139, gd, cd, q2, m2, c2, rfl, hgd, hby, hcd, hW⟩ := sread_few hv (lineOk p) hh.fit p st hb (by rw [hcnt]; exact hM)
      have R139 := R.more x139
      have r139 := (rr R139).1
      have lbad := OwnN.len hW
      have bkz : g.k.toNat * g.size.toNat ≤ 32 * 4096 := Nat.mul_le_mul (by omega) (by omega)
      have ekz : g.k * g.size = ((g.k.toNat * g.size.toNat : Nat) : Int) := by rw [Int.natCast_mul, Int.toNat_of_nonneg (by omega), Int.toNat_of_nonneg (by omega)]
      refine ⟨_, _, _, _, _, _, _, rfl, _, r139.row.cell rfl, condB_of (fun h => by simp only [decide_eq_true_eq] at h; omega) fun _ => ?_⟩
      refine (same_spec (c1 := cd) (c2 := c9) hby (hx.ext (rr R139).2) (by omega)).mono ?_
      rintro e w145 ⟨rfl, q145⟩
      have R145 := R139.more q145.ext
      have r145 := (rr R145).1
      have hfz : how.tmod 3 = 0 → m2 = 0 := fun h0 => by
        rw [lbad, badC_none]; rfl
        intro j hj
        by_cases hm : diskN g n7 j ∈ L'
        · rw [(hh.yes _ hm (diskN_lt hgg p.str hj)).1, decide_eq_true h0]; rfl
        · rw [decide_eq_false hm, Bool.and_false]
      have hfn : ¬ how.tmod 3 = 0 → m2 = L'.length := fun h0 => by
        rw [lbad, badC_all, hcnt]
        intro j hj
        have hd := diskN_lt hgg p.str hj
        by_cases hm : diskN g n7 j ∈ L'
        · rw [(hh.yes _ hm hd).1, decide_eq_false h0]
        · rw [(hh.no _ hm).1]; exact ctx.liv _ hd
      have last : F6_A1 w145 k13 (some (at0 a)) (some (at0 kf)) n7 n8 m2 (fun v w' => v = .bool true ∧ Ext w w') (bkI g n7 n8 how w xs) bkM := by
        unfold F6_A1
        refine ⟨_, r145.row.cell (n := 0) rfl, _, r145.row.cell rfl, _, r145.row.cell rfl, _, r145.row.cell rfl, _, r145.row.cell rfl, _, r145.row.cell rfl, (sfix_spec R145.isa okA (ctx.fld.ext R145.ext) g n7 n8).mono ?_⟩
        rintro e w154 ⟨v, rfl, hv2⟩
        obtain ⟨hfx, f2, d2, st2⟩ := fix_law st hh.fit p hb (by rw [hcnt]; exact hM)
        rcases hv2 with ⟨hne, _⟩ | ⟨_, ⟨hd, _⟩ | ⟨_, hno, _⟩ | ⟨_, _, F3, rfl, s3, A3⟩⟩
        · exact (hne (lineOk p)).elim
        · rw [hh.fit.down] at hd; cases hd
        · exact (hno (st.few hgg hb (by rw [hcnt]; exact hM)).1).elim
        rw [hfx]
        have R154 := R145.step s3 A3
        have r154 := (rr R154).1
        refine ⟨_, _, rfl, _, r154.row.cell (n := 0) rfl, _, r154.row.cell rfl, _, r154.row.cell rfl, _, r154.row.cell rfl, _, r154.row.cell rfl, _, r154.row.cell rfl, (sread_spec R154.isa (f2.ok (nG_le hgg)) (ctx.fld.ext R154.ext) g n7 n8).mono ?_⟩
        rintro e w164 ⟨v3, rfl, hv3⟩
        have hle : lostC g (fun j => decide (diskN g n7 j ∈ L') && deadA s (diskN g n7 j)) ≤ g.m.toNat := Nat.le_trans (lostC_le (l' := fun j => decide (diskN g n7 j ∈ L')) fun j hj => by
          rw [Bool.and_eq_true] at hj; exact hj.1) (by rw [hcnt]; exact hM)
        obtain ⟨x164, gd3, cd3, q3, m3, c3, rfl, _, _, _, hW3⟩ := sread_few hv3 (lineOk p) f2 p st2 hb hle
        have l3 := OwnN.len hW3
        have hm3 : m3 = 0 := by
          rw [l3, badC_none]; rfl
          intro j hj
          rw [d2]
          cases deadA s (diskN g n7 j) <;> simp
        subst hm3
        refine ⟨_, _, _, _, _, _, _, rfl, condB_of (fun _ => ?_) fun h => by simp only [decide_eq_false_iff_not] at h; exact (h (by rw [lbad]; rfl)).elim⟩
        refine condB_of (fun _ => ?_) fun h => by simp at h
        refine condB_of (fun _ => ?_) fun h => by simp at h
        exact ⟨rfl, (rr (R154.more x164)).2⟩
      have a0 : F6_A0 how m2 w145 k13 (some (at0 a)) (some (at0 kf)) n7 n8 (fun v w' => v = .bool true ∧ Ext w w') (bkI g n7 n8 how w xs) bkM := by
        unfold F6_A0
        refine ⟨by decide, condB_of (fun h0 => condB_of (fun h => ?_) fun _ => last) fun _ => last⟩
        have := hfz (of_decide_eq_true h0)
        rw [this] at h
        simp at h
      refine ⟨_, rfl, condB_of (fun h => by simp at h) fun _ => condB_of (fun h => by simp at h) fun _ => ⟨by decide, condB_of (fun h0 => condB_of (fun h => ?_) fun _ => a0) fun _ => a0⟩⟩
      simp only [Bool.not_eq_true', decide_eq_false_iff_not] at h0 h
      have := hfn h0
      omega
    · obtain ⟨x139, rfl⟩ := sread_no hv (lineOk p) hh.fit (st.many hgg hb (by rw [hcnt]; omega))
      have R139 := R.more x139
      have r139 := (rr R139).1
      refine ⟨_, _, _, _, _, _, _, rfl, _, r139.row.cell rfl, condB_of (fun _ => ?_) fun h => by simp only [decide_eq_false_iff_not] at h; omega⟩
      exact condB_of (fun _ => ⟨rfl, (rr R139).2⟩) fun h => by simp at h
set_option maxRecDepth 100000 in
theorem stripeioBack_lifted (os : Os) (started : os.Started) (H : Type) (enc : TypeId × Value → H) :
    ReturnsInHanded {} Tryz.checked os 6 .any (Rows.stripeioBackSpec.pre6 enc Tryz.prog Tryz.f6 Rows.stripeioBackRow.domain false) (Rows.stripeioBackSpec.post enc Tryz.prog Tryz.f6 false true false false) := by
  refine returnsInHanded_of_change (C := Tryz.checked) lawOwn started (by kernel_rfl) Tryz.func6
    (ChangeSpec.witness6 (enc := enc) (C := Tryz.checked) false ⟨#[], #[.agg #[.int .i64 0, .int .i64 0, .int .i64 0, .int .i64 0, .int .i64 0, .int .i64 0], .int .i64 0, .int .i64 0, .slice none 0 0, .slice none 0 0, .int .i64 0], []⟩ 8 (by kernel_rfl) (by kernel_rfl) (by kernel_rfl) (by kernel_rfl)) ?_
  intro W base args ds gs before hval0 hW hcnd _
  have hval : ∀ (j : Nat) t v, Tryz.f6.params[j]? = some t → args[j]? = some v → Value.okWide Tryz.prog W .any base t v := hval0
  have hW' := hW
  obtain ⟨p, q, hA0, hV, rfl, hfz, hnd⟩ := hW
  have hA : DataW.TrodAll enc Tryz.prog W 0 (fun _ => true) true Tryz.f6.params.toList args.toList ds p := hA0
  rw [Tryz.params6] at hA hval
  obtain ⟨v0, vs0, d0, ds0, p0, q0, hargs, rfl, rfl, h0, r0⟩ := trodAll_cons hA
  obtain ⟨v1, vs1, d1, ds1, p1, q1, rfl, rfl, rfl, h1, r1⟩ := trodAll_cons r0
  obtain ⟨v2, vs2, d2, ds2, p2, q2, rfl, rfl, rfl, h2, r2⟩ := trodAll_cons r1
  obtain ⟨v3, vs3, d3, ds3, p3, q3, rfl, rfl, rfl, h3, r3⟩ := trodAll_cons r2
  obtain ⟨v4, vs4, d4, ds4, p4, q4, rfl, rfl, rfl, h4, r4⟩ := trodAll_cons r3
  obtain ⟨v5, vs5, d5, ds5, p5, q5, rfl, rfl, rfl, h5, r5⟩ := trodAll_cons r4
  obtain ⟨rfl, rfl, rfl⟩ := trodAll_nil r5
  obtain rfl : args = #[v0, v1, v2, v3, v4, v5] := by cases args; simp_all
  obtain ⟨rfl, rfl⟩ := trodVars_none hV
  obtain ⟨g0, rfl⟩ := open_geo (okWide_struct Tryz.underlying24 (hval 0 24 v0 rfl rfl)) h0
  obtain ⟨n1, rfl, rfl, rfl, wn1⟩ := open_int Tryz.underlying3 (hval 1 3 v1 rfl rfl) h1
  obtain ⟨n2, rfl, rfl, rfl, wn2⟩ := open_int Tryz.underlying3 (hval 2 3 v2 rfl rfl) h2
  obtain ⟨a3, l3, c3, bs3, rfl, hb3, hc3, _⟩ := open_by (okWide_slice Tryz.underlying25 (hval 3 25 v3 rfl rfl)) h3
  obtain ⟨a4, l4, c4, ks4, rfl, hk4, _, _⟩ := open_is (okWide_slice Tryz.underlying30 (hval 4 30 v4 rfl rfl)) h4
  obtain ⟨n5, rfl, rfl, rfl, wn5⟩ := open_int Tryz.underlying3 (hval 5 3 v5 rfl rfl) h5
  refine (stripeioBack_walk g0 n1 n2 hb3 hc3 hk4 n5 (mwfi64 wn5)).mono fun e W' ⟨he, hg⟩ => ?_
  subst he
  exact ⟨_, rfl, post_true lawLaid rfl (by kernel_rfl) rfl Tryz.underlying4 hW' rfl hg.below⟩

/-- ████ THE STATEMENT ████ -/
theorem stripeioBack_holds : Rows.StripeioBackSaid :=
  OpenClaim.holds_of_wide 6 Tryz.f6 rfl rfl rfl rfl rfl rfl rfl ⟨rfl, rfl, rfl, rfl, rfl⟩ rfl rfl rfl rfl rfl (by kernel_rfl) Tryz.func6 (by kernel_rfl)
    (of_decide_eq_true (by kernel_rfl)) (by unfold Func.isWrapper; first | (rw [if_pos (by decide +kernel)]; kernel_rfl) | (rw [if_neg (by decide +kernel)]; exact ⟨rfl, rfl⟩))
    (fun os started H enc _ => stripeioBack_lifted os started H enc)
end Go.Proofs.YtkolafpgbhpdlaaGreat
