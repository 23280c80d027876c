/- Bytes of the call's own; sums of polynomials. -/
import Derived.Test.YtpmkjpgoekjcfaaH2
namespace Go.Proofs.Ytpmkjpgoekjcfaa
open Go Go.Vc Go.Gf

theorem elemY : ElemOf Try.prog 22 5 1 1 := ⟨by kernel_rfl, ⟨Try.t5, .int .u8 0, by kernel_rfl, by kernel_rfl, by kernel_rfl, by kernel_rfl, by kernel_rfl⟩, by omega⟩
theorem bx8 (a b : UInt8) : bitsV .xor .u8 (a.toNat : Int) (b.toNat : Int) = ((a ^^^ b).toNat : Int) := by
  have ha := u8lt a
  have hb := u8lt b
  have hx := u8lt (a ^^^ b)
  show IntKind.u8.wrap (((BitVec.ofInt 8 (a.toNat : Int)) ^^^ (BitVec.ofInt 8 (b.toNat : Int))).toNat : Int) = _
  have e : ∀ x : UInt8, (BitVec.ofInt 8 (x.toNat : Int)).toNat = x.toNat := fun x => by
    have := u8lt x
    rw [BitVec.toNat_ofInt]; omega
  rw [BitVec.toNat_xor, e, e, ← UInt8.toNat_xor]
  have : IntKind.u8.wrap ((a ^^^ b).toNat : Int) = ((a ^^^ b).toNat : Int) % 256 := by simp [IntKind.wrap, IntKind.bits, IntKind.signed]
  rw [this]; omega
theorem wrap8 (n : Int) (h : 0 ≤ n) : IntKind.u8.wrap n = ((pt n.toNat).toNat : Int) := by
  have : IntKind.u8.wrap n = n % 256 := by simp [IntKind.wrap, IntKind.bits, IntKind.signed]
  rw [this, pt, UInt8.toNat_ofNat']
  omega
theorem vb_inj {a b : UInt8} : ((a.toNat : Int) = (b.toNat : Int)) ↔ a = b := by
  constructor
  · intro h; exact UInt8.toNat_inj.1 (by omega)
  · rintro rfl; rfl
theorem vb_zero {a : UInt8} : ((a.toNat : Int) = 0) ↔ a = 0 := by rw [u8_zero_iff]; omega
theorem cutP0 (p : Option Addr) (c s : Nat) : cutP p c 0 s = p := by
  unfold cutP
  rw [Nat.zero_mul]
  split
  · rfl
  · cases p with
    | none => rfl
    | some a => show some (a.add 0) = _; simp [Addr.add]

theorem getD_co (bs : List UInt8) (i : Nat) : bs.getD i 0 = co bs i := rfl
theorem BytesAt.co {w : World} {p : Option Addr} {n : Nat} {bs : List UInt8} (h : BytesAt w p n bs) {i : Nat} (hi : i < n) : ∃ a, p = some a ∧ w.cell? (a.add i) = some (vb (co bs i)) := h.get hi

/-! ## own bytes -/
abbrev OwnB (w : World) (base : Nat) (p : Option Addr) (n c : Nat) (bs : List UInt8) : Prop := OwnS w base 5 1 p n c (encB bs)

section
variable {w w' : World} {base : Nat} {p : Option Addr} {n c : Nat} {bs : List UInt8}
theorem OwnB.len (h : OwnB w base p n c bs) : n = bs.length := by have := h.length; rw [encB_length] at this; omega
theorem OwnB.le (h : OwnB w base p n c bs) : n ≤ c := by
  rcases h.where_ with ⟨_, rfl, rfl⟩ | ⟨g, _, _, _, h, _⟩
  · exact Nat.le_refl _
  · exact h
theorem OwnB.bytes (h : OwnB w base p n c bs) : BytesAt w p n bs := by
  have hl := OwnB.len h
  rw [hl]
  exact BytesAt.of_cells (OwnS.cells h)
theorem OwnB.new_ext {w0 w : World} {S : Nat → Prop} (hx : Ext w0 w) (hu : Upd S w w') (hS : ∀ x, S x → w0.heap.size ≤ x) : Ext w0 w' := Upd.trans hx hu fun x hx hs => by have := hS x hs; omega
theorem OwnB.blk (h : OwnB w base p n c bs) {x : Nat} (hp : p = some (at0 x)) : base ≤ x := by
  subst hp
  rcases h.where_ with ⟨h, _⟩ | ⟨g, h, hb, _⟩
  · cases h
  · simp only [Option.some.injEq, at0, Addr.mk.injEq, and_true] at h
    omega
theorem OwnB.made {k m : Nat} (hk : NewB w k (.cells (madeRow Try.prog 5 m) 5) w') (hb : base ≤ k) (hm : m ≤ maxLen) : OwnB w' base (some (at0 k)) m m (List.replicate m 0) := by
  have e : madeRow Try.prog 5 m = (encB (List.replicate m 0)).toArray := by
    unfold madeRow
    rw [show zeroCellsOf Try.prog 5 = [.int .u8 0] by kernel_rfl]
    congr 1
    clear hk hm
    induction m with
    | zero => rfl
    | succ m ih =>
      rw [List.replicate_succ, List.flatten_cons, ih, List.replicate_succ]; rfl
  rw [e] at hk
  have := OwnS.made (sz := 1) (n := m) (c := m) hk hb (Nat.le_refl m) hm (by simp [encB_length])
  rw [Nat.mul_one] at this
  have e2 : (encB (List.replicate m 0)).toArray.toList.take m = encB (List.replicate m 0) := by
    show (encB (List.replicate m 0)).take m = _
    rw [List.take_of_length_le (by rw [encB_length, List.length_replicate]; exact Nat.le_refl _)]
  rw [e2] at this
  exact this
/-- one byte more -/
theorem OwnB.push {w1 : World} {k : Nat} {b : UInt8} (h : OwnB w base p n c bs) (hk : NewB w k (.cells #[vb b] 5) w1) (hbase : base ≤ w.heap.size) (hn : n ≤ 1099511627776) :
    ∃ p' c' w2, Sem.run Try.prog (Builtin.append_ #[22, 22] 22 #[.slice p n c, .slice (some (at0 k)) 1 1]) w1 = .ok (.slice p' (n + 1) c') w2 ∧ OwnB w2 base p' (n + 1) c' (bs ++ [b]) ∧
      Upd (fun x => p = some (at0 x)) w w2 := by
  have h1 : OwnS w1 base 5 1 p n c (encB bs) := OwnS.ext h hk.ext
  have hq : CellsAt w1 (some (at0 k)) (encB [b]) := by
    intro j u hj
    refine ⟨_, rfl, hk.row.row.cell ?_⟩
    simpa [encB] using hj
  obtain ⟨p', c', w2, hr, ho, hu, _⟩ := h1.append elemY 22 (q := some (at0 k)) (m := 1) (d := 1) (news := encB [b]) (by rw [encB_length]; rfl) hq (fun h => by cases h) (encB_one _) (by unfold maxLen; omega) (by omega)
    (by rw [hk.size.2]; omega)
  refine ⟨p', c', w2, hr, ?_, Upd.trans hk.ext.upd hu fun x _ hx => hx⟩
  have : encB bs ++ encB [b] = encB (bs ++ [b]) := by simp [encB]
  rw [this] at ho
  exact ho
/-- a byte is written over -/
theorem OwnB.at (h : OwnB w base p n c bs) {i : Nat} (hi : i < n) : ∃ k, p = some (at0 k) ∧ base ≤ k ∧ Live w ((at0 k).add i) ∧ w.cell? ((at0 k).add i) = some (vb (co bs i)) ∧
    ∀ b w', SetC w ((at0 k).add i) (vb b) w' → OwnB w' base (some (at0 k)) n c (bs.set i b) ∧ Upd (fun x => x = k) w w' := by
  rcases h.where_ with ⟨_, h0, _⟩ | ⟨k, rfl, hb, _⟩
  · omega
  · have hl := OwnB.len h
    obtain ⟨a, ha, hc⟩ := BytesAt.co (OwnB.bytes h) hi
    cases ha
    refine ⟨k, rfl, hb, OwnS.live h (by rw [encB_length]; omega), hc, fun b w' hs => ?_⟩
    obtain ⟨h1, h2⟩ := OwnS.set h hs
    refine ⟨?_, h2⟩
    have : (encB bs).set i (vb b) = encB (bs.set i b) := by simp [encB, List.map_set]
    rw [this] at h1
    exact h1
theorem OwnB.cut (h : OwnB w base p n c bs) {m : Nat} (hm : m ≤ n) : OwnB w base p m c (bs.take m) := by
  have hl := OwnB.len h
  refine ⟨by rw [encB_length, List.length_take]; omega, ?_⟩
  rcases h.2 with ⟨hv, hn⟩ | ⟨g, cap, cur, hv, hb, hg, h1, h2, h3, h4⟩
  · left
    simp only [Value.slice.injEq] at hv
    obtain ⟨rfl, rfl, rfl⟩ := hv
    have : m = 0 := by omega
    subst this
    exact ⟨rfl, rfl⟩
  · right
    simp only [Value.slice.injEq] at hv
    obtain ⟨rfl, _, rfl⟩ := hv
    refine ⟨g, c, cur, rfl, hb, hg, by omega, h2, h3, ?_⟩
    rw [Nat.mul_one] at h4 ⊢
    have : encB (bs.take m) = (encB bs).take m := by simp [encB, List.map_take]
    rw [this, ← h4, List.take_take, Nat.min_eq_left hm]
end

/-! ## a slice of polynomials -/
def ListsAt (w : World) (p : Option Addr) (l : Nat) (L : List (List UInt8)) : Prop :=
  l = L.length ∧ ∀ i, i < l → ∃ a q n c, p = some a ∧ w.cell? (a.add i) = some (.slice q n c) ∧ BytesAt w q n (L.getD i []) ∧ n ≤ c
theorem ListsAt.ext {w w' : World} {p : Option Addr} {l : Nat} {L : List (List UInt8)} (h : ListsAt w p l L) (hu : Ext w w') : ListsAt w' p l L :=
  ⟨h.1, fun i hi => let ⟨a, q, n, c, h1, h2, h3, h4⟩ := h.2 i hi; ⟨a, q, n, c, h1, hu.cell h2 id, h3.ext hu, h4⟩⟩

def lx (L : List (List UInt8)) : Se := L.foldl (fun s p => sa s (co p)) sz
theorem lx_take {L : List (List UInt8)} {i : Nat} (hi : i < L.length) : lx (L.take (i + 1)) = sa (lx (L.take i)) (co (L.getD i [])) := by
  unfold lx
  rw [List.take_add_one, List.getElem?_eq_getElem hi, List.foldl_append]
  simp [List.getD_eq_getElem?_getD, List.getElem?_eq_getElem hi]
theorem lx_snoc (L : List (List UInt8)) (p : List UInt8) : lx (L ++ [p]) = sa (lx L) (co p) := by unfold lx; rw [List.foldl_append]; rfl
theorem co_append_zero (xs : List UInt8) : co (xs ++ [0]) = co xs := funext fun i => by
  simp only [co, List.getD_eq_getElem?_getD]
  by_cases h : i < xs.length
  · rw [List.getElem?_append_left h]
  · rw [List.getElem?_append_right (by omega), List.getElem?_eq_none (by omega : xs.length ≤ i)]
    cases i - xs.length <;> rfl
theorem co_set {xs : List UInt8} {i : Nat} (hi : i < xs.length) (b : UInt8) (j : Nat) : co (xs.set i b) j = if j = i then b else co xs j := by
  simp only [co, List.getD_eq_getElem?_getD, List.getElem?_set]
  by_cases h : j = i
  · subst h; simp [hi]
  · rw [if_neg (fun e => h e.symm), if_neg h]
theorem co_take (xs : List UInt8) (n j : Nat) : co (xs.take n) j = if j < n then co xs j else 0 := by
  simp only [co, List.getD_eq_getElem?_getD, List.getElem?_take]
  split <;> rfl

/-- while a sum is made -/
def SumIn (w : World) (L : List (List UInt8)) (l : Nat) (i : Int) (p39 : Option Addr) (l39 : Nat) (p49 : Option Addr) (l49 c49 : Nat) (j : Int) (w51 : World) : Prop :=
  0 ≤ j ∧ j ≤ l39 ∧ 0 ≤ i ∧ i < l ∧ Ext w w51 ∧ BytesAt w p39 l39 (L.getD i.toNat []) ∧
    ∃ xs, OwnB w51 w.heap.size p49 l49 c49 xs ∧ co xs = sa (lx (L.take i.toNat)) (fun t => if (t : Int) < j then co (L.getD i.toNat []) t else 0) ∧ j ≤ l49 ∧ xs.length ≤ 1073741824
theorem SumIn.write {w ws : World} {L : List (List UInt8)} {l : Nat} {i j : Int} {p39 : Option Addr} {l39 : Nat} {pz : Option Addr} {lz cz : Nat} {zs : List UInt8} (hi0 : 0 ≤ i) (hi : i < l) (hj0 : 0 ≤ j) (hj : j < l39)
    (hx : Ext w ws) (ho : OwnB ws w.heap.size pz lz cz zs) (hc : co zs = sa (lx (L.take i.toNat)) (fun t => if (t : Int) < j then co (L.getD i.toNat []) t else 0)) (hjz : j.toNat < lz) (hz : zs.length ≤ 1073741824) (hq : BytesAt w p39 l39 (L.getD i.toNat []))
    {I : Option Addr → Nat → Nat → Int → World → Prop} {M : World → Prop} (hI : ∀ w82, SumIn w L l i p39 l39 pz lz cz (j + 1) w82 → I pz lz cz (j + 1) w82) (hM : ∀ w82, M w82) :
    ((0 ≤ j ∧ j < ((lz : Nat) : Int)) ∧ nilM pz fun a => ∃ n80 : Int, ws.cell? (a.add (j.toNat * 1)) = some (.int .u8 n80) ∧ ((0 ≤ j ∧ j < ((lz : Nat) : Int)) ∧ nilM pz fun a81 => (Live ws (a81.add (j.toNat * 1)) ∧
      ∀ w82, SetC ws (a81.add (j.toNat * 1)) (Value.int .u8 (bitsV .xor .u8 n80 ((co (L.getD i.toNat []) j.toNat).toNat : Int))) w82 → (I pz lz cz (j + 1) w82 ∧ M w82)))) := by
  obtain ⟨k, rfl, hk, hlive, hcell, hset⟩ := OwnB.at ho hjz
  have hl := OwnB.len ho
  refine ⟨⟨hj0, by omega⟩, _, by rw [Nat.mul_one]; exact hcell, ⟨hj0, by omega⟩, by rw [Nat.mul_one]; exact hlive, fun w82 hs => ⟨hI _ ?_, hM _⟩⟩
  rw [Nat.mul_one, bx8] at hs
  obtain ⟨h1, h2⟩ := hset _ _ hs
  have hx82 : Ext w w82 := OwnB.new_ext hx h2 fun x hx => by omega
  refine ⟨by omega, by omega, hi0, hi, hx82, hq, _, h1, ?_, by omega, by rw [List.length_set]; exact hz⟩
  funext t
  rw [co_set (by omega)]
  by_cases ht : t = j.toNat
  · subst ht
    rw [if_pos rfl, hc]
    simp only [sa]
    rw [if_neg (by omega), if_pos (by omega), x0]
  · rw [if_neg ht, hc]
    simp only [sa]
    by_cases h3 : (t : Int) < j
    · rw [if_pos h3, if_pos (by omega)]
    · rw [if_neg h3, if_neg (by omega)]

set_option maxHeartbeats 2000000 in
theorem psum_spec {p : Option Addr} {l c : Nat} {w : World} {L : List (List UInt8)} (h : ListsAt w p l L) (hb : ∀ q ∈ L, q.length ≤ 1073741824) (hm : l ≤ 1073741824) :
    Calls Try.prog 64 #[.slice p l c] w fun e w' => ∃ p' n' c' r, e = .returned (.slice p' n' c') ∧ Ext w w' ∧ OwnB w' w.heap.size p' n' c' r ∧ Normal r ∧ co r = lx L := by
  refine (F64_calls p l c w (fun v w' => ∃ p' n' c' r, v = .slice p' n' c' ∧ Ext w w' ∧ OwnB w' w.heap.size p' n' c' r ∧ Normal r ∧ co r = lx L)
    (fun _ _ _ _ _ p6 l6 c6 i w8 => 0 ≤ i ∧ i ≤ l ∧ Ext w w8 ∧ ∃ xs, OwnB w8 w.heap.size p6 l6 c6 xs ∧ co xs = lx (L.take i.toNat) ∧ xs.length ≤ 1073741824) (fun _ _ _ _ _ _ _ _ i _ => (l - i).toNat)
    (fun _ _ _ _ i p39 l39 _ _ _ p49 l49 c49 j w51 => SumIn w L l i p39 l39 p49 l49 c49 j w51)
    (fun _ _ _ _ _ _ l39 _ _ _ _ _ _ j _ => (l39 - j).toNat)
    (fun _ p87 l87 c87 w88 => Ext w w88 ∧ ∃ xs, OwnB w88 w.heap.size p87 l87 c87 xs ∧ co xs = lx L ∧ xs.length ≤ 1073741824) (fun _ _ l87 _ _ => l87) ?_).mono (by
    rintro e w' ⟨v, rfl, p', n', c', r, rfl, h⟩; exact ⟨p', n', c', r, rfl, h⟩)
  have hl := h.1
  have hlen : ∀ i, i < L.length → (L.getD i []).length ≤ 1073741824 := fun i hi => by
    rw [List.getD_eq_getElem?_getD, List.getElem?_eq_getElem hi]
    exact hb _ (List.getElem_mem hi)
  refine ⟨⟨by omega, by omega, Upd.refl _ _, [], OwnS.nil _ _ _ _, rfl, by simp⟩, ?_⟩
  rintro p6 l6 c6 i w8 ⟨hi0, hi1, hx8, xs, ho, hco, hxl⟩
  intros
  refine condB_of (fun ht => ?_) (fun ht => ?_)
  · simp only [decide_eq_true_eq] at ht
    obtain ⟨a, q, n, cq, rfl, hcell, hq, hqc⟩ := h.2 i.toNat (by omega)
    refine ⟨⟨hi0, ht⟩, q, n, cq, by rw [Nat.mul_one]; exact hx8.cell hcell id, ?_⟩
    have hql := hlen i.toNat (by omega)
    have hqn := hq.1
    refine ⟨⟨by omega, by omega, hi0, ht, hx8, hq, xs, ho, ?_, by omega, hxl⟩, ?_⟩
    · rw [hco]
      have : (fun t : Nat => if (t : Int) < 0 then co (L.getD i.toNat []) t else 0) = sz := funext fun t => if_neg (by omega)
      rw [this, sa_sz]
    rintro p49 l49 c49 j w51 ⟨hj0, hj1, _, _, hx51, _, ys, hoy, hcoy, hjl, hyl⟩
    intros
    have hly := OwnB.len hoy
    refine condB_of (fun hs => ?_) (fun hs => ?_)
    · simp only [decide_eq_true_eq] at hs
      obtain ⟨b, rfl, hbc⟩ := BytesAt.co (hq.ext hx51) (i := j.toNat) (by omega)
      refine ⟨⟨hj0, hs⟩, _, by rw [Nat.mul_one]; exact hbc, ?_⟩
      have hnext : IntKind.i64.wrap (j + 1) = j + 1 := w64 (by omega)
      rw [hnext]
      refine condB_of (fun he => ?_) (fun he => ?_)
      · simp only [decide_eq_true_eq] at he
        intro k w76 hk
        obtain ⟨p', c', w77, hr, ho', hu'⟩ := OwnB.push (b := 0) hoy hk hx51.size (by omega)
        have hx77 : Ext w w77 := OwnB.new_ext hx51 hu' fun x hx => OwnB.blk hoy hx
        refine ⟨p', l49 + 1, c', w77, hr, ?_⟩
        exact SumIn.write hi0 ht hj0 hs hx77 ho' (by rw [co_append_zero]; exact hcoy) (by omega) (by simp; omega) hq
          (fun w82 h => h) (fun w82 => by show ((n : Int) - (j + 1)).toNat < ((n : Int) - j).toNat; omega)
      · simp only [decide_eq_false_iff_not] at he
        exact SumIn.write hi0 ht hj0 hs hx51 hoy hcoy (by omega) hyl hq
          (fun w82 h => h) (fun w82 => by show ((n : Int) - (j + 1)).toNat < ((n : Int) - j).toNat; omega)
    · simp only [decide_eq_false_iff_not] at hs
      rw [w64 (n := i + 1) (by omega)]
      refine ⟨⟨by omega, by omega, hx51, ys, hoy, ?_, hyl⟩, by show ((l : Int) - (i + 1)).toNat < ((l : Int) - i).toNat; omega⟩
      rw [show (i + 1).toNat = i.toNat + 1 by omega, lx_take (by omega), hcoy]
      congr 1
      funext t
      by_cases h3 : (t : Int) < j
      · rw [if_pos h3]
      · rw [if_neg h3, co_out (by omega)]
  · simp only [decide_eq_false_iff_not] at ht
    have hL : lx (L.take i.toNat) = lx L := by rw [show i.toNat = L.length by omega, List.take_length]
    refine ⟨⟨hx8, xs, ho, by rw [hco, hL], hxl⟩, ?_⟩
    rintro p87 l87 c87 w88 ⟨hx88, ys, hoy, hcoy, hyl⟩
    intros
    have hly := OwnB.len hoy
    have hle := OwnB.le hoy
    refine condB_of (fun hs => ?_) (fun hs => ?_)
    · simp only [decide_eq_true_eq] at hs
      have hlast : IntKind.i64.wrap ((l87 : Int) - 1) = (l87 : Int) - 1 := w64 (by omega)
      rw [hlast]
      have hn : ((l87 : Int) - 1).toNat = l87 - 1 := by omega
      obtain ⟨b, rfl, hbc⟩ := BytesAt.co (OwnB.bytes hoy) (i := l87 - 1) (by omega)
      refine ⟨⟨by omega, by omega⟩, _, by rw [hn, Nat.mul_one]; exact hbc, ?_⟩
      refine condB_of (fun hz => ?_) (fun hz => ?_)
      · simp only [decide_eq_true_eq, vb_zero] at hz
        rw [hn, cutP0, Nat.sub_zero, Nat.sub_zero]
        refine ⟨⟨by omega, by omega⟩, ⟨hx88, _, OwnB.cut hoy (by omega), ?_, by rw [List.length_take]; omega⟩, by show l87 - 1 < l87; omega⟩
        rw [← hcoy]
        funext t
        rw [co_take]
        by_cases h3 : t < l87 - 1
        · rw [if_pos h3]
        · rw [if_neg h3]
          by_cases h4 : t = l87 - 1
          · rw [h4, hz]
          · rw [co_out (by omega)]
      · simp only [decide_eq_false_iff_not, vb_zero] at hz
        exact ⟨_, _, _, ys, rfl, hx88, hoy, fun _ => by rw [← hly]; exact hz, hcoy⟩
    · simp only [decide_eq_false_iff_not] at hs
      have : ys = [] := List.eq_nil_of_length_eq_zero (by omega)
      subst this
      exact ⟨_, _, _, [], rfl, hx88, hoy, normal_nil, hcoy⟩

/-- a row of two slices, or of one -/
theorem lists_one {w w1 : World} {k : Nat} {p : Option Addr} {n c : Nat} {bs : List UInt8} (hk : NewB w k (.cells #[.slice p n c] 22) w1) (h : BytesAt w p n bs) (hc : n ≤ c) : ListsAt w1 (some (at0 k)) 1 [bs] := by
  refine ⟨rfl, fun i hi => ?_⟩
  obtain rfl : i = 0 := by omega
  exact ⟨_, p, n, c, rfl, hk.row.row.cell rfl, h.ext hk.ext, hc⟩
theorem lists_two {w w1 : World} {k : Nat} {p q : Option Addr} {n c m d : Nat} {bs cs : List UInt8} (hk : NewB w k (.cells #[.slice p n c, .slice q m d] 22) w1) (h : BytesAt w p n bs) (hc : n ≤ c) (h' : BytesAt w q m cs) (hd : m ≤ d) :
    ListsAt w1 (some (at0 k)) 2 [bs, cs] := by
  refine ⟨rfl, fun i hi => ?_⟩
  rcases (by omega : i = 0 ∨ i = 1) with rfl | rfl
  · exact ⟨_, p, n, c, rfl, hk.row.row.cell rfl, h.ext hk.ext, hc⟩
  · exact ⟨_, q, m, d, rfl, hk.row.row.cell rfl, h'.ext hk.ext, hd⟩

theorem pnorm_spec {p : Option Addr} {n c : Nat} {w : World} {bs : List UInt8} (h : BytesAt w p n bs) (hc : n ≤ c) (hm : n ≤ 1073741824) :
    Calls Try.prog 58 #[.slice p n c] w fun e w' => ∃ p' n' c' r, e = .returned (.slice p' n' c') ∧ Ext w w' ∧ OwnB w' w.heap.size p' n' c' r ∧ Normal r ∧ co r = co bs := by
  refine (F58_calls p n c w (fun v w' => ∃ p' n' c' r, v = .slice p' n' c' ∧ Ext w w' ∧ OwnB w' w.heap.size p' n' c' r ∧ Normal r ∧ co r = co bs) ?_).mono (by
    rintro e w' ⟨v, rfl, p', n', c', r, rfl, h⟩; exact ⟨p', n', c', r, rfl, h⟩)
  intro k w3 hk
  refine (psum_spec (lists_one hk h hc) (fun q hq => by rw [List.mem_singleton] at hq; subst hq; have := h.1; omega) (by omega)).mono ?_
  rintro e w4 ⟨p', n', c', r, rfl, hx, hb, hn, hco⟩
  exact ⟨p', n', c', rfl, p', n', c', r, rfl, hk.ext.trans hx, OwnS.base_le hb hk.ext.size, hn, by rw [hco]; exact sz_sa _⟩
theorem padd_spec {p q : Option Addr} {n c m d : Nat} {w : World} {bs cs : List UInt8} (h : BytesAt w p n bs) (hc : n ≤ c) (hm : n ≤ 1073741824) (h' : BytesAt w q m cs) (hd : m ≤ d) (hm' : m ≤ 1073741824) :
    Calls Try.prog 62 #[.slice p n c, .slice q m d] w fun e w' => ∃ p' n' c' r, e = .returned (.slice p' n' c') ∧ Ext w w' ∧ OwnB w' w.heap.size p' n' c' r ∧ Normal r ∧ co r = sa (co bs) (co cs) := by
  refine (F62_calls p n c q m d w (fun v w' => ∃ p' n' c' r, v = .slice p' n' c' ∧ Ext w w' ∧ OwnB w' w.heap.size p' n' c' r ∧ Normal r ∧ co r = sa (co bs) (co cs)) ?_).mono (by
    rintro e w' ⟨v, rfl, p', n', c', r, rfl, h⟩; exact ⟨p', n', c', r, rfl, h⟩)
  intro k w3 hk
  refine (psum_spec (lists_two hk h hc h' hd) (fun x hx => by
    rcases List.mem_cons.1 hx with rfl | hx
    · have := h.1; omega
    · rw [List.mem_singleton] at hx; subst hx; have := h'.1; omega) (by omega)).mono ?_
  rintro e w4 ⟨p', n', c', r, rfl, hx, hb, hn, hco⟩
  exact ⟨p', n', c', rfl, p', n', c', r, rfl, hk.ext.trans hx, OwnS.base_le hb hk.ext.size, hn, by rw [hco]; show sa (sa sz (co bs)) (co cs) = _; rw [sz_sa]⟩

theorem OwnB.base_le {w : World} {base base' : Nat} {p : Option Addr} {n c : Nat} {bs : List UInt8} (h : OwnB w base p n c bs) (hb : base' ≤ base) : OwnB w base' p n c bs := OwnS.base_le h hb
theorem OwnB.ext {w w' : World} {base : Nat} {p : Option Addr} {n c : Nat} {bs : List UInt8} (h : OwnB w base p n c bs) (hu : Ext w w') : OwnB w' base p n c bs := OwnS.ext h hu

/-! ## a polynomial times a number and a power of x -/
set_option maxHeartbeats 1000000 in
theorem pscaled_spec {f p : Option Addr} {n c t : Nat} {w : World} {bs : List UInt8} (hf : FieldAt w f) (h : BytesAt w p n bs) (hn : n ≤ 1073741824) (ht : t ≤ 1073741824) (x : UInt8) :
    Calls Try.prog 63 #[.pointer f, .slice p n c, vb x, .int .i64 (t : Int)] w fun e w' => ∃ p' c' r, e = .returned (.slice p' (t + n) c') ∧ Ext w w' ∧ OwnB w' w.heap.size p' (t + n) c' r ∧ co r = sh t (sm x (co bs)) := by
  refine (F63_calls f p n c x.toNat t w (fun v w' => ∃ p' c' r, v = .slice p' (t + n) c' ∧ Ext w w' ∧ OwnB w' w.heap.size p' (t + n) c' r ∧ co r = sh t (sm x (co bs)))
    (fun q _ _ _ _ i w1 => 0 ≤ i ∧ i ≤ n ∧ Ext w w1 ∧ ∃ r, OwnB w1 w.heap.size q (t + n) (t + n) r ∧ ∀ j, co r j = if t ≤ j ∧ (j : Int) < t + i then gm x (co bs (j - t)) else 0) (fun _ _ _ _ _ i _ => (n - i).toNat) ?_).mono (by
    rintro e w' ⟨v, rfl, p', c', r, rfl, h⟩; exact ⟨p', c', r, rfl, h⟩)
  have hl := h.1
  unfold F63
  have hw : IntKind.i64.wrap ((t : Int) + (n : Int)) = (t : Int) + (n : Int) := w64 (by omega)
  have hT : ((t : Int) + (n : Int)).toNat = t + n := by omega
  rw [hw, hT]
  refine ⟨⟨by omega, by omega, by omega⟩, fun k w3 hk => ?_⟩
  have h3 : OwnB w3 w.heap.size (some (at0 k)) (t + n) (t + n) (List.replicate (t + n) 0) := OwnB.made hk (by rw [hk.size.1]; exact Nat.le_refl _) (by unfold maxLen; omega)
  refine ⟨⟨by omega, by omega, hk.ext, _, h3, fun j => ?_⟩, ?_⟩
  · rw [if_neg (by omega)]
    simp only [Gf.co, List.getD_eq_getElem?_getD, List.getElem?_replicate]
    split <;> rfl
  rintro i w1 ⟨hi0, hi1, hx1, r, ho, hr⟩
  intros
  refine condB_of (fun hs => ?_) (fun hs => ?_)
  · simp only [decide_eq_true_eq] at hs
    obtain ⟨a, rfl, ha⟩ := BytesAt.co (h.ext hx1) (i := i.toNat) (by omega)
    refine ⟨⟨hi0, hs⟩, _, by rw [Nat.mul_one]; exact ha, ?_⟩
    refine (fmul_spec (hf.ext hx1) _ _).mono ?_
    rintro e w2 ⟨rfl, hx2⟩
    rw [w64 (n := (t : Int) + i) (by omega), w64 (n := i + 1) (by omega)]
    obtain ⟨k', hk', hb', hlive, _, hset⟩ := OwnB.at (OwnB.ext ho hx2) (i := t + i.toNat) (by omega)
    simp only [Option.some.injEq, at0, Addr.mk.injEq, and_true] at hk'
    subst hk'
    have e1 : ((t : Int) + i).toNat = t + i.toNat := by omega
    rw [e1, Nat.mul_one]
    refine ⟨_, rfl, ⟨by omega, by omega⟩, hlive, fun w4 hs4 => ?_⟩
    obtain ⟨ho4, hu4⟩ := hset _ _ hs4
    have hlen := OwnB.len ho
    refine ⟨⟨by omega, by omega, OwnB.new_ext (hx1.trans hx2) hu4 (fun y hy => by omega), _, ho4, fun j => ?_⟩, by show ((n : Int) - (i + 1)).toNat < ((n : Int) - i).toNat; omega⟩
    rw [co_set (by omega)]
    by_cases hj : j = t + i.toNat
    · subst hj
      rw [if_pos rfl, if_pos (by omega), gm_comm, show t + i.toNat - t = i.toNat by omega]
    · rw [if_neg hj, hr]
      by_cases h5 : t ≤ j ∧ (j : Int) < t + i
      · rw [if_pos h5, if_pos (by omega)]
      · rw [if_neg h5, if_neg (by omega)]
  · simp only [decide_eq_false_iff_not] at hs
    refine ⟨_, _, r, rfl, hx1, ho, funext fun j => ?_⟩
    rw [hr]
    unfold sh sm
    by_cases h5 : j < t
    · rw [if_pos h5, if_neg (by omega)]
    · rw [if_neg h5]
      by_cases h6 : (j : Int) < t + i
      · rw [if_pos ⟨by omega, h6⟩]
      · rw [if_neg (by omega), co_out (p := bs) (by omega), gm_zero]
end Go.Proofs.Ytpmkjpgoekjcfaa
