/- A word is put right: what is said of it. -/
import Derived.Test.YtpmkjpgoekjcfaaH12
namespace Go.Proofs.Ytpmkjpgoekjcfaa
open Go Go.Vc Go.Gf

/-! ## flags, places -/
def FlagsAt (w : World) (p : Option Addr) (l : Nat) (ks : List Bool) : Prop := l = ks.length ∧ CellsAt w p (ks.map Value.bool)
theorem FlagsAt.ext {w w' : World} {p : Option Addr} {l : Nat} {ks : List Bool} (h : FlagsAt w p l ks) (hu : Ext w w') : FlagsAt w' p l ks := ⟨h.1, h.2.ext hu⟩
theorem FlagsAt.get {w : World} {p : Option Addr} {l : Nat} {ks : List Bool} (h : FlagsAt w p l ks) {i : Nat} (hi : i < l) : ∃ a, p = some a ∧ w.cell? (a.add i) = some (.bool (ks.getD i false)) := by
  have hlt : i < ks.length := by rw [← h.1]; exact hi
  obtain ⟨a, ha, hc⟩ := h.2 i (.bool ks[i]) (by simp [hlt])
  exact ⟨a, ha, by rw [hc]; simp [List.getD_eq_getElem?_getD, hlt]⟩

def encN (l : List Nat) : List Value := l.map fun (i : Nat) => Value.int .i64 (i : Int)
theorem encN_length (l : List Nat) : (encN l).length = l.length := by simp [encN]
theorem elemN : ElemOf Try.prog 28 3 1 8 := ⟨by kernel_rfl, ⟨Try.t3, .int .i64 0, by kernel_rfl, by kernel_rfl, by kernel_rfl, by kernel_rfl, by kernel_rfl⟩, by omega⟩
abbrev OwnN (w : World) (base : Nat) (p : Option Addr) (n c : Nat) (l : List Nat) : Prop := OwnS w base 3 1 p n c (encN l)
theorem OwnN.len {w : World} {base : Nat} {p : Option Addr} {n c : Nat} {l : List Nat} (h : OwnN w base p n c l) : n = l.length := by have := OwnS.length h; rw [encN_length] at this; omega
theorem OwnS.blk {w : World} {base : Nat} {e : TypeId} {sz : Nat} {p : Option Addr} {n c : Nat} {xs : List Value} (h : OwnS w base e sz p n c xs) {x : Nat} (hp : p = some (at0 x)) : base ≤ x := by
  subst hp
  rcases h.where_ with ⟨h, _⟩ | ⟨g, h, hb, _⟩
  · cases h
  · simp only [Option.some.injEq, at0, Addr.mk.injEq, and_true] at h
    omega
/-- what a call owns stays where rows of another type are written -/
theorem OwnS.other {S : Nat → Prop} {w w' : World} {base : Nat} {e : TypeId} {sz : Nat} {p : Option Addr} {n c : Nat} {xs : List Value} (h : OwnS w base e sz p n c xs) (hu : Upd S w w')
    (hS : ∀ x, S x → ∃ (cs : Array Value) (e' : TypeId) (fz : Nat × Nat), w.heap[x]? = some (Obj.cells cs e' fz) ∧ e' ≠ e) : OwnS w' base e sz p n c xs := by
  refine OwnS.upd h hu fun g hg hs => ?_
  obtain ⟨cs, e', fz, h1, h2⟩ := hS g hs
  obtain ⟨cs', e'', fz', h3, h4⟩ := OwnS.typed h hg
  rw [h1] at h3
  cases h3
  exact h2 h4
theorem OwnN.push {w w1 : World} {base : Nat} {p : Option Addr} {n c k : Nat} {l : List Nat} {b : Nat} (h : OwnN w base p n c l) (hk : NewB w k (.cells #[.int .i64 (b : Int)] 3) w1) (hbase : base ≤ w.heap.size) (hn : n ≤ 1073741824) :
    ∃ p' c' w2, Sem.run Try.prog (Builtin.append_ #[28, 28] 28 #[.slice p n c, .slice (some (at0 k)) 1 1]) w1 = .ok (.slice p' (n + 1) c') w2 ∧ OwnN w2 base p' (n + 1) c' (l ++ [b]) ∧
      Upd (fun x => p = some (at0 x)) w w2 := by
  have h1 : OwnS w1 base 3 1 p n c (encN l) := OwnS.ext h hk.ext
  have hq : CellsAt w1 (some (at0 k)) (encN [b]) := by
    intro j u hj
    refine ⟨_, rfl, hk.row.row.cell ?_⟩
    simpa [encN] using hj
  obtain ⟨p', c', w2, hr, ho, hu, _⟩ := h1.append elemN 28 (q := some (at0 k)) (m := 1) (d := 1) (news := encN [b]) rfl hq (fun h => by cases h) (fun u hu => by
    obtain ⟨_, _, rfl⟩ := List.mem_map.1 hu; rfl) (by unfold maxLen; omega) (by omega) (by rw [hk.size.2]; omega)
  refine ⟨p', c', w2, hr, ?_, Upd.trans hk.ext.upd hu fun x _ hx => hx⟩
  have : encN l ++ encN [b] = encN (l ++ [b]) := by simp [encN]
  rw [this] at ho
  exact ho

/-- an append keeps the row, or makes a new one -/
theorem push_where {P : Program} {t e : TypeId} {sz bytes : Nat} (E : ElemOf P t e sz bytes) (ty : TypeId) {w : World} {base : Nat} {p : Option Addr} {n c : Nat} {xs : List Value} (h : OwnS w base e sz p n c xs)
    {a : Addr} {m d : Nat} {news : List Value} (hl : news.length = m * sz) (hq : CellsAt w (some a) news) (h1 : ∀ u ∈ news, u.oneCell' = true) (hm : 0 < m) (h63 : n + m ≤ maxLen)
    (hbytes : (n + m) * bytes ≤ 140737488355328) {p' : Option Addr} {l' c' : Nat} {w' : World} (hr : (Builtin.append_ #[t, t] ty #[.slice p n c, .slice (some a) m d]).run P w = .ok (.slice p' l' c') w') :
    p' = p ∨ p' = some (at0 w.heap.size) := by
  obtain ⟨i, z, hi, hz, hs, hb, hzs⟩ := E.hi
  subst hs
  subst hb
  have hsmall : n + m ≤ 9223372036854775807 := by simp only [maxLen] at h63; omega
  have hnews : ∀ j u, news[j]? = some u → w.cell? (a.add j) = some u := by
    intro j u hj
    obtain ⟨a', ha, hc⟩ := hq j u hj
    cases ha; exact hc
  rcases h.where_ with ⟨rfl, rfl, rfl⟩ | ⟨g, rfl, hge, hlt, hnc, cur, hg, hcs, htake⟩
  · have hr2 := run_append_nil (P := P) w t ty e i z E.ht hi hz a m d news hl hnews (by omega) (by omega) (by have hb := hbytes; simp only [Nat.zero_add] at hb; omega)
    rw [hr] at hr2
    simp only [Result.ok.injEq, Value.slice.injEq] at hr2
    exact .inr hr2.1.1
  · by_cases hroom : n + m ≤ c
    · have hfit : n * i.size + news.length ≤ cur.size := by rw [hl, hcs, ← Nat.add_mul]; exact Nat.mul_le_mul_right _ hroom
      have hr2 := run_append_room (P := P) w t ty e i E.ht hi g n c cur hg a m d news hl hnews h1 hroom hfit
      rw [show (some (at0 g) : Option Addr) = some ⟨g, 0, none⟩ from rfl] at hr
      rw [hr] at hr2
      simp only [Result.ok.injEq, Value.slice.injEq] at hr2
      exact .inl hr2.1.1
    · have holds : ∀ j u, xs[j]? = some u → w.cell? ((⟨g, 0, none⟩ : Addr).add j) = some u := by
        intro j u hj
        obtain ⟨a', ha, hc⟩ := h.cells j u hj
        cases ha; exact hc
      have hr2 := run_append_grow (P := P) w t ty e i z E.ht hi hz ⟨g, 0, none⟩ n c xs h.length holds a m d news hl hnews (by omega) (by omega) (growslice_fits (by omega) hbytes)
      rw [show (some (at0 g) : Option Addr) = some ⟨g, 0, none⟩ from rfl] at hr
      rw [hr] at hr2
      simp only [Result.ok.injEq, Value.slice.injEq] at hr2
      exact .inr hr2.1.1
/-- one byte more, apart from what lay apart -/
theorem OwnB.push2 {w w1 : World} {base : Nat} {p : Option Addr} {n c k : Nat} {bs : List UInt8} {b : UInt8} (h : OwnB w base p n c bs) (hk : NewB w k (.cells #[vb b] 5) w1) (hbase : base ≤ w.heap.size) (hn : n ≤ 1073741824) :
    ∃ p' c' w2, Sem.run Try.prog (Builtin.append_ #[22, 22] 22 #[.slice p n c, .slice (some (at0 k)) 1 1]) w1 = .ok (.slice p' (n + 1) c') w2 ∧ OwnB w2 base p' (n + 1) c' (bs ++ [b]) ∧
      Upd (fun x => p = some (at0 x)) w w2 ∧ ∀ x, x < w.heap.size → Away p x → Away p' x := by
  obtain ⟨p', c', w2, hr, ho, hu⟩ := OwnB.push h hk hbase (by omega)
  have hq : CellsAt w1 (some (at0 k)) (encB [b]) := by
    intro j u hj
    refine ⟨_, rfl, hk.row.row.cell ?_⟩
    simpa [encB] using hj
  have hw := push_where elemY 22 (OwnS.ext h hk.ext) (news := encB [b]) (m := 1) (d := 1) rfl hq (encB_one _) (by omega) (by unfold maxLen; omega) (by omega) hr
  refine ⟨p', c', w2, hr, ho, hu, fun x hx ha => ?_⟩
  rcases hw with rfl | rfl
  · exact ha
  · intro a e he
    cases e
    have : w1.heap.size = x := he
    rw [hk.size.2] at this
    omega

/-- what a word put right is told as -/
def wordP (w : World) (k m : Int) (l4 l5 : Nat) (bs : List UInt8) (ms : List Bool) (v : Value) (w' : World) : Prop := Ext w w' ∧
  ((¬ kmOk k m ∧ v = .tuple #[.slice none 0 0, .slice none 0 0, .int .i64 50]) ∨
   (kmOk k m ∧ ¬ ((l4 : Int) = k + m ∧ (l5 : Int) = k + m) ∧ v = .tuple #[.slice none 0 0, .slice none 0 0, .int .i64 60]) ∨
   kmOk k m ∧ (l4 : Int) = k + m ∧ (l5 : Int) = k + m ∧ ((decM k.toNat m.toNat bs ms = none ∧ v = .tuple #[.slice none 0 0, .slice none 0 0, .int .i64 100]) ∨
    ∃ c, decM k.toNat m.toNat bs ms = some c ∧ ∃ p1 c1 p2 n2 c2, v = .tuple #[.slice p1 l4 c1, .slice p2 n2 c2, .int .i64 0] ∧ OwnB w' w.heap.size p1 l4 c1 c ∧ OwnN w' w.heap.size p2 n2 c2 (dif (k.toNat + m.toNat) ms c bs)))

/-- while the missing bytes are struck -/
def WordI0 (w : World) (k m n : Nat) (bs : List UInt8) (ms : List Bool) (p8 : Option Addr) (l8 c8 : Nat) (p12 : Option Addr) (l12 c12 : Nat) (p24 : Option Addr) (l24 c24 : Nat) (i : Int) (w1 : World) : Prop :=
  0 ≤ i ∧ i ≤ n ∧ ∃ w6, Ext w w6 ∧ Ext w6 w1 ∧ ∃ ko z kn W, p12 = some (at0 ko) ∧ OwnB w1 w6.heap.size p12 l12 c12 z ∧ l12 = n ∧ OwnB w1 w6.heap.size p24 l24 c24 kn ∧ Away p24 ko ∧ OwnB w6 w.heap.size p8 l8 c8 W ∧ l8 = n ∧
    (∀ j, j < n → co W j = wgt k m j) ∧ (∀ j : Nat, j < n → co z j = if (j : Int) < i ∧ ms.getD j false = true then 0 else co bs j) ∧ kn = (mis i.toNat ms).map pt
/-- while the bytes are put right -/
def WordI1 (w : World) (k m n : Nat) (bs : List UInt8) (ms : List Bool) (p8 : Option Addr) (l8 c8 : Nat) (p12 : Option Addr) (l12 c12 : Nat) (p61 : Option Addr) (l61 c61 : Nat) (p65 : Option Addr) (l65 c65 : Nat) (p68 : Option Addr) (l68 c68 : Nat)
    (p85 : Option Addr) (l85 c85 : Nat) (rt i : Int) (w1 : World) : Prop :=
  0 ≤ i ∧ i ≤ n ∧ Ext w w1 ∧ ∃ ko z W T g P b o full slope out, p12 = some (at0 ko) ∧ WordIn k m bs z ms T g P ∧ Gf.Found m (mis (k + m) ms).length (co P) b o ∧ Normal full ∧ co full = act b (co g) ∧ co slope = der (co full) ∧
    OwnB w1 w.heap.size p12 l12 c12 out ∧ l12 = n ∧ OwnB w1 w.heap.size p8 l8 c8 W ∧ l8 = n ∧ Away p8 ko ∧ (∀ j, j < n → co W j = wgt k m j) ∧ OwnB w1 w.heap.size p61 l61 c61 o ∧ Away p61 ko ∧ l61 ≤ 4096 ∧ OwnB w1 w.heap.size p65 l65 c65 full ∧ Away p65 ko ∧ l65 ≤ 4096 ∧
    OwnB w1 w.heap.size p68 l68 c68 slope ∧ Away p68 ko ∧ l68 ≤ 4096 ∧ (∀ j : Nat, j < n → co out j = if (j : Int) < i then fixd k m z full o slope j else co z j) ∧ OwnN w1 w.heap.size p85 l85 c85 (wrg i.toNat ms full) ∧ rt = ((zer i.toNat full).length : Int)
end Go.Proofs.Ytpmkjpgoekjcfaa
