/- The document's catalog: Apply, its ends. -/
import Derived.Test.YtclkoojcibgcdaaQ9
namespace Go.Proofs.Ytclkoojcibgcdaa
open Go Go.Vc

/-- what the document's catalog does: its own block is written, all else is new -/
structure StepR (b : Nat) (F F' : Nat → Prop) (w w' : World) : Prop where
  upd : Upd (fun x => x = b) w w'
  grow : ∀ x, F' x → F x ∨ w.heap.size ≤ x
theorem StepR.ext {b : Nat} {F : Nat → Prop} {w w' : World} (h : Ext w w') : StepR b F F w w' := ⟨h.mono fun _ _ h => h.elim, fun _ h => .inl h⟩

theorem del_fin {w w' : World} {G : Nat → Prop} {O : List Ob} {vs : List Value} {i j : Nat} (hvl : vs.length = O.length) (hvs : ∀ (i : Nat) (v : Value) (o : Ob), vs[i]? = some v → O[i]? = some o → StV w G v o)
    (hx : Ext w w') {base : Nat} (hb : w.heap.size ≤ base) {p' : Option Addr} {n' c' : Nat} (hi : i ≤ O.length) (ho : OwnS w' base 52 4 p' n' c' ([] ++ (objCells vs O).take (i * 4) ++ (objCells vs O).drop (j * 4))) :
    n' ≤ c' ∧ RefO w' (fun x => G x ∨ (w.heap.size ≤ x ∧ x < w'.heap.size)) p' n' (O.take i ++ O.drop j) := by
  rw [objCells_take i hvl, objCells_drop j hvl] at ho
  have e1 : [] ++ objCells (vs.take i) (O.take i) ++ objCells (vs.drop j) (O.drop j) = objCells (vs.take i ++ vs.drop j) (O.take i ++ O.drop j) := by
    rw [objCells_app (by simp [hvl]), List.nil_append]
  rw [e1] at ho
  have hll : (vs.take i ++ vs.drop j).length = (O.take i ++ O.drop j).length := by simp [hvl]
  refine ⟨?_, RefO.of ?_ hll ?_ ho.cells ?_⟩
  · rcases ho.where_ with ⟨_, h0, h1⟩ | ⟨g, _, _, _, h1, _⟩
    · omega
    · exact h1
  · have := ho.length
    rw [objCells_length hll] at this
    omega
  · intro t v' o' h1 h2
    refine StV.mono (StV.upd (S := fun _ => False) (G := G) ?_ hx fun _ _ h => h) fun x hx => .inl hx
    by_cases ht : t < i
    · rw [List.getElem?_append_left (by simp; omega), List.getElem?_take_of_lt ht] at h1 h2
      exact hvs t v' o' h1 h2
    · rw [List.getElem?_append_right (by simp; omega)] at h1 h2
      have l1 : (vs.take i).length = i := by simp; omega
      have l2 : (O.take i).length = i := by simp; omega
      rw [l1, List.getElem?_drop] at h1
      rw [l2, List.getElem?_drop] at h2
      exact hvs _ v' o' h1 h2
  · intro a hpa _
    rcases ho.where_ with ⟨h1, _⟩ | ⟨g, h1, hge, hlt, _⟩
    · rw [h1] at hpa; cases hpa
    · rw [h1] at hpa; cases hpa
      exact .inr ⟨Nat.le_trans hb hge, (by simpa [at0] using hlt)⟩

set_option maxHeartbeats 1000000 in
theorem apply_A2 {w wx : World} {b : Nat} {g : Geo} {O : List Ob} {F : Nat → Prop} (h : RCat w b g O F) (hx : Ext w wx) {kx : Nat} (hkx : w.heap.size ≤ kx) (hr : RowW wx kx #[.string ⟨#[]⟩, .int .i64 0, .int .i64 0, .slice none 0 0])
    {k : ByteArray} {n epoch : Int} {p' : Option Addr} {l' c' : Nat} {st : List Int} (hn : n ≤ 9223372036854775807) (hst : IntsAt wx p' l' st) (hp : ∀ a, p' = some a → st ≠ [] → w.heap.size ≤ a.block ∧ a.block ≠ kx) (hl : l' ≤ 4611686018427387904)
    (hfull : ¬ FullO g O k) {R : Value → World → Prop} (hbad : ∀ w', ¬ FitsO g O ⟨k, n, epoch, st⟩ → Ext w w' → R (.int .i64 1) w')
    (hgood : ∀ w' F', FitsO g O ⟨k, n, epoch, st⟩ → StepR b F F' w w' → RCat w' b g (insO ⟨k, n, epoch, st⟩ O) F' → R (.int .i64 0) w') : F38_A2 wx kx k n epoch p' l' c' (some (at0 b)) R := by
  refine fill4 (v0 := .string k) (v1 := .int .i64 n) (v2 := .int .i64 epoch) (v3 := .slice p' l' c') hx hkx hr fun w4 x4 u4 r4 => ?_
  have hst4 : IntsAt w4 p' l' st := ⟨hst.1, hst.2.upd u4 fun a ha hne => by
    refine (hp a ha ?_).2
    rintro h0
    rw [h0] at hne
    exact hne rfl⟩
  refine ⟨_, r4.row.cell (n := 0) rfl, _, r4.row.cell rfl, _, r4.row.cell rfl, _, _, _, r4.row.cell rfl, (rfits_spec (h.ext x4) k n hn epoch hst4 hl).mono ?_⟩
  rintro e w137 ⟨rfl, x137⟩
  have y137 := x4.trans x137
  refine ⟨_, rfl, condB_of (fun hb => hbad _ ?_ y137) fun hfit => fun w140 d140 => ?_⟩
  · simpa using hb
  simp only [Bool.not_eq_false', decide_eq_true_eq] at hfit
  have x140 := y137.trans d140.ext
  have h140 := h.ext x140
  obtain ⟨p1, l1, c1, G, hr140, hO, hG, hFb, hlc⟩ := h140.is
  have r140 : RowW w140 kx _ := (x137.trans d140.ext).rowW r4 id
  have hst140 := hst4.ext (x137.trans d140.ext)
  have h256 : st.length ≤ 256 := hfit.1.1.2.2.2
  have hO' : RefO w140 (fun x => G x ∨ (w.heap.size ≤ x ∧ x < w140.heap.size)) p1 l1 O := ⟨hO.1, fun i o hi => by
    obtain ⟨a, q, n, c, h1, h2, h3, h4, h5, h6, h7, h8, h9⟩ := hO.2 i o hi
    exact ⟨a, q, n, c, h1, .inl h2, h3, h4, h5, h6, h7, fun a' ha hne => .inl (h8 a' ha hne), h9⟩⟩
  have hsv : StV w140 (fun x => G x ∨ (w.heap.size ≤ x ∧ x < w140.heap.size)) (.slice p' l' c') ⟨k, n, epoch, st⟩ := ⟨p', l', c', rfl, hst140, fun a' ha hne => .inr ⟨(hp a' ha hne).1, ints_block hst140 a' ha hne⟩, by have := hst.1; omega⟩
  have hgeo := h.ok.geo
  unfold GeoOk at hgeo
  have hfew := h.ok.few
  refine ⟨_, _, _, hr140.row.cell rfl, _, r140.row.cell (n := 0) rfl, _, r140.row.cell rfl, _, r140.row.cell rfl, _, _, _, r140.row.cell rfl, (rwith_spec hO' hlc hO'.none h.ok.asc (by omega) ⟨k, n, epoch, st⟩ hsv).mono ?_⟩
  rintro e w147 ⟨p2, l2, c2, rfl, x147, hlc', hO147⟩
  have r147 := x147.rowW hr140 id
  refine ⟨_, _, _, rfl, r147.live (n := 6) (by simp [gRow]), fun w151 s151 => ?_⟩
  have hbw := h.lt b (by exact hFb)
  have z140 := x140.size
  have z147 := x147.size
  have hG1 : ∀ x, ((G x ∨ (w.heap.size ≤ x ∧ x < w140.heap.size)) ∨ (w140.heap.size ≤ x ∧ x < w147.heap.size)) → (F x ∨ (w.heap.size ≤ x ∧ x < w147.heap.size)) ∧ x ≠ b := by
    rintro x ((hx | hx) | hx)
    · exact ⟨.inl (hG x hx).1, (hG x hx).2⟩
    · exact ⟨.inr (by omega), by omega⟩
    · exact ⟨.inr (by omega), by omega⟩
  have hlt1 : ∀ x, (F x ∨ (w.heap.size ≤ x ∧ x < w147.heap.size)) → x < w147.heap.size := by
    rintro x (hx | hx)
    · have := h.lt x hx; omega
    · omega
  obtain ⟨h151, u151⟩ := RCat.set r147 s151 hO147 hG1 (.inl hFb) hlc' hlt1 (h.ok.ins hfit hfull)
  refine hgood _ _ hfit ⟨Upd.trans ((x140.trans x147).mono fun _ _ h => h.elim) u151 fun x _ hs => hs, ?_⟩ h151
  rintro x (hx | hx)
  · exact .inl hx
  · exact .inr hx.1
end Go.Proofs.Ytclkoojcibgcdaa
