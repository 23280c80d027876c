/- A catalog: one object told; one is made. -/
import Derived.Test.YtclkoojcibgcdaaK5
namespace Go.Proofs.Ytclkoojcibgcdaa
open Go Go.Vc

/-- what a map tells, it tells as long as it is not changed -/
theorem lookupU {κ : Type} [DecidableEq κ] {β : Type} {K : KE κ} {V : Value → β → Prop} {w : World} {m : Nat} {L : List (κ × β)} {P : Program} {t kt e : TypeId} {z : Value} (h : MapOf K V w m L) (ht : P.underlying t = some (.map kt e))
    (hk : P.underlying kt = some K.kd) (hz : zeroOf P e = some z) (k : κ) :
    (∃ x v, get k L = some x ∧ V v x ∧ ∀ w', w'.heap[m]? = w.heap[m]? → mapAt P t (.map (some m)) (K.enc k) w' v true) ∨ (get k L = none ∧ ∀ w', w'.heap[m]? = w.heap[m]? → mapAt P t (.map (some m)) (K.enc k) w' z false) := by
  obtain ⟨es, c, l, hm, hok, hp⟩ := h
  have hg := get_perm (k := k) hp hok.keys
  have hc : ∀ (w : World) (b : Bool), (Instr.checkKey b 10000 kt (K.enc k)).run P w = .ok () w := fun w b => checkKey_run hk b k 9999 w
  rcases findNow_spec k 0 hok.ents with ⟨h1, h2⟩ | ⟨x, j, e', pre, post, lpre, lpost, h1, _, _, rfl, _, _, h7, _, h9⟩
  · right
    refine ⟨hg ▸ h1, fun w' hw => ?_⟩
    rw [hm] at hw
    refine ⟨?_, ?_⟩
    · simp only [Instr.lookup, Sem.run_bind, run_underlying' ht, Result.andThen, Go.Vc.run_getObj_map hw, Sem.run_pure, hc, findKey_run hk h2, zero_run hz]
      rfl
    · simp only [Instr.lookup, Sem.run_bind, run_underlying' ht, Result.andThen, Go.Vc.run_getObj_map hw, Sem.run_pure, hc, findKey_run hk h2, zero_run hz]
      rfl
  · left
    refine ⟨x, e'.val, hg ▸ h1, h7.2, fun w' hw => ?_⟩
    rw [hm] at hw
    refine ⟨?_, ?_⟩
    · simp only [Instr.lookup, Sem.run_bind, run_underlying' ht, Result.andThen, Go.Vc.run_getObj_map hw, Sem.run_pure, hc, findKey_run hk h9]
      rfl
    · simp only [Instr.lookup, Sem.run_bind, run_underlying' ht, Result.andThen, Go.Vc.run_getObj_map hw, Sem.run_pure, hc, findKey_run hk h9]
      rfl

/-- an object that is told -/
def GotO (w w' : World) (r : Option Ob) (s : ByteArray) (n m : Int) (p : Option Addr) (l c : Nat) (z : Int) : Prop := match r with
  | some o => s = o.key ∧ n = o.len ∧ m = o.epoch ∧ z = 0 ∧ OwnS w' w.heap.size 3 1 p l c (encI o.st)
  | none => s = ⟨#[]⟩ ∧ n = 0 ∧ m = 0 ∧ z = 193 ∧ p = none ∧ l = 0 ∧ c = 0

section
variable {w : World} {b : Nat} {g : Geo} {O : List Ob} {F : Nat → Prop}

set_option maxHeartbeats 1000000 in
theorem get_spec (h : Cat w b g O F) (k : ByteArray) : Calls Try.prog 24 #[.pointer (some (at0 b)), .string k] w fun e w' => ∃ s n m p l c z, e = .returned (.tuple #[.agg #[.string s, .int .i64 n, .int .i64 m, .slice p l c], .int .i64 z]) ∧ Ext w w' ∧
    GotO w w' (getO k O) s n m p l c z := by
  obtain ⟨⟨m1, m2, G, hi, rfl⟩, hk⟩ := h
  refine (F24_calls (some (at0 b)) k w (fun v w' => ∃ s n m p l c z, v = .tuple #[.agg #[.string s, .int .i64 n, .int .i64 m, .slice p l c], .int .i64 z] ∧ Ext w w' ∧ GotO w w' (getO k O) s n m p l c z) ?_).mono (by
    rintro e w' ⟨v, rfl, s, n, m, p, l, c, z, rfl, h⟩; exact ⟨s, n, m, p, l, c, z, rfl, h⟩)
  intro k3 w4 hk3
  have r4 : RowW w4 k3 _ := ⟨_, hk3.at⟩
  have x4 := hk3.ext
  have hks := hk3.size
  refine condB_of (fun h => by cases h) fun _ => ?_
  have h4 := hi.ext x4
  refine ⟨_, h4.row.row.cell rfl, ?_⟩
  rcases h4.objs.lookup mapSO strT zeroOb k with ⟨o, v, hget, ⟨p, n, c, rfl, hst, hG, hn, hpn⟩, hl⟩ | ⟨hno, hl⟩
  · refine ⟨_, _, _, p, n, c, true, hl, fun k20 w21 hk20 => ?_⟩
    have hk20' := hk20.size
    have r21 : RowW w21 k20 _ := ⟨_, hk20.at⟩
    refine fill4 hk20.ext (by omega) r21 fun w25 x25 _ r25 => ?_
    refine condB_of (fun h => by cases h) fun _ => ⟨_, _, _, r25.row.cell rfl, (clonei_spec (hst.ext x25) (by omega) hpn).mono ?_⟩
    rintro e w35 ⟨p37, c37, rfl, x35, own35⟩
    have r35 := x35.rowW r25 id
    refine ⟨_, _, _, rfl, r35.live (by simp), fun w38 s38 => ?_⟩
    have r38 := s38.row r35
    have x38 : Ext w4 w38 := setc_newk (x25.trans x35) (by omega) s38
    refine ⟨_, r38.row.cell (n := 0) rfl, _, r38.row.cell rfl, _, r38.row.cell rfl, _, _, _, r38.row.cell rfl, ?_⟩
    have r3 := x38.rowW r4 id
    refine fill4 (x4.trans x38) (by omega) r3 fun w46 x46 u46 r46 => ?_
    have u38 : Upd (fun x => x = k20) w35 w38 := by
      have := s38.upd
      rw [add_at0] at this
      exact this
    have z25 := x25.size
    refine ⟨_, r46.row.cell (n := 0) rfl, _, r46.row.cell rfl, _, r46.row.cell rfl, _, _, _, r46.row.cell rfl, _, _, _, _, _, _, _, rfl, x46, ?_⟩
    have hg : getO k O = some o := hget
    rw [hg]
    have far : ∀ g, p37 = some (at0 g) → w25.heap.size ≤ g := fun g hg => by
      rcases own35.where_ with ⟨h0, _⟩ | ⟨g', h0, hge, _⟩
      · rw [h0] at hg; cases hg
      · rw [h0] at hg
        simp only [Option.some.injEq, at0, Addr.mk.injEq, and_true] at hg
        omega
    have z21 := hk20.ext.size
    refine ⟨rfl, rfl, rfl, rfl, ((own35.upd u38 fun g hg e => ?_).upd u46 fun g hg e => ?_).base_le (by omega)⟩
    · have := far g hg
      have hlt := r25.lt
      omega
    · have := far g hg; omega
  · refine ⟨_, _, _, none, 0, 0, false, hl, fun k20 w21 hk20 => ?_⟩
    have hk20' := hk20.size
    have r21 : RowW w21 k20 _ := ⟨_, hk20.at⟩
    refine fill4 hk20.ext (by omega) r21 fun w25 x25 _ r25 => ?_
    refine condB_of (fun _ => ?_) fun h => by cases h
    have r3 := x25.rowW r4 id
    refine fill4 (x4.trans x25) (by omega) r3 fun w29 x29 _ r29 => ?_
    refine ⟨_, r29.row.cell (n := 0) rfl, _, r29.row.cell rfl, _, r29.row.cell rfl, _, _, _, r29.row.cell rfl, _, _, _, _, _, _, _, rfl, x29, ?_⟩
    have hg : getO k O = none := hno
    rw [hg]
    exact ⟨rfl, rfl, rfl, rfl, rfl, rfl, rfl⟩
end

/-- objects as they lie in a slice -/
def ObsR (w : World) (p : Option Addr) (l : Nat) (L : List Ob) : Prop :=
  l = L.length ∧ ∀ i o, L[i]? = some o → ∃ a q n d, p = some a ∧ w.cell? (a.add (i * 4)) = some (.string o.key) ∧ w.cell? ((a.add (i * 4)).add 1) = some (.int .i64 o.len) ∧ w.cell? ((a.add (i * 4)).add 2) = some (.int .i64 o.epoch) ∧
    w.cell? ((a.add (i * 4)).add 3) = some (.slice q n d) ∧ IntsAt w q n o.st ∧ n ≤ d ∧ (q = none → n = 0) ∧ o.len ≤ 9223372036854775807
theorem cellk {w w' : World} {a : Addr} {v : Value} (h : w.cell? a = some v) (hu : Ext w w') : w'.cell? a = some v := hu.cell h id
theorem ObsR.ext {w w' : World} {p : Option Addr} {l : Nat} {L : List Ob} (h : ObsR w p l L) (hu : Ext w w') : ObsR w' p l L :=
  ⟨h.1, fun i o hi => by
    obtain ⟨a, q, n, d, h1, h2, h3, h4, h5, h6, h7⟩ := h.2 i o hi
    exact ⟨a, q, n, d, h1, cellk h2 hu, cellk h3 hu, cellk h4 hu, cellk h5 hu, h6.ext hu, h7⟩⟩

/-- objects put in one behind the other -/
def addO' (g : Geo) : List Ob → List Ob → Option (List Ob)
  | O, [] => some O
  | O, o :: L => if getO o.key O = none ∧ FitsO g O o then addO' g (insO o O) L else none
def newO (g : Geo) (L : List Ob) : Option (List Ob) := addO' g [] L
theorem addO'_app (g : Geo) : ∀ (L M O : List Ob), addO' g O (L ++ M) = (addO' g O L).bind fun O' => addO' g O' M
  | [], M, O => rfl
  | o :: L, M, O => by
    simp only [List.cons_append, addO']
    split
    · exact addO'_app g L M _
    · rfl
theorem addO'_snoc (g : Geo) (L : List Ob) (o : Ob) (O : List Ob) : addO' g O (L ++ [o]) = (addO' g O L).bind fun O' => if getO o.key O' = none ∧ FitsO g O' o then some (insO o O') else none := by
  rw [addO'_app]
  congr 1
theorem CatOk.ins {g : Geo} {O : List Ob} (h : CatOk g O) {o : Ob} (hf : FitsO g O o) (hroom : ¬ FullO g O o.key) : CatOk g (insO o O) := by
  have hp := insO_perm o O
  refine ⟨h.geo, fun x hx => ?_, ?_, insO_asc h.asc⟩
  · rcases List.mem_cons.1 (hp.mem_iff.1 hx) with rfl | hx
    · exact hf.ob
    · exact h.obs x (List.mem_filter.1 hx).1
  · have hl := hp.length_eq
    simp only [List.length_cons] at hl
    have hle : (dropO o.key O).length ≤ O.length := List.length_filter_le _ _
    rcases hget : getO o.key O with _ | o'
    · have : ¬ g.objects ≤ (O.length : Int) := fun hg => hroom ⟨hget, hg⟩
      omega
    · obtain ⟨h1, h2⟩ := (getO_some h.asc.keys).1 hget
      have : (dropO o.key O).length < O.length := by
        unfold dropO
        apply Decidable.byContradiction
        intro hn
        have hlt : (O.filter fun y => decide (y.key ≠ o.key)).length = O.length := by
          have := List.length_filter_le (fun y : Ob => decide (y.key ≠ o.key)) O
          omega
        have := List.length_filter_eq_length_iff.1 hlt o' h1
        simp [h2] at this
      have := h.few
      omega
theorem CatOk.drop {g : Geo} {O : List Ob} (h : CatOk g O) (k : ByteArray) : CatOk g (dropO k O) := by
  refine ⟨h.geo, fun x hx => h.obs x (List.mem_filter.1 hx).1, ?_, dropO_asc h.asc⟩
  have hle : (dropO k O).length ≤ O.length := List.length_filter_le _ _
  have := h.few
  omega

set_option maxHeartbeats 4000000 in
theorem cnew_spec (g : Geo) {w : World} {p : Option Addr} {l c : Nat} {L : List Ob} (hL : ObsR w p l L) (hs : ∀ o ∈ L, o.st.length ≤ 4611686018427387904) (hll : l ≤ 4611686018427387904) :
    Calls Try.prog 13 #[gV g, .slice p l c] w fun e w' => Ext w w' ∧ ((¬ GeoOk g ∧ e = .returned (.tuple #[.pointer none, .int .i64 50])) ∨
      (GeoOk g ∧ (g.objects < (L.length : Int) ∨ newO g L = none) ∧ e = .returned (.tuple #[.pointer none, .int .i64 1])) ∨
      (GeoOk g ∧ (L.length : Int) ≤ g.objects ∧ ∃ b O F, newO g L = some O ∧ e = .returned (.tuple #[.pointer (some (at0 b)), .int .i64 0]) ∧ Cat w' b g O F ∧ ∀ x, F x → w.heap.size ≤ x)) := by
  have hlen := hL.1
  refine (F13_calls g.k g.m g.size g.stripes g.slots g.objects p l c w (fun v w' => Ext w w' ∧ ((¬ GeoOk g ∧ v = .tuple #[.pointer none, .int .i64 50]) ∨
      (GeoOk g ∧ (g.objects < (L.length : Int) ∨ newO g L = none) ∧ v = .tuple #[.pointer none, .int .i64 1]) ∨
      (GeoOk g ∧ (L.length : Int) ≤ g.objects ∧ ∃ b O F, newO g L = some O ∧ v = .tuple #[.pointer (some (at0 b)), .int .i64 0] ∧ Cat w' b g O F ∧ ∀ x, F x → w.heap.size ≤ x)))
    (fun q _ _ _ _ _ n w38 => ∃ (b i m1 m2 : Nat) (G : Nat → Prop) (O : List Ob), q = some (at0 b) ∧ n = i ∧ i ≤ L.length ∧ Ext w w38 ∧ newO g (L.take i) = some O ∧ O.length ≤ i ∧ IsCat w38 b g O m1 m2 G ∧ CatOk g O ∧ ∀ x, CatF b m1 m2 G x → w.heap.size ≤ x)
    (fun _ _ _ _ _ _ n _ => L.length - n.toNat) ?_).mono (by
    rintro e w' ⟨v, rfl, hx, ⟨h, rfl⟩ | ⟨h1, h2, rfl⟩ | ⟨h1, h2, b, O, F, h3, rfl, h4⟩⟩
    · exact ⟨hx, .inl ⟨h, rfl⟩⟩
    · exact ⟨hx, .inr (.inl ⟨h1, h2, rfl⟩)⟩
    · exact ⟨hx, .inr (.inr ⟨h1, h2, b, O, F, h3, rfl, h4⟩)⟩)
  intro k8 w9 hk8
  have r9 : RowW w9 k8 _ := ⟨_, hk8.at⟩
  have x9 := hk8.ext
  refine ⟨_, r9.row.cell (n := 0) rfl, _, r9.row.cell rfl, _, r9.row.cell rfl, _, r9.row.cell rfl, _, r9.row.cell rfl, _, r9.row.cell rfl, (check_spec g w9).mono ?_⟩
  rintro e w16 ⟨rfl, x16⟩
  have y16 := x9.trans x16
  have r16 := x16.rowW r9 id
  refine ⟨_, rfl, condB_of (fun h => ⟨y16, .inl ⟨fun hg => by simp [checkG, hg] at h, ?_⟩⟩) fun h1 => ?_⟩
  · have : ¬ GeoOk g := fun hg => by simp [checkG, hg] at h
    simp [checkG, this]
  have hg : GeoOk g := by
    by_cases hg : GeoOk g
    · exact hg
    · simp [checkG, hg] at h1
  refine ⟨_, r16.row.cell rfl, condB_of (fun h => ⟨y16, .inr (.inl ⟨hg, .inl ?_, rfl⟩)⟩) fun h2 => ?_⟩
  · simp only [decide_eq_true_eq] at h; omega
  simp only [decide_eq_false_iff_not] at h2
  refine ⟨_, r16.row.cell (n := 0) rfl, _, r16.row.cell rfl, _, r16.row.cell rfl, _, r16.row.cell rfl, _, r16.row.cell rfl, _, r16.row.cell rfl, fun k26 w27 hk26 k28 w29 hk28 k30 w31 hk30 => ?_⟩
  have z1 := hk26.size
  have z2 := hk28.size
  have z3 := hk30.size
  have zz := y16.size
  have y31 := ((y16.trans hk26.ext).trans hk28.ext).trans hk30.ext
  refine ⟨⟨k30, 0, k26, k28, fun _ => False, [], rfl, rfl, Nat.zero_le _, y31, rfl, Nat.le_refl _, ⟨⟨_, hk30.at⟩, (MapOf.made hk26).upd (hk28.ext.trans hk30.ext) id, (MapOf.made hk28).upd hk30.ext id, by omega, by omega, by omega, id, id, id, fun _ h => h.elim⟩, ⟨hg, fun _ h => (by cases h), ?_, by simp [KAsc]⟩, ?_⟩, ?_⟩
  · have := hg.2.2.2.2.1
    simp only [List.length_nil]; omega
  · rintro x (rfl | rfl | rfl | hx)
    · omega
    · omega
    · omega
    · exact hx.elim
  rintro n37 w38 ⟨b, i, m1, m2, G, O, hq, rfl, hi, x38, hnew, hOi, h38, hok, hF⟩
  cases hq
  intros
  refine condB_of (fun hlt => ?_) (fun hge => ?_)
  · simp only [decide_eq_true_eq] at hlt
    obtain ⟨o, ho⟩ : ∃ o, L[i]? = some o := ⟨L[i]'(by omega), List.getElem?_eq_getElem _⟩
    have hom : o ∈ L := List.mem_of_getElem? ho
    have hsn : newO g (L.take (i + 1)) = if getO o.key O = none ∧ FitsO g O o then some (insO o O) else none := by
      rw [List.take_add_one, ho]
      unfold newO at hnew ⊢
      rw [Option.toList_some, addO'_snoc, hnew]
      rfl
    have hbad : newO g (L.take (i + 1)) = none → newO g L = none := fun hn => by
      have : L = L.take (i + 1) ++ L.drop (i + 1) := (List.take_append_drop _ _).symm
      rw [this]
      unfold newO at hn ⊢
      rw [addO'_app, hn]
      rfl
    obtain ⟨a, q, n, d, rfl, c0, c1, c2, c3, hst, hnd, hq0, hlo⟩ := (hL.ext x38).2 i o ho
    rw [Int.toNat_natCast]
    refine ⟨⟨by omega, hlt⟩, _, c0, _, c1, _, c2, _, _, _, c3, fun k73 w74 hk73 => ?_⟩
    have hk73' := hk73.size
    have r74 : RowW w74 k73 _ := ⟨_, hk73.at⟩
    refine fill4 (v0 := .string o.key) (v1 := .int .i64 o.len) (v2 := .int .i64 o.epoch) (v3 := .slice q n d) hk73.ext (by omega) r74 fun w78 x78 _ r78 => ?_
    intro w79 d79
    have x79 := x78.trans d79.ext
    have r79 := d79.ext.rowW r78 id
    have h79 := h38.ext x79
    refine ⟨_, h79.row.row.cell (n := 6) rfl, _, r79.row.cell (n := 0) rfl, ?_⟩
    rcases lookupU (P := Try.prog) h79.objs mapSO strT zeroOb o.key with ⟨o', v, hget, ⟨p1, n1, c1', rfl, _⟩, hl⟩ | ⟨hno, hl⟩
    · have hg' : getO o.key O = some o' := hget
      refine ⟨_, _, _, p1, n1, c1', true, hl w79 rfl, fun k87 w88 hk87 => ?_⟩
      have h88 := h79.ext hk87.ext
      have r88 := hk87.ext.rowW r79 id
      have hh : w88.heap[m1]? = w79.heap[m1]? := hk87.ext.block m1 h79.objs.lt id
      refine ⟨⟨_, h88.row.row.cell rfl, rfl⟩, ⟨_, r88.row.cell (n := 0) rfl, rfl⟩, ⟨_, _, _, _, _, _, _, hl w88 hh, rfl⟩, ?_⟩
      have r88' : RowW w88 k87 _ := ⟨_, hk87.at⟩
      have hk87' := hk87.size
      have z79 := x79.size
      refine fill4 (w0 := w38) (x79.trans hk87.ext) (by omega) r88' fun w99 x99 _ r99 => ?_
      refine condB_of (fun _ => ⟨x38.trans x99, .inr (.inl ⟨hg, .inr (hbad ?_), rfl⟩)⟩) fun h => by cases h
      rw [hsn, if_neg (fun h => by rw [h.1] at hg'; cases hg')]
    · have hg' : getO o.key O = none := hno
      refine ⟨_, _, _, none, 0, 0, false, hl w79 rfl, fun k87 w88 hk87 => ?_⟩
      have h88 := h79.ext hk87.ext
      have r88 := hk87.ext.rowW r79 id
      have hh : w88.heap[m1]? = w79.heap[m1]? := hk87.ext.block m1 h79.objs.lt id
      refine ⟨⟨_, h88.row.row.cell rfl, rfl⟩, ⟨_, r88.row.cell (n := 0) rfl, rfl⟩, ⟨_, _, _, none, 0, 0, false, hl w88 hh, rfl⟩, ?_⟩
      have r88' : RowW w88 k87 _ := ⟨_, hk87.at⟩
      have hk87' := hk87.size
      have z79 := x79.size
      refine fill4 (w0 := w38) (x79.trans hk87.ext) (by omega) r88' fun w99 x99 u99 r99 => ?_
      refine condB_of (fun h => by cases h) fun _ => ?_
      have h99 := h38.ext x99
      have r73 : RowW w99 k73 _ := u99.rowW r88 (by have := r79.lt; omega)
      refine ⟨_, r73.row.cell (n := 0) rfl, _, r73.row.cell rfl, _, r73.row.cell rfl, _, _, _, r73.row.cell rfl, (fits_spec h99 o (hst.ext x99) (by have := hst.1; have := hs o hom; omega) hnd hlo).mono ?_⟩
      rintro e w104 ⟨rfl, x104⟩
      have x104' := x99.trans x104
      refine ⟨_, rfl, condB_of (fun h => ⟨x38.trans x104', .inr (.inl ⟨hg, .inr (hbad ?_), rfl⟩)⟩) fun hfit => ?_⟩
      · simp only [Bool.not_eq_true', decide_eq_false_iff_not] at h
        rw [hsn, if_neg (fun h' => h h'.2)]
      simp only [Bool.not_eq_false', decide_eq_true_eq] at hfit
      have r104 := x104.rowW r73 id
      have hst104 := hst.ext x104'
      refine ⟨_, r104.row.cell (n := 0) rfl, _, r104.row.cell rfl, _, r104.row.cell rfl, _, _, _, r104.row.cell rfl, (put_spec (h38.ext x104') o hst104 (by have := hst.1; have := hfit.1.1.2.2.2; omega) hq0 hfit.2.2.2.2 (fun s hs' => (hfit.2.2.2.1 s hs').1)).mono ?_⟩
      rintro e w111 ⟨rfl, G', u111, h111, hG'⟩
      rw [w64 (by omega)]
      have hdrop : dropO o.key O = O := dropO_none (getO_none.1 hg')
      rw [hdrop] at h111
      have hperm : (o :: O).Perm (insO o O) := by
        have := (insO_perm o O).symm
        rw [hdrop] at this
        exact this
      refine ⟨rfl, ⟨k30, i + 1, m1, m2, G', insO o O, rfl, by omega, by omega, ?_, by rw [hsn, if_pos ⟨hg', hfit⟩], ?_, h111.perm hperm, hok.ins hfit (fun hf => ?_), ?_⟩, by show L.length - ((i : Int) + 1).toNat < L.length - (i : Int).toNat; omega⟩
      · refine Upd.trans (x38.trans x104') u111 fun x hx hs => ?_
        have := hF x (by rcases hs with rfl | rfl; exact .inr (.inl rfl); exact .inr (.inr (.inl rfl)))
        omega
      · have := hperm.length_eq
        simp only [List.length_cons] at this
        omega
      · have := hf.2
        omega
      · rintro x (rfl | rfl | rfl | hx)
        · exact hF _ (.inl rfl)
        · exact hF _ (.inr (.inl rfl))
        · exact hF _ (.inr (.inr (.inl rfl)))
        · rcases hG' x hx with h | h
          · exact hF _ (.inr (.inr (.inr h)))
          · exact Nat.le_trans (x38.trans x104').size h
  · simp only [decide_eq_false_iff_not] at hge
    have e1 : L.take i = L := List.take_of_length_le (by omega)
    rw [e1] at hnew
    exact ⟨x38, .inr (.inr ⟨hg, by omega, k30, O, _, hnew, rfl, ⟨⟨m1, m2, G, h38, rfl⟩, hok⟩, hF⟩)⟩
end Go.Proofs.Ytclkoojcibgcdaa
