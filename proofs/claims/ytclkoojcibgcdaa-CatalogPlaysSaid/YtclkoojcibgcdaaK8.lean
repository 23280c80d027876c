/- A catalog: all objects told, by their keys. -/
import Derived.Test.YtclkoojcibgcdaaK7
import Derived.Test.YtclkoojcibgcdaaK8L
import Derived.Maps.Own
namespace Go.Proofs.Ytclkoojcibgcdaa
open Go Go.Vc Go.RowKit Go.Maps Go.Sort Go.Shelf Go.Proofs

/-- A MAP OF STRINGS AS THE KIT's MAPS READ: its keys alone. -/
theorem owns_ofS {β : Type} {V : Value → β → Prop} {P : Program} {t : TypeId} (ht : P.underlying t = some .string) {w : World} {m : Nat} {L : List (ByteArray × β)} (h : MapOf strK V w m L)
    (hk : ∀ x ∈ L, x.1.size ≤ maxLen) (hn : L.length ≤ maxLen) :
    ∃ D : DataW Unit, w.ownsMap P t (fun _ => some (.nil, [])) m L.length D ∧ (strKeys D).Perm (L.map fun x => x.1.data.toList) ∧ Maps.size D = L.length := by
  obtain ⟨es, clock, l, hm, hok, hp⟩ := h
  have hlen : es.toList.length = L.length := (hok.ents.length).trans hp.length_eq
  have hk' : ∀ x ∈ l, x.1.size ≤ maxLen := fun x hx => hk x (hp.mem_iff.1 hx)
  have hrd : ∀ (xs : List MapEntry) (bs : List (ByteArray × β)), All2 (EntOk strK V) xs bs → (∀ x ∈ bs, x.1.size ≤ maxLen) →
      (∀ a ∈ xs, ∃ y, Go.WideElems.rd (H := Unit) P t (fun _ => some (.nil, [])) a = some y) ∧ xs.map (Go.WideElems.rg (H := Unit) P t (fun _ => some (.nil, []))) = bs.map (fun x => (Lit.string x.1.data.toList, DataW.nil)) ∧
      xs.map (·.key) = bs.map fun x => Value.string x.1 := by
    intro xs bs h2
    induction h2 with
    | nil => intro _; exact ⟨fun _ h => (by cases h), rfl, rfl⟩
    | cons h1 _ ih =>
      intro hw
      rename_i a b xs' bs' _
      obtain ⟨i1, i2, i3⟩ := ih fun x hx => hw x (List.mem_cons_of_mem _ hx)
      have hkey : keyOf P t a.key = some (Lit.string b.1.data.toList) := by
        rw [h1.1]
        have := hw b List.mem_cons_self
        simp [strK, keyOf, ht, mapKey, this]
      have hr : Go.WideElems.rd (H := Unit) P t (fun _ => some (.nil, [])) a = some (Lit.string b.1.data.toList, DataW.nil) := by
        simp [Go.WideElems.rd, hkey]
      refine ⟨?_, ?_, ?_⟩
      · intro x hx
        rcases List.mem_cons.1 hx with rfl | hx
        · exact ⟨_, hr⟩
        · exact i1 x hx
      · simp only [List.map_cons, i2]
        rw [Go.WideElems.rg_of hr]
      · simp only [List.map_cons, i3, h1.1]; rfl
  obtain ⟨r1, r2, r3⟩ := hrd _ _ hok.ents hk'
  have hsort := Go.WideShapes.sorted_perm (l.map fun x => (Lit.string x.1.data.toList, (DataW.nil : DataW Unit)))
  refine ⟨_, ⟨es, clock, hm, ⟨by rw [← Array.length_toList]; omega, ⟨hok.born, hok.nodup, ?_⟩, r1⟩, by rw [← Array.length_toList]; omega, rfl⟩, ?_, ?_⟩
  · rw [r3]
    have := hok.keys
    rw [show (l.map fun x => Value.string x.1) = (l.map (·.1)).map Value.string by simp]
    exact List.Pairwise.map _ (fun a b hab h => hab (by simpa using h)) this
  · rw [r2]
    refine (hsort.map _).trans ?_
    simp only [List.map_map]
    exact hp.map _
  · rw [r2]
    simp only [Go.Maps.size]
    rw [hsort.length_eq, List.length_map]
    exact hp.length_eq

theorem sort_ascS {O : List Ob} (ha : KAsc O) {ss : List (List UInt8)} (hp : ss.Perm (O.map fun o => o.key.data.toList)) : ss.mergeSort (fun x y => decide (x ≤ y)) = O.map fun o => o.key.data.toList := by
  have tr : ∀ a b c : List UInt8, decide (a ≤ b) = true → decide (b ≤ c) = true → decide (a ≤ c) = true := fun a b c h1 h2 => by simp only [decide_eq_true_eq] at *; exact List.le_trans h1 h2
  have to : ∀ a b : List UInt8, (decide (a ≤ b) || decide (b ≤ a)) = true := fun a b => by simp only [Bool.or_eq_true, decide_eq_true_eq]; exact List.le_total a b
  refine List.Perm.eq_of_pairwise (le := fun a b => decide (a ≤ b) = true) (fun a b _ _ h1 h2 => ?_) (List.pairwise_mergeSort tr to ss) ?_ ((List.mergeSort_perm ss _).trans hp)
  · simp only [decide_eq_true_eq] at h1 h2
    exact List.le_antisymm h1 h2
  · refine List.pairwise_map.2 (ha.imp fun h => ?_)
    simp only [decide_eq_true_eq]
    exact List.not_lt.1 fun h' => kLt_irrefl _ (kLt_trans h h')

set_option maxHeartbeats 1000000 in
/-- slices.Sorted(maps.Keys(m)), of strings -/
theorem keySortS {w : World} {m : Nat} {O : List Ob} {V : Value → Ob → Prop} (hm : MapOf strK V w m (O.map fun o => (o.key, o))) (ha : KAsc O) (hr : ∀ o ∈ O, o.key.size ≤ 64) (hlen : O.length ≤ 64) :
    Calls Try.prog 44 #[.map (some m)] w fun e1 w1 => ∃ v, e1 = .returned v ∧ Calls Try.prog 43 #[v] w1 fun e w' => ∃ p l c, e = .returned (.slice p l c) ∧ Ext w w' ∧
      OwnS w' w.heap.size 9 1 p l c (O.map fun o => .string o.key) ∧ l = O.length := by
  obtain ⟨D, hown, hperm, hsize⟩ := owns_ofS (P := Try.prog) (t := 9) (by kernel_rfl) hm (fun x hx => by
    obtain ⟨o, ho, rfl⟩ := List.mem_map.1 hx
    have := hr o ho
    unfold maxLen
    show o.key.size ≤ _
    omega) (by rw [List.length_map]; unfold maxLen; omega)
  rw [List.length_map] at hown hsize
  rw [List.map_map] at hperm
  have hbl := hm.lt
  have hseq : SeqGives Fence.wide 2 Try.prog 56 #[.pointer (some ⟨w.heap.size, 0, none⟩)] encStr (fun ss => ss.Perm (strKeys D)) (Maps.size D) (w.alloc (.cells #[.map (some m)] 69)) :=
    AnyZ.keys_gives (ρ := keysS_ren) { keysS with } Fence.wide _ trivial rfl (by omega) w.heap.size m O.length D _ (by simp) (by simp) (by
      obtain ⟨es, clock, hb, Ft, hs, hD⟩ := hown
      exact ⟨es, clock, (Below.heap_alloc _ _ m hbl).trans hb, Ft, hs, hD⟩)
  have cK : CallsIn Fence.wide 5 Try.prog 44 #[.map (some m)] w fun e w' => e = .returned (.func (.func 56) #[] #[.pointer (some ⟨w.heap.size, 0, none⟩)]) ∧ w' = w.alloc (.cells #[.map (some m)] 69) := AnyZ.keys_in keysS Fence.wide 5 trivial rfl (some m) w
  have cS := AnyZ.sorted_in sortedS Fence.wide 5 trivial trivial trivial trivial rfl (by omega) (sortsS _) (enters_of Try.func55 (by kernel_rfl) rfl) 56 #[.pointer (some ⟨w.heap.size, 0, none⟩)] trivial (enters_of Try.func56 (by kernel_rfl) rfl) _ _ (by rw [hsize]; unfold maxLen; omega) (by rw [hsize]; omega) _ hseq
  change CallsIn _ _ Try.prog 43 _ _ _ at cS
  refine ((callsIn_wide (n := 5)).1 cK).mono ?_
  rintro e w1 ⟨rfl, rfl⟩
  refine ⟨_, rfl, ((callsIn_wide (n := 5)).1 cS).mono ?_⟩
  rintro e w2 ⟨v, ss, rfl, hS, hrow, _, hb⟩
  have hs := sort_ascS ha (hS.trans hperm)
  have hlen' : ss.length = O.length := by
    have := (hS.trans hperm).length_eq
    simpa using this
  have hrow' := ownsRow_base_a hrow (show w.heap.size ≤ _ by simp)
  rw [hs, hlen'] at hrow'
  have hv : ∃ p c, v = .slice p O.length c := by
    rcases hrow'.2 with ⟨hv, hn⟩ | ⟨g, cap, cur, hv, _⟩
    · exact ⟨none, 0, by rw [hv, hn]⟩
    · exact ⟨_, _, hv⟩
  obtain ⟨p, c, rfl⟩ := hv
  refine ⟨p, O.length, c, rfl, Ext.of_below (((Below.refl _ w).alloc (Nat.le_refl _) _).trans (hb.mono (by simp))), ?_, rfl⟩
  rw [List.map_map] at hrow'
  exact hrow'

theorem elemOb : ElemOf Try.prog 25 52 4 56 := ⟨by kernel_rfl, ⟨Try.t52, .agg #[.string ⟨#[]⟩, .int .i64 0, .int .i64 0, .slice none 0 0], by kernel_rfl, by kernel_rfl, by kernel_rfl, by kernel_rfl, by kernel_rfl⟩, by decide⟩

def obCells : List Value → List Ob → List Value
  | v :: vs, o :: O => .string o.key :: .int .i64 o.len :: .int .i64 o.epoch :: v :: obCells vs O
  | _, _ => []
theorem obCells_append : ∀ {vs : List Value} {O : List Ob} (v : Value) (o : Ob), vs.length = O.length → obCells (vs ++ [v]) (O ++ [o]) = obCells vs O ++ [.string o.key, .int .i64 o.len, .int .i64 o.epoch, v]
  | [], [], _, _, _ => rfl
  | v' :: vs, o' :: O, v, o, h => by
    have := obCells_append (vs := vs) (O := O) v o (by simpa using h)
    simp only [List.cons_append, obCells, this]
theorem obCells_at : ∀ {vs : List Value} {O : List Ob} {i : Nat} {v : Value} {o : Ob}, vs[i]? = some v → O[i]? = some o →
    (obCells vs O)[i * 4]? = some (.string o.key) ∧ (obCells vs O)[i * 4 + 1]? = some (.int .i64 o.len) ∧ (obCells vs O)[i * 4 + 2]? = some (.int .i64 o.epoch) ∧ (obCells vs O)[i * 4 + 3]? = some v
  | _ :: _, _ :: _, 0, _, _, h1, h2 => by
    simp only [List.getElem?_cons_zero, Option.some.injEq] at h1 h2
    subst h1; subst h2
    exact ⟨rfl, rfl, rfl, rfl⟩
  | v' :: vs, o' :: O, i + 1, v, o, h1, h2 => by
    have := obCells_at (vs := vs) (O := O) (i := i) (by simpa using h1) (by simpa using h2)
    rw [show (i + 1) * 4 = i * 4 + 1 + 1 + 1 + 1 by omega]
    simpa [obCells] using this
  | [], _, _, _, _, h1, _ => by simp at h1
  | _ :: _, [], _, _, _, _, h2 => by simp at h2
theorem all2_atK {α β : Type} {R : α → β → Prop} {xs : List α} {bs : List β} (h : All2 R xs bs) : ∀ {i : Nat} {b : β}, bs[i]? = some b → ∃ a, xs[i]? = some a ∧ R a b := by
  induction h with
  | nil => intro i b hb; simp at hb
  | cons h _ ih =>
    intro i b hb
    cases i with
    | zero => simp only [List.getElem?_cons_zero, Option.some.injEq] at hb ⊢; subst hb; exact ⟨_, rfl, h⟩
    | succ i => simp only [List.getElem?_cons_succ] at hb ⊢; exact ih hb

/-- objects of a call's own -/
def ObsS (w : World) (base : Nat) (p : Option Addr) (l c : Nat) (O : List Ob) : Prop :=
  ∃ vs, All2 (fun v (o : Ob) => ∃ q n d, v = Value.slice q n d ∧ OwnS w base 3 1 q n d (encI o.st)) vs O ∧ OwnS w base 52 4 p l c (obCells vs O) ∧ l = O.length
theorem own_inK {w : World} {base : Nat} {e : TypeId} {sz : Nat} {p : Option Addr} {n c : Nat} {xs : List Value} (h : OwnS w base e sz p n c xs) {g : Nat} (hg : p = some (at0 g)) :
    base ≤ g ∧ g < w.heap.size ∧ ∃ cur, w.heap[g]? = some (.cells cur e (0, 0)) := by
  rcases h.where_ with ⟨hp, _⟩ | ⟨g', hp, hb, hlt, _, cur, hcur, _⟩
  · rw [hp] at hg; cases hg
  · rw [hp] at hg
    simp only [Option.some.injEq, at0, Addr.mk.injEq, and_true] at hg
    subst hg
    exact ⟨hb, hlt, cur, hcur⟩
theorem ObsS.upd {S : Nat → Prop} {w w' : World} {base : Nat} {p : Option Addr} {l c : Nat} {O : List Ob} (h : ObsS w base p l c O) (hu : Upd S w w') (hS : ∀ y, base ≤ y → y < w.heap.size → ¬ S y) : ObsS w' base p l c O := by
  obtain ⟨vs, h1, h2, h3⟩ := h
  refine ⟨vs, h1.mono fun v o hv => ?_, h2.upd hu fun g hg => ?_, h3⟩
  · obtain ⟨q, n, d, rfl, hh⟩ := hv
    exact ⟨q, n, d, rfl, hh.upd hu fun g hg => hS g (own_inK hh hg).1 (own_inK hh hg).2.1⟩
  · exact hS g (own_inK h2 hg).1 (own_inK h2 hg).2.1
theorem ObsS.ext {w w' : World} {base : Nat} {p : Option Addr} {l c : Nat} {O : List Ob} (h : ObsS w base p l c O) (hu : Ext w w') : ObsS w' base p l c O := h.upd hu fun _ _ _ h => h
theorem ObsS.length {w : World} {base : Nat} {p : Option Addr} {l c : Nat} {O : List Ob} (h : ObsS w base p l c O) : l = O.length := by
  obtain ⟨_, _, _, h⟩ := h; exact h
theorem ObsS.base_le {w : World} {base base' : Nat} {p : Option Addr} {l c : Nat} {O : List Ob} (h : ObsS w base p l c O) (hb : base' ≤ base) : ObsS w base' p l c O := by
  obtain ⟨vs, h1, h2, h3⟩ := h
  exact ⟨vs, h1.mono fun v o ⟨q, n, d, hv, hh⟩ => ⟨q, n, d, hv, hh.base_le hb⟩, h2.base_le hb, h3⟩
theorem own_le {w : World} {base : Nat} {e : TypeId} {sz : Nat} {p : Option Addr} {n c : Nat} {xs : List Value} (h : OwnS w base e sz p n c xs) : n ≤ c ∧ (p = none → n = 0) := by
  rcases h.where_ with ⟨hp, h1, h2⟩ | ⟨g', hp, hb, hlt, hle, _⟩
  · exact ⟨by omega, fun _ => h1⟩
  · exact ⟨hle, fun hn => by rw [hn] at hp; cases hp⟩
theorem ObsS.read {w : World} {base : Nat} {p : Option Addr} {l c : Nat} {O : List Ob} (h : ObsS w base p l c O) (hl : ∀ o ∈ O, o.len ≤ 9223372036854775807) : ObsR w p l O := by
  obtain ⟨vs, h1, h2, h3⟩ := h
  refine ⟨h3, fun i o hi => ?_⟩
  obtain ⟨v, hv, q, n, d, rfl, hh⟩ := all2_atK h1 hi
  obtain ⟨c1, c2, c3, c4⟩ := obCells_at hv hi
  obtain ⟨a, ha, e1⟩ := h2.cells _ _ c1
  obtain ⟨a2, ha2, e2⟩ := h2.cells _ _ c2
  obtain ⟨a3, ha3, e3⟩ := h2.cells _ _ c3
  obtain ⟨a4, ha4, e4⟩ := h2.cells _ _ c4
  rw [ha] at ha2 ha3 ha4
  cases ha2; cases ha3; cases ha4
  exact ⟨a, q, n, d, ha, e1, by rw [add_add]; exact e2, by rw [add_add]; exact e3, by rw [add_add]; exact e4, own_ints hh, (own_le hh).1, (own_le hh).2, hl o (List.mem_of_getElem? hi)⟩

theorem call_nil_w {w : World} : Calls Try.prog 18 #[.pointer none] w fun e w' => e = .returned (.slice none 0 0) ∧ w' = w :=
  (F18_calls none w (fun v w' => v = .slice none 0 0 ∧ w' = w) (fun _ _ _ _ _ _ _ _ _ _ => False) (fun _ _ _ _ _ _ _ _ _ _ => 0) ⟨rfl, rfl⟩).mono (by rintro e w' ⟨v, rfl, rfl, h⟩; exact ⟨rfl, h⟩)

set_option maxHeartbeats 2000000 in
theorem all_spec {w : World} {b : Nat} {g : Geo} {O : List Ob} {F : Nat → Prop} (h : Cat w b g O F) : Calls Try.prog 18 #[.pointer (some (at0 b))] w fun e w' => ∃ p l c, e = .returned (.slice p l c) ∧ Ext w w' ∧ ObsS w' w.heap.size p l c O := by
  refine (F18_calls (some (at0 b)) w (fun v w' => ∃ p l c, v = .slice p l c ∧ Ext w w' ∧ ObsS w' w.heap.size p l c O)
    (fun _ _ _ _ w7 p l c n w16 => ∃ i : Nat, n = i ∧ i ≤ O.length ∧ Ext w7 w16 ∧ ObsS w16 w7.heap.size p l c (O.take i)) (fun _ _ _ _ _ _ _ _ n _ => O.length - n.toNat) ?_).mono (by rintro e w' ⟨v, rfl, p, l, c, rfl, h⟩; exact ⟨p, l, c, rfl, h⟩)
  have hfew : O.length ≤ 64 := by
    have := h.ok.few
    have := h.ok.geo.2.2.2.2.2
    omega
  have h0 := h
  obtain ⟨⟨m1, m2, G, hi, rfl⟩, hk⟩ := h
  refine condB_of (fun h => by cases h) fun _ => ⟨_, hi.row.row.cell rfl, (keySortS hi.objs hk.asc (fun o ho => (hk.obs o ho).1.1.2.1.2) hfew).mono ?_⟩
  rintro e w4 ⟨v, rfl, hc⟩
  refine ⟨v, rfl, hc.mono ?_⟩
  rintro e w7 ⟨p9, l9, c9, rfl, x7, own7, rfl⟩
  refine ⟨p9, _, c9, rfl, ⟨0, rfl, Nat.zero_le _, Upd.refl _ _, [], .nil, OwnS.nil _ _ _ _, rfl⟩, ?_⟩
  rintro p14 l14 c14 n15 w16 ⟨i, rfl, hi', x16, hh⟩
  intros
  refine condB_of (fun hlt => ?_) (fun hge => ?_)
  · simp only [decide_eq_true_eq] at hlt
    obtain ⟨o, ho⟩ : ∃ o, O[i]? = some o := ⟨O[i]'(by omega), List.getElem?_eq_getElem _⟩
    have hom : o ∈ O := List.mem_of_getElem? ho
    obtain ⟨a, rfl, ca⟩ := (own7.ext x16).cells i (.string o.key) (by rw [List.getElem?_map, ho]; rfl)
    have y16 := x7.trans x16
    rw [Int.toNat_natCast, Nat.mul_one]
    refine ⟨⟨by omega, hlt⟩, o.key, ca, (get_spec (h0.ext y16) o.key).mono ?_⟩
    rintro e w36 ⟨s, n, m, p41, l41, c41, z, rfl, x36, hgot⟩
    rw [show getO o.key O = some o from (getO_some hk.asc.keys).2 ⟨hom, rfl⟩] at hgot
    obtain ⟨rfl, rfl, rfl, rfl, own41⟩ := hgot
    refine ⟨_, _, _, p41, l41, c41, _, rfl, fun k43 w44 hk43 => ?_⟩
    have hk43' := hk43.size
    have r44 : RowW w44 k43 _ := ⟨_, hk43.at⟩
    refine fill4 hk43.ext (by omega) r44 fun w48 x48 _ r48 => ?_
    refine ⟨_, r48.row.cell (n := 0) rfl, _, r48.row.cell rfl, _, r48.row.cell rfl, _, _, _, r48.row.cell rfl, fun k53 w54 hk53 => ?_⟩
    have x54 := (x36.trans x48).trans hk53.ext
    obtain ⟨vs, hvs, hown, hl14⟩ := hh.ext x54
    have hvl : vs.length = (O.take i).length := hvs.length
    simp only [List.length_take] at hl14
    have hcs : CellsAt w54 (some (at0 k53)) [.string o.key, .int .i64 o.len, .int .i64 o.epoch, .slice p41 l41 c41] := by
      intro j u hj
      refine ⟨_, rfl, ?_⟩
      have hb := hk53.at
      match j, hj with
      | 0, hj => cases hj; simp [World.cell?, Addr.add, hb]
      | 1, hj => cases hj; simp [World.cell?, Addr.add, hb]
      | 2, hj => cases hj; simp [World.cell?, Addr.add, hb]
      | 3, hj => cases hj; simp [World.cell?, Addr.add, hb]
    have z16 := x16.size
    have z54 := x54.size
    obtain ⟨p56, c56, w55, hr, own55, u55, _⟩ := hown.append elemOb 25 (q := some (at0 k53)) (m := 1) (d := 1) (news := [.string o.key, .int .i64 o.len, .int .i64 o.epoch, .slice p41 l41 c41]) rfl hcs (fun h => by cases h)
      (by intro u hu; simp only [List.mem_cons, List.not_mem_nil, or_false] at hu; rcases hu with rfl | rfl | rfl | rfl <;> rfl) (by unfold maxLen; omega) (by omega) (by omega)
    refine ⟨p56, l14 + 1, c56, w55, hr, ?_⟩
    rw [w64 (by omega)]
    have hT : ∀ {q : Option Addr} {n d : Nat} {xs : List Value}, OwnS w54 w7.heap.size 3 1 q n d xs → OwnS w55 w7.heap.size 3 1 q n d xs := fun ho => ho.upd u55 fun g hg hp => by
      obtain ⟨_, _, cur, h1⟩ := own_inK ho hg
      obtain ⟨_, _, cur', h2⟩ := own_inK hown hp
      rw [h1] at h2
      simp at h2
    refine ⟨⟨i + 1, by omega, by omega, ?_, vs ++ [.slice p41 l41 c41], ?_, ?_, ?_⟩, by show O.length - ((i : Int) + 1).toNat < O.length - (i : Int).toNat; omega⟩
    · refine Upd.trans (x16.trans x54) u55 fun y hy hs => ?_
      have := (own_inK hown hs).1
      omega
    · rw [List.take_add_one, ho]
      refine (hvs.mono fun v o' ⟨q, n, d, hv, hq⟩ => ⟨q, n, d, hv, hT hq⟩).append (.cons ⟨p41, l41, c41, rfl, hT ?_⟩ .nil)
      exact ((own41.ext x48).ext hk53.ext).base_le x16.size
    · rw [List.take_add_one, ho, Option.toList_some, obCells_append _ _ hvl]
      exact own55
    · rw [List.take_add_one, ho]; simp; omega
  · simp only [decide_eq_false_iff_not] at hge
    have : O.take i = O := List.take_of_length_le (by omega)
    rw [this] at hh
    exact ⟨p14, l14, c14, rfl, x7.trans x16, hh.base_le x7.size⟩
end Go.Proofs.Ytclkoojcibgcdaa
