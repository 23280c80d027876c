/- Both catalogs beside each other; lists of objects as they lie; each call answers the same. -/
import Derived.Test.YtclkoojcibgcdaaQ11
namespace Go.Proofs.Ytclkoojcibgcdaa
open Go Go.Vc

/-- objects as they lie in a slice, no more -/
def ObsL (w : World) (p : Option Addr) (l : Nat) (L : List Ob) : Prop :=
  l = L.length ∧ ∀ i o, L[i]? = some o → ∃ a q n d, p = some a ∧ w.cell? (a.add (i * 4)) = some (.string o.key) ∧ w.cell? ((a.add (i * 4)).add 1) = some (.int .i64 o.len) ∧ w.cell? ((a.add (i * 4)).add 2) = some (.int .i64 o.epoch) ∧
    w.cell? ((a.add (i * 4)).add 3) = some (.slice q n d) ∧ IntsAt w q n o.st
theorem ObsL.ext {w w' : World} {p : Option Addr} {l : Nat} {L : List Ob} (h : ObsL w p l L) (hu : Ext w w') : ObsL w' p l L :=
  ⟨h.1, fun i o hi => by
    obtain ⟨a, q, n, d, h1, h2, h3, h4, h5, h6⟩ := h.2 i o hi
    exact ⟨a, q, n, d, h1, cellk h2 hu, cellk h3 hu, cellk h4 hu, cellk h5 hu, h6.ext hu⟩⟩
theorem ObsR.obl {w : World} {p : Option Addr} {l : Nat} {L : List Ob} (h : ObsR w p l L) : ObsL w p l L :=
  ⟨h.1, fun i o hi => by
    obtain ⟨a, q, n, d, h1, h2, h3, h4, h5, h6, _⟩ := h.2 i o hi
    exact ⟨a, q, n, d, h1, h2, h3, h4, h5, h6⟩⟩
theorem RefO.obl {w : World} {G : Nat → Prop} {p : Option Addr} {l : Nat} {L : List Ob} (h : RefO w G p l L) : ObsL w p l L :=
  ⟨h.1, fun i o hi => by
    obtain ⟨a, q, n, d, h1, _, h2, h3, h4, h5, h6, _⟩ := h.2 i o hi
    exact ⟨a, q, n, d, h1, h2, h3, h4, h5, h6⟩⟩
theorem obl_one {w : World} {k : Nat} {o : Ob} {q : Option Addr} {n d : Nat} {e : TypeId} {fz : Nat × Nat} (h : w.heap[k]? = some (.cells #[.string o.key, .int .i64 o.len, .int .i64 o.epoch, .slice q n d] e fz)) (hi : IntsAt w q n o.st) : ObsL w (some (at0 k)) 1 [o] := by
  refine ⟨rfl, fun i o' ho => ?_⟩
  cases i with
  | zero =>
    cases ho
    have hc := box4 h
    have get : ∀ r u, (objRow (.slice q n d) o)[r]? = some u → w.cell? ((at0 k).add r) = some u := fun r u hu => by
      obtain ⟨a, ha, hc⟩ := hc r u hu
      cases ha
      exact hc
    exact ⟨_, q, n, d, rfl, get 0 _ rfl, get 1 _ rfl, get 2 _ rfl, get 3 _ rfl, hi⟩
  | succ i => simp at ho

set_option maxHeartbeats 1000000 in
theorem objsL_spec {w : World} {p1 p2 : Option Addr} {l1 c1 l2 c2 : Nat} {A B : List Ob} (h1 : ObsL w p1 l1 A) (h2 : ObsL w p2 l2 B) (hl : l1 ≤ 1000) (hs : ∀ o ∈ A, o.st.length ≤ 1000) :
    Calls Try.prog 17 #[.slice p1 l1 c1, .slice p2 l2 c2] w fun e w' => e = .returned (.bool (decide (A = B))) ∧ Ext w w' := by
  refine (F17_calls p1 l1 c1 p2 l2 c2 w (fun v w' => v = .bool (decide (A = B)) ∧ Ext w w') (fun _ n w4 => ∃ i : Nat, n = i ∧ i ≤ l1 ∧ Ext w w4 ∧ A.take i = B.take i) (fun _ n _ => 1000 - n.toNat) ?_).mono (by rintro e w' ⟨v, rfl, rfl, h⟩; exact ⟨rfl, h⟩)
  have e1 := h1.1
  have e2 := h2.1
  refine condB_of (fun hne => ?_) (fun heq => ?_)
  · simp only [Bool.not_eq_true', decide_eq_false_iff_not] at hne
    refine ⟨?_, Upd.refl _ _⟩
    have : ¬ A = B := by rintro rfl; omega
    simp [this]
  simp only [Bool.not_eq_false', decide_eq_true_eq] at heq
  refine ⟨⟨0, rfl, Nat.zero_le _, Upd.refl _ _, by simp⟩, ?_⟩
  rintro n w4 ⟨i, rfl, hi, x4, ht⟩
  intros
  refine condB_of (fun hlt => ?_) (fun hge => ?_)
  · simp only [decide_eq_true_eq] at hlt
    intro w39 d39
    have x39 := x4.trans d39.ext
    obtain ⟨x, hx⟩ : ∃ x, A[i]? = some x := ⟨A[i]'(by omega), List.getElem?_eq_getElem _⟩
    obtain ⟨y, hy⟩ : ∃ y, B[i]? = some y := ⟨B[i]'(by omega), List.getElem?_eq_getElem _⟩
    obtain ⟨a, q, m, d, rfl, a0, a1, a2, a3, ai⟩ := (h1.ext x39).2 i x hx
    obtain ⟨b, q', m', d', rfl, b0, b1, b2, b3, bi⟩ := (h2.ext x39).2 i y hy
    rw [Int.toNat_natCast]
    refine ⟨⟨by omega, hlt⟩, _, a0, _, a1, _, a2, _, _, _, a3, ⟨by omega, by omega⟩, _, b0, _, b1, _, b2, _, _, _, b3, (rput_spec _ _ _ _ _ _ w39).mono ?_⟩
    rintro e w50 ⟨rfl, x50⟩
    refine ⟨_, _, _, _, _, _, rfl, ⟨_, cellk b0 x50, _, cellk b1 x50, _, cellk b2 x50, _, _, _, cellk b3 x50, rfl⟩, (rput_spec _ _ _ _ _ _ w50).mono ?_⟩
    rintro e w60 ⟨rfl, x60⟩
    have x3960 := x50.trans x60
    have hsx := hs x (List.mem_of_getElem? hx)
    have hai := ai.1
    refine ⟨_, _, _, _, _, _, rfl, (rsame16_spec 1 1 x.key y.key x.len y.len (ai.ext x3960) (bi.ext x3960) (by omega)).mono ?_⟩
    rintro e w66 ⟨rfl, x66⟩
    refine ⟨_, rfl, fun w69 d69 => ?_⟩
    have x3969 := (x3960.trans x66).trans d69.ext
    refine condB_of (fun hb => ?_) (fun hb => ?_)
    · simp only [Bool.not_eq_true', decide_eq_false_iff_not] at hb
      refine ⟨?_, x39.trans x3969⟩
      have : ¬ A = B := by
        rintro rfl
        rw [hx] at hy
        cases hy
        exact hb ⟨rfl, trivial, rfl, rfl⟩
      simp [this]
    simp only [Bool.not_eq_false', decide_eq_true_eq] at hb
    refine ⟨⟨by omega, hlt⟩, _, cellk a2 x3969, ⟨by omega, by omega⟩, _, cellk b2 x3969, condB_of (fun he => ?_) (fun he => ?_)⟩
    · simp only [Bool.not_eq_true', decide_eq_false_iff_not] at he
      refine ⟨?_, x39.trans x3969⟩
      have : ¬ A = B := by
        rintro rfl
        rw [hx] at hy
        cases hy
        exact he rfl
      simp [this]
    · simp only [Bool.not_eq_false', decide_eq_true_eq] at he
      have hxy : x = y := by
        obtain ⟨k, l, e, s⟩ := x
        obtain ⟨k', l', e', s'⟩ := y
        obtain ⟨g1, _, g2, g3⟩ := hb
        simp only at g1 g2 g3 he
        subst g1; subst g2; subst g3; subst he
        rfl
      subst hxy
      rw [w64 (by omega)]
      refine ⟨⟨i + 1, by omega, by omega, x39.trans x3969, ?_⟩, by show 1000 - ((i : Int) + 1).toNat < 1000 - (i : Int).toNat; omega⟩
      rw [List.take_add_one, List.take_add_one, ht, hx, hy]
  · simp only [decide_eq_false_iff_not] at hge
    refine ⟨?_, x4⟩
    have f1 : A.take i = A := List.take_of_length_le (by omega)
    have f2 : B.take i = B := List.take_of_length_le (by omega)
    rw [f1, f2] at ht
    simp [ht]


/-! ## both catalogs -/
structure PairC (w : World) (b r : Nat) (g : Geo) (O : List Ob) (F G : Nat → Prop) : Prop where
  cat : Cat w b g O F
  ref : RCat w r g O G
  dis : ∀ x, F x → ¬ G x
theorem PairC.ext {w w' : World} {b r : Nat} {g : Geo} {O : List Ob} {F G : Nat → Prop} (h : PairC w b r g O F G) (hx : Ext w w') : PairC w' b r g O F G := ⟨h.cat.ext hx, h.ref.ext hx, h.dis⟩
/-- what both do -/
structure StepP (r : Nat) (F G F' G' : Nat → Prop) (w w' : World) : Prop where
  upd : Upd (fun x => F x ∨ x = r) w w'
  cat : ∀ x, F' x → F x ∨ w.heap.size ≤ x
  ref : ∀ x, G' x → G x ∨ w.heap.size ≤ x
theorem StepP.ext {r : Nat} {F G : Nat → Prop} {w w' : World} (h : Ext w w') : StepP r F G F G w w' := ⟨h.mono fun _ _ h => h.elim, fun _ h => .inl h, fun _ h => .inl h⟩
theorem StepP.pre {r : Nat} {F G F' G' : Nat → Prop} {w w1 w' : World} (hx : Ext w w1) (h : StepP r F G F' G' w1 w') : StepP r F G F' G' w w' :=
  ⟨Upd.trans (hx.mono fun _ _ h => h.elim) h.upd fun _ _ h => h, fun x hf => (h.cat x hf).imp id (Nat.le_trans hx.size), fun x hf => (h.ref x hf).imp id (Nat.le_trans hx.size)⟩
theorem RCat.self {w : World} {b : Nat} {g : Geo} {O : List Ob} {F : Nat → Prop} (h : RCat w b g O F) : F b := by
  obtain ⟨_, _, _, _, _, _, _, h4, _⟩ := h.is
  exact h4
theorem PairC.both {w w1 w2 : World} {b r : Nat} {g : Geo} {O O' : List Ob} {F F' G G' : Nat → Prop} (h : PairC w b r g O F G) (hs : Step F F' w w1) (hA : Cat w1 b g O' F') (hs2 : StepR r G G' w1 w2) (hR : RCat w2 r g O' G') :
    PairC w2 b r g O' F' G' ∧ StepP r F G F' G' w w2 := by
  have gl := h.ref.lt
  have gs := h.ref.self
  have fl := hA.lt
  have d1 : ∀ x, F' x → ¬ G x := fun x hf hg => by
    rcases hs.grow x hf with h1 | h1
    · exact h.dis x h1 hg
    · have := gl x hg; omega
  have z := hs.upd.size
  refine ⟨⟨hA.upd hs2.upd fun x hg hf => d1 x hf (by rw [hg]; exact gs), hR, fun x hf hg => ?_⟩, ?_, hs.grow, fun x hg => (hs2.grow x hg).imp id (Nat.le_trans z)⟩
  · rcases hs2.grow x hg with h1 | h1
    · exact d1 x hf h1
    · have := fl x hf; omega
  · exact Upd.trans (hs.upd.mono fun x _ hx => .inl hx) (hs2.upd.mono (T := fun x => F x ∨ x = r) fun x _ hx => .inr hx) fun _ _ h => h
theorem PairC.mid {w w1 : World} {b r : Nat} {g : Geo} {O : List Ob} {F F' G : Nat → Prop} (h : PairC w b r g O F G) (hs : Step F F' w w1) : RCat w1 r g O G := h.ref.upd hs.upd fun x hg hf => h.dis x hf hg
theorem PairC.free {w : World} {b r : Nat} {g : Geo} {O : List Ob} {F G : Nat → Prop} (h : PairC w b r g O F G) : (freeC O g.stripes.toNat : Int) = g.stripes - ((stripesO O).length : Int) := by
  have hg := h.cat.ok.geo
  unfold GeoOk at hg
  have := freeC_eq (m := g.stripes.toNat) h.cat.nodup fun x hx => by
    obtain ⟨o, ho, hs⟩ := List.mem_flatMap.1 hx
    have h1 := (h.cat.ok.obs o ho).1.2.1 x hs
    have h2 := (h.cat.ok.obs o ho).2.2.2 x hs
    omega
  omega
theorem planO_len {g : Geo} {O : List Ob} {k : ByteArray} {n : Int} : (planO g O k n).1.length ≤ g.stripes.toNat := by
  unfold planO
  split
  · simp
  · split
    · simp
    · split
      · simp
      · split
        · simp
        · exact planL_len O _ _

def callO (g : Geo) (O : List Ob) (cl : CallC) : List Ob := if cl.kind = 2 then (applyO g O cl.rk cl.key cl.len cl.st cl.epoch).1 else O

def gotV (O : List Ob) (k : ByteArray) : Ob := (getO k O).getD ⟨⟨#[]⟩, 0, 0, []⟩
def gotZ (O : List Ob) (k : ByteArray) : Int := if (getO k O).isSome then 0 else 193
theorem GotO.val {w w' : World} {O : List Ob} {k s : ByteArray} {n m : Int} {p : Option Addr} {l c : Nat} {z : Int} (h : GotO w w' (getO k O) s n m p l c z) : s = (gotV O k).key ∧ n = (gotV O k).len ∧ m = (gotV O k).epoch ∧ z = gotZ O k ∧ IntsAt w' p l (gotV O k).st := by
  unfold gotV gotZ
  cases hg : getO k O with
  | some o =>
    rw [hg] at h
    obtain ⟨rfl, rfl, rfl, rfl, ho⟩ := h
    exact ⟨rfl, rfl, rfl, rfl, own_ints ho⟩
  | none =>
    rw [hg] at h
    obtain ⟨rfl, rfl, rfl, rfl, rfl, rfl, rfl⟩ := h
    exact ⟨rfl, rfl, rfl, rfl, rfl, CellsAt.nil _ _⟩
theorem rgot_val {w' : World} {O : List Ob} {k s : ByteArray} {n m : Int} {p : Option Addr} {l c : Nat} {z : Int} (h : match getO k O with
    | some o => s = o.key ∧ n = o.len ∧ m = o.epoch ∧ z = 0 ∧ IntsAt w' p l o.st
    | none => s = ⟨#[]⟩ ∧ n = 0 ∧ m = 0 ∧ z = 193 ∧ p = none ∧ l = 0 ∧ c = 0) : s = (gotV O k).key ∧ n = (gotV O k).len ∧ m = (gotV O k).epoch ∧ z = gotZ O k ∧ IntsAt w' p l (gotV O k).st := by
  unfold gotV gotZ
  cases hg : getO k O with
  | some o =>
    rw [hg] at h
    obtain ⟨rfl, rfl, rfl, rfl, ho⟩ := h
    exact ⟨rfl, rfl, rfl, rfl, ho⟩
  | none =>
    rw [hg] at h
    obtain ⟨rfl, rfl, rfl, rfl, rfl, rfl, rfl⟩ := h
    exact ⟨rfl, rfl, rfl, rfl, rfl, CellsAt.nil _ _⟩
theorem gotV_len {g : Geo} {O : List Ob} {k : ByteArray} (h : CatOk g O) : (gotV O k).st.length ≤ 256 := by
  unfold gotV
  cases hg : getO k O with
  | some o =>
    have := (getO_some h.asc.keys).1 hg
    exact (h.obs o this.1).1.1.2.2.2
  | none => simp

set_option maxHeartbeats 4000000 in
theorem didC_spec {w0 w : World} {b r : Nat} {g : Geo} {O : List Ob} {F G : Nat → Prop} (h : PairC w b r g O F G) (hx : Ext w0 w) (hF : ∀ x, F x → w0.heap.size ≤ x) {cl : CallC} {p : Option Addr} {l c : Nat}
    (hst : IntsAt w0 p l cl.st) (hlc : l ≤ c) (hp : p = none → l = 0) (hl : l ≤ 1000) (hlr : cl.len ≤ 9223372036854775807) :
    Calls Try.prog 16 #[.pointer (some (at0 b)), .pointer (some (at0 r)), .agg #[.int .i64 cl.kind, .int .i64 cl.rk, .string cl.key, .int .i64 cl.len, .slice p l c, .int .i64 cl.epoch]] w fun e w' => e = .returned (.bool true) ∧
      ∃ F' G', PairC w' b r g (callO g O cl) F' G' ∧ StepP r F G F' G' w w' := by
  refine (F16_calls (some (at0 b)) (some (at0 r)) cl.kind cl.rk cl.key cl.len p l c cl.epoch w (fun v w' => v = .bool true ∧ ∃ F' G', PairC w' b r g (callO g O cl) F' G' ∧ StepP r F G F' G' w w') ?_).mono (by
    rintro e w' ⟨v, rfl, rfl, h⟩; exact ⟨rfl, h⟩)
  intro k9 w10 hk9
  have r10 : RowW w10 k9 #[.int .i64 cl.kind, .int .i64 cl.rk, .string cl.key, .int .i64 cl.len, .slice p l c, .int .i64 cl.epoch] := ⟨_, hk9.at⟩
  have x10 := hk9.ext
  have h10 := h.ext x10
  have kF : ¬ F k9 := fun hf => by have := h.cat.lt _ hf; have := hk9.size.1; omega
  have same : ∀ {w' : World}, Ext w w' → cl.kind ≠ 2 → ∃ F' G', PairC w' b r g (callO g O cl) F' G' ∧ StepP r F G F' G' w w' := fun hx hk => by
    unfold callO
    rw [if_neg hk]
    exact ⟨F, G, h.ext hx, StepP.ext hx⟩
  refine ⟨_, r10.row.cell (n := 0) rfl, condB_of (fun k1 => ?_) (fun k1 => condB_of (fun k2 => ?_) (fun k2 => condB_of (fun k3 => ?_) (fun k3 => condB_of (fun k4 => ?_) (fun k4 => ⟨rfl, same x10 ?_⟩))))⟩ <;> simp only [decide_eq_true_eq, decide_eq_false_iff_not] at *
  · -- plan
    refine ⟨_, by rw [add_add]; exact r10.row.cell rfl, _, by rw [add_add]; exact r10.row.cell rfl, (plan_spec h10.cat cl.key cl.len).mono ?_⟩
    rintro e w14 ⟨p16, l16, c16, rfl, x14, own⟩
    have r14 := x14.rowW r10 id
    have h14 := h10.ext x14
    refine ⟨_, _, _, _, rfl, _, by rw [add_add]; exact r14.row.cell rfl, _, by rw [add_add]; exact r14.row.cell rfl, (rplan_spec h14.ref h14.free cl.key cl.len).mono ?_⟩
    rintro e w20 ⟨x20, p22, l22, c22, rfl, hi⟩
    have hg := h.cat.ok.geo
    unfold GeoOk at hg
    have hpl := planO_len (g := g) (O := O) (k := cl.key) (n := cl.len)
    have hi1 := (own_ints own).ext x20
    refine ⟨_, _, _, _, rfl, (eqi_spec hi1 hi (by have := hi1.1; omega)).mono ?_⟩
    rintro e w24 ⟨rfl, x24⟩
    have y24 := ((x10.trans x14).trans x20).trans x24
    exact ⟨_, rfl, condB_of (fun _ => ⟨by simp, same y24 (by omega)⟩) fun h => by simp at h⟩
  · -- apply
    intro w27 d27
    have x27 := x10.trans d27.ext
    have r27 : RowW w27 k9 _ := d27.ext.rowW r10 id
    have h27 := h.ext x27
    have hst27 := hst.ext (hx.trans x27)
    refine ⟨_, r27.row.cell rfl, _, by rw [add_add]; exact r27.row.cell rfl, _, by rw [add_add]; exact r27.row.cell rfl, _, _, _, by rw [add_add]; exact r27.row.cell rfl, _, r27.row.cell rfl, _, r27.row.cell rfl, _, by rw [add_add]; exact r27.row.cell rfl, _, by rw [add_add]; exact r27.row.cell rfl, _, _, _, by rw [add_add]; exact r27.row.cell rfl, _, r27.row.cell rfl, ?_⟩
    refine (apply_spec h27.cat cl.rk cl.key cl.len hlr cl.epoch hst27 (by omega) hlc hp).mono ?_
    rintro e w38 ⟨F', rfl, hs1, hA⟩
    have r38 : RowW w38 k9 _ := hs1.upd.rowW r27 kF
    have hst38 : IntsAt w38 p l cl.st := ⟨hst.1, hst27.2.upd hs1.upd fun a ha hne hf => by
      have h1 := ints_block hst a ha (by rintro h0; rw [h0] at hne; exact hne rfl)
      have := hF _ hf; omega⟩
    refine ⟨_, rfl, ⟨_, r38.row.cell rfl, _, by rw [add_add]; exact r38.row.cell rfl, _, by rw [add_add]; exact r38.row.cell rfl, _, _, _, by rw [add_add]; exact r38.row.cell rfl, rfl⟩, ⟨_, r38.row.cell rfl, rfl⟩, ?_⟩
    refine (rapply_spec (h27.mid hs1) cl.rk cl.key cl.len hlr cl.epoch hst38 (by omega) hp).mono ?_
    rintro e w46 ⟨G', rfl, hs2, hR⟩
    obtain ⟨hP, hS⟩ := h27.both hs1 hA hs2 hR
    refine ⟨_, rfl, by simp, F', G', ?_, hS.pre x27⟩
    unfold callO
    rw [if_pos k2]
    exact hP
  · -- get
    refine ⟨_, by rw [add_add]; exact r10.row.cell rfl, (get_spec h10.cat cl.key).mono ?_⟩
    rintro e w50 ⟨s, n, m, p1, l1, c1, z, rfl, x50, hgot⟩
    obtain ⟨rfl, rfl, rfl, rfl, hi⟩ := hgot.val
    refine ⟨_, _, _, _, _, _, _, rfl, fun k57 w58 hk57 => ?_⟩
    have r50 := x50.rowW r10 id
    have z57 := hk57.size
    refine fill4 (v0 := .string (gotV O cl.key).key) (v1 := .int .i64 (gotV O cl.key).len) (v2 := .int .i64 (gotV O cl.key).epoch) (v3 := .slice p1 l1 c1) hk57.ext (by omega) ⟨_, hk57.at⟩ fun w62 x62 _ r62 => ?_
    have q62 := x62.rowW r50 id
    have y62 := x50.trans x62
    have h62 := h10.ext y62
    refine ⟨_, by rw [add_add]; exact q62.row.cell rfl, (rget_spec h62.ref cl.key).mono ?_⟩
    rintro e w64 ⟨x64, s, n, m, p2, l2, c2, z, rfl, hgot2⟩
    obtain ⟨rfl, rfl, rfl, rfl, hi2⟩ := rgot_val hgot2
    refine ⟨_, _, _, _, _, _, _, rfl, fun k71 w72 hk71 => ?_⟩
    have z71 := hk71.size
    refine fill4 (v0 := .string (gotV O cl.key).key) (v1 := .int .i64 (gotV O cl.key).len) (v2 := .int .i64 (gotV O cl.key).epoch) (v3 := .slice p2 l2 c2) hk71.ext (by omega) ⟨_, hk71.at⟩ fun w76 x76 _ r76 => ?_
    have r57 := x76.rowW (x64.rowW r62 id) id
    refine ⟨_, r57.row.cell (n := 0) rfl, _, r57.row.cell rfl, _, r57.row.cell rfl, _, _, _, r57.row.cell rfl, fun k81 w82 hk81 => ?_⟩
    have r82 := hk81.ext.rowW r76 id
    refine ⟨_, r82.row.cell (n := 0) rfl, _, r82.row.cell rfl, _, r82.row.cell rfl, _, _, _, r82.row.cell rfl, fun k87 w88 hk87 => ?_⟩
    have hi88 := ((((hi.ext x62).ext x64).ext x76).ext hk81.ext).ext hk87.ext
    have hi288 := ((hi2.ext x76).ext hk81.ext).ext hk87.ext
    have o1 := obl_one (o := gotV O cl.key) (hk87.ext.keep hk81.at) hi88
    have o2 := obl_one (o := gotV O cl.key) hk87.at hi288
    have h256 := gotV_len (k := cl.key) h.cat.ok
    refine (objsL_spec o1 o2 (by omega) (fun o ho => by simp only [List.mem_singleton] at ho; subst ho; omega)).mono ?_
    rintro e w89 ⟨rfl, x89⟩
    have y89 := (((((x10.trans y62).trans x64).trans x76).trans hk81.ext).trans hk87.ext).trans x89
    exact ⟨_, rfl, condB_of (fun _ => ⟨by simp, same y89 (by omega)⟩) fun h => by simp at h⟩
  · -- owner
    refine ⟨_, r10.row.cell rfl, (owner_spec h10.cat cl.epoch).mono ?_⟩
    rintro e w93 ⟨rfl, rfl⟩
    refine ⟨_, _, rfl, _, r10.row.cell rfl, (rowner_spec h10.ref cl.epoch).mono ?_⟩
    rintro e w98 ⟨rfl, rfl⟩
    cases ho : ownO cl.epoch O with
    | some o => exact ⟨_, _, rfl, condB_of (fun _ => ⟨by simp, same x10 (by omega)⟩) fun h => by simp at h⟩
    | none => exact ⟨_, _, rfl, condB_of (fun _ => ⟨by simp, same x10 (by omega)⟩) fun h => by simp at h⟩
  · omega
end Go.Proofs.Ytclkoojcibgcdaa
