/- CatalogAgain returns true, whatever the geometry and the script. No conditions. -/
import Derived.Test.YtclkoojcibgcdaaKA2
import Derived.Test.YtclkoojcibgcdaaRows
namespace Go.Proofs.Ytclkoojcibgcdaa
open Go Go.Vc Go.ChangeShapes Go.WideShapes Go.ChangeAt Go.RowKit

theorem keys_app {A B : List Ob} (h : KAsc (A ++ B)) : ∀ a ∈ A, ∀ b ∈ B, kLt a.key b.key := fun a ha b hb => (List.pairwise_append.1 h).2.2 a ha b hb
theorem insO_last {o : Ob} {A : List Ob} (h : ∀ a ∈ A, kLt a.key o.key) : insO o A = A ++ [o] := by
  unfold insO
  have h1 : A.filter (fun y => decide (kLt y.key o.key)) = A := List.filter_eq_self.2 fun a ha => by simpa using h a ha
  have h2 : A.filter (fun y => decide (kLt o.key y.key)) = [] := List.filter_eq_nil_iff.2 fun a ha => by
    simp only [decide_eq_true_eq]
    exact fun h' => kLt_irrefl _ (kLt_trans (h a ha) h')
  rw [h1, h2]
/-- a catalog's objects make the same catalog -/
theorem addO_self (g : Geo) : ∀ (B A : List Ob), KAsc (A ++ B) → (∀ o ∈ A ++ B, ObOk g o) → (stripesO (A ++ B)).Nodup → addO' g A B = some (A ++ B)
  | [], A, _, _, _ => by simp [addO']
  | o :: B, A, ha, hob, hn => by
    have h1 : getO o.key A = none := getO_none.2 fun a haA e => by
      have := keys_app ha a haA o List.mem_cons_self
      rw [e] at this
      exact kLt_irrefl _ this
    have hob' := hob o (List.mem_append_right _ List.mem_cons_self)
    have e : stripesO (A ++ o :: B) = stripesO A ++ (o.st ++ stripesO B) := by
      unfold stripesO
      simp
    rw [e, List.nodup_append] at hn
    have h2 : FitsO g A o := ⟨hob'.1, hob'.2.1, hob'.2.2.1, fun s hs => ⟨fun hA => hn.2.2 s hA s (List.mem_append_left _ hs) rfl, hob'.2.2.2 s hs⟩, (List.nodup_append.1 hn.2.1).1⟩
    have h3 : insO o A = A ++ [o] := insO_last fun a haA => keys_app ha a haA o List.mem_cons_self
    have hn' : (stripesO ((A ++ [o]) ++ B)).Nodup := by
      rw [List.append_assoc]
      show (stripesO (A ++ o :: B)).Nodup
      rw [e, List.nodup_append]
      exact hn
    unfold addO'
    rw [if_pos ⟨h1, h2⟩, h3, addO_self g B (A ++ [o]) (by simpa using ha) (by simpa using hob) hn']
    simp

/-- a catalog of the same keys, with the same stripes -/
def Alike (O D : List Ob) : Prop := ∀ o ∈ O, ∃ o' ∈ D, o'.key = o.key ∧ o'.st = o.st
theorem again_plain {g : Geo} {O D : List Ob} (hO : CatOk g O) (hD : KAsc D) (h : Alike O D) {o : Ob} (ho : o ∈ O) :
    (applyO g D 1 o.key o.len o.st 1).2 = (if o.st = [] then 0 else 1) ∧ Alike O (applyO g D 1 o.key o.len o.st 1).1 := by
  have hob := hO.obs o ho
  obtain ⟨o', ho', hk, hst⟩ := h o ho
  have hget : getO o.key D = some o' := (getO_some hD.keys).2 ⟨ho', hk⟩
  have hfull : ¬ FullO g D o.key := fun hf => by rw [hf.1] at hget; cases hget
  have hrec : RecOk 1 o.key o.len o.st := hob.1
  have e1 : applyO g D 1 o.key o.len o.st 1 = if ¬ FitsO g D ⟨o.key, o.len, 1, o.st⟩ then (D, 1) else (insO ⟨o.key, o.len, 1, o.st⟩ D, 0) := by
    unfold applyO
    rw [if_neg (fun h => h hrec), if_neg (fun h => by have := h.1; omega), if_neg (by omega), if_neg hfull]
  rw [e1]
  by_cases hs : o.st = []
  · have hfit : FitsO g D ⟨o.key, o.len, 1, o.st⟩ := ⟨hrec, ⟨by show (0 : Int) ≤ 1; omega, by show (1 : Int) ≤ _; omega⟩, hob.2.2.1, fun s h => by (have h' : s ∈ o.st := h; rw [hs] at h'; cases h'), by (show o.st.Nodup; rw [hs]; exact List.nodup_nil)⟩
    rw [if_neg (fun h => h hfit), if_pos hs]
    refine ⟨rfl, fun q hq => ?_⟩
    by_cases hqk : q.key = o.key
    · have : q = o := by
        have h1 := (getO_some hO.asc.keys).2 ⟨hq, hqk⟩
        have h2 := (getO_some hO.asc.keys).2 ⟨ho, rfl⟩
        rw [h1] at h2; cases h2; rfl
      subst this
      exact ⟨_, (insO_perm _ D).mem_iff.2 List.mem_cons_self, rfl, rfl⟩
    · obtain ⟨q', hq', h1, h2⟩ := h q hq
      refine ⟨q', (insO_perm _ D).mem_iff.2 (List.mem_cons_of_mem _ (List.mem_filter.2 ⟨hq', ?_⟩)), h1, h2⟩
      simp only [decide_eq_true_eq]
      rw [h1]
      exact hqk
  · have hnf : ¬ FitsO g D ⟨o.key, o.len, 1, o.st⟩ := fun hf => by
      obtain ⟨s, st, hc⟩ := List.exists_cons_of_ne_nil hs
      have hm : s ∈ o.st := by rw [hc]; exact List.mem_cons_self
      exact (hf.2.2.2.1 s hm).1 (List.mem_flatMap.2 ⟨o', ho', by rw [hst]; exact hm⟩)
    rw [if_pos hnf, if_neg hs]
    exact ⟨rfl, h⟩

set_option maxHeartbeats 4000000 in
theorem catalogAgain_walk {w : World} (g : Geo) {p : Option Addr} {l c : Nat} {L : List CallC} (hL : CallsCAt w p l L) : Calls Try.prog 9 #[gV g, .slice p l c] w fun e w' => e = .returned (.bool true) ∧ Ext w w' := by
  generalize hO : doneC g [] (L.take 40) = O
  refine (F9_calls g.k g.m g.size g.stripes g.slots g.objects p l c w (fun v w' => v = .bool true ∧ Ext w w')
    (fun p34 l34 c34 q _ n w62 => ∃ (i b : Nat) (D : List Ob) (F : Nat → Prop) (w32 : World) (lb : Nat), n = i ∧ i ≤ O.length ∧ q = some (at0 b) ∧ Ext w w32 ∧ ObsS w32 lb p34 l34 c34 O ∧ Upd (fun x => w32.heap.size ≤ x) w32 w62 ∧ Cat w62 b g D F ∧ Alike O D ∧ (∀ x, F x → w32.heap.size ≤ x))
    (fun _ _ _ _ _ n _ => O.length - n.toNat) ?_).mono (by rintro e w' ⟨v, rfl, rfl, h⟩; exact ⟨rfl, h⟩)
  intro k8 w9 hk8
  have r9 : RowW w9 k8 _ := ⟨_, hk8.at⟩
  have x9 := hk8.ext
  refine (awake_spec w9).mono ?_
  rintro e w10 ⟨rfl, x10⟩
  have y10 := x9.trans x10
  have r10 := x10.rowW r9 id
  refine ⟨_, rfl, condB_of (fun h => by cases h) fun _ => ⟨_, r10.row.cell (n := 0) rfl, _, r10.row.cell rfl, _, r10.row.cell rfl, _, r10.row.cell rfl, _, r10.row.cell rfl, _, r10.row.cell rfl, (check_spec g w10).mono ?_⟩⟩
  rintro e w19 ⟨rfl, x19⟩
  have y19 := y10.trans x19
  have r19 := x19.rowW r10 id
  refine ⟨_, rfl, condB_of (fun _ => ⟨rfl, y19⟩) fun h1 => ⟨_, r19.row.cell rfl, condB_of (fun _ => ⟨rfl, y19⟩) fun h2 => ?_⟩⟩
  have hg : GeoOk g := by
    by_cases hg : GeoOk g
    · exact hg
    · simp [checkG, hg] at h1
  simp only [decide_eq_false_iff_not] at h2
  refine ⟨_, r19.row.cell (n := 0) rfl, _, r19.row.cell rfl, _, r19.row.cell rfl, _, r19.row.cell rfl, _, r19.row.cell rfl, _, r19.row.cell rfl, (doneC_spec hg (hL.ext y19)).mono ?_⟩
  rintro e w29 ⟨b, F, rfl, x29, h29, hF⟩
  rw [hO] at h29
  have y29 := y19.trans x29
  have r29 := x29.rowW r19 id
  refine ⟨_, rfl, condB_of (fun h => by cases h) fun _ => (all_spec h29).mono ?_⟩
  rintro e w32 ⟨p34, l34, c34, rfl, x32, obs32⟩
  have h32 := h29.ext x32
  have y32 := y29.trans x32
  have r32 := x32.rowW r29 id
  have hok := h32.ok
  have hll := obs32.length
  have hfew := hok.few
  have hob := hg.2.2.2.2.2
  have hlen64 : ∀ o ∈ O, o.len ≤ 9223372036854775807 := fun o ho => by have := (hok.obs o ho).1.1.2.2.1.2; omega
  have hst256 : ∀ o ∈ O, o.st.length ≤ 256 := fun o ho => (hok.obs o ho).1.1.2.2.2
  refine ⟨_, _, _, rfl, _, r32.row.cell (n := 0) rfl, _, r32.row.cell rfl, _, r32.row.cell rfl, _, r32.row.cell rfl, _, r32.row.cell rfl, _, r32.row.cell rfl, (cnew_spec g (obs32.read hlen64) (fun o ho => by have := hst256 o ho; omega) (by omega)).mono ?_⟩
  have hself : newO g O = some O := addO_self g O [] hok.asc hok.obs h32.nodup
  rintro e w41 ⟨x41, ⟨hb, _⟩ | ⟨_, hb, _⟩ | ⟨_, _, b2, O2, F2, hnew, rfl, h41, hF2⟩⟩
  · exact absurd hg hb
  · rcases hb with hb | hb
    · omega
    · rw [hself] at hb; cases hb
  rw [hself] at hnew
  cases hnew
  refine ⟨_, _, rfl, condB_of (fun h => by cases h) fun _ => condB_of (fun h => by simp at h) fun _ => (free_spec h41).mono ?_⟩
  rintro e w45 ⟨rfl, x45⟩
  refine ⟨_, rfl, (free_spec ((h32.ext x41).ext x45)).mono ?_⟩
  rintro e w48 ⟨rfl, x48⟩
  refine ⟨_, rfl, condB_of (fun h => by simp at h) fun _ => (all_spec ((h41.ext x45).ext x48)).mono ?_⟩
  rintro e w51 ⟨p53, l53, c53, rfl, x51, obs51⟩
  have hl53 := obs51.length
  have x3251 := ((x41.trans x45).trans x48).trans x51
  refine ⟨_, _, _, rfl, (objs_spec (obs51.read hlen64) ((obs32.ext x3251).read hlen64) (by omega) (fun o ho => by have := hst256 o ho; omega)).mono ?_⟩
  rintro e w54 ⟨rfl, x54⟩
  have h54 := (((h41.ext x45).ext x48).ext x51).ext x54
  refine ⟨_, rfl, condB_of (fun h => by simp at h) fun _ => ⟨⟨0, b2, O, F2, w32, _, rfl, Nat.zero_le _, rfl, y32, obs32, (x3251.trans x54).upd, h54, fun o ho => ⟨o, ho, rfl, rfl⟩, hF2⟩, ?_⟩⟩
  clear h54 h41 hF2 obs51
  rintro n61 w62 ⟨i, b', D, F3, w0, lb, rfl, hi, hq, y0, obs0, u0, h62, halike, hF3⟩
  cases hq
  intros
  have yy : ∀ {w' : World}, Upd (fun x => w0.heap.size ≤ x) w0 w' → Ext w w' ∧ ObsS w' lb p34 l34 c34 O := fun {w'} hu => ⟨Upd.trans y0 hu fun x hx hs => by have := y0.size; omega, obs0.upd hu fun y _ hy hs => by omega⟩
  refine condB_of (fun hlt => fun w107 d107 => ?_) (fun hge => ⟨rfl, (yy u0).1⟩)
  simp only [decide_eq_true_eq] at hlt
  obtain ⟨o, ho⟩ : ∃ o, O[i]? = some o := ⟨O[i]'(by omega), List.getElem?_eq_getElem _⟩
  have hom : o ∈ O := List.mem_of_getElem? ho
  have u107 : Upd (fun x => w0.heap.size ≤ x) w0 w107 := Upd.trans u0 d107.ext.upd fun _ _ h => h
  have h107 := h62.ext d107.ext
  obtain ⟨a, q, n, d, rfl, c0, c1, c2, c3, own⟩ := (yy u107).2.at ho
  obtain ⟨hp1, hp2⟩ := again_plain hok h107.ok.asc halike hom
  have hn := (own_ints own).1
  have h256 := hst256 o hom
  rw [Int.toNat_natCast]
  refine ⟨⟨by omega, hlt⟩, _, c0, ⟨by omega, hlt⟩, _, c1, ⟨by omega, hlt⟩, _, _, _, c3, (apply_spec h107 1 o.key o.len (hlen64 o hom) 1 (own_ints own) (by omega) (own_le own).1 (own_le own).2).mono ?_⟩
  rintro e w114 ⟨F4, rfl, s114, h114⟩
  have u114 : Upd (fun x => w0.heap.size ≤ x) w0 w114 := Upd.trans u107 s114.upd fun x _ hx => hF3 x hx
  obtain ⟨a', q', n', d', ha', _, _, _, c3', own'⟩ := (yy u114).2.at ho
  cases ha'
  have hn' := (own_ints own').1
  rw [hp1]
  have next : (∃ (j b' : Nat) (D : List Ob) (F : Nat → Prop) (w32 : World) (lb : Nat), IntKind.i64.wrap ((i : Int) + 1) = j ∧ j ≤ O.length ∧ some (at0 b2) = some (at0 b') ∧ Ext w w32 ∧ ObsS w32 lb (some a) l34 c34 O ∧ Upd (fun x => w32.heap.size ≤ x) w32 w114 ∧ Cat w114 b' g D F ∧ Alike O D ∧ (∀ x, F x → w32.heap.size ≤ x)) ∧
      O.length - (IntKind.i64.wrap ((i : Int) + 1)).toNat < O.length - (i : Int).toNat := by
    rw [w64 (n := (i : Int) + 1) (by omega)]
    refine ⟨⟨i + 1, b2, _, F4, w0, lb, by omega, by omega, rfl, y0, obs0, u114, h114, hp2, fun x hx => ?_⟩, by omega⟩
    rcases s114.grow x hx with h | h
    · exact hF3 x h
    · exact Nat.le_trans u107.size h
  refine ⟨_, rfl, ⟨by omega, hlt⟩, _, _, _, c3', condB_of (fun hb => ?_) fun _ => condB_of (fun h0 => condB_of (fun h1 => ?_) fun _ => next) fun _ => next⟩
  · exfalso
    by_cases hs : o.st = []
    · rw [if_pos hs] at hb
      rw [hs] at hn'
      simp only [List.length_nil] at hn'
      simp [hn'] at hb
    · rw [if_neg hs] at hb
      have := List.length_pos_iff.2 hs
      have hpos : (0 : Int) < (n' : Int) := by omega
      rw [decide_eq_true hpos] at hb
      cases hb
  · exfalso
    by_cases hs : o.st = []
    · rw [if_pos hs] at h1; simp at h1
    · rw [if_neg hs] at h0; simp at h0

set_option maxRecDepth 100000 in
theorem catalogAgain_lifted (os : Os) (started : os.Started) (H : Type) (enc : TypeId × Value → H) :
    ReturnsInHanded {} Try.checked os 9 .any (Rows.catalogAgainSpec.pre6 enc Try.prog Try.f9 Rows.catalogAgainRow.domain false) (Rows.catalogAgainSpec.post enc Try.prog Try.f9 false true false false) := by
  refine returnsInHanded_of_change (C := Try.checked) lawOwn started (by kernel_rfl) Try.func9
    (ChangeSpec.witness6 (enc := enc) (C := Try.checked) false ⟨#[], #[.agg #[.int .i64 0, .int .i64 0, .int .i64 0, .int .i64 0, .int .i64 0, .int .i64 0], .slice none 0 0], []⟩ 8 (by kernel_rfl) (by kernel_rfl) (by kernel_rfl) (by kernel_rfl)) ?_
  intro W base args ds gs before hval0 hW hcnd _
  have hval : ∀ (j : Nat) t v, Try.f9.params[j]? = some t → args[j]? = some v → Value.okWide Try.prog W .any base t v := hval0
  have hW' := hW
  obtain ⟨p, q, hA0, hV, rfl, hfz, hnd⟩ := hW
  have hA : DataW.TrodAll enc Try.prog W 0 (fun _ => true) true Try.f9.params.toList args.toList ds p := hA0
  rw [Try.params9] at hA hval
  obtain ⟨v0, vs0, d0, ds0, p0, q0, hargs, rfl, rfl, h0, r0⟩ := trodAll_cons hA
  obtain ⟨v1, vs1, d1, ds1, p1, q1, rfl, rfl, rfl, h1, r1⟩ := trodAll_cons r0
  obtain ⟨rfl, rfl, rfl⟩ := trodAll_nil r1
  obtain rfl : args = #[v0, v1] := by cases args; simp_all
  obtain ⟨rfl, rfl⟩ := trodVars_none hV
  obtain ⟨g0, rfl⟩ := open_geo (okWide_struct Try.underlying24 (hval 0 24 v0 rfl rfl)) h0
  obtain ⟨a1, l1, c1, L1, rfl, hL1⟩ := open_scriptC (okWide_slice Try.underlying26 (hval 1 26 v1 rfl rfl)) h1
  refine (catalogAgain_walk g0 hL1).mono fun e W' ⟨he, hg⟩ => ?_
  subst he
  exact ⟨_, rfl, post_true lawLaid rfl (by kernel_rfl) rfl Try.underlying4 hW' rfl hg.below⟩

/-- ████ THE STATEMENT ████ -/
theorem catalogAgain_holds : Rows.CatalogAgainSaid :=
  OpenClaim.holds_of_wide 9 Try.f9 rfl rfl rfl rfl rfl rfl rfl ⟨rfl, rfl, rfl, rfl, rfl⟩ rfl rfl rfl rfl rfl (by kernel_rfl) Try.func9 (by kernel_rfl)
    (of_decide_eq_true (by kernel_rfl)) (by unfold Func.isWrapper; first | (rw [if_pos (by decide +kernel)]; kernel_rfl) | (rw [if_neg (by decide +kernel)]; exact ⟨rfl, rfl⟩))
    (fun os started H enc _ => catalogAgain_lifted os started H enc)
end Go.Proofs.Ytclkoojcibgcdaa
