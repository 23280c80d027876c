/- What is said, counted: the best of it. -/
import Derived.Test.YtphkmbkmjhbenaaV6
namespace Go.Proofs.Ytphkmbkmjhbenaa
open Go Go.Vc

/-! ## the order -/
def bt (y b : Say) (n c : Nat) : Prop := if y.1 = b.1 then c < n ∨ (n = c ∧ y.2 < b.2) else b.1 < y.1
instance (y b : Say) (n c : Nat) : Decidable (bt y b n c) := by unfold bt; exact inferInstance
theorem bt_irrefl (y : Say) (n : Nat) : ¬ bt y y n n := by
  unfold bt
  rw [if_pos rfl]
  rintro (h | ⟨_, h⟩)
  · omega
  · exact List.lt_irrefl _ h
theorem bt_trans {x y z : Say} {a b c : Nat} (h1 : bt x y a b) (h2 : bt y z b c) : bt x z a c := by
  unfold bt at *
  by_cases e1 : x.1 = y.1 <;> by_cases e2 : y.1 = z.1
  · rw [if_pos e1] at h1
    rw [if_pos e2] at h2
    rw [if_pos (e1.trans e2)]
    rcases h1 with h1 | ⟨h1, h1'⟩ <;> rcases h2 with h2 | ⟨h2, h2'⟩
    · exact .inl (by omega)
    · exact .inl (by omega)
    · exact .inl (by omega)
    · exact .inr ⟨by omega, List.lt_trans h1' h2'⟩
  · rw [if_neg e2] at h2
    rw [if_neg (by omega)]; omega
  · rw [if_neg e1] at h1
    rw [if_neg (by omega)]; omega
  · rw [if_neg e1] at h1
    rw [if_neg e2] at h2
    rw [if_neg (by omega)]; omega
theorem bt_total {x y : Say} {a b : Nat} (h1 : ¬ bt x y a b) (h2 : ¬ bt y x b a) : x = y ∧ a = b := by
  unfold bt at *
  by_cases e : x.1 = y.1
  · rw [if_pos e] at h1
    rw [if_pos e.symm] at h2
    simp only [not_or, not_and] at h1 h2
    have hab : a = b := by omega
    have h3 := h1.2 hab
    have h4 := h2.2 hab.symm
    exact ⟨Prod.ext e (List.le_antisymm (List.not_lt.1 h4) (List.not_lt.1 h3)), hab⟩
  · rw [if_neg e] at h1
    rw [if_neg (fun h => e h.symm)] at h2
    omega

/-- the best of some pairs -/
def MaxIn (seen : List (Say × Nat)) (b : Say) (c : Nat) : Prop :=
  (seen = [] ∧ b = (0, []) ∧ c = 0) ∨ (0 < c ∧ (b, c) ∈ seen ∧ ∀ y ∈ seen, ¬ bt y.1 b y.2 c)
theorem MaxIn.put {seen : List (Say × Nat)} {b k : Say} {c x : Nat} (h : MaxIn seen b c) (hx : 0 < x) (hb : c = 0 ∨ bt k b x c) : MaxIn ((k, x) :: seen) k x := by
  refine .inr ⟨hx, List.mem_cons_self, fun y hy => ?_⟩
  rcases List.mem_cons.1 hy with rfl | hy
  · exact bt_irrefl _ _
  · rcases h with ⟨rfl, _⟩ | ⟨hc, _, hall⟩
    · cases hy
    · rcases hb with hb | hb
      · omega
      · exact fun h => hall y hy (bt_trans h hb)
theorem MaxIn.keep {seen : List (Say × Nat)} {b k : Say} {c x : Nat} (h : MaxIn seen b c) (hc : c ≠ 0) (hb : ¬ bt k b x c) : MaxIn ((k, x) :: seen) b c := by
  rcases h with ⟨_, _, h0⟩ | ⟨h0, hm, hall⟩
  · exact (hc h0).elim
  · refine .inr ⟨h0, List.mem_cons_of_mem _ hm, fun y hy => ?_⟩
    rcases List.mem_cons.1 hy with rfl | hy
    · exact hb
    · exact hall y hy

def sayL (L : List Said) : List Say := (L.filter (·.is)).map fun s => (s.epoch, s.data)
/-- THE BEST OF WHAT IS SAID -/
def Best (S : List Say) (b : Say) (c : Nat) : Prop := (S = [] ∧ b = (0, []) ∧ c = 0) ∨ (b ∈ S ∧ c = S.count b ∧ ∀ y ∈ S, ¬ bt y b (S.count y) c)
theorem Best.unique {S : List Say} {b b' : Say} {c c' : Nat} (h : Best S b c) (h' : Best S b' c') : b = b' ∧ c = c' := by
  rcases h with ⟨rfl, rfl, rfl⟩ | ⟨hb, rfl, hall⟩
  · rcases h' with ⟨_, rfl, rfl⟩ | ⟨hb, _⟩
    · exact ⟨rfl, rfl⟩
    · cases hb
  · rcases h' with ⟨rfl, _⟩ | ⟨hb', rfl, hall'⟩
    · cases hb
    · exact bt_total (hall' b hb) (hall b' hb')

/-- what a map of counts holds -/
def Counts (S : List Say) (L : List (Say × Nat)) : Prop := ∀ k, Vc.get k L = if k ∈ S then some (S.count k) else none
theorem Counts.step {S : List Say} {L : List (Say × Nat)} (h : Counts S L) (k : Say) : Counts (S ++ [k]) ((k, S.count k + 1) :: del k L) := by
  intro y
  by_cases e : k = y
  · subst e
    simp [Vc.get, List.count_append]
  · have hg : Vc.get y ((k, S.count k + 1) :: del k L) = Vc.get y (del k L) := by simp [Vc.get, e]
    have hd : Vc.get y (del k L) = Vc.get y L := by
      clear hg h
      induction L with
      | nil => rfl
      | cons z L ih =>
        obtain ⟨q, x⟩ := z
        unfold del
        by_cases hq : q = k
        · subst hq
          rw [List.filter_cons_of_neg (by simp)]
          have : Vc.get y ((q, x) :: L) = Vc.get y L := by simp [Vc.get, e]
          rw [this]; exact ih
        · rw [List.filter_cons_of_pos (by simpa using hq)]
          unfold Vc.get
          split
          · rfl
          · exact ih
    rw [hg, hd, h y]
    have hc : (S ++ [k]).count y = S.count y := by
      rw [List.count_append, List.count_singleton]
      have : (k == y) = false := by simpa using e
      simp [this]
    rw [hc]
    simp only [List.mem_append, List.mem_singleton]
    by_cases hy : y ∈ S
    · rw [if_pos hy, if_pos (.inl hy)]
    · rw [if_neg hy, if_neg (by rintro (h | h); exact hy h; exact e h.symm)]
theorem Counts.best {S : List Say} {L : List (Say × Nat)} (h : Counts S L) (hn : (L.map (·.1)).Nodup) {seen : List (Say × Nat)} (hp : L.Perm seen) {b : Say} {c : Nat} (hm : MaxIn seen b c) : Best S b c := by
  have hmem : ∀ y x, (y, x) ∈ seen ↔ y ∈ S ∧ x = S.count y := by
    intro y x
    rw [← hp.mem_iff, get_some hn, h y]
    by_cases hy : y ∈ S
    · rw [if_pos hy]
      simp [hy, eq_comm]
    · rw [if_neg hy]
      simp [hy]
  rcases hm with ⟨rfl, rfl, rfl⟩ | ⟨hc, hb, hall⟩
  · left
    refine ⟨?_, rfl, rfl⟩
    cases S with
    | nil => rfl
    | cons y S => exact absurd ((hmem y _).2 ⟨List.mem_cons_self, rfl⟩) (by simp)
  · right
    have := (hmem b c).1 hb
    exact ⟨this.1, this.2, fun y hy => hall (y, S.count y) ((hmem y _).2 ⟨hy, rfl⟩)⟩

/-! ## the code -/
theorem set_best {w : World} {kb ks : Nat} {n m : Int} {s t : ByteArray} (hb : RowW w kb #[.int .i64 m, .string t]) (hs : RowW w ks #[.int .i64 n, .string s]) {T : World → Prop}
    (hT : ∀ w', RowW w' kb #[.int .i64 n, .string s] → Upd (fun b => b = kb) w w' → T w') :
    ∃ (n119 : Int), w.cell? (at0 ks) = some (.int .i64 n119) ∧ (∃ (s120 : ByteArray), w.cell? ((at0 ks).add 1) = some (.string s120) ∧ (Live w (at0 kb) ∧ (∀ w121 : World, SetC w (at0 kb) (Value.int .i64 n119) w121 →
      (Live w121 ((at0 kb).add 1) ∧ (∀ w122 : World, SetC w121 ((at0 kb).add 1) (Value.string s120) w122 → T w122))))) := by
  have e0 : ∀ k, (at0 k) = (at0 k).add 0 := fun k => (add_at0 k 0).symm
  refine ⟨n, by rw [e0 ks]; exact hs.row.cell rfl, s, hs.row.cell rfl, by rw [e0 kb]; exact hb.live (by simp), fun w1 h1 => ?_⟩
  rw [e0 kb] at h1
  have r1 := h1.row hb
  refine ⟨r1.live (by simp), fun w2 h2 => ?_⟩
  have r2 := h2.row r1
  refine hT w2 r2 ?_
  have u1 := h1.upd
  have u2 := h2.upd
  rw [add_block] at u1 u2
  exact u1.trans u2 fun x _ h => h

def VN (v : Value) (x : Nat) : Prop := v = .int .i64 (x : Int)

theorem sayL_take {L : List Said} {i : Nat} {s : Said} (hs : L[i]? = some s) : sayL (L.take (i + 1)) = if s.is then sayL (L.take i) ++ [(s.epoch, s.data)] else sayL (L.take i) := by
  unfold sayL
  rw [List.take_add_one, hs]
  cases h : s.is <;> simp [h]

set_option maxHeartbeats 4000000 in
theorem count_spec {w : World} {p : Option Addr} {l c : Nat} {L : List Said} (hl : l = L.length) (hL : CellsAt w p (saidsV L)) (hs : L.length ≤ 100) :
    Calls Try.prog 23 #[.slice p l c] w fun e w' => Ext w w' ∧ ∃ b n, Best (sayL L) b n ∧ e = .returned (.tuple #[.agg #[.int .i64 b.1, .string (bstr b.2)], .int .i64 (n : Int)]) := by
  refine (F23_calls p l c w (fun v w' => Ext w w' ∧ ∃ b n, Best (sayL L) b n ∧ v = .tuple #[.agg #[.int .i64 b.1, .string (bstr b.2)], .int .i64 (n : Int)])
    (fun pb _ pm _ _ _ _ _ n13 w14 => ∃ (kb m i : Nat) (Lm : List (Say × Nat)), pb = some (at0 kb) ∧ pm = some m ∧ n13 = i ∧ i ≤ l ∧ Ext w w14 ∧ w.heap.size ≤ kb ∧ w.heap.size ≤ m ∧ RowW w14 kb #[.int .i64 0, .string ⟨#[]⟩] ∧
      SK.MapOf sayK VN w14 m Lm ∧ Counts (sayL (L.take i)) Lm) (fun _ _ _ _ _ _ _ _ n13 _ => 100 - n13.toNat)
    (fun pb pit _ n58 w59 => ∃ (kb m it n : Nat) (Lm seen rest : List (Say × Nat)) (b : Say), pb = some (at0 kb) ∧ pit = some (at0 it) ∧ n58 = n ∧ Ext w w59 ∧ w.heap.size ≤ kb ∧ w.heap.size ≤ m ∧ w.heap.size ≤ it ∧ kb ≠ it ∧ kb ≠ m ∧
      RowW w59 kb #[.int .i64 b.1, .string (bstr b.2)] ∧ SK.ItOf sayK VN w59 it m Lm rest ∧ Counts (sayL L) Lm ∧ Lm.Perm (seen ++ rest) ∧ MaxIn seen b n)
    (fun _ pit _ _ w59 => SK.leftM w59 pit) ?_).mono (by rintro e w' ⟨v, rfl, hx, b, n, h, rfl⟩; exact ⟨hx, b, n, h, rfl⟩)
  unfold F23
  intro k2 w3 hk2 k4 w5 hk4
  have x5 := hk2.ext.trans hk4.ext
  have hz : zeroOf Try.prog 3 = some (.int .i64 0) := by kernel_rfl
  have ht : Try.prog.underlying 88 = some (.map 62 3) := by kernel_rfl
  have s2 : w.heap.size ≤ k2 := by rw [hk2.size.1]; exact Nat.le_refl _
  have s4 : w.heap.size ≤ k4 := by rw [hk4.size.1]; exact hk2.ext.size
  refine ⟨⟨k2, k4, 0, [], rfl, rfl, rfl, Nat.zero_le _, x5, s2, s4, hk4.ext.rowW ⟨_, hk2.at⟩ id, SK.MapOf.made hk4, fun k => by simp [sayL, Vc.get]⟩, ?_⟩
  rintro n13 w14 ⟨kb, m, i, Lm, e1, e2, rfl, hi, x14, b1, b2, r14, mo, hcn⟩
  simp only [Option.some.injEq, at0, Addr.mk.injEq, and_true] at e1 e2
  subst e1
  subst e2
  intros
  refine condB_of (fun hlt => ?_) (fun hge => ?_)
  · simp only [decide_eq_true_eq] at hlt
    obtain ⟨s, hsI⟩ : ∃ s, L[i]? = some s := ⟨L[i]'(by omega), List.getElem?_eq_getElem _⟩
    have hc := hL.ext x14
    obtain ⟨a, rfl, c0⟩ := hc (i * 4 + 0) _ (saidsV_at hsI (j := 0) rfl)
    have cc : ∀ j v, (saidV s)[j]? = some v → w14.cell? ((a.add (i * 4)).add j) = some v := by
      intro j v hj
      obtain ⟨a', ha', h'⟩ := hc (i * 4 + j) v (saidsV_at hsI hj)
      cases ha'
      rw [add_add]; exact h'
    rw [Int.toNat_natCast]
    refine ⟨⟨by omega, hlt⟩, _, c0, _, cc 1 _ rfl, _, cc 2 _ rfl, _, cc 3 _ rfl, fun k34 w35 hk34 => ?_⟩
    have hk0 : w14.heap.size ≤ k34 := by rw [hk34.size.1]; exact Nat.le_refl _
    have r35 : RowW w35 k34 _ := ⟨_, hk34.at⟩
    have e0 : (at0 k34) = (at0 k34).add 0 := (add_at0 k34 0).symm
    refine ⟨by rw [e0]; exact r35.live (by simp), fun w36 s36 => ?_⟩
    rw [e0] at s36
    have r36 := s36.row r35
    refine ⟨r36.live (by simp), fun w37 s37 => ?_⟩
    have r37 := s37.row r36
    refine ⟨r37.live (by simp), fun w38 s38 => ?_⟩
    have r38 := s38.row r37
    refine ⟨r38.live (by simp), fun w39 s39 => ?_⟩
    have r39 : RowW w39 k34 #[.int .i64 s.epoch, .string (bstr s.data), .bool s.is, .bool s.none] := s39.row r38
    have x39 : Ext w14 w39 := setc_new (setc_new (setc_new (setc_new hk34.ext hk0 s36) hk0 s37) hk0 s38) hk0 s39
    have mu : ∀ n : Nat, 100 - (((i + 1 : Nat) : Int)).toNat < 100 - ((i : Int)).toNat := fun _ => by omega
    have hw : IntKind.i64.wrap ((i : Int) + 1) = ((i + 1 : Nat) : Int) := by rw [w64 (by omega)]; omega
    rw [hw]
    refine ⟨_, r39.row.cell rfl, condB_of (fun his => ?_) (fun his => ?_)⟩
    · intro w41 hd
      have r41 : RowW w41 k34 _ := hd.ext.rowW r39 id
      have x41 := x39.trans hd.ext
      have mo41 := mo.upd x41 id
      have hk := hcn (s.epoch, s.data)
      have hlook : ∃ b, mapAt Try.prog 88 (.map (some k4)) (sayK.enc (s.epoch, s.data)) w41 (.int .i64 (((sayL (L.take i)).count (s.epoch, s.data) : Nat) : Int)) b := by
        rcases mo41.lookup ht sayOk hz (s.epoch, s.data) with ⟨x, v, hg, rfl, hmap⟩ | ⟨hg, hmap⟩
        · rw [hg] at hk
          split at hk
          · cases hk; exact ⟨_, hmap⟩
          · cases hk
        · rw [hg] at hk
          split at hk
          · cases hk
          · rename_i hnm
            rw [List.count_eq_zero.2 hnm]
            exact ⟨_, hmap⟩
      obtain ⟨b44, hmap⟩ := hlook
      obtain ⟨v0, n, w47, hr, u47, sz47, hv0, hstab, hwr⟩ := mo41.write ht sayOk hz (s.epoch, s.data)
      obtain ⟨n48, rfl⟩ : ∃ n48, v0 = .int .i64 n48 := by
        rcases hv0 with ⟨x, _, rfl⟩ | ⟨_, rfl⟩
        · exact ⟨_, rfl⟩
        · exact ⟨_, rfl⟩
      obtain ⟨b', hst⟩ := hstab _ _ hmap
      obtain ⟨w51, hr2, u51, sz51, mo51⟩ := hwr (.int .i64 (((sayL (L.take i)).count (s.epoch, s.data) + 1 : Nat) : Int)) ((sayL (L.take i)).count (s.epoch, s.data) + 1) rfl
      have hcl : (sayL (L.take i)).count (s.epoch, s.data) ≤ 100 := by
        refine Nat.le_trans List.count_le_length ?_
        unfold sayL
        rw [List.length_map]
        refine Nat.le_trans (List.length_filter_le _ _) ?_
        simp; omega
      have hw2 : IntKind.i64.wrap ((((sayL (L.take i)).count (s.epoch, s.data) : Nat) : Int) + 1) = (((sayL (L.take i)).count (s.epoch, s.data) + 1 : Nat) : Int) := by rw [w64 (by omega)]; omega
      refine ⟨_, r41.row.cell rfl, _, by rw [add_add]; exact r41.row.cell rfl, _, b44, hmap, n48, n, w47, hr, ⟨_, b', hst, rfl⟩, w51, ?_, ?_⟩
      · rw [hw2]; exact hr2
      · have u : Upd (fun b => b = k4) w41 w51 := u47.trans u51 fun _ _ h => h
        refine ⟨⟨k2, k4, i + 1, _, rfl, rfl, rfl, by omega, Upd.trans (x14.trans x41) u fun x hx h => by omega, s2, s4, u.rowW (x41.rowW r14 id) ?_, mo51, ?_⟩, mu 0⟩
        · rw [hk4.size.1]
          exact Nat.ne_of_lt (lt_of_heap hk2.at)
        · rw [sayL_take hsI, if_pos his]
          exact hcn.step _
    · refine ⟨⟨k2, k4, i + 1, _, rfl, rfl, rfl, by omega, x14.trans x39, s2, s4, x39.rowW r14 id, mo.upd x39 id, ?_⟩, mu 0⟩
      rw [sayL_take hsI, if_neg (by rw [his]; simp)]
      exact hcn
  · simp only [decide_eq_false_iff_not] at hge
    have hil : i = L.length := by omega
    rw [hil, List.take_length] at hcn
    obtain ⟨es, cl, _, hmi, _⟩ := id mo
    refine ⟨es, cl, hmi, fun it w55 hit => ?_⟩
    have it0 : SK.ItOf sayK VN w55 it k4 Lm Lm := SK.ItOf.made mo hmi hit
    have hits : w.heap.size ≤ it := by rw [hit.size.1]; exact x14.size
    have hne1 : k2 ≠ it := by rw [hit.size.1]; exact Nat.ne_of_lt (r14.lt)
    have hne2 : k2 ≠ k4 := by rw [hk4.size.1]; exact Nat.ne_of_lt (lt_of_heap hk2.at)
    refine ⟨⟨k2, k4, it, 0, Lm, [], Lm, (0, []), rfl, rfl, rfl, x14.trans hit.ext, s2, s4, hits, hne1, hne2, hit.ext.rowW r14 id, it0, hcn, List.Perm.refl _, .inl ⟨rfl, rfl, rfl⟩⟩, ?_⟩
    rintro n58 w59 ⟨kb', m', it', n, Lm', seen, rest, b, e1, e2, rfl, x59, _, b4, _, _, hne4, r59, hit59, hcn', hperm, hmax⟩
    simp only [Option.some.injEq, at0, Addr.mk.injEq, and_true] at e1 e2
    subst e1
    subst e2
    intros
    refine hit59.next (T := _) (E := _) ?_ ?_
    · rintro ⟨ke, kd⟩ x v rest' w102 hpr u102 sz102 hat
      have hval : v = .int .i64 (x : Int) := hat.entry.1
      subst hval
      have x102 : Ext w w102 := Upd.trans x59 u102 fun y hy h => by omega
      have r102 : RowW w102 k2 _ := u102.rowW r59 hne1
      refine ⟨ke, bstr kd, (x : Int), hat.entryAt, fun ks w108 hks => ?_⟩
      have hks0 : w102.heap.size ≤ ks := by rw [hks.size.1]; exact Nat.le_refl _
      have r108 : RowW w108 ks _ := ⟨_, hks.at⟩
      have e0 : (at0 ks) = (at0 ks).add 0 := (add_at0 ks 0).symm
      have eb : (at0 k2) = (at0 k2).add 0 := (add_at0 k2 0).symm
      refine ⟨by rw [e0]; exact r108.live (by simp), fun w109 s109 => ?_⟩
      rw [e0] at s109
      have r109 := s109.row r108
      refine ⟨r109.live (by simp), fun w110 s110 => ?_⟩
      have r110 : RowW w110 ks #[.int .i64 ke, .string (bstr kd)] := s110.row r109
      have x110 : Ext w102 w110 := setc_new (setc_new hks.ext hks0 s109) hks0 s110
      have rb : RowW w110 k2 #[.int .i64 b.1, .string (bstr b.2)] := x110.rowW r102 id
      have it110 : SK.ItOf sayK VN w110 it m' Lm' rest' := hat.toIt.upd x110 id id
      have hpos : 0 < x := by
        have hmemL := hat.entry.2
        have hnd := hat.toIt.map.nodup
        have := (get_some hnd).1 hmemL
        rw [hcn' (ke, kd)] at this
        split at this
        · rename_i hm
          simp only [Option.some.injEq] at this
          rw [← this]; exact List.count_pos_iff.2 hm
        · cases this
      have hperm' : ∀ {sn : List (Say × Nat)}, sn = ((ke, kd), x) :: seen → Lm'.Perm (sn ++ rest') := by
        rintro sn rfl
        refine hperm.trans ?_
        refine (List.Perm.append_left seen hpr).trans ?_
        simp [List.perm_middle]
      have hlt' : rest'.length < rest.length := by rw [hpr.length_eq]; simp
      have m0 : SK.leftM w59 (some (at0 it)) = rest.length := hit59.left
      have repl : (n = 0 ∨ bt (ke, kd) b x n) → ∀ w', RowW w' k2 #[.int .i64 ke, .string (bstr kd)] → Upd (fun b => b = k2) w110 w' → _ := fun hb w' hr hu => (show
          (∃ (kb m it_1 n_1 : Nat) (Lm seen rest : List (Say × Nat)) (b : Say), some (at0 k2) = some (at0 kb) ∧ some (at0 it) = some (at0 it_1) ∧ (x : Int) = n_1 ∧ Ext w w' ∧ w.heap.size ≤ kb ∧ w.heap.size ≤ m ∧ w.heap.size ≤ it_1 ∧ kb ≠ it_1 ∧ kb ≠ m ∧
            RowW w' kb #[.int .i64 b.1, .string (bstr b.2)] ∧ SK.ItOf sayK VN w' it_1 m Lm rest ∧ Counts (sayL L) Lm ∧ Lm.Perm (seen ++ rest) ∧ MaxIn seen b n_1) ∧ SK.leftM w' (some (at0 it)) < SK.leftM w59 (some (at0 it)) from by
        have it' := it110.upd hu (fun h => hne1 h.symm) (fun h => hne4 h.symm)
        refine ⟨⟨k2, m', it, x, Lm', ((ke, kd), x) :: seen, rest', (ke, kd), rfl, rfl, rfl, Upd.trans (x102.trans x110) hu fun y hy h => by omega, s2, b4, hits, hne1, hne4, hr, it', hcn', hperm' rfl, hmax.put hpos hb⟩, ?_⟩
        rw [it'.left, m0]; exact hlt')
      have keep : n ≠ 0 → ¬ bt (ke, kd) b x n →
          (∃ (kb m it_1 n_1 : Nat) (Lm seen rest : List (Say × Nat)) (b : Say), some (at0 k2) = some (at0 kb) ∧ some (at0 it) = some (at0 it_1) ∧ (n : Int) = n_1 ∧ Ext w w110 ∧ w.heap.size ≤ kb ∧ w.heap.size ≤ m ∧ w.heap.size ≤ it_1 ∧ kb ≠ it_1 ∧ kb ≠ m ∧
            RowW w110 kb #[.int .i64 b.1, .string (bstr b.2)] ∧ SK.ItOf sayK VN w110 it_1 m Lm rest ∧ Counts (sayL L) Lm ∧ Lm.Perm (seen ++ rest) ∧ MaxIn seen b n_1) ∧ SK.leftM w110 (some (at0 it)) < SK.leftM w59 (some (at0 it)) := by
        intro hn hb
        refine ⟨⟨k2, m', it, n, Lm', ((ke, kd), x) :: seen, rest', b, rfl, rfl, rfl, x102.trans x110, s2, b4, hits, hne1, hne4, rb, it110, hcn', hperm' rfl, hmax.keep hn hb⟩, ?_⟩
        rw [it110.left, m0]; exact hlt'
      refine ⟨_, r110.row.cell rfl, _, rb.row.cell rfl, _, r110.row.cell rfl, _, rb.row.cell rfl, ?_⟩
      refine condB_of (fun h1 => ?_) (fun h1 => ?_)
      · simp only [decide_eq_true_eq] at h1
        refine condB_of (fun h2 => ?_) (fun h2 => ?_)
        · simp only [decide_eq_true_eq] at h2
          have hb : bt (ke, kd) b x n := by unfold bt; rw [if_pos h1]; exact .inl (by omega)
          exact condB_of (fun _ => set_best rb r110 (repl (.inr hb))) (fun _ => set_best rb r110 (repl (.inr hb)))
        · simp only [decide_eq_false_iff_not] at h2
          refine condB_of (fun h3 => ?_) (fun h3 => ?_)
          · simp only [decide_eq_true_eq] at h3
            have h3' : x = n := by omega
            refine ⟨_, r110.row.cell rfl, _, rb.row.cell rfl, ?_⟩
            refine condB_of (fun h4 => ?_) (fun h4 => ?_)
            · simp only [decide_eq_true_eq] at h4
              exact set_best rb r110 (repl (.inl (by omega)))
            · simp only [decide_eq_false_iff_not] at h4
              have hbl : Op.bytesLess (bstr kd).toList (bstr b.2).toList = decide (kd < b.2) := by rw [bless_kLt]; rfl
              rw [hbl]
              refine condB_of (fun h5 => ?_) (fun h5 => ?_)
              · simp only [decide_eq_true_eq] at h5
                exact set_best rb r110 (repl (.inr (by unfold bt; rw [if_pos h1]; exact .inr ⟨h3', h5⟩)))
              · simp only [decide_eq_false_iff_not] at h5
                exact keep (by omega) (by
                  unfold bt; rw [if_pos h1]
                  rintro (h | ⟨_, h⟩)
                  · omega
                  · exact h5 h)
          · simp only [decide_eq_false_iff_not] at h3
            refine condB_of (fun h4 => ?_) (fun h4 => ?_)
            · simp only [decide_eq_true_eq] at h4
              exact set_best rb r110 (repl (.inl (by omega)))
            · simp only [decide_eq_false_iff_not] at h4
              exact keep (by omega) (by
                unfold bt; rw [if_pos h1]
                rintro (h | ⟨h, _⟩)
                · omega
                · exact h3 (by omega))
      · simp only [decide_eq_false_iff_not] at h1
        refine condB_of (fun h4 => ?_) (fun h4 => ?_)
        · simp only [decide_eq_true_eq] at h4
          exact set_best rb r110 (repl (.inl (by omega)))
        · simp only [decide_eq_false_iff_not] at h4
          refine condB_of (fun h5 => ?_) (fun h5 => ?_)
          · simp only [decide_eq_true_eq] at h5
            exact set_best rb r110 (repl (.inr (by unfold bt; rw [if_neg h1]; exact h5)))
          · simp only [decide_eq_false_iff_not] at h5
            exact keep (by omega) (by unfold bt; rw [if_neg h1]; exact h5)
    · rintro rfl w103 hq
      have x103 := hq.ext
      have rb : RowW w103 k2 #[.int .i64 b.1, .string (bstr b.2)] := x103.rowW r59 id
      have hfin : Best (sayL L) b n := hcn'.best hit59.map.nodup (by simpa using hperm) hmax
      refine set_best rb rb fun w148 r148 u148 => ?_
      refine ⟨_, by rw [show at0 k2 = (at0 k2).add 0 from (add_at0 k2 0).symm]; exact r148.row.cell rfl, _, r148.row.cell rfl, Upd.trans (x59.trans x103) u148 fun y hy h => by omega, b, n, hfin, rfl⟩
end Go.Proofs.Ytphkmbkmjhbenaa
