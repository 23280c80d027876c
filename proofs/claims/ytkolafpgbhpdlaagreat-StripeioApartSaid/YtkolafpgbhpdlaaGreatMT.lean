import Derived.Test.YtkolafpgbhpdlaaGreatMS
import Derived.Test.YtkolafpgbhpdlaaGreatJN
import Derived.Test.YtkolafpgbhpdlaaGreatMA
namespace Go.Proofs.YtkolafpgbhpdlaaGreat
open Go Go.Vc Go.Gf
set_option maxHeartbeats 1000000 in
theorem lread_spec {w : World} {a : Nat} {s : StA} {F : Nat → Prop} (h : IsA w a s F) (ho : OkA s) {pf : Option Addr} (hf : FieldAt w pf) {g : Geo} {i e : Int} (hg : GeoOk g) (hi : 0 ≤ i ∧ i < g.stripes) :
  Calls Tryz.prog 33 #[lnV (some (at0 a)) pf g i e] w fun e' w' => ∃ v, e' = .returned v ∧ readP s g i e w v w' := by
 refine F33_calls (some (at0 a)) pf g.k g.m g.size g.stripes g.slots g.objects i e w (readP s g i e w) (rI0 w s g i e (lnC (some (at0 a)) pf g i e)) (rM0 g) (rI1 s g i e) (rM1 g) ?_
 have hgg := hg
 obtain ⟨g1, g2, g3, g4, g5⟩ := hg
 have hn : (nG g : Int) = g.k + g.m := by unfold nG; omega
 intro k11 w12 h11
 have r12 : RowW w12 k11 (lnC (some (at0 a)) pf g i e) := ⟨_, h11.at⟩
 refine ⟨_, cell2 r12 rfl, _, cell2 r12 rfl, fun w15 hd15 => ?_⟩
 rw [w64 (n := g.k + g.m) (by omega)]
 have hN : (g.k + g.m).toNat = nG g := by omega
 rw [hN]
 have y15 := h11.ext.trans hd15.ext
 have l11 : k11 < w15.heap.size := by have := h11.size; have := hd15.ext.size; omega
 have e11 : w.heap.size ≤ w15.heap.size := y15.size
 refine ⟨⟨⟨by omega, by omega, by omega⟩, fun k250 w251 h250 => ⟨⟨by omega, by omega, by omega⟩, fun k252 w253 h252 => ?_⟩⟩, ⟨⟨by omega, by omega, by omega⟩, fun k16 w17 h16 => ⟨⟨by omega, by omega, by omega⟩, fun k18 w19 h18 => ?_⟩⟩⟩
 ·have s250 := h250.size
  have s252 := h252.size
  have hb := h250
  rw [made_bool, fRow_congr (f' := fun x => decide (x < 0) && hasS s g i e x) (fun x _ => by simp)] at hb
  refine rd_core h ho hf hgg hi ⟨y15.trans (h250.ext.trans h252.ext), h252.ext.rowW (h250.ext.rowW (hd15.ext.rowW r12 id) id) id, h252.ext.keep hb.at, ?_, by omega, by omega, by omega, by omega⟩
  exact (rows_new _ h252).congr fun x _ => by simp
 ·have s16 := h16.size
  have s18 := h18.size
  have hb := h18
  rw [made_bool, fRow_congr (f' := fun x => decide (x < 0) && hasS s g i e x) (fun x _ => by simp)] at hb
  refine rd_core h ho hf hgg hi ⟨y15.trans (h16.ext.trans h18.ext), h18.ext.rowW (h16.ext.rowW (hd15.ext.rowW r12 id) id) id, hb.at, ?_, by omega, by omega, by omega, by omega⟩
  exact ((rows_new _ h16).ext h18.ext).congr fun x _ => by simp
end Go.Proofs.YtkolafpgbhpdlaaGreat
namespace Go.Proofs.YtkolafpgbhpdlaaGreat
open Go Go.Vc Go.Gf
theorem fresh_bytes {B : Nat} {w' : World} {v : Value} {l : List UInt8} (h : Lib.FreshBytes B w' v l) : ∃ g cap, v = .slice (some (at0 g)) l.length cap ∧ B ≤ g ∧ BytesAt w' (some (at0 g)) l.length l ∧ l.length ≤ cap := by
 obtain ⟨g, cap, zs, rfl, hB, hlc, _, hz, hr, hb, hc, _⟩ := h
 refine ⟨g, cap, rfl, hB, BytesAt.of_cells fun j u hj => ?_, hlc⟩
 have hjl : j < l.length := by
  have := (List.getElem?_eq_some_iff.1 hj).1
  rw [encB_length] at this; exact this
 refine ⟨_, rfl, ?_⟩
 have hcj := hc j (by omega)
 rw [show (at0 g).add j = ⟨g, j, none⟩ by show (⟨g, 0, none⟩ : Addr).add j = _; rw [add_plain, Nat.zero_add], hcj]
 have hjz : j < zs.length := by omega
 have hu : u = vb l[j] := by
  unfold encB at hj
  rw [List.getElem?_map, List.getElem?_eq_getElem hjl] at hj
  exact (Option.some.inj hj).symm
 have hlj : l[j] = UInt8.ofNat (zs[j]).toNat := by
  have h1 : (Lib.bytesOf (zs.take l.length))[j]? = l[j]? := by rw [hb]
  unfold Lib.bytesOf at h1
  rw [List.getElem?_map, List.getElem?_take, if_pos hjl, List.getElem?_eq_getElem hjz, List.getElem?_eq_getElem hjl] at h1
  exact (Option.some.inj h1).symm
 have hrj := hr zs[j] (List.getElem_mem _)
 rw [hu, hlj, show zs.getD j 0 = zs[j] by simp [List.getD_eq_getElem?_getD, hjz]]
 congr 2
 show zs[j] = ((UInt8.ofNat zs[j].toNat).toNat : Int)
 rw [UInt8.toNat_ofNat']
 omega
theorem holds_of {w : World} {p : Option Addr} {n c : Nat} {bs : List UInt8} (h : BytesAt w p n bs) : Lib.HoldsBytes w (.slice p n c) bs := by
 obtain ⟨rfl, h2⟩ := h
 refine ⟨p, c, rfl, fun hp => ?_, fun a ha i x hx => ?_⟩
 ·by_cases e : bs = []
  ·exact e
  ·obtain ⟨a, ha, _⟩ := h2 e
   rw [hp] at ha; cases ha
 ·obtain ⟨a', ha', hc⟩ := h2 (by intro e; rw [e] at hx; simp at hx)
  rw [ha] at ha'
  cases ha'
  have hi := (List.getElem?_eq_some_iff.1 hx).1
  rw [hc i hi]
  congr 3
  rw [List.getD_eq_getElem?_getD, hx]; rfl
theorem join_nil (L : List (List UInt8)) : Lib.join L [] = L.flatten := by
 show [].intercalate L = _
 induction L with
 | nil => rfl
 | cons x L ih => cases L with
  | nil => simp [List.intercalate]
  | cons y L => simp [List.intercalate, List.intersperse] at ih ⊢; exact ih
theorem lens_flat (L : List (List UInt8)) : Lib.lens L = L.flatten.length := by simp [Lib.lens, List.length_flatten]
theorem flat_len {n S : Nat} {L : Nat → List UInt8} (hL : ∀ i, i < n → (L i).length = S) : (((List.range n).map L).flatten).length = n * S := by
 rw [List.length_flatten, List.map_map]
 have : (List.range n).map (List.length ∘ L) = (List.range n).map fun _ => S := List.map_congr_left fun i hi => hL i (List.mem_range.1 hi)
 rw [this, List.map_const', List.length_range, List.sum_replicate_nat]
set_option maxHeartbeats 1000000 in
theorem join_spec {w : World} {base k n c S : Nat} {L : Nat → List UInt8} (h : RowsAt w base (at0 k) n L) (hn : 1 ≤ n) (hS : 1 ≤ S) (hb : n * S ≤ 1048576) (hc : n ≤ c) (hL : ∀ i, i < n → (L i).length = S) :
  Calls Tryz.prog 34 #[.slice (some (at0 k)) n c, .slice none 0 0] w fun e w' => ∃ g c', e = .returned (.slice (some (at0 g)) (n * S) c') ∧ Ext w w' ∧ w.heap.size ≤ g ∧ BytesAt w' (some (at0 g)) (n * S) (((List.range n).map L).flatten) ∧ n * S ≤ c' := by
 obtain ⟨P, h3, _⟩ := h.own
 have hfl := flat_len hL
 by_cases h2 : 2 ≤ n
 ·have hp : Lib.PartsAt w ⟨k, 0, none⟩ ((List.range n).map fun i => .slice (P i).1 (P i).2.1 (P i).2.2) ((List.range n).map L) := by
   refine ⟨by simp, fun i v hv => ?_, fun i v l hv hl => ?_⟩
   ·by_cases hi : i < n
    ·rw [List.getElem?_map, List.getElem?_range hi] at hv
     cases hv
     exact (h3 i hi).1
    ·rw [List.getElem?_eq_none (by simp; omega)] at hv; cases hv
   ·by_cases hi : i < n
    ·rw [List.getElem?_map, List.getElem?_range hi] at hv hl
     cases hv
     cases hl
     exact holds_of (OwnB.bytes (h3 i hi).2)
    ·rw [List.getElem?_eq_none (by simp; omega)] at hv; cases hv
  have hn1 : n * 1 ≤ n * S := Nat.mul_le_mul_left n hS
  refine (Any.bytes_Join_many joinA k 0 n c _ _ (.slice none 0 0) [] w (by simp) h2 hp hc ⟨none, 0, rfl, fun _ => rfl, fun a ha => by cases ha⟩ (by omega) (by rw [lens_flat, hfl]; simp; omega)).mono ?_
  rintro e w' ⟨v, rfl, hf, hbl⟩
  obtain ⟨g, cap, rfl, hB, hby, hcap⟩ := fresh_bytes hf
  rw [join_nil] at hby hcap
  rw [join_nil]
  rw [hfl] at hby hcap ⊢
  exact ⟨g, cap, rfl, Ext.of_below hbl, hB, hby, hcap⟩
 ·obtain rfl : n = 1 := by omega
  have h30 := h3 0 (by omega)
  have hb0 := OwnB.bytes h30.2
  have l0 := hL 0 (by omega)
  have e1 : ((List.range 1).map L).flatten = L 0 := by simp
  rw [e1] at hfl ⊢
  obtain ⟨ad, had, hcell⟩ := hb0.2 (by intro e; rw [e] at l0; simp at l0; omega)
  have h31 := h30.1
  rw [had, hb0.1] at h31
  refine (Any.bytes_Join_one joinA k 0 c ad _ (L 0) (.slice none 0 0) w h31 (fun i x hx => ?_) (by omega) (by omega)).mono ?_
  ·have hi := (List.getElem?_eq_some_iff.1 hx).1
   rw [hcell i hi, List.getD_eq_getElem?_getD, hx]; rfl
  rintro e w' ⟨v, rfl, hf, hbl⟩
  obtain ⟨g, cap, rfl, hB, hby, hcap⟩ := fresh_bytes hf
  rw [hfl] at hby hcap ⊢
  exact ⟨g, cap, rfl, Ext.of_below hbl, hB, hby, hcap⟩
noncomputable def dataD (s : StA) (g : Geo) (i e : Int) : List UInt8 := ((List.range g.k.toNat).map (rowD g.k.toNat g.m.toNat (nG g) (hsL s g i e) (shL s g i) g.size.toNat)).flatten
theorem dataD_len (s : StA) (g : Geo) (i e : Int) : (dataD s g i e).length = g.k.toNat * g.size.toNat := flat_len fun i _ => rowD_len _ _ _ _ _ _ _
def sreadP (pf : Option Addr) (a : Nat) (s : StA) (g : Geo) (i e : Int) (w : World) (v : Value) (w' : World) : Prop := Ext w w' ∧
 ((lineZ (some (at0 a)) pf g i e ≠ 0 ∧ v = .tuple #[.slice none 0 0, .slice none 0 0, .int .i64 (lineZ (some (at0 a)) pf g i e)]) ∨
  (lineZ (some (at0 a)) pf g i e = 0 ∧ ((s.down = true ∧ v = .tuple #[.slice none 0 0, .slice none 0 0, .int .i64 130]) ∨
  (s.down = false ∧ ¬ readOk s g i e ∧ v = .tuple #[.slice none 0 0, .slice none 0 0, .int .i64 150]) ∨
  (s.down = false ∧ readOk s g i e ∧ ∃ gd cd p2 n2 c2, v = .tuple #[.slice (some (at0 gd)) (g.k.toNat * g.size.toNat) cd, .slice p2 n2 c2, .int .i64 0] ∧ w.heap.size ≤ gd ∧
   BytesAt w' (some (at0 gd)) (g.k.toNat * g.size.toNat) (dataD s g i e) ∧ g.k.toNat * g.size.toNat ≤ cd ∧ OwnN w' w.heap.size p2 n2 c2 ((List.range (nG g)).filter (badS s g i e))))))
set_option maxRecDepth 20000 in
set_option maxHeartbeats 4000000 in
theorem sread_spec {w : World} {a : Nat} {s : StA} {F : Nat → Prop} (h : IsA w a s F) (ho : OkA s) {pf : Option Addr} (hf : FieldAt w pf) (g : Geo) (i e : Int) :
  Calls Tryz.prog 11 #[.pointer (some (at0 a)), .pointer pf, gV g, .int .i64 i, .int .i64 e] w fun e' w' => ∃ v, e' = .returned v ∧ sreadP pf a s g i e w v w' := by
 refine F11_calls (some (at0 a)) pf g.k g.m g.size g.stripes g.slots g.objects i e w (sreadP pf a s g i e w) ?_
 intro k11 w12 h11
 have r12 : RowW w12 k11 #[.int .i64 g.k, .int .i64 g.m, .int .i64 g.size, .int .i64 g.stripes, .int .i64 g.slots, .int .i64 g.objects] := ⟨_, h11.at⟩
 refine ⟨_, r12.row.cell (n := 0) rfl, _, r12.row.cell rfl, _, r12.row.cell rfl, _, r12.row.cell rfl, _, r12.row.cell rfl, _, r12.row.cell rfl, fun k19 w20 h19 => new_line h19 fun w30 r30 x30 => ?_⟩
 have y30 := h11.ext.trans x30
 refine ⟨_, r30.row.cell (n := 0) rfl, _, r30.row.cell rfl, _, r30.row.cell rfl, _, r30.row.cell rfl, _, r30.row.cell rfl, _, r30.row.cell rfl, _, r30.row.cell rfl, _, r30.row.cell rfl, _, r30.row.cell rfl, _, r30.row.cell rfl, (scheck_spec (some (at0 a)) pf g i e w30).mono ?_⟩
 rintro e' w41 ⟨rfl, x41⟩
 have y41 := y30.trans x41
 have r41 : RowW w41 k19 (lnC (some (at0 a)) pf g i e) := x41.rowW r30 id
 refine ⟨_, rfl, condB_of (fun hne => ?_) fun he => ?_⟩
 ·simp only [Bool.not_eq_true', decide_eq_false_iff_not] at hne
  exact ⟨y41, .inl ⟨hne, rfl⟩⟩
 simp only [Bool.not_eq_false', decide_eq_true_eq] at he
 obtain ⟨_, hg, hlb⟩ := lineZ_ok he
 have hgg := hg
 obtain ⟨g1, g2, g3, g4, g5⟩ := hg
 have hi : 0 ≤ i ∧ i < g.stripes := by
  unfold lineB at hlb
  have := of_decide_eq_true hlb
  omega
 refine ⟨_, r41.row.cell (n := 0) rfl, _, r41.row.cell rfl, _, r41.row.cell rfl, _, r41.row.cell rfl, _, r41.row.cell rfl, _, r41.row.cell rfl, _, r41.row.cell rfl, _, r41.row.cell rfl, _, r41.row.cell rfl, _, r41.row.cell rfl, (lread_spec (IsArr.ext h y41) ho (hf.ext y41) hgg hi).mono ?_⟩
 rintro e' w54 ⟨v, rfl, x54, hv⟩
 have y54 := y41.trans x54
 rcases hv with ⟨hd, rfl⟩ | ⟨hd, hno, rfl⟩ | ⟨hd, hok, ko, p2, n2, c2, rfl, hout, hW⟩
 ·exact ⟨_, _, _, _, _, _, _, rfl, condB_of (fun _ => ⟨y54, .inr ⟨he, .inl ⟨hd, rfl⟩⟩⟩) fun h => by simp at h⟩
 ·exact ⟨_, _, _, _, _, _, _, rfl, condB_of (fun _ => ⟨y54, .inr ⟨he, .inr (.inl ⟨hd, hno, rfl⟩)⟩⟩) fun h => by simp at h⟩
 have r54 : RowW w54 k11 #[.int .i64 g.k, .int .i64 g.m, .int .i64 g.size, .int .i64 g.stripes, .int .i64 g.slots, .int .i64 g.objects] := (x30.trans (x41.trans x54)).rowW r12 id
 refine ⟨_, _, _, _, _, _, _, rfl, condB_of (fun h => by simp at h) fun _ => ⟨_, r54.row.cell (n := 0) rfl, ⟨by omega, by unfold nG; omega⟩, ?_⟩⟩
 have hrows := hout.rows
 have hcut : RowsAt w54 w41.heap.size (at0 ko) g.k.toNat (rowD g.k.toNat g.m.toNat (nG g) (hsL s g i e) (shL s g i) g.size.toNat) := by
  obtain ⟨P, q3, q4⟩ := hrows.own
  have hle : g.k.toNat ≤ nG g := by unfold nG; omega
  exact ⟨fun _ => hrows.typ (by omega), P, fun i hi => q3 i (by omega), fun i j hi hj => q4 i j (by omega) (by omega)⟩
 have bkz : g.k.toNat * g.size.toNat ≤ 32 * 4096 := Nat.mul_le_mul (by omega) (by omega)
 have hcc : cutP (some (at0 ko)) (nG g) 0 1 = some (at0 ko) := cutP0 _ _ _
 rw [hcc, Nat.sub_zero, Nat.sub_zero]
 refine (join_spec (S := g.size.toNat) hcut (by omega) (by omega) (by omega) (by unfold nG; omega) fun i _ => rowD_len _ _ _ _ _ _ _).mono ?_
 rintro e' w60 ⟨gd, cd, rfl, x60, hgd, hby, hcd⟩
 refine ⟨_, _, _, rfl, y54.trans x60, .inr ⟨he, .inr (.inr ⟨hd, hok, gd, cd, p2, n2, c2, rfl, Nat.le_trans y54.size hgd, hby, hcd, ?_⟩)⟩⟩
 exact OwnS.ext (OwnS.base_le hW y41.size) x60
end Go.Proofs.YtkolafpgbhpdlaaGreat
namespace Go.Proofs.YtkolafpgbhpdlaaGreat
open Go Go.Vc Go.Gf
def fixStep (g : Geo) (i e : Int) (R : Nat → List UInt8) (r : StA × Int × Bool) (j : Nat) : StA × Int × Bool :=
 if r.2.2 then r else if putZ r.1 g i e j (R j) = 130 then (putA r.1 g i e j (R j), 0, true) else (putA r.1 g i e j (R j), if putZ r.1 g i e j (R j) = 0 then r.2.1 + 1 else r.2.1, false)
def fixN (s : StA) (g : Geo) (i e : Int) (R : Nat → List UInt8) (W : List Nat) : StA × Int × Bool := W.foldl (fixStep g i e R) (s, 0, false)
theorem fixN_snoc (s : StA) (g : Geo) (i e : Int) (R : Nat → List UInt8) (W : List Nat) (j : Nat) : fixN s g i e R (W ++ [j]) = fixStep g i e R (fixN s g i e R W) j := by unfold fixN; rw [List.foldl_append]; rfl
theorem fixStep_stuck {g : Geo} {i e : Int} {R : Nat → List UInt8} {r : StA × Int × Bool} (h : r.2.2 = true) (W : List Nat) : W.foldl (fixStep g i e R) r = r := by
 induction W with
 | nil => rfl
 | cons j W ih =>
  rw [List.foldl_cons]
  have : fixStep g i e R r j = r := by unfold fixStep; rw [if_pos h]
  rw [this]; exact ih
theorem fixN_stuck {s : StA} {g : Geo} {i e : Int} {R : Nat → List UInt8} {W V : List Nat} (h : (fixN s g i e R W).2.2 = true) : fixN s g i e R (W ++ V) = fixN s g i e R W := by
 unfold fixN at h ⊢
 rw [List.foldl_append, fixStep_stuck h]
theorem OkA.fixN {s : StA} (h : OkA s) (g : Geo) (i e : Int) (R : Nat → List UInt8) (W : List Nat) : OkA (fixN s g i e R W).1 := by
 unfold Go.Proofs.YtkolafpgbhpdlaaGreat.fixN
 suffices hh : ∀ (r : StA × Int × Bool), OkA r.1 → OkA (W.foldl (fixStep g i e R) r).1 from hh _ h
 induction W with
 | nil => exact fun r h => h
 | cons j W ih =>
  intro r hr
  rw [List.foldl_cons]
  refine ih _ ?_
  unfold fixStep
  split
  ·exact hr
  ·split <;> exact hr.put _ _ _ _ _
noncomputable def rowsF (s : StA) (g : Geo) (i e : Int) : Nat → List UInt8 := rowD g.k.toNat g.m.toNat (nG g) (hsL s g i e) (shL s g i) g.size.toNat
noncomputable def badL (s : StA) (g : Geo) (i e : Int) : List Nat := (List.range (nG g)).filter (badS s g i e)
noncomputable def fixR (s : StA) (g : Geo) (i e : Int) : StA × Int × Bool := fixN s g i e (rowsF s g i e) (badL s g i e)
def sfixP (pf : Option Addr) (a : Nat) (s : StA) (F : Nat → Prop) (g : Geo) (i e : Int) (w : World) (v : Value) (w' : World) : Prop :=
 (lineZ (some (at0 a)) pf g i e ≠ 0 ∧ v = .tuple #[.int .i64 0, .int .i64 (lineZ (some (at0 a)) pf g i e)] ∧ Ext w w') ∨
  (lineZ (some (at0 a)) pf g i e = 0 ∧ ((s.down = true ∧ v = .tuple #[.int .i64 0, .int .i64 130] ∧ Ext w w') ∨
  (s.down = false ∧ ¬ readOk s g i e ∧ v = .tuple #[.int .i64 0, .int .i64 150] ∧ Ext w w') ∨
  (s.down = false ∧ readOk s g i e ∧ ∃ F', v = .tuple #[.int .i64 (if (fixR s g i e).2.2 then 0 else (fixR s g i e).2.1), .int .i64 (if (fixR s g i e).2.2 then 130 else 0)] ∧ Step F F' w w' ∧ IsA w' a (fixR s g i e).1 F')))
theorem take_snoc {W : List Nat} {t : Nat} (h : t < W.length) : W.take (t + 1) = W.take t ++ [W.getD t 0] := by
 rw [List.take_add_one, List.getElem?_eq_getElem h, List.getD_eq_getElem?_getD, List.getElem?_eq_getElem h]; rfl
def fxI (s : StA) (F : Nat → Prop) (a : Nat) (g : Geo) (i e : Int) (w : World) (R : Nat → List UInt8) (W : List Nat) (n : Int) (j : Int) (w1 : World) : Prop := ∃ (t : Nat) (F' : Nat → Prop), j = t ∧ t ≤ W.length ∧ Step F F' w w1 ∧ (fixN s g i e R (W.take t)).2 = (n, false) ∧ 0 ≤ n ∧ n ≤ t ∧ IsA w1 a (fixN s g i e R (W.take t)).1 F'
set_option maxRecDepth 20000 in
set_option maxHeartbeats 4000000 in
theorem sfix_spec {w : World} {a : Nat} {s : StA} {F : Nat → Prop} (h : IsA w a s F) (ho : OkA s) {pf : Option Addr} (hf : FieldAt w pf) (g : Geo) (i e : Int) :
  Calls Tryz.prog 13 #[.pointer (some (at0 a)), .pointer pf, gV g, .int .i64 i, .int .i64 e] w fun e' w' => ∃ v, e' = .returned v ∧ sfixP pf a s F g i e w v w' := by
 refine F13_calls (some (at0 a)) pf g.k g.m g.size g.stripes g.slots g.objects i e w (sfixP pf a s F g i e w)
  (fun _ p56 l56 _ z p57 l57 _ _ w54 n j w70 => (z = 0 → fxI s F a g i e w54 (rowsF s g i e) (badL s g i e) n j w70) ∧ (z ≠ 0 → n = 0 ∧ w70 = w54 ∧ l57 = 0 ∧ j = 0)) (fun _ _ _ _ _ _ l57 _ _ _ _ j _ => (l57 - j).toNat) ?_
 intro k11 w12 h11
 have r12 : RowW w12 k11 #[.int .i64 g.k, .int .i64 g.m, .int .i64 g.size, .int .i64 g.stripes, .int .i64 g.slots, .int .i64 g.objects] := ⟨_, h11.at⟩
 refine ⟨_, r12.row.cell (n := 0) rfl, _, r12.row.cell rfl, _, r12.row.cell rfl, _, r12.row.cell rfl, _, r12.row.cell rfl, _, r12.row.cell rfl, fun k19 w20 h19 => new_line h19 fun w30 r30 x30 => ?_⟩
 have y30 := h11.ext.trans x30
 refine ⟨_, r30.row.cell (n := 0) rfl, _, r30.row.cell rfl, _, r30.row.cell rfl, _, r30.row.cell rfl, _, r30.row.cell rfl, _, r30.row.cell rfl, _, r30.row.cell rfl, _, r30.row.cell rfl, _, r30.row.cell rfl, _, r30.row.cell rfl, (scheck_spec (some (at0 a)) pf g i e w30).mono ?_⟩
 rintro e' w41 ⟨rfl, x41⟩
 have y41 := y30.trans x41
 have r41 : RowW w41 k19 (lnC (some (at0 a)) pf g i e) := x41.rowW r30 id
 refine ⟨_, rfl, condB_of (fun hne => ?_) fun he => ?_⟩
 ·simp only [Bool.not_eq_true', decide_eq_false_iff_not] at hne
  exact .inl ⟨hne, rfl, y41⟩
 simp only [Bool.not_eq_false', decide_eq_true_eq] at he
 obtain ⟨_, hg, hlb⟩ := lineZ_ok he
 have hgg := hg
 obtain ⟨g1, g2, g3, g4, g5⟩ := hg
 have hi : 0 ≤ i ∧ i < g.stripes := by
  unfold lineB at hlb
  have := of_decide_eq_true hlb
  omega
 refine ⟨_, r41.row.cell (n := 0) rfl, _, r41.row.cell rfl, _, r41.row.cell rfl, _, r41.row.cell rfl, _, r41.row.cell rfl, _, r41.row.cell rfl, _, r41.row.cell rfl, _, r41.row.cell rfl, _, r41.row.cell rfl, _, r41.row.cell rfl, (lread_spec (IsArr.ext h y41) ho (hf.ext y41) hgg hi).mono ?_⟩
 rintro e' w54 ⟨v, rfl, x54, hv⟩
 have y54 := y41.trans x54
 rcases hv with ⟨hd, rfl⟩ | ⟨hd, hno, rfl⟩ | ⟨hd, hok, ko, p2, n2, c2, rfl, hout, hW⟩
 ·refine ⟨_, _, _, _, _, _, _, rfl, ⟨(fun h => by simp at h), fun _ => ⟨rfl, rfl, rfl, rfl⟩⟩, ?_⟩
  rintro n68 n69 w70 ⟨_, h2⟩
  obtain ⟨rfl, rfl, _, rfl⟩ := h2 (by decide)
  intros
  exact condB_of (fun h => by simp at h) fun _ => .inr ⟨he, .inl ⟨hd, rfl, y54⟩⟩
 ·refine ⟨_, _, _, _, _, _, _, rfl, ⟨(fun h => by simp at h), fun _ => ⟨rfl, rfl, rfl, rfl⟩⟩, ?_⟩
  rintro n68 n69 w70 ⟨_, h2⟩
  obtain ⟨rfl, rfl, _, rfl⟩ := h2 (by decide)
  intros
  exact condB_of (fun h => by simp at h) fun _ => .inr ⟨he, .inr (.inl ⟨hd, hno, rfl, y54⟩)⟩
 have hF : ∀ x, F x → x < w.heap.size := IsArr.lt h
 have s41 := y41.size
 obtain ⟨W, hWe⟩ : ∃ W, W = badL s g i e := ⟨_, rfl⟩
 have hW : OwnN w54 w41.heap.size p2 n2 c2 W := by rw [hWe]; exact hW
 have hWl := OwnN.len hW
 have hWm : ∀ j, j ∈ W → j < nG g := fun j hj => by rw [hWe] at hj; exact List.mem_range.1 (List.mem_filter.1 hj).1
 have hWn : W.length ≤ nG g := by
  rw [hWe]
  exact Nat.le_trans (List.length_filter_le _ _) (by rw [List.length_range]; exact Nat.le_refl _)
 have hn : (nG g : Int) = g.k + g.m := by unfold nG; omega
 have r54 : RowW w54 k19 (lnC (some (at0 a)) pf g i e) := x54.rowW r41 id
 have k19F : ¬ F k19 := fun hh => by have := hF _ hh; have := h19.size; have := h11.ext.size; omega
 rw [← hWe]
 refine ⟨_, _, _, _, _, _, _, rfl, ⟨fun _ => ⟨0, F, rfl, Nat.zero_le _, Step.refl _ _, rfl, by omega, by omega, IsArr.ext h y54⟩, (fun h => (h rfl).elim)⟩, ?_⟩
 rintro n68 n69 w70 ⟨h1, _⟩
 obtain ⟨t, F', rfl, ht, hst, hfx, hn0, hn1, hA⟩ := h1 rfl
 intros
 have st := (Step.ext (F := F) y54).trans hst
 have rl : RowW w70 k19 (lnC (some (at0 a)) pf g i e) := hst.upd.rowW r54 k19F
 have hrows := ListsAt.updS hout.rows hst.upd (fun x hx => by have := hF x hx; omega) hout.le
 have hW7 : OwnN w70 w41.heap.size p2 n2 c2 W := OwnS.upd hW hst.upd fun x hx hs => by
  have := OwnS.blk hW hx
  have := hF x hs
  omega
 have hRdef : rowsF s g i e = rowD g.k.toNat g.m.toNat (nG g) (hsL s g i e) (shL s g i) g.size.toNat := rfl
 have fin : ∀ (r : StA × Int × Bool) (F2 : Nat → Prop) (w' : World), fixR s g i e = r → Step F F2 w w' → IsA w' a r.1 F2 → sfixP pf a s F g i e w (.tuple #[.int .i64 (if r.2.2 then 0 else r.2.1), .int .i64 (if r.2.2 then 130 else 0)]) w' := by
  rintro r F2 w' rfl h1 h2
  exact .inr ⟨he, .inr (.inr ⟨hd, hok, F2, rfl, h1, h2⟩)⟩
 refine condB_of (fun hlt => ?_) (fun hge => ?_)
 ·simp only [decide_eq_true_eq] at hlt
  have htW : t < W.length := by omega
  have hWt : W[t]? = some (W.getD t 0) := by rw [List.getD_eq_getElem?_getD, List.getElem?_eq_getElem htW]; rfl
  have hjn : W.getD t 0 < nG g := hWm _ (List.mem_of_getElem? hWt)
  obtain ⟨ja, hja, hjc⟩ := OwnS.cells hW7 t (.int .i64 (W.getD t 0 : Int)) (by unfold encN; rw [List.getElem?_map, hWt]; rfl)
  subst hja
  obtain ⟨P, hP, _⟩ := hrows.own
  obtain ⟨hcell, hob⟩ := hP (W.getD t 0) hjn
  have lrow : (rowsF s g i e (W.getD t 0)).length = g.size.toNat := rowD_len _ _ _ _ _ _ _
  have lob := OwnB.len hob
  rw [← hRdef] at hob lob
  rw [lrow] at lob
  refine ⟨⟨by omega, hlt⟩, _, by rw [Int.toNat_natCast, Nat.mul_one]; exact hjc, fun w93 hd93 => ?_⟩
  have r93 : RowW w93 k19 (lnC (some (at0 a)) pf g i e) := hd93.ext.rowW rl id
  refine ⟨_, r93.row.cell (n := 0) rfl, _, r93.row.cell rfl, _, r93.row.cell rfl, _, r93.row.cell rfl, _, r93.row.cell rfl, _, r93.row.cell rfl, _, r93.row.cell rfl, _, r93.row.cell rfl, _, r93.row.cell rfl, _, r93.row.cell rfl, ⟨by omega, by omega⟩, _, _, _, by rw [Int.toNat_natCast, Nat.mul_one]; exact cellx hcell hd93.ext, ?_⟩
  refine (sput_spec (IsArr.ext hA hd93.ext) (ho.fixN g i e _ _) pf g i e (W.getD t 0) (OwnB.bytes (OwnB.ext hob hd93.ext)) (by omega)).mono ?_
  rintro e' w106 ⟨F2, rfl, hs2, hA2⟩
  have hs3 := (Step.ext (F := F') hd93.ext).trans hs2
  have st2 := st.trans hs3
  have hsnoc := take_snoc htW
  have hstep := fixN_snoc s g i e (rowsF s g i e) (W.take t) (W.getD t 0)
  rw [← hsnoc] at hstep
  have hdead : (fixN s g i e (rowsF s g i e) (W.take t)).2.2 = false := by rw [hfx]
  have hcnt : (fixN s g i e (rowsF s g i e) (W.take t)).2.1 = n68 := by rw [hfx]
  refine ⟨_, rfl, condB_of (fun hz => ?_) fun hz => ?_⟩
  ·simp only [decide_eq_true_eq] at hz
   unfold fixStep at hstep
   rw [hdead, if_neg (by simp), if_pos hz] at hstep
   have h3 : fixR s g i e = fixN s g i e (rowsF s g i e) (W.take (t + 1)) := by
    have h4 : (fixN s g i e (rowsF s g i e) (W.take (t + 1))).2.2 = true := by rw [hstep]
    have h5 := fixN_stuck (V := W.drop (t + 1)) h4
    rw [List.take_append_drop] at h5
    unfold fixR
    rw [← hWe]; exact h5
   rw [hstep] at h3
   have := fin _ F2 w106 h3 st2 hA2
   simpa using this
  ·simp only [decide_eq_false_iff_not] at hz
   unfold fixStep at hstep
   rw [hdead, if_neg (by simp), if_neg hz, hcnt] at hstep
   rw [w64 (n := (t : Int) + 1) (by omega), w64 (n := n68 + 1) (by omega)]
   refine condB_of (fun hz0 => ?_) fun hz0 => ?_
   ·simp only [decide_eq_true_eq] at hz0
    rw [if_pos hz0] at hstep
    exact ⟨⟨fun _ => ⟨t + 1, F2, by omega, by omega, hst.trans hs3, by rw [hstep], by omega, by omega, by rw [hstep]; exact hA2⟩, fun h => (h rfl).elim⟩, by show ((n2 : Int) - ((t : Int) + 1)).toNat < ((n2 : Int) - t).toNat; omega⟩
   ·simp only [decide_eq_false_iff_not] at hz0
    rw [if_neg hz0] at hstep
    exact ⟨⟨fun _ => ⟨t + 1, F2, by omega, by omega, hst.trans hs3, by rw [hstep], by omega, by omega, by rw [hstep]; exact hA2⟩, fun h => (h rfl).elim⟩, by show ((n2 : Int) - ((t : Int) + 1)).toNat < ((n2 : Int) - t).toNat; omega⟩
 ·simp only [decide_eq_false_iff_not] at hge
  obtain rfl : t = W.length := by omega
  rw [List.take_length] at hfx hA
  have h3 : fixR s g i e = fixN s g i e (rowsF s g i e) W := by unfold fixR; rw [← hWe]
  have := fin _ F' w70 h3 st hA
  rw [hfx] at this
  simpa using this
end Go.Proofs.YtkolafpgbhpdlaaGreat
namespace Go.Proofs.YtkolafpgbhpdlaaGreat
open Go Go.Vc Go.Gf
structure Fit (s : StA) (N : Nat) (S : Int) : Prop where
 down : s.down = false
 left : s.left = -1
 len : s.M.length = N
 sec : ∀ m ∈ s.M, m.d.sectors = S
def secA (s : StA) (d : Nat) (n : Int) : List UInt8 := match s.M[d]? with
 | some m => readD m.d n
 | none => []
def deadA (s : StA) (d : Nat) : Bool := match s.M[d]? with
 | some m => m.d.dead
 | none => true
section
variable {s : StA} {N : Nat} {S : Int} {d : Nat} {n : Int} {b : List UInt8}
theorem Fit.at (h : Fit s N S) (hd : d < N) : ∃ m, s.M[d]? = some m ∧ m.d.sectors = S := by
 have hl : d < s.M.length := by rw [h.len]; exact hd
 exact ⟨s.M[d], List.getElem?_eq_getElem hl, h.sec _ (List.getElem_mem _)⟩
theorem Fit.rdZ (h : Fit s N S) (hd : d < N) (hl : deadA s d = false) (hn : 0 ≤ n ∧ n < S) : Go.Proofs.YtkolafpgbhpdlaaGreat.rdZ s d n = 0 := by
 obtain ⟨m, hm, hs⟩ := h.at hd
 unfold deadA at hl
 unfold Go.Proofs.YtkolafpgbhpdlaaGreat.rdZ
 rw [hm] at hl ⊢
 rw [h.down, if_neg (by simp)]
 show faultZ m.d.dead m.d.sectors n = 0
 unfold faultZ
 rw [if_neg (by rw [show m.d.dead = false from hl]; simp), if_neg (by omega)]
theorem Fit.rdZ_dead (h : Fit s N S) (hd : d < N) (hl : deadA s d = true) : Go.Proofs.YtkolafpgbhpdlaaGreat.rdZ s d n = 120 := by
 obtain ⟨m, hm, hs⟩ := h.at hd
 unfold deadA at hl
 unfold Go.Proofs.YtkolafpgbhpdlaaGreat.rdZ
 rw [hm] at hl ⊢
 rw [h.down, if_neg (by simp)]
 show faultZ m.d.dead m.d.sectors n = 120
 unfold faultZ
 rw [if_pos (show m.d.dead = true from hl)]
theorem Fit.rdB (h : Fit s N S) (hd : d < N) (hl : deadA s d = false) (hn : 0 ≤ n ∧ n < S) : Go.Proofs.YtkolafpgbhpdlaaGreat.rdB s d n = secA s d n := by
 have hz := h.rdZ hd hl hn
 obtain ⟨m, hm, hs⟩ := h.at hd
 unfold Go.Proofs.YtkolafpgbhpdlaaGreat.rdB secA
 unfold Go.Proofs.YtkolafpgbhpdlaaGreat.rdZ at hz
 rw [hm] at hz ⊢
 rw [h.down, if_neg (by simp)] at hz ⊢
 exact if_pos hz
theorem Fit.write (h : Fit s N S) (hd : d < N) (hl : deadA s d = false) (hn : 0 ≤ n ∧ n < S) (hb : 1 ≤ b.length ∧ b.length ≤ 4108) :
  wrZ s d n b.length = 0 ∧ Fit (writeA s d n b) N S ∧ (∀ d', deadA (writeA s d n b) d' = deadA s d') ∧ ∀ d' n', secA (writeA s d n b) d' n' = if d' = d ∧ n' = n then b else secA s d' n' := by
 obtain ⟨m, hm, hs⟩ := h.at hd
 have hdead : m.d.dead = false := by unfold deadA at hl; rw [hm] at hl; exact hl
 have hwz : writeZ m.d n b.length = 0 := by
  have hf : faultZ m.d.dead m.d.sectors n = 0 := by unfold faultZ; rw [hdead, if_neg (by simp), if_neg (by omega)]
  unfold writeZ
  rw [hf, if_neg (by simp), if_neg (by omega)]
 have hw : writeA s d n b = ⟨s.M.set d { m with d := writeD m.d n b }, -1, false⟩ := by
  unfold writeA
  rw [h.down, if_neg (by simp), if_pos (by omega), Int.toNat_natCast, hm]
  simp [h.left]
 have hdl : d < s.M.length := by rw [h.len]; exact hd
 have hget : ∀ d', (s.M.set d { m with d := writeD m.d n b })[d']? = if d' = d then some { m with d := writeD m.d n b } else s.M[d']? := fun d' => by
  rw [List.getElem?_set]
  by_cases e : d = d'
  ·rw [if_pos e, if_pos e.symm, if_pos hdl]
  ·rw [if_neg e, if_neg (fun h => e h.symm)]
 have hwd : writeD m.d n b = { m.d with waits := ins n b m.d.waits } := by unfold writeD; rw [if_pos hwz]
 refine ⟨by unfold wrZ; rw [h.down, if_neg (by simp), hm]; exact hwz, ?_, fun d' => ?_, fun d' n' => ?_⟩
 ·rw [hw]
  refine ⟨rfl, rfl, by show (s.M.set d _).length = N; rw [List.length_set, h.len], fun m' hm' => ?_⟩
  rcases List.mem_or_eq_of_mem_set hm' with hm' | rfl
  ·exact h.sec _ hm'
  ·show (writeD m.d n b).sectors = S
   rw [hwd]; exact hs
 ·unfold deadA
  rw [hw, hget]
  by_cases e : d' = d
  ·rw [if_pos e, e, hm]
   show (writeD m.d n b).dead = m.d.dead
   rw [hwd]
  ·rw [if_neg e]
 ·unfold secA
  rw [hw, hget]
  by_cases e : d' = d
  ·subst e
   rw [if_pos rfl, hm]
   show readD (writeD m.d n b) n' = _
   rw [hwd]
   unfold readD
   rw [get_ins]
   by_cases e2 : n = n'
   ·rw [if_pos e2, if_pos ⟨rfl, e2.symm⟩]
   ·rw [if_neg e2, if_neg (fun h => e2 h.2.symm)]
  ·rw [if_neg e, if_neg (fun h => e h.1)]
end
def diskN (g : Geo) (i : Int) (j : Nat) : Nat := (diskZ g i j).toNat
section
variable {g : Geo} {i e : Int} {j j' : Nat}
theorem nG_eq (hg : GeoOk g) : (nG g : Int) = g.k + g.m := by obtain ⟨g1, g2, _⟩ := hg; unfold nG; omega
theorem diskN_eq (hg : GeoOk g) (hi : 0 ≤ i ∧ i < g.stripes) (hj : j < nG g) : (diskN g i j : Int) = ((j : Int) + i) % (nG g : Int) := by
 have hn := nG_eq hg
 unfold diskN diskZ
 rw [if_pos ⟨hg, hi, by omega, by omega⟩, ← hn]
 exact Int.toNat_of_nonneg (Int.emod_nonneg _ (by omega))
theorem diskN_lt (hg : GeoOk g) (hi : 0 ≤ i ∧ i < g.stripes) (hj : j < nG g) : diskN g i j < nG g := by
 have h := diskN_eq hg hi hj
 have := Int.emod_lt_of_pos ((j : Int) + i) (show (0 : Int) < (nG g : Int) by omega)
 omega
theorem diskN_inj (hg : GeoOk g) (hi : 0 ≤ i ∧ i < g.stripes) (hj : j < nG g) (hj' : j' < nG g) (h : diskN g i j = diskN g i j') : j = j' := by
 have h1 := diskN_eq hg hi hj
 have h2 := diskN_eq hg hi hj'
 rw [h] at h1
 have h3 := h1.symm.trans h2
 have h5 : (((j : Int) + i) - ((j' : Int) + i)) % (nG g : Int) = 0 := Int.emod_eq_emod_iff_emod_sub_eq_zero.1 h3
 obtain ⟨c, hc⟩ := Int.dvd_of_emod_eq_zero h5
 rcases Int.lt_trichotomy c 0 with hlt | rfl | hgt
 ·have : (nG g : Int) * c ≤ (nG g : Int) * (-1) := Int.mul_le_mul_of_nonneg_left (by omega) (by omega)
  omega
 ·rw [Int.mul_zero] at hc; omega
 ·have : (nG g : Int) * 1 ≤ (nG g : Int) * c := Int.mul_le_mul_of_nonneg_left (by omega) (by omega)
  omega
theorem atZ_eq (hg : GeoOk g) (hi : 0 ≤ i ∧ i < g.stripes) : atZ g i = 5 + g.slots + i := by unfold atZ; rw [if_pos ⟨hg, hi⟩]
theorem disk_some (hg : GeoOk g) (hi : 0 ≤ i ∧ i < g.stripes) {d : Nat} (hd : d < nG g) : ∃ j, j < nG g ∧ diskN g i j = d := by
 refine ⟨(((d : Int) - i) % (nG g : Int)).toNat, ?_, ?_⟩
 ·have := Int.emod_lt_of_pos ((d : Int) - i) (show (0 : Int) < (nG g : Int) by omega)
  have := Int.emod_nonneg ((d : Int) - i) (show (nG g : Int) ≠ 0 by omega)
  omega
 ·have h1 := Int.emod_lt_of_pos ((d : Int) - i) (show (0 : Int) < (nG g : Int) by omega)
  have h2 := Int.emod_nonneg ((d : Int) - i) (show (nG g : Int) ≠ 0 by omega)
  have h3 := diskN_eq hg hi (j := (((d : Int) - i) % (nG g : Int)).toNat) (by omega)
  have h4 : (d : Int) % (nG g : Int) = d := Int.emod_eq_of_lt (by omega) (by omega)
  rw [Int.toNat_of_nonneg h2, Int.emod_add_emod, Int.sub_add_cancel, h4] at h3
  exact Int.ofNat.inj h3
end
end Go.Proofs.YtkolafpgbhpdlaaGreat
namespace Go.Proofs.YtkolafpgbhpdlaaGreat
open Go Go.Vc Go.Gf
section
variable {s : StA} {S : Int} {g : Geo} {i e : Int} {j : Nat} {b : List UInt8} {R : Nat → List UInt8}
structure PutAt (g : Geo) (i e : Int) (S : Int) : Prop where
 geo : GeoOk g
 str : 0 ≤ i ∧ i < g.stripes
 ep : fitsP e
 at_ : atZ g i < S
theorem PutAt.rng (p : PutAt g i e S) : 0 ≤ atZ g i ∧ atZ g i < S := by
 have h1 := atZ_eq p.geo p.str
 obtain ⟨⟨_, _, _, g4, _⟩, hi, _, h⟩ := p
 exact ⟨by omega, h⟩
theorem PutAt.fits (p : PutAt g i e S) : fitsP (atZ g i) := by
 have h1 := atZ_eq p.geo p.str
 obtain ⟨⟨_, _, g3, g4, _⟩, hi, _, h⟩ := p
 exact ⟨by omega, by omega⟩
theorem put_fit (h : Fit s (nG g) S) (p : PutAt g i e S) (hj : j < nG g) (hl : deadA s (diskN g i j) = false) (hb : b.length ≤ 4096) :
  putZ s g i e j b = 0 ∧ Fit (putA s g i e j b) (nG g) S ∧ (∀ d, deadA (putA s g i e j b) d = deadA s d) ∧ ∀ d n, secA (putA s g i e j b) d n = if d = diskN g i j ∧ n = atZ g i then packM (atZ g i) e b else secA s d n := by
 have hok : putOk g i e b := ⟨p.fits, p.ep, hb⟩
 have hpl := packM_len (atZ g i) e b
 have hw := h.write (diskN_lt p.geo p.str hj) hl p.rng (b := packM (atZ g i) e b) (by omega)
 have hdz : diskZ g i j = (diskN g i j : Int) := (Int.toNat_of_nonneg (diskZ_pos g i j)).symm
 unfold putZ putA
 rw [if_pos hok, if_pos hok]
 have : (diskZ g i j).toNat = diskN g i j := rfl
 rw [this, hdz]
 exact hw
theorem putN_fit (h : Fit s (nG g) S) (p : PutAt g i e S) (hl : ∀ j, j < nG g → deadA s (diskN g i j) = false) (hR : ∀ j, j < nG g → (R j).length ≤ 4096) : ∀ n, n ≤ nG g →
  (putN s g i e R n).2 = false ∧ Fit (putN s g i e R n).1 (nG g) S ∧ (∀ d, deadA (putN s g i e R n).1 d = deadA s d) ∧ (∀ j, j < n → secA (putN s g i e R n).1 (diskN g i j) (atZ g i) = packM (atZ g i) e (R j)) ∧ (∀ d n', n' ≠ atZ g i → secA (putN s g i e R n).1 d n' = secA s d n')
 | 0, _ => ⟨rfl, h, fun _ => rfl, fun j hj => (Nat.not_lt_zero _ hj).elim, fun _ _ _ => rfl⟩
 | n + 1, hn => by
  obtain ⟨h1, h2, h3, h4, h5⟩ := putN_fit h p hl hR n (by omega)
  obtain ⟨p1, p2, p3, p4⟩ := put_fit h2 p (show n < nG g by omega) (by rw [h3]; exact hl n (by omega)) (hR n (by omega))
  rw [putN_step h1]
  refine ⟨by dsimp only; rw [p1]; rfl, p2, fun d => (p3 d).trans (h3 d), fun j hj => ?_, fun d n' hn' => ?_⟩
  ·dsimp only
   rw [p4]
   by_cases e1 : j = n
   ·subst e1; rw [if_pos ⟨rfl, rfl⟩]
   ·rw [if_neg (fun hh => e1 (diskN_inj p.geo p.str (by omega) (by omega) hh.1))]
    exact h4 j (by omega)
  ·dsimp only
   rw [p4, if_neg (fun hh => hn' hh.2)]
   exact h5 d n' hn'
theorem fixN_fit (h : Fit s (nG g) S) (p : PutAt g i e S) (hR : ∀ j, j < nG g → (R j).length ≤ 4096) (V : List Nat) : ∀ W : List Nat, (∀ j ∈ W, j < nG g ∧ deadA s (diskN g i j) = false) →
  (fixN s g i e R W.reverse).2 = ((W.length : Int), false) ∧ Fit (fixN s g i e R W.reverse).1 (nG g) S ∧ (∀ d, deadA (fixN s g i e R W.reverse).1 d = deadA s d) ∧ (∀ j ∈ W, secA (fixN s g i e R W.reverse).1 (diskN g i j) (atZ g i) = packM (atZ g i) e (R j)) ∧
  (∀ j, j < nG g → j ∉ W → secA (fixN s g i e R W.reverse).1 (diskN g i j) (atZ g i) = secA s (diskN g i j) (atZ g i))
 | [], _ => ⟨rfl, h, fun _ => rfl, (fun j hj => by cases hj), fun _ _ _ => rfl⟩
 | j0 :: W, hW => by
  obtain ⟨h1, h2, h3, h4, h5⟩ := fixN_fit h p hR V W fun j hj => hW j (List.mem_cons_of_mem _ hj)
  obtain ⟨hj0, hl0⟩ := hW j0 List.mem_cons_self
  obtain ⟨p1, p2, p3, p4⟩ := put_fit h2 p hj0 (by rw [h3]; exact hl0) (hR j0 hj0)
  rw [List.reverse_cons, fixN_snoc]
  unfold fixStep
  rw [h1, if_neg (by simp), p1, if_neg (by omega), if_pos rfl]
  refine ⟨by simp, p2, fun d => (p3 d).trans (h3 d), fun j hj => ?_, fun j hj hjn => ?_⟩
  ·dsimp only
   rw [p4]
   by_cases e1 : j = j0
   ·subst e1; rw [if_pos ⟨rfl, rfl⟩]
   ·have hjW : j ∈ W := by
     rcases List.mem_cons.1 hj with h | h
     ·exact (e1 h).elim
     ·exact h
    rw [if_neg (fun hh => e1 (diskN_inj p.geo p.str (hW j hj).1 hj0 hh.1))]
    exact h4 j hjW
  ·dsimp only
   rw [p4, if_neg (fun hh => hjn (by rw [diskN_inj p.geo p.str hj hj0 hh.1]; exact List.mem_cons_self))]
   exact h5 j hj fun hh => hjn (List.mem_cons_of_mem _ hh)
theorem unS_live (h : Fit s (nG g) S) (p : PutAt g i e S) (hj : j < nG g) (hl : deadA s (diskN g i j) = false) : unS s g i j = unpackM (atZ g i) (secA s (diskN g i j) (atZ g i)) := by
 have hd := diskN_lt p.geo p.str hj
 unfold unS
 have : (diskZ g i j).toNat = diskN g i j := rfl
 rw [this, h.rdZ hd hl p.rng, if_pos rfl, h.rdB hd hl p.rng]
theorem unS_dead (h : Fit s (nG g) S) (p : PutAt g i e S) (hj : j < nG g) (hl : deadA s (diskN g i j) = true) : unS s g i j = none := by
 have hd := diskN_lt p.geo p.str hj
 unfold unS
 have : (diskZ g i j).toNat = diskN g i j := rfl
 rw [this, h.rdZ_dead hd hl, if_neg (by decide)]
theorem unS_pack (h : Fit s (nG g) S) (p : PutAt g i e S) (hj : j < nG g) (hl : deadA s (diskN g i j) = false) (hb : b.length ≤ 4096) {e' : Int} (he : fitsP e') (hs : secA s (diskN g i j) (atZ g i) = packM (atZ g i) e' b) : unS s g i j = some (e', b) := by
 rw [unS_live h p hj hl, hs, unpack_pack p.fits he hb]
theorem liveS_eq (j : Nat) (h : Fit s (nG g) S) (p : PutAt g i e S) (hj : j < nG g) : liveS s g i j = !deadA s (diskN g i j) := by
 obtain ⟨m, hm, _⟩ := h.at (diskN_lt p.geo p.str hj)
 unfold liveS deadA
 have : (diskZ g i j).toNat = diskN g i j := rfl
 rw [this, hm]
end
section
variable {s : StA} {g : Geo} {i e : Int} {bs : List UInt8}
theorem rowsG_len (hg : GeoOk g) (hb : (bs.length : Int) = g.k * g.size) (j : Nat) : (rowsG g bs j).length = g.size.toNat := by
 obtain ⟨g1, g2, _⟩ := hg
 have ekz : g.k * g.size = ((g.k.toNat * g.size.toNat : Nat) : Int) := by rw [Int.natCast_mul, Int.toNat_of_nonneg (by omega), Int.toNat_of_nonneg (by omega)]
 unfold rowsG
 rw [encRow_len, partsL_row (by omega) (by omega)]
theorem missing_eq (s : StA) (g : Geo) (i e : Int) : mis (nG g) (nots (hsL s g i e)) = (List.range (nG g)).filter fun j => !hasS s g i e j := by
 unfold mis
 refine List.filter_congr fun j hj => ?_
 rw [List.mem_range] at hj
 rw [nots_get (by simp [hsL]; exact hj), hsL_at hj]
def lostN (s : StA) (g : Geo) (i e : Int) : Nat := ((List.range (nG g)).filter fun j => !hasS s g i e j).length
theorem chunks_flat (bs : List UInt8) (S : Nat) : ∀ k, ((List.range k).map fun j => (bs.drop (j * S)).take S).flatten = bs.take (k * S)
 | 0 => by simp
 | k + 1 => by
  rw [List.range_succ, List.map_append, List.flatten_append, chunks_flat bs S k, Nat.succ_mul, List.take_add]
  simp
theorem read_law (hg : GeoOk g) (hb : (bs.length : Int) = g.k * g.size) (hR : ∀ j, j < nG g → hasS s g i e j = true → shS s g i j = rowsG g bs j) (hc : lostN s g i e ≤ g.m.toNat) :
  readOk s g i e ∧ (∀ j, j < nG g → rowsF s g i e j = rowsG g bs j) ∧ dataD s g i e = bs ∧ ∀ j, j < nG g → badS s g i e j = (liveS s g i j && !hasS s g i e j) := by
 have hgg := hg
 obtain ⟨g1, g2, g3, g4, g5⟩ := hg
 have hn := nG_eq hgg
 have hN : nG g = g.k.toNat + g.m.toNat := rfl
 have ekz : g.k * g.size = ((g.k.toNat * g.size.toNat : Nat) : Int) := by rw [Int.natCast_mul, Int.toNat_of_nonneg (by omega), Int.toNat_of_nonneg (by omega)]
 have hrow : ∀ j, (rowsG g bs j).length = g.size.toNat := rowsG_len hgg hb
 have hpl : (partsL bs g.k.toNat g.size.toNat).length = g.k.toNat := partsL_len _ _ _
 have hp0 : ((partsL bs g.k.toNat g.size.toNat).getD 0 []).length = g.size.toNat := partsL_row (by omega) (by omega)
 have hmis := missing_eq s g i e
 have hcol : ∀ x, x < g.size.toNat → decM g.k.toNat g.m.toNat (wordAt (nG g) (hsL s g i e) (shL s g i) x) (nots (hsL s g i e)) = some (enc g.k.toNat g.m.toNat ((partsL bs g.k.toNat g.size.toNat).map fun y => co y x)) ∧
   dif (nG g) (nots (hsL s g i e)) (enc g.k.toNat g.m.toNat ((partsL bs g.k.toNat g.size.toNat).map fun y => co y x)) (wordAt (nG g) (hsL s g i e) (shL s g i) x) = [] := fun x hx => by
  have hd : dif (nG g) (nots (hsL s g i e)) (enc g.k.toNat g.m.toNat ((partsL bs g.k.toNat g.size.toNat).map fun y => co y x)) (wordAt (nG g) (hsL s g i e) (shL s g i) x) = [] := by
   refine List.filter_eq_nil_iff.2 fun j hj => ?_
   rw [List.mem_range] at hj
   rw [nots_get (by simp [hsL]; exact hj), hsL_at hj, Bool.not_not]
   cases hh : hasS s g i e j with
   | false => simp
   | true =>
    rw [co_wordAt hj, hsL_at hj, if_pos hh, shL_at hj, hR j hj hh]
    have : co (rowsG g bs j) x = co (enc g.k.toNat g.m.toNat ((partsL bs g.k.toNat g.size.toNat).map fun y => co y x)) j := encRow_co (by rw [hp0]; exact hx)
    rw [this]
    simp
  refine ⟨decM_some (by omega) ⟨enc_code (by omega) (by rw [List.length_map, hpl]), ?_⟩, hd⟩
  rw [← hN, hd, hmis]
  have : ((List.range (nG g)).filter fun j => !hasS s g i e j).length ≤ g.m.toNat := hc
  simpa using this
 have hsome : ∃ j, j < nG g ∧ hasS s g i e j = true := by
  obtain ⟨j, hj, hb⟩ := mis_some (n := nG g) (ms := nots (hsL s g i e)) (by
   rw [hmis]
   have : ((List.range (nG g)).filter fun j => !hasS s g i e j).length ≤ g.m.toNat := hc
   omega)
  rw [nots_get (by simp [hsL]; exact hj), hsL_at hj] at hb
  exact ⟨j, hj, by simpa using hb⟩
 have hrows : ∀ j, j < nG g → rowsF s g i e j = rowsG g bs j := fun j hj => by
  refine co_ext (by rw [hrow]; exact rowD_len _ _ _ _ _ _ _) fun x hx => ?_
  have hx : x < g.size.toNat := by rw [← rowD_len g.k.toNat g.m.toNat (nG g) (hsL s g i e) (shL s g i) g.size.toNat j]; exact hx
  have h1 : co (rowsF s g i e j) x = co (colD g.k.toNat g.m.toNat (nG g) (hsL s g i e) (shL s g i) x) j := by
   show co ((List.range g.size.toNat).map fun t => co (colD g.k.toNat g.m.toNat (nG g) (hsL s g i e) (shL s g i) t) j) x = _
   exact range_co _ hx
  have h2 : colD g.k.toNat g.m.toNat (nG g) (hsL s g i e) (shL s g i) x = enc g.k.toNat g.m.toNat ((partsL bs g.k.toNat g.size.toNat).map fun y => co y x) := by unfold colD; rw [(hcol x hx).1]; rfl
  have h3 : co (rowsG g bs j) x = co (enc g.k.toNat g.m.toNat ((partsL bs g.k.toNat g.size.toNat).map fun y => co y x)) j := encRow_co (by rw [hp0]; exact hx)
  rw [h1, h2, h3]
 refine ⟨⟨hsome, fun x hx => by rw [(hcol x hx).1]; simp⟩, hrows, ?_, fun j hj => ?_⟩
 ·unfold dataD
  have h1 : (List.range g.k.toNat).map (rowD g.k.toNat g.m.toNat (nG g) (hsL s g i e) (shL s g i) g.size.toNat) = (List.range g.k.toNat).map fun j => (bs.drop (j * g.size.toNat)).take g.size.toNat := by
   refine List.map_congr_left fun j hj => ?_
   rw [List.mem_range] at hj
   have h2 := hrows j (by omega)
   unfold rowsF at h2
   rw [h2]
   refine co_ext (by rw [hrow, ← partsL_at hj, partsL_row (by omega) hj]) fun x hx => ?_
   rw [hrow] at hx
   have h3 : co (rowsG g bs j) x = co (enc g.k.toNat g.m.toNat ((partsL bs g.k.toNat g.size.toNat).map fun y => co y x)) j := encRow_co (by rw [hp0]; exact hx)
   rw [h3, enc_data (by rw [List.length_map, hpl]) hj, ← partsL_at hj]
   simp [Gf.co, List.getD_eq_getElem?_getD, hpl, hj]
  rw [h1, chunks_flat, List.take_of_length_le (by omega)]
 ·unfold badS
  have : flgD g.k.toNat g.m.toNat (nG g) (hsL s g i e) (shL s g i) g.size.toNat j = false := by
   cases hf : flgD g.k.toNat g.m.toNat (nG g) (hsL s g i e) (shL s g i) g.size.toNat j with
   | false => rfl
   | true =>
    obtain ⟨x, hx, hm⟩ := (flgD_iff _ _ _ _ _ _ _).1 hf
    unfold difD colD at hm
    rw [(hcol x hx).1] at hm
    have h3 := (hcol x hx).2
    rw [show (some (enc g.k.toNat g.m.toNat ((partsL bs g.k.toNat g.size.toNat).map fun y => co y x))).getD [] = enc g.k.toNat g.m.toNat ((partsL bs g.k.toNat g.size.toNat).map fun y => co y x) from rfl, h3] at hm
    cases hm
  rw [this, Bool.or_false]
theorem read_lost (hg : GeoOk g) (hc : g.m.toNat < lostN s g i e) : ¬ readOk s g i e := by
 rintro ⟨_, h⟩
 obtain ⟨g1, g2, _⟩ := hg
 refine h 0 (by omega) (many_missing ?_)
 have := missing_eq s g i e
 have hN : nG g = g.k.toNat + g.m.toNat := rfl
 rw [← hN, this]; exact hc
end
end Go.Proofs.YtkolafpgbhpdlaaGreat
namespace Go.Proofs.YtkolafpgbhpdlaaGreat
open Go Go.Vc Go.Gf
def StOk (s : StA) (g : Geo) (i e : Int) (bs : List UInt8) (lost : Nat → Bool) : Prop := ∀ j, j < nG g → (lost j = false → unS s g i j = some (e, rowsG g bs j)) ∧ (lost j = true → hasS s g i e j = false)
def lostC (g : Geo) (lost : Nat → Bool) : Nat := ((List.range (nG g)).filter lost).length
section
variable {s : StA} {S : Int} {g : Geo} {i e : Int} {bs : List UInt8} {lost : Nat → Bool} {pa pf : Option Addr}
theorem size_le (hg : GeoOk g) (hb : (bs.length : Int) = g.k * g.size) (j : Nat) : (rowsG g bs j).length ≤ 4096 := by
 have := rowsG_len hg hb j
 obtain ⟨_, g2, _⟩ := hg
 omega
theorem StOk.has (h : StOk s g i e bs lost) (hg : GeoOk g) (hb : (bs.length : Int) = g.k * g.size) {j : Nat} (hj : j < nG g) : hasS s g i e j = !lost j := by
 obtain ⟨h1, h2⟩ := h j hj
 cases hl : lost j with
 | true => rw [h2 hl]; rfl
 | false =>
  unfold hasS
  rw [h1 hl]
  show decide (e = e ∧ ((rowsG g bs j).length : Int) = g.size) = true
  have := rowsG_len hg hb j
  obtain ⟨_, g2, _⟩ := hg
  exact decide_eq_true ⟨rfl, by omega⟩
theorem StOk.sh (h : StOk s g i e bs lost) {j : Nat} (hj : j < nG g) (hl : lost j = false) : shS s g i j = rowsG g bs j := by
 unfold shS
 rw [(h j hj).1 hl]
theorem StOk.count (h : StOk s g i e bs lost) (hg : GeoOk g) (hb : (bs.length : Int) = g.k * g.size) : lostN s g i e = lostC g lost := by
 unfold lostN lostC
 congr 1
 refine List.filter_congr fun j hj => ?_
 rw [h.has hg hb (List.mem_range.1 hj), Bool.not_not]
theorem StOk.few (h : StOk s g i e bs lost) (hg : GeoOk g) (hb : (bs.length : Int) = g.k * g.size) (hc : lostC g lost ≤ g.m.toNat) :
  readOk s g i e ∧ (∀ j, j < nG g → rowsF s g i e j = rowsG g bs j) ∧ dataD s g i e = bs ∧ ∀ j, j < nG g → badS s g i e j = (liveS s g i j && lost j) := by
 obtain ⟨h1, h2, h3, h4⟩ := read_law hg hb (fun j hj hh => by
  rw [h.has hg hb hj] at hh
  exact h.sh hj (by simpa using hh)) (by rw [h.count hg hb]; exact hc)
 exact ⟨h1, h2, h3, fun j hj => by rw [h4 j hj, h.has hg hb hj, Bool.not_not]⟩
theorem StOk.many (h : StOk s g i e bs lost) (hg : GeoOk g) (hb : (bs.length : Int) = g.k * g.size) (hc : g.m.toNat < lostC g lost) : ¬ readOk s g i e := read_lost hg (by rw [h.count hg hb]; exact hc)
theorem StOk.other (h : StOk s g i e bs fun _ => false) (hg : GeoOk g) {e' : Int} (he : e' ≠ e) : ¬ readOk s g i e' := by
 refine read_lost hg ?_
 have : ((List.range (nG g)).filter fun j => !hasS s g i e' j) = List.range (nG g) := by
  refine List.filter_eq_self.2 fun j hj => ?_
  unfold hasS
  rw [(h j (List.mem_range.1 hj)).1 rfl]
  show (!decide (e = e' ∧ _)) = true
  rw [decide_eq_false (fun hh => he hh.1.symm)]; rfl
 unfold lostN
 rw [this, List.length_range]
 obtain ⟨g1, _⟩ := hg
 unfold nG
 omega
def badC (s : StA) (g : Geo) (i : Int) (lost : Nat → Bool) : List Nat := (List.range (nG g)).filter fun j => !deadA s (diskN g i j) && lost j
theorem StOk.bad (h : StOk s g i e bs lost) (hf : Fit s (nG g) S) (p : PutAt g i e S) (hb : (bs.length : Int) = g.k * g.size) (hc : lostC g lost ≤ g.m.toNat) : badL s g i e = badC s g i lost := by
 unfold badL badC
 refine List.filter_congr fun j hj => ?_
 have hj := List.mem_range.1 hj
 rw [(h.few p.geo hb hc).2.2.2 j hj, liveS_eq j hf p hj]
theorem fix_law (h : StOk s g i e bs lost) (hf : Fit s (nG g) S) (p : PutAt g i e S) (hb : (bs.length : Int) = g.k * g.size) (hc : lostC g lost ≤ g.m.toNat) :
  (fixR s g i e).2 = (((badC s g i lost).length : Int), false) ∧ Fit (fixR s g i e).1 (nG g) S ∧ (∀ d, deadA (fixR s g i e).1 d = deadA s d) ∧ StOk (fixR s g i e).1 g i e bs (fun j => lost j && deadA s (diskN g i j)) := by
 obtain ⟨hok, hrows, _, _⟩ := h.few p.geo hb hc
 have hbe := h.bad hf p hb hc
 have hmem : ∀ j, j ∈ badC s g i lost ↔ j < nG g ∧ deadA s (diskN g i j) = false ∧ lost j = true := fun j => by simp [badC]
 have hx := fixN_fit (R := rowsF s g i e) hf p (fun j hj => by rw [hrows j hj]; exact size_le p.geo hb j) [] (badC s g i lost).reverse (fun j hj => by
  have := (hmem j).1 (List.mem_reverse.1 hj)
  exact ⟨this.1, this.2.1⟩)
 rw [List.reverse_reverse, List.length_reverse] at hx
 unfold fixR
 rw [hbe]
 obtain ⟨h1, h2, h3, h4, h5⟩ := hx
 refine ⟨h1, h2, h3, fun j hj => ?_⟩
 cases hl : lost j with
 | false =>
  refine ⟨fun _ => ?_, fun hh => by simp [hl] at hh⟩
  have hun := (h j hj).1 hl
  have hs := h5 j hj fun hh => by have := ((hmem j).1 (List.mem_reverse.1 hh)).2.2; rw [hl] at this; cases this
  cases hd : deadA s (diskN g i j) with
  | true => rw [unS_dead hf p hj hd] at hun; cases hun
  | false =>
   rw [unS_live hf p hj hd] at hun
   rw [unS_live h2 p hj (by rw [h3]; exact hd), hs]; exact hun
 | true =>
  cases hd : deadA s (diskN g i j) with
  | true =>
   refine ⟨fun hh => by simp [hl, hd] at hh, fun _ => ?_⟩
   unfold hasS
   rw [unS_dead h2 p hj (by rw [h3]; exact hd)]
  | false =>
   refine ⟨fun _ => ?_, fun hh => by simp [hl, hd] at hh⟩
   have hs := h4 j (List.mem_reverse.2 ((hmem j).2 ⟨hj, hd, hl⟩))
   rw [hrows j hj] at hs
   exact unS_pack h2 p hj (by rw [h3]; exact hd) (size_le p.geo hb j) p.ep hs
theorem write_law (hf : Fit s (nG g) S) (hl : ∀ d, d < nG g → deadA s d = false) (hS : S = sectorsZ g) (hok : swOk pa pf g i e bs) :
  PutAt g i e S ∧ (bs.length : Int) = g.k * g.size ∧ swZ s pa pf g i e bs = 0 ∧ Fit (swS s pa pf g i e bs) (nG g) S ∧ (∀ d, deadA (swS s pa pf g i e bs) d = deadA s d) ∧ StOk (swS s pa pf g i e bs) g i e bs (fun _ => false) ∧
   (∀ d n', n' ≠ atZ g i → secA (swS s pa pf g i e bs) d n' = secA s d n') := by
 obtain ⟨_, hg, hlb⟩ := lineZ_ok hok.1
 have hb := hok.2
 unfold lineB at hlb
 have hlb := of_decide_eq_true hlb
 have hi : 0 ≤ i ∧ i < g.stripes := ⟨hlb.1, hlb.2.1⟩
 have p : PutAt g i e S := ⟨hg, hi, hlb.2.2, by rw [hS, atZ_eq hg hi]; unfold sectorsZ; rw [if_pos hg]; omega⟩
 obtain ⟨h1, h2, h3, h4, h5⟩ := putN_fit (R := rowsG g bs) hf p (fun j hj => hl _ (diskN_lt hg hi hj)) (fun j _ => size_le hg hb j) (nG g) (Nat.le_refl _)
 have e1 : swN s g i e bs = putN s g i e (rowsG g bs) (nG g) := rfl
 have e2 : swS s pa pf g i e bs = (putN s g i e (rowsG g bs) (nG g)).1 := by unfold swS; rw [if_pos hok, e1]
 refine ⟨p, hb, by unfold swZ; rw [if_pos hok, e1, h1, if_neg (by simp)], ?_, ?_, ?_, ?_⟩
 all_goals rw [e2]
 ·exact h2
 ·exact h3
 ·exact fun j hj => ⟨fun _ => unS_pack h2 p hj (by rw [h3]; exact hl _ (diskN_lt hg hi hj)) (size_le hg hb j) p.ep (h4 j hj), fun hh => by cases hh⟩
 ·exact h5
end
def newA (n : Nat) (S : Int) : StA := ⟨List.replicate n ⟨⟨S, [], [], false⟩, 0⟩, -1, false⟩
theorem newA_fit (n : Nat) (S : Int) : Fit (newA n S) n S := ⟨rfl, rfl, by simp [newA], fun m hm => by
 have := (List.mem_replicate.1 hm).2
 rw [this]⟩
theorem newA_dead {n d : Nat} (S : Int) (h : d < n) : deadA (newA n S) d = false := by simp [deadA, newA, List.getElem?_replicate, h]
theorem sread_few {pf : Option Addr} {a : Nat} {s : StA} {S : Int} {g : Geo} {i e : Int} {bs : List UInt8} {lost : Nat → Bool} {w w' : World} {v : Value} (hr : sreadP pf a s g i e w v w') (hz : lineZ (some (at0 a)) pf g i e = 0) (hf : Fit s (nG g) S) (p : PutAt g i e S) (h : StOk s g i e bs lost) (hb : (bs.length : Int) = g.k * g.size) (hc : lostC g lost ≤ g.m.toNat) :
  Ext w w' ∧ ∃ gd cd p2 n2 c2, v = .tuple #[.slice (some (at0 gd)) bs.length cd, .slice p2 n2 c2, .int .i64 0] ∧ w.heap.size ≤ gd ∧ BytesAt w' (some (at0 gd)) bs.length bs ∧ bs.length ≤ cd ∧ OwnN w' w.heap.size p2 n2 c2 (badC s g i lost) := by
 obtain ⟨h1, h2, h3, _⟩ := h.few p.geo hb hc
 have hbe := h.bad hf p hb hc
 have hlen : g.k.toNat * g.size.toNat = bs.length := by rw [← dataD_len s g i e, h3]
 rcases hr with ⟨hx, ⟨hne, _⟩ | ⟨_, ⟨hd, _⟩ | ⟨_, hno, _⟩ | ⟨_, _, gd, cd, p2, n2, c2, rfl, hgd, hby, hcd, hW⟩⟩⟩
 ·exact (hne hz).elim
 ·rw [hf.down] at hd; cases hd
 ·exact (hno h1).elim
 ·refine ⟨hx, gd, cd, p2, n2, c2, by rw [hlen], hgd, ?_, by rw [← hlen]; exact hcd, ?_⟩
  ·rw [h3, hlen] at hby; exact hby
  ·have : (List.range (nG g)).filter (badS s g i e) = badL s g i e := rfl
   rw [this, hbe] at hW
   exact hW
theorem sread_no {pf : Option Addr} {a : Nat} {s : StA} {S : Int} {g : Geo} {i e : Int} {w w' : World} {v : Value} (hr : sreadP pf a s g i e w v w') (hz : lineZ (some (at0 a)) pf g i e = 0) (hf : Fit s (nG g) S) (h : ¬ readOk s g i e) :
  Ext w w' ∧ v = .tuple #[.slice none 0 0, .slice none 0 0, .int .i64 150] := by
 rcases hr with ⟨hx, ⟨hne, _⟩ | ⟨_, ⟨hd, _⟩ | ⟨_, _, rfl⟩ | ⟨_, hok, _⟩⟩⟩
 ·exact (hne hz).elim
 ·rw [hf.down] at hd; cases hd
 ·exact ⟨hx, rfl⟩
 ·exact (h hok).elim
def emptyA (s : StA) (d : Nat) (dead : Bool) : StA := onDisk s d fun m => ⟨{ m.d with dead := dead, lasts := [], waits := [] }, IntKind.i64.wrap (m.births + 1)⟩
theorem empty_law {s : StA} {N : Nat} {S : Int} {d : Nat} (hf : Fit s N S) (hd : d < N) (dead : Bool) : Fit (emptyA s d dead) N S ∧ (∀ d', deadA (emptyA s d dead) d' = if d' = d then dead else deadA s d') ∧ ∀ d' n, secA (emptyA s d dead) d' n = if d' = d then [] else secA s d' n := by
 obtain ⟨m, hm, hs⟩ := hf.at hd
 have hdl : d < s.M.length := by rw [hf.len]; exact hd
 have e1 : emptyA s d dead = { s with M := s.M.set d ⟨{ m.d with dead := dead, lasts := [], waits := [] }, IntKind.i64.wrap (m.births + 1)⟩ } := by
  unfold emptyA onDisk
  rw [Int.toNat_natCast, hm]
  simp
 have hget : ∀ (x : Mem) (d' : Nat), (s.M.set d x)[d']? = if d' = d then some x else s.M[d']? := fun x d' => by
  rw [List.getElem?_set]
  by_cases e : d = d'
  ·rw [if_pos e, if_pos e.symm, if_pos hdl]
  ·rw [if_neg e, if_neg (fun h => e h.symm)]
 rw [e1]
 refine ⟨⟨hf.down, hf.left, by show (s.M.set d _).length = N; rw [List.length_set, hf.len], fun m' hm' => ?_⟩, fun d' => ?_, fun d' n => ?_⟩
 ·rcases List.mem_or_eq_of_mem_set hm' with hm' | rfl
  ·exact hf.sec _ hm'
  ·exact hs
 ·unfold deadA
  show (match (s.M.set d _)[d']? with | some m => m.d.dead | none => true) = _
  rw [hget]
  by_cases e : d' = d
  ·rw [if_pos e, if_pos e]
  ·rw [if_neg e, if_neg e]; try rfl
 ·unfold secA
  show (match (s.M.set d _)[d']? with | some m => readD m.d n | none => []) = _
  rw [hget]
  by_cases e : d' = d
  ·rw [if_pos e, if_pos e]; rfl
  ·rw [if_neg e, if_neg e]; try rfl
end Go.Proofs.YtkolafpgbhpdlaaGreat
namespace Go.Proofs.YtkolafpgbhpdlaaGreat
open Go Go.Vc Go.Gf
def tinyG : Geo := ⟨2, 1, 1, 2, 1, 1⟩
set_option maxRecDepth 20000 in
theorem tiny_spec (w : World) : Calls Tryz.prog 30 #[] w fun e w' => e = .returned (gV tinyG) ∧ Ext w w' := by
 refine (F30_calls w (fun v w' => v = gV tinyG ∧ Ext w w') ?_).mono (by rintro e w' ⟨v, rfl, rfl, h⟩; exact ⟨rfl, h⟩)
 intro k w2 h2
 have n20 : w.heap.size ≤ k := by rw [h2.size.1]; exact Nat.le_refl _
 have t0 : RowK w2 k 24 #[.int .i64 0, .int .i64 0, .int .i64 0, .int .i64 0, .int .i64 0, .int .i64 0] := h2.at
 refine ⟨t0.live0 (by simp), fun w3 s3 => ?_⟩
 obtain ⟨t1, v1⟩ := t0.set0 s3
 refine ⟨t1.live3 (by simp), fun w4 s4 => ?_⟩
 obtain ⟨t2, v2⟩ := t1.set3 s4
 refine ⟨t2.live3 (by simp), fun w5 s5 => ?_⟩
 obtain ⟨t3, v3⟩ := t2.set3 s5
 refine ⟨t3.live3 (by simp), fun w6 s6 => ?_⟩
 obtain ⟨t4, v4⟩ := t3.set3 s6
 refine ⟨t4.live3 (by simp), fun w7 s7 => ?_⟩
 obtain ⟨t5, v5⟩ := t4.set3 s7
 refine ⟨t5.live3 (by simp), fun w8 s8 => ?_⟩
 obtain ⟨t6, v6⟩ := t5.set3 s8
 have r : RowW w8 k #[.int .i64 2, .int .i64 1, .int .i64 1, .int .i64 2, .int .i64 1, .int .i64 1] := ⟨_, by simpa using t6⟩
 exact ⟨_, r.row.cell (n := 0) rfl, _, r.row.cell rfl, _, r.row.cell rfl, _, r.row.cell rfl, _, r.row.cell rfl, _, r.row.cell rfl, rfl, ext_upd (ext_upd (ext_upd (ext_upd (ext_upd (ext_upd h2.ext n20 v1) n20 v2) n20 v3) n20 v4) n20 v5) n20 v6⟩
def smallB (g : Geo) : Bool := if checkG g ≠ 0 then true else decide (g.k + g.m ≤ 7) && (decide (g.size ≤ 8) && decide (g.stripes ≤ 20))
theorem checkG_ok {g : Geo} (h : checkG g = 0) : GeoOk g := by
 by_cases hg : GeoOk g
 ·exact hg
 ·unfold checkG at h; rw [if_neg hg] at h; cases h
abbrev gC (g : Geo) : Array Value := #[.int .i64 g.k, .int .i64 g.m, .int .i64 g.size, .int .i64 g.stripes, .int .i64 g.slots, .int .i64 g.objects]
theorem small_spec (g : Geo) (w : World) : Calls Tryz.prog 15 #[gV g] w fun e w' => e = .returned (.bool (smallB g)) ∧ Ext w w' := by
 refine (F15_calls g.k g.m g.size g.stripes g.slots g.objects w (fun v w' => v = .bool (smallB g) ∧ Ext w w') ?_).mono (by rintro e w' ⟨v, rfl, rfl, h⟩; exact ⟨rfl, h⟩)
 intro k w8 h8
 have r : RowW w8 k (gC g) := ⟨_, h8.at⟩
 refine ⟨_, r.row.cell (n := 0) rfl, _, r.row.cell rfl, _, r.row.cell rfl, _, r.row.cell rfl, _, r.row.cell rfl, _, r.row.cell rfl, (check_spec g w8).mono ?_⟩
 rintro e w15 ⟨rfl, x15⟩
 have r15 : RowW w15 k (gC g) := x15.rowW r id
 have y := h8.ext.trans x15
 unfold smallB
 refine ⟨_, rfl, condB_of (fun hne => ?_) fun he => ?_⟩
 ·simp only [Bool.not_eq_true', decide_eq_false_iff_not] at hne
  rw [if_pos hne]; exact ⟨rfl, y⟩
 simp only [Bool.not_eq_false', decide_eq_true_eq] at he
 obtain ⟨g1, g2, g3, _⟩ := checkG_ok he
 rw [if_neg (by omega)]
 refine ⟨_, r15.row.cell rfl, _, r15.row.cell rfl, ?_⟩
 rw [w64 (n := g.k + g.m) (by omega)]
 refine condB_of (fun h1 => ⟨_, r15.row.cell rfl, condB_of (fun h2 => ⟨_, r15.row.cell rfl, ?_⟩) fun h2 => ?_⟩) fun h1 => ?_
 ·rw [h1, h2]; exact ⟨rfl, y⟩
 ·rw [h1, h2]; exact ⟨rfl, y⟩
 ·rw [h1]; exact ⟨rfl, y⟩
theorem lineZ_none {pa pf : Option Addr} (g : Geo) (i e : Int) (h : pa = none ∨ pf = none) : lineZ pa pf g i e = 1 := by
 have : (pa.isSome && pf.isSome) = false := by rcases h with rfl | rfl <;> simp
 unfold lineZ
 rw [this]; rfl
set_option maxRecDepth 20000 in
set_option maxHeartbeats 1000000 in
theorem sread_none {pa pf : Option Addr} (h : pa = none ∨ pf = none) (g : Geo) (i e : Int) (w : World) :
  Calls Tryz.prog 11 #[.pointer pa, .pointer pf, gV g, .int .i64 i, .int .i64 e] w fun e' w' => e' = .returned (.tuple #[.slice none 0 0, .slice none 0 0, .int .i64 1]) ∧ Ext w w' := by
 refine (F11_calls pa pf g.k g.m g.size g.stripes g.slots g.objects i e w (fun v w' => v = .tuple #[.slice none 0 0, .slice none 0 0, .int .i64 1] ∧ Ext w w') ?_).mono (by rintro e w' ⟨v, rfl, rfl, h⟩; exact ⟨rfl, h⟩)
 intro k11 w12 h11
 have r12 : RowW w12 k11 (gC g) := ⟨_, h11.at⟩
 refine ⟨_, r12.row.cell (n := 0) rfl, _, r12.row.cell rfl, _, r12.row.cell rfl, _, r12.row.cell rfl, _, r12.row.cell rfl, _, r12.row.cell rfl, fun k19 w20 h19 => new_line (pa := pa) (pf := pf) (g := g) (i := i) (e := e) h19 fun w30 r30 x30 => ?_⟩
 refine ⟨_, r30.row.cell (n := 0) rfl, _, r30.row.cell rfl, _, r30.row.cell rfl, _, r30.row.cell rfl, _, r30.row.cell rfl, _, r30.row.cell rfl, _, r30.row.cell rfl, _, r30.row.cell rfl, _, r30.row.cell rfl, _, r30.row.cell rfl, (scheck_spec pa pf g i e w30).mono ?_⟩
 rintro e' w41 ⟨rfl, x41⟩
 rw [lineZ_none g i e h]
 exact ⟨_, rfl, condB_of (fun _ => ⟨rfl, (h11.ext.trans x30).trans x41⟩) fun h => by simp at h⟩
set_option maxRecDepth 20000 in
set_option maxHeartbeats 1000000 in
theorem sfix_none {pa pf : Option Addr} (h : pa = none ∨ pf = none) (g : Geo) (i e : Int) (w : World) :
  Calls Tryz.prog 13 #[.pointer pa, .pointer pf, gV g, .int .i64 i, .int .i64 e] w fun e' w' => e' = .returned (.tuple #[.int .i64 0, .int .i64 1]) ∧ Ext w w' := by
 refine (F13_calls pa pf g.k g.m g.size g.stripes g.slots g.objects i e w (fun v w' => v = .tuple #[.int .i64 0, .int .i64 1] ∧ Ext w w') (fun _ _ _ _ _ _ _ _ _ _ _ _ _ => False) (fun _ _ _ _ _ _ _ _ _ _ _ _ _ => 0) ?_).mono (by rintro e w' ⟨v, rfl, rfl, h⟩; exact ⟨rfl, h⟩)
 intro k11 w12 h11
 have r12 : RowW w12 k11 (gC g) := ⟨_, h11.at⟩
 refine ⟨_, r12.row.cell (n := 0) rfl, _, r12.row.cell rfl, _, r12.row.cell rfl, _, r12.row.cell rfl, _, r12.row.cell rfl, _, r12.row.cell rfl, fun k19 w20 h19 => new_line (pa := pa) (pf := pf) (g := g) (i := i) (e := e) h19 fun w30 r30 x30 => ?_⟩
 refine ⟨_, r30.row.cell (n := 0) rfl, _, r30.row.cell rfl, _, r30.row.cell rfl, _, r30.row.cell rfl, _, r30.row.cell rfl, _, r30.row.cell rfl, _, r30.row.cell rfl, _, r30.row.cell rfl, _, r30.row.cell rfl, _, r30.row.cell rfl, (scheck_spec pa pf g i e w30).mono ?_⟩
 rintro e' w41 ⟨rfl, x41⟩
 rw [lineZ_none g i e h]
 exact ⟨_, rfl, condB_of (fun _ => ⟨rfl, (h11.ext.trans x30).trans x41⟩) fun h => by simp at h⟩
structure Run (w0 w : World) (a : Nat) (s : StA) (F : Nat → Prop) : Prop where
 ext : Ext w0 w
 isa : IsA w a s F
 new : ∀ x, F x → w0.heap.size ≤ x
section
variable {w0 w w' : World} {a : Nat} {s s' : StA} {F F' : Nat → Prop}
theorem Run.more (h : Run w0 w a s F) (hx : Ext w w') : Run w0 w' a s F := ⟨h.ext.trans hx, IsArr.ext h.isa hx, h.new⟩
theorem Run.step (h : Run w0 w a s F) (hs : Step F F' w w') (hi : IsA w' a s' F') : Run w0 w' a s' F' :=
 ⟨OwnB.new_ext h.ext hs.upd h.new, hi, fun x hx => by
  rcases hs.grow x hx with hx | hx
  ·exact h.new x hx
  ·have := h.ext.size; omega⟩
theorem Run.lt (h : Run w0 w a s F) : ∀ x, F x → x < w.heap.size := IsArr.lt h.isa
end
theorem Fit.ok {s : StA} {N : Nat} {S : Int} (h : Fit s N S) (hN : N ≤ 32) : OkA s := ⟨by rw [h.len]; exact hN, by rw [h.left]; omega, by rw [h.left]; omega⟩
end Go.Proofs.YtkolafpgbhpdlaaGreat
namespace Go.Proofs.YtkolafpgbhpdlaaGreat
open Go Go.Vc Go.Gf
theorem tiny_ok : GeoOk tinyG := by decide
theorem tinyZ (a k : Nat) {e : Int} (he : 0 ≤ e ∧ e ≤ 2147483647) : lineZ (some (at0 a)) (some (at0 k)) tinyG 1 e = 0 := by
 have h1 : checkG tinyG = 0 := by unfold checkG; rw [if_pos tiny_ok]
 have h2 : lineB tinyG 1 e = true := decide_eq_true ⟨by decide, by decide, he⟩
 unfold lineZ
 rw [h1, h2]; rfl
theorem BytesAt.of_get {F : Nat → Prop} {w w' : World} {g n : Nat} {bs : List UInt8} (h : BytesAt w (some (at0 g)) n bs) (hu : Upd F w w') (hF : ¬ F g) : BytesAt w' (some (at0 g)) n bs := BytesAt.upd h hu fun a ha _ => by cases ha; exact hF
theorem bytes_kept {F : Nat → Prop} {w w' : World} {g n b : Nat} {bs : List UInt8} (h : BytesAt w (some (at0 g)) n bs) (hu : Upd F w w') (hF : ∀ x, F x → x < b) (hg : b ≤ g) : BytesAt w' (some (at0 g)) n bs :=
 BytesAt.of_get h hu fun hx => by have := hF g hx; omega
set_option maxRecDepth 20000 in
set_option maxHeartbeats 4000000 in
theorem sawake_spec (w : World) : Calls Tryz.prog 9 #[] w fun e w' => e = .returned (.bool true) ∧ Ext w w' := by
 refine (F9_calls w (fun v w' => v = .bool true ∧ Ext w w') ?_).mono (by rintro e w' ⟨v, rfl, rfl, h⟩; exact ⟨rfl, h⟩)
 refine (fnew_spec w).mono ?_
 rintro e w1 ⟨kf, rfl, x1, _, hf⟩
 refine ⟨_, rfl, (anew_good (n := 3) (s := 8) (by omega) (by omega) w1).mono ?_⟩
 rintro e w4 ⟨a, F, rfl, x4, hA, hFn⟩
 have r4 : Run w1 w4 a (newA 3 8) F := ⟨x4, hA, hFn⟩
 have f0 : Fit (newA 3 8) 3 8 := newA_fit 3 8
 refine ⟨_, _, rfl, condB_of (fun h => by cases h) fun _ => condB_of (fun h => by cases h) fun _ => (tiny_spec w4).mono ?_⟩
 rintro e w8 ⟨rfl, x8⟩
 refine ⟨_, _, _, _, _, _, rfl, fun k16 w17 h17 => ?_⟩
 have r17 := r4.more (x8.trans h17.ext)
 have o17 := row_bytes (bs := [7, 9]) h17 (by unfold maxLen; simp)
 have hok : swOk (some (at0 a)) (some (at0 kf)) tinyG 1 5 [7, 9] := ⟨tinyZ a kf (by omega), by decide⟩
 have hdead : ∀ d, d < nG tinyG → deadA (newA 3 8) d = false := fun d hd => newA_dead 8 hd
 obtain ⟨p, hbl, hz, f1, hd1, st1, _⟩ := write_law (pa := some (at0 a)) (pf := some (at0 kf)) (g := tinyG) (i := 1) (e := 5) (bs := [7, 9]) (S := 8) f0 hdead (by decide) hok
 refine (swrite_spec (c := 2) r17.isa (f0.ok (by omega)) (hf.ext r17.ext) tinyG 1 5 (OwnB.bytes o17) (by decide)).mono ?_
 rintro e w18 ⟨F1, rfl, s1, A1⟩
 have r18 := r17.step s1 A1
 rw [hz]
 refine ⟨_, rfl, (tiny_spec w18).mono ?_⟩
 rintro e w21 ⟨rfl, x21⟩
 have r21 := r18.more x21
 refine ⟨_, _, _, _, _, _, rfl, (sread_spec r21.isa (f1.ok (by decide)) (hf.ext r21.ext) tinyG 1 5).mono ?_⟩
 rintro e w29 ⟨v, rfl, hv⟩
 obtain ⟨x29, gd, cd, p2, n2, c2, rfl, hgd, hby, hcd, hW⟩ := sread_few hv (tinyZ a kf (by omega)) f1 p st1 hbl (by decide)
 have r29 := r21.more x29
 have ln2 := OwnN.len hW
 have hb0 : (badC (swS (newA 3 8) (some (at0 a)) (some (at0 kf)) tinyG 1 5 [7, 9]) tinyG 1 fun _ => false).length = 0 := by simp [badC]
 have hl2 : n2 = 0 := ln2.trans hb0
 subst hl2
 refine ⟨_, _, _, _, _, _, _, rfl, (tiny_spec w29).mono ?_⟩
 rintro e w34 ⟨rfl, x34⟩
 have r34 := r29.more x34
 refine ⟨_, _, _, _, _, _, rfl, (sread_spec r34.isa (f1.ok (by decide)) (hf.ext r34.ext) tinyG 1 4).mono ?_⟩
 rintro e w42 ⟨v, rfl, hv⟩
 obtain ⟨x42, rfl⟩ := sread_no hv (tinyZ a kf (by omega)) f1 (st1.other tiny_ok (by decide))
 have r42 := r34.more x42
 refine ⟨_, _, _, _, _, _, _, rfl, (replace_any r42.isa 2).mono ?_⟩
 rintro e w47 ⟨F2, z, rfl, s2, A2⟩
 have A2 : IsA w47 a (emptyA (swS (newA 3 8) (some (at0 a)) (some (at0 kf)) tinyG 1 5 [7, 9]) 2 false) F2 := A2
 have r47 := r42.step s2 A2
 obtain ⟨f2, hd2, hs2⟩ := empty_law (d := 2) f1 (by decide) false
 have st2 : StOk (emptyA (swS (newA 3 8) (some (at0 a)) (some (at0 kf)) tinyG 1 5 [7, 9]) 2 false) tinyG 1 5 [7, 9] (fun j => decide (diskN tinyG 1 j = 2)) := fun j hj => by
  have hdj : deadA (swS (newA 3 8) (some (at0 a)) (some (at0 kf)) tinyG 1 5 [7, 9]) (diskN tinyG 1 j) = false := by rw [hd1]; exact newA_dead 8 (diskN_lt tiny_ok (by decide) hj)
  have hdj2 : deadA (emptyA (swS (newA 3 8) (some (at0 a)) (some (at0 kf)) tinyG 1 5 [7, 9]) 2 false) (diskN tinyG 1 j) = false := by
   rw [hd2]
   split
   ·rfl
   ·exact hdj
  refine ⟨fun hl => ?_, fun hl => ?_⟩
  ·have hne := of_decide_eq_false hl
   have h1 := (st1 j hj).1 rfl
   rw [unS_live f1 p hj hdj] at h1
   rw [unS_live f2 p hj hdj2, hs2, if_neg hne]; exact h1
  ·have he := of_decide_eq_true hl
   unfold hasS
   rw [unS_live f2 p hj hdj2, hs2, if_pos he]
   rfl
 have hdeadE : ∀ d, d < 3 → deadA (emptyA (swS (newA 3 8) (some (at0 a)) (some (at0 kf)) tinyG 1 5 [7, 9]) 2 false) d = false := fun d hd => by
  rw [hd2]
  split
  ·rfl
  ·rw [hd1]; exact newA_dead 8 hd
 have hbad : badC (emptyA (swS (newA 3 8) (some (at0 a)) (some (at0 kf)) tinyG 1 5 [7, 9]) 2 false) tinyG 1 (fun j => decide (diskN tinyG 1 j = 2)) = [1] := by
  have h1 : badC (emptyA (swS (newA 3 8) (some (at0 a)) (some (at0 kf)) tinyG 1 5 [7, 9]) 2 false) tinyG 1 (fun j => decide (diskN tinyG 1 j = 2)) = (List.range 3).filter fun j => decide (diskN tinyG 1 j = 2) := by
   refine List.filter_congr fun j hj => ?_
   rw [hdeadE _ (diskN_lt tiny_ok (by decide) (List.mem_range.1 hj))]
   rfl
  rw [h1]
  decide
 refine ⟨_, rfl, (tiny_spec w47).mono ?_⟩
 rintro e w50 ⟨rfl, x50⟩
 have r50 := r47.more x50
 refine ⟨_, _, _, _, _, _, rfl, (sread_spec r50.isa (f2.ok (by decide)) (hf.ext r50.ext) tinyG 1 5).mono ?_⟩
 rintro e w58 ⟨v, rfl, hv⟩
 obtain ⟨x58, gd2, cd2, p3, n3, c3, rfl, _, _, _, hW3⟩ := sread_few hv (tinyZ a kf (by omega)) f2 p st2 hbl (by decide)
 have r58 := r50.more x58
 have ln3 := OwnN.len hW3
 rw [hbad] at ln3
 have hl3 : n3 = 1 := ln3
 subst hl3
 refine ⟨_, _, _, _, _, _, _, rfl, (tiny_spec w58).mono ?_⟩
 rintro e w63 ⟨rfl, x63⟩
 have r63 := r58.more x63
 refine ⟨_, _, _, _, _, _, rfl, (sfix_spec r63.isa (f2.ok (by decide)) (hf.ext r63.ext) tinyG 1 5).mono ?_⟩
 rintro e w71 ⟨v, rfl, hv⟩
 obtain ⟨hfx, _⟩ := fix_law st2 f2 p hbl (by decide)
 rw [hbad] at hfx
 rcases hv with ⟨hne, _⟩ | ⟨_, ⟨hd, _⟩ | ⟨_, hno, _⟩ | ⟨_, _, F3, rfl, s3, A3⟩⟩
 ·exact (hne (tinyZ a kf (by omega))).elim
 ·rw [f2.down] at hd; cases hd
 ·exact (hno (st2.few tiny_ok hbl (by decide)).1).elim
 have r71 := r63.step s3 A3
 rw [hfx]
 have lF2 := r42.lt
 have hby2 : BytesAt w71 (some (at0 gd)) 2 [7, 9] := by
  have h42 : BytesAt w42 (some (at0 gd)) 2 [7, 9] := BytesAt.ext hby (x34.trans x42)
  have lF1 := r21.lt
  have h47 := bytes_kept h42 s2.upd lF1 hgd
  have h63 := BytesAt.ext h47 (x50.trans (x58.trans x63))
  have lF63 : ∀ x, F2 x → F1 x ∨ w42.heap.size ≤ x := s2.grow
  exact BytesAt.of_get h63 s3.upd fun hx => by
   rcases lF63 _ hx with h | h
   ·have := lF1 _ h; omega
   ·have := BytesAt.lt hby (by simp)
    obtain ⟨q, hq, hl⟩ := this
    cases hq
    have h9 : gd < w29.heap.size := hl
    have := (x34.trans x42).size
    omega
 refine ⟨_, _, rfl, fun k75 w76 h76 => ?_⟩
 have o76 := row_bytes (bs := [7, 9]) h76 (by unfold maxLen; simp)
 refine (same_spec (c1 := cd) (c2 := 2) (BytesAt.ext hby2 h76.ext) (OwnB.bytes o76) (by decide)).mono ?_
 rintro e w77 ⟨rfl, q77⟩
 have x77 := x1.trans ((r71.more (h76.ext.trans q77.ext)).ext)
 refine ⟨_, rfl, condB_of (fun _ => ?_) (fun h => by simp at h)⟩
 refine condB_of (fun _ => ?_) (fun h => by simp at h)
 refine condB_of (fun _ => ?_) (fun h => by simp at h)
 refine condB_of (fun _ => ?_) (fun h => by simp at h)
 refine condB_of (fun _ => ?_) (fun h => by simp at h)
 refine condB_of (fun _ => ?_) (fun h => by simp at h)
 refine condB_of (fun _ => ?_) (fun h => by simp at h)
 refine condB_of (fun _ => ?_) (fun h => by simp at h)
 exact ⟨rfl, x77⟩
end Go.Proofs.YtkolafpgbhpdlaaGreat
namespace Go.Proofs.YtkolafpgbhpdlaaGreat
open Go Go.Vc Go.ChangeShapes Go.WideShapes Go.ChangeAt Go.RowKit
section
variable {H : Type} {enc : TypeId × Value → H} {w : World} {base : Nat} {sp : Nat → Bool} {held : Bool}
theorem mwfi64 {n : Int} (h : (Lit.int .i64 n).wf = true) : -9223372036854775808 ≤ n ∧ n ≤ 9223372036854775807 := by
 simp only [Lit.wf, Bool.and_eq_true, decide_eq_true_eq] at h
 exact ⟨Int.le_trans (by decide) h.1, Int.le_trans h.2 (by decide)⟩
theorem mlist6 {α : Type} (l : List α) (h : l.length = 6) : ∃ y0 y1 y2 y3 y4 y5, l = [y0, y1, y2, y3, y4, y5] := by
 match l, h with
 | [y0, y1, y2, y3, y4, y5], _ => exact ⟨y0, y1, y2, y3, y4, y5, rfl⟩
theorem mcellsInt : Tryz.prog.cellsOf 3 = 1 := by kernel_rfl
theorem mcellsGeo : Tryz.prog.cellsOf 24 = 6 := by kernel_rfl
theorem mfld {P : Program} {n' : Nat} {xs : List (DataW H × List MemPlace)} {m j off : Nat} {ys : List Value} {t : TypeId} {sz : Nat} (hxl : xs.length = m) (hj : j < m) (hf : DataW.trod enc P w base sp held n' t ((ys.drop off).take (P.cellsOf t)) = xs[j]?) (hc : P.cellsOf t = sz) :
  ∃ x, DataW.trod enc P w base sp held n' t ((ys.drop off).take sz) = some x := by
 rw [hc] at hf
 exact ⟨xs[j]'(by omega), by rw [hf, List.getElem?_eq_getElem]⟩
theorem open_geo {v : Value} {d : DataW H} {ps : List MemPlace} (hs : ∃ cs, v = .agg cs ∧ cs.size = Tryz.prog.cellsOf 24) (h : DataW.Trod enc Tryz.prog w base sp held 24 v d ps) : ∃ g : Geo, v = gV g := by
 obtain ⟨cs, rfl, hc⟩ := hs
 obtain ⟨fuel, h⟩ := h
 rw [mcellsGeo] at hc
 obtain ⟨xs, n', _, _, _, hxl, hf⟩ := DataW.trod_struct Tryz.underlying24 h
 obtain ⟨y0, y1, y2, y3, y4, y5, hy⟩ := mlist6 cs.toList (by simpa using hc)
 have hcells : (Value.agg cs).cells.toList = [y0, y1, y2, y3, y4, y5] := hy
 rw [hcells] at hf
 have hxl' : xs.length = 6 := hxl
 obtain ⟨x0, f0⟩ := mfld hxl' (by omega) (hf 0 _ rfl) mcellsInt
 obtain ⟨x1, f1⟩ := mfld hxl' (by omega) (hf 1 _ rfl) mcellsInt
 obtain ⟨x2, f2⟩ := mfld hxl' (by omega) (hf 2 _ rfl) mcellsInt
 obtain ⟨x3, f3⟩ := mfld hxl' (by omega) (hf 3 _ rfl) mcellsInt
 obtain ⟨x4, f4⟩ := mfld hxl' (by omega) (hf 4 _ rfl) mcellsInt
 obtain ⟨x5, f5⟩ := mfld hxl' (by omega) (hf 5 _ rfl) mcellsInt
 obtain ⟨n0, q0, g0⟩ := rd_int Tryz.underlying3 f0
 obtain ⟨n1, q1, g1⟩ := rd_int Tryz.underlying3 f1
 obtain ⟨n2, q2, g2⟩ := rd_int Tryz.underlying3 f2
 obtain ⟨n3, q3, g3⟩ := rd_int Tryz.underlying3 f3
 obtain ⟨n4, q4, g4⟩ := rd_int Tryz.underlying3 f4
 obtain ⟨n5, q5, g5⟩ := rd_int Tryz.underlying3 f5
 cases q0; cases q1; cases q2; cases q3; cases q4; cases q5
 exact ⟨⟨n0, n1, n2, n3, n4, n5⟩, congrArg Value.agg (Array.toList_inj.1 hy)⟩
theorem open_is {v : Value} {d : DataW H} {ps : List MemPlace} (hs : ∃ a l c, v = .slice a l c) (h : DataW.Trod enc Tryz.prog w base sp held 30 v d ps) :
  ∃ p l c ks, v = .slice p l c ∧ IntsAt w p l ks ∧ l ≤ c ∧ c ≤ maxLen := by
 obtain ⟨a, l, c, rfl⟩ := hs
 obtain ⟨fuel, h⟩ := h
 obtain ⟨p, l', c', zs, he, h1, h2, h3, h4, _⟩ := rd_nums (t := 30) (e := 3) (k := .i64) (by kernel_rfl) (by kernel_rfl) (by kernel_rfl) h
 cases he
 exact ⟨_, _, _, zs, rfl, ⟨h1, h2⟩, h3, h4⟩
end
end Go.Proofs.YtkolafpgbhpdlaaGreat
namespace Go.Proofs.YtkolafpgbhpdlaaGreat
open Go Go.Vc Go.Gf
theorem swZ_arg {s : StA} {a k : Nat} {g : Geo} {i e : Int} {bs : List UInt8} (hg : GeoOk g) (h : ¬ swOk (some (at0 a)) (some (at0 k)) g i e bs) : swZ s (some (at0 a)) (some (at0 k)) g i e bs = 1 := by
 unfold swZ
 rw [if_neg h]
 have h1 : checkG g = 0 := by unfold checkG; rw [if_pos hg]
 unfold lineZ
 rw [h1]
 cases lineB g i e <;> rfl
theorem lineZ_some {a k : Nat} {g : Geo} {i e : Int} (hg : GeoOk g) : lineZ (some (at0 a)) (some (at0 k)) g i e = if lineB g i e then 0 else 1 := by
 have h1 : checkG g = 0 := by unfold checkG; rw [if_pos hg]
 unfold lineZ
 rw [h1]
 cases lineB g i e <;> rfl
theorem sread_arg {pf : Option Addr} {a : Nat} {s : StA} {g : Geo} {i e : Int} {w w' : World} {v : Value} (hr : sreadP pf a s g i e w v w') (hz : lineZ (some (at0 a)) pf g i e = 1) : Ext w w' ∧ v = .tuple #[.slice none 0 0, .slice none 0 0, .int .i64 1] := by
 rcases hr with ⟨hx, ⟨_, rfl⟩ | ⟨h0, _⟩⟩
 ·rw [hz]; exact ⟨hx, rfl⟩
 ·omega
theorem lost0 (g : Geo) (m : Nat) : lostC g (fun _ => false) ≤ m := by
 have : (List.range (nG g)).filter (fun _ => false) = [] := List.filter_eq_nil_iff.2 fun _ _ h => by cases h
 unfold lostC
 rw [this]; exact Nat.zero_le _
theorem sect_ok {g : Geo} (hg : GeoOk g) : sectorsZ g = 5 + g.slots + g.stripes ∧ 1 ≤ sectorsZ g ∧ sectorsZ g ≤ 4096 := by
 have : sectorsZ g = 5 + g.slots + g.stripes := by unfold sectorsZ; rw [if_pos hg]
 obtain ⟨_, _, g3, g4, _⟩ := hg
 omega
theorem nG_le {g : Geo} (hg : GeoOk g) : nG g ≤ 32 := by
 have := nG_eq hg
 obtain ⟨g1, _⟩ := hg
 omega
theorem anew_geo {g : Geo} (hg : GeoOk g) (w : World) : Calls Tryz.prog 10 #[.int .i64 (g.k + g.m), .int .i64 (sectorsZ g)] w fun e w' => ∃ a F, e = .returned (.tuple #[.pointer (some (at0 a)), .int .i64 0]) ∧ Run w w' a (newA (nG g) (sectorsZ g)) F := by
 have hn := nG_eq hg
 have hs := sect_ok hg
 have hl := nG_le hg
 obtain ⟨g1, _⟩ := hg
 refine (anew_good (n := g.k + g.m) (s := sectorsZ g) (by omega) hs.2 w).mono ?_
 rintro e w' ⟨a, F, rfl, x, hA, hF⟩
 rw [show (g.k + g.m).toNat = nG g by omega] at hA
 exact ⟨a, F, rfl, x, hA, hF⟩
theorem swrite_law {w0 w : World} {a : Nat} {s : StA} {F : Nat → Prop} (hr : Run w0 w a s F) {g : Geo} (hg : GeoOk g) (hf : Fit s (nG g) (sectorsZ g)) (hd : ∀ d, d < nG g → deadA s d = false) {kf : Nat} (hk : FieldAt w0 (some (at0 kf))) (i e : Int) {p : Option Addr} {l c : Nat} {bs : List UInt8} (hb : BytesAt w p l bs) (hlc : l ≤ c) :
  Calls Tryz.prog 14 #[.pointer (some (at0 a)), .pointer (some (at0 kf)), gV g, .int .i64 i, .int .i64 e, .slice p l c] w fun e' w' =>
   (¬ swOk (some (at0 a)) (some (at0 kf)) g i e bs ∧ e' = .returned (.int .i64 1) ∧ ∃ F', Run w0 w' a s F') ∨
   (swOk (some (at0 a)) (some (at0 kf)) g i e bs ∧ e' = .returned (.int .i64 0) ∧ ∃ F' s', Run w0 w' a s' F' ∧ Step F F' w w' ∧ PutAt g i e (sectorsZ g) ∧ (bs.length : Int) = g.k * g.size ∧ Fit s' (nG g) (sectorsZ g) ∧ (∀ d, deadA s' d = deadA s d) ∧ StOk s' g i e bs (fun _ => false) ∧
    (∀ d n', n' ≠ atZ g i → secA s' d n' = secA s d n') ∧ s' = swS s (some (at0 a)) (some (at0 kf)) g i e bs) := by
 refine (swrite_spec hr.isa (hf.ok (nG_le hg)) (hk.ext hr.ext) g i e hb hlc).mono ?_
 rintro e' w' ⟨F', rfl, hs, hA⟩
 have r := hr.step hs hA
 by_cases hok : swOk (some (at0 a)) (some (at0 kf)) g i e bs
 ·obtain ⟨p, hbl, hz, h1, h2, h3, h4⟩ := write_law hf hd rfl hok
  rw [hz]
  exact .inr ⟨hok, rfl, F', _, r, hs, p, hbl, h1, h2, h3, h4, rfl⟩
 ·rw [swZ_arg hg hok]
  have : swS s (some (at0 a)) (some (at0 kf)) g i e bs = s := by unfold swS; rw [if_neg hok]
  rw [this] at r
  exact .inl ⟨hok, rfl, F', r⟩
theorem lineOk {a k : Nat} {g : Geo} {i e : Int} {S : Int} (p : PutAt g i e S) : lineZ (some (at0 a)) (some (at0 k)) g i e = 0 := by
 rw [lineZ_some p.geo]
 have : lineB g i e = true := decide_eq_true ⟨p.str.1, p.str.2, p.ep⟩
 rw [this]; rfl
end Go.Proofs.YtkolafpgbhpdlaaGreat
namespace Go.Proofs.YtkolafpgbhpdlaaGreat
open Go Go.Vc Go.Gf
def wtA (s : StA) (d : Nat) : SM × SM := match s.M[d]? with
 | some m => (m.d.waits, m.d.lasts)
 | none => ([], [])
section
variable {s s' : StA} {N : Nat} {S : Int} {d : Nat} {n : Int} {b : List UInt8} {g : Geo} {i e : Int} {R : Nat → List UInt8}
theorem Fit.wt (h : Fit s N S) (hd : d < N) (hl : deadA s d = false) (hn : 0 ≤ n ∧ n < S) (hb : 1 ≤ b.length ∧ b.length ≤ 4108) :
  ∀ d', wtA (writeA s d n b) d' = if d' = d then (ins n b (wtA s d').1, (wtA s d').2) else wtA s d' := by
 obtain ⟨m, hm, hs⟩ := h.at hd
 have hdead : m.d.dead = false := by unfold deadA at hl; rw [hm] at hl; exact hl
 have hwz : writeZ m.d n b.length = 0 := by
  have hf : faultZ m.d.dead m.d.sectors n = 0 := by unfold faultZ; rw [hdead, if_neg (by simp), if_neg (by omega)]
  unfold writeZ
  rw [hf, if_neg (by simp), if_neg (by omega)]
 have hw : writeA s d n b = ⟨s.M.set d { m with d := writeD m.d n b }, -1, false⟩ := by
  unfold writeA
  rw [h.down, if_neg (by simp), if_pos (by omega), Int.toNat_natCast, hm]
  simp [h.left]
 have hdl : d < s.M.length := by rw [h.len]; exact hd
 have hwd : writeD m.d n b = { m.d with waits := ins n b m.d.waits } := by unfold writeD; rw [if_pos hwz]
 intro d'
 unfold wtA
 rw [hw]
 show (match (s.M.set d { m with d := writeD m.d n b })[d']? with | some m => (m.d.waits, m.d.lasts) | none => ([], [])) = _
 rw [List.getElem?_set]
 by_cases e : d' = d
 ·subst e
  rw [if_pos rfl, if_pos hdl, if_pos rfl, hm, hwd]
 ·rw [if_neg (fun h => e h.symm), if_neg e]
theorem put_wt {j : Nat} (h : Fit s (nG g) S) (p : PutAt g i e S) (hj : j < nG g) (hl : deadA s (diskN g i j) = false) (hb : b.length ≤ 4096) :
  ∀ d', wtA (putA s g i e j b) d' = if d' = diskN g i j then (ins (atZ g i) (packM (atZ g i) e b) (wtA s d').1, (wtA s d').2) else wtA s d' := by
 have hok : putOk g i e b := ⟨p.fits, p.ep, hb⟩
 have hpl := packM_len (atZ g i) e b
 have hdz : diskZ g i j = (diskN g i j : Int) := (Int.toNat_of_nonneg (diskZ_pos g i j)).symm
 unfold putA
 rw [if_pos hok, hdz]
 exact h.wt (diskN_lt p.geo p.str hj) hl p.rng (by omega)
theorem putN_wt (h : Fit s (nG g) S) (p : PutAt g i e S) (hl : ∀ j, j < nG g → deadA s (diskN g i j) = false) (hR : ∀ j, j < nG g → (R j).length ≤ 4096) : ∀ n, n ≤ nG g → ∀ d,
  ((∃ j, j < n ∧ diskN g i j = d) → ∃ b, wtA (putN s g i e R n).1 d = (ins (atZ g i) b (wtA s d).1, (wtA s d).2)) ∧ ((∀ j, j < n → diskN g i j ≠ d) → wtA (putN s g i e R n).1 d = wtA s d)
 | 0, _, _ => ⟨(fun ⟨_, hj, _⟩ => (Nat.not_lt_zero _ hj).elim), fun _ => rfl⟩
 | n + 1, hn, d => by
  obtain ⟨h1, h2, h3, _⟩ := putN_fit h p hl hR n (by omega)
  have hp := put_wt h2 p (show n < nG g by omega) (by rw [h3]; exact hl n (by omega)) (hR n (by omega)) d
  obtain ⟨ih1, ih2⟩ := putN_wt h p hl hR n (by omega) d
  rw [putN_step h1]
  dsimp only
  rw [hp]
  refine ⟨fun ⟨j, hj, hd⟩ => ?_, fun hno => ?_⟩
  ·by_cases e1 : d = diskN g i n
   ·rw [if_pos e1, ih2 fun j' hj' he => by
     have := diskN_inj p.geo p.str (by omega) (by omega) (he.trans e1)
     omega]
    exact ⟨_, rfl⟩
   ·rw [if_neg e1]
    refine ih1 ⟨j, ?_, hd⟩
    rcases Nat.lt_or_eq_of_le (Nat.le_of_lt_succ hj) with h | h
    ·exact h
    ·subst h; exact (e1 hd.symm).elim
  ·rw [if_neg (fun hh => hno n (by omega) hh.symm)]
   exact ih2 fun j hj => hno j (by omega)
theorem swS_wt {pa pf : Option Addr} {bs : List UInt8} (hf : Fit s (nG g) S) (hl : ∀ d, d < nG g → deadA s d = false) (p : PutAt g i e S) (hok : swOk pa pf g i e bs) (hd : d < nG g) : ∃ b, wtA (swS s pa pf g i e bs) d = (ins (atZ g i) b (wtA s d).1, (wtA s d).2) := by
 have e1 : swN s g i e bs = putN s g i e (rowsG g bs) (nG g) := rfl
 have e2 : swS s pa pf g i e bs = (putN s g i e (rowsG g bs) (nG g)).1 := by unfold swS; rw [if_pos hok, e1]
 rw [e2]
 exact (putN_wt (R := rowsG g bs) hf p (fun j hj => hl _ (diskN_lt p.geo p.str hj)) (fun j _ => size_le p.geo hok.2 j) (nG g) (Nat.le_refl _) d).1 (disk_some p.geo p.str hd)
theorem StOk.keep {bs : List UInt8} (h : StOk s g i e bs fun _ => false) (hf : Fit s (nG g) S) (hf' : Fit s' (nG g) S) (p : PutAt g i e S) (hd : ∀ d, deadA s' d = deadA s d) (hs : ∀ d, secA s' d (atZ g i) = secA s d (atZ g i)) : StOk s' g i e bs fun _ => false := fun j hj => by
 refine ⟨fun _ => ?_, fun hh => by cases hh⟩
 have h1 := (h j hj).1 rfl
 cases hdd : deadA s (diskN g i j) with
 | true => rw [unS_dead hf p hj hdd] at h1; cases h1
 | false =>
  rw [unS_live hf p hj hdd] at h1
  rw [unS_live hf' p hj (by rw [hd]; exact hdd), hs]; exact h1
end
theorem newA_wt (n d : Nat) (S : Int) : wtA (newA n S) d = ([], []) := by
 unfold wtA newA
 rw [List.getElem?_replicate]
 by_cases h : d < n
 ·rw [if_pos h]
 ·rw [if_neg h]
theorem ins_two {k k' : Int} {x y : List UInt8} (h : k ≠ k') : (ins k' y (ins k x [])).length = 2 := by
 unfold ins
 by_cases hlt : k < k'
 ·have : ¬ k' < k := by omega
  simp [hlt, this]
 ·have : k' < k := by omega
  simp [hlt, this]
theorem none_same (p : Option Addr) (c : Nat) (w : World) : Calls Tryz.prog 25 #[.slice p 0 c, .slice none 0 0] w fun e w' => e = .returned (.bool true) ∧ Ext w w' := by
 refine (F25_calls p 0 c none 0 0 w (fun v w' => v = .bool true ∧ Ext w w') (fun _ n w4 => n = 0 ∧ Ext w w4) (fun _ _ _ => 0) ?_).mono (by rintro e w' ⟨v, rfl, rfl, h⟩; exact ⟨rfl, h⟩)
 refine condB_of (fun h => by simp at h) fun _ => ⟨⟨rfl, Upd.refl _ _⟩, ?_⟩
 rintro n w4 ⟨rfl, x4⟩
 intros
 exact condB_of (fun h => by simp at h) fun _ => ⟨rfl, x4⟩
end Go.Proofs.YtkolafpgbhpdlaaGreat
namespace Go.Proofs.YtkolafpgbhpdlaaGreat
open Go Go.Vc Go.Gf
def hurtA (s : StA) (at_ how : Int) (d : Nat) : StA := if how.tmod 3 = 0 then emptyA s d true else if how.tmod 3 = 1 then emptyA s d false else onDisk s d fun m => { m with d := corruptD m.d at_ how 1 }
theorem readD_corrupt {D : Dk} {k t n : Int} {y : UInt8} (hf : faultZ D.dead D.sectors k = 0) : readD (corruptD D k t y) n = if n = k then corBytes (readD D k) t y else readD D n := by
 unfold corruptD
 rw [hf, if_neg (by simp)]
 cases h1 : Vc.get k D.waits with
 | some bs =>
  dsimp only
  unfold readD
  dsimp only
  rw [get_ins, h1]
  by_cases e : n = k
  ·rw [if_pos e.symm, if_pos e]
  ·rw [if_neg (fun h => e h.symm), if_neg e]
 | none =>
  dsimp only
  cases h2 : Vc.get k D.lasts with
  | some bs =>
   dsimp only
   unfold readD
   dsimp only
   rw [get_ins, h1, h2]
   by_cases e : n = k
   ·subst e
    rw [if_pos rfl, if_pos rfl, h1]
   ·rw [if_neg (fun h => e h.symm), if_neg e]
  | none =>
   dsimp only
   unfold readD
   rw [h1, h2]
   by_cases e : n = k
   ·subst e
    rw [if_pos rfl, h1, h2]
    rfl
   ·rw [if_neg e]
theorem corrupt_law {s : StA} {N : Nat} {S : Int} {d : Nat} {n t : Int} {y : UInt8} (hf : Fit s N S) (hd : d < N) (hl : deadA s d = false) (hn : 0 ≤ n ∧ n < S) :
  Fit (onDisk s d fun m => { m with d := corruptD m.d n t y }) N S ∧ (∀ d', deadA (onDisk s d fun m => { m with d := corruptD m.d n t y }) d' = deadA s d') ∧
   ∀ d' n', secA (onDisk s d fun m => { m with d := corruptD m.d n t y }) d' n' = if d' = d ∧ n' = n then corBytes (secA s d n) t y else secA s d' n' := by
 obtain ⟨m, hm, hs⟩ := hf.at hd
 have hdl : d < s.M.length := by rw [hf.len]; exact hd
 have hdead : m.d.dead = false := by unfold deadA at hl; rw [hm] at hl; exact hl
 have hfz : faultZ m.d.dead m.d.sectors n = 0 := by unfold faultZ; rw [hdead, if_neg (by simp), if_neg (by omega)]
 have e1 : (onDisk s d fun m => { m with d := corruptD m.d n t y }) = { s with M := s.M.set d { m with d := corruptD m.d n t y } } := by
  unfold onDisk
  rw [Int.toNat_natCast, hm]
  simp
 have hget : ∀ (x : Mem) (d' : Nat), (s.M.set d x)[d']? = if d' = d then some x else s.M[d']? := fun x d' => by
  rw [List.getElem?_set]
  by_cases e : d = d'
  ·rw [if_pos e, if_pos e.symm, if_pos hdl]
  ·rw [if_neg e, if_neg (fun h => e h.symm)]
 have hcs : (corruptD m.d n t y).sectors = m.d.sectors ∧ (corruptD m.d n t y).dead = m.d.dead := by
  unfold corruptD
  rw [hfz, if_neg (by simp)]
  split
  ·exact ⟨rfl, rfl⟩
  ·split <;> exact ⟨rfl, rfl⟩
 rw [e1]
 refine ⟨⟨hf.down, hf.left, by show (s.M.set d _).length = N; rw [List.length_set, hf.len], fun m' hm' => ?_⟩, fun d' => ?_, fun d' n' => ?_⟩
 ·rcases List.mem_or_eq_of_mem_set hm' with hm' | rfl
  ·exact hf.sec _ hm'
  ·exact hcs.1.trans hs
 ·unfold deadA
  show (match (s.M.set d _)[d']? with | some m => m.d.dead | none => true) = _
  rw [hget]
  by_cases e : d' = d
  ·subst e
   rw [if_pos rfl, hm]
   exact hcs.2
  ·rw [if_neg e]; try rfl
 ·unfold secA
  show (match (s.M.set d _)[d']? with | some m => readD m.d n' | none => []) = _
  rw [hget]
  by_cases e : d' = d
  ·subst e
   rw [if_pos rfl, hm]
   show readD (corruptD m.d n t y) n' = _
   rw [readD_corrupt hfz]
   by_cases e2 : n' = n
   ·rw [if_pos e2, if_pos ⟨rfl, e2⟩]
   ·rw [if_neg e2, if_neg (fun h => e2 h.2)]
  ·rw [if_neg e, if_neg (fun h => e h.1)]; try rfl
theorem hurt_law {s : StA} {S : Int} {g : Geo} {i e how : Int} {d : Nat} {b : List UInt8} (hf : Fit s (nG g) S) (p : PutAt g i e S) (hd : d < nG g) (hl : deadA s d = false) (hs : secA s d (atZ g i) = packM (atZ g i) e b) :
  Fit (hurtA s (atZ g i) how d) (nG g) S ∧ (∀ d', deadA (hurtA s (atZ g i) how d) d' = if d' = d then decide (how.tmod 3 = 0) else deadA s d') ∧ (∀ d' n, d' ≠ d → secA (hurtA s (atZ g i) how d) d' n = secA s d' n) ∧
   unpackM (atZ g i) (secA (hurtA s (atZ g i) how d) d (atZ g i)) = none := by
 have hnil : unpackM (atZ g i) [] = none := by
  unfold unpackM
  rw [if_neg (fun h => by have := h.1; simp at this)]
 unfold hurtA
 by_cases h0 : how.tmod 3 = 0
 ·rw [if_pos h0]
  obtain ⟨h1, h2, h3⟩ := empty_law hf hd true
  exact ⟨h1, fun d' => by rw [h2, decide_eq_true h0], fun d' n hne => by rw [h3, if_neg hne], by rw [h3, if_pos rfl]; exact hnil⟩
 rw [if_neg h0]
 by_cases h1' : how.tmod 3 = 1
 ·rw [if_pos h1']
  obtain ⟨h1, h2, h3⟩ := empty_law hf hd false
  exact ⟨h1, fun d' => by rw [h2, decide_eq_false h0], fun d' n hne => by rw [h3, if_neg hne], by rw [h3, if_pos rfl]; exact hnil⟩
 rw [if_neg h1']
 obtain ⟨h1, h2, h3⟩ := corrupt_law (t := how) (y := 1) hf hd hl p.rng
 refine ⟨h1, fun d' => ?_, fun d' n hne => by rw [h3, if_neg (fun h => hne h.1)], ?_⟩
 ·rw [h2, decide_eq_false h0]
  by_cases e : d' = d
  ·rw [if_pos e, e, hl]
  ·rw [if_neg e]
 ·rw [h3, if_pos ⟨rfl, rfl⟩, hs]
  unfold corBytes
  have hpl := packM_len (atZ g i) e b
  have hlt := corIdx_lt how (show 0 < (packM (atZ g i) e b).length by omega)
  refine unpack_one hlt ?_
  rw [List.getD_eq_getElem?_getD, List.getElem?_eq_getElem hlt]
  show (packM (atZ g i) e b)[corIdx how (packM (atZ g i) e b).length] ^^^ 1 ≠ _
  intro hx
  have : (packM (atZ g i) e b)[corIdx how (packM (atZ g i) e b).length] ^^^ ((packM (atZ g i) e b)[corIdx how (packM (atZ g i) e b).length] ^^^ 1) = 0 := by rw [hx, UInt8.xor_self]
  rw [← UInt8.xor_assoc, UInt8.xor_self, UInt8.zero_xor] at this
  exact absurd this (by decide)
theorem swS_sec {s : StA} {S : Int} {g : Geo} {i e : Int} {bs : List UInt8} {pa pf : Option Addr} (hf : Fit s (nG g) S) (hl : ∀ d, d < nG g → deadA s d = false) (p : PutAt g i e S) (hok : swOk pa pf g i e bs) {j : Nat} (hj : j < nG g) :
  secA (swS s pa pf g i e bs) (diskN g i j) (atZ g i) = packM (atZ g i) e (rowsG g bs j) := by
 have e2 : swS s pa pf g i e bs = (putN s g i e (rowsG g bs) (nG g)).1 := by unfold swS; rw [if_pos hok]; rfl
 rw [e2]
 exact (putN_fit (R := rowsG g bs) hf p (fun j hj => hl _ (diskN_lt p.geo p.str hj)) (fun j _ => size_le p.geo hok.2 j) (nG g) (Nat.le_refl _)).2.2.2.1 j hj
structure Hurt (s1 s : StA) (g : Geo) (i : Int) (S how : Int) (L : List Nat) : Prop where
 fit : Fit s (nG g) S
 yes : ∀ d, d ∈ L → d < nG g → deadA s d = decide (how.tmod 3 = 0) ∧ unpackM (atZ g i) (secA s d (atZ g i)) = none
 no : ∀ d, d ∉ L → deadA s d = deadA s1 d ∧ secA s d (atZ g i) = secA s1 d (atZ g i)
theorem Hurt.step {s1 s : StA} {g : Geo} {i e S how : Int} {L : List Nat} {d : Nat} {b : List UInt8} (h : Hurt s1 s g i S how L) (p : PutAt g i e S) (hd : d < nG g) (hn : d ∉ L) (hl : deadA s1 d = false) (hs : secA s1 d (atZ g i) = packM (atZ g i) e b) : Hurt s1 (hurtA s (atZ g i) how d) g i S how (L ++ [d]) := by
 obtain ⟨n1, n2⟩ := h.no d hn
 obtain ⟨h1, h2, h3, h4⟩ := hurt_law (how := how) h.fit p hd (n1.trans hl) (n2.trans hs)
 refine ⟨h1, fun d' hd' hlt => ?_, fun d' hd' => ?_⟩
 ·by_cases e : d' = d
  ·subst e
   exact ⟨by rw [h2, if_pos rfl], h4⟩
  ·have hm : d' ∈ L := by
    rcases List.mem_append.1 hd' with h | h
    ·exact h
    ·exact (e (List.mem_singleton.1 h)).elim
   obtain ⟨y1, y2⟩ := h.yes d' hm hlt
   exact ⟨by rw [h2, if_neg e]; exact y1, by rw [h3 _ _ e]; exact y2⟩
 ·have e : d' ≠ d := fun e => hd' (List.mem_append.2 (.inr (List.mem_singleton.2 e)))
  obtain ⟨y1, y2⟩ := h.no d' fun hm => hd' (List.mem_append.2 (.inl hm))
  exact ⟨by rw [h2, if_neg e]; exact y1, by rw [h3 _ _ e]; exact y2⟩
theorem Hurt.ok {s1 s : StA} {g : Geo} {i e S how : Int} {L : List Nat} {bs : List UInt8} (h : Hurt s1 s g i S how L) (p : PutAt g i e S) (hb : (bs.length : Int) = g.k * g.size) (hl : ∀ d, d < nG g → deadA s1 d = false) (hs : ∀ j, j < nG g → secA s1 (diskN g i j) (atZ g i) = packM (atZ g i) e (rowsG g bs j)) :
  StOk s g i e bs fun j => decide (diskN g i j ∈ L) := fun j hj => by
 have hd := diskN_lt p.geo p.str hj
 refine ⟨fun hh => ?_, fun hh => ?_⟩
 ·obtain ⟨y1, y2⟩ := h.no _ (of_decide_eq_false hh)
  exact unS_pack h.fit p hj (y1.trans (hl _ hd)) (size_le p.geo hb j) p.ep (y2.trans (hs j hj))
 ·obtain ⟨y1, y2⟩ := h.yes _ (of_decide_eq_true hh) hd
  unfold hasS
  cases hdd : deadA s (diskN g i j) with
  | true => rw [unS_dead h.fit p hj hdd]
  | false => rw [unS_live h.fit p hj hdd, y2]
theorem lost_count {g : Geo} {i : Int} {L : List Nat} (hg : GeoOk g) (hi : 0 ≤ i ∧ i < g.stripes) (hn : L.Nodup) (hL : ∀ d ∈ L, d < nG g) : lostC g (fun j => decide (diskN g i j ∈ L)) = L.length := by
 unfold lostC
 have h1 : (((List.range (nG g)).filter fun j => decide (diskN g i j ∈ L)).map (diskN g i)).Nodup := by
  unfold List.Nodup
  rw [List.pairwise_map]
  refine List.Pairwise.imp_of_mem (R := fun a b => a ≠ b) ?_ (List.nodup_range.filter _)
  intro a b ha hb hab he
  exact hab (diskN_inj hg hi (List.mem_range.1 (List.mem_filter.1 ha).1) (List.mem_range.1 (List.mem_filter.1 hb).1) he)
 have h2 := (List.perm_ext_iff_of_nodup h1 hn).2 fun d => by
  rw [List.mem_map]
  constructor
  ·rintro ⟨j, hj, rfl⟩
   exact of_decide_eq_true (List.mem_filter.1 hj).2
  ·intro hd
   obtain ⟨j, hj, rfl⟩ := disk_some hg hi (hL d hd)
   exact ⟨j, List.mem_filter.2 ⟨List.mem_range.2 hj, decide_eq_true hd⟩, rfl⟩
 have := h2.length_eq
 rwa [List.length_map] at this
end Go.Proofs.YtkolafpgbhpdlaaGreat
namespace Go.Proofs.YtkolafpgbhpdlaaGreat
open Go Go.Vc Go.Gf
def chI0 (ks : List Int) (n2 : Int) (w : World) (p3 : Option Addr) (l3 c3 : Nat) (n4 : Int) (w5 : World) : Prop := ∃ (t : Nat) (L : List Nat), n4 = t ∧ t ≤ ks.length ∧ Ext w w5 ∧ OwnN w5 w.heap.size p3 l3 c3 L ∧ L.Nodup ∧ (∀ x ∈ L, (x : Int) < n2) ∧ L.length ≤ t
def chI1 (ks : List Int) (n2 : Int) (w : World) (p3 : Option Addr) (l3 c3 : Nat) (n4 : Int) (w5 : World) (b : Bool) (n61 : Int) (w62 : World) : Prop := Ext w5 w62 ∧ ∃ u : Nat, n61 = u ∧ u ≤ l3 ∧ (b = false → ∃ z : Nat, ks[n4.toNat]? = some (z : Int) ∧ (z : Int) < n2 ∧ ∀ L, OwnN w5 w.heap.size p3 l3 c3 L → ∀ k, k < u → L.getD k 0 ≠ z)
def chM0 (l1 : Nat) (_ : World) (_ : Option Addr) (_ _ : Nat) (n4 : Int) (_ : World) : Nat := (l1 - n4).toNat
def chM1 (_ : Option Addr) (l3 _ : Nat) (_ : Int) (_ : World) (_ : Bool) (n61 : Int) (_ : World) : Nat := (l3 - n61).toNat
set_option maxHeartbeats 2000000 in
theorem chosen_spec {p1 : Option Addr} {l1 c1 : Nat} {w : World} {ks : List Int} (h : IntsAt w p1 l1 ks) (hl : l1 ≤ 1000) (n2 : Int) :
  Calls Tryz.prog 19 #[.slice p1 l1 c1, .int .i64 n2] w fun e w' => ∃ p l c L, e = .returned (.slice p l c) ∧ Ext w w' ∧ OwnN w' w.heap.size p l c L ∧ L.Nodup ∧ (∀ x ∈ L, (x : Int) < n2) ∧ L.length ≤ l1 := by
 have hlen := h.1
 refine (F19_calls p1 l1 c1 n2 w (fun v w' => ∃ p l c L, v = .slice p l c ∧ Ext w w' ∧ OwnN w' w.heap.size p l c L ∧ L.Nodup ∧ (∀ x ∈ L, (x : Int) < n2) ∧ L.length ≤ l1) (chI0 ks n2) (chM0 l1) (chI1 ks n2 w) chM1 ?_).mono (by rintro e w' ⟨v, rfl, p, l, c, L, rfl, h⟩; exact ⟨p, l, c, L, rfl, h⟩)
 refine ⟨⟨0, [], rfl, Nat.zero_le _, Upd.refl _ _, OwnS.nil _ _ _ _, List.nodup_nil, fun x hx => (by cases hx), Nat.le_refl _⟩, ?_⟩
 rintro p3 l3 c3 n4 w5 ⟨t, L, rfl, ht, x5, ho, hnd, hlt, hlL⟩
 intros
 have hl3 := OwnN.len ho
 refine condB_of (fun hc => ?_) (fun hc => ?_)
 ·simp only [decide_eq_true_eq] at hc
  obtain ⟨z, hz⟩ : ∃ z, ks[t]? = some z := ⟨ks[t]'(by omega), List.getElem?_eq_getElem _⟩
  obtain ⟨ad, rfl, hcell⟩ := (h.ext x5).2 t (.int .i64 z) (by rw [List.getElem?_map, hz]; rfl)
  have inner : ∀ (b60 : Bool) (n61 : Int) (w62 : World), chI1 ks n2 w p3 l3 c3 t w5 b60 n61 w62 → F19_A0 n61 l3 w62 b60 p3 c3 t w5 l1 (some ad) w (fun v w' => ∃ p l c L, v = .slice p l c ∧ Ext w w' ∧ OwnN w' w.heap.size p l c L ∧ L.Nodup ∧ (∀ x ∈ L, (x : Int) < n2) ∧ L.length ≤ l1) (chI0 ks n2) (chM0 l1) (chI1 ks n2 w) chM1 := by
   rintro b60 n61 w62 ⟨x62, u, rfl, hu, hb⟩
   unfold F19_A0
   refine condB_of (fun hc1 => ?_) (fun hc1 => ?_)
   ·simp only [decide_eq_true_eq] at hc1
    intro w81 hd81
    have x81 := x62.trans hd81.ext
    rw [w64 (n := (u : Int) + 1) (by omega)]
    have mu : chM1 p3 l3 c3 t w5 b60 ((u : Int) + 1) w81 < chM1 p3 l3 c3 t w5 b60 u w62 := by show ((l3 : Int) - ((u : Int) + 1)).toNat < ((l3 : Int) - u).toNat; omega
    refine condB_of (fun hb1 => ?_) (fun hb1 => ?_)
    ·exact ⟨⟨x81, u + 1, by omega, by omega, fun h => by cases h⟩, mu⟩
    ·obtain ⟨y, hy, hyn, hyL⟩ := hb hb1
     rw [Int.toNat_natCast, hz] at hy
     cases hy
     obtain ⟨k2, rfl, hcu, _⟩ := OwnN.get ho (i := u) (by omega)
     refine ⟨⟨by omega, hc1⟩, _, by rw [Int.toNat_natCast, Nat.mul_one]; exact cellx hcu x81, ⟨by omega, hc⟩, _, by rw [Int.toNat_natCast, Nat.mul_one]; exact cellx hcell x81, ?_, mu⟩
     refine ⟨x81, u + 1, by omega, by omega, fun hne => ⟨y, by rw [Int.toNat_natCast]; exact hz, hyn, fun L' ho' k hk => ?_⟩⟩
     by_cases hku : k < u
     ·exact hyL L' ho' k hku
     ·have : k = u := by omega
      subst this
      have hne := of_decide_eq_false hne
      have hLL : L' = L := encN_inj (own_same ho' ho)
      rw [hLL]
      intro he
      exact hne (by rw [he])
   ·simp only [decide_eq_false_iff_not] at hc1
    rw [w64 (n := (t : Int) + 1) (by omega)]
    have mu : ∀ (p : Option Addr) (l c : Nat) (w' : World), chM0 l1 w p l c ((t : Int) + 1) w' < chM0 l1 w p3 l3 c3 t w5 := fun _ _ _ _ => by show ((l1 : Int) - ((t : Int) + 1)).toNat < ((l1 : Int) - t).toNat; omega
    refine condB_of (fun hb1 => ?_) (fun hb1 => ?_)
    ·simp only [Bool.not_eq_true'] at hb1
     obtain ⟨y, hy, hyn, hyL⟩ := hb hb1
     rw [Int.toNat_natCast, hz] at hy
     cases hy
     have huL : u = l3 := by omega
     refine ⟨⟨by omega, hc⟩, _, by rw [Int.toNat_natCast, Nat.mul_one]; exact cellx hcell x62, fun k88 w89 h89 => ?_⟩
     have ho6 : OwnS w62 w.heap.size 3 1 p3 l3 c3 (encN L) := OwnS.ext ho x62
     obtain ⟨p', c', w2, hr, ho2, x2⟩ := app_one elemInt (by omega) (x5.trans x62) ho6 h89 rfl (by omega)
     have : encN L ++ [Value.int .i64 (y : Int)] = encN (L ++ [y]) := by simp [encN]
     rw [this] at ho2
     have hyn2 : y ∉ L := fun hm => by
      obtain ⟨k, hk, hk2⟩ := List.getElem_of_mem hm
      exact hyL L ho k (by omega) (by rw [List.getD_eq_getElem?_getD, List.getElem?_eq_getElem hk, hk2]; rfl)
     refine ⟨_, _, _, _, hr, ⟨t + 1, L ++ [y], by omega, by omega, x2, ho2, ?_, fun x hx => ?_, by simp; omega⟩, mu _ _ _ _⟩
     ·rw [List.nodup_append]
      refine ⟨hnd, by simp, fun a ha b hb he => ?_⟩
      rw [List.mem_singleton] at hb
      subst hb
      rw [he] at ha
      exact hyn2 ha
     ·rcases List.mem_append.1 hx with h | h
      ·exact hlt x h
      ·rw [List.mem_singleton.1 h]; exact hyn
    ·exact ⟨⟨t + 1, L, by omega, by omega, x5.trans x62, OwnS.ext ho x62, hnd, hlt, by omega⟩, mu _ _ _ _⟩
  refine ⟨⟨by omega, hc⟩, z, by rw [Int.toNat_natCast, Nat.mul_one]; exact hcell, condB_of (fun hz0 => ⟨⟨Upd.refl _ _, 0, rfl, Nat.zero_le _, fun h => by cases h⟩, fun b60 n61 w62 hI => ?_⟩) fun hz0 => ?_⟩
  ·intros
   exact inner b60 n61 w62 hI
  ·simp only [decide_eq_false_iff_not] at hz0
   refine ⟨⟨by omega, hc⟩, z, by rw [Int.toNat_natCast, Nat.mul_one]; exact hcell, ⟨Upd.refl _ _, 0, rfl, Nat.zero_le _, fun h => ⟨z.toNat, by rw [Int.toNat_natCast, hz, Int.toNat_of_nonneg (by omega)], by have := of_decide_eq_false h; omega, fun _ _ k hk => (Nat.not_lt_zero _ hk).elim⟩⟩, fun b60 n61 w62 hI => ?_⟩
   intros
   exact inner b60 n61 w62 hI
 ·simp only [decide_eq_false_iff_not] at hc
  exact ⟨p3, l3, c3, L, rfl, x5, ho, hnd, hlt, by omega⟩
end Go.Proofs.YtkolafpgbhpdlaaGreat
