/- A script of an array's calls, as it lies; what an array is behind one. -/
import Derived.Test.YtbidancfbilbkaaA5
import Derived.Test.YtbidancfbilbkaaAL1
namespace Go.Proofs.Ytbidancfbilbkaa
open Go Go.Vc

theorem cellx {w w' : World} {a : Addr} {v : Value} (h : w.cell? a = some v) (hu : Ext w w') : w'.cell? a = some v := cell_upd h hu id

/-- a call of a script -/
structure CallA where
  kind : Int
  d : Int
  n : Int
  m : Int
  y : UInt8
  b : List UInt8
  keep : List (List Int)

structure CallAAt (w : World) (a : Addr) (c : CallA) (p5 : Option Addr) (l5 c5 : Nat) (p6 : Option Addr) (l6 c6 : Nat) : Prop where
  kind : w.cell? a = some (.int .i64 c.kind)
  d : w.cell? (a.add 1) = some (.int .i64 c.d)
  n : w.cell? (a.add 2) = some (.int .i64 c.n)
  m : w.cell? (a.add 3) = some (.int .i64 c.m)
  y : w.cell? (a.add 4) = some (.int .u8 (c.y.toNat : Int))
  b : w.cell? (a.add 5) = some (.slice p5 l5 c5)
  bytes : BytesAt w p5 l5 c.b
  keep : w.cell? (a.add 6) = some (.slice p6 l6 c6)
  ints : l6 = c.keep.length ∧ ∀ i ks, c.keep[i]? = some ks → ∃ a q n c, p6 = some a ∧ w.cell? (a.add (i * 1)) = some (.slice q n c) ∧ IntsAt w q n ks
  nr : -9223372036854775808 ≤ c.n ∧ c.n ≤ 9223372036854775807
  mr : -9223372036854775808 ≤ c.m ∧ c.m ≤ 9223372036854775807

def CallsAAt (w : World) (p : Option Addr) (l : Nat) (L : List CallA) : Prop :=
  l = L.length ∧ ∀ i c, L[i]? = some c → ∃ a p5 l5 c5 p6 l6 c6, p = some a ∧ CallAAt w (a.add (i * 7)) c p5 l5 c5 p6 l6 c6

theorem CallAAt.ext {w w' : World} {a : Addr} {c : CallA} {p5 : Option Addr} {l5 c5 : Nat} {p6 : Option Addr} {l6 c6 : Nat} (h : CallAAt w a c p5 l5 c5 p6 l6 c6) (hu : Ext w w') : CallAAt w' a c p5 l5 c5 p6 l6 c6 :=
  ⟨cellx h.kind hu, cellx h.d hu, cellx h.n hu, cellx h.m hu, cellx h.y hu, cellx h.b hu, h.bytes.ext hu, cellx h.keep hu, ⟨h.ints.1, fun i ks hi => by
    obtain ⟨a, q, n, c, h1, h2, h3⟩ := h.ints.2 i ks hi
    exact ⟨a, q, n, c, h1, cellx h2 hu, h3.1, h3.2.ext hu⟩⟩, h.nr, h.mr⟩
theorem CallsAAt.ext {w w' : World} {p : Option Addr} {l : Nat} {L : List CallA} (h : CallsAAt w p l L) (hu : Ext w w') : CallsAAt w' p l L :=
  ⟨h.1, fun i c hi => by
    obtain ⟨a, p5, l5, c5, p6, l6, c6, hp, hc⟩ := h.2 i c hi
    exact ⟨a, p5, l5, c5, p6, l6, c6, hp, hc.ext hu⟩⟩

/-- the same, where what it points to lies as it did in an earlier world -/
structure CallA2 (w w0 : World) (a : Addr) (c : CallA) (p5 : Option Addr) (l5 c5 : Nat) (p6 : Option Addr) (l6 c6 : Nat) : Prop where
  kind : w.cell? a = some (.int .i64 c.kind)
  d : w.cell? (a.add 1) = some (.int .i64 c.d)
  n : w.cell? (a.add 2) = some (.int .i64 c.n)
  m : w.cell? (a.add 3) = some (.int .i64 c.m)
  y : w.cell? (a.add 4) = some (.int .u8 (c.y.toNat : Int))
  b : w.cell? (a.add 5) = some (.slice p5 l5 c5)
  bytes : BytesAt w0 p5 l5 c.b
  keep : w.cell? (a.add 6) = some (.slice p6 l6 c6)
  ints : l6 = c.keep.length ∧ ∀ i ks, c.keep[i]? = some ks → ∃ a q n c, p6 = some a ∧ w0.cell? (a.add (i * 1)) = some (.slice q n c) ∧ IntsAt w0 q n ks
  nr : -9223372036854775808 ≤ c.n ∧ c.n ≤ 9223372036854775807
  mr : -9223372036854775808 ≤ c.m ∧ c.m ≤ 9223372036854775807
def CallsA2 (w w0 : World) (p : Option Addr) (l : Nat) (L : List CallA) : Prop :=
  l = L.length ∧ ∀ i c, L[i]? = some c → ∃ a p5 l5 c5 p6 l6 c6, p = some a ∧ CallA2 w w0 (a.add (i * 7)) c p5 l5 c5 p6 l6 c6
theorem CallsAAt.two {w w0 : World} {p : Option Addr} {l : Nat} {L : List CallA} (h : CallsAAt w0 p l L) (hu : Ext w0 w) : CallsA2 w w0 p l L :=
  ⟨h.1, fun i c hi => by
    obtain ⟨a, p5, l5, c5, p6, l6, c6, hp, g⟩ := h.2 i c hi
    exact ⟨a, p5, l5, c5, p6, l6, c6, hp, cellx g.kind hu, cellx g.d hu, cellx g.n hu, cellx g.m hu, cellx g.y hu, cellx g.b hu, g.bytes, cellx g.keep hu, g.ints, g.nr, g.mr⟩⟩
theorem CallA2.now {w w0 w' : World} {S : Nat → Prop} {a : Addr} {c : CallA} {p5 : Option Addr} {l5 c5 : Nat} {p6 : Option Addr} {l6 c6 : Nat} (h : CallA2 w w0 a c p5 l5 c5 p6 l6 c6) (hu : Upd S w w') (hS : ¬ S a.block) (hx : Ext w0 w') :
    CallAAt w' a c p5 l5 c5 p6 l6 c6 :=
  have k : ∀ (j : Nat) (v : Value), w.cell? (a.add j) = some v → w'.cell? (a.add j) = some v := fun j v hv => cell_upd hv hu (by rw [add_block]; exact hS)
  ⟨cell_upd h.kind hu hS, k 1 _ h.d, k 2 _ h.n, k 3 _ h.m, k 4 _ h.y, k 5 _ h.b, h.bytes.ext hx, k 6 _ h.keep, ⟨h.ints.1, fun i ks hi => by
    obtain ⟨a, q, n, c, h1, h2, h3⟩ := h.ints.2 i ks hi
    exact ⟨a, q, n, c, h1, cellx h2 hx, h3.1, h3.2.ext hx⟩⟩, h.nr, h.mr⟩

/-- an array's state -/
structure StA where
  M : List Mem
  left : Int
  down : Bool

/-- what a call does to one disk of an array -/
def onDisk (s : StA) (d : Int) (f : Mem → Mem) : StA := match s.M[d.toNat]? with
  | some m => if 0 ≤ d then { s with M := s.M.set d.toNat (f m) } else s
  | none => s
def writeA (s : StA) (d n : Int) (b : List UInt8) : StA :=
  if s.down then s else if 0 ≤ d then match s.M[d.toNat]? with
    | some m => ⟨s.M.set d.toNat { m with d := writeD m.d n b }, if writeZ m.d n b.length = 0 ∧ 0 < s.left then s.left - 1 else s.left, decide (writeZ m.d n b.length = 0 ∧ s.left = 1)⟩
    | none => s
  else s
def callA (s : StA) (c : CallA) : StA :=
  if c.kind = 1 then writeA s c.d c.n c.b
  else if c.kind = 3 then (if s.down then s else { s with M := flushM s.M.length s.M })
  else if c.kind = 4 then (if s.down then s else ⟨s.M, if c.n < -1 then -1 else c.n, decide (c.n = 0)⟩)
  else if c.kind = 5 then ⟨crashM c.keep s.M.length s.M, -1, false⟩
  else if c.kind = 6 then onDisk s c.d fun m => ⟨{ m.d with dead := true, lasts := [], waits := [] }, IntKind.i64.wrap (m.births + 1)⟩
  else if c.kind = 7 then onDisk s c.d fun m => ⟨{ m.d with dead := false, lasts := [], waits := [] }, IntKind.i64.wrap (m.births + 1)⟩
  else if c.kind = 8 then onDisk s c.d fun m => { m with d := corruptD m.d c.n c.m c.y }
  else s
def smallA (c : CallA) : Prop := c.b.length ≤ 4200 ∧ c.keep.length ≤ 40 ∧ ∀ ks ∈ c.keep, ks.length ≤ 100
instance (c : CallA) : Decidable (smallA c) := inferInstanceAs (Decidable (_ ∧ _))
def doneA (s : StA) (L : List CallA) : StA := L.foldl (fun s c => if smallA c then callA s c else s) s

set_option maxHeartbeats 1000000 in
theorem smallA_spec {w : World} (k d n m y : Int) {p5 : Option Addr} {l5 c5 : Nat} {p6 : Option Addr} {l6 c6 : Nat} {KS : List (List Int)} (h : l6 = KS.length ∧ ∀ i ks, KS[i]? = some ks → ∃ a q n c, p6 = some a ∧ w.cell? (a.add (i * 1)) = some (.slice q n c) ∧ IntsAt w q n ks) :
    Calls Try.prog 20 #[.agg #[.int .i64 k, .int .i64 d, .int .i64 n, .int .i64 m, .int .u8 y, .slice p5 l5 c5, .slice p6 l6 c6]] w fun e w' => e = .returned (.bool (decide (l5 ≤ 4200 ∧ l6 ≤ 40 ∧ ∀ ks ∈ KS, ks.length ≤ 100))) ∧ Ext w w' := by
  refine (F20_calls k d n m y p5 l5 c5 p6 l6 c6 w (fun v w' => v = .bool (decide (l5 ≤ 4200 ∧ l6 ≤ 40 ∧ ∀ ks ∈ KS, ks.length ≤ 100)) ∧ Ext w w')
    (fun _ w9 n13 w14 => ∃ i : Nat, n13 = i ∧ i ≤ l6 ∧ Ext w9 w14 ∧ ∀ ks ∈ KS.take i, ks.length ≤ 100) (fun _ _ n13 _ => 40 - n13.toNat) ?_).mono (by rintro e w' ⟨v, rfl, rfl, h⟩; exact ⟨rfl, h⟩)
  have hl := h.1
  intro k8 w9 hk
  have hr : RowW w9 k8 _ := ⟨_, hk.at⟩
  refine ⟨_, _, _, hr.row.cell rfl, condB_of (fun h1 => ⟨?_, hk.ext⟩) (fun h1 => ⟨_, _, _, hr.row.cell rfl, condB_of (fun h2 => ⟨?_, hk.ext⟩) (fun h2 => ?_)⟩)⟩
  · simp only [decide_eq_true_eq] at h1
    rw [decide_eq_false (fun h => by omega)]
  · simp only [decide_eq_true_eq] at h2
    rw [decide_eq_false (fun h => by omega)]
  simp only [decide_eq_false_iff_not] at h1 h2
  refine ⟨⟨0, rfl, Nat.zero_le _, Upd.refl _ _, by simp⟩, ?_⟩
  rintro n13 w14 ⟨i, rfl, hi, x14, hall⟩
  intros
  have r14 := x14.rowW hr id
  have y14 := hk.ext.trans x14
  refine ⟨_, _, _, r14.row.cell rfl, condB_of (fun hlt => ?_) (fun hge => ?_)⟩
  · simp only [decide_eq_true_eq] at hlt
    obtain ⟨ks, hks⟩ : ∃ ks, KS[i]? = some ks := ⟨KS[i]'(by omega), List.getElem?_eq_getElem _⟩
    obtain ⟨a, q, nn, cc, rfl, hc, hints⟩ := h.2 i ks hks
    refine ⟨_, _, _, r14.row.cell rfl, ⟨by omega, hlt⟩, _, _, _, by rw [Int.toNat_natCast]; exact cellx hc y14, condB_of (fun hb => ⟨?_, y14⟩) (fun hb => ?_)⟩
    · simp only [decide_eq_true_eq] at hb
      have hn := hints.1
      rw [decide_eq_false]
      rintro ⟨_, _, h3⟩
      have := h3 ks (List.mem_of_getElem? hks)
      omega
    · simp only [decide_eq_false_iff_not] at hb
      have hn := hints.1
      rw [w64 (by omega)]
      refine ⟨⟨i + 1, by omega, by omega, x14, fun z hz => ?_⟩, by show 40 - ((i : Int) + 1).toNat < 40 - (i : Int).toNat; omega⟩
      rw [List.take_add_one, hks] at hz
      rcases List.mem_append.1 hz with hz | hz
      · exact hall z hz
      · simp at hz; subst hz; omega
  · simp only [decide_eq_false_iff_not] at hge
    have e1 : KS.take i = KS := List.take_of_length_le (by omega)
    rw [e1] at hall
    refine ⟨?_, y14⟩
    rw [decide_eq_true]
    exact ⟨by omega, by omega, hall⟩
end Go.Proofs.Ytbidancfbilbkaa
