import Derived.Test.YtkolafpgbhpdlaaGreatVcC
namespace Go.Vc
open Go
theorem w64 {n : Int} (h : -9223372036854775808 ≤ n ∧ n ≤ 9223372036854775807) : IntKind.i64.wrap n = n := IntWalk.i64_in n h
structure Quiet (w w' : World) : Prop where
 heap : w'.heap = w.heap
 os : w'.os = w.os
 tape : w'.tape = w.tape
 output : w'.output = w.output
theorem Quiet.refl (w : World) : Quiet w w := ⟨rfl, rfl, rfl, rfl⟩
theorem Quiet.trans {a b c : World} (h : Quiet a b) (k : Quiet b c) : Quiet a c :=
 ⟨k.heap.trans h.heap, k.os.trans h.os, k.tape.trans h.tape, k.output.trans h.output⟩
theorem Quiet.symm {a b : World} (h : Quiet a b) : Quiet b a := ⟨h.heap.symm, h.os.symm, h.tape.symm, h.output.symm⟩
theorem Drew.quiet {w w' : World} (h : Drew w w') : Quiet w w' := by cases h; exact ⟨rfl, rfl, rfl, rfl⟩
structure Upd (S : Nat → Prop) (w w' : World) : Prop where
 os : w'.os = w.os
 tape : w'.tape = w.tape
 output : w'.output = w.output
 size : w.heap.size ≤ w'.heap.size
 block : ∀ b, b < w.heap.size → ¬ S b → w'.heap[b]? = w.heap[b]?
abbrev Ext (w w' : World) : Prop := Upd (fun _ => False) w w'
theorem Upd.refl (S : Nat → Prop) (w : World) : Upd S w w := ⟨rfl, rfl, rfl, Nat.le_refl _, fun _ _ _ => rfl⟩
theorem Upd.trans {S T : Nat → Prop} {a b c : World} (h : Upd S a b) (k : Upd T b c) (hT : ∀ x, x < a.heap.size → T x → S x) : Upd S a c :=
 ⟨k.os.trans h.os, k.tape.trans h.tape, k.output.trans h.output, Nat.le_trans h.size k.size, fun x hx hS =>
  (k.block x (Nat.lt_of_lt_of_le hx h.size) fun ht => hS (hT x hx ht)).trans (h.block x hx hS)⟩
theorem Upd.mono {S T : Nat → Prop} {a b : World} (h : Upd S a b) (hT : ∀ x, x < a.heap.size → S x → T x) : Upd T a b :=
 ⟨h.os, h.tape, h.output, h.size, fun x hx hS => h.block x hx fun hs => hS (hT x hx hs)⟩
theorem Ext.trans {a b c : World} (h : Ext a b) (k : Ext b c) : Ext a c := Upd.trans h k fun _ _ h => h
theorem Ext.upd {S : Nat → Prop} {a b : World} (h : Ext a b) : Upd S a b := Upd.mono h fun _ _ h => h.elim
theorem Quiet.ext {w w' : World} (h : Quiet w w') : Ext w w' :=
 ⟨h.os, h.tape, h.output, by rw [h.heap]; exact Nat.le_refl _, fun b _ _ => by rw [h.heap]⟩
theorem Drew.ext {w w' : World} (h : Drew w w') : Ext w w' := h.quiet.ext
theorem Ext.below {w w' : World} (h : Ext w w') : RowKit.Below w.heap.size w w' := ⟨h.os, h.tape, h.output, h.size, fun k hk => h.block k hk id⟩
theorem Ext.of_below {w w' : World} (h : RowKit.Below w.heap.size w w') : Ext w w' := ⟨h.os, h.tape, h.output, h.size, fun k hk _ => h.block k hk⟩
theorem lt_of_heap {w : World} {b : Nat} {o : Obj} (h : w.heap[b]? = some o) : b < w.heap.size := (Array.getElem?_eq_some_iff.1 h).1
theorem Upd.keep {S : Nat → Prop} {w w' : World} (h : Upd S w w') {b : Nat} {o : Obj} (hb : w.heap[b]? = some o) (hS : ¬ S b) : w'.heap[b]? = some o :=
 (h.block b (lt_of_heap hb) hS).trans hb
theorem Ext.keep {w w' : World} (h : Ext w w') {b : Nat} {o : Obj} (hb : w.heap[b]? = some o) : w'.heap[b]? = some o := Upd.keep h hb id
theorem NewB.ext {w : World} {b : Nat} {o : Obj} {w' : World} (h : NewB w b o w') : Ext w w' := by
 obtain ⟨rfl, rfl⟩ := h
 exact ⟨rfl, rfl, rfl, by simp, fun k hk _ => RowKit.Below.heap_alloc _ _ _ hk⟩
theorem NewB.at {w : World} {b : Nat} {o : Obj} {w' : World} (h : NewB w b o w') : w'.heap[b]? = some o := by
 obtain ⟨rfl, rfl⟩ := h
 show (w.heap.push o)[w.heap.size]? = some o
 simp
theorem NewB.size {w : World} {b : Nat} {o : Obj} {w' : World} (h : NewB w b o w') : b = w.heap.size ∧ w'.heap.size = w.heap.size + 1 := by
 obtain ⟨rfl, rfl⟩ := h
 exact ⟨rfl, by simp⟩
theorem SetC.upd {w : World} {p : Addr} {v : Value} {w' : World} (h : SetC w p v w') : Upd (fun b => b = p.block) w w' := by
 cases h
 exact ⟨rfl, rfl, rfl, by simp [World.setCell], fun k hk hS => RowKit.Below.heap_setCell _ _ _ _ hS⟩
theorem SetC.size {w : World} {p : Addr} {v : Value} {w' : World} (h : SetC w p v w') : w'.heap.size = w.heap.size := by
 cases h; simp [World.setCell]
theorem SetC.at {w : World} {p : Addr} {v : Value} {w' : World} {cs : Array Value} {e : TypeId} {fz : Nat × Nat} (h : SetC w p v w')
  (hb : w.heap[p.block]? = some (.cells cs e fz)) (hs : p.spot = none) : w'.heap[p.block]? = some (.cells (cs.setIfInBounds p.off v) e fz) := by
 cases h
 simp [World.setCell, Array.getElem?_modify, hb, hs]
theorem add_block (a : Addr) (n : Nat) : (a.add n).block = a.block := by unfold Addr.add; split <;> rfl
theorem add_at0 (b n : Nat) : (at0 b).add n = ⟨b, n, none⟩ := by
 unfold Addr.add; split
 ·rename_i h; subst h; rfl
 ·simp
theorem add_add (a : Addr) (m n : Nat) : (a.add m).add n = a.add (m + n) := by
 unfold Addr.add
 by_cases h1 : m = 0
 ·subst h1; simp
 ·by_cases h2 : n = 0
  ·subst h2; simp
  ·rw [if_neg h1, if_neg h2, if_neg (by omega)]
   simp [Nat.add_assoc]
def Row (w : World) (b : Nat) (cs : Array Value) : Prop := ∃ e fz, w.heap[b]? = some (.cells cs e fz)
def RowW (w : World) (b : Nat) (cs : Array Value) : Prop := ∃ e, w.heap[b]? = some (.cells cs e (0, 0))
theorem RowW.row {w : World} {b : Nat} {cs : Array Value} (h : RowW w b cs) : Row w b cs := let ⟨e, h⟩ := h; ⟨e, _, h⟩
theorem Row.lt {w : World} {b : Nat} {cs : Array Value} (h : Row w b cs) : b < w.heap.size := let ⟨_, _, h⟩ := h; lt_of_heap h
theorem RowW.lt {w : World} {b : Nat} {cs : Array Value} (h : RowW w b cs) : b < w.heap.size := h.row.lt
theorem Row.cell {w : World} {b : Nat} {cs : Array Value} (h : Row w b cs) {n : Nat} {v : Value} (hn : cs[n]? = some v) : w.cell? ((at0 b).add n) = some v := by
 obtain ⟨e, fz, h⟩ := h
 rw [add_at0]
 simp [World.cell?, h, hn]
theorem RowW.live {w : World} {b : Nat} {cs : Array Value} (h : RowW w b cs) {n : Nat} (hn : n < cs.size) : Live w ((at0 b).add n) := by
 refine ⟨⟨cs[n], h.row.cell (by simp [hn])⟩, ?_⟩
 obtain ⟨e, h⟩ := h
 rw [add_at0]
 simp [World.frozen?, h]
theorem NewB.row {w : World} {b : Nat} {cs : Array Value} {e : TypeId} {w' : World} (h : NewB w b (.cells cs e) w') : RowW w' b cs := ⟨e, h.at⟩
theorem Upd.row {S : Nat → Prop} {w w' : World} (h : Upd S w w') {b : Nat} {cs : Array Value} (hb : Row w b cs) (hS : ¬ S b) : Row w' b cs :=
 let ⟨e, fz, hb⟩ := hb; ⟨e, fz, h.keep hb hS⟩
theorem Upd.rowW {S : Nat → Prop} {w w' : World} (h : Upd S w w') {b : Nat} {cs : Array Value} (hb : RowW w b cs) (hS : ¬ S b) : RowW w' b cs :=
 let ⟨e, hb⟩ := hb; ⟨e, h.keep hb hS⟩
theorem SetC.row {w : World} {b n : Nat} {v : Value} {w' : World} {cs : Array Value} (h : SetC w ((at0 b).add n) v w') (hb : RowW w b cs) : RowW w' b (cs.setIfInBounds n v) := by
 obtain ⟨e, hb⟩ := hb
 rw [add_at0] at h
 exact ⟨e, h.at hb rfl⟩
theorem cell_of_block {w w' : World} {a : Addr} (h : w'.heap[a.block]? = w.heap[a.block]?) : w'.cell? a = w.cell? a := by
 simp only [World.cell?, h]
theorem Upd.cell {S : Nat → Prop} {w w' : World} (h : Upd S w w') {a : Addr} {v : Value} (ha : w.cell? a = some v) (hS : ¬ S a.block) : w'.cell? a = some v := by
 have hb : a.block < w.heap.size := by
  unfold World.cell? at ha
  cases hx : w.heap[a.block]? with
  | none => rw [hx] at ha; simp at ha
  | some o => exact lt_of_heap hx
 rw [cell_of_block (h.block _ hb hS)]; exact ha
theorem cell_lt {w : World} {a : Addr} {v : Value} (ha : w.cell? a = some v) : a.block < w.heap.size := by
 unfold World.cell? at ha
 cases hx : w.heap[a.block]? with
 | none => rw [hx] at ha; simp at ha
 | some o => exact lt_of_heap hx
def BytesAt (w : World) (p : Option Addr) (n : Nat) (bs : List UInt8) : Prop :=
 n = bs.length ∧ (bs ≠ [] → ∃ a, p = some a ∧ ∀ i, i < bs.length → w.cell? (a.add i) = some (.int .u8 ((bs.getD i 0).toNat : Int)))
theorem BytesAt.nil (w : World) (p : Option Addr) : BytesAt w p 0 [] := ⟨rfl, fun h => (h rfl).elim⟩
theorem BytesAt.get {w : World} {p : Option Addr} {n : Nat} {bs : List UInt8} (h : BytesAt w p n bs) {i : Nat} (hi : i < n) :
  ∃ a, p = some a ∧ w.cell? (a.add i) = some (.int .u8 ((bs.getD i 0).toNat : Int)) := by
 obtain ⟨rfl, h⟩ := h
 obtain ⟨a, ha, hc⟩ := h (by rintro rfl; simp at hi)
 exact ⟨a, ha, hc i hi⟩
theorem BytesAt.upd {S : Nat → Prop} {w w' : World} {p : Option Addr} {n : Nat} {bs : List UInt8} (h : BytesAt w p n bs) (hu : Upd S w w')
  (hS : ∀ a, p = some a → bs ≠ [] → ¬ S a.block) : BytesAt w' p n bs := by
 refine ⟨h.1, fun hn => ?_⟩
 obtain ⟨a, ha, hc⟩ := h.2 hn
 exact ⟨a, ha, fun i hi => hu.cell (hc i hi) (by rw [add_block]; exact hS a ha hn)⟩
theorem BytesAt.ext {w w' : World} {p : Option Addr} {n : Nat} {bs : List UInt8} (h : BytesAt w p n bs) (hu : Ext w w') : BytesAt w' p n bs := h.upd hu fun _ _ _ => id
theorem BytesAt.lt {w : World} {p : Option Addr} {n : Nat} {bs : List UInt8} (h : BytesAt w p n bs) (hn : bs ≠ []) : ∃ a, p = some a ∧ a.block < w.heap.size := by
 obtain ⟨a, ha, hc⟩ := h.2 hn
 refine ⟨a, ha, ?_⟩
 have := cell_lt (hc 0 (List.length_pos_iff.2 hn))
 rw [add_block] at this; exact this
end Go.Vc
