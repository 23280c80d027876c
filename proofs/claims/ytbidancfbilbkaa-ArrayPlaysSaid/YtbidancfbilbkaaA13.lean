/- What a restart, and what a call, leaves as it was. -/
import Derived.Test.YtbidancfbilbkaaA12
namespace Go.Proofs.Ytbidancfbilbkaa
open Go Go.Vc

def begA (n : Nat) (k : Int) : StA := ⟨List.replicate n ⟨⟨k, [], [], false⟩, 0⟩, -1, false⟩
theorem begA_ok {n : Nat} {k : Int} (h : n ≤ 32) : OkA (begA n k) := ⟨by simpa [begA] using h, by show (-1 : Int) ≤ -1; omega, by show (-1 : Int) ≤ _; omega⟩

theorem writeA_len (s : StA) (d n : Int) (b : List UInt8) : (writeA s d n b).M.length = s.M.length := by
  unfold writeA
  split
  · rfl
  split
  · split
    · simp
    · rfl
  · rfl
theorem callA_len (s : StA) (c : CallA) : (callA s c).M.length = s.M.length := by
  unfold callA
  split
  · exact writeA_len _ _ _ _
  split
  · split
    · rfl
    · exact flushM_len _ _
  split
  · split <;> rfl
  split
  · exact crashM_len _ _ _
  split
  · exact (onDisk_len _ _ _).1
  split
  · exact (onDisk_len _ _ _).1
  split
  · exact (onDisk_len _ _ _).1
  · rfl
theorem doneA_len (L : List CallA) : ∀ s : StA, (doneA s L).M.length = s.M.length := by
  induction L with
  | nil => intro s; rfl
  | cons c L ih =>
    intro s
    refine (ih _).trans ?_
    simp only
    split
    · exact callA_len _ _
    · rfl

theorem crashM_get {KS : List (List Int)} {M : List Mem} {i : Nat} {m : Mem} (h : M[i]? = some m) : (crashM KS M.length M)[i]? = some { m with d := crashD m.d (KS.getD i []) } := by
  have hl := (List.getElem?_eq_some_iff.1 h).1
  simp only [crashM, List.getElem?_mapIdx, h, Option.map_some, if_pos hl]
theorem crashM_births (KS : List (List Int)) (n : Nat) (M : List Mem) : (crashM KS n M).map (·.births) = M.map (·.births) := by
  apply List.ext_getElem?
  intro i
  simp only [crashM, List.getElem?_map, List.getElem?_mapIdx]
  cases M[i]? with
  | none => rfl
  | some m =>
    simp only [Option.map_some]
    split <;> rfl
theorem crashM_live (KS : List (List Int)) (n : Nat) (M : List Mem) : ((crashM KS n M).map fun m => !m.d.dead) = M.map fun m => !m.d.dead := by
  apply List.ext_getElem?
  intro i
  simp only [crashM, List.getElem?_map, List.getElem?_mapIdx]
  cases M[i]? with
  | none => rfl
  | some m =>
    simp only [Option.map_some]
    split <;> rfl
theorem crashD_quiet {D : Dk} (h : D.waits = []) (ks : List Int) : (crashD D ks).lasts = D.lasts := by
  unfold crashD
  rw [h]
  rfl
theorem writeZ_up (D : Dk) (k : Int) (n : Nat) : writeZ D k n ≠ 130 := by
  unfold writeZ faultZ
  repeat' split
  all_goals omega

theorem calls_block {w : World} {p : Option Addr} {l : Nat} {L : List CallA} (h : CallsAAt w p l L) {ap : Addr} (hp : p = some ap) (hne : L ≠ []) : ap.block < w.heap.size := by
  obtain ⟨c, L', rfl⟩ := List.exists_cons_of_ne_nil hne
  obtain ⟨a, p5, l5, c5, p6, l6, c6, ha, hc⟩ := h.2 0 c rfl
  rw [hp] at ha
  cases ha
  have := cell_lt hc.kind
  rwa [add_block] at this

theorem HeldS.base_le {w : World} {base base' : Nat} {p : Option Addr} {l c : Nat} {L : SM} (h : HeldS w base p l c L) (hb : base' ≤ base) : HeldS w base' p l c L := by
  obtain ⟨vs, h1, h2, h3⟩ := h
  exact ⟨vs, all2_imp h1 fun v x hv => hv.base_le hb, h2.base_le hb, h3⟩
theorem TellL.in_ {w : World} {base : Nat} {p : Option Addr} {l c : Nat} {LL : List SM} (h : TellL w base p l c LL) {g : Nat} (hg : p = some (at0 g)) : base ≤ g ∧ g < w.heap.size := by
  obtain ⟨vs, _, h2, _⟩ := h
  obtain ⟨g1, g2, _⟩ := own_in h2 hg
  exact ⟨g1, g2⟩
theorem TellL.length {w : World} {base : Nat} {p : Option Addr} {l c : Nat} {LL : List SM} (h : TellL w base p l c LL) : l = LL.length := by
  obtain ⟨_, _, _, h⟩ := h
  exact h

/-- a disk's sectors are few -/
theorem IsArr.few {w : World} {a : Nat} {M : List Mem} {left : Int} {down : Bool} {F : Nat → Prop} (h : IsArr w a M left down F) {i : Nat} {m : Mem} (hi : M[i]? = some m) : m.d.lasts.length ≤ 4096 ∧ m.d.waits.length ≤ 4096 := by
  obtain ⟨_, _, _, _, _, _, _, _, hd, _⟩ := h.at hi
  exact dk_len hd.ok hd.asc

/-- what is done to one disk changes no other one -/
theorem onDisk_other {s : StA} {d : Int} {f : Mem → Mem} {i : Nat} (h : (i : Int) ≠ d) : (onDisk s d f).M[i]? = s.M[i]? := by
  unfold onDisk
  split
  · split
    · exact List.getElem?_set_ne (by omega)
    · rfl
  · rfl
theorem callA_other {s : StA} {c : CallA} {i : Nat} (h : (i : Int) ≠ c.d) (h3 : c.kind ≠ 3) (h5 : c.kind ≠ 5) : (callA s c).M[i]? = s.M[i]? := by
  unfold callA
  rw [if_neg h3, if_neg h5]
  split
  · unfold writeA
    split
    · rfl
    split
    · split
      · exact List.getElem?_set_ne (by omega)
      · rfl
    · rfl
  split
  · split <;> rfl
  split
  · exact onDisk_other h
  split
  · exact onDisk_other h
  split
  · exact onDisk_other h
  · rfl

/-- both rows grow -/
structure Two (w : World) (base : Nat) (p : Option Addr) (l c : Nat) (q : Option Addr) (m d : Nat) (LL WW : List SM) : Prop where
  one : TellL w base p l c LL
  two : TellL w base q m d WW
  apart : ∀ g, p = some (at0 g) → q ≠ some (at0 g)
theorem Two.nil (w : World) (base : Nat) : Two w base none 0 0 none 0 0 [] [] := ⟨TellL.nil _ _, TellL.nil _ _, fun g h => by cases h⟩
theorem Two.upd {S : Nat → Prop} {w w' : World} {base : Nat} {p : Option Addr} {l c : Nat} {q : Option Addr} {m d : Nat} {LL WW : List SM} (h : Two w base p l c q m d LL WW) (hu : Upd S w w') (hS : ∀ y, base ≤ y → y < w.heap.size → ¬ S y) :
    Two w' base p l c q m d LL WW := ⟨h.one.upd hu hS, h.two.upd hu hS, h.apart⟩
theorem Two.ext {w w' : World} {base : Nat} {p : Option Addr} {l c : Nat} {q : Option Addr} {m d : Nat} {LL WW : List SM} (h : Two w base p l c q m d LL WW) (hu : Ext w w') : Two w' base p l c q m d LL WW := h.upd hu fun _ _ _ h => h
theorem Two.app1 {w w1 : World} {base : Nat} {p : Option Addr} {l c : Nat} {q : Option Addr} {m d : Nat} {LL WW : List SM} (h : Two w base p l c q m d LL WW) (hl : l ≤ 1000) (hb : base ≤ w.heap.size) {r : Option Addr} {n e : Nat} {L : SM} (hn : HeldS w base r n e L)
    {k : Nat} (hk : NewB w k (.cells #[.slice r n e] 33) w1) :
    ∃ p' c' w2, (Builtin.append_ #[49, 49] 49 #[.slice p l c, .slice (some (at0 k)) 1 1]).run Try.prog w1 = .ok (.slice p' (l + 1) c') w2 ∧ Two w2 base p' (l + 1) c' q m d (LL ++ [L]) WW ∧
      ∀ w0, Ext w0 w → w0.heap.size ≤ base → Ext w0 w2 := by
  obtain ⟨p', c', w2, hr, ht, hu, hw, hT, hB⟩ := h.one.app hl hb hn hk
  refine ⟨p', c', w2, hr, ⟨ht, h.two.updT hu hT fun g hg hp => h.apart g hp hg, fun g hp hq => ?_⟩, fun w0 hx hle => Upd.trans hx hu fun y hy hp => by have := hB y hp; omega⟩
  rcases hw with rfl | rfl
  · exact h.apart g hp hq
  · have := (h.two.in_ hq).2
    have := hk.size
    simp only [Option.some.injEq, at0, Addr.mk.injEq, and_true] at hp
    omega
theorem Two.app2 {w w1 : World} {base : Nat} {p : Option Addr} {l c : Nat} {q : Option Addr} {m d : Nat} {LL WW : List SM} (h : Two w base p l c q m d LL WW) (hl : m ≤ 1000) (hb : base ≤ w.heap.size) {r : Option Addr} {n e : Nat} {L : SM} (hn : HeldS w base r n e L)
    {k : Nat} (hk : NewB w k (.cells #[.slice r n e] 33) w1) :
    ∃ q' d' w2, (Builtin.append_ #[49, 49] 49 #[.slice q m d, .slice (some (at0 k)) 1 1]).run Try.prog w1 = .ok (.slice q' (m + 1) d') w2 ∧ Two w2 base p l c q' (m + 1) d' LL (WW ++ [L]) ∧
      ∀ w0, Ext w0 w → w0.heap.size ≤ base → Ext w0 w2 := by
  have h' : Two w base q m d p l c WW LL := ⟨h.two, h.one, fun g hp hq => h.apart g hq hp⟩
  obtain ⟨q', d', w2, hr, ⟨t1, t2, ta⟩, hx⟩ := h'.app1 hl hb hn hk
  exact ⟨q', d', w2, hr, ⟨t2, t1, fun g hp hq => ta g hq hp⟩, hx⟩
end Go.Proofs.Ytbidancfbilbkaa
