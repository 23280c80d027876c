/- What a restart, and what a call, leaves as it was. -/
import Derived.Test.YtphkmbkmjhbenaaA12
namespace Go.Proofs.Ytphkmbkmjhbenaa
open Go Go.Vc

def begA (n : Nat) (k : Int) : StA := ⟨List.replicate n ⟨⟨k, [], [], false⟩, 0⟩, -1, false⟩
theorem begA_ok {n : Nat} {k : Int} (h : n ≤ 32) : OkA (begA n k) := ⟨by simpa [begA] using h, by show (-1 : Int) ≤ -1; omega, by show (-1 : Int) ≤ _; omega⟩

theorem writeA_len (s : StA) (d n : Int) (b : List UInt8) : (writeA s d n b).M.length = s.M.length := by
  unfold writeA
  split
  · rfl
  split
  · split
    · simp
    · rfl
  · rfl
theorem callA_len (s : StA) (c : CallA) : (callA s c).M.length = s.M.length := by
  unfold callA
  split
  · exact writeA_len _ _ _ _
  split
  · split
    · rfl
    · exact flushM_len _ _
  split
  · split <;> rfl
  split
  · exact crashM_len _ _ _
  split
  · exact (onDisk_len _ _ _).1
  split
  · exact (onDisk_len _ _ _).1
  split
  · exact (onDisk_len _ _ _).1
  · rfl
theorem doneA_len (L : List CallA) : ∀ s : StA, (doneA s L).M.length = s.M.length := by
  induction L with
  | nil => intro s; rfl
  | cons c L ih =>
    intro s
    refine (ih _).trans ?_
    simp only
    split
    · exact callA_len _ _
    · rfl

theorem crashM_get {KS : List (List Int)} {M : List Mem} {i : Nat} {m : Mem} (h : M[i]? = some m) : (crashM KS M.length M)[i]? = some { m with d := crashD m.d (KS.getD i []) } := by
  have hl := (List.getElem?_eq_some_iff.1 h).1
  simp only [crashM, List.getElem?_mapIdx, h, Option.map_some, if_pos hl]
theorem crashM_births (KS : List (List Int)) (n : Nat) (M : List Mem) : (crashM KS n M).map (·.births) = M.map (·.births) := by
  apply List.ext_getElem?
  intro i
  simp only [crashM, List.getElem?_map, List.getElem?_mapIdx]
  cases M[i]? with
  | none => rfl
  | some m =>
    simp only [Option.map_some]
    split <;> rfl
theorem crashM_live (KS : List (List Int)) (n : Nat) (M : List Mem) : ((crashM KS n M).map fun m => !m.d.dead) = M.map fun m => !m.d.dead := by
  apply List.ext_getElem?
  intro i
  simp only [crashM, List.getElem?_map, List.getElem?_mapIdx]
  cases M[i]? with
  | none => rfl
  | some m =>
    simp only [Option.map_some]
    split <;> rfl
theorem crashD_quiet {D : Dk} (h : D.waits = []) (ks : List Int) : (crashD D ks).lasts = D.lasts := by
  unfold crashD
  rw [h]
  rfl
theorem writeZ_up (D : Dk) (k : Int) (n : Nat) : writeZ D k n ≠ 130 := by
  unfold writeZ faultZ
  repeat' split
  all_goals omega

theorem calls_block {w : World} {p : Option Addr} {l : Nat} {L : List CallA} (h : CallsAAt w p l L) {ap : Addr} (hp : p = some ap) (hne : L ≠ []) : ap.block < w.heap.size := by
  obtain ⟨c, L', rfl⟩ := List.exists_cons_of_ne_nil hne
  obtain ⟨a, p5, l5, c5, p6, l6, c6, ha, hc⟩ := h.2 0 c rfl
  rw [hp] at ha
  cases ha
  have := cell_lt hc.kind
  rwa [add_block] at this

/-- a disk's sectors are few -/
theorem IsArr.few {w : World} {a : Nat} {M : List Mem} {left : Int} {down : Bool} {F : Nat → Prop} (h : IsArr w a M left down F) {i : Nat} {m : Mem} (hi : M[i]? = some m) : m.d.lasts.length ≤ 4096 ∧ m.d.waits.length ≤ 4096 := by
  obtain ⟨_, _, _, _, _, _, _, _, hd, _⟩ := h.at hi
  exact dk_len hd.ok hd.asc

/-- what is done to one disk changes no other one -/
theorem onDisk_other {s : StA} {d : Int} {f : Mem → Mem} {i : Nat} (h : (i : Int) ≠ d) : (onDisk s d f).M[i]? = s.M[i]? := by
  unfold onDisk
  split
  · split
    · exact List.getElem?_set_ne (by omega)
    · rfl
  · rfl
theorem callA_other {s : StA} {c : CallA} {i : Nat} (h : (i : Int) ≠ c.d) (h3 : c.kind ≠ 3) (h5 : c.kind ≠ 5) : (callA s c).M[i]? = s.M[i]? := by
  unfold callA
  rw [if_neg h3, if_neg h5]
  split
  · unfold writeA
    split
    · rfl
    split
    · split
      · exact List.getElem?_set_ne (by omega)
      · rfl
    · rfl
  split
  · split <;> rfl
  split
  · exact onDisk_other h
  split
  · exact onDisk_other h
  split
  · exact onDisk_other h
  · rfl

end Go.Proofs.Ytphkmbkmjhbenaa
