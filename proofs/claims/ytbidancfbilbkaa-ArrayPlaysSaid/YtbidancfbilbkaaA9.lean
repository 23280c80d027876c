/- An array behind a script: the walk. -/
import Derived.Test.YtbidancfbilbkaaA8
namespace Go.Proofs.Ytbidancfbilbkaa
open Go Go.Vc

theorem ext_stepA {F F' : Nat → Prop} {w0 w w' : World} (h : Ext w0 w) (hs : Step F F' w w') (hF : ∀ x, F x → w0.heap.size ≤ x) : Ext w0 w' ∧ ∀ x, F' x → w0.heap.size ≤ x := by
  refine ⟨Upd.trans h hs.upd fun x hx hf => ?_, fun x hx => ?_⟩
  · have := hF x hf; omega
  · rcases hs.grow x hx with h1 | h1
    · exact hF x h1
    · exact Nat.le_trans h.size h1

theorem restart_any {w0 w : World} {a : Nat} {s : StA} {F : Nat → Prop} (h : IsA w a s F) (ho : OkA s) (hx : Ext w0 w) (hF : ∀ x, F x → w0.heap.size ≤ x) {p : Option Addr} {l c : Nat} {KS : List (List Int)}
    (hK : l = KS.length ∧ ∀ i ks, KS[i]? = some ks → ∃ a q n c, p = some a ∧ w0.cell? (a.add (i * 1)) = some (.slice q n c) ∧ IntsAt w0 q n ks) (hs : ∀ ks ∈ KS, ks.length ≤ 100) :
    Calls Try.prog 18 #[.pointer (some (at0 a)), .slice p l c] w fun e w' => ∃ F', e = .returned (.tuple #[]) ∧ Step F F' w w' ∧ IsA w' a ⟨crashM KS s.M.length s.M, -1, false⟩ F' := by
  have hKA : KeepAt w (fun x => x < w0.heap.size) p l KS := by
    refine ⟨hK.1, fun i ks hi => ?_⟩
    obtain ⟨ap, q, n, cc, h1, h2, h3⟩ := hK.2 i ks hi
    have hn := h3.1
    have := hs ks (List.mem_of_getElem? hi)
    refine ⟨ap, q, n, cc, h1, ?_, cellx h2 hx, ⟨h3.1, h3.2.ext hx⟩, fun hne a' ha => ints_block h3 hne ha, by omega⟩
    have hb : (ap.add (i * 1)).block = ap.block := add_block _ _
    rw [← hb]
    unfold World.cell? at h2
    split at h2
    · rename_i h4; exact lt_of_heap h4
    all_goals cases h2
  exact restart_spec h (by have := ho.1; omega) (fun x hx' hf => by have := hF x hf; omega) (fun x hx' hge => by have := hx.size; omega) hKA
end Go.Proofs.Ytbidancfbilbkaa
