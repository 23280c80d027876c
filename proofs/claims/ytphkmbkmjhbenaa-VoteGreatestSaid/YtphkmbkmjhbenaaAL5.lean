/- The document's Same, of two lists of sectors. -/
import Derived.Test.YtphkmbkmjhbenaaAL4
namespace Go.Proofs.Ytphkmbkmjhbenaa
open Go Go.Vc

def HeldR (w : World) (p : Option Addr) (l : Nat) (L : SM) : Prop :=
  l = L.length ∧ l ≤ 4096 ∧ ∀ i x, L[i]? = some x → ∃ a q n c, p = some a ∧ w.cell? ((a.add (i * 2)).add 0) = some (.int .i64 x.1) ∧ w.cell? ((a.add (i * 2)).add 1) = some (.slice q n c) ∧ BytesAt w q n x.2 ∧ n ≤ 4108

theorem HeldR.ext {w w' : World} {p : Option Addr} {l : Nat} {L : SM} (h : HeldR w p l L) (hu : Ext w w') : HeldR w' p l L :=
  ⟨h.1, h.2.1, fun i x hi => by
    obtain ⟨a, q, n, c, h1, h2, h3, h4, h5⟩ := h.2.2 i x hi
    exact ⟨a, q, n, c, h1, cellx h2 hu, cellx h3 hu, h4.ext hu, h5⟩⟩
theorem dk_len {D : Dk} (h : DkOk D) (a : Asc D.lasts ∧ Asc D.waits) : D.lasts.length ≤ 4096 ∧ D.waits.length ≤ 4096 :=
  ⟨asc_bound (lo := 0) a.1 fun x hx => by have := h.lasts x hx; have := h.sec; omega, asc_bound (lo := 0) a.2 fun x hx => by have := h.waits x hx; have := h.sec; omega⟩

end Go.Proofs.Ytphkmbkmjhbenaa
