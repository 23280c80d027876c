/- The key equation is solved: the step. -/
import Derived.Test.YtpmkjpgoekjcfaaH6
namespace Go.Proofs.Ytpmkjpgoekjcfaa
open Go Go.Vc Go.Gf

abbrev RowK (w : World) (k : Nat) (e : TypeId) (cs : Array Value) : Prop := w.heap[k]? = some (Obj.cells cs e (0, 0))
theorem RowK.cell {w : World} {k : Nat} {e : TypeId} {v : Value} (h : RowK w k e #[v]) : w.cell? (at0 k) = some v := by
  have : at0 k = (at0 k).add 0 := (add_at0 k 0).symm
  rw [this]
  exact Row.cell ⟨_, _, h⟩ rfl
theorem RowK.live {w : World} {k : Nat} {e : TypeId} {v : Value} (h : RowK w k e #[v]) : Live w (at0 k) := by
  have : at0 k = (at0 k).add 0 := (add_at0 k 0).symm
  rw [this]
  exact RowW.live ⟨_, h⟩ (by simp)
theorem RowK.set {w w' : World} {k : Nat} {e : TypeId} {v u : Value} (h : RowK w k e #[v]) (hs : SetC w (at0 k) u w') : RowK w' k e #[u] := by
  have := hs.at h rfl
  exact this
theorem setK_upd {w w' : World} {k : Nat} {u : Value} (hs : SetC w (at0 k) u w') : Upd (fun x => x = k) w w' := hs.upd

/-- a cell that holds own bytes -/
def CellB (w : World) (base k : Nat) (bs : List UInt8) : Prop := ∃ p n c, RowK w k 22 #[.slice p n c] ∧ OwnB w base p n c bs
theorem OwnB.apart {w w' : World} {base k : Nat} {e : TypeId} {cs : Array Value} {p : Option Addr} {n c : Nat} {bs : List UInt8} (h : OwnB w base p n c bs) (hu : Upd (fun x => x = k) w w') (hk : RowK w k e cs) (he : e ≠ 5) : OwnB w' base p n c bs :=
  OwnB.other h hu fun x hx => ⟨cs, e, (0, 0), by rw [show x = k from hx]; exact hk, he⟩
section
variable {w w' : World} {base k k' : Nat} {bs : List UInt8}
theorem CellB.ext (h : CellB w base k bs) (hu : Ext w w') : CellB w' base k bs := by
  obtain ⟨p, n, c, h1, h2⟩ := h
  exact ⟨p, n, c, hu.keep h1, OwnB.ext h2 hu⟩
theorem CellB.other {e : TypeId} {cs : Array Value} (h : CellB w base k bs) (hu : Upd (fun x => x = k') w w') (hk : RowK w k' e cs) (he : e ≠ 5) (hne : k ≠ k') : CellB w' base k bs := by
  obtain ⟨p, n, c, h1, h2⟩ := h
  exact ⟨p, n, c, hu.keep h1 hne, OwnB.apart h2 hu hk he⟩
theorem CellB.row (h : CellB w base k bs) : ∃ v, RowK w k 22 #[v] := by obtain ⟨p, n, c, h1, _⟩ := h; exact ⟨_, h1⟩
end

structure SolSt (w0 w : World) (k4 kl kh kb ka : Nat) (f : Option Addr) (low high a b : List UInt8) : Prop where
  ext : Ext w0 w
  n4 : w0.heap.size ≤ k4
  nl : w0.heap.size ≤ kl
  nh : w0.heap.size ≤ kh
  nb : w0.heap.size ≤ kb
  na : w0.heap.size ≤ ka
  lh : kl ≠ kh
  lb : kl ≠ kb
  la : kl ≠ ka
  hb : kh ≠ kb
  ha : kh ≠ ka
  ba : kb ≠ ka
  rf : RowK w k4 25 #[.pointer f]
  cl : CellB w w0.heap.size kl low
  ch : CellB w w0.heap.size kh high
  cb : CellB w w0.heap.size kb b
  ca : CellB w w0.heap.size ka a
theorem SolSt.mono {w0 w w' : World} {k4 kl kh kb ka : Nat} {f : Option Addr} {low high a b : List UInt8} (h : SolSt w0 w k4 kl kh kb ka f low high a b) (hu : Ext w w') : SolSt w0 w' k4 kl kh kb ka f low high a b :=
  ⟨h.ext.trans hu, h.n4, h.nl, h.nh, h.nb, h.na, h.lh, h.lb, h.la, h.hb, h.ha, h.ba, hu.keep h.rf, h.cl.ext hu, h.ch.ext hu, h.cb.ext hu, h.ca.ext hu⟩
theorem ty_ne : 25 ≠ 22 ∧ 22 ≠ 5 ∧ 25 ≠ 5 := by decide
theorem RowK.ne {w : World} {k k' : Nat} {e e' : TypeId} {cs cs' : Array Value} (h : RowK w k e cs) (h' : RowK w k' e' cs') (he : e ≠ e') : k ≠ k' := by
  rintro rfl
  unfold RowK at h h'
  rw [h] at h'
  cases h'
  exact he rfl

set_option maxHeartbeats 2000000 in
theorem sstep_spec {w0 w : World} {k4 kl kh kb ka m : Nat} {f : Option Addr} {low high a b : List UInt8} {H : Se} (hf : FieldAt w0 f) (h : SolSt w0 w k4 kl kh kb ka f low high a b) (hI : SolveInv m H low high a b) (h0 : high ≠ []) (hm : m ≤ 256) :
    Calls Try.prog 60 #[.pointer (some (at0 k4)), .pointer (some (at0 kl)), .pointer (some (at0 kh)), .pointer (some (at0 kb)), .pointer (some (at0 ka))] w fun e w' => e = .returned (.tuple #[]) ∧
      Upd (fun x => x = kl ∨ x = kh ∨ x = kb ∨ x = ka) w w' ∧ ∃ r b', SolSt w0 w' k4 kl kh kb ka f high r b b' ∧ SolveInv m H high r b b' ∧ b'.length + high.length = m + 2 := by
  refine (F60_calls (at0 k4) (at0 kl) (at0 kh) (at0 kb) (at0 ka) w (fun v w' => v = .tuple #[] ∧
      Upd (fun x => x = kl ∨ x = kh ∨ x = kb ∨ x = ka) w w' ∧ ∃ r b', SolSt w0 w' k4 kl kh kb ka f high r b b' ∧ SolveInv m H high r b b' ∧ b'.length + high.length = m + 2) ?_).mono (by rintro e w' ⟨v, rfl, rfl, h⟩; exact ⟨rfl, h⟩)
  have hdeg := hI.deg
  have hlt := hI.lt
  have hab := hI.ab
  obtain ⟨pl, nl, cl, rl, ol⟩ := h.cl
  obtain ⟨ph, nh, ch, rh, oh⟩ := h.ch
  have ll := OwnB.len ol
  have lh := OwnB.len oh
  have hl0 : 0 < high.length := List.length_pos_iff.2 h0
  refine ⟨_, h.rf.cell, _, _, _, rl.cell, _, _, _, rh.cell, ?_⟩
  refine (pdivide_spec (hf.ext h.ext) (OwnB.bytes ol) (OwnB.le ol) (by omega) (OwnB.bytes oh) (OwnB.le oh) (by omega) (fun e => hI.nhigh h0 (by rw [e]; rfl))).mono ?_
  rintro e w9 ⟨p1, n1, c1, q, p2, n2, c2, r, rfl, hx9, oq, or, nq, nr, heq, hrl⟩
  have h9 := h.mono hx9
  have hrl' := hrl high hI.nhigh rfl
  have e1 : co low = sa (act q (co high)) (co r) := by rw [heq, act_co]
  have lq := OwnB.len oq
  have lr := OwnB.len or
  have hql : q.length ≤ 258 := by
    by_cases q0 : q = []
    · rw [q0]; simp
    · have hq0 : 0 < q.length := List.length_pos_iff.2 q0
      have := sum_len hI.nlow nq hI.nhigh q0 h0 e1 (by omega)
      omega
  have rh9 : RowK w9 kh 22 #[.slice ph nh ch] := hx9.keep rh
  have rl9 : RowK w9 kl 22 #[.slice pl nl cl] := hx9.keep rl
  refine ⟨_, _, _, _, _, _, _, rfl, _, _, _, rh9.cell, rl9.live, fun w15 s15 => ?_⟩
  have u15 := setK_upd s15
  have rl15 := rl9.set s15
  have rh15 : RowK w15 kh 22 #[.slice ph nh ch] := u15.keep rh9 h.lh.symm
  refine ⟨rh15.live, fun w16 s16 => ?_⟩
  have u16 := setK_upd s16
  have rh16 := rh15.set s16
  have two : ∀ {base : Nat} {p : Option Addr} {n c : Nat} {bs : List UInt8}, OwnB w9 base p n c bs → OwnB w16 base p n c bs := fun o => OwnB.apart (OwnB.apart o u15 rl9 ty_ne.2.1) u16 rh15 ty_ne.2.1
  have rl16 : RowK w16 kl 22 #[.slice ph nh ch] := u16.keep rl15 h.lh
  have cb16 : CellB w16 w0.heap.size kb b := (h9.cb.other u15 rl9 ty_ne.2.1 h.lb.symm).other u16 rh15 ty_ne.2.1 h.hb.symm
  have ca16 : CellB w16 w0.heap.size ka a := (h9.ca.other u15 rl9 ty_ne.2.1 h.la.symm).other u16 rh15 ty_ne.2.1 h.ha.symm
  have rf16 : RowK w16 k4 25 #[.pointer f] := u16.keep (u15.keep h9.rf (RowK.ne h9.rf rl9 ty_ne.1)) (RowK.ne h9.rf rh9 ty_ne.1)
  have x16 : Ext w0 w16 := OwnB.new_ext (OwnB.new_ext h9.ext u15 fun x hx => by rw [show x = kl from hx]; exact h.nl) u16 fun x hx => by rw [show x = kh from hx]; exact h.nh
  have oh16 := two (OwnB.ext oh hx9)
  have or16 := two or
  have oq16 := two oq
  intro w17 hd
  have cb17 := cb16.ext hd.ext
  have ca17 := ca16.ext hd.ext
  have rf17 : RowK w17 k4 25 #[.pointer f] := hd.ext.keep rf16
  obtain ⟨pb, nb, cb, rb, ob⟩ := cb17
  obtain ⟨pa, na, ca, ra, oa⟩ := ca17
  have lb := OwnB.len ob
  have la := OwnB.len oa
  have x17 := x16.trans hd.ext
  refine ⟨_, _, _, rb.cell, _, _, _, ra.cell, _, rf17.cell, _, _, _, rb.cell, ?_⟩
  have oq17 := OwnB.ext oq16 hd.ext
  refine (pmul_spec (hf.ext x17) (OwnB.bytes oq17) (by omega) (OwnB.bytes ob) (by omega)).mono ?_
  rintro e w22 ⟨p24, n24, c24, z, rfl, hx22, oz, nz, ez⟩
  have rb22 : RowK w22 kb 22 #[.slice pb nb cb] := hx22.keep rb
  have ra22 : RowK w22 ka 22 #[.slice pa na ca] := hx22.keep ra
  have lz := OwnB.len oz
  have hzl : z.length ≤ 1000 := nz.le (by rw [ez]; exact act_deg (deg_co q) (by omega))
  refine ⟨_, _, _, rfl, ⟨_, _, _, rb22.cell, rfl⟩, ⟨_, _, _, ra22.cell, rfl⟩, ?_⟩
  refine (padd_spec (OwnB.bytes (OwnB.ext oa hx22)) (OwnB.le oa) (by omega) (OwnB.bytes oz) (OwnB.le oz) (by omega)).mono ?_
  rintro e w27 ⟨p29, n29, c29, b', rfl, hx27, ob', nb', eb'⟩
  have hx := hx22.trans hx27
  have rb27 : RowK w27 kb 22 #[.slice pb nb cb] := hx.keep rb
  have ra27 : RowK w27 ka 22 #[.slice pa na ca] := hx.keep ra
  refine ⟨_, _, _, rfl, ⟨_, _, _, rb27.cell, rfl⟩, ra27.live, fun w31 s31 => ?_⟩
  have u31 := setK_upd s31
  have ra31 := ra27.set s31
  have rb31 : RowK w31 kb 22 #[.slice pb nb cb] := u31.keep rb27 h.ba
  refine ⟨rb31.live, fun w32 s32 => ?_⟩
  have u32 := setK_upd s32
  have rb32 := rb31.set s32
  have ra32 : RowK w32 ka 22 #[.slice pb nb cb] := u32.keep ra31 h.ba.symm
  have two' : ∀ {base : Nat} {p : Option Addr} {n c : Nat} {bs : List UInt8}, OwnB w27 base p n c bs → OwnB w32 base p n c bs := fun o => OwnB.apart (OwnB.apart o u31 ra27 ty_ne.2.1) u32 rb31 ty_ne.2.1
  have rowk : ∀ {k : Nat} {e : TypeId} {cs : Array Value}, k ≠ ka → k ≠ kb → RowK w16 k e cs → RowK w32 k e cs := fun n1 n2 hr => u32.keep (u31.keep (hx.keep (hd.ext.keep hr)) n1) n2
  have hxx : Ext w16 w27 := hd.ext.trans hx
  have x32 : Ext w0 w32 := OwnB.new_ext (OwnB.new_ext (x16.trans hxx) u31 fun x hx => by rw [show x = ka from hx]; exact h.na) u32 fun x hx => by rw [show x = kb from hx]; exact h.nb
  obtain ⟨hI', hl'⟩ := hI.step h0 nq nr e1 hrl' nb' (by rw [eb', ez, act_co])
  have up : Upd (fun x => x = kl ∨ x = kh ∨ x = kb ∨ x = ka) w w32 := by
    refine Upd.trans hx9.upd (Upd.trans (u15.mono fun x _ hx => .inl hx) (Upd.trans (u16.mono fun x _ hx => .inr (.inl hx)) (Upd.trans hxx.upd (Upd.trans (u31.mono fun x _ hx => .inr (.inr (.inr hx))) (u32.mono fun x _ hx => .inr (.inr (.inl hx))) fun _ _ h => h) fun _ _ h => h) fun _ _ h => h) fun _ _ h => h) fun _ _ h => h
  refine ⟨rfl, up, r, b', ⟨x32, h.n4, h.nl, h.nh, h.nb, h.na, h.lh, h.lb, h.la, h.hb, h.ha, h.ba, rowk (RowK.ne rf17 ra ty_ne.1) (RowK.ne rf17 rb ty_ne.1) rf16,
    ⟨_, _, _, rowk h.la h.lb rl16, two' (OwnB.ext oh16 hxx)⟩, ⟨_, _, _, rowk h.ha h.hb rh16, two' (OwnB.base_le (OwnB.ext or16 hxx) h.ext.size)⟩,
    ⟨_, _, _, rb32, two' (OwnB.base_le ob' (x17.trans hx22).size)⟩, ⟨_, _, _, ra32, two' (OwnB.ext ob hx)⟩⟩, hI', hl'⟩
end Go.Proofs.Ytpmkjpgoekjcfaa
