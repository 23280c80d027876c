/- The key equation is solved: in whatever order its parts are made. -/
import Derived.Test.YtpmkjpgoekjcfaaH9
namespace Go.Proofs.Ytpmkjpgoekjcfaa
open Go Go.Vc Go.Gf

section
variable {w0 W : World} {kl kr m kh k4 lg e : Nat} {f ph p : Option Addr} {nh ch l c : Nat} {P P' hi : List UInt8}
variable (hf : FieldAt w0 f) (hP : co P' = co P) (hm : m ≤ 256) (hl : l ≤ 1024) (hlg : lg = e + 1) (he : e ≤ m)
include hf hP hm hl hlg he

theorem sA9 (hpre : SolPre w0 W k4 f p l c P') (hcl : HasCell w0 W kl) (hr : HasRow w0 W m p kr) (hh : HasHigh w0 W m P' ph nh ch hi) (hah : Away ph kr) :
    F31_A9 W kl kr m ph nh ch k4 lg p l c (solR w0 m e P) (solI w0 f m e P) solM :=
  cell_step hpre.ext fun k w' hx hk hc => solve_main hf (hpre.mono hx) hP hm hl hlg he (hcl.mono hx) hc (by have := hcl.lt; omega) (hr.mono hx) (hh.mono hx) hah
theorem sA8 (hpre : SolPre w0 W k4 f p l c P') (hr : HasRow w0 W m p kr) (hch : HasCell w0 W kh) (hh : HasHigh w0 W m P' ph nh ch hi) (hah : Away ph kr) :
    F31_A8 W kr m kh ph nh ch k4 lg p l c (solR w0 m e P) (solI w0 f m e P) solM :=
  cell_step hpre.ext fun k w' hx hk hc => solve_main hf (hpre.mono hx) hP hm hl hlg he hc (hch.mono hx) (by have := hch.lt; omega) (hr.mono hx) (hh.mono hx) hah
theorem sA7 (hpre : SolPre w0 W k4 f p l c P') (hcl : HasCell w0 W kl) (hch : HasCell w0 W kh) (hne : kl ≠ kh) (hr : HasRow w0 W m p kr) :
    F31_A7 p c m l W kl kr kh k4 lg (solR w0 m e P) (solI w0 f m e P) solM :=
  high_step hpre.ext hpre.own hl hm fun _ _ _ _ _ hx ho hh => solve_main hf (hpre.mono hx) hP hm hl hlg he (hcl.mono hx) (hch.mono hx) hne (hr.mono hx) hh (OwnB.away ho hr.lt)
theorem sA6 (hpre : SolPre w0 W k4 f p l c P') (hcl : HasCell w0 W kl) (hch : HasCell w0 W kh) (hne : kl ≠ kh) (hh : HasHigh w0 W m P' ph nh ch hi) :
    F31_A6 m W kl kh ph nh ch k4 lg p l c (solR w0 m e P) (solI w0 f m e P) solM :=
  row_step hpre.ext hpre.own hm fun _ _ hx hk hr => solve_main hf (hpre.mono hx) hP hm hl hlg he (hcl.mono hx) (hch.mono hx) hne hr (hh.mono hx) (OwnB.away2 hh.1 hk)
theorem sA5 (hpre : SolPre w0 W k4 f p l c P') (hr : HasRow w0 W m p kr) (hh : HasHigh w0 W m P' ph nh ch hi) (hah : Away ph kr) :
    F31_A5 W kr m ph nh ch k4 lg p l c (solR w0 m e P) (solI w0 f m e P) solM :=
  ⟨cell_step hpre.ext fun _ _ hx _ hc => sA9 hf hP hm hl hlg he (hpre.mono hx) hc (hr.mono hx) (hh.mono hx) hah,
   cell_step hpre.ext fun _ _ hx _ hc => sA8 hf hP hm hl hlg he (hpre.mono hx) (hr.mono hx) hc (hh.mono hx) hah⟩
theorem sA4 (hpre : SolPre w0 W k4 f p l c P') (hcl : HasCell w0 W kl) (hr : HasRow w0 W m p kr) :
    F31_A4 p c m l W kl kr k4 lg (solR w0 m e P) (solI w0 f m e P) solM :=
  ⟨high_step hpre.ext hpre.own hl hm fun _ _ _ _ _ hx ho hh => sA9 hf hP hm hl hlg he (hpre.mono hx) (hcl.mono hx) (hr.mono hx) hh (OwnB.away ho hr.lt),
   cell_step hpre.ext fun _ _ hx hk hc => sA7 hf hP hm hl hlg he (hpre.mono hx) (hcl.mono hx) hc (by have := hcl.lt; omega) (hr.mono hx)⟩
theorem sA3 (hpre : SolPre w0 W k4 f p l c P') (hr : HasRow w0 W m p kr) (hch : HasCell w0 W kh) :
    F31_A3 p c m l W kr kh k4 lg (solR w0 m e P) (solI w0 f m e P) solM :=
  ⟨high_step hpre.ext hpre.own hl hm fun _ _ _ _ _ hx ho hh => sA8 hf hP hm hl hlg he (hpre.mono hx) (hr.mono hx) (hch.mono hx) hh (OwnB.away ho hr.lt),
   cell_step hpre.ext fun _ _ hx hk hc => sA7 hf hP hm hl hlg he (hpre.mono hx) hc (hch.mono hx) (by have := hch.lt; omega) (hr.mono hx)⟩
theorem sA2 (hpre : SolPre w0 W k4 f p l c P') (hch : HasCell w0 W kh) (hh : HasHigh w0 W m P' ph nh ch hi) :
    F31_A2 m W kh ph nh ch k4 lg p l c (solR w0 m e P) (solI w0 f m e P) solM :=
  ⟨row_step hpre.ext hpre.own hm fun _ _ hx hk hr => sA8 hf hP hm hl hlg he (hpre.mono hx) hr (hch.mono hx) (hh.mono hx) (OwnB.away2 hh.1 hk),
   cell_step hpre.ext fun _ _ hx hk hc => sA6 hf hP hm hl hlg he (hpre.mono hx) hc (hch.mono hx) (by have := hch.lt; omega) (hh.mono hx)⟩
theorem sA1 (hpre : SolPre w0 W k4 f p l c P') (hcl : HasCell w0 W kl) (hh : HasHigh w0 W m P' ph nh ch hi) :
    F31_A1 m W kl ph nh ch k4 lg p l c (solR w0 m e P) (solI w0 f m e P) solM :=
  ⟨row_step hpre.ext hpre.own hm fun _ _ hx hk hr => sA9 hf hP hm hl hlg he (hpre.mono hx) (hcl.mono hx) hr (hh.mono hx) (OwnB.away2 hh.1 hk),
   cell_step hpre.ext fun _ _ hx hk hc => sA6 hf hP hm hl hlg he (hpre.mono hx) (hcl.mono hx) hc (by have := hcl.lt; omega) (hh.mono hx)⟩
theorem sA0 (hpre : SolPre w0 W k4 f p l c P') (hcl : HasCell w0 W kl) (hch : HasCell w0 W kh) (hne : kl ≠ kh) :
    F31_A0 m W p c l kl kh k4 lg (solR w0 m e P) (solI w0 f m e P) solM :=
  ⟨row_step hpre.ext hpre.own hm fun _ _ hx _ hr => sA7 hf hP hm hl hlg he (hpre.mono hx) (hcl.mono hx) (hch.mono hx) hne hr,
   high_step hpre.ext hpre.own hl hm fun _ _ _ _ _ hx _ hh => sA6 hf hP hm hl hlg he (hpre.mono hx) (hcl.mono hx) (hch.mono hx) hne hh⟩
end

/-- what a solution is told as -/
def SolveOut (w : World) (m e : Nat) (P : List UInt8) (v : Value) (w' : World) : Prop := solR w m e P v w'

set_option maxHeartbeats 2000000 in
theorem solve_spec {f p q : Option Addr} {m cm n cn : Nat} {w : World} {S g : List UInt8} (hf : FieldAt w f) (hS : BytesAt w p m S) (hg : BytesAt w q n g) (hgc : n ≤ cn) (hgn : Normal g) (g0 : g ≠ []) (he : g.length ≤ m + 1) (hm : m ≤ 256) :
    Calls Try.prog 31 #[.pointer f, .slice p m cm, .slice q n cn] w fun e w' => ∃ v, e = .returned v ∧ solR w m (g.length - 1) (mulL g S.reverse) v w' := by
  have gpos : 0 < g.length := List.length_pos_iff.2 g0
  refine F31_calls f p m cm q n cn w (solR w m (g.length - 1) (mulL g S.reverse)) (solI w f m (g.length - 1) (mulL g S.reverse)) solM ?_
  intro k4 w5 hk
  have ln := hg.1
  have lS := hS.1
  refine (pnorm_spec (hg.ext hk.ext) hgc (by omega)).mono ?_
  rintro e6 w6 ⟨p8, l8, c8, g', rfl, hx6, og, ng, eg⟩
  obtain rfl : g' = g := ng.eq hgn eg
  have lg := OwnB.len og
  have rf6 : RowK w6 k4 25 #[.pointer f] := hx6.keep hk.at
  have x6 : Ext w w6 := hk.ext.trans hx6
  have e1 : IntKind.i64.wrap (((l8 : Nat) : Int) - (1 : Int)) = (l8 : Int) - 1 := w64 (by omega)
  refine ⟨_, _, _, rfl, _, rf6.cell, ?_⟩
  rw [hf.there, e1]
  refine condB_of (fun h => by cases h) fun _ => condB_of (fun h => by simp only [decide_eq_true_eq] at h; omega) fun _ => condB_of (fun h => by simp only [decide_eq_true_eq] at h; omega) fun _ => ?_
  refine (bclone_own (hS.ext x6) (by omega)).mono ?_
  rintro e7 w10 ⟨p12, c12, rfl, hx10, oS⟩
  refine ⟨_, _, _, rfl, ?_⟩
  refine (brev_spec oS (by omega)).mono ?_
  rintro e8 w13 ⟨rfl, hu13, oT⟩
  have x10 : Ext w w10 := x6.trans hx10
  have x13 : Ext w6 w13 := OwnB.new_ext hx10 hu13 fun x hx => OwnB.blk oS hx
  have rf13 : RowK w13 k4 25 #[.pointer f] := x13.keep rf6
  have xw13 := x6.trans x13
  refine ⟨rfl, _, rf13.cell, ?_⟩
  refine (pmul_spec (hf.ext xw13) (OwnB.bytes (OwnB.ext og x13)) (by omega) (OwnB.bytes oT) (by omega)).mono ?_
  rintro e9 w16 ⟨p18, l18, c18, P', rfl, hx16, oP, nP, eP⟩
  refine ⟨_, _, _, rfl, fun w19 hd => ?_⟩
  have lP := OwnB.len oP
  have hPl : P'.length ≤ 600 := nP.le (by rw [eP]; exact act_deg (deg_co g') (by rw [List.length_reverse]; omega))
  have x19 : Ext w w19 := (xw13.trans hx16).trans hd.ext
  have hpre : SolPre w w19 k4 f p18 l18 c18 P' := ⟨x19, by rw [hk.size.1]; exact Nat.le_refl _, hd.ext.keep (hx16.keep rf13), OwnB.base_le (OwnB.ext oP hd.ext) xw13.size⟩
  have hP : co P' = co (mulL g' S.reverse) := by rw [eP, co_mulL, act_co]
  have hl : l18 ≤ 1024 := by omega
  have hlg : l8 = g'.length - 1 + 1 := by omega
  have hem : g'.length - 1 ≤ m := by omega
  have hle := OwnB.le oP
  refine ⟨by split <;> omega, ?_⟩
  refine ⟨row_step hpre.ext hpre.own hm fun k w' hx hk hr => ⟨?_, cell_step (hpre.mono hx).ext fun k2 w2 hx2 hk2 hc => ?_, cell_step (hpre.mono hx).ext fun k2 w2 hx2 hk2 hc => ?_⟩, ?_, ?_, ?_⟩
  · exact high_step (hpre.mono hx).ext (hpre.mono hx).own hl hm fun _ _ _ _ _ hx2 ho hh => sA5 hf hP hm hl hlg hem ((hpre.mono hx).mono hx2) (hr.mono hx2) hh (OwnB.away ho hr.lt)
  · exact sA4 hf hP hm hl hlg hem ((hpre.mono hx).mono hx2) hc (hr.mono hx2)
  · exact sA3 hf hP hm hl hlg hem ((hpre.mono hx).mono hx2) (hr.mono hx2) hc
  · refine high_step hpre.ext hpre.own hl hm fun _ _ _ _ _ hx ho hh => ⟨row_step (hpre.mono hx).ext (hpre.mono hx).own hm fun _ _ hx2 hk hr => ?_, cell_step (hpre.mono hx).ext fun _ _ hx2 _ hc => ?_, cell_step (hpre.mono hx).ext fun _ _ hx2 _ hc => ?_⟩
    · exact sA5 hf hP hm hl hlg hem ((hpre.mono hx).mono hx2) hr (hh.mono hx2) (OwnB.away2 hh.1 hk)
    · exact sA1 hf hP hm hl hlg hem ((hpre.mono hx).mono hx2) hc (hh.mono hx2)
    · exact sA2 hf hP hm hl hlg hem ((hpre.mono hx).mono hx2) hc (hh.mono hx2)
  · refine cell_step hpre.ext fun _ _ hx _ hc => ⟨row_step (hpre.mono hx).ext (hpre.mono hx).own hm fun _ _ hx2 _ hr => ?_, high_step (hpre.mono hx).ext (hpre.mono hx).own hl hm fun _ _ _ _ _ hx2 _ hh => ?_, cell_step (hpre.mono hx).ext fun _ _ hx2 hk2 hc2 => ?_⟩
    · exact sA4 hf hP hm hl hlg hem ((hpre.mono hx).mono hx2) (hc.mono hx2) hr
    · exact sA1 hf hP hm hl hlg hem ((hpre.mono hx).mono hx2) (hc.mono hx2) hh
    · exact sA0 hf hP hm hl hlg hem ((hpre.mono hx).mono hx2) (hc.mono hx2) hc2 (by have := hc.lt; omega)
  · refine cell_step hpre.ext fun _ _ hx _ hc => ⟨row_step (hpre.mono hx).ext (hpre.mono hx).own hm fun _ _ hx2 _ hr => ?_, high_step (hpre.mono hx).ext (hpre.mono hx).own hl hm fun _ _ _ _ _ hx2 _ hh => ?_, cell_step (hpre.mono hx).ext fun _ _ hx2 hk2 hc2 => ?_⟩
    · exact sA3 hf hP hm hl hlg hem ((hpre.mono hx).mono hx2) hr (hc.mono hx2)
    · exact sA2 hf hP hm hl hlg hem ((hpre.mono hx).mono hx2) (hc.mono hx2) hh
    · exact sA0 hf hP hm hl hlg hem ((hpre.mono hx).mono hx2) hc2 (hc.mono hx2) (by have := hc.lt; omega)
end Go.Proofs.Ytpmkjpgoekjcfaa
