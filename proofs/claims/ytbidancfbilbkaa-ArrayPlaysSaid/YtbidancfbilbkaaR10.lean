/- Both arrays: Shows. -/
import Derived.Test.YtbidancfbilbkaaR9
namespace Go.Proofs.Ytbidancfbilbkaa
open Go Go.Vc

theorem drew_same {w w' : World} (h : Drew w w') {a : Addr} {v : Value} (hc : w.cell? a = some v) : w'.cell? a = some v := cellx hc h.ext

set_option maxHeartbeats 2000000 in
theorem shows_spec {w : World} {a r : Nat} {s : StA} {F G : Nat → Prop} (h : Pair w a r s F G) (ho : OkA s) (h1 : 1 ≤ s.M.length) :
    Calls Try.prog 22 #[.pointer (some (at0 a)), .pointer (some (at0 r))] w fun e w' => e = .returned (.bool true) ∧ Ext w w' := by
  refine (F22_calls (some (at0 a)) (some (at0 r)) w (fun v w' => v = .bool true ∧ Ext w w') (fun w n3 w4 => ∃ i : Nat, n3 = i ∧ i ≤ s.M.length ∧ Ext w w4) (fun _ n3 _ => 100 - n3.toNat) ?_).mono (by rintro e w' ⟨v, rfl, rfl, h⟩; exact ⟨rfl, h⟩)
  have hM : s.M.length ≤ 32 := ho.1
  refine ⟨⟨0, rfl, Nat.zero_le _, Upd.refl _ _⟩, ?_⟩
  rintro n3 w4 ⟨i, rfl, hi, x4⟩
  intros
  have h4 := h.ext x4
  obtain ⟨pD, cD, pB, cB, hr4⟩ := IsRA.row h4.ref
  rw [dsOf_len] at hr4
  refine ⟨_, _, _, hr4.row.cell rfl, condB_of (fun hlt => ?_) (fun hge => ?_)⟩
  · simp only [decide_eq_true_eq] at hlt
    intro w53 hd53
    obtain ⟨m, hm⟩ : ∃ m, s.M[i]? = some m := ⟨s.M[i]'(by omega), List.getElem?_eq_getElem _⟩
    have h53 := h4.ext hd53.ext
    obtain ⟨ap, cD', b, Fi, e0, e1, hd, _, _⟩ := IsRA.at h53.ref (dsOf_at hm)
    rw [dsOf_len] at e0
    obtain ⟨pL, lL, cL, pW, lW, cW, G', hrow, hL, hW⟩ := hd.row
    have hlen := ref_len hd.ok hd.asc.1 hd.asc.2
    refine ⟨_, _, _, e0, ⟨by omega, hlt⟩, some (at0 b), by rw [Int.toNat_natCast]; exact e1, _, _, _, hrow.row.cell rfl, ?_⟩
    refine (alasts_spec h53.arr hm).mono ?_
    rintro e w60 ⟨p62, l62, c62, rfl, x60, hs60⟩
    have r60 : RowW w60 b _ := x60.rowW hrow id
    refine ⟨_, _, _, rfl, ⟨_, _, _, cellx e0 x60, rfl⟩, ⟨_, by rw [Int.toNat_natCast]; exact cellx e1 x60, rfl⟩, ⟨_, _, _, r60.row.cell rfl, rfl⟩, ?_⟩
    refine (rsame_spec (hs60.read hlen.1) ((hL.ext x60).read hlen.1)).mono ?_
    rintro e w66 ⟨rfl, x66⟩
    refine ⟨_, rfl, fun w69 hd69 => ?_⟩
    have xx := (x60.trans x66).trans hd69.ext
    have h69 := h53.ext xx
    have r69 : RowW w69 b _ := xx.rowW hrow id
    refine ⟨_, _, _, cellx e0 xx, ⟨by omega, hlt⟩, some (at0 b), by rw [Int.toNat_natCast]; exact cellx e1 xx, _, _, _, r69.row.cell rfl, ?_⟩
    refine (awaits_spec h69.arr hm).mono ?_
    rintro e w76 ⟨p78, l78, c78, rfl, x76, hs76⟩
    have r76 : RowW w76 b _ := x76.rowW r69 id
    refine ⟨_, _, _, rfl, ⟨_, _, _, cellx e0 (xx.trans x76), rfl⟩, ⟨_, by rw [Int.toNat_natCast]; exact cellx e1 (xx.trans x76), rfl⟩, ⟨_, _, _, r76.row.cell rfl, rfl⟩, ?_⟩
    refine (rsame_spec (hs76.read hlen.2) ((hW.ext (xx.trans x76)).read hlen.2)).mono ?_
    rintro e w82 ⟨rfl, x82⟩
    refine ⟨_, rfl, condB_of (fun h => by simp at h) fun _ => condB_of (fun h => by simp at h) fun _ => ?_⟩
    rw [w64 (by omega)]
    exact ⟨⟨i + 1, by omega, by omega, (((x4.trans hd53.ext).trans xx).trans x76).trans x82⟩, by show 100 - ((i : Int) + 1).toNat < 100 - (i : Int).toNat; omega⟩
  · refine (live_spec h4.arr (by omega)).mono ?_
    rintro e w85 ⟨pl, ll, cl, rfl, x85, rfl, hol⟩
    refine ⟨_, _, _, rfl, ?_⟩
    have h85 := h4.ext x85
    refine (ra_live h85.ref (by rw [dsOf_len]; omega)).mono ?_
    rintro e w88 ⟨pl2, ll2, cl2, rfl, x88, rfl, hol2⟩
    refine ⟨_, _, _, rfl, ?_⟩
    have hb1 : s.M.length = (s.M.map fun m => !m.d.dead).length ∧ CellsAt w88 pl ((s.M.map fun m => !m.d.dead).map Value.bool) := ⟨by simp, by
      have := hol.cells.ext x88
      simpa [List.map_map, Function.comp_def] using this⟩
    have hb2 : (dsOf s).length = (s.M.map fun m => !m.d.dead).length ∧ CellsAt w88 pl2 ((s.M.map fun m => !m.d.dead).map Value.bool) := ⟨by simp [dsOf], by
      have := hol2.cells
      simpa [dsOf, List.map_map, Function.comp_def] using this⟩
    refine (bools_spec hb1 hb2 (by omega)).mono ?_
    rintro e w91 ⟨rfl, x91⟩
    refine ⟨_, rfl, fun w94 hd94 => ?_⟩
    have h94 := ((h85.ext x88).ext x91).ext hd94.ext
    obtain ⟨pD9, cD9, pB9, cB9, hr9⟩ := IsRA.row h94.ref
    refine ⟨_, _, _, hr9.row.cell rfl, ?_⟩
    refine (births_spec h94.arr (by omega)).mono ?_
    rintro e w97 ⟨pb, lb, cb, rfl, x97, rfl, hob⟩
    have r97 : RowW w97 r _ := x97.rowW hr9 id
    refine ⟨_, _, _, rfl, ⟨_, _, _, r97.row.cell rfl, rfl⟩, ?_⟩
    have hbl : (bsOf s).length = s.M.length := by simp [bsOf]
    have hi1 : s.M.length = (bsOf s).length ∧ CellsAt w97 pb ((bsOf s).map (Value.int .i64)) := ⟨hbl.symm, by
      have := hob.cells
      simpa [bsOf, List.map_map, Function.comp_def] using this⟩
    have hi2 : (bsOf s).length = (bsOf s).length ∧ CellsAt w97 pB9 ((bsOf s).map (Value.int .i64)) := by
      refine ⟨rfl, ?_⟩
      obtain ⟨pD, cD, pB, cB, bs, Fs, g1, _, g3, _⟩ := h94.ref
      have he : RowW w94 r #[.slice pD9 (dsOf s).length cD9, .slice pB9 (bsOf s).length cB9, .int .i64 s.left, .bool s.down] := hr9
      have c1 : w94.cell? ((at0 r).add 1) = some (.slice pB9 (bsOf s).length cB9) := he.row.cell rfl
      have c2 : w94.cell? ((at0 r).add 1) = some (.slice pB (bsOf s).length cB) := g1.row.cell rfl
      rw [c1] at c2
      simp only [Option.some.injEq, Value.slice.injEq] at c2
      rw [c2.1]
      exact (g3.ext x97).cells
    refine (intsq_spec hi1 hi2 (by omega)).mono ?_
    rintro e w101 ⟨rfl, x101⟩
    refine ⟨_, rfl, fun w104 hd104 => condB_of (fun _ => ?_) fun h => by simp at h⟩
    refine condB_of (fun _ => ?_) fun h => by simp at h
    have h104 := ((h94.ext x97).ext x101).ext hd104.ext
    obtain ⟨pDx, cDx, pBx, cBx, hrx⟩ := IsRA.row h104.ref
    refine ⟨_, hrx.row.cell rfl, (adown_spec h104.arr).mono ?_⟩
    rintro e w107 ⟨rfl, rfl⟩
    refine ⟨_, rfl, ⟨_, hrx.row.cell rfl, rfl⟩, condB_of (fun _ => ?_) fun h => by simp at h⟩
    refine (alasts_out h104.arr (i := -1) (by omega)).mono ?_
    rintro e w111 ⟨rfl, rfl⟩
    refine ⟨_, _, _, rfl, condB_of (fun _ => ?_) fun h => by simp at h⟩
    refine ⟨_, _, _, hrx.row.cell rfl, (awaits_out h104.arr (i := (((dsOf s).length : Nat) : Int)) (by rw [dsOf_len]; omega)).mono ?_⟩
    rintro e w116 ⟨rfl, rfl⟩
    exact ⟨_, _, _, rfl, by simp, ((((((x4.trans x85).trans x88).trans x91).trans hd94.ext).trans x97).trans x101).trans hd104.ext⟩
end Go.Proofs.Ytbidancfbilbkaa
