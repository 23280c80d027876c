/- The field of 256 numbers. -/
import Derived.KernelRfl
namespace Go.Gf

/-- the powers of 2, twice over, a byte each -/
def gE : Nat := 0x8e47add86c361b83cfe9fa7db0582c160b8bcbebfbf3f7f5f47a3d90482412098a45ac562b9bc3eff9f279b259a251a653a7dde070381c0e078dc86432198241ae57a5dc6e3795c46231964babdbe3fff1f67bb3d7e5fc7e3f91c663bfd1e673b7d5e472399249aa55a452299a4da8542a158442219e4fa9da6db85c2e1785cc663397c5ec763b93c7edf87c3e1f81ce67bdd068341a0d884422118643afd9e271b65ba3dfe1fe7fb1d66bbbd3e7fdf0783c1e0f89ca65bc5e2f99c261be5fa1de6fb9d269ba5da05028140a058c46239fc1ee77b5d46a35944a259c4e279dc06030180c06038fc9ea75b45a2d984c261387cde8743a1d80402010080402018e47add86c361b83cfe9fa7db0582c160b8bcbebfbf3f7f5f47a3d90482412098a45ac562b9bc3eff9f279b259a251a653a7dde070381c0e078dc86432198241ae57a5dc6e3795c46231964babdbe3fff1f67bb3d7e5fc7e3f91c663bfd1e673b7d5e472399249aa55a452299a4da8542a158442219e4fa9da6db85c2e1785cc663397c5ec763b93c7edf87c3e1f81ce67bdd068341a0d884422118643afd9e271b65ba3dfe1fe7fb1d66bbbd3e7fdf0783c1e0f89ca65bc5e2f99c261be5fa1de6fb9d269ba5da05028140a058c46239fc1ee77b5d46a35944a259c4e279dc06030180c06038fc9ea75b45a2d984c261387cde8743a1d8040201008040201
/-- which power each number is -/
def gL : Nat := 0xaf5850a8eaf4d674e8ade7e6e9d5ae4fd72c757aeb16f50b51a0a99cb05f59cb5a3eccbbb18660fbaa559d29523ba16cf66f0c7fec4917c476a47bb7d8432d1fa2416d4753393c849e5d2a14abd356f261befcdcb2978790cdcfbc955bd13f372e892023d99244117cb4b8267799a5e318fec531edde4a670d63808cf7c0700757a7f373ace5d44e2b79150a9f9b5eca3dba85fa54283a6b6e7e48c3a3b6421e404638835c13d2f1bddb968fce94d03688229110b32598e2fd30dd66628bbf06a672e44d78099ac9b9f9276a7dc2b51d458212f0da8e9335210f24e12f658a05714c08c8f869c11c81ef8d340ee064044bc7681bee33df03c61a320219010000
def ge (i : Nat) : Nat := Nat.mod (Nat.shiftRight gE (8 * i)) 256
def gl (a : Nat) : Nat := Nat.mod (Nat.shiftRight gL (8 * a)) 256
def gmN (a b : Nat) : Nat := cond (Nat.beq a 0 || Nat.beq b 0) 0 (ge (gl a + gl b))
def giN (a : Nat) : Nat := cond (Nat.beq a 0) 0 (ge (gl a * 254 % 255))
def gm (a b : UInt8) : UInt8 := UInt8.ofNat (gmN a.toNat b.toNat)
def gi (a : UInt8) : UInt8 := UInt8.ofNat (giN a.toNat)

def xt (x : Nat) : Nat := cond (Nat.ble 256 (x * 2)) (Nat.xor (x * 2) 285) (x * 2)
/-- a product by its definition -/
def go : Nat → Nat → Nat → Nat → Nat
  | 0, _, _, o => o
  | n + 1, x, b, o => go n (xt x) (b / 2) (cond (Nat.beq (b % 2) 1) (Nat.xor o x) o)

def alln : Nat → (Nat → Bool) → Bool
  | 0, _ => true
  | n + 1, p => p n && alln n p
theorem alln_of {p : Nat → Bool} : ∀ {n : Nat}, alln n p = true → ∀ i, i < n → p i = true
  | 0, _, i, hi => by omega
  | n + 1, h, i, hi => by
    simp only [alln, Bool.and_eq_true] at h
    by_cases e : i = n
    · rw [e]; exact h.1
    · exact alln_of h.2 i (by omega)

theorem beq_t {a b : Nat} : Nat.beq a b = true ↔ a = b := ⟨Nat.eq_of_beq_eq_true, fun h => by subst h; exact Nat.beq_refl a⟩
theorem beq_f {a b : Nat} : Nat.beq a b = false ↔ a ≠ b := by
  rw [← Bool.not_eq_true, beq_t]

theorem c1 : (alln 255 fun s => Nat.beq (gl (ge s)) s && (!Nat.beq (ge s) 0) && Nat.beq (ge (s + 255)) (ge s)) = true := by kernel_rfl
theorem c2 : (alln 256 fun a => Nat.beq a 0 || (Nat.beq (ge (gl a)) a && Nat.blt (gl a) 255)) = true := by kernel_rfl
theorem c3 : (alln 256 fun a => alln 256 fun b => Nat.beq (gmN a b) (go 8 a b 0)) = true := by kernel_rfl

theorem ge_lt (i : Nat) : ge i < 256 := Nat.mod_lt _ (by decide)
theorem gmN_lt (a b : Nat) : gmN a b < 256 := by unfold gmN; cases (Nat.beq a 0 || Nat.beq b 0) <;> simp [ge_lt]
theorem giN_lt (a : Nat) : giN a < 256 := by unfold giN; cases Nat.beq a 0 <;> simp [ge_lt]
theorem ge_facts {s : Nat} (h : s < 255) : gl (ge s) = s ∧ ge s ≠ 0 ∧ ge (s + 255) = ge s := by
  have := alln_of c1 s h
  simp only [Bool.and_eq_true, Bool.not_eq_true', beq_t, beq_f] at this
  exact ⟨this.1.1, this.1.2, this.2⟩
theorem gl_facts {a : Nat} (h : a < 256) (h0 : a ≠ 0) : ge (gl a) = a ∧ gl a < 255 := by
  have := alln_of c2 a h
  simp only [Bool.and_eq_true, Bool.or_eq_true, beq_t, Nat.blt_eq] at this
  exact this.resolve_left h0
theorem gmN_go {a b : Nat} (ha : a < 256) (hb : b < 256) : gmN a b = go 8 a b 0 := by
  exact beq_t.1 (alln_of (alln_of c3 a ha) b hb)
/-- the powers come again -/
theorem ge_mod {s : Nat} (h : s < 510) : ge s = ge (s % 255) := by
  by_cases h1 : s < 255
  · rw [Nat.mod_eq_of_lt h1]
  · have e : s = (s - 255) + 255 := by omega
    rw [show s % 255 = s - 255 by omega]
    have := (ge_facts (s := s - 255) (by omega)).2.2
    rw [← e] at this; exact this
theorem ge_fact2 {s : Nat} (h : s < 510) : gl (ge s) = s % 255 ∧ ge s ≠ 0 := by
  rw [ge_mod h]
  have := ge_facts (s := s % 255) (by omega)
  exact ⟨this.1, this.2.1⟩
theorem gmN_pos {a b : Nat} (ha : a ≠ 0) (hb : b ≠ 0) : gmN a b = ge (gl a + gl b) := by
  have h1 : Nat.beq a 0 = false := beq_f.2 ha
  have h2 : Nat.beq b 0 = false := beq_f.2 hb
  unfold gmN
  rw [h1, h2]; rfl
theorem gmN_zero (a : Nat) : gmN a 0 = 0 := by unfold gmN; rw [show Nat.beq 0 0 = true from rfl, Bool.or_true]; rfl
theorem zero_gmN (a : Nat) : gmN 0 a = 0 := by unfold gmN; rw [show Nat.beq 0 0 = true from rfl, Bool.true_or]; rfl
theorem gmN_comm (a b : Nat) : gmN a b = gmN b a := by unfold gmN; rw [Bool.or_comm, Nat.add_comm]
theorem gmN_assoc {a b c : Nat} (ha : a < 256) (hb : b < 256) (hc : c < 256) : gmN (gmN a b) c = gmN a (gmN b c) := by
  by_cases a0 : a = 0
  · subst a0; rw [zero_gmN, zero_gmN, zero_gmN]
  by_cases b0 : b = 0
  · subst b0; rw [zero_gmN, gmN_zero, zero_gmN]
  by_cases c0 : c = 0
  · subst c0; rw [gmN_zero, gmN_zero, gmN_zero]
  have fa := gl_facts ha a0
  have fb := gl_facts hb b0
  have fc := gl_facts hc c0
  have h1 := ge_fact2 (s := gl a + gl b) (by omega)
  have h2 := ge_fact2 (s := gl b + gl c) (by omega)
  rw [gmN_pos a0 b0, gmN_pos b0 c0, gmN_pos h1.2 c0, gmN_pos a0 h2.2, h1.1, h2.1, ge_mod (by omega), ge_mod (s := gl a + _) (by omega)]
  congr 1
  omega

theorem go_xor (n x : Nat) : ∀ b c o p : Nat, go n x (b ^^^ c) (o ^^^ p) = go n x b o ^^^ go n x c p := by
  induction n generalizing x with
  | zero => intro b c o p; rfl
  | succ n ih =>
    intro b c o p
    have e1 : (b ^^^ c) / 2 = b / 2 ^^^ c / 2 := Nat.xor_div_two
    have e2 : cond (Nat.beq ((b ^^^ c) % 2) 1) (Nat.xor (o ^^^ p) x) (o ^^^ p) = cond (Nat.beq (b % 2) 1) (Nat.xor o x) o ^^^ cond (Nat.beq (c % 2) 1) (Nat.xor p x) p := by
      have hb : b % 2 = 0 ∨ b % 2 = 1 := by omega
      have hc : c % 2 = 0 ∨ c % 2 = 1 := by omega
      have hx : (b ^^^ c) % 2 = (b % 2) ^^^ (c % 2) := by
        have := Nat.xor_mod_two_pow (a := b) (b := c) (n := 1)
        simpa using this
      rw [hx]
      rcases hb with hb | hb <;> rcases hc with hc | hc <;> rw [hb, hc]
      · rfl
      · show (o ^^^ p) ^^^ x = o ^^^ (p ^^^ x)
        rw [Nat.xor_assoc]
      · show (o ^^^ p) ^^^ x = (o ^^^ x) ^^^ p
        rw [Nat.xor_assoc, Nat.xor_assoc, Nat.xor_comm p x]
      · show (o ^^^ p) = (o ^^^ x) ^^^ (p ^^^ x)
        rw [Nat.xor_assoc o x, ← Nat.xor_assoc x p, Nat.xor_comm x p, Nat.xor_assoc p x, Nat.xor_self, Nat.xor_zero]
    show go n (xt x) ((b ^^^ c) / 2) (cond (Nat.beq ((b ^^^ c) % 2) 1) (Nat.xor (o ^^^ p) x) (o ^^^ p)) = go n (xt x) (b / 2) _ ^^^ go n (xt x) (c / 2) _
    rw [e1, e2, ih]

theorem u8lt (a : UInt8) : a.toNat < 256 := UInt8.toNat_lt a
theorem toNat_gm (a b : UInt8) : (gm a b).toNat = gmN a.toNat b.toNat := by
  unfold gm; rw [UInt8.toNat_ofNat', Nat.mod_eq_of_lt (gmN_lt _ _)]
theorem toNat_gi (a : UInt8) : (gi a).toNat = giN a.toNat := by
  unfold gi; rw [UInt8.toNat_ofNat', Nat.mod_eq_of_lt (giN_lt _)]
theorem u8_zero_iff {a : UInt8} : a = 0 ↔ a.toNat = 0 := by rw [← UInt8.toNat_inj]; rfl

theorem gm_comm (a b : UInt8) : gm a b = gm b a := by unfold gm; rw [gmN_comm]
theorem gm_assoc (a b c : UInt8) : gm (gm a b) c = gm a (gm b c) := by
  rw [← UInt8.toNat_inj, toNat_gm, toNat_gm, toNat_gm, toNat_gm, gmN_assoc (u8lt a) (u8lt b) (u8lt c)]
theorem gm_zero (a : UInt8) : gm a 0 = 0 := by
  rw [← UInt8.toNat_inj, toNat_gm]; exact gmN_zero _
theorem zero_gm (a : UInt8) : gm 0 a = 0 := by rw [gm_comm, gm_zero]
theorem gm_xor (a b c : UInt8) : gm a (b ^^^ c) = gm a b ^^^ gm a c := by
  rw [← UInt8.toNat_inj, UInt8.toNat_xor, toNat_gm, toNat_gm, toNat_gm, UInt8.toNat_xor, gmN_go (u8lt a) (u8lt b), gmN_go (u8lt a) (u8lt c),
    gmN_go (u8lt a) (by rw [← UInt8.toNat_xor]; exact u8lt _), ← go_xor]
  rfl
theorem xor_gm (a b c : UInt8) : gm (a ^^^ b) c = gm a c ^^^ gm b c := by rw [gm_comm, gm_xor, gm_comm c a, gm_comm c b]
theorem gm_ne {a b : UInt8} (ha : a ≠ 0) (hb : b ≠ 0) : gm a b ≠ 0 := by
  rw [Ne, u8_zero_iff] at ha hb ⊢
  rw [toNat_gm, gmN_pos ha hb]
  have fa := gl_facts (u8lt a) ha
  have fb := gl_facts (u8lt b) hb
  exact (ge_fact2 (by omega)).2
theorem gm_eq_zero {a b : UInt8} : gm a b = 0 ↔ a = 0 ∨ b = 0 := by
  constructor
  · intro h
    by_cases ha : a = 0
    · exact .inl ha
    · by_cases hb : b = 0
      · exact .inr hb
      · exact (gm_ne ha hb h).elim
  · rintro (rfl | rfl)
    · exact zero_gm _
    · exact gm_zero _
theorem c4 : (alln 256 fun a => Nat.beq (gmN a 1) a && (Nat.beq a 0 || Nat.beq (gmN a (giN a)) 1)) = true := by kernel_rfl
theorem gm_one (a : UInt8) : gm a 1 = a := by
  have := alln_of c4 a.toNat (u8lt a)
  simp only [Bool.and_eq_true, beq_t] at this
  rw [← UInt8.toNat_inj, toNat_gm]
  exact this.1
theorem one_gm (a : UInt8) : gm 1 a = a := by rw [gm_comm, gm_one]
theorem gm_gi {a : UInt8} (h : a ≠ 0) : gm a (gi a) = 1 := by
  have := alln_of c4 a.toNat (u8lt a)
  rw [Ne, u8_zero_iff] at h
  simp only [Bool.and_eq_true, beq_t, Bool.or_eq_true] at this
  rw [← UInt8.toNat_inj, toNat_gm, toNat_gi]
  exact this.2.resolve_left h
theorem gi_gm {a : UInt8} (h : a ≠ 0) : gm (gi a) a = 1 := by rw [gm_comm, gm_gi h]
theorem gi_zero : gi 0 = 0 := rfl
theorem gi_ne {a : UInt8} (h : a ≠ 0) : gi a ≠ 0 := by
  intro e
  have := gm_gi h
  rw [e, gm_zero] at this
  cases this
theorem gm_cancel {a b c : UInt8} (h : a ≠ 0) (e : gm a b = gm a c) : b = c := by
  have : gm (gi a) (gm a b) = gm (gi a) (gm a c) := by rw [e]
  rwa [← gm_assoc, ← gm_assoc, gi_gm h, one_gm, one_gm] at this
theorem gm_left_comm (a b c : UInt8) : gm a (gm b c) = gm b (gm a c) := by rw [← gm_assoc, gm_comm a b, gm_assoc]
theorem gi_unique {a b : UInt8} (h : gm a b = 1) : b = gi a := by
  have ha : a ≠ 0 := by rintro rfl; rw [zero_gm] at h; cases h
  exact gm_cancel ha (h.trans (gm_gi ha).symm)
theorem gi_mul (a b : UInt8) : gi (gm a b) = gm (gi a) (gi b) := by
  by_cases ha : a = 0
  · subst ha; rw [zero_gm, gi_zero, zero_gm]
  by_cases hb : b = 0
  · subst hb; rw [gm_zero, gi_zero, gm_zero]
  refine (gi_unique ?_).symm
  rw [gm_assoc, gm_left_comm b, ← gm_assoc, gm_gi ha, one_gm, gm_gi hb]

/-! ## sums -/
theorem xx (a : UInt8) : a ^^^ a = 0 := UInt8.xor_self
theorem x0 (a : UInt8) : a ^^^ 0 = a := UInt8.xor_zero
theorem zx (a : UInt8) : 0 ^^^ a = a := UInt8.zero_xor
theorem x_left (a b c : UInt8) : a ^^^ (b ^^^ c) = b ^^^ (a ^^^ c) := by rw [← UInt8.xor_assoc, UInt8.xor_comm a b, UInt8.xor_assoc]
theorem xx_left (a b : UInt8) : a ^^^ (a ^^^ b) = b := by rw [← UInt8.xor_assoc, xx, zx]
theorem x_eq_zero {a b : UInt8} : a ^^^ b = 0 ↔ a = b := by
  constructor
  · intro h
    have : a ^^^ (a ^^^ b) = a := by rw [h, x0]
    rw [xx_left] at this; exact this.symm
  · rintro rfl; exact xx _
end Go.Gf
