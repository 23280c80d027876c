import Derived.KernelRfl
namespace Go.Gf
def gE : Nat := 0x8e47add86c361b83cfe9fa7db0582c160b8bcbebfbf3f7f5f47a3d90482412098a45ac562b9bc3eff9f279b259a251a653a7dde070381c0e078dc86432198241ae57a5dc6e3795c46231964babdbe3fff1f67bb3d7e5fc7e3f91c663bfd1e673b7d5e472399249aa55a452299a4da8542a158442219e4fa9da6db85c2e1785cc663397c5ec763b93c7edf87c3e1f81ce67bdd068341a0d884422118643afd9e271b65ba3dfe1fe7fb1d66bbbd3e7fdf0783c1e0f89ca65bc5e2f99c261be5fa1de6fb9d269ba5da05028140a058c46239fc1ee77b5d46a35944a259c4e279dc06030180c06038fc9ea75b45a2d984c261387cde8743a1d80402010080402018e47add86c361b83cfe9fa7db0582c160b8bcbebfbf3f7f5f47a3d90482412098a45ac562b9bc3eff9f279b259a251a653a7dde070381c0e078dc86432198241ae57a5dc6e3795c46231964babdbe3fff1f67bb3d7e5fc7e3f91c663bfd1e673b7d5e472399249aa55a452299a4da8542a158442219e4fa9da6db85c2e1785cc663397c5ec763b93c7edf87c3e1f81ce67bdd068341a0d884422118643afd9e271b65ba3dfe1fe7fb1d66bbbd3e7fdf0783c1e0f89ca65bc5e2f99c261be5fa1de6fb9d269ba5da05028140a058c46239fc1ee77b5d46a35944a259c4e279dc06030180c06038fc9ea75b45a2d984c261387cde8743a1d8040201008040201
def gL : Nat := 0xaf5850a8eaf4d674e8ade7e6e9d5ae4fd72c757aeb16f50b51a0a99cb05f59cb5a3eccbbb18660fbaa559d29523ba16cf66f0c7fec4917c476a47bb7d8432d1fa2416d4753393c849e5d2a14abd356f261befcdcb2978790cdcfbc955bd13f372e892023d99244117cb4b8267799a5e318fec531edde4a670d63808cf7c0700757a7f373ace5d44e2b79150a9f9b5eca3dba85fa54283a6b6e7e48c3a3b6421e404638835c13d2f1bddb968fce94d03688229110b32598e2fd30dd66628bbf06a672e44d78099ac9b9f9276a7dc2b51d458212f0da8e9335210f24e12f658a05714c08c8f869c11c81ef8d340ee064044bc7681bee33df03c61a320219010000
def ge (i : Nat) : Nat := Nat.mod (Nat.shiftRight gE (8 * i)) 256
def gl (a : Nat) : Nat := Nat.mod (Nat.shiftRight gL (8 * a)) 256
def gmN (a b : Nat) : Nat := cond (Nat.beq a 0 || Nat.beq b 0) 0 (ge (gl a + gl b))
def giN (a : Nat) : Nat := cond (Nat.beq a 0) 0 (ge (gl a * 254 % 255))
def gm (a b : UInt8) : UInt8 := UInt8.ofNat (gmN a.toNat b.toNat)
def gi (a : UInt8) : UInt8 := UInt8.ofNat (giN a.toNat)
def xt (x : Nat) : Nat := cond (Nat.ble 256 (x * 2)) (Nat.xor (x * 2) 285) (x * 2)
def go : Nat → Nat → Nat → Nat → Nat
 | 0, _, _, o => o
 | n + 1, x, b, o => go n (xt x) (b / 2) (cond (Nat.beq (b % 2) 1) (Nat.xor o x) o)
def alln : Nat → (Nat → Bool) → Bool
 | 0, _ => true
 | n + 1, p => p n && alln n p
theorem alln_of {p : Nat → Bool} : ∀ {n : Nat}, alln n p = true → ∀ i, i < n → p i = true
 | 0, _, i, hi => by omega
 | n + 1, h, i, hi => by
  simp only [alln, Bool.and_eq_true] at h
  by_cases e : i = n
  ·rw [e]; exact h.1
  ·exact alln_of h.2 i (by omega)
theorem beq_t {a b : Nat} : Nat.beq a b = true ↔ a = b := ⟨Nat.eq_of_beq_eq_true, fun h => by subst h; exact Nat.beq_refl a⟩
theorem beq_f {a b : Nat} : Nat.beq a b = false ↔ a ≠ b := by
 rw [← Bool.not_eq_true, beq_t]
theorem c1 : (alln 255 fun s => Nat.beq (gl (ge s)) s && (!Nat.beq (ge s) 0) && Nat.beq (ge (s + 255)) (ge s)) = true := by kernel_rfl
theorem c2 : (alln 256 fun a => Nat.beq a 0 || (Nat.beq (ge (gl a)) a && Nat.blt (gl a) 255)) = true := by kernel_rfl
theorem c3 : (alln 256 fun a => alln 256 fun b => Nat.beq (gmN a b) (go 8 a b 0)) = true := by kernel_rfl
theorem ge_lt (i : Nat) : ge i < 256 := Nat.mod_lt _ (by decide)
theorem gmN_lt (a b : Nat) : gmN a b < 256 := by unfold gmN; cases (Nat.beq a 0 || Nat.beq b 0) <;> simp [ge_lt]
theorem giN_lt (a : Nat) : giN a < 256 := by unfold giN; cases Nat.beq a 0 <;> simp [ge_lt]
theorem ge_facts {s : Nat} (h : s < 255) : gl (ge s) = s ∧ ge s ≠ 0 ∧ ge (s + 255) = ge s := by
 have := alln_of c1 s h
 simp only [Bool.and_eq_true, Bool.not_eq_true', beq_t, beq_f] at this
 exact ⟨this.1.1, this.1.2, this.2⟩
theorem gl_facts {a : Nat} (h : a < 256) (h0 : a ≠ 0) : ge (gl a) = a ∧ gl a < 255 := by
 have := alln_of c2 a h
 simp only [Bool.and_eq_true, Bool.or_eq_true, beq_t, Nat.blt_eq] at this
 exact this.resolve_left h0
theorem gmN_go {a b : Nat} (ha : a < 256) (hb : b < 256) : gmN a b = go 8 a b 0 := by
 exact beq_t.1 (alln_of (alln_of c3 a ha) b hb)
theorem ge_mod {s : Nat} (h : s < 510) : ge s = ge (s % 255) := by
 by_cases h1 : s < 255
 ·rw [Nat.mod_eq_of_lt h1]
 ·have e : s = (s - 255) + 255 := by omega
  rw [show s % 255 = s - 255 by omega]
  have := (ge_facts (s := s - 255) (by omega)).2.2
  rw [← e] at this; exact this
theorem ge_fact2 {s : Nat} (h : s < 510) : gl (ge s) = s % 255 ∧ ge s ≠ 0 := by
 rw [ge_mod h]
 have := ge_facts (s := s % 255) (by omega)
 exact ⟨this.1, this.2.1⟩
theorem gmN_pos {a b : Nat} (ha : a ≠ 0) (hb : b ≠ 0) : gmN a b = ge (gl a + gl b) := by
 have h1 : Nat.beq a 0 = false := beq_f.2 ha
 have h2 : Nat.beq b 0 = false := beq_f.2 hb
 unfold gmN
 rw [h1, h2]; rfl
theorem gmN_zero (a : Nat) : gmN a 0 = 0 := by unfold gmN; rw [show Nat.beq 0 0 = true from rfl, Bool.or_true]; rfl
theorem zero_gmN (a : Nat) : gmN 0 a = 0 := by unfold gmN; rw [show Nat.beq 0 0 = true from rfl, Bool.true_or]; rfl
theorem gmN_comm (a b : Nat) : gmN a b = gmN b a := by unfold gmN; rw [Bool.or_comm, Nat.add_comm]
theorem gmN_assoc {a b c : Nat} (ha : a < 256) (hb : b < 256) (hc : c < 256) : gmN (gmN a b) c = gmN a (gmN b c) := by
 by_cases a0 : a = 0
 ·subst a0; rw [zero_gmN, zero_gmN, zero_gmN]
 by_cases b0 : b = 0
 ·subst b0; rw [zero_gmN, gmN_zero, zero_gmN]
 by_cases c0 : c = 0
 ·subst c0; rw [gmN_zero, gmN_zero, gmN_zero]
 have fa := gl_facts ha a0
 have fb := gl_facts hb b0
 have fc := gl_facts hc c0
 have h1 := ge_fact2 (s := gl a + gl b) (by omega)
 have h2 := ge_fact2 (s := gl b + gl c) (by omega)
 rw [gmN_pos a0 b0, gmN_pos b0 c0, gmN_pos h1.2 c0, gmN_pos a0 h2.2, h1.1, h2.1, ge_mod (by omega), ge_mod (s := gl a + _) (by omega)]
 congr 1
 omega
theorem go_xor (n x : Nat) : ∀ b c o p : Nat, go n x (b ^^^ c) (o ^^^ p) = go n x b o ^^^ go n x c p := by
 induction n generalizing x with
 | zero => intro b c o p; rfl
 | succ n ih =>
  intro b c o p
  have e1 : (b ^^^ c) / 2 = b / 2 ^^^ c / 2 := Nat.xor_div_two
  have e2 : cond (Nat.beq ((b ^^^ c) % 2) 1) (Nat.xor (o ^^^ p) x) (o ^^^ p) = cond (Nat.beq (b % 2) 1) (Nat.xor o x) o ^^^ cond (Nat.beq (c % 2) 1) (Nat.xor p x) p := by
   have hb : b % 2 = 0 ∨ b % 2 = 1 := by omega
   have hc : c % 2 = 0 ∨ c % 2 = 1 := by omega
   have hx : (b ^^^ c) % 2 = (b % 2) ^^^ (c % 2) := by
    have := Nat.xor_mod_two_pow (a := b) (b := c) (n := 1)
    simpa using this
   rw [hx]
   rcases hb with hb | hb <;> rcases hc with hc | hc <;> rw [hb, hc]
   ·rfl
   ·show (o ^^^ p) ^^^ x = o ^^^ (p ^^^ x)
    rw [Nat.xor_assoc]
   ·show (o ^^^ p) ^^^ x = (o ^^^ x) ^^^ p
    rw [Nat.xor_assoc, Nat.xor_assoc, Nat.xor_comm p x]
   ·show (o ^^^ p) = (o ^^^ x) ^^^ (p ^^^ x)
    rw [Nat.xor_assoc o x, ← Nat.xor_assoc x p, Nat.xor_comm x p, Nat.xor_assoc p x, Nat.xor_self, Nat.xor_zero]
  show go n (xt x) ((b ^^^ c) / 2) (cond (Nat.beq ((b ^^^ c) % 2) 1) (Nat.xor (o ^^^ p) x) (o ^^^ p)) = go n (xt x) (b / 2) _ ^^^ go n (xt x) (c / 2) _
  rw [e1, e2, ih]
theorem u8lt (a : UInt8) : a.toNat < 256 := UInt8.toNat_lt a
theorem toNat_gm (a b : UInt8) : (gm a b).toNat = gmN a.toNat b.toNat := by
 unfold gm; rw [UInt8.toNat_ofNat', Nat.mod_eq_of_lt (gmN_lt _ _)]
theorem toNat_gi (a : UInt8) : (gi a).toNat = giN a.toNat := by
 unfold gi; rw [UInt8.toNat_ofNat', Nat.mod_eq_of_lt (giN_lt _)]
theorem u8_zero_iff {a : UInt8} : a = 0 ↔ a.toNat = 0 := by rw [← UInt8.toNat_inj]; rfl
theorem gm_comm (a b : UInt8) : gm a b = gm b a := by unfold gm; rw [gmN_comm]
theorem gm_assoc (a b c : UInt8) : gm (gm a b) c = gm a (gm b c) := by
 rw [← UInt8.toNat_inj, toNat_gm, toNat_gm, toNat_gm, toNat_gm, gmN_assoc (u8lt a) (u8lt b) (u8lt c)]
theorem gm_zero (a : UInt8) : gm a 0 = 0 := by
 rw [← UInt8.toNat_inj, toNat_gm]; exact gmN_zero _
theorem zero_gm (a : UInt8) : gm 0 a = 0 := by rw [gm_comm, gm_zero]
theorem gm_xor (a b c : UInt8) : gm a (b ^^^ c) = gm a b ^^^ gm a c := by
 rw [← UInt8.toNat_inj, UInt8.toNat_xor, toNat_gm, toNat_gm, toNat_gm, UInt8.toNat_xor, gmN_go (u8lt a) (u8lt b), gmN_go (u8lt a) (u8lt c),
  gmN_go (u8lt a) (by rw [← UInt8.toNat_xor]; exact u8lt _), ← go_xor]
 rfl
theorem xor_gm (a b c : UInt8) : gm (a ^^^ b) c = gm a c ^^^ gm b c := by rw [gm_comm, gm_xor, gm_comm c a, gm_comm c b]
theorem gm_ne {a b : UInt8} (ha : a ≠ 0) (hb : b ≠ 0) : gm a b ≠ 0 := by
 rw [Ne, u8_zero_iff] at ha hb ⊢
 rw [toNat_gm, gmN_pos ha hb]
 have fa := gl_facts (u8lt a) ha
 have fb := gl_facts (u8lt b) hb
 exact (ge_fact2 (by omega)).2
theorem gm_eq_zero {a b : UInt8} : gm a b = 0 ↔ a = 0 ∨ b = 0 := by
 constructor
 ·intro h
  by_cases ha : a = 0
  ·exact .inl ha
  ·by_cases hb : b = 0
   ·exact .inr hb
   ·exact (gm_ne ha hb h).elim
 ·rintro (rfl | rfl)
  ·exact zero_gm _
  ·exact gm_zero _
theorem c4 : (alln 256 fun a => Nat.beq (gmN a 1) a && (Nat.beq a 0 || Nat.beq (gmN a (giN a)) 1)) = true := by kernel_rfl
theorem gm_one (a : UInt8) : gm a 1 = a := by
 have := alln_of c4 a.toNat (u8lt a)
 simp only [Bool.and_eq_true, beq_t] at this
 rw [← UInt8.toNat_inj, toNat_gm]
 exact this.1
theorem one_gm (a : UInt8) : gm 1 a = a := by rw [gm_comm, gm_one]
theorem gm_gi {a : UInt8} (h : a ≠ 0) : gm a (gi a) = 1 := by
 have := alln_of c4 a.toNat (u8lt a)
 rw [Ne, u8_zero_iff] at h
 simp only [Bool.and_eq_true, beq_t, Bool.or_eq_true] at this
 rw [← UInt8.toNat_inj, toNat_gm, toNat_gi]
 exact this.2.resolve_left h
theorem gi_gm {a : UInt8} (h : a ≠ 0) : gm (gi a) a = 1 := by rw [gm_comm, gm_gi h]
theorem gi_zero : gi 0 = 0 := rfl
theorem gi_ne {a : UInt8} (h : a ≠ 0) : gi a ≠ 0 := by
 intro e
 have := gm_gi h
 rw [e, gm_zero] at this
 cases this
theorem gm_cancel {a b c : UInt8} (h : a ≠ 0) (e : gm a b = gm a c) : b = c := by
 have : gm (gi a) (gm a b) = gm (gi a) (gm a c) := by rw [e]
 rwa [← gm_assoc, ← gm_assoc, gi_gm h, one_gm, one_gm] at this
theorem gm_left_comm (a b c : UInt8) : gm a (gm b c) = gm b (gm a c) := by rw [← gm_assoc, gm_comm a b, gm_assoc]
theorem gi_unique {a b : UInt8} (h : gm a b = 1) : b = gi a := by
 have ha : a ≠ 0 := by rintro rfl; rw [zero_gm] at h; cases h
 exact gm_cancel ha (h.trans (gm_gi ha).symm)
theorem gi_mul (a b : UInt8) : gi (gm a b) = gm (gi a) (gi b) := by
 by_cases ha : a = 0
 ·subst ha; rw [zero_gm, gi_zero, zero_gm]
 by_cases hb : b = 0
 ·subst hb; rw [gm_zero, gi_zero, gm_zero]
 refine (gi_unique ?_).symm
 rw [gm_assoc, gm_left_comm b, ← gm_assoc, gm_gi ha, one_gm, gm_gi hb]
theorem xx (a : UInt8) : a ^^^ a = 0 := UInt8.xor_self
theorem x0 (a : UInt8) : a ^^^ 0 = a := UInt8.xor_zero
theorem zx (a : UInt8) : 0 ^^^ a = a := UInt8.zero_xor
theorem x_left (a b c : UInt8) : a ^^^ (b ^^^ c) = b ^^^ (a ^^^ c) := by rw [← UInt8.xor_assoc, UInt8.xor_comm a b, UInt8.xor_assoc]
theorem xx_left (a b : UInt8) : a ^^^ (a ^^^ b) = b := by rw [← UInt8.xor_assoc, xx, zx]
theorem x_eq_zero {a b : UInt8} : a ^^^ b = 0 ↔ a = b := by
 constructor
 ·intro h
  have : a ^^^ (a ^^^ b) = a := by rw [h, x0]
  rw [xx_left] at this; exact this.symm
 ·rintro rfl; exact xx _
end Go.Gf
namespace Go.Gf
def xs : Nat → (Nat → UInt8) → UInt8
 | 0, _ => 0
 | n + 1, f => xs n f ^^^ f n
theorem xs_congr {f g : Nat → UInt8} : ∀ {n : Nat}, (∀ i, i < n → f i = g i) → xs n f = xs n g
 | 0, _ => rfl
 | n + 1, h => by rw [xs, xs, xs_congr (n := n) fun i hi => h i (by omega), h n (by omega)]
theorem xs_zero {f : Nat → UInt8} : ∀ {n : Nat}, (∀ i, i < n → f i = 0) → xs n f = 0
 | 0, _ => rfl
 | n + 1, h => by rw [xs, xs_zero (n := n) fun i hi => h i (by omega), h n (by omega), xx]
theorem xs_xor (f g : Nat → UInt8) : ∀ n : Nat, xs n (fun i => f i ^^^ g i) = xs n f ^^^ xs n g
 | 0 => (xx 0).symm
 | n + 1 => by rw [xs, xs, xs, xs_xor f g n, UInt8.xor_assoc, UInt8.xor_assoc, x_left (f n)]
theorem xs_gm (c : UInt8) (f : Nat → UInt8) : ∀ n : Nat, xs n (fun i => gm c (f i)) = gm c (xs n f)
 | 0 => (gm_zero c).symm
 | n + 1 => by rw [xs, xs, xs_gm c f n, gm_xor]
theorem xs_swap (f : Nat → Nat → UInt8) (m : Nat) : ∀ n : Nat, xs n (fun i => xs m (f i)) = xs m (fun j => xs n (fun i => f i j))
 | 0 => (xs_zero fun _ _ => rfl).symm
 | n + 1 => by
  rw [xs, xs_swap f m n, ← xs_xor]
  rfl
theorem xs_one {f : Nat → UInt8} {n k : Nat} (hk : k < n) (h : ∀ i, i < n → i ≠ k → f i = 0) : xs n f = f k := by
 induction n with
 | zero => omega
 | succ n ih =>
  rw [xs]
  by_cases e : k = n
  ·subst e
   rw [xs_zero fun i hi => h i (by omega) (by omega), zx]
  ·rw [ih (by omega) fun i hi => h i (by omega), h n (by omega) (by omega), x0]
theorem xs_add (f : Nat → UInt8) (n : Nat) : ∀ m : Nat, xs (n + m) f = xs n f ^^^ xs m (fun i => f (n + i))
 | 0 => (x0 _).symm
 | m + 1 => by rw [← Nat.add_assoc, xs, xs_add f n m, xs, UInt8.xor_assoc]
abbrev Se := Nat → UInt8
def sa (s t : Se) : Se := fun i => s i ^^^ t i
def sm (c : UInt8) (s : Se) : Se := fun i => gm c (s i)
def sh1 (s : Se) : Se
 | 0 => 0
 | i + 1 => s i
def sh (m : Nat) (s : Se) : Se := fun i => if i < m then 0 else s (i - m)
def sz : Se := fun _ => 0
def so : Se
 | 0 => 1
 | _ + 1 => 0
theorem sa_comm (s t : Se) : sa s t = sa t s := funext fun _ => UInt8.xor_comm _ _
theorem sa_assoc (s t u : Se) : sa (sa s t) u = sa s (sa t u) := funext fun _ => UInt8.xor_assoc _ _ _
theorem sa_left (s t u : Se) : sa s (sa t u) = sa t (sa s u) := funext fun _ => x_left _ _ _
theorem sa_self (s : Se) : sa s s = sz := funext fun _ => xx _
theorem sa_sz (s : Se) : sa s sz = s := funext fun _ => x0 _
theorem sz_sa (s : Se) : sa sz s = s := funext fun _ => zx _
theorem sa_self_left (s t : Se) : sa s (sa s t) = t := funext fun _ => xx_left _ _
theorem sh1_sa (s t : Se) : sh1 (sa s t) = sa (sh1 s) (sh1 t) := funext fun i => by cases i <;> simp [sh1, sa]
theorem sh1_sm (c : UInt8) (s : Se) : sh1 (sm c s) = sm c (sh1 s) := funext fun i => by cases i <;> simp [sh1, sm, gm_zero]
theorem sm_sa (c : UInt8) (s t : Se) : sm c (sa s t) = sa (sm c s) (sm c t) := funext fun _ => gm_xor _ _ _
theorem sm_sm (c d : UInt8) (s : Se) : sm c (sm d s) = sm d (sm c s) := funext fun _ => gm_left_comm _ _ _
theorem sm_mul (c d : UInt8) (s : Se) : sm (gm c d) s = sm c (sm d s) := funext fun _ => gm_assoc _ _ _
theorem sm_xor (c d : UInt8) (s : Se) : sm (c ^^^ d) s = sa (sm c s) (sm d s) := funext fun _ => xor_gm _ _ _
theorem sm_sz (c : UInt8) : sm c sz = sz := funext fun _ => gm_zero _
theorem sm_zero (s : Se) : sm 0 s = sz := funext fun _ => zero_gm _
theorem sm_one (s : Se) : sm 1 s = s := funext fun _ => one_gm _
theorem sh1_sz : sh1 sz = sz := funext fun i => by cases i <;> rfl
theorem sh_sa (m : Nat) (s t : Se) : sh m (sa s t) = sa (sh m s) (sh m t) := funext fun i => by
 by_cases h : i < m
 ·simp only [sh, sa, if_pos h, xx]
 ·simp only [sh, sa, if_neg h]
theorem sh_sm (m : Nat) (c : UInt8) (s : Se) : sh m (sm c s) = sm c (sh m s) := funext fun i => by
 by_cases h : i < m
 ·simp only [sh, sm, if_pos h, gm_zero]
 ·simp only [sh, sm, if_neg h]
theorem sh_zero (s : Se) : sh 0 s = s := funext fun i => by unfold sh; simp
theorem sh_succ (m : Nat) (s : Se) : sh (m + 1) s = sh1 (sh m s) := funext fun i => by
 cases i with
 | zero => rfl
 | succ i =>
  show (if i + 1 < m + 1 then 0 else s (i + 1 - (m + 1))) = if i < m then 0 else s (i - m)
  rw [show i + 1 - (m + 1) = i - m by omega]
  by_cases h : i < m
  ·rw [if_pos h, if_pos (by omega)]
  ·rw [if_neg h, if_neg (by omega)]
def co (p : List UInt8) : Se := fun i => p.getD i 0
theorem co_nil : co [] = sz := rfl
theorem co_cons (a : UInt8) (p : List UInt8) : co (a :: p) = sa (sm a so) (sh1 (co p)) := funext fun i => by
 cases i with
 | zero => show a = gm a 1 ^^^ 0; rw [gm_one, x0]
 | succ i => show co p i = gm a 0 ^^^ co p i; rw [gm_zero, zx]
theorem co_out {p : List UInt8} {i : Nat} (h : p.length ≤ i) : co p i = 0 := by
 unfold co; rw [List.getD_eq_getElem?_getD, List.getElem?_eq_none h]; rfl
def act : List UInt8 → Se → Se
 | [], _ => sz
 | a :: p, s => sa (sm a s) (sh1 (act p s))
theorem act_sa (p : List UInt8) (s t : Se) : act p (sa s t) = sa (act p s) (act p t) := by
 induction p with
 | nil => exact (sa_self sz).symm
 | cons a p ih => simp only [act, ih, sm_sa, sh1_sa]; rw [sa_assoc, sa_assoc, sa_left (sm a t)]
theorem act_sm (p : List UInt8) (c : UInt8) (s : Se) : act p (sm c s) = sm c (act p s) := by
 induction p with
 | nil => exact (sm_sz c).symm
 | cons a p ih => simp only [act, ih, sm_sa, sh1_sm, sm_sm a c]
theorem act_sh1 (p : List UInt8) (s : Se) : act p (sh1 s) = sh1 (act p s) := by
 induction p with
 | nil => exact sh1_sz.symm
 | cons a p ih => simp only [act, ih, sh1_sa, sh1_sm]
theorem act_sz (p : List UInt8) : act p sz = sz := by
 induction p with
 | nil => rfl
 | cons a p ih => simp only [act, ih, sm_sz, sh1_sz, sa_sz]
theorem act_sh (p : List UInt8) (m : Nat) (s : Se) : act p (sh m s) = sh m (act p s) := by
 induction m with
 | zero => rw [sh_zero, sh_zero]
 | succ m ih => rw [sh_succ, sh_succ, act_sh1, ih]
theorem act_comm (p q : List UInt8) (s : Se) : act p (act q s) = act q (act p s) := by
 induction p with
 | nil => exact (act_sz q).symm
 | cons a p ih => simp only [act, ih, act_sa, act_sm, act_sh1]
theorem act_so (p : List UInt8) : act p so = co p := by
 induction p with
 | nil => rfl
 | cons a p ih => rw [act, ih, co_cons]
theorem act_co (p q : List UInt8) : act p (co q) = act q (co p) := by
 rw [← act_so q, act_comm, act_so]
def addL : List UInt8 → List UInt8 → List UInt8
 | [], q => q
 | a :: p, [] => a :: p
 | a :: p, b :: q => (a ^^^ b) :: addL p q
def smL (c : UInt8) (p : List UInt8) : List UInt8 := p.map (gm c)
def mulL : List UInt8 → List UInt8 → List UInt8
 | [], _ => []
 | a :: p, q => addL (smL a q) (0 :: mulL p q)
theorem co_addL (p q : List UInt8) : co (addL p q) = sa (co p) (co q) := by
 induction p generalizing q with
 | nil => rw [addL, co_nil, sz_sa]
 | cons a p ih =>
  cases q with
  | nil => rw [addL, co_nil, sa_sz]
  | cons b q =>
   rw [addL, co_cons, ih, co_cons, co_cons, sm_xor, sh1_sa, sa_assoc, sa_assoc, sa_left (sm b so)]
theorem co_smL (c : UInt8) (p : List UInt8) : co (smL c p) = sm c (co p) := funext fun i => by
 simp only [co, smL, sm, List.getD_eq_getElem?_getD, List.getElem?_map]
 cases p[i]? with
 | none => exact (gm_zero c).symm
 | some a => rfl
theorem co_mulL (p q : List UInt8) : co (mulL p q) = act p (co q) := by
 induction p with
 | nil => rfl
 | cons a p ih =>
  rw [mulL, co_addL, co_smL, act, co_cons, sm_zero, sz_sa, ih]
theorem act_addL (p q : List UInt8) (s : Se) : act (addL p q) s = sa (act p s) (act q s) := by
 induction p generalizing q with
 | nil => rw [addL, act, sz_sa]
 | cons a p ih =>
  cases q with
  | nil => rw [addL]; exact (sa_sz _).symm
  | cons b q => simp only [addL, act, ih, sm_xor, sh1_sa]; rw [sa_assoc, sa_assoc, sa_left (sm b s)]
theorem act_smL (c : UInt8) (p : List UInt8) (s : Se) : act (smL c p) s = sm c (act p s) := by
 induction p with
 | nil => exact (sm_sz c).symm
 | cons a p ih =>
  show sa (sm (gm c a) s) (sh1 (act (smL c p) s)) = _
  rw [ih, act, sm_sa, sm_mul, sh1_sm]
theorem act_mulL (p q : List UInt8) (s : Se) : act (mulL p q) s = act p (act q s) := by
 induction p with
 | nil => rfl
 | cons a p ih =>
  rw [mulL, act_addL, act_smL, act, act, sm_zero, sz_sa, ih]
theorem act_congr {p q : List UInt8} (h : co p = co q) : act p = act q := funext fun s => by
 induction p generalizing q with
 | nil =>
  induction q with
  | nil => rfl
  | cons b q ih =>
   have hb : b = 0 := (congrFun h 0).symm
   have hq : co [] = co q := funext fun i => congrFun h (i + 1)
   rw [hb, show act (0 :: q) s = sa (sm 0 s) (sh1 (act q s)) from rfl, sm_zero, sz_sa, ← ih hq]
   exact sh1_sz.symm
 | cons a p ih =>
  cases q with
  | nil =>
   have ha : a = 0 := congrFun h 0
   have hp : co p = co [] := funext fun i => congrFun h (i + 1)
   rw [ha, show act (0 :: p) s = sa (sm 0 s) (sh1 (act p s)) from rfl, sm_zero, sz_sa, ih hp]
   exact sh1_sz
  | cons b q =>
   have hab : a = b := congrFun h 0
   rw [act, act, hab, ih (q := q) (funext fun i => congrFun h (i + 1))]
def Deg (n : Nat) (s : Se) : Prop := ∀ i, n ≤ i → s i = 0
theorem Deg.mono {n m : Nat} {s : Se} (h : Deg n s) (hm : n ≤ m) : Deg m s := fun i hi => h i (by omega)
theorem Deg.sa {n : Nat} {s t : Se} (h : Deg n s) (k : Deg n t) : Deg n (Gf.sa s t) := fun i hi => by
 show s i ^^^ t i = 0
 rw [h i hi, k i hi, xx]
theorem Deg.sm {n : Nat} {s : Se} (c : UInt8) (h : Deg n s) : Deg n (Gf.sm c s) := fun i hi => by
 show gm c (s i) = 0
 rw [h i hi, gm_zero]
theorem deg_co (p : List UInt8) : Deg p.length (co p) := fun _ hi => co_out hi
theorem deg_zero {s : Se} (h : Deg 0 s) : s = sz := funext fun i => h i (Nat.zero_le _)
theorem act_deg {p : List UInt8} {s : Se} {n k : Nat} (h : Deg n s) (hk : p.length + n ≤ k + 1) : Deg k (act p s) := by
 induction p generalizing k with
 | nil => intro _ _; rfl
 | cons a p ih =>
  intro i hi
  have hl : p.length + 1 + n ≤ k + 1 := by simpa using hk
  have h1 : s i = 0 := h i (by omega)
  cases i with
  | zero => show gm a (s 0) ^^^ 0 = 0; rw [h1, gm_zero, xx]
  | succ i =>
   show gm a (s (i + 1)) ^^^ act p s i = 0
   rw [h1, gm_zero, zx]
   exact ih (k := k - 1) (by omega) i (by omega)
theorem act_top {p : List UInt8} {s : Se} {n : Nat} (h : Deg (n + 1) s) : ∀ {l : Nat}, Deg (l + 1) (co p) → act p s (l + n) = gm (co p l) (s n) := by
 induction p with
 | nil => intro l _; exact (zero_gm _).symm
 | cons a p ih =>
  intro l hl
  cases l with
  | zero =>
   have hp : co p = co [] := funext fun i => hl (i + 1) (by omega)
   rw [Nat.zero_add, act, act_congr hp]
   show gm a (s n) ^^^ sh1 sz n = gm a (s n)
   rw [sh1_sz]
   exact x0 _
  | succ l =>
   have h1 : s (l + 1 + n) = 0 := h _ (by omega)
   rw [act]
   show gm a (s (l + 1 + n)) ^^^ sh1 (act p s) (l + 1 + n) = gm (co p l) (s n)
   rw [h1, gm_zero, zx, show l + 1 + n = (l + n) + 1 by omega]
   exact ih fun i hi => hl (i + 1) (by omega)
def ev : List UInt8 → UInt8 → UInt8
 | [], _ => 0
 | a :: p, x => a ^^^ gm x (ev p x)
theorem ev_addL (p q : List UInt8) (x : UInt8) : ev (addL p q) x = ev p x ^^^ ev q x := by
 induction p generalizing q with
 | nil => rw [addL]; exact (zx _).symm
 | cons a p ih =>
  cases q with
  | nil => rw [addL]; exact (x0 _).symm
  | cons b q => rw [addL, ev, ev, ev, ih, gm_xor, UInt8.xor_assoc, UInt8.xor_assoc, x_left b]
theorem ev_smL (c : UInt8) (p : List UInt8) (x : UInt8) : ev (smL c p) x = gm c (ev p x) := by
 induction p with
 | nil => exact (gm_zero c).symm
 | cons a p ih =>
  show gm c a ^^^ gm x (ev (smL c p) x) = _
  rw [ih, ev, gm_xor, gm_left_comm]
theorem ev_mulL (p q : List UInt8) (x : UInt8) : ev (mulL p q) x = gm (ev p x) (ev q x) := by
 induction p with
 | nil => exact (zero_gm _).symm
 | cons a p ih =>
  rw [mulL, ev_addL, ev_smL, ev, ev, ih, zx, xor_gm, gm_assoc]
theorem ev_congr {p q : List UInt8} (h : co p = co q) (x : UInt8) : ev p x = ev q x := by
 induction p generalizing q with
 | nil =>
  induction q with
  | nil => rfl
  | cons b q ih =>
   have hb : b = 0 := (congrFun h 0).symm
   rw [hb, show ev (0 :: q) x = 0 ^^^ gm x (ev q x) from rfl, ← ih (funext fun i => congrFun h (i + 1)), zx]
   exact (gm_zero x).symm
 | cons a p ih =>
  cases q with
  | nil =>
   have ha : a = 0 := congrFun h 0
   rw [ha, show ev (0 :: p) x = 0 ^^^ gm x (ev p x) from rfl, ih (q := []) (funext fun i => congrFun h (i + 1)), zx]
   exact gm_zero x
  | cons b q =>
   have hab : a = b := congrFun h 0
   rw [ev, ev, hab, ih (q := q) (funext fun i => congrFun h (i + 1))]
theorem ev_act {p q r : List UInt8} (h : co r = act p (co q)) (x : UInt8) : ev r x = gm (ev p x) (ev q x) := by
 rw [← ev_mulL]; exact ev_congr (by rw [h, co_mulL]) x
def Normal (p : List UInt8) : Prop := p ≠ [] → co p (p.length - 1) ≠ 0
theorem normal_nil : Normal [] := fun h => (h rfl).elim
theorem Normal.le {p : List UInt8} (h : Normal p) {n : Nat} (hn : Deg n (co p)) : p.length ≤ n := by
 by_cases e : p = []
 ·subst e; exact Nat.zero_le _
 ·refine Decidable.byContradiction fun hl => ?_
  exact h e (hn _ (by omega))
theorem Normal.eq {p q : List UInt8} (hp : Normal p) (hq : Normal q) (h : co p = co q) : p = q := by
 have h1 : p.length ≤ q.length := hp.le (by rw [h]; exact deg_co q)
 have h2 : q.length ≤ p.length := hq.le (by rw [← h]; exact deg_co p)
 refine List.ext_getElem (by omega) fun i hi hj => ?_
 have := congrFun h i
 simpa [co, List.getD_eq_getElem?_getD, hi, hj] using this
theorem Normal.pos {p : List UInt8} {i : Nat} (hi : co p i ≠ 0) : i < p.length := by
 refine Decidable.byContradiction fun hl => hi (co_out (by omega))
theorem Normal.mul_len {p q r : List UInt8} (hp : Normal p) (hq : Normal q) (hr : Normal r) (h : co r = act p (co q)) (p0 : p ≠ []) (q0 : q ≠ []) : r.length + 1 = p.length + q.length := by
 have lp : 0 < p.length := List.length_pos_iff.2 p0
 have lq : 0 < q.length := List.length_pos_iff.2 q0
 have h1 : r.length ≤ p.length + q.length - 1 := hr.le (by rw [h]; exact act_deg (deg_co q) (by omega))
 have h2 : act p (co q) ((p.length - 1) + (q.length - 1)) = gm (co p (p.length - 1)) (co q (q.length - 1)) :=
  act_top (n := q.length - 1) ((deg_co q).mono (by omega)) ((deg_co p).mono (by omega))
 have h3 : (p.length - 1) + (q.length - 1) < r.length := Normal.pos (by rw [h, h2]; exact gm_ne (hp p0) (hq q0))
 omega
def dv (a : UInt8) : List UInt8 → List UInt8
 | [] => []
 | _ :: p => ev p a :: dv a p
theorem dv_spec (a : UInt8) (p : List UInt8) : co p = sa (act [a, 1] (co (dv a p))) (sm (ev p a) so) := by
 have hact : ∀ s : Se, act [a, 1] s = sa (sm a s) (sh1 s) := fun s => by
  show sa (sm a s) (sh1 (sa (sm 1 s) (sh1 sz))) = _
  rw [sm_one, sh1_sz, sa_sz]
 induction p with
 | nil =>
  show sz = sa (act [a, 1] sz) (sm 0 so)
  rw [act_sz, sm_zero, sa_sz]
 | cons c p ih =>
  rw [hact] at ih ⊢
  rw [co_cons, dv, co_cons, ev, sm_sa, sh1_sa, sm_xor]
  have e : sh1 (co p) = sa (sh1 (sm a (co (dv a p)))) (sa (sh1 (sh1 (co (dv a p)))) (sh1 (sm (ev p a) so))) := by
   rw [← sa_assoc, ← sh1_sa, ← sh1_sa, ← ih]
  rw [e, sh1_sm, sh1_sm, ← sm_mul]
  funext i
  simp only [sa]
  generalize sm (gm a (ev p a)) so i = x1
  generalize sm a (sh1 (co (dv a p))) i = x2
  generalize sm (ev p a) (sh1 so) i = x3
  generalize sh1 (sh1 (co (dv a p))) i = x4
  generalize sm c so i = x5
  rw [show (x1 ^^^ x2) ^^^ (x3 ^^^ x4) ^^^ (x5 ^^^ x1) = x1 ^^^ (x1 ^^^ (x2 ^^^ (x3 ^^^ x4) ^^^ x5)) by ac_rfl, xx_left]
  ac_rfl
theorem dv_deg (a : UInt8) : ∀ {p : List UInt8} {n : Nat}, Deg (n + 1) (co p) → Deg n (co (dv a p))
 | [], _, _ => fun _ _ => rfl
 | c :: p, n, h => by
  have hp : Deg n (co p) := fun i hi => h (i + 1) (by omega)
  cases n with
  | zero =>
   have e : co p = co [] := deg_zero hp
   intro i _
   cases i with
   | zero => show ev p a = 0; rw [ev_congr e]; rfl
   | succ i => exact dv_deg (n := 0) a (fun i hi => hp i (by omega)) i (by omega)
  | succ n =>
   intro i hi
   cases i with
   | zero => omega
   | succ i => exact dv_deg a hp i (by omega)
theorem ev_dv {a : UInt8} {p : List UInt8} (h : ev p a = 0) (x : UInt8) : ev p x = gm (a ^^^ x) (ev (dv a p) x) := by
 have h1 := dv_spec a p
 rw [h, sm_zero, sa_sz] at h1
 rw [ev_act h1]
 congr 1
 show a ^^^ gm x (1 ^^^ gm x 0) = _
 rw [gm_zero, x0, gm_one]
theorem roots {rs : List UInt8} : ∀ {p : List UInt8}, rs.Nodup → (∀ x ∈ rs, ev p x = 0) → Deg rs.length (co p) → co p = sz := by
 induction rs with
 | nil => intro p _ _ h; exact deg_zero h
 | cons a rs ih =>
  intro p hn hr hd
  have ha := hr a List.mem_cons_self
  have h1 := dv_spec a p
  rw [ha, sm_zero, sa_sz] at h1
  have hq : co (dv a p) = sz := by
   refine ih (List.nodup_cons.1 hn).2 (fun x hx => ?_) (dv_deg a hd)
   have h2 := hr x (List.mem_cons_of_mem _ hx)
   rw [ev_dv ha] at h2
   rcases gm_eq_zero.1 h2 with h3 | h3
   ·rw [x_eq_zero] at h3
    subst h3
    exact ((List.nodup_cons.1 hn).1 hx).elim
   ·exact h3
  rw [h1, hq, act_sz]
theorem roots_le {rs p : List UInt8} (hn : rs.Nodup) (hr : ∀ x ∈ rs, ev p x = 0) (hp : co p ≠ sz) : rs.length < p.length := by
 refine Decidable.byContradiction fun hl => hp (roots hn hr ((deg_co p).mono (by omega)))
def der (s : Se) : Se := fun i => if i % 2 = 0 then s (i + 1) else 0
theorem der_root {a : UInt8} {p q d : List UInt8} (h : co p = act [a, 1] (co q)) (hd : co d = der (co p)) : ev d a = ev q a := by
 let e : List UInt8 := (List.range q.length).map fun i => der (co q) i
 have he : co e = der (co q) := funext fun i => by
  by_cases hi : i < q.length
  ·simp [co, e, List.getD_eq_getElem?_getD, hi]
  ·have h0 : der (co q) i = 0 := by
    unfold der
    split
    ·exact co_out (by omega)
    ·rfl
   rw [h0]; exact co_out (by simp [e]; omega)
 have hact : ∀ s : Se, act [a, 1] s = sa (sm a s) (sh1 s) := fun s => by
  show sa (sm a s) (sh1 (sa (sm 1 s) (sh1 sz))) = _
  rw [sm_one, sh1_sz, sa_sz]
 have h1 : co d = co (addL (mulL [a, 1] e) q) := by
  rw [hd, h, co_addL, co_mulL, he, hact, hact]
  funext i
  unfold der sa sm
  by_cases hi : i % 2 = 0
  ·rw [if_pos hi]
   cases i with
   | zero => show gm a (co q 1) ^^^ co q 0 = gm a (co q (0 + 1)) ^^^ 0 ^^^ co q 0; rw [x0]
   | succ i =>
    show gm a (co q (i + 1 + 1)) ^^^ co q (i + 1) = gm a (if (i + 1) % 2 = 0 then co q (i + 1 + 1) else 0) ^^^ (if i % 2 = 0 then co q (i + 1) else 0) ^^^ co q (i + 1)
    rw [if_pos hi, if_neg (by omega), x0]
  ·rw [if_neg hi]
   cases i with
   | zero => omega
   | succ i =>
    show 0 = gm a (if (i + 1) % 2 = 0 then co q (i + 1 + 1) else 0) ^^^ (if i % 2 = 0 then co q (i + 1) else 0) ^^^ co q (i + 1)
    rw [if_neg hi, if_pos (by omega), gm_zero, zx, xx]
 rw [ev_congr h1, ev_addL, ev_mulL]
 have : ev [a, 1] a = 0 := by
  show a ^^^ gm a (1 ^^^ gm a 0) = 0
  rw [gm_zero, x0, gm_one, xx]
 rw [this, zero_gm, zx]
end Go.Gf
namespace Go.Gf
def pt (i : Nat) : UInt8 := UInt8.ofNat i
theorem pt_inj {i j : Nat} (hi : i < 256) (hj : j < 256) (h : pt i = pt j) : i = j := by
 have := congrArg UInt8.toNat h
 simp only [pt, UInt8.toNat_ofNat'] at this
 omega
theorem pt_xor (i j : Nat) : pt (i ^^^ j) = pt i ^^^ pt j := by
 rw [← UInt8.toNat_inj, UInt8.toNat_xor]
 simp only [pt, UInt8.toNat_ofNat']
 exact Nat.xor_mod_two_pow
def pw (x : UInt8) : Nat → UInt8
 | 0 => 1
 | n + 1 => gm (pw x n) x
theorem pw_succ (x : UInt8) (n : Nat) : pw x (n + 1) = gm x (pw x n) := gm_comm _ _
theorem xs_shift (f : Nat → UInt8) : ∀ n : Nat, xs (n + 1) f = f 0 ^^^ xs n (fun i => f (i + 1))
 | 0 => by rw [xs, xs, xs, x0, zx]
 | n + 1 => by rw [xs, xs_shift f n, xs, UInt8.xor_assoc]
theorem ev_xs {p : List UInt8} (x : UInt8) : ∀ {n : Nat}, Deg n (co p) → ev p x = xs n (fun l => gm (co p l) (pw x l)) := by
 induction p with
 | nil => intro n _; exact (xs_zero fun _ _ => zero_gm _).symm
 | cons a p ih =>
  intro n h
  cases n with
  | zero =>
   have e : co (a :: p) = co [] := deg_zero h
   rw [ev_congr e]; rfl
  | succ n =>
   rw [xs_shift, ev, ih (n := n) fun i hi => h (i + 1) (by omega), ← xs_gm]
   have h0 : gm (co (a :: p) 0) (pw x 0) = a := gm_one a
   rw [h0]
   congr 1
   refine xs_congr fun i _ => ?_
   rw [pw_succ, gm_left_comm]; rfl
def loc : List UInt8 → List UInt8
 | [] => [1]
 | a :: l => mulL [a, 1] (loc l)
def pr (l : List UInt8) (x : UInt8) : UInt8 := ev (loc l) x
theorem pr_nil (x : UInt8) : pr [] x = 1 := by
 show 1 ^^^ gm x 0 = 1
 rw [gm_zero, x0]
theorem ev_lin (a x : UInt8) : ev [a, 1] x = a ^^^ x := by
 show a ^^^ gm x (1 ^^^ gm x 0) = _
 rw [gm_zero, x0, gm_one]
theorem pr_cons (a : UInt8) (l : List UInt8) (x : UInt8) : pr (a :: l) x = gm (a ^^^ x) (pr l x) := by
 show ev (mulL [a, 1] (loc l)) x = _
 rw [ev_mulL, ev_lin]; rfl
theorem pr_append (l l' : List UInt8) (x : UInt8) : pr (l ++ l') x = gm (pr l x) (pr l' x) := by
 induction l with
 | nil => rw [List.nil_append, pr_nil, one_gm]
 | cons a l ih => rw [List.cons_append, pr_cons, pr_cons, ih, gm_assoc]
theorem pr_zero {l : List UInt8} {x : UInt8} : pr l x = 0 ↔ x ∈ l := by
 induction l with
 | nil => rw [pr_nil]; simp
 | cons a l ih => rw [pr_cons, gm_eq_zero, x_eq_zero, ih, List.mem_cons, eq_comm]
theorem act_lin (a : UInt8) (s : Se) : act [a, 1] s = sa (sm a s) (sh1 s) := by
 show sa (sm a s) (sh1 (sa (sm 1 s) (sh1 sz))) = _
 rw [sm_one, sh1_sz, sa_sz]
theorem loc_deg (l : List UInt8) : Deg (l.length + 1) (co (loc l)) := by
 induction l with
 | nil => exact deg_co [1]
 | cons a l ih => rw [loc, co_mulL]; exact act_deg ih (by simp; omega)
theorem loc_top (l : List UInt8) : co (loc l) l.length = 1 := by
 induction l with
 | nil => rfl
 | cons a l ih =>
  rw [loc, co_mulL, act_lin]
  show gm a (co (loc l) (l.length + 1)) ^^^ co (loc l) l.length = 1
  rw [loc_deg l _ (Nat.le_refl _), gm_zero, zx, ih]
def xl (l : List UInt8) (f : UInt8 → UInt8) : UInt8 := l.foldr (fun a r => f a ^^^ r) 0
theorem xl_cons (a : UInt8) (l : List UInt8) (f : UInt8 → UInt8) : xl (a :: l) f = f a ^^^ xl l f := rfl
def but (N : List UInt8) (p : UInt8) : List UInt8 := N.filter fun q => decide (q ≠ p)
theorem mem_but {N : List UInt8} {p q : UInt8} : q ∈ but N p ↔ q ∈ N ∧ q ≠ p := by simp [but]
theorem but_none {N : List UInt8} {p : UInt8} (h : p ∉ N) : but N p = N := by
 refine List.filter_eq_self.2 fun q hq => ?_
 simp only [decide_eq_true_eq]
 rintro rfl; exact h hq
theorem but_len {N : List UInt8} {p : UInt8} (hn : N.Nodup) (hp : p ∈ N) : (but N p).length + 1 = N.length := by
 induction N with
 | nil => cases hp
 | cons a N ih =>
  rw [List.nodup_cons] at hn
  by_cases e : a = p
  ·subst e
   have : but (a :: N) a = N := by
    unfold but
    rw [List.filter_cons_of_neg (by simp)]
    exact but_none hn.1
   rw [this]; rfl
  ·have : but (a :: N) p = a :: but N p := by
    unfold but
    rw [List.filter_cons_of_pos (by simpa using e)]
   rw [this]
   simp only [List.length_cons]
   rw [ih hn.2 ((List.mem_cons.1 hp).resolve_left (Ne.symm e))]
def lagL (N : List UInt8) (f : UInt8 → UInt8) : List UInt8 → List UInt8
 | [] => []
 | p :: l => addL (smL (gm (f p) (gi (pr (but N p) p))) (loc (but N p))) (lagL N f l)
theorem lag_ev {N : List UInt8} {f : UInt8 → UInt8} {q : UInt8} (hq : q ∈ N) : ∀ {l : List UInt8}, l.Nodup → ev (lagL N f l) q = if q ∈ l then f q else 0
 | [], _ => rfl
 | p :: l, hl => by
  rw [List.nodup_cons] at hl
  rw [lagL, ev_addL, ev_smL, lag_ev hq hl.2]
  by_cases e : p = q
  ·subst e
   have h1 : pr (but N p) p ≠ 0 := fun h => (mem_but.1 (pr_zero.1 h)).2 rfl
   have h2 : gm (gm (f p) (gi (pr (but N p) p))) (ev (loc (but N p)) p) = f p := by
    show gm (gm (f p) (gi (pr (but N p) p))) (pr (but N p) p) = f p
    rw [gm_assoc, gi_gm h1, gm_one]
   rw [h2, if_neg hl.1, if_pos List.mem_cons_self, x0]
  ·have h1 : ev (loc (but N p)) q = 0 := pr_zero.2 (mem_but.2 ⟨hq, Ne.symm e⟩)
   rw [h1, gm_zero, zx]
   simp only [List.mem_cons]
   by_cases h2 : q ∈ l
   ·rw [if_pos h2, if_pos (.inr h2)]
   ·rw [if_neg h2, if_neg (fun h3 => h3.elim (fun h3 => e h3.symm) h2)]
theorem lag_deg {N : List UInt8} {f : UInt8 → UInt8} (hn : N.Nodup) {m : Nat} (hm : N.length = m + 1) : ∀ {l : List UInt8}, (∀ p ∈ l, p ∈ N) →
  Deg (m + 1) (co (lagL N f l)) ∧ co (lagL N f l) m = xl l (fun p => gm (f p) (gi (pr (but N p) p)))
 | [], _ => ⟨fun _ _ => rfl, rfl⟩
 | p :: l, hl => by
  obtain ⟨h1, h2⟩ := lag_deg (f := f) hn hm (l := l) fun q hq => hl q (List.mem_cons_of_mem _ hq)
  have hb : (but N p).length = m := by have := but_len hn (hl p List.mem_cons_self); omega
  have hd := loc_deg (but N p)
  have ht := loc_top (but N p)
  rw [hb] at hd ht
  rw [lagL, co_addL, co_smL]
  refine ⟨(hd.sm _).sa h1, ?_⟩
  show gm _ (co (loc (but N p)) m) ^^^ co (lagL N f l) m = _
  rw [ht, gm_one, h2]; rfl
theorem lag_zero {N f : List UInt8} (hn : N.Nodup) {m : Nat} (hm : N.length = m + 1) (hf : Deg m (co f)) : xl N (fun p => gm (ev f p) (gi (pr (but N p) p))) = 0 := by
 obtain ⟨h1, h2⟩ := lag_deg (f := ev f) hn hm (l := N) fun _ h => h
 have h3 : co (addL (lagL N (ev f) N) f) = sz := by
  refine roots (rs := N) hn (fun x hx => ?_) ?_
  ·rw [ev_addL, lag_ev hx hn, if_pos hx, xx]
  ·rw [co_addL, hm]; exact h1.sa (hf.mono (by omega))
 have h4 : co (addL (lagL N (ev f) N) f) m = 0 := by rw [h3]; rfl
 rw [co_addL] at h4
 rw [← h2]
 have h5 : co f m = 0 := hf m (Nat.le_refl _)
 have h6 : co (lagL N (ev f) N) m ^^^ co f m = 0 := h4
 rwa [h5, x0] at h6
def wp (k : Nat) : Nat → Nat → UInt8
 | 0, _ => 1
 | n + 1, i => if k + n = i then wp k n i else gm (wp k n i) (pt (k + n) ^^^ pt i)
def wgt (k m i : Nat) : UInt8 := gi (wp k m i)
def pars (k m : Nat) : List UInt8 := (List.range m).map fun j => pt (k + j)
theorem pars_succ (k m : Nat) : pars k (m + 1) = pars k m ++ [pt (k + m)] := by simp [pars, List.range_succ]
theorem pars_len (k m : Nat) : (pars k m).length = m := by simp [pars]
theorem mem_pars {k m : Nat} {x : UInt8} : x ∈ pars k m ↔ ∃ j, j < m ∧ pt (k + j) = x := by simp [pars]
theorem pars_nodup {k : Nat} : ∀ {m : Nat}, k + m ≤ 256 → (pars k m).Nodup
 | 0, _ => by simp [pars]
 | m + 1, h => by
  rw [pars_succ, List.nodup_append]
  refine ⟨pars_nodup (by omega), by simp, fun a ha b hb => ?_⟩
  obtain ⟨j, hj, rfl⟩ := mem_pars.1 ha
  rw [List.mem_singleton] at hb
  subst hb
  intro e
  have := pt_inj (by omega) (by omega) e
  omega
theorem wp_eq {k i : Nat} (hi : i < 256) : ∀ {n : Nat}, k + n ≤ 256 → wp k n i = pr (but (pars k n) (pt i)) (pt i)
 | 0, _ => (pr_nil _).symm
 | n + 1, h => by
  rw [wp, wp_eq hi (n := n) (by omega), pars_succ]
  unfold but
  rw [List.filter_append, pr_append]
  by_cases e : k + n = i
  ·rw [if_pos e, List.filter_cons_of_neg (by simp [e]), List.filter_nil, pr_nil, gm_one]
  ·have : pt (k + n) ≠ pt i := fun h => e (pt_inj (by omega) hi h)
   rw [if_neg e, List.filter_cons_of_pos (by simpa using this), List.filter_nil, pr_cons, pr_nil, gm_one]
theorem wp_ne {k m i : Nat} (hi : i < 256) (h : k + m ≤ 256) : wp k m i ≠ 0 := by
 rw [wp_eq hi h]
 exact fun e => (mem_but.1 (pr_zero.1 e)).2 rfl
theorem wgt_ne {k m i : Nat} (hi : i < 256) (h : k + m ≤ 256) : wgt k m i ≠ 0 := gi_ne (wp_ne hi h)
def syn (k m : Nat) (c : List UInt8) (l : Nat) : UInt8 := xs (k + m) fun i => gm (gm (co c i) (wgt k m i)) (pw (pt i) l)
def Code (k m : Nat) (c : List UInt8) : Prop := c.length = k + m ∧ ∀ l, l < m → syn k m c l = 0
theorem xs_mul_ev {n m : Nat} (v : Nat → UInt8) (f : List UInt8) (hf : Deg m (co f)) (q : Nat → UInt8) :
  xs n (fun i => gm (v i) (ev f (q i))) = xs m (fun l => gm (co f l) (xs n fun i => gm (v i) (pw (q i) l))) := by
 have h1 : xs n (fun i => gm (v i) (ev f (q i))) = xs n (fun i => xs m fun l => gm (co f l) (gm (v i) (pw (q i) l))) := by
  refine xs_congr fun i _ => ?_
  rw [ev_xs (q i) hf, ← xs_gm]
  exact xs_congr fun l _ => gm_left_comm _ _ _
 rw [h1, xs_swap]
 exact xs_congr fun l _ => xs_gm _ _ _
theorem Code.mom {k m : Nat} {c f : List UInt8} (h : Code k m c) (hf : Deg m (co f)) : xs (k + m) (fun i => gm (gm (co c i) (wgt k m i)) (ev f (pt i))) = 0 := by
 rw [xs_mul_ev (fun i => gm (co c i) (wgt k m i)) f hf pt]
 refine xs_zero fun l hl => ?_
 have h1 : xs (k + m) (fun i => gm (gm (co c i) (wgt k m i)) (pw (pt i) l)) = 0 := h.2 l hl
 rw [h1, gm_zero]
theorem Code.few {k m : Nat} {c : List UInt8} (h : Code k m c) (hkm : k + m ≤ 256) {D : List Nat} (hD : D.length ≤ m) (hc : ∀ i, i < k + m → co c i ≠ 0 → i ∈ D) : ∀ i, i < k + m → co c i = 0 := by
 intro j hj
 refine Decidable.byContradiction fun hne => ?_
 have hjD := hc j hj hne
 let R := (D.filter fun i => decide (pt i ≠ pt j)).map pt
 have hR : R.length + 1 ≤ m := by
  have : (D.filter fun i => decide (pt i ≠ pt j)).length < D.length := List.length_filter_lt_length_iff_exists.2 ⟨j, hjD, by simp⟩
  simp only [R, List.length_map]; omega
 have h1 := h.mom (f := loc R) ((loc_deg R).mono hR)
 rw [xs_one hj fun i hi hij => ?_] at h1
 ·rcases gm_eq_zero.1 h1 with h2 | h2
  ·rcases gm_eq_zero.1 h2 with h3 | h3
   ·exact hne h3
   ·exact wgt_ne (by omega) hkm h3
  ·have : pt j ∈ R := pr_zero.1 h2
   simp only [R, List.mem_map, List.mem_filter, decide_eq_true_eq] at this
   obtain ⟨i, ⟨_, hij⟩, he⟩ := this
   exact hij he
 ·have : ev (loc R) (pt i) = 0 ∨ co c i = 0 := by
   by_cases hz : co c i = 0
   ·exact .inr hz
   ·refine .inl (pr_zero.2 ?_)
    refine List.mem_map.2 ⟨i, List.mem_filter.2 ⟨hc i hi hz, ?_⟩, rfl⟩
    simp only [decide_eq_true_eq]
    exact fun e => hij (pt_inj (by omega) (by omega) e)
  rcases this with h2 | h2
  ·rw [h2, gm_zero]
  ·rw [h2, zero_gm, zero_gm]
def par (k i : Nat) (d : List UInt8) : UInt8 := xs k fun j => gm (gi (pt (k + i) ^^^ pt j)) (co d j)
def enc (k m : Nat) (d : List UInt8) : List UInt8 := d ++ (List.range m).map fun i => par k i d
theorem enc_len {k m : Nat} {d : List UInt8} (hd : d.length = k) : (enc k m d).length = k + m := by simp [enc, hd]
theorem enc_data {k m : Nat} {d : List UInt8} (hd : d.length = k) {i : Nat} (hi : i < k) : co (enc k m d) i = co d i := by
 simp only [co, enc, List.getD_eq_getElem?_getD]
 rw [List.getElem?_append_left (by omega)]
theorem enc_par {k m : Nat} {d : List UInt8} (hd : d.length = k) {i : Nat} (hi : i < m) : co (enc k m d) (k + i) = par k i d := by
 simp only [co, enc, List.getD_eq_getElem?_getD]
 rw [List.getElem?_append_right (by omega), hd]
 simp [hi]
theorem part {k m j l : Nat} (hkm : k + m ≤ 256) (hj : j < k) (hl : l < m) :
  gm (wgt k m j) (pw (pt j) l) ^^^ xs m (fun i => gm (gm (gi (pt (k + i) ^^^ pt j)) (wgt k m (k + i))) (pw (pt (k + i)) l)) = 0 := by
 let f : List UInt8 := List.replicate l 0 ++ [1]
 have hco : ∀ i, co f i = if i = l then 1 else 0 := fun i => by
  simp only [co, f, List.getD_eq_getElem?_getD]
  by_cases h1 : i < l
  ·rw [List.getElem?_append_left (by simpa using h1), List.getElem?_replicate, if_pos h1, if_neg (by omega)]; rfl
  ·rw [List.getElem?_append_right (by simp; omega), List.length_replicate]
   by_cases h2 : i = l
   ·subst h2; rw [if_pos rfl, Nat.sub_self]; rfl
   ·rw [if_neg h2, List.getElem?_eq_none (by simp; omega)]; rfl
 have hf : Deg m (co f) := fun i hi => by rw [hco, if_neg (by omega)]
 have hev : ∀ x, ev f x = pw x l := fun x => by
  rw [ev_xs x hf, xs_one hl fun i _ hi => by rw [hco, if_neg hi, zero_gm]]
  rw [hco, if_pos rfl, one_gm]
 have hnot : pt j ∉ pars k m := fun h => by
  obtain ⟨i, hi, e⟩ := mem_pars.1 h
  have := pt_inj (by omega) (by omega) e
  omega
 have hN : (pt j :: pars k m).Nodup := List.nodup_cons.2 ⟨hnot, pars_nodup hkm⟩
 have h1 := lag_zero (f := f) hN (m := m) (by rw [List.length_cons, pars_len]) hf
 rw [xl_cons] at h1
 have b0 : but (pt j :: pars k m) (pt j) = pars k m := by
  unfold but
  rw [List.filter_cons_of_neg (by simp)]
  exact but_none hnot
 have e0 : gm (ev f (pt j)) (gi (pr (but (pt j :: pars k m) (pt j)) (pt j))) = gm (wgt k m j) (pw (pt j) l) := by
  rw [hev, b0, gm_comm]
  unfold wgt
  rw [wp_eq (by omega) hkm, but_none hnot]
 rw [e0] at h1
 rw [← h1]
 congr 1
 have gen : ∀ n, n ≤ m → xl (pars k n) (fun p => gm (ev f p) (gi (pr (but (pt j :: pars k m) p) p))) =
   xs n (fun i => gm (gm (gi (pt (k + i) ^^^ pt j)) (wgt k m (k + i))) (pw (pt (k + i)) l)) := by
  intro n
  induction n with
  | zero => intro _; rfl
  | succ n ih =>
   intro hn
   have app : ∀ (u v : List UInt8) (g : UInt8 → UInt8), xl (u ++ v) g = xl u g ^^^ xl v g := fun u v g => by
    induction u with
    | nil => exact (zx _).symm
    | cons a u ihu => rw [List.cons_append, xl_cons, xl_cons, ihu, UInt8.xor_assoc]
   rw [pars_succ, app, ih (by omega), xs]
   congr 1
   rw [xl_cons]
   show _ ^^^ 0 = _
   have hne : pt j ≠ pt (k + n) := fun e => by have := pt_inj (by omega) (by omega) e; omega
   have b1 : but (pt j :: pars k m) (pt (k + n)) = pt j :: but (pars k m) (pt (k + n)) := by
    unfold but
    rw [List.filter_cons_of_pos (by simpa using hne)]
   rw [x0, hev, b1, pr_cons, gi_mul]
   unfold wgt
   rw [wp_eq (by omega) hkm, UInt8.xor_comm (pt j), gm_comm]
 exact (gen m (Nat.le_refl _)).symm
theorem enc_code {k m : Nat} (hkm : k + m ≤ 256) {d : List UInt8} (hd : d.length = k) : Code k m (enc k m d) := by
 refine ⟨enc_len hd, fun l hl => ?_⟩
 unfold syn
 rw [xs_add]
 have h1 : xs k (fun i => gm (gm (co (enc k m d) i) (wgt k m i)) (pw (pt i) l)) = xs k (fun j => gm (co d j) (gm (wgt k m j) (pw (pt j) l))) :=
  xs_congr fun i hi => by rw [enc_data hd hi, gm_assoc]
 have h2 : xs m (fun i => gm (gm (co (enc k m d) (k + i)) (wgt k m (k + i))) (pw (pt (k + i)) l)) =
   xs k (fun j => gm (co d j) (xs m (fun i => gm (gm (gi (pt (k + i) ^^^ pt j)) (wgt k m (k + i))) (pw (pt (k + i)) l)))) := by
  have h3 : xs m (fun i => gm (gm (co (enc k m d) (k + i)) (wgt k m (k + i))) (pw (pt (k + i)) l)) =
    xs m (fun i => xs k fun j => gm (co d j) (gm (gm (gi (pt (k + i) ^^^ pt j)) (wgt k m (k + i))) (pw (pt (k + i)) l))) := by
   refine xs_congr fun i hi => ?_
   rw [enc_par hd hi, gm_assoc, gm_comm]
   unfold par
   rw [← xs_gm]
   refine xs_congr fun j _ => ?_
   rw [gm_comm _ (co d j), gm_left_comm, gm_comm _ (gi _), ← gm_assoc (gi _)]
  rw [h3, xs_swap]
  exact xs_congr fun j _ => xs_gm _ _ _
 rw [h1, h2, ← xs_xor]
 refine xs_zero fun j hj => ?_
 rw [← gm_xor, part hkm hj hl, gm_zero]
def addW (a b : List UInt8) : List UInt8 := List.zipWith (· ^^^ ·) a b
theorem addW_len {a b : List UInt8} (h : a.length = b.length) : (addW a b).length = a.length := by simp [addW, h]
theorem co_addW {a b : List UInt8} (h : a.length = b.length) (i : Nat) : co (addW a b) i = co a i ^^^ co b i := by
 simp only [co, addW, List.getD_eq_getElem?_getD, List.getElem?_zipWith]
 by_cases hi : i < a.length
 ·have hj : i < b.length := by omega
  simp [hi, hj]
 ·have hj : ¬ i < b.length := by omega
  simp [hi, hj]
theorem Code.add {k m : Nat} {a b : List UInt8} (h : Code k m a) (h' : Code k m b) : Code k m (addW a b) := by
 have hl : a.length = b.length := by rw [h.1, h'.1]
 refine ⟨by rw [addW_len hl, h.1], fun l hk => ?_⟩
 have : syn k m (addW a b) l = syn k m a l ^^^ syn k m b l := by
  unfold syn
  rw [← xs_xor]
  refine xs_congr fun i _ => ?_
  rw [co_addW hl, xor_gm, xor_gm]
 rw [this, h.2 l hk, h'.2 l hk, xx]
theorem co_ext {a b : List UInt8} (hl : a.length = b.length) (h : ∀ i, i < a.length → co a i = co b i) : a = b := by
 refine List.ext_getElem hl fun i hi hj => ?_
 have := h i hi
 simpa [co, List.getD_eq_getElem?_getD, hi, hj] using this
theorem Code.one {k m : Nat} {a b : List UInt8} (h : Code k m a) (h' : Code k m b) (hkm : k + m ≤ 256) {D : List Nat} (hD : D.length ≤ m) (hc : ∀ i, i < k + m → co a i ≠ co b i → i ∈ D) : a = b := by
 have hl : a.length = b.length := by rw [h.1, h'.1]
 have h1 := (h.add h').few hkm hD fun i hi hn => hc i hi fun e => hn (by rw [co_addW hl, e, xx])
 refine co_ext hl fun i hi => ?_
 have := h1 i (by rw [← h.1]; exact hi)
 rw [co_addW hl, x_eq_zero] at this
 exact this
theorem Code.enc {k m : Nat} {c : List UInt8} (h : Code k m c) (hkm : k + m ≤ 256) : c = Gf.enc k m (c.take k) := by
 have hd : (c.take k).length = k := by rw [List.length_take, h.1]; omega
 refine h.one (enc_code hkm hd) hkm (D := (List.range m).map (k + ·)) (by simp) fun i hi hn => ?_
 by_cases hk : i < k
 ·refine (hn ?_).elim
  rw [enc_data hd hk]
  simp [co, List.getD_eq_getElem?_getD, hk]
 ·exact List.mem_map.2 ⟨i - k, List.mem_range.2 (by omega), by show k + (i - k) = i; omega⟩
def dif (n : Nat) (ms : List Bool) (a b : List UInt8) : List Nat := (List.range n).filter fun i => !ms.getD i false && decide (co a i ≠ co b i)
def mis (n : Nat) (ms : List Bool) : List Nat := (List.range n).filter fun i => ms.getD i false
structure Near (k m : Nat) (bs : List UInt8) (ms : List Bool) (c : List UInt8) : Prop where
 code : Code k m c
 few : 2 * (dif (k + m) ms c bs).length + (mis (k + m) ms).length ≤ m
theorem near_one {k m : Nat} (hkm : k + m ≤ 256) {bs : List UInt8} {ms : List Bool} {c c' : List UInt8} (h : Near k m bs ms c) (h' : Near k m bs ms c') : c = c' := by
 have f1 := h.few
 have f2 := h'.few
 refine h.code.one h'.code hkm (D := dif (k + m) ms c bs ++ (dif (k + m) ms c' bs ++ mis (k + m) ms)) (by simp only [List.length_append]; omega) fun i hi hn => ?_
 simp only [List.mem_append, dif, mis, List.mem_filter, List.mem_range, Bool.and_eq_true, decide_eq_true_eq, Bool.not_eq_true']
 by_cases h1 : ms.getD i false = true
 ·exact .inr (.inr ⟨hi, h1⟩)
 ·have h1' : ms.getD i false = false := by simpa using h1
  by_cases h2 : co c i = co bs i
  ·exact .inr (.inl ⟨hi, h1', fun e => hn (h2.trans e.symm)⟩)
  ·exact .inl ⟨hi, h1', h2⟩
open Classical in
noncomputable def decM (k m : Nat) (bs : List UInt8) (ms : List Bool) : Option (List UInt8) := if h : ∃ c, Near k m bs ms c then some h.choose else none
theorem decM_some {k m : Nat} (hkm : k + m ≤ 256) {bs : List UInt8} {ms : List Bool} {c : List UInt8} (h : Near k m bs ms c) : decM k m bs ms = some c := by
 unfold decM
 have h1 : ∃ c, Near k m bs ms c := ⟨c, h⟩
 rw [dif_pos h1, near_one hkm h1.choose_spec h]
theorem decM_none {k m : Nat} {bs : List UInt8} {ms : List Bool} (h : ∀ c, ¬ Near k m bs ms c) : decM k m bs ms = none := by
 unfold decM
 rw [dif_neg fun ⟨c, hc⟩ => h c hc]
end Go.Gf
namespace Go.Gf
theorem sum_len {x q h r : List UInt8} (hx : Normal x) (hq : Normal q) (hh : Normal h) (q0 : q ≠ []) (h0 : h ≠ []) (e : co x = sa (act q (co h)) (co r)) (hr : r.length + 1 < q.length + h.length) :
  x.length + 1 = q.length + h.length := by
 have lq : 0 < q.length := List.length_pos_iff.2 q0
 have lh : 0 < h.length := List.length_pos_iff.2 h0
 have h1 : x.length ≤ q.length + h.length - 1 := hx.le (by rw [e]; exact (act_deg (deg_co h) (by omega)).sa ((deg_co r).mono (by omega)))
 have h2 : act q (co h) ((q.length - 1) + (h.length - 1)) = gm (co q (q.length - 1)) (co h (h.length - 1)) :=
  act_top ((deg_co h).mono (by omega)) ((deg_co q).mono (by omega))
 have h3 : (q.length - 1) + (h.length - 1) < x.length := Normal.pos (by
  rw [e]
  show act q (co h) _ ^^^ co r _ ≠ 0
  rw [h2, co_out (p := r) (by omega), x0]
  exact gm_ne (hq q0) (hh h0))
 omega
structure SolveInv (m : Nat) (H : Se) (low high a b : List UInt8) : Prop where
 nlow : Normal low
 nhigh : Normal high
 nb : Normal b
 b0 : b ≠ []
 lt : high.length < low.length
 ab : a.length < b.length
 deg : b.length + low.length = m + 2
 ib : ∃ A : List UInt8, act b H = sa (co high) (sh m (co A))
 ia : ∃ A : List UInt8, act a H = sa (co low) (sh m (co A))
theorem co_unit (m : Nat) : co (List.replicate m 0 ++ [1]) = sh m so := funext fun i => by
 simp only [co, List.getD_eq_getElem?_getD, sh]
 by_cases h1 : i < m
 ·rw [List.getElem?_append_left (by simpa using h1), List.getElem?_replicate, if_pos h1, if_pos h1]; rfl
 ·rw [List.getElem?_append_right (by simp; omega), List.length_replicate, if_neg h1]
  cases h2 : i - m with
  | zero => rfl
  | succ n => rfl
theorem normal_unit (m : Nat) : Normal (List.replicate m 0 ++ [1]) := fun _ => by
 rw [co_unit]
 simp only [List.length_append, List.length_replicate, List.length_cons, List.length_nil, sh]
 rw [if_neg (by omega), show m + (0 + 1) - 1 - m = 0 by omega]
 decide
theorem SolveInv.init {m : Nat} {H : Se} {high : List UInt8} (hH : Deg m H) (hn : Normal high) (hc : co high = H) : SolveInv m H (List.replicate m 0 ++ [1]) high [] [1] := by
 have hl : high.length ≤ m := hn.le (by rw [hc]; exact hH)
 refine ⟨normal_unit m, hn, fun _ => by decide, by simp, by simp; omega, by simp, by simp; omega, ⟨[], ?_⟩, ⟨[1], ?_⟩⟩
 ·show sa (sm 1 H) (sh1 sz) = sa (co high) (sh m sz)
  have : sh m sz = sz := funext fun i => by unfold sh sz; split <;> rfl
  rw [sm_one, sh1_sz, this, hc]
 ·show sz = _
  have : co [1] = so := by rw [co_cons, co_nil, sh1_sz, sa_sz, sm_one]
  rw [co_unit, this, sa_self]
theorem SolveInv.step {m : Nat} {H : Se} {low high a b q r b' : List UInt8} (h : SolveInv m H low high a b) (h0 : high ≠ []) (hq : Normal q) (hr : Normal r) (e : co low = sa (act q (co high)) (co r))
  (hl : r.length < high.length) (hb : Normal b') (eb : co b' = sa (co a) (act q (co b))) : SolveInv m H high r b b' ∧ b'.length + high.length = m + 2 := by
 have hlt := h.lt
 have hab := h.ab
 have hdeg := h.deg
 have q0 : q ≠ [] := by
  rintro rfl
  have e2 : co low = co r := by rw [e]; exact sz_sa _
  have := h.nlow.eq hr e2
  rw [this] at hlt; omega
 have lq : 0 < q.length := List.length_pos_iff.2 q0
 have l1 := sum_len h.nlow hq h.nhigh q0 h0 e (by omega)
 have l2 := sum_len hb hq h.nb q0 h.b0 (r := a) (by rw [eb, sa_comm]) (by omega)
 have b0' : b' ≠ [] := by rintro rfl; simp at l2; omega
 obtain ⟨A, hA⟩ := h.ib
 obtain ⟨B, hB⟩ := h.ia
 refine ⟨⟨h.nhigh, hr, hb, b0', hl, by omega, by omega, ⟨addL B (mulL q A), ?_⟩, ⟨A, hA⟩⟩, by omega⟩
 have e3 : act b' H = sa (act a H) (act q (act b H)) := by
  rw [← act_mulL, ← act_addL]
  exact congrFun (act_congr (by rw [eb, co_addL, co_mulL])) H
 rw [e3, hA, hB, e, co_addL, co_mulL, act_sa, act_sh, sh_sa]
 generalize act q (co high) = u1
 generalize co r = u2
 generalize sh m (co B) = u3
 generalize sh m (act q (co A)) = u4
 rw [sa_assoc, sa_assoc, sa_left u1, sa_left u1, sa_left u1, sa_self_left]
structure Good (m e t : Nat) (H : Se) (L pts : List UInt8) : Prop where
 nodup : pts.Nodup
 len : pts.length = t
 root : ∀ x ∈ pts, ev L x = 0
 deg : Deg (t + 1) (co L)
 top : co L t ≠ 0
 few : 2 * t + e ≤ m
 key : ∃ R O : List UInt8, Deg (t + e) (co R) ∧ act L H = sa (co R) (sh m (co O)) ∧ ∀ x ∈ pts, ev O x ≠ 0
theorem low_high {m : Nat} {u v s t : Se} (hu : Deg m u) (hv : Deg m v) (h : sa u (sh m s) = sa v (sh m t)) : u = v ∧ s = t := by
 constructor
 ·funext i
  by_cases hi : i < m
  ·have := congrFun h i
   simp only [sa, sh, if_pos hi, x0] at this
   exact this
  ·rw [hu i (by omega), hv i (by omega)]
 ·funext i
  have := congrFun h (m + i)
  simp only [sa, sh] at this
  rw [if_neg (by omega), if_neg (by omega), hu _ (by omega), hv _ (by omega), zx, zx, show m + i - m = i by omega] at this
  exact this
theorem good_root {m e t : Nat} {H : Se} {L pts low high a b : List UInt8} (g : Good m e t H L pts) (h : SolveInv m H low high a b) (hb : b.length ≤ t + 1) (hh : high.length + t ≤ m) :
  b.length = t + 1 ∧ (∀ x ∈ pts, ev b x = 0) ∧ high.length ≤ t + e := by
 obtain ⟨R, O, hR, hk, hO⟩ := g.key
 obtain ⟨A, hA⟩ := h.ib
 have hf := g.few
 have h1 : act L (act b H) = act b (act L H) := act_comm _ _ _
 rw [hA, hk, act_sa, act_sa, act_sh, act_sh] at h1
 have hL : L.length = L.length := rfl
 have dL : ∀ {s : Se} {n k : Nat}, Deg n s → t + 1 + n ≤ k + 1 → Deg k (act L s) := fun {s n k} hs hk2 => by
  have e1 : co L = co (L.take (t + 1)) := funext fun i => by
   simp only [co, List.getD_eq_getElem?_getD, List.getElem?_take]
   by_cases hi : i < t + 1
   ·rw [if_pos hi]
   ·rw [if_neg hi]
    have := g.deg i (by omega)
    simpa [co, List.getD_eq_getElem?_getD] using this
  rw [act_congr e1]
  exact act_deg hs (by rw [List.length_take]; omega)
 obtain ⟨h2, h3⟩ := low_high (dL (deg_co high) (k := m) (by omega)) (act_deg (p := b) hR (k := m) (by omega)) h1
 have hr : ∀ x ∈ pts, ev b x = 0 := fun x hx => by
  have h4 : ev (mulL L A) x = ev (mulL b O) x := ev_congr (by rw [co_mulL, co_mulL, h3]) x
  rw [ev_mulL, ev_mulL, g.root x hx, zero_gm] at h4
  rcases gm_eq_zero.1 h4.symm with h5 | h5
  ·exact h5
  ·exact (hO x hx h5).elim
 have hbz : co b ≠ sz := fun e => h.nb h.b0 (by rw [e]; rfl)
 have h6 := roots_le g.nodup hr hbz
 rw [g.len] at h6
 refine ⟨by omega, hr, ?_⟩
 by_cases hz : high = []
 ·rw [hz]; exact Nat.zero_le _
 ·have lh : 0 < high.length := List.length_pos_iff.2 hz
  have h7 : act L (co high) (t + (high.length - 1)) = gm (co L t) (co high (high.length - 1)) := act_top ((deg_co high).mono (by omega)) g.deg
  have h8 : act L (co high) (t + (high.length - 1)) ≠ 0 := by rw [h7]; exact gm_ne g.top (h.nhigh hz)
  rw [h2] at h8
  refine Decidable.byContradiction fun hc => h8 ?_
  exact act_deg (p := b) hR (k := 2 * t + e) (by omega) _ (by omega)
theorem good_stop {m e t : Nat} {H : Se} {L pts low high a b : List UInt8} (g : Good m e t H L pts) (h : SolveInv m H low high a b) (hb : b.length ≤ t + 1) (hh : high.length ≤ e + (b.length - 1)) :
  b.length = t + 1 ∧ ∀ x ∈ pts, ev b x = 0 := by
 have hf := g.few
 obtain ⟨h1, h2, _⟩ := good_root g h hb (by omega)
 exact ⟨h1, h2⟩
theorem good_step {m e t : Nat} {H : Se} {L pts low high a b : List UInt8} (g : Good m e t H L pts) (h : SolveInv m H low high a b) (hb : b.length ≤ t + 1) (hh : ¬ high.length ≤ e + (b.length - 1))
  {b' : List UInt8} (hb' : b'.length + high.length = m + 2) : b'.length ≤ t + 1 := by
 refine Decidable.byContradiction fun hc => ?_
 obtain ⟨h1, _, h2⟩ := good_root g h hb (by omega)
 omega
structure Found (m e : Nat) (P : Se) (b o : List UInt8) : Prop where
 nb : Normal b
 b0 : b ≠ []
 lead : co b (b.length - 1) = 1
 few : 2 * (b.length - 1) + e ≤ m
 out : ∀ i, co o i = act b P (m + i)
 good : ∀ t L pts, Good m e t (fun i => if i < m then P i else 0) L pts → b.length = t + 1 ∧ ∀ x ∈ pts, ev b x = 0
def geo (a : UInt8) (m : Nat) : List UInt8 := (List.range m).map fun i => pw a (m - 1 - i)
theorem co_geo (a : UInt8) (m i : Nat) : co (geo a m) i = if i < m then pw a (m - 1 - i) else 0 := by
 simp only [co, geo, List.getD_eq_getElem?_getD, List.getElem?_map]
 by_cases h : i < m
 ·simp [h]
 ·simp [h]
theorem act_geo (a : UInt8) (m : Nat) : act [a, 1] (co (geo a m)) = sa (sm (pw a m) so) (sh m so) := by
 rw [act_lin]
 funext i
 cases i with
 | zero =>
  show gm a (co (geo a m) 0) ^^^ 0 = gm (pw a m) 1 ^^^ sh m so 0
  rw [co_geo, x0, gm_one]
  cases m with
  | zero => show gm a 0 = 1 ^^^ 1; rw [gm_zero, xx]
  | succ m =>
   rw [if_pos (by omega)]
   show gm a (pw a (m + 1 - 1 - 0)) = pw a (m + 1) ^^^ 0
   rw [x0, pw_succ]; rfl
 | succ i =>
  show gm a (co (geo a m) (i + 1)) ^^^ co (geo a m) i = gm (pw a m) 0 ^^^ sh m so (i + 1)
  rw [gm_zero, zx, co_geo, co_geo]
  unfold sh
  by_cases h1 : i + 1 < m
  ·rw [if_pos h1, if_pos (by omega), if_pos h1, ← pw_succ, show m - 1 - (i + 1) + 1 = m - 1 - i by omega, xx]
  ·rw [if_neg h1, if_neg h1, gm_zero, zx]
   by_cases h2 : i < m
   ·rw [if_pos h2, show m - 1 - i = 0 by omega, show i + 1 - m = 0 by omega]; rfl
   ·rw [if_neg h2, show i + 1 - m = (i - m) + 1 by omega]; rfl
def lsum : Nat → (Nat → List UInt8) → List UInt8
 | 0, _ => []
 | n + 1, f => addL (lsum n f) (f n)
theorem co_lsum (f : Nat → List UInt8) (i : Nat) : ∀ n, co (lsum n f) i = xs n (fun j => co (f j) i)
 | 0 => rfl
 | n + 1 => by
  rw [lsum, co_addL]
  show co (lsum n f) i ^^^ co (f n) i = _
  rw [co_lsum f i n]; rfl
theorem ev_lsum (f : Nat → List UInt8) (x : UInt8) : ∀ n, ev (lsum n f) x = xs n (fun j => ev (f j) x)
 | 0 => rfl
 | n + 1 => by rw [lsum, ev_addL, ev_lsum f x n]; rfl
section
variable {k m : Nat} {bs z c : List UInt8} {ms : List Bool}
def vv (k m : Nat) (z c : List UInt8) (i : Nat) : UInt8 := gm (co z i ^^^ co c i) (wgt k m i)
def FF (D : List Nat) : List UInt8 := loc (D.map pt)
theorem FF_root {D : List Nat} {x : UInt8} : ev (FF D) x = 0 ↔ x ∈ D.map pt := pr_zero
def dd (D : List Nat) (i : Nat) : UInt8 := ev (dv (pt i) (FF D)) (pt i)
theorem dv_other {D : List Nat} {i j : Nat} (hi : i ∈ D) (hj : j ∈ D) (h : pt i ≠ pt j) : ev (dv (pt j) (FF D)) (pt i) = 0 := by
 have h1 := ev_dv (FF_root.2 (List.mem_map.2 ⟨j, hj, rfl⟩)) (pt i)
 rw [FF_root.2 (List.mem_map.2 ⟨i, hi, rfl⟩)] at h1
 rcases gm_eq_zero.1 h1.symm with h2 | h2
 ·exact (h (x_eq_zero.1 h2).symm).elim
 ·exact h2
theorem dd_ne {D : List Nat} (hD : (D.map pt).Nodup) {i : Nat} (hi : i ∈ D) : dd D i ≠ 0 := fun h => by
 have hl : (D.map pt).length = D.length := List.length_map ..
 have h1 := dv_spec (pt i) (FF D)
 rw [FF_root.2 (List.mem_map.2 ⟨i, hi, rfl⟩), sm_zero, sa_sz] at h1
 have hdeg : Deg (D.length + 1) (co (FF D)) := by have := loc_deg (D.map pt); rwa [hl] at this
 have h2 : co (dv (pt i) (FF D)) = sz := by
  refine roots hD (fun x hx => ?_) ?_
  ·obtain ⟨j, hj, rfl⟩ := List.mem_map.1 hx
   by_cases e : pt j = pt i
   ·rw [e]; exact h
   ·exact dv_other hj hi e
  ·rw [hl]; exact dv_deg _ hdeg
 have h3 := loc_top (D.map pt)
 have h4 : co (loc (D.map pt)) = sz := by
  show co (FF D) = sz
  rw [h1, h2, act_sz]
 rw [h4] at h3
 exact (show ¬ (0 : UInt8) = 1 by decide) h3
def RR (k m : Nat) (z c : List UInt8) (D : List Nat) : List UInt8 := lsum (k + m) fun j => smL (gm (vv k m z c j) (pw (pt j) m)) (dv (pt j) (FF D))
def OO (k m : Nat) (z c : List UInt8) (D : List Nat) : List UInt8 := lsum (k + m) fun j => smL (vv k m z c j) (dv (pt j) (FF D))
theorem key_eq (hc : Code k m c) {D : List Nat} (hD : ∀ i, i < k + m → co z i ≠ co c i → i ∈ D) {T : List UInt8} (hT : ∀ i, co T i = if i < m then syn k m z (m - 1 - i) else 0) :
  act (FF D) (co T) = sa (co (RR k m z c D)) (sh m (co (OO k m z c D))) := by
 have h1 : co T = fun i => xs (k + m) fun j => sm (vv k m z c j) (co (geo (pt j) m)) i := funext fun i => by
  rw [hT]
  by_cases hi : i < m
  ·rw [if_pos hi]
   have h2 : syn k m z (m - 1 - i) = syn k m z (m - 1 - i) ^^^ syn k m c (m - 1 - i) := by rw [hc.2 _ (by omega), x0]
   rw [h2]
   unfold syn
   rw [← xs_xor]
   refine xs_congr fun j _ => ?_
   show _ = gm _ (co (geo (pt j) m) i)
   rw [co_geo, if_pos hi, ← xor_gm, ← xor_gm]; rfl
  ·rw [if_neg hi]
   refine (xs_zero fun j _ => ?_).symm
   show gm _ (co (geo (pt j) m) i) = 0
   rw [co_geo, if_neg hi, gm_zero]
 have h2 : ∀ (p : List UInt8) (n : Nat) (f : Nat → Se), act p (fun i => xs n fun j => f j i) = fun i => xs n fun j => act p (f j) i := by
  intro p n f
  induction n with
  | zero => exact act_sz p
  | succ n ih =>
   show act p (sa (fun i => xs n fun j => f j i) (f n)) = _
   rw [act_sa, ih]; rfl
 have h3 : ∀ j, j < k + m → act (FF D) (sm (vv k m z c j) (co (geo (pt j) m))) =
   sa (sm (gm (vv k m z c j) (pw (pt j) m)) (co (dv (pt j) (FF D)))) (sh m (sm (vv k m z c j) (co (dv (pt j) (FF D))))) := by
  intro j hj
  rw [act_sm, sm_mul, sh_sm, ← sm_sa]
  by_cases hv : co z j = co c j
  ·have : vv k m z c j = 0 := by unfold vv; rw [hv, xx, zero_gm]
   rw [this, sm_zero, sm_zero]
  ·congr 1
   have h4 := dv_spec (pt j) (FF D)
   rw [FF_root.2 (List.mem_map.2 ⟨j, hD j hj hv, rfl⟩), sm_zero, sa_sz] at h4
   have h5 : act (FF D) (co (geo (pt j) m)) = act (mulL [pt j, 1] (dv (pt j) (FF D))) (co (geo (pt j) m)) := congrFun (act_congr (by rw [h4, co_mulL])) _
   rw [h5, act_mulL, act_comm, act_geo, act_sa, act_sm, act_sh, act_so]
 rw [h1, h2]
 funext i
 show xs (k + m) _ = co (RR k m z c D) i ^^^ sh m (co (OO k m z c D)) i
 have h6 : sh m (co (OO k m z c D)) i = xs (k + m) fun j => sh m (co (smL (vv k m z c j) (dv (pt j) (FF D)))) i := by
  unfold sh OO
  by_cases hi : i < m
  ·rw [if_pos hi]
   exact (xs_zero fun j _ => if_pos hi).symm
  ·rw [if_neg hi, co_lsum]
   exact xs_congr fun j _ => (if_neg hi).symm
 have h7 : co (RR k m z c D) i = xs (k + m) fun j => co (smL (gm (vv k m z c j) (pw (pt j) m)) (dv (pt j) (FF D))) i := co_lsum _ _ _
 rw [h6, h7, ← xs_xor]
 refine xs_congr fun j hj => ?_
 rw [h3 j hj, co_smL, co_smL]; rfl
theorem RR_deg (D : List Nat) : Deg D.length (co (RR k m z c D)) := fun i hi => by
 unfold RR
 rw [co_lsum]
 refine xs_zero fun j _ => ?_
 rw [co_smL]
 have hl : (D.map pt).length = D.length := List.length_map ..
 have := loc_deg (D.map pt)
 rw [hl] at this
 have h0 : co (dv (pt j) (FF D)) i = 0 := dv_deg (pt j) this i hi
 show gm _ (co (dv (pt j) (FF D)) i) = 0
 rw [h0, gm_zero]
theorem OO_ev {D : List Nat} (hkm : k + m ≤ 256) (hlt : ∀ i ∈ D, i < k + m) (hD : ∀ i, i < k + m → co z i ≠ co c i → i ∈ D) {i : Nat} (hi : i ∈ D) : ev (OO k m z c D) (pt i) = gm (vv k m z c i) (dd D i) := by
 unfold OO
 rw [ev_lsum, xs_one (hlt i hi) fun j hj hne => ?_, ev_smL]
 ·rfl
 ·rw [ev_smL]
  by_cases hv : co z j = co c j
  ·have : vv k m z c j = 0 := by unfold vv; rw [hv, xx, zero_gm]
   rw [this, zero_gm]
  ·rw [dv_other hi (hD j hj hv) fun e => hne (pt_inj (by have := hlt i hi; omega) (by omega) e).symm, gm_zero]
end
end Go.Gf
namespace Go.Gf
theorem nodup_pts : ∀ {D : List Nat}, D.Nodup → (∀ i ∈ D, i < 256) → (D.map pt).Nodup
 | [], _, _ => by simp
 | a :: D, h, hl => by
  rw [List.nodup_cons] at h
  rw [List.map_cons, List.nodup_cons]
  refine ⟨fun hm => ?_, nodup_pts h.2 fun i hi => hl i (List.mem_cons_of_mem _ hi)⟩
  obtain ⟨i, hi, e⟩ := List.mem_map.1 hm
  have := pt_inj (hl i (List.mem_cons_of_mem _ hi)) (hl a List.mem_cons_self) e
  subst this
  exact h.1 hi
theorem loc_append (u v : List UInt8) : co (loc (u ++ v)) = act (loc u) (co (loc v)) := by
 induction u with
 | nil =>
  show co (loc v) = sa (sm 1 _) (sh1 sz)
  rw [sm_one, sh1_sz, sa_sz]
 | cons a u ih =>
  show co (mulL [a, 1] (loc (u ++ v))) = act (mulL [a, 1] (loc u)) _
  rw [co_mulL, ih, act_mulL]
theorem mem_mis {n i : Nat} {ms : List Bool} : i ∈ mis n ms ↔ i < n ∧ ms.getD i false = true := by
 simp only [mis, List.mem_filter, List.mem_range]
theorem mem_dif {n i : Nat} {ms : List Bool} {a b : List UInt8} : i ∈ dif n ms a b ↔ i < n ∧ ms.getD i false = false ∧ co a i ≠ co b i := by
 simp only [dif, List.mem_filter, List.mem_range, Bool.and_eq_true, Bool.not_eq_true', decide_eq_true_eq]
theorem dif_nodup (n : Nat) (ms : List Bool) (a b : List UInt8) : (dif n ms a b ++ mis n ms).Nodup := by
 rw [List.nodup_append]
 refine ⟨List.nodup_range.filter _, List.nodup_range.filter _, fun i hi j hj e => ?_⟩
 subst e
 have h1 := (mem_dif.1 hi).2.1
 rw [(mem_mis.1 hj).2] at h1
 cases h1
structure WordIn (k m : Nat) (bs z : List UInt8) (ms : List Bool) (T g P : List UInt8) : Prop where
 km : k + m ≤ 256
 zz : ∀ i, i < k + m → co z i = if ms.getD i false = true then 0 else co bs i
 tt : ∀ i, co T i = if i < m then syn k m z (m - 1 - i) else 0
 gg : co g = co (loc ((mis (k + m) ms).map pt))
 gn : Normal g
 pp : co P = act g (co T)
section
variable {k m : Nat} {bs z c : List UInt8} {ms : List Bool} {T g P : List UInt8}
abbrev trunc (m : Nat) (P : List UInt8) : Se := fun i => if i < m then co P i else 0
theorem trunc_split (m : Nat) (P : List UInt8) : co P = sa (trunc m P) (sh m (co (P.drop m))) := funext fun i => by
 simp only [sa, sh]
 by_cases hi : i < m
 ·rw [if_pos hi, x0]
  exact (if_pos hi).symm
 ·rw [if_neg hi, show trunc m P i = 0 from if_neg hi, zx]
  simp only [co, List.getD_eq_getElem?_getD, List.getElem?_drop]
  rw [show m + (i - m) = i by omega]
theorem WordIn.where_ (h : WordIn k m bs z ms T g P) {i : Nat} (hi : i < k + m) (hn : co z i ≠ co c i) : i ∈ dif (k + m) ms c bs ++ mis (k + m) ms := by
 rw [List.mem_append, mem_dif, mem_mis]
 rw [h.zz i hi] at hn
 by_cases h1 : ms.getD i false = true
 ·exact .inr ⟨hi, h1⟩
 ·rw [if_neg h1] at hn
  exact .inl ⟨hi, by simpa using h1, Ne.symm hn⟩
theorem WordIn.ff (h : WordIn k m bs z ms T g P) (E : List Nat) {b : List UInt8} (hb : co b = co (loc (E.map pt))) : act b (co g) = co (FF (E ++ mis (k + m) ms)) := by
 unfold FF
 rw [List.map_append, loc_append, h.gg, act_congr hb]
theorem WordIn.lt {i : Nat} (hi : i ∈ dif (k + m) ms c bs ++ mis (k + m) ms) : i < k + m := by
 rw [List.mem_append, mem_dif, mem_mis] at hi
 exact hi.elim (·.1) (·.1)
theorem WordIn.good (h : WordIn k m bs z ms T g P) (hc : Near k m bs ms c) : Good m (mis (k + m) ms).length (dif (k + m) ms c bs).length (trunc m P) (loc ((dif (k + m) ms c bs).map pt)) ((dif (k + m) ms c bs).map pt) := by
 have hkm := h.km
 have hnd := nodup_pts (dif_nodup (k + m) ms c bs) fun i hi => by have := WordIn.lt hi; omega
 have hnd1 := hnd
 rw [List.map_append, List.nodup_append] at hnd1
 have hl : ((dif (k + m) ms c bs).map pt).length = (dif (k + m) ms c bs).length := List.length_map ..
 refine ⟨hnd1.1, hl, fun x hx => pr_zero.2 hx, by have := loc_deg ((dif (k + m) ms c bs).map pt); rwa [hl] at this,
  by have := loc_top ((dif (k + m) ms c bs).map pt); rw [hl] at this; rw [this]; decide, hc.few, ?_⟩
 have hkey := key_eq (z := z) hc.code (fun i hi hn => h.where_ hi hn) h.tt
 refine ⟨RR k m z c (dif (k + m) ms c bs ++ mis (k + m) ms), addL (OO k m z c (dif (k + m) ms c bs ++ mis (k + m) ms)) (mulL (loc ((dif (k + m) ms c bs).map pt)) (P.drop m)), ?_, ?_, fun x hx => ?_⟩
 ·have := RR_deg (k := k) (m := m) (z := z) (c := c) (dif (k + m) ms c bs ++ mis (k + m) ms)
  rwa [List.length_append] at this
 ·have h1 : act (loc ((dif (k + m) ms c bs).map pt)) (co P) = act (FF (dif (k + m) ms c bs ++ mis (k + m) ms)) (co T) := by
   rw [h.pp, ← act_mulL]
   refine congrFun (act_congr ?_) _
   rw [co_mulL, h.ff _ rfl]
  rw [trunc_split m P, act_sa, act_sh] at h1
  rw [co_addL, co_mulL, sh_sa]
  have h2 : act (loc ((dif (k + m) ms c bs).map pt)) (trunc m P) =
    sa (sa (act (loc ((dif (k + m) ms c bs).map pt)) (trunc m P)) (sh m (act (loc ((dif (k + m) ms c bs).map pt)) (co (P.drop m))))) (sh m (act (loc ((dif (k + m) ms c bs).map pt)) (co (P.drop m)))) := by
   rw [sa_assoc, sa_self, sa_sz]
  rw [h2, h1, hkey, sa_assoc]
 ·obtain ⟨i, hi, rfl⟩ := List.mem_map.1 hx
  have hiD : i ∈ dif (k + m) ms c bs ++ mis (k + m) ms := List.mem_append_left _ hi
  rw [ev_addL, ev_mulL, show ev (loc ((dif (k + m) ms c bs).map pt)) (pt i) = 0 from pr_zero.2 hx, zero_gm, x0, OO_ev hkm (fun j hj => WordIn.lt hj) (fun j hj hn => h.where_ hj hn) hiD]
  refine gm_ne (gm_ne ?_ (wgt_ne (by have := WordIn.lt hiD; omega) hkm)) (dd_ne hnd hiD)
  obtain ⟨h1, h2, h3⟩ := mem_dif.1 hi
  rw [h.zz i h1, h2, if_neg (by decide)]
  intro e
  exact h3 (x_eq_zero.1 e).symm
theorem WordIn.right (h : WordIn k m bs z ms T g P) (hc : Near k m bs ms c) {b o full slope : List UInt8} (hf : Found m (mis (k + m) ms).length (co P) b o) (ef : co full = act b (co g)) (es : co slope = der (co full)) :
  b.length = (dif (k + m) ms c bs).length + 1 ∧ (∀ i, i < k + m → (ev full (pt i) = 0 ↔ i ∈ dif (k + m) ms c bs ++ mis (k + m) ms)) ∧
   ∀ i, i ∈ dif (k + m) ms c bs ++ mis (k + m) ms → co z i ^^^ gm (ev o (pt i)) (gi (gm (ev slope (pt i)) (wgt k m i))) = co c i := by
 have hkm := h.km
 have hnd := nodup_pts (dif_nodup (k + m) ms c bs) fun i hi => by have := WordIn.lt hi; omega
 have hg := h.good hc
 obtain ⟨hl, hr⟩ := hf.good _ _ _ hg
 have hb : co b = co (loc ((dif (k + m) ms c bs).map pt)) := by
  have h1 : co (addL b (loc ((dif (k + m) ms c bs).map pt))) = sz := by
   refine roots hg.nodup (fun x hx => by rw [ev_addL, hr x hx, hg.root x hx, xx]) ?_
   rw [hg.len, co_addL]
   intro i hi
   show co b i ^^^ co (loc _) i = 0
   by_cases e : i = (dif (k + m) ms c bs).length
   ·subst e
    have h2 := hf.lead
    rw [hl, Nat.add_sub_cancel] at h2
    have h3 := loc_top ((dif (k + m) ms c bs).map pt)
    rw [List.length_map] at h3
    rw [h2, h3, xx]
   ·rw [co_out (p := b) (by omega), hg.deg i (by omega), xx]
  funext i
  have := congrFun h1 i
  rw [co_addL] at this
  exact x_eq_zero.1 this
 have hF : co full = co (FF (dif (k + m) ms c bs ++ mis (k + m) ms)) := by rw [ef, h.ff _ hb]
 refine ⟨hl, fun i hi => ?_, fun i hi => ?_⟩
 ·rw [ev_congr hF, FF_root]
  constructor
  ·intro hm
   obtain ⟨j, hj, e⟩ := List.mem_map.1 hm
   have := pt_inj (by have := WordIn.lt hj; omega) (by omega) e
   rwa [← this]
  ·exact fun hm => List.mem_map.2 ⟨i, hm, rfl⟩
 ·have h1 := dv_spec (pt i) (FF (dif (k + m) ms c bs ++ mis (k + m) ms))
  rw [FF_root.2 (List.mem_map.2 ⟨i, hi, rfl⟩), sm_zero, sa_sz] at h1
  have hs : ev slope (pt i) = dd (dif (k + m) ms c bs ++ mis (k + m) ms) i := der_root (by rw [hF, h1]) es
  have hkey := key_eq (z := z) hc.code (fun i hi hn => h.where_ hi hn) h.tt
  have ho : co o = co (OO k m z c (dif (k + m) ms c bs ++ mis (k + m) ms)) := funext fun j => by
   rw [hf.out j, h.pp, ← act_mulL, act_congr (show co (mulL b g) = co (FF (dif (k + m) ms c bs ++ mis (k + m) ms)) by rw [co_mulL, h.ff _ hb]), hkey]
   show co (RR k m z c _) (m + j) ^^^ sh m (co (OO k m z c _)) (m + j) = _
   have hd := RR_deg (k := k) (m := m) (z := z) (c := c) (dif (k + m) ms c bs ++ mis (k + m) ms)
   rw [List.length_append] at hd
   have := hc.few
   rw [hd _ (by omega), zx]
   unfold sh
   rw [if_neg (by omega), show m + j - m = j by omega]
  rw [ev_congr ho, OO_ev hkm (fun j hj => WordIn.lt hj) (fun j hj hn => h.where_ hj hn) hi, hs]
  have hw : wgt k m i ≠ 0 := wgt_ne (by have := WordIn.lt hi; omega) hkm
  have hd := dd_ne hnd hi
  unfold vv
  have e : gm (gm (gm (co z i ^^^ co c i) (wgt k m i)) (dd (dif (k + m) ms c bs ++ mis (k + m) ms) i)) (gi (gm (dd (dif (k + m) ms c bs ++ mis (k + m) ms) i) (wgt k m i))) = co z i ^^^ co c i := by
   rw [gm_assoc (co z i ^^^ co c i), gm_comm (wgt k m i), gm_assoc, gm_gi (gm_ne hd hw), gm_one]
  rw [e, xx_left]
theorem filter_len_le {α : Type} {p q : α → Bool} {l : List α} (h : ∀ a ∈ l, p a = true → q a = true) : (l.filter p).length ≤ (l.filter q).length := by
 rw [← List.countP_eq_length_filter, ← List.countP_eq_length_filter]
 exact List.countP_mono_left h
theorem filter_two {α : Type} (p q : α → Bool) (l : List α) : (l.filter p).length = (l.filter fun a => p a && !q a).length + (l.filter fun a => p a && q a).length := by
 induction l with
 | nil => rfl
 | cons a l ih =>
  by_cases hp : p a <;> by_cases hq : q a <;> simp [hp, hq, ih] <;> omega
theorem mul_len {b g full : List UInt8} (hb : Normal b) (hg : Normal g) (hf : Normal full) (b0 : b ≠ []) (g0 : g ≠ []) (e : co full = act b (co g)) : full.length + 1 = b.length + g.length := hb.mul_len hg hf e b0 g0
theorem WordIn.glen (h : WordIn k m bs z ms T g P) : g.length = (mis (k + m) ms).length + 1 := by
 have hd := loc_deg ((mis (k + m) ms).map pt)
 have ht := loc_top ((mis (k + m) ms).map pt)
 rw [List.length_map, ← h.gg] at hd ht
 have h1 := h.gn.le hd
 have h2 : (mis (k + m) ms).length < g.length := Normal.pos (by rw [ht]; decide)
 omega
def zer (n : Nat) (full : List UInt8) : List Nat := (List.range n).filter fun i => decide (ev full (pt i) = 0)
def wrg (n : Nat) (ms : List Bool) (full : List UInt8) : List Nat := (List.range n).filter fun i => decide (ev full (pt i) = 0) && !ms.getD i false
def fixd (k m : Nat) (z full o slope : List UInt8) (i : Nat) : UInt8 := if ev full (pt i) = 0 then co z i ^^^ gm (ev o (pt i)) (gi (gm (ev slope (pt i)) (wgt k m i))) else co z i
theorem WordIn.complete (h : WordIn k m bs z ms T g P) (hc : Near k m bs ms c) {b o full slope out : List UInt8} (hf : Found m (mis (k + m) ms).length (co P) b o) (hn : Normal full) (ef : co full = act b (co g)) (es : co slope = der (co full))
  (ho : out.length = k + m) (hout : ∀ i, i < k + m → co out i = fixd k m z full o slope i) : out = c ∧ wrg (k + m) ms full = dif (k + m) ms c bs ∧ (zer (k + m) full).length + 1 = full.length := by
 obtain ⟨h1, h2, h3⟩ := h.right hc hf ef es
 refine ⟨co_ext (by rw [ho, hc.code.1]) fun i hi => ?_, List.filter_congr fun i hi => ?_, ?_⟩
 ·rw [ho] at hi
  rw [hout i hi]
  unfold fixd
  by_cases e : ev full (pt i) = 0
  ·rw [if_pos e]; exact h3 i ((h2 i hi).1 e)
  ·rw [if_neg e]
   refine Decidable.byContradiction fun hne => e ((h2 i hi).2 (h.where_ hi hne))
 ·rw [List.mem_range] at hi
  have := h2 i hi
  rw [List.mem_append, mem_dif, mem_mis] at this
  rw [Bool.eq_iff_iff]
  simp only [Bool.and_eq_true, decide_eq_true_eq, Bool.not_eq_true', this]
  constructor
  ·rintro ⟨h4 | h4, h5⟩
   ·exact ⟨h5, h4.2.2⟩
   ·rw [h4.2] at h5; cases h5
  ·rintro ⟨h4, h5⟩
   exact ⟨.inl ⟨hi, h4, h5⟩, h4⟩
 ·have hg := h.glen
  have hl := mul_len hf.nb h.gn hn hf.b0 (by rintro e; rw [e] at hg; simp at hg) ef
  have e1 : (zer (k + m) full).length = (dif (k + m) ms c bs).length + (mis (k + m) ms).length := by
   unfold zer
   rw [filter_two (fun i => decide (ev full (pt i) = 0)) (fun i => ms.getD i false)]
   congr 1
   ·refine congrArg _ (List.filter_congr fun i hi => ?_)
    rw [List.mem_range] at hi
    have := h2 i hi
    rw [List.mem_append, mem_dif, mem_mis] at this
    rw [Bool.eq_iff_iff]
    simp only [Bool.and_eq_true, decide_eq_true_eq, Bool.not_eq_true', this]
    constructor
    ·rintro ⟨h4 | h4, h5⟩
     ·exact ⟨h5, h4.2.2⟩
     ·rw [h4.2] at h5; cases h5
    ·rintro ⟨h4, h5⟩
     exact ⟨.inl ⟨hi, h4, h5⟩, h4⟩
   ·refine congrArg _ (List.filter_congr fun i hi => ?_)
    rw [List.mem_range] at hi
    have := h2 i hi
    rw [List.mem_append, mem_mis] at this
    rw [Bool.eq_iff_iff]
    simp only [Bool.and_eq_true, decide_eq_true_eq, this]
    constructor
    ·rintro ⟨_, h5⟩; exact h5
    ·intro h5; exact ⟨.inr ⟨hi, h5⟩, h5⟩
  omega
theorem WordIn.sound (h : WordIn k m bs z ms T g P) {b o full slope out : List UInt8} (hf : Found m (mis (k + m) ms).length (co P) b o) (hn : Normal full) (ef : co full = act b (co g))
  (ho : out.length = k + m) (hout : ∀ i, i < k + m → co out i = fixd k m z full o slope i) (hr : (zer (k + m) full).length + 1 = full.length) (hs : ∀ l, l < m → syn k m out l = 0) : Near k m bs ms out := by
 refine ⟨⟨ho, hs⟩, ?_⟩
 have hg := h.glen
 have hl := mul_len hf.nb h.gn hn hf.b0 (by rintro e; rw [e] at hg; simp at hg) ef
 have h1 : (dif (k + m) ms out bs).length ≤ ((List.range (k + m)).filter fun i => decide (ev full (pt i) = 0) && !ms.getD i false).length := by
  refine filter_len_le fun i hi hp => ?_
  rw [List.mem_range] at hi
  simp only [Bool.and_eq_true, Bool.not_eq_true', decide_eq_true_eq] at hp ⊢
  refine ⟨?_, hp.1⟩
  refine Decidable.byContradiction fun hz => hp.2 ?_
  rw [hout i hi, fixd, if_neg hz, h.zz i hi, hp.1, if_neg (by decide)]
 have h2 : (mis (k + m) ms).length ≤ ((List.range (k + m)).filter fun i => decide (ev full (pt i) = 0) && ms.getD i false).length := by
  refine filter_len_le fun i hi hp => ?_
  rw [List.mem_range] at hi
  rw [Bool.and_eq_true, decide_eq_true_eq]
  refine ⟨?_, hp⟩
  have h3 : ev g (pt i) = 0 := by
   rw [ev_congr h.gg]
   exact pr_zero.2 (List.mem_map.2 ⟨i, mem_mis.2 ⟨hi, hp⟩, rfl⟩)
  rw [ev_act ef, h3, gm_zero]
 have h3 := filter_two (fun i => decide (ev full (pt i) = 0)) (fun i => ms.getD i false) (List.range (k + m))
 have h4 : ((List.range (k + m)).filter fun i => decide (ev full (pt i) = 0)).length = (zer (k + m) full).length := rfl
 have h5 := hf.few
 omega
theorem WordIn.ok (h : WordIn k m bs z ms T g P) {b o full slope out : List UInt8} (hf : Found m (mis (k + m) ms).length (co P) b o) (hn : Normal full) (ef : co full = act b (co g)) (es : co slope = der (co full))
  (ho : out.length = k + m) (hout : ∀ i, i < k + m → co out i = fixd k m z full o slope i) (hr : (zer (k + m) full).length + 1 = full.length) (hs : ∀ l, l < m → syn k m out l = 0) :
  decM k m bs ms = some out ∧ wrg (k + m) ms full = dif (k + m) ms out bs := by
 have hc := h.sound hf hn ef ho hout hr hs
 exact ⟨decM_some h.km hc, (h.complete hc hf hn ef es ho hout).2.1⟩
theorem WordIn.many (h : WordIn k m bs z ms T g P) {b o full slope out : List UInt8} (hf : Found m (mis (k + m) ms).length (co P) b o) (hn : Normal full) (ef : co full = act b (co g)) (es : co slope = der (co full))
  (ho : out.length = k + m) (hout : ∀ i, i < k + m → co out i = fixd k m z full o slope i) (hr : ¬ ((zer (k + m) full).length + 1 = full.length ∧ ∀ l, l < m → syn k m out l = 0)) : decM k m bs ms = none := by
 refine decM_none fun c hc => hr ?_
 obtain ⟨h1, _, h3⟩ := h.complete hc hf hn ef es ho hout
 refine ⟨h3, ?_⟩
 rw [h1]; exact hc.code.2
theorem WordIn.none (h : WordIn k m bs z ms T g P) (hn : ∀ t L pts, ¬ Good m (mis (k + m) ms).length t (trunc m P) L pts) : decM k m bs ms = none :=
 decM_none fun _ hc => hn _ _ _ (h.good hc)
theorem many_missing {k m : Nat} {bs : List UInt8} {ms : List Bool} (h : m < (mis (k + m) ms).length) : decM k m bs ms = none :=
 decM_none fun _ hc => by have := hc.few; omega
end
end Go.Gf
namespace Go.Gf
def gadd (t s : Nat) (f : UInt8) (W : Nat → Nat → UInt8) (r c : Nat) : UInt8 := if r = t then W t c ^^^ gm (W s c) f else W r c
structure GInv (n : Nat) (A W : Nat → Nat → UInt8) : Prop where
 left : ∀ r, r < n → ∀ c, c < n → W r c = xs n fun j => gm (W r (n + j)) (A j c)
 inj : ∀ y : Nat → UInt8, (∀ r, r < n → xs n (fun j => gm (W r (n + j)) (y j)) = 0) → ∀ j, j < n → y j = 0
def GDone (n : Nat) (W : Nat → Nat → UInt8) (c : Nat) : Prop := ∀ r, r < n → ∀ c', c' < c → W r c' = if r = c' then 1 else 0
section
variable {n : Nat} {A W : Nat → Nat → UInt8}
theorem xs_lin (f g : Nat → UInt8) (y : UInt8) (z : Nat → UInt8) (n : Nat) : xs n (fun j => gm (f j ^^^ gm (g j) y) (z j)) = xs n (fun j => gm (f j) (z j)) ^^^ gm y (xs n fun j => gm (g j) (z j)) := by
 rw [← xs_gm, ← xs_xor]
 exact xs_congr fun j _ => by rw [xor_gm, gm_comm (g j) y, gm_assoc]
theorem GInv.add (h : GInv n A W) {t s : Nat} (f : UInt8) (hts : t ≠ s) (ht : t < n) (hs : s < n) : GInv n A (gadd t s f W) := by
 refine ⟨fun r hr c hc => ?_, fun y hy => h.inj y fun r hr => ?_⟩
 ·unfold gadd
  by_cases e : r = t
  ·subst e
   simp only [if_true]
   rw [xs_lin, ← h.left r hr c hc, ← h.left s hs c hc, gm_comm f]
  ·simp only [if_neg e]
   exact h.left r hr c hc
 ·have h1 := hy r hr
  unfold gadd at h1
  by_cases e : r = t
  ·subst e
   simp only [if_true] at h1
   have h2 := hy s hs
   unfold gadd at h2
   simp only [if_neg (fun e : s = r => hts e.symm)] at h2
   rw [xs_lin, h2, gm_zero, x0] at h1
   exact h1
  ·simp only [if_neg e] at h1
   exact h1
theorem GInv.congr (h : GInv n A W) {W' : Nat → Nat → UInt8} (e : ∀ r, r < n → ∀ c, c < 2 * n → W' r c = W r c) : GInv n A W' := by
 have e2 : ∀ r, r < n → ∀ z : Nat → UInt8, xs n (fun j => gm (W' r (n + j)) (z j)) = xs n (fun j => gm (W r (n + j)) (z j)) := fun r hr z => xs_congr fun j hj => by rw [e r hr _ (by omega)]
 refine ⟨fun r hr c hc => ?_, fun y hy => h.inj y fun r hr => ?_⟩
 ·rw [e2 r hr, e r hr c (by omega)]; exact h.left r hr c hc
 ·rw [← e2 r hr]; exact hy r hr
theorem GDone.congr {c : Nat} (h : GDone n W c) (hc : c ≤ n) {W' : Nat → Nat → UInt8} (e : ∀ r, r < n → ∀ c, c < 2 * n → W' r c = W r c) : GDone n W' c := fun r hr c' hc' => by rw [e r hr c' (by omega)]; exact h r hr c' hc'
theorem GDone.zero (n : Nat) (W : Nat → Nat → UInt8) : GDone n W 0 := fun _ _ _ h => (Nat.not_lt_zero _ h).elim
theorem GDone.add {c t s : Nat} (h : GDone n W c) (f : UInt8) (ht : t < n) (hs : s < n) (hsc : c ≤ s) : GDone n (gadd t s f W) c := fun r hr c' hc' => by
 unfold gadd
 by_cases e : r = t
 ·subst e
  rw [if_pos rfl, h r hr c' hc', h s hs c' hc', if_neg (show ¬ s = c' by omega), zero_gm, x0]
 ·rw [if_neg e]; exact h r hr c' hc'
theorem GDone.next {c : Nat} (h : GDone n W c) (hc : W c c = 1) (hz : ∀ r, r < n → r ≠ c → W r c = 0) : GDone n W (c + 1) := fun r hr c' hc' => by
 by_cases e : c' < c
 ·exact h r hr c' e
 ·have e2 : c' = c := by omega
  subst e2
  by_cases e3 : r = c'
  ·rw [if_pos e3, e3, hc]
  ·rw [if_neg e3]; exact hz r hr e3
theorem GInv.done (h : GInv n A W) (hd : GDone n W n) : ∀ r, r < n → ∀ c, c < n → xs n (fun j => gm (W r (n + j)) (A j c)) = if r = c then 1 else 0 := fun r hr c hc => by
 rw [← h.left r hr c hc]; exact hd r hr c hc
end
theorem filter_split (n : Nat) (p : Nat → Bool) : ((List.range n).filter p).length + ((List.range n).filter fun i => !p i).length = n := by
 induction n with
 | zero => rfl
 | succ n ih =>
  rw [List.range_succ, List.filter_append, List.filter_append, List.length_append, List.length_append]
  cases h : p n <;> simp [h] <;> omega
end Go.Gf
