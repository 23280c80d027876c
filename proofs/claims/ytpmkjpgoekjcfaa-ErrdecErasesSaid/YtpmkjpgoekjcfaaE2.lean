/- Sums, and polynomials over the field. -/
import Derived.Test.YtpmkjpgoekjcfaaE1
namespace Go.Gf

/-! ## sums -/
def xs : Nat → (Nat → UInt8) → UInt8
  | 0, _ => 0
  | n + 1, f => xs n f ^^^ f n
theorem xs_congr {f g : Nat → UInt8} : ∀ {n : Nat}, (∀ i, i < n → f i = g i) → xs n f = xs n g
  | 0, _ => rfl
  | n + 1, h => by rw [xs, xs, xs_congr (n := n) fun i hi => h i (by omega), h n (by omega)]
theorem xs_zero {f : Nat → UInt8} : ∀ {n : Nat}, (∀ i, i < n → f i = 0) → xs n f = 0
  | 0, _ => rfl
  | n + 1, h => by rw [xs, xs_zero (n := n) fun i hi => h i (by omega), h n (by omega), xx]
theorem xs_xor (f g : Nat → UInt8) : ∀ n : Nat, xs n (fun i => f i ^^^ g i) = xs n f ^^^ xs n g
  | 0 => (xx 0).symm
  | n + 1 => by rw [xs, xs, xs, xs_xor f g n, UInt8.xor_assoc, UInt8.xor_assoc, x_left (f n)]
theorem xs_gm (c : UInt8) (f : Nat → UInt8) : ∀ n : Nat, xs n (fun i => gm c (f i)) = gm c (xs n f)
  | 0 => (gm_zero c).symm
  | n + 1 => by rw [xs, xs, xs_gm c f n, gm_xor]
theorem xs_swap (f : Nat → Nat → UInt8) (m : Nat) : ∀ n : Nat, xs n (fun i => xs m (f i)) = xs m (fun j => xs n (fun i => f i j))
  | 0 => (xs_zero fun _ _ => rfl).symm
  | n + 1 => by
    rw [xs, xs_swap f m n, ← xs_xor]
    rfl
theorem xs_one {f : Nat → UInt8} {n k : Nat} (hk : k < n) (h : ∀ i, i < n → i ≠ k → f i = 0) : xs n f = f k := by
  induction n with
  | zero => omega
  | succ n ih =>
    rw [xs]
    by_cases e : k = n
    · subst e
      rw [xs_zero fun i hi => h i (by omega) (by omega), zx]
    · rw [ih (by omega) fun i hi => h i (by omega), h n (by omega) (by omega), x0]
theorem xs_add (f : Nat → UInt8) (n : Nat) : ∀ m : Nat, xs (n + m) f = xs n f ^^^ xs m (fun i => f (n + i))
  | 0 => (x0 _).symm
  | m + 1 => by rw [← Nat.add_assoc, xs, xs_add f n m, xs, UInt8.xor_assoc]
theorem xs_more {f : Nat → UInt8} {n m : Nat} (hn : n ≤ m) (h : ∀ i, n ≤ i → i < m → f i = 0) : xs m f = xs n f := by
  obtain ⟨k, rfl⟩ : ∃ k, m = n + k := ⟨m - n, by omega⟩
  rw [xs_add, xs_zero (n := k) fun i hi => h (n + i) (by omega) (by omega), x0]

/-! ## series -/
abbrev Se := Nat → UInt8
def sa (s t : Se) : Se := fun i => s i ^^^ t i
def sm (c : UInt8) (s : Se) : Se := fun i => gm c (s i)
def sh1 (s : Se) : Se
  | 0 => 0
  | i + 1 => s i
def sh (m : Nat) (s : Se) : Se := fun i => if i < m then 0 else s (i - m)
def sz : Se := fun _ => 0
def so : Se
  | 0 => 1
  | _ + 1 => 0

theorem sa_comm (s t : Se) : sa s t = sa t s := funext fun _ => UInt8.xor_comm _ _
theorem sa_assoc (s t u : Se) : sa (sa s t) u = sa s (sa t u) := funext fun _ => UInt8.xor_assoc _ _ _
theorem sa_left (s t u : Se) : sa s (sa t u) = sa t (sa s u) := funext fun _ => x_left _ _ _
theorem sa_self (s : Se) : sa s s = sz := funext fun _ => xx _
theorem sa_sz (s : Se) : sa s sz = s := funext fun _ => x0 _
theorem sz_sa (s : Se) : sa sz s = s := funext fun _ => zx _
theorem sa_self_left (s t : Se) : sa s (sa s t) = t := funext fun _ => xx_left _ _
theorem sh1_sa (s t : Se) : sh1 (sa s t) = sa (sh1 s) (sh1 t) := funext fun i => by cases i <;> simp [sh1, sa]
theorem sh1_sm (c : UInt8) (s : Se) : sh1 (sm c s) = sm c (sh1 s) := funext fun i => by cases i <;> simp [sh1, sm, gm_zero]
theorem sm_sa (c : UInt8) (s t : Se) : sm c (sa s t) = sa (sm c s) (sm c t) := funext fun _ => gm_xor _ _ _
theorem sm_sm (c d : UInt8) (s : Se) : sm c (sm d s) = sm d (sm c s) := funext fun _ => gm_left_comm _ _ _
theorem sm_mul (c d : UInt8) (s : Se) : sm (gm c d) s = sm c (sm d s) := funext fun _ => gm_assoc _ _ _
theorem sm_xor (c d : UInt8) (s : Se) : sm (c ^^^ d) s = sa (sm c s) (sm d s) := funext fun _ => xor_gm _ _ _
theorem sm_sz (c : UInt8) : sm c sz = sz := funext fun _ => gm_zero _
theorem sm_zero (s : Se) : sm 0 s = sz := funext fun _ => zero_gm _
theorem sm_one (s : Se) : sm 1 s = s := funext fun _ => one_gm _
theorem sh1_sz : sh1 sz = sz := funext fun i => by cases i <;> rfl
theorem sh_sa (m : Nat) (s t : Se) : sh m (sa s t) = sa (sh m s) (sh m t) := funext fun i => by
  by_cases h : i < m
  · simp only [sh, sa, if_pos h, xx]
  · simp only [sh, sa, if_neg h]
theorem sh_sm (m : Nat) (c : UInt8) (s : Se) : sh m (sm c s) = sm c (sh m s) := funext fun i => by
  by_cases h : i < m
  · simp only [sh, sm, if_pos h, gm_zero]
  · simp only [sh, sm, if_neg h]
theorem sh_zero (s : Se) : sh 0 s = s := funext fun i => by unfold sh; simp
theorem sh_succ (m : Nat) (s : Se) : sh (m + 1) s = sh1 (sh m s) := funext fun i => by
  cases i with
  | zero => rfl
  | succ i =>
    show (if i + 1 < m + 1 then 0 else s (i + 1 - (m + 1))) = if i < m then 0 else s (i - m)
    rw [show i + 1 - (m + 1) = i - m by omega]
    by_cases h : i < m
    · rw [if_pos h, if_pos (by omega)]
    · rw [if_neg h, if_neg (by omega)]

/-- a polynomial's numbers: the lowest first -/
def co (p : List UInt8) : Se := fun i => p.getD i 0
theorem co_nil : co [] = sz := rfl
theorem co_cons (a : UInt8) (p : List UInt8) : co (a :: p) = sa (sm a so) (sh1 (co p)) := funext fun i => by
  cases i with
  | zero => show a = gm a 1 ^^^ 0; rw [gm_one, x0]
  | succ i => show co p i = gm a 0 ^^^ co p i; rw [gm_zero, zx]
theorem co_out {p : List UInt8} {i : Nat} (h : p.length ≤ i) : co p i = 0 := by
  unfold co; rw [List.getD_eq_getElem?_getD, List.getElem?_eq_none h]; rfl

/-- a polynomial times a series -/
def act : List UInt8 → Se → Se
  | [], _ => sz
  | a :: p, s => sa (sm a s) (sh1 (act p s))
theorem act_sa (p : List UInt8) (s t : Se) : act p (sa s t) = sa (act p s) (act p t) := by
  induction p with
  | nil => exact (sa_self sz).symm
  | cons a p ih => simp only [act, ih, sm_sa, sh1_sa]; rw [sa_assoc, sa_assoc, sa_left (sm a t)]
theorem act_sm (p : List UInt8) (c : UInt8) (s : Se) : act p (sm c s) = sm c (act p s) := by
  induction p with
  | nil => exact (sm_sz c).symm
  | cons a p ih => simp only [act, ih, sm_sa, sh1_sm, sm_sm a c]
theorem act_sh1 (p : List UInt8) (s : Se) : act p (sh1 s) = sh1 (act p s) := by
  induction p with
  | nil => exact sh1_sz.symm
  | cons a p ih => simp only [act, ih, sh1_sa, sh1_sm]
theorem act_sz (p : List UInt8) : act p sz = sz := by
  induction p with
  | nil => rfl
  | cons a p ih => simp only [act, ih, sm_sz, sh1_sz, sa_sz]
theorem act_sh (p : List UInt8) (m : Nat) (s : Se) : act p (sh m s) = sh m (act p s) := by
  induction m with
  | zero => rw [sh_zero, sh_zero]
  | succ m ih => rw [sh_succ, sh_succ, act_sh1, ih]
theorem act_comm (p q : List UInt8) (s : Se) : act p (act q s) = act q (act p s) := by
  induction p with
  | nil => exact (act_sz q).symm
  | cons a p ih => simp only [act, ih, act_sa, act_sm, act_sh1]
theorem act_so (p : List UInt8) : act p so = co p := by
  induction p with
  | nil => rfl
  | cons a p ih => rw [act, ih, co_cons]
theorem act_co (p q : List UInt8) : act p (co q) = act q (co p) := by
  rw [← act_so q, act_comm, act_so]

def addL : List UInt8 → List UInt8 → List UInt8
  | [], q => q
  | a :: p, [] => a :: p
  | a :: p, b :: q => (a ^^^ b) :: addL p q
def smL (c : UInt8) (p : List UInt8) : List UInt8 := p.map (gm c)
def mulL : List UInt8 → List UInt8 → List UInt8
  | [], _ => []
  | a :: p, q => addL (smL a q) (0 :: mulL p q)
theorem co_addL (p q : List UInt8) : co (addL p q) = sa (co p) (co q) := by
  induction p generalizing q with
  | nil => rw [addL, co_nil, sz_sa]
  | cons a p ih =>
    cases q with
    | nil => rw [addL, co_nil, sa_sz]
    | cons b q =>
      rw [addL, co_cons, ih, co_cons, co_cons, sm_xor, sh1_sa, sa_assoc, sa_assoc, sa_left (sm b so)]
theorem co_smL (c : UInt8) (p : List UInt8) : co (smL c p) = sm c (co p) := funext fun i => by
  simp only [co, smL, sm, List.getD_eq_getElem?_getD, List.getElem?_map]
  cases p[i]? with
  | none => exact (gm_zero c).symm
  | some a => rfl
theorem co_mulL (p q : List UInt8) : co (mulL p q) = act p (co q) := by
  induction p with
  | nil => rfl
  | cons a p ih =>
    rw [mulL, co_addL, co_smL, act, co_cons, sm_zero, sz_sa, ih]
theorem act_addL (p q : List UInt8) (s : Se) : act (addL p q) s = sa (act p s) (act q s) := by
  induction p generalizing q with
  | nil => rw [addL, act, sz_sa]
  | cons a p ih =>
    cases q with
    | nil => rw [addL]; exact (sa_sz _).symm
    | cons b q => simp only [addL, act, ih, sm_xor, sh1_sa]; rw [sa_assoc, sa_assoc, sa_left (sm b s)]
theorem act_smL (c : UInt8) (p : List UInt8) (s : Se) : act (smL c p) s = sm c (act p s) := by
  induction p with
  | nil => exact (sm_sz c).symm
  | cons a p ih =>
    show sa (sm (gm c a) s) (sh1 (act (smL c p) s)) = _
    rw [ih, act, sm_sa, sm_mul, sh1_sm]
theorem act_mulL (p q : List UInt8) (s : Se) : act (mulL p q) s = act p (act q s) := by
  induction p with
  | nil => rfl
  | cons a p ih =>
    rw [mulL, act_addL, act_smL, act, act, sm_zero, sz_sa, ih]
/-- only its numbers count -/
theorem act_congr {p q : List UInt8} (h : co p = co q) : act p = act q := funext fun s => by
  induction p generalizing q with
  | nil =>
    induction q with
    | nil => rfl
    | cons b q ih =>
      have hb : b = 0 := (congrFun h 0).symm
      have hq : co [] = co q := funext fun i => congrFun h (i + 1)
      rw [hb, show act (0 :: q) s = sa (sm 0 s) (sh1 (act q s)) from rfl, sm_zero, sz_sa, ← ih hq]
      exact sh1_sz.symm
  | cons a p ih =>
    cases q with
    | nil =>
      have ha : a = 0 := congrFun h 0
      have hp : co p = co [] := funext fun i => congrFun h (i + 1)
      rw [ha, show act (0 :: p) s = sa (sm 0 s) (sh1 (act p s)) from rfl, sm_zero, sz_sa, ih hp]
      exact sh1_sz
    | cons b q =>
      have hab : a = b := congrFun h 0
      rw [act, act, hab, ih (q := q) (funext fun i => congrFun h (i + 1))]

/-- from a place on there are noughts -/
def Deg (n : Nat) (s : Se) : Prop := ∀ i, n ≤ i → s i = 0
theorem Deg.mono {n m : Nat} {s : Se} (h : Deg n s) (hm : n ≤ m) : Deg m s := fun i hi => h i (by omega)
theorem Deg.sa {n : Nat} {s t : Se} (h : Deg n s) (k : Deg n t) : Deg n (Gf.sa s t) := fun i hi => by
  show s i ^^^ t i = 0
  rw [h i hi, k i hi, xx]
theorem Deg.sm {n : Nat} {s : Se} (c : UInt8) (h : Deg n s) : Deg n (Gf.sm c s) := fun i hi => by
  show gm c (s i) = 0
  rw [h i hi, gm_zero]
theorem deg_co (p : List UInt8) : Deg p.length (co p) := fun _ hi => co_out hi
theorem deg_zero {s : Se} (h : Deg 0 s) : s = sz := funext fun i => h i (Nat.zero_le _)
theorem act_deg {p : List UInt8} {s : Se} {n k : Nat} (h : Deg n s) (hk : p.length + n ≤ k + 1) : Deg k (act p s) := by
  induction p generalizing k with
  | nil => intro _ _; rfl
  | cons a p ih =>
    intro i hi
    have hl : p.length + 1 + n ≤ k + 1 := by simpa using hk
    have h1 : s i = 0 := h i (by omega)
    cases i with
    | zero => show gm a (s 0) ^^^ 0 = 0; rw [h1, gm_zero, xx]
    | succ i =>
      show gm a (s (i + 1)) ^^^ act p s i = 0
      rw [h1, gm_zero, zx]
      exact ih (k := k - 1) (by omega) i (by omega)
/-- the highest number of a product -/
theorem act_top {p : List UInt8} {s : Se} {n : Nat} (h : Deg (n + 1) s) : ∀ {l : Nat}, Deg (l + 1) (co p) → act p s (l + n) = gm (co p l) (s n) := by
  induction p with
  | nil => intro l _; exact (zero_gm _).symm
  | cons a p ih =>
    intro l hl
    cases l with
    | zero =>
      have hp : co p = co [] := funext fun i => hl (i + 1) (by omega)
      rw [Nat.zero_add, act, act_congr hp]
      show gm a (s n) ^^^ sh1 sz n = gm a (s n)
      rw [sh1_sz]
      exact x0 _
    | succ l =>
      have h1 : s (l + 1 + n) = 0 := h _ (by omega)
      rw [act]
      show gm a (s (l + 1 + n)) ^^^ sh1 (act p s) (l + 1 + n) = gm (co p l) (s n)
      rw [h1, gm_zero, zx, show l + 1 + n = (l + n) + 1 by omega]
      exact ih fun i hi => hl (i + 1) (by omega)

/-! ## what a polynomial is at a number -/
def ev : List UInt8 → UInt8 → UInt8
  | [], _ => 0
  | a :: p, x => a ^^^ gm x (ev p x)
theorem ev_addL (p q : List UInt8) (x : UInt8) : ev (addL p q) x = ev p x ^^^ ev q x := by
  induction p generalizing q with
  | nil => rw [addL]; exact (zx _).symm
  | cons a p ih =>
    cases q with
    | nil => rw [addL]; exact (x0 _).symm
    | cons b q => rw [addL, ev, ev, ev, ih, gm_xor, UInt8.xor_assoc, UInt8.xor_assoc, x_left b]
theorem ev_smL (c : UInt8) (p : List UInt8) (x : UInt8) : ev (smL c p) x = gm c (ev p x) := by
  induction p with
  | nil => exact (gm_zero c).symm
  | cons a p ih =>
    show gm c a ^^^ gm x (ev (smL c p) x) = _
    rw [ih, ev, gm_xor, gm_left_comm]
theorem ev_mulL (p q : List UInt8) (x : UInt8) : ev (mulL p q) x = gm (ev p x) (ev q x) := by
  induction p with
  | nil => exact (zero_gm _).symm
  | cons a p ih =>
    rw [mulL, ev_addL, ev_smL, ev, ev, ih, zx, xor_gm, gm_assoc]
theorem ev_congr {p q : List UInt8} (h : co p = co q) (x : UInt8) : ev p x = ev q x := by
  induction p generalizing q with
  | nil =>
    induction q with
    | nil => rfl
    | cons b q ih =>
      have hb : b = 0 := (congrFun h 0).symm
      rw [hb, show ev (0 :: q) x = 0 ^^^ gm x (ev q x) from rfl, ← ih (funext fun i => congrFun h (i + 1)), zx]
      exact (gm_zero x).symm
  | cons a p ih =>
    cases q with
    | nil =>
      have ha : a = 0 := congrFun h 0
      rw [ha, show ev (0 :: p) x = 0 ^^^ gm x (ev p x) from rfl, ih (q := []) (funext fun i => congrFun h (i + 1)), zx]
      exact gm_zero x
    | cons b q =>
      have hab : a = b := congrFun h 0
      rw [ev, ev, hab, ih (q := q) (funext fun i => congrFun h (i + 1))]
theorem ev_act {p q r : List UInt8} (h : co r = act p (co q)) (x : UInt8) : ev r x = gm (ev p x) (ev q x) := by
  rw [← ev_mulL]; exact ev_congr (by rw [h, co_mulL]) x

/-! ## normal ones -/
def Normal (p : List UInt8) : Prop := p ≠ [] → co p (p.length - 1) ≠ 0
theorem normal_nil : Normal [] := fun h => (h rfl).elim
theorem Normal.le {p : List UInt8} (h : Normal p) {n : Nat} (hn : Deg n (co p)) : p.length ≤ n := by
  by_cases e : p = []
  · subst e; exact Nat.zero_le _
  · refine Decidable.byContradiction fun hl => ?_
    exact h e (hn _ (by omega))
theorem Normal.eq {p q : List UInt8} (hp : Normal p) (hq : Normal q) (h : co p = co q) : p = q := by
  have h1 : p.length ≤ q.length := hp.le (by rw [h]; exact deg_co q)
  have h2 : q.length ≤ p.length := hq.le (by rw [← h]; exact deg_co p)
  refine List.ext_getElem (by omega) fun i hi hj => ?_
  have := congrFun h i
  simpa [co, List.getD_eq_getElem?_getD, hi, hj] using this
theorem Normal.pos {p : List UInt8} {i : Nat} (hi : co p i ≠ 0) : i < p.length := by
  refine Decidable.byContradiction fun hl => hi (co_out (by omega))
/-- a product's length -/
theorem Normal.mul_len {p q r : List UInt8} (hp : Normal p) (hq : Normal q) (hr : Normal r) (h : co r = act p (co q)) (p0 : p ≠ []) (q0 : q ≠ []) : r.length + 1 = p.length + q.length := by
  have lp : 0 < p.length := List.length_pos_iff.2 p0
  have lq : 0 < q.length := List.length_pos_iff.2 q0
  have h1 : r.length ≤ p.length + q.length - 1 := hr.le (by rw [h]; exact act_deg (deg_co q) (by omega))
  have h2 : act p (co q) ((p.length - 1) + (q.length - 1)) = gm (co p (p.length - 1)) (co q (q.length - 1)) :=
    act_top (n := q.length - 1) ((deg_co q).mono (by omega)) ((deg_co p).mono (by omega))
  have h3 : (p.length - 1) + (q.length - 1) < r.length := Normal.pos (by rw [h, h2]; exact gm_ne (hp p0) (hq q0))
  omega

/-! ## roots -/
/-- a polynomial over x and a -/
def dv (a : UInt8) : List UInt8 → List UInt8
  | [] => []
  | _ :: p => ev p a :: dv a p
theorem dv_spec (a : UInt8) (p : List UInt8) : co p = sa (act [a, 1] (co (dv a p))) (sm (ev p a) so) := by
  have hact : ∀ s : Se, act [a, 1] s = sa (sm a s) (sh1 s) := fun s => by
    show sa (sm a s) (sh1 (sa (sm 1 s) (sh1 sz))) = _
    rw [sm_one, sh1_sz, sa_sz]
  induction p with
  | nil =>
    show sz = sa (act [a, 1] sz) (sm 0 so)
    rw [act_sz, sm_zero, sa_sz]
  | cons c p ih =>
    rw [hact] at ih ⊢
    rw [co_cons, dv, co_cons, ev, sm_sa, sh1_sa, sm_xor]
    have e : sh1 (co p) = sa (sh1 (sm a (co (dv a p)))) (sa (sh1 (sh1 (co (dv a p)))) (sh1 (sm (ev p a) so))) := by
      rw [← sa_assoc, ← sh1_sa, ← sh1_sa, ← ih]
    rw [e, sh1_sm, sh1_sm, ← sm_mul]
    funext i
    simp only [sa]
    generalize sm (gm a (ev p a)) so i = x1
    generalize sm a (sh1 (co (dv a p))) i = x2
    generalize sm (ev p a) (sh1 so) i = x3
    generalize sh1 (sh1 (co (dv a p))) i = x4
    generalize sm c so i = x5
    rw [show (x1 ^^^ x2) ^^^ (x3 ^^^ x4) ^^^ (x5 ^^^ x1) = x1 ^^^ (x1 ^^^ (x2 ^^^ (x3 ^^^ x4) ^^^ x5)) by ac_rfl, xx_left]
    ac_rfl
theorem dv_deg (a : UInt8) : ∀ {p : List UInt8} {n : Nat}, Deg (n + 1) (co p) → Deg n (co (dv a p))
  | [], _, _ => fun _ _ => rfl
  | c :: p, n, h => by
    have hp : Deg n (co p) := fun i hi => h (i + 1) (by omega)
    cases n with
    | zero =>
      have e : co p = co [] := deg_zero hp
      intro i _
      cases i with
      | zero => show ev p a = 0; rw [ev_congr e]; rfl
      | succ i => exact dv_deg (n := 0) a (fun i hi => hp i (by omega)) i (by omega)
    | succ n =>
      intro i hi
      cases i with
      | zero => omega
      | succ i => exact dv_deg a hp i (by omega)
theorem ev_dv {a : UInt8} {p : List UInt8} (h : ev p a = 0) (x : UInt8) : ev p x = gm (a ^^^ x) (ev (dv a p) x) := by
  have h1 := dv_spec a p
  rw [h, sm_zero, sa_sz] at h1
  rw [ev_act h1]
  congr 1
  show a ^^^ gm x (1 ^^^ gm x 0) = _
  rw [gm_zero, x0, gm_one]
/-- a polynomial has no more roots than its degree -/
theorem roots {rs : List UInt8} : ∀ {p : List UInt8}, rs.Nodup → (∀ x ∈ rs, ev p x = 0) → Deg rs.length (co p) → co p = sz := by
  induction rs with
  | nil => intro p _ _ h; exact deg_zero h
  | cons a rs ih =>
    intro p hn hr hd
    have ha := hr a List.mem_cons_self
    have h1 := dv_spec a p
    rw [ha, sm_zero, sa_sz] at h1
    have hq : co (dv a p) = sz := by
      refine ih (List.nodup_cons.1 hn).2 (fun x hx => ?_) (dv_deg a hd)
      have h2 := hr x (List.mem_cons_of_mem _ hx)
      rw [ev_dv ha] at h2
      rcases gm_eq_zero.1 h2 with h3 | h3
      · rw [x_eq_zero] at h3
        subst h3
        exact ((List.nodup_cons.1 hn).1 hx).elim
      · exact h3
    rw [h1, hq, act_sz]
theorem roots_le {rs p : List UInt8} (hn : rs.Nodup) (hr : ∀ x ∈ rs, ev p x = 0) (hp : co p ≠ sz) : rs.length < p.length := by
  refine Decidable.byContradiction fun hl => hp (roots hn hr ((deg_co p).mono (by omega)))

/-! ## the derivative -/
def der (s : Se) : Se := fun i => if i % 2 = 0 then s (i + 1) else 0
theorem der_root {a : UInt8} {p q d : List UInt8} (h : co p = act [a, 1] (co q)) (hd : co d = der (co p)) : ev d a = ev q a := by
  -- d = a q' + q + x q'
  let e : List UInt8 := (List.range q.length).map fun i => der (co q) i
  have he : co e = der (co q) := funext fun i => by
    by_cases hi : i < q.length
    · simp [co, e, List.getD_eq_getElem?_getD, hi]
    · have h0 : der (co q) i = 0 := by
        unfold der
        split
        · exact co_out (by omega)
        · rfl
      rw [h0]; exact co_out (by simp [e]; omega)
  have hact : ∀ s : Se, act [a, 1] s = sa (sm a s) (sh1 s) := fun s => by
    show sa (sm a s) (sh1 (sa (sm 1 s) (sh1 sz))) = _
    rw [sm_one, sh1_sz, sa_sz]
  have h1 : co d = co (addL (mulL [a, 1] e) q) := by
    rw [hd, h, co_addL, co_mulL, he, hact, hact]
    funext i
    unfold der sa sm
    by_cases hi : i % 2 = 0
    · rw [if_pos hi]
      cases i with
      | zero => show gm a (co q 1) ^^^ co q 0 = gm a (co q (0 + 1)) ^^^ 0 ^^^ co q 0; rw [x0]
      | succ i =>
        show gm a (co q (i + 1 + 1)) ^^^ co q (i + 1) = gm a (if (i + 1) % 2 = 0 then co q (i + 1 + 1) else 0) ^^^ (if i % 2 = 0 then co q (i + 1) else 0) ^^^ co q (i + 1)
        rw [if_pos hi, if_neg (by omega), x0]
    · rw [if_neg hi]
      cases i with
      | zero => omega
      | succ i =>
        show 0 = gm a (if (i + 1) % 2 = 0 then co q (i + 1 + 1) else 0) ^^^ (if i % 2 = 0 then co q (i + 1) else 0) ^^^ co q (i + 1)
        rw [if_neg hi, if_pos (by omega), gm_zero, zx, xx]
  rw [ev_congr h1, ev_addL, ev_mulL]
  have : ev [a, 1] a = 0 := by
    show a ^^^ gm a (1 ^^^ gm a 0) = 0
    rw [gm_zero, x0, gm_one, xx]
  rw [this, zero_gm, zx]
end Go.Gf
