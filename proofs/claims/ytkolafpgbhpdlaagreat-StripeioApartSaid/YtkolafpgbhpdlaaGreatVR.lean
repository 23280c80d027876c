import Derived.Test.YtkolafpgbhpdlaaGreatVcC
import Derived.RangeFuncLeaves
import Derived.RangeFuncRecord
namespace Go.Vc
open Go
def hasR : Code → Bool
 | .rangeFunc _ _ _ _ => true
 | .seq a b => hasR a || hasR b
 | .block _ c => hasR c
 | _ => false
def cutC : Code → Code
 | .rangeFunc _ _ _ _ => .skip
 | .seq a b => bif hasR a then cutC a else .seq a (cutC b)
 | .block _ c => cutC c
 | c => c
def rfC : Code → Code
 | .seq a b => bif hasR a then rfC a else rfC b
 | .block _ c => rfC c
 | c => c
def restC : Code → Code
 | .rangeFunc _ _ _ _ => .skip
 | .seq a b => bif hasR a then (match restC a with | .skip => b | c => .seq c b) else restC b
 | .block _ c => restC c
 | c => c
def restW (P : Program) : Code → (Exit → Act → World → Prop) → Act → World → Prop
 | .seq a b, Q => bif hasR a then restW P a (Exit.then (b.wp P Q) Q) else restW P b Q
 | .block i c, Q => restW P c (Exit.inBlock i Q)
 | .rangeFunc _ _ _ _, Q => Q .normal
 | _, _ => fun _ _ => False
theorem cut_sound {P : Program} (hP : CallsOk P) (hm : P.follows .mixedOrders = true) (ann : Nat → LoopAn) : ∀ (c : Code) (p : Nat) (Q : Exit → List Value → World → Prop) (env : List Value) (w : World) (Qw : Exit → Act → World → Prop),
  hasR c = true → vc P ann (cutC c) p Q env w → (∀ i env w, ¬ Q (.exit i) env w) → (∀ e env' w', e ≠ .normal → Q e env' w' → Qw e (actOf [] env') w') →
  (∀ env' w', Q .normal env' w' → (rfC c).wp P (fun e a w => e = .normal ∧ restW P c Qw a w) (actOf [] env') w') → c.wp P Qw (actOf [] env) w := by
 intro c
 induction c with
 | rangeFunc f ps a b =>
  intro p Q env w Qw _ h _ _ hmid
  refine Go.wp_mono (hmid env w h) ?_
  rintro e x w' ⟨rfl, hq⟩
  exact hq
 | seq a b iha ihb =>
  intro p Q env w Qw hc h hx hq hmid
  cases ha : hasR a with
  | true =>
   have e1 : cutC (.seq a b) = cutC a := by simp [cutC, ha]
   have e2 : rfC (.seq a b) = rfC a := by simp [rfC, ha]
   have e3 : ∀ Q, restW P (.seq a b) Q = restW P a (Exit.then (b.wp P Q) Q) := fun Q => by simp [restW, ha]
   rw [e1] at h
   rw [e2] at hmid
   refine wp_seq (iha p Q env w _ ha h hx (fun e env' w' hne hQ => ?_) fun env' w' hQ => ?_)
   ·have := hq e env' w' hne hQ
    cases e with
    | normal => exact (hne rfl).elim
    | _ => exact this
   ·have := hmid env' w' hQ
    rw [e3] at this
    exact this
  | false =>
   have hb : hasR b = true := by simpa [hasR, ha] using hc
   have e1 : cutC (.seq a b) = .seq a (cutC b) := by simp [cutC, ha]
   have e2 : rfC (.seq a b) = rfC b := by simp [rfC, ha]
   have e3 : ∀ Q, restW P (.seq a b) Q = restW P b Q := fun Q => by simp [restW, ha]
   rw [e1] at h
   rw [e2] at hmid
   have h1 := vc_sound (ds := []) hP hm ann a _ _ _ _ h
   refine wp_seq (Go.wp_mono h1 ?_)
   rintro e x w' ⟨env', rfl, _, hQ⟩
   cases e with
   | normal =>
    refine ihb _ Q env' w' Qw hb hQ hx hq fun env'' w'' hQ' => ?_
    have := hmid env'' w'' hQ'
    rw [e3] at this
    exact this
   | _ => exact hq _ _ _ (by simp) hQ
 | block i c ih =>
  intro p Q env w Qw hc h hx hq hmid
  refine wp_block (ih p Q env w _ hc h hx (fun e env' w' hne hQ => ?_) hmid)
  have := hq e env' w' hne hQ
  cases e with
  | exit j => exact (hx _ _ _ hQ).elim
  | _ => exact this
 | _ => intro p Q env w Qw hc; simp [hasR] at hc
def cutE (P : Program) (rs : List ResultVar) (R : Value → World → Prop) (Z : List Value → World → Prop) : Exit → List Value → World → Prop := fun e env w =>
 match e with
 | .normal => Z env w
 | .ret => resW P w rs env [] fun vs => R (oneOf vs) w
 | _ => False
def retD (P : Program) (D : Nat) (rs : List ResultVar) (R : Value → World → Prop) : Exit → List Value → World → Prop := fun e env w =>
 match e with
 | .normal | .ret => w.heap[D]? = some (.deferred (some [])) ∧ resW P (w.putObj D (.deferred none)) rs env [] fun vs => R (oneOf vs) (w.putObj D (.deferred none))
 | _ => False
theorem res_run {P : Program} {fn : Func} {w : World} {env : List Value} {ds : List Deferred} {R : Value → World → Prop} (h : resW P w fn.results.toList env [] fun vs => R (oneOf vs) w) :
  ∃ v, (results fn (actOf ds env).tmps).run P w = .ok v w ∧ ∃ v', Ending.returned v = .returned v' ∧ R v' w := by
 obtain ⟨vs, hK, hall⟩ := resW_sound h
 refine ⟨oneOf vs, ?_, _, rfl, by simpa using hK⟩
 have hget : ∀ t, (actOf ds env).tmps.getD t undef = lget env t := by intro t; simp [actOf, lget_eq]
 have h2 := mapM_ok (f := fun
  | .tmp t => pure ((actOf ds env).tmps.getD t undef)
  | .cell a t => do loadVar t (← asAddr ((actOf ds env).tmps.getD a undef))) (by
   intro r v hok
   cases r with
   | tmp t => simp only [hget]; rw [hok]; rfl
   | cell a t =>
    obtain ⟨p, hp, hl⟩ := hok
    simp only [hget, hp, asAddr, Sem.run_bind, Sem.run_pure, Result.andThen, hl]) hall
 have h3 : (fn.results.mapM fun
  | .tmp t => pure ((actOf ds env).tmps.getD t undef)
  | .cell a t => do loadVar t (← asAddr ((actOf ds env).tmps.getD a undef)) : Sem (Array Value)).run P w = .ok vs.toArray w := by
  rw [Array.mapM_eq_mapM_toList]
  simp only [Sem.run_map, h2, Result.andThen]
 unfold results
 rw [Sem.run_bind]
 refine (congrArg (fun r : Result (Array Value) => r.andThen _) h3).trans ?_
 simp only [Result.andThen, Sem.run_pure]
 match vs with
 | [] => rfl
 | [v] => rfl
 | v :: u :: rest => simp [oneOf]
theorem calls_of_cut {P : Program} (hP : CallsOk P) (hm : P.follows .mixedOrders = true) (ann annB : Nat → LoopAn) {f : FuncId} {fn : Func} {args : Array Value} {w : World} {R : Value → World → Prop} {Z : List Value → World → Prop}
  (hf : P.funcs[f]? = some fn) (hb : fn.body.isSome = true) (hr : hasR (fn.body.getD .skip) = true)
  (hrest : ∀ (Q : Exit → Act → World → Prop) (a : Act) (w : World), (restC (fn.body.getD .skip)).wp P Q a w → restW P (fn.body.getD .skip) Q a w)
  (h : vc P ann (cutC (fn.body.getD .skip)) 1 (cutE P fn.results.toList R Z) (args.toList ++ List.replicate (fn.ntmps - args.toList.length) undef) w)
  (hZ : ∀ env w', Z env w' → (rfC (fn.body.getD .skip)).wp P (fun e a w => e = .normal ∧ ∃ D, a = actOf [{ target := .collected D, args := #[] }] env ∧
   vc P annB (restC (fn.body.getD .skip)) 1 (retD P D fn.results.toList R) env w) (actOf [] env) w') :
  Calls P f args w fun e w' => ∃ v, e = .returned v ∧ R v w' := by
 obtain ⟨c, hc⟩ := Option.isSome_iff_exists.1 hb
 refine (callsIn_wide (n := 0)).1 (callsIn_of_wp_marks hf hc trivial ?_ rfl)
 refine wpIn_wide.2 ?_
 rw [hc] at h hZ hr hrest
 have e : (⟨args ++ Array.replicate (fn.ntmps - args.size) undef, []⟩ : Act) = actOf [] (args.toList ++ List.replicate (fn.ntmps - args.toList.length) undef) := by
  unfold actOf
  congr 1
  apply Array.toList_inj.1
  simp
 rw [e]
 refine cut_sound hP hm ann c 1 _ _ _ _ hr h (fun i env w h => h) (fun e env' w' hne hQ => ?_) fun env' w' hQ => ?_
 ·cases e with
  | normal => exact (hne rfl).elim
  | ret => exact res_run hQ
  | _ => exact hQ.elim
 ·refine Go.wp_mono (hZ env' w' hQ) ?_
  rintro e a w'' ⟨rfl, D, rfl, hB⟩
  refine ⟨rfl, hrest _ _ _ ?_⟩
  refine Go.wp_mono (vc_sound (ds := [{ target := .collected D, args := #[] }]) hP hm annB _ _ _ _ _ hB) ?_
  rintro e x w3 ⟨env3, rfl, _, hQ3⟩
  have key : retD P D fn.results.toList R .ret env3 w3 → LeavesInM Fence.wide 0 P fn (actOf [{ target := .collected D, args := #[] }] env3).tmps (fun e w' => ∃ v, e = .returned v ∧ R v w') (actOf [{ target := .collected D, args := #[] }] env3).defers .returning w3 := by
   rintro ⟨hK, hres⟩
   refine ⟨by simp, .inl ⟨_, _, rfl, run_takeDeferred hK, ?_⟩⟩
   exact res_run hres
  cases e with
  | normal => exact key hQ3
  | ret => exact key hQ3
  | _ => exact hQ3.elim
end Go.Vc
