import Derived.Test.YtnfcfbljdibinaaGreatVcC
import Derived.Recover
set_option maxHeartbeats 1000000
namespace Go.Vc
open Go
variable {cp : Nat -> Bool}
theorem Q39 {P : Program} {w : World} {fn : Func} {env : List Value} {K : List Value -> Prop} (h : Qh5 P w fn.results.toList env [] K) :
  ∃ vs, (results fn env.toArray).run P w = .ok (QZ3 vs) w /\ K vs := by
 obtain ⟨vs, hK, hall⟩ := Qa6 h
 refine ⟨vs, ?_, by simpa using hK⟩
 have hget : ∀ t, env.toArray.getD t undef = Q10 env t := by intro t; simp [QY1]
 have h2 := QC8 (f := fun
  | .tmp t => pure (env.toArray.getD t undef)
  | .cell a t => do loadVar t (← asAddr (env.toArray.getD a undef))) (by
   intro r v hok
   cases r with
   | tmp t => simp only [hget]; rw [hok]; rfl
   | cell a t =>
    obtain ⟨p, hp, hl⟩ := hok
    simp only [hget, hp, asAddr, Sem.run_bind, Sem.run_pure, Result.andThen, hl]) hall
 have h3 : (fn.results.mapM fun
  | .tmp t => pure (env.toArray.getD t undef)
  | .cell a t => do loadVar t (← asAddr (env.toArray.getD a undef)) : Sem (Array Value)).run P w = .ok vs.toArray w := by
  rw [Array.mapM_eq_mapM_toList]
  simp only [Sem.run_map, h2, Result.andThen]
 unfold results
 rw [Sem.run_bind]
 refine (congrArg (fun r : Result (Array Value) => r.andThen _) h3).trans ?_
 simp only [Result.andThen, Sem.run_pure]
 match vs with
 | [] => rfl
 | [v] => rfl
 | v :: u :: rest => simp [QZ3]
def Qn6 : List ResultVar -> Bool
 | [] => true
 | .cell _ _ :: rs => Qn6 rs
 | .tmp _ :: _ => false
theorem Q19 {P : Program} {w : World} {env env' : List Value} {K : List Value -> Prop} : ∀ {rs : List ResultVar} (_ : ∀ a t, ResultVar.cell a t ∈ rs -> Q10 env' a = Q10 env a) (acc : List Value), Qn6 rs = true -> Qh5 P w rs env' acc K = Qh5 P w rs env acc K
 | [], _, _, _ => rfl
 | .tmp _ :: _, _, _, hf => by simp [Qn6] at hf
 | .cell a t :: rs, he, acc, hf => by
  have ha : Q10 env' a = Q10 env a := he a t List.mem_cons_self
  have ih : (fun v => Qh5 P w rs env' (v :: acc) K) = fun v => Qh5 P w rs env (v :: acc) K := funext fun v => Q19 (fun a t hm => he a t (List.mem_cons_of_mem _ hm)) (v :: acc) hf
  show Q2 _ (QD6 P t (Q10 env' a) w fun v => Qh5 P w rs env' (v :: acc) K) False = Q2 _ (QD6 P t (Q10 env a) w fun v => Qh5 P w rs env (v :: acc) K) False
  rw [ha, ih]
def QI9 (v : Value) (F : Nat -> Prop) : Prop :=
 match v with
 | .pointer (some ⟨k, 0, none⟩) => F k
 | _ => False
theorem Qy3 {v : Value} {F : Nat -> Prop} (h : QI9 v F) : ∃ k, v = .pointer (some ⟨k, 0, none⟩) /\ F k := by
 unfold QI9 at h
 split at h
 ·exact ⟨_, rfl, h⟩
 ·exact h.elim
structure Qzd where
 ops0 : List Oper
 d : Nat
 g : Nat
 caps : List Operand
 rest : Code
 deriving Inhabited
def QV0 (c : Code) : Option Qzd :=
 match c with
 | .seq (.region _ ops0 false) (.seq (.region _ ops1 false) rest) =>
  match ops1.toList with
  | [o1, o2] =>
   match o1.dst, o1.op, o1.guard, o2.dst, o2.op, o2.guard with
   | some d, .makeFunc (.func g) first caps, none, none, .defer { callee := .value (.tmp d'), args := as, .. }, none =>
    match Nat.beq d d' && first.isEmpty && as.isEmpty with
    | true => some ⟨ops0.toList, d, g, caps.toList, rest⟩
    | false => none
   | _, _, _, _, _, _ => none
  | _ => none
 | _ => none
def Qnf (H : FrameMode -> World -> Prop) : Exit -> List Value -> World -> Prop := fun e _ w =>
 match e with
 | .normal => H .returning w
 | .ret => H .returning w
 | .panic ch => H (.panicking ch) w
 | _ => False
def Qp3 : List ResultVar -> List Nat -> Bool
 | [], _ => true
 | .cell a _ :: rs, l => !QZc a l && Qp3 rs l
 | .tmp _ :: _, _ => false
theorem Q96 {P : Program} {w : World} {env env' : List Value} {l : List Nat} {K : List Value -> Prop} (he : ∀ i, i ∉ l -> Q10 env' i = Q10 env i) : ∀ (rs : List ResultVar) (acc : List Value), Qp3 rs l = true -> Qh5 P w rs env' acc K = Qh5 P w rs env acc K
 | [], _, _ => rfl
 | .tmp _ :: _, _, hf => by simp [Qp3] at hf
 | .cell a t :: rs, acc, hf => by
  simp only [Qp3, Bool.and_eq_true, Bool.not_eq_true'] at hf
  have ha : Q10 env' a = Q10 env a := he a fun hm => by
   have h1 := Qt3.2 hm
   rw [hf.1] at h1
   cases h1
  have ih : (fun v => Qh5 P w rs env' (v :: acc) K) = fun v => Qh5 P w rs env (v :: acc) K := funext fun v => Q96 he rs (v :: acc) hf.2
  show Q2 _ (QD6 P t (Q10 env' a) w fun v => Qh5 P w rs env' (v :: acc) K) False = Q2 _ (QD6 P t (Q10 env a) w fun v => Qh5 P w rs env (v :: acc) K) False
  rw [ha, ih]
theorem Q74 {P : Program} (hP : Qt1 P) (hm : P.follows .mixedOrders = true) (ann : Nat -> QO4) {f : FuncId} {fn fg : Func} {args : Array Value} {w : World} {G : List Value -> FrameMode -> World -> Prop} {R : Value -> World -> Prop} {sh : Qzd}
  (hf : P.funcs[f]? = some fn) (hb : fn.body.isSome = true) (hs : QV0 (fn.body.getD .skip) = some sh) (hdn : Nat.blt sh.d fn.ntmps = true) (hk : Qp3 fn.results.toList (sh.d :: Q71 sh.rest) = true)
  (hg : P.funcs[sh.g]? = some fg) (hgb : fg.body.isSome = true)
  (hG : ∀ env u w', G env u w' -> CallsD P sh.g (sh.caps.map (evL env)).toArray u w' fun e u' w'' => (∃ v, e = .returned v) /\ settle u' = .returning /\ Qh5 P w'' fn.results.toList env [] fun vs => R (QZ3 vs) w'')
  (h : QNe P noX noC sh.ops0 sh.ops0 0 (args.toList ++ List.replicate (fn.ntmps - args.toList.length) undef) w fun env1 w1 =>
   vc P (fun ch w' => G env1 (.panicking ch) w') cp ann sh.rest 21 (Qnf (G env1)) (Qw5 env1 sh.d (.func (.func sh.g) #[] (sh.caps.map (evL env1)).toArray)) w1) :
  Calls P f args w fun e w' => ∃ v, e = .returned v /\ R v w' := by
 obtain ⟨c, hc⟩ := Option.isSome_iff_exists.1 hb
 rw [hc] at hs
 simp only [Option.getD_some] at hs
 refine calls_of_wp_defers hf hc ?_
 have e : ({ tmps := args ++ Array.replicate (fn.ntmps - args.size) undef, defers := [] } : Act) = Qb0 [] (args.toList ++ List.replicate (fn.ntmps - args.toList.length) undef) := by
  unfold Qb0
  congr 1
  apply Array.toList_inj.1
  simp
 rw [e]
 unfold QV0 at hs
 split at hs
 ·rename_i ops0 _ ops1 rest
  split at hs
  ·rename_i o1 o2 hops
   split at hs
   ·rename_i d g first caps d' as ats hd1 ho1 hg1 hd2 ho2 hg2
    split at hs
    ·rename_i hcond
     simp only [Option.some.injEq] at hs
     subst hs
     simp only [Bool.and_eq_true] at hcond
     have hdd : d = d' := Nat.eq_of_beq_eq_true hcond.1.1
     have hfe : first = #[] := by simpa using hcond.1.2
     have has : as = #[] := by simpa using hcond.2
     subst hdd; subst hfe; subst has
     simp only at h hk hG hg hdn
     have hdn := Nat.le_of_ble_eq_true hdn
     refine wp_seq (Go.wp_mono (wp_region_list (Q26 (ds := []) hP (X := noX) (cp := noC) (Q := fun e env w => match e with
      | .normal => vc P (fun ch w' => G env (.panicking ch) w') cp ann rest 21 (Qnf (G env)) (Qw5 env d (.func (.func g) #[] (caps.toList.map (evL env)).toArray)) w
      | _ => False) (S := Qob ops0.toList) (env0 := args.toList ++ List.replicate (fn.ntmps - args.toList.length) undef) (fun _ _ _ h => h.elim) ops0.toList 0 _ w (fun o ho d hd => List.mem_filterMap.2 ⟨o, ho, hd⟩) (Frm.refl _ _) h)) ?_)
     rintro e x w1 ⟨env1, rfl, hfr0, hq⟩
     cases e with
     | normal =>
      simp only at hq
      have hcaps : caps.map (evL env1) = (caps.toList.map (evL env1)).toArray := by apply Array.toList_inj.1; simp
      have hlt : d < env1.length := by
       have h1 := hfr0.1
       rw [List.length_append, List.length_replicate] at h1
       have h3 : fn.ntmps <= args.toList.length + (fn.ntmps - args.toList.length) := Nat.sub_le_iff_le_add'.1 (Nat.le_refl _)
       rw [h1]
       exact Nat.lt_of_lt_of_le hdn h3
      have hd0 : (execOp (Qb0 [] (Qw5 env1 d (.func (.func g) #[] (caps.toList.map (evL env1)).toArray))).eval o2).run P w1 = .ok (.defer ⟨.fn (.func g) (caps.toList.map (evL env1)).toArray, #[]⟩) w1 := by
       rw [Q25]
       simp only [execOp, ho2, resolve, evL, Q20 hlt, Deferred.ofValue, Sem.run_bind, Sem.run_pure, Result.andThen, Array.map_empty, Array.empty_append]
      refine wp_seq (Go.wp_mono (Q := fun e a w => e = .normal /\ w = w1 /\ a = Qb0 [⟨.fn (.func g) (caps.toList.map (evL env1)).toArray, #[]⟩] (Qw5 env1 d (.func (.func g) #[] (caps.toList.map (evL env1)).toArray))) (wp_region_list ?_) ?_)
      ·rw [hops]
       have w1' : ∀ (tm : Array Value), Region.wanted o1 (yielded ops1 tm) = true := by intro tm; simp [Region.wanted, hg1]
       have w2' : ∀ (tm : Array Value), Region.wanted o2 (yielded ops1 tm) = true := by intro tm; simp [Region.wanted, hg2]
       unfold wpList
       rw [if_pos (w1' _)]
       refine .inl ?_
       unfold Oper.wp
       have hr1 : (execOp (Qb0 [] env1).eval o1).run P w1 = .ok (.value (.func (.func g) #[] (caps.toList.map (evL env1)).toArray)) w1 := by
        rw [Q25, ← hcaps]
        simp [execOp, ho1, Instr.makeFunc]
       rw [hr1, Oper.upon_value, hd1]
       unfold wpList
       rw [if_pos (w2' _)]
       refine .inl ?_
       unfold Oper.wp
       have hput : (Qb0 [] env1).put (some d) (.func (.func g) #[] (caps.toList.map (evL env1)).toArray) = Qb0 [] (Qw5 env1 d (.func (.func g) #[] (caps.toList.map (evL env1)).toArray)) := Qd3 env1 (some d) _
       rw [hput, hd0, Oper.upon_defer, hd2]
       exact ⟨rfl, rfl, rfl⟩
      ·rintro e a w2 ⟨rfl, rfl, rfl⟩
       refine Go.wp_mono (QQ9 (ds := [⟨.fn (.func g) (caps.toList.map (evL env1)).toArray, #[]⟩]) hP hm ann rest 21 (Qnf (G env1)) _ _ (fun ch env w h => h) hq) ?_
       have key : ∀ (u : FrameMode) (env' : List Value) (w' : World), u ≠ .run -> Frm (Q71 rest) (Qw5 env1 d (.func (.func g) #[] (caps.toList.map (evL env1)).toArray)) env' -> G env1 u w' →
         Leaves P fn (Qb0 [⟨.fn (.func g) (caps.toList.map (evL env1)).toArray, #[]⟩] env').tmps (fun e w' => ∃ v, e = .returned v /\ R v w') [⟨.fn (.func g) (caps.toList.map (evL env1)).toArray, #[]⟩] u w' := by
        intro u env' w' hu hfr hgg
        refine leaves_cons hu (f := g) (args := (caps.toList.map (evL env1)).toArray) ?_ ?_
        ·simp only [invoke]
         rw [hP g fg hg hgb]
         simp
        ·refine CallsD.mono (hG env1 u w' hgg) ?_
         rintro e u' w'' ⟨⟨v, rfl⟩, hset, hres⟩
         simp only [hset]
         obtain ⟨vs, hrun, hR⟩ := Q39 (env := env') (K := fun vs => R (QZ3 vs) w'') (by
          have hcg : ∀ i, i ∉ d :: Q71 rest -> Q10 env' i = Q10 env1 i := fun i hi => by
           have h1 : i ≠ d := fun h => hi (by rw [h]; exact List.mem_cons_self)
           have h2 : i ∉ Q71 rest := fun h => hi (List.mem_cons_of_mem _ h)
           rw [hfr.2 i h2, QQ1 (Ne.symm h1)]
          rw [Q96 hcg _ _ hk]
          exact hres)
         exact ⟨QZ3 vs, hrun, QZ3 vs, rfl, hR⟩
       rintro e a w3 ⟨env', rfl, hfr, hqq⟩
       cases e with
       | normal => exact key .returning env' w3 (by simp) hfr hqq
       | ret => exact key .returning env' w3 (by simp) hfr hqq
       | panic ch => exact key (.panicking ch) env' w3 (by simp) hfr hqq
       | _ => exact hqq.elim
     | _ => exact hq.elim
    ·cases hs
   ·cases hs
  ·cases hs
 ·cases hs
end Go.Vc
