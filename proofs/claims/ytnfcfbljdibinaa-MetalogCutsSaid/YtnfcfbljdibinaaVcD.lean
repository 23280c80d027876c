/- The engine, fourth part: a function that defers one closure. -/
import Derived.Test.YtnfcfbljdibinaaVcC
import Derived.Recover
namespace Go.Vc
open Go

variable {cp : Nat → Bool}

/-! ## a function that defers one closure ahead of all else, its results in cells -/
theorem results_run {P : Program} {w : World} {fn : Func} {env : List Value} {K : List Value → Prop} (h : resW P w fn.results.toList env [] K) :
    ∃ vs, (results fn env.toArray).run P w = .ok (oneOf vs) w ∧ K vs := by
  obtain ⟨vs, hK, hall⟩ := resW_sound h
  refine ⟨vs, ?_, by simpa using hK⟩
  have hget : ∀ t, env.toArray.getD t undef = lget env t := by intro t; simp [lget_eq]
  have h2 := mapM_ok (f := fun
    | .tmp t => pure (env.toArray.getD t undef)
    | .cell a t => do loadVar t (← asAddr (env.toArray.getD a undef))) (by
      intro r v hok
      cases r with
      | tmp t => simp only [hget]; rw [hok]; rfl
      | cell a t =>
        obtain ⟨p, hp, hl⟩ := hok
        simp only [hget, hp, asAddr, Sem.run_bind, Sem.run_pure, Result.andThen, hl]) hall
  have h3 : (fn.results.mapM fun
    | .tmp t => pure (env.toArray.getD t undef)
    | .cell a t => do loadVar t (← asAddr (env.toArray.getD a undef)) : Sem (Array Value)).run P w = .ok vs.toArray w := by
    rw [Array.mapM_eq_mapM_toList]
    simp only [Sem.run_map, h2, Result.andThen]
  unfold results
  rw [Sem.run_bind]
  refine (congrArg (fun r : Result (Array Value) => r.andThen _) h3).trans ?_
  simp only [Result.andThen, Sem.run_pure]
  match vs with
  | [] => rfl
  | [v] => rfl
  | v :: u :: rest => simp [oneOf]

def allCells : List ResultVar → Bool
  | [] => true
  | .cell _ _ :: rs => allCells rs
  | .tmp _ :: _ => false
theorem resW_at {P : Program} {w : World} {env env' : List Value} {K : List Value → Prop} : ∀ {rs : List ResultVar} (_ : ∀ a t, ResultVar.cell a t ∈ rs → lget env' a = lget env a) (acc : List Value), allCells rs = true → resW P w rs env' acc K = resW P w rs env acc K
  | [], _, _, _ => rfl
  | .tmp _ :: _, _, _, hf => by simp [allCells] at hf
  | .cell a t :: rs, he, acc, hf => by
    have ha : lget env' a = lget env a := he a t List.mem_cons_self
    have ih : (fun v => resW P w rs env' (v :: acc) K) = fun v => resW P w rs env (v :: acc) K := funext fun v => resW_at (fun a t hm => he a t (List.mem_cons_of_mem _ hm)) (v :: acc) hf
    show condB _ (loadW P t (lget env' a) w fun v => resW P w rs env' (v :: acc) K) False = condB _ (loadW P t (lget env a) w fun v => resW P w rs env (v :: acc) K) False
    rw [ha, ih]
/-- a value that is a pointer to a block -/
def ptr1 (v : Value) (F : Nat → Prop) : Prop :=
  match v with
  | .pointer (some ⟨k, 0, none⟩) => F k
  | _ => False
theorem ptr1_elim {v : Value} {F : Nat → Prop} (h : ptr1 v F) : ∃ k, v = .pointer (some ⟨k, 0, none⟩) ∧ F k := by
  unfold ptr1 at h
  split at h
  · exact ⟨_, rfl, h⟩
  · exact h.elim

structure ShapeD where
  ops0 : List Oper
  d : Nat
  g : Nat
  caps : List Operand
  rest : Code
  deriving Inhabited
def shapeD (c : Code) : Option ShapeD :=
  match c with
  | .seq (.region _ ops0 false) (.seq (.region _ ops1 false) rest) =>
    match ops1.toList with
    | [o1, o2] =>
      match o1.dst, o1.op, o1.guard, o2.dst, o2.op, o2.guard with
      | some d, .makeFunc (.func g) first caps, none, none, .defer { callee := .value (.tmp d'), args := as, .. }, none =>
        match Nat.beq d d' && first.isEmpty && as.isEmpty with
        | true => some ⟨ops0.toList, d, g, caps.toList, rest⟩
        | false => none
      | _, _, _, _, _, _ => none
    | _ => none
  | _ => none
def retD (H : FrameMode → World → Prop) : Exit → List Value → World → Prop := fun e _ w =>
  match e with
  | .normal => H .returning w
  | .ret => H .returning w
  | .panic ch => H (.panicking ch) w
  | _ => False
def fixedRes : List ResultVar → List Nat → Bool
  | [], _ => true
  | .cell a _ :: rs, l => !memL a l && fixedRes rs l
  | .tmp _ :: _, _ => false
theorem resW_congr {P : Program} {w : World} {env env' : List Value} {l : List Nat} {K : List Value → Prop} (he : ∀ i, i ∉ l → lget env' i = lget env i) : ∀ (rs : List ResultVar) (acc : List Value), fixedRes rs l = true → resW P w rs env' acc K = resW P w rs env acc K
  | [], _, _ => rfl
  | .tmp _ :: _, _, hf => by simp [fixedRes] at hf
  | .cell a t :: rs, acc, hf => by
    simp only [fixedRes, Bool.and_eq_true, Bool.not_eq_true'] at hf
    have ha : lget env' a = lget env a := he a fun hm => by
      have h1 := memL_iff.2 hm
      rw [hf.1] at h1
      cases h1
    have ih : (fun v => resW P w rs env' (v :: acc) K) = fun v => resW P w rs env (v :: acc) K := funext fun v => resW_congr he rs (v :: acc) hf.2
    show condB _ (loadW P t (lget env' a) w fun v => resW P w rs env' (v :: acc) K) False = condB _ (loadW P t (lget env a) w fun v => resW P w rs env (v :: acc) K) False
    rw [ha, ih]

set_option maxHeartbeats 1000000 in
theorem calls_of_vcD {P : Program} (hP : CallsOk P) (hm : P.follows .mixedOrders = true) (ann : Nat → LoopAn) {f : FuncId} {fn fg : Func} {args : Array Value} {w : World} {G : List Value → FrameMode → World → Prop} {R : Value → World → Prop} {sh : ShapeD}
    (hf : P.funcs[f]? = some fn) (hb : fn.body.isSome = true) (hs : shapeD (fn.body.getD .skip) = some sh) (hdn : Nat.blt sh.d fn.ntmps = true) (hk : fixedRes fn.results.toList (sh.d :: writes sh.rest) = true)
    (hg : P.funcs[sh.g]? = some fg) (hgb : fg.body.isSome = true)
    (hG : ∀ env u w', G env u w' → CallsD P sh.g (sh.caps.map (evL env)).toArray u w' fun e u' w'' => (∃ v, e = .returned v) ∧ settle u' = .returning ∧ resW P w'' fn.results.toList env [] fun vs => R (oneOf vs) w'')
    (h : opsW P noX noC sh.ops0 sh.ops0 0 (args.toList ++ List.replicate (fn.ntmps - args.toList.length) undef) w fun env1 w1 =>
      vc P (fun ch w' => G env1 (.panicking ch) w') cp ann sh.rest 21 (retD (G env1)) (lset env1 sh.d (.func (.func sh.g) #[] (sh.caps.map (evL env1)).toArray)) w1) :
    Calls P f args w fun e w' => ∃ v, e = .returned v ∧ R v w' := by
  obtain ⟨c, hc⟩ := Option.isSome_iff_exists.1 hb
  rw [hc] at hs
  simp only [Option.getD_some] at hs
  refine calls_of_wp_defers hf hc ?_
  have e : ({ tmps := args ++ Array.replicate (fn.ntmps - args.size) undef, defers := [] } : Act) = actOf [] (args.toList ++ List.replicate (fn.ntmps - args.toList.length) undef) := by
    unfold actOf
    congr 1
    apply Array.toList_inj.1
    simp
  rw [e]
  unfold shapeD at hs
  split at hs
  · rename_i ops0 _ ops1 rest
    split at hs
    · rename_i o1 o2 hops
      split at hs
      · rename_i d g first caps d' as ats hd1 ho1 hg1 hd2 ho2 hg2
        split at hs
        · rename_i hcond
          simp only [Option.some.injEq] at hs
          subst hs
          simp only [Bool.and_eq_true] at hcond
          have hdd : d = d' := Nat.eq_of_beq_eq_true hcond.1.1
          have hfe : first = #[] := by simpa using hcond.1.2
          have has : as = #[] := by simpa using hcond.2
          subst hdd; subst hfe; subst has
          simp only at h hk hG hg hdn
          have hdn := Nat.le_of_ble_eq_true hdn
          refine wp_seq (Go.wp_mono (wp_region_list (opsW_sound (ds := []) hP (X := noX) (cp := noC) (Q := fun e env w => match e with
            | .normal => vc P (fun ch w' => G env (.panicking ch) w') cp ann rest 21 (retD (G env)) (lset env d (.func (.func g) #[] (caps.toList.map (evL env)).toArray)) w
            | _ => False) (S := dstsL ops0.toList) (env0 := args.toList ++ List.replicate (fn.ntmps - args.toList.length) undef) (fun _ _ _ h => h.elim) ops0.toList 0 _ w (fun o ho d hd => List.mem_filterMap.2 ⟨o, ho, hd⟩) (Frm.refl _ _) h)) ?_)
          rintro e x w1 ⟨env1, rfl, hfr0, hq⟩
          cases e with
          | normal =>
            simp only at hq
            have hcaps : caps.map (evL env1) = (caps.toList.map (evL env1)).toArray := by apply Array.toList_inj.1; simp
            have hlt : d < env1.length := by
              have h1 := hfr0.1
              rw [List.length_append, List.length_replicate] at h1
              have h3 : fn.ntmps ≤ args.toList.length + (fn.ntmps - args.toList.length) := Nat.sub_le_iff_le_add'.1 (Nat.le_refl _)
              rw [h1]
              exact Nat.lt_of_lt_of_le hdn h3
            have hd0 : (execOp (actOf [] (lset env1 d (.func (.func g) #[] (caps.toList.map (evL env1)).toArray))).eval o2).run P w1 = .ok (.defer ⟨.fn (.func g) (caps.toList.map (evL env1)).toArray, #[]⟩) w1 := by
              rw [evL_eq]
              simp only [execOp, ho2, resolve, evL, lget_lset_self hlt, Deferred.ofValue, Sem.run_bind, Sem.run_pure, Result.andThen, Array.map_empty, Array.empty_append]
            refine wp_seq (Go.wp_mono (Q := fun e a w => e = .normal ∧ w = w1 ∧ a = actOf [⟨.fn (.func g) (caps.toList.map (evL env1)).toArray, #[]⟩] (lset env1 d (.func (.func g) #[] (caps.toList.map (evL env1)).toArray))) (wp_region_list ?_) ?_)
            · rw [hops]
              have w1' : ∀ (tm : Array Value), Region.wanted o1 (yielded ops1 tm) = true := by intro tm; simp [Region.wanted, hg1]
              have w2' : ∀ (tm : Array Value), Region.wanted o2 (yielded ops1 tm) = true := by intro tm; simp [Region.wanted, hg2]
              unfold wpList
              rw [if_pos (w1' _)]
              refine .inl ?_
              unfold Oper.wp
              have hr1 : (execOp (actOf [] env1).eval o1).run P w1 = .ok (.value (.func (.func g) #[] (caps.toList.map (evL env1)).toArray)) w1 := by
                rw [evL_eq, ← hcaps]
                simp [execOp, ho1, Instr.makeFunc]
              rw [hr1, Oper.upon_value, hd1]
              unfold wpList
              rw [if_pos (w2' _)]
              refine .inl ?_
              unfold Oper.wp
              have hput : (actOf [] env1).put (some d) (.func (.func g) #[] (caps.toList.map (evL env1)).toArray) = actOf [] (lset env1 d (.func (.func g) #[] (caps.toList.map (evL env1)).toArray)) := putL_eq env1 (some d) _
              rw [hput, hd0, Oper.upon_defer, hd2]
              exact ⟨rfl, rfl, rfl⟩
            · rintro e a w2 ⟨rfl, rfl, rfl⟩
              refine Go.wp_mono (vc_sound (ds := [⟨.fn (.func g) (caps.toList.map (evL env1)).toArray, #[]⟩]) hP hm ann rest 21 (retD (G env1)) _ _ (fun ch env w h => h) hq) ?_
              have key : ∀ (u : FrameMode) (env' : List Value) (w' : World), u ≠ .run → Frm (writes rest) (lset env1 d (.func (.func g) #[] (caps.toList.map (evL env1)).toArray)) env' → G env1 u w' →
                  Leaves P fn (actOf [⟨.fn (.func g) (caps.toList.map (evL env1)).toArray, #[]⟩] env').tmps (fun e w' => ∃ v, e = .returned v ∧ R v w') [⟨.fn (.func g) (caps.toList.map (evL env1)).toArray, #[]⟩] u w' := by
                intro u env' w' hu hfr hgg
                refine leaves_cons hu (f := g) (args := (caps.toList.map (evL env1)).toArray) ?_ ?_
                · simp only [invoke]
                  rw [hP g fg hg hgb]
                  simp
                · refine CallsD.mono (hG env1 u w' hgg) ?_
                  rintro e u' w'' ⟨⟨v, rfl⟩, hset, hres⟩
                  simp only [hset]
                  obtain ⟨vs, hrun, hR⟩ := results_run (env := env') (K := fun vs => R (oneOf vs) w'') (by
                    have hcg : ∀ i, i ∉ d :: writes rest → lget env' i = lget env1 i := fun i hi => by
                      have h1 : i ≠ d := fun h => hi (by rw [h]; exact List.mem_cons_self)
                      have h2 : i ∉ writes rest := fun h => hi (List.mem_cons_of_mem _ h)
                      rw [hfr.2 i h2, lget_lset_ne (Ne.symm h1)]
                    rw [resW_congr hcg _ _ hk]
                    exact hres)
                  exact ⟨oneOf vs, hrun, oneOf vs, rfl, hR⟩
              rintro e a w3 ⟨env', rfl, hfr, hqq⟩
              cases e with
              | normal => exact key .returning env' w3 (by simp) hfr hqq
              | ret => exact key .returning env' w3 (by simp) hfr hqq
              | panic ch => exact key (.panicking ch) env' w3 (by simp) hfr hqq
              | _ => exact hqq.elim
          | _ => exact hq.elim
        · cases hs
      · cases hs
    · cases hs
  · cases hs
end Go.Vc
