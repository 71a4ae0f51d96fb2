/- The engine, 19: operations one behind the other; code. -/
import Derived.Test.YtcjlhjoobchabaaGreatDoorEng18
import Derived.LoopNIn
import Derived.OrdersIn
import Derived.RangeFuncRecord
namespace Go.Proofs.YtcjlhjoobchabaaGreatDoor
open Go.RowKit
set_option linter.unusedVariables false
set_option linter.unusedSimpArgs false
variable {η : Nat → Int} {L L' : LM} {W0 : Base} {w : World} {σ σ' : H}

/-- What a run ends with. -/
abbrev Res := AV × H
/-- A call of a function (false), a round of a loop (true). -/
abbrev CallF := Bool → Nat → AV → H → (AV → H → Option Res) → Option Res
/-- The fence of a call, and of a round. -/
def Wd (r : Option Nat) : Fence := { Fence.wide with round := r }
def FnOk (P : Program) (f : Nat) : Prop := ∃ fn, P.funcs[f]? = some fn ∧ (fn.name == "runtime.NumGoroutine") = false ∧ fn.body.isSome = true
/-- A call comes back with v, and the heap as σ'. -/
def CallsTo (P : Program) (W0 : Base) (η : Nat → Int) (f : Nat) (args : AV) (σ : H) (v : AV) (σ' : H) : Prop :=
  ∀ L w Vs, DL η L args Vs → Rel W0 η L σ w → FnOk P f ∧ Calls P f Vs.toArray w fun e w' => ∃ L' V, LM.Le L L' ∧ e = .returned V ∧ D η L' v V ∧ Rel W0 η L' σ' w'
/-- A round comes back with v, and the heap as σ'. -/
def RoundTo (P : Program) (W0 : Base) (η : Nat → Int) (o : Nat) (args : AV) (σ : H) (v : AV) (σ' : H) : Prop :=
  ∀ L w Vs l, DL η L args Vs → Rel W0 η L σ w → L[o]? = some l → ∃ fn tmps asg body, (Instr.yield l Vs.toArray).run P w = .ok (.round l fn tmps asg body) w ∧
    ∀ r m, RoundIn (Wd r) m P l fn tmps asg body w fun e w' => ∃ L' V, LM.Le L L' ∧ e = .returned V ∧ D η L' v V ∧ Rel W0 η L' σ' w'
def CallOk (P : Program) (rom : Rom) (η : Nat → Int) (cf : CallF) : Prop := (∀ f args σ k r, cf false f args σ k = some r → ∃ v σ', k v σ' = some r ∧ ∀ W0, rom.Ok η W0 → CallsTo P W0 η f args σ v σ') ∧
  ∀ o args σ k r, cf true o args σ k = some r → ∃ v σ', k v σ' = some r ∧ ∀ W0, rom.Ok η W0 → RoundTo P W0 η o args σ v σ'

/-- A call of a function value. -/
noncomputable def acallK (cf : CallF) (ts : T AV) (σ : H) (op : Op) (k : AV → H → Option Res) : Option Res := match op with
  | .call c => (match c.callee with
    | .value f => ob (aev ts f) fun fv => (match fv with
      | .func fn first cap => (match fn with
        | .func fid => ob (aops ts c.args.toList) fun args => tst (spineA first) (tst (spineA args) (cf false fid (appA first (appA args cap)) σ k))
        | _ => none)
      | .yieldf l => ob (aops ts c.args.toList) fun args => cf true l args σ k
      | _ => none)
    | _ => none)
  | _ => none
/-- What an operation comes to. -/
def Steps1 (C : Cfg) (rom : Rom) (η : Nat → Int) (n : Nat) (o : Oper) (ts : T AV) (σ : H) (v : AV) (σ' : H) : Prop :=
  ∀ W0, rom.Ok η W0 → ∀ L a w, RelA η L n ts a → Rel W0 η L σ w → ∀ (K : Act → World → Prop) (Q : Exit → Act → World → Prop), (∀ L' w' R, LM.Le L L' → Rel W0 η L' σ' w' → D η L' v R → K (a.put o.dst R) w') → ∀ r m, o.wpIn (Wd r) m C.P a w K Q
theorem semAt_val {P : Program} {ρ : Operand → Value} {o : Oper} {w w' : World} {R : Value} (r : Option Nat) (h : (execOp ρ o).run P w = .ok (.value R) w') : (o.semAt r ρ).run P w = .ok (.value R) w' := by
  obtain ⟨dst, op, ty, pos, after, guard⟩ := o
  cases op with
  | defer c =>
    exfalso
    simp only [execOp, Sem.run_bind] at h
    cases hr : Sem.run P (resolve ρ c ty) w <;> rw [hr] at h <;> simp [Result.andThen, Sem.run_pure] at h
  | _ => rw [Oper.semAt_eq r ρ _ (by intro c; simp)]; exact h
theorem semAt_skip {P : Program} {ρ : Operand → Value} {o : Oper} {w w' : World} (r : Option Nat) (h : (execOp ρ o).run P w = .ok .skip w') : (o.semAt r ρ).run P w = .ok .skip w' := by
  obtain ⟨dst, op, ty, pos, after, guard⟩ := o
  cases op with
  | defer c =>
    exfalso
    simp only [execOp, Sem.run_bind] at h
    cases hr : Sem.run P (resolve ρ c ty) w <;> rw [hr] at h <;> simp [Result.andThen, Sem.run_pure] at h
  | _ => rw [Oper.semAt_eq r ρ _ (by intro c; simp)]; exact h
theorem did_steps {C : Cfg} {rom : Rom} {n : Nat} {o : Oper} {ts : T AV} {v : AV} (h : ∀ W0, rom.Ok η W0 → ∀ L a w, RelA η L n ts a → Rel W0 η L σ w → Did C.P W0 η L w (execOp a.eval o) v σ') : Steps1 C rom η n o ts σ v σ' := by
  intro W0 hM L a w hA hR K Q hK r m
  refine ⟨fun _ _ => trivial, ?_⟩
  obtain ⟨L', w', R, hL, hR', hD, hr | ⟨hr, rfl⟩⟩ := h W0 hM L a w hA hR
  · show o.uponIn _ _ C.P a K Q ((o.semAt r a.eval).run C.P w)
    rw [semAt_val r hr]; exact hK L' w' R hL hR' hD
  · show o.uponIn _ _ C.P a K Q ((o.semAt r a.eval).run C.P w)
    rw [semAt_skip r hr]; exact hK L' w' undef hL hR' hD
theorem run_callFunc {P : Program} {f : Nat} {args : Array Value} (h : FnOk P f) (w : World) : (callFunc f args).run P w = .ok (.enter f args) w := by
  obtain ⟨fn, hf, hn, hb⟩ := h
  have hn' : ¬ fn.name = "runtime.NumGoroutine" := by simpa using hn
  cases hq : fn.body with
  | none => rw [hq] at hb; cases hb
  | some c => simp [callFunc, hf, hn', hq, Sem.run_pure]
theorem run_yieldf {P : Program} {ρ : Operand → Value} {f : Operand} {cargs : Array Operand} {ats : Array TypeId} {dst : Option Nat} {ty pos after guard} {b : Nat} {w : World} {nx : Next} (hf : ρ f = .func (.yield b) #[] #[])
    (hy : (Instr.yield b (cargs.toList.map ρ).toArray).run P w = .ok nx w) : (execOp ρ ⟨dst, .call ⟨.value f, cargs, ats⟩, ty, pos, after, guard⟩).run P w = .ok nx w := by
  have e : #[] ++ cargs.map ρ = (cargs.toList.map ρ).toArray := Array.toList_inj.1 (by simp)
  simp only [execOp, resolve, hf, Deferred.ofValue, Sem.run_bind, Sem.run_pure, Result.andThen_ok, invoke]
  rw [e]; exact hy
theorem acall_steps {C : Cfg} {rom : Rom} {n : Nat} {cf : CallF} (hcf : CallOk C.P rom η cf) {o : Oper} {ts : T AV} {k : AV → H → Option Res} {r : Res} (h : acallK cf ts σ o.op k = some r) : ∃ v σ', k v σ' = some r ∧ Steps1 C rom η n o ts σ v σ' := by
  obtain ⟨dst, op, ty, pos, after, guard⟩ := o
  dsimp only at h
  cases op with
  | call c =>
    obtain ⟨callee, cargs, ats⟩ := c
    cases callee with
    | value f =>
      obtain ⟨fv, hfv, h⟩ := ob_some h
      cases fv with
      | func fn first cap =>
        cases fn with
        | func fid =>
          obtain ⟨args, hargs, h⟩ := ob_some h
          obtain ⟨h1, h⟩ := tst_some h
          obtain ⟨h2, h⟩ := tst_some h
          obtain ⟨v, σ', hk, hcall⟩ := hcf.1 _ _ _ _ _ h
          refine ⟨v, σ', hk, fun W0 hM L a w hA hR K Q hK r m => ⟨fun _ _ => trivial, ?_⟩⟩
          obtain ⟨X, Y, hX, hY, hfe⟩ := D_func (hA.ev f _ hfv)
          have hAr := aops_some hA.ev hargs
          obtain ⟨hok, hc⟩ := hcall W0 hM L w _ (appA_spine h1 hX (appA_spine h2 hAr hY)) hR
          have hea : (X.toArray ++ cargs.map a.eval) ++ Y.toArray = (X ++ (cargs.toList.map a.eval ++ Y)).toArray := Array.toList_inj.1 (by simp)
          show Oper.uponIn _ _ C.P _ a K Q ((Oper.semAt r a.eval _).run C.P w)
          rw [Oper.semAt_eq r a.eval _ (by intro c; simp)]
          have hrun : (execOp a.eval ⟨dst, .call ⟨.value f, cargs, ats⟩, ty, pos, after, guard⟩).run C.P w = .ok (.enter fid (X ++ (cargs.toList.map a.eval ++ Y)).toArray) w := by
            simp only [execOp, resolve, hfe, Deferred.ofValue, Sem.run_bind, Sem.run_pure, Result.andThen_ok, invoke]
            rw [hea]
            exact run_callFunc hok w
          rw [hrun]
          refine ⟨fun h => (by cases h), (callsIn_wide (n := m - 1)).2 (Calls.mono hc ?_)⟩
          rintro e w' ⟨L', V, hL, rfl, hD, hR'⟩
          exact hK L' w' V hL hR' hD
        | _ => cases h
      | yieldf l =>
        obtain ⟨args, hargs, h⟩ := ob_some h
        obtain ⟨v, σ', hk, hcall⟩ := hcf.2 _ _ _ _ _ h
        refine ⟨v, σ', hk, fun W0 hM L a w hA hR K Q hK r m => ⟨fun _ _ => trivial, ?_⟩⟩
        obtain ⟨b, hb, hfe⟩ := D_yieldf (hA.ev f _ hfv)
        obtain ⟨fn, tmps, asg, body, hy, hround⟩ := hcall W0 hM L w _ b (aops_some hA.ev hargs) hR hb
        show Oper.uponIn _ _ C.P _ a K Q ((Oper.semAt r a.eval _).run C.P w)
        rw [Oper.semAt_eq r a.eval _ (by intro c; simp), run_yieldf hfe hy]
        refine ⟨fun h => (by cases h), (hround r (m - 1)).mono ?_⟩
        rintro e w' ⟨L', V, hL, rfl, hD, hR'⟩
        exact hK L' w' V hL hR' hD
      | _ => cases h
    | _ => cases h
  | _ => cases h

/-- An operation that is no call. -/
noncomputable def aop1 (C : Cfg) (rom : Rom) (ts : T AV) (σ : H) (op : Op) (k : AV → H → Option Res) (other : Option Res) : Option Res :=
  Option.rec (Option.rec (Option.rec other (fun p => Prod.rec k p) (aeff C ts σ op)) (fun v => k v σ) (aread C rom ts σ op)) (fun v => k v σ) (apure C ts op)
noncomputable def xOp (C : Cfg) (rom : Rom) (cf : CallF) (ts : T AV) (σ : H) (op : Op) (k : AV → H → Option Res) : Option Res := aop1 C rom ts σ op k (acallK cf ts σ op k)
theorem aop1_inv {C : Cfg} (hC : C.Ok η) {rom : Rom} {n : Nat} {o : Oper} {ts : T AV} {k : AV → H → Option Res} {other : Option Res} {r : Res} (h : aop1 C rom ts σ o.op k other = some r) :
    (∃ v σ', k v σ' = some r ∧ Steps1 C rom η n o ts σ v σ') ∨ other = some r := by
  unfold aop1 at h
  cases h1 : apure C ts o.op with
  | some v =>
    rw [h1] at h
    refine .inl ⟨v, σ, h, did_steps fun W0 hM L a w hA hR => ?_⟩
    obtain ⟨R, hD, hr⟩ := apure_some hC hA.ev h1
    exact ⟨L, w, R, LM.Le.refl _, hR, hD, .inl (hr w)⟩
  | none =>
    rw [h1] at h
    cases h2 : aread C rom ts σ o.op with
    | some v =>
      rw [h2] at h
      refine .inl ⟨v, σ, h, did_steps fun W0 hM L a w hA hR => ?_⟩
      obtain ⟨R, hD, hr⟩ := aread_some hC hM hA.ev hR h2
      exact ⟨L, w, R, LM.Le.refl _, hR, hD, .inl hr⟩
    | none =>
      rw [h2] at h
      cases h3 : aeff C ts σ o.op with
      | some p =>
        obtain ⟨v, σ'⟩ := p
        rw [h3] at h
        exact .inl ⟨v, σ', h, did_steps fun W0 hM L a w hA hR => aeff_some hC hA.ev hR h3⟩
      | none => rw [h3] at h; exact .inr h
theorem xOp_inv {C : Cfg} (hC : C.Ok η) {rom : Rom} {n : Nat} {cf : CallF} (hcf : CallOk C.P rom η cf) {o : Oper} {ts : T AV} {k : AV → H → Option Res} {r : Res} (h : xOp C rom cf ts σ o.op k = some r) :
    ∃ v σ', k v σ' = some r ∧ Steps1 C rom η n o ts σ v σ' := by
  rcases aop1_inv hC h with h | h
  · exact h
  · exact acall_steps hcf h

/-- Is an operation wanted? -/
noncomputable def guardA (ops : List Oper) (ts : T AV) (o : Oper) : Option Bool :=
  Option.rec (some true) (fun p => Prod.rec (fun j want => ob (lget ops j) fun g => ob g.dst fun d => tst (Nat.blt d BIG) (match oget (ts.get d) undefA with | .bool b => some (beqA b want) | .tuple l => bcase (isNil l) (some false) none | _ => none)) p) o.guard
theorem guardA_some {n : Nat} {ops : Array Oper} {ts : T AV} {o : Oper} {a : Act} {b : Bool} (h : guardA ops.toList ts o = some b) (hA : RelA η L n ts a) : Region.wanted o (yielded ops a.tmps) = b := by
  unfold guardA at h
  unfold Region.wanted
  cases hg : o.guard with
  | none => rw [hg] at h; cases h; rfl
  | some p =>
    obtain ⟨j, want⟩ := p
    rw [hg] at h
    dsimp only at h ⊢
    obtain ⟨g, hgj, h⟩ := ob_some h
    obtain ⟨d, hd, h⟩ := ob_some h
    rw [lget_eq] at hgj
    have hgj' : ops[j]? = some g := by simpa using hgj
    obtain ⟨hdB, h⟩ := tst_some h
    have hv := hA.val d (by have := blt_true hdB; omega)
    generalize oget (ts.get d) undefA = v at h hv
    cases v with
    | bool q =>
      cases h
      have e : a.tmps.getD d undef = .bool q := hv.inj rfl
      have hlt : d < a.tmps.size := by
        by_cases hlt : d < a.tmps.size
        · exact hlt
        · rw [Array.getD_eq_getD_getElem?, Array.getElem?_eq_none (Nat.le_of_not_lt hlt)] at e; cases e
      have e2 : a.tmps[d]? = some (.bool q) := by
        rw [Array.getD_eq_getD_getElem?, Array.getElem?_eq_getElem hlt] at e
        rw [Array.getElem?_eq_getElem hlt]
        simpa using e
      simp only [yielded, hgj', hd, Option.bind_some, e2, beqA_eq]
      cases q <;> cases want <;> rfl
    | tuple l =>
      cases hn : isNil l
      · dsimp only at h; rw [hn] at h; cases h
      · dsimp only at h
        rw [hn] at h
        cases h
        have := isNil_true hn
        subst this
        have e : a.tmps.getD d undef = undef := hv.inj rfl
        simp only [yielded, hgj', hd, Option.bind_some]
        cases h2 : a.tmps[d]? with
        | none => rfl
        | some V =>
          rw [Array.getD_eq_getD_getElem?, h2] at e
          have : V = undef := by simpa using e
          subst this; rfl
    | _ => cases h
noncomputable def putK (n : Nat) (dst : Option Nat) (v : AV) (ts : T AV) (k : T AV → Option Res) : Option Res := Option.rec (k ts) (fun d => tst (Nat.blt d n) (fav v fun v' => T.setK (some v') ts d k)) dst
theorem putK_some {n : Nat} {dst : Option Nat} {v : AV} {ts : T AV} {k : T AV → Option Res} {r : Res} (h : putK n dst v ts k = some r) : ∃ ts', k ts' = some r ∧ ∀ {L : LM} {a : Act} {V : Value}, RelA η L n ts a → D η L v V → RelA η L n ts' (a.put dst V) := by
  cases dst with
  | none => exact ⟨ts, h, fun hA _ => hA⟩
  | some d =>
    obtain ⟨hlt, h⟩ := tst_some (h : tst (Nat.blt d n) (fav v fun v' => T.setK (some v') ts d k) = some r)
    rw [fav_eq, T.setK_eq] at h
    exact ⟨_, h, fun hA hv => hA.put hv (blt_true hlt)⟩

noncomputable def xOps (C : Cfg) (rom : Rom) (cf : CallF) (n : Nat) (all : List Oper) (l : List Oper) : T AV → H → (T AV → H → Option Res) → Option Res :=
  List.rec (fun ts σ k => k ts σ) (fun o _ ih ts σ k => ob (guardA all ts o) fun g => bcase g (xOp C rom cf ts σ o.op fun v σ' => putK n o.dst v ts fun ts' => ih ts' σ' k) (putK n o.dst undefA ts fun ts' => ih ts' σ k)) l
theorem xOps_inv {C : Cfg} (hC : C.Ok η) {rom : Rom} {n : Nat} {cf : CallF} (hcf : CallOk C.P rom η cf) {ops : Array Oper} : ∀ {l pre : List Oper} {ts : T AV} {σ : H} {k : T AV → H → Option Res} {r : Res}, ops.toList = pre ++ l → xOps C rom cf n ops.toList l ts σ k = some r →
    ∃ ts' σ', k ts' σ' = some r ∧ ∀ W0, rom.Ok η W0 → ∀ L a w, RelA η L n ts a → Rel W0 η L σ w → ∀ Q : Exit → Act → World → Prop, (∀ L' a' w', LM.Le L L' → RelA η L' n ts' a' → Rel W0 η L' σ' w' → Q .normal a' w') → ∀ r m, wpOpsIn (Wd r) m C.P ops Q (List.range' pre.length l.length) a w
  | [], pre, ts, σ, k, r, he, h => ⟨ts, σ, h, fun W0 hM L a w hA hR Q hQ rd m => hQ L a w (LM.Le.refl _) hA hR⟩
  | o :: l, pre, ts, σ, k, r, he, h => by
    have h' : ob (guardA ops.toList ts o) (fun g => bcase g (xOp C rom cf ts σ o.op fun v σ' => putK n o.dst v ts fun ts' => xOps C rom cf n ops.toList l ts' σ' k) (putK n o.dst undefA ts fun ts' => xOps C rom cf n ops.toList l ts' σ k)) = some r := h
    obtain ⟨g, hg, h'⟩ := ob_some h'
    have hop : ops[pre.length]? = some o := by
      rw [← Array.getElem?_toList, he]; simp
    have hnext : ops.toList = (pre ++ [o]) ++ l := by rw [he]; simp
    cases g
    · rw [bcase_false] at h'
      obtain ⟨ts1, h1, hput⟩ := putK_some (η := η) h'
      obtain ⟨ts', σ', hk, hrest⟩ := xOps_inv hC hcf hnext h1
      refine ⟨ts', σ', hk, fun W0 hM L a w hA hR Q hQ rd m => ?_⟩
      have := hrest W0 hM L (a.put o.dst undef) w (hput hA D_undef) hR Q hQ rd m
      simp only [List.length_append, List.length_cons, List.length_nil, Nat.zero_add] at this
      show wpOpsIn (Wd rd) m C.P ops Q (pre.length :: List.range' (pre.length + 1) l.length) a w
      simp only [wpOpsIn, hop, guardA_some hg hA, Bool.false_eq_true, if_false]
      exact ⟨fun _ _ => trivial, this⟩
    · rw [bcase_true] at h'
      obtain ⟨v, σ1, h1, hstep⟩ := xOp_inv (n := n) hC hcf h'
      obtain ⟨ts1, h2, hput⟩ := putK_some (η := η) h1
      obtain ⟨ts', σ', hk, hrest⟩ := xOps_inv hC hcf hnext h2
      refine ⟨ts', σ', hk, fun W0 hM L a w hA hR Q hQ rd m => ?_⟩
      show wpOpsIn (Wd rd) m C.P ops Q (pre.length :: List.range' (pre.length + 1) l.length) a w
      simp only [wpOpsIn, hop, guardA_some hg hA, if_true]
      refine hstep W0 hM L a w hA hR _ Q (fun L1 w1 R hL1 hR1 hD => ?_) rd m
      have := hrest W0 hM L1 (a.put o.dst R) w1 (hput (hA.mono hL1) hD) hR1 Q (fun L2 a2 w2 hL2 hA2 hR2 => hQ L2 a2 w2 (hL1.trans hL2) hA2 hR2) rd m
      simpa only [List.length_append, List.length_cons, List.length_nil, Nat.zero_add] using this
end Go.Proofs.YtcjlhjoobchabaaGreatDoor
