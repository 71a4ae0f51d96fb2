/- The engine, 25: rounds; functions; what a run says of a call. -/
import Derived.Test.YtcjlhjoobchabaaGreatDoorEng24
namespace Go.Proofs.YtcjlhjoobchabaaGreatDoor
open Go.RowKit
set_option linter.unusedVariables false
set_option linter.unusedSimpArgs false
variable {η : Nat → Int} {L L' : LM} {W0 : Base} {w : World} {σ σ' : H}

/-! ### Functions -/
noncomputable def ares (P : Program) (ts : T AV) (σ : H) (l : List ResultVar) : Option AV := List.rec (some .nil) (fun x _ ih => ob (match x with
  | .tmp t => tst (Nat.blt t BIG) (some (oget (ts.get t) undefA))
  | .cell a t => tst (Nat.blt a BIG) (match oget (ts.get a) undefA with | .ptr o off => ald P σ t o off | _ => none)) fun v => ob ih fun r => some (.cons v r)) l
noncomputable def resVal (l : AV) : AV := match l with | .cons v r => bcase (isNil r) v (.tuple (.cons v r)) | l => .tuple l
def resSem (tmps : Array Value) (x : ResultVar) : Sem Value := match x with | .tmp t => pure (tmps.getD t undef) | .cell q t => do loadVar t (← asAddr (tmps.getD q undef))
theorem results_eq (fn : Func) (tmps : Array Value) : results fn tmps = (do let vs ← fn.results.mapM (resSem tmps); pure (if h : vs.size = 1 then vs[0] else .tuple vs)) := rfl
theorem ares_some {P : Program} {n : Nat} {ts : T AV} {a : Act} (hA : RelA η L n ts a) (hR : Rel W0 η L σ w) : ∀ {l : List ResultVar} {r : AV}, ares P ts σ l = some r →
    ∃ Vs, DL η L r Vs ∧ (l.mapM (resSem a.tmps)).run P w = Result.ok Vs w
  | [], r, h => by cases h; exact ⟨[], DL_nil, by simp⟩
  | x :: l, r, h => by
    obtain ⟨v, hv, h⟩ := ob_some (h : ob (match x with
      | .tmp t => tst (Nat.blt t BIG) (some (oget (ts.get t) undefA))
      | .cell a t => tst (Nat.blt a BIG) (match oget (ts.get a) undefA with | .ptr o off => ald P σ t o off | _ => none)) (fun v => ob (ares P ts σ l) fun r => some (.cons v r)) = some r)
    obtain ⟨q, hq, h⟩ := ob_some h
    cases h
    obtain ⟨Vs, hVs, hrun⟩ := ares_some hA hR hq
    cases x with
    | tmp t =>
      obtain ⟨hb, hv⟩ := tst_some hv
      cases hv
      exact ⟨_ :: Vs, DL_cons (hA.val t (by have := blt_true hb; omega)) hVs, by simp only [List.mapM_cons, resSem]; simp [hrun]⟩
    | cell b t =>
      dsimp only at hv
      obtain ⟨hbb, hv⟩ := tst_some hv
      have hval := hA.val b (by have := blt_true hbb; omega)
      generalize oget (ts.get b) undefA = u at hv hval
      cases u with
      | ptr o off =>
        obtain ⟨bb, hb, hbe⟩ := D_ptr hval
        obtain ⟨R, hD, hr⟩ := ald_some hv hR hb
        have hr2 : (loadVar t ⟨bb, off, none⟩).run P w = .ok R w := by simpa [Instr.loadAt, Instr.sureAddr] using hr
        have hx : (resSem a.tmps (.cell b t)).run P w = .ok R w := by
          show (do loadVar t (← asAddr (a.tmps.getD b undef)) : Sem Value).run P w = _
          rw [hbe]
          simp [asAddr, hr2]
        refine ⟨R :: Vs, DL_cons hD hVs, ?_⟩
        simp only [List.mapM_cons, Sem.run_bind, hx, hrun, Result.andThen_ok, Sem.run_pure]
      | _ => cases hv
theorem run_results {P : Program} {fn : Func} {n : Nat} {ts : T AV} {a : Act} {l : AV} (hA : RelA η L n ts a) (hR : Rel W0 η L σ w) (h : ares P ts σ fn.results.toList = some l) : ∃ V, D η L (resVal l) V ∧ (results fn a.tmps).run P w = .ok V w := by
  obtain ⟨Vs, hVs, hrun⟩ := ares_some hA hR h
  have hall : (results fn a.tmps).run P w = .ok (if h : Vs.toArray.size = 1 then Vs.toArray[0] else .tuple Vs.toArray) w := by
    rw [results_eq, Array.mapM_eq_mapM_toList]
    simp only [Sem.run_bind, Sem.run_map, hrun]
    simp [Result.andThen, Sem.run_pure]
  refine ⟨_, ?_, hall⟩
  cases l with
  | cons v q =>
    obtain ⟨V, Ws, hV, hq, rfl⟩ := D_cons hVs
    unfold resVal
    dsimp only
    cases hn : isNil q
    · rw [bcase_false]
      have hne : Ws ≠ [] := by
        rintro rfl
        have e := hq
        cases q <;> first | (cases hn; done) | (obtain ⟨_, _, _, _, e⟩ := D_cons e; cases e; done) | (simp [DL, den] at e; done) | skip
        all_goals (simp [DL, den, ptrOf, sliceOf, vsliceOf, esliceOf, funcOf, ifaceOf] at e)
        all_goals (repeat' split at e)
        all_goals (first | (cases e; done) | simp at e)
      rw [dif_neg (by cases Ws <;> simp_all)]
      exact D_tuple hVs
    · rw [bcase_true]
      have := isNil_true hn
      subst this
      have := DL_nil_inv hq
      subst this
      simpa using hV
  | nil =>
    have := DL_nil_inv hVs
    subst this
    rw [dif_neg (by simp)]
    exact D_tuple DL_nil
  | _ =>
    exfalso
    revert h
    have hsp : ∀ (l : List ResultVar) (r : AV), ares P ts σ l = some r → spineA r = true := by
      intro l
      induction l with
      | nil => intro r h; cases h; rfl
      | cons x l ih =>
        intro r h
        obtain ⟨v, hv, h⟩ := ob_some h
        obtain ⟨q, hq, h⟩ := ob_some h
        cases h
        have := ih q hq
        simpa [spineA] using this
    intro h
    have := hsp _ _ h
    simp [spineA] at this

/-! ### Marks, rounds -/
theorem Rel.shut {o b : Nat} (hR : Rel W0 η L σ w) (ho : σ.h.get o = some .marks) (hb : L[o]? = some b) : w.heap[b]? = some (.deferred (some [])) ∧ Rel W0 η L ⟨T.set none σ.h o, σ.nx⟩ (w.putObj b (.deferred none)) := by
  obtain ⟨b', g1, g2, g3⟩ := hR.obj o _ ho
  have e : b' = b := by have := g1.symm.trans hb; simpa using this
  subst e
  have hK : Kept (fun k => k = b') w (w.putObj b' (.deferred none)) := ⟨rfl, rfl, rfl, by simp, fun k hk hne => World.putObj_heap_other hne⟩
  refine ⟨g3, hK.os.trans hR.os, hK.tape.trans hR.tape, hK.output.trans hR.output, hR.held.kept g2 hK, hR.free, hR.rsv, fun o' y hy => ?_, fun o1 o2 x1 x2 c h1 h2 h3 h4 => ?_⟩
  · dsimp only at hy
    rw [T.get_set] at hy
    by_cases he : o' = o
    · rw [if_pos he] at hy; cases hy
    · rw [if_neg he] at hy
      obtain ⟨c, h1, h2, h3⟩ := hR.obj o' y hy
      exact ⟨c, h1, h2, h3.keep (LM.Le.refl _) (hK.block c h3.lt (fun e => he (hR.inj _ _ _ _ _ hy ho (e ▸ h1) hb)))⟩
  · dsimp only at h1 h2
    rw [T.get_set] at h1 h2
    by_cases e1 : o1 = o
    · rw [if_pos e1] at h1; cases h1
    · by_cases e2 : o2 = o
      · rw [if_pos e2] at h2; cases h2
      · rw [if_neg e1] at h1; rw [if_neg e2] at h2; exact hR.inj _ _ _ _ _ h1 h2 h3 h4
/-- The marks are taken. -/
noncomputable def marksK (fuel : Nat) : AV → H → (H → Option Res) → Option Res := Nat.rec (fun _ _ _ => none) (fun _ ih l σ k => match l with
  | .cons a q => (match a with | .ptr o _ => lookO σ o fun x => (match x with | .marks => layK o none σ fun σ' => ih q σ' k | _ => none) | _ => none)
  | .tuple _ => k σ
  | _ => none) fuel
theorem marks_leave : ∀ (fuel : Nat) (l : AV) (σ : H) (k : H → Option Res) (r : Res), marksK fuel l σ k = some r →
    ∃ σ', k σ' = some r ∧ ∀ (W0 : Base) (P : Program) (F : Fence) (m : Nat) (fn : Func) (tmps : Array Value) (R : Ending → World → Prop) L w ds, Defs L l ds → Rel W0 η L σ w → (∀ w', Rel W0 η L σ' w' → ∃ v, (results fn tmps).run P w' = .ok v w' ∧ R (.returned v) w') → LeavesInM F m P fn tmps R ds .returning w
  | 0, l, σ, k, r, h => by cases h
  | fuel + 1, l, σ, k, r, h => by
    cases l with
    | tuple q =>
      refine ⟨σ, h, fun W0 P F m fn tmps R L w ds hd hR hres => ?_⟩
      have : ds = [] := hd
      subst this
      exact hres w hR
    | cons a q =>
      cases a with
      | ptr o off =>
        obtain ⟨x, hx, h⟩ := lookO_some (h : lookO σ o (fun x => (match x with | .marks => layK o none σ fun σ' => marksK fuel q σ' k | _ => none)) = some r)
        cases x with
        | marks =>
          rw [layK_eq] at h
          obtain ⟨σ', hk, hall⟩ := marks_leave fuel q _ k r h
          refine ⟨σ', hk, fun W0 P F m fn tmps R L w ds hd hR hres => ?_⟩
          obtain ⟨b, ds', hb, rfl, hd'⟩ := hd
          obtain ⟨h1, h2⟩ := hR.shut hx hb
          exact ⟨by simp, .inl ⟨b, _, rfl, run_takeDeferred h1, hall W0 P F m fn tmps R L _ ds' hd' h2 hres⟩⟩
        | _ => cases h
      | _ => cases h
    | _ => cases h

noncomputable def zipK (n : Nat) (l : List Nat) : AV → T AV → (T AV → Option Res) → Option Res :=
  List.rec (fun args ts k => bcase (isNil args) (k ts) none) (fun p _ ih args ts k => match args with | .cons a q => tst (Nat.blt p n) (T.setK (some a) ts p fun ts' => ih q ts' k) | _ => none) l
theorem zipK_inv {n : Nat} : ∀ {l : List Nat} {args : AV} {ts : T AV} {k : T AV → Option Res} {r : Res}, zipK n l args ts k = some r →
    ∃ ts', k ts' = some r ∧ ∀ L Vs tm, DL η L args Vs → RelA η L n ts { tmps := tm, defers := [] } → Vs.length = l.length ∧ RelA η L n ts' { tmps := (l.zip Vs).foldl (fun t (p : Nat × Value) => t.setIfInBounds p.1 p.2) tm, defers := [] }
  | [], args, ts, k, r, h => by
    have h' : bcase (isNil args) (k ts) none = some r := h
    cases hn : isNil args
    · rw [hn] at h'; cases h'
    · rw [hn] at h'
      have := isNil_true hn; subst this
      refine ⟨ts, h', fun L Vs tm hl hA => ?_⟩
      have := DL_nil_inv hl; subst this
      exact ⟨rfl, hA⟩
  | p :: l, args, ts, k, r, h => by
    cases args with
    | cons a q =>
      obtain ⟨hp, h⟩ := tst_some (h : tst (Nat.blt p n) (T.setK (some a) ts p fun ts' => zipK n l q ts' k) = some r)
      rw [T.setK_eq] at h
      obtain ⟨ts', hk, hall⟩ := zipK_inv h
      refine ⟨ts', hk, fun L Vs tm hl hA => ?_⟩
      obtain ⟨V, Ws, hV, hq, rfl⟩ := D_cons hl
      obtain ⟨h1, h2⟩ := hall L Ws _ hq (hA.put hV (blt_true hp))
      exact ⟨by simp [h1], h2⟩
    | _ => cases h
noncomputable def endSt (j : Option Code) : LoopState := match j with | none => .ready | some _ => .done
noncomputable def noJump (j : Option Code) : Bool := match j with | none => true | some _ => false
noncomputable def endK (o : Nat) (j : Option Code) (σ : H) (k : AV → H → Option Res) : Option Res := lookO σ o fun x => (match x with
  | .loop ts n ps asg bd st pe => layK o (some (.loop ts n ps asg bd (endSt j) j)) σ fun σ' => k (.bool (noJump j)) σ'
  | _ => none)
theorem endK_inv {P : Program} {o : Nat} {j : Option Code} {k : AV → H → Option Res} {r : Res} (h : endK o j σ k = some r) : ∃ σ', k (.bool (noJump j)) σ' = some r ∧
    ∀ (W0 : Base) L w l, Rel W0 η L σ w → L[o]? = some l → ∃ w', (Instr.endRound l j).run P w = .ok (.bool (noJump j)) w' ∧ Rel W0 η L σ' w' := by
  obtain ⟨x, hx, h⟩ := lookO_some h
  cases x with
  | loop ts n ps asg bd st pe =>
    dsimp only at h
    rw [layK_eq] at h
    refine ⟨_, h, fun W0 L w l hR hb => ?_⟩
    obtain ⟨rr, k1, k2, k3, k4, k5, k6, k7, k8, k9⟩ := hR.loopAt hx hb
    have := run_endRound (P := P) j k1
    cases j with
    | none => exact ⟨_, this, k9 _ _⟩
    | some c => exact ⟨_, this, k9 _ _⟩
  | _ => cases h
noncomputable def xRound (C : Cfg) (rom : Rom) (cf : CallF) (o : Nat) (args : AV) (σ : H) (k : AV → H → Option Res) : Option Res := lookO σ o fun x => (match x with
  | .loop ts n ps asg bd st pe => tst (Nat.ble n BIG) (T.setK none ts BIG fun ts0 => zipK n ps.toList args ts0 fun ts1 =>
      xCode C rom cf false n (nat_lit 100000) asg ts1 σ (fun ts2 σ2 => lookO σ2 o fun y => (match y with
        | .loop tsb nb psb asb bdb stb peb => tst (isReady stb) (layK o (some (.loop tsb nb psb asb bdb .busy peb)) σ2 fun σ3 =>
            xCode C rom cf false n (nat_lit 100000) bd ts2 σ3 (fun _ σ4 => endK o none σ4 k) (fun id _ σ4 => endK o (some (.exit id)) σ4 k) (fun _ σ4 => endK o (some .ret) σ4 k))
        | _ => none)) (fun _ _ _ => none) (fun _ _ => none))
  | _ => none)
theorem xRound_inv {C : Cfg} (hC : C.Ok η) {rom : Rom} (hm : C.P.follows .mixedOrders = true) {cf : CallF} (hcf : CallOk C.P rom η cf) {o : Nat} {args : AV} {k : AV → H → Option Res} {r : Res} (h : xRound C rom cf o args σ k = some r) :
    ∃ v σ', k v σ' = some r ∧ ∀ W0, rom.Ok η W0 → RoundTo C.P W0 η o args σ v σ' := by
  obtain ⟨x, hx, h⟩ := lookO_some h
  cases x with
  | loop ts n ps asg bd st pe =>
    obtain ⟨hn, h⟩ := tst_some h
    rw [T.setK_eq] at h
    obtain ⟨ts1, h, hzip⟩ := zipK_inv (η := η) h
    obtain ⟨e, ts2, σ2, hc, hto⟩ := xCode_inv hC hm hcf _ _ _ _ _ _ _ _ h
    cases e with
    | normal =>
      obtain ⟨y, hy, hc⟩ := lookO_some (show lookO σ2 o _ = some r from hc)
      cases y with
      | loop tsb nb psb asb bdb stb peb =>
        obtain ⟨hst, hc⟩ := tst_some hc
        rw [layK_eq] at hc
        obtain ⟨e2, ts3, σ4, hc2, hto2⟩ := xCode_inv hC hm hcf _ _ _ _ _ _ _ _ hc
        have hend : ∃ j σ5, k (.bool (noJump j)) σ5 = some r ∧ (∀ (W0 : Base) L w l, Rel W0 η L σ4 w → L[o]? = some l → ∃ w', (Instr.endRound l j).run C.P w = .ok (.bool (noJump j)) w' ∧ Rel W0 η L σ5 w') ∧ ((e2 = .normal ∧ j = none) ∨ (e2 = .ret ∧ j = some .ret) ∨ ∃ id, e2 = .exit id ∧ j = some (.exit id)) := by
          cases e2 with
          | normal => obtain ⟨σ5, h1, h2⟩ := endK_inv (P := C.P) (η := η) (show endK o none σ4 k = some r from hc2); exact ⟨_, σ5, h1, h2, .inl ⟨rfl, rfl⟩⟩
          | ret => obtain ⟨σ5, h1, h2⟩ := endK_inv (P := C.P) (η := η) (show endK o (some .ret) σ4 k = some r from hc2); exact ⟨_, σ5, h1, h2, .inr (.inl ⟨rfl, rfl⟩)⟩
          | exit id => obtain ⟨σ5, h1, h2⟩ := endK_inv (P := C.P) (η := η) (show endK o (some (.exit id)) σ4 k = some r from hc2); exact ⟨_, σ5, h1, h2, .inr (.inr ⟨id, rfl, rfl⟩)⟩
          | _ => cases hc2
        obtain ⟨j, σ5, hk, hE, hcase⟩ := hend
        refine ⟨_, σ5, hk, fun W0 hM L w Vs l hVs hR hb => ?_⟩
        obtain ⟨rr, k1, k2, k3, k4, k5, k6, k7, k8, k9⟩ := hR.loopAt hx hb
        have hA0 : RelA η L n (T.set none ts BIG) { tmps := rr.tmps, defers := [] } := by
          refine ⟨k7, Nat.le_of_ble_eq_true hn, fun t ht => ?_, ?_⟩
          · rw [T.get_set, if_neg ht]; exact k8 t
          · rw [T.get_set, if_pos rfl]; rfl
        obtain ⟨hlen, hA1⟩ := hzip L Vs _ hVs hA0
        have hps : Vs.toArray.size = rr.params.size := by rw [k4]; simpa using hlen
        refine ⟨rr.fn, _, rr.assign, rr.body, run_yield k1 hps, fun rd m => roundIn_of_wpIn trivial ?_⟩
        have etm : (rr.params.zip Vs.toArray).foldl (fun tmps (x : Nat × Value) => match x with | (t, a) => tmps.setIfInBounds t a) rr.tmps = (ps.toList.zip Vs).foldl (fun t (p : Nat × Value) => t.setIfInBounds p.1 p.2) rr.tmps := by
          rw [k4, ← Array.foldl_toList, Array.toList_zip]
        rw [k5, k6, etm]
        refine hto W0 hM L _ w hA1 hR _ (fun L2 a2 w2 hL2 hA2 hR2 => ?_) (some l) m (fun h => by cases h)
        have hb2 := get_prefix hL2 hb
        obtain ⟨r2, m1, m2, m3, m4, m5, m6, m7, m8, m9⟩ := hR2.loopAt hy hb2
        have hr2 : r2.state = .ready := by rw [m2]; cases stb <;> first | rfl | cases hst
        have hbz := m9 .busy peb
        refine ⟨_, run_beginRound m1 hr2, ?_⟩
        have ew : { r2 with state := LoopState.busy, pending := peb } = { r2 with state := LoopState.busy } := by rw [← m3]
        rw [ew] at hbz
        refine hto2 W0 hM L2 a2 _ hA2 hbz _ (fun L4 a4 w4 hL4 hA4 hR4 => ?_) (some l) m (fun h => by cases h)
        obtain ⟨w5, hrun, hR5⟩ := hE W0 L4 w4 l hR4 (get_prefix hL4 hb2)
        have hfin : ∃ v w', (Instr.endRound l j).run C.P w4 = .ok v w' ∧ ∃ L' V, LM.Le L L' ∧ Ending.returned v = .returned V ∧ D η L' (.bool (noJump j)) V ∧ Rel W0 η L' σ5 w' :=
          ⟨_, w5, hrun, L4, _, hL2.trans hL4, rfl, rfl, hR5⟩
        rcases hcase with ⟨rfl, rfl⟩ | ⟨rfl, rfl⟩ | ⟨id, rfl, rfl⟩
        · exact hfin
        · exact hfin
        · exact hfin
      | _ => cases hc
    | _ => cases hc
  | _ => cases h

noncomputable def argK (n : Nat) : AV → Nat → T AV → (T AV → Option Res) → Option Res :=
  Nat.rec (fun l _ t k => bcase (isNil l) (k t) none) (fun _ ih l i t k => match l with | .cons a r => T.setK (some a) t i fun t' => ih r (Nat.succ i) t' k | .nil => k t | _ => none) n
theorem argK_inv (η : Nat → Int) : ∀ {n : Nat} {l : AV} {i : Nat} {t : T AV} {k : T AV → Option Res} {r : Res}, argK n l i t k = some r →
    ∃ t', k t' = some r ∧ ∀ (L : LM) (Vs : List Value), DL η L l Vs → Vs.length ≤ n ∧ (∀ j V, Vs[j]? = some V → ∃ v, t'.get (i + j) = some v ∧ D η L v V) ∧ ∀ j, (j < i ∨ i + Vs.length ≤ j) → t'.get j = t.get j
  | 0, l, i, t, k, r, h => by
    have h' : bcase (isNil l) (k t) none = some r := h
    cases hn : isNil l
    · rw [hn] at h'; cases h'
    · rw [hn] at h'
      have := isNil_true hn; subst this
      refine ⟨t, h', fun L Vs hl => ?_⟩
      have := DL_nil_inv hl; subst this
      exact ⟨Nat.le_refl _, fun j V hj => by simp at hj, fun j _ => rfl⟩
  | n + 1, l, i, t, k, r, h => by
    cases l with
    | cons a q =>
      have h' : T.setK (some a) t i (fun t' => argK n q (i + 1) t' k) = some r := h
      rw [T.setK_eq] at h'
      obtain ⟨t', hk, hall⟩ := argK_inv η h'
      refine ⟨t', hk, fun L Vs hl => ?_⟩
      obtain ⟨V, Ws, hV, hq, rfl⟩ := D_cons hl
      obtain ⟨hlen, hj, ho⟩ := hall L Ws hq
      refine ⟨by simp; exact hlen, fun j U hU => ?_, fun j hjn => ?_⟩
      · cases j with
        | zero => simp at hU; subst hU; exact ⟨a, by rw [ho (i + 0) (by omega), T.get_set, if_pos (by omega)], hV⟩
        | succ j => obtain ⟨v, h1, h2⟩ := hj j U (by simpa using hU); exact ⟨v, by rw [show i + (j + 1) = i + 1 + j by omega]; exact h1, h2⟩
      · simp at hjn
        rw [ho j (by omega), T.get_set, if_neg (by omega)]
    | nil =>
      refine ⟨t, h, fun L Vs hl => ?_⟩
      have := DL_nil_inv hl; subst this
      exact ⟨Nat.zero_le _, fun j V hj => by simp at hj, fun j _ => rfl⟩
    | _ => cases h
/-- A contract in the place of a function. -/
abbrev HookF := AV → H → (AV → H → Option Res) → Option Res
noncomputable def retK (C : Cfg) (fn : Func) (k : AV → H → Option Res) (ts : T AV) (σ : H) : Option Res := marksK (nat_lit 4096) (oget (ts.get BIG) undefA) σ fun σ => ob (ares C.P ts σ fn.results.toList) fun l => fav (resVal l) fun v => k v σ
noncomputable def xFun (C : Cfg) (rom : Rom) (hk : Nat → Option HookF) (cf : CallF) : CallF := fun b f args σ k => bcase b (xRound C rom cf f args σ k)
  (Option.rec (ob (C.P.funcs[f]?) fun fn => tst (Nat.ble fn.ntmps BIG) (ob fn.body fun code => argK fn.ntmps args (nat_lit 0) .nil fun ts =>
      xCode C rom cf true fn.ntmps (nat_lit 100000) code ts σ (retK C fn k) (fun _ _ _ => none) (retK C fn k)))
    (fun h => h args σ k) (hk f))
noncomputable def acall (C : Cfg) (rom : Rom) (hk : Nat → Option HookF) (n : Nat) : CallF := Nat.rec (fun _ _ _ _ _ => none) (fun _ ih => xFun C rom hk ih) n
def HookOk (P : Program) (rom : Rom) (η : Nat → Int) (hk : Nat → Option HookF) : Prop := ∀ f h, hk f = some h → ∀ args σ k r, h args σ k = some r → ∃ v σ', k v σ' = some r ∧ ∀ W0, rom.Ok η W0 → CallsTo P W0 η f args σ v σ'
def NamesOk (P : Program) : Prop := ∀ (f : Nat) (fn : Func), P.funcs[f]? = some fn → (fn.name == "runtime.NumGoroutine") = false
theorem xFun_ok {C : Cfg} (hC : C.Ok η) {rom : Rom} (hm : C.P.follows .mixedOrders = true) (hN : NamesOk C.P) {hk : Nat → Option HookF} (hH : HookOk C.P rom η hk) {cf : CallF} (hcf : CallOk C.P rom η cf) : CallOk C.P rom η (xFun C rom hk cf) := by
  refine ⟨fun f args σ k r h => ?_, fun o args σ k r h => xRound_inv hC hm hcf (show xRound C rom cf o args σ k = some r from h)⟩
  have h : Option.rec (motive := fun _ => Option Res) (ob (C.P.funcs[f]?) fun fn => tst (Nat.ble fn.ntmps BIG) (ob fn.body fun code => argK fn.ntmps args (nat_lit 0) .nil fun ts =>
      xCode C rom cf true fn.ntmps (nat_lit 100000) code ts σ (retK C fn k) (fun _ _ _ => none) (retK C fn k)))
    (fun h => h args σ k) (hk f) = some r := h
  cases hf : hk f with
  | some hh => rw [hf] at h; exact hH f hh hf args σ k r h
  | none =>
    rw [hf] at h
    obtain ⟨fn, hfn, h⟩ := ob_some h
    obtain ⟨hbig, h⟩ := tst_some h
    obtain ⟨code, hcode, h⟩ := ob_some h
    obtain ⟨ts, hrun, hargs⟩ := argK_inv η h
    obtain ⟨e, ts', σ2, hc, hto⟩ := xCode_inv hC hm hcf _ _ _ _ _ _ _ _ hrun
    have hc' : retK C fn k ts' σ2 = some r ∧ (e = .normal ∨ e = .ret) := by
      cases e with
      | normal => exact ⟨hc, .inl rfl⟩
      | ret => exact ⟨hc, .inr rfl⟩
      | _ => cases hc
    obtain ⟨hret, he⟩ := hc'
    obtain ⟨σ', hk1, hall⟩ := marks_leave (η := η) _ _ _ _ _ hret
    obtain ⟨l, hl, hk1⟩ := ob_some hk1
    rw [fav_eq] at hk1
    refine ⟨resVal l, σ', hk1, fun W0 hM L w Vs hVs hR => ?_⟩
    obtain ⟨hlen, h1, h2⟩ := hargs L Vs hVs
    simp only [Nat.zero_add] at h1 h2
    have hbig' : fn.ntmps ≤ BIG := Nat.le_of_ble_eq_true hbig
    refine ⟨⟨fn, hfn, hN f fn hfn, by rw [hcode]; rfl⟩, (callsIn_wide (n := 0)).1 (callsIn_of_wp_marks hfn hcode trivial ?_)⟩
    have hA : RelA η L fn.ntmps ts { tmps := Vs.toArray ++ Array.replicate (fn.ntmps - Vs.toArray.size) undef, defers := [] } := by
      refine ⟨by simp; omega, hbig', fun t _ => ?_, ?_⟩
      · by_cases ht : t < Vs.length
        · obtain ⟨v, hv, hD⟩ := h1 t Vs[t] (by simp [ht])
          rw [hv]
          have : (Vs.toArray ++ Array.replicate (fn.ntmps - Vs.toArray.size) undef).getD t undef = Vs[t] := by
            rw [Array.getD_eq_getD_getElem?, Array.getElem?_append_left (by simpa using ht)]
            simp [ht]
          show D η L (oget (some v) undefA) ((Vs.toArray ++ Array.replicate (fn.ntmps - Vs.toArray.size) undef).getD t undef)
          rw [this]; exact hD
        · rw [h2 t (.inr (Nat.le_of_not_lt ht))]
          have : (Vs.toArray ++ Array.replicate (fn.ntmps - Vs.toArray.size) undef).getD t undef = undef := by
            rw [Array.getD_eq_getD_getElem?, Array.getElem?_append_right (by simp; omega)]
            rw [Array.getElem?_replicate]
            split <;> rfl
          show D η L (oget (T.get .nil t) undefA) ((Vs.toArray ++ Array.replicate (fn.ntmps - Vs.toArray.size) undef).getD t undef)
          rw [this]; exact D_undef
      · rw [h2 BIG (.inr (by omega))]; rfl
    refine hto W0 hM L _ w hA hR _ (fun L' a' w' hL hA' hR' => ?_) none 0 (fun _ => rfl)
    have hfin : LeavesInM (Wd none) 0 C.P fn a'.tmps (fun e w' => ∃ L' V, LM.Le L L' ∧ e = .returned V ∧ D η L' (resVal l) V ∧ Rel W0 η L' σ' w') a'.defers .returning w' := by
      refine hall W0 C.P (Wd none) 0 fn a'.tmps _ L' w' a'.defers hA'.defers hR' fun w2 hR2 => ?_
      obtain ⟨V, hV, hres⟩ := run_results hA' hR2 hl
      exact ⟨V, hres, L', V, hL, rfl, hV, hR2⟩
    rcases he with rfl | rfl
    · exact hfin
    · exact hfin
theorem acall_ok {C : Cfg} (hC : C.Ok η) {rom : Rom} (hm : C.P.follows .mixedOrders = true) (hN : NamesOk C.P) {hk : Nat → Option HookF} (hH : HookOk C.P rom η hk) : ∀ n, CallOk C.P rom η (acall C rom hk n)
  | 0 => ⟨fun f args σ k r h => (by cases h), fun f args σ k r h => (by cases h)⟩
  | n + 1 => xFun_ok hC hm hN hH (acall_ok hC hm hN hH n)
/-- A world, as a call finds it. -/
def Base.of (w : World) : Base := ⟨w, fun k => w.heap[k]?, fun _ => False⟩
theorem Rel.start (w : World) (η : Nat → Int) : Rel (Base.of w) η LM.none_ ⟨.nil, 0⟩ w :=
  ⟨rfl, rfl, rfl, fun k x h => h, fun o _ => rfl, fun o h => h.elim, fun o x h => (by cases h), fun o o' x x' b h => (by cases h)⟩
theorem Rel.below {w' : World} (h : Rel (Base.of w) η L σ w') : Below w.heap.size w w' := by
  have hk : ∀ k, k < w.heap.size → w'.heap[k]? = w.heap[k]? := fun k hk => (h.held k w.heap[k] (by show w.heap[k]? = _; simp [hk])).trans (by simp [hk])
  refine ⟨h.os, h.tape, h.output, ?_, hk⟩
  cases hn : w.heap.size with
  | zero => exact Nat.zero_le _
  | succ n =>
    have h1 := hk n (by omega)
    rw [Array.getElem?_eq_getElem (show n < w.heap.size by omega)] at h1
    exact (Array.getElem?_eq_some_iff.1 h1).1
/-- What a run says of a call in a world. -/
theorem run_says {C : Cfg} (hC : C.Ok η) {rom : Rom} {w : World} (hM : rom.Ok η (Base.of w)) (hm : C.P.follows .mixedOrders = true) (hN : NamesOk C.P) {hk : Nat → Option HookF} (hH : HookOk C.P rom η hk) {n f : Nat} {args v : AV} {σ' : H} (h : acall C rom hk n false f args ⟨.nil, 0⟩ (fun v σ => some (v, σ)) = some (v, σ')) {Vs : List Value} (ha : DL η LM.none_ args Vs) :
    Calls C.P f Vs.toArray w fun e w' => ∃ L V, e = .returned V ∧ D η L v V ∧ Below w.heap.size w w' := by
  obtain ⟨v2, σ2, hk2, hto⟩ := (acall_ok hC hm hN hH n).1 f args _ _ _ h
  cases hk2
  obtain ⟨_, hc⟩ := hto (Base.of w) hM LM.none_ w Vs ha (Rel.start w η)
  refine hc.mono ?_
  rintro e w' ⟨L, V, _, rfl, hD, hR⟩
  exact ⟨L, V, rfl, hD, hR.below⟩
end Go.Proofs.YtcjlhjoobchabaaGreatDoor
