/- The engine, 24: loops' records; code. -/
import Derived.Test.YtcjlhjoobchabaaGreatDoorEng23
namespace Go.Proofs.YtcjlhjoobchabaaGreatDoor
open Go.RowKit
set_option linter.unusedVariables false
set_option linter.unusedSimpArgs false
variable {η : Nat → Int} {L L' : LM} {W0 : Base} {w : World} {σ σ' : H}

noncomputable def countA (l : List Oper) : Nat := List.rec (nat_lit 0) (fun o _ ih => Option.rec ih (fun _ => Nat.succ ih) (allocT o.op)) l
noncomputable def rsvK {β : Type} (K : Nat) (σ : H) (k : H → Nat → β) : β := H.rec (fun h nx => fnat (Nat.add nx K) fun nx' => k ⟨h, nx'⟩ nx) σ
theorem rsvK_eq {β : Type} (K : Nat) (σ : H) (k : H → Nat → β) : rsvK K σ k = k ⟨σ.h, σ.nx + K⟩ σ.nx := by
  obtain ⟨h, nx⟩ := σ
  show fnat (Nat.add nx K) (fun nx' => k ⟨h, nx'⟩ nx) = _
  rw [fnat_eq]; rfl
noncomputable def xDraw (C : Cfg) (rom : Rom) (cf : CallF) (n : Nat) (ops : List Oper) (ts : T AV) (σ : H) (k : T AV → H → Option Res) : Option Res :=
  tst (statA ops) (rsvK (countA ops) σ fun σr q0 => xTr C rom cf n ops ops (nat_lit 0) ts σr [] q0 [] fun acc ts' σe pd qe => tst (Nat.ble qe σr.nx) (tst (chkTr C rom ops acc.reverse σr σe) (insK pd σe fun σ' => k ts' σ')))
theorem xDraw_inv {C : Cfg} (hC : C.Ok η) {rom : Rom} (hm : C.P.follows .mixedOrders = true) {n : Nat} {cf : CallF} (hcf : CallOk C.P rom η cf) {ops : Array Oper} {id : Nat} {ts : T AV} {k : T AV → H → Option Res} {r : Res} (h : xDraw C rom cf n ops.toList ts σ k = some r) :
    ∃ ts' σ', k ts' σ' = some r ∧ ∀ W0, rom.Ok η W0 → ∀ L a w, RelA η L n ts a → Rel W0 η L σ w → ∀ Q : Exit → Act → World → Prop, (∀ L' a' w', LM.Le L L' → RelA η L' n ts' a' → Rel W0 η L' σ' w' → Q .normal a' w') → ∀ rd m, (Code.region id ops true).wpIn (Wd rd) m C.P Q a w := by
  obtain ⟨hS, h⟩ := tst_some h
  rw [rsvK_eq] at h
  obtain ⟨tr, ts', σe, pd, qe, hk, hT⟩ := xTr_inv (n := n) hC hcf h
  obtain ⟨hqe, hk⟩ := tst_some hk
  obtain ⟨hch, hk⟩ := tst_some hk
  rw [insK_eq] at hk
  have hqe' : qe ≤ σ.nx + countA ops.toList := Nat.le_of_ble_eq_true hqe
  simp only [List.append_nil, List.reverse_reverse] at hch
  have hlen : tr.length = ops.size := by have := tr_len hT; simpa using this
  have hSS := statA_stat hS
  have hDD := chkTr_dyn hlen hch
  refine ⟨ts', _, hk, fun W0 hM L a w hA hR Q hQ rd m => wpIn_region_any hm ?_⟩
  refine draw_all (L0 := L) hSS hT hDD hC hM rd m (fun o ho => (hR.rsv o ho).1) hQ ops.size (Array.replicate ops.size false) a w.drew L ts 0 (W0.rsv σ.nx (countA ops.toList)) (LM.Le.refl _) ?_ ?_
  · unfold unl
    refine Nat.le_trans (List.length_filter_le _ _) (by simp)
  · have hf : ∀ j, (Array.replicate ops.size false).getD j false = false := fun j => by
      by_cases h : j < ops.size <;> simp [h]
    refine ⟨by simp, fun j o _ hl => ?_, hA, fun j o e t _ _ _ hl => ?_, fun t _ => rfl, .inl rfl, fun j ej _ _ => ?_, rfl, fun k x hx => hx, fun o ho => .inl ho, fun i e he hke _ => ?_, fun i e _ _ hl => ?_, fun i j e e2 b _ _ hl => ?_, ?_⟩
    · rw [hf] at hl; cases hl
    · rw [hf] at hl; cases hl
    · rw [hf]; simp
    · obtain ⟨g1, g2, g3⟩ := new_num hT he hke
      refine .inr ⟨by omega, ?_⟩
      have := Nat.lt_of_lt_of_le g3 hqe'
      omega
    · rw [hf] at hl; cases hl
    · rw [hf] at hl; cases hl
    · rw [(tr_zero hT).2.1]; exact hR.drew.reserve _

def Cont (kn : T AV → H → Option Res) (ke : Nat → T AV → H → Option Res) (kr : T AV → H → Option Res) (e : Exit) (ts : T AV) (σ : H) : Option Res :=
  match e with | .normal => kn ts σ | .exit id => ke id ts σ | .ret => kr ts σ | _ => none
noncomputable def xLoop (body : T AV → H → (T AV → H → Option Res) → Option Res) (m : Nat) : T AV → H → Option Res := Nat.rec (fun _ _ => none) (fun _ ih ts σ => body ts σ ih) m
abbrev CodeF := Code → T AV → H → (T AV → H → Option Res) → (Nat → T AV → H → Option Res) → (T AV → H → Option Res) → Option Res
/-- A loop over a function. -/
noncomputable def isReady (s : LoopState) : Bool := match s with | .ready => true | _ => false
noncomputable def notBusy (s : LoopState) : Bool := match s with | .busy => false | _ => true
noncomputable def xRange (cf : CallF) (n : Nat) (f : Operand) (ps : Array Nat) (asg bd : Code) (ts : T AV) (σ : H) (kn : T AV → H → Option Res) (ke : Nat → T AV → H → Option Res) (kr : T AV → H → Option Res) : Option Res :=
  ob (aev ts f) fun fv => (match fv with
    | .func fn first cap => (match fn with
      | .func fid => tst (spineA first) (newK .marks σ fun oD σ1 => T.setK none ts BIG fun tsL => newK (.loop tsL n ps asg bd .ready none) σ1 fun oL σ2 =>
          cf false fid (appA first (.cons (.yieldf oL) cap)) σ2 fun _ σ3 => lookO σ3 oL fun x => (match x with
            | .loop ts4 n4 ps4 as4 bd4 st pe => tst (notBusy st) (layK oL (some (.loop ts4 n4 ps4 as4 bd4 .exhausted pe)) σ3 fun σ4 =>
                T.setK (some (.cons (.ptr oD (nat_lit 0)) (oget (ts.get BIG) undefA))) ts BIG fun ts5 =>
                  (match pe with
                  | none => kn ts5 σ4
                  | some c => (match c with | .ret => kr ts5 σ4 | .exit id => ke id ts5 σ4 | _ => none)))
            | _ => none))
      | _ => none)
    | _ => none)
noncomputable def xCode (C : Cfg) (rom : Rom) (cf : CallF) (top : Bool) (n : Nat) (fuel : Nat) : CodeF :=
  Nat.rec (fun _ _ _ _ _ _ => none) (fun _ ih c ts σ kn ke kr => match c with
    | .skip => kn ts σ
    | .label _ => kn ts σ
    | .region _ ops draw => bcase draw (xDraw C rom cf n ops.toList ts σ kn) (xOps C rom cf n ops.toList ops.toList ts σ kn)
    | .seq a b => ih a ts σ (fun ts σ => ih b ts σ kn ke kr) ke kr
    | .cond c a b => ob (aev ts c) fun v => (match v with | .bool q => bcase q (ih a ts σ kn ke kr) (ih b ts σ kn ke kr) | _ => none)
    | .block id b => ih b ts σ kn (fun id' ts σ => bcase (Nat.beq id' id) (kn ts σ) (ke id' ts σ)) kr
    | .loop b => xLoop (fun ts σ k => ih b ts σ k ke kr) (nat_lit 100000) ts σ
    | .exit id => ke id ts σ
    | .ret => kr ts σ
    | .rangeFunc f ps asg bd => tst top (xRange cf n f ps asg bd ts σ kn ke kr)
    | _ => none) fuel
/-- A code comes to an exit, the slots, and the heap. -/
def CodeTo (P : Program) (rom : Rom) (η : Nat → Int) (top : Bool) (n : Nat) (c : Code) (ts : T AV) (σ : H) (e : Exit) (ts' : T AV) (σ' : H) : Prop :=
  ∀ W0, rom.Ok η W0 → ∀ L a w, RelA η L n ts a → Rel W0 η L σ w → ∀ Q : Exit → Act → World → Prop, (∀ L' a' w', LM.Le L L' → RelA η L' n ts' a' → Rel W0 η L' σ' w' → Q e a' w') → ∀ rd m, (top = true → rd = none) → c.wpIn (Wd rd) m P Q a w
/-- A loop's record lies in memory; it may be laid anew. -/
theorem Rel.loopAt {o b : Nat} {ts : T AV} {n : Nat} {ps : Array Nat} {asg bd : Code} {st : LoopState} {pe : Option Code} (hR : Rel W0 η L σ w) (ho : σ.h.get o = some (.loop ts n ps asg bd st pe)) (hb : L[o]? = some b) :
    ∃ r : Loop, w.heap[b]? = some (.loop r) ∧ r.state = st ∧ r.pending = pe ∧ r.params = ps ∧ r.assign = asg ∧ r.body = bd ∧ r.tmps.size = n ∧ (∀ t, D η L (oget (ts.get t) undefA) (r.tmps.getD t undef)) ∧
      ∀ st' pe', Rel W0 η L ⟨T.set (some (.loop ts n ps asg bd st' pe')) σ.h o, σ.nx⟩ (w.putObj b (.loop { r with state := st', pending := pe' })) := by
  obtain ⟨b', g1, g2, fn, tm, ds, h1, h2, h3⟩ := hR.obj o _ ho
  have e : b' = b := by have := g1.symm.trans hb; simpa using this
  subst e
  refine ⟨_, h1, rfl, rfl, rfl, rfl, rfl, h2, h3, fun st' pe' => ?_⟩
  refine hR.put (w' := w.putObj b' _) ⟨rfl, rfl, rfl, by simp, fun k hk hne => World.putObj_heap_other hne⟩ (LM.Le.refl _) hR.free hR.rsv hb g2 ?_ (fun o' y hy hb' => hR.inj _ _ _ _ _ hy ho hb' hb)
  exact ⟨fn, tm, ds, World.putObj_heap_same (lt_of_heap h1), h2, h3⟩
theorem xLoop_inv {P : Program} {rom : Rom} {top : Bool} {n : Nat} {b : Code} {body : T AV → H → (T AV → H → Option Res) → Option Res} {ke : Nat → T AV → H → Option Res} {kr : T AV → H → Option Res}
    (hb : ∀ ts σ k r, body ts σ k = some r → ∃ e ts' σ', Cont k ke kr e ts' σ' = some r ∧ CodeTo P rom η top n b ts σ e ts' σ') :
    ∀ (m : Nat) (ts : T AV) (σ : H) (r : Res), xLoop body m ts σ = some r → ∃ e ts' σ', Cont (fun _ _ => none) ke kr e ts' σ' = some r ∧
      ∀ W0, rom.Ok η W0 → ∀ L a w, RelA η L n ts a → Rel W0 η L σ w → ∀ Q : Exit → Act → World → Prop, (∀ L' a' w', LM.Le L L' → RelA η L' n ts' a' → Rel W0 η L' σ' w' → Q e a' w') → ∀ rd k, (top = true → rd = none) → Code.roundsIn (Wd rd) k P b Q m a w
  | 0, ts, σ, r, h => by cases h
  | m + 1, ts, σ, r, h => by
    obtain ⟨e, ts1, σ1, hc, hto⟩ := hb ts σ (xLoop body m) r h
    cases e with
    | normal =>
      obtain ⟨e2, ts2, σ2, hc2, hto2⟩ := xLoop_inv hb m ts1 σ1 r hc
      refine ⟨e2, ts2, σ2, hc2, fun W0 hM L a w hA hR Q hQ rd k hrd => ?_⟩
      rw [roundsIn_succ]
      exact hto W0 hM L a w hA hR _ (fun L1 a1 w1 hL1 hA1 hR1 => hto2 W0 hM L1 a1 w1 hA1 hR1 Q (fun L2 a2 w2 hL2 hA2 hR2 => hQ L2 a2 w2 (hL1.trans hL2) hA2 hR2) rd k hrd) rd k hrd
    | exit id =>
      refine ⟨.exit id, ts1, σ1, hc, fun W0 hM L a w hA hR Q hQ rd k hrd => ?_⟩
      rw [roundsIn_succ]
      exact hto W0 hM L a w hA hR _ (fun L1 a1 w1 hL1 hA1 hR1 => (by exact hQ L1 a1 w1 hL1 hA1 hR1)) rd k hrd
    | ret =>
      refine ⟨.ret, ts1, σ1, hc, fun W0 hM L a w hA hR Q hQ rd k hrd => ?_⟩
      rw [roundsIn_succ]
      exact hto W0 hM L a w hA hR _ (fun L1 a1 w1 hL1 hA1 hR1 => (by exact hQ L1 a1 w1 hL1 hA1 hR1)) rd k hrd
    | _ => cases hc
theorem spine_cons {o b : Nat} {cap : AV} {Y : List Value} (hb : L[o]? = some b) (hY : DL η L cap Y) : DL η L (.cons (.yieldf o) cap) (.func (.yield b) #[] #[] :: Y) :=
  DL_cons (by show (L[o]?.map fun b => [Value.func (.yield b) #[] #[]]) = _; rw [hb]; rfl) hY
theorem xRange_inv {P : Program} {rom : Rom} {n : Nat} {cf : CallF} (hcf : CallOk P rom η cf) {f : Operand} {ps : Array Nat} {asg bd : Code} {ts : T AV} {kn : T AV → H → Option Res} {ke : Nat → T AV → H → Option Res} {kr : T AV → H → Option Res} {r : Res}
    (h : xRange cf n f ps asg bd ts σ kn ke kr = some r) : ∃ e ts' σ', Cont kn ke kr e ts' σ' = some r ∧
      ∀ W0, rom.Ok η W0 → ∀ L a w, RelA η L n ts a → Rel W0 η L σ w → ∀ Q : Exit → Act → World → Prop, (∀ L' a' w', LM.Le L L' → RelA η L' n ts' a' → Rel W0 η L' σ' w' → Q e a' w') → ∀ m, (Code.rangeFunc f ps asg bd).wpIn (Wd none) m P Q a w := by
  obtain ⟨fv, hfv, h⟩ := ob_some h
  cases fv with
  | func fn first cap =>
    cases fn with
    | func fid =>
      obtain ⟨h1, h⟩ := tst_some h
      rw [newK_eq, T.setK_eq, newK_eq] at h
      dsimp only at h
      obtain ⟨v, σ3, h, hcall⟩ := hcf.1 _ _ _ _ _ h
      obtain ⟨x, hx, h⟩ := lookO_some h
      cases x with
      | loop ts4 n4 ps4 as4 bd4 st pe =>
        obtain ⟨h2, h⟩ := tst_some h
        rw [layK_eq, T.setK_eq] at h
        obtain ⟨e, hc, hpe⟩ : ∃ e, Cont kn ke kr e (T.set (some (.cons (.ptr σ.nx 0) (oget (ts.get BIG) undefA))) ts BIG) ⟨T.set (some (.loop ts4 n4 ps4 as4 bd4 .exhausted pe)) σ3.h (σ.nx + 1), σ3.nx⟩ = some r ∧
            ((pe = none ∧ e = .normal) ∨ (pe = some .ret ∧ e = .ret) ∨ ∃ id, pe = some (.exit id) ∧ e = .exit id) := by
          cases pe with
          | none => exact ⟨.normal, h, .inl ⟨rfl, rfl⟩⟩
          | some c =>
            cases c with
            | ret => exact ⟨.ret, h, .inr (.inl ⟨rfl, rfl⟩)⟩
            | exit id => exact ⟨.exit id, h, .inr (.inr ⟨id, rfl, rfl⟩)⟩
            | _ => cases h
        refine ⟨e, _, _, hc, fun W0 hM L a w hA hR Q hQ m => ?_⟩
        obtain ⟨X, Y, hX, hY, hfe⟩ := D_func (hA.ev f _ hfv)
        have hsz : (w.alloc (.deferred (some []))).heap.size = w.heap.size + 1 := by simp
        have hR1 := hR.new (o := .deferred (some [])) (x := .marks) (World.alloc_heap_new w _)
        have hsz1 : (w.alloc (.deferred (some []))).heap.size = w.heap.size + 1 := by simp
        have hL1 : LM.Le L (L.ext σ.nx w.heap.size) := hR.ext_le _
        refine wpIn_rangeFunc fun fn' _ => ?_
        obtain ⟨rec', hrec⟩ : ∃ rec' : Loop, rec' = { state := .ready, pending := none, fn := fn', tmps := a.tmps, params := ps, assign := asg, body := bd, defers := w.heap.size } := ⟨_, rfl⟩
        have hR2 := hR1.new (o := .loop rec') (x := .loop (T.set none ts BIG) n ps asg bd .ready none) (by
          refine ⟨fn', a.tmps, w.heap.size, by rw [hrec]; exact World.alloc_heap_new _ _, hA.size, fun t => ?_⟩
          rw [T.get_set]
          by_cases ht : t = BIG
          · rw [if_pos ht]
            have : a.tmps.getD t undef = undef := by
              rw [Array.getD_eq_getD_getElem?, Array.getElem?_eq_none (by rw [hA.size, ht]; exact hA.small)]; rfl
            rw [this]; exact D_undef
          · rw [if_neg ht]
            exact (hA.val t ht).mono (hL1.trans (hR1.ext_le _)))
        rw [hsz] at hR2
        have hL2 : LM.Le L ((L.ext σ.nx w.heap.size).ext (σ.nx + 1) (w.heap.size + 1)) := hL1.trans (hR1.ext_le _)
        have hbD : ((L.ext σ.nx w.heap.size).ext (σ.nx + 1) (w.heap.size + 1))[σ.nx]? = some w.heap.size := ext2_at ..
        have hbL : ((L.ext σ.nx w.heap.size).ext (σ.nx + 1) (w.heap.size + 1))[σ.nx + 1]? = some (w.heap.size + 1) := LM.ext_at ..
        obtain ⟨hok, hcl⟩ := hcall W0 hM _ _ _ (appA_spine h1 (hX.mono hL2) (spine_cons hbL (hY.mono hL2))) hR2
        refine ⟨w.heap.size + 1, [mark w.heap.size], (w.alloc (.deferred (some []))).alloc (.loop rec'), ⟨.fn (.func fid) Y.toArray, X.toArray ++ #[.func (.yield (w.heap.size + 1)) #[] #[]]⟩, (w.alloc (.deferred (some []))).alloc (.loop rec'), fid, (X ++ (.func (.yield (w.heap.size + 1)) #[] #[] :: Y)).toArray, (w.alloc (.deferred (some []))).alloc (.loop rec'), by rw [hrec]; exact run_enterLoop_outer .., ?_, fun _ _ => trivial, ?_, fun h => (by cases h), (callsIn_wide (n := m - 1)).2 ?_⟩
        · simp only [rangeCall, resolve, hfe, Deferred.ofValue, Sem.run_bind, Sem.run_pure, Result.andThen_ok, List.map_toArray, List.map_cons, List.map_nil]
          rfl
        · have e : (X.toArray ++ #[Value.func (.yield (w.heap.size + 1)) #[] #[]]) ++ Y.toArray = (X ++ (.func (.yield (w.heap.size + 1)) #[] #[] :: Y)).toArray := Array.toList_inj.1 (by simp)
          simp only [invoke]
          rw [e]
          exact run_callFunc hok _
        · refine Calls.mono hcl ?_
          rintro e' w3 ⟨L3, V, hL3, rfl, hD, hR3⟩
          obtain ⟨rr, k1, k2, k3, k4, k5, k6, k7, k8, k9⟩ := hR3.loopAt hx (get_prefix hL3 hbL)
          have hnb : rr.state ≠ .busy := by rw [k2]; intro e; rw [e] at h2; cases h2
          refine ⟨_, _, run_endLoop k1 hnb, ?_⟩
          have hR4 := k9 .exhausted pe
          have hA4 : RelA η L3 n (T.set (some (.cons (.ptr σ.nx 0) (oget (ts.get BIG) undefA))) ts BIG) { a with defers := [mark w.heap.size] ++ a.defers } := by
            refine ⟨hA.size, hA.small, fun t ht => ?_, ?_⟩
            · rw [T.get_set, if_neg ht]; exact (hA.val t ht).mono (hL2.trans hL3)
            · rw [T.get_set, if_pos rfl]
              exact ⟨_, _, get_prefix hL3 hbD, rfl, hA.defers.mono (hL2.trans hL3)⟩
          have hfin := hQ L3 _ _ (hL2.trans hL3) hA4 hR4
          rw [← k3] at hpe hfin
          rcases hpe with ⟨hp, rfl⟩ | ⟨hp, rfl⟩ | ⟨id, hp, rfl⟩
          · rw [hp] at hfin ⊢; exact hfin
          · rw [hp] at hfin ⊢; exact wpIn_ret hfin
          · rw [hp] at hfin ⊢; exact wpIn_exit hfin
      | _ => cases h
    | _ => cases h
  | _ => cases h
theorem xCode_inv {C : Cfg} (hC : C.Ok η) {rom : Rom} (hm : C.P.follows .mixedOrders = true) {top : Bool} {n : Nat} {cf : CallF} (hcf : CallOk C.P rom η cf) :
    ∀ (fuel : Nat) (c : Code) (ts : T AV) (σ : H) (kn : T AV → H → Option Res) (ke : Nat → T AV → H → Option Res) (kr : T AV → H → Option Res) (r : Res), xCode C rom cf top n fuel c ts σ kn ke kr = some r →
      ∃ e ts' σ', Cont kn ke kr e ts' σ' = some r ∧ CodeTo C.P rom η top n c ts σ e ts' σ'
  | 0, c, ts, σ, kn, ke, kr, r, h => by cases h
  | fuel + 1, c, ts, σ, kn, ke, kr, r, h => by
    cases c with
    | skip => exact ⟨.normal, ts, σ, h, fun W0 hM L a w hA hR Q hQ rd m _ => wpIn_skip (hQ L a w (LM.Le.refl _) hA hR)⟩
    | label l => exact ⟨.normal, ts, σ, h, fun W0 hM L a w hA hR Q hQ rd m _ => wpIn_label (hQ L a w (LM.Le.refl _) hA hR)⟩
    | exit id => exact ⟨.exit id, ts, σ, h, fun W0 hM L a w hA hR Q hQ rd m _ => wpIn_exit (hQ L a w (LM.Le.refl _) hA hR)⟩
    | ret => exact ⟨.ret, ts, σ, h, fun W0 hM L a w hA hR Q hQ rd m _ => wpIn_ret (hQ L a w (LM.Le.refl _) hA hR)⟩
    | region id ops draw =>
      cases draw with
      | true =>
        obtain ⟨ts', σ', hk, hto⟩ := xDraw_inv (id := id) hC hm hcf (h : xDraw C rom cf n ops.toList ts σ kn = some r)
        exact ⟨.normal, ts', σ', hk, fun W0 hM L a w hA hR Q hQ rd m _ => hto W0 hM L a w hA hR Q hQ rd m⟩
      | false =>
        obtain ⟨ts', σ', hk, hto⟩ := xOps_inv hC hcf (pre := []) (ops := ops) (l := ops.toList) rfl (h : xOps C rom cf n ops.toList ops.toList ts σ kn = some r)
        refine ⟨.normal, ts', σ', hk, fun W0 hM L a w hA hR Q hQ rd m _ => wpIn_region ?_⟩
        have := hto W0 hM L a w hA hR Q hQ rd m
        rw [List.range_eq_range']
        simpa using this
    | seq x y =>
      obtain ⟨e, ts1, σ1, hc, hto⟩ := xCode_inv hC hm hcf fuel x ts σ _ _ _ r h
      cases e with
      | normal =>
        obtain ⟨e2, ts2, σ2, hc2, hto2⟩ := xCode_inv hC hm hcf fuel y ts1 σ1 _ _ _ r hc
        exact ⟨e2, ts2, σ2, hc2, fun W0 hM L a w hA hR Q hQ rd m hrd => wpIn_seq (hto W0 hM L a w hA hR _ (fun L1 a1 w1 hL1 hA1 hR1 => hto2 W0 hM L1 a1 w1 hA1 hR1 Q (fun L2 a2 w2 hL2 hA2 hR2 => hQ L2 a2 w2 (hL1.trans hL2) hA2 hR2) rd m hrd) rd m hrd)⟩
      | exit id => exact ⟨.exit id, ts1, σ1, hc, fun W0 hM L a w hA hR Q hQ rd m hrd => wpIn_seq (hto W0 hM L a w hA hR _ (fun L1 a1 w1 hL1 hA1 hR1 => (by exact hQ L1 a1 w1 hL1 hA1 hR1)) rd m hrd)⟩
      | ret => exact ⟨.ret, ts1, σ1, hc, fun W0 hM L a w hA hR Q hQ rd m hrd => wpIn_seq (hto W0 hM L a w hA hR _ (fun L1 a1 w1 hL1 hA1 hR1 => (by exact hQ L1 a1 w1 hL1 hA1 hR1)) rd m hrd)⟩
      | _ => cases hc
    | cond x y z =>
      obtain ⟨v, hv, h⟩ := ob_some (h : ob (aev ts x) (fun v => (match v with | .bool q => bcase q (xCode C rom cf top n fuel y ts σ kn ke kr) (xCode C rom cf top n fuel z ts σ kn ke kr) | _ => none)) = some r)
      cases v with
      | bool q =>
        cases q with
        | true =>
          obtain ⟨e, ts1, σ1, hc, hto⟩ := xCode_inv hC hm hcf fuel y ts σ _ _ _ r (show xCode C rom cf top n fuel y ts σ kn ke kr = some r from h)
          exact ⟨e, ts1, σ1, hc, fun W0 hM L a w hA hR Q hQ rd m hrd => wpIn_cond_true ((hA.ev x _ hv).inj rfl) (hto W0 hM L a w hA hR Q hQ rd m hrd)⟩
        | false =>
          obtain ⟨e, ts1, σ1, hc, hto⟩ := xCode_inv hC hm hcf fuel z ts σ _ _ _ r (show xCode C rom cf top n fuel z ts σ kn ke kr = some r from h)
          exact ⟨e, ts1, σ1, hc, fun W0 hM L a w hA hR Q hQ rd m hrd => wpIn_cond_false ((hA.ev x _ hv).inj rfl) (hto W0 hM L a w hA hR Q hQ rd m hrd)⟩
      | _ => cases h
    | block id x =>
      obtain ⟨e, ts1, σ1, hc, hto⟩ := xCode_inv hC hm hcf fuel x ts σ _ _ _ r h
      cases e with
      | normal => exact ⟨.normal, ts1, σ1, hc, fun W0 hM L a w hA hR Q hQ rd m hrd => wpIn_block (hto W0 hM L a w hA hR _ (fun L1 a1 w1 hL1 hA1 hR1 => (by exact hQ L1 a1 w1 hL1 hA1 hR1)) rd m hrd)⟩
      | exit id' =>
        have hc' : bcase (Nat.beq id' id) (kn ts1 σ1) (ke id' ts1 σ1) = some r := hc
        rw [bcase_beq] at hc'
        by_cases he : id' = id
        · rw [if_pos he] at hc'
          exact ⟨.normal, ts1, σ1, hc', fun W0 hM L a w hA hR Q hQ rd m hrd => wpIn_block (hto W0 hM L a w hA hR _ (fun L1 a1 w1 hL1 hA1 hR1 => by
            show if id' = id then Q .normal a1 w1 else Q (.exit id') a1 w1
            rw [if_pos he]; exact hQ L1 a1 w1 hL1 hA1 hR1) rd m hrd)⟩
        · rw [if_neg he] at hc'
          exact ⟨.exit id', ts1, σ1, hc', fun W0 hM L a w hA hR Q hQ rd m hrd => wpIn_block (hto W0 hM L a w hA hR _ (fun L1 a1 w1 hL1 hA1 hR1 => by
            show if id' = id then Q .normal a1 w1 else Q (.exit id') a1 w1
            rw [if_neg he]; exact hQ L1 a1 w1 hL1 hA1 hR1) rd m hrd)⟩
      | ret => exact ⟨.ret, ts1, σ1, hc, fun W0 hM L a w hA hR Q hQ rd m hrd => wpIn_block (hto W0 hM L a w hA hR _ (fun L1 a1 w1 hL1 hA1 hR1 => (by exact hQ L1 a1 w1 hL1 hA1 hR1)) rd m hrd)⟩
      | _ => cases hc
    | loop x =>
      have h' : xLoop (fun ts σ k => xCode C rom cf top n fuel x ts σ k ke kr) 100000 ts σ = some r := h
      generalize 100000 = q at h'
      obtain ⟨e, ts1, σ1, hc, hto⟩ := xLoop_inv (P := C.P) (top := top) (n := n) (b := x) (ke := ke) (kr := kr) (fun ts σ k r hk => xCode_inv hC hm hcf fuel x ts σ k ke kr r hk) q ts σ r h'
      refine ⟨e, ts1, σ1, ?_, fun W0 hM L a w hA hR Q hQ rd m hrd => wpIn_loop_rounds q (hto W0 hM L a w hA hR Q hQ rd m hrd)⟩
      cases e <;> first | exact hc | cases hc
    | rangeFunc f ps asg bd =>
      obtain ⟨htop, h⟩ := tst_some (h : tst top (xRange cf n f ps asg bd ts σ kn ke kr) = some r)
      obtain ⟨e, ts1, σ1, hc, hto⟩ := xRange_inv hcf h
      exact ⟨e, ts1, σ1, hc, fun W0 hM L a w hA hR Q hQ rd m hrd => by rw [hrd htop]; exact hto W0 hM L a w hA hR Q hQ m⟩
    | _ => cases h
end Go.Proofs.YtcjlhjoobchabaaGreatDoor
