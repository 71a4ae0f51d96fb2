/- The engine, 21: a region that draws its order comes to what the text's order comes to. -/
import Derived.Test.YtcjlhjoobchabaaGreatDoorEng20
namespace Go.Proofs.YtcjlhjoobchabaaGreatDoor
open Go.RowKit
set_option linter.unusedVariables false
set_option linter.unusedSimpArgs false
variable {η : Nat → Int} {L L' : LM} {W0 : Base} {w : World} {σ σ' : H}

theorem acall_steps' {C : Cfg} {rom : Rom} {n : Nat} {cf : CallF} (hcf : CallOk C.P rom η cf) {o : Oper} {ts : T AV} {k : AV → H → Option Res} {r : Res} (h : acallK cf ts σ o.op k = some r) : ∃ v σ', k v σ' = some r ∧ ∀ ts', Agree o.op ts ts' → Steps1 C rom η n o ts' σ v σ' := by
  obtain ⟨dst, op, ty, pos, after, guard⟩ := o
  dsimp only at h
  cases op with
  | call c =>
    obtain ⟨callee, cargs, ats⟩ := c
    cases callee with
    | value f =>
      obtain ⟨fv, hfv, h⟩ := ob_some h
      cases fv with
      | func fn first cap =>
        cases fn with
        | func fid =>
          obtain ⟨args, hargs, h⟩ := ob_some h
          obtain ⟨h1, h⟩ := tst_some h
          obtain ⟨h2, h⟩ := tst_some h
          obtain ⟨v, σ', hk, hcall⟩ := hcf.1 _ _ _ _ _ h
          refine ⟨v, σ', hk, fun ts' hag W0 hM L a w hA hR K Q hK rd m => ⟨fun _ _ => trivial, ?_⟩⟩
          have hag' : ∀ x ∈ (Op.call ⟨.value f, cargs, ats⟩).operands.toList, aev ts x = aev ts' x := hag
          simp only [Op.operands, Call.operands] at hag'
          rw [hag' f (by simp)] at hfv
          rw [aops_congr (l := cargs.toList) (fun x hx => hag' x (by simp; exact .inr (by simpa using hx)))] at hargs
          obtain ⟨X, Y, hX, hY, hfe⟩ := D_func (hA.ev f _ hfv)
          have hAr := aops_some hA.ev hargs
          obtain ⟨hok, hc⟩ := hcall W0 hM L w _ (appA_spine h1 hX (appA_spine h2 hAr hY)) hR
          have hea : (X.toArray ++ cargs.map a.eval) ++ Y.toArray = (X ++ (cargs.toList.map a.eval ++ Y)).toArray := Array.toList_inj.1 (by simp)
          show Oper.uponIn _ _ C.P _ a K Q ((Oper.semAt rd a.eval _).run C.P w)
          rw [Oper.semAt_eq rd a.eval _ (by intro c; simp)]
          have hrun : (execOp a.eval ⟨dst, .call ⟨.value f, cargs, ats⟩, ty, pos, after, guard⟩).run C.P w = .ok (.enter fid (X ++ (cargs.toList.map a.eval ++ Y)).toArray) w := by
            simp only [execOp, resolve, hfe, Deferred.ofValue, Sem.run_bind, Sem.run_pure, Result.andThen_ok, invoke]
            rw [hea]
            exact run_callFunc hok w
          rw [hrun]
          refine ⟨fun h => (by cases h), (callsIn_wide (n := m - 1)).2 (Calls.mono hc ?_)⟩
          rintro e w' ⟨L', V, hL, rfl, hD, hR'⟩
          exact hK L' w' V hL hR' hD
        | _ => cases h
      | yieldf l =>
        obtain ⟨args, hargs, h⟩ := ob_some h
        obtain ⟨v, σ', hk, hcall⟩ := hcf.2 _ _ _ _ _ h
        refine ⟨v, σ', hk, fun ts' hag W0 hM L a w hA hR K Q hK rd m => ⟨fun _ _ => trivial, ?_⟩⟩
        have hag' : ∀ x ∈ (Op.call ⟨.value f, cargs, ats⟩).operands.toList, aev ts x = aev ts' x := hag
        simp only [Op.operands, Call.operands] at hag'
        rw [hag' f (by simp)] at hfv
        rw [aops_congr (l := cargs.toList) (fun x hx => hag' x (by simp; exact .inr (by simpa using hx)))] at hargs
        obtain ⟨b, hb, hfe⟩ := D_yieldf (hA.ev f _ hfv)
        obtain ⟨fn, tmps, asg, body, hy, hround⟩ := hcall W0 hM L w _ b (aops_some hA.ev hargs) hR hb
        show Oper.uponIn _ _ C.P _ a K Q ((Oper.semAt rd a.eval _).run C.P w)
        rw [Oper.semAt_eq rd a.eval _ (by intro c; simp), run_yieldf hfe hy]
        refine ⟨fun h => (by cases h), (hround rd (m - 1)).mono ?_⟩
        rintro e w' ⟨L', V, hL, rfl, hD, hR'⟩
        exact hK L' w' V hL hR' hD
      | _ => cases h
    | _ => cases h
  | _ => cases h

def PutRel (n : Nat) (dst : Option Nat) (v : AV) (ts ts1 : T AV) : Prop := match dst with | none => ts1 = ts | some d => d < n ∧ ts1 = T.set (some v) ts d
def EntOk (C : Cfg) (rom : Rom) (η : Nat → Int) (n : Nat) (all : List Oper) (i : Nat) (o : Oper) (e : Ent) (σ1 : H) (pd1 : List Pend) (q1 : Nat) : Prop :=
  (guardA all e.ts o = some false ∧ e.kd = 0 ∧ e.v = undefA ∧ σ1 = e.σ ∧ pd1 = e.pd ∧ q1 = e.q) ∨ (guardA all e.ts o = some true ∧
    ((apure C e.ts o.op = some e.v ∧ e.kd = 0 ∧ σ1 = e.σ ∧ pd1 = e.pd ∧ q1 = e.q) ∨ (aread C rom e.ts e.σ o.op = some e.v ∧ e.kd = 1 ∧ σ1 = e.σ ∧ pd1 = e.pd ∧ q1 = e.q) ∨
     (e.kd = 2 ∧ pd1 = e.pd.filter (fun p => bnot (afterA o p.i)) ∧ q1 = e.q ∧ ∀ ts', Agree o.op e.ts ts' → Steps1 C rom η n o ts' (insA (e.pd.filter fun p => afterA o p.i) e.σ) e.v σ1) ∨
     (e.kd = 3 ∧ (∃ t x, o.op = .alloc t ∧ LazyOk C.P t x ∧ e.nw = ⟨i, e.q, x⟩) ∧ e.v = .ptr e.q 0 ∧ σ1 = e.σ ∧ pd1 = e.nw :: e.pd ∧ q1 = e.q + 1)))
def TrRel (C : Cfg) (rom : Rom) (η : Nat → Int) (n : Nat) (all : List Oper) : Nat → List Oper → List Ent → T AV → H → List Pend → Nat → T AV → H → List Pend → Nat → Prop
  | _, [], [], ts, σ, pd, q, ts', σ', pd', q' => ts = ts' ∧ σ = σ' ∧ pd = pd' ∧ q = q'
  | i, o :: l, e :: tr, ts, σ, pd, q, ts', σ', pd', q' => e.ts = ts ∧ e.σ = σ ∧ e.pd = pd ∧ e.q = q ∧ ∃ ts1 σ1 pd1 q1, PutRel n o.dst e.v ts ts1 ∧ EntOk C rom η n all i o e σ1 pd1 q1 ∧ TrRel C rom η n all (i + 1) l tr ts1 σ1 pd1 q1 ts' σ' pd' q'
  | _, _, _, _, _, _, _, _, _, _, _ => False
theorem putK_rel {n : Nat} {dst : Option Nat} {v : AV} {ts : T AV} {k : T AV → Option Res} {r : Res} (h : putK n dst v ts k = some r) : ∃ ts', k ts' = some r ∧ PutRel n dst v ts ts' := by
  cases dst with
  | none => exact ⟨ts, h, rfl⟩
  | some d =>
    obtain ⟨hlt, h⟩ := tst_some (h : tst (Nat.blt d n) (fav v fun v' => T.setK (some v') ts d k) = some r)
    rw [fav_eq, T.setK_eq] at h
    exact ⟨_, h, blt_true hlt, rfl⟩
theorem xTr_inv {C : Cfg} (hC : C.Ok η) {rom : Rom} {n : Nat} {cf : CallF} (hcf : CallOk C.P rom η cf) {all : List Oper} : ∀ {l : List Oper} {i : Nat} {ts : T AV} {σ : H} {pd : List Pend} {q : Nat} {acc : List Ent} {k : List Ent → T AV → H → List Pend → Nat → Option Res} {r : Res}, xTr C rom cf n all l i ts σ pd q acc k = some r →
    ∃ tr ts' σ' pd' q', k (tr.reverse ++ acc) ts' σ' pd' q' = some r ∧ TrRel C rom η n all i l tr ts σ pd q ts' σ' pd' q'
  | [], i, ts, σ, pd, q, acc, k, r, h => ⟨[], ts, σ, pd, q, h, rfl, rfl, rfl, rfl⟩
  | o :: l, i, ts, σ, pd, q, acc, k, r, h => by
    obtain ⟨g, hg, h⟩ := ob_some (h : ob (guardA all ts o) (fun g => bcase g
      (Option.rec (Option.rec (Option.rec
        (insK (filtA (fun p => afterA o p.i) pd) σ fun σi => Option.rec
          (acallK cf ts σi o.op fun v σ' => putK n o.dst v ts fun ts' => xTr C rom cf n all l (i + 1) ts' σ' (filtA (fun p => bnot (afterA o p.i)) pd) q (⟨ts, σ, v, 2, pd, q, noP⟩ :: acc) k)
          (fun p => Prod.rec (fun v σ' => putK n o.dst v ts fun ts' => xTr C rom cf n all l (i + 1) ts' σ' (filtA (fun p => bnot (afterA o p.i)) pd) q (⟨ts, σ, v, 2, pd, q, noP⟩ :: acc) k) p) (aeff C ts σi o.op))
        (fun v => putK n o.dst v ts fun ts' => xTr C rom cf n all l (i + 1) ts' σ pd q (⟨ts, σ, v, 1, pd, q, noP⟩ :: acc) k) (aread C rom ts σ o.op))
        (fun v => putK n o.dst v ts fun ts' => xTr C rom cf n all l (i + 1) ts' σ pd q (⟨ts, σ, v, 0, pd, q, noP⟩ :: acc) k) (apure C ts o.op))
        (fun t => lazyK C.P t fun x => putK n o.dst (.ptr q 0) ts fun ts' => fnat (Nat.succ q) fun q' => xTr C rom cf n all l (i + 1) ts' σ (⟨i, q, x⟩ :: pd) q' (⟨ts, σ, .ptr q 0, 3, pd, q, ⟨i, q, x⟩⟩ :: acc) k) (allocT o.op))
      (putK n o.dst undefA ts fun ts' => xTr C rom cf n all l (i + 1) ts' σ pd q (⟨ts, σ, undefA, 0, pd, q, noP⟩ :: acc) k)) = some r)
    have fin : ∀ (v : AV) (kd : Nat) (nw : Pend) (σ1 : H) (pd1 : List Pend) (q1 : Nat) (ts1 : T AV), xTr C rom cf n all l (i + 1) ts1 σ1 pd1 q1 (⟨ts, σ, v, kd, pd, q, nw⟩ :: acc) k = some r → PutRel n o.dst v ts ts1 → EntOk C rom η n all i o ⟨ts, σ, v, kd, pd, q, nw⟩ σ1 pd1 q1 →
        ∃ tr ts' σ' pd' q', k (tr.reverse ++ acc) ts' σ' pd' q' = some r ∧ TrRel C rom η n all i (o :: l) tr ts σ pd q ts' σ' pd' q' := by
      intro v kd nw σ1 pd1 q1 ts1 h1 h2 h3
      obtain ⟨tr, ts', σ', pd', q', hk, hT⟩ := xTr_inv hC hcf h1
      exact ⟨⟨ts, σ, v, kd, pd, q, nw⟩ :: tr, ts', σ', pd', q', by simpa using hk, rfl, rfl, rfl, rfl, ts1, σ1, pd1, q1, h2, h3, hT⟩
    cases g
    · rw [bcase_false] at h
      obtain ⟨ts1, h1, hp⟩ := putK_rel h
      exact fin _ _ _ _ _ _ _ h1 hp (.inl ⟨hg, rfl, rfl, rfl, rfl, rfl⟩)
    · rw [bcase_true] at h
      cases h0 : allocT o.op with
      | some t =>
        rw [h0] at h
        have hop : o.op = .alloc t := by
          generalize o.op = p at h0
          cases p <;> simp only [allocT] at h0 <;> try (cases h0; done)
          cases h0; rfl
        obtain ⟨x, hx, hz⟩ := lazyK_some h
        obtain ⟨ts1, h1, hp⟩ := putK_rel hx
        rw [fnat_eq] at h1
        exact fin _ _ _ _ _ _ _ h1 hp (.inr ⟨hg, .inr (.inr (.inr ⟨rfl, ⟨t, x, hop, hz, rfl⟩, rfl, rfl, rfl, rfl⟩))⟩)
      | none =>
        rw [h0] at h
        cases h1 : apure C ts o.op with
        | some v =>
          rw [h1] at h
          obtain ⟨ts1, h2, hp⟩ := putK_rel h
          exact fin _ _ _ _ _ _ _ h2 hp (.inr ⟨hg, .inl ⟨h1, rfl, rfl, rfl, rfl⟩⟩)
        | none =>
          rw [h1] at h
          cases h2 : aread C rom ts σ o.op with
          | some v =>
            rw [h2] at h
            obtain ⟨ts1, h3, hp⟩ := putK_rel h
            exact fin _ _ _ _ _ _ _ h3 hp (.inr ⟨hg, .inr (.inl ⟨h2, rfl, rfl, rfl, rfl⟩)⟩)
          | none =>
            rw [h2] at h
            dsimp only at h
            rw [insK_eq, filtA_eq, filtA_eq] at h
            cases h3 : aeff C ts (insA (pd.filter fun p => afterA o p.i) σ) o.op with
            | some p =>
              obtain ⟨v, σ1⟩ := p
              rw [h3] at h
              obtain ⟨ts1, h4, hp⟩ := putK_rel h
              exact fin _ _ _ _ _ _ _ h4 hp (.inr ⟨hg, .inr (.inr (.inl ⟨rfl, rfl, rfl, fun ts' hag => did_steps fun W0 hM L a w hA hR => aeff_some hC hA.ev hR (by rw [← aeff_congr hag]; exact h3)⟩))⟩)
            | none =>
              rw [h3] at h
              obtain ⟨v, σ1, h4, hst⟩ := acall_steps' (n := n) (rom := rom) hcf (h : acallK cf ts _ o.op _ = some r)
              obtain ⟨ts1, h5, hp⟩ := putK_rel h4
              exact fin _ _ _ _ _ _ _ h5 hp (.inr ⟨hg, .inr (.inr (.inl ⟨rfl, rfl, rfl, hst⟩))⟩)

/-- The slots, the heap, what is to be taken in, the next number, ahead of the p-th. -/
def tsAt (tr : List Ent) (ts' : T AV) (p : Nat) : T AV := match tr[p]? with | some e => e.ts | none => ts'
def stAt (tr : List Ent) (σ' : H) (p : Nat) : H := match tr[p]? with | some e => e.σ | none => σ'
def pdAt (tr : List Ent) (pd' : List Pend) (p : Nat) : List Pend := match tr[p]? with | some e => e.pd | none => pd'
def qAt (tr : List Ent) (q' : Nat) (p : Nat) : Nat := match tr[p]? with | some e => e.q | none => q'
theorem tr_zero {C : Cfg} {rom : Rom} {n i : Nat} {all l : List Oper} {tr : List Ent} {ts ts' : T AV} {pd pd' : List Pend} {q q' : Nat} (h : TrRel C rom η n all i l tr ts σ pd q ts' σ' pd' q') : tsAt tr ts' 0 = ts ∧ stAt tr σ' 0 = σ ∧ pdAt tr pd' 0 = pd ∧ qAt tr q' 0 = q := by
  cases l <;> cases tr <;> simp only [TrRel] at h
  · exact ⟨h.1.symm, h.2.1.symm, h.2.2.1.symm, h.2.2.2.symm⟩
  · exact ⟨h.1, h.2.1, h.2.2.1, h.2.2.2.1⟩
theorem tr_at {C : Cfg} {rom : Rom} {n : Nat} {all : List Oper} : ∀ {l : List Oper} {i0 : Nat} {tr : List Ent} {ts ts' : T AV} {σ σ' : H} {pd pd' : List Pend} {q q' : Nat}, TrRel C rom η n all i0 l tr ts σ pd q ts' σ' pd' q' → ∀ {i : Nat} {o : Oper}, l[i]? = some o →
    ∃ e, tr[i]? = some e ∧ PutRel n o.dst e.v (tsAt tr ts' i) (tsAt tr ts' (i + 1)) ∧ EntOk C rom η n all (i0 + i) o e (stAt tr σ' (i + 1)) (pdAt tr pd' (i + 1)) (qAt tr q' (i + 1))
  | [], i0, tr, ts, ts', σ, σ', pd, pd', q, q', h, i, o, ho => by cases ho
  | o0 :: l, i0, [], ts, ts', σ, σ', pd, pd', q, q', h, i, o, ho => h.elim
  | o0 :: l, i0, e :: tr, ts, ts', σ, σ', pd, pd', q, q', h, i, o, ho => by
    obtain ⟨h1, h2, h3, h4, ts1, σ1, pd1, q1, hp, he, hT⟩ := h
    cases i with
    | zero =>
      simp at ho; subst ho
      obtain ⟨z1, z2, z3, z4⟩ := tr_zero hT
      refine ⟨e, rfl, ?_, ?_⟩
      · show PutRel n o0.dst e.v e.ts (tsAt tr ts' 0)
        rw [z1, h1]; exact hp
      · show EntOk C rom η n all i0 o0 e (stAt tr σ' 0) (pdAt tr pd' 0) (qAt tr q' 0)
        rw [z2, z3, z4]; exact he
    | succ i =>
      have := tr_at hT (i := i) (o := o) (by simpa using ho)
      rw [show i0 + 1 + i = i0 + (i + 1) by omega] at this
      exact this
theorem tr_len {C : Cfg} {rom : Rom} {n : Nat} {all : List Oper} : ∀ {l : List Oper} {i0 : Nat} {tr : List Ent} {ts ts' : T AV} {σ σ' : H} {pd pd' : List Pend} {q q' : Nat}, TrRel C rom η n all i0 l tr ts σ pd q ts' σ' pd' q' → tr.length = l.length
  | [], _, [], _, _, _, _, _, _, _, _, _ => rfl
  | [], _, _ :: _, _, _, _, _, _, _, _, _, h => h.elim
  | _ :: _, _, [], _, _, _, _, _, _, _, _, h => h.elim
  | _ :: l, _, _ :: tr, _, _, _, _, _, _, _, _, ⟨_, _, _, _, _, _, _, _, _, _, hT⟩ => by simp [tr_len hT]

/-! ### The order of what turns memory -/
/-- Those that turn memory, and the heap behind each. -/
noncomputable def effL (σend : H) (tr : List Ent) : Nat → List (Nat × H) := List.rec (fun _ => []) (fun e rest ih i => bcase (Nat.beq e.kd (nat_lit 2)) ((i, List.rec σend (fun e' _ _ => e'.σ) rest) :: ih (Nat.succ i)) (ih (Nat.succ i))) tr
noncomputable def getO (ops : List Oper) (i : Nat) (k : Oper → Bool) : Bool := Option.rec true k (lget ops i)
/-- May the i-th, o, come while the heap is the one ahead of the p-th? -/
noncomputable def mayAt (ops : List Oper) (effs : List (Nat × H)) (i : Nat) (o : Oper) (p : Nat) : Bool :=
  allL (fun q => Prod.rec (fun e _ => bcase (Nat.blt e p) (getO ops e fun oe => bnot (afterA oe i)) (bnot (afterA o e))) q) effs
/-- Does o come behind the j-th, by whatever steps? -/
noncomputable def anyL {α : Type} (p : α → Bool) (l : List α) : Bool := List.rec false (fun a _ ih => orB (p a) ih) l
theorem anyL_true {α : Type} {p : α → Bool} : ∀ {l : List α}, anyL p l = true → ∃ a ∈ l, p a = true
  | [], h => by cases h
  | x :: l, h => by
    rcases orB_true (show orB (p x) (anyL p l) = true from h) with h | h
    · exact ⟨x, List.mem_cons_self, h⟩
    · obtain ⟨a, ha, hp⟩ := anyL_true h; exact ⟨a, List.mem_cons_of_mem _ ha, hp⟩
noncomputable def reachA (ops : List Oper) (fuel : Nat) : Nat → Oper → Bool := Nat.rec (fun _ _ => false) (fun _ ih j o => orB (afterA o j) (anyL (fun e => bcase (bindsA e) (bcase (Nat.blt j e.on) (Option.rec false (fun o2 => ih j o2) (lget ops e.on)) false) false) o.after.toList)) fuel
theorem reach_listed {ops : Array Oper} {Q : Nat → Prop} (hdown : ∀ (j : Nat) (o : Oper), ops[j]? = some o → Q j → ∀ e ∈ o.after.toList, Region.binds .any e = true → Q e.on) :
    ∀ (fuel j : Nat) (o : Oper), reachA ops.toList fuel j o = true → (∀ e ∈ o.after.toList, Region.binds .any e = true → Q e.on) → Q j
  | 0, j, o, h, _ => by cases h
  | fuel + 1, j, o, h, haft => by
    rcases orB_true (show orB (afterA o j) (anyL (fun e => bcase (bindsA e) (bcase (Nat.blt j e.on) (Option.rec false (fun o2 => reachA ops.toList fuel j o2) (lget ops.toList e.on)) false) false) o.after.toList) = true from h) with h | h
    · obtain ⟨e, he, hb, rfl⟩ := afterL_true h; exact haft e he hb
    · obtain ⟨e, he, h⟩ := anyL_true h
      obtain ⟨hb, h⟩ := bcase_t h
      obtain ⟨hlt, h⟩ := bcase_t h
      rw [bindsA_eq] at hb
      rw [lget_eq] at h
      cases ho : ops.toList[e.on]? with
      | none => rw [ho] at h; cases h
      | some o2 =>
        rw [ho] at h
        have ho' : ops[e.on]? = some o2 := by simpa using ho
        exact reach_listed hdown fuel j o2 h (hdown e.on o2 ho' (haft e he hb))
noncomputable def chkTr (C : Cfg) (rom : Rom) (ops : List Oper) (tr : List Ent) (σ0 σend : H) : Bool :=
  (fun effs => List.rec true (fun _ _ _ =>
    bcase (allI (fun j q => Prod.rec (fun e _ => allI (fun j' q' => Prod.rec (fun e' _ => bcase (Nat.blt e e') (getO ops e' fun oe => reachA ops (nat_lit 12) e oe) true) q') effs (nat_lit 0)) q) effs (nat_lit 0))
      (allI (fun i ent => bcase (Nat.beq ent.kd (nat_lit 1)) (getO ops i fun o => allL (fun q => Prod.rec (fun p σp => bcase (mayAt ops effs i o p) (Option.rec false (fun v => sameA v ent.v) (aread C rom ent.ts σp o.op)) true) q) ((nat_lit 0, σ0) :: (effs.map fun q => (Nat.succ q.1, q.2)))) true) tr (nat_lit 0)) false) effs) (effL σend tr (nat_lit 0))
theorem effL_mem {σend : H} : ∀ {tr : List Ent} {i : Nat} {j : Nat} {e : Ent}, tr[j]? = some e → e.kd = 2 → (i + j, stAt tr σend (j + 1)) ∈ effL σend tr i
  | [], i, j, e, h, _ => by cases h
  | e0 :: tr, i, j, e, h, hk => by
    have hr : effL σend (e0 :: tr) i = bcase (Nat.beq e0.kd 2) ((i, List.rec σend (fun e' _ _ => e'.σ) tr) :: effL σend tr (i + 1)) (effL σend tr (i + 1)) := rfl
    rw [hr, bcase_beq]
    cases j with
    | zero =>
      simp at h; subst h
      rw [if_pos hk]
      have : stAt (e0 :: tr) σend (0 + 1) = List.rec σend (fun e' _ _ => e'.σ) tr := by cases tr <;> rfl
      rw [this]
      exact List.mem_cons_self
    | succ j =>
      have := effL_mem (σend := σend) (i := i + 1) (by simpa using h) hk
      rw [show i + (j + 1) = i + 1 + j by omega]
      split
      · exact List.mem_cons_of_mem _ this
      · exact this
theorem effL_inv {σend : H} : ∀ {tr : List Ent} {i : Nat} {q : Nat × H}, q ∈ effL σend tr i → ∃ j e, tr[j]? = some e ∧ e.kd = 2 ∧ q = (i + j, stAt tr σend (j + 1))
  | [], i, q, h => by cases h
  | e0 :: tr, i, q, h => by
    have hr : effL σend (e0 :: tr) i = bcase (Nat.beq e0.kd 2) ((i, List.rec σend (fun e' _ _ => e'.σ) tr) :: effL σend tr (i + 1)) (effL σend tr (i + 1)) := rfl
    rw [hr, bcase_beq] at h
    have rest : q ∈ effL σend tr (i + 1) → ∃ j e, (e0 :: tr)[j]? = some e ∧ e.kd = 2 ∧ q = (i + j, stAt (e0 :: tr) σend (j + 1)) := by
      intro hq
      obtain ⟨j, e, h1, h2, h3⟩ := effL_inv hq
      exact ⟨j + 1, e, by simpa using h1, h2, by rw [h3]; congr 1; omega⟩
    split at h
    · rename_i hk
      rcases List.mem_cons.1 h with rfl | h
      · exact ⟨0, e0, rfl, hk, by congr 1; cases tr <;> rfl⟩
      · exact rest h
    · exact rest h
end Go.Proofs.YtcjlhjoobchabaaGreatDoor
