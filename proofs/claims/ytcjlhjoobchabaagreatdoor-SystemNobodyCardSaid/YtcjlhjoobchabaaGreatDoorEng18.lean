/- The engine, 18: the operations that turn memory, all but calls. -/
import Derived.Test.YtcjlhjoobchabaaGreatDoorEng17
namespace Go.Proofs.YtcjlhjoobchabaaGreatDoor
open Go.RowKit
set_option linter.unusedVariables false
set_option linter.unusedSimpArgs false
variable {η : Nat → Int} {L L' : LM} {W0 : Base} {w : World} {σ σ' : H}

noncomputable def aclear (P : Program) (t : TypeId) (x : AV) (σ : H) : Option (AV × H) := match x with
  | .map o => lookO σ o fun y => (match y with | .map _ => layK o (some (.map .nil)) σ fun σ' => some (undefA, σ') | _ => none)
  | .slice o off n cap => clr o off n
  | .vslice o off n cv k => clr o off n
  | .nslice => some (undefA, σ)
  | _ => none
where clr (o off n : Nat) : Option (AV × H) := bcase (Nat.beq n (nat_lit 0)) (some (undefA, σ)) (ob (P.underlying t) fun d => match d with
  | .slice e => ob (P.info? e) fun i => ob (azero P e) fun z => tst (okCells z) (tst (isLen i.size (cellsA z)) (lookO σ o fun y => (match y with
    | .cells c d N cx et => tst (Nat.ble (Nat.add off (Nat.mul n i.size)) N) (wrK (Nat.mul n i.size) (repA n (cellsA z)) off c fun c' => layK o (some (.cells c' d N cx et)) σ fun σ' => some (undefA, σ'))
    | _ => none)))
  | _ => none)
theorem clr_some {P : Program} {t : TypeId} {o off n b cap : Nat} {r : AV} (h : aclear.clr P t σ o off n = some (r, σ')) (hb : L[o]? = some b) (hR : Rel W0 η L σ w) {ats : Array TypeId} {ty : TypeId} {args : Array Value} (h0 : ats[0]? = some t) (h1 : args[0]? = some (.slice (some ⟨b, off, none⟩) n cap)) (hu : ∃ d, P.underlying t = some d) :
    Did P W0 η L w (do pure (Next.value (← Builtin.clear_ ats ty args))) r σ' := by
  unfold aclear.clr at h
  rw [bcase_beq] at h
  by_cases hn : n = 0
  · subst hn
    rw [if_pos rfl] at h
    cases h
    obtain ⟨d, hd⟩ := hu
    exact ⟨L, w, undef, LM.Le.refl _, hR, rfl, .inl (run_val' (by simp [Builtin.clear_, h0, h1, run_underlying hd]; rfl))⟩
  · rw [if_neg hn] at h
    obtain ⟨d, hd, h⟩ := ob_some h
    cases d with
    | slice e =>
      obtain ⟨i, hi, h⟩ := ob_some h
      obtain ⟨z, hz, h⟩ := ob_some h
      obtain ⟨hk, h⟩ := tst_some h
      obtain ⟨hzl, h⟩ := tst_some h
      obtain ⟨y, hy, h⟩ := lookO_some h
      obtain ⟨inf, Z, hinf, hZ, hzD⟩ := azero_some (η := η) (L := L) hz
      have : inf = i := by rw [hinf] at hi; cases hi; rfl
      subst this
      have hzc := cellsA_some hk hzD
      have hzsz : Z.cells.size = inf.size := by simpa using isLen_true hzl hzc
      cases y with
      | cells c d N cx et =>
        obtain ⟨hle, h⟩ := tst_some h
        have hle : off + 0 + n * inf.size ≤ N := Nat.le_of_ble_eq_true hle
        obtain ⟨_, c', w', hkk, hrun, hR2⟩ := wrK_some (P := P) (n := n * inf.size) (off0 := off) (i := 0) h (repA_DL hzc ⟨_, hzl⟩ n) hR hy hb hle
        rw [layK_eq] at hkk
        cases hkk
        refine ⟨L, w', undef, LM.Le.refl _, hR2, rfl, .inl (run_val' ?_)⟩
        have hzz : (Builtin.zeroCells Z.cells n).toList = (List.replicate n Z.cells.toList).flatten := by
          by_cases hs : 0 < Z.cells.size
          · exact rep_cells _ hs n
          · have : Z.cells.size = 0 := by omega
            have e0 : Z.cells.toList = [] := by rw [← List.length_eq_zero_iff]; simpa using this
            simp [Builtin.zeroCells, this, e0]
        simp [Builtin.clear_, h0, h1, run_underlying hd, run_zero hinf hZ, hzz, hrun, hn]
        rfl
      | _ => cases h
    | _ => cases h
theorem aclear_some {P : Program} {t : TypeId} {x r : AV} {X : Value} {ats : Array TypeId} {ty : TypeId} {args : Array Value} (h : aclear P t x σ = some (r, σ')) (hx : D η L x X) (hR : Rel W0 η L σ w) (h0 : ats[0]? = some t) (h1 : args[0]? = some X) (hu : ∃ d, P.underlying t = some d) :
    Did P W0 η L w (do pure (Next.value (← Builtin.clear_ ats ty args))) r σ' := by
  cases x with
  | map o =>
    obtain ⟨y, hy, h⟩ := lookO_some h
    cases y with
    | map es =>
      obtain ⟨b, hb, rfl⟩ := D_map hx
      obtain ⟨hB, ents, clock, k1, k2⟩ := hR.block hy hb
      dsimp only at h
      rw [layK_eq] at h
      cases h
      obtain ⟨d, hd⟩ := hu
      refine ⟨L, _, undef, LM.Le.refl _, hR.setMap (ents := #[]) (clock := clock) hy hb rfl, rfl, .inl (run_val' ?_)⟩
      simp [Builtin.clear_, h0, h1, run_underlying hd, MapKept.run_getObj_map k1, MapKept.run_setObj_map _ k1]
      rfl
    | _ => cases h
  | slice o off n cap =>
    obtain ⟨b, hb, rfl⟩ := D_slice hx
    exact clr_some h hb hR h0 h1 hu
  | vslice o off n cv k =>
    obtain ⟨b, c, hb, _, _, rfl⟩ := D_vslice hx
    exact clr_some h hb hR h0 h1 hu
  | nslice =>
    cases hx; cases h
    obtain ⟨d, hd⟩ := hu
    exact ⟨L, w, undef, LM.Le.refl _, hR, rfl, .inl (run_val' (by simp [Builtin.clear_, h0, h1, run_underlying hd]; rfl))⟩
  | _ => cases h

/-- The empty end of a row whose room the world chose. -/
noncomputable def aempty (P : Program) (t : TypeId) (x : AV) (lo hi : Option AV) (σ : H) : Option (AV × H) := match x with
  | .vslice o off len cv k => ob (P.underlying t) fun d => (match d with
    | .slice e => ob (optNat lo (nat_lit 0)) fun l => ob (optNat hi len) fun h => tst (Nat.beq l len) (tst (Nat.beq h len) (ob (P.info? e) fun inf => H.rec (fun hh nx => fnat (Nat.succ nx) fun nx' => some (.eslice o nx cv (Nat.add k l), ⟨hh, nx'⟩)) σ))
    | _ => none)
  | _ => none
theorem aempty_some {P : Program} {t : TypeId} {x r : AV} {lo hi : Option AV} {X : Value} {LO HI : Option Value} (h : aempty P t x lo hi σ = some (r, σ')) (hx : D η L x X) (hR : Rel W0 η L σ w) (dl : OptD η L lo LO) (dh : OptD η L hi HI) :
    Did P W0 η L w (do pure (Next.value (← Instr.sliceAt t X LO HI none))) r σ' := by
  cases x with
  | vslice o off len cv k =>
    obtain ⟨d, hd, h⟩ := ob_some h
    cases d with
    | slice e =>
      obtain ⟨l, hl, h⟩ := ob_some h
      obtain ⟨q, hq, h⟩ := ob_some h
      obtain ⟨h1, h⟩ := tst_some h
      obtain ⟨h2, h⟩ := tst_some h
      obtain ⟨inf, hinf, hfin⟩ := ob_some h
      have := Nat.eq_of_beq_eq_true h1; subst this
      have := Nat.eq_of_beq_eq_true h2; subst this
      obtain ⟨hh, nx⟩ := σ
      have h' : fnat (Nat.succ nx) (fun nx' => some (AV.eslice o nx cv (k + q), (⟨hh, nx'⟩ : H))) = some (r, σ') := hfin
      rw [fnat_eq] at h'
      cases h'
      obtain ⟨b, c, hb, hc, hle, rfl⟩ := D_vslice hx
      have hrun := run_slice_slice (a := some ⟨b, off, none⟩) (len := q) hd hinf (sliceBounds_run (isS := true) (cap := c - k) hl hq (Nat.le_refl _) hle dl dh w)
      have hpre : LM.Le L (L.ext nx (if c - k = q then off else off + q * inf.size)) := hR.ext_le _
      refine ⟨L.ext nx (if c - k = q then off else off + q * inf.size), w, .slice (some ⟨b, if c - k = q then off else off + q * inf.size, none⟩) 0 (c - (k + q)), hpre, hR.ext _, ?_, .inl (run_val' ?_)⟩
      · show esliceOf _ _ _ = _
        have h3 : (L.ext nx (if c - k = q then off else off + q * inf.size))[nx]? = some (if c - k = q then off else off + q * inf.size) := LM.ext_at ..
        rw [get_prefix hpre hb, h3, get_prefix hpre hc]
        rfl
      · rw [hrun]
        congr 1
        simp only [Nat.sub_self, Nat.sub_sub]
        by_cases e0 : c - k = q
        · rw [if_pos e0, if_pos e0]
        · rw [if_neg e0, if_neg e0]; simp [add_addr]
    | _ => cases h
  | _ => cases h

noncomputable def optA2 {β : Type} (ts : T AV) (x : Option Operand) (k : Option AV → Option β) : Option β := Option.rec (k none) (fun x => ob (aev ts x) fun v => k (some v)) x
theorem optA2_some {β : Type} {ts : T AV} {ρ : Operand → Value} (hE : Ev η L ts ρ) {x : Option Operand} {k : Option AV → Option β} {r : β} (h : optA2 ts x k = some r) : ∃ v, OptD η L v (x.map ρ) ∧ k v = some r := by
  cases x with
  | none => exact ⟨none, trivial, h⟩
  | some x => obtain ⟨v, hv, h⟩ := ob_some h; exact ⟨some v, hE x v hv, h⟩
noncomputable def aeff (C : Cfg) (ts : T AV) (σ : H) (op : Op) : Option (AV × H) := match op with
  | .alloc t => aalloc C.P t σ
  | .box t x => ob (aev ts x) fun v => abox C.P t v σ
  | .store t a x => ob (aev ts a) fun u => ob (aev ts x) fun v => astore C.P t u v σ
  | .buildSlice t len parts => ob (aparts ts parts.toList) fun ps => abuildS C.P t len ps σ
  | .makeMap t r => bcase (isSomeA r) none (amakeMap σ)
  | .insert t m k x => ob (aev ts m) fun u => ob (aev ts k) fun key => ob (aev ts x) fun v => amapSet C t u key v σ
  | .mapUpdate t m k x => ob (aev ts m) fun u => ob (aev ts k) fun key => ob (aev ts x) fun v => amapSet C t u key v σ
  | .makeSlice t l c => ob (aev ts l) fun u => ob (aev ts c) fun v => amakeS C.P t u v σ
  | .range t x => ob (aev ts x) fun u => arange C.P t u σ
  | .next it s => bcase s (ob (aev ts it) fun u => anext u σ) none
  | .slice t x lo hi mx => bcase (isSomeA mx) none (ob (aev ts x) fun u => optA2 ts lo fun l => optA2 ts hi fun h => aempty C.P t u l h σ)
  | .call c => (match c.callee with
    | .builtin b => (match b with
      | .append => ob (aops ts c.args.toList) fun l => ob (nth l (nat_lit 0)) fun u => ob (nth l (nat_lit 1)) fun v => aappend C c.argTypes.toList σ u v
      | .delete => ob (aops ts c.args.toList) fun l => ob (nth l (nat_lit 0)) fun u => ob (nth l (nat_lit 1)) fun v => ob (lget c.argTypes.toList (nat_lit 0)) fun t => amapDel C t u v σ
      | .clear => ob (aops ts c.args.toList) fun l => ob (nth l (nat_lit 0)) fun u => ob (lget c.argTypes.toList (nat_lit 0)) fun t => tst (isSomeA (C.P.underlying t)) (aclear C.P t u σ)
      | _ => none)
    | _ => none)
  | _ => none
theorem aeff_some {C : Cfg} (hC : C.Ok η) {ts : T AV} {ρ : Operand → Value} (hE : Ev η L ts ρ) (hR : Rel W0 η L σ w) {o : Oper} {r : AV} (h : aeff C ts σ o.op = some (r, σ')) : Did C.P W0 η L w (execOp ρ o) r σ' := by
  obtain ⟨dst, op, ty, pos, after, guard⟩ := o
  dsimp only at h
  cases op with
  | alloc t => exact aalloc_some h hR (fun a => by simp)
  | box t x => obtain ⟨v, hv, h⟩ := ob_some h; exact abox_some h (hE x v hv) hR
  | store t a x =>
    obtain ⟨u, hu, h⟩ := ob_some h
    obtain ⟨v, hv, h⟩ := ob_some h
    exact astore_some h (hE a u hu) (hE x v hv) hR
  | buildSlice t len parts =>
    obtain ⟨ps, hps, h⟩ := ob_some h
    exact abuildS_some h (by have := aparts_some hE hps; simpa using this) hR
  | makeMap t r =>
    cases r with
    | none => exact amakeMap_some h hR
    | some r => cases h
  | insert t m k x =>
    obtain ⟨u, hu, h⟩ := ob_some h
    obtain ⟨key, hkey, h⟩ := ob_some h
    obtain ⟨v, hv, h⟩ := ob_some h
    exact amapSet_some hC h (hE m u hu) (hE k key hkey) (hE x v hv) hR
  | mapUpdate t m k x =>
    obtain ⟨u, hu, h⟩ := ob_some h
    obtain ⟨key, hkey, h⟩ := ob_some h
    obtain ⟨v, hv, h⟩ := ob_some h
    exact amapSet_some hC h (hE m u hu) (hE k key hkey) (hE x v hv) hR
  | makeSlice t l c =>
    obtain ⟨u, hu, h⟩ := ob_some h
    obtain ⟨v, hv, h⟩ := ob_some h
    exact amakeS_some h (hE l u hu) (hE c v hv) hR
  | range t x => obtain ⟨u, hu, h⟩ := ob_some h; exact arange_some h (hE x u hu) hR
  | next it s =>
    cases s with
    | false => cases h
    | true => obtain ⟨u, hu, h⟩ := ob_some (h : ob (aev ts it) (fun u => anext u σ) = some (r, σ')); exact anext_some h (hE it u hu) hR
  | slice t x lo hi mx =>
    cases mx with
    | some m => cases h
    | none =>
      obtain ⟨u, hu, h⟩ := ob_some (h : ob (aev ts x) (fun u => optA2 ts lo fun l => optA2 ts hi fun h => aempty C.P t u l h σ) = some (r, σ'))
      obtain ⟨l, hl, h⟩ := optA2_some hE h
      obtain ⟨q, hq, h⟩ := optA2_some hE h
      exact aempty_some h (hE x u hu) hR hl hq
  | call c =>
    obtain ⟨callee, args, ats⟩ := c
    have key : ∀ {l : AV} {u : AV} {j : Nat}, aops ts args.toList = some l → nth l j = some u → ∃ U, D η L u U ∧ (args.map ρ)[j]? = some U := by
      intro l u j hl hu
      obtain ⟨U, hU, e⟩ := nth_some hu (aops_some hE hl)
      exact ⟨U, hU, by rw [← Array.getElem?_toList, Array.toList_map]; exact e⟩
    cases callee with
    | builtin b =>
      cases b with
      | append =>
        obtain ⟨l, hl, h⟩ := ob_some h
        obtain ⟨u, hu, h⟩ := ob_some h
        obtain ⟨v, hv, h⟩ := ob_some h
        obtain ⟨U, hU, e1⟩ := key hl hu
        obtain ⟨V, hV, e2⟩ := key hl hv
        obtain ⟨L2, w2, R, g1, g2, g3, g4⟩ := aappend_some (ty := ty) h hU hV hR e1 e2
        exact ⟨L2, w2, R, g1, g2, g3, by simpa only [execOp, resolve, Sem.run_bind, Sem.run_pure, Result.andThen_ok, invoke, builtin] using g4⟩
      | delete =>
        obtain ⟨l, hl, h⟩ := ob_some h
        obtain ⟨u, hu, h⟩ := ob_some h
        obtain ⟨v, hv, h⟩ := ob_some h
        obtain ⟨t, ht, h⟩ := ob_some h
        rw [lget_eq] at ht
        obtain ⟨U, hU, e1⟩ := key hl hu
        obtain ⟨V, hV, e2⟩ := key hl hv
        obtain ⟨L2, w2, R, g1, g2, g3, g4⟩ := amapDel_some (ty := ty) hC h hU hV hR (ats := ats) (by simpa using ht) e1 e2
        exact ⟨L2, w2, R, g1, g2, g3, by simpa only [execOp, resolve, Sem.run_bind, Sem.run_pure, Result.andThen_ok, invoke, builtin] using g4⟩
      | clear =>
        obtain ⟨l, hl, h⟩ := ob_some h
        obtain ⟨u, hu, h⟩ := ob_some h
        obtain ⟨t, ht, h⟩ := ob_some h
        obtain ⟨hs, h⟩ := tst_some h
        rw [lget_eq] at ht
        obtain ⟨U, hU, e1⟩ := key hl hu
        obtain ⟨L2, w2, R, g1, g2, g3, g4⟩ := aclear_some (ty := ty) h hU hR (ats := ats) (by simpa using ht) e1 (isSomeA_true hs)
        exact ⟨L2, w2, R, g1, g2, g3, by simpa only [execOp, resolve, Sem.run_bind, Sem.run_pure, Result.andThen_ok, invoke, builtin] using g4⟩
      | _ => cases h
    | _ => cases h
  | _ => cases h
end Go.Proofs.YtcjlhjoobchabaaGreatDoor
