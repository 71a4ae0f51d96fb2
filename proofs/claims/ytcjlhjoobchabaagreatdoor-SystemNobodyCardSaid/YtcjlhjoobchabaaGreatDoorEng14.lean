/- The engine, 14: maps turned; rows made; strings ranged over; rows cleared. -/
import Derived.Test.YtcjlhjoobchabaaGreatDoorEng13
namespace Go.Proofs.YtcjlhjoobchabaaGreatDoor
open Go.RowKit
set_option linter.unusedVariables false
set_option linter.unusedSimpArgs false
variable {η : Nat → Int} {L L' : LM} {W0 : Base} {w : World} {σ σ' : H}

theorem Rel.block {o b : Nat} {x : AObj} (hR : Rel W0 η L σ w) (hx : σ.h.get o = some x) (hb : L[o]? = some b) : W0.fz b = none ∧ ObjAt η L w b x := by
  obtain ⟨b', g1, g2, g3⟩ := hR.obj o x hx
  have : b' = b := by have := g1.symm.trans hb; simpa using this
  subst this
  exact ⟨g2, g3⟩
theorem map_D {o b : Nat} (hb : L[o]? = some b) : D η L (.map o) (.map (some b)) := by
  show L[o]?.map _ = _; rw [hb]; rfl
noncomputable def amakeMap (σ : H) : Option (AV × H) := newK (.map .nil) σ fun o σ' => some (.map o, σ')
theorem amakeMap_some {P : Program} {t : TypeId} {r : AV} (h : amakeMap σ = some (r, σ')) (hR : Rel W0 η L σ w) : Did P W0 η L w (do pure (Next.value (← Instr.makeMap t none))) r σ' := by
  have h' : newK (.map .nil) σ (fun o σ' => some (AV.map o, σ')) = some (r, σ') := h
  rw [newK_eq] at h'
  cases h'
  refine ⟨_, _, _, hR.ext_le _, hR.new (o := .map #[] 0) ⟨#[], 0, heap_alloc_at _, rfl⟩, map_D (b := w.heap.size) (LM.ext_at ..), .inl (run_val' ?_)⟩
  rfl

/-- The i-th entry's value, laid anew. -/
noncomputable def setE (v : AV) (i : Nat) : AV → Option AV := Nat.rec (fun es => uncons es none fun k r => uncons r none fun _ r => some (.cons k (.cons v r))) (fun _ ih es => uncons es none fun k r => uncons r none fun u r => ob (ih r) fun q => some (.cons k (.cons u q))) i
theorem setE_some {v : AV} {V : Value} (hv : D η L v V) : ∀ {i : Nat} {es r : AV} {ents : List MapEntry} {K : Value}, setE v i es = some r → DL η L es (flatE ents) → (∃ e, ents[i]? = some e ∧ e.key = K) → DL η L r (flatE (ents.modify i fun e => { e with key := K, val := V }))
  | 0, es, r, ents, K, h, hE, ⟨e, he, hk⟩ => by
    obtain ⟨k, r1, q1, h2⟩ := uncons_some (h : uncons es none (fun k r => uncons r none fun _ r => some (.cons k (.cons v r))) = some r)
    obtain ⟨u, r2, q2, h3⟩ := uncons_some h2
    subst q2; subst q1; cases h3
    obtain ⟨X, Ws, hX, hr1, e1⟩ := D_cons hE
    obtain ⟨Y, Ws2, hY, hr2, e2⟩ := D_cons hr1
    cases ents with
    | nil => cases he
    | cons e0 l =>
      simp at he; subst he
      rw [flatE_cons] at e1
      subst e2
      cases e1
      subst hk
      exact DL_cons hX (DL_cons hv hr2)
  | i + 1, es, r, ents, K, h, hE, ⟨e, he, hk⟩ => by
    obtain ⟨k, r1, q1, h2⟩ := uncons_some (h : uncons es none (fun k r => uncons r none fun u r => ob (setE v i r) fun q => some (.cons k (.cons u q))) = some r)
    obtain ⟨u, r2, q2, h3⟩ := uncons_some h2
    subst q2; subst q1
    obtain ⟨q, hq, h3⟩ := ob_some h3
    cases h3
    obtain ⟨X, Ws, hX, hr1, e1⟩ := D_cons hE
    obtain ⟨Y, Ws2, hY, hr2, e2⟩ := D_cons hr1
    cases ents with
    | nil => cases he
    | cons e0 l =>
      rw [flatE_cons] at e1
      subst e2
      cases e1
      exact DL_cons hX (DL_cons hY (setE_some hv hq hr2 ⟨e, by simpa using he, hk⟩))
/-- Without the i-th entry. -/
noncomputable def delE (i : Nat) : AV → Option AV := Nat.rec (fun es => uncons es none fun k r => uncons r none fun _ r => some r) (fun _ ih es => uncons es none fun k r => uncons r none fun u r => ob (ih r) fun q => some (.cons k (.cons u q))) i
theorem delE_some : ∀ {i : Nat} {es r : AV} {ents : List MapEntry}, delE i es = some r → DL η L es (flatE ents) → DL η L r (flatE (ents.eraseIdx i))
  | 0, es, r, ents, h, hE => by
    obtain ⟨k, r1, q1, h2⟩ := uncons_some (h : uncons es none (fun k r => uncons r none fun _ r => some r) = some r)
    obtain ⟨u, r2, q2, h3⟩ := uncons_some h2
    subst q2; subst q1; cases h3
    obtain ⟨X, Ws, hX, hr1, e1⟩ := D_cons hE
    obtain ⟨Y, Ws2, hY, hr2, e2⟩ := D_cons hr1
    cases ents with
    | nil => subst e2; cases e1
    | cons e0 l => rw [flatE_cons] at e1; subst e2; cases e1; exact hr2
  | i + 1, es, r, ents, h, hE => by
    obtain ⟨k, r1, q1, h2⟩ := uncons_some (h : uncons es none (fun k r => uncons r none fun u r => ob (delE i r) fun q => some (.cons k (.cons u q))) = some r)
    obtain ⟨u, r2, q2, h3⟩ := uncons_some h2
    subst q2; subst q1
    obtain ⟨q, hq, h3⟩ := ob_some h3
    cases h3
    obtain ⟨X, Ws, hX, hr1, e1⟩ := D_cons hE
    obtain ⟨Y, Ws2, hY, hr2, e2⟩ := D_cons hr1
    cases ents with
    | nil => subst e2; cases e1
    | cons e0 l => rw [flatE_cons] at e1; subst e2; cases e1; exact DL_cons hX (DL_cons hY (delE_some hq hr2))
/-- A list of values, to its end. -/
noncomputable def spineA (l : AV) : Bool := match l with | .nil => true | .cons _ t => spineA t | _ => false
theorem appA_spine : ∀ {l m : AV} {Vs Ws : List Value}, spineA l = true → DL η L l Vs → DL η L m Ws → DL η L (appA l m) (Vs ++ Ws) := by
  intro l
  induction l with
  | cons a t _ ih =>
    intro m Vs Ws hs h k
    obtain ⟨V, Xs, hV, ht, rfl⟩ := D_cons h
    simp only [appA, List.cons_append]
    exact DL_cons hV (ih (by simpa [spineA] using hs) ht k)
  | nil => intro m Vs Ws _ h k; rw [DL_nil_inv h]; exact k
  | _ => intro m Vs Ws hs; simp [spineA] at hs
noncomputable def amapSet (C : Cfg) (t : TypeId) (m key v : AV) (σ : H) : Option (AV × H) := ob (C.P.underlying t) fun d => match d with
  | .map kt et => ob (intK (C.P.underlying kt)) fun k0 => tst (kindIs key k0) (match m with
    | .map o => lookO σ o fun x => (match x with
      | .map es => ob (afind C key (nat_lit 4000) es (nat_lit 0)) fun r => Option.rec (tst (spineA es) (layK o (some (.map (appA es (.cons key (.cons v .nil))))) σ fun σ' => some (undefA, σ'))) (fun p => Prod.rec (fun i _ => ob (setE v i es) fun es' => layK o (some (.map es')) σ fun σ' => some (undefA, σ')) p) r
      | _ => none)
    | _ => none)
  | _ => none
theorem amapSet_some {C : Cfg} (hC : C.Ok η) {t : TypeId} {m key v r : AV} {M K V : Value} (h : amapSet C t m key v σ = some (r, σ')) (hm : D η L m M) (hk : D η L key K) (hv : D η L v V) (hR : Rel W0 η L σ w) :
    Did C.P W0 η L w (do Instr.mapUpdate t M K V; pure Next.skip) r σ' := by
  obtain ⟨d, hd, h⟩ := ob_some h
  cases d with
  | map kt et =>
    obtain ⟨k0, hk0, h⟩ := ob_some h
    have hkt := intK_some hk0
    obtain ⟨hki, h⟩ := tst_some h
    have hint := kindIs_true hki hk
    cases m with
    | map o =>
      obtain ⟨x, hx, h⟩ := lookO_some h
      cases x with
      | map es =>
        obtain ⟨b, hb, rfl⟩ := D_map hm
        obtain ⟨hB, ents, clock, k1, k2⟩ := hR.block hx hb
        have hck : (Instr.checkKey false 10000 kt K).run C.P w = .ok () w := by
          obtain ⟨x, hx⟩ := hint
          exact MapKept.run_checkKey (k := K) hkt (by rw [hx]; exact rfl) _ 9999
        obtain ⟨q, hq, h⟩ := ob_some h
        rcases afind_some hC hk hq k2 hint with ⟨rfl, hf⟩ | ⟨j, u, U, rfl, _, hu, hf, e, he, _, hek⟩
        · obtain ⟨hs, h⟩ := tst_some (h : tst (spineA es) (layK o (some (.map (appA es (.cons key (.cons v .nil))))) σ fun σ' => some (undefA, σ')) = some (r, σ'))
          rw [layK_eq] at h
          cases h
          have hD := appA_spine hs k2 (DL_cons hk (DL_cons hv DL_nil))
          have hfl : flatE (ents.push { key := K, val := V, born := clock }).toList = flatE ents.toList ++ [K, V] := by simp [flatE]
          refine ⟨L, _, undef, LM.Le.refl _, hR.setMap (ents := ents.push { key := K, val := V, born := clock }) (clock := clock + 1) hx hb (by rw [hfl]; exact hD), rfl, .inr ⟨run_unit ?_, rfl⟩⟩
          simp [Instr.mapUpdate, run_underlying hd, MapKept.run_getObj_map k1, hck, MapKept.run_findKey hkt hf, MapKept.run_setObj_map _ k1]
        · obtain ⟨es', he', h⟩ := ob_some (h : ob (setE v j es) (fun es' => layK o (some (.map es')) σ fun σ' => some (undefA, σ')) = some (r, σ'))
          rw [layK_eq] at h
          cases h
          have he2 : ents.toList[j]? = some e := he
          have hD := setE_some hv he' k2 ⟨e, he2, hek⟩
          have hfl : (ents.modify j fun e => { e with key := K, val := V }).toList = ents.toList.modify j fun e => { e with key := K, val := V } := by simp
          have hold : ((ents[j]?).map (·.key)).getD K = K := by
            have : ents[j]? = some e := by simpa using he2
            simp [this, hek]
          refine ⟨L, _, undef, LM.Le.refl _, hR.setMap (ents := ents.modify j fun e => { e with key := K, val := V }) (clock := clock) hx hb (by rw [hfl]; exact hD), rfl, .inr ⟨run_unit ?_, rfl⟩⟩
          have hks : (Instr.keyThatStays K K).run C.P w = .ok K w := by
            obtain ⟨x, rfl⟩ := hint
            simp [Instr.keyThatStays, Instr.sameBits, Sem.run_pure]
          simp only [Instr.mapUpdate, Sem.run_bind, run_underlying hd, Result.andThen_ok, MapKept.run_getObj_map k1, hck, MapKept.run_findKey hkt hf, hold, hks, MapKept.run_setObj_map _ k1]
      | _ => cases h
    | _ => cases h
  | _ => cases h
noncomputable def amapDel (C : Cfg) (t : TypeId) (m key : AV) (σ : H) : Option (AV × H) := ob (C.P.underlying t) fun d => match d with
  | .map kt et => ob (intK (C.P.underlying kt)) fun k0 => tst (kindIs key k0) (match m with
    | .map o => lookO σ o fun x => (match x with
      | .map es => ob (afind C key (nat_lit 4000) es (nat_lit 0)) fun r => Option.rec (some (undefA, σ)) (fun p => Prod.rec (fun i _ => ob (delE i es) fun es' => layK o (some (.map es')) σ fun σ' => some (undefA, σ')) p) r
      | _ => none)
    | _ => none)
  | _ => none
theorem setIfInBounds_self {w : World} {b : Nat} {o : Obj} (h : w.heap[b]? = some o) : w.heap.setIfInBounds b o = w.heap := by
  obtain ⟨hlt, rfl⟩ := Array.getElem?_eq_some_iff.1 h
  apply Array.ext
  · simp
  · intro i h1 h2
    by_cases e : b = i
    · subst e; simp
    · rw [Array.getElem_setIfInBounds_ne _ e]
theorem amapDel_some {C : Cfg} (hC : C.Ok η) {t ty : TypeId} {m key r : AV} {M K : Value} {ats : Array TypeId} {args : Array Value} (h : amapDel C t m key σ = some (r, σ')) (hm : D η L m M) (hk : D η L key K) (hR : Rel W0 η L σ w)
    (h0 : ats[0]? = some t) (h1 : args[0]? = some M) (h2 : args[1]? = some K) : Did C.P W0 η L w (do pure (Next.value (← Builtin.delete_ ats ty args))) r σ' := by
  obtain ⟨d, hd, h⟩ := ob_some h
  cases d with
  | map kt et =>
    obtain ⟨k0, hk0, h⟩ := ob_some h
    have hkt := intK_some hk0
    obtain ⟨hki, h⟩ := tst_some h
    have hint := kindIs_true hki hk
    cases m with
    | map o =>
      obtain ⟨x, hx, h⟩ := lookO_some h
      cases x with
      | map es =>
        obtain ⟨b, hb, rfl⟩ := D_map hm
        obtain ⟨hB, ents, clock, k1, k2⟩ := hR.block hx hb
        have hck : (Instr.checkKey ents.isEmpty 10000 kt K).run C.P w = .ok () w := by
          obtain ⟨x, hx⟩ := hint
          exact MapKept.run_checkKey (k := K) hkt (by rw [hx]; exact rfl) _ 9999
        obtain ⟨q, hq, h⟩ := ob_some h
        rcases afind_some hC hk hq k2 hint with ⟨rfl, hf⟩ | ⟨j, u, U, rfl, _, hu, hf, e, he, _, hek⟩
        · cases (h : some (undefA, σ) = some (r, σ'))
          refine ⟨L, w, undef, LM.Le.refl _, hR, rfl, .inl (run_val' ?_)⟩
          have hw : ({ w with heap := w.heap.setIfInBounds b (.map ents clock) } : World) = w := by rw [setIfInBounds_self k1]
          simp [Builtin.delete_, h0, h1, h2, run_underlying hd, MapKept.run_getObj_map k1, hck, MapKept.run_findKey hkt hf, MapKept.run_setObj_map _ k1, hw]
          rfl
        · obtain ⟨es', he', h⟩ := ob_some (h : ob (delE j es) (fun es' => layK o (some (.map es')) σ fun σ' => some (undefA, σ')) = some (r, σ'))
          rw [layK_eq] at h
          cases h
          have hD := delE_some he' k2
          have hjl : j < ents.size := by
            have := (List.getElem?_eq_some_iff.1 he).1
            simpa using this
          have hfl : (ents.eraseIdxIfInBounds j).toList = ents.toList.eraseIdx j := by simp
          refine ⟨L, _, undef, LM.Le.refl _, hR.setMap (ents := ents.eraseIdxIfInBounds j) (clock := clock) hx hb (by rw [hfl]; exact hD), rfl, .inl (run_val' ?_)⟩
          simp [Builtin.delete_, h0, h1, h2, run_underlying hd, MapKept.run_getObj_map k1, hck, MapKept.run_findKey hkt hf, MapKept.run_setObj_map _ k1]
          rfl
      | _ => cases h
    | _ => cases h
  | _ => cases h

/-- make([]T, l, c), T of one cell -/
noncomputable def amakeS (P : Program) (t : TypeId) (l c : AV) (σ : H) : Option (AV × H) := ob (natA l) fun l => ob (natA c) fun c => ob (P.underlying t) fun d => match d with
  | .slice e => ob (P.info? e) fun i => ob (azero P e) fun z => tst (oneA z) (tst (Nat.beq i.size (nat_lit 1)) (tst (Nat.ble l c) (tst (Nat.ble c (nat_lit 4294967296)) (tst (Nat.ble (Nat.mul i.bytes c) (nat_lit 281474976710656)) (newK (.cells .nil z c none e) σ fun o σ' => some (.slice o (nat_lit 0) l c, σ'))))))
  | _ => none
theorem amakeS_some {P : Program} {t : TypeId} {l c r : AV} {A B : Value} (h : amakeS P t l c σ = some (r, σ')) (hl : D η L l A) (hc : D η L c B) (hR : Rel W0 η L σ w) : Did P W0 η L w (do pure (Next.value (← Instr.makeSlice t A B))) r σ' := by
  obtain ⟨n, hn, h⟩ := ob_some h
  obtain ⟨m, hm, h⟩ := ob_some h
  obtain ⟨d, hd, h⟩ := ob_some h
  obtain ⟨kl, rfl⟩ := natA_some hn hl
  obtain ⟨kc, rfl⟩ := natA_some hm hc
  cases d with
  | slice e =>
    obtain ⟨i, hi, h⟩ := ob_some h
    obtain ⟨z, hz, h⟩ := ob_some h
    obtain ⟨h1, h⟩ := tst_some h
    obtain ⟨h2, h⟩ := tst_some h
    obtain ⟨h3, h⟩ := tst_some h
    obtain ⟨h4, h⟩ := tst_some h
    obtain ⟨h5, h⟩ := tst_some h
    rw [newK_eq] at h
    cases h
    obtain ⟨inf, Z, hinf, hZ, hzD⟩ := azero_some (η := η) (L := L) hz
    have : inf = i := by rw [hinf] at hi; cases hi; rfl
    subst this
    have hone := oneA_true h1 hzD
    have e2 := Nat.eq_of_beq_eq_true h2
    have e3 : n ≤ m := Nat.le_of_ble_eq_true h3
    have e4 : m ≤ 4294967296 := Nat.le_of_ble_eq_true h4
    have e5 : inf.bytes * m ≤ 281474976710656 := Nat.le_of_ble_eq_true h5
    have hrun := run_make (P := P) w t e inf Z hd hinf hZ kl kc (n : Int) (m : Int) (by omega) (by omega) (by have := Int.ofNat_le.2 e5; rw [Int.natCast_mul] at this; exact this) (by omega)
    have hcells : madeCells Z.cells (m * inf.size) = madeCells #[Z] m := by rw [cells_one hone, e2, Nat.mul_one]
    simp only [Int.toNat_natCast, hcells] at hrun
    refine ⟨_, _, _, hR.ext_le _, hR.new (o := .cells (madeCells #[Z] m) e) ⟨_, heap_alloc_at _, by simp [size_madeCells], by simp [capOk, size_madeCells], fun j hj => ⟨Z, ?_, ?_, hone⟩⟩, slice_D (b := w.heap.size) (LM.ext_at ..), .inl (run_val' hrun)⟩
    · rw [show (T.nil : T AV).get j = none from rfl]; exact hzD.mono (hR.ext_le _)
    · rw [← Array.getElem?_toList, toList_madeCells_one, List.getElem?_replicate, if_pos hj]
  | _ => cases h

/-- Strings ranged over, byte by byte: below 128 alone. -/
noncomputable def arange (P : Program) (t : TypeId) (x : AV) (σ : H) : Option (AV × H) := tst (isDStr (P.underlying t)) (match x with | .str s => newK (.iter s (nat_lit 0)) σ fun o σ' => some (.ptr o (nat_lit 0), σ') | _ => none)
theorem arange_some {P : Program} {t : TypeId} {x r : AV} {X : Value} (h : arange P t x σ = some (r, σ')) (hx : D η L x X) (hR : Rel W0 η L σ w) : Did P W0 η L w (do pure (Next.value (← Instr.range t X))) r σ' := by
  obtain ⟨h1, h⟩ := tst_some h
  cases x with
  | str s =>
    have h' : newK (.iter s 0) σ (fun o σ' => some (AV.ptr o 0, σ')) = some (r, σ') := h
    rw [newK_eq] at h'
    cases h'; cases hx
    refine ⟨_, _, _, hR.ext_le _, hR.new (o := .stringIter s 0) (show _ = _ from heap_alloc_at _), ptr_D (b := w.heap.size) (LM.ext_at ..), .inl (run_val' ?_)⟩
    simp [Instr.range, run_underlying (isDStr_true h1)]
  | _ => cases h
noncomputable def anext (x : AV) (σ : H) : Option (AV × H) := match x with
  | .ptr o off => tst (Nat.beq off (nat_lit 0)) (lookO σ o fun x => match x with
    | .iter s pos => Option.rec (some (.tuple (.cons (.bool false) .nil), σ)) (fun b => tst (Nat.blt b.toNat (nat_lit 128)) (layK o (some (.iter s (Nat.succ pos))) σ fun σ' => some (.tuple (.cons (.bool true) (.cons (.int .i64 (Int.ofNat pos)) (.cons (.int .i32 (Int.ofNat b.toNat)) .nil))), σ'))) (lget s.data.toList pos)
    | _ => none)
  | _ => none
theorem anext_some {P : Program} {ty : TypeId} {x r : AV} {X : Value} (h : anext x σ = some (r, σ')) (hx : D η L x X) (hR : Rel W0 η L σ w) : Did P W0 η L w (do pure (Next.value (← Instr.next X true ty))) r σ' := by
  cases x with
  | ptr o off =>
    obtain ⟨h1, h⟩ := tst_some h
    have e1 := Nat.eq_of_beq_eq_true h1
    subst e1
    obtain ⟨y, hy, h⟩ := lookO_some h
    cases y with
    | iter s pos =>
      obtain ⟨b, hb, rfl⟩ := D_ptr hx
      obtain ⟨hB, hO⟩ := hR.block hy hb
      have hO' : w.heap[b]? = some (.stringIter s pos) := hO
      dsimp only at h
      rw [lget_eq] at h
      cases hg : s.data.toList[pos]? with
      | none =>
        rw [hg] at h
        cases (h : some (AV.tuple (.cons (.bool false) .nil), σ) = some (r, σ'))
        have hlt : ¬ pos < s.size := by
          have := List.getElem?_eq_none_iff.1 hg
          have e : s.data.toList.length = s.size := Array.length_toList
          omega
        refine ⟨L, w, .tuple #[.bool false], LM.Le.refl _, hR, rfl, .inl (run_val' ?_)⟩
        simp [Instr.next, getObj, Sem.run, hO', hlt]
      | some c =>
        rw [hg] at h
        obtain ⟨h2, h⟩ := tst_some (h : tst (Nat.blt c.toNat 128) (layK o (some (.iter s (pos + 1))) σ fun σ' => some (AV.tuple (.cons (.bool true) (.cons (.int .i64 (Int.ofNat pos)) (.cons (.int .i32 (Int.ofNat c.toNat)) .nil))), σ')) = some (r, σ'))
        rw [layK_eq] at h
        cases h
        obtain ⟨hl, hc⟩ := List.getElem?_eq_some_iff.1 hg
        have e : s.data.toList.length = s.size := Array.length_toList
        have hlt : pos < s.size := by omega
        have hsc : s[pos] = c := by rw [← hc]; rfl
        have hdec := decode_ascii s pos hlt (by rw [hsc]; exact blt_true h2)
        rw [hsc] at hdec
        have hbl := lt_of_heap hO'
        refine ⟨L, { w with heap := w.heap.setIfInBounds b (.stringIter s (pos + 1)) }, .tuple #[.bool true, .int .i64 pos, .int .i32 c.toNat], LM.Le.refl _, ?_, rfl, .inl (run_val' ?_)⟩
        · refine hR.put (b := b) (w' := { w with heap := w.heap.setIfInBounds b (.stringIter s (pos + 1)) }) ⟨rfl, rfl, rfl, by simp, fun k hk hne => ?_⟩ (LM.Le.refl _) hR.free hR.rsv hb hB ?_ (fun o' y' hy' hb' => hR.inj _ _ _ _ _ hy' hy hb' hb)
          · simp [Array.getElem?_setIfInBounds_ne (Ne.symm hne)]
          · show (w.heap.setIfInBounds b _)[b]? = _
            simp [hbl]
        · simp [Instr.next, getObj, setObj, Sem.run, hO', hlt, hdec, goInt]
    | _ => cases h
  | _ => cases h
end Go.Proofs.YtcjlhjoobchabaaGreatDoor
