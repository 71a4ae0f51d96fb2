/- The engine, 11: cells read and written; maps looked into. -/
import Derived.Test.YtcjlhjoobchabaaGreatDoorEng10
namespace Go.Proofs.YtcjlhjoobchabaaGreatDoor
open Go.RowKit
set_option linter.unusedVariables false
set_option linter.unusedSimpArgs false
variable {η : Nat → Int} {L L' : LM} {W0 : Base} {w : World} {σ : H}

noncomputable def lookO {β : Type} (σ : H) (o : Nat) (k : AObj → Option β) : Option β := ob (H.rec (fun h _ => h.get o) σ) k
theorem lookO_some {β : Type} {σ : H} {o : Nat} {k : AObj → Option β} {r : β} (h : lookO σ o k = some r) : ∃ x, σ.h.get o = some x ∧ k x = some r := ob_some h
noncomputable def newK {β : Type} (x : AObj) (σ : H) (k : Nat → H → β) : β := H.rec (fun h nx => T.setK (some x) h nx fun h' => fnat (Nat.succ nx) fun nx' => k nx ⟨h', nx'⟩) σ
theorem newK_eq {β : Type} (x : AObj) (σ : H) (k : Nat → H → β) : newK x σ k = k σ.nx ⟨T.set (some x) σ.h σ.nx, σ.nx + 1⟩ := by
  obtain ⟨h, nx⟩ := σ
  show T.setK (some x) h nx (fun h' => fnat (Nat.succ nx) fun nx' => k nx ⟨h', nx'⟩) = _
  rw [T.setK_eq, fnat_eq]
noncomputable def layK {β : Type} (o : Nat) (x : Option AObj) (σ : H) (k : H → β) : β := H.rec (fun h nx => T.setK x h o fun h' => k ⟨h', nx⟩) σ
theorem layK_eq {β : Type} (o : Nat) (x : Option AObj) (σ : H) (k : H → β) : layK o x σ k = k ⟨T.set x σ.h o, σ.nx⟩ := by
  obtain ⟨h, nx⟩ := σ
  show T.setK x h o (fun h' => k ⟨h', nx⟩) = _
  rw [T.setK_eq]

/-- n cells from off on. -/
noncomputable def rdK {β : Type} (c : T AV) (d : AV) (n : Nat) : Nat → (AV → β) → β :=
  Nat.rec (fun _ k => k .nil) (fun _ ih off k => Option.rec (ih (Nat.succ off) fun r => k (.cons d r)) (fun v => ih (Nat.succ off) fun r => k (.cons v r)) (c.get off)) n
theorem rdK_succ {β : Type} (c : T AV) (d : AV) (n off : Nat) (k : AV → β) : rdK c d (n + 1) off k = rdK c d n (off + 1) fun r => k (.cons ((c.get off).getD d) r) := by
  have h : rdK c d (n + 1) off k = Option.rec (motive := fun _ => β) (rdK c d n (off + 1) fun r => k (.cons d r)) (fun v => rdK c d n (off + 1) fun r => k (.cons v r)) (c.get off) := rfl
  rw [h]
  cases c.get off <;> rfl
def Known (η : Nat → Int) (L : LM) (c : T AV) (d : AV) (N : Nat) (C : Array Value) : Prop := ∀ i, i < N → ∃ V, D η L ((c.get i).getD d) V ∧ C[i]? = some V ∧ V.oneCell' = true
theorem rdK_some {c : T AV} {d : AV} {N : Nat} {C : Array Value} (hC : Known η L c d N C) : ∀ {n off : Nat} {β : Type} {k : AV → β}, off + n ≤ N →
    ∃ l Vs, DL η L l Vs ∧ rdK c d n off k = k l ∧ Vs.length = n ∧ (∀ j, j < n → C[off + j]? = Vs[j]?) ∧ ∀ v ∈ Vs, v.oneCell' = true
  | 0, off, β, k, h => ⟨.nil, [], DL_nil, rfl, rfl, fun j hj => by omega, fun v hv => by cases hv⟩
  | n + 1, off, β, k, h => by
    obtain ⟨V, hV, hc, h1⟩ := hC off (by omega)
    obtain ⟨l, Vs, hl, he, hlen, hj, ho⟩ := rdK_some hC (n := n) (off := off + 1) (k := fun r => k (.cons ((c.get off).getD d) r)) (by omega)
    refine ⟨_, V :: Vs, DL_cons hV hl, (rdK_succ c d n off k).trans he, by simp [hlen], fun j hjn => ?_, fun v hv => ?_⟩
    · cases j with
      | zero => simpa using hc
      | succ j => rw [show off + (j + 1) = off + 1 + j by omega, hj j (by omega)]; simp
    · rcases List.mem_cons.1 hv with rfl | hv
      · exact h1
      · exact ho v hv

/-- Cells laid from off on, n of them. -/
noncomputable def wrK {β : Type} (n : Nat) : AV → Nat → T AV → (T AV → Option β) → Option β :=
  Nat.rec (fun l _ c k => tst (isNil l) (k c)) (fun _ ih l off c k => uncons l none fun v t => tst (oneA v) (T.setK (some v) c off fun c' => ih t (Nat.succ off) c' k)) n
theorem wrK_succ {β : Type} (n : Nat) (l : AV) (off : Nat) (c : T AV) (k : T AV → Option β) : wrK (n + 1) l off c k = uncons l none fun v t => tst (oneA v) (wrK n t (off + 1) (T.set (some v) c off) k) := by
  show uncons l none (fun v t => tst (oneA v) (T.setK (some v) c off fun c' => wrK n t (off + 1) c' k)) = _
  congr 1; funext v t; rw [T.setK_eq]
theorem wrK_some {P : Program} {o b N : Nat} {d : AV} {cap : Option (Nat × Nat)} {t : TypeId} : ∀ {n : Nat} {β : Type} {l : AV} {Vs : List Value} {off0 i : Nat} {c : T AV} {k : T AV → Option β} {r : β} {σ : H} {w : World},
    wrK n l (off0 + i) c k = some r → DL η L l Vs → Rel W0 η L σ w → σ.h.get o = some (.cells c d N cap t) → L[o]? = some b → off0 + i + n ≤ N →
    Vs.length = n ∧ ∃ c' w', k c' = some r ∧ (storeCells ⟨b, off0, none⟩ Vs i).run P w = .ok () w' ∧ Rel W0 η L ⟨T.set (some (.cells c' d N cap t)) σ.h o, σ.nx⟩ w'
  | 0, β, l, Vs, off0, i, c, k, r, σ, w, h, hl, hR, ho, hb, hn => by
    obtain ⟨h1, h⟩ := tst_some h
    have := isNil_true h1; subst this
    have := DL_nil_inv hl; subst this
    exact ⟨rfl, c, w, h, rfl, hR.congr (fun o' => by
      dsimp only
      rw [T.get_set]; split
      · subst_vars; exact ho.symm
      · rfl) rfl⟩
  | n + 1, β, l, Vs, off0, i, c, k, r, σ, w, h, hl, hR, ho, hb, hn => by
    rw [wrK_succ] at h
    obtain ⟨v, t', rfl, h⟩ := uncons_some h
    obtain ⟨h1, h⟩ := tst_some h
    obtain ⟨V, Ws, hV, ht, rfl⟩ := D_cons hl
    have hone := oneA_true h1 hV
    have hR1 := hR.setCell (off := off0 + i) ho hb (by omega) hV hone
    obtain ⟨hlen, c', w', hk, hrun, hR2⟩ := wrK_some (off0 := off0) (i := i + 1) h ht hR1 (by rw [T.get_set, if_pos rfl]) hb (by omega)
    refine ⟨by simp [hlen], c', w', hk, ?_, hR2.twice⟩
    obtain ⟨b', g1, g2, C, k1, k2, k3, k4⟩ := hR.obj o _ ho
    have e : b' = b := by have := g1.symm.trans hb; simpa using this
    subst e
    obtain ⟨U, _, hU, _⟩ := k4 (off0 + i) (by omega)
    have hcell : w.cell? ((⟨b', off0, none⟩ : Addr).add i) = some U := by rw [add_addr, cell_of_heap k1]; exact hU
    have hfr : w.frozen? ((⟨b', off0, none⟩ : Addr).add i) = false := by rw [add_addr]; exact free_of_heap k1
    have hst : (store ((⟨b', off0, none⟩ : Addr).add i) V).run P w = .ok () (w.setCell ⟨b', off0 + i, none⟩ V) := by
      rw [add_addr] at hcell hfr ⊢
      cases V <;> first | (cases hone; done) | simp [store, Sem.run, hcell, hfr]
    simp only [storeCells, Sem.run_bind, hst, Result.andThen_ok]
    exact hrun

/-- A fresh object's cells. -/
noncomputable def toTK {β : Type} (n : Nat) : AV → Nat → T AV → (T AV → Option β) → Option β := wrK n
theorem toT_known : ∀ {n : Nat} {β : Type} {l : AV} {Vs : List Value} {off : Nat} {c : T AV} {k : T AV → Option β} {r : β}, wrK n l off c k = some r → DL η L l Vs →
    ∃ c', k c' = some r ∧ Vs.length = n ∧ (∀ i, i < n → ∃ v V, c'.get (off + i) = some v ∧ D η L v V ∧ Vs[i]? = some V ∧ V.oneCell' = true) ∧ ∀ j, (j < off ∨ off + n ≤ j) → c'.get j = c.get j
  | 0, β, l, Vs, off, c, k, r, h, hl => by
    obtain ⟨h1, h⟩ := tst_some h
    have := isNil_true h1; subst this
    have := DL_nil_inv hl; subst this
    exact ⟨c, h, rfl, fun i hi => by omega, fun j _ => rfl⟩
  | n + 1, β, l, Vs, off, c, k, r, h, hl => by
    rw [wrK_succ] at h
    obtain ⟨v, t', rfl, h⟩ := uncons_some h
    obtain ⟨h1, h⟩ := tst_some h
    obtain ⟨V, Ws, hV, ht, rfl⟩ := D_cons hl
    obtain ⟨c', hk, hlen, hi, hj⟩ := toT_known h ht
    refine ⟨c', hk, by simp [hlen], fun i hin => ?_, fun j hjn => ?_⟩
    · cases i with
      | zero => exact ⟨v, V, by rw [hj (off + 0) (by omega), T.get_set, if_pos (by omega)], hV, rfl, oneA_true h1 hV⟩
      | succ i =>
        obtain ⟨u, U, h2, h3, h4, h5⟩ := hi i (by omega)
        exact ⟨u, U, by rw [show off + (i + 1) = off + 1 + i by omega]; exact h2, h3, by simpa using h4, h5⟩
    · rw [hj j (by omega), T.get_set, if_neg (by omega)]

/-! ### Loading -/
noncomputable def ald (P : Program) (σ : H) (t : TypeId) (o off : Nat) : Option AV := ob (P.underlying t) fun ds => lookO σ o fun x => match x with
  | .cells c d n _ _ => bcase (aggD ds) (ob (P.info? t) fun i => tst (Nat.ble (Nat.add off i.size) n) (rdK c d i.size off fun l => some (.agg l))) (tst (Nat.blt off n) (some (oget (c.get off) d)))
  | _ => none
theorem ald_some {P : Program} {t : TypeId} {o off b : Nat} {r : AV} (h : ald P σ t o off = some r) (hR : Rel W0 η L σ w) (hb : L[o]? = some b) : ∃ R, D η L r R ∧ (Instr.loadAt t (.pointer (some ⟨b, off, none⟩))).run P w = .ok R w := by
  obtain ⟨ds, hds, h⟩ := ob_some h
  obtain ⟨x, hx, h⟩ := lookO_some h
  obtain ⟨b', g1, g2, hO⟩ := hR.obj o x hx
  have e : b' = b := by have := g1.symm.trans hb; simpa using this
  subst e
  cases x with
  | cells c d n cap et =>
    obtain ⟨C, k1, k2, k3, k4⟩ := hO
    dsimp only at h
    cases ha : aggD ds
    · rw [ha, bcase_false] at h
      obtain ⟨h1, h⟩ := tst_some h
      cases h
      obtain ⟨V, hV, hc, _⟩ := k4 off (blt_true h1)
      refine ⟨V, by rw [oget_eq]; exact hV, ?_⟩
      have hcell : w.cell? ⟨b', off, none⟩ = some V := (cell_of_heap k1).trans hc
      simp [Instr.loadAt, Instr.sureAddr, loadVar, run_isAgg hds, ha, load, Sem.run, hcell]
    · rw [ha, bcase_true] at h
      obtain ⟨i, hi, h⟩ := ob_some h
      obtain ⟨h1, h⟩ := tst_some h
      have hle := Nat.le_of_ble_eq_true h1
      obtain ⟨l, Vs, hl, he, hlen, hj, _⟩ := rdK_some (c := c) (d := d) (N := n) (C := C) k4 (n := i.size) (off := off) (k := fun l => some (AV.agg l)) hle
      rw [he] at h
      cases h
      refine ⟨.agg Vs.toArray, D_agg hl, ?_⟩
      have hs : P.cellsOf t = i.size := by simp [Program.cellsOf, hi]
      have hload := run_loadCells_list (P := P) w ⟨b', off, none⟩ Vs (fun j v hv => by
        have hjn : j < Vs.length := (List.getElem?_eq_some_iff.1 hv).1
        rw [add_addr, cell_of_heap k1, hj j (by omega), hv])
      rw [hlen] at hload
      simp [Instr.loadAt, Instr.sureAddr, loadVar, run_isAgg hds, ha, run_sizeOf w hi, hs, hload]
  | _ => cases h

/-! ### Maps -/
noncomputable def ieqA (C : Cfg) (u v : AV) : Option Bool := match u with
  | .int .. | .sym .. => ob (abin0 C .eql (nat_lit 0) u v) fun r => (match r with | .bool b => some b | _ => none)
  | _ => none
theorem ieqA_some {C : Cfg} (hC : C.Ok η) {u v : AV} {U V : Value} {b : Bool} (h : ieqA C u v = some b) (hu : D η L u U) (hv : D η L v V) : ∃ k x y, U = .int k x ∧ V = .int k y ∧ b = (x == y) := by
  have h' : ob (abin0 C .eql 0 u v) (fun r => (match r with | .bool b => some b | _ => none)) = some b := by
    cases u <;> simp only [ieqA] at h <;> first | exact h | cases h
  obtain ⟨r, hr, h'⟩ := ob_some h'
  obtain ⟨R, hR, hrun⟩ := abin0_some hC hr hu hv
  have hu' : ∃ k a, U = .int k a := by
    cases u <;> simp only [ieqA] at h <;> try (cases h; done)
    · cases hu; exact ⟨_, _, rfl⟩
    · cases hu; exact ⟨_, _, rfl⟩
  have hv' : ∃ k a, V = .int k a := by
    cases u <;> simp only [ieqA] at h <;> try (cases h; done)
    all_goals (cases v <;> simp only [abin0] at hr <;> first | (cases hv; exact ⟨_, _, rfl⟩) | cases hr)
  obtain ⟨k, x, rfl⟩ := hu'
  obtain ⟨k', y, rfl⟩ := hv'
  cases r <;> simp only at h' <;> cases h'
  cases hR
  have := hrun default
  by_cases hk : k = k'
  · subst hk
    simp [binOp, Op.intCmp, Sem.run_pure] at this
    exact ⟨k, x, y, rfl, rfl, this.symm⟩
  · simp [binOp, hk, stuck, Sem.run] at this

/-- The entry of a key: its number, and the value. -/
noncomputable def afind (C : Cfg) (key : AV) (fuel : Nat) : AV → Nat → Option (Option (Nat × AV)) :=
  Nat.rec (fun _ _ => none) (fun _ ih es i => bcase (isNil es) (some none) (uncons es none fun k r => uncons r none fun v r => ob (ieqA C key k) fun b => bcase b (some (some (i, v))) (ih r (Nat.succ i)))) fuel
theorem flatE_cons (e : MapEntry) (es : List MapEntry) : flatE (e :: es) = e.key :: e.val :: flatE es := rfl
theorem afind_some {C : Cfg} (hC : C.Ok η) {key : AV} {K : Value} (hK : D η L key K) {k0 : IntKind} : ∀ {fuel : Nat} {es : AV} {i : Nat} {ents : List MapEntry} {r : Option (Nat × AV)}, afind C key fuel es i = some r → DL η L es (flatE ents) → (∃ x, K = .int k0 x) →
    (r = none ∧ Instr.findNow (.int k0) K ents i = some none) ∨ ∃ j v V, r = some (j, v) ∧ i ≤ j ∧ D η L v V ∧ Instr.findNow (.int k0) K ents i = some (some (j, V)) ∧ ∃ e, ents[j - i]? = some e ∧ e.val = V ∧ e.key = K
  | 0, es, i, ents, r, h, _, _ => by cases h
  | fuel + 1, es, i, ents, r, h, hE, hKi => by
    have h' : bcase (isNil es) (some none) (uncons es none fun k r => uncons r none fun v r => ob (ieqA C key k) fun b => bcase b (some (some (i, v))) (afind C key fuel r (i + 1))) = some r := h
    cases ents with
    | nil =>
      have e := hE
      have hn : isNil es = true := by
        cases es <;> first | rfl | (exfalso; first | (obtain ⟨_, _, _, _, e⟩ := D_cons e; cases e; done) | (simp [DL, den, flatE] at e; done) | skip)
        all_goals (simp [DL, den, flatE, ptrOf, sliceOf, vsliceOf, esliceOf, funcOf, ifaceOf] at e)
        all_goals (repeat' split at e)
        all_goals (first | (cases e; done) | simp at e)
      rw [hn, bcase_true] at h'
      cases h'
      exact .inl ⟨rfl, rfl⟩
    | cons e es' =>
      rw [flatE_cons] at hE
      cases hn : isNil es
      · rw [hn, bcase_false] at h'
        obtain ⟨k, r1, q1, h2⟩ := uncons_some h'
        obtain ⟨v, r2, q2, h3⟩ := uncons_some h2
        subst q2; subst q1
        clear h h' h2
        have h' := h3
        clear h3
        obtain ⟨Kv, Ws, hk, hr1, e1⟩ := D_cons hE
        obtain ⟨Vv, Ws2, hv, hr2, e2⟩ := D_cons hr1
        cases e1
        cases e2
        obtain ⟨b, hb, h'⟩ := ob_some h'
        obtain ⟨kk, x, y, rfl, hy, rfl⟩ := ieqA_some hC hb hK hk
        have hkk : kk = k0 := by obtain ⟨q, hq⟩ := hKi; cases hq; rfl
        subst hkk
        by_cases hxy : x = y
        · subst hxy
          simp only [beq_self_eq_true, bcase_true] at h'
          cases h'
          refine .inr ⟨i, v, e.val, rfl, Nat.le_refl _, hv, ?_, e, by simp, rfl, hy⟩
          simp [Instr.findNow, Instr.sameNow, hy]
        · have hf : (x == y) = false := by simpa using hxy
          rw [hf, bcase_false] at h'
          rcases afind_some hC hK h' hr2 hKi with ⟨rfl, hf2⟩ | ⟨j, u, U, rfl, hij, hu, hf2, en, hen, hev, hek⟩
          · exact .inl ⟨rfl, by simp [Instr.findNow, Instr.sameNow, hy, hf, hf2]⟩
          · refine .inr ⟨j, u, U, rfl, by omega, hu, by simp [Instr.findNow, Instr.sameNow, hy, hf, hf2], en, ?_, hev, hek⟩
            rw [show j - i = (j - (i + 1)) + 1 by omega]; simpa using hen
      · have := isNil_true hn; subst this
        have := DL_nil_inv hE
        cases this
end Go.Proofs.YtcjlhjoobchabaaGreatDoor
