/- The engine, 13: operations that turn memory; no calls, no append. -/
import Derived.Test.YtcjlhjoobchabaaGreatDoorEng12
namespace Go.Proofs.YtcjlhjoobchabaaGreatDoor
open Go.RowKit
set_option linter.unusedVariables false
set_option linter.unusedSimpArgs false
variable {η : Nat → Int} {L L' : LM} {W0 : Base} {w : World} {σ σ' : H}

/-- What an operation did, as told. -/
def Did (P : Program) (W0 : Base) (η : Nat → Int) (L : LM) (w : World) (X : Sem Next) (r : AV) (σ' : H) : Prop :=
  ∃ L' w' R, LM.Le L L' ∧ Rel W0 η L' σ' w' ∧ D η L' r R ∧ (X.run P w = .ok (.value R) w' ∨ (X.run P w = .ok .skip w' ∧ R = undef))
theorem run_unit {P : Program} {s : Sem Unit} {w w' : World} (h : s.run P w = .ok () w') : (do s; pure Next.skip : Sem Next).run P w = .ok .skip w' := by
  simp [h]
theorem run_val' {P : Program} {s : Sem Value} {w w' : World} {R : Value} (h : s.run P w = .ok R w') : (do pure (Next.value (← s)) : Sem Next).run P w = .ok (.value R) w' := by
  simp [h]

/-- A new row of cells. -/
noncomputable def mkK {β : Type} (n : Nat) (l : AV) (t : TypeId) (σ : H) (k : Nat → H → Option β) : Option β := wrK n l (nat_lit 0) .nil fun c => newK (.cells c undefA n none t) σ k
theorem mkK_some {β : Type} {n : Nat} {l : AV} {t : TypeId} {k : Nat → H → Option β} {r : β} {Vs : List Value} (h : mkK n l t σ k = some r) (hl : DL η L l Vs) (hR : Rel W0 η L σ w) :
    ∃ σ', k σ.nx σ' = some r ∧ Vs.length = n ∧ Rel W0 η (L.ext σ.nx w.heap.size) σ' (w.alloc (.cells Vs.toArray t)) ∧ (L.ext σ.nx w.heap.size)[σ.nx]? = some w.heap.size := by
  obtain ⟨c', hk, hlen, hi, _⟩ := toT_known h hl
  rw [newK_eq] at hk
  refine ⟨_, hk, hlen, hR.new ⟨Vs.toArray, heap_alloc_at _, by simp [hlen], by simp [capOk, hlen], fun i hin => ?_⟩, LM.ext_at ..⟩
  obtain ⟨v, V, h1, h2, h3, h4⟩ := hi i hin
  rw [Nat.zero_add] at h1
  exact ⟨V, by rw [h1]; exact h2.mono (hR.ext_le _), by simpa using h3, h4⟩
theorem ptr_D {o b off : Nat} (hb : L[o]? = some b) : D η L (.ptr o off) (.pointer (some ⟨b, off, none⟩)) := by
  show ptrOf L[o]? off = _; rw [hb]; rfl

noncomputable def aalloc (P : Program) (t : TypeId) (σ : H) : Option (AV × H) := ob (P.info? t) fun i => ob (azero P t) fun z => tst (okCells z) (mkK i.size (cellsA z) t σ fun o σ' => some (.ptr o (nat_lit 0), σ'))
theorem aalloc_some {P : Program} {t : TypeId} {r : AV} (h : aalloc P t σ = some (r, σ')) (hR : Rel W0 η L σ w) {old : Value} (ho : ∀ a, old ≠ .pointer (some a)) : Did P W0 η L w (do pure (Next.value (← Instr.alloc t true old))) r σ' := by
  obtain ⟨i, hi, h⟩ := ob_some h
  obtain ⟨z, hz, h⟩ := ob_some h
  obtain ⟨hk, h⟩ := tst_some h
  obtain ⟨inf, Z, hinf, hZ, hzD⟩ := azero_some (η := η) (L := L) hz
  obtain ⟨σ2, h2, hlen, hR2, hb⟩ := mkK_some h (cellsA_some hk hzD) hR
  cases h2
  refine ⟨_, _, _, hR.ext_le _, hR2, ptr_D hb, .inl (run_val' ?_)⟩
  have e : (Z.cells.toList.toArray : Array Value) = Z.cells := by simp
  rw [e]
  simp [Instr.alloc, run_zero hinf hZ, newVar, newRow]
noncomputable def abox (P : Program) (t : TypeId) (v : AV) (σ : H) : Option (AV × H) := ob (P.info? t) fun i => tst (okCells v) (mkK i.size (cellsA v) t σ fun o σ' => some (.ptr o (nat_lit 0), σ'))
theorem abox_some {P : Program} {t : TypeId} {v r : AV} {V : Value} (h : abox P t v σ = some (r, σ')) (hv : D η L v V) (hR : Rel W0 η L σ w) : Did P W0 η L w (do pure (Next.value (← Instr.box t V))) r σ' := by
  obtain ⟨i, hi, h⟩ := ob_some h
  obtain ⟨hk, h⟩ := tst_some h
  obtain ⟨σ2, h2, hlen, hR2, hb⟩ := mkK_some h (cellsA_some hk hv) hR
  cases h2
  refine ⟨_, _, _, hR.ext_le _, hR2, ptr_D hb, .inl (run_val' ?_)⟩
  have e : (V.cells.toList.toArray : Array Value) = V.cells := by simp
  rw [e]
  simp [Instr.box, newVar, newRow]
noncomputable def astore (P : Program) (t : TypeId) (a v : AV) (σ : H) : Option (AV × H) := match a with
  | .ptr o off => ob (P.info? t) fun i => tst (okCells v) (lookO σ o fun x => match x with
    | .cells c d n cap et => tst (Nat.ble (Nat.add off i.size) n) (wrK i.size (cellsA v) off c fun c' => layK o (some (.cells c' d n cap et)) σ fun σ' => some (undefA, σ'))
    | _ => none)
  | _ => none
theorem astore_some {P : Program} {t : TypeId} {a v r : AV} {A V : Value} (h : astore P t a v σ = some (r, σ')) (ha : D η L a A) (hv : D η L v V) (hR : Rel W0 η L σ w) : Did P W0 η L w (do Instr.storeAt t A V; pure Next.skip) r σ' := by
  cases a with
  | ptr o off =>
    obtain ⟨i, hi, h⟩ := ob_some h
    obtain ⟨hk, h⟩ := tst_some h
    obtain ⟨x, hx, h⟩ := lookO_some h
    cases x with
    | cells c d n cap et =>
      obtain ⟨h1, h⟩ := tst_some h
      obtain ⟨b, hb, rfl⟩ := D_ptr ha
      have hle := Nat.le_of_ble_eq_true h1
      have hle' : off + 0 + i.size ≤ n := hle
      obtain ⟨hlen, c', w', hkk, hrun, hR2⟩ := wrK_some (P := P) (off0 := off) (i := 0) h (cellsA_some hk hv) hR hx hb hle'
      rw [layK_eq] at hkk
      cases hkk
      refine ⟨L, w', undef, LM.Le.refl _, hR2, rfl, .inr ⟨run_unit ?_, rfl⟩⟩
      have hs : P.cellsOf t = i.size := by simp [Program.cellsOf, hi]
      have hsz : V.cells.size = i.size := by simpa using hlen
      simp [Instr.storeAt, Instr.sureAddr, storeVar, run_sizeOf w hi, hs, hsz, hrun]
    | _ => cases h
  | _ => cases h

noncomputable def repA (n : Nat) (z : AV) : AV := Nat.rec .nil (fun _ ih => appA z ih) n
theorem repA_DL {z : AV} {Zs : List Value} (hz : DL η L z Zs) (hlen : ∃ n, isLen n z = true) : ∀ (n : Nat), DL η L (repA n z) (List.replicate n Zs).flatten
  | 0 => rfl
  | n + 1 => by
    have e : repA (n + 1) z = appA z (repA n z) := rfl
    rw [e, List.replicate_succ, List.flatten_cons]
    exact appA_DL hz (repA_DL hz hlen n) hlen
theorem rep_get (zs : List Value) (hs : 0 < zs.length) : ∀ (n i : Nat), i < n * zs.length → (List.replicate n zs).flatten[i]? = zs[i % zs.length]?
  | 0, i, h => by omega
  | n + 1, i, h => by
    rw [List.replicate_succ, List.flatten_cons]
    by_cases hi : i < zs.length
    · rw [List.getElem?_append_left hi, Nat.mod_eq_of_lt hi]
    · rw [List.getElem?_append_right (by omega), rep_get zs hs n _ (by rw [Nat.add_mul] at h; omega)]
      congr 1
      exact (Nat.mod_eq_sub_mod (by omega)).symm
theorem rep_cells (Z : Array Value) (hs : 0 < Z.size) (n : Nat) : ((Array.range (n * Z.size)).map (Z[· % Z.size]!)).toList = (List.replicate n Z.toList).flatten := by
  apply List.ext_getElem?
  intro i
  by_cases hi : i < n * Z.size
  · rw [rep_get Z.toList (by simpa using hs) n i (by simpa using hi)]
    have hm : i % Z.size < Z.size := Nat.mod_lt _ hs
    simp [hi, hm]
  · have hl : (List.replicate n Z.toList).flatten.length = n * Z.size := by simp
    rw [List.getElem?_eq_none (by simp; omega), List.getElem?_eq_none (by rw [hl]; omega)]
noncomputable def abuildS (P : Program) (t : TypeId) (len : Nat) (parts : List (Nat × AV)) (σ : H) : Option (AV × H) :=
  ob (P.underlying t) fun d => match d with
    | .slice e => ob (P.info? e) fun ie => bcase (Nat.beq len (nat_lit 0)) (List.rec (mkK (nat_lit 0) .nil e σ fun o σ' => some (.slice o (nat_lit 0) (nat_lit 0) (nat_lit 0), σ')) (fun _ _ _ => none) parts)
        (ob (azero P e) fun z => tst (okCells z) (tst (isLen ie.size (cellsA z)) (tst (Nat.blt (nat_lit 0) ie.size) (tst (Nat.ble (Nat.mul len ie.size) (nat_lit 16777216)) (ob (afill (fun i => some (Nat.mul i ie.size, ie.size)) parts (repA len (cellsA z))) fun l => mkK (Nat.mul len ie.size) l e σ fun o σ' => some (.slice o (nat_lit 0) len len, σ'))))))
    | _ => none
theorem abuildS_some {P : Program} {t : TypeId} {len : Nat} {parts : List (Nat × AV)} {partsC : Array (Nat × Value)} {r : AV} (h : abuildS P t len parts σ = some (r, σ')) (hp : PartsD η L parts partsC.toList) (hR : Rel W0 η L σ w) :
    Did P W0 η L w (do pure (Next.value (← Instr.buildSlice t len partsC))) r σ' := by
  obtain ⟨d, hd, h⟩ := ob_some h
  cases d with
  | slice e =>
    obtain ⟨ie, hie, h⟩ := ob_some h
    rw [bcase_beq] at h
    by_cases h0 : len = 0
    · subst h0
      rw [if_pos rfl] at h
      cases parts with
      | nil =>
        have hpc : partsC.toList = [] := by
          cases hq : partsC.toList with
          | nil => rfl
          | cons p l => rw [hq] at hp; exact hp.elim
        obtain ⟨σ2, h2, hlen, hR2, hb⟩ := mkK_some h DL_nil hR
        cases h2
        refine ⟨_, _, _, hR.ext_le _, hR2, slice_D hb, .inl (run_val' ?_)⟩
        have hs : P.cellsOf e = ie.size := by simp [Program.cellsOf, hie]
        have hr0 : Array.range 0 = #[] := rfl
        simp [Instr.buildSlice, run_underlying hd, run_sizeOf w hie, hs, hpc, Instr.fill, newRow, hr0]
      | cons p l => cases h
    · rw [if_neg h0] at h
      obtain ⟨z, hz, h⟩ := ob_some h
      obtain ⟨hk, h⟩ := tst_some h
      obtain ⟨hl, h⟩ := tst_some h
      obtain ⟨hpos, h⟩ := tst_some h
      obtain ⟨hsm, h⟩ := tst_some h
      obtain ⟨l, hf, h⟩ := ob_some h
      obtain ⟨inf, Z, hinf, hZ, hzD⟩ := azero_some (η := η) (L := L) hz
      have : inf = ie := by rw [hinf] at hie; cases hie; rfl
      subst this
      have hzc := cellsA_some hk hzD
      have hzl : Z.cells.size = inf.size := by simpa using isLen_true hl hzc
      have hpos' := blt_true hpos
      have hrep := repA_DL hzc ⟨_, hl⟩ len
      obtain ⟨R, hfill, hRl, hRs⟩ := afill_some hf hp hrep
      obtain ⟨σ2, h2, hlen, hR2, hb⟩ := mkK_some h hRl hR
      cases h2
      refine ⟨_, _, _, hR.ext_le _, hR2, slice_D hb, .inl (run_val' ?_)⟩
      have hsm' := Nat.le_of_ble_eq_true hsm
      have hsm2 : len * inf.size ≤ 16777216 := hsm'
      have hne : ¬ len * inf.size = 0 := by
        intro e0
        rcases Nat.mul_eq_zero.1 e0 with h | h <;> omega
      have hRe : R.toList.toArray = R := by simp
      rw [hRe]
      refine run_buildSlice w t e len partsC R inf Z hd hie hZ (by omega) hne ?_
      have hrc : (List.replicate len Z.cells.toList).flatten.toArray = (Array.range (len * inf.size)).map (Z.cells[· % Z.cells.size]!) := by
        apply Array.toList_inj.1
        rw [← hzl, rep_cells _ (by omega)]
      rw [hrc] at hfill
      exact hfill
  | _ => cases h
end Go.Proofs.YtcjlhjoobchabaaGreatDoor
