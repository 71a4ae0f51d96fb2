/- The engine, 8: addresses, parts, slices, structs built. -/
import Derived.Test.YtcjlhjoobchabaaGreatDoorEng7
import Derived.Laws.Tables
namespace Go.Proofs.YtcjlhjoobchabaaGreatDoor
open Go.RowKit
set_option linter.unusedVariables false
set_option linter.unusedSimpArgs false
variable {η : Nat → Int} {L L' : LM}

theorem add_addr (b off n : Nat) : (⟨b, off, none⟩ : Addr).add n = ⟨b, off + n, none⟩ := by
  unfold Addr.add; split
  · subst_vars; rfl
  · rfl
noncomputable def shiftA (a : AV) (n : Nat) : Option AV := match a with | .ptr o off => some (.ptr o (Nat.add off n)) | .gptr g off => some (.gptr g (Nat.add off n)) | _ => none
theorem shiftA_some {a r : AV} {n : Nat} {V : Value} (h : shiftA a n = some r) (ha : D η L a V) : ∃ b off, V = .pointer (some ⟨b, off, none⟩) ∧ D η L r (.pointer (some ⟨b, off + n, none⟩)) := by
  cases a <;> simp only [shiftA] at h <;> cases h
  · obtain ⟨b, hb, rfl⟩ := D_ptr ha
    exact ⟨b, _, rfl, by show ptrOf L[_]? _ = _; rw [hb]; rfl⟩
  · cases ha; exact ⟨_, _, rfl, rfl⟩
noncomputable def structD (d : TypeDesc) : Option (List Field) := match d with | .struct fs => some fs.toList | _ => none
theorem structD_some {d : TypeDesc} {fs : List Field} (h : structD d = some fs) : ∃ a : Array Field, d = .struct a ∧ a.toList = fs := by
  cases d <;> simp only [structD] at h <;> cases h
  exact ⟨_, rfl, rfl⟩
/-- &x.f -/
noncomputable def afieldA (P : Program) (s : TypeId) (a : AV) (i : Nat) : Option AV :=
  ob (P.underlying s) fun d => ob (structD d) fun fs => ob (lget fs i) fun f => ob (P.info? f.type) fun inf => bcase (Nat.beq inf.size (nat_lit 0)) none (shiftA a f.offset)
theorem afieldA_some {P : Program} {s : TypeId} {a r : AV} {i : Nat} {V : Value} (h : afieldA P s a i = some r) (ha : D η L a V) : ∃ R, D η L r R ∧ ∀ w, (Instr.fieldAt s V i).run P w = .ok R w := by
  obtain ⟨d, hd, h⟩ := ob_some h
  obtain ⟨fs, hfs, h⟩ := ob_some h
  obtain ⟨arr, rfl, rfl⟩ := structD_some hfs
  obtain ⟨f, hf, h⟩ := ob_some h
  obtain ⟨inf, hinf, h⟩ := ob_some h
  rw [lget_eq] at hf
  cases hb : Nat.beq inf.size 0
  · rw [hb, bcase_false] at h
    obtain ⟨b, off, rfl, hD⟩ := shiftA_some h ha
    refine ⟨_, hD, fun w => ?_⟩
    have hs : P.cellsOf f.type = inf.size := by simp [Program.cellsOf, hinf]
    have h0 : ¬ inf.size = 0 := fun e => by rw [e] at hb; cases hb
    have hf' : arr[i]? = some f := by simpa using hf
    simp [Instr.fieldAt, run_underlying hd, hf', Instr.sureAddr, fieldPlace, run_sizeOf w hinf, hs, h0, add_addr]
  · rw [hb] at h; cases h
/-- x.f -/
noncomputable def afield (P : Program) (s : TypeId) (a : AV) (i : Nat) : Option AV :=
  ob (P.underlying s) fun d => ob (structD d) fun fs => ob (lget fs i) fun f => match a with | .agg l => apart P f.type l f.offset | _ => none
theorem afield_some {P : Program} {s : TypeId} {a r : AV} {i : Nat} {V : Value} (h : afield P s a i = some r) (ha : D η L a V) : ∃ R, D η L r R ∧ ∀ w, (Instr.field s V i).run P w = .ok R w := by
  obtain ⟨d, hd, h⟩ := ob_some h
  obtain ⟨fs, hfs, h⟩ := ob_some h
  obtain ⟨arr, rfl, rfl⟩ := structD_some hfs
  obtain ⟨f, hf, h⟩ := ob_some h
  rw [lget_eq] at hf
  have hf' : arr[i]? = some f := by simpa using hf
  cases a <;> simp only at h <;> try (cases h; done)
  obtain ⟨l, hl, rfl⟩ := D_agg_inv ha
  obtain ⟨R, hR, hr⟩ := apart_some h hl
  exact ⟨R, hR, fun w => by simp [Instr.field, run_underlying hd, hf', asAgg, hr w]⟩

noncomputable def natA (i : AV) : Option Nat := match i with | .int _ n => Int.rec (fun m => some m) (fun _ => none) n | _ => none
theorem natA_some {i : AV} {n : Nat} {V : Value} (h : natA i = some n) (hi : D η L i V) : ∃ k, V = .int k (n : Int) := by
  cases i <;> simp only [natA] at h <;> try (cases h; done)
  rename_i k m
  cases m <;> cases h
  cases hi; exact ⟨k, rfl⟩
/-- &x[i] -/
noncomputable def aindexA (P : Program) (t : TypeId) (x i : AV) : Option AV :=
  ob (natA i) fun n => ob (P.underlying t) fun d => match d with
    | .slice e => (match x with
      | .slice o off len cap => tst (Nat.blt n len) (ob (P.info? e) fun inf => some (.ptr o (Nat.add off (Nat.mul n inf.size))))
      | .vslice o off len cv k => tst (Nat.blt n len) (ob (P.info? e) fun inf => some (.ptr o (Nat.add off (Nat.mul n inf.size))))
      | _ => none)
    | .array len e => tst (Nat.blt n len) (ob (P.info? e) fun inf => shiftA x (Nat.mul n inf.size))
    | _ => none
theorem aindexA_some {P : Program} {t : TypeId} {x i r : AV} {X I : Value} (h : aindexA P t x i = some r) (hx : D η L x X) (hi : D η L i I) : ∃ R, D η L r R ∧ ∀ w, (Instr.indexAt t X I).run P w = .ok R w := by
  obtain ⟨n, hn, h⟩ := ob_some h
  obtain ⟨k, rfl⟩ := natA_some hn hi
  obtain ⟨d, hd, h⟩ := ob_some h
  cases d <;> simp only at h <;> try (cases h; done)
  case slice e =>
    have hp : P.underlying t = some (.slice (P.elem t)) := by rw [hd]; simp [Program.elem, hd]
    have he : P.elem t = e := by simp [Program.elem, hd]
    cases x <;> simp only at h <;> try (cases h; done)
    · obtain ⟨hlt, h⟩ := tst_some h
      obtain ⟨inf, hinf, h⟩ := ob_some h
      cases h
      obtain ⟨b, hb, rfl⟩ := D_slice hx
      have := blt_true hlt
      refine ⟨.pointer (some ⟨b, _, none⟩), by show ptrOf L[_]? _ = _; rw [hb]; rfl, fun w => ?_⟩
      rw [run_indexAt_slice w t _ _ _ k _ hp, if_pos (by omega), he, run_sizeOf w hinf, show P.cellsOf e = inf.size by simp [Program.cellsOf, hinf]]
      simp [Result.andThen, add_addr]
    · obtain ⟨hlt, h⟩ := tst_some h
      obtain ⟨inf, hinf, h⟩ := ob_some h
      cases h
      obtain ⟨b, c, hb, hc, hle, rfl⟩ := D_vslice hx
      have := blt_true hlt
      refine ⟨.pointer (some ⟨b, _, none⟩), by show ptrOf L[_]? _ = _; rw [hb]; rfl, fun w => ?_⟩
      rw [run_indexAt_slice w t _ _ _ k _ hp, if_pos (by omega), he, run_sizeOf w hinf, show P.cellsOf e = inf.size by simp [Program.cellsOf, hinf]]
      simp [Result.andThen, add_addr]
  case array len e =>
    have hp : P.underlying t = some (.array (P.arrayLen t) (P.elem t)) := by rw [hd]; simp [Program.arrayLen, Program.elem, hd]
    have he : P.elem t = e := by simp [Program.elem, hd]
    have hl : P.arrayLen t = len := by simp [Program.arrayLen, hd]
    obtain ⟨hlt, h⟩ := tst_some h
    obtain ⟨inf, hinf, h⟩ := ob_some h
    obtain ⟨b, off, rfl, hD⟩ := shiftA_some h hx
    have := blt_true hlt
    refine ⟨_, hD, fun w => ?_⟩
    rw [run_indexAt_array w t _ k _ hp, if_pos (by omega), he, run_sizeOf w hinf, show P.cellsOf e = inf.size by simp [Program.cellsOf, hinf]]
    simp [Result.andThen, add_addr]
/-- x[i] of an array or a string -/
noncomputable def aindex (P : Program) (t : TypeId) (x i : AV) : Option AV :=
  ob (natA i) fun n => ob (P.underlying t) fun d => match d with
    | .array len e => (match x with | .agg l => tst (Nat.blt n len) (ob (P.info? e) fun inf => apart P e l (Nat.mul n inf.size)) | _ => none)
    | .string => (match x with | .str s => ob (lget s.data.toList n) fun b => some (.int .u8 (Int.ofNat b.toNat)) | _ => none)
    | _ => none
theorem aindex_some {P : Program} {t : TypeId} {x i r : AV} {X I : Value} (h : aindex P t x i = some r) (hx : D η L x X) (hi : D η L i I) : ∃ R, D η L r R ∧ ∀ w, (Instr.index t X I).run P w = .ok R w := by
  obtain ⟨n, hn, h⟩ := ob_some h
  obtain ⟨k, rfl⟩ := natA_some hn hi
  obtain ⟨d, hd, h⟩ := ob_some h
  cases d <;> simp only at h <;> try (cases h; done)
  case array len e =>
    cases x <;> simp only at h <;> try (cases h; done)
    obtain ⟨hlt, h⟩ := tst_some h
    obtain ⟨inf, hinf, h⟩ := ob_some h
    obtain ⟨l, hl, rfl⟩ := D_agg_inv hx
    obtain ⟨R, hR, hr⟩ := apart_some h hl
    have := blt_true hlt
    refine ⟨R, hR, fun w => ?_⟩
    have hr' := hr w
    have e1 : Nat.mul n inf.size = n * inf.size := rfl
    rw [e1] at hr'
    simp [Instr.index, asIntOf, run_underlying hd, this, run_sizeOf w hinf, show P.cellsOf e = inf.size by simp [Program.cellsOf, hinf], hr']
  case string =>
    cases x with
    | str s =>
      obtain ⟨b, hb, h⟩ := ob_some h
      cases h
      cases hx
      rw [lget_eq] at hb
      obtain ⟨hlt, hb⟩ := List.getElem?_eq_some_iff.1 hb
      have hs : n < s.size := by
        have e : s.data.toList.length = s.size := Array.length_toList
        omega
      refine ⟨_, rfl, fun w => ?_⟩
      rw [run_index_string w t s k _ hd, dif_pos (by omega)]
      have : s[n] = b := by rw [← hb]; rfl
      simp [this]
    | _ => cases h
theorem extract_some {l r : AV} {i : Nat} {V : Value} {P : Program} (h : nth l i = some r) (hl : D η L (.tuple l) V) : ∃ R, D η L r R ∧ ∀ w, (Instr.extract V i).run P w = .ok R w := by
  obtain ⟨Vs, hV, rfl⟩ := D_tuple_inv hl
  obtain ⟨R, hR, hn⟩ := nth_some h hV
  exact ⟨R, hR, fun w => by simp [Instr.extract, hn]⟩

/-! ### Slicing -/
def OptD (η : Nat → Int) (L : LM) (x : Option AV) (X : Option Value) : Prop := match x, X with | none, none => True | some v, some V => D η L v V | _, _ => False
noncomputable def optNat (x : Option AV) (d : Nat) : Option Nat := Option.rec (some d) (fun v => natA v) x
theorem bound_some {x : Option AV} {X : Option Value} {d n : Nat} (h : optNat x d = some n) (hx : OptD η L x X) :
    (x = none ∧ X = none ∧ n = d) ∨ ∃ k, X = some (.int k (n : Int)) := by
  cases x <;> cases X <;> simp only [OptD] at hx
  · cases h; exact .inl ⟨rfl, rfl, rfl⟩
  · obtain ⟨k, rfl⟩ := natA_some h hx; exact .inr ⟨k, rfl⟩
theorem sliceBounds_run {P : Program} {isS : Bool} {len cap l h : Nat} {lo hi : Option AV} {LO HI : Option Value} (hlo : optNat lo 0 = some l) (hhi : optNat hi len = some h) (h1 : l ≤ h) (h2 : h ≤ cap)
    (dl : OptD η L lo LO) (dh : OptD η L hi HI) (w : World) :
    (Instr.sliceBounds isS len cap LO HI none).run P w = .ok (l, h, cap) w := by
  rcases bound_some hlo dl with ⟨-, rfl, rfl⟩ | ⟨kl, rfl⟩ <;> rcases bound_some hhi dh with ⟨-, rfl, rfl⟩ | ⟨kh, rfl⟩ <;>
    simp [Instr.sliceBounds, Instr.sliceBound, asIntOf, h1, h2]
/-- What a part of a slice is; its end is where elements are. -/
noncomputable def asliced (x : AV) (l h size : Nat) : Option AV := match x with
  | .slice o off len cap => some (.slice o (bcase (Nat.beq cap l) off (Nat.add off (Nat.mul l size))) (Nat.sub h l) (Nat.sub cap l))
  | .vslice o off len cv k => bcase (Nat.beq l (nat_lit 0)) (some (.vslice o off h cv k)) (tst (Nat.blt l len) (some (.vslice o (Nat.add off (Nat.mul l size)) (Nat.sub h l) cv (Nat.add k l))))
  | _ => none
noncomputable def aslice (P : Program) (t : TypeId) (x : AV) (lo hi : Option AV) : Option AV :=
  ob (P.underlying t) fun d => match d with
    | .slice e => (match x with
      | .slice o off len cap => ob (optNat lo (nat_lit 0)) fun l => ob (optNat hi len) fun h => tst (Nat.ble l h) (tst (Nat.ble h len) (tst (Nat.ble len cap) (ob (P.info? e) fun inf => asliced x l h inf.size)))
      | .vslice o off len cv k => ob (optNat lo (nat_lit 0)) fun l => ob (optNat hi len) fun h => tst (Nat.ble l h) (tst (Nat.ble h len) (ob (P.info? e) fun inf => asliced x l h inf.size))
      | .nslice => ob (optNat lo (nat_lit 0)) fun l => ob (optNat hi (nat_lit 0)) fun h => tst (Nat.beq l (nat_lit 0)) (tst (Nat.beq h (nat_lit 0)) (ob (P.info? e) fun inf => some .nslice))
      | _ => none)
    | .array n e => ob (optNat lo (nat_lit 0)) fun l => ob (optNat hi n) fun h => tst (Nat.ble l h) (tst (Nat.ble h n) (ob (P.info? e) fun inf => match x with
      | .ptr o off => some (.slice o (bcase (Nat.beq n l) off (Nat.add off (Nat.mul l inf.size))) (Nat.sub h l) (Nat.sub n l))
      | _ => none))
    | _ => none
theorem slice_D {o b off len cap : Nat} (hb : L[o]? = some b) : D η L (.slice o off len cap) (.slice (some ⟨b, off, none⟩) len cap) := by
  show sliceOf L[o]? off len (some cap) = _; rw [hb]; rfl
theorem vslice_D {o b off len cv c k : Nat} (hb : L[o]? = some b) (hc : L[cv]? = some c) (hle : len ≤ c - k) : D η L (.vslice o off len cv k) (.slice (some ⟨b, off, none⟩) len (c - k)) := by
  show vsliceOf L[o]? off len k L[cv]? = _; rw [hb, hc]; simp [vsliceOf, hle]
theorem bcase_beq {β : Type} (a b : Nat) (x y : β) : bcase (Nat.beq a b) x y = if a = b then x else y := by
  rw [T.beq_eq]; by_cases h : a = b <;> simp [h, bcase]
theorem run_slice_slice {P : Program} {t e : TypeId} {inf : TypeInfo} {a : Option Addr} {len cap l h : Nat} {LO HI : Option Value} (hd : P.underlying t = some (.slice e)) (hi : P.info? e = some inf) {w : World}
    (hb : (Instr.sliceBounds true len cap LO HI none).run P w = .ok (l, h, cap) w) :
    (Instr.sliceAt t (.slice a len cap) LO HI none).run P w = .ok (.slice (if cap = l then a else a.map (·.add (l * inf.size))) (h - l) (cap - l)) w := by
  have hs : P.cellsOf e = inf.size := by simp [Program.cellsOf, hi]
  simp [Instr.sliceAt, Instr.slice, run_underlying hd, hb, run_sizeOf w hi, hs]
theorem aslice_some {P : Program} {t : TypeId} {x r : AV} {lo hi : Option AV} {X : Value} {LO HI : Option Value} (h : aslice P t x lo hi = some r) (hx : D η L x X)
    (dl : OptD η L lo LO) (dh : OptD η L hi HI) :
    ∃ R, D η L r R ∧ ∀ w, (Instr.sliceAt t X LO HI none).run P w = .ok R w := by
  obtain ⟨d, hd, h⟩ := ob_some h
  cases d <;> simp only at h <;> try (cases h; done)
  case slice e =>
    cases x with
    | nslice =>
      obtain ⟨l, hl, h⟩ := ob_some h
      obtain ⟨q, hq, h⟩ := ob_some h
      obtain ⟨h1, h⟩ := tst_some h
      obtain ⟨h2, h⟩ := tst_some h
      obtain ⟨inf, hinf, h⟩ := ob_some h
      cases h
      have e1 := Nat.eq_of_beq_eq_true h1; subst e1
      have e2 := Nat.eq_of_beq_eq_true h2; subst e2
      cases hx
      exact ⟨_, rfl, fun w => by rw [run_slice_slice hd hinf (sliceBounds_run hl hq (Nat.le_refl _) (Nat.le_refl _) dl dh w)]; rfl⟩
    | slice o off len cap =>
      obtain ⟨l, hl, h⟩ := ob_some h
      obtain ⟨q, hq, h⟩ := ob_some h
      obtain ⟨h1, h⟩ := tst_some h
      obtain ⟨h2, h⟩ := tst_some h
      obtain ⟨h3, h⟩ := tst_some h
      obtain ⟨inf, hinf, h⟩ := ob_some h
      cases h
      have e1 := Nat.le_of_ble_eq_true h1
      have e2 := Nat.le_of_ble_eq_true h2
      have e3 := Nat.le_of_ble_eq_true h3
      obtain ⟨b, hb, rfl⟩ := D_slice hx
      refine ⟨_, slice_D hb, fun w => ?_⟩
      rw [run_slice_slice hd hinf (sliceBounds_run hl hq e1 (by omega) dl dh w)]
      rw [bcase_beq]
      by_cases e : cap = l
      · rw [if_pos e, if_pos e]; rfl
      · rw [if_neg e, if_neg e]; simp [add_addr]
    | vslice o off len cv k =>
      obtain ⟨l, hl, h⟩ := ob_some h
      obtain ⟨q, hq, h⟩ := ob_some h
      obtain ⟨h1, h⟩ := tst_some h
      obtain ⟨h2, h⟩ := tst_some h
      obtain ⟨inf, hinf, h⟩ := ob_some h
      have e1 := Nat.le_of_ble_eq_true h1
      have e2 := Nat.le_of_ble_eq_true h2
      obtain ⟨b, c, hb, hc, hle, rfl⟩ := D_vslice hx
      unfold asliced at h
      simp only [bcase_beq] at h
      by_cases e : l = 0
      · subst e
        rw [if_pos rfl] at h; cases h
        refine ⟨_, vslice_D hb hc (by omega), fun w => ?_⟩
        rw [run_slice_slice hd hinf (sliceBounds_run hl hq e1 (by omega) dl dh w)]
        split <;> simp [add_addr]
      · rw [if_neg e] at h
        obtain ⟨h3, h⟩ := tst_some h
        have e3 := blt_true h3
        cases h
        refine ⟨_, vslice_D (k := k + l) hb hc (show q - l ≤ c - (k + l) by omega), fun w => ?_⟩
        rw [run_slice_slice hd hinf (sliceBounds_run hl hq e1 (by omega) dl dh w), if_neg (by omega)]
        simp [add_addr, Nat.sub_sub]
    | _ => cases h
  case array n e =>
    obtain ⟨l, hl, h⟩ := ob_some h
    obtain ⟨q, hq, h⟩ := ob_some h
    obtain ⟨h1, h⟩ := tst_some h
    obtain ⟨h2, h⟩ := tst_some h
    obtain ⟨inf, hinf, h⟩ := ob_some h
    have e1 := Nat.le_of_ble_eq_true h1
    have e2 := Nat.le_of_ble_eq_true h2
    cases x <;> simp only at h <;> cases h
    obtain ⟨b, hb, rfl⟩ := D_ptr hx
    refine ⟨_, slice_D hb, fun w => ?_⟩
    have hs : P.cellsOf e = inf.size := by simp [Program.cellsOf, hinf]
    simp only [Instr.sliceAt, Sem.run_bind, run_underlying hd, Result.andThen_ok, Instr.sureAddr, Sem.run_pure, sliceBounds_run hl hq e1 e2 dl dh w, run_sizeOf w hinf, hs]
    rw [bcase_beq]
    by_cases e : n = l
    · rw [if_pos e, if_pos e]; rfl
    · rw [if_neg e, if_neg e, add_addr]; rfl
end Go.Proofs.YtcjlhjoobchabaaGreatDoor
