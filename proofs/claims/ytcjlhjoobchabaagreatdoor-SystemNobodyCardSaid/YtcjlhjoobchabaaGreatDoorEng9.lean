/- The engine, 9: structs built; the operations that look at no memory, all. -/
import Derived.Test.YtcjlhjoobchabaaGreatDoorEng8
namespace Go.Proofs.YtcjlhjoobchabaaGreatDoor
open Go.RowKit
set_option linter.unusedVariables false
set_option linter.unusedSimpArgs false
variable {η : Nat → Int} {L L' : LM}

/-! ### Parts laid into cells -/
theorem foldl_lay (off : Nat) : ∀ (vs : List Value) (k : Nat) (C : Array Value), off + k + vs.length ≤ C.size →
    ((vs.zipIdx k).foldl (fun (cs : Array Value) (p : Value × Nat) => cs.setIfInBounds (off + p.2) p.1) C).toList = C.toList.take (off + k) ++ vs ++ C.toList.drop (off + k + vs.length)
  | [], k, C, h => by simp
  | v :: vs, k, C, h => by
    simp only [List.length_cons] at h
    simp only [List.zipIdx_cons, List.foldl_cons]
    rw [foldl_lay off vs (k + 1) _ (by simp; omega)]
    have hl : off + k < C.toList.length := by simp; omega
    simp only [Array.toList_setIfInBounds]
    have e1 : (C.toList.set (off + k) v).take (off + (k + 1)) = C.toList.take (off + k) ++ [v] := by
      rw [show off + (k + 1) = (off + k) + 1 by omega, List.take_add_one, List.take_set_of_le (Nat.le_refl _)]
      rw [List.getElem?_set_self hl]; rfl
    have e2 : (C.toList.set (off + k) v).drop (off + (k + 1) + vs.length) = C.toList.drop (off + k + (v :: vs).length) := by
      rw [List.drop_set_of_lt (by omega)]; congr 1; simp; omega
    rw [e1, e2]; simp
theorem lay_cells (off : Nat) (V : Value) (cs : List Value) (h : off + V.cells.size ≤ cs.length) :
    (V.cells.zipIdx.foldl (fun (cs : Array Value) (p : Value × Nat) => cs.setIfInBounds (off + p.2) p.1) cs.toArray) = (cs.take off ++ V.cells.toList ++ cs.drop (off + V.cells.toList.length)).toArray := by
  have := foldl_lay off V.cells.toList 0 cs.toArray (by simpa using h)
  simp only [Nat.add_zero] at this
  apply Array.toList_inj.1
  rw [← Array.foldl_toList, Array.toList_zipIdx, this]

/-- A value's cells. -/
noncomputable def cellsA (v : AV) : AV := match v with | .agg l => l | v => .cons v .nil
theorem cellsA_DL {v : AV} {V : Value} (hv : D η L v V) : ∀ l, DL η L (cellsA v) l → oneA v = true ∨ (∃ m, v = .agg m) → V.cells.toList = l := by
  rintro l hl (h | ⟨m, rfl⟩)
  · have h1 := oneA_true h hv
    rw [cells_one h1]
    have e : cellsA v = .cons v .nil := by cases v <;> first | rfl | cases h
    rw [e] at hl
    obtain ⟨X, Ws, hX, hn, rfl⟩ := D_cons hl
    rw [DL_nil_inv hn, hX.inj hv]
  · obtain ⟨q, hq, rfl⟩ := D_agg_inv hv
    have : DL η L m l := hl
    have e := hq.symm.trans this
    have e' : q = l := by simpa using e
    subst e'; rfl
noncomputable def okCells (v : AV) : Bool := match v with | .agg _ => true | v => oneA v
theorem okCells_true {v : AV} (h : okCells v = true) : oneA v = true ∨ ∃ m, v = .agg m := by
  cases v <;> first | exact .inr ⟨_, rfl⟩ | exact .inl h
theorem cellsA_some {v : AV} {V : Value} (h : okCells v = true) (hv : D η L v V) : DL η L (cellsA v) V.cells.toList := by
  rcases okCells_true h with h1 | ⟨m, rfl⟩
  · have h2 := oneA_true h1 hv
    rw [cells_one h2]
    have e : cellsA v = .cons v .nil := by cases v <;> first | rfl | cases h1
    rw [e]; exact DL_cons hv DL_nil
  · obtain ⟨q, hq, rfl⟩ := D_agg_inv hv; exact hq

noncomputable def asplice (off size : Nat) (cells vs : AV) : Option AV :=
  takeK off cells fun a => ob (dropN off cells) fun r => ob (dropN size r) fun s => tst (isLen size vs) (some (appA a (appA vs s)))
theorem takeK_len : ∀ {n : Nat} {l : AV} {α : Type} {k : AV → Option α} {r : α}, takeK n l k = some r → ∃ m, isLen n m = true ∧ k m = some r
  | 0, l, α, k, r, h => ⟨.nil, rfl, h⟩
  | n + 1, l, α, k, r, h => by
    obtain ⟨x, t, rfl, e⟩ := uncons_some (h : uncons l none (fun a t => takeK n t fun r => k (.cons a r)) = some r)
    obtain ⟨m, hm, hk⟩ := takeK_len e
    exact ⟨.cons x m, hm, hk⟩
theorem takeK_both : ∀ {n : Nat} {l : AV} {α : Type} {k : AV → Option α} {r : α} {Vs : List Value}, takeK n l k = some r → DL η L l Vs → ∃ m, isLen n m = true ∧ DL η L m (Vs.take n) ∧ n ≤ Vs.length ∧ k m = some r
  | 0, l, α, k, r, Vs, h, hl => ⟨.nil, rfl, DL_nil, Nat.zero_le _, h⟩
  | n + 1, l, α, k, r, Vs, h, hl => by
    obtain ⟨x, t, rfl, e⟩ := uncons_some (h : uncons l none (fun a t => takeK n t fun r => k (.cons a r)) = some r)
    obtain ⟨V, Ws, hV, ht, rfl⟩ := D_cons hl
    obtain ⟨m, hm, hd, hn, hk⟩ := takeK_both e ht
    exact ⟨.cons x m, hm, DL_cons hV hd, by simp; exact hn, hk⟩
theorem asplice_some {off size : Nat} {cells vs r : AV} {Cs Vs : List Value} (h : asplice off size cells vs = some r) (hc : DL η L cells Cs) (hv : DL η L vs Vs) :
    Vs.length = size ∧ off + size ≤ Cs.length ∧ DL η L r (Cs.take off ++ Vs ++ Cs.drop (off + Vs.length)) := by
  obtain ⟨a, ha, hA, hn, h⟩ := takeK_both h hc
  obtain ⟨m, hm, h⟩ := ob_some h
  obtain ⟨s, hs, h⟩ := ob_some h
  obtain ⟨hl, h⟩ := tst_some h
  cases h
  obtain ⟨hm', hk⟩ := dropN_some hm hc
  obtain ⟨hs', hk2⟩ := dropN_some hs hm'
  have hlen := isLen_true hl hv
  simp at hk2
  refine ⟨hlen, by omega, ?_⟩
  have e : Cs.drop (off + Vs.length) = (Cs.drop off).drop size := by rw [List.drop_drop, hlen]
  rw [e, List.append_assoc]
  exact appA_DL hA (appA_DL hv hs' ⟨_, hl⟩) ⟨_, ha⟩

noncomputable def afill (pl : Nat → Option (Nat × Nat)) (parts : List (Nat × AV)) : AV → Option AV :=
  List.rec (fun cells => some cells) (fun p _ ih cells => Prod.rec (fun i v => ob (pl i) fun q => Prod.rec (fun off size => tst (okCells v) (ob (asplice off size cells (cellsA v)) ih)) q) p) parts
def PartsD (η : Nat → Int) (L : LM) : List (Nat × AV) → List (Nat × Value) → Prop
  | [], [] => True
  | (i, v) :: l, (j, V) :: m => i = j ∧ D η L v V ∧ PartsD η L l m
  | _, _ => False
theorem afill_some {pl : Nat → Option (Nat × Nat)} : ∀ {parts : List (Nat × AV)} {partsC : List (Nat × Value)} {cells r : AV} {Cs : List Value}, afill pl parts cells = some r → PartsD η L parts partsC → DL η L cells Cs →
    ∃ R, Instr.fill pl Cs.toArray partsC = some R ∧ DL η L r R.toList ∧ R.size = Cs.length
  | [], [], cells, r, Cs, h, _, hc => by cases h; exact ⟨Cs.toArray, rfl, hc, by simp⟩
  | [], _ :: _, cells, r, Cs, h, hp, hc => hp.elim
  | (i, v) :: l, [], cells, r, Cs, h, hp, hc => hp.elim
  | (i, v) :: l, (j, V) :: m, cells, r, Cs, h, hp, hc => by
    obtain ⟨rfl, hv, hp⟩ := hp
    obtain ⟨⟨off, size⟩, hq, h⟩ := ob_some (h : ob (pl i) (fun q => Prod.rec (fun off size => tst (okCells v) (ob (asplice off size cells (cellsA v)) (afill pl l))) q) = some r)
    obtain ⟨hk, h⟩ := tst_some h
    obtain ⟨c2, h2, h⟩ := ob_some h
    have hvc := cellsA_some hk hv
    obtain ⟨h3, h4, h5⟩ := asplice_some h2 hc hvc
    have hsz : V.cells.size = size := by simpa using h3
    obtain ⟨R, hR, hD, hS⟩ := afill_some h hp h5
    refine ⟨R, ?_, hD, ?_⟩
    · simp only [Instr.fill, hq]
      rw [if_neg (by simp [hsz]; omega)]
      rw [lay_cells off V Cs (by omega)]
      exact hR
    · rw [hS]; simp; omega

noncomputable def aplaces (P : Program) (fs : List Field) : Option (List (Nat × Nat)) :=
  List.rec (some []) (fun f _ ih => ob (P.info? f.type) fun i => ob ih fun r => some ((f.offset, i.size) :: r)) fs
theorem aplaces_some {P : Program} : ∀ {fs : List Field} {r : List (Nat × Nat)}, aplaces P fs = some r → fs.mapM (fun f => (P.info? f.type).map fun i => (f.offset, i.size)) = some r
  | [], r, h => by cases h; rfl
  | f :: fs, r, h => by
    obtain ⟨i, hi, h⟩ := ob_some (h : ob (P.info? f.type) (fun i => ob (aplaces P fs) fun r => some ((f.offset, i.size) :: r)) = some r)
    obtain ⟨q, hq, h⟩ := ob_some h
    cases h
    have := aplaces_some hq
    simp [hi, this]
noncomputable def azero (P : Program) (t : TypeId) : Option AV := ob (P.info? t) fun i => ob i.zero fun z => ofV z
noncomputable def abuild (P : Program) (t : TypeId) (parts : List (Nat × AV)) : Option AV :=
  ob (P.underlying t) fun d => ob (azero P t) fun z => tst (okCells z) (match d with
    | .struct fs => ob (aplaces P fs.toList) fun pl => ob (afill (fun i => lget pl i) parts (cellsA z)) fun r => some (.agg r)
    | .array _ e => ob (P.info? e) fun ie => ob (afill (fun i => some (Nat.mul i ie.size, ie.size)) parts (cellsA z)) fun r => some (.agg r)
    | _ => none)
theorem azero_some {P : Program} {t : TypeId} {z : AV} (h : azero P t = some z) : ∃ i Z, P.info? t = some i ∧ i.zero = some Z ∧ D η L z Z := by
  obtain ⟨i, hi, h⟩ := ob_some h
  obtain ⟨Z, hZ, h⟩ := ob_some h
  exact ⟨i, Z, hi, hZ, ofV_den h⟩
theorem abuild_some {P : Program} {t : TypeId} {parts : List (Nat × AV)} {partsC : List (Nat × Value)} {r : AV} (h : abuild P t parts = some r) (hp : PartsD η L parts partsC) : ∃ R, D η L r (.agg R) ∧ P.built t partsC = some R := by
  obtain ⟨d, hd, h⟩ := ob_some h
  obtain ⟨z, hz, h⟩ := ob_some h
  obtain ⟨i, Z, hi, hZ, hzD⟩ := azero_some (η := η) (L := L) hz
  obtain ⟨hk, h⟩ := tst_some h
  have hcell := cellsA_some hk hzD
  cases d with
  | array n e =>
    obtain ⟨ie, hie, h⟩ := ob_some h
    obtain ⟨c, hc, h⟩ := ob_some h
    cases h
    obtain ⟨R, hR, hD, _⟩ := afill_some hc hp hcell
    refine ⟨R, by have := D_agg hD; simpa using this, ?_⟩
    simp only [Program.built, hi, hd, hZ, hie]
    simpa using hR
  | struct fs =>
    obtain ⟨pl, hpl, h⟩ := ob_some h
    obtain ⟨c, hc, h⟩ := ob_some h
    cases h
    obtain ⟨R, hR, hD, _⟩ := afill_some hc hp hcell
    refine ⟨R, by have := D_agg hD; simpa using this, ?_⟩
    simp only [Program.built, hi, hd, hZ, aplaces_some hpl]
    have e : (fun i => lget pl i) = (fun i => pl.toArray[i]?) := by funext i; rw [lget_eq]; simp
    rw [e] at hR
    simpa using hR
  | _ => cases h
end Go.Proofs.YtcjlhjoobchabaaGreatDoor
