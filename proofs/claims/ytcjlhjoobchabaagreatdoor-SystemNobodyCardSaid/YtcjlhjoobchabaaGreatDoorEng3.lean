/- The engine, 3: lists of values; objects; how an abstract heap lies in a world. No program. -/
import Derived.Test.YtcjlhjoobchabaaGreatDoorEng2
import Derived.Test.YtcjlhjoobchabaaGreatDoorFr
namespace Go.Proofs.YtcjlhjoobchabaaGreatDoor
open Go.RowKit
set_option linter.unusedVariables false
variable {η : Nat → Int} {L L' : LM} {β : Type}

/-! ### Lists of values -/
noncomputable def uncons (l : AV) (d : β) (k : AV → AV → β) : β := match l with | .cons a t => k a t | _ => d
noncomputable def nth (l : AV) (n : Nat) : Option AV := Nat.rec (motive := fun _ => AV → Option AV) (fun l => uncons l none fun a _ => some a) (fun _ ih l => uncons l none fun _ t => ih t) n l
noncomputable def dropN (n : Nat) (l : AV) : Option AV := Nat.rec (motive := fun _ => AV → Option AV) (fun l => some l) (fun _ ih l => uncons l none fun _ t => ih t) n l
/-- Exactly the first n. -/
noncomputable def takeK (n : Nat) (l : AV) (k : AV → Option β) : Option β :=
  Nat.rec (motive := fun _ => AV → (AV → Option β) → Option β) (fun _ k => k .nil) (fun _ ih l k => uncons l none fun a t => ih t fun r => k (.cons a r)) n l k
noncomputable def isNil (l : AV) : Bool := match l with | .nil => true | _ => false
noncomputable def isLen (n : Nat) (l : AV) : Bool := Option.rec false (fun r => isNil r) (dropN n l)
/-- One behind the other. -/
noncomputable def appA (l m : AV) : AV := match l with | .cons a t => .cons a (appA t m) | _ => m

theorem uncons_some {l : AV} {α : Type} {k : AV → AV → Option α} {r : α} (h : uncons l none k = some r) : ∃ a t, l = .cons a t ∧ k a t = some r := by
  cases l <;> simp [uncons] at h
  exact ⟨_, _, rfl, h⟩
theorem nth_some : ∀ {n : Nat} {l a : AV} {Vs : List Value}, nth l n = some a → DL η L l Vs → ∃ V, D η L a V ∧ Vs[n]? = some V
  | 0, l, a, Vs, h, hl => by
    obtain ⟨x, t, rfl, e⟩ := uncons_some (h : uncons l none (fun a _ => some a) = some a)
    cases e
    obtain ⟨V, Ws, hV, _, rfl⟩ := D_cons hl
    exact ⟨V, hV, rfl⟩
  | n + 1, l, a, Vs, h, hl => by
    obtain ⟨x, t, rfl, e⟩ := uncons_some (h : uncons l none (fun _ t => nth t n) = some a)
    obtain ⟨V, Ws, hV, ht, rfl⟩ := D_cons hl
    exact nth_some (n := n) e ht
theorem dropN_some : ∀ {n : Nat} {l m : AV} {Vs : List Value}, dropN n l = some m → DL η L l Vs → DL η L m (Vs.drop n) ∧ n ≤ Vs.length
  | 0, l, a, Vs, h, hl => by cases h; exact ⟨hl, Nat.zero_le _⟩
  | n + 1, l, a, Vs, h, hl => by
    obtain ⟨x, t, rfl, e⟩ := uncons_some (h : uncons l none (fun _ t => dropN n t) = some a)
    obtain ⟨V, Ws, hV, ht, rfl⟩ := D_cons hl
    have := dropN_some e ht
    exact ⟨this.1, by simp; exact this.2⟩
theorem takeK_some : ∀ {n : Nat} {l : AV} {α : Type} {k : AV → Option α} {r : α} {Vs : List Value}, takeK n l k = some r → DL η L l Vs → ∃ m, DL η L m (Vs.take n) ∧ n ≤ Vs.length ∧ k m = some r
  | 0, l, α, k, r, Vs, h, hl => ⟨.nil, DL_nil, Nat.zero_le _, h⟩
  | n + 1, l, α, k, r, Vs, h, hl => by
    obtain ⟨x, t, rfl, e⟩ := uncons_some (h : uncons l none (fun a t => takeK n t fun r => k (.cons a r)) = some r)
    obtain ⟨V, Ws, hV, ht, rfl⟩ := D_cons hl
    obtain ⟨m, hm, hn, hk⟩ := takeK_some e ht
    exact ⟨_, DL_cons hV hm, by simp; exact hn, hk⟩
theorem isNil_true {l : AV} (h : isNil l = true) : l = .nil := by
  cases l <;> simp [isNil] at h
  rfl
theorem isLen_true {n : Nat} {l : AV} {Vs : List Value} (h : isLen n l = true) (hl : DL η L l Vs) : Vs.length = n := by
  unfold isLen at h
  cases hd : dropN n l with
  | none => rw [hd] at h; cases h
  | some m =>
    rw [hd] at h
    have hm := isNil_true h
    subst hm
    obtain ⟨h1, h2⟩ := dropN_some hd hl
    have := DL_nil_inv h1
    have e : (Vs.drop n).length = 0 := by rw [this]; rfl
    simp at e; omega
theorem appA_DL : ∀ {l m : AV} {Vs Ws : List Value}, DL η L l Vs → DL η L m Ws → (∃ n, isLen n l = true) → DL η L (appA l m) (Vs ++ Ws) := by
  intro l
  induction l with
  | cons a t _ ih =>
    intro m Vs Ws h k ⟨n, hn⟩
    obtain ⟨V, Xs, hV, ht, rfl⟩ := D_cons h
    simp only [appA, List.cons_append]
    refine DL_cons hV (ih ht k ?_)
    cases n with
    | zero => simp [isLen, dropN, isNil] at hn
    | succ n => exact ⟨n, hn⟩
  | nil => intro m Vs Ws h k _; rw [DL_nil_inv h]; exact k
  | _ => rintro m Vs Ws h k ⟨n, hn⟩; cases n <;> simp [isLen, dropN, isNil, uncons] at hn

/-- A value of one cell. -/
noncomputable def oneA (v : AV) : Bool := match v with | .nil | .cons .. | .agg _ | .tuple _ => false | _ => true
theorem oneA_true {v : AV} {V : Value} (h : oneA v = true) (hv : D η L v V) : V.oneCell' = true := by
  unfold D at hv
  cases v <;> simp [oneA] at h <;> simp only [den] at hv
  case ptr => obtain ⟨b, _, e⟩ := ptrOf_some hv; cases e; rfl
  case slice => obtain ⟨b, k, _, _, e⟩ := sliceOf_some hv; cases e; rfl
  case vslice => obtain ⟨b, k, _, _, _, e⟩ := vsliceOf_some hv; cases e; rfl
  case eslice => obtain ⟨b, off, k, _, _, _, e⟩ := esliceOf_some hv; cases e; rfl
  case map o => cases ho : L[o]? <;> simp [ho] at hv; subst hv; rfl
  case yieldf o => cases ho : L[o]? <;> simp [ho] at hv; subst hv; rfl
  case func => obtain ⟨x, y, _, _, e⟩ := funcOf_some hv; cases e; rfl
  case iface => obtain ⟨x, _, e⟩ := ifaceOf_some hv; cases e; rfl
  all_goals (simp at hv; subst hv; rfl)
theorem cells_one {V : Value} (h : V.oneCell' = true) : V.cells = #[V] := by
  cases V <;> first | rfl | cases h

/-- A tree's cell, or what lies where nothing was laid. -/
noncomputable def oget {α : Type} (x : Option α) (d : α) : α := Option.rec d (fun a => a) x
theorem oget_eq {α : Type} (x : Option α) (d : α) : oget x d = x.getD d := by cases x <;> rfl

/-! ### Objects -/
/-- 'cells c d n cap t': its first n cells are known: c's, or d; none: there are no more; some (v, sz): as many as sz times the v-th number. 'map es': key, value, key, value .. 'iter': a string that is ranged over. -/
inductive AObj where
  | cells (c : T AV) (d : AV) (n : Nat) (cap : Option (Nat × Nat)) (t : TypeId)
  | map (es : AV)
  | iter (s : ByteArray) (pos : Nat)
  | loop (ts : T AV) (n : Nat) (ps : Array Nat) (asg body : Code) (st : LoopState) (pe : Option Code)
  | marks
def capOk (L : LM) (n size : Nat) : Option (Nat × Nat) → Prop
  | none => size = n
  | some (v, sz) => ∃ q, L[v]? = some q ∧ size = q * sz
theorem capOk.mono {L L' : LM} {n size : Nat} {cap : Option (Nat × Nat)} (h : capOk L n size cap) (hL : LM.Le L L') : capOk L' n size cap := by
  cases cap with
  | none => exact h
  | some p => obtain ⟨q, hq, e⟩ := h; exact ⟨q, get_prefix hL hq, e⟩

def flatE (l : List MapEntry) : List Value := l.flatMap fun e => [e.key, e.val]

def ObjAt (η : Nat → Int) (L : LM) (w : World) (b : Nat) : AObj → Prop
  | .cells c d n cap t => ∃ C : Array Value, w.heap[b]? = some (.cells C t (0, 0)) ∧ n ≤ C.size ∧ capOk L n C.size cap ∧
      ∀ i, i < n → ∃ V, D η L ((c.get i).getD d) V ∧ C[i]? = some V ∧ V.oneCell' = true
  | .map es => ∃ (ents : Array MapEntry) (clock : Nat), w.heap[b]? = some (.map ents clock) ∧ DL η L es (flatE ents.toList)
  | .iter s pos => w.heap[b]? = some (.stringIter s pos)
  | .loop ts n ps asg body st pe => ∃ (fn : FuncId) (tm : Array Value) (ds : Nat), w.heap[b]? = some (.loop { state := st, pending := pe, fn, tmps := tm, params := ps, assign := asg, body, defers := ds }) ∧ tm.size = n ∧ ∀ t, D η L (oget (ts.get t) undefA) (tm.getD t undef)
  | .marks => w.heap[b]? = some (.deferred (some []))

theorem ObjAt.keep {w w' : World} {b : Nat} {x : AObj} (h : ObjAt η L w b x) (hL : LM.Le L L') (hw : w'.heap[b]? = w.heap[b]?) : ObjAt η L' w' b x := by
  cases x with
  | cells c d n ex t =>
    obtain ⟨C, h1, h2, h3, h4⟩ := h
    exact ⟨C, hw.trans h1, h2, h3.mono hL, fun i hi => let ⟨V, hV, hr⟩ := h4 i hi; ⟨V, hV.mono hL, hr⟩⟩
  | map es =>
    obtain ⟨ents, clock, h1, h2⟩ := h
    exact ⟨ents, clock, hw.trans h1, h2.mono hL⟩
  | iter s pos => exact hw.trans h
  | loop ts n ps asg body st pe =>
    obtain ⟨fn, tm, ds, h1, h2, h3⟩ := h
    exact ⟨fn, tm, ds, hw.trans h1, h2, fun t => (h3 t).mono hL⟩
  | marks => exact hw.trans h
theorem ObjAt.lt {w : World} {b : Nat} {x : AObj} (h : ObjAt η L w b x) : b < w.heap.size := by
  cases x with
  | cells c d n ex t => obtain ⟨C, h1, _⟩ := h; exact lt_of_heap h1
  | map es => obtain ⟨_, _, h1, _⟩ := h; exact lt_of_heap h1
  | iter s pos => exact lt_of_heap (h : w.heap[b]? = some (.stringIter s pos))
  | loop ts n ps asg body st pe => obtain ⟨_, _, _, h1, _⟩ := h; exact lt_of_heap h1
  | marks => exact lt_of_heap (h : w.heap[b]? = some (.deferred (some [])))

/-- The call's own objects. -/
structure H where
  h : T AObj
  nx : Nat

/-- What a call is run in: the world's outside; blocks that stay as they are; numbers not to be used. -/
structure Base where
  W : World
  fz : Nat → Option Obj
  rs : Nat → Prop
def Base.Held (B : Base) (w : World) : Prop := ∀ k x, B.fz k = some x → w.heap[k]? = some x
structure Rel (W0 : Base) (η : Nat → Int) (L : LM) (σ : H) (w : World) : Prop where
  os : w.os = W0.W.os
  tape : w.tape = W0.W.tape
  output : w.output = W0.W.output
  held : W0.Held w
  free : ∀ o : Nat, σ.nx ≤ o → L[o]? = none
  rsv : ∀ o, W0.rs o → o < σ.nx ∧ L[o]? = none
  obj : ∀ o x, σ.h.get o = some x → ∃ b, L[o]? = some b ∧ W0.fz b = none ∧ ObjAt η L w b x
  inj : ∀ (o o' : Nat) x x' b, σ.h.get o = some x → σ.h.get o' = some x' → L[o]? = some b → L[o']? = some b → o = o'

variable {W0 : Base} {σ : H} {w w' : World}

theorem Base.Held.kept {b : Nat} (h : W0.Held w) (hb : W0.fz b = none) (hK : Kept (fun k => k = b) w w') : W0.Held w' := fun k x hx => by
  have h1 := h k x hx
  exact (hK.block k (Array.getElem?_eq_some_iff.1 h1).1 (fun e => by subst e; rw [hb] at hx; cases hx)).trans h1
theorem Rel.fresh (hR : Rel W0 η L σ w) : W0.fz w.heap.size = none := by
  cases h : W0.fz w.heap.size with
  | none => rfl
  | some x => have := hR.held _ x h; simp at this
/-- An object laid down, or laid anew. -/
theorem Rel.put {o b nx : Nat} {x : AObj} (hR : Rel W0 η L σ w) (hK : Kept (fun k => k = b) w w') (hL : LM.Le L L') (hfree : ∀ o : Nat, nx ≤ o → L'[o]? = none) (hrs : ∀ o, W0.rs o → o < nx ∧ L'[o]? = none) (hb : L'[o]? = some b) (hB : W0.fz b = none)
    (hO : ObjAt η L' w' b x) (hf : ∀ (o' : Nat) y, σ.h.get o' = some y → L[o']? = some b → o' = o) : Rel W0 η L' ⟨T.set (some x) σ.h o, nx⟩ w' := by
  refine ⟨hK.os.trans hR.os, hK.tape.trans hR.tape, hK.output.trans hR.output, hR.held.kept hB hK, hfree, hrs, ?_, ?_⟩
  · intro o' y hy
    dsimp only at hy
    rw [T.get_set] at hy
    by_cases he : o' = o
    · subst he; rw [if_pos rfl] at hy; cases hy; exact ⟨b, hb, hB, hO⟩
    · rw [if_neg he] at hy
      obtain ⟨b', h1, h2, h3⟩ := hR.obj o' y hy
      exact ⟨b', get_prefix hL h1, h2, h3.keep hL (hK.block b' h3.lt (fun e => he (hf o' y hy (e ▸ h1))))⟩
  · intro o1 o2 x1 x2 b' h1 h2 h3 h4
    dsimp only at h1 h2
    rw [T.get_set] at h1 h2
    by_cases e1 : o1 = o
    · by_cases e2 : o2 = o
      · rw [e1, e2]
      · rw [if_neg e2] at h2
        obtain ⟨b2, g1, g2, g3⟩ := hR.obj o2 x2 h2
        have : b2 = b' := by have := (get_prefix hL g1).symm.trans h4; simpa using this
        subst this
        have : b2 = b := by rw [e1] at h3; have := h3.symm.trans hb; simpa using this
        subst this
        exact absurd (hf o2 x2 h2 g1) e2
    · rw [if_neg e1] at h1
      obtain ⟨b1, g1, g2, g3⟩ := hR.obj o1 x1 h1
      have hb1 : b1 = b' := by have := (get_prefix hL g1).symm.trans h3; simpa using this
      by_cases e2 : o2 = o
      · have : b' = b := by rw [e2] at h4; have := h4.symm.trans hb; simpa using this
        exact absurd (hf o1 x1 h1 (by rw [g1, hb1, this])) e1
      · rw [if_neg e2] at h2
        obtain ⟨b2, k1, k2, k3⟩ := hR.obj o2 x2 h2
        have hb2 : b2 = b' := by have := (get_prefix hL k1).symm.trans h4; simpa using this
        exact hR.inj o1 o2 x1 x2 b' h1 h2 (hb1 ▸ g1) (hb2 ▸ k1)
/-- An object that is looked at no more. -/
theorem Rel.kill (hR : Rel W0 η L σ w) (o : Nat) : Rel W0 η L ⟨T.set none σ.h o, σ.nx⟩ w := by
  refine ⟨hR.os, hR.tape, hR.output, hR.held, hR.free, hR.rsv, ?_, ?_⟩
  · intro o' y hy
    dsimp only at hy
    rw [T.get_set] at hy
    by_cases he : o' = o
    · rw [if_pos he] at hy; cases hy
    · rw [if_neg he] at hy; exact hR.obj o' y hy
  · intro o1 o2 x1 x2 b' h1 h2 h3 h4
    dsimp only at h1 h2
    rw [T.get_set] at h1 h2
    by_cases e1 : o1 = o
    · rw [if_pos e1] at h1; cases h1
    · by_cases e2 : o2 = o
      · rw [if_pos e2] at h2; cases h2
      · rw [if_neg e1] at h1; rw [if_neg e2] at h2; exact hR.inj _ _ _ _ _ h1 h2 h3 h4
theorem Rel.ext_le (hR : Rel W0 η L σ w) (c : Nat) : LM.Le L (L.ext σ.nx c) := LM.ext_le (hR.free _ (Nat.le_refl _))
theorem Rel.ext_free (hR : Rel W0 η L σ w) (c : Nat) : ∀ o : Nat, σ.nx + 1 ≤ o → (L.ext σ.nx c)[o]? = none := fun o ho => by
  rw [LM.ext_get, if_neg (by omega)]; exact hR.free o (by omega)
theorem Rel.ext_rsv (hR : Rel W0 η L σ w) (c : Nat) : ∀ o, W0.rs o → o < σ.nx + 1 ∧ (L.ext σ.nx c)[o]? = none := fun o ho => by
  obtain ⟨h1, h2⟩ := hR.rsv o ho
  refine ⟨by omega, ?_⟩
  rw [LM.ext_get, if_neg (by omega)]; exact h2
/-- A number that the world chose, written down. -/
theorem Rel.ext (hR : Rel W0 η L σ w) (c : Nat) : Rel W0 η (L.ext σ.nx c) ⟨σ.h, σ.nx + 1⟩ w := by
  have hL := hR.ext_le c
  refine ⟨hR.os, hR.tape, hR.output, hR.held, hR.ext_free c, hR.ext_rsv c, ?_, ?_⟩
  · intro o y hy
    obtain ⟨b, h1, h2, h3⟩ := hR.obj o y hy
    exact ⟨b, get_prefix hL h1, h2, h3.keep hL rfl⟩
  · intro o1 o2 x1 x2 b h1 h2 h3 h4
    obtain ⟨b1, g1, _⟩ := hR.obj o1 x1 h1
    obtain ⟨b2, k1, _⟩ := hR.obj o2 x2 h2
    have e1 : b1 = b := by have := (get_prefix hL g1).symm.trans h3; simpa using this
    have e2 : b2 = b := by have := (get_prefix hL k1).symm.trans h4; simpa using this
    exact hR.inj o1 o2 x1 x2 b h1 h2 (e1 ▸ g1) (e2 ▸ k1)
theorem Rel.drew (hR : Rel W0 η L σ w) : Rel W0 η L σ w.drew :=
  ⟨hR.os, hR.tape, hR.output, hR.held, hR.free, hR.rsv, fun o x h => let ⟨b, h1, h2, h3⟩ := hR.obj o x h; ⟨b, h1, h2, h3.keep (LM.Le.refl _) rfl⟩, hR.inj⟩
/-- A new object. -/
theorem Rel.new {o : Obj} {x : AObj} (hR : Rel W0 η L σ w) (hO : ObjAt η (L.ext σ.nx w.heap.size) (w.alloc o) w.heap.size x) : Rel W0 η (L.ext σ.nx w.heap.size) ⟨T.set (some x) σ.h σ.nx, σ.nx + 1⟩ (w.alloc o) := by
  refine hR.put ((Kept.refl _ w).alloc o) (hR.ext_le _) (hR.ext_free _) (hR.ext_rsv _) (LM.ext_at ..) hR.fresh hO ?_
  intro o' y hy hb
  obtain ⟨b, h1, h2, h3⟩ := hR.obj o' y hy
  have := h1.symm.trans hb
  have e : b = w.heap.size := by simpa using this
  have := h3.lt
  omega
/-- A cell written. -/
theorem Rel.setCell {o b off n : Nat} {c : T AV} {d v : AV} {cap : Option (Nat × Nat)} {t : TypeId} {V : Value} (hR : Rel W0 η L σ w) (ho : σ.h.get o = some (.cells c d n cap t)) (hb : L[o]? = some b) (hoff : off < n)
    (hv : D η L v V) (h1 : V.oneCell' = true) : Rel W0 η L ⟨T.set (some (.cells (T.set (some v) c off) d n cap t)) σ.h o, σ.nx⟩ (w.setCell ⟨b, off, none⟩ V) := by
  obtain ⟨b', g1, g2, C, k1, k2, k3, k4⟩ := hR.obj o _ ho
  have e : b' = b := by have := g1.symm.trans hb; simpa using this
  subst e
  refine hR.put (b := b') ((Kept.refl (fun k => k = b') w).setCell (p := ⟨b', off, none⟩) (fun _ => rfl) V) (LM.Le.refl _) hR.free hR.rsv hb g2 ?_ (fun o' y hy hb' => hR.inj _ _ _ _ _ hy ho hb' hb)
  refine ⟨C.setIfInBounds off V, heap_set_same _ k1, by simpa using k2, by simpa using k3, fun i hi => ?_⟩
  rw [T.get_set]
  by_cases e : i = off
  · subst e
    rw [if_pos rfl]
    have hc : i < C.size := by omega
    exact ⟨V, hv, by simp [hc], h1⟩
  · rw [if_neg e]
    obtain ⟨U, hU, hc, h1⟩ := k4 i hi
    exact ⟨U, hU, by rw [Array.getElem?_setIfInBounds_ne (Ne.symm e)]; exact hc, h1⟩
theorem Rel.congr {σ' : H} (hR : Rel W0 η L σ w) (h : ∀ o, σ'.h.get o = σ.h.get o) (hn : σ'.nx = σ.nx) : Rel W0 η L σ' w :=
  ⟨hR.os, hR.tape, hR.output, hR.held, fun o ho => hR.free o (by omega), fun o ho => by rw [hn]; exact hR.rsv o ho, fun o x hx => hR.obj o x ((h o).symm.trans hx), fun o o' x x' b h1 h2 h3 h4 => hR.inj o o' x x' b ((h o).symm.trans h1) ((h o').symm.trans h2) h3 h4⟩
theorem Rel.twice {o nx : Nat} {x y : Option AObj} {h : T AObj} (hR : Rel W0 η L ⟨T.set x (T.set y h o) o, nx⟩ w) : Rel W0 η L ⟨T.set x h o, nx⟩ w :=
  hR.congr (fun o' => by simp only [T.get_set]; split <;> rfl) rfl
/-- A map laid anew. -/
theorem Rel.setMap {o b : Nat} {es es' : AV} {ents : Array MapEntry} {clock : Nat} (hR : Rel W0 η L σ w) (ho : σ.h.get o = some (.map es)) (hb : L[o]? = some b)
    (he : DL η L es' (flatE ents.toList)) : Rel W0 η L ⟨T.set (some (.map es')) σ.h o, σ.nx⟩ { w with heap := w.heap.setIfInBounds b (.map ents clock) } := by
  obtain ⟨b', g1, g2, ents0, clock0, k1, k2⟩ := hR.obj o _ ho
  have e : b' = b := by have := g1.symm.trans hb; simpa using this
  subst e
  have hlt := lt_of_heap k1
  refine hR.put (w' := { w with heap := w.heap.setIfInBounds b' (.map ents clock) }) ⟨rfl, rfl, rfl, by simp, fun k hk hne => ?_⟩ (LM.Le.refl _) hR.free hR.rsv hb g2 ?_ (fun o' y hy hb' => hR.inj _ _ _ _ _ hy ho hb' hb)
  · simp [Array.getElem?_setIfInBounds_ne (Ne.symm hne)]
  · exact ⟨ents, clock, by simp [hlt], he⟩
end Go.Proofs.YtcjlhjoobchabaaGreatDoor
