/- The engine, 23: a region that draws its order: every order. -/
import Derived.Test.YtcjlhjoobchabaaGreatDoorEng22
namespace Go.Proofs.YtcjlhjoobchabaaGreatDoor
open Go.RowKit
set_option linter.unusedVariables false
set_option linter.unusedSimpArgs false
variable {η : Nat → Int} {L L' : LM} {W0 : Base} {w : World} {σ σ' σ0 : H}

/-- How many are not yet listed. -/
def unl (n : Nat) (listed : Array Bool) : Nat := ((List.range n).filter fun i => !listed.getD i false).length
theorem unl_zero {n : Nat} {listed : Array Bool} (h : unl n listed = 0) : ∀ i, i < n → listed.getD i false = true := by
  intro i hi
  have h0 := List.length_eq_zero_iff.1 h
  have := List.filter_eq_nil_iff.1 h0 i (by simpa using hi)
  simpa using this
theorem getD_set {listed : Array Bool} {i j : Nat} (hi : i < listed.size) : (listed.setIfInBounds i true).getD j false = if j = i then true else listed.getD j false := by
  by_cases h : j = i
  · subst h; simp [hi]
  · rw [if_neg h]; simp [Array.getElem?_setIfInBounds_ne (Ne.symm h)]
theorem unl_set {n i : Nat} {listed : Array Bool} (hi : i < n) (hs : listed.size = n) (hl : listed.getD i false = false) : unl n (listed.setIfInBounds i true) + 1 ≤ unl n listed := by
  unfold unl
  rw [← List.countP_eq_length_filter, ← List.countP_eq_length_filter]
  have hmono : ∀ (l : List Nat), (∀ j ∈ l, j ≠ i) → l.countP (fun j => !(listed.setIfInBounds i true).getD j false) = l.countP (fun j => !listed.getD j false) := by
    intro l hl
    refine List.countP_congr fun j hj => ?_
    rw [getD_set (by omega), if_neg (hl j hj)]
  have hsplit : List.range n = List.range i ++ i :: (List.range' (i + 1) (n - i - 1)) := by
    rw [List.range_eq_range', List.range_eq_range']
    have : n = i + (1 + (n - i - 1)) := by omega
    conv => lhs; rw [this]
    rw [← List.range'_append_1, Nat.zero_add, Nat.add_comm 1, List.range'_succ]
  rw [hsplit, List.countP_append, List.countP_append, List.countP_cons, List.countP_cons, hmono _ (fun j hj => by simp at hj; omega), hmono _ (fun j hj => by simp [List.mem_range'] at hj; omega)]
  rw [getD_set (by omega), if_pos rfl, hl]
  simp; omega

/-! ### Blocks that stand still, numbers not yet used -/
def Base.lz (B : Base) (b : Nat) (O : Obj) (num : Nat) : Base := ⟨B.W, fun k => if k = b then some O else B.fz k, fun o => B.rs o ∧ o ≠ num⟩
theorem Rel.lazy {B : Base} {num : Nat} {O : Obj} (hR : Rel B η L σ w) (hn : B.rs num) : Rel (B.lz w.heap.size O num) η (L.ext num w.heap.size) σ (w.alloc O) ∧ LM.Le L (L.ext num w.heap.size) := by
  obtain ⟨h1, h2⟩ := hR.rsv num hn
  have hL : LM.Le L (L.ext num w.heap.size) := LM.ext_le h2
  have hK := Kept.allocNew (w := w) O
  refine ⟨⟨hR.os, hR.tape, hR.output, fun k x hx => ?_, fun o ho => ?_, fun o ho => ?_, fun o x hx => ?_, fun o o' x x' b hx hx' hb hb' => ?_⟩, hL⟩
  · by_cases e : k = w.heap.size
    · have hx' : (if k = w.heap.size then some O else B.fz k) = some x := hx
      rw [if_pos e] at hx'; cases hx'; rw [e]; exact World.alloc_heap_new w _
    · have hx' : (if k = w.heap.size then some O else B.fz k) = some x := hx
      rw [if_neg e] at hx'
      have h := hR.held k x hx'
      exact (hK.block k (Array.getElem?_eq_some_iff.1 h).1 e).trans h
  · rw [LM.ext_get, if_neg (by omega)]; exact hR.free o ho
  · obtain ⟨g1, g2⟩ := hR.rsv o ho.1
    exact ⟨g1, by rw [LM.ext_get, if_neg ho.2]; exact g2⟩
  · obtain ⟨b, g1, g2, g3⟩ := hR.obj o x hx
    have hlt := g3.lt
    refine ⟨b, hL _ _ g1, ?_, g3.keep hL (hK.block b hlt (by omega))⟩
    show (if b = w.heap.size then some O else B.fz b) = none
    rw [if_neg (by omega)]; exact g2
  · obtain ⟨c, g1, _⟩ := hR.obj o x hx
    obtain ⟨c', g1', _⟩ := hR.obj o' x' hx'
    have e1 : c = b := by have := (hL _ _ g1).symm.trans hb; simpa using this
    have e2 : c' = b := by have := (hL _ _ g1').symm.trans hb'; simpa using this
    exact hR.inj o o' x x' b hx hx' (e1 ▸ g1) (e2 ▸ g1')
def Base.thaw (B : Base) (b : Nat) : Base := ⟨B.W, fun k => if k = b then none else B.fz k, B.rs⟩
theorem Rel.thaw1 {B : Base} {o b : Nat} {O : Obj} {x : AObj} (hR : Rel B η L σ w) (hb : L[o]? = some b) (hf : B.fz b = some O) (hO : w.heap[b]? = some O → ObjAt η L w b x) : Rel (B.thaw b) η L ⟨T.set (some x) σ.h o, σ.nx⟩ w := by
  have hO' := hO (hR.held b O hf)
  have hne : ∀ (o' : Nat) y, σ.h.get o' = some y → L[o']? = some b → False := fun o' y hy hb' => by
    obtain ⟨b', g1, g2, _⟩ := hR.obj o' y hy
    have : b' = b := by have := g1.symm.trans hb'; simpa using this
    subst this
    rw [g2] at hf; cases hf
  refine ⟨hR.os, hR.tape, hR.output, fun k y hy => ?_, hR.free, hR.rsv, fun o' y hy => ?_, fun o1 o2 x1 x2 c h1 h2 h3 h4 => ?_⟩
  · have hy' : (if k = b then none else B.fz k) = some y := hy
    by_cases e : k = b
    · rw [if_pos e] at hy'; cases hy'
    · rw [if_neg e] at hy'; exact hR.held k y hy'
  · dsimp only at hy
    rw [T.get_set] at hy
    by_cases e : o' = o
    · subst e; rw [if_pos rfl] at hy; cases hy
      exact ⟨b, hb, if_pos rfl, hO'⟩
    · rw [if_neg e] at hy
      obtain ⟨b', g1, g2, g3⟩ := hR.obj o' y hy
      refine ⟨b', g1, ?_, g3⟩
      show (if b' = b then none else B.fz b') = none
      rw [g2]; split <;> rfl
  · dsimp only at h1 h2
    rw [T.get_set] at h1 h2
    by_cases e1 : o1 = o
    · have hcb : c = b := by rw [e1] at h3; have := h3.symm.trans hb; simpa using this
      by_cases e2 : o2 = o
      · rw [e1, e2]
      · rw [if_neg e2] at h2; exact (hne o2 x2 h2 (hcb ▸ h4)).elim
    · rw [if_neg e1] at h1
      by_cases e2 : o2 = o
      · have hcb : c = b := by rw [e2] at h4; have := h4.symm.trans hb; simpa using this
        exact (hne o1 x1 h1 (hcb ▸ h3)).elim
      · rw [if_neg e2] at h2; exact hR.inj o1 o2 x1 x2 c h1 h2 h3 h4
def Base.thawL (L : LM) : List Pend → Base → Base
  | [], B => B
  | p :: l, B => Base.thawL L l (B.thaw ((L[p.o]?).getD 0))
theorem thawL_W : ∀ (l : List Pend) (B : Base), (Base.thawL L l B).W = B.W
  | [], B => rfl
  | p :: l, B => thawL_W l _
theorem thawL_rs : ∀ (l : List Pend) (B : Base), (Base.thawL L l B).rs = B.rs
  | [], B => rfl
  | p :: l, B => thawL_rs l _
theorem thawL_fz {k : Nat} {x : Obj} : ∀ (l : List Pend) (B : Base), B.fz k = some x → (∀ p ∈ l, ∃ b, L[p.o]? = some b ∧ b ≠ k) → (Base.thawL L l B).fz k = some x
  | [], B, h, _ => h
  | p :: l, B, h, hp => by
    refine thawL_fz l _ ?_ (fun q hq => hp q (List.mem_cons_of_mem _ hq))
    obtain ⟨b, hb, hne⟩ := hp p List.mem_cons_self
    show (if k = (L[p.o]?).getD 0 then none else B.fz k) = some x
    rw [hb, Option.getD_some, if_neg (fun e => hne e.symm)]; exact h
theorem Rel.thawL : ∀ (l : List Pend) (B : Base) (σ : H), (∀ p ∈ l, ∃ b O, L[p.o]? = some b ∧ B.fz b = some O ∧ ∀ w, w.heap[b]? = some O → ObjAt η L w b p.x) →
    l.Pairwise (fun p p' => ∀ b : Nat, L[p.o]? = some b → L[p'.o]? = some b → False) → Rel B η L σ w → Rel (Base.thawL L l B) η L (insA l σ) w
  | [], B, σ, _, _, hR => hR
  | p :: l, B, σ, hp, hd, hR => by
    obtain ⟨b, O, hb, hf, hO⟩ := hp p List.mem_cons_self
    rw [List.pairwise_cons] at hd
    have h1 := hR.thaw1 hb hf (hO w)
    show Rel (Base.thawL L l (B.thaw ((L[p.o]?).getD 0))) η L (insA l ⟨T.set (some p.x) σ.h p.o, σ.nx⟩) w
    rw [hb, Option.getD_some]
    refine Rel.thawL l _ _ (fun q hq => ?_) hd.2 h1
    obtain ⟨b', O', hb', hf', hO'⟩ := hp q (List.mem_cons_of_mem _ hq)
    refine ⟨b', O', hb', ?_, hO'⟩
    show (if b' = b then none else B.fz b') = some O'
    rw [if_neg (fun e => by subst e; exact hd.1 q hq _ hb hb')]; exact hf'
theorem Rel.weaken {B B0 : Base} (hR : Rel B η L σ w) (hW : B.W = B0.W) (hfz : ∀ k x, B0.fz k = some x → B.fz k = some x) (hrs : ∀ o, B0.rs o → B.rs o) : Rel B0 η L σ w := by
  refine ⟨by rw [← hW]; exact hR.os, by rw [← hW]; exact hR.tape, by rw [← hW]; exact hR.output, fun k x h => hR.held k x (hfz k x h), hR.free, fun o h => hR.rsv o (hrs o h), fun o x h => ?_, hR.inj⟩
  obtain ⟨b, g1, g2, g3⟩ := hR.obj o x h
  refine ⟨b, g1, ?_, g3⟩
  cases hb : B0.fz b with
  | none => rfl
  | some y => rw [hfz b y hb] at g2; cases g2
def Base.rsv (B : Base) (n K : Nat) : Base := ⟨B.W, B.fz, fun o => B.rs o ∨ (n ≤ o ∧ o < n + K)⟩
theorem Rel.reserve {B : Base} (hR : Rel B η L σ w) (K : Nat) : Rel (B.rsv σ.nx K) η L ⟨σ.h, σ.nx + K⟩ w := by
  refine ⟨hR.os, hR.tape, hR.output, hR.held, fun o ho => hR.free o (Nat.le_trans (Nat.le_add_right _ _) ho), fun o ho => ?_, hR.obj, hR.inj⟩
  rcases ho with ho | ⟨h1, h2⟩
  · obtain ⟨g1, g2⟩ := hR.rsv o ho; exact ⟨Nat.lt_of_lt_of_le g1 (Nat.le_add_right _ _), g2⟩
  · exact ⟨h2, hR.free o h1⟩
theorem Rom.Ok.mono {rom : Rom} {B B0 : Base} (h : rom.Ok η B0) (hfz : ∀ k x, B0.fz k = some x → B.fz k = some x) : rom.Ok η B :=
  ⟨fun g off v hv => let ⟨V, h1, h2⟩ := h.cell g off v hv; ⟨V, h1, fun w hw => h2 w fun k x hx => hw k x (hfz k x hx)⟩⟩

section
variable {C : Cfg} {rom : Rom} {n : Nat} {ops : Array Oper} {tr : List Ent} {ts0 ts' : T AV} {pd' : List Pend} {q0 q' : Nat}
structure Inv (C : Cfg) (W0 : Base) (η : Nat → Int) (n : Nat) (ops : Array Oper) (tr : List Ent) (ts0 : T AV) (σ' : H) (listed : Array Bool) (a : Act) (w : World) (L : LM) (tsS : T AV) (p : Nat) (B : Base) : Prop where
  size : listed.size = ops.size
  down : ∀ (j : Nat) (o : Oper), ops[j]? = some o → listed.getD j false = true → ∀ e ∈ o.after.toList, Region.binds .any e = true → listed.getD e.on false = true
  act : RelA η L n tsS a
  has : ∀ (j : Nat) (o : Oper) (e : Ent) (t : Nat), ops[j]? = some o → tr[j]? = some e → o.dst = some t → listed.getD j false = true → oget (tsS.get t) undefA = e.v
  hasnt : ∀ t : Nat, (∀ (j : Nat) (o : Oper), ops[j]? = some o → o.dst = some t → listed.getD j false = false) → oget (tsS.get t) undefA = oget (ts0.get t) undefA
  pe : p = 0 ∨ ∃ (j : Nat) (ej : Ent), tr[j]? = some ej ∧ ej.kd = 2 ∧ p = j + 1
  eff : ∀ (j : Nat) (ej : Ent), tr[j]? = some ej → ej.kd = 2 → (listed.getD j false = true ↔ j < p)
  hW : B.W = W0.W
  hfz : ∀ k x, W0.fz k = some x → B.fz k = some x
  hrs : ∀ o, W0.rs o → B.rs o
  unl : ∀ (i : Nat) (e : Ent), tr[i]? = some e → e.kd = 3 → listed.getD i false = false → B.rs e.nw.o
  pend : ∀ (i : Nat) (e : Ent), tr[i]? = some e → e.kd = 3 → listed.getD i false = true → ¬ InsP ops tr p i → ∃ (b : Nat) (O : Obj), L[e.nw.o]? = some b ∧ W0.fz b = none ∧ B.fz b = some O ∧ ∀ (L : LM) (w : World), w.heap[b]? = some O → ObjAt η L w b e.nw.x
  pinj : ∀ (i j : Nat) (e e2 : Ent) (b : Nat), tr[i]? = some e → e.kd = 3 → listed.getD i false = true → ¬ InsP ops tr p i → tr[j]? = some e2 → e2.kd = 3 → listed.getD j false = true → ¬ InsP ops tr p j → L[e.nw.o]? = some b → L[e2.nw.o]? = some b → i = j
  rel : Rel B η L (stAt tr σ' p) w
/-- What is to be taken in lies there, and apart. -/
theorem Inv.due {W0 : Base} {listed : Array Bool} {a : Act} {w : World} {L : LM} {tsS : T AV} {p : Nat} {B : Base} (hI : Inv C W0 η n ops tr ts0 σ' listed a w L tsS p B) {l : List Pend}
    (hl : ∀ x ∈ l, New tr x ∧ listed.getD x.i false = true ∧ ¬ InsP ops tr p x.i) (hp : l.Pairwise (fun a b => a.i ≠ b.i)) :
    (∀ x ∈ l, ∃ b O, L[x.o]? = some b ∧ B.fz b = some O ∧ ∀ w, w.heap[b]? = some O → ObjAt η L w b x.x) ∧ l.Pairwise (fun x y => ∀ b : Nat, L[x.o]? = some b → L[y.o]? = some b → False) ∧ (∀ x ∈ l, ∀ b : Nat, L[x.o]? = some b → W0.fz b = none) := by
  refine ⟨fun x hx => ?_, ?_, fun x hx b hb => ?_⟩
  · obtain ⟨⟨e, he, hk, rfl⟩, h2, h3⟩ := hl x hx
    obtain ⟨b, O, g1, _, g3, g4⟩ := hI.pend _ e he hk h2 h3
    exact ⟨b, O, g1, g3, g4 L⟩
  · refine List.Pairwise.imp_of_mem (fun {x y} hx hy hne b hb hb' => ?_) hp
    obtain ⟨⟨e, he, hk, rfl⟩, h2, h3⟩ := hl x hx
    obtain ⟨⟨e2, he2, hk2, rfl⟩, h2', h3'⟩ := hl y hy
    exact hne (hI.pinj _ _ e e2 b he hk h2 h3 he2 hk2 h2' h3' hb hb')
  · obtain ⟨⟨e, he, hk, rfl⟩, h2, h3⟩ := hl x hx
    obtain ⟨b', O, g1, g2, _⟩ := hI.pend _ e he hk h2 h3
    have : b' = b := by have := g1.symm.trans hb; simpa using this
    rw [← this]; exact g2
theorem bfalse {b : Bool} (h : ¬ b = true) : b = false := by cases b <;> simp_all

theorem aev_tmp {ts ts2 : T AV} {x : Operand} (h : ∀ t, x = .tmp t → oget (ts.get t) undefA = oget (ts2.get t) undefA) : aev ts x = aev ts2 x := by
  cases x with
  | tmp t => show tst _ (some _) = tst _ (some _); rw [h t rfl]
  | _ => rfl
theorem draw_all (hS : StatOk ops) (hT : TrRel C rom η n ops.toList 0 ops.toList tr ts0 σ0 [] q0 ts' σ' pd' q') (hD : Dyn C rom ops tr σ0 σ') (hC : C.Ok η) (hM : rom.Ok η W0) {Q : Exit → Act → World → Prop} {L0 : LM} (rd : Option Nat) (m : Nat) (hq0 : ∀ o, W0.rs o → o < q0)
    (hQ : ∀ L' a' w', LM.Le L0 L' → RelA η L' n ts' a' → Rel W0 η L' (insA pd' σ') w' → Q .normal a' w') : ∀ (fuel : Nat) (listed : Array Bool) (a : Act) (w : World) (L : LM) (tsS : T AV) (p : Nat) (B : Base), LM.Le L0 L → unl ops.size listed ≤ fuel →
      Inv C W0 η n ops tr ts0 σ' listed a w L tsS p B → wpAnyIn (Wd rd) m C.P .any ops Q fuel listed a w := by
  have hlen : tr.length = ops.size := by have := tr_len hT; simpa using this
  have hent : ∀ i, i < ops.size → ∃ o e, ops[i]? = some o ∧ tr[i]? = some e := fun i hi => ⟨ops[i], tr[i], by simp [hi], by simp [hlen, hi]⟩
  have hready : ∀ (listed : Array Bool) (i : Nat), listed.size = ops.size → i ∈ Region.ready .any ops listed → ∃ o, ops[i]? = some o ∧ i < ops.size ∧ listed.getD i false = false ∧ ∀ e ∈ o.after.toList, Region.binds .any e = true → listed.getD e.on false = true := by
    intro listed i hs hi
    simp only [Region.ready, List.mem_filter, List.mem_range, Bool.and_eq_true, Bool.not_eq_true'] at hi
    obtain ⟨h1, h2, h3⟩ := hi
    refine ⟨ops[i], by simp [h1], h1, ?_, fun e he hb => ?_⟩
    · have : i < listed.size := by omega
      simp [this] at h2 ⊢; exact h2
    · simp only [Array.getElem?_eq_getElem h1, Option.map_some, Option.getD_some] at h3
      have := Array.all_eq_true_iff_forall_mem.1 h3 e (by simpa using he)
      simpa [hb] using this
  -- all are listed: the end
  have fin : ∀ (listed : Array Bool) (a : Act) (w : World) (L : LM) (tsS : T AV) (p : Nat) (B : Base), LM.Le L0 L → Inv C W0 η n ops tr ts0 σ' listed a w L tsS p B → (∀ i, i < ops.size → listed.getD i false = true) → Q .normal a w := by
    intro listed a w L tsS p B hL hI hall
    obtain ⟨c1, c2⟩ := ts_char hS hT ops.size (Nat.le_refl _)
    have hts : tsAt tr ts' ops.size = ts' := by
      have : tr[ops.size]? = none := List.getElem?_eq_none (by omega)
      simp [tsAt, this]
    have hst : stAt tr σ' ops.size = σ' := by
      have : tr[ops.size]? = none := List.getElem?_eq_none (by omega)
      simp [stAt, this]
    rw [hts] at c1 c2
    have key : ∀ t, oget (tsS.get t) undefA = oget (ts'.get t) undefA := by
        intro t
        by_cases hex : ∃ (j : Nat) (o : Oper), ops[j]? = some o ∧ o.dst = some t
        · obtain ⟨j, o, hj, hd⟩ := hex
          have hjl := (Array.getElem?_eq_some_iff.1 hj).1
          obtain ⟨_, e, _, he⟩ := hent j hjl
          rw [hI.has j o e t hj he hd (hall j hjl), c1 j o e t hjl hj he hd]
        · rw [hI.hasnt t (fun j o hj hd => absurd ⟨j, o, hj, hd⟩ hex), c2 t (fun j o _ hj hd => hex ⟨j, o, hj, hd⟩)]
    refine hQ L a w hL ⟨hI.act.size, hI.act.small, fun t ht => ?_, ?_⟩ ?_
    · rw [← key]; exact hI.act.val t ht
    · rw [← key]; exact hI.act.defers
    · have hp : p ≤ ops.size := by
        rcases hI.pe with rfl | ⟨j, ej, h1, _, rfl⟩
        · omega
        · have := (List.getElem?_eq_some_iff.1 h1).1; omega
      have := st_const hT ops.size p hp (Nat.le_refl _) (fun j e hj hj2 he hk => by
        have := (hI.eff j e he hk).1 (hall j hj2)
        omega)
      rw [hst] at this
      have hpd : pdAt tr pd' ops.size = pd' := by
        have : tr[ops.size]? = none := List.getElem?_eq_none (by omega)
        simp [pdAt, this]
      obtain ⟨q1, q2⟩ := pd_char hS hT ops.size (Nat.le_refl _)
      rw [hpd] at q1 q2
      obtain ⟨d1, d2, d3⟩ := hI.due (l := pd') (fun x hx => let ⟨g1, g2, g3⟩ := q1 x hx; ⟨g2, hall x.i g1, fun ⟨j, e, o, k1, k2⟩ => g3 ⟨j, e, o, by omega, k2⟩⟩) q2
      have hR2 := Rel.thawL pd' B _ d1 d2 hI.rel
      rw [this] at hR2
      refine hR2.weaken ((thawL_W _ _).trans hI.hW) (fun k x hx => thawL_fz _ _ (hI.hfz k x hx) fun q hq => ?_) (fun o ho => by rw [thawL_rs]; exact hI.hrs o ho)
      obtain ⟨b, O, g1, _⟩ := d1 q hq
      exact ⟨b, g1, fun e => by have := d3 q hq b g1; rw [e, hx] at this; cases this⟩
  intro fuel
  induction fuel with
  | zero =>
    intro listed a w L tsS p B hL hu hI
    have hall := unl_zero (Nat.le_zero.1 hu)
    refine ⟨?_, fin listed a w L tsS p B hL hI hall⟩
    refine List.eq_nil_iff_forall_not_mem.2 fun i hi => ?_
    obtain ⟨o, _, hil, hf, _⟩ := hready listed i hI.size hi
    rw [hall i hil] at hf; cases hf
  | succ fuel ih =>
    intro listed a w L tsS p B hL hu hI
    refine ⟨fun hnil => fin listed a w L tsS p B hL hI ?_, fun i hi => ?_⟩
    · -- the least that is not listed would be ready
      intro i
      induction i using Nat.strongRecOn with
      | _ i ihi =>
        intro hil
        cases hf : listed.getD i false with
        | true => rfl
        | false =>
          exfalso
          have hmem : i ∈ Region.ready .any ops listed := by
            simp only [Region.ready, List.mem_filter, List.mem_range, Bool.and_eq_true, Bool.not_eq_true']
            refine ⟨hil, ?_, ?_⟩
            · have : i < listed.size := by rw [hI.size]; exact hil
              simp [this] at hf ⊢; exact hf
            · simp only [Array.getElem?_eq_getElem hil, Option.map_some, Option.getD_some]
              refine Array.all_eq_true_iff_forall_mem.2 fun e he => ?_
              cases hb : Region.binds .any e with
              | false => rfl
              | true =>
                have hlt := hS.back i ops[i] (by simp [hil]) e (by simpa using he) hb
                simp [ihi e.on hlt (by omega)]
          rw [hnil] at hmem; cases hmem
    · obtain ⟨o, ho, hil, hfi, haft⟩ := hready listed i hI.size hi
      obtain ⟨o', e, ho', he⟩ := hent i hil
      obtain ⟨e', he', hput, hok⟩ := tr_at hT (i := i) (o := o) (by simpa using ho)
      have : e' = e := by rw [he] at he'; cases he'; rfl
      subst this
      have hets : e'.ts = tsAt tr ts' i := by simp [tsAt, he]
      have hest : e'.σ = stAt tr σ' i := by simp [stAt, he]
      obtain ⟨c1, c2⟩ := ts_char hS hT i (by omega)
      rw [← hets] at c1 c2
      -- what the operation reads stands as it stood
      have hval : ∀ t, Ord ops i o t → oget (e'.ts.get t) undefA = oget (tsS.get t) undefA := by
        intro t hord
        by_cases hex : ∃ (j : Nat) (oj : Oper), ops[j]? = some oj ∧ oj.dst = some t
        · obtain ⟨j, oj, hj, hd⟩ := hex
          obtain ⟨q1, q2⟩ := hord j oj hj hd
          have hjl := (Array.getElem?_eq_some_iff.1 hj).1
          obtain ⟨_, ej, _, hej⟩ := hent j hjl
          rcases Nat.lt_trichotomy j i with hlt | heq | hgt
          · obtain ⟨x, hx, hb, rfl⟩ := q1 hlt
            rw [c1 _ oj ej t hlt hj hej hd, hI.has _ oj ej t hj hej hd (haft x hx hb)]
          · subst heq
            rw [c2 t (fun j' oj' hj' hoj' hd' => by have := hS.dst _ oj hj t hd j' oj' hoj' hd'; omega), hI.hasnt t (fun j' oj' hoj' hd' => by have := hS.dst _ oj hj t hd j' oj' hoj' hd'; rw [this]; exact hfi)]
          · have hnl : listed.getD j false = false := bfalse fun hl => by
              obtain ⟨x, hx, hb, hxe⟩ := q2 hgt
              have := hI.down j oj hj hl x hx hb
              rw [hxe, hfi] at this; cases this
            rw [c2 t (fun j' oj' hj' hoj' hd' => by have := hS.dst _ oj hj t hd j' oj' hoj' hd'; omega), hI.hasnt t (fun j' oj' hoj' hd' => by have := hS.dst _ oj hj t hd j' oj' hoj' hd'; rw [this]; exact hnl)]
        · rw [c2 t (fun j oj _ hj hd => hex ⟨j, oj, hj, hd⟩), hI.hasnt t (fun j oj hj hd => absurd ⟨j, oj, hj, hd⟩ hex)]
      have hag : Agree o.op e'.ts tsS := fun x hx => aev_tmp fun t ht => hval t (hS.opd i o ho t (ht ▸ hx))
      have hg : guardA ops.toList e'.ts o = guardA ops.toList tsS o := by
        unfold guardA
        cases hgd : o.guard with
        | none => rfl
        | some q =>
          obtain ⟨g, want⟩ := q
          obtain ⟨og, d, hog, hdg, hord⟩ := hS.grd i o ho g want hgd
          dsimp only
          rw [lget_eq, show ops.toList[g]? = some og by simpa using hog]
          show ob og.dst _ = ob og.dst _
          rw [hdg]
          show tst (Nat.blt d BIG) (match oget (e'.ts.get d) undefA with | .bool b => some (beqA b want) | .tuple l => bcase (isNil l) (some false) none | _ => none) = _
          rw [hval d hord]
          rfl
      have hnd : ∀ (j : Nat) (ej : Ent), tr[j]? = some ej → ej.kd = 2 → p ≤ j → j < i → e'.kd = 2 → False := by
        intro j ej hj hk hpj hji hk2
        have := reach_listed (Q := fun j => listed.getD j false = true) (fun j o hj hq => hI.down j o hj hq) 12 j o (hD.eff j ej i e' o hj hk he hk2 hji ho) haft
        have := (hI.eff j ej hj hk).1 this
        omega
      have hInot : ∀ (j : Nat) (ej : Ent) (oj : Oper), tr[j]? = some ej → ej.kd = 2 → i < j → ops[j]? = some oj → e'.kd = 2 → listed.getD j false = true → False := by
        intro j ej oj hj hkj hij hoj hk hl
        have := reach_listed (Q := fun j => listed.getD j false = true) (fun j o hj hq => hI.down j o hj hq) 12 i oj (hD.eff i e' j ej oj he hk hj hkj hij hoj) (hI.down j oj hoj hl)
        rw [hfi] at this; cases this
      have hsz : i < listed.size := by rw [hI.size]; exact hil
      -- the next state
      have next : ∀ (L1 : LM) (w1 : World) (V : Value) (p1 : Nat) (B1 : Base), LM.Le L L1 → Rel B1 η L1 (stAt tr σ' p1) w1 → D η L1 e'.v V → (p1 = 0 ∨ ∃ (j : Nat) (ej : Ent), tr[j]? = some ej ∧ ej.kd = 2 ∧ p1 = j + 1) →
          (∀ (j : Nat) (ej : Ent), tr[j]? = some ej → ej.kd = 2 → ((listed.setIfInBounds i true).getD j false = true ↔ j < p1)) →
          B1.W = W0.W → (∀ k x, W0.fz k = some x → B1.fz k = some x) → (∀ o, W0.rs o → B1.rs o) →
          (∀ (j : Nat) (e : Ent), tr[j]? = some e → e.kd = 3 → (listed.setIfInBounds i true).getD j false = false → B1.rs e.nw.o) →
          (∀ (j : Nat) (e : Ent), tr[j]? = some e → e.kd = 3 → (listed.setIfInBounds i true).getD j false = true → ¬ InsP ops tr p1 j → ∃ (b : Nat) (O : Obj), L1[e.nw.o]? = some b ∧ W0.fz b = none ∧ B1.fz b = some O ∧ ∀ (L : LM) (w : World), w.heap[b]? = some O → ObjAt η L w b e.nw.x) →
          (∀ (j k : Nat) (e e2 : Ent) (b : Nat), tr[j]? = some e → e.kd = 3 → (listed.setIfInBounds i true).getD j false = true → ¬ InsP ops tr p1 j → tr[k]? = some e2 → e2.kd = 3 → (listed.setIfInBounds i true).getD k false = true → ¬ InsP ops tr p1 k → L1[e.nw.o]? = some b → L1[e2.nw.o]? = some b → j = k) →
          wpAnyIn (Wd rd) m C.P .any ops Q fuel (listed.setIfInBounds i true) (a.put o.dst V) w1 := by
        intro L1 w1 V p1 B1 hL1 hR1 hV hpe hef hW1 hfz1 hrs1 hunl1 hpend1 hpinj1
        have hu1 := unl_set hil hI.size hfi
        obtain ⟨tsS1, hA1, hh, hhn⟩ : ∃ tsS1, RelA η L1 n tsS1 (a.put o.dst V) ∧ (∀ t, o.dst = some t → oget (tsS1.get t) undefA = e'.v) ∧ (∀ t, o.dst ≠ some t → oget (tsS1.get t) undefA = oget (tsS.get t) undefA) := by
          cases hd : o.dst with
          | none => exact ⟨tsS, hI.act.mono hL1, fun t h => (by cases h), fun t _ => rfl⟩
          | some d =>
            rw [hd] at hput
            refine ⟨T.set (some e'.v) tsS d, (hI.act.mono hL1).put hV hput.1, fun t h => ?_, fun t h => ?_⟩
            · cases h; rw [T.get_set, if_pos rfl]; rfl
            · rw [T.get_set, if_neg (fun e => h (by rw [e]))]
        refine ih (listed.setIfInBounds i true) (a.put o.dst V) w1 L1 tsS1 p1 B1 (hL.trans hL1) (by omega) ⟨by simp [hI.size], ?_, hA1, ?_, ?_, hpe, hef, hW1, hfz1, hrs1, hunl1, hpend1, hpinj1, hR1⟩
        · intro j oj hj hl x hx hb
          rw [getD_set hsz] at hl ⊢
          by_cases hji : j = i
          · subst hji; rw [ho] at hj; cases hj
            rw [haft x hx hb]; split <;> rfl
          · rw [if_neg hji] at hl
            rw [hI.down j oj hj hl x hx hb]; split <;> rfl
        · intro j oj ej t hj hej hd hl
          rw [getD_set hsz] at hl
          by_cases hji : j = i
          · subst hji; rw [ho] at hj; cases hj; rw [he] at hej; cases hej; exact hh t hd
          · rw [if_neg hji] at hl
            rw [hhn t (fun e => hji (hS.dst i o ho t e j oj hj hd)), hI.has j oj ej t hj hej hd hl]
        · intro t ht
          have h1 : o.dst ≠ some t := fun e => by
            have := ht i o ho e
            rw [getD_set hsz, if_pos rfl] at this; cases this
          rw [hhn t h1]
          refine hI.hasnt t fun j oj hj hd => ?_
          have := ht j oj hj hd
          rw [getD_set hsz] at this
          by_cases hji : j = i
          · rw [if_pos hji] at this; cases this
          · rw [if_neg hji] at this; exact this
      have hset : ∀ j, (listed.setIfInBounds i true).getD j false = if j = i then true else listed.getD j false := fun j => getD_set hsz
      have hkeep : e'.kd ≠ 2 → ∀ (j : Nat) (ej : Ent), tr[j]? = some ej → ej.kd = 2 → ((listed.setIfInBounds i true).getD j false = true ↔ j < p) := by
        intro hk j ej hj hkj
        have hji : j ≠ i := fun e => by subst e; rw [he] at hj; cases hj; exact hk hkj
        rw [hset, if_neg hji]
        exact hI.eff j ej hj hkj
      have back : e'.kd ≠ 3 → ∀ (j : Nat) (e : Ent), tr[j]? = some e → e.kd = 3 → (listed.setIfInBounds i true).getD j false = true → listed.getD j false = true := by
        intro hk j e hj hkj hl
        have hji : j ≠ i := fun e => by subst e; rw [he] at hj; cases hj; exact hk hkj
        rw [hset, if_neg hji] at hl; exact hl
      have backF : ∀ j, (listed.setIfInBounds i true).getD j false = false → listed.getD j false = false ∧ j ≠ i := by
        intro j hl
        rw [hset] at hl
        by_cases hji : j = i
        · rw [if_pos hji] at hl; cases hl
        · rw [if_neg hji] at hl; exact ⟨hl, hji⟩
      -- an operation that leaves memory as it is
      have plain : e'.kd ≠ 2 → e'.kd ≠ 3 → ∀ (V : Value), D η L e'.v V → wpAnyIn (Wd rd) m C.P .any ops Q fuel (listed.setIfInBounds i true) (a.put o.dst V) w := by
        intro hk2 hk3 V hV
        refine next L w V p B (LM.Le.refl _) hI.rel hV hI.pe (hkeep hk2) hI.hW hI.hfz hI.hrs (fun j e hj hkj hl => hI.unl j e hj hkj (backF j hl).1)
          (fun j e hj hkj hl hn => hI.pend j e hj hkj (back hk3 j e hj hkj hl) hn) (fun j k e e2 b h1 h2 h3 h4 h5 h6 h7 h8 h9 h10 => hI.pinj j k e e2 b h1 h2 (back hk3 j e h1 h2 h3) h4 h5 h6 (back hk3 k e2 h5 h6 h7) h8 h9 h10)
      simp only [wpOpIn, ho]
      rcases hok with ⟨hgf, hk, hv, _⟩ | ⟨hgt, hcase⟩
      · rw [hg] at hgf
        rw [guardA_some hgf hI.act, if_neg (by simp)]
        refine ⟨fun _ _ => trivial, ?_⟩
        exact plain (by omega) (by omega) undef (by rw [hv]; exact D_undef)
      · rw [hg] at hgt
        rw [guardA_some hgt hI.act, if_pos rfl]
        rcases hcase with ⟨hp, hk, _⟩ | ⟨hr, hk, _⟩ | ⟨hk, hpd1, _, hstep⟩ | ⟨hk, _⟩
        · rw [apure_congr hag] at hp
          obtain ⟨R, hR, hrun⟩ := apure_some hC hI.act.ev hp
          refine ⟨fun _ _ => trivial, ?_⟩
          show o.uponIn _ _ C.P a _ Q ((o.semAt rd a.eval).run C.P w)
          rw [semAt_val rd (hrun w)]
          exact plain (by omega) (by omega) R hR
        · have hrd : aread C rom tsS (stAt tr σ' p) o.op = some e'.v := by
            rw [← aread_congr hag]
            by_cases hex : ∃ (j : Nat) (ej : Ent), tr[j]? = some ej ∧ ej.kd = 2
            · have := hD.read i e' o he hk ho hex p hI.pe (fun j ej oj hj hkj hoj => ⟨fun hlt => bfalse fun haf => ?_, fun hle => bfalse fun haf => ?_⟩)
              · rw [← this]
                by_cases hp0 : p = 0
                · subst hp0; rw [if_pos rfl, (tr_zero hT).2.1]
                · rw [if_neg hp0]
              · obtain ⟨x, hx, hb, hxe⟩ := afterL_true haf
                have hl := (hI.eff j ej hj hkj).2 hlt
                have := hI.down j oj hoj hl x hx hb
                rw [hxe, hfi] at this; cases this
              · obtain ⟨x, hx, hb, hxe⟩ := afterL_true haf
                have := haft x hx hb
                rw [hxe] at this
                have := (hI.eff j ej hj hkj).1 this
                omega
            · have h1 : stAt tr σ' p = e'.σ := by
                have hp0 : p = 0 := by
                  rcases hI.pe with h | ⟨j, ej, h1, h2, _⟩
                  · exact h
                  · exact absurd ⟨j, ej, h1, h2⟩ hex
                rw [hp0, hest]
                exact st_const hT i 0 (by omega) (by omega) (fun j ej _ _ hj hkj => hex ⟨j, ej, hj, hkj⟩)
              rw [h1]; exact hr
          obtain ⟨R, hR, hrun⟩ := aread_some hC (hM.mono hI.hfz) hI.act.ev hI.rel hrd
          refine ⟨fun _ _ => trivial, ?_⟩
          show o.uponIn _ _ C.P a _ Q ((o.semAt rd a.eval).run C.P w)
          rw [semAt_val rd hrun]
          exact plain (by omega) (by omega) R hR
        · have hpi : p ≤ i := by
            rcases hI.pe with rfl | ⟨j, ej, h1, h2, rfl⟩
            · omega
            · have hl := (hI.eff j ej h1 h2).2 (by omega)
              have hne : j ≠ i := fun e => by subst e; rw [hfi] at hl; cases hl
              rcases Nat.lt_or_ge j i with h | h
              · omega
              · exfalso
                have hjl := (List.getElem?_eq_some_iff.1 h1).1
                obtain ⟨oj, _, hoj, _⟩ := hent j (by omega)
                exact hInot j ej oj h1 h2 (by omega) hoj hk hl
          have hst : stAt tr σ' p = e'.σ := by
            rw [hest]
            exact st_const hT i p hpi (by omega) (fun j ej hpj hji hj hkj => hnd j ej hj hkj hpj hji hk)
          have hpde : pdAt tr pd' i = e'.pd := by simp [pdAt, he]
          obtain ⟨q1, q2⟩ := pd_char hS hT i (by omega)
          rw [hpde] at q1 q2
          have hneed : ∀ x ∈ e'.pd.filter (fun p => afterA o p.i), New tr x ∧ listed.getD x.i false = true ∧ ¬ InsP ops tr p x.i := by
            intro x hx
            obtain ⟨hx1, hx2⟩ := List.mem_filter.1 hx
            obtain ⟨g1, g2, g3⟩ := q1 x hx1
            obtain ⟨y, hy, hb, hye⟩ := afterL_true (show afterL o.after.toList x.i = true from hx2)
            refine ⟨g2, by rw [← hye]; exact haft y hy hb, fun ⟨j, e, oj, k1, k2⟩ => g3 ⟨j, e, oj, by omega, k2⟩⟩
          obtain ⟨d1, d2, d3⟩ := hI.due hneed (q2.filter _)
          have hR2 := Rel.thawL _ B _ d1 d2 hI.rel
          rw [hst] at hR2
          have hfz2 : ∀ k x, W0.fz k = some x → (Base.thawL L (e'.pd.filter fun p => afterA o p.i) B).fz k = some x := fun k x hx => thawL_fz _ _ (hI.hfz k x hx) fun q hq => by
            obtain ⟨b, O, g1, _⟩ := d1 q hq
            exact ⟨b, g1, fun e => by have := d3 q hq b g1; rw [e, hx] at this; cases this⟩
          have hIns : ∀ j, ¬ InsP ops tr (i + 1) j → ¬ InsP ops tr p j ∧ afterA o j = false := fun j hn =>
            ⟨fun ⟨j2, e, oj, k1, k2⟩ => hn ⟨j2, e, oj, by omega, k2⟩, bfalse fun h => hn ⟨i, e', o, by omega, he, hk, ho, h⟩⟩
          refine hstep tsS hag _ (hM.mono hfz2) L a w hI.act hR2 _ Q (fun L1 w1 R hL1 hR1 hDv => next L1 w1 R (i + 1) _ hL1 hR1 hDv (.inr ⟨i, e', he, hk, rfl⟩) ?_ ((thawL_W _ _).trans hI.hW) hfz2 (fun o ho => by rw [thawL_rs]; exact hI.hrs o ho)
            (fun j e hj hkj hl => by rw [thawL_rs]; exact hI.unl j e hj hkj (backF j hl).1) (fun j e hj hkj hl hn => ?_) (fun j k e e2 b h1 h2 h3 h4 h5 h6 h7 h8 h9 h10 => ?_)) rd m
          · intro j ej hj hkj
            rw [hset]
            by_cases hji : j = i
            · subst hji; simp
            · rw [if_neg hji]
              constructor
              · intro hl
                rcases Nat.lt_or_ge j i with h | h
                · omega
                · exfalso
                  have hjl := (List.getElem?_eq_some_iff.1 hj).1
                  obtain ⟨oj, _, hoj, _⟩ := hent j (by omega)
                  exact hInot j ej oj hj hkj (by omega) hoj hk hl
              · intro hlt
                exact reach_listed (Q := fun j => listed.getD j false = true) (fun j o hj hq => hI.down j o hj hq) 12 j o (hD.eff j ej i e' o hj hkj he hk (by omega) ho) haft
          · have hlj := back (by omega) j e hj hkj hl
            obtain ⟨hn1, hn2⟩ := hIns j hn
            obtain ⟨b, O, g1, g2, g3, g4⟩ := hI.pend j e hj hkj hlj hn1
            refine ⟨b, O, hL1 _ _ g1, g2, thawL_fz _ _ g3 fun q hq => ?_, g4⟩
            obtain ⟨⟨e2, he2, hk2, hq2⟩, l2, n2⟩ := hneed q hq
            obtain ⟨b2, O2, k1, _⟩ := d1 q hq
            refine ⟨b2, k1, fun e3 => ?_⟩
            subst e3
            have hqj : j = q.i := hI.pinj j q.i e e2 b2 hj hkj hlj hn1 he2 hk2 l2 n2 g1 (by rw [hq2]; exact k1)
            have h7 : afterA o q.i = true := (List.mem_filter.1 hq).2
            rw [← hqj, hn2] at h7; cases h7
          · have hlj := back (by omega) j e h1 h2 h3
            have hlk := back (by omega) k e2 h5 h6 h7
            obtain ⟨n1, _⟩ := hIns j h4
            obtain ⟨n2, _⟩ := hIns k h8
            obtain ⟨b1, _, g1, _⟩ := hI.pend j e h1 h2 hlj n1
            obtain ⟨b2, _, g2, _⟩ := hI.pend k e2 h5 h6 hlk n2
            have e1 : b1 = b := by have := (hL1 _ _ g1).symm.trans h9; simpa using this
            have e3 : b2 = b := by have := (hL1 _ _ g2).symm.trans h10; simpa using this
            exact hI.pinj j k e e2 b h1 h2 hlj n1 h5 h6 hlk n2 (e1 ▸ g1) (e3 ▸ g2)
        · obtain ⟨t, x, o2, ho2, hop, ⟨Z, hrun, hobj⟩, hnw, hv, _⟩ := new_at hT he hk
          have : o2 = o := by rw [ho] at ho2; cases ho2; rfl
          subst this
          have hnum : e'.nw.o = e'.q := (new_num hT he hk).1
          obtain ⟨hRz, hLz⟩ := hI.rel.lazy (O := .cells Z t) (hI.unl i e' he hk hfi)
          have hbn : (B.lz w.heap.size (.cells Z t) e'.nw.o).fz w.heap.size = some (.cells Z t) := if_pos rfl
          have hWn : W0.fz w.heap.size = none := by
            cases h : W0.fz w.heap.size with
            | none => rfl
            | some y => have := hI.hfz _ _ h; rw [hI.rel.fresh] at this; cases this
          have hold : ∀ k y, B.fz k = some y → k ≠ w.heap.size ∧ (B.lz w.heap.size (.cells Z t) e'.nw.o).fz k = some y := by
            intro k y hy
            have hne : k ≠ w.heap.size := fun e => by rw [e, hI.rel.fresh] at hy; cases hy
            exact ⟨hne, by show (if k = w.heap.size then _ else B.fz k) = _; rw [if_neg hne]; exact hy⟩
          refine ⟨fun _ _ => trivial, ?_⟩
          show o2.uponIn _ _ C.P a _ Q ((o2.semAt rd a.eval).run C.P w)
          rw [semAt_val rd (hrun w a.eval o2 hop)]
          refine next _ _ _ p _ hLz hRz ?_ hI.pe (hkeep (by omega)) hI.hW (fun k y hy => (hold k y (hI.hfz k y hy)).2) (fun o3 ho3 => ?_) (fun j e hj hkj hl => ?_) (fun j e hj hkj hl hn => ?_) (fun j k e e2 b h1 h2 h3 h4 h5 h6 h7 h8 h9 h10 => ?_)
          · rw [hv, ← hnum]; exact ptr_D (LM.ext_at ..)
          · refine ⟨hI.hrs o3 ho3, fun e3 => ?_⟩
            have h1 := hq0 o3 ho3
            have h2 := (new_num hT he hk).2.1
            omega
          · obtain ⟨hl1, hl2⟩ := backF j hl
            exact ⟨hI.unl j e hj hkj hl1, fun e3 => hl2 (new_ne hT hj hkj he hk e3)⟩
          · by_cases hji : j = i
            · subst hji
              rw [he] at hj; cases hj
              refine ⟨w.heap.size, .cells Z t, LM.ext_at .., hWn, hbn, fun L w hb => ?_⟩
              rw [hnw]; exact hobj η L w _ hb
            · rw [hset, if_neg hji] at hl
              obtain ⟨b, O, g1, g2, g3, g4⟩ := hI.pend j e hj hkj hl hn
              exact ⟨b, O, hLz _ _ g1, g2, (hold b O g3).2, g4⟩
          · have hother : ∀ (j : Nat) (e : Ent), tr[j]? = some e → e.kd = 3 → (listed.setIfInBounds i true).getD j false = true → ¬ InsP ops tr p j → j ≠ i → ∀ b : Nat, (L.ext e'.nw.o w.heap.size)[e.nw.o]? = some b → listed.getD j false = true ∧ L[e.nw.o]? = some b ∧ b ≠ w.heap.size := by
              intro j e hj hkj hl hn hji b hb
              rw [hset, if_neg hji] at hl
              obtain ⟨b', O, g1, _, g3, _⟩ := hI.pend j e hj hkj hl hn
              have : b' = b := by have := (hLz _ _ g1).symm.trans hb; simpa using this
              subst this
              exact ⟨hl, g1, (hold b' O g3).1⟩
            have hself : ∀ b : Nat, (L.ext e'.nw.o w.heap.size)[e'.nw.o]? = some b → b = w.heap.size := fun b hb => by rw [LM.ext_at] at hb; cases hb; rfl
            by_cases hj : j = i
            · by_cases hk' : k = i
              · rw [hj, hk']
              · exfalso
                obtain ⟨_, _, hne⟩ := hother k e2 h5 h6 h7 h8 hk' b h10
                subst hj; rw [he] at h1; cases h1
                exact hne (hself b h9)
            · obtain ⟨l1, g1, hne⟩ := hother j e h1 h2 h3 h4 hj b h9
              by_cases hk' : k = i
              · exfalso
                subst hk'; rw [he] at h5; cases h5
                exact hne (hself b h10)
              · obtain ⟨l2, g2, _⟩ := hother k e2 h5 h6 h7 h8 hk' b h10
                exact hI.pinj j k e e2 b h1 h2 l1 h4 h5 h6 l2 h8 g1 g2
end
end Go.Proofs.YtcjlhjoobchabaaGreatDoor
