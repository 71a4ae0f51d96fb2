/- The engine, 22: a region that draws its order comes to what the text's order comes to: the proof. -/
import Derived.Test.YtcjlhjoobchabaaGreatDoorEng21
namespace Go.Proofs.YtcjlhjoobchabaaGreatDoor
open Go.RowKit
set_option linter.unusedVariables false
set_option linter.unusedSimpArgs false
variable {η : Nat → Int} {L L' : LM} {W0 : Base} {w : World} {σ σ' σ0 : H}

theorem allL_of {α : Type} {p : α → Bool} : ∀ {l : List α}, (∀ a ∈ l, p a = true) → allL p l = true
  | [], h => rfl
  | x :: l, h => by
    show bcase (p x) (allL p l) false = true
    rw [h x List.mem_cons_self, bcase_true]
    exact allL_of (fun a ha => h a (List.mem_cons_of_mem _ ha))
/-- Whoever writes t stands in order to the i-th. -/
def Ord (ops : Array Oper) (i : Nat) (o : Oper) (t : Nat) : Prop :=
  ∀ (j : Nat) (oj : Oper), ops[j]? = some oj → oj.dst = some t → (j < i → ∃ e ∈ o.after.toList, Region.binds .any e = true ∧ e.on = j) ∧ (i < j → ∃ e ∈ oj.after.toList, Region.binds .any e = true ∧ e.on = i)
theorem ordered_ord {ops : Array Oper} {i : Nat} {o : Oper} {t : Nat} (h : ordered ops.toList i o t = true) : Ord ops i o t := by
  intro j oj hj hd
  have := allI_true h j oj (by simpa using hj)
  rw [Nat.zero_add] at this
  rw [hd] at this
  have h2 : bcase (Nat.beq t t) (bcase (Nat.blt j i) (afterA o j) (bcase (Nat.beq j i) true (afterA oj i))) true = true := this
  rw [bcase_beq, if_pos rfl, blt_eq] at h2
  constructor
  · intro hlt
    rw [decide_eq_true hlt] at h2
    exact afterL_true h2
  · intro hlt
    rw [decide_eq_false (by omega), bcase_false, bcase_beq, if_neg (by omega)] at h2
    exact afterL_true h2
structure StatOk (ops : Array Oper) : Prop where
  back : ∀ (i : Nat) (o : Oper), ops[i]? = some o → ∀ e ∈ o.after.toList, Region.binds .any e = true → e.on < i
  opd : ∀ (i : Nat) (o : Oper), ops[i]? = some o → ∀ t : Nat, Operand.tmp t ∈ o.op.operands.toList → Ord ops i o t
  grd : ∀ (i : Nat) (o : Oper), ops[i]? = some o → ∀ (g : Nat) (want : Bool), o.guard = some (g, want) → ∃ (og : Oper) (d : Nat), ops[g]? = some og ∧ og.dst = some d ∧ Ord ops i o d
  dst : ∀ (i : Nat) (o : Oper), ops[i]? = some o → ∀ d : Nat, o.dst = some d → ∀ (j : Nat) (oj : Oper), ops[j]? = some oj → oj.dst = some d → j = i
theorem bcase3 {a b : Bool} (h : bcase a b true = true) : a = false ∨ b = true := by cases a <;> simp_all [bcase]
theorem statA_stat {ops : Array Oper} (h : statA ops.toList = true) : StatOk ops := by
  have key : ∀ (i : Nat) (o : Oper), ops[i]? = some o → _ := fun i o ho => by
    have := allI_true h i o (by simpa using ho)
    rw [Nat.zero_add] at this
    exact this
  refine ⟨fun i o ho e he hb => ?_, fun i o ho t ht => ?_, fun i o ho g want hg => ?_, fun i o ho d hd j oj hj hdj => ?_⟩
  · have h1 := allL_true (bcase_t (key i o ho)).1 e he
    rw [bindsA_eq, hb, bcase_true] at h1
    exact blt_true h1
  · have h1 := allL_true (bcase_t (bcase_t (key i o ho)).2).1 (.tmp t) ht
    exact ordered_ord h1
  · have h1 := (bcase_t (bcase_t (bcase_t (key i o ho)).2).2).1
    rw [hg] at h1
    dsimp only at h1
    rw [lget_eq] at h1
    cases ho2 : ops.toList[g]? with
    | none => rw [ho2] at h1; cases h1
    | some og =>
      rw [ho2] at h1
      dsimp only at h1
      cases hd : og.dst with
      | none => rw [hd] at h1; cases h1
      | some d => rw [hd] at h1; exact ⟨og, d, by simpa using ho2, hd, ordered_ord h1⟩
  · have h1 := (bcase_t (bcase_t (bcase_t (key i o ho)).2).2).2
    rw [hd] at h1
    have h2 := allI_true (show allI (fun j oj => Option.rec true (fun d' => bcase (Nat.beq d' d) (Nat.beq j i) true) oj.dst) ops.toList 0 = true from h1) j oj (by simpa using hj)
    rw [Nat.zero_add, hdj] at h2
    have h3 : bcase (Nat.beq d d) (Nat.beq j i) true = true := h2
    rw [bcase_beq, if_pos rfl] at h3
    exact Nat.eq_of_beq_eq_true h3

section
variable {C : Cfg} {rom : Rom} {n : Nat} {ops : Array Oper} {tr : List Ent} {ts0 ts' : T AV} {pd' : List Pend} {q0 q' : Nat}
/-- What the slots ahead of the i-th hold. -/
theorem ts_char (hS : StatOk ops) (hT : TrRel C rom η n ops.toList 0 ops.toList tr ts0 σ0 [] q0 ts' σ' pd' q') : ∀ i, i ≤ ops.size →
    (∀ (j : Nat) (oj : Oper) (e : Ent) (t : Nat), j < i → ops[j]? = some oj → tr[j]? = some e → oj.dst = some t → oget ((tsAt tr ts' i).get t) undefA = e.v) ∧
    (∀ t : Nat, (∀ (j : Nat) (oj : Oper), j < i → ops[j]? = some oj → oj.dst ≠ some t) → oget ((tsAt tr ts' i).get t) undefA = oget (ts0.get t) undefA)
  | 0, _ => ⟨fun j oj e t h => by omega, fun t _ => by rw [(tr_zero hT).1]⟩
  | i + 1, hi => by
    obtain ⟨ih1, ih2⟩ := ts_char hS hT i (by omega)
    obtain ⟨o, ho⟩ : ∃ o, ops[i]? = some o := ⟨ops[i], by simp [hi]⟩
    obtain ⟨e, he, hp, _⟩ := tr_at hT (i := i) (o := o) (by simpa using ho)
    cases hd : o.dst with
    | none =>
      rw [hd] at hp
      have hp' : tsAt tr ts' (i + 1) = tsAt tr ts' i := hp
      rw [hp']
      refine ⟨fun j oj ej t hj hoj hej hdt => ?_, fun t ht => ih2 t (fun j oj hj => ht j oj (by omega))⟩
      by_cases hji : j = i
      · subst hji; rw [ho] at hoj; cases hoj; rw [hd] at hdt; cases hdt
      · exact ih1 j oj ej t (by omega) hoj hej hdt
    | some d =>
      rw [hd] at hp
      obtain ⟨_, hp'⟩ : d < n ∧ tsAt tr ts' (i + 1) = T.set (some e.v) (tsAt tr ts' i) d := hp
      rw [hp']
      refine ⟨fun j oj ej t hj hoj hej hdt => ?_, fun t ht => ?_⟩
      · rw [T.get_set]
        by_cases hji : j = i
        · subst hji; rw [ho] at hoj; cases hoj; rw [hd] at hdt; cases hdt; rw [he] at hej; cases hej; rw [if_pos rfl]; rfl
        · have : t ≠ d := fun e => hji (hS.dst i o ho d hd j oj hoj (e ▸ hdt))
          rw [if_neg this]; exact ih1 j oj ej t (by omega) hoj hej hdt
      · rw [T.get_set, if_neg (show ¬ t = d from fun e => ht i o (by omega) ho (by rw [hd, e]))]
        exact ih2 t (fun j oj hj => ht j oj (by omega))
theorem st_const (hT : TrRel C rom η n ops.toList 0 ops.toList tr ts0 σ0 [] q0 ts' σ' pd' q') : ∀ b a, a ≤ b → b ≤ ops.size → (∀ (j : Nat) (e : Ent), a ≤ j → j < b → tr[j]? = some e → e.kd ≠ 2) → stAt tr σ' a = stAt tr σ' b
  | 0, a, h, _, _ => by rw [Nat.le_zero.1 h]
  | b + 1, a, h, hb, hk => by
    by_cases e : a = b + 1
    · rw [e]
    · obtain ⟨o, ho⟩ : ∃ o, ops[b]? = some o := ⟨ops[b], by simp [hb]⟩
      obtain ⟨e, he, _, hok⟩ := tr_at hT (i := b) (o := o) (by simpa using ho)
      have hs : stAt tr σ' b = e.σ := by simp [stAt, he]
      rw [st_const hT b a (by omega) (by omega) (fun j e hj hj2 => hk j e hj (by omega)), hs]
      rcases hok with ⟨_, _, _, h, _⟩ | ⟨_, ⟨_, _, h, _⟩ | ⟨_, _, h, _⟩ | ⟨h, _⟩ | ⟨_, _, _, h, _⟩⟩
      · exact h.symm
      · exact h.symm
      · exact h.symm
      · exact absurd h (hk b e (by omega) (by omega) he)
      · exact h.symm
/-- The i-th's object was taken in ahead of the p-th. -/
def InsP (ops : Array Oper) (tr : List Ent) (p i : Nat) : Prop := ∃ (j : Nat) (e : Ent) (o : Oper), j < p ∧ tr[j]? = some e ∧ e.kd = 2 ∧ ops[j]? = some o ∧ afterA o i = true
def New (tr : List Ent) (x : Pend) : Prop := ∃ e, tr[x.i]? = some e ∧ e.kd = 3 ∧ e.nw = x
theorem new_at (hT : TrRel C rom η n ops.toList 0 ops.toList tr ts0 σ0 [] q0 ts' σ' pd' q') {i : Nat} {e : Ent} (he : tr[i]? = some e) (hk : e.kd = 3) :
    ∃ t x o, ops[i]? = some o ∧ o.op = .alloc t ∧ LazyOk C.P t x ∧ e.nw = ⟨i, e.q, x⟩ ∧ e.v = .ptr e.q 0 ∧ qAt tr q' (i + 1) = e.q + 1 ∧ qAt tr q' i = e.q ∧ pdAt tr pd' (i + 1) = e.nw :: pdAt tr pd' i ∧ guardA ops.toList e.ts o = some true := by
  have hil : i < ops.size := by have := (List.getElem?_eq_some_iff.1 he).1; have := tr_len hT; simp at this; omega
  obtain ⟨e', he', _, hok⟩ := tr_at hT (i := i) (o := ops[i]) (by simp [hil])
  have : e' = e := by rw [he] at he'; cases he'; rfl
  subst this
  rw [Nat.zero_add] at hok
  rcases hok with ⟨_, h, _⟩ | ⟨hg, ⟨_, h, _⟩ | ⟨_, h, _⟩ | ⟨h, _⟩ | ⟨_, ⟨t, x, h1, h2, h3⟩, h4, h5, h6, h7⟩⟩
  · omega
  · omega
  · omega
  · omega
  · exact ⟨t, x, ops[i], by simp [hil], h1, h2, h3, h4, h7, by simp [qAt, he], by rw [h6]; simp [pdAt, he], hg⟩
theorem q_step (hT : TrRel C rom η n ops.toList 0 ops.toList tr ts0 σ0 [] q0 ts' σ' pd' q') {i : Nat} (hi : i < ops.size) : qAt tr q' i ≤ qAt tr q' (i + 1) := by
  obtain ⟨e, he, _, hok⟩ := tr_at hT (i := i) (o := ops[i]) (by simp [hi])
  have hq : qAt tr q' i = e.q := by simp [qAt, he]
  rcases hok with ⟨_, _, _, _, _, h⟩ | ⟨_, ⟨_, _, _, _, h⟩ | ⟨_, _, _, _, h⟩ | ⟨_, _, h, _⟩ | ⟨_, _, _, _, _, h⟩⟩ <;> omega
theorem q_mono (hT : TrRel C rom η n ops.toList 0 ops.toList tr ts0 σ0 [] q0 ts' σ' pd' q') : ∀ j i, i ≤ j → j ≤ ops.size → qAt tr q' i ≤ qAt tr q' j
  | 0, i, h, _ => by rw [Nat.le_zero.1 h]; exact Nat.le_refl _
  | j + 1, i, h, hj => by
    by_cases e : i = j + 1
    · rw [e]; exact Nat.le_refl _
    · exact Nat.le_trans (q_mono hT j i (by omega) (by omega)) (q_step hT (by omega))
theorem q_end (hT : TrRel C rom η n ops.toList 0 ops.toList tr ts0 σ0 [] q0 ts' σ' pd' q') : qAt tr q' ops.size = q' := by
  have : tr[ops.size]? = none := List.getElem?_eq_none (by have := tr_len hT; simp at this; omega)
  simp [qAt, this]
/-- The numbers of what is laid down late. -/
theorem new_num (hT : TrRel C rom η n ops.toList 0 ops.toList tr ts0 σ0 [] q0 ts' σ' pd' q') {i : Nat} {e : Ent} (he : tr[i]? = some e) (hk : e.kd = 3) : e.nw.o = e.q ∧ q0 ≤ e.q ∧ e.q < q' := by
  obtain ⟨t, x, o, ho, _, _, h3, _, h5, h6, _⟩ := new_at hT he hk
  have hil : i < ops.size := (Array.getElem?_eq_some_iff.1 ho).1
  have h1 := q_mono hT i 0 (by omega) (by omega)
  have h2 := q_mono hT ops.size (i + 1) (by omega) (Nat.le_refl _)
  rw [q_end hT] at h2
  rw [(tr_zero hT).2.2.2] at h1
  exact ⟨by rw [h3], by omega, by omega⟩
theorem new_ne (hT : TrRel C rom η n ops.toList 0 ops.toList tr ts0 σ0 [] q0 ts' σ' pd' q') {i j : Nat} {e e2 : Ent} (he : tr[i]? = some e) (hk : e.kd = 3) (he2 : tr[j]? = some e2) (hk2 : e2.kd = 3) (h : e.nw.o = e2.nw.o) : i = j := by
  have key : ∀ {i j : Nat} {e e2 : Ent}, tr[i]? = some e → e.kd = 3 → tr[j]? = some e2 → e2.kd = 3 → e.nw.o = e2.nw.o → ¬ i < j := by
    intro i j e e2 he hk he2 hk2 h hlt
    obtain ⟨_, _, o, ho, _, _, h3, _, h5, h6, _⟩ := new_at hT he hk
    obtain ⟨_, _, o2, ho2, _, _, g3, _, g5, g6, _⟩ := new_at hT he2 hk2
    have hjl : j < ops.size := (Array.getElem?_eq_some_iff.1 ho2).1
    have := q_mono hT j (i + 1) (by omega) (by omega)
    rw [h3, g3] at h
    have h' : e.q = e2.q := h
    omega
  have h1 := key he hk he2 hk2 h
  have h2 := key he2 hk2 he hk h.symm
  omega
/-- What is to be taken in ahead of the j-th. -/
theorem pd_char (hS : StatOk ops) (hT : TrRel C rom η n ops.toList 0 ops.toList tr ts0 σ0 [] q0 ts' σ' pd' q') : ∀ j, j ≤ ops.size →
    (∀ x, x ∈ pdAt tr pd' j → x.i < j ∧ New tr x ∧ ¬ InsP ops tr j x.i) ∧ (pdAt tr pd' j).Pairwise (fun a b => a.i ≠ b.i)
  | 0, _ => by rw [(tr_zero hT).2.2.1]; exact ⟨fun x hx => (by cases hx), List.Pairwise.nil⟩
  | j + 1, hj => by
    obtain ⟨ih1, ih2⟩ := pd_char hS hT j (by omega)
    obtain ⟨e, he, _, hok⟩ := tr_at hT (i := j) (o := ops[j]) (by simp [show j < ops.size by omega])
    have hpd : pdAt tr pd' j = e.pd := by simp [pdAt, he]
    have same : e.kd ≠ 2 → ∀ i, InsP ops tr (j + 1) i → InsP ops tr j i := by
      rintro hk i ⟨j2, e2, o2, h1, h2, h3, h4, h5⟩
      by_cases e' : j2 = j
      · subst e'; rw [he] at h2; cases h2; exact absurd h3 hk
      · exact ⟨j2, e2, o2, by omega, h2, h3, h4, h5⟩
    have keep : e.kd ≠ 2 → pdAt tr pd' (j + 1) = e.pd → (∀ x, x ∈ pdAt tr pd' (j + 1) → x.i < j + 1 ∧ New tr x ∧ ¬ InsP ops tr (j + 1) x.i) ∧ (pdAt tr pd' (j + 1)).Pairwise (fun a b => a.i ≠ b.i) := by
      intro hk hp
      rw [hp, ← hpd]
      exact ⟨fun x hx => let ⟨h1, h2, h3⟩ := ih1 x hx; ⟨by omega, h2, fun h => h3 (same hk _ h)⟩, ih2⟩
    rcases hok with ⟨_, hk, _, _, hp, _⟩ | ⟨_, ⟨_, hk, _, hp, _⟩ | ⟨_, hk, _, hp, _⟩ | ⟨hk, hp, _, _⟩ | ⟨hk, _, _, _, hp, _⟩⟩
    · exact keep (by omega) hp
    · exact keep (by omega) hp
    · exact keep (by omega) hp
    · rw [hp, ← hpd]
      refine ⟨fun x hx => ?_, ih2.filter _⟩
      obtain ⟨hx1, hx2⟩ := List.mem_filter.1 hx
      obtain ⟨h1, h2, h3⟩ := ih1 x hx1
      refine ⟨by omega, h2, ?_⟩
      rintro ⟨j2, e2, o2, g1, g2, g3, g4, g5⟩
      by_cases e' : j2 = j
      · subst e'
        have : o2 = ops[j2] := by rw [Array.getElem?_eq_getElem (by omega)] at g4; exact (Option.some.inj g4).symm
        subst this
        rw [g5] at hx2; cases hx2
      · exact h3 ⟨j2, e2, o2, by omega, g2, g3, g4, g5⟩
    · rw [hp, ← hpd]
      obtain ⟨_, _, _, _, _, _, hn, _⟩ := new_at hT he hk
      have hni : e.nw.i = j := by rw [hn]
      refine ⟨fun x hx => ?_, List.Pairwise.cons (fun b hb => ?_) ih2⟩
      · rcases List.mem_cons.1 hx with rfl | hx
        · refine ⟨by omega, ⟨e, by rw [hni]; exact he, hk, rfl⟩, fun h => ?_⟩
          obtain ⟨j2, e2, o2, g1, g2, g3, g4, g5⟩ := same (by omega) _ h
          rw [hni] at g5
          obtain ⟨x, hx, hb, hxe⟩ := afterL_true g5
          have := hS.back j2 o2 g4 x hx hb
          omega
        · obtain ⟨h1, h2, h3⟩ := ih1 x hx
          exact ⟨by omega, h2, fun h => h3 (same (by omega) _ h)⟩
      · have := (ih1 b hb).1; omega
structure Dyn (C : Cfg) (rom : Rom) (ops : Array Oper) (tr : List Ent) (σ0 σ' : H) : Prop where
  eff : ∀ (j : Nat) (e : Ent) (j' : Nat) (e' : Ent) (o' : Oper), tr[j]? = some e → e.kd = 2 → tr[j']? = some e' → e'.kd = 2 → j < j' → ops[j']? = some o' → reachA ops.toList 12 j o' = true
  read : ∀ (i : Nat) (e : Ent) (o : Oper), tr[i]? = some e → e.kd = 1 → ops[i]? = some o → (∃ (j : Nat) (ej : Ent), tr[j]? = some ej ∧ ej.kd = 2) → ∀ p : Nat, (p = 0 ∨ ∃ (j : Nat) (ej : Ent), tr[j]? = some ej ∧ ej.kd = 2 ∧ p = j + 1) →
    (∀ (j : Nat) (ej : Ent) (oj : Oper), tr[j]? = some ej → ej.kd = 2 → ops[j]? = some oj → (j < p → afterA oj i = false) ∧ (p ≤ j → afterA o j = false)) → aread C rom e.ts (if p = 0 then σ0 else stAt tr σ' p) o.op = some e.v
theorem chkTr_dyn (hlen : tr.length = ops.size) (h : chkTr C rom ops.toList tr σ0 σ' = true) : Dyn C rom ops tr σ0 σ' := by
  have hne : (∃ (j : Nat) (ej : Ent), tr[j]? = some ej ∧ ej.kd = 2) → _ := fun hex => by
    have h' := h
    unfold chkTr at h'
    dsimp only at h'
    cases he : effL σ' tr 0 with
    | nil =>
      exfalso
      obtain ⟨j, ej, h1, h2⟩ := hex
      have := effL_mem (σend := σ') (i := 0) h1 h2
      rw [he] at this; cases this
    | cons q l =>
      rw [he] at h'
      dsimp only at h'
      rw [← he] at h'
      exact bcase_t h'
  constructor
  · intro j e j' e' o' h1 h2 h3 h4 hlt ho
    have hb := (hne ⟨j, e, h1, h2⟩).1
    have m1 := effL_mem (σend := σ') (i := 0) h1 h2
    have m2 := effL_mem (σend := σ') (i := 0) h3 h4
    rw [Nat.zero_add] at m1 m2
    obtain ⟨x1, hx1⟩ := List.mem_iff_getElem?.1 m1
    obtain ⟨x2, hx2⟩ := List.mem_iff_getElem?.1 m2
    have g1 := allI_true hb x1 _ hx1
    dsimp only at g1
    have g2 := allI_true g1 x2 _ hx2
    dsimp only at g2
    rw [blt_eq, decide_eq_true hlt, bcase_true] at g2
    unfold getO at g2
    rw [lget_eq, show ops.toList[j']? = some o' by simpa using ho] at g2
    exact g2
  · intro i e o h1 h2 ho hex p hp hall
    have hb := (hne hex).2
    have g1 := allI_true hb i e h1
    rw [Nat.zero_add, bcase_beq, if_pos h2] at g1
    unfold getO at g1
    rw [lget_eq, show ops.toList[i]? = some o by simpa using ho] at g1
    have g2 : allL (fun q => Prod.rec (fun p σp => bcase (mayAt ops.toList (effL σ' tr 0) i o p) (Option.rec false (fun v => sameA v e.v) (aread C rom e.ts σp o.op)) true) q) ((0, σ0) :: ((effL σ' tr 0).map fun q => (Nat.succ q.1, q.2))) = true := g1
    have hmay : mayAt ops.toList (effL σ' tr 0) i o p = true := by
      refine allL_of fun q hq => ?_
      obtain ⟨j, ej, h3, h4, rfl⟩ := effL_inv hq
      rw [Nat.zero_add]
      dsimp only
      have hj : j < ops.size := by have := (List.getElem?_eq_some_iff.1 h3).1; omega
      have hoj : ops[j]? = some ops[j] := by simp [hj]
      obtain ⟨q1, q2⟩ := hall j ej _ h3 h4 hoj
      rw [blt_eq]
      by_cases hlt : j < p
      · rw [decide_eq_true hlt, bcase_true]
        unfold getO
        rw [lget_eq, show ops.toList[j]? = some ops[j] by simp [hj]]
        show bnot (afterA ops[j] i) = true
        rw [q1 hlt]; rfl
      · rw [decide_eq_false hlt, bcase_false, q2 (by omega)]; rfl
    have fin : ∀ σp, (p, σp) ∈ ((0, σ0) :: ((effL σ' tr 0).map fun q => (Nat.succ q.1, q.2))) → aread C rom e.ts σp o.op = some e.v := by
      intro σp hm
      have g3 := allL_true g2 _ hm
      dsimp only at g3
      rw [hmay, bcase_true] at g3
      cases hr : aread C rom e.ts σp o.op with
      | none => rw [hr] at g3; cases g3
      | some v => rw [hr] at g3; rw [sameA_eq (show sameA v e.v = true from g3)]
    rcases hp with rfl | ⟨j, ej, h3, h4, rfl⟩
    · rw [if_pos rfl]; exact fin σ0 List.mem_cons_self
    · rw [if_neg (by omega)]
      refine fin _ (List.mem_cons_of_mem _ ?_)
      have := effL_mem (σend := σ') (i := 0) h3 h4
      rw [Nat.zero_add] at this
      exact List.mem_map.2 ⟨_, this, rfl⟩
end
end Go.Proofs.YtcjlhjoobchabaaGreatDoor
